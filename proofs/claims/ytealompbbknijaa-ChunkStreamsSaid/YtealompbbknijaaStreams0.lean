/- chunk: ChunkStreams where the cutter is not right. -/
import Derived.Test.YtealompbbknijaaXor
import Derived.Test.YtealompbbknijaaLaws4a
import Derived.Deep.DeepCutAuto
namespace Go.Proofs.Ytealompbbknijaa
open Go.RowKit

theorem Streams_no (mn mx main back : Int) (h : ¬ RightI mn mx main back) (vs vc : Value) (w : World) :
    Calls Try.prog 7 #[.agg (cutC mn mx main back), vs, vc] w fun e w' => e = .returned (.bool true) ∧ Below w.heap.size w w' := by
  have HS24 := Lib.hid (show (Try.prog.info? 24).map (·.size) = some [Value.int .i64 mn, .int .i64 mx, .int .u32 main, .int .u32 back].length by kernel_rfl)
  have HR := Lib.hid (heap_alloc_last w (.cells #[Value.int .i64 mn, .int .i64 mx, .int .u32 main, .int .u32 back] 24))
  have HBW := Lib.hid ((Below.refl w.heap.size w).alloc (Nat.le_refl _) (.cells #[Value.int .i64 mn, .int .i64 mx, .int .u32 main, .int .u32 back] 24))
  have hlt : w.heap.size < (w.alloc (.cells #[Value.int .i64 mn, .int .i64 mx, .int .u32 main, .int .u32 back] 24)).heap.size := by simp
  have HRN := Lib.hid h
  unfold cutC
  clear h
  go_enter Try.func7, Try.ntmps7
  go_wp2_with fail
  generalize w.alloc (.cells #[Value.int .i64 mn, .int .i64 mx, .int .u32 main, .int .u32 back] 24) = W at *
  obtain ⟨K0, hK0⟩ : ∃ z, z = w.heap.size := ⟨_, rfl⟩
  rw [← hK0] at HR hlt ⊢
  have HK0 := Lib.hid hK0
  clear hK0
  have HQ := Lib.hid (show W.rangeAt K0 0 [Value.int .i64 mn, .int .i64 mx, .int .u32 main, .int .u32 back] from rangeAt_of_row HR.out 0 4)
  refine (shown_any _).mono ?_
  rintro e w1 ⟨rfl, hb1⟩
  have hr3 := (hb1.block K0 hlt).trans HR.out
  have d0 : w1.cell? ⟨K0, 0, none⟩ = some (.int .i64 mn) := by rw [cell_of_row _ _ _ _ _ _ hr3]; rfl
  have d1 : w1.cell? ⟨K0, 1, none⟩ = some (.int .i64 mx) := by rw [cell_of_row _ _ _ _ _ _ hr3]; rfl
  have d2 : w1.cell? ⟨K0, 2, none⟩ = some (.int .u32 main) := by rw [cell_of_row _ _ _ _ _ _ hr3]; rfl
  have d3 : w1.cell? ⟨K0, 3, none⟩ = some (.int .u32 back) := by rw [cell_of_row _ _ _ _ _ _ hr3]; rfl
  have HR3 := Lib.hid hr3
  have HB1 := Lib.hid (HBW.out.trans (hb1.mono HBW.out.size))
  clear hb1 hr3
  go_wp2_with fail
  refine (New_no mn mx main back _ HRN.out).mono ?_
  rintro e y2 ⟨rfl, hy2⟩
  have hr5 := (hy2.block K0 (row_lt HR3.out)).trans HR3.out
  have g0 : y2.cell? ⟨K0, 0, none⟩ = some (.int .i64 mn) := by rw [cell_of_row _ _ _ _ _ _ hr5]; rfl
  have g1 : y2.cell? ⟨K0, 1, none⟩ = some (.int .i64 mx) := by rw [cell_of_row _ _ _ _ _ _ hr5]; rfl
  have g2 : y2.cell? ⟨K0, 2, none⟩ = some (.int .u32 main) := by rw [cell_of_row _ _ _ _ _ _ hr5]; rfl
  have g3 : y2.cell? ⟨K0, 3, none⟩ = some (.int .u32 back) := by rw [cell_of_row _ _ _ _ _ _ hr5]; rfl
  have HY2 := Lib.hid (HB1.out.trans (hy2.mono HB1.out.size))
  clear hy2 hr5 d0 d1 d2 d3
  go_wp2_with fail
  refine (rRight_no mn mx main back _ HRN.out).mono ?_
  rintro e y3 ⟨rfl, hg3⟩
  have HG3 := Lib.hid hg3
  clear hg3
  go_wp2_with fail
  go_ret
  exact ⟨rfl, HY2.out.trans ((below_refl_grown HG3.out).mono HY2.out.size)⟩

end Go.Proofs.Ytealompbbknijaa
