/- DigestNil: the walk. -/
import Derived.Test.YtehmnkkfoopanaaShown
namespace Go.Proofs.Ytehmnkkfoopanaa
open Go.RowKit

theorem run_eq24 (w : World) (d : List Int) (h : d.length = 32) : (binOp .eql 24 (.agg (cellsOf d)) (.agg (cellsOf d))).run Try.prog w = .ok (.bool true) w := by
  have := run_eql_ints w 24 5 32 .u8 Try.underlying24 Try.underlying5 (fun _ => by kernel_rfl) d d h h
  rw [beq_self_eq_true] at this
  exact this
theorem run_in24 (w : World) (d : List Int) (h : d.length = 32) : (Op.equalIn 10000 24 (.agg (cellsOf d)) (.agg (cellsOf d))).run Try.prog w = .ok true w := by
  have := run_equalIn_ints w 9998 24 5 32 .u8 Try.underlying24 Try.underlying5 (fun _ => by kernel_rfl) d d h h
  rw [beq_self_eq_true] at this
  exact this
theorem run_ne24 (w : World) (d : List Int) (h : d.length = 32) : (binOp .neq 24 (.agg (cellsOf d)) (.agg (cellsOf d))).run Try.prog w = .ok (.bool false) w := by
  have := run_neq_ints w 24 5 32 .u8 Try.underlying24 Try.underlying5 (fun _ => by kernel_rfl) d d h h
  rw [beq_self_eq_true] at this
  exact this

set_option maxRecDepth 20000 in
set_option maxHeartbeats 1600000 in
theorem Sum_nil (w : World) : Calls Try.prog 17 #[.pointer none] w fun e w' => e = .returned (.agg (cellsOf (digestF []))) ∧ Below w.heap.size w w' := by
  have HBW := Lib.hid (below_refl_grown (grown_alloc w (.cells (cellsOf (dS [] 0)) 24) none))
  have HRW := Lib.hid (heap_alloc_last w (.cells (cellsOf (dS [] 0)) 24))
  go_enter Try.func17, Try.ntmps17
  go_upto_region 1 with (fail)
  change Code.wp _ _ _ _ (w.alloc (.cells (cellsOf (dS [] 0)) 24))
  obtain ⟨w1, hw1⟩ : ∃ z, z = w.alloc (.cells (cellsOf (dS [] 0)) 24) := ⟨_, rfl⟩
  obtain ⟨g2, hg⟩ : ∃ z, z = w.heap.size := ⟨_, rfl⟩
  rw [← hw1] at HBW HRW ⊢
  rw [← hg] at HRW ⊢
  have HG2 := Lib.hid (show w.heap.size ≤ g2 by omega)
  clear hw1 hg
  go_wp2_with fail
  refine (New_st w1).mono ?_
  rintro e w2 ⟨g, rfl, hg, hge, hS⟩
  have HSM := Lib.hid (Sum_any g [] w2 hS)
  have HB2 := Lib.hid (below_refl_grown hg)
  clear hg hge hS
  go_wp2_with fail
  refine HSM.out.mono ?_
  rintro e w3 ⟨rfl, hb⟩
  have HIZ := Lib.hid (info24 (digestF []) (digestF_length _))
  have HZ8 := Lib.hid (show (cellsOf (dS [] 0)).size = (cellsOf (digestF [])).size by rw [cellsOf_size, cellsOf_size, digestF_length]; rfl)
  have hlt := row_lt HRW.out
  have hb2 := HB2.out
  have hrow2 := Lib.hid ((hb.block g2 (by have := hb2.size; omega)).trans ((hb2.block g2 hlt).trans HRW.out))
  have HBE := Lib.hid (HBW.out.trans ((hb2.trans (hb.mono hb2.size)).mono HBW.out.size))
  clear hb hb2 hlt HSM HB2
  go_wp2_with (with_reducible refine wpList_store_row rfl 24 _ _ rfl g2 (cellsOf (digestF [])) rfl rfl 24 (cellsOf (dS [] 0)) hrow2.out HIZ.out HZ8.out (cellsOf_one _) ?_)
  refine bodyPost_ret (results_cell rfl _ _ g2 24 (cellsOf (digestF [])) (0, 0) _ rfl (setRow_heap _ _ _ _ _ _ hrow2.out) Try.underlying24 rfl HIZ.out) rfl ?_
  exact ⟨rfl, HBE.out.grown (grown_setRow _ _ _) HBE.out.size (fun k hk => by injection hk with hk; rw [← hk]; exact HG2.out)⟩

set_option maxRecDepth 20000 in
set_option maxHeartbeats 1600000 in
theorem Nil_law (v : Value) (w : World) : Calls Try.prog 8 #[v] w fun e w' => e = .returned (.bool true) ∧ Below w.heap.size w w' := by
  have HEQ := Lib.hid (fun w => run_in24 w (digestF []) (digestF_length _))
  go_enter Try.func8, Try.ntmps8
  go_wp2_with fail
  refine (Write_nil v w).mono ?_
  rintro e w1 ⟨rfl, rfl⟩
  go_wp2_with fail
  refine (shown_any w).mono ?_
  rintro e w1 ⟨rfl, hb1⟩
  go_wp2_with fail
  refine (Sum_nil w1).mono ?_
  rintro e w2 ⟨rfl, hb2⟩
  go_wp2_with fail
  refine (DSum_nil w2).mono ?_
  rintro e w3 ⟨rfl, hb3⟩
  have HB := Lib.hid (hb1.trans ((hb2.trans (hb3.mono hb2.size)).mono hb1.size))
  clear hb1 hb2 hb3
  go_wp2_with (rw [HEQ.out]; simp only [Result.andThen_ok])
  refine (Len_nil w3).mono ?_
  rintro e w4 ⟨rfl, rfl⟩
  go_wp2_with fail
  go_ret
  exact ⟨rfl, HB.out⟩
end Go.Proofs.Ytehmnkkfoopanaa
