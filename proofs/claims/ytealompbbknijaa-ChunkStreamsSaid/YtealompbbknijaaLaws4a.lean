/- chunk: the walk of ChunkPieces. -/
import Derived.Test.YtealompbbknijaaLaws3
import Derived.Test.YtealompbbknijaaPrel
namespace Go.Proofs.Ytealompbbknijaa
open Go.RowKit

theorem Rows.grown {P : Nat → Prop} {w w' : World} {A : Option Addr} {L : List (List Int)} {r : Option Nat} (h : Rows P w A L) (hg : w.grownBy w' r) (hA : ∀ ad, A = some ad → some ad.block ≠ r) (hP : ∀ k, P k → some k ≠ r) : Rows P w' A L := by
  obtain ⟨vals, hv, hc⟩ := h
  refine ⟨vals, hv.kept hg hP, fun j u hj => ?_⟩
  obtain ⟨ad, e, hcell⟩ := hc j u hj
  exact ⟨ad, e, (World.cell?_of_block (w := w) (by rw [add_block]; exact hg.block _ (cell_block hcell) (hA ad e))).trans hcell⟩

theorem Pieces_no (mn mx main back : Int) (h : ¬ RightI mn mx main back) (l : List Int) (n cap : Nat) (A : Option Addr) (vs : Value) (w : World) (hn : l.length = n) (hl : n ≤ 1000000000000000) (hnc : n ≤ cap) (hI : Ints .u8 w A l) :
    Calls Try.prog 4 #[.agg (cutC mn mx main back), .slice A n cap, vs] w fun e w' => e = .returned (.bool true) ∧ Below w.heap.size w w' := by
  have HS24 := Lib.hid (show (Try.prog.info? 24).map (·.size) = some [Value.int .i64 mn, .int .i64 mx, .int .u32 main, .int .u32 back].length by kernel_rfl)
  have HR := Lib.hid (heap_alloc_last w (.cells #[Value.int .i64 mn, .int .i64 mx, .int .u32 main, .int .u32 back] 24))
  have HBW := Lib.hid ((Below.refl w.heap.size w).alloc (Nat.le_refl _) (.cells #[Value.int .i64 mn, .int .i64 mx, .int .u32 main, .int .u32 back] 24))
  have hlt : w.heap.size < (w.alloc (.cells #[Value.int .i64 mn, .int .i64 mx, .int .u32 main, .int .u32 back] 24)).heap.size := by simp
  have HIW := Lib.hid (hI.grown (grown_alloc w (.cells #[Value.int .i64 mn, .int .i64 mx, .int .u32 main, .int .u32 back] 24) none) (fun _ _ _ h => by cases h))
  have HRN := Lib.hid h
  unfold cutC
  clear h hI
  go_enter Try.func4, Try.ntmps4
  go_wp2_with fail
  generalize w.alloc (.cells #[Value.int .i64 mn, .int .i64 mx, .int .u32 main, .int .u32 back] 24) = W at *
  obtain ⟨K0, hK0⟩ : ∃ z, z = w.heap.size := ⟨_, rfl⟩
  rw [← hK0] at HR hlt ⊢
  have HK0 := Lib.hid hK0
  clear hK0
  have HQ := Lib.hid (show W.rangeAt K0 0 [Value.int .i64 mn, .int .i64 mx, .int .u32 main, .int .u32 back] from rangeAt_of_row HR.out 0 4)
  refine (shown_any _).mono ?_
  rintro e w1 ⟨rfl, hb1⟩
  have hr3 := (hb1.block K0 hlt).trans HR.out
  have d0 : w1.cell? ⟨K0, 0, none⟩ = some (.int .i64 mn) := by rw [cell_of_row _ _ _ _ _ _ hr3]; rfl
  have d1 : w1.cell? ⟨K0, 1, none⟩ = some (.int .i64 mx) := by rw [cell_of_row _ _ _ _ _ _ hr3]; rfl
  have d2 : w1.cell? ⟨K0, 2, none⟩ = some (.int .u32 main) := by rw [cell_of_row _ _ _ _ _ _ hr3]; rfl
  have d3 : w1.cell? ⟨K0, 3, none⟩ = some (.int .u32 back) := by rw [cell_of_row _ _ _ _ _ _ hr3]; rfl
  have HR3 := Lib.hid hr3
  have HB1 := Lib.hid (HBW.out.trans (hb1.mono HBW.out.size))
  clear hb1 hr3
  by_cases h5 : n ≤ 5000
  all_goals
    go_wp2_with fail
    refine (All_no mn mx main back _ _ HRN.out).mono ?_
    rintro e y1 ⟨v, rfl, hy1, hnr⟩
    obtain ⟨A2, c2, rfl, -⟩ := hnr.rows
    have hr4 := (hy1.block K0 (row_lt HR3.out)).trans HR3.out
    have HR4 := Lib.hid hr4
    have e0 : y1.cell? ⟨K0, 0, none⟩ = some (.int .i64 mn) := by rw [cell_of_row _ _ _ _ _ _ hr4]; rfl
    have e1 : y1.cell? ⟨K0, 1, none⟩ = some (.int .i64 mx) := by rw [cell_of_row _ _ _ _ _ _ hr4]; rfl
    have e2 : y1.cell? ⟨K0, 2, none⟩ = some (.int .u32 main) := by rw [cell_of_row _ _ _ _ _ _ hr4]; rfl
    have e3 : y1.cell? ⟨K0, 3, none⟩ = some (.int .u32 back) := by rw [cell_of_row _ _ _ _ _ _ hr4]; rfl
    have HY1 := Lib.hid (HB1.out.trans (hy1.mono HB1.out.size))
    clear hy1 hnr hr4 d0 d1 d2 d3
    go_wp2_with fail
    refine (New_no mn mx main back _ HRN.out).mono ?_
    rintro e y2 ⟨rfl, hy2⟩
    have hr5 := (hy2.block K0 (row_lt HR4.out)).trans HR4.out
    have g0 : y2.cell? ⟨K0, 0, none⟩ = some (.int .i64 mn) := by rw [cell_of_row _ _ _ _ _ _ hr5]; rfl
    have g1 : y2.cell? ⟨K0, 1, none⟩ = some (.int .i64 mx) := by rw [cell_of_row _ _ _ _ _ _ hr5]; rfl
    have g2 : y2.cell? ⟨K0, 2, none⟩ = some (.int .u32 main) := by rw [cell_of_row _ _ _ _ _ _ hr5]; rfl
    have g3 : y2.cell? ⟨K0, 3, none⟩ = some (.int .u32 back) := by rw [cell_of_row _ _ _ _ _ _ hr5]; rfl
    have HY2 := Lib.hid (HY1.out.trans (hy2.mono HY1.out.size))
    clear hy2 hr5 e0 e1 e2 e3
    go_wp2_with fail
    refine (Right_no mn mx main back _ HRN.out).mono ?_
    rintro e y3 ⟨rfl, hg3⟩
    have HG3 := Lib.hid hg3
    clear hg3
    go_wp2_with fail
    go_ret
    exact ⟨rfl, HY2.out.trans ((below_refl_grown HG3.out).mono HY2.out.size)⟩


theorem wpList_app_w {P : Program} {t e : TypeId} {size bytes : Nat} (E : Elem P t e size bytes) {w : World} {ops : Array Oper} {rest : List Oper} {o : Oper} {a : Act} {Q : Exit → Act → World → Prop} (hw : Region.wanted o (yielded ops a.tmps) = true) (s x : Operand) (ho : o.op = .call { callee := .builtin .append, args := #[s, x], argTypes := #[t, t] })
    (base : Nat) (v : Value) (n : Nat) (xs : List Value) (hs : a.eval s = v) (hown : w.ownsRow base e size v n xs) (A : Option Addr) (m c : Nat) (news : List Value) (hx : a.eval x = .slice A m c) (hA : A = none → m = 0 ∧ c = 0) (hl : news.length = m * size)
    (hnews : ∀ j u, news[j]? = some u → ∃ ad, A = some ad ∧ w.cell? (ad.add j) = some u) (h1 : ∀ u ∈ news, u.oneCell' = true) (h63 : n + m ≤ maxLen) (hbytes : (n + m) * bytes ≤ 140737488355328) (hbase : base ≤ w.heap.size)
    (h : ∀ v' w', w'.ownsRow base e size v' (n + m) (xs ++ news) → w.grownBy w' v.ownBlock → (v'.ownBlock = v.ownBlock ∨ v'.ownBlock = some w.heap.size) → wpList P ops Q rest (a.put o.dst v') w') : wpList P ops Q (o :: rest) a w :=
  BigFrame.wpList_want hw fun _ hK => wp_app E s x ho base v n xs hs hown A m c news hx hA hl hnews h1 h63 hbytes hbase fun v' w' h2 h3 h4 => hK _ _ (h v' w' h2 h3 h4)


end Go.Proofs.Ytealompbbknijaa
