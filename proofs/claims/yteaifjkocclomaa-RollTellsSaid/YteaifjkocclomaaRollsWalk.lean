/- RollRolls: the walk of the law. -/
import Derived.Test.YteaifjkocclomaaShown
namespace Go.Proofs.Yteaifjkocclomaa
open Go.RowKit

/-- The bytes as cells. -/
def cellsOf (l : List Int) : Array Value := (l.map (Value.int .u8)).toArray

theorem Of_q (r : Int) (A : Option Addr) (c n : Nat) (l : List Int) (w : World) (hn : l.length = n) (hr : Ints .u8 w A l) (hb : Bytes l) (hl : l.length ≤ 1000000000000000) (h : sumR l = r) :
    Calls Try.prog 9 #[.slice A n c] w fun e w' => e = .returned (.int .u32 r) ∧ w' = w :=
  (Of_val r A c n l w hn hr hb hl h).mono fun _ _ h => ⟨h.1, h.2.symm⟩

theorem sumR_last (a b : List Int) (h : 16 ≤ b.length) : sumR (a ++ b) = sumR b := by
  unfold sumR
  rw [List.length_append, List.drop_append, List.drop_eq_nil_of_le (by omega), List.nil_append, show a.length + b.length - 16 - a.length = b.length - 16 from by omega]

set_option maxHeartbeats 400000 in
theorem Rolls_law (l : List Int) (w : World) (hn : l.length = 17) (hb : Bytes l) :
    Calls Try.prog 7 #[.agg (cellsOf l)] w fun e w' => e = .returned (.bool true) ∧ Below w.heap.size w w' := by
  have HI0 : Ints .u8 (w.alloc (.cells (cellsOf l) 33)) (some ⟨w.heap.size, 0, none⟩) l := ints_at .u8 w l 33 _ rfl
  have HB0 : Below w.heap.size w (w.alloc (.cells (cellsOf l) 33)) := (Below.refl _ _).alloc (Nat.le_refl _) _
  have E1 : nextR (sumR (l.take 16)) (l.getD 0 0) (l.getD 16 0) = sumR (l.take (16 + 1)) := sumR_next l 16 (by omega) (by omega)
  rw [show l.take (16 + 1) = l from List.take_of_length_le (by omega)] at E1
  have E2 : sumR (l.drop 1) = sumR l := by
    rw [show sumR l = sumR (l.take 1 ++ l.drop 1) by rw [List.take_append_drop]]
    exact (sumR_last _ _ (by rw [List.length_drop]; omega)).symm
  have hC1 : ∀ w', Ints .u8 w' (some ⟨w.heap.size, 0, none⟩) l → Calls Try.prog 9 #[.slice (some ⟨w.heap.size, 0, none⟩) 16 17] w' fun e w'' => e = .returned (.int .u32 (sumR (l.take 16))) ∧ w'' = w' :=
    fun w' h => Of_q _ _ _ 16 (l.take 16) w' (by rw [List.length_take]; omega) (h.take 16) (hb.take 16) (by rw [List.length_take]; omega) rfl
  have hC2 : ∀ w', Ints .u8 w' (some ⟨w.heap.size, 0, none⟩) l → Calls Try.prog 9 #[.slice (some ⟨w.heap.size, 1, none⟩) 16 16] w' fun e w'' => e = .returned (.int .u32 (sumR l)) ∧ w'' = w' :=
    fun w' h => Of_q _ _ _ 16 (l.drop 1) w' (by rw [List.length_drop]; omega) (h.drop 1) (hb.drop 1) (by rw [List.length_drop]; omega) E2
  have hC3 : ∀ w', Ints .u8 w' (some ⟨w.heap.size, 0, none⟩) l → Calls Try.prog 9 #[.slice (some ⟨w.heap.size, 0, none⟩) 17 17] w' fun e w'' => e = .returned (.int .u32 (sumR l)) ∧ w'' = w' :=
    fun w' h => Of_q _ _ _ 17 l w' hn h hb (by omega) rfl
  have hb0 := hb 0
  have hb16 := hb 16
  have HC1 := Lib.hid hC1
  have HC2 := Lib.hid hC2
  have HC3 := Lib.hid hC3
  have HE := Lib.hid E1
  have HN := Lib.hid hn
  clear hC1 hC2 hC3 E1 E2 hb hn
  go_enter Try.func7, Try.ntmps7
  go_wp2_with fail
  generalize w.alloc (.cells (cellsOf l) 33) = W at *
  have HI := Lib.hid HI0
  clear HI0
  go_quiet ((go_at_call 9; first | (with_reducible exact Calls.quiet_of_same (HC1.out _ (Ints.drewN HI.out _))) | (with_reducible exact Calls.quiet_of_same (HC2.out _ (Ints.drewN HI.out _)))))
  go_wp2_with fail
  refine (shown_any _).mono ?_
  rintro e w1 ⟨rfl, hb1⟩
  have HI1 := Lib.hid ((HI.out.drewN nq).below hb1)
  obtain ⟨a0, e0, c0⟩ := HI1.out 0 (by rw [HN.out]; omega)
  obtain ⟨a1, e1, c1⟩ := HI1.out 16 (by rw [HN.out]; omega)
  cases e0
  cases e1
  have c0' : w1.cell? ⟨w.heap.size, 0, none⟩ = some (.int .u8 (l.getD 0 0)) := c0
  have c1' : w1.cell? ⟨w.heap.size, 16, none⟩ = some (.int .u8 (l.getD 16 0)) := c1
  clear c0 c1
  generalize l.getD 0 0 = x at *
  generalize l.getD 16 0 = y at *
  go_wp2_with fail
  refine (Next_any _ x y _ hb0.1 hb0.2 hb16.1 hb16.2).mono ?_
  rintro e w' ⟨rfl, rfl⟩
  rw [HE.out]
  go_wp2_with fail
  refine (HC3.out _ HI1.out).mono ?_
  rintro e w' ⟨rfl, rfl⟩
  go_wp2_with fail
  go_ret
  exact ⟨rfl, (below_drewN HB0 _).trans (hb1.mono (by have := HB0.size; simpa using this))⟩

end Go.Proofs.Yteaifjkocclomaa
