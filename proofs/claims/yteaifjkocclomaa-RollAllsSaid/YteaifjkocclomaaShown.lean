/- The document's examples, at the head of each statement: true. -/
import Derived.Test.YteaifjkocclomaaNext
namespace Go.Proofs.Yteaifjkocclomaa
open Go.RowKit

theorem Of_val (r : Int) (A : Option Addr) (c n : Nat) (l : List Int) (w : World) (hn : l.length = n) (hr : Ints .u8 w A l) (hb : Bytes l) (hl : l.length ≤ 1000000000000000) (h : sumR l = r) :
    Calls Try.prog 9 #[.slice A n c] w fun e w' => e = .returned (.int .u32 r) ∧ w = w' := by
  subst h; subst hn; exact Of_any A c l w hr hb hl

/-- A new slice, of which the length counts. -/
def NewLen (n : Nat) (w : World) (e : Ending) (w' : World) : Prop := ∃ (A : Option Addr) (c : Nat), e = .returned (.slice A n c) ∧ Below w.heap.size w w'

theorem All_len (n m : Nat) (A : Option Addr) (c : Nat) (l : List Int) (w : World) (hm : l.length = m) (hn : m - 15 = n) (hr : Ints .u8 w A l) (hb : Bytes l) (hc : l.length ≤ c) (hl : l.length ≤ 1000000000) :
    Calls Try.prog 11 #[.slice A m c] w (NewLen n w) := by
  subst hm; subst hn
  refine (All_any A c l w hr hb hc hl).mono fun e w' h => ?_
  obtain ⟨A', c', he, _, _, _, hb⟩ := h
  exact ⟨A', c', by rw [he, allR_length], hb⟩

def zeros (n : Nat) : Array Value := ((List.replicate n (0 : Int)).map (Value.int .u8)).toArray
theorem zeros_bytes (n : Nat) : Bytes (List.replicate n 0) := by
  intro i
  rw [List.getD_eq_getElem?_getD, List.getElem?_replicate]
  split <;> simp

theorem shown_any (w : World) : Calls Try.prog 8 #[] w fun e w' => e = .returned (.bool true) ∧ Below w.heap.size w w' := by
  have hm15 : ∀ w, (Instr.makeSlice 22 (.int .i64 15) (.int .i64 15)).run Try.prog w = .ok (.slice (some ⟨w.heap.size, 0, none⟩) 15 15) (w.alloc (.cells (zeros 15) 5)) := fun _ => by kernel_rfl
  have hm17 : ∀ w, (Instr.makeSlice 22 (.int .i64 17) (.int .i64 17)).run Try.prog w = .ok (.slice (some ⟨w.heap.size, 0, none⟩) 17 17) (w.alloc (.cells (zeros 17) 5)) := fun _ => by kernel_rfl
  go_enter Try.func8, Try.ntmps8
  go_wp2_with fail
  refine (Of_val 0 none 0 0 [] _ rfl (fun i hi => absurd hi (by simp)) (zeros_bytes 0) (by simp) (by decide)).mono ?_
  rintro e w' ⟨rfl, rfl⟩
  go_wp2_with fail
  refine (Of_val 1 _ 1 1 [0] _ rfl (ints_at .u8 _ [0] 5 _ (by simp)) (zeros_bytes 1) (by simp) (by decide)).mono ?_
  rintro e w' ⟨rfl, rfl⟩
  go_wp2_with fail
  refine (Of_val 16777620 _ 2 2 [0, 0] _ rfl (ints_at .u8 _ [0, 0] 5 _ (by simp)) (zeros_bytes 2) (by simp) (by decide)).mono ?_
  rintro e w' ⟨rfl, rfl⟩
  go_wp2_with fail
  refine (All_len 0 15 _ 15 (List.replicate 15 0) _ rfl rfl (ints_at .u8 _ _ 5 _ (by simp)) (zeros_bytes 15) (by simp) (by simp)).mono ?_
  rintro e w1 ⟨A1, c1, rfl, hb1⟩
  go_wp2_with fail
  refine (All_len 2 17 _ 17 (List.replicate 17 0) _ rfl rfl (ints_at .u8 _ _ 5 _ (by simp)) (zeros_bytes 17) (by simp) (by simp)).mono ?_
  rintro e w2 ⟨A2, c2, rfl, hb2⟩
  go_wp2_with fail
  go_ret
  have s1 := hb1.size
  simp only [World.size_alloc] at s1
  exact ⟨rfl, ((((((Below.refl _ _).alloc (by simp) _).alloc (by simp) _).alloc (by simp; omega) _).trans (hb1.mono (by simp; omega))).alloc (by omega) _).trans (hb2.mono (by simp; omega))⟩

set_option maxHeartbeats 400000 in
theorem Sums_law (A : Option Addr) (c : Nat) (l : List Int) (w : World) (hr : Ints .u8 w A l) (hb : Bytes l) (hl : l.length ≤ 1000000000000000) :
    Calls Try.prog 3 #[.slice A l.length c] w fun e w' => e = .returned (.bool true) ∧ Below w.heap.size w w' := by
  have HR := Lib.hid hr
  have HB := Lib.hid hb
  clear hr hb
  go_enter Try.func3, Try.ntmps3
  go_wp2_with fail
  refine (shown_any _).mono ?_
  rintro e w1 ⟨rfl, hb1⟩
  go_wp2_with fail
  refine (Of_any A c l w1 (HR.out.below hb1) HB.out hl).mono ?_
  rintro e w' ⟨rfl, rfl⟩
  go_wp2_with fail
  refine (rOf_any A c l w1 (HR.out.below hb1) HB.out hl).mono ?_
  rintro e w' ⟨rfl, rfl⟩
  go_wp2_with fail
  go_ret
  exact ⟨rfl, hb1⟩

theorem Nexts_law (s o i : Int) (w : World) (ho0 : 0 ≤ o) (ho1 : o < 256) (hi0 : 0 ≤ i) (hi1 : i < 256) :
    Calls Try.prog 6 #[.int .u32 s, .int .u8 o, .int .u8 i] w fun e w' => e = .returned (.bool true) ∧ Below w.heap.size w w' := by
  go_enter Try.func6, Try.ntmps6
  go_wp2_with fail
  refine (shown_any _).mono ?_
  rintro e w1 ⟨rfl, hb1⟩
  go_wp2_with fail
  refine (Next_any s o i _ ho0 ho1 hi0 hi1).mono ?_
  rintro e w' ⟨rfl, rfl⟩
  go_wp2_with fail
  refine (rNext_any s o i _ ho0 ho1 hi0 hi1).mono ?_
  rintro e w' ⟨rfl, rfl⟩
  go_wp2_with fail
  go_ret
  exact ⟨rfl, hb1⟩

end Go.Proofs.Yteaifjkocclomaa
