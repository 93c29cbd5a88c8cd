/- space: acts, done to a space and to the document's. -/
import Derived.Test.YtdnincnfamcchaaDoorShown
namespace Go.Proofs.YtdnincnfamcchaaDoor
open Go.RowKit

/-- The cells of an act: its kind, its place. -/
def actL (a : Nat × Int) : List Value := [.int .u8 a.1, .int .i64 a.2]
/-- The slice at A holds the acts l. -/
def Acts (w : World) (A : Option Addr) (l : List (Nat × Int)) : Prop :=
  ∀ i a, l[i]? = some a → a.1 < 256 ∧ ∃ b o, A = some ⟨b, o, none⟩ ∧ b < w.heap.size ∧ w.rangeAt b (o + i * 2) (actL a)
theorem Acts.below {w w' : World} {A : Option Addr} {l : List (Nat × Int)} (h : Acts w A l) (hb : Below w.heap.size w w') : Acts w' A l := by
  intro i a hi
  obtain ⟨h1, b, o, e, hlt, hk⟩ := h i a hi
  exact ⟨h1, b, o, e, Nat.lt_of_lt_of_le hlt hb.size, rangeAt_block hk (hb.block b hlt)⟩

theorem few_short (A : Option Addr) (n c : Nat) (w : World) (h : n ≤ 300) (hc : n ≤ c) : Calls Tryd.prog 20 #[.slice A n c] w fun e w' => e = .returned (.slice A n c) ∧ w = w' := by
  go_enter Tryd.func20, Tryd.ntmps20
  go_wp2_with fail
  go_ret
  exact ⟨rfl, rfl⟩
theorem few_long (A : Option Addr) (n c : Nat) (w : World) (h : 300 < n) (hc : n ≤ c) : Calls Tryd.prog 20 #[.slice A n c] w fun e w' => e = .returned (.slice A 300 c) ∧ w = w' := by
  go_enter Tryd.func20, Tryd.ntmps20
  go_wp2_with fail
  go_ret
  exact ⟨rfl, rfl⟩
theorem few_any (A : Option Addr) (n c : Nat) (w : World) (hc : n ≤ c) : Calls Tryd.prog 20 #[.slice A n c] w fun e w' => e = .returned (.slice A (min n 300) c) ∧ w = w' := by
  by_cases h : n ≤ 300
  · rw [Nat.min_eq_left h]; exact few_short A n c w h hc
  · rw [Nat.min_eq_right (by omega)]; exact few_long A n c w (by omega) hc

/-- What taking, holding, freeing answer, and which places are taken then. -/
def TakeR (n : Nat) (f : Nat → Bool) (x er : Int) (f' : Nat → Bool) : Prop :=
  (∃ p, Least f n p ∧ x = p ∧ er = 0 ∧ f' = turnF f p) ∨ ((∀ k, k < n → f k = true) ∧ x = 0 ∧ er = 5 ∧ f' = f)
def HoldR (n : Nat) (f : Nat → Bool) (z er : Int) (f' : Nat → Bool) : Prop :=
  ((z < 0 ∨ (n : Int) ≤ z) ∧ er = 1 ∧ f' = f) ∨ ∃ p : Nat, z = p ∧ p < n ∧ ((f p = true ∧ er = 3 ∧ f' = f) ∨ (f p = false ∧ er = 0 ∧ f' = turnF f p))
def FreeR (n : Nat) (f : Nat → Bool) (z er : Int) (f' : Nat → Bool) : Prop :=
  ((z < 0 ∨ (n : Int) ≤ z) ∧ er = 1 ∧ f' = f) ∨ ∃ p : Nat, z = p ∧ p < n ∧ ((f p = false ∧ er = 2 ∧ f' = f) ∨ (f p = true ∧ er = 0 ∧ f' = turnF f p))
def Does (n : Nat) (f : Nat → Bool) (kd : Nat) (z x er : Int) (f' : Nat → Bool) : Prop :=
  (kd % 3 = 0 ∧ TakeR n f x er f') ∨ (kd % 3 = 1 ∧ x = 0 ∧ HoldR n f z er f') ∨ (kd % 3 = 2 ∧ x = 0 ∧ FreeR n f z er f')
theorem TakeR.uniq {n : Nat} {f : Nat → Bool} {x er y e2 : Int} {f1 f2 : Nat → Bool} (h : TakeR n f x er f1) (k : TakeR n f y e2 f2) : x = y ∧ er = e2 ∧ f1 = f2 := by
  rcases h with ⟨p, hp, rfl, rfl, rfl⟩ | ⟨ha, rfl, rfl, rfl⟩ <;> rcases k with ⟨q, hq, rfl, rfl, rfl⟩ | ⟨hb, rfl, rfl, rfl⟩
  · obtain rfl := hp.uniq hq; exact ⟨rfl, rfl, rfl⟩
  · have := hb p hp.1; rw [hp.2.1] at this; cases this
  · have := ha q hq.1; rw [hq.2.1] at this; cases this
  · exact ⟨rfl, rfl, rfl⟩
theorem HoldR.uniq {n : Nat} {f : Nat → Bool} {z er e2 : Int} {f1 f2 : Nat → Bool} (h : HoldR n f z er f1) (k : HoldR n f z e2 f2) : er = e2 ∧ f1 = f2 := by
  rcases h with ⟨h0, rfl, rfl⟩ | ⟨p, rfl, hp, ⟨h1, rfl, rfl⟩ | ⟨h1, rfl, rfl⟩⟩ <;> rcases k with ⟨k0, rfl, rfl⟩ | ⟨q, hq, hq2, ⟨k1, rfl, rfl⟩ | ⟨k1, rfl, rfl⟩⟩
  · exact ⟨rfl, rfl⟩
  · omega
  · omega
  · omega
  · exact ⟨rfl, rfl⟩
  · obtain rfl : p = q := by omega
    rw [h1] at k1; cases k1
  · omega
  · obtain rfl : p = q := by omega
    rw [h1] at k1; cases k1
  · obtain rfl : p = q := by omega
    exact ⟨rfl, rfl⟩
theorem FreeR.uniq {n : Nat} {f : Nat → Bool} {z er e2 : Int} {f1 f2 : Nat → Bool} (h : FreeR n f z er f1) (k : FreeR n f z e2 f2) : er = e2 ∧ f1 = f2 := by
  rcases h with ⟨h0, rfl, rfl⟩ | ⟨p, rfl, hp, ⟨h1, rfl, rfl⟩ | ⟨h1, rfl, rfl⟩⟩ <;> rcases k with ⟨k0, rfl, rfl⟩ | ⟨q, hq, hq2, ⟨k1, rfl, rfl⟩ | ⟨k1, rfl, rfl⟩⟩
  · exact ⟨rfl, rfl⟩
  · omega
  · omega
  · omega
  · exact ⟨rfl, rfl⟩
  · obtain rfl : p = q := by omega
    rw [h1] at k1; cases k1
  · omega
  · obtain rfl : p = q := by omega
    rw [h1] at k1; cases k1
  · obtain rfl : p = q := by omega
    exact ⟨rfl, rfl⟩
theorem Does.uniq {n kd : Nat} {f : Nat → Bool} {z x er y e2 : Int} {f1 f2 : Nat → Bool} (h : Does n f kd z x er f1) (k : Does n f kd z y e2 f2) : x = y ∧ er = e2 ∧ f1 = f2 := by
  rcases h with ⟨h0, h⟩ | ⟨h0, rfl, h⟩ | ⟨h0, rfl, h⟩ <;> rcases k with ⟨k0, k⟩ | ⟨k0, rfl, k⟩ | ⟨k0, rfl, k⟩ <;> first | omega | exact h.uniq k | exact ⟨rfl, h.uniq k⟩

section
variable {w : World} {g h n m : Nat} {f : Nat → Bool}
theorem Take_all (V : Sp w g h n m f) (hT : Tb w) : Calls Tryd.prog 11 #[.pointer (some ⟨g, 0, none⟩)] w fun e w' => ∃ x er f', e = .returned (.tuple #[.int .i64 x, .int .i64 er]) ∧ TakeR n f x er f' ∧ Chg (Two g h) w w' ∧ Sp w' g h n m f' := by
  refine (Take_any V hT).mono ?_
  rintro e w1 (⟨p, hp, rfl, hc, hs⟩ | ⟨ha, rfl, rfl⟩)
  · exact ⟨_, _, _, rfl, Or.inl ⟨p, hp, rfl, rfl, rfl⟩, hc, hs⟩
  · exact ⟨_, _, _, rfl, Or.inr ⟨ha, rfl, rfl, rfl⟩, Chg.refl _ _, V⟩
theorem Hold_all (V : Sp w g h n m f) (z : Int) : Calls Tryd.prog 27 #[.pointer (some ⟨g, 0, none⟩), .int .i64 z] w fun e w' => ∃ er f', e = .returned (.int .i64 er) ∧ HoldR n f z er f' ∧ Chg (Two g h) w w' ∧ Sp w' g h n m f' := by
  by_cases hz : z < 0 ∨ (n : Int) ≤ z
  · refine (Hold_no V z hz).mono ?_
    rintro e w1 ⟨rfl, rfl⟩
    exact ⟨_, _, rfl, Or.inl ⟨hz, rfl, rfl⟩, Chg.refl _ _, V⟩
  · obtain ⟨p, rfl⟩ := Int.eq_ofNat_of_zero_le (show 0 ≤ z by omega)
    have hp : p < n := by omega
    cases hf : f p with
    | true =>
      refine (Hold_there V p hp hf).mono ?_
      rintro e w1 ⟨rfl, rfl⟩
      exact ⟨_, _, rfl, Or.inr ⟨p, rfl, hp, Or.inl ⟨hf, rfl, rfl⟩⟩, Chg.refl _ _, V⟩
    | false =>
      refine (Hold_yes V p hp hf).mono ?_
      rintro e w1 ⟨rfl, hc, hs⟩
      exact ⟨_, _, rfl, Or.inr ⟨p, rfl, hp, Or.inr ⟨hf, rfl, rfl⟩⟩, hc, hs⟩
theorem Free_all (V : Sp w g h n m f) (z : Int) : Calls Tryd.prog 14 #[.pointer (some ⟨g, 0, none⟩), .int .i64 z] w fun e w' => ∃ er f', e = .returned (.int .i64 er) ∧ FreeR n f z er f' ∧ Chg (Two g h) w w' ∧ Sp w' g h n m f' := by
  by_cases hz : z < 0 ∨ (n : Int) ≤ z
  · refine (Free_no V z hz).mono ?_
    rintro e w1 ⟨rfl, rfl⟩
    exact ⟨_, _, rfl, Or.inl ⟨hz, rfl, rfl⟩, Chg.refl _ _, V⟩
  · obtain ⟨p, rfl⟩ := Int.eq_ofNat_of_zero_le (show 0 ≤ z by omega)
    have hp : p < n := by omega
    cases hf : f p with
    | false =>
      refine (Free_free V p hp hf).mono ?_
      rintro e w1 ⟨rfl, rfl⟩
      exact ⟨_, _, rfl, Or.inr ⟨p, rfl, hp, Or.inl ⟨hf, rfl, rfl⟩⟩, Chg.refl _ _, V⟩
    | true =>
      refine (Free_yes V p hp hf).mono ?_
      rintro e w1 ⟨rfl, hc, hs⟩
      exact ⟨_, _, rfl, Or.inr ⟨p, rfl, hp, Or.inr ⟨hf, rfl, rfl⟩⟩, hc, hs⟩
theorem rTake_all (V : RS w g h n f) : Calls Tryd.prog 32 #[.pointer (some ⟨g, 0, none⟩)] w fun e w' => ∃ x er f', e = .returned (.tuple #[.int .i64 x, .int .i64 er]) ∧ TakeR n f x er f' ∧ Chg (Two g h) w w' ∧ RS w' g h n f' := by
  refine (rTake_any V).mono ?_
  rintro e w1 (⟨p, hp, rfl, hc, hs⟩ | ⟨ha, rfl, rfl⟩)
  · exact ⟨_, _, _, rfl, Or.inl ⟨p, hp, rfl, rfl, rfl⟩, hc, hs⟩
  · exact ⟨_, _, _, rfl, Or.inr ⟨ha, rfl, rfl, rfl⟩, Chg.refl _ _, V⟩
theorem rHold_all (V : RS w g h n f) (z : Int) : Calls Tryd.prog 33 #[.pointer (some ⟨g, 0, none⟩), .int .i64 z] w fun e w' => ∃ er f', e = .returned (.int .i64 er) ∧ HoldR n f z er f' ∧ Chg (Two g h) w w' ∧ RS w' g h n f' := by
  by_cases hz : z < 0 ∨ (n : Int) ≤ z
  · refine (rHold_no V z hz).mono ?_
    rintro e w1 ⟨rfl, rfl⟩
    exact ⟨_, _, rfl, Or.inl ⟨hz, rfl, rfl⟩, Chg.refl _ _, V⟩
  · obtain ⟨p, rfl⟩ := Int.eq_ofNat_of_zero_le (show 0 ≤ z by omega)
    have hp : p < n := by omega
    cases hf : f p with
    | true =>
      refine (rHold_there V p hp hf).mono ?_
      rintro e w1 ⟨rfl, rfl⟩
      exact ⟨_, _, rfl, Or.inr ⟨p, rfl, hp, Or.inl ⟨hf, rfl, rfl⟩⟩, Chg.refl _ _, V⟩
    | false =>
      refine (rHold_yes V p hp hf).mono ?_
      rintro e w1 ⟨rfl, hc, hs⟩
      exact ⟨_, _, rfl, Or.inr ⟨p, rfl, hp, Or.inr ⟨hf, rfl, rfl⟩⟩, hc, hs⟩
theorem rFree_all (V : RS w g h n f) (z : Int) : Calls Tryd.prog 34 #[.pointer (some ⟨g, 0, none⟩), .int .i64 z] w fun e w' => ∃ er f', e = .returned (.int .i64 er) ∧ FreeR n f z er f' ∧ Chg (Two g h) w w' ∧ RS w' g h n f' := by
  by_cases hz : z < 0 ∨ (n : Int) ≤ z
  · refine (rFree_no V z hz).mono ?_
    rintro e w1 ⟨rfl, rfl⟩
    exact ⟨_, _, rfl, Or.inl ⟨hz, rfl, rfl⟩, Chg.refl _ _, V⟩
  · obtain ⟨p, rfl⟩ := Int.eq_ofNat_of_zero_le (show 0 ≤ z by omega)
    have hp : p < n := by omega
    cases hf : f p with
    | false =>
      refine (rFree_free V p hp hf).mono ?_
      rintro e w1 ⟨rfl, rfl⟩
      exact ⟨_, _, rfl, Or.inr ⟨p, rfl, hp, Or.inl ⟨hf, rfl, rfl⟩⟩, Chg.refl _ _, V⟩
    | true =>
      refine (rFree_yes V p hp hf).mono ?_
      rintro e w1 ⟨rfl, hc, hs⟩
      exact ⟨_, _, rfl, Or.inr ⟨p, rfl, hp, Or.inr ⟨hf, rfl, rfl⟩⟩, hc, hs⟩

/-- What an act on a space does. -/
def DoesP (g h n m : Nat) (f : Nat → Bool) (kd : Nat) (z : Int) (w : World) (e : Ending) (w' : World) : Prop :=
  ∃ x er f', e = .returned (.tuple #[.int .i64 x, .int .i64 er]) ∧ Does n f kd z x er f' ∧ Chg (Two g h) w w' ∧ Sp w' g h n m f'
set_option maxHeartbeats 800000 in
theorem does_any (V : Sp w g h n m f) (hT : Tb w) (kd : Nat) (klt : kd < 256) (z : Int) :
    Calls Tryd.prog 22 #[.pointer (some ⟨g, 0, none⟩), .agg #[.int .u8 kd, .int .i64 z]] w (DoesP g h n m f kd z w) := by
  have hal := below_refl_grown (grown_alloc w (.cells #[.int .u8 kd, .int .i64 z] 46) none)
  have HC := Lib.hid (Chg.belowAt (R := Two g h) hal)
  have HV := Lib.hid (V.kept (R := fun _ => False) (Chg.belowAt hal) (fun h => h) (fun h => h))
  have HT := Lib.hid (hT.below hal)
  clear V hT hal
  obtain hk | hk | hk : kd % 3 = 0 ∨ kd % 3 = 1 ∨ kd % 3 = 2 := by omega
  · have hk1 : (kd : Int) % 3 = 0 := by omega
    go_enter Tryd.func22, Tryd.ntmps22
    go_wp2_with (go_at_call 11; refine (Take_all HV.out HT.out).mono ?_; rintro e w2 ⟨x, er, f', rfl, hR, hc, hs⟩)
    go_ret2
    exact ⟨x, er, f', rfl, Or.inl ⟨hk, hR⟩, HC.out.trans hc, hs⟩
  · have hk1 : (kd : Int) % 3 = 1 := by omega
    go_enter Tryd.func22, Tryd.ntmps22
    go_wp2_with (go_at_call 27; refine (Hold_all HV.out z).mono ?_; rintro e w2 ⟨er, f', rfl, hR, hc, hs⟩)
    go_ret2
    exact ⟨0, er, f', rfl, Or.inr (Or.inl ⟨hk, rfl, hR⟩), HC.out.trans hc, hs⟩
  · have hk1 : (kd : Int) % 3 = 2 := by omega
    go_enter Tryd.func22, Tryd.ntmps22
    go_wp2_with (go_at_call 14; refine (Free_all HV.out z).mono ?_; rintro e w2 ⟨er, f', rfl, hR, hc, hs⟩)
    go_ret2
    exact ⟨0, er, f', rfl, Or.inr (Or.inr ⟨hk, rfl, hR⟩), HC.out.trans hc, hs⟩
/-- What an act on the document's space does. -/
def ModelP (g h n : Nat) (f : Nat → Bool) (kd : Nat) (z : Int) (w : World) (e : Ending) (w' : World) : Prop :=
  ∃ x er f', e = .returned (.tuple #[.int .i64 x, .int .i64 er]) ∧ Does n f kd z x er f' ∧ Chg (Two g h) w w' ∧ RS w' g h n f'
set_option maxHeartbeats 800000 in
theorem model_any (V : RS w g h n f) (kd : Nat) (klt : kd < 256) (z : Int) :
    Calls Tryd.prog 24 #[.pointer (some ⟨g, 0, none⟩), .agg #[.int .u8 kd, .int .i64 z]] w (ModelP g h n f kd z w) := by
  have hal := below_refl_grown (grown_alloc w (.cells #[.int .u8 kd, .int .i64 z] 46) none)
  have HC := Lib.hid (Chg.belowAt (R := Two g h) hal)
  have HV := Lib.hid (V.kept (R := fun _ => False) (Chg.belowAt hal) (fun h => h) (fun h => h))
  clear V hal
  obtain hk | hk | hk : kd % 3 = 0 ∨ kd % 3 = 1 ∨ kd % 3 = 2 := by omega
  · have hk1 : (kd : Int) % 3 = 0 := by omega
    go_enter Tryd.func24, Tryd.ntmps24
    go_wp2_with (go_at_call 32; refine (rTake_all HV.out).mono ?_; rintro e w2 ⟨x, er, f', rfl, hR, hc, hs⟩)
    go_ret2
    exact ⟨x, er, f', rfl, Or.inl ⟨hk, hR⟩, HC.out.trans hc, hs⟩
  · have hk1 : (kd : Int) % 3 = 1 := by omega
    go_enter Tryd.func24, Tryd.ntmps24
    go_wp2_with (go_at_call 33; refine (rHold_all HV.out z).mono ?_; rintro e w2 ⟨er, f', rfl, hR, hc, hs⟩)
    go_ret2
    exact ⟨0, er, f', rfl, Or.inr (Or.inl ⟨hk, rfl, hR⟩), HC.out.trans hc, hs⟩
  · have hk1 : (kd : Int) % 3 = 2 := by omega
    go_enter Tryd.func24, Tryd.ntmps24
    go_wp2_with (go_at_call 34; refine (rFree_all HV.out z).mono ?_; rintro e w2 ⟨er, f', rfl, hR, hc, hs⟩)
    go_ret2
    exact ⟨0, er, f', rfl, Or.inr (Or.inr ⟨hk, rfl, hR⟩), HC.out.trans hc, hs⟩
end
end Go.Proofs.YtdnincnfamcchaaDoor
