/- space: TrailingZeros64, Take. -/
import Derived.Test.YtdnincnfamcchaaDoorTurn
namespace Go.Proofs.YtdnincnfamcchaaDoor
open Go.RowKit

/-- The library's table in its variable. -/
def Tb (w : World) : Prop := 0 < w.heap.size ∧ TabAt 0 Lib.deBruijn64tab w
theorem Tb.chg {R : Nat → Prop} {w w' : World} (h : Tb w) (hc : Chg R w w') (h0 : ¬ R 0) : Tb w' :=
  ⟨Nat.lt_of_lt_of_le h.1 hc.size, fun j hj => (hc.cell (p := ⟨0, j, none⟩) h.1 h0).trans (h.2 j hj)⟩
theorem Tb.below {w w' : World} (h : Tb w) (hb : Below w.heap.size w w') : Tb w' := h.chg (R := fun _ => False) (Chg.belowAt hb) (fun h => h)

set_option maxHeartbeats 1000000 in
theorem tz_core (x k idx : Nat) (w : World) (hx0 : ((x : Int) == 0) = false)
    (key : IntKind.u64.wrap (Go.bits BinOp.and IntKind.u64 (x : Int) (IntKind.u64.wrap (-(x : Int))) * 285870213051353865) / 288230376151711744 = (idx : Int))
    (hi : idx < 64) (hk : k < 64) (hcell : w.cell? ⟨0, idx, none⟩ = some (.int .u8 k)) :
    Calls Tryd.prog 28 #[.int .u64 x] w fun e w' => e = .returned (.int .i64 k) ∧ w = w' := by
  go_enter Tryd.func28, Tryd.ntmps28
  go_wp2_with (simp only [key])
  go_ret
  exact ⟨rfl, rfl⟩
theorem tz_zero (w : World) : Calls Tryd.prog 28 #[.int .u64 0] w fun e w' => e = .returned (.int .i64 64) ∧ w = w' := by
  go_enter Tryd.func28, Tryd.ntmps28
  go_wp2
  go_ret
  exact ⟨rfl, rfl⟩
theorem tz_any (x : Nat) (hx : x < 18446744073709551616) (w : World) (hT : Tb w) (z : Int) (hz : z = x) :
    Calls Tryd.prog 28 #[.int .u64 z] w fun e w' => e = .returned (.int .i64 (Lib.ctz 64 x)) ∧ w = w' := by
  subst hz
  by_cases hx0 : x = 0
  · subst hx0
    exact tz_zero w
  · obtain ⟨hlow, hk⟩ := Lib.lowest_bit 64 x hx0 hx
    obtain ⟨hi, htab⟩ := Lib.deBruijn64_at _ hk
    have hcell := hT.2 _ hi
    rw [htab] at hcell
    exact tz_core x _ _ w (by simp; omega) (tz64_key x _ hx hx0 hlow) hi hk hcell

theorem u64max : IntKind.u64.max = 18446744073709551615 := by decide
theorem comp_u64 (x : Nat) (hx : x < 18446744073709551616) : Go.bits BinOp.xor IntKind.u64 IntKind.u64.max (x : Int) = ((18446744073709551615 - x : Nat) : Int) := by
  rw [u64max]
  have := xor_u64 18446744073709551615 x (by omega) hx
  rw [show (18446744073709551615 : Nat) ^^^ x = 18446744073709551615 - x from by
    apply Nat.eq_of_testBit_eq
    intro k
    rw [comp_test x k hx, Nat.testBit_xor, show (18446744073709551615 : Nat) = 2 ^ 64 - 1 from rfl, Nat.testBit_two_pow_sub_one]
    by_cases hk : k < 64
    · simp [hk]
    · have : x.testBit k = false := Nat.testBit_lt_two_pow (Nat.lt_of_lt_of_le hx (show 18446744073709551616 ≤ 2 ^ k from Nat.pow_le_pow_right (n := 2) (i := 64) (by decide) (by omega)))
      simp [hk, this]] at this
  exact this
/-- The least place that is free, if there is one. -/
def Least (f : Nat → Bool) (n p : Nat) : Prop := p < n ∧ f p = false ∧ ∀ k, k < p → f k = true

/-- What Take does. -/
def Took (w : World) (g h n m : Nat) (f : Nat → Bool) (e : Ending) (w' : World) : Prop :=
  (∃ p, Least f n p ∧ e = .returned (.tuple #[.int .i64 p, .int .i64 0]) ∧ Chg (Two g h) w w' ∧ Sp w' g h n m (turnF f p)) ∨ ((∀ k, k < n → f k = true) ∧ e = .returned (.tuple #[.int .i64 0, .int .i64 5]) ∧ w = w')

section
variable {w : World} {g h n m : Nat} {f : Nat → Bool}
set_option maxRecDepth 20000 in
set_option maxHeartbeats 800000 in
theorem Take_any (V : Sp w g h n m f) (hT : Tb w) : Calls Tryd.prog 11 #[.pointer (some ⟨g, 0, none⟩)] w (Took w g h n m f) := by
  have HV := Lib.hid V
  have HT := Lib.hid hT
  obtain ⟨c0, c1, c2⟩ := V.cells
  have hl := V.lim
  clear V hT
  go_enter Tryd.func11, Tryd.ntmps11
  go_wp2_with fail
  go_loopg [13] m (fun kq v13 w' => ∃ i : Nat, v13 = .int .i64 (i : Int) ∧ i + kq = m ∧ Hid (∀ k, k < 64 * i → k < n → f k = true) ∧ w' = w)
  case atStart => exact ⟨0, rfl, by omega, Lib.hid (fun k h1 => absurd h1 (by omega)), rfl⟩
  case round =>
    obtain ⟨i, rfl, hi, HF, rfl⟩ := hrel
    by_cases hlt : i < m
    · have hw := HV.out.word i hlt
      have hwl := wordN_lt f i
      obtain ⟨j, hj, hj1, hj2, hj3⟩ := free_in f i
      have HZ := Lib.hid (tz_any (18446744073709551615 - wordN f i) (by omega) wr HT.out)
      rw [← hj] at HZ
      have HJ2 := Lib.hid hj2
      have HJ3 := Lib.hid hj3
      generalize wordN f i = x at *
      clear hj hj2 hj3
      have i1 : (i : Int) < (m : Int) := by omega
      have hsg : IntKind.u64.signed = false := rfl
      have HX := Lib.hid (comp_u64 x hwl)
      by_cases hA : j < 64 ∧ 64 * i + j < n
      · have hpf : f (64 * i + j) = false := HJ2.out hA.1
        have HTU := Lib.hid (turn_any HV.out (64 * i + j) hA.2 1 (by rw [hpf]; rfl) ((i : Int) * 64 + (j : Int)) (by omega))
        have HLE := Lib.hid (show Least f n (64 * i + j) from ⟨hA.2, hpf, fun k hk => by
          by_cases h1 : k < 64 * i
          · exact HF.out k h1 (by omega)
          · have := HJ3.out (k - 64 * i) (by omega)
            rwa [show 64 * i + (k - 64 * i) = k from by omega] at this⟩)
        obtain ⟨hA1, hA2⟩ := hA
        clear hpf
        by_cases hmn : n ≤ (i + 1) * 64
        all_goals
          go_wp2_with fail
          refine (HZ.out _ HX.out).mono ?_
          rintro e w' ⟨rfl, rfl⟩
          go_wp2_with fail
          refine HTU.out.mono ?_
          rintro e w2 ⟨rfl, hc, hs⟩
          have HC := Lib.hid hc
          have HS := Lib.hid hs
          clear hc hs
          go_wp2_with fail
          go_ret2
          exact Or.inl ⟨64 * i + j, HLE.out, by congr 3; simp; omega, HC.out, HS.out⟩
      · have HF2 : Hid (∀ k, k < 64 * (i + 1) → k < n → f k = true) := Lib.hid (fun k h1 h2 => by
          by_cases h3 : k < 64 * i
          · exact HF.out k h3 h2
          · have := HJ3.out (k - 64 * i) (by omega)
            rwa [show 64 * i + (k - 64 * i) = k from by omega] at this)
        by_cases hmn : n ≤ (i + 1) * 64
        all_goals
          go_wp2_with fail
          refine (HZ.out _ HX.out).mono ?_
          rintro e w' ⟨rfl, rfl⟩
          go_wp2_with fail
          go_roundg (m - (i + 1))
          case measure => omega
          case rel => exact ⟨i + 1, by go_num, by omega, HF2, rfl⟩
    · obtain rfl : i = m := by omega
      go_wp2
      go_ret2
      exact Or.inr ⟨fun k hk => HF.out k (by omega) hk, rfl, rfl⟩
end
end Go.Proofs.YtdnincnfamcchaaDoor
