/- space: the walk of SpaceTakes. -/
import Derived.Test.YtdnincnfamcchaaDoorShown
namespace Go.Proofs.YtdnincnfamcchaaDoor
open Go.RowKit

/-- The first i places. -/
def upto (i : Nat) : Nat → Bool := fun p => decide (p < i)
theorem upto_zero : upto 0 = fun _ => false := by funext p; simp [upto]
theorem upto_turn (i : Nat) : turnF (upto i) i = upto (i + 1) := by
  funext p
  unfold turnF upto
  by_cases h : p = i
  · subst h; simp
  · have : decide (p < i) = decide (p < i + 1) := by rw [decide_eq_decide]; omega
    simp [h, this]
theorem upto_least (i n : Nat) (h : i < n) : Least (upto i) n i := ⟨h, by simp [upto], fun k hk => by simp [upto, hk]⟩
theorem upto_full (n : Nat) : (takenL (upto n) n).length = n := by
  rw [full_taken (upto n) n (fun k hk => by simp [upto, hk]), List.length_range]
theorem none_of (f : Nat → Bool) (n : Nat) (h : (takenL f n).length = 0) : ∀ p, p < n → f p = false := by
  intro p hp
  cases hf : f p with
  | false => rfl
  | true =>
    have : p ∈ takenL f n := (takenL_mem f n p).2 ⟨hp, hf⟩
    have := List.length_pos_of_mem this
    omega
theorem zero_of (f : Nat → Bool) (n : Nat) (h : ∀ p, p < n → f p = false) : (takenL f n).length = 0 := by
  rcases Nat.eq_zero_or_pos (takenL f n).length with e | e
  · exact e
  · obtain ⟨p, hp⟩ := List.exists_mem_of_length_pos e
    have := (takenL_mem f n p).1 hp
    rw [h p this.1] at this
    cases this.2
theorem round_all (f : Nat → Bool) (n k : Nat) (hk : k < n) (h : ∀ i, i < n → f ((k + i) % n) = false) : ∀ p, p < n → f p = false := by
  intro p hp
  by_cases e : k ≤ p
  · have := h (p - k) (by omega)
    rwa [show k + (p - k) = p from by omega, Nat.mod_eq_of_lt hp] at this
  · have := h (p + n - k) (by omega)
    rwa [show k + (p + n - k) = p + n from by omega, Nat.add_mod_right, Nat.mod_eq_of_lt hp] at this
theorem tmod_nat (a b : Nat) : ((a : Int)).tmod (b : Int) = ((a % b : Nat) : Int) := rfl

section
variable {w0 w w' : World} {g h n m : Nat} {f f' : Nat → Bool}
theorem Taken_st (V : St w0 w g h n m f) (c : Nat) (hc : (takenL f n).length = c) : Calls Tryd.prog 12 #[.pointer (some ⟨g, 0, none⟩)] w fun e w' => e = .returned (.int .i64 c) ∧ w = w' := by
  subst hc; exact Taken_any V.sp
theorem Has_st (V : St w0 w g h n m f) (p : Nat) (hp : p < n) (z : Int) (hz : z = p) (b : Bool) (hb : f p = b) : Calls Tryd.prog 13 #[.pointer (some ⟨g, 0, none⟩), .int .i64 z] w fun e w' => e = .returned (.bool b) ∧ w = w' := by
  subst hz; subst hb; exact Has_yes V.sp p hp
end

set_option maxRecDepth 20000 in
set_option maxHeartbeats 3200000 in
theorem Takes_law (x s : Int) (w : World) (hT : Tb w) (hx0 : 0 ≤ x) (hx1 : x ≤ 65535) (hs0 : 0 ≤ s) (hs1 : s ≤ 65535) : Calls Tryd.prog 3 #[.int .u16 x, .int .u16 s] w fun e w' => e = .returned (.bool true) ∧ Below w.heap.size w w' := by
  have HS := Lib.hid (shown_any w hT)
  have HT := Lib.hid hT
  obtain ⟨n, hn⟩ : ∃ n : Nat, x % 501 = (n : Int) := ⟨(x % 501).toNat, by omega⟩
  have hn5 : n ≤ 500 := by omega
  obtain ⟨st, rfl⟩ := Int.eq_ofNat_of_zero_le hs0
  obtain ⟨m, hm⟩ : ∃ m, m = (n + 63) / 64 := ⟨_, rfl⟩
  have HM := Lib.hid hm
  clear hm hT hs0
  go_enter Tryd.func3, Tryd.ntmps3
  go_wp2_with fail
  refine HS.out.mono ?_
  rintro e w1 ⟨rfl, hb1⟩
  have HN := Lib.hid (New_st (n := n) (m := m) hb1 (HT.out.below hb1) HT.out.1 n rfl (by omega) HM.out)
  clear hb1
  go_wp2_with fail
  refine HN.out.mono ?_
  rintro e w2 ⟨rfl, hV⟩
  obtain ⟨g, hg⟩ : ∃ z, z = w1.heap.size + 1 := ⟨_, rfl⟩
  obtain ⟨h, hh⟩ : ∃ z, z = w1.heap.size := ⟨_, rfl⟩
  rw [← hg] at hV ⊢
  rw [← hh] at hV
  have HV := Lib.hid hV
  clear hV hg hh hn hx0 hx1
  go_wp2_with fail
  go_loopg [31] 2 (fun kq v31 w' => ∃ i : Nat, v31 = .int .i64 (i : Int) ∧ i + kq = 2 ∧ St w w' g h n m (fun _ => false))
  case atStart => exact ⟨0, rfl, by omega, HV.out⟩
  case round =>
    obtain ⟨r, rfl, hr, hV⟩ := hrel
    have HV1 := Lib.hid hV
    clear hV
    by_cases hlt : r < 2
    · have r1 : (r : Int) < 2 := by omega
      go_wp2_with fail
      go_loopg [34] n (fun kq v34 w' => ∃ i : Nat, v34 = .int .i64 (i : Int) ∧ i + kq = n ∧ St w w' g h n m (upto i))
      case atStart => exact ⟨0, rfl, by omega, by rw [upto_zero]; exact HV1.out⟩
      case round =>
        obtain ⟨i, rfl, hi, hV⟩ := hrel
        have HV2 := Lib.hid hV
        clear hV
        by_cases hlt2 : i < n
        · have i1 : (i : Int) < (n : Int) := by omega
          have HTK := Lib.hid (Take_st HV2.out i (upto_least i n hlt2))
          rw [upto_turn] at HTK
          go_wp2_with fail
          refine HTK.out.mono ?_
          rintro e w3 ⟨rfl, hV⟩
          have HV3 := Lib.hid hV
          clear hV
          go_wp2_with fail
          go_roundg (n - (i + 1))
          case measure => omega
          case rel => exact ⟨i + 1, by go_num, by omega, HV3.out⟩
        · have hin : n = i := by omega
          subst hin
          go_wp2_with fail
          refine (Full_st HV2.out (fun k hk => by simp [upto, hk])).mono ?_
          rintro e w3 ⟨rfl, rfl⟩
          go_wp2_with fail
          refine (Taken_st HV2.out n (upto_full n)).mono ?_
          rintro e w3 ⟨rfl, rfl⟩
          go_wp2_with fail
          go_loopg [14, 70] n (fun kq v14 v70 w' => ∃ (q k : Nat) (f : Nat → Bool), v14 = .int .i64 (k : Int) ∧ v70 = .int .i64 (q : Int) ∧ q + kq = n ∧ k ≤ 65535 ∧ Hid ((takenL f n).length + q = n) ∧ St w w' g h n m f)
          case atStart => exact ⟨0, st, upto n, rfl, rfl, by omega, by omega, Lib.hid (upto_full n), HV2.out⟩
          case round =>
            obtain ⟨q, k, f, rfl, rfl, hq, hk, HC, hV⟩ := hrel
            have HV3 := Lib.hid hV
            clear hV
            by_cases hlt3 : q < n
            · have q1 : (q : Int) < (n : Int) := by omega
              have hn0 : ((n : Int) == 0) = false := by simp; omega
              have n0 : (0 : Int) < (n : Int) := by omega
              obtain ⟨k2, hk2⟩ : ∃ k2, k2 = (k + 1 + st % 7) % n := ⟨_, rfl⟩
              have hk3 : k2 < n := by rw [hk2]; exact Nat.mod_lt _ (by omega)
              have HK2 := Lib.hid (show ((k : Int) + 1 + (st : Int) % 7) % (n : Int) = (k2 : Int) by rw [hk2]; push_cast; rfl)
              clear hk2
              go_wp2_with fail
              rw [HK2.out]
              go_loopg [14, 15] n (fun kq v14 v15 w' => ∃ j : Nat, v14 = .int .i64 (((k2 + j) % n : Nat) : Int) ∧ v15 = .int .i64 (j : Int) ∧ j + kq = n ∧ Hid (∀ i, i < j → f ((k2 + i) % n) = false) ∧ St w w' g h n m f)
              case atStart => exact ⟨0, by rw [Nat.add_zero, Nat.mod_eq_of_lt hk3], rfl, by omega, Lib.hid (fun i h => absurd h (by omega)), HV3.out⟩
              case round =>
                obtain ⟨j, rfl, rfl, hj, HJ, hV⟩ := hrel
                have HV4 := Lib.hid hV
                clear hV
                by_cases hlt4 : j < n
                · have j1 : (j : Int) < (n : Int) := by omega
                  have hkl : (k2 + j) % n < n := Nat.mod_lt _ (by omega)
                  have HNX := Lib.hid (show (((k2 + j) % n : Nat) : Int) + 1 = (((k2 + j) % n + 1 : Nat) : Int) by push_cast; rfl)
                  have HNY := Lib.hid (show ((k2 + j) % n + 1) % n = (k2 + (j + 1)) % n by rw [Nat.mod_add_mod, Nat.add_assoc])
                  cases hf : f ((k2 + j) % n) with
                  | false =>
                    have HH := Lib.hid (Has_st HV4.out ((k2 + j) % n) hkl _ rfl false hf)
                    have HJ2 : Hid (∀ i, i < j + 1 → f ((k2 + i) % n) = false) := Lib.hid (fun i hi => by
                      by_cases e : i = j
                      · subst e; exact hf
                      · exact HJ.out i (by omega))
                    generalize (k2 + j) % n = kk at *
                    clear hf
                    go_wp2_with fail
                    refine HH.out.mono ?_
                    rintro e w3 ⟨rfl, rfl⟩
                    go_wp2_with fail
                    rw [HNX.out, ← Int.natCast_emod, HNY.out]
                    go_roundg (n - (j + 1))
                    case measure => omega
                    case rel => exact ⟨j + 1, rfl, by go_num, by omega, HJ2, HV4.out⟩
                  | true =>
                    have HH := Lib.hid (Has_st HV4.out ((k2 + j) % n) hkl _ rfl true hf)
                    have HF := Lib.hid (Free_st HV4.out ((k2 + j) % n) hkl hf _ rfl)
                    have HTL := Lib.hid (turn_len f ((k2 + j) % n) n hkl)
                    rw [hf] at HTL
                    have HC2 := Lib.hid (show (takenL (turnF f ((k2 + j) % n)) n).length + (q + 1) = n by have h1 := HTL.out; have h2 := HC.out; simp at h1; omega)
                    generalize (k2 + j) % n = kk at *
                    clear hf
                    go_wp2_with fail
                    refine HH.out.mono ?_
                    rintro e w3 ⟨rfl, rfl⟩
                    go_wp2_with fail
                    refine HF.out.mono ?_
                    rintro e w3 ⟨rfl, hV⟩
                    have HV5 := Lib.hid hV
                    clear hV
                    go_wp2_with fail
                    go_roundg (n - (q + 1))
                    case measure => omega
                    case rel => exact ⟨q + 1, kk, turnF f kk, rfl, by go_num, by omega, by omega, HC2, HV5.out⟩
                · exfalso
                  have hjn : n = j := by omega
                  subst hjn
                  have h1 := zero_of f n (round_all f n k2 hk3 HJ.out)
                  have h2 := HC.out
                  omega
            · have hqn : n = q := by omega
              subst hqn
              have hc0 : (takenL f n).length = 0 := by have h2 := HC.out; omega
              have HTK := Lib.hid (Taken_st HV3.out 0 hc0)
              have HFF := Lib.hid (show f = fun _ => false from funext fun p => by
                by_cases hp : p < n
                · exact none_of f n hc0 p hp
                · exact HV3.out.sp.out p (by omega))
              clear hc0
              go_wp2_with fail
              refine HTK.out.mono ?_
              rintro e w3 ⟨rfl, rfl⟩
              go_wp2_with fail
              go_roundg (2 - (r + 1))
              case measure => omega
              case rel => exact ⟨r + 1, by go_num, by omega, by rw [← HFF.out]; exact HV3.out⟩
    · obtain rfl : r = 2 := by omega
      go_wp2_with fail
      go_ret
      exact ⟨rfl, HV1.out.bel⟩
end Go.Proofs.YtdnincnfamcchaaDoor
