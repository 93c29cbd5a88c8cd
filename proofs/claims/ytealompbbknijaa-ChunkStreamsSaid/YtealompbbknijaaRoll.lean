/- roll.Of and the reference's Of: what they compute. -/
import Derived.Test.YtealompbbknijaaProg
import Derived.Test.YtealompbbknijaaRollMath
namespace Go.Proofs.Ytealompbbknijaa
open Go.RowKit

theorem count_any (c : Int) (w : World) (h0 : 0 ≤ c) (h1 : c < 256) : Calls Try.prog 29 #[.int .u8 c] w fun e w' => e = .returned (.int .u32 (c + 1)) ∧ w = w' := by
  go_enter Try.func29, Try.ntmps29
  go_wp2
  go_ret
  exact ⟨rfl, rfl⟩

set_option maxHeartbeats 400000 in
theorem Of_walk (A : Option Addr) (c : Nat) (l : List Int) (K : Nat) (r : Int) (w : World) (hr : Ints .u8 w A l) (hb : Bytes l) (hl : l.length ≤ 1000000000000000) (h : ofL l K 0 1 ((l.length : Int) - 1) = some r) :
    Calls Try.prog 27 #[.slice A l.length c] w fun e w' => e = .returned (.int .u32 r) ∧ w = w' := by
  have HR := Lib.hid hr
  have HB := Lib.hid hb
  have H := Lib.hid h
  clear hr hb h
  go_enter Try.func27, Try.ntmps27
  go_wp2
  go_loopg [3, 4, 5] K (fun kq v3 v4 v5 w' => ∃ (s p i : Int), v3 = .int .u32 s ∧ v4 = .int .u32 p ∧ v5 = .int .i64 i ∧ Hid (ofL l kq s p i = some r) ∧ i < l.length ∧ -1 ≤ i ∧ w = w')
  case atStart => exact ⟨0, 1, (l.length : Int) - 1, rfl, rfl, rfl, H, by omega, by omega, rfl⟩
  case round =>
    obtain ⟨s, p, i, rfl, rfl, rfl, HK, hi1, hi2, rfl⟩ := hrel
    clear H
    cases gk with
    | zero => exact absurd HK.out (by simp [ofL])
    | succ k1 =>
      have HK' := HK.out
      clear HK
      unfold ofL at HK'
      by_cases h0 : 0 ≤ i
      · by_cases h16 : (l.length : Int) - 16 ≤ i
        · rw [if_pos ⟨h0, h16⟩] at HK'
          have HK := Lib.hid HK'
          clear HK'
          obtain ⟨j, rfl⟩ := Int.eq_ofNat_of_zero_le h0
          obtain ⟨ad, e, hc⟩ := HR.out j (by omega)
          subst e
          have hb := HB.out j
          simp only [Int.toNat_natCast] at HK
          generalize l.getD j 0 = x at *
          go_wp2_with (go_at_call 29; refine (count_any _ _ hb.1 hb.2).mono ?_; rintro e w' ⟨rfl, rfl⟩)
          go_roundg k1
          case measure => omega
          case rel => exact ⟨_, _, _, rfl, rfl, rfl, HK, by omega, by omega, rfl⟩
        · rw [if_neg (fun h => h16 h.2)] at HK'
          obtain rfl := Option.some.inj HK'
          go_wp2
          go_ret
          exact ⟨rfl, rfl⟩
      · rw [if_neg (fun h => h0 h.1)] at HK'
        obtain rfl := Option.some.inj HK'
        go_wp2
        go_ret
        exact ⟨rfl, rfl⟩

theorem Of_any (A : Option Addr) (c : Nat) (l : List Int) (w : World) (hr : Ints .u8 w A l) (hb : Bytes l) (hl : l.length ≤ 1000000000000000) :
    Calls Try.prog 27 #[.slice A l.length c] w fun e w' => e = .returned (.int .u32 (sumR l)) ∧ w = w' := Of_walk A c l 17 _ w hr hb hl (ofL_all l)

set_option maxHeartbeats 400000 in
theorem rOf_any (A : Option Addr) (c : Nat) (l : List Int) (w : World) (hr : Ints .u8 w A l) (hb : Bytes l) (hl : l.length ≤ 1000000000000000) :
    Calls Try.prog 26 #[.slice A l.length c] w fun e w' => e = .returned (.int .u32 (sumR l)) ∧ w = w' := by
  have HR := Lib.hid hr
  have HB := Lib.hid hb
  have H := Lib.hid (refL_all l)
  clear hr hb
  go_enter Try.func26, Try.ntmps26
  go_wp2
  all_goals
    go_loopg [3, 4] 17 (fun kq v3 v4 w' => ∃ (s i : Int), v3 = .int .u32 s ∧ v4 = .int .i64 i ∧ Hid (refL l kq s i = some (sumR l)) ∧ 0 ≤ i ∧ w = w')
    case atStart => exact ⟨0, ((l.length - 16 : Nat) : Int), rfl, by go_num, H, by omega, rfl⟩
    case round =>
      obtain ⟨s, i, rfl, rfl, HK, hi, rfl⟩ := hrel
      clear H
      cases gk with
      | zero => exact absurd HK.out (by simp [refL])
      | succ k1 =>
        have HK' := HK.out
        clear HK
        unfold refL at HK'
        obtain ⟨j, rfl⟩ := Int.eq_ofNat_of_zero_le hi
        by_cases hlt : (j : Int) < l.length
        · rw [if_pos hlt] at HK'
          have HK := Lib.hid HK'
          clear HK'
          obtain ⟨ad, e, hc⟩ := HR.out j (by omega)
          subst e
          have hb := HB.out j
          simp only [Int.toNat_natCast] at HK
          generalize l.getD j 0 = x at *
          go_wp2
          go_roundg k1
          case measure => omega
          case rel => exact ⟨_, _, rfl, rfl, HK, by omega, rfl⟩
        · rw [if_neg hlt] at HK'
          obtain rfl := Option.some.inj HK'
          go_wp2
          go_ret
          exact ⟨rfl, rfl⟩

/-- roll.top's loop. -/
def topL : Nat → Int → Int → Option Int
  | 0, _, _ => none
  | k + 1, x, i => if i < 15 then topL k ((x * 16777619) % 4294967296) (i + 1) else some x

theorem top_any (w : World) : Calls Try.prog 30 #[] w fun e w' => e = .returned (.int .u32 topN) ∧ w = w' := by
  have H := Lib.hid (show topL 16 1 0 = some topN by decide +kernel)
  go_enter Try.func30, Try.ntmps30
  go_wp2
  go_loopg [1, 2] 16 (fun kq v1 v2 w' => ∃ (x i : Int), v1 = .int .u32 x ∧ v2 = .int .i64 i ∧ Hid (topL kq x i = some topN) ∧ 0 ≤ i ∧ w = w')
  case atStart => exact ⟨1, 0, rfl, rfl, H, by omega, rfl⟩
  case round =>
    obtain ⟨x, i, rfl, rfl, HK, hi, rfl⟩ := hrel
    clear H
    cases gk with
    | zero => exact absurd HK.out (by simp [topL])
    | succ k1 =>
      have HK' := HK.out
      clear HK
      unfold topL at HK'
      by_cases hlt : i < 15
      · rw [if_pos hlt] at HK'
        have HK := Lib.hid HK'
        clear HK'
        go_wp2
        go_roundg k1
        case measure => omega
        case rel => exact ⟨_, _, rfl, rfl, HK, by omega, rfl⟩
      · rw [if_neg hlt] at HK'
        obtain rfl := Option.some.inj HK'
        go_wp2
        go_ret
        exact ⟨rfl, rfl⟩

theorem ret_u32 {a b : Int} (h : a = b) : Ending.returned (.int .u32 a) = .returned (.int .u32 b) := by rw [h]

theorem count_q (c : Int) (w : World) (h0 : 0 ≤ c) (h1 : c < 256) : Calls Try.prog 29 #[.int .u8 c] w fun e w' => e = .returned (.int .u32 (c + 1)) ∧ w' = w :=
  (count_any c w h0 h1).mono fun _ _ h => ⟨h.1, h.2.symm⟩

theorem Next_any (s o i : Int) (w : World) (ho0 : 0 ≤ o) (ho1 : o < 256) (hi0 : 0 ≤ i) (hi1 : i < 256) :
    Calls Try.prog 28 #[.int .u32 s, .int .u8 o, .int .u8 i] w fun e w' => e = .returned (.int .u32 (nextR s o i)) ∧ w = w' := by
  go_enter Try.func28, Try.ntmps28
  go_wp2_with fail
  refine (count_any _ _ ho0 ho1).mono ?_
  rintro e w' ⟨rfl, rfl⟩
  go_wp2_with fail
  refine (top_any _).mono ?_
  rintro e w' ⟨rfl, rfl⟩
  go_wp2_with fail
  refine (count_any _ _ hi0 hi1).mono ?_
  rintro e w' ⟨rfl, rfl⟩
  go_wp2_with fail
  go_ret
  refine ⟨ret_u32 ?_, rfl⟩
  unfold nextR topN
  omega


end Go.Proofs.Ytealompbbknijaa
