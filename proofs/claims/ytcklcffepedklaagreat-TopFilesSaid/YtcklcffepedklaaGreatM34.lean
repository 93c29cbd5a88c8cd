/- Texts of the proof, one behind the other: roll.Of and the reference's Of: what they compute. Chunks in plain lists: no program in sight. -/
import Derived.Test.YtcklcffepedklaaGreatProg
import Derived.Test.YtcklcffepedklaaGreatM33
namespace Go.Proofs.YtcklcffepedklaaGreat.Ck
open Go.RowKit

set_option maxRecDepth 20000 in
theorem count_any (c : Int) (w : World) (h0 : 0 ≤ c) (h1 : c < 256) : Calls Tryz.prog 91 #[.int .u8 c] w fun e w' => e = .returned (.int .u32 (c + 1)) ∧ w = w' := by
  go_enter Tryz.func91, Tryz.ntmps91
  go_wp2
  go_ret
  exact ⟨rfl, rfl⟩

set_option maxRecDepth 20000 in
set_option maxHeartbeats 400000 in
theorem Of_walk (A : Option Addr) (c : Nat) (l : List Int) (K : Nat) (r : Int) (w : World) (hr : Ints .u8 w A l) (hb : Bytes l) (hl : l.length ≤ 1000000000000000) (h : ofL l K 0 1 ((l.length : Int) - 1) = some r) :
    Calls Tryz.prog 66 #[.slice A l.length c] w fun e w' => e = .returned (.int .u32 r) ∧ w = w' := by
  have HR := Lib.hid hr
  have HB := Lib.hid hb
  have H := Lib.hid h
  clear hr hb h
  go_enter Tryz.func66, Tryz.ntmps66
  go_wp2
  go_loopg [3, 4, 5] K (fun kq v3 v4 v5 w' => ∃ (s p i : Int), v3 = .int .u32 s ∧ v4 = .int .u32 p ∧ v5 = .int .i64 i ∧ Hid (ofL l kq s p i = some r) ∧ i < l.length ∧ -1 ≤ i ∧ w = w')
  case atStart => exact ⟨0, 1, (l.length : Int) - 1, rfl, rfl, rfl, H, by omega, by omega, rfl⟩
  case round =>
    obtain ⟨s, p, i, rfl, rfl, rfl, HK, hi1, hi2, rfl⟩ := hrel
    clear H
    cases gk with
    | zero => exact absurd HK.out (by simp [ofL])
    | succ k1 =>
      have HK' := HK.out
      clear HK
      unfold ofL at HK'
      by_cases h0 : 0 ≤ i
      · by_cases h16 : (l.length : Int) - 16 ≤ i
        · rw [if_pos ⟨h0, h16⟩] at HK'
          have HK := Lib.hid HK'
          clear HK'
          obtain ⟨j, rfl⟩ := Int.eq_ofNat_of_zero_le h0
          obtain ⟨ad, e, hc⟩ := HR.out j (by omega)
          subst e
          have hb := HB.out j
          simp only [Int.toNat_natCast] at HK
          generalize l.getD j 0 = x at *
          go_wp2_with (go_at_call 91; refine (count_any _ _ hb.1 hb.2).mono ?_; rintro e w' ⟨rfl, rfl⟩)
          go_roundg k1
          case measure => omega
          case rel => exact ⟨_, _, _, rfl, rfl, rfl, HK, by omega, by omega, rfl⟩
        · rw [if_neg (fun h => h16 h.2)] at HK'
          obtain rfl := Option.some.inj HK'
          go_wp2
          go_ret
          exact ⟨rfl, rfl⟩
      · rw [if_neg (fun h => h0 h.1)] at HK'
        obtain rfl := Option.some.inj HK'
        go_wp2
        go_ret
        exact ⟨rfl, rfl⟩

theorem Of_any (A : Option Addr) (c : Nat) (l : List Int) (w : World) (hr : Ints .u8 w A l) (hb : Bytes l) (hl : l.length ≤ 1000000000000000) :
    Calls Tryz.prog 66 #[.slice A l.length c] w fun e w' => e = .returned (.int .u32 (sumR l)) ∧ w = w' := Of_walk A c l 17 _ w hr hb hl (ofL_all l)

/-- roll.top's loop. -/
def topL : Nat → Int → Int → Option Int
  | 0, _, _ => none
  | k + 1, x, i => if i < 15 then topL k ((x * 16777619) % 4294967296) (i + 1) else some x

set_option maxRecDepth 20000 in
theorem top_any (w : World) : Calls Tryz.prog 92 #[] w fun e w' => e = .returned (.int .u32 topN) ∧ w = w' := by
  have H := Lib.hid (show topL 16 1 0 = some topN by decide +kernel)
  go_enter Tryz.func92, Tryz.ntmps92
  go_wp2
  go_loopg [1, 2] 16 (fun kq v1 v2 w' => ∃ (x i : Int), v1 = .int .u32 x ∧ v2 = .int .i64 i ∧ Hid (topL kq x i = some topN) ∧ 0 ≤ i ∧ w = w')
  case atStart => exact ⟨1, 0, rfl, rfl, H, by omega, rfl⟩
  case round =>
    obtain ⟨x, i, rfl, rfl, HK, hi, rfl⟩ := hrel
    clear H
    cases gk with
    | zero => exact absurd HK.out (by simp [topL])
    | succ k1 =>
      have HK' := HK.out
      clear HK
      unfold topL at HK'
      by_cases hlt : i < 15
      · rw [if_pos hlt] at HK'
        have HK := Lib.hid HK'
        clear HK'
        go_wp2
        go_roundg k1
        case measure => omega
        case rel => exact ⟨_, _, rfl, rfl, HK, by omega, rfl⟩
      · rw [if_neg hlt] at HK'
        obtain rfl := Option.some.inj HK'
        go_wp2
        go_ret
        exact ⟨rfl, rfl⟩

theorem ret_u32 {a b : Int} (h : a = b) : Ending.returned (.int .u32 a) = .returned (.int .u32 b) := by rw [h]

theorem count_q (c : Int) (w : World) (h0 : 0 ≤ c) (h1 : c < 256) : Calls Tryz.prog 91 #[.int .u8 c] w fun e w' => e = .returned (.int .u32 (c + 1)) ∧ w' = w :=
  (count_any c w h0 h1).mono fun _ _ h => ⟨h.1, h.2.symm⟩

set_option maxRecDepth 20000 in
theorem Next_any (s o i : Int) (w : World) (ho0 : 0 ≤ o) (ho1 : o < 256) (hi0 : 0 ≤ i) (hi1 : i < 256) :
    Calls Tryz.prog 67 #[.int .u32 s, .int .u8 o, .int .u8 i] w fun e w' => e = .returned (.int .u32 (nextR s o i)) ∧ w = w' := by
  go_enter Tryz.func67, Tryz.ntmps67
  go_wp2_with fail
  refine (count_any _ _ ho0 ho1).mono ?_
  rintro e w' ⟨rfl, rfl⟩
  go_wp2_with fail
  refine (top_any _).mono ?_
  rintro e w' ⟨rfl, rfl⟩
  go_wp2_with fail
  refine (count_any _ _ hi0 hi1).mono ?_
  rintro e w' ⟨rfl, rfl⟩
  go_wp2_with fail
  go_ret
  refine ⟨ret_u32 ?_, rfl⟩
  unfold nextR topN
  omega


end Go.Proofs.YtcklcffepedklaaGreat.Ck

namespace Go.Proofs.YtcklcffepedklaaGreat.Ck

/-- A cutter. -/
structure Ct where
  mn : Nat
  mx : Nat
  main : Nat
  back : Nat
/-- A cutter by which streams may be cut. -/
structure Ct.Ok (c : Ct) : Prop where
  lo : 16 ≤ c.mn
  le : c.mn ≤ c.mx
  hi : c.mx ≤ 4096
  m0 : 1 ≤ c.main
  m1 : c.main < 4294967296
  b0 : 1 ≤ c.back
  b1 : c.back < 4294967296

def hit (m : Nat) (s : Int) : Bool := decide (s % (m : Int) = (m : Int) - 1)
def mainAt (c : Ct) (l : List Int) (n : Nat) : Bool := hit c.main (sumR (l.take n))
def backAt (c : Ct) (l : List Int) (n : Nat) : Bool := hit c.back (sumR (l.take n))
theorem take_app (a b : List Int) (n : Nat) (h : n ≤ a.length) : (a ++ b).take n = a.take n := List.take_append_of_le_length h
theorem mainAt_app (c : Ct) (a b : List Int) (n : Nat) (h : n ≤ a.length) : mainAt c (a ++ b) n = mainAt c a n := by unfold mainAt; rw [take_app a b n h]
theorem backAt_app (c : Ct) (a b : List Int) (n : Nat) (h : n ≤ a.length) : backAt c (a ++ b) n = backAt c a n := by unfold backAt; rw [take_app a b n h]

/-- The last length up to s that is kept; 0: none. -/
def kept (c : Ct) (l : List Int) : Nat → Nat
  | 0 => 0
  | s + 1 => if c.mn ≤ s + 1 ∧ backAt c l (s + 1) = true then s + 1 else kept c l s
theorem kept_le (c : Ct) (l : List Int) : ∀ s, kept c l s ≤ s
  | 0 => Nat.le_refl _
  | s + 1 => by have := kept_le c l s; simp only [kept]; split <;> omega
theorem kept_lo (c : Ct) (l : List Int) : ∀ s, kept c l s ≠ 0 → c.mn ≤ kept c l s
  | 0, h => absurd rfl h
  | s + 1, h => by
    simp only [kept] at h ⊢
    split
    · rename_i h1; exact h1.1
    · rename_i h1; rw [if_neg h1] at h; exact kept_lo c l s h
theorem kept_below (c : Ct) (l : List Int) : ∀ s, s < c.mn → kept c l s = 0
  | 0, _ => rfl
  | s + 1, h => by simp only [kept]; rw [if_neg (by omega)]; exact kept_below c l s (by omega)
theorem kept_app (c : Ct) (a b : List Int) : ∀ s, s ≤ a.length → kept c (a ++ b) s = kept c a s
  | 0, _ => rfl
  | s + 1, h => by simp only [kept]; rw [backAt_app c a b _ h, kept_app c a b s (by omega)]

/-- The least length from n on, of k, at which a chunk ends. -/
def least (c : Ct) (l : List Int) : Nat → Nat → Option Nat
  | 0, _ => none
  | k + 1, n => if mainAt c l n then some n else least c l k (n + 1)
theorem least_is (c : Ct) (l : List Int) : ∀ (k n r : Nat), n ≤ r → r < n + k → mainAt c l r = true → (∀ j, n ≤ j → j < r → mainAt c l j = false) → least c l k n = some r
  | 0, n, r, h1, h2, _, _ => by omega
  | k + 1, n, r, h1, h2, h3, h4 => by
    unfold least
    by_cases e : n = r
    · subst e; rw [h3]; rfl
    · rw [h4 n (Nat.le_refl _) (by omega)]
      exact least_is c l k (n + 1) r (by omega) (by omega) h3 (fun j h5 h6 => h4 j (by omega) h6)
theorem least_none (c : Ct) (l : List Int) : ∀ (k n : Nat), (∀ j, n ≤ j → j < n + k → mainAt c l j = false) → least c l k n = none
  | 0, n, _ => rfl
  | k + 1, n, h => by
    unfold least
    rw [h n (Nat.le_refl _) (by omega)]
    exact least_none c l k (n + 1) (fun j h5 h6 => h j (by omega) (by omega))
theorem least_some (c : Ct) (l : List Int) : ∀ (k n r : Nat), least c l k n = some r → n ≤ r ∧ r < n + k ∧ mainAt c l r = true ∧ ∀ j, n ≤ j → j < r → mainAt c l j = false
  | 0, n, r, h => by cases h
  | k + 1, n, r, h => by
    unfold least at h
    by_cases e : mainAt c l n = true
    · rw [if_pos e] at h
      injection h with h
      subst h
      exact ⟨Nat.le_refl _, by omega, e, fun j h1 h2 => by omega⟩
    · rw [if_neg e] at h
      obtain ⟨h1, h2, h3, h4⟩ := least_some c l k (n + 1) r h
      refine ⟨by omega, by omega, h3, fun j h5 h6 => ?_⟩
      by_cases e2 : j = n
      · subst e2; simpa using e
      · exact h4 j (by omega) h6
theorem least_no (c : Ct) (l : List Int) : ∀ (k n : Nat), least c l k n = none → ∀ j, n ≤ j → j < n + k → mainAt c l j = false
  | 0, n, _, j, h1, h2 => by omega
  | k + 1, n, h, j, h1, h2 => by
    unfold least at h
    by_cases e : mainAt c l n = true
    · rw [if_pos e] at h; cases h
    · rw [if_neg e] at h
      by_cases e2 : j = n
      · subst e2; simpa using e
      · exact least_no c l k (n + 1) h j (by omega) (by omega)

/-- How long the first chunk is where no length is a chunk's end. -/
def lastR (c : Ct) (l : List Int) : Nat := if l.length < c.mx then 0 else if 0 < kept c l c.mx then kept c l c.mx else c.mx
/-- How long the first chunk is. -/
def cutR (c : Ct) (l : List Int) : Nat := (least c l (min l.length c.mx + 1 - c.mn) c.mn).getD (lastR c l)

theorem cutR_hit (c : Ct) (l : List Int) (n : Nat) (h1 : c.mn ≤ n) (h2 : n ≤ l.length) (h3 : n ≤ c.mx) (h4 : mainAt c l n = true) (h5 : ∀ j, c.mn ≤ j → j < n → mainAt c l j = false) : cutR c l = n := by
  unfold cutR; rw [least_is c l _ _ n h1 (by omega) h4 h5]; rfl
theorem cutR_last (c : Ct) (l : List Int) (h : ∀ j, c.mn ≤ j → j ≤ l.length → j ≤ c.mx → mainAt c l j = false) : cutR c l = lastR c l := by
  unfold cutR; rw [least_none c l _ _ (fun j h1 h2 => h j h1 (by omega) (by omega))]; rfl
theorem cutR_cases (c : Ct) (l : List Int) : (∃ n, c.mn ≤ n ∧ n ≤ l.length ∧ n ≤ c.mx ∧ mainAt c l n = true ∧ (∀ j, c.mn ≤ j → j < n → mainAt c l j = false) ∧ cutR c l = n) ∨
    ((∀ j, c.mn ≤ j → j ≤ l.length → j ≤ c.mx → mainAt c l j = false) ∧ cutR c l = lastR c l) := by
  cases h : least c l (min l.length c.mx + 1 - c.mn) c.mn with
  | some n =>
    obtain ⟨h1, h2, h3, h4⟩ := least_some c l _ _ n h
    exact Or.inl ⟨n, h1, by omega, by omega, h3, h4, by unfold cutR; rw [h]; rfl⟩
  | none =>
    have := least_no c l _ _ h
    exact Or.inr ⟨fun j h1 h2 h3 => this j h1 (by omega), by unfold cutR; rw [h]; rfl⟩
theorem cutR_bounds (c : Ct) (ok : c.Ok) (l : List Int) (h : cutR c l ≠ 0) : c.mn ≤ cutR c l ∧ cutR c l ≤ c.mx ∧ cutR c l ≤ l.length := by
  have hle := ok.le
  rcases cutR_cases c l with ⟨n, h1, h2, h3, _, _, e⟩ | ⟨_, e⟩
  · rw [e]; exact ⟨h1, h3, h2⟩
  · rw [e] at h ⊢
    unfold lastR at h ⊢
    by_cases h1 : l.length < c.mx
    · rw [if_pos h1] at h; exact absurd rfl h
    · rw [if_neg h1]
      by_cases h2 : 0 < kept c l c.mx
      · rw [if_pos h2]
        have := kept_le c l c.mx
        have := kept_lo c l c.mx (by omega)
        omega
      · rw [if_neg h2]; omega
theorem cutR_app (c : Ct) (a b : List Int) (h : cutR c a ≠ 0) : cutR c (a ++ b) = cutR c a := by
  rcases cutR_cases c a with ⟨n, h1, h2, h3, h4, h5, e⟩ | ⟨h5, e⟩
  · rw [e]
    exact cutR_hit c _ n h1 (by rw [List.length_append]; omega) h3 (by rw [mainAt_app c a b n h2]; exact h4) (fun j h6 h7 => by rw [mainAt_app c a b j (by omega)]; exact h5 j h6 h7)
  · rw [e] at h ⊢
    have h1 : ¬ a.length < c.mx := fun h1 => h (by unfold lastR; rw [if_pos h1])
    rw [cutR_last c (a ++ b) (fun j h6 h7 h8 => by rw [mainAt_app c a b j (by omega)]; exact h5 j h6 (by omega) h8)]
    unfold lastR
    rw [if_neg h1, if_neg (by rw [List.length_append]; omega), kept_app c a b _ (by omega)]

/-- The chunks that end within bytes, and what is left. -/
def ends (c : Ct) : Nat → List Int → List (List Int) × List Int
  | 0, l => ([], l)
  | k + 1, l => if cutR c l = 0 then ([], l) else (l.take (cutR c l) :: (ends c k (l.drop (cutR c l))).1, (ends c k (l.drop (cutR c l))).2)
def endsR (c : Ct) (l : List Int) : List (List Int) × List Int := ends c l.length l
theorem ends_fuel (c : Ct) (ok : c.Ok) : ∀ (k : Nat) (l : List Int), l.length ≤ k → ends c k l = ends c l.length l := by
  intro k
  induction k using Nat.strongRecOn with
  | ind k ih =>
    intro l hl
    cases k with
    | zero => rw [show l.length = 0 by omega]
    | succ k =>
      by_cases h : cutR c l = 0
      · cases hl2 : l.length with
        | zero => have : l = [] := List.length_eq_zero_iff.1 hl2; subst this; simp only [ends]; rw [if_pos h]
        | succ m => simp only [ends]; rw [if_pos h, if_pos h]
      · have hb := cutR_bounds c ok l h
        have hlo := ok.lo
        obtain ⟨m, hm⟩ : ∃ m, l.length = m + 1 := ⟨l.length - 1, by omega⟩
        rw [hm]
        simp only [ends]
        rw [if_neg h, if_neg h]
        have hd : (l.drop (cutR c l)).length = l.length - cutR c l := List.length_drop
        rw [ih k (by omega) (l.drop (cutR c l)) (by omega)]
        by_cases e : m = k
        · subst e; rw [ih m (by omega) (l.drop (cutR c l)) (by omega)]
        · rw [ih m (by omega) (l.drop (cutR c l)) (by omega)]
theorem endsR_zero (c : Ct) (l : List Int) (h : cutR c l = 0) : endsR c l = ([], l) := by
  unfold endsR
  cases l.length with
  | zero => rfl
  | succ k => simp only [ends]; rw [if_pos h]
theorem endsR_cut (c : Ct) (ok : c.Ok) (l : List Int) (h : cutR c l ≠ 0) : endsR c l = (l.take (cutR c l) :: (endsR c (l.drop (cutR c l))).1, (endsR c (l.drop (cutR c l))).2) := by
  have hb := cutR_bounds c ok l h
  have hlo := ok.lo
  obtain ⟨m, hm⟩ : ∃ m, l.length = m + 1 := ⟨l.length - 1, by omega⟩
  unfold endsR
  rw [hm]
  simp only [ends]
  rw [if_neg h, ends_fuel c ok m _ (by rw [List.length_drop]; omega)]
/-- By going from cut to cut. -/
theorem cuts_ind (c : Ct) (ok : c.Ok) (P : List Int → Prop) (h0 : ∀ l, cutR c l = 0 → P l) (h1 : ∀ l, cutR c l ≠ 0 → P (l.drop (cutR c l)) → P l) : ∀ l, P l := by
  intro l
  have key : ∀ (n : Nat) (l : List Int), l.length ≤ n → P l := by
    intro n
    induction n with
    | zero =>
      intro l hl
      by_cases h : cutR c l = 0
      · exact h0 l h
      · have hb := cutR_bounds c ok l h; have := ok.lo; omega
    | succ n ih =>
      intro l hl
      by_cases h : cutR c l = 0
      · exact h0 l h
      · have hb := cutR_bounds c ok l h
        have := ok.lo
        exact h1 l h (ih _ (by rw [List.length_drop]; omega))
  exact key l.length l (Nat.le_refl _)
theorem endsR_app (c : Ct) (ok : c.Ok) (b : List Int) : ∀ a, endsR c (a ++ b) = ((endsR c a).1 ++ (endsR c ((endsR c a).2 ++ b)).1, (endsR c ((endsR c a).2 ++ b)).2) := by
  refine cuts_ind c ok _ (fun a h => ?_) (fun a h ih => ?_)
  · rw [endsR_zero c a h]; rfl
  · have hb := cutR_bounds c ok a h
    have e := cutR_app c a b h
    rw [endsR_cut c ok (a ++ b) (by rw [e]; exact h), e, take_app a b _ hb.2.2, List.drop_append_of_le_length hb.2.2, ih, endsR_cut c ok a h]
    rfl
theorem endsR_rest (c : Ct) (ok : c.Ok) : ∀ l, cutR c (endsR c l).2 = 0 := by
  refine cuts_ind c ok _ (fun a h => ?_) (fun a h ih => ?_)
  · rw [endsR_zero c a h]; exact h
  · rw [endsR_cut c ok a h]; exact ih
theorem endsR_flat (c : Ct) (ok : c.Ok) : ∀ l, (endsR c l).1.flatten ++ (endsR c l).2 = l := by
  refine cuts_ind c ok _ (fun a h => ?_) (fun a h ih => ?_)
  · rw [endsR_zero c a h]; rfl
  · rw [endsR_cut c ok a h]
    show (a.take (cutR c a) ++ (endsR c (a.drop (cutR c a))).1.flatten) ++ _ = _
    rw [List.append_assoc, ih, List.take_append_drop]
theorem endsR_lens (c : Ct) (ok : c.Ok) : ∀ l, ∀ x ∈ (endsR c l).1, c.mn ≤ x.length ∧ x.length ≤ c.mx := by
  refine cuts_ind c ok _ (fun a h => ?_) (fun a h ih => ?_)
  · rw [endsR_zero c a h]; intro x hx; cases hx
  · have hb := cutR_bounds c ok a h
    rw [endsR_cut c ok a h]
    intro x hx
    rcases List.mem_cons.1 hx with rfl | hx
    · rw [List.length_take]; omega
    · exact ih x hx
theorem rest_len (c : Ct) (ok : c.Ok) (l : List Int) (h : cutR c l = 0) : l.length < c.mx ∨ c.mx = 0 := by
  rcases cutR_cases c l with ⟨n, h1, h2, h3, h4, h5, e⟩ | ⟨h5, e⟩
  · have := ok.lo; omega
  · rw [e] at h
    unfold lastR at h
    by_cases h1 : l.length < c.mx
    · exact Or.inl h1
    · rw [if_neg h1] at h
      split at h <;> omega

/-- What is left, as a chunk. -/
def restR (l : List Int) : List (List Int) := if l = [] then [] else [l]
/-- The chunks of bytes. -/
def pcsR (c : Ct) (l : List Int) : List (List Int) := (endsR c l).1 ++ restR (endsR c l).2
theorem pcsR_zero (c : Ct) (l : List Int) (h : cutR c l = 0) : pcsR c l = restR l := by unfold pcsR; rw [endsR_zero c l h]; rfl
theorem pcsR_cut (c : Ct) (ok : c.Ok) (l : List Int) (h : cutR c l ≠ 0) : pcsR c l = l.take (cutR c l) :: pcsR c (l.drop (cutR c l)) := by unfold pcsR; rw [endsR_cut c ok l h]; rfl
theorem pcsR_app (c : Ct) (ok : c.Ok) (a b : List Int) : pcsR c (a ++ b) = (endsR c a).1 ++ pcsR c ((endsR c a).2 ++ b) := by
  unfold pcsR; rw [endsR_app c ok b a, List.append_assoc]
theorem restR_flat (l : List Int) : (restR l).flatten = l := by
  unfold restR
  split
  · rename_i h; rw [h]; rfl
  · simp
theorem pcsR_flat (c : Ct) (ok : c.Ok) (l : List Int) : (pcsR c l).flatten = l := by
  unfold pcsR
  rw [List.flatten_append, restR_flat, endsR_flat c ok]
theorem restR_length (l : List Int) : (restR l).length ≤ 1 := by unfold restR; split <;> simp
theorem pcsR_lens (c : Ct) (ok : c.Ok) (l : List Int) (i : Nat) (h : i < (pcsR c l).length) : 1 ≤ (pcsR c l)[i].length ∧ (pcsR c l)[i].length ≤ c.mx ∧ (i + 1 < (pcsR c l).length → c.mn ≤ (pcsR c l)[i].length) := by
  have hlo := ok.lo
  have hle := ok.le
  have key : ∀ x, (pcsR c l)[i]? = some x → 1 ≤ x.length ∧ x.length ≤ c.mx ∧ (i + 1 < (pcsR c l).length → c.mn ≤ x.length) := by
    intro x hx
    unfold pcsR at hx
    rw [List.getElem?_append] at hx
    by_cases h1 : i < (endsR c l).1.length
    · rw [if_pos h1] at hx
      have := endsR_lens c ok l x (List.mem_of_getElem? hx)
      exact ⟨by omega, this.2, fun _ => this.1⟩
    · rw [if_neg h1] at hx
      have hm := List.mem_of_getElem? hx
      have hr := restR_length (endsR c l).2
      have hlen : (pcsR c l).length = (endsR c l).1.length + (restR (endsR c l).2).length := by unfold pcsR; rw [List.length_append]
      have hrest := rest_len c ok _ (endsR_rest c ok l)
      unfold restR at hm
      split at hm
      · cases hm
      · rename_i hne
        obtain rfl : x = (endsR c l).2 := by simpa using hm
        have : (endsR c l).2.length ≠ 0 := fun e => hne (List.length_eq_zero_iff.1 e)
        exact ⟨by omega, by omega, fun h2 => by omega⟩
  exact key _ (List.getElem?_eq_getElem h)
/-- Where chunk number k ends, behind which there are more, all is as at the beginning. -/
theorem pcsR_again (c : Ct) (ok : c.Ok) : ∀ (k : Nat) (l : List Int), k < (pcsR c l).length → pcsR c (l.drop (((pcsR c l).take k).flatten.length)) = (pcsR c l).drop k := by
  intro k
  induction k with
  | zero => intro l _; simp
  | succ k ih =>
    intro l hk
    by_cases h : cutR c l = 0
    · rw [pcsR_zero c l h] at hk
      have := restR_length l
      omega
    · have hb := cutR_bounds c ok l h
      rw [pcsR_cut c ok l h] at hk ⊢
      simp only [List.length_cons] at hk
      rw [List.take_succ_cons, List.flatten_cons, List.length_append, List.length_take, Nat.min_eq_left hb.2.2, ← List.drop_drop, ih _ (by omega), List.drop_succ_cons]

/-- What a scan knows of the bytes that it looked at. -/
structure ScanOk (c : Ct) (l : List Int) (s : Int) (seen kp : Nat) : Prop where
  len : seen ≤ l.length
  mx : seen ≤ c.mx
  sum : c.mn ≤ seen → s = sumR (l.take seen)
  s0 : 0 ≤ s
  s1 : s < 4294967296
  kp : kp = kept c l seen
  no : ∀ j, c.mn ≤ j → j ≤ seen → mainAt c l j = false
theorem ScanOk.zero (c : Ct) (ok : c.Ok) (l : List Int) : ScanOk c l 0 0 0 :=
  ⟨by omega, by omega, fun h => by have := ok.lo; omega, by omega, by omega, rfl, fun j h1 h2 => by have := ok.lo; omega⟩
theorem ScanOk.app {c : Ct} {l : List Int} {s : Int} {seen kp : Nat} (h : ScanOk c l s seen kp) (b : List Int) : ScanOk c (l ++ b) s seen kp :=
  ⟨by have := h.len; rw [List.length_append]; omega, h.mx, fun h1 => by rw [take_app l b _ h.len]; exact h.sum h1, h.s0, h.s1, by rw [kept_app c l b _ h.len]; exact h.kp, fun j h1 h2 => by rw [mainAt_app c l b j (by have := h.len; omega)]; exact h.no j h1 h2⟩
theorem ScanOk.skip {c : Ct} {l : List Int} {s : Int} {seen kp n : Nat} (h : ScanOk c l s seen kp) (h1 : seen + 1 < c.mn) (h2 : n = min l.length (c.mn - 1)) (hle : c.mn ≤ c.mx) : ScanOk c l s n kp :=
  ⟨by omega, by omega, fun h3 => by omega, h.s0, h.s1, by rw [h.kp, kept_below c l seen (by omega), kept_below c l n (by omega)], fun j h3 h4 => by omega⟩
theorem ScanOk.next {c : Ct} {l : List Int} {s : Int} {seen kp : Nat} (h : ScanOk c l s seen kp) (h1 : c.mn ≤ seen + 1) (h2 : seen < l.length) (h3 : seen < c.mx) (hm : mainAt c l (seen + 1) = false) :
    ScanOk c l (sumR (l.take (seen + 1))) (seen + 1) (if backAt c l (seen + 1) = true then seen + 1 else kp) := by
  refine ⟨by omega, by omega, fun _ => rfl, sumR_lo _, sumR_hi _, ?_, fun j h4 h5 => ?_⟩
  · simp only [kept]
    by_cases hb : backAt c l (seen + 1) = true
    · rw [if_pos hb, if_pos ⟨h1, hb⟩]
    · rw [if_neg hb, if_neg (fun h => hb h.2)]; exact h.kp
  · by_cases e : j = seen + 1
    · subst e; exact hm
    · exact h.no j h4 (by omega)
theorem ScanOk.cut {c : Ct} {l : List Int} {s : Int} {seen kp : Nat} (h : ScanOk c l s seen kp) (h1 : c.mn ≤ seen + 1) (h2 : seen < l.length) (h3 : seen < c.mx) (hm : mainAt c l (seen + 1) = true) : cutR c l = seen + 1 :=
  cutR_hit c l _ h1 (by omega) (by omega) hm (fun j h4 h5 => h.no j h4 (by omega))
theorem ScanOk.done {c : Ct} {l : List Int} {s : Int} {seen kp : Nat} (h : ScanOk c l s seen kp) (h1 : l.length ≤ seen ∨ c.mx ≤ seen) : cutR c l = lastR c l :=
  cutR_last c l (fun j h4 h5 h6 => h.no j h4 (by omega))
end Go.Proofs.YtcklcffepedklaaGreat.Ck
