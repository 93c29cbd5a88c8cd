/- Texts of the proof, one behind the other: Places in plain numbers: words of 64, bytes of 8, the least that is free, how many. No program in sight. -/
import Derived.Test.YtcklcffepedklaaGreatM25
import Derived.Lib.TrailingZeros
namespace Go.Proofs.YtcklcffepedklaaGreat.Sp

/-- Word number i of the places f. -/
def wordN (f : Nat → Bool) (i : Nat) : Nat := bitsN 64 (fun j => f (64 * i + j))
theorem wordN_lt (f : Nat → Bool) (i : Nat) : wordN f i < 18446744073709551616 := bitsN_lt 64 _
theorem wordN_test (f : Nat → Bool) (i k : Nat) (h : k < 64) : (wordN f i).testBit k = f (64 * i + k) := by
  rw [wordN, bitsN_test]; simp [h]
theorem wordN_at (f : Nat → Bool) (p : Nat) : (wordN f (p / 64)).testBit (p % 64) = f p := by
  rw [wordN_test _ _ _ (Nat.mod_lt _ (by decide))]
  congr 1; omega
/-- f, turned at p. -/
def turnF (f : Nat → Bool) (p : Nat) : Nat → Bool := fun q => if q = p then !f p else f q
theorem wordN_turn (f : Nat → Bool) (p : Nat) : wordN f (p / 64) ^^^ 2 ^ (p % 64) = wordN (turnF f p) (p / 64) := by
  apply Nat.eq_of_testBit_eq
  intro k
  rw [Nat.testBit_xor, wordN, wordN, bitsN_test, bitsN_test, Nat.testBit_two_pow]
  by_cases hk : k < 64
  · simp only [hk, decide_true, Bool.true_and, turnF]
    by_cases e : p % 64 = k
    · have e2 : 64 * (p / 64) + k = p := by omega
      simp [e, e2]
    · have e2 : ¬ 64 * (p / 64) + k = p := by omega
      simp [e, e2]
  · have : ¬ p % 64 = k := by omega
    simp [hk, this]
/-- The first m words of the places f. -/
def wpack (m : Nat) (f : Nat → Bool) : List Int := (List.range m).map fun i => ((wordN f i : Nat) : Int)
theorem wpack_length (m : Nat) (f : Nat → Bool) : (wpack m f).length = m := by simp [wpack]
theorem wpack_get (m : Nat) (f : Nat → Bool) (i : Nat) (h : i < m) : (wpack m f).getD i 0 = ((wordN f i : Nat) : Int) := by
  rw [wpack, List.getD_eq_getElem?_getD, List.getElem?_map, List.getElem?_range h]; rfl
theorem wpack_set (m : Nat) (f g : Nat → Bool) (i : Nat) (hi : i < m) (h : ∀ k, k < 64 * m → k / 64 ≠ i → g k = f k) : (wpack m f).set i ((wordN g i : Nat) : Int) = wpack m g := by
  apply List.ext_getElem
  · simp [wpack]
  · intro j h1 h2
    rw [List.getElem_set]
    rw [wpack_length] at h2
    by_cases e : i = j
    · subst e; simp [wpack]
    · rw [if_neg e]
      simp only [wpack, List.getElem_map, List.getElem_range]
      have e2 : wordN f j = wordN g j := bitsN_ext 64 _ _ fun t ht => (h _ (by omega) (by omega)).symm
      rw [e2]
theorem wpack_zero (m : Nat) : wpack m (fun _ => false) = List.replicate m 0 := by
  have hz : ∀ i, wordN (fun _ => false) i = 0 := fun i => by
    apply Nat.eq_of_testBit_eq
    intro k
    rw [wordN, bitsN_test]; simp
  apply List.ext_getElem
  · simp [wpack]
  · intro i h1 h2
    simp [wpack, hz]
/-- A byte within a word. -/
theorem word_byte (f : Nat → Bool) (i : Nat) : wordN f (i / 8) / 2 ^ (8 * (i % 8)) % 256 = byteN f i := by
  apply Nat.eq_of_testBit_eq
  intro k
  rw [show (256 : Nat) = 2 ^ 8 from rfl, Nat.testBit_mod_two_pow, Nat.testBit_div_two_pow, wordN, byteN, bitsN_test, bitsN_test]
  by_cases hk : k < 8
  · have h1 : k + 8 * (i % 8) < 64 := by omega
    simp only [hk, h1, decide_true, Bool.true_and]
    congr 1; omega
  · simp [hk]
theorem word_is (f : Nat → Bool) (p : Nat) : wordN f (p / 64) / 2 ^ (p % 64) % 2 = (f p).toNat := by
  have h := wordN_at f p
  rw [Nat.testBit_eq_decide_div_mod_eq] at h
  rw [← h]
  have : wordN f (p / 64) / 2 ^ (p % 64) % 2 < 2 := Nat.mod_lt _ (by decide)
  generalize wordN f (p / 64) / 2 ^ (p % 64) % 2 = z at *
  by_cases e : z = 1
  · subst e; rfl
  · have : z = 0 := by omega
    subst this; rfl

/-- The places that are taken, rising. -/
def takenL (f : Nat → Bool) (n : Nat) : List Nat := (List.range n).filter f
theorem takenL_succ (f : Nat → Bool) (n : Nat) : takenL f (n + 1) = if f n then takenL f n ++ [n] else takenL f n := by
  unfold takenL
  rw [List.range_succ, List.filter_append]
  by_cases h : f n <;> simp [h]
theorem takenL_ext (f g : Nat → Bool) (n : Nat) (h : ∀ k, k < n → f k = g k) : takenL f n = takenL g n := by
  induction n with
  | zero => rfl
  | succ n ih => rw [takenL_succ, takenL_succ, ih (fun k hk => h k (by omega)), h n (by omega)]
theorem takenL_le (f : Nat → Bool) (n : Nat) : (takenL f n).length ≤ n := by
  have := List.length_filter_le f (List.range n)
  simpa [takenL] using this
theorem takenL_mem (f : Nat → Bool) (n k : Nat) : k ∈ takenL f n ↔ k < n ∧ f k = true := by simp [takenL]
/-- What turning a place does to how many are taken. -/
theorem turn_len (f : Nat → Bool) (p n : Nat) (h : p < n) : ((takenL (turnF f p) n).length : Int) = (takenL f n).length + (if f p then -1 else 1) := by
  induction n with
  | zero => omega
  | succ n ih =>
    rw [takenL_succ, takenL_succ]
    by_cases e : p = n
    · subst e
      have h1 : takenL (turnF f p) p = takenL f p := takenL_ext _ _ _ (fun k hk => by simp [turnF, show ¬ k = p by omega])
      have h2 : turnF f p p = !f p := by simp [turnF]
      rw [h1, h2]
      cases f p <;> simp <;> omega
    · have h2 : turnF f p n = f n := by simp [turnF, show ¬ n = p by omega]
      rw [h2]
      have := ih (by omega)
      cases f n <;> simp <;> omega

/-- How the number of trailing zeros is known by bits. -/
theorem ctz_bits (x : Nat) (h : x < 18446744073709551616) : (x = 0 ∧ Lib.ctz 64 x = 64) ∨ (x ≠ 0 ∧ Lib.ctz 64 x < 64 ∧ x.testBit (Lib.ctz 64 x) = true ∧ ∀ i, i < Lib.ctz 64 x → x.testBit i = false) := by
  by_cases h0 : x = 0
  · left; exact ⟨h0, by unfold Lib.ctz; rw [if_pos h0]⟩
  · right
    obtain ⟨m, hm, hk⟩ := Lib.ctzFrom_spec 64 x (by omega) h
    have e : Lib.ctz 64 x = Lib.ctzFrom 64 x := by unfold Lib.ctz; rw [if_neg h0]
    rw [e]
    generalize Lib.ctzFrom 64 x = c at *
    refine ⟨h0, hk, ?_, ?_⟩
    · rw [hm, Nat.testBit_two_pow_mul]
      simp
    · intro i hi
      rw [hm, Nat.testBit_two_pow_mul]
      simp; omega
theorem comp_test (x k : Nat) (h : x < 18446744073709551616) : (18446744073709551615 - x).testBit k = (decide (k < 64) && !x.testBit k) := by
  have := Nat.testBit_two_pow_sub_succ (x := x) (n := 64) h k
  rw [show 2 ^ 64 - (x + 1) = 18446744073709551615 - x from by omega] at this
  exact this
/-- The least place of a word that is free: 64: none. -/
theorem free_in (f : Nat → Bool) (i : Nat) : ∃ j, j = Lib.ctz 64 (18446744073709551615 - wordN f i) ∧ j ≤ 64 ∧ (j < 64 → f (64 * i + j) = false) ∧ ∀ k, k < j → f (64 * i + k) = true := by
  have hw := wordN_lt f i
  refine ⟨_, rfl, ?_⟩
  rcases ctz_bits (18446744073709551615 - wordN f i) (by omega) with ⟨h1, h2⟩ | ⟨h1, h2, h3, h4⟩
  · rw [h2]
    refine ⟨Nat.le_refl _, fun h => absurd h (by omega), fun k hk => ?_⟩
    have h5 : (18446744073709551615 - wordN f i).testBit k = false := by rw [h1]; simp
    rw [comp_test _ _ hw, wordN_test f i k hk] at h5
    simpa [hk] using h5
  · generalize Lib.ctz 64 (18446744073709551615 - wordN f i) = j at *
    refine ⟨by omega, fun _ => ?_, fun k hk => ?_⟩
    · rw [comp_test _ _ hw, wordN_test f i j h2] at h3
      simpa [h2] using h3
    · have h5 := h4 k hk
      rw [comp_test _ _ hw, wordN_test f i k (by omega)] at h5
      simpa [show k < 64 by omega] using h5

/-- The bits of a number that are 1, rising. -/
def bitsL (x : Nat) : List Nat := (List.range 64).filter x.testBit
theorem bitsL_word (f : Nat → Bool) (i : Nat) : (bitsL (wordN f i)).map (fun j => 64 * i + j) = (List.range 64).filterMap (fun j => if f (64 * i + j) then some (64 * i + j) else none) := by
  unfold bitsL
  have : ∀ l : List Nat, (∀ j ∈ l, j < 64) → (l.filter (wordN f i).testBit).map (fun j => 64 * i + j) = l.filterMap (fun j => if f (64 * i + j) then some (64 * i + j) else none) := by
    intro l hl
    induction l with
    | nil => rfl
    | cons a l ih =>
      have ha := hl a List.mem_cons_self
      have ih' := ih (fun j hj => hl j (List.mem_cons_of_mem _ hj))
      rw [List.filter_cons, wordN_test f i a ha, List.filterMap_cons]
      cases f (64 * i + a) <;> simp [ih']
  exact this _ (fun j hj => by simpa using hj)
theorem takenL_block (f : Nat → Bool) (i : Nat) : ∀ n, n ≤ 64 → takenL f (64 * i + n) = takenL f (64 * i) ++ (List.range n).filterMap (fun j => if f (64 * i + j) then some (64 * i + j) else none)
  | 0, _ => by simp
  | n + 1, h => by
    rw [show 64 * i + (n + 1) = (64 * i + n) + 1 from rfl, takenL_succ, takenL_block f i n (by omega), List.range_succ, List.filterMap_append]
    cases hq : f (64 * i + n) <;> simp [hq]
theorem takenL_word (f : Nat → Bool) (i : Nat) : takenL f (64 * (i + 1)) = takenL f (64 * i) ++ (bitsL (wordN f i)).map (fun j => 64 * i + j) := by
  rw [bitsL_word, ← takenL_block f i 64 (Nat.le_refl _)]; rfl
theorem bitsL_zero : bitsL 0 = [] := by decide
/-- x without its lowest bit. -/
theorem low_out (x : Nat) (h : x < 18446744073709551616) (h0 : x ≠ 0) : x &&& (x - 1) < x ∧ ∀ k, (x &&& (x - 1)).testBit k = (x.testBit k && decide (k ≠ Lib.ctz 64 x)) := by
  obtain ⟨m, hm, hk⟩ := Lib.ctzFrom_spec 64 x (by omega) h
  have e : Lib.ctz 64 x = Lib.ctzFrom 64 x := by unfold Lib.ctz; rw [if_neg h0]
  rw [e]
  generalize Lib.ctzFrom 64 x = c at *
  have hp : 0 < 2 ^ c := Nat.pow_pos (by decide)
  have hx0 : x = 2 ^ c * (2 * m) + 2 ^ c := by rw [hm, Nat.mul_add, Nat.mul_one]
  have hb : 2 ^ c - 1 < 2 ^ c := by omega
  have a1 : (2 * m + 1) / 2 = m := by omega
  have a2 : (2 * m) / 2 = m := by omega
  have key : x &&& (x - 1) = 2 ^ c * (2 * m) := by
    have hx1 : x - 1 = 2 ^ c * (2 * m) + (2 ^ c - 1) := by omega
    apply Nat.eq_of_testBit_eq
    intro k
    rw [Nat.testBit_and, hx1, Nat.testBit_two_pow_mul_add _ hb, hm, Nat.testBit_two_pow_mul, Nat.testBit_two_pow_mul]
    by_cases hkc : k < c
    · simp [hkc, show ¬ c ≤ k by omega]
    · rw [if_neg hkc]
      obtain ⟨j, rfl⟩ : ∃ j, k = c + j := ⟨k - c, by omega⟩
      rw [show c + j - c = j from by omega]
      cases j with
      | zero => simp [Nat.testBit_zero]
      | succ j => rw [Nat.testBit_succ, Nat.testBit_succ, a1, a2]; simp
  constructor
  · rw [key]; omega
  · intro k
    rw [key, hm, Nat.testBit_two_pow_mul, Nat.testBit_two_pow_mul]
    by_cases hkc : c ≤ k
    · obtain ⟨j, rfl⟩ : ∃ j, k = c + j := ⟨k - c, by omega⟩
      rw [show c + j - c = j from by omega]
      cases j with
      | zero => simp [Nat.testBit_zero]
      | succ j => rw [Nat.testBit_succ, Nat.testBit_succ, a1, a2]; simp
    · simp [hkc]
theorem bitsL_next (x : Nat) (h : x < 18446744073709551616) (h0 : x ≠ 0) : bitsL x = Lib.ctz 64 x :: bitsL (x &&& (x - 1)) := by
  rcases ctz_bits x h with ⟨h1, _⟩ | ⟨_, h2, h3, h4⟩
  · exact absurd h1 h0
  · have h5 := (low_out x h h0).2
    generalize Lib.ctz 64 x = c at *
    have hg : ∀ (g1 g2 : Nat → Bool) (n : Nat), c < n → (∀ k, k < c → g1 k = false) → g1 c = true → (∀ k, g2 k = (g1 k && decide (k ≠ c))) → (List.range n).filter g1 = c :: (List.range n).filter g2 := by
      intro g1 g2 n hn a1 a2 a3
      induction n with
      | zero => omega
      | succ n ih =>
        rw [List.range_succ, List.filter_append, List.filter_append]
        by_cases e : n = c
        · subst e
          have q1 : (List.range n).filter g1 = [] := by
            rw [List.filter_eq_nil_iff]; intro k hk; rw [a1 k (by simpa using hk)]; simp
          have q2 : (List.range n).filter g2 = [] := by
            rw [List.filter_eq_nil_iff]; intro k hk; rw [a3 k, a1 k (by simpa using hk)]; simp
          rw [q1, q2]
          simp [a2, a3]
        · rw [ih (by omega), List.cons_append]
          congr 2
          rw [List.filter_cons, List.filter_cons, a3 n]
          simp [e]
    exact hg x.testBit (x &&& (x - 1)).testBit 64 h2 h4 h3 h5
theorem bitsL_len (x : Nat) : (bitsL x).length ≤ 64 := by
  have := List.length_filter_le x.testBit (List.range 64)
  simpa [bitsL] using this

/-- The first m places are taken. -/
theorem full_taken (f : Nat → Bool) (n : Nat) (h : ∀ k, k < n → f k = true) : takenL f n = List.range n := by
  unfold takenL
  rw [List.filter_eq_self]
  intro a ha
  exact h a (by simpa using ha)

end Go.Proofs.YtcklcffepedklaaGreat.Sp
