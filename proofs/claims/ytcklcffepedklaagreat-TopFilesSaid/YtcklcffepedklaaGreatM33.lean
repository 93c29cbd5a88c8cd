/- Texts of the proof, one behind the other: The rolling sum in plain numbers: no program in sight. -/
import Derived.Test.YtcklcffepedklaaGreatM01
namespace Go.Proofs.YtcklcffepedklaaGreat.Ck

/-- The sum of all bytes, not reduced. -/
def hz : List Int → Int
  | [] => 0
  | c :: l => (c + 1) * 16777619 ^ l.length + hz l

theorem hz_snoc (l : List Int) (c : Int) : hz (l ++ [c]) = hz l * 16777619 + c + 1 := by
  induction l with
  | nil => simp [hz]
  | cons d l ih => simp only [List.cons_append, hz, ih, List.length_append, List.length_cons, List.length_nil]; grind

/-- The rolling sum of bytes: of the last 16 of them. -/
def sumR (l : List Int) : Int := hz (l.drop (l.length - 16)) % 4294967296
theorem sumR_lo (l : List Int) : 0 ≤ sumR l := by unfold sumR; omega
theorem sumR_hi (l : List Int) : sumR l < 4294967296 := by unfold sumR; omega

theorem md (a b q : Int) (h : a = b + 4294967296 * q) : a % 4294967296 = b % 4294967296 := by subst h; simp [Int.add_mul_emod_self_left]
theorem md_ex (a : Int) : ∃ q, a % 4294967296 = a + 4294967296 * q := ⟨-(a / 4294967296), by omega⟩

/-- roll.Of's loop. -/
def ofL (l : List Int) : Nat → Int → Int → Int → Option Int
  | 0, _, _, _ => none
  | k + 1, s, p, i => if 0 ≤ i ∧ (l.length : Int) - 16 ≤ i then ofL l k ((s + ((l.getD i.toNat 0 + 1) * p) % 4294967296) % 4294967296) ((p * 16777619) % 4294967296) (i - 1) else some s

theorem ofL_is (l : List Int) (d : Nat) : ∀ (k m : Nat), m ≤ l.length → m - (l.length - 16) = d → l.length - 16 ≤ m → d < k →
    ofL l k (hz (l.drop m) % 4294967296) (16777619 ^ (l.length - m) % 4294967296) ((m : Int) - 1) = some (sumR l) := by
  induction d with
  | zero =>
    intro k m hm hd hlo hk
    obtain ⟨k, rfl⟩ : ∃ j, k = j + 1 := ⟨k - 1, by omega⟩
    rw [ofL, if_neg (by omega)]
    obtain rfl : m = l.length - 16 := by omega
    rfl
  | succ d ih =>
    intro k m hm hd hlo hk
    obtain ⟨k, rfl⟩ : ∃ j, k = j + 1 := ⟨k - 1, by omega⟩
    obtain ⟨m, rfl⟩ : ∃ j, m = j + 1 := ⟨m - 1, by omega⟩
    rw [ofL, if_pos (by omega), ← ih k m (by omega) (by omega) (by omega) (by omega)]
    have e : (((m + 1 : Nat) : Int) - 1) = (m : Int) := by omega
    rw [e, Int.toNat_natCast, drop_getD l m (by omega), hz, show l.length - m = (l.length - (m + 1)) + 1 from by omega, List.length_drop]
    generalize l.getD m 0 = c
    generalize hz (l.drop (m + 1)) = z
    generalize (l.length - (m + 1)) = j
    have hp : 16777619 ^ j % 4294967296 * 16777619 % 4294967296 = 16777619 ^ (j + 1) % (4294967296 : Int) := by
      obtain ⟨q, hq⟩ := md_ex (16777619 ^ j)
      exact md _ _ (q * 16777619) (by rw [hq]; grind)
    rw [hp]
    congr 1
    obtain ⟨q1, h1⟩ := md_ex ((c + 1) * (16777619 ^ j % 4294967296))
    obtain ⟨q2, h2⟩ := md_ex (16777619 ^ j)
    obtain ⟨q3, h3⟩ := md_ex z
    exact md _ _ (q1 + (c + 1) * q2 + q3) (by rw [h1, h2, h3]; grind)

theorem ofL_all (l : List Int) : ofL l 17 0 1 ((l.length : Int) - 1) = some (sumR l) := by
  have h := ofL_is l (l.length - (l.length - 16)) 17 l.length (Nat.le_refl _) rfl (by omega) (by omega)
  simpa [hz] using h

/-- The reference's loop. -/
def refL (l : List Int) : Nat → Int → Int → Option Int
  | 0, _, _ => none
  | k + 1, s, i => if i < l.length then refL l k (((s * 16777619 + l.getD i.toNat 0) % 4294967296 + 1) % 4294967296) (i + 1) else some s

theorem refL_is (l : List Int) (d : Nat) : ∀ (k m : Nat) (s : Int), m ≤ l.length → l.length - m = d → d < k →
    refL l k (s % 4294967296) m = some ((s * 16777619 ^ d + hz (l.drop m)) % 4294967296) := by
  induction d with
  | zero =>
    intro k m s hm hd hk
    obtain ⟨k, rfl⟩ : ∃ j, k = j + 1 := ⟨k - 1, by omega⟩
    obtain rfl : m = l.length := by omega
    rw [refL, if_neg (by omega)]
    simp [hz]
  | succ d ih =>
    intro k m s hm hd hk
    obtain ⟨k, rfl⟩ : ∃ j, k = j + 1 := ⟨k - 1, by omega⟩
    rw [refL, if_pos (by omega), Int.toNat_natCast, drop_getD l m (by omega), hz, List.length_drop, show l.length - (m + 1) = d from by omega]
    have h := ih k (m + 1) (((s % 4294967296) * 16777619 + l.getD m 0) % 4294967296 + 1) (by omega) (by omega) (by omega)
    rw [show (((m + 1 : Nat)) : Int) = (m : Int) + 1 from by omega] at h
    rw [h]
    congr 1
    obtain ⟨q1, h1⟩ := md_ex (s % 4294967296 * 16777619 + l.getD m 0)
    obtain ⟨q2, h2⟩ := md_ex s
    exact md _ _ ((q1 + q2 * 16777619) * 16777619 ^ d) (by rw [h1, h2]; grind)

theorem refL_all (l : List Int) : refL l 17 0 ((l.length - 16 : Nat) : Int) = some (sumR l) := by
  have h := refL_is l (l.length - (l.length - 16)) 17 (l.length - 16) 0 (by omega) rfl (by omega)
  simpa [sumR] using h

/-- The base's highest power. -/
def topN : Int := 3600621915
theorem topN_is : topN = 16777619 ^ 15 % 4294967296 := by decide +kernel

/-- Next. -/
def nextR (s o i : Int) : Int := ((s - (o + 1) * topN) % 4294967296 * 16777619 + (i + 1)) % 4294967296
theorem nextR_lo (s o i : Int) : 0 ≤ nextR s o i := by unfold nextR; omega
theorem nextR_hi (s o i : Int) : nextR s o i < 4294967296 := by unfold nextR; omega

theorem nextR_hz (l : List Int) (c d : Int) (h : l.length = 15) : nextR (hz (c :: l) % 4294967296) c d = hz (l ++ [d]) % 4294967296 := by
  rw [hz_snoc, hz, h, nextR, topN_is]
  generalize hz l = z
  obtain ⟨q2, h2⟩ := md_ex (16777619 ^ 15)
  obtain ⟨q3, h3⟩ := md_ex ((c + 1) * 16777619 ^ 15 + z)
  obtain ⟨q4, h4⟩ := md_ex (((c + 1) * 16777619 ^ 15 + z) % 4294967296 - (c + 1) * (16777619 ^ 15 % 4294967296))
  rw [h4, h3]
  exact md _ _ ((q4 + q3 - (c + 1) * q2) * 16777619) (by rw [h2]; grind)

/-- The sum rolls. -/
theorem sumR_next (l : List Int) (i : Nat) (h : i < l.length) (h16 : 16 ≤ i) : nextR (sumR (l.take i)) (l.getD (i - 16) 0) (l.getD i 0) = sumR (l.take (i + 1)) := by
  have hl : (l.take i).length = i := by rw [List.length_take]; omega
  have hl1 : (l.take (i + 1)).length = i + 1 := by rw [List.length_take]; omega
  unfold sumR
  rw [hl, hl1]
  have e1 : (l.take i).drop (i - 16) = l.getD (i - 16) 0 :: (l.take i).drop (i - 15) := by
    rw [drop_getD _ _ (by omega), List.getD_eq_getElem?_getD, List.getElem?_take, if_pos (by omega), ← List.getD_eq_getElem?_getD, show i - 16 + 1 = i - 15 from by omega]
  have e2 : (l.take (i + 1)).drop (i + 1 - 16) = (l.take i).drop (i - 15) ++ [l.getD i 0] := by
    rw [take_getD l i h, show i + 1 - 16 = i - 15 from by omega, List.drop_append_of_le_length (by omega)]
  rw [e1, e2]
  exact nextR_hz _ _ _ (by rw [List.length_drop, hl]; omega)

/-- The sums at all places. -/
def allR (l : List Int) (n : Nat) : List Int := (List.range n).map fun j => sumR (l.take (16 + j))
theorem allR_succ (l : List Int) (n : Nat) : allR l (n + 1) = allR l n ++ [sumR (l.take (16 + n))] := by simp [allR, List.range_succ]
theorem allR_length (l : List Int) (n : Nat) : (allR l n).length = n := by simp [allR]

theorem hz_set (l : List Int) : ∀ (k : Nat) (x : Int), k < l.length → hz (l.set k x) = hz l + (x - l.getD k 0) * 16777619 ^ (l.length - 1 - k) := by
  induction l with
  | nil => intro k x h; simp at h
  | cons c l ih =>
    intro k x h
    cases k with
    | zero => simp only [List.set_cons_zero, hz, List.getD_cons_zero, List.length_cons, Nat.add_sub_cancel, Nat.sub_zero]; grind
    | succ k =>
      simp only [List.set_cons_succ, hz, List.getD_cons_succ, List.length_cons, Nat.add_sub_cancel, List.length_set]
      rw [ih k x (by simpa using h), show l.length - (k + 1) = l.length - 1 - k from by omega]
      grind
theorem odd_free (y : Int) (j : Nat) (h : (y * 16777619 ^ j) % 4294967296 = 0) : y % 4294967296 = 0 := by
  induction j with
  | zero => simpa using h
  | succ j ih =>
    apply ih
    rw [Int.pow_succ, ← Int.mul_assoc] at h
    generalize y * 16777619 ^ j = z at h ⊢
    have e : z = z * 16777619 * 899433627 - 4294967296 * (3513497 * z) := by omega
    omega
theorem sumR_set (b : List Int) (k : Nat) (x : Int) (hn : b.length = 16) (hk : k < 16) (hb : Bytes b) (hx0 : 0 ≤ x) (hx1 : x < 256) : (sumR (b.set k x) = sumR b) ↔ (b.set k x = b) := by
  constructor
  · intro h
    have e1 : ∀ l : List Int, l.length = 16 → sumR l = hz l % 4294967296 := fun l hl => by unfold sumR; rw [hl]; rfl
    rw [e1 _ (by simpa using hn), e1 b hn, hz_set b k x (by omega)] at h
    have h2 : ((x - b.getD k 0) * 16777619 ^ (b.length - 1 - k)) % 4294967296 = 0 := by omega
    have h3 := odd_free _ _ h2
    have h4 := hb k
    have h5 : x = b.getD k 0 := by omega
    rw [h5, List.getD_eq_getElem?_getD, List.getElem?_eq_getElem (by omega)]
    exact List.set_getElem_self (by omega)
  · intro h; rw [h]

/-- The reference's Next: its loop. -/
def rtopL : Nat → Int → Int → Option Int
  | 0, _, _ => none
  | k + 1, x, i => if i < 16 then rtopL k ((x * 16777619) % 4294967296) (i + 1) else some x

theorem rtopL_is (d : Nat) : ∀ (k : Nat) (i x : Int), 16 - i = d → d < k → rtopL k (x % 4294967296) i = some ((x * 16777619 ^ d) % 4294967296) := by
  induction d with
  | zero =>
    intro k i x hd hk
    obtain ⟨k, rfl⟩ : ∃ j, k = j + 1 := ⟨k - 1, by omega⟩
    rw [rtopL, if_neg (by omega)]
    simp
  | succ d ih =>
    intro k i x hd hk
    obtain ⟨k, rfl⟩ : ∃ j, k = j + 1 := ⟨k - 1, by omega⟩
    rw [rtopL, if_pos (by omega), ih k (i + 1) _ (by omega) (by omega)]
    congr 1
    obtain ⟨q2, h2⟩ := md_ex x
    exact md _ _ (q2 * 16777619 * 16777619 ^ d) (by rw [h2]; grind)
theorem rtopL_all (x : Int) (h0 : 0 ≤ x) (h1 : x < 4294967296) : rtopL 17 x 1 = some ((x * topN) % 4294967296) := by
  have h := rtopL_is 15 17 1 x (by omega) (by omega)
  rw [Int.emod_eq_of_lt h0 h1] at h
  rw [h, topN_is]
  congr 1
  obtain ⟨q2, h2⟩ := md_ex (16777619 ^ 15)
  exact (md _ _ (x * q2) (by rw [h2]; grind)).symm

end Go.Proofs.YtcklcffepedklaaGreat.Ck
