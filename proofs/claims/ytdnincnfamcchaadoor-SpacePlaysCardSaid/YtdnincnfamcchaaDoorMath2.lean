/- Places out of bytes: words, counts, what fits. No program in sight. -/
import Derived.Test.YtdnincnfamcchaaDoorBytes
namespace Go.Proofs.YtdnincnfamcchaaDoor
open Go.RowKit

theorem byte_nat {l : List Int} (h : Bytes l) (i : Nat) : l.getD i 0 = (((l.getD i 0).toNat : Nat) : Int) ∧ (l.getD i 0).toNat < 256 := by
  have := h i
  omega
theorem test_far (c k : Nat) (hc : c < 256) (hk : 8 ≤ k) : c.testBit k = false := by
  apply Nat.testBit_lt_two_pow
  exact Nat.lt_of_lt_of_le hc (show 2 ^ 8 ≤ 2 ^ k from Nat.pow_le_pow_right (by decide) hk)
/-- One byte more in its word. -/
theorem word_put (l : List Int) (h : Bytes l) (i : Nat) : wordN (upF (bitOf l) (8 * i)) (i / 8) ||| (l.getD i 0).toNat * 2 ^ (8 * (i % 8)) = wordN (upF (bitOf l) (8 * (i + 1))) (i / 8) := by
  have hc := (byte_nat h i).2
  apply Nat.eq_of_testBit_eq
  intro k
  rw [Nat.testBit_or, ← Nat.shiftLeft_eq, Nat.testBit_shiftLeft]
  by_cases hk : k < 64
  · rw [wordN_test _ _ _ hk, wordN_test _ _ _ hk]
    unfold upF
    by_cases h1 : k < 8 * (i % 8)
    · have a1 : 64 * (i / 8) + k < 8 * i := by omega
      have a2 : 64 * (i / 8) + k < 8 * (i + 1) := by omega
      have a3 : ¬ 8 * (i % 8) ≤ k := by omega
      simp [a1, a2, a3]
    · by_cases h2 : k < 8 * (i % 8) + 8
      · have a1 : ¬ 64 * (i / 8) + k < 8 * i := by omega
        have a2 : 64 * (i / 8) + k < 8 * (i + 1) := by omega
        have a3 : 8 * (i % 8) ≤ k := by omega
        have a4 : (64 * (i / 8) + k) / 8 = i := by omega
        have a5 : (64 * (i / 8) + k) % 8 = k - 8 * (i % 8) := by omega
        simp [a1, a2, a3, bitOf, a4, a5]
      · have a1 : ¬ 64 * (i / 8) + k < 8 * i := by omega
        have a2 : ¬ 64 * (i / 8) + k < 8 * (i + 1) := by omega
        rw [test_far _ (k - 8 * (i % 8)) hc (by omega)]
        simp [a1, a2]
  · have e : ∀ f j, (wordN f j).testBit k = false := fun f j => Nat.testBit_lt_two_pow (Nat.lt_of_lt_of_le (wordN_lt f j) (show 18446744073709551616 ≤ 2 ^ k from Nat.pow_le_pow_right (n := 2) (i := 64) (by decide) (by omega)))
    rw [e, e, test_far _ (k - 8 * (i % 8)) hc (by omega)]
    simp
theorem shl_lt (c i : Nat) (hc : c < 256) : c * 2 ^ (8 * (i % 8)) < 18446744073709551616 := by
  have h1 : 2 ^ (8 * (i % 8)) ≤ 2 ^ 56 := Nat.pow_le_pow_right (by decide) (by omega)
  have h2 : c * 2 ^ (8 * (i % 8)) ≤ 255 * 2 ^ 56 := Nat.mul_le_mul (by omega) h1
  omega
theorem upF_farw (f : Nat → Bool) (i k : Nat) (h : k / 64 ≠ i / 8) : upF f (8 * (i + 1)) k = upF f (8 * i) k := upF_far8 f i k (by omega)
theorem takenL_add (f : Nat → Bool) (a : Nat) : ∀ n, (takenL f (a + n)).length = (takenL f a).length + ((List.range n).filter fun j => f (a + j)).length
  | 0 => by simp
  | n + 1 => by
    rw [show a + (n + 1) = (a + n) + 1 from rfl, takenL_succ, List.range_succ, List.filter_append]
    have ih := takenL_add f a n
    cases h : f (a + n) <;> simp [h] <;> omega
theorem count_byte (l : List Int) (i : Nat) : (takenL (bitOf l) (8 * (i + 1))).length = (takenL (bitOf l) (8 * i)).length + count8 (l.getD i 0).toNat := by
  rw [show 8 * (i + 1) = 8 * i + 8 from by omega, takenL_add]
  congr 2
  apply List.filter_congr
  intro j hj
  rw [List.mem_range] at hj
  show (l.getD ((8 * i + j) / 8) 0).toNat.testBit ((8 * i + j) % 8) = _
  rw [show (8 * i + j) / 8 = i from by omega, show (8 * i + j) % 8 = j from by omega]

/-- No place beyond n. -/
def Ok (n : Nat) (l : List Int) : Prop := ∀ p, n ≤ p → bitOf l p = false
theorem bitOf_out (l : List Int) (p : Nat) (h : l.length ≤ p / 8) : bitOf l p = false := by
  unfold bitOf
  rw [List.getD_eq_getElem?_getD, List.getElem?_eq_none h]
  simp
theorem ok_whole (n : Nat) (l : List Int) (hl : l.length = (n + 7) / 8) (h : n % 8 = 0) : Ok n l := fun p hp => bitOf_out l p (by omega)
theorem ok_last (n : Nat) (l : List Int) (hb : Bytes l) (hl : l.length = (n + 7) / 8) (h : 0 < n % 8) : Ok n l ↔ (l.getD (l.length - 1) 0).toNat / 2 ^ (n % 8) = 0 := by
  have hc := (byte_nat hb (l.length - 1)).2
  constructor
  · intro ho
    apply Nat.eq_of_testBit_eq
    intro k
    rw [← Nat.shiftRight_eq_div_pow, Nat.testBit_shiftRight, Nat.zero_testBit]
    by_cases hk : n % 8 + k < 8
    · have := ho (8 * (l.length - 1) + (n % 8 + k)) (by omega)
      unfold bitOf at this
      rwa [show (8 * (l.length - 1) + (n % 8 + k)) / 8 = l.length - 1 from by omega, show (8 * (l.length - 1) + (n % 8 + k)) % 8 = n % 8 + k from by omega] at this
    · exact test_far _ _ hc (by omega)
  · intro hz p hp
    by_cases hp2 : l.length ≤ p / 8
    · exact bitOf_out l p hp2
    · have e : p / 8 = l.length - 1 := by omega
      unfold bitOf
      rw [e]
      have := congrArg (fun z => Nat.testBit z (p % 8 - n % 8)) hz
      simp only [← Nat.shiftRight_eq_div_pow, Nat.testBit_shiftRight, Nat.zero_testBit] at this
      rwa [show n % 8 + (p % 8 - n % 8) = p % 8 from by omega] at this
theorem byteN_bitOf (l : List Int) (h : Bytes l) (i : Nat) : byteN (bitOf l) i = (l.getD i 0).toNat := by
  have hc := (byte_nat h i).2
  unfold byteN
  rw [← bitsN_of 8 _ hc]
  apply bitsN_ext
  intro k hk
  unfold bitOf
  rw [show (8 * i + k) / 8 = i from by omega, show (8 * i + k) % 8 = k from by omega]
theorem pack_bitOf (l : List Int) (h : Bytes l) : pack l.length (bitOf l) = l := by
  apply List.ext_getElem?
  intro i
  by_cases hi : i < l.length
  · have h1 := pack_get l.length (bitOf l) i hi
    rw [List.getD_eq_getElem?_getD, List.getElem?_eq_getElem (by rw [pack_length]; exact hi)] at h1
    rw [List.getElem?_eq_getElem (by rw [pack_length]; exact hi), List.getElem?_eq_getElem hi]
    congr 1
    simp only [Option.getD_some] at h1
    rw [h1, byteN_bitOf l h, ← (byte_nat h i).1, List.getD_eq_getElem?_getD, List.getElem?_eq_getElem hi]
    rfl
  · rw [List.getElem?_eq_none (by rw [pack_length]; omega), List.getElem?_eq_none (by omega)]
theorem bitOf_pack (m : Nat) (f : Nat → Bool) (p : Nat) : bitOf (pack m f) p = (f p && decide (p < 8 * m)) := by
  unfold bitOf
  by_cases h : p < 8 * m
  · rw [pack_get _ _ _ (by omega), Int.toNat_natCast, byteN_test]
    simp [h]
  · rw [List.getD_eq_getElem?_getD, List.getElem?_eq_none (by rw [pack_length]; omega)]
    simp [h]
theorem ok_pack (n : Nat) (l : List Int) (h : Bytes l) (hl : l.length = (n + 7) / 8) : Ok n l ↔ pack ((n + 7) / 8) (upF (bitOf l) n) = l := by
  constructor
  · intro ho
    rw [← hl]
    refine (pack_ext _ _ (bitOf l) fun k _ => ?_).trans (pack_bitOf l h)
    unfold upF
    by_cases hk : k < n
    · simp [hk]
    · rw [ho k (by omega)]; rfl
  · intro e p hp
    rw [← e, bitOf_pack]
    unfold upF
    have : ¬ p < n := by omega
    simp [this]
theorem str_inj {a b : List Int} (ha : Bytes a) (hb : Bytes b) (h : strOfNums a = strOfNums b) : a = b := by
  have h1 := congrArg (fun s => s.data.toList) h
  simp only [strOfNums_data] at h1
  have hl := congrArg List.length h1
  simp only [List.length_map] at hl
  apply List.ext_getElem hl
  intro i hi hj
  have h2 := congrArg (fun z => z[i]?) h1
  simp only [List.getElem?_map, List.getElem?_eq_getElem hi, List.getElem?_eq_getElem hj, Option.map_some, Option.some.injEq] at h2
  have h3 := congrArg UInt8.toNat h2
  simp only [UInt8.toNat_ofNat'] at h3
  have p1 := byte_nat ha i
  have p2 := byte_nat hb i
  rw [List.getD_eq_getElem?_getD, List.getElem?_eq_getElem hi, Option.getD_some] at p1
  rw [List.getD_eq_getElem?_getD, List.getElem?_eq_getElem hj, Option.getD_some] at p2
  omega
theorem upF_out (f : Nat → Bool) (n : Nat) (h : ∀ p, n ≤ p → f p = false) : upF f n = f := by
  funext p
  unfold upF
  by_cases hp : p < n
  · simp [hp]
  · rw [h p (by omega)]; rfl
end Go.Proofs.YtdnincnfamcchaaDoor
