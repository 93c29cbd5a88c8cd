/- digest: what a block does to the words; the fingerprint. No walk. -/
import Derived.Test.YtehmnkkfoopanaaNext
namespace Go.Proofs.Ytehmnkkfoopanaa
open Go.RowKit

/-- Four of sixteen words, mixed. -/
def mixL (V : List Int) (a b c d : Nat) (x y : Int) : List Int :=
  let q := quarter (V.getD a 0) (V.getD b 0) (V.getD c 0) (V.getD d 0) x y
  (((V.set a q.a).set b q.b).set c q.c).set d q.d
theorem mixL_length (V : List Int) (a b c d : Nat) (x y : Int) : (mixL V a b c d x y).length = V.length := by simp [mixL]
def AllU (V : List Int) : Prop := ∀ i, U (V.getD i 0)
theorem AllU.set {V : List Int} (h : AllU V) (a : Nat) (x : Int) (hx : U x) : AllU (V.set a x) := by
  intro i
  rw [List.getD_eq_getElem?_getD, List.getElem?_set]
  split
  · split
    · exact hx
    · exact ⟨by decide, by decide⟩
  · rw [← List.getD_eq_getElem?_getD]; exact h i
theorem U_quA (a b x : Int) : U (quA a b x) := U_mod _
theorem U_quC (c d : Int) : U (quC c d) := U_mod _
theorem U_quD (d a : Int) (n : Nat) : U (quD d a n) := U_rot _ _
theorem AllU.mixL {V : List Int} (h : AllU V) (a b c d : Nat) (x y : Int) : AllU (mixL V a b c d x y) :=
  (((h.set a _ (U_quA _ _ _)).set b _ (U_quD _ _ _)).set c _ (U_quC _ _)).set d _ (U_quD _ _ _)
def ia (t : Nat) : Nat := t % 4
def ib (t : Nat) : Nat := 4 + (t + t / 4) % 4
def ic (t : Nat) : Nat := 8 + (t + 2 * (t / 4)) % 4
def id4 (t : Nat) : Nat := 12 + (t + 3 * (t / 4)) % 4
/-- What is left of an order behind j words. -/
def oS (r j : Nat) : Nat := ordN r * 16 ^ j % 18446744073709551616
def nib (r j : Nat) : Nat := oS r j / 1152921504606846976
theorem oS_next (r j : Nat) : oS r (j + 1) = oS r j * 16 % 18446744073709551616 := by
  unfold oS
  rw [Nat.pow_succ, ← Nat.mul_assoc, Nat.mod_mul_mod]
theorem oS_lt (r j : Nat) : oS r j < 18446744073709551616 := Nat.mod_lt _ (by decide)
theorem oS_zero (r : Nat) (h : r < 10) : oS r 0 = ordN r := by
  match r, h with
  | 0, _ => rfl
  | 1, _ => rfl
  | 2, _ => rfl
  | 3, _ => rfl
  | 4, _ => rfl
  | 5, _ => rfl
  | 6, _ => rfl
  | 7, _ => rfl
  | 8, _ => rfl
  | 9, _ => rfl
  | n + 10, h => exact absurd h (by omega)
def stepF (M : List Int) (r t : Nat) (V : List Int) : List Int := mixL V (ia t) (ib t) (ic t) (id4 t) (M.getD (nib r (2 * t)) 0) (M.getD (nib r (2 * t + 1)) 0)
def stepsF (M : List Int) (r : Nat) : Nat → List Int → List Int
  | 0, V => V
  | t + 1, V => stepF M r t (stepsF M r t V)
def roundsF (M : List Int) : Nat → List Int → List Int
  | 0, V => V
  | r + 1, V => stepsF M r 8 (roundsF M r V)
theorem stepsF_length (M : List Int) (r : Nat) : ∀ (t : Nat) (V : List Int), (stepsF M r t V).length = V.length
  | 0, _ => rfl
  | t + 1, V => (mixL_length _ _ _ _ _ _ _).trans (stepsF_length M r t V)
theorem roundsF_length (M : List Int) : ∀ (r : Nat) (V : List Int), (roundsF M r V).length = V.length
  | 0, _ => rfl
  | r + 1, V => (stepsF_length M r 8 _).trans (roundsF_length M r V)
theorem AllU.steps {V : List Int} (h : AllU V) (M : List Int) (r : Nat) : ∀ t, AllU (stepsF M r t V)
  | 0 => h
  | t + 1 => (AllU.steps h M r t).mixL _ _ _ _ _ _
theorem AllU.rounds {V : List Int} (h : AllU V) (M : List Int) : ∀ r, AllU (roundsF M r V)
  | 0 => h
  | r + 1 => (AllU.rounds h M r).steps M r 8
/-- Sixteen words out of bytes. -/
def loadM (b : List Int) : Nat → List Int
  | 0 => [0, 0, 0, 0, 0, 0, 0, 0, 0, 0, 0, 0, 0, 0, 0, 0]
  | i + 1 => (loadM b i).set (i / 4) (Go.bits .or .u32 ((loadM b i).getD (i / 4) 0) (b.getD i 0 * 2 ^ (8 * (i % 4)) % 4294967296))
theorem loadM_length (b : List Int) : ∀ i, (loadM b i).length = 16
  | 0 => rfl
  | i + 1 => by rw [loadM, List.length_set]; exact loadM_length b i
/-- The eight words that stand beside those of a state. -/
def wV (n : Nat) (last : Bool) : List Int := [1779033703, 3144134277, 1013904242, 2773480762, Go.bits .xor .u32 1359893119 ((n % 4294967296 : Nat) : Int), Go.bits .xor .u32 2600822924 ((n / 4294967296 : Nat) : Int), (if last then 3766232660 else 528734635), 1541459225]
theorem wV_length (n : Nat) (last : Bool) : (wV n last).length = 8 := rfl
theorem AllU_wV (n : Nat) (last : Bool) : AllU (wV n last) := by
  intro i
  match i with
  | 0 => exact (show U 1779033703 from ⟨by decide, by decide⟩)
  | 1 => exact (show U 3144134277 from ⟨by decide, by decide⟩)
  | 2 => exact (show U 1013904242 from ⟨by decide, by decide⟩)
  | 3 => exact (show U 2773480762 from ⟨by decide, by decide⟩)
  | 4 => exact (show U (Go.bits .xor .u32 1359893119 ((n % 4294967296 : Nat) : Int)) from U_bits _ _ _)
  | 5 => exact (show U (Go.bits .xor .u32 2600822924 ((n / 4294967296 : Nat) : Int)) from U_bits _ _ _)
  | 6 => cases last <;> first | exact (show U 3766232660 from ⟨by decide, by decide⟩) | exact (show U 528734635 from ⟨by decide, by decide⟩)
  | 7 => exact (show U 1541459225 from ⟨by decide, by decide⟩)
  | i + 8 => exact (show U 0 from ⟨by decide, by decide⟩)
theorem AllU.append {a b : List Int} (h : AllU a) (k : AllU b) : AllU (a ++ b) := by
  intro i
  rw [List.getD_eq_getElem?_getD, List.getElem?_append]
  split
  · rw [← List.getD_eq_getElem?_getD]; exact h i
  · rw [← List.getD_eq_getElem?_getD]; exact k _
def xorS (hs V : List Int) : Nat → List Int
  | 0 => hs
  | i + 1 => (xorS hs V i).set i (Go.bits .xor .u32 ((xorS hs V i).getD i 0) (Go.bits .xor .u32 (V.getD i 0) (V.getD (8 + i) 0)))
theorem xorS_length (hs V : List Int) : ∀ i, (xorS hs V i).length = hs.length
  | 0 => rfl
  | i + 1 => by rw [xorS, List.length_set]; exact xorS_length hs V i
theorem AllU_xorS {hs : List Int} (V : List Int) (h : AllU hs) : ∀ i, AllU (xorS hs V i)
  | 0 => h
  | i + 1 => (AllU_xorS V h i).set _ _ (U_bits _ _ _)
/-- What a block does to the words. -/
def blockF (hs rs : List Int) (n : Nat) (last : Bool) : List Int := xorS hs (roundsF (loadM rs 64) 10 (hs ++ wV n last)) 8
theorem blockF_length (hs rs : List Int) (n : Nat) (last : Bool) : (blockF hs rs n last).length = hs.length := xorS_length _ _ _
theorem AllU_blockF {hs : List Int} (h : AllU hs) (rs : List Int) (n : Nat) (last : Bool) : AllU (blockF hs rs n last) := AllU_xorS _ h _
/-- The bytes of words. -/
def outF (hs : List Int) : List Int := (List.range 32).map fun i => (hs.getD (i / 4) 0 / 2 ^ (8 * (i % 4))) % 256
/-- The words behind the first k blocks. -/
def chain (b : List Int) : Nat → List Int
  | 0 => initL
  | k + 1 => blockF (chain b k) ((b.drop (64 * k)).take 64) (64 * (k + 1)) false
def pad (b : List Int) : List Int := b ++ List.replicate (64 - b.length) 0
/-- The fingerprint of bytes. -/
def digestF (b : List Int) : List Int := outF (blockF (chain b ((b.length - 1) / 64)) (pad (b.drop (64 * ((b.length - 1) / 64)))) b.length true)
theorem digest_none : (digestF []).take 4 = [105, 33, 122, 48] := by decide +kernel
theorem digest_abc : (digestF [97, 98, 99]).take 4 = [80, 140, 94, 140] := by decide +kernel
end Go.Proofs.Ytehmnkkfoopanaa
