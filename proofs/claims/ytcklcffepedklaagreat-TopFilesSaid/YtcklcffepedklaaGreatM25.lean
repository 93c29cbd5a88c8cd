/- Texts of the proof, one behind the other: cont: Take. Bits in bytes, in plain numbers: no program in sight. -/
import Derived.Test.YtcklcffepedklaaGreatM24
import Derived.Test.YtcklcffepedklaaGreatM01
namespace Go.Proofs.YtcklcffepedklaaGreat
open Go.RowKit Go.Maps

theorem PcOk.of_kd {L M : List Pc} (h : PcOk L) (e : M.map kd = L.map kd) : PcOk M := by
  have hl : M.length = L.length := by have := congrArg List.length e; simpa using this
  have hd : M.map (·.data) = L.map (·.data) := by have := congrArg (List.map Prod.snd) e; simpa [kd, Function.comp_def] using this
  have hk : M.map (·.key) = L.map (·.key) := by have := congrArg (List.map Prod.fst) e; simpa [kd, Function.comp_def] using this
  have hp : lenP M = lenP L := by
    unfold lenP
    rw [show M.map (fun p => p.data.length) = (M.map (·.data)).map List.length from by simp [Function.comp_def], hd]; simp [Function.comp_def]
  refine ⟨by rw [hl]; exact h.num, fun p hp => ?_, by rw [hl, hp]; exact h.size, by rw [hk]; exact h.nodup⟩
  have : p.data ∈ M.map (·.data) := List.mem_map_of_mem hp
  rw [hd] at this
  obtain ⟨q, hq, e1⟩ := List.mem_map.1 this
  rw [← e1]; exact h.some_ q hq

set_option maxRecDepth 20000 in
set_option maxHeartbeats 1600000 in
theorem Take_any (w : World) (id : Nat) (L : List Pc) (A : Option Addr) (n c : Nat) (hid : id < 4294967296) (hN0 : 0 < L.length) (hO : PcOk L) (hK : ∀ p ∈ L, p.key.Ok ∧ Bytes p.data) (hn : (contL id L).length = n) (hnc : n ≤ c) (hI : Ints .u8 w A (contL id L)) :
    Calls Tryz.prog 83 #[.slice A n c] w fun e w' => ∃ A' c' M, e = .returned (.tuple #[.int .u32 id, .slice A' L.length c', .int .i64 0]) ∧ PcAt w' A' M ∧ M.map kd = L.map kd ∧ Below w.heap.size w w' ∧ (∀ ad, A' = some ad → w.heap.size ≤ ad.block) ∧ (∀ p ∈ M, ∀ ad, p.A = some ad → w.heap.size ≤ ad.block) := by
  have hr1 := heap_alloc_last w (.cells #[.slice none 0 0] 77)
  have hb1 := (Below.refl w.heap.size w).alloc (Nat.le_refl _) (.cells #[.slice none 0 0] 77)
  have HAC := Lib.hid (show Acc w (w.alloc (.cells #[.slice none 0 0] 77)) w.heap.size [] (fun _ => False) from
    ⟨⟨.slice none 0 0, fun k h => (by cases h), hr1, ⟨World.ownsRow_nil _ _ _ _, fun p h => by cases h⟩, fun h => (by cases h), fun p h => by cases h⟩, Nat.le_refl _, hb1⟩)
  have HEA := Lib.hid (each_take w (w.alloc (.cells #[.slice none 0 0] 77)) w.heap.size id L A n c L.length hid rfl hN0 hO hK hn hnc (hI.below hb1) HAC.out)
  have HO := Lib.hid hO
  have HN0 := Lib.hid hN0
  clear hr1 hO hK hn hI hN0 HAC
  go_enter Tryz.func83, Tryz.ntmps83
  go_wp2_with fail
  generalize w.alloc (.cells #[.slice none 0 0] 77) = w1 at *
  obtain ⟨gl, hgl⟩ : ∃ z, z = w.heap.size := ⟨_, rfl⟩
  rw [← hgl] at HEA ⊢
  have HGL := Lib.hid hgl
  clear hgl
  refine HEA.out.mono ?_
  rintro e w2 ⟨rfl, Q, X, hA, hQ⟩
  obtain ⟨v, _, h1, hown, h4, h5⟩ := hA.ex
  obtain ⟨A', c', rfl, hc', hnil, hform⟩ := hown.form
  have hpc := hown.pcAt
  have hQl : Q.length = L.length := by have := congrArg List.length hQ; simpa using this
  rw [hQl] at h1 hnil
  have cl : w2.cell? ⟨gl, 0, none⟩ = some (.slice A' L.length c') := by rw [cell_of_row _ _ _ _ _ _ h1]; rfl
  have HPC := Lib.hid hpc
  have HQ := Lib.hid hQ
  have HB2 := Lib.hid hA.bel
  have HH5 := Lib.hid (And.intro hform h5)
  have HCK := Lib.hid (check_any A' L.length c' Q w2 hQl hpc (HO.out.of_kd hQ))
  have hl2 := row_lt h1
  have HRW := Lib.hid h1
  clear hA h1 hown h4 h5 hnil hform hpc hQ hb1 HEA
  go_wp2_with fail
  refine HCK.out.mono ?_
  rintro e w3 ⟨rfl, hb3⟩
  have c3 : w3.cell? ⟨gl, 0, none⟩ = some (.slice A' L.length c') := (hb3.cell (p := ⟨gl, 0, none⟩) hl2).trans cl
  have HB3 := Lib.hid hb3
  clear cl hb3 HCK
  go_upto_region 5 with (fail)
  go_quiet (fail)
  go_wp2_with fail
  go_ret3
  obtain ⟨hform, h5⟩ := HH5.out
  have hBF : Below w2.heap.size w2 (w3.drewN nq) := below_drewN HB3.out nq
  refine ⟨A', c', Q, rfl, HPC.out.below hBF, HQ.out, HB2.out.trans (hBF.mono HB2.out.size), fun ad e => ?_, fun p hp ad e => (h5 p hp ad e).1⟩
  obtain ⟨g, rfl, hg, _⟩ := hform ad e
  exact hg
end Go.Proofs.YtcklcffepedklaaGreat

namespace Go.Proofs.YtcklcffepedklaaGreat.Sp

/-- The number of the first n bits of g. -/
def bitsN : Nat → (Nat → Bool) → Nat
  | 0, _ => 0
  | n + 1, g => (g 0).toNat + 2 * bitsN n (fun k => g (k + 1))
theorem bitsN_test (n : Nat) : ∀ (g : Nat → Bool) (k : Nat), (bitsN n g).testBit k = (decide (k < n) && g k) := by
  induction n with
  | zero => intro g k; simp [bitsN]
  | succ n ih =>
    intro g k
    cases k with
    | zero => simp only [bitsN, Nat.testBit_zero]; cases g 0 <;> simp <;> omega
    | succ k =>
      rw [Nat.testBit_succ]
      have e : bitsN (n + 1) g / 2 = bitsN n (fun k => g (k + 1)) := by simp only [bitsN]; cases g 0 <;> simp <;> omega
      rw [e, ih]
      simp
theorem bitsN_lt (n : Nat) : ∀ g : Nat → Bool, bitsN n g < 2 ^ n := by
  induction n with
  | zero => intro g; simp [bitsN]
  | succ n ih => intro g; have := ih (fun k => g (k + 1)); simp only [bitsN]; cases g 0 <;> simp <;> omega
theorem bitsN_ext (n : Nat) (f g : Nat → Bool) (h : ∀ k, k < n → f k = g k) : bitsN n f = bitsN n g := by
  apply Nat.eq_of_testBit_eq
  intro k
  rw [bitsN_test, bitsN_test]
  by_cases hk : k < n
  · rw [h k hk]
  · simp [hk]
/-- A number below 2^n is the number of its bits. -/
theorem bitsN_of (n x : Nat) (h : x < 2 ^ n) : bitsN n (fun k => x.testBit k) = x := by
  apply Nat.eq_of_testBit_eq
  intro k
  rw [bitsN_test]
  by_cases hk : k < n
  · simp [hk]
  · simp [hk]
    exact Nat.testBit_lt_two_pow (Nat.lt_of_lt_of_le h (Nat.pow_le_pow_right (n := 2) (by decide) (by omega)))

/-- Byte number i of the bits f. -/
def byteN (f : Nat → Bool) (i : Nat) : Nat := bitsN 8 (fun j => f (8 * i + j))
theorem byteN_lt (f : Nat → Bool) (i : Nat) : byteN f i < 256 := bitsN_lt 8 _
/-- The first m bytes of the bits f. -/
def pack (m : Nat) (f : Nat → Bool) : List Int := (List.range m).map fun i => ((byteN f i : Nat) : Int)
theorem pack_length (m : Nat) (f : Nat → Bool) : (pack m f).length = m := by simp [pack]
theorem pack_get (m : Nat) (f : Nat → Bool) (i : Nat) (h : i < m) : (pack m f).getD i 0 = ((byteN f i : Nat) : Int) := by
  rw [pack, List.getD_eq_getElem?_getD, List.getElem?_map, List.getElem?_range h]; rfl
theorem pack_bytes (m : Nat) (f : Nat → Bool) : Bytes (pack m f) := by
  intro i
  by_cases h : i < m
  · rw [pack_get m f i h]; have := byteN_lt f i; omega
  · rw [List.getD_eq_getElem?_getD, List.getElem?_eq_none (by rw [pack_length]; omega)]; simp
theorem pack_ext (m : Nat) (f g : Nat → Bool) (h : ∀ k, k < 8 * m → f k = g k) : pack m f = pack m g := by
  unfold pack
  apply List.map_congr_left
  intro i hi
  rw [List.mem_range] at hi
  congr 1
  exact bitsN_ext 8 _ _ fun j hj => h _ (by omega)
theorem pack_set (m : Nat) (f g : Nat → Bool) (i : Nat) (hi : i < m) (h : ∀ k, k < 8 * m → k / 8 ≠ i → g k = f k) : (pack m f).set i ((byteN g i : Nat) : Int) = pack m g := by
  apply List.ext_getElem
  · simp [pack]
  · intro j h1 h2
    rw [List.getElem_set]
    rw [pack_length] at h2
    by_cases e : i = j
    · subst e; simp [pack]
    · rw [if_neg e]
      simp only [pack, List.getElem_map, List.getElem_range]
      congr 1
      exact bitsN_ext 8 _ _ fun t ht => (h _ (by omega) (by omega)).symm

theorem byteN_zero (i : Nat) : byteN (fun _ => false) i = 0 := by
  apply Nat.eq_of_testBit_eq
  intro k
  rw [byteN, bitsN_test]
  simp
theorem pack_zero (m : Nat) : pack m (fun _ => false) = List.replicate m 0 := by
  apply List.ext_getElem
  · simp [pack]
  · intro i h1 h2
    simp [pack, byteN_zero]
/-- A bit of bytes. -/
def bitOf (b : List Int) (p : Nat) : Bool := (b.getD (p / 8) 0).toNat.testBit (p % 8)

/-- f with the first 8 n bits of b. -/
def orF (f : Nat → Bool) (b : List Int) (n : Nat) : Nat → Bool := fun q => f q || (decide (q < 8 * n) && bitOf b q)
theorem orF_zero (f : Nat → Bool) (b : List Int) : orF f b 0 = f := by funext q; simp [orF]
theorem byteN_or (f : Nat → Bool) (b : List Int) (i : Nat) (hb : (b.getD i 0).toNat < 256) : byteN (orF f b i) i ||| (b.getD i 0).toNat = byteN (orF f b (i + 1)) i := by
  apply Nat.eq_of_testBit_eq
  intro k
  rw [Nat.testBit_or, byteN, byteN, bitsN_test, bitsN_test]
  by_cases hk : k < 8
  · have h1 : ¬ (8 * i + k < 8 * i) := by omega
    have h2 : 8 * i + k < 8 * (i + 1) := by omega
    simp only [hk, decide_true, Bool.true_and, orF, h1, decide_false, Bool.false_and, Bool.or_false, h2, bitOf]
    rw [show (8 * i + k) / 8 = i from by omega, show (8 * i + k) % 8 = k from by omega]
  · rw [Nat.testBit_lt_two_pow (Nat.lt_of_lt_of_le hb (show 256 ≤ 2 ^ k from Nat.pow_le_pow_right (n := 2) (i := 8) (by decide) (by omega)))]
    simp [hk]
theorem orF_far (f : Nat → Bool) (b : List Int) (i k : Nat) (h : k / 8 ≠ i) : orF f b (i + 1) k = orF f b i k := by
  unfold orF
  have : decide (k < 8 * (i + 1)) = decide (k < 8 * i) := by rw [decide_eq_decide]; omega
  rw [this]
/-- f below a bound. -/
def upF (f : Nat → Bool) (n : Nat) : Nat → Bool := fun q => f q && decide (q < n)
theorem byteN_up (f : Nat → Bool) (n : Nat) : byteN f (n / 8) &&& (2 ^ (n % 8) - 1) = byteN (upF f n) (n / 8) := by
  apply Nat.eq_of_testBit_eq
  intro k
  rw [Nat.testBit_and, Nat.testBit_two_pow_sub_one, byteN, byteN, bitsN_test, bitsN_test]
  by_cases hk : k < 8
  · simp only [hk, decide_true, Bool.true_and, upF]
    congr 1
    rw [decide_eq_decide]
    omega
  · simp [hk]

/-- f with place p. -/
def put (f : Nat → Bool) (p : Nat) : Nat → Bool := fun q => f q || decide (q = p)
theorem byteN_put (f : Nat → Bool) (p : Nat) : byteN f (p / 8) ||| 2 ^ (p % 8) = byteN (put f p) (p / 8) := by
  apply Nat.eq_of_testBit_eq
  intro k
  rw [Nat.testBit_or, byteN, byteN, bitsN_test, bitsN_test, Nat.testBit_two_pow]
  by_cases hk : k < 8
  · simp only [hk, decide_true, Bool.true_and, put]
    congr 1
    rw [decide_eq_decide]
    omega
  · have : ¬ p % 8 = k := by omega
    simp [hk, this]
theorem byteN_test (f : Nat → Bool) (p : Nat) : (byteN f (p / 8)).testBit (p % 8) = f p := by
  rw [byteN, bitsN_test]
  have : p % 8 < 8 := Nat.mod_lt _ (by omega)
  simp only [this, decide_true, Bool.true_and]
  congr 1
  omega
theorem byteN_is (f : Nat → Bool) (p : Nat) : decide (byteN f (p / 8) / 2 ^ (p % 8) % 2 = 1) = f p := by
  rw [← byteN_test f p, Nat.testBit_eq_decide_div_mod_eq]


end Go.Proofs.YtcklcffepedklaaGreat.Sp
