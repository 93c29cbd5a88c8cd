/- space: its words, turned and read. -/
import Derived.Test.YtdnincnfamcchaaDoorProg
import Derived.Test.YtdnincnfamcchaaDoorStore
import Derived.Test.YtdnincnfamcchaaDoorMath
import Derived.Shelf.Spec.TrailingZeros
import Derived.BigRegion
namespace Go.Proofs.YtdnincnfamcchaaDoor
open Go.RowKit

/-- Only blocks that meet R are changed; new ones may have come. -/
structure Chg (R : Nat → Prop) (w w' : World) : Prop where
  os : w'.os = w.os
  tape : w'.tape = w.tape
  output : w'.output = w.output
  size : w.heap.size ≤ w'.heap.size
  block : ∀ k, k < w.heap.size → ¬ R k → w'.heap[k]? = w.heap[k]?
theorem Chg.refl (R : Nat → Prop) (w : World) : Chg R w w := ⟨rfl, rfl, rfl, Nat.le_refl _, fun _ _ _ => rfl⟩
theorem Chg.trans {R : Nat → Prop} {a b c : World} (h : Chg R a b) (k : Chg R b c) : Chg R a c :=
  ⟨k.os.trans h.os, k.tape.trans h.tape, k.output.trans h.output, Nat.le_trans h.size k.size, fun i hi hn => (k.block i (Nat.lt_of_lt_of_le hi h.size) hn).trans (h.block i hi hn)⟩
theorem Chg.mono {R Q : Nat → Prop} {a b : World} (h : Chg R a b) (hr : ∀ k, R k → Q k) : Chg Q a b := ⟨h.os, h.tape, h.output, h.size, fun i hi hn => h.block i hi (fun hR => hn (hr i hR))⟩
theorem Chg.of {a b : World} {r : Option Nat} (h : a.grownBy b r) : Chg (fun k => some k = r) a b := ⟨h.os, h.tape, h.output, h.size, fun i hi hn => h.block i hi hn⟩
theorem Chg.none_ {R : Nat → Prop} {a b : World} (h : a.grownBy b none) : Chg R a b := ⟨h.os, h.tape, h.output, h.size, fun i hi _ => h.block i hi (by simp)⟩
theorem Chg.belowAt {R : Nat → Prop} {a b : World} (h : Below a.heap.size a b) : Chg R a b := Chg.none_ (below_grown h none)
theorem Chg.below {R : Nat → Prop} {a b : World} {B : Nat} (h : Chg R a b) (hB : B ≤ a.heap.size) (hr : ∀ k, R k → B ≤ k) : Below B a b :=
  ⟨h.os, h.tape, h.output, h.size, fun k hk => h.block k (Nat.lt_of_lt_of_le hk hB) (fun hR => by have := hr k hR; omega)⟩
theorem Chg.drewN {R : Nat → Prop} {a b : World} (h : Chg R a b) (n : Nat) : Chg R a (b.drewN n) := ⟨h.os, h.tape, h.output, h.size, h.block⟩
theorem Chg.cell {R : Nat → Prop} {a b : World} (h : Chg R a b) {p : Addr} (hp : p.block < a.heap.size) (hr : ¬ R p.block) : b.cell? p = a.cell? p := World.cell?_of_block (w := a) (h.block _ hp hr)

/-- The words as cells. -/
def wcells (l : List Int) : Array Value := (l.map (Value.int .u64)).toArray
theorem wcells_size (l : List Int) : (wcells l).size = l.length := by simp [wcells]
theorem wcells_get (l : List Int) (k : Nat) (h : k < l.length) : (wcells l)[k]? = some (.int .u64 (l.getD k 0)) := by
  unfold wcells
  rw [List.getElem?_toArray, List.getElem?_map, List.getD_eq_getElem?_getD, List.getElem?_eq_getElem h]; rfl
theorem wcells_set (l : List Int) (k : Nat) (x : Int) : (wcells l).setIfInBounds k (.int .u64 x) = wcells (l.set k x) := by
  unfold wcells
  rw [List.setIfInBounds_toArray, List.map_set]

/-- A space of n places, in m words, at block g, its words in block h; f: which are taken. -/
structure Sp (w : World) (g h n m : Nat) (f : Nat → Bool) : Prop where
  obj : w.heap[g]? = some (.cells #[.slice (some ⟨h, 0, none⟩) m m, .int .i64 n, .int .i64 ((takenL f n).length : Nat)] 60 (0, 0))
  row : w.heap[h]? = some (.cells (wcells (wpack m f)) 62 (0, 0))
  lim : n ≤ 16384 ∧ n ≤ 64 * m ∧ 64 * m < n + 64
  out : ∀ p, n ≤ p → f p = false
  ne : g ≠ h

theorem row_lt {w : World} {g : Nat} {o : Obj} (h : w.heap[g]? = some o) : g < w.heap.size := by
  rcases Nat.lt_or_ge g w.heap.size with h1 | h1
  · exact h1
  · rw [Array.getElem?_eq_none h1] at h; cases h
section
variable {w : World} {g h n m : Nat} {f : Nat → Bool}
theorem Sp.cells (V : Sp w g h n m f) : w.cell? ⟨g, 0, none⟩ = some (.slice (some ⟨h, 0, none⟩) m m) ∧ w.cell? ⟨g, 1, none⟩ = some (.int .i64 n) ∧ w.cell? ⟨g, 2, none⟩ = some (.int .i64 ((takenL f n).length : Nat)) := by
  refine ⟨?_, ?_, ?_⟩ <;> rw [cell_of_row _ _ _ _ _ _ V.obj] <;> rfl
theorem Sp.word (V : Sp w g h n m f) (i : Nat) (hi : i < m) : w.cell? ⟨h, i, none⟩ = some (.int .u64 (wordN f i)) := by
  rw [cell_of_row _ _ _ _ _ _ V.row, wcells_get _ _ (by rw [wpack_length]; exact hi), wpack_get _ _ _ hi]
theorem Sp.kept {R : Nat → Prop} {w' : World} (V : Sp w g h n m f) (hc : Chg R w w') (h1 : ¬ R g) (h2 : ¬ R h) : Sp w' g h n m f :=
  ⟨(hc.block g (row_lt V.obj) h1).trans V.obj, (hc.block h (row_lt V.row) h2).trans V.row, V.lim, V.out, V.ne⟩
end

theorem Has_nil (v : Value) (w : World) : Calls Tryd.prog 13 #[.pointer none, v] w fun e w' => e = .returned (.bool false) ∧ w = w' := by
  go_enter Tryd.func13, Tryd.ntmps13
  go_wp2
  go_ret
  exact ⟨rfl, rfl⟩
theorem Len_nil (w : World) : Calls Tryd.prog 17 #[.pointer none] w fun e w' => e = .returned (.int .i64 0) ∧ w = w' := by
  go_enter Tryd.func17, Tryd.ntmps17
  go_wp2
  go_ret
  exact ⟨rfl, rfl⟩
theorem Taken_nil (w : World) : Calls Tryd.prog 12 #[.pointer none] w fun e w' => e = .returned (.int .i64 0) ∧ w = w' := by
  go_enter Tryd.func12, Tryd.ntmps12
  go_wp2
  go_ret
  exact ⟨rfl, rfl⟩
theorem All_nil (w : World) : Calls Tryd.prog 21 #[.pointer none] w fun e w' => e = .returned (.slice none 0 0) ∧ w = w' := by
  go_enter Tryd.func21, Tryd.ntmps21
  go_wp2
  go_ret
  exact ⟨rfl, rfl⟩
theorem Bytes_nil (w : World) : Calls Tryd.prog 19 #[.pointer none] w fun e w' => e = .returned (.slice none 0 0) ∧ w = w' := by
  go_enter Tryd.func19, Tryd.ntmps19
  go_wp2
  go_ret
  exact ⟨rfl, rfl⟩
theorem Hold_nil (v : Value) (w : World) : Calls Tryd.prog 27 #[.pointer none, v] w fun e w' => e = .returned (.int .i64 2) ∧ w = w' := by
  go_enter Tryd.func27, Tryd.ntmps27
  go_wp2
  go_ret
  exact ⟨rfl, rfl⟩
theorem Free_nil (v : Value) (w : World) : Calls Tryd.prog 14 #[.pointer none, v] w fun e w' => e = .returned (.int .i64 2) ∧ w = w' := by
  go_enter Tryd.func14, Tryd.ntmps14
  go_wp2
  go_ret
  exact ⟨rfl, rfl⟩
theorem Take_nil (w : World) : Calls Tryd.prog 11 #[.pointer none] w fun e w' => e = .returned (.tuple #[.int .i64 0, .int .i64 2]) ∧ w = w' := by
  go_enter Tryd.func11, Tryd.ntmps11
  go_wp2
  go_ret2
  exact ⟨rfl, rfl⟩

section
variable {w : World} {g h n m : Nat} {f : Nat → Bool}
theorem Len_any (V : Sp w g h n m f) : Calls Tryd.prog 17 #[.pointer (some ⟨g, 0, none⟩)] w fun e w' => e = .returned (.int .i64 n) ∧ w = w' := by
  obtain ⟨c0, c1, c2⟩ := V.cells
  clear V
  go_enter Tryd.func17, Tryd.ntmps17
  go_wp2
  go_ret
  exact ⟨rfl, rfl⟩
theorem Taken_any (V : Sp w g h n m f) : Calls Tryd.prog 12 #[.pointer (some ⟨g, 0, none⟩)] w fun e w' => e = .returned (.int .i64 ((takenL f n).length : Nat)) ∧ w = w' := by
  obtain ⟨c0, c1, c2⟩ := V.cells
  clear V
  go_enter Tryd.func12, Tryd.ntmps12
  go_wp2
  go_ret
  exact ⟨rfl, rfl⟩
theorem there_yes (V : Sp w g h n m f) (p : Nat) (hp : p < n) : Calls Tryd.prog 30 #[.pointer (some ⟨g, 0, none⟩), .int .i64 p] w fun e w' => e = .returned (.bool true) ∧ w = w' := by
  obtain ⟨c0, c1, c2⟩ := V.cells
  have hl := V.lim
  have hp1 : (p : Int) < (n : Int) := by omega
  have hp0 : (0 : Int) ≤ (p : Int) := by omega
  clear V
  go_enter Tryd.func30, Tryd.ntmps30
  go_wp2
  go_ret
  exact ⟨rfl, rfl⟩
theorem there_no (V : Sp w g h n m f) (x : Int) (hp : x < 0 ∨ (n : Int) ≤ x) : Calls Tryd.prog 30 #[.pointer (some ⟨g, 0, none⟩), .int .i64 x] w fun e w' => e = .returned (.bool false) ∧ w = w' := by
  obtain ⟨c0, c1, c2⟩ := V.cells
  have hl := V.lim
  clear V
  by_cases h0 : x < 0
  · clear hp
    go_enter Tryd.func30, Tryd.ntmps30
    go_wp2
    go_ret
    exact ⟨rfl, rfl⟩
  · have h1 : ¬ x < (n : Int) := by omega
    clear hp
    go_enter Tryd.func30, Tryd.ntmps30
    go_wp2
    go_ret
    exact ⟨rfl, rfl⟩

theorem and63 (p : Nat) (hp : p < 16384) : Go.bits BinOp.and IntKind.i64 (p : Int) 63 = (p : Int) % 64 := by
  have hx : p &&& 63 < 2 ^ 63 := Nat.and_lt_two_pow _ (by omega)
  have ofI : ∀ a : Nat, a < 9223372036854775808 → (BitVec.ofInt 64 (a : Int)).toNat = a := fun a ha => by
    rw [BitVec.ofInt_natCast, BitVec.toNat_ofNat]; exact Nat.mod_eq_of_lt (by omega)
  have h6 : p &&& 63 = p % 64 := Nat.and_two_pow_sub_one_eq_mod p 6
  show IntKind.i64.wrap ((BitVec.ofInt 64 (p : Int) &&& BitVec.ofInt 64 (63 : Int)).toNat : Int) = _
  rw [BitVec.toNat_and, ofI p (by omega), show (63 : Int) = ((63 : Nat) : Int) from rfl, ofI 63 (by omega), h6, IntKind.wrap_i64]
  omega
theorem u64_and1 (z : Nat) (hz : z < 18446744073709551616) : Go.bits BinOp.and IntKind.u64 (z : Int) 1 = ((z % 2 : Nat) : Int) := by
  have := bits_and_u64_nat z 1 hz (by omega)
  rw [show z &&& 1 = z % 2 from Nat.and_two_pow_sub_one_eq_mod z 1] at this
  exact this
theorem cast_pow (j : Nat) : (2 : Int) ^ j = ((2 ^ j : Nat) : Int) := by rw [Int.natCast_pow]; rfl
theorem word_test (f : Nat → Bool) (p : Nat) : (Go.bits BinOp.and IntKind.u64 ((wordN f (p / 64) : Nat) / 2 ^ (p % 64) : Int) 1 == 1) = f p := by
  have h1 := wordN_lt f (p / 64)
  have h2 := word_is f p
  rw [cast_pow, ← Int.natCast_ediv, u64_and1 _ (Nat.lt_of_le_of_lt (Nat.div_le_self _ _) h1), h2]
  cases f p <;> rfl

theorem Has_no (V : Sp w g h n m f) (x : Int) (hp : x < 0 ∨ (n : Int) ≤ x) : Calls Tryd.prog 13 #[.pointer (some ⟨g, 0, none⟩), .int .i64 x] w fun e w' => e = .returned (.bool false) ∧ w = w' := by
  have HT := Lib.hid (there_no V x hp)
  clear V hp
  go_enter Tryd.func13, Tryd.ntmps13
  go_wp2_with (go_at_call 30; refine HT.out.mono ?_; rintro e w' ⟨rfl, rfl⟩)
  go_ret
  exact ⟨rfl, rfl⟩
theorem Has_yes (V : Sp w g h n m f) (p : Nat) (hp : p < n) : Calls Tryd.prog 13 #[.pointer (some ⟨g, 0, none⟩), .int .i64 p] w fun e w' => e = .returned (.bool (f p)) ∧ w = w' := by
  have HT := Lib.hid (there_yes V p hp)
  obtain ⟨c0, c1, c2⟩ := V.cells
  have hl := V.lim
  have hw := V.word (p / 64) (by omega)
  have hand := and63 p (by omega)
  have HW := Lib.hid (word_test f p)
  have hp0 : (0 : Int) ≤ (p : Int) % 64 := by omega
  have hp1 : (p : Int) / 64 < (m : Int) := by omega
  have hp2 : (0 : Int) ≤ (p : Int) / 64 := by omega
  have hlt := wordN_lt f (p / 64)
  clear V
  go_enter Tryd.func13, Tryd.ntmps13
  go_wp2_with (go_at_call 30; refine HT.out.mono ?_; rintro e w' ⟨rfl, rfl⟩)
  go_ret
  exact ⟨ret_bool HW.out, rfl⟩
end
end Go.Proofs.YtdnincnfamcchaaDoor
