/- Texts of the proof, one behind the other: space: its words, turned and read. space: turn, New, Hold, Free. -/
import Derived.Test.YtcklcffepedklaaGreatProg
import Derived.Test.YtcklcffepedklaaGreatM01
import Derived.Test.YtcklcffepedklaaGreatM26
import Derived.Shelf.Spec.TrailingZeros
import Derived.Test.YtcklcffepedklaaGreatM02
namespace Go.Proofs.YtcklcffepedklaaGreat.Sp
open Go.RowKit

/-- The words as cells. -/
def wcells (l : List Int) : Array Value := (l.map (Value.int .u64)).toArray
theorem wcells_size (l : List Int) : (wcells l).size = l.length := by simp [wcells]
theorem wcells_get (l : List Int) (k : Nat) (h : k < l.length) : (wcells l)[k]? = some (.int .u64 (l.getD k 0)) := by
  unfold wcells
  rw [List.getElem?_toArray, List.getElem?_map, List.getD_eq_getElem?_getD, List.getElem?_eq_getElem h]; rfl
theorem wcells_set (l : List Int) (k : Nat) (x : Int) : (wcells l).setIfInBounds k (.int .u64 x) = wcells (l.set k x) := by
  unfold wcells
  rw [List.setIfInBounds_toArray, List.map_set]

/-- A space of n places, in m words, at block g, its words in block h; f: which are taken. -/
structure Sp (w : World) (g h n m : Nat) (f : Nat → Bool) : Prop where
  obj : w.heap[g]? = some (.cells #[.slice (some ⟨h, 0, none⟩) m m, .int .i64 n, .int .i64 ((takenL f n).length : Nat)] 137 (0, 0))
  row : w.heap[h]? = some (.cells (wcells (wpack m f)) 67 (0, 0))
  lim : n ≤ 16384 ∧ n ≤ 64 * m ∧ 64 * m < n + 64
  out : ∀ p, n ≤ p → f p = false
  ne : g ≠ h

section
variable {w : World} {g h n m : Nat} {f : Nat → Bool}
theorem Sp.cells (V : Sp w g h n m f) : w.cell? ⟨g, 0, none⟩ = some (.slice (some ⟨h, 0, none⟩) m m) ∧ w.cell? ⟨g, 1, none⟩ = some (.int .i64 n) ∧ w.cell? ⟨g, 2, none⟩ = some (.int .i64 ((takenL f n).length : Nat)) := by
  refine ⟨?_, ?_, ?_⟩ <;> rw [cell_of_row _ _ _ _ _ _ V.obj] <;> rfl
theorem Sp.word (V : Sp w g h n m f) (i : Nat) (hi : i < m) : w.cell? ⟨h, i, none⟩ = some (.int .u64 (wordN f i)) := by
  rw [cell_of_row _ _ _ _ _ _ V.row, wcells_get _ _ (by rw [wpack_length]; exact hi), wpack_get _ _ _ hi]
theorem Sp.kept {R : Nat → Prop} {w' : World} (V : Sp w g h n m f) (hc : Chg R w w') (h1 : ¬ R g) (h2 : ¬ R h) : Sp w' g h n m f :=
  ⟨(hc.block g (row_lt V.obj) h1).trans V.obj, (hc.block h (row_lt V.row) h2).trans V.row, V.lim, V.out, V.ne⟩
end

set_option maxRecDepth 20000 in
theorem Has_nil (v : Value) (w : World) : Calls Tryz.prog 85 #[.pointer none, v] w fun e w' => e = .returned (.bool false) ∧ w = w' := by
  go_enter Tryz.func85, Tryz.ntmps85
  go_wp2
  go_ret
  exact ⟨rfl, rfl⟩
set_option maxRecDepth 20000 in
theorem Len_nil (w : World) : Calls Tryz.prog 84 #[.pointer none] w fun e w' => e = .returned (.int .i64 0) ∧ w = w' := by
  go_enter Tryz.func84, Tryz.ntmps84
  go_wp2
  go_ret
  exact ⟨rfl, rfl⟩
set_option maxRecDepth 20000 in
theorem Hold_nil (v : Value) (w : World) : Calls Tryz.prog 86 #[.pointer none, v] w fun e w' => e = .returned (.int .i64 2) ∧ w = w' := by
  go_enter Tryz.func86, Tryz.ntmps86
  go_wp2
  go_ret
  exact ⟨rfl, rfl⟩
section
variable {w : World} {g h n m : Nat} {f : Nat → Bool}
set_option maxRecDepth 20000 in
theorem Len_any (V : Sp w g h n m f) : Calls Tryz.prog 84 #[.pointer (some ⟨g, 0, none⟩)] w fun e w' => e = .returned (.int .i64 n) ∧ w = w' := by
  obtain ⟨c0, c1, c2⟩ := V.cells
  clear V
  go_enter Tryz.func84, Tryz.ntmps84
  go_wp2
  go_ret
  exact ⟨rfl, rfl⟩
set_option maxRecDepth 20000 in
theorem there_yes (V : Sp w g h n m f) (p : Nat) (hp : p < n) : Calls Tryz.prog 111 #[.pointer (some ⟨g, 0, none⟩), .int .i64 p] w fun e w' => e = .returned (.bool true) ∧ w = w' := by
  obtain ⟨c0, c1, c2⟩ := V.cells
  have hl := V.lim
  have hp1 : (p : Int) < (n : Int) := by omega
  have hp0 : (0 : Int) ≤ (p : Int) := by omega
  clear V
  go_enter Tryz.func111, Tryz.ntmps111
  go_wp2
  go_ret
  exact ⟨rfl, rfl⟩
set_option maxRecDepth 20000 in
theorem there_no (V : Sp w g h n m f) (x : Int) (hp : x < 0 ∨ (n : Int) ≤ x) : Calls Tryz.prog 111 #[.pointer (some ⟨g, 0, none⟩), .int .i64 x] w fun e w' => e = .returned (.bool false) ∧ w = w' := by
  obtain ⟨c0, c1, c2⟩ := V.cells
  have hl := V.lim
  clear V
  by_cases h0 : x < 0
  · clear hp
    go_enter Tryz.func111, Tryz.ntmps111
    go_wp2
    go_ret
    exact ⟨rfl, rfl⟩
  · have h1 : ¬ x < (n : Int) := by omega
    clear hp
    go_enter Tryz.func111, Tryz.ntmps111
    go_wp2
    go_ret
    exact ⟨rfl, rfl⟩

theorem and63 (p : Nat) (hp : p < 16384) : Go.bits BinOp.and IntKind.i64 (p : Int) 63 = (p : Int) % 64 := by
  have hx : p &&& 63 < 2 ^ 63 := Nat.and_lt_two_pow _ (by omega)
  have ofI : ∀ a : Nat, a < 9223372036854775808 → (BitVec.ofInt 64 (a : Int)).toNat = a := fun a ha => by
    rw [BitVec.ofInt_natCast, BitVec.toNat_ofNat]; exact Nat.mod_eq_of_lt (by omega)
  have h6 : p &&& 63 = p % 64 := Nat.and_two_pow_sub_one_eq_mod p 6
  show IntKind.i64.wrap ((BitVec.ofInt 64 (p : Int) &&& BitVec.ofInt 64 (63 : Int)).toNat : Int) = _
  rw [BitVec.toNat_and, ofI p (by omega), show (63 : Int) = ((63 : Nat) : Int) from rfl, ofI 63 (by omega), h6, IntKind.wrap_i64]
  omega
theorem u64_and1 (z : Nat) (hz : z < 18446744073709551616) : Go.bits BinOp.and IntKind.u64 (z : Int) 1 = ((z % 2 : Nat) : Int) := by
  have := bits_and_u64_nat z 1 hz (by omega)
  rw [show z &&& 1 = z % 2 from Nat.and_two_pow_sub_one_eq_mod z 1] at this
  exact this
theorem cast_pow (j : Nat) : (2 : Int) ^ j = ((2 ^ j : Nat) : Int) := by rw [Int.natCast_pow]; rfl
theorem word_test (f : Nat → Bool) (p : Nat) : (Go.bits BinOp.and IntKind.u64 ((wordN f (p / 64) : Nat) / 2 ^ (p % 64) : Int) 1 == 1) = f p := by
  have h1 := wordN_lt f (p / 64)
  have h2 := word_is f p
  rw [cast_pow, ← Int.natCast_ediv, u64_and1 _ (Nat.lt_of_le_of_lt (Nat.div_le_self _ _) h1), h2]
  cases f p <;> rfl

set_option maxRecDepth 20000 in
theorem Has_no (V : Sp w g h n m f) (x : Int) (hp : x < 0 ∨ (n : Int) ≤ x) : Calls Tryz.prog 85 #[.pointer (some ⟨g, 0, none⟩), .int .i64 x] w fun e w' => e = .returned (.bool false) ∧ w = w' := by
  have HT := Lib.hid (there_no V x hp)
  clear V hp
  go_enter Tryz.func85, Tryz.ntmps85
  go_wp2_with (go_at_call 111; refine HT.out.mono ?_; rintro e w' ⟨rfl, rfl⟩)
  go_ret
  exact ⟨rfl, rfl⟩
set_option maxRecDepth 20000 in
theorem Has_yes (V : Sp w g h n m f) (p : Nat) (hp : p < n) : Calls Tryz.prog 85 #[.pointer (some ⟨g, 0, none⟩), .int .i64 p] w fun e w' => e = .returned (.bool (f p)) ∧ w = w' := by
  have HT := Lib.hid (there_yes V p hp)
  obtain ⟨c0, c1, c2⟩ := V.cells
  have hl := V.lim
  have hw := V.word (p / 64) (by omega)
  have hand := and63 p (by omega)
  have HW := Lib.hid (word_test f p)
  have hp0 : (0 : Int) ≤ (p : Int) % 64 := by omega
  have hp1 : (p : Int) / 64 < (m : Int) := by omega
  have hp2 : (0 : Int) ≤ (p : Int) / 64 := by omega
  have hlt := wordN_lt f (p / 64)
  clear V
  go_enter Tryz.func85, Tryz.ntmps85
  go_wp2_with (go_at_call 111; refine HT.out.mono ?_; rintro e w' ⟨rfl, rfl⟩)
  go_ret
  exact ⟨ret_bool HW.out, rfl⟩
end
end Go.Proofs.YtcklcffepedklaaGreat.Sp

namespace Go.Proofs.YtcklcffepedklaaGreat.Sp
open Go.RowKit

theorem xor_u64 (a b : Nat) (ha : a < 18446744073709551616) (hb : b < 18446744073709551616) : Go.bits BinOp.xor IntKind.u64 (a : Int) (b : Int) = ((a ^^^ b : Nat) : Int) := by
  have hx : a ^^^ b < 2 ^ 64 := Nat.xor_lt_two_pow (by omega) (by omega)
  have ofI : ∀ a : Nat, a < 18446744073709551616 → (BitVec.ofInt 64 (a : Int)).toNat = a := fun a ha => by
    rw [BitVec.ofInt_natCast, BitVec.toNat_ofNat]; exact Nat.mod_eq_of_lt (by omega)
  show IntKind.u64.wrap ((BitVec.ofInt 64 (a : Int) ^^^ BitVec.ofInt 64 (b : Int)).toNat : Int) = _
  rw [BitVec.toNat_xor, ofI a ha, ofI b hb, IntKind.wrap_u64]
  omega
theorem pow64 (p : Nat) : (2 : Nat) ^ (p % 64) < 18446744073709551616 := by
  have h : p % 64 < 64 := Nat.mod_lt _ (by decide)
  exact Nat.lt_of_lt_of_le (Nat.pow_lt_pow_right (a := 2) (by decide) h) (Nat.le_refl _)
theorem word_turn (f : Nat → Bool) (p : Nat) : Go.bits BinOp.xor IntKind.u64 ((wordN f (p / 64) : Nat) : Int) (IntKind.u64.wrap (2 ^ (p % 64))) = ((wordN (turnF f p) (p / 64) : Nat) : Int) := by
  rw [IntKind.wrap_u64]
  have h1 := wordN_lt f (p / 64)
  have h2 := pow64 p
  have h3 := xor_u64 (wordN f (p / 64)) (2 ^ (p % 64)) h1 h2
  rw [wordN_turn] at h3
  have e : (2 : Int) ^ (p % 64) % 18446744073709551616 = ((2 ^ (p % 64) : Nat) : Int) := by
    rw [cast_pow]
    generalize 2 ^ (p % 64) = z at *
    omega
  rw [e]; exact h3

/-- Only the blocks g and h. -/
def Two (g h : Nat) : Nat → Prop := fun k => k = g ∨ k = h
theorem two_set (w : World) (g h i j : Nat) (u v : Value) : Chg (Two g h) w ((w.setCell ⟨h, i, none⟩ u).setCell ⟨g, j, none⟩ v) :=
  ((Chg.of (grown_setCell w h i u)).mono (fun k e => Or.inr (by injection e))).trans ((Chg.of (grown_setCell _ g j v)).mono (fun k e => Or.inl (by injection e)))

theorem Sp.turned {w : World} {g h n m : Nat} {f : Nat → Bool} (V : Sp w g h n m f) (p : Nat) (hp : p < n) (y : Int) (hy : y = (takenL f n).length + (if f p then -1 else 1)) :
    Sp ((w.setCell ⟨h, p / 64, none⟩ (.int .u64 (wordN (turnF f p) (p / 64)))).setCell ⟨g, 2, none⟩ (.int .i64 y)) g h n m (turnF f p) := by
  have hl := V.lim
  have h1 : (w.setCell ⟨h, p / 64, none⟩ (.int .u64 (wordN (turnF f p) (p / 64)))).heap[g]? = w.heap[g]? := Below.heap_setCell _ _ _ _ (fun e => V.ne e)
  refine ⟨?_, ?_, V.lim, ?_, V.ne⟩
  · rw [setCell_row (h1.trans V.obj)]
    have hty : y = ((takenL (turnF f p) n).length : Nat) := by rw [turn_len f p n hp]; exact hy
    rw [hty]; rfl
  · rw [Below.heap_setCell _ _ _ _ (fun e => V.ne e.symm), setCell_row V.row, wcells_set, wpack_set _ _ _ _ (by omega)]
    intro k _ hk
    unfold turnF
    rw [if_neg (fun e => hk (by rw [e]))]
  · intro q hq
    unfold turnF
    rw [if_neg (by omega)]
    exact V.out q hq

section
variable {w : World} {g h n m : Nat} {f : Nat → Bool}
set_option maxRecDepth 20000 in
set_option maxHeartbeats 400000 in
theorem turn_any (V : Sp w g h n m f) (p : Nat) (hp : p < n) (b : Int) (hb : b = if f p then -1 else 1) (z : Int) (hz : z = p) :
    Calls Tryz.prog 112 #[.pointer (some ⟨g, 0, none⟩), .int .i64 z, .int .i64 b] w fun e w' => e = .returned (.tuple #[]) ∧ Chg (Two g h) w w' ∧ Sp w' g h n m (turnF f p) := by
  subst hz
  obtain ⟨c0, c1, c2⟩ := V.cells
  have hl := V.lim
  have hw := V.word (p / 64) (by omega)
  have hand := and63 p (by omega)
  have HW := Lib.hid (word_turn f p)
  have hp0 : (0 : Int) ≤ (p : Int) % 64 := by omega
  have hp1 : (p : Int) / 64 < (m : Int) := by omega
  have hp2 : (0 : Int) ≤ (p : Int) / 64 := by omega
  have hlt := wordN_lt f (p / 64)
  have f1 := free_row V.row (p / 64)
  have f2 := free_row V.obj 2
  have hne := V.ne
  have hlen := takenL_le f n
  have hbb : -1 ≤ b ∧ b ≤ 1 := by rw [hb]; cases f p <;> simp
  have hb1 := hbb.1
  have hb2 := hbb.2
  have htl : f p = true → 0 < (takenL f n).length := fun ht => by
    have : p ∈ takenL f n := (takenL_mem f n p).2 ⟨hp, ht⟩
    exact List.length_pos_of_mem this
  have HT := Lib.hid (V.turned p hp ((takenL f n).length + b) (by rw [hb]))
  have HC := Lib.hid (two_set w g h (p / 64) 2 (.int .u64 (wordN (turnF f p) (p / 64))) (.int .i64 ((takenL f n).length + b)))
  obtain ⟨tl, htl2⟩ : ∃ z, (takenL f n).length = z := ⟨_, rfl⟩
  rw [htl2] at HT HC c2 hlen
  have c2' : (w.setCell ⟨h, p / 64, none⟩ (.int .u64 (wordN (turnF f p) (p / 64)))).cell? ⟨g, 2, none⟩ = some (.int .i64 (tl : Int)) := (World.cell?_of_block (w := w) (Below.heap_setCell _ _ _ _ (fun e => hne e))).trans c2
  clear V hb hbb htl htl2
  go_enter Tryz.func112, Tryz.ntmps112
  go_wp2_with fail
  go_region
  go_wp2
  go_end0
  rw [HW.out]
  exact ⟨rfl, ⟨HC.out.os, HC.out.tape, HC.out.output, HC.out.size, HC.out.block⟩, ⟨HT.out.obj, HT.out.row, HT.out.lim, HT.out.out, HT.out.ne⟩⟩

set_option maxRecDepth 20000 in
theorem Hold_no (V : Sp w g h n m f) (x : Int) (hp : x < 0 ∨ (n : Int) ≤ x) : Calls Tryz.prog 86 #[.pointer (some ⟨g, 0, none⟩), .int .i64 x] w fun e w' => e = .returned (.int .i64 1) ∧ w = w' := by
  have HT := Lib.hid (there_no V x hp)
  clear V hp
  go_enter Tryz.func86, Tryz.ntmps86
  go_wp2_with (go_at_call 111; refine HT.out.mono ?_; rintro e w' ⟨rfl, rfl⟩)
  go_ret
  exact ⟨rfl, rfl⟩
set_option maxRecDepth 20000 in
theorem Hold_there (V : Sp w g h n m f) (p : Nat) (hp : p < n) (hf : f p = true) : Calls Tryz.prog 86 #[.pointer (some ⟨g, 0, none⟩), .int .i64 p] w fun e w' => e = .returned (.int .i64 3) ∧ w = w' := by
  have HT := Lib.hid (there_yes V p hp)
  have hH := Has_yes V p hp
  rw [hf] at hH
  have HH := Lib.hid hH
  clear V hp hH hf
  go_enter Tryz.func86, Tryz.ntmps86
  go_wp2_with (first | (go_at_call 111; refine HT.out.mono ?_; rintro e w' ⟨rfl, rfl⟩) | (go_at_call 85; refine HH.out.mono ?_; rintro e w' ⟨rfl, rfl⟩))
  go_ret
  exact ⟨rfl, rfl⟩
set_option maxRecDepth 20000 in
theorem Hold_yes (V : Sp w g h n m f) (p : Nat) (hp : p < n) (hf : f p = false) : Calls Tryz.prog 86 #[.pointer (some ⟨g, 0, none⟩), .int .i64 p] w fun e w' => e = .returned (.int .i64 0) ∧ Chg (Two g h) w w' ∧ Sp w' g h n m (turnF f p) := by
  have HT := Lib.hid (there_yes V p hp)
  have hH := Has_yes V p hp
  rw [hf] at hH
  have HH := Lib.hid hH
  have HTU := Lib.hid (turn_any V p hp 1 (by rw [hf]; rfl) p rfl)
  clear V hp hH hf
  go_enter Tryz.func86, Tryz.ntmps86
  go_wp2_with (first | (go_at_call 111; refine HT.out.mono ?_; rintro e w' ⟨rfl, rfl⟩) | (go_at_call 85; refine HH.out.mono ?_; rintro e w' ⟨rfl, rfl⟩) | (go_at_call 112; refine HTU.out.mono ?_; rintro e w' ⟨rfl, hc, hs⟩))
  go_ret
  exact ⟨rfl, hc, hs⟩
end

set_option maxRecDepth 20000 in
theorem New_bad (x : Int) (w : World) (h : x < 0 ∨ 16384 < x) : Calls Tryz.prog 31 #[.int .i64 x] w fun e w' => e = .returned (.tuple #[.pointer none, .int .i64 1]) ∧ w = w' := by
  by_cases h1 : x < 0
  · go_enter Tryz.func31, Tryz.ntmps31
    go_wp2
    go_ret2
    exact ⟨rfl, rfl⟩
  · have h2 : 16384 < x := by omega
    go_enter Tryz.func31, Tryz.ntmps31
    go_wp2
    go_ret2
    exact ⟨rfl, rfl⟩

theorem Tryz.info67 : (Tryz.prog.info? 67).map (fun i => (i.zero, i.size, i.bytes)) = some (some (.int .u64 0), 1, 8) := by kernel_rfl
theorem made_words (m : Nat) : madeCells #[.int .u64 0] m = wcells (wpack m (fun _ => false)) := by
  rw [madeCells_rep, wpack_zero, wcells, List.map_replicate]
/-- A new space. -/
def NewSp (n m : Nat) (w : World) (e : Ending) (w' : World) : Prop :=
  e = .returned (.tuple #[.pointer (some ⟨w.heap.size + 1, 0, none⟩), .int .i64 0]) ∧ w.grownBy w' none ∧ Sp w' (w.heap.size + 1) w.heap.size n m (fun _ => false) ∧ w'.heap.size = w.heap.size + 2
set_option maxRecDepth 20000 in
theorem New_any (n m : Nat) (w : World) (h1 : n ≤ 16384) (h2 : m = (n + 63) / 64) : Calls Tryz.prog 31 #[.int .i64 n] w (NewSp n m w) := by
  obtain ⟨i0, hi, hz0, hz1, hz2⟩ := info_parts Tryz.info67
  have hmI : ((n : Int) + 63) / 64 = (m : Int) := by omega
  have hml : n ≤ 64 * m ∧ 64 * m < n + 64 := by omega
  have hm3 : m ≤ 257 := by omega
  have hmk : ∀ W : World, (Instr.makeSlice 134 (.int .i64 (((n : Int) + 63) / 64)) (.int .i64 (((n : Int) + 63) / 64))).run Tryz.prog W = .ok (.slice (some ⟨W.heap.size, 0, none⟩) m m) (W.alloc (.cells (wcells (wpack m (fun _ => false))) 67)) := by
    intro W
    have := run_make (P := Tryz.prog) W 134 67 i0 (.int .u64 0) Tryz.underlying134 hi hz0 .i64 .i64 (((n : Int) + 63) / 64) (((n : Int) + 63) / 64) (by omega) (Int.le_refl _) (by rw [hz2]; omega) (by omega)
    rw [hmI, Int.toNat_natCast, hz1, Nat.mul_one] at this
    rw [hmI, this, ← made_words]
    rfl
  have HL := Lib.hid hml
  have HT := Lib.hid (show (takenL (fun _ => false) n).length = 0 by unfold takenL; rw [List.filter_eq_nil_iff.2 (fun a _ => by simp)]; rfl)
  clear h2 hmI hml
  go_enter Tryz.func31, Tryz.ntmps31
  go_wp2
  go_ret2
  refine ⟨rfl, ?_, ?_, by simp⟩
  · exact grown_trans (grown_alloc _ _ _) (grown_alloc _ _ _)
  · refine ⟨?_, ?_, ⟨h1, HL.out⟩, fun _ _ => rfl, by simp⟩
    · rw [HT.out]
      have := heap_alloc_last (w.alloc (.cells (wcells (wpack m (fun _ => false))) 67)) (.cells #[.slice (some ⟨w.heap.size, 0, none⟩) m m, .int .i64 n, .int .i64 0] 137)
      rw [World.size_alloc] at this
      exact this
    · rw [Below.heap_alloc _ _ _ (by simp)]; exact heap_alloc_last _ _

end Go.Proofs.YtcklcffepedklaaGreat.Sp
