/- bloom's reference: a vector of bools, New, four, Places. -/
import Derived.Test.YteodhbkhkecigaaActs
namespace Go.Proofs.Yteodhbkhkecigaa
open Go.RowKit

/-- The first n bits of f, as cells. -/
def bools (n : Nat) (f : Nat → Bool) : Array Value := ((List.range n).map fun i => Value.bool (f i)).toArray
theorem bools_size (n : Nat) (f : Nat → Bool) : (bools n f).size = n := by simp [bools]
theorem bools_get (n : Nat) (f : Nat → Bool) (i : Nat) (h : i < n) : (bools n f)[i]? = some (.bool (f i)) := by
  rw [bools, List.getElem?_toArray, List.getElem?_map, List.getElem?_range h]; rfl
theorem bools_ext (n : Nat) (f g : Nat → Bool) (h : ∀ i, i < n → f i = g i) : bools n f = bools n g := by
  unfold bools
  congr 1
  apply List.map_congr_left
  intro i hi
  rw [List.mem_range] at hi
  rw [h i hi]
theorem bools_set (n : Nat) (f g : Nat → Bool) (i : Nat) (v : Bool) (hv : v = g i) (h : ∀ k, k < n → k ≠ i → g k = f k) : (bools n f).setIfInBounds i (.bool v) = bools n g := by
  subst hv
  unfold bools
  rw [List.setIfInBounds_toArray]
  congr 1
  apply List.ext_getElem
  · simp
  · intro j h1 h2
    rw [List.getElem_set]
    by_cases e : i = j
    · subst e; simp
    · rw [if_neg e]
      simp only [List.getElem_map, List.getElem_range]
      simp at h2
      rw [h j h2 (fun e' => e e'.symm)]
theorem bools_zero (n : Nat) : bools n (fun _ => false) = (List.replicate n (Value.bool false)).toArray := by
  unfold bools
  congr 1
  apply List.ext_getElem <;> simp

/-- The reference's vector at block g, its bits in block h. -/
structure RV (w : World) (g h n probes : Nat) (f : Nat → Bool) : Prop where
  obj : w.heap[g]? = some (.cells #[.slice (some ⟨h, 0, none⟩) n n, .int .i64 probes] 51 (0, 0))
  row : w.heap[h]? = some (.cells (bools n f) 4 (0, 0))
  lim : n ≤ 1048576 ∧ probes ≤ 30
theorem RV.cells {w : World} {g h n probes : Nat} {f : Nat → Bool} (V : RV w g h n probes f) :
    w.cell? ⟨g, 0, none⟩ = some (.slice (some ⟨h, 0, none⟩) n n) ∧ w.cell? ⟨g, 1, none⟩ = some (.int .i64 probes) := by
  refine ⟨?_, ?_⟩ <;> rw [cell_of_row _ _ _ _ _ _ V.obj] <;> rfl
theorem RV.bit {w : World} {g h n probes : Nat} {f : Nat → Bool} (V : RV w g h n probes f) (i : Nat) (hi : i < n) : w.cell? ⟨h, i, none⟩ = some (.bool (f i)) := by
  rw [cell_of_row _ _ _ _ _ _ V.row, bools_get _ _ _ hi]
theorem RV.free {w : World} {g h n probes : Nat} {f : Nat → Bool} (V : RV w g h n probes f) (i : Nat) : w.frozen? ⟨h, i, none⟩ = false := free_row V.row i
theorem RV.glt {w : World} {g h n probes : Nat} {f : Nat → Bool} (V : RV w g h n probes f) : g < w.heap.size := by
  rcases Nat.lt_or_ge g w.heap.size with hh | hh
  · exact hh
  · have := V.obj; rw [Array.getElem?_eq_none hh] at this; cases this
theorem RV.hlt {w : World} {g h n probes : Nat} {f : Nat → Bool} (V : RV w g h n probes f) : h < w.heap.size := by
  rcases Nat.lt_or_ge h w.heap.size with hh | hh
  · exact hh
  · have := V.row; rw [Array.getElem?_eq_none hh] at this; cases this
theorem RV.kept {w w' : World} {g h n probes : Nat} {f : Nat → Bool} {r : Option Nat} (V : RV w g h n probes f) (hg : w.grownBy w' r) (h1 : some g ≠ r) (h2 : some h ≠ r) : RV w' g h n probes f :=
  ⟨(hg.block g V.glt h1).trans V.obj, (hg.block h V.hlt h2).trans V.row, V.lim⟩
theorem RV.set {w : World} {g h n probes : Nat} {f f' : Nat → Bool} (V : RV w g h n probes f) (hgh : g ≠ h) (i : Nat) (v : Bool) (hv : v = f' i) (hf : ∀ k, k < n → k ≠ i → f' k = f k) : RV (w.setCell ⟨h, i, none⟩ (.bool v)) g h n probes f' := by
  refine ⟨?_, ?_, V.lim⟩
  · rw [Below.heap_setCell _ _ _ _ hgh]; exact V.obj
  · rw [setCell_row V.row, bools_set n f f' i v hv hf]
theorem RV.congr {w : World} {g h n probes : Nat} {f f' : Nat → Bool} (V : RV w g h n probes f) (hf : ∀ k, k < n → f k = f' k) : RV w g h n probes f' := ⟨V.obj, by rw [← bools_ext n f f' hf]; exact V.row, V.lim⟩
theorem RV.drewN {w : World} {g h n probes : Nat} {f : Nat → Bool} (V : RV w g h n probes f) (q : Nat) : RV (w.drewN q) g h n probes f := ⟨V.obj, V.row, V.lim⟩

theorem Try.info4 : (Try.prog.info? 4).map (fun i => (i.zero, i.size, i.bytes)) = some (some (.bool false), 1, 1) := by kernel_rfl
theorem Try.info3' : (Try.prog.info? 3).map (fun i => (i.zero, i.size, i.bytes)) = some (some (.int .i64 0), 1, 8) := by kernel_rfl
theorem E61 : Elem Try.prog 61 3 1 8 := by
  obtain ⟨i0, hi, hz0, hz1, hz2⟩ := info_parts Try.info3'
  exact ⟨Try.underlying61, ⟨i0, _, hi, hz0, hz1, hz2, rfl⟩, by decide⟩
theorem made_bools (n : Nat) : madeCells #[.bool false] n = bools n (fun _ => false) := by rw [madeCells_rep, bools_zero]

theorem make_bools (n : Nat) (hn : n ≤ 1048576) (W : World) : (Instr.makeSlice 49 (.int .i64 (n : Int)) (.int .i64 (n : Int))).run Try.prog W = .ok (.slice (some ⟨W.heap.size, 0, none⟩) n n) (W.alloc (.cells (bools n (fun _ => false)) 4)) := by
  obtain ⟨i0, hi, hz0, hz1, hz2⟩ := info_parts Try.info4
  have := run_make (P := Try.prog) W 49 4 i0 (.bool false) Try.underlying49 hi hz0 .i64 .i64 (n : Int) (n : Int) (by omega) (Int.le_refl _) (by rw [hz2]; omega) (by omega)
  rw [Int.toNat_natCast, hz1, Nat.mul_one] at this
  rw [this, ← made_bools]
  rfl

/-- The reference's new vector. -/
def RNew (n probes : Nat) (w : World) (e : Ending) (w' : World) : Prop :=
  e = .returned (.tuple #[.pointer (some ⟨w.heap.size + 1, 0, none⟩), .int .i64 0]) ∧ w.grownBy w' none ∧ RV w' (w.heap.size + 1) w.heap.size n probes (fun _ => false) ∧ w'.heap.size = w.heap.size + 2

theorem RNew_bad (bits probes : Int) (w : World) (h : bits < 0 ∨ 1048576 < bits ∨ probes < 0 ∨ 30 < probes) :
    Calls Try.prog 13 #[.int .i64 bits, .int .i64 probes] w fun e w' => e = .returned (.tuple #[.pointer none, .int .i64 1]) ∧ w = w' := by
  by_cases h1 : bits < 0
  · go_enter Try.func13, Try.ntmps13
    go_wp2
    go_ret2
    exact ⟨rfl, rfl⟩
  · by_cases h2 : 1048576 < bits
    · go_enter Try.func13, Try.ntmps13
      go_wp2
      go_ret2
      exact ⟨rfl, rfl⟩
    · by_cases h3 : probes < 0
      · go_enter Try.func13, Try.ntmps13
        go_wp2
        go_ret2
        exact ⟨rfl, rfl⟩
      · have h4 : 30 < probes := by omega
        go_enter Try.func13, Try.ntmps13
        go_wp2
        go_ret2
        exact ⟨rfl, rfl⟩

theorem RNew_any (n probes : Nat) (w : World) (h1 : n ≤ 1048576) (h2 : probes ≤ 30) :
    Calls Try.prog 13 #[.int .i64 n, .int .i64 probes] w (RNew n probes w) := by
  have hmk := make_bools n h1
  go_enter Try.func13, Try.ntmps13
  go_wp2
  go_ret2
  refine ⟨rfl, ?_, ?_, by simp⟩
  · exact grown_trans (grown_alloc _ _ _) (grown_alloc _ _ _)
  · refine ⟨?_, ?_, ⟨h1, h2⟩⟩
    · have := heap_alloc_last (w.alloc (.cells (bools n (fun _ => false)) 4)) (.cells #[.slice (some ⟨w.heap.size, 0, none⟩) n n, .int .i64 probes] 51)
      rw [World.size_alloc] at this
      exact this
    · rw [Below.heap_alloc _ _ _ (by simp)]; exact heap_alloc_last _ _

/-- The number of the first i of the four bytes from at on. -/
def preN (b : Nat → Nat) (at_ : Nat) : Nat → Nat
  | 0 => 0
  | i + 1 => preN b at_ i * 256 + b (at_ + i)
theorem preN_lt (b : Nat → Nat) (at_ : Nat) (hb : ∀ i, b i < 256) : ∀ i, preN b at_ i < 256 ^ i
  | 0 => by simp [preN]
  | i + 1 => by have := preN_lt b at_ hb i; have := hb (at_ + i); simp only [preN]; rw [Nat.pow_succ]; omega
theorem preN_four (b : Nat → Nat) (at_ : Nat) : preN b at_ 4 = word4 (b at_) (b (at_ + 1)) (b (at_ + 2)) (b (at_ + 3)) := by simp [preN, word4]

set_option maxHeartbeats 400000 in
theorem four_any (k : Array Value) (b : Nat → Nat) (at_ : Nat) (w : World) (hk : k.size = 32) (hkb : ∀ i, i < 32 → k[i]? = some (.int .u8 (b i))) (hb : ∀ i, b i < 256) (hat : at_ ≤ 28) :
    Calls Try.prog 27 #[.agg k, .int .i64 at_] w fun e w' => e = .returned (.int .u32 (preN b at_ 4)) ∧ w.grownBy w' none := by
  have HC := Lib.hid (show ∀ i, i < 32 → (w.alloc (.cells k 32)).cell? ⟨w.heap.size, i, none⟩ = some (.int .u8 (b i)) from fun i hi => (World.cell?_alloc_new w k 32 i).trans (hkb i hi))
  have HB := Lib.hid hb
  have HG := Lib.hid (grown_alloc w (.cells k 32) none)
  clear hkb hb hk
  go_enter Try.func27, Try.ntmps27
  go_wp2
  generalize w.alloc (.cells k 32) = W at *
  go_loopg [5, 6] 4 (fun kq v5 v6 w' => ∃ i : Nat, v6 = .int .i64 (i : Int) ∧ i + kq = 4 ∧ v5 = .int .u32 (preN b at_ i) ∧ w' = W)
  case atStart => exact ⟨0, rfl, rfl, rfl, rfl⟩
  case round =>
    obtain ⟨i, rfl, hi, rfl, rfl⟩ := hrel
    by_cases hlt : i < 4
    · have hp := preN_lt b at_ HB.out i
      have hp2 : preN b at_ i ≤ 16777215 := by
        have : 256 ^ i ≤ 256 ^ 3 := Nat.pow_le_pow_right (by decide) (by omega)
        omega
      have hby := HB.out (at_ + i)
      have hcell := HC.out (at_ + i) (by omega)
      have HS := Lib.hid (show preN b at_ (i + 1) = preN b at_ i * 256 + b (at_ + i) from rfl)
      have e2 : ((at_ : Int) + (i : Int)).toNat = at_ + i := by omega
      clear hp
      generalize preN b at_ i = x at *
      generalize b (at_ + i) = y at *
      go_wp2
      go_roundg (4 - (i + 1))
      case measure => omega
      case rel => exact ⟨i + 1, by go_num, by omega, by rw [HS.out]; go_num, rfl⟩
    · obtain rfl : i = 4 := by omega
      go_wp2
      go_ret
      exact ⟨rfl, HG.out⟩

end Go.Proofs.Yteodhbkhkecigaa
