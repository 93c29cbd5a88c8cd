/- bloom: slices of keys; four summaries. -/
import Derived.Test.YteodhbkhkecigaaShown
namespace Go.Proofs.Yteodhbkhkecigaa
open Go.RowKit

/-- A key: its 32 bytes and its number. -/
abbrev KeyT := (Nat → Nat) × Nat
/-- The slice at A holds the keys ks. -/
def Keys (w : World) (A : Option Addr) (ks : List KeyT) : Prop :=
  ∀ i (h : i < ks.length), ∃ (b o : Nat) (k : Array Value), A = some ⟨b, o, none⟩ ∧ b < w.heap.size ∧ w.rangeAt b (o + i * 33) k.toList ∧ KeyC k (ks[i]).1 (ks[i]).2
theorem rangeAt_block {w w' : World} {b o : Nat} {cs : List Value} (h : w.rangeAt b o cs) (hb : w'.heap[b]? = w.heap[b]?) : w'.rangeAt b o cs :=
  fun j v hj => (World.cell?_of_block (w := w) hb).trans (h j v hj)
theorem Keys.grown {w w' : World} {A : Option Addr} {ks : List KeyT} {r : Option Nat} (h : Keys w A ks) (hg : w.grownBy w' r) (hr : ∀ q, r = some q → ∀ ad, A = some ad → ad.block ≠ q) : Keys w' A ks := by
  intro i hi
  obtain ⟨b, o, k, e, hb, hk, hc⟩ := h i hi
  exact ⟨b, o, k, e, Nat.lt_of_lt_of_le hb hg.size, rangeAt_block hk (hg.block b hb (fun he => hr b he.symm _ e rfl)), hc⟩
theorem Keys.below {w w' : World} {A : Option Addr} {ks : List KeyT} (h : Keys w A ks) (hb : Below w.heap.size w w') : Keys w' A ks := h.grown (below_grown hb none) (fun _ h => by cases h)
theorem Keys.take {w : World} {A : Option Addr} {ks : List KeyT} (h : Keys w A ks) (n : Nat) : Keys w A (ks.take n) := by
  intro i hi
  rw [List.length_take] at hi
  obtain ⟨b, o, k, e, hb, hk, hc⟩ := h i (by omega)
  exact ⟨b, o, k, e, hb, hk, by rw [List.getElem_take]; exact hc⟩

/-- The places of the keys that a test lets by. -/
def anyK (bits probes : Nat) (ks : List KeyT) (n : Nat) (p : Nat → Bool) : Nat → Bool := fun q => (List.range n).any fun j => p j && (placesK bits probes (ks.getD j (fun _ => 0, 0)).1 (ks.getD j (fun _ => 0, 0)).2).contains q

/-- Four summaries, whose pointers stand in an array at block vb: they lie in the blocks s .. s + 7. -/
structure Four (w : World) (vb s bits probes : Nat) (f0 f1 f2 f3 : Nat → Bool) : Prop where
  arr : w.heap[vb]? = some (.cells #[.pointer (some ⟨s + 1, 0, none⟩), .pointer (some ⟨s + 3, 0, none⟩), .pointer (some ⟨s + 5, 0, none⟩), .pointer (some ⟨s + 7, 0, none⟩)] 26 (0, 0))
  v0 : Vec w (s + 1) s bits probes f0
  v1 : Vec w (s + 3) (s + 2) bits probes f1
  v2 : Vec w (s + 5) (s + 4) bits probes f2
  v3 : Vec w (s + 7) (s + 6) bits probes f3
  lt : vb < s
theorem Four.ptr {w : World} {vb s bits probes : Nat} {f0 f1 f2 f3 : Nat → Bool} (F : Four w vb s bits probes f0 f1 f2 f3) :
    w.cell? ⟨vb, 0, none⟩ = some (.pointer (some ⟨s + 1, 0, none⟩)) ∧ w.cell? ⟨vb, 1, none⟩ = some (.pointer (some ⟨s + 3, 0, none⟩)) ∧ w.cell? ⟨vb, 2, none⟩ = some (.pointer (some ⟨s + 5, 0, none⟩)) ∧ w.cell? ⟨vb, 3, none⟩ = some (.pointer (some ⟨s + 7, 0, none⟩)) := by
  refine ⟨?_, ?_, ?_, ?_⟩ <;> rw [cell_of_row _ _ _ _ _ _ F.arr] <;> rfl
theorem Four.vlt {w : World} {vb s bits probes : Nat} {f0 f1 f2 f3 : Nat → Bool} (F : Four w vb s bits probes f0 f1 f2 f3) : s + 7 < w.heap.size := F.v3.glt
theorem Four.kept {w w' : World} {vb s bits probes : Nat} {f0 f1 f2 f3 : Nat → Bool} (F : Four w vb s bits probes f0 f1 f2 f3) (hg : w.grownBy w' none) : Four w' vb s bits probes f0 f1 f2 f3 :=
  ⟨(hg.block vb (by have := F.lt; have := F.vlt; omega) (by simp)).trans F.arr, F.v0.kept hg (by simp) (by simp), F.v1.kept hg (by simp) (by simp), F.v2.kept hg (by simp) (by simp), F.v3.kept hg (by simp) (by simp), F.lt⟩
theorem Four.drew {w : World} {vb s bits probes : Nat} {f0 f1 f2 f3 : Nat → Bool} (F : Four w vb s bits probes f0 f1 f2 f3) : Four w.drew vb s bits probes f0 f1 f2 f3 :=
  ⟨F.arr, ⟨F.v0.obj, F.v0.row, F.v0.lim, F.v0.out⟩, ⟨F.v1.obj, F.v1.row, F.v1.lim, F.v1.out⟩, ⟨F.v2.obj, F.v2.row, F.v2.lim, F.v2.out⟩, ⟨F.v3.obj, F.v3.row, F.v3.lim, F.v3.out⟩, F.lt⟩
theorem Four.set0 {w w' : World} {vb s bits probes : Nat} {f0 f1 f2 f3 f : Nat → Bool} (F : Four w vb s bits probes f0 f1 f2 f3) (hg : w.grownBy w' (some s)) (hv : Vec w' (s + 1) s bits probes f) : Four w' vb s bits probes f f1 f2 f3 :=
  ⟨(hg.block vb (by have := F.lt; have := F.vlt; omega) (by have := F.lt; simp; omega)).trans F.arr, hv, F.v1.kept hg (by simp) (by simp), F.v2.kept hg (by simp) (by simp), F.v3.kept hg (by simp) (by simp), F.lt⟩
theorem Four.set1 {w w' : World} {vb s bits probes : Nat} {f0 f1 f2 f3 f : Nat → Bool} (F : Four w vb s bits probes f0 f1 f2 f3) (hg : w.grownBy w' (some (s + 2))) (hv : Vec w' (s + 3) (s + 2) bits probes f) : Four w' vb s bits probes f0 f f2 f3 :=
  ⟨(hg.block vb (by have := F.lt; have := F.vlt; omega) (by have := F.lt; simp; omega)).trans F.arr, F.v0.kept hg (by simp) (by simp), hv, F.v2.kept hg (by simp) (by simp), F.v3.kept hg (by simp) (by simp), F.lt⟩
theorem Four.set2 {w w' : World} {vb s bits probes : Nat} {f0 f1 f2 f3 f : Nat → Bool} (F : Four w vb s bits probes f0 f1 f2 f3) (hg : w.grownBy w' (some (s + 4))) (hv : Vec w' (s + 5) (s + 4) bits probes f) : Four w' vb s bits probes f0 f1 f f3 :=
  ⟨(hg.block vb (by have := F.lt; have := F.vlt; omega) (by have := F.lt; simp; omega)).trans F.arr, F.v0.kept hg (by simp) (by simp), F.v1.kept hg (by simp) (by simp), hv, F.v3.kept hg (by simp) (by simp), F.lt⟩
theorem Four.set3 {w w' : World} {vb s bits probes : Nat} {f0 f1 f2 f3 f : Nat → Bool} (F : Four w vb s bits probes f0 f1 f2 f3) (hg : w.grownBy w' (some (s + 6))) (hv : Vec w' (s + 7) (s + 6) bits probes f) : Four w' vb s bits probes f0 f1 f2 f :=
  ⟨(hg.block vb (by have := F.lt; have := F.vlt; omega) (by have := F.lt; simp; omega)).trans F.arr, F.v0.kept hg (by simp) (by simp), F.v1.kept hg (by simp) (by simp), F.v2.kept hg (by simp) (by simp), hv, F.lt⟩

end Go.Proofs.Yteodhbkhkecigaa
