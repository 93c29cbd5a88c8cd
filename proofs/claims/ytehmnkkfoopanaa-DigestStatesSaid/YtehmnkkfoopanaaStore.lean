/- Rows and stores, for the walks. No program in sight. -/
import Derived.Test.YtehmnkkfoopanaaBase
import Derived.Deep.MidRow
namespace Go.Proofs.Ytehmnkkfoopanaa
open Go.RowKit

theorem rangeAt_block {w w' : World} {b o : Nat} {cs : List Value} (h : w.rangeAt b o cs) (hb : w'.heap[b]? = w.heap[b]?) : w'.rangeAt b o cs :=
  fun j v hj => (World.cell?_of_block (w := w) hb).trans (h j v hj)
theorem size_setCells (g : Nat) : ∀ (vs : List Value) (o : Nat) (w : World), (w.setCells g o vs).heap.size = w.heap.size
  | [], _, _ => rfl
  | v :: r, o, w => by rw [World.setCells, size_setCells g r]; simp [World.setCell]
theorem there_alloc (w : World) (cs : Array Value) (t : TypeId) (n : Nat) (h : n ≤ cs.size) : (w.alloc (.cells cs t)).there w.heap.size 0 n := by
  intro j hj
  refine ⟨?_, free_row (heap_alloc_last w (.cells cs t)) _⟩
  rw [cell_of_row _ _ _ _ _ _ (heap_alloc_last w (.cells cs t)), Nat.zero_add, Array.getElem?_eq_getElem (by omega)]
  rfl
/-- A new variable is laid, whole. -/
theorem store_new {P : Program} (w : World) (cs0 cs : Array Value) (t : TypeId) (hl : cs0.size = cs.size) (h1 : cs.all (·.oneCell') = true) :
    ∃ w', (storeCells ⟨w.heap.size, 0, none⟩ cs.toList).run P (w.alloc (.cells cs0 t)) = .ok () w' ∧ w.grownBy w' none ∧ w'.heap[w.heap.size]? = some (.cells cs t (0, 0)) ∧ w'.heap.size = w.heap.size + 1 := by
  have ht := there_alloc w cs0 t cs.size (by omega)
  have := run_storeCells_cells (P := P) w.heap.size 0 cs.toList 0 (w.alloc (.cells cs0 t)) (fun j hj => by rw [Nat.add_zero]; exact (ht j hj).1) (fun j hj => by rw [Nat.add_zero]; exact (ht j hj).2)
    (fun v hv => (Array.all_eq_true_iff_forall_mem.1 h1) v (Array.mem_toList_iff.1 hv))
  refine ⟨_, this, ?_, ?_, ?_⟩
  · have hg := grown_setCells w.heap.size cs.toList 0 (w.alloc (.cells cs0 t))
    have ha := grown_alloc w (.cells cs0 t) none
    exact ⟨by rw [hg.os, ha.os], by rw [hg.tape, ha.tape], by rw [hg.output, ha.output], Nat.le_trans ha.size hg.size, fun i hi _ => (hg.block i (by simp; omega) (by simp; omega)).trans (ha.block i hi (by simp))⟩
  · rw [setCells_whole (heap_alloc_last w (.cells cs0 t)) (by simp [hl])]
  · rw [size_setCells]; simp
theorem rangeAt_of_row {w : World} {g : Nat} {cs : Array Value} {t : TypeId} (h : w.heap[g]? = some (.cells cs t (0, 0))) (o n : Nat) : w.rangeAt g o ((cs.toList.drop o).take n) := by
  intro j v hj
  rw [cell_of_row _ _ _ _ _ _ h]
  rw [List.getElem?_take] at hj
  split at hj
  · rw [List.getElem?_drop] at hj; simpa using hj
  · cases hj

theorem Ints.grown {k : IntKind} {w w' : World} {A : Option Addr} {l : List Int} {r : Option Nat} (h : Ints k w A l) (hg : w.grownBy w' r) (hr : ∀ ad, A = some ad → 0 < l.length → some ad.block ≠ r) : Ints k w' A l := by
  intro i hi
  obtain ⟨ad, e, hc⟩ := h i hi
  exact ⟨ad, e, (World.cell?_of_block (w := w) (by rw [add_block]; exact hg.block _ (cell_block hc) (hr ad e (by omega)))).trans hc⟩
theorem Ints.nil (k : IntKind) (w : World) (A : Option Addr) : Ints k w A [] := fun i hi => absurd hi (by simp)
theorem Ints.dropA {k : IntKind} {w : World} {A : Option Addr} {l : List Int} (h : Ints k w A l) (m : Nat) : Ints k w (A.map (·.add m)) (l.drop m) := by
  intro i hi
  rw [List.length_drop] at hi
  obtain ⟨ad, e, hc⟩ := h (m + i) (by omega)
  subst e
  refine ⟨_, rfl, ?_⟩
  rw [add_add, hc, List.getD_eq_getElem?_getD, List.getD_eq_getElem?_getD, List.getElem?_drop]
/-- A slice's address is that of its cells; its bytes are l, and it lies in block X. -/
def InBlock (A : Option Addr) (X : Nat) : Prop := ∀ ad, A = some ad → ad.block = X
theorem below_refl_grown {w w' : World} (h : w.grownBy w' none) : Below w.heap.size w w' := grown_below h (Nat.le_refl _) (fun _ h => by cases h)

end Go.Proofs.Ytehmnkkfoopanaa
