/- Words for the walks over module cellarage: slices of numbers that are read. No program in sight. -/
import Derived.WalkKit
import Derived.Deep.RegionHeld3
import Derived.Lib.Hide
import Derived.Deep.LoopGhost
import Derived.Deep.QuietTactic
import Derived.BigQuiet
namespace Go.Proofs.Yteaifjkocclomaa
open Go.RowKit

/-- The slice at A holds the numbers l, of kind k. -/
def Ints (k : IntKind) (w : World) (A : Option Addr) (l : List Int) : Prop :=
  ∀ i, i < l.length → ∃ ad, A = some ad ∧ w.cell? (ad.add i) = some (.int k (l.getD i 0))

theorem Ints.keep {k : IntKind} {w w' : World} {A : Option Addr} {l : List Int} (h : Ints k w A l) (hk : ∀ ad, A = some ad → ∀ i, w'.cell? (ad.add i) = w.cell? (ad.add i)) : Ints k w' A l := by
  intro i hi
  obtain ⟨ad, e, hc⟩ := h i hi
  exact ⟨ad, e, by rw [hk ad e, hc]⟩

theorem Ints.take {k : IntKind} {w : World} {A : Option Addr} {l : List Int} (h : Ints k w A l) (n : Nat) : Ints k w A (l.take n) := by
  intro i hi
  rw [List.length_take] at hi
  obtain ⟨ad, e, hc⟩ := h i (by omega)
  refine ⟨ad, e, ?_⟩
  rw [hc, List.getD_eq_getElem?_getD, List.getD_eq_getElem?_getD, List.getElem?_take, if_pos (by omega)]

theorem Ints.drewN {k : IntKind} {w : World} {A : Option Addr} {l : List Int} (h : Ints k w A l) (n : Nat) : Ints k (w.drewN n) A l := h
theorem add_block (a : Addr) (n : Nat) : (a.add n).block = a.block := by unfold Addr.add; split <;> rfl
theorem cell_lt {w : World} {a : Addr} {v : Value} (h : w.cell? a = some v) : a.block < w.heap.size := by
  unfold World.cell? at h
  by_cases hlt : a.block < w.heap.size
  · exact hlt
  · rw [Array.getElem?_eq_none (by omega)] at h
    simp at h
theorem cell_block {w : World} {a : Addr} {n : Nat} {v : Value} (h : w.cell? (a.add n) = some v) : a.block < w.heap.size := by
  have := cell_lt h
  rwa [add_block] at this
theorem Ints.below {k : IntKind} {w w' : World} {A : Option Addr} {l : List Int} (h : Ints k w A l) (hb : Below w.heap.size w w') : Ints k w' A l := by
  intro i hi
  obtain ⟨ad, e, hc⟩ := h i hi
  exact ⟨ad, e, (hb.cell (cell_lt hc)).trans hc⟩

theorem below_drewN {B : Nat} {a w : World} (h : Below B a w) (n : Nat) : Below B a (w.drewN n) := ⟨h.os, h.tape, h.output, h.size, h.block⟩

/-- A new slice of numbers. -/
def NewInts (k : IntKind) (B : Nat) (l : List Int) (w : World) (e : Ending) (w' : World) : Prop :=
  ∃ (A : Option Addr) (c : Nat), e = .returned (.slice A l.length c) ∧ l.length ≤ c ∧ Ints k w' A l ∧ (∀ ad, A = some ad → B ≤ ad.block ∧ ad.block < w'.heap.size) ∧ Below B w w'

theorem ints_lit (k : IntKind) (w : World) (l : List Int) (e : TypeId) : Ints k (w.alloc (.cells (l.map (Value.int k)).toArray e)) (some ⟨w.heap.size, 0, none⟩) l := by
  intro i hi
  refine ⟨_, rfl, ?_⟩
  have e1 : (⟨w.heap.size, 0, none⟩ : Addr).add i = ⟨w.heap.size, i, none⟩ := by unfold Addr.add; split <;> simp_all
  rw [e1, World.cell?_alloc_new, List.getElem?_toArray, List.getElem?_map, List.getD_eq_getElem?_getD, List.getElem?_eq_getElem hi]; rfl

theorem ints_at (k : IntKind) (w : World) (l : List Int) (e : TypeId) (n : Nat) (hn : n = w.heap.size) : Ints k (w.alloc (.cells (l.map (Value.int k)).toArray e)) (some ⟨n, 0, none⟩) l := by
  subst hn; exact ints_lit k w l e

theorem add_add (a : Addr) (i j : Nat) : (a.add i).add j = a.add (i + j) := by
  unfold Addr.add
  by_cases hi : i = 0 <;> by_cases hj : j = 0 <;> simp [hi, hj, Nat.add_assoc]
theorem Ints.drop {k : IntKind} {w : World} {ad : Addr} {l : List Int} (h : Ints k w (some ad) l) (m : Nat) : Ints k w (some (ad.add m)) (l.drop m) := by
  intro i hi
  rw [List.length_drop] at hi
  obtain ⟨ad', e, hc⟩ := h (m + i) (by omega)
  obtain rfl : ad = ad' := by injection e
  refine ⟨_, rfl, ?_⟩
  rw [add_add, hc, List.getD_eq_getElem?_getD, List.getD_eq_getElem?_getD, List.getElem?_drop]

theorem new_of_own {k : IntKind} {B e : Nat} {w : World} {v : Value} {l : List Int} (h : w.ownsRow B e 1 v l.length (l.map (Value.int k))) :
    ∃ (A : Option Addr) (c : Nat), v = .slice A l.length c ∧ l.length ≤ c ∧ Ints k w A l ∧ (∀ ad, A = some ad → B ≤ ad.block ∧ ad.block < w.heap.size) := by
  have hlt := h.lt
  have hcl : ∀ {g : Nat}, v.ownBlock = some g → _ := fun hg => h.cells hg
  obtain ⟨_, h2⟩ := h
  rcases h2 with ⟨rfl, h0⟩ | ⟨g, cap, cur, rfl, hb, hg, hn, _⟩
  · exact ⟨none, 0, by rw [h0], by omega, fun i hi => absurd hi (by omega), fun ad e => by cases e⟩
  · refine ⟨some ⟨g, 0, none⟩, cap, rfl, hn, fun i hi => ⟨_, rfl, ?_⟩, fun ad e => by cases e; exact hlt g rfl⟩
    refine hcl rfl i _ ?_
    rw [List.getElem?_map, List.getD_eq_getElem?_getD, List.getElem?_eq_getElem hi]; rfl

end Go.Proofs.Yteaifjkocclomaa
