/- chunk: what holds while bytes are turned in place. No program in sight. -/
import Derived.Test.YtealompbbknijaaWrite2
import Derived.Test.YtealompbbknijaaPrel
namespace Go.Proofs.Ytealompbbknijaa
open Go.RowKit

theorem cell_setCell_far (w : World) (p a : Addr) (v : Value) (h : p ≠ a) : (w.setCell p v).cell? a = w.cell? a := World.cell?_setCell_other _ _ _ _ h

/-- From w to w' bytes were written to in blocks of P, nothing else. -/
structure XF (P : Nat → Prop) (w w' : World) : Prop where
  os : w'.os = w.os
  tape : w'.tape = w.tape
  output : w'.output = w.output
  size : w'.heap.size = w.heap.size
  block : ∀ k, ¬ P k → w'.heap[k]? = w.heap[k]?
  unf : ∀ k, W2.Unf w k → W2.Unf w' k
  byte : ∀ a, (∃ x, w.cell? a = some (.int .u8 x)) → ∃ x, w'.cell? a = some (.int .u8 x)
theorem XF.refl (P : Nat → Prop) (w : World) : XF P w w := ⟨rfl, rfl, rfl, rfl, fun _ _ => rfl, fun _ h => h, fun _ h => h⟩
theorem XF.set {P : Nat → Prop} {w w' : World} (h : XF P w w') (a : Addr) (hP : P a.block) (x : Int) : XF P w (w'.setCell a (.int .u8 x)) := by
  refine ⟨h.os, h.tape, h.output, ?_, fun k hk => ?_, fun k hk => ?_, fun b hb => ?_⟩
  · rw [← h.size]; simp [World.setCell]
  · rw [← h.block k hk]
    have hne : a.block ≠ k := fun e => hk (e ▸ hP)
    simp only [World.setCell]
    rw [Array.getElem?_modify, if_neg hne]
  · obtain ⟨cs, t, e⟩ := h.unf k hk
    simp only [W2.Unf, World.setCell]
    rw [Array.getElem?_modify]
    by_cases e2 : a.block = k
    · rw [if_pos e2, e]; exact ⟨_, _, rfl⟩
    · rw [if_neg e2]; exact ⟨cs, t, e⟩
  · obtain ⟨y, hy⟩ := h.byte b hb
    by_cases e : a = b
    · subst e; exact ⟨x, World.cell?_setCell_same _ _ _ hy⟩
    · exact ⟨y, (World.cell?_setCell_other _ _ _ _ e).trans hy⟩
theorem XF.cell {P : Nat → Prop} {w w' : World} (h : XF P w w') {a : Addr} (ha : ¬ P a.block) : w'.cell? a = w.cell? a := World.cell?_of_block (h.block _ ha)
theorem XF.ints {P : Nat → Prop} {w w' : World} (h : XF P w w') {k : IntKind} {A : Option Addr} {l : List Int} (hI : Ints k w A l) (hA : ∀ ad, A = some ad → 0 < l.length → ¬ P ad.block) : Ints k w' A l := by
  intro i hi
  obtain ⟨ad, e, hc⟩ := hI i hi
  exact ⟨ad, e, (h.cell (by rw [add_block]; exact hA ad e (by omega))).trans hc⟩
theorem XF.str {P : Nat → Prop} {w w' : World} (h : XF P w w') {g : Nat} {c : Ct} {l : List Int} {X : Nat → Prop} (S : Str w g c l X) (h1 : ¬ P g) (h2 : ∀ k, X k → ¬ P k) : Str w' g c l X := by
  obtain ⟨s, seen, kp, A, cap, a1, a2, a3, a4, a5, a6, a7⟩ := S
  exact ⟨s, seen, kp, A, cap, (h.block g h1).trans a1, a2, h.ints a3 (fun ad e _ => h2 _ (a6 ad e)), a4, a5, a6, a7⟩
theorem XF.below {P : Nat → Prop} {w w' : World} (h : XF P w w') {B : Nat} {W : World} (hb : Below B W w) (hP : ∀ k, P k → B ≤ k) : Below B W w' :=
  ⟨h.os.trans hb.os, h.tape.trans hb.tape, h.output.trans hb.output, by rw [h.size]; exact hb.size, fun k hk => (h.block k (fun hp => by have := hP k hp; omega)).trans (hb.block k hk)⟩
theorem W2.Unf.frozen {w : World} {k : Nat} (h : W2.Unf w k) (a : Addr) (ha : a.block = k) : w.frozen? a = false := by
  obtain ⟨cs, t, e⟩ := h
  unfold World.frozen?
  rw [ha, e]
  simp

/-- What the rows of a written stream are good for. -/
def RowsX (P : Nat → Prop) (w : World) (A : Option Addr) (L : List (List Int)) : Prop :=
  ∀ i, i < L.length → ∃ ad B c, A = some ad ∧ w.cell? (ad.add i) = some (.slice B (L.getD i []).length c) ∧ (L.getD i []).length ≤ c ∧ (∀ b, B = some b → P b.block) ∧
    ∀ j, j < (L.getD i []).length → ∃ b x, B = some b ∧ w.cell? (b.add j) = some (.int .u8 x) ∧ w.frozen? (b.add j) = false
theorem Rows.x {P : Nat → Prop} {w : World} {A : Option Addr} {L : List (List Int)} (h : Rows P w A L) (hu : ∀ k, P k → W2.Unf w k) : RowsX P w A L := by
  intro i hi
  obtain ⟨ad, B, c, e, h1, h2, h3, _, h5⟩ := h.at i hi
  refine ⟨ad, B, c, e, h1, h2, h5, fun j hj => ?_⟩
  obtain ⟨b, eb, hc⟩ := h3 j hj
  exact ⟨b, _, eb, hc, (hu _ (h5 b eb)).frozen _ (add_block b j)⟩
theorem RowsX.xf {P : Nat → Prop} {w w' : World} {A : Option Addr} {L : List (List Int)} (h : RowsX P w A L) (hx : XF P w w') (hu : ∀ k, P k → W2.Unf w k) (hA : ∀ ad, A = some ad → ¬ P ad.block) : RowsX P w' A L := by
  intro i hi
  obtain ⟨ad, B, c, e, h1, h2, h3, h4⟩ := h i hi
  refine ⟨ad, B, c, e, (hx.cell (by rw [add_block]; exact hA ad e)).trans h1, h2, h3, fun j hj => ?_⟩
  obtain ⟨b, x, eb, hc, _⟩ := h4 j hj
  obtain ⟨y, hy⟩ := hx.byte _ ⟨x, hc⟩
  exact ⟨b, y, eb, hy, (hx.unf _ (hu _ (h3 b eb))).frozen _ (add_block b j)⟩

/-- A row of bytes that may be written to. -/
def RowX (w : World) (A : Option Addr) (n : Nat) : Prop := ∀ j, j < n → ∃ b x, A = some b ∧ w.cell? (b.add j) = some (.int .u8 x) ∧ w.frozen? (b.add j) = false
theorem RowX.xf {P : Nat → Prop} {w w' : World} {A : Option Addr} {n : Nat} (h : RowX w A n) (hx : XF P w w') (hu : ∀ b, A = some b → 0 < n → W2.Unf w b.block) : RowX w' A n := by
  intro j hj
  obtain ⟨b, x, eb, hc, _⟩ := h j hj
  obtain ⟨y, hy⟩ := hx.byte _ ⟨x, hc⟩
  exact ⟨b, y, eb, hy, (hx.unf _ (hu b eb (by omega))).frozen _ (add_block b j)⟩

/-- The slices of bytes that come in. -/
def InRows (w : World) (A : Option Addr) (L : List (List Int)) : Prop :=
  ∀ i, i < L.length → ∃ ad B c, A = some ad ∧ w.cell? (ad.add i) = some (.slice B (L.getD i []).length c) ∧ (L.getD i []).length ≤ c ∧ Ints .u8 w B (L.getD i []) ∧ Bytes (L.getD i []) ∧ (B = none → (L.getD i []).length = 0 ∧ c = 0)
theorem InRows.below {w w' : World} {A : Option Addr} {L : List (List Int)} (h : InRows w A L) (hb : Below w.heap.size w w') : InRows w' A L := by
  intro i hi
  obtain ⟨ad, B, c, e, h1, h2, h3, h4, h5⟩ := h i hi
  exact ⟨ad, B, c, e, (hb.cell (cell_lt h1)).trans h1, h2, h3.below hb, h4, h5⟩

end Go.Proofs.Ytealompbbknijaa
