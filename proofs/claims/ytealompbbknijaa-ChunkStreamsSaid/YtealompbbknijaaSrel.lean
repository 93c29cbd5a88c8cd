/- chunk: what holds between two writes of a stream. -/
import Derived.Test.YtealompbbknijaaXor
namespace Go.Proofs.Ytealompbbknijaa
open Go.RowKit

structure SRel (W1 : World) (g : Nat) (c : Ct) (i : Nat) (h : List Int) (HA : Option Addr) (hc : Nat) (Y : Nat) (w' : World) : Prop where
  gr : W1.grownBy w' (some g)
  cut0 : cutR c h = 0
  str : Str w' g c h (fun k => k = Y)
  Ylt : Y < w'.heap.size
  Yne : Y ≠ g
  Ylo : 0 < h.length → W1.heap.size ≤ Y
  ints : Ints .u8 w' HA h
  byt : Bytes h
  lec : h.length ≤ hc
  nil : HA = none → h.length = 0 ∧ hc = 0
  blk : ∀ ad, HA = some ad → W1.heap.size ≤ ad.block ∧ ad.block < w'.heap.size ∧ ad.block ≠ Y
  num : h.length ≤ i * 10000
  glt : g < W1.heap.size

theorem own_empty (w : World) : (w.alloc (.cells #[] 5)).ownsRow w.heap.size 5 1 (.slice (some ⟨w.heap.size, 0, none⟩) 0 0) 0 [] := World.ownsRow_lit w #[] 0 (Nat.le_refl _) (by unfold maxLen; omega) rfl
theorem own_unf {w : World} {base : Nat} {e : TypeId} {size : Nat} {v : Value} {n : Nat} {xs : List Value} (h : w.ownsRow base e size v n xs) : ∀ b, v.ownBlock = some b → W2.Unf w b := by
  intro b hb
  obtain ⟨_, h2⟩ := h
  rcases h2 with ⟨rfl, _⟩ | ⟨g, cap, cur, rfl, _, h3, _⟩
  · cases hb
  · injection hb with hb; subst hb; exact ⟨_, _, h3⟩
theorem row_x {w : World} {A : Option Addr} {l : List Int} (h : Ints .u8 w A l) (hu : ∀ b, A = some b → W2.Unf w b.block) : RowX w A l.length := by
  intro j hj
  obtain ⟨b, e, hc⟩ := h j hj
  exact ⟨b, _, e, hc, (hu b e).frozen _ (add_block b j)⟩

theorem own_nil {w : World} {base : Nat} {e : TypeId} {size m c n : Nat} {xs : List Value} (h : w.ownsRow base e size (.slice none m c) n xs) : n = 0 ∧ c = 0 := by
  obtain ⟨_, h2⟩ := h
  rcases h2 with ⟨h3, h4⟩ | ⟨g, cap, cur, h3, _⟩
  · injection h3 with _ _ h3; exact ⟨h4, h3⟩
  · injection h3 with h3; cases h3
theorem Rows.blocks {P : Nat → Prop} {w w' : World} {A : Option Addr} {L : List (List Int)} (h : Rows P w A L) (hb : ∀ k, At A k ∨ P k → w'.heap[k]? = w.heap[k]?) : Rows P w' A L := by
  obtain ⟨vals, ⟨hl, hv⟩, hc⟩ := h
  refine ⟨vals, ⟨hl, fun i l hi => ?_⟩, fun j u hj => ?_⟩
  · obtain ⟨B, c, a1, a2, a3, a4, a5⟩ := hv i l hi
    refine ⟨B, c, a1, a2, fun k hk => ?_, a4, a5⟩
    obtain ⟨ad, e, hcell⟩ := a3 k hk
    exact ⟨ad, e, (World.cell?_of_block (by rw [add_block]; exact hb _ (Or.inr (a5 ad e)))).trans hcell⟩
  · obtain ⟨ad, e, hcell⟩ := hc j u hj
    exact ⟨ad, e, (World.cell?_of_block (by rw [add_block]; exact hb _ (Or.inl ⟨ad, e, rfl⟩))).trans hcell⟩

theorem XF.grown {P : Nat → Prop} {w w' W : World} {r : Option Nat} (h : XF P w w') (hg : W.grownBy w r) (hP : ∀ k, P k → W.heap.size ≤ k) : W.grownBy w' r :=
  ⟨h.os.trans hg.os, h.tape.trans hg.tape, h.output.trans hg.output, by rw [h.size]; exact hg.size, fun k hk hr => (h.block k (fun hp => by have := hP k hp; omega)).trans (hg.block k hk hr)⟩

end Go.Proofs.Ytealompbbknijaa
