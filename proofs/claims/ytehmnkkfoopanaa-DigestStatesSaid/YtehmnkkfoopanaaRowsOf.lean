/- New blocks, each a row of cells, kept side by side. No program in sight. -/
import Derived.Test.YtehmnkkfoopanaaPressA
import Derived.Deep.WholeRow
namespace Go.Proofs.Ytehmnkkfoopanaa
open Go.RowKit

/-- Blocks that came new behind w0, with their cells: each apart from the others. -/
structure Rws (w0 w : World) (L : List (Nat × Array Value × TypeId)) : Prop where
  bel : Below w0.heap.size w0 w
  rows : ∀ (i g : Nat) (cs : Array Value) (t : TypeId), L[i]? = some (g, cs, t) → w0.heap.size ≤ g ∧ w.heap[g]? = some (.cells cs t (0, 0))
  apart : ∀ (i j g : Nat) (cs : Array Value) (t : TypeId) (g' : Nat) (cs' : Array Value) (t' : TypeId), L[i]? = some (g, cs, t) → L[j]? = some (g', cs', t') → i ≠ j → g ≠ g'
section
variable {w0 w w' : World} {L : List (Nat × Array Value × TypeId)}
theorem Rws.at (R : Rws w0 w L) (i : Nat) {g : Nat} {cs : Array Value} {t : TypeId} (h : L[i]? = some (g, cs, t)) : w.heap[g]? = some (.cells cs t (0, 0)) := (R.rows i g cs t h).2
theorem Rws.start (w : World) : Rws w w [] := ⟨Below.refl _ _, fun i g cs t h => by simp at h, fun i j g cs t g' cs' t' h => by simp at h⟩
theorem Rws.quiet (R : Rws w0 w L) (h : Below w.heap.size w w') : Rws w0 w' L :=
  ⟨R.bel.trans (h.mono R.bel.size), fun i g cs t hi => ⟨(R.rows i g cs t hi).1, (h.block g (row_lt (R.rows i g cs t hi).2)).trans (R.rows i g cs t hi).2⟩, R.apart⟩
theorem Rws.drew (R : Rws w0 w L) : Rws w0 w.drew L := R.quiet (Below.refl _ _).drew
theorem Rws.alloced (R : Rws w0 w L) (cs : Array Value) (t : TypeId) (hg : w.grownBy w' none) (hr : w'.heap[w.heap.size]? = some (.cells cs t (0, 0))) : Rws w0 w' (L ++ [(w.heap.size, cs, t)]) := by
  have hq := R.quiet (below_refl_grown hg)
  refine ⟨hq.bel, fun i g c ty hi => ?_, fun i j g c ty g' c' ty' hi hj hij => ?_⟩
  · rw [List.getElem?_append] at hi
    split at hi
    · exact hq.rows i g c ty hi
    · rename_i hl
      have h0 : i - L.length = 0 := by
        rcases Nat.eq_zero_or_pos (i - L.length) with h | h
        · exact h
        · rw [List.getElem?_eq_none (by simp; omega)] at hi; cases hi
      rw [h0] at hi
      simp only [List.getElem?_cons_zero, Option.some.injEq, Prod.mk.injEq] at hi
      obtain ⟨rfl, rfl, rfl⟩ := hi
      exact ⟨R.bel.size, hr⟩
  · have old : ∀ (k a : Nat) (b : Array Value) (d : TypeId), L[k]? = some (a, b, d) → a < w.heap.size := fun k a b d h => row_lt (R.rows k a b d h).2
    have new : ∀ (k a : Nat) (b : Array Value) (d : TypeId), (L ++ [(w.heap.size, cs, t)])[k]? = some (a, b, d) → (k < L.length ∧ L[k]? = some (a, b, d)) ∨ (k = L.length ∧ a = w.heap.size) := by
      intro k a b d h
      rw [List.getElem?_append] at h
      split at h
      · exact Or.inl ⟨by assumption, h⟩
      · rcases Nat.eq_zero_or_pos (k - L.length) with h0 | h0
        · rw [h0] at h
          simp only [List.getElem?_cons_zero, Option.some.injEq, Prod.mk.injEq] at h
          exact Or.inr ⟨by omega, h.1.symm⟩
        · rw [List.getElem?_eq_none (by simp; omega)] at h; cases h
    rcases new i g c ty hi with ⟨h1, h2⟩ | ⟨h1, h2⟩ <;> rcases new j g' c' ty' hj with ⟨k1, k2⟩ | ⟨k1, k2⟩
    · exact R.apart i j _ _ _ _ _ _ h2 k2 hij
    · have := old _ _ _ _ h2; omega
    · have := old _ _ _ _ k2; omega
    · omega
theorem Rws.alloc (R : Rws w0 w L) (cs : Array Value) (t : TypeId) : Rws w0 (w.alloc (.cells cs t)) (L ++ [(w.heap.size, cs, t)]) := R.alloced cs t (grown_alloc _ _ _) (heap_alloc_last _ _)
/-- One of them is changed. -/
theorem Rws.change (R : Rws w0 w L) (i : Nat) {g : Nat} {cs cs' : Array Value} {t : TypeId} (h : L[i]? = some (g, cs, t)) (hg : w.grownBy w' (some g)) (hr : w'.heap[g]? = some (.cells cs' t (0, 0))) : Rws w0 w' (L.set i (g, cs', t)) := by
  have hge := (R.rows i g cs t h).1
  have hil : i < L.length := by
    rcases Nat.lt_or_ge i L.length with k | k
    · exact k
    · rw [List.getElem?_eq_none k] at h; cases h
  have look : ∀ (k a : Nat) (b : Array Value) (d : TypeId), (L.set i (g, cs', t))[k]? = some (a, b, d) → (k = i ∧ a = g ∧ b = cs' ∧ d = t) ∨ (k ≠ i ∧ L[k]? = some (a, b, d)) := by
    intro k a b d hk
    rw [List.getElem?_set] at hk
    by_cases e : i = k
    · subst e
      rw [if_pos rfl, if_pos hil] at hk
      simp only [Option.some.injEq, Prod.mk.injEq] at hk
      exact Or.inl ⟨rfl, hk.1.symm, hk.2.1.symm, hk.2.2.symm⟩
    · rw [if_neg e] at hk
      exact Or.inr ⟨fun e' => e e'.symm, hk⟩
  refine ⟨R.bel.grown hg R.bel.size (fun k hk => by injection hk with hk; omega), fun k a b d hk => ?_, fun k j a b d a' b' d' hk hj hkj => ?_⟩
  · rcases look k a b d hk with ⟨_, rfl, rfl, rfl⟩ | ⟨h1, h2⟩
    · exact ⟨hge, hr⟩
    · have hr2 := R.rows k a b d h2
      exact ⟨hr2.1, (hg.block a (row_lt hr2.2) (fun e => R.apart k i _ _ _ _ _ _ h2 h h1 (by injection e))).trans hr2.2⟩
  · rcases look k a b d hk with ⟨h1, rfl, rfl, rfl⟩ | ⟨h1, h2⟩ <;> rcases look j a' b' d' hj with ⟨k1, rfl, rfl, rfl⟩ | ⟨k1, k2⟩
    · omega
    · exact R.apart i j _ _ _ _ _ _ h k2 (by omega)
    · exact R.apart k i _ _ _ _ _ _ h2 h h1
    · exact R.apart k j _ _ _ _ _ _ h2 k2 hkj
theorem Rws.setW (R : Rws w0 w L) (i : Nat) {g : Nat} {V : List Int} {t : TypeId} (h : L[i]? = some (g, cellsW V, t)) (k : Nat) (x : Int) : Rws w0 (w.setCell ⟨g, k, none⟩ (.int .u32 x)) (L.set i (g, cellsW (V.set k x), t)) :=
  R.change i h (grown_setCell _ _ _ _) (by rw [setCell_row (R.at i h), cellsW_set])
theorem Rws.setRow (R : Rws w0 w L) (i : Nat) {g : Nat} {cs : Array Value} {t : TypeId} (h : L[i]? = some (g, cs, t)) (cs' : Array Value) : Rws w0 (w.setRow g cs') (L.set i (g, cs', t)) :=
  R.change i h ⟨rfl, rfl, rfl, by simp, fun k _ hne => setRow_other _ _ _ _ (fun e => hne (by rw [e]))⟩ (setRow_heap _ _ _ _ _ _ (R.at i h))
theorem Rws.c (R : Rws w0 w L) (i : Nat) {g : Nat} {V : List Int} {t : TypeId} (h : L[i]? = some (g, cellsW V, t)) (k : Nat) (hk : k < V.length) : w.cell? ⟨g, k, none⟩ = some (.int .u32 (V.getD k 0)) := cellW_of (R.at i h) k hk
theorem Rws.f (R : Rws w0 w L) (i : Nat) {g : Nat} {cs : Array Value} {t : TypeId} (h : L[i]? = some (g, cs, t)) (k : Nat) : w.frozen? ⟨g, k, none⟩ = false := free_row (R.at i h) k
end
theorem xor_assoc32 (a b c : Int) : Go.bits .xor .u32 (Go.bits .xor .u32 a b) c = Go.bits .xor .u32 a (Go.bits .xor .u32 b c) := by
  have hw : ∀ z : BitVec 32, BitVec.ofInt 32 (IntKind.u32.wrap ((z.toNat : Nat) : Int)) = z := by
    intro z
    rw [IntKind.wrap_u32', Int.emod_eq_of_lt (by omega) (by have := z.isLt; omega), BitVec.ofInt_natCast, BitVec.ofNat_toNat, BitVec.setWidth_eq]
  show IntKind.u32.wrap (((BitVec.ofInt 32 (IntKind.u32.wrap (((BitVec.ofInt 32 a ^^^ BitVec.ofInt 32 b).toNat : Nat) : Int)) ^^^ BitVec.ofInt 32 c).toNat : Nat) : Int) = IntKind.u32.wrap (((BitVec.ofInt 32 a ^^^ BitVec.ofInt 32 (IntKind.u32.wrap (((BitVec.ofInt 32 b ^^^ BitVec.ofInt 32 c).toNat : Nat) : Int))).toNat : Nat) : Int)
  rw [hw, hw, BitVec.xor_assoc]
theorem pad_get (b : List Int) (i : Nat) : (pad b).getD i 0 = if i < b.length then b.getD i 0 else 0 := by
  unfold pad
  rw [List.getD_eq_getElem?_getD, List.getElem?_append]
  split
  · rw [List.getD_eq_getElem?_getD]
  · rw [List.getElem?_replicate]; split <;> rfl
end Go.Proofs.Ytehmnkkfoopanaa
