/- bloom: what a key that comes in reads as. -/
import Derived.Test.YteodhbkhkecigaaOpen
import Derived.Test.YteodhbkhkecigaaKeys
import Derived.Deep.Slices
namespace Go.Proofs.Yteodhbkhkecigaa
open Go.ChangeShapes Go.WideShapes Go.ChangeAt Go.RowKit

theorem c35 : Try.prog.cellsOf 35 = 33 := by kernel_rfl
theorem c32 : Try.prog.cellsOf 32 = 32 := by kernel_rfl
theorem c33 : Try.prog.cellsOf 33 = 1 := by kernel_rfl
theorem c5 : Try.prog.cellsOf 5 = 1 := by kernel_rfl

theorem key_cells {H : Type} {enc : TypeId × Value → H} {W : World} {base : Nat} {spare : Nat → Bool} {held : Bool} {fuel : Nat} {cs : List Value} {x : DataW H × List MemPlace}
    (hf : DataW.trod enc Try.prog W base spare held fuel 35 cs = some x) : ∃ b n, KeyC cs.toArray b n := by
  obtain ⟨xs, m, rfl, _, hl, hx, hi⟩ := DataW.trod_struct Try.underlying35 hf
  have h0 : DataW.trod enc Try.prog W base spare held m 32 (cs.take 32) = xs[0]? := by rw [← c32]; exact hi 0 _ rfl
  have h1 : DataW.trod enc Try.prog W base spare held m 33 ((cs.drop 32).take 1) = xs[1]? := by rw [← c33]; exact hi 1 _ rfl
  have hx2 : xs.length = 2 := hx
  have x0 : xs[0]? = some (xs[0]'(by omega)) := List.getElem?_eq_getElem (by omega)
  have x1 : xs[1]? = some (xs[1]'(by omega)) := List.getElem?_eq_getElem (by omega)
  rw [x0] at h0
  rw [x1] at h1
  obtain ⟨l, e0, hll, hw⟩ := arr_cells Try.underlying32 c32 Try.underlying5 c5 h0
  obtain ⟨a, e1, _, wa⟩ := DataW.trod_int Try.underlying33 h1
  have hb := bytes_of hw
  have hn := bounds_u32 wa
  have hcs : cs = l.map (Value.int .u8) ++ [.int .u32 a] := by
    rw [c35] at hl
    have : cs.drop 32 = [.int .u32 a] := by rw [← e1, List.take_of_length_le (by rw [List.length_drop]; omega)]
    rw [← e0, ← this, List.take_append_drop]
  subst hcs
  refine ⟨fun i => (l.getD i 0).toNat, a.toNat, ⟨by simp [hll], ?_, fun i => by have := hb i; omega, ?_, by omega⟩⟩
  · intro i hi
    rw [List.getElem?_toArray, List.getElem?_append_left (by simp; omega), List.getElem?_map, List.getElem?_eq_getElem (by omega)]
    have := hb i
    rw [List.getD_eq_getElem?_getD, List.getElem?_eq_getElem (by omega)] at this ⊢
    simp only [Option.getD_some, Option.map_some] at this ⊢
    rw [Int.toNat_of_nonneg this.1]
  · rw [List.getElem?_toArray, List.getElem?_append_right (by simp [hll]), List.length_map, hll, Nat.sub_self, List.getElem?_cons_zero, Int.toNat_of_nonneg hn.1]

theorem open_key {H : Type} {enc : TypeId × Value → H} {W : World} {base : Nat} {spare : Nat → Bool} {held : Bool} {v : Value} {d : DataW H} {ps : List MemPlace} {r : Reach} {b0 : Nat}
    (hv : Value.okWide Try.prog W r b0 35 v) (h : DataW.Trod enc Try.prog W base spare held 35 v d ps) : ∃ k b n, v = .agg k ∧ KeyC k b n := by
  obtain ⟨cs, rfl, _⟩ := okWide_struct Try.underlying35 hv
  obtain ⟨fuel, hf⟩ := h
  obtain ⟨b, n, hk⟩ := key_cells hf
  exact ⟨cs, b, n, rfl, by simpa [Value.cells] using hk⟩

theorem list_of {α : Type} (n : Nat) (P : Nat → α → Prop) (h : ∀ i, i < n → ∃ x, P i x) : ∃ l : List α, l.length = n ∧ ∀ i (hi : i < l.length), P i l[i] := by
  induction n with
  | zero => exact ⟨[], rfl, fun i hi => absurd hi (by simp)⟩
  | succ n ih =>
    obtain ⟨l, hl, hP⟩ := ih (fun i hi => h i (by omega))
    obtain ⟨x, hx⟩ := h n (by omega)
    refine ⟨l ++ [x], by simp [hl], fun i hi => ?_⟩
    by_cases e : i < l.length
    · rw [List.getElem_append_left e]; exact hP i e
    · have : i = n := by simp at hi; omega
      subst this
      rw [List.getElem_append_right (by omega)]
      simpa using hx

theorem spot_none {a : Addr} {w : World} {v : Value} (h : w.cell? (a.add 0) = some v) : ∃ b o, a = ⟨b, o, none⟩ := by
  obtain ⟨b, o, s⟩ := a
  cases s with
  | none => exact ⟨b, o, rfl⟩
  | some s =>
    unfold World.cell? Addr.add at h
    simp at h
    split at h <;> simp at h

theorem open_keys {H : Type} {enc : TypeId × Value → H} {W : World} {base : Nat} {spare : Nat → Bool} {held : Bool} {a : Option Addr} {len cap : Nat} {d : DataW H} {ps : List MemPlace}
    (h : DataW.Trod enc Try.prog W base spare held 23 (.slice a len cap) d ps) : ∃ ks : List KeyT, ks.length = len ∧ len ≤ cap ∧ Keys W a ks := by
  obtain ⟨fuel, hf⟩ := h
  rcases Deep.open_slice Try.underlying23 hf with ⟨hcs, _⟩ | ⟨x, l, c, m, n, D, Pl, hcs, _, hl, hm, hmm, _, hi⟩
  · simp [Value.cells] at hcs
    obtain ⟨rfl, rfl, rfl⟩ := hcs
    exact ⟨[], rfl, Nat.le_refl _, fun i hi => absurd hi (by simp)⟩
  · simp [Value.cells] at hcs
    obtain ⟨rfl, rfl, rfl⟩ := hcs
    rw [c35] at hi
    have hlm : len ≤ m := by rw [hmm]; split <;> omega
    have key : ∀ i, i < len → ∃ y : KeyT, ∃ (b o : Nat) (k : Array Value), x = ⟨b, o, none⟩ ∧ b < W.heap.size ∧ W.rangeAt b (o + i * 33) k.toList ∧ KeyC k y.1 y.2 := by
      intro i hil
      obtain ⟨cs', hc, ht⟩ := hi i (by omega)
      obtain ⟨b', n', hk⟩ := key_cells ht
      obtain ⟨_, hcl, hat⟩ := World.cells?_some hc
      obtain ⟨cs0, hc0, ht0⟩ := hi 0 (by omega)
      obtain ⟨_, _, hk0⟩ := key_cells ht0
      obtain ⟨_, hcl0, hat0⟩ := World.cells?_some hc0
      have h00 := hat0 0 (by omega)
      rw [Nat.zero_mul] at h00
      have hsz0 : cs0.length = 33 := by simpa using hk0.size
      rw [List.getElem?_eq_getElem (by omega), add_add] at h00
      obtain ⟨b, o, rfl⟩ := spot_none h00
      have hbl := cell_lt h00
      refine ⟨(b', n'), b, o, cs'.toArray, rfl, by simpa [Addr.add] using hbl, ?_, hk⟩
      intro j v hj
      have hj' : cs'[j]? = some v := by simpa using hj
      have hjl : j < 33 := by
        rcases Nat.lt_or_ge j cs'.length with h | h
        · omega
        · rw [List.getElem?_eq_none h] at hj'; cases hj'
      have h2 := hat j hjl
      rw [add_add, hj'] at h2
      rw [← h2]
      congr 1
      unfold Addr.add
      split
      · rename_i h0; simp <;> omega
      · simp <;> omega
    obtain ⟨ks, hkl, hP⟩ := list_of len _ key
    exact ⟨ks, hkl, hl, fun i hi => by
      obtain ⟨b, o, k, e, h1, h2, h3⟩ := hP i hi
      exact ⟨b, o, k, by rw [e], h1, h2, h3⟩⟩

end Go.Proofs.Yteodhbkhkecigaa
