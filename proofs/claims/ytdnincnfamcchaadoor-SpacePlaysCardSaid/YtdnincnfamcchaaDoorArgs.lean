/- space: what acts that come in read as. -/
import Derived.Test.YtdnincnfamcchaaDoorOpen
import Derived.Test.YtdnincnfamcchaaDoorActs
import Derived.Deep.Slices
namespace Go.Proofs.YtdnincnfamcchaaDoor
open Go.ChangeShapes Go.WideShapes Go.ChangeAt Go.RowKit

theorem c46 : Tryd.prog.cellsOf 46 = 2 := by kernel_rfl
theorem c5 : Tryd.prog.cellsOf 5 = 1 := by kernel_rfl
theorem c3 : Tryd.prog.cellsOf 3 = 1 := by kernel_rfl

theorem act_cells {H : Type} {enc : TypeId × Value → H} {W : World} {base : Nat} {spare : Nat → Bool} {held : Bool} {fuel : Nat} {cs : List Value} {x : DataW H × List MemPlace}
    (hf : DataW.trod enc Tryd.prog W base spare held fuel 46 cs = some x) : ∃ a : Nat × Int, a.1 < 256 ∧ cs = actL a := by
  obtain ⟨xs, m, rfl, _, hl, hx, hi⟩ := DataW.trod_struct Tryd.underlying46 hf
  have h0 : DataW.trod enc Tryd.prog W base spare held m 5 (cs.take 1) = xs[0]? := by rw [← c5]; exact hi 0 _ rfl
  have h1 : DataW.trod enc Tryd.prog W base spare held m 3 ((cs.drop 1).take 1) = xs[1]? := by rw [← c3]; exact hi 1 _ rfl
  have hx2 : xs.length = 2 := hx
  rw [List.getElem?_eq_getElem (by omega)] at h0 h1
  rw [c46] at hl
  obtain ⟨kd, e0, _, wa⟩ := DataW.trod_int Tryd.underlying5 h0
  obtain ⟨z, e1, _, wz⟩ := DataW.trod_int Tryd.underlying3 h1
  have hkd := bounds_u8 wa
  refine ⟨(kd.toNat, z), by show kd.toNat < 256; omega, ?_⟩
  match cs, hl with
  | [a, b], _ =>
    simp at e0 e1
    subst e0; subst e1
    show [Value.int .u8 kd, Value.int .i64 z] = [Value.int .u8 ((kd.toNat : Nat) : Int), Value.int .i64 z]
    rw [Int.toNat_of_nonneg hkd.1]

theorem list_of {α : Type} (n : Nat) (P : Nat → α → Prop) (h : ∀ i, i < n → ∃ x, P i x) : ∃ l : List α, l.length = n ∧ ∀ i (hi : i < l.length), P i l[i] := by
  induction n with
  | zero => exact ⟨[], rfl, fun i hi => absurd hi (by simp)⟩
  | succ n ih =>
    obtain ⟨l, hl, hP⟩ := ih (fun i hi => h i (by omega))
    obtain ⟨x, hx⟩ := h n (by omega)
    refine ⟨l ++ [x], by simp [hl], fun i hi => ?_⟩
    by_cases e : i < l.length
    · rw [List.getElem_append_left e]; exact hP i e
    · have : i = n := by simp at hi; omega
      subst this
      rw [List.getElem_append_right (by omega)]
      simpa using hx

theorem spot_none {a : Addr} {w : World} {v : Value} (h : w.cell? (a.add 0) = some v) : ∃ b o, a = ⟨b, o, none⟩ := by
  obtain ⟨b, o, s⟩ := a
  cases s with
  | none => exact ⟨b, o, rfl⟩
  | some s =>
    unfold World.cell? Addr.add at h
    simp at h
    split at h <;> simp at h


theorem open_acts {H : Type} {enc : TypeId × Value → H} {W : World} {base : Nat} {spare : Nat → Bool} {held : Bool} {a : Option Addr} {len cap : Nat} {d : DataW H} {ps : List MemPlace}
    (h : DataW.Trod enc Tryd.prog W base spare held 43 (.slice a len cap) d ps) : ∃ l : List (Nat × Int), l.length = len ∧ len ≤ cap ∧ Acts W a l := by
  obtain ⟨fuel, hf⟩ := h
  rcases Deep.open_slice Tryd.underlying43 hf with ⟨hcs, _⟩ | ⟨x, l, c, m, n, D, Pl, hcs, _, hl, hm, hmm, _, hi⟩
  · simp [Value.cells] at hcs
    obtain ⟨rfl, rfl, rfl⟩ := hcs
    exact ⟨[], rfl, Nat.le_refl _, fun i a hi => by simp at hi⟩
  · simp [Value.cells] at hcs
    obtain ⟨rfl, rfl, rfl⟩ := hcs
    rw [c46] at hi
    have hlm : len ≤ m := by rw [hmm]; split <;> omega
    have key : ∀ i, i < len → ∃ y : Nat × Int, y.1 < 256 ∧ ∃ (b o : Nat), x = ⟨b, o, none⟩ ∧ b < W.heap.size ∧ W.rangeAt b (o + i * 2) (actL y) := by
      intro i hil
      obtain ⟨cs', hc, ht⟩ := hi i (by omega)
      obtain ⟨y, hy, hk⟩ := act_cells ht
      obtain ⟨_, hcl, hat⟩ := World.cells?_some hc
      obtain ⟨cs0, hc0, ht0⟩ := hi 0 (by omega)
      obtain ⟨y0, _, hk0⟩ := act_cells ht0
      obtain ⟨_, hcl0, hat0⟩ := World.cells?_some hc0
      have h00 := hat0 0 (by omega)
      have hsz0 : cs0.length = 2 := by rw [hk0]; rfl
      rw [Nat.zero_mul, List.getElem?_eq_getElem (by omega), add_add] at h00
      obtain ⟨b, o, rfl⟩ := spot_none h00
      have hbl := cell_lt h00
      refine ⟨y, hy, b, o, rfl, by simpa [Addr.add] using hbl, ?_⟩
      rw [← hk]
      intro j v hj'
      have hjl : j < 2 := by
        rcases Nat.lt_or_ge j cs'.length with h | h
        · omega
        · rw [List.getElem?_eq_none h] at hj'; cases hj'
      have h2 := hat j hjl
      rw [add_add, hj'] at h2
      rw [← h2]
      congr 1
      unfold Addr.add
      split
      · rename_i h0; simp <;> omega
      · simp <;> omega
    obtain ⟨ks, hkl, hP⟩ := list_of len _ key
    refine ⟨ks, hkl, hl, fun i a hi => ?_⟩
    have hil : i < ks.length := by
      rcases Nat.lt_or_ge i ks.length with h | h
      · exact h
      · rw [List.getElem?_eq_none h] at hi; cases hi
    rw [List.getElem?_eq_getElem hil] at hi
    injection hi with hi
    subst hi
    obtain ⟨h1, b, o, e, h2, h3⟩ := hP i hil
    exact ⟨h1, b, o, by rw [e], h2, h3⟩

end Go.Proofs.YtdnincnfamcchaaDoor
