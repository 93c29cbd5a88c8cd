/- bloom: what a key that comes in reads as. -/
import Derived.Test.YteodhbkhkecigaaOpen
import Derived.Test.YteodhbkhkecigaaEach
namespace Go.Proofs.Yteodhbkhkecigaa
open Go.ChangeShapes Go.WideShapes Go.ChangeAt Go.RowKit

theorem c35 : Try.prog.cellsOf 35 = 33 := by kernel_rfl
theorem c32 : Try.prog.cellsOf 32 = 32 := by kernel_rfl
theorem c33 : Try.prog.cellsOf 33 = 1 := by kernel_rfl
theorem c5 : Try.prog.cellsOf 5 = 1 := by kernel_rfl

theorem key_cells {H : Type} {enc : TypeId × Value → H} {W : World} {base : Nat} {spare : Nat → Bool} {held : Bool} {fuel : Nat} {cs : List Value} {x : DataW H × List MemPlace}
    (hf : DataW.trod enc Try.prog W base spare held fuel 35 cs = some x) : ∃ b n, KeyC cs.toArray b n := by
  obtain ⟨xs, m, rfl, _, hl, hx, hi⟩ := DataW.trod_struct Try.underlying35 hf
  have h0 : DataW.trod enc Try.prog W base spare held m 32 (cs.take 32) = xs[0]? := by rw [← c32]; exact hi 0 _ rfl
  have h1 : DataW.trod enc Try.prog W base spare held m 33 ((cs.drop 32).take 1) = xs[1]? := by rw [← c33]; exact hi 1 _ rfl
  have hx2 : xs.length = 2 := hx
  have x0 : xs[0]? = some (xs[0]'(by omega)) := List.getElem?_eq_getElem (by omega)
  have x1 : xs[1]? = some (xs[1]'(by omega)) := List.getElem?_eq_getElem (by omega)
  rw [x0] at h0
  rw [x1] at h1
  obtain ⟨l, e0, hll, hw⟩ := arr_cells Try.underlying32 c32 Try.underlying5 c5 h0
  obtain ⟨a, e1, _, wa⟩ := DataW.trod_int Try.underlying33 h1
  have hb := bytes_of hw
  have hn := bounds_u32 wa
  have hcs : cs = l.map (Value.int .u8) ++ [.int .u32 a] := by
    rw [c35] at hl
    have : cs.drop 32 = [.int .u32 a] := by rw [← e1, List.take_of_length_le (by rw [List.length_drop]; omega)]
    rw [← e0, ← this, List.take_append_drop]
  subst hcs
  refine ⟨fun i => (l.getD i 0).toNat, a.toNat, ⟨by simp [hll], ?_, fun i => by have := hb i; omega, ?_, by omega⟩⟩
  · intro i hi
    rw [List.getElem?_toArray, List.getElem?_append_left (by simp; omega), List.getElem?_map, List.getElem?_eq_getElem (by omega)]
    have := hb i
    rw [List.getD_eq_getElem?_getD, List.getElem?_eq_getElem (by omega)] at this ⊢
    simp only [Option.getD_some, Option.map_some] at this ⊢
    rw [Int.toNat_of_nonneg this.1]
  · rw [List.getElem?_toArray, List.getElem?_append_right (by simp [hll]), List.length_map, hll, Nat.sub_self, List.getElem?_cons_zero, Int.toNat_of_nonneg hn.1]

theorem open_key {H : Type} {enc : TypeId × Value → H} {W : World} {base : Nat} {spare : Nat → Bool} {held : Bool} {v : Value} {d : DataW H} {ps : List MemPlace} {r : Reach} {b0 : Nat}
    (hv : Value.okWide Try.prog W r b0 35 v) (h : DataW.Trod enc Try.prog W base spare held 35 v d ps) : ∃ k b n, v = .agg k ∧ KeyC k b n := by
  obtain ⟨cs, rfl, _⟩ := okWide_struct Try.underlying35 hv
  obtain ⟨fuel, hf⟩ := h
  obtain ⟨b, n, hk⟩ := key_cells hf
  exact ⟨cs, b, n, rfl, by simpa [Value.cells] using hk⟩

end Go.Proofs.Yteodhbkhkecigaa
