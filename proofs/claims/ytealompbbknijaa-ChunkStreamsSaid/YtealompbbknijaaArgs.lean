/- chunk: what a cutter that comes in reads as. -/
import Derived.Test.YtealompbbknijaaOpen
import Derived.Test.YtealompbbknijaaLook
namespace Go.Proofs.Ytealompbbknijaa
open Go.ChangeShapes Go.WideShapes Go.ChangeAt Go.RowKit

theorem c24 : Try.prog.cellsOf 24 = 4 := by kernel_rfl
theorem c3 : Try.prog.cellsOf 3 = 1 := by kernel_rfl
theorem c22 : Try.prog.cellsOf 22 = 1 := by kernel_rfl

theorem open_cut {H : Type} {enc : TypeId × Value → H} {W : World} {base : Nat} {spare : Nat → Bool} {held : Bool} {v : Value} {d : DataW H} {ps : List MemPlace} {r : Reach} {b0 : Nat}
    (hv : Value.okWide Try.prog W r b0 24 v) (h : DataW.Trod enc Try.prog W base spare held 24 v d ps) : ∃ mn mx main back : Int, v = .agg (cutC mn mx main back) ∧ main < 4294967296 ∧ back < 4294967296 := by
  obtain ⟨cs, rfl, _⟩ := okWide_struct Try.underlying24 hv
  obtain ⟨fuel, hf⟩ := h
  simp only [Value.cells] at hf
  obtain ⟨xs, m, rfl, _, hl, hx, hi⟩ := DataW.trod_struct Try.underlying24 hf
  have h0 : DataW.trod enc Try.prog W base spare held m 3 (cs.toList.take 1) = xs[0]? := by rw [← c3]; exact hi 0 _ rfl
  have h1 : DataW.trod enc Try.prog W base spare held m 3 ((cs.toList.drop 1).take 1) = xs[1]? := by rw [← c3]; exact hi 1 _ rfl
  have h2 : DataW.trod enc Try.prog W base spare held m 22 ((cs.toList.drop 2).take 1) = xs[2]? := by rw [← c22]; exact hi 2 _ rfl
  have h3 : DataW.trod enc Try.prog W base spare held m 22 ((cs.toList.drop 3).take 1) = xs[3]? := by rw [← c22]; exact hi 3 _ rfl
  have hx4 : xs.length = 4 := hx
  rw [List.getElem?_eq_getElem (by omega)] at h0 h1 h2 h3
  rw [c24] at hl
  obtain ⟨mn, e0, _, w0⟩ := DataW.trod_int Try.underlying3 h0
  obtain ⟨mx, e1, _, w1⟩ := DataW.trod_int Try.underlying3 h1
  obtain ⟨main, e2, _, w2⟩ := DataW.trod_int Try.underlying22 h2
  obtain ⟨back, e3, _, w3⟩ := DataW.trod_int Try.underlying22 h3
  have b2 := bounds_u32 w2
  have b3 := bounds_u32 w3
  have at_ : ∀ (k : Nat) (v : Value), (cs.toList.drop k).take 1 = [v] → cs.toList[k]? = some v := by
    intro k v hv
    have : ((cs.toList.drop k).take 1)[0]? = some v := by rw [hv]; rfl
    rwa [List.getElem?_take, if_pos (by omega), List.getElem?_drop] at this
  have q0 := at_ 0 _ (by simpa using e0)
  have q1 := at_ 1 _ e1
  have q2 := at_ 2 _ e2
  have q3 := at_ 3 _ e3
  refine ⟨mn, mx, main, back, ?_, by omega, by omega⟩
  congr 1
  apply Array.ext'
  show cs.toList = [Value.int .i64 mn, .int .i64 mx, .int .u32 main, .int .u32 back]
  apply List.ext_getElem?
  intro i
  match i with
  | 0 => rw [q0]; rfl
  | 1 => rw [q1]; rfl
  | 2 => rw [q2]; rfl
  | 3 => rw [q3]; rfl
  | n + 4 => rw [List.getElem?_eq_none (by omega)]; rfl

end Go.Proofs.Ytealompbbknijaa
