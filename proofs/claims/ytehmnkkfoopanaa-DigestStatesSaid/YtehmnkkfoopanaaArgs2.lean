/- digest: what slices of bytes that come in read as. -/
import Derived.Test.YtehmnkkfoopanaaOpen
import Derived.Test.YtehmnkkfoopanaaStates
import Derived.Deep.Slices
namespace Go.Proofs.Ytehmnkkfoopanaa
open Go.ChangeShapes Go.WideShapes Go.ChangeAt Go.RowKit

theorem c25 : Try.prog.cellsOf 22 = 1 := by kernel_rfl
theorem c5' : Try.prog.cellsOf 5 = 1 := by kernel_rfl

theorem rows_of {α : Type} (d : α) (n : Nat) (P : Nat → α → Prop) (h : ∀ i, i < n → ∃ y, P i y) : ∃ l : List α, l.length = n ∧ ∀ i, i < n → P i (l.getD i d) := by
  classical
  refine ⟨(List.range n).map (fun i => if h2 : i < n then (h i h2).choose else d), by simp, fun i hi => ?_⟩
  rw [List.getD_eq_getElem?_getD, List.getElem?_map, List.getElem?_range hi]
  simp only [Option.map_some, Option.getD_some, dif_pos hi]
  exact (h i hi).choose_spec

theorem row_cells {H : Type} {enc : TypeId × Value → H} {W : World} {base : Nat} {spare : Nat → Bool} {held : Bool} {fuel : Nat} {cs : List Value} {x : DataW H × List MemPlace}
    (hf : DataW.trod enc Try.prog W base spare held fuel 22 cs = some x) :
    ∃ (l : List Int) (B : Option Addr) (c : Nat), cs = [.slice B l.length c] ∧ l.length ≤ c ∧ Ints .u8 W B l ∧ Bytes l ∧ (B = none → l.length = 0 ∧ c = 0) := by
  rcases open_ints Try.underlying22 Try.underlying5 c5' hf with ⟨hcs, _⟩ | ⟨y, l, c, zs, hcs, _, hll, hm, hzl, _, hcell, hwz⟩
  · exact ⟨[], none, 0, hcs, Nat.le_refl _, Ints.nil _ _ _, (fun i => by simp), fun _ => ⟨rfl, rfl⟩⟩
  · have hlz : l ≤ zs.length := by rw [hzl]; split <;> omega
    have hlen : (zs.take l).length = l := by rw [List.length_take]; omega
    refine ⟨zs.take l, some y, c, by rw [hlen]; exact hcs, by rw [hlen]; exact hll, ?_, bytes_of (fun x hx => hwz x (List.mem_of_mem_take hx)), fun e => by cases e⟩
    intro i hi
    rw [hlen] at hi
    refine ⟨y, rfl, ?_⟩
    rw [hcell i (by omega), List.getD_eq_getElem?_getD, List.getD_eq_getElem?_getD, List.getElem?_take, if_pos (by omega)]

theorem open_rows {H : Type} {enc : TypeId × Value → H} {W : World} {base : Nat} {spare : Nat → Bool} {held : Bool} {a : Option Addr} {len cap : Nat} {d : DataW H} {ps : List MemPlace}
    (h : DataW.Trod enc Try.prog W base spare held 39 (.slice a len cap) d ps) : ∃ L : List (List Int), L.length = len ∧ len ≤ cap ∧ len ≤ maxLen ∧ OldRows W a L := by
  obtain ⟨fuel, hf⟩ := h
  rcases Deep.open_slice Try.underlying39 hf with ⟨hcs, _⟩ | ⟨x, l, c, m, n, D, Pl, hcs, _, hl, hm, hmm, _, hi⟩
  · simp [Value.cells] at hcs
    obtain ⟨rfl, rfl, rfl⟩ := hcs
    exact ⟨[], rfl, Nat.le_refl _, Nat.zero_le _, fun i hi => by simp at hi⟩
  · simp [Value.cells] at hcs
    obtain ⟨rfl, rfl, rfl⟩ := hcs
    rw [c25] at hi
    have hlm : len ≤ m := by rw [hmm]; split <;> omega
    obtain ⟨L, hL, hP⟩ := rows_of ([] : List Int) len (fun i l => ∃ (B : Option Addr) (c : Nat), W.cell? (x.add i) = some (.slice B l.length c) ∧ l.length ≤ c ∧ Ints .u8 W B l ∧ Bytes l ∧ (B = none → l.length = 0 ∧ c = 0)) (fun i hil => by
      obtain ⟨cs', hc, ht⟩ := hi i (by omega)
      obtain ⟨l, B, c, rfl, h1, h2, h3, h4⟩ := row_cells ht
      obtain ⟨_, hcl, hat⟩ := World.cells?_some hc
      have := hat 0 (by omega)
      rw [add_add, Nat.mul_one, Nat.add_zero] at this
      exact ⟨l, B, c, this, h1, h2, h3, h4⟩)
    refine ⟨L, hL, hl, by omega, fun i hi2 => ?_⟩
    obtain ⟨B, c, h1, h2, h3, h4, h5⟩ := hP i (by omega)
    exact ⟨x, B, c, rfl, h1, h2, h3, h4, h5⟩

end Go.Proofs.Ytehmnkkfoopanaa
