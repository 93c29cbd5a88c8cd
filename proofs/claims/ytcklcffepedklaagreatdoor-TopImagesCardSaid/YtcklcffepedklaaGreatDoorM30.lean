/- Texts of the proof, one behind the other: What a law's arguments read as, for the rows: slices of numbers. No program in sight. -/
import Derived.Test.YtcklcffepedklaaGreatDoorM01
import Derived.ProofKit
import Derived.OpenShut
import Derived.SizedLaws
namespace Go.Proofs.YtcklcffepedklaaGreatDoor
open Go.ChangeShapes Go.WideShapes Go.ChangeAt Go.RowKit

theorem open_row {H : Type} {enc : TypeId × Value → H} {P : Program} {W : World} {base : Nat} {spare : Nat → Bool} {held : Bool} {t e : TypeId} {k : IntKind} {a : Option Addr} {len cap : Nat} {d : DataW H} {ps : List MemPlace} {ts : List TypeId} {ds : List (DataW H)} {j : Nat}
    (hsz : (DataW.weightsEach P ts ds).all (· ≤ reachBytes) = true) (ht : ts[j]? = some t) (hd : ds[j]? = some d) (hu : P.underlying t = some (.slice e)) (he : P.underlying e = some (.int k)) (hc : P.cellsOf e = 1) {B : Nat} (hB : P.bytesOf e = B)
    (h : DataW.Trod enc P W base spare held t (.slice a len cap) d ps) :
    ∃ l : List Int, l.length = len ∧ len ≤ cap ∧ Ints k W a l ∧ (∀ x ∈ l, (Lit.int k x).wf = true) ∧ len * B ≤ 140737488351232 ∧ (a = none → len = 0 ∧ cap = 0) := by
  obtain ⟨fuel, hf⟩ := h
  rcases open_ints hu he hc hf with ⟨hcs, _⟩ | ⟨x, l, c, zs, hcs, _, hl, hm, hz, hx, hcell, hwz⟩
  · simp [Value.cells] at hcs
    obtain ⟨rfl, rfl, rfl⟩ := hcs
    exact ⟨[], rfl, Nat.le_refl _, fun i hi => absurd hi (by simp), fun x hx => absurd hx (by simp), by simp, fun _ => ⟨rfl, rfl⟩⟩
  · simp [Value.cells] at hcs
    obtain ⟨rfl, rfl, rfl⟩ := hcs
    have hlz : len ≤ zs.length := by rw [hz]; split <;> omega
    obtain ⟨hx, _⟩ := Prod.mk.inj hx
    subst hx
    have z := sized_slice hsz ht hd hu
    rw [hB] at z
    have h1 : (lits (H := H) k (zs.take len)).length + (lits (H := H) k (zs.drop len)).length = zs.length := by
      simp [lits]
      omega
    rw [h1] at z
    refine ⟨zs.take len, by rw [List.length_take]; omega, hl, ?_, fun y hy => hwz y (List.mem_of_mem_take hy), Nat.le_trans (Nat.mul_le_mul_right _ hlz) z, fun h => by cases h⟩
    intro i hi
    rw [List.length_take] at hi
    refine ⟨x, rfl, ?_⟩
    rw [hcell i (by omega), List.getD_eq_getElem?_getD, List.getD_eq_getElem?_getD, List.getElem?_take, if_pos (by omega)]

theorem open_arr_int {H : Type} {enc : TypeId × Value → H} {P : Program} {W : World} {base : Nat} {spare : Nat → Bool} {held : Bool} {t e : TypeId} {n : Nat} {k : IntKind} {v : Value} {d : DataW H} {ps : List MemPlace} {r : Reach} {b0 : Nat}
    (hu : P.underlying t = some (.array n e)) (hs : P.cellsOf t = n) (he : P.underlying e = some (.int k)) (h1 : P.cellsOf e = 1) (hv : Value.okWide P W r b0 t v) (h : DataW.Trod enc P W base spare held t v d ps) :
    ∃ l : List Int, v = .agg (l.map (Value.int k)).toArray ∧ l.length = n ∧ ∀ x ∈ l, (Lit.int k x).wf = true := by
  simp only [Value.okWide, hu] at hv
  obtain ⟨cs, rfl, hcs, _⟩ := hv
  obtain ⟨fuel, hf⟩ := h
  obtain ⟨xs, m, rfl, _, hl, hx, hi⟩ := DataW.trod_array hu hf
  simp only [Value.cells] at hl hi
  rw [h1] at hi
  rw [hs] at hl
  have key : ∀ i (hlt : i < cs.toList.length), ∃ a, cs.toList[i] = .int k a ∧ (Lit.int k a).wf = true := by
    intro i hlt
    have hin : i < n := by omega
    have h2 := hi i hin
    rw [Nat.mul_one, List.drop_eq_getElem_cons hlt, List.take_succ_cons, List.take_zero, List.getElem?_eq_getElem (by omega)] at h2
    obtain ⟨a, e0, _, wa⟩ := DataW.trod_int he h2
    simp only [List.cons.injEq, and_true] at e0
    exact ⟨a, e0, wa⟩
  refine ⟨cs.toList.map intOf, ?_, by simpa using hl, ?_⟩
  · congr 1
    apply Array.ext'
    simp only [List.map_map]
    apply List.ext_getElem
    · simp
    · intro i h1 h2
      obtain ⟨a, e0, _⟩ := key i h1
      simp [e0, intOf]
  · intro x hx
    obtain ⟨y, hy, rfl⟩ := List.mem_map.1 hx
    obtain ⟨i, hlt, rfl⟩ := List.getElem_of_mem hy
    obtain ⟨a, e0, wa⟩ := key i hlt
    rw [e0]; exact wa

theorem arr_cells {H : Type} {enc : TypeId × Value → H} {P : Program} {W : World} {base : Nat} {spare : Nat → Bool} {held : Bool} {t e : TypeId} {n fuel : Nat} {k : IntKind} {cs : List Value} {x : DataW H × List MemPlace}
    (hu : P.underlying t = some (.array n e)) (hs : P.cellsOf t = n) (he : P.underlying e = some (.int k)) (h1 : P.cellsOf e = 1) (hf : DataW.trod enc P W base spare held fuel t cs = some x) :
    ∃ l : List Int, cs = l.map (Value.int k) ∧ l.length = n ∧ ∀ x ∈ l, (Lit.int k x).wf = true := by
  obtain ⟨xs, m, rfl, _, hl, hx, hi⟩ := DataW.trod_array hu hf
  rw [h1] at hi
  rw [hs] at hl
  have key : ∀ i (hlt : i < cs.length), ∃ a, cs[i] = .int k a ∧ (Lit.int k a).wf = true := by
    intro i hlt
    have hin : i < n := by omega
    have h2 := hi i hin
    rw [Nat.mul_one, List.drop_eq_getElem_cons hlt, List.take_succ_cons, List.take_zero, List.getElem?_eq_getElem (by omega)] at h2
    obtain ⟨a, e0, _, wa⟩ := DataW.trod_int he h2
    simp only [List.cons.injEq, and_true] at e0
    exact ⟨a, e0, wa⟩
  refine ⟨cs.map intOf, ?_, by simpa using hl, ?_⟩
  · rw [List.map_map]
    apply List.ext_getElem
    · simp
    · intro i h1 h2
      obtain ⟨a, e0, _⟩ := key i h1
      simp [e0, intOf]
  · intro x hx
    obtain ⟨y, hy, rfl⟩ := List.mem_map.1 hx
    obtain ⟨i, hlt, rfl⟩ := List.getElem_of_mem hy
    obtain ⟨a, e0, wa⟩ := key i hlt
    rw [e0]; exact wa

theorem bytes_of {l : List Int} (h : ∀ x ∈ l, (Lit.int .u8 x).wf = true) : Bytes l := by
  intro i
  rw [List.getD_eq_getElem?_getD]
  cases e : l[i]? with
  | none => simp
  | some x =>
    have := bounds_u8 (h x (List.mem_of_getElem? e))
    simp only [Option.getD_some]
    omega

end Go.Proofs.YtcklcffepedklaaGreatDoor
