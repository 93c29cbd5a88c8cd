/- space: what the rows' one listed variable gives; a world that meets it. -/
import Derived.Test.YtdnincnfamcchaaDoorRows
import Derived.Test.YtdnincnfamcchaaDoorTake
import Derived.Lib.LaidTab
import Derived.LaidHandle
import Derived.LaidLaws
import Derived.Handed
import Derived.MakeChecks
namespace Go.Proofs.YtdnincnfamcchaaDoor
open Go.RowKit

/-- What the rows list. -/
def listed : List (String × DataW Unit) := [("math/bits.deBruijn64tab", Rows.laid_math_bits_deBruijn64tab)]
theorem laid_is : (Rows.laid_math_bits_deBruijn64tab : DataW Unit) = Lib.tabData .u8 (Lib.deBruijn64tab.map Int.ofNat) := by rfl
theorem tabType : ∃ t e, (Tryd.prog.globals[0]?).map (·.type) = some t ∧ Tryd.prog.underlying t = some (.array 64 e) ∧ Tryd.prog.underlying e = some (.int .u8) ∧ Tryd.prog.cellsOf e = 1 ∧ Tryd.prog.cellsOf t = 64 :=
  ⟨65, 5, by kernel_rfl, by kernel_rfl, by kernel_rfl, by kernel_rfl, by kernel_rfl⟩
theorem tb_of_laid {W : World} (h : laidMetH Tryd.prog listed W) : Tb W := by
  have h : laidMetH Tryd.prog [("math/bits.deBruijn64tab", Lib.tabData .u8 (Lib.deBruijn64tab.map Int.ofNat))] W := h
  rw [MakeChecks.laidMetH_plain _ _ _ (by kernel_rfl)] at h
  obtain ⟨t, e, h1, h2, h3, h4, h5⟩ := tabType
  have hT := Lib.tabIs_of_head (by kernel_rfl : Tryd.prog.globalNamed "math/bits.deBruijn64tab" = some 0) h1 h2 h3 h4 h5 h
  have hl : (Lib.deBruijn64tab.map Int.ofNat).length = 64 := by decide
  have hc : ∀ j, j < 64 → W.cell? ⟨0, j, none⟩ = some (.int .u8 ((Lib.deBruijn64tab.getD j 0 : Nat) : Int)) := fun j hj => by
    rw [hT.cell (by kernel_rfl : Tryd.prog.globalNamed "math/bits.deBruijn64tab" = some 0) j (by rw [hl]; exact hj)]
    rw [List.getD_eq_getElem?_getD, List.getD_eq_getElem?_getD, List.getElem?_map]
    rw [List.getElem?_eq_getElem (by rw [List.length_map] at hl; rw [hl]; exact hj)]
    rfl
  exact ⟨cell_lt (hc 0 (by decide)), fun j hj => hc j (by have : Lib.deBruijn64tab.length = 64 := by decide
                                                          omega)⟩
/-- A world that meets the condition: the settled one, the variable's cells laid. -/
noncomputable def laidWorld (os : Os) : World :=
  let w0 := World.holding Tryd.prog os ⟨#[], #[], []⟩
  { w0 with heap := w0.heap.modify 0 fun
      | .cells _ t frozen => .cells (Lib.deBruijn64tab.map fun n => Value.int .u8 (Int.ofNat n)).toArray t frozen
      | o => o }
theorem laidWorld_met (os : Os) (args : Array Value) : laidMetH Tryd.prog listed ((laidWorld os).forCall (fun _ _ => 0) ⟨#[], args, []⟩).memory :=
  laidMetH_of_parts (laidMet_of_run' 8 (by kernel_rfl) (by kernel_rfl)) (by kernel_rfl)
end Go.Proofs.YtdnincnfamcchaaDoor
