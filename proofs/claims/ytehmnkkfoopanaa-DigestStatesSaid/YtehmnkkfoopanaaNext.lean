/- digest: the closure next. -/
import Derived.Test.YtehmnkkfoopanaaSmall
namespace Go.Proofs.Ytehmnkkfoopanaa
open Go.RowKit

theorem cellW_of {w : World} {g : Nat} {l : List Int} {t : TypeId} (h : w.heap[g]? = some (.cells (cellsW l) t (0, 0))) (i : Nat) (hi : i < l.length) : w.cell? ⟨g, i, none⟩ = some (.int .u32 (l.getD i 0)) := by
  rw [cell_of_row _ _ _ _ _ _ h]; exact cellsW_get l i hi
theorem next_any (gm go o : Nat) (M : List Int) (w : World) (hM : w.heap[gm]? = some (.cells (cellsW M) 52 (0, 0))) (hM16 : M.length = 16) (ho : w.heap[go]? = some (.cells #[.int .u64 o] 29 (0, 0))) (ho64 : o < 18446744073709551616) :
    Calls Try.prog 27 #[.pointer (some ⟨gm, 0, none⟩), .pointer (some ⟨go, 0, none⟩)] w fun e w' => e = .returned (.int .u32 (M.getD (o / 1152921504606846976) 0)) ∧ w' = w.setCell ⟨go, 0, none⟩ (.int .u64 ((o * 16 % 18446744073709551616 : Nat) : Int)) := by
  have c1 : w.cell? ⟨go, 0, none⟩ = some (.int .u64 o) := by rw [cell_of_row _ _ _ _ _ _ ho]; rfl
  have c2 := cellW_of hM (o / 1152921504606846976) (by rw [hM16]; omega)
  have f1 := free_row ho 0
  have h1 : (o : Int) / 1152921504606846976 < 16 := by omega
  have h2 : (0 : Int) ≤ (o : Int) / 1152921504606846976 := by omega
  have h3 : ((o * 16 % 18446744073709551616 : Nat) : Int) = (o : Int) * 16 % 18446744073709551616 := by omega
  rw [h3]
  generalize M.getD (o / 1152921504606846976) 0 = x at *
  clear hM hM16 ho h3
  go_enter Try.func27, Try.ntmps27
  go_wp2_with fail
  go_ret
  exact ⟨rfl, rfl⟩
end Go.Proofs.Ytehmnkkfoopanaa
