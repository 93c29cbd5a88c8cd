/- The document's digest: what the walk of block wants to know. -/
import Derived.Test.YtehmnkkfoopanaaRowsOf
import Derived.Test.YtehmnkkfoopanaaOrders
import Derived.Test.YtehmnkkfoopanaaMix
namespace Go.Proofs.Ytehmnkkfoopanaa
open Go.RowKit

theorem Rws.cut {w0 w : World} {L L' : List (Nat × Array Value × TypeId)} (R : Rws w0 w (L ++ L')) : Rws w0 w L := by
  have e : ∀ (i g : Nat) (cs : Array Value) (t : TypeId), L[i]? = some (g, cs, t) → (L ++ L')[i]? = some (g, cs, t) := by
    intro i g cs t h
    rw [List.getElem?_append]
    split
    · exact h
    · rw [List.getElem?_eq_none (by omega)] at h; cases h
  exact ⟨R.bel, fun i g cs t h => R.rows i g cs t (e _ _ _ _ h), fun i j g cs t g' cs' t' h k hij => R.apart i j _ _ _ _ _ _ (e _ _ _ _ h) (e _ _ _ _ k) hij⟩
/-- The sixteen words, laid one by one. -/
def vS (hs : List Int) : Nat → List Int
  | 0 => z16
  | i + 1 => ((vS hs i).set i (hs.getD i 0)).set (i + 8) (ivL.getD i 0)
theorem vS_length (hs : List Int) : ∀ i, (vS hs i).length = 16
  | 0 => rfl
  | i + 1 => by rw [vS, List.length_set, List.length_set]; exact vS_length hs i
theorem vS_8 (hs : List Int) (h : hs.length = 8) : vS hs 8 = hs ++ ivL := by
  match hs, h with
  | [a, b, c, d, e, f, g, k], _ => rfl
def vN (hs : List Int) (n : Nat) : List Int := ((hs ++ ivL).set 12 (Go.bits .xor .u32 1359893119 ((n % 4294967296 : Nat) : Int))).set 13 (Go.bits .xor .u32 2600822924 ((n / 4294967296 : Nat) : Int))
theorem v12 (hs : List Int) (h : hs.length = 8) : (hs ++ ivL).getD 12 0 = 1359893119 := by
  match hs, h with
  | [a, b, c, d, e, f, g, k], _ => rfl
theorem v13 (hs : List Int) (h : hs.length = 8) (x : Int) : ((hs ++ ivL).set 12 x).getD 13 0 = 2600822924 := by
  match hs, h with
  | [a, b, c, d, e, f, g, k], _ => rfl
theorem v14 (hs : List Int) (h : hs.length = 8) (n : Nat) : (vN hs n).getD 14 0 = 528734635 := by
  match hs, h with
  | [a, b, c, d, e, f, g, k], _ => rfl
theorem vN_false (hs : List Int) (h : hs.length = 8) (n : Nat) : vN hs n = hs ++ wV n false := by
  match hs, h with
  | [a, b, c, d, e, f, g, k], _ => rfl
theorem vN_true (hs : List Int) (h : hs.length = 8) (n : Nat) : (vN hs n).set 14 3766232660 = hs ++ wV n true := by
  match hs, h with
  | [a, b, c, d, e, f, g, k], _ => rfl
/-- One order. -/
def oRow (r : Nat) : List Int := (List.range 16).map fun j => ((nib r j : Nat) : Int)
theorem ord_row : ∀ r, r < 10 → (ordC.drop (16 * r)).take 16 = oRow r := by decide +kernel
theorem nib_lt : ∀ r, r < 10 → ∀ j, j < 16 → nib r j < 16 := by decide +kernel
def cellsI (l : List Int) : Array Value := (l.map (Value.int .i64)).toArray
theorem cellsI_get (l : List Int) (k : Nat) (h : k < l.length) : (cellsI l)[k]? = some (.int .i64 (l.getD k 0)) := by
  unfold cellsI
  rw [List.getElem?_toArray, List.getElem?_map, List.getD_eq_getElem?_getD, List.getElem?_eq_getElem h]; rfl
theorem oRow_get (r j : Nat) (h : j < 16) : (oRow r).getD j 0 = ((nib r j : Nat) : Int) := by
  unfold oRow
  rw [List.getD_eq_getElem?_getD, List.getElem?_map, List.getElem?_range h]; rfl
theorem ord_range {w : World} {g : Nat} (h : w.heap[g]? = some (.cells (cellsI ordC) 54 (0, 0))) (r : Nat) (hr : r < 10) : w.rangeAt g (r * 16) ((oRow r).map (Value.int .i64)) := by
  rw [Nat.mul_comm]
  have := rangeAt_of_row h (16 * r) 16
  unfold cellsI at this
  rwa [← ord_row r hr, List.map_take, List.map_drop]
theorem info53' (r : Nat) : (Try.prog.info? 53).map (·.size) = some ((oRow r).map (Value.int .i64)).length := by
  have e : ((oRow r).map (Value.int .i64)).length = 16 := by simp [oRow]
  have k : (Try.prog.info? 53).map (·.size) = some 16 := by kernel_rfl
  rw [k, e]
theorem mix_at (gv a b c d : Nat) (V : List Int) (x y : Int) (w : World) (hV : w.heap[gv]? = some (.cells (cellsW V) 52 (0, 0))) (h16 : V.length = 16) (ha : a < 16) (hb : b < 16) (hc : c < 16) (hd : d < 16)
    (h1 : a ≠ b) (h2 : a ≠ c) (h3 : a ≠ d) (h4 : b ≠ c) (h5 : b ≠ d) (h6 : c ≠ d) (za zb zc zd : Int) (e1 : za = a) (e2 : zb = b) (e3 : zc = c) (e4 : zd = d) :
    Calls Try.prog 25 #[.pointer (some ⟨gv, 0, none⟩), .int .i64 za, .int .i64 zb, .int .i64 zc, .int .i64 zd, .int .u32 x, .int .u32 y] w fun e w' => e = .returned (.tuple #[]) ∧ w.grownBy w' (some gv) ∧ w'.heap[gv]? = some (.cells (cellsW (mixL V a b c d x y)) 52 (0, 0)) := by
  subst e1; subst e2; subst e3; subst e4
  exact mix_any gv a b c d V x y w hV h16 ha hb hc hd h1 h2 h3 h4 h5 h6
end Go.Proofs.Ytehmnkkfoopanaa
