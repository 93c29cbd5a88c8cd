/- digest: Write. -/
import Derived.Test.YtehmnkkfoopanaaPress
import Derived.Test.YtehmnkkfoopanaaRowsOf
import Derived.Laws.CopyRow
import Derived.Lib.SlBuf
namespace Go.Proofs.Ytehmnkkfoopanaa
open Go.RowKit

/-- How many blocks were taken, of n bytes. -/
def nb (n : Nat) : Nat := (n - 1) / 64
theorem chain_ext (a b : List Int) : ∀ k, a.take (64 * k) = b.take (64 * k) → chain a k = chain b k
  | 0, _ => rfl
  | k + 1, h => by
    have h1 : a.take (64 * k) = b.take (64 * k) := by
      have := congrArg (List.take (64 * k)) h
      rwa [List.take_take, List.take_take, Nat.min_eq_left (by omega)] at this
    have h2 : (a.drop (64 * k)).take 64 = (b.drop (64 * k)).take 64 := by
      have := congrArg (List.drop (64 * k)) h
      rwa [List.drop_take, List.drop_take, show 64 * (k + 1) - 64 * k = 64 from by omega] at this
    show blockF (chain a k) ((a.drop (64 * k)).take 64) (64 * (k + 1)) false = blockF (chain b k) ((b.drop (64 * k)).take 64) (64 * (k + 1)) false
    rw [chain_ext a b k h1, h2]
theorem chain_length (b : List Int) : ∀ k, (chain b k).length = 8
  | 0 => rfl
  | k + 1 => (blockF_length _ _ _ _).trans (chain_length b k)
/-- A state that bytes B came to. -/
structure St (w : World) (g : Nat) (B : List Int) : Prop where
  ex : ∃ rs, Row w g (chain B (nb B.length)) rs B.length ∧ rs.take (heldN B.length) = B.drop (64 * nb B.length)
theorem St.of_block {w w' : World} {g : Nat} {B : List Int} (h : St w g B) (hb : w'.heap[g]? = w.heap[g]?) : St w' g B := by
  obtain ⟨rs, R, e⟩ := h.ex
  exact ⟨rs, R.of_block hb, e⟩
theorem St.lt {w : World} {g : Nat} {B : List Int} (h : St w g B) : g < w.heap.size := by
  obtain ⟨rs, R, e⟩ := h.ex
  exact row_lt R.row
theorem St.lim {w : World} {g : Nat} {B : List Int} (h : St w g B) : B.length < 4611686018427387904 := by
  obtain ⟨rs, R, e⟩ := h.ex
  exact R.lim
theorem init_U : AllU initL := by
  intro i
  match i with
  | 0 => exact (show U 1795745351 from ⟨by decide, by decide⟩)
  | 1 => exact (show U 3144134277 from ⟨by decide, by decide⟩)
  | 2 => exact (show U 1013904242 from ⟨by decide, by decide⟩)
  | 3 => exact (show U 2773480762 from ⟨by decide, by decide⟩)
  | 4 => exact (show U 1359893119 from ⟨by decide, by decide⟩)
  | 5 => exact (show U 2600822924 from ⟨by decide, by decide⟩)
  | 6 => exact (show U 528734635 from ⟨by decide, by decide⟩)
  | 7 => exact (show U 1541459225 from ⟨by decide, by decide⟩)
  | i + 8 => exact (show U 0 from ⟨by decide, by decide⟩)
theorem rep0_B : Bytes rep0 := by
  intro i
  have e : rep0 = List.replicate 64 0 := by decide
  rw [e, List.getD_eq_getElem?_getD, List.getElem?_replicate]
  split <;> simp
theorem St.new {w : World} {g : Nat} (h : w.heap[g]? = some (.cells (stC initL rep0 0) 49 (0, 0))) : St w g [] :=
  ⟨rep0, ⟨h, rfl, rfl, init_U, rep0_B, by decide⟩, by decide⟩
theorem New_st (w : World) : Calls Try.prog 15 #[] w fun e w' => ∃ g, e = .returned (.pointer (some ⟨g, 0, none⟩)) ∧ w.grownBy w' none ∧ w.heap.size ≤ g ∧ St w' g [] := by
  refine (New_any w).mono ?_
  rintro e w' ⟨g, rfl, hg, hge, hr⟩
  exact ⟨g, rfl, hg, hge, St.new hr⟩

/-- The cells behind bytes that are laid into rest at k, and a new count. -/
theorem stC_splice {hs rs : List Int} (h8 : hs.length = 8) (r64 : rs.length = 64) (x : List Int) (k : Nat) (hk : k + x.length ≤ 64) (z : Int) :
    ((stC hs rs z).toList.take (8 + k) ++ x.map (Value.int .u8) ++ (stC hs rs z).toList.drop (8 + k + (x.map (Value.int .u8)).length)).toArray = stC hs (rs.take k ++ x ++ rs.drop (k + x.length)) z := by
  have e1 : (stC hs rs z).toList = hs.map (Value.int .u32) ++ (rs.map (Value.int .u8) ++ [Value.int .u64 z]) := by simp [stC]
  rw [e1, List.length_map]
  have t1 : (hs.map (Value.int .u32) ++ (rs.map (Value.int .u8) ++ [Value.int .u64 z])).take (8 + k) = hs.map (Value.int .u32) ++ (rs.take k).map (Value.int .u8) := by
    rw [List.take_append, List.take_of_length_le (by simp [h8]), List.length_map, h8, show 8 + k - 8 = k from by omega, List.take_append_of_le_length (by simp; omega), List.map_take]
  have t2 : (hs.map (Value.int .u32) ++ (rs.map (Value.int .u8) ++ [Value.int .u64 z])).drop (8 + k + x.length) = (rs.drop (k + x.length)).map (Value.int .u8) ++ [Value.int .u64 z] := by
    rw [List.drop_append, List.drop_of_length_le (by simp [h8]; omega), List.nil_append, List.length_map, h8, show 8 + k + x.length - 8 = k + x.length from by omega, List.drop_append_of_le_length (by simp; omega), List.map_drop]
  rw [t1, t2]
  unfold stC
  simp [List.map_append, List.append_assoc]
theorem stC_num {hs rs : List Int} (h8 : hs.length = 8) (r64 : rs.length = 64) (z y : Int) : (stC hs rs z).setIfInBounds 72 (.int .u64 y) = stC hs rs y := by
  unfold stC
  rw [List.setIfInBounds_toArray, List.set_append_right _ _ (by simp; omega)]
  simp [h8, r64]
theorem splice_length {rs x : List Int} {k : Nat} (r64 : rs.length = 64) (hk : k + x.length ≤ 64) : (rs.take k ++ x ++ rs.drop (k + x.length)).length = 64 := by simp; omega
theorem splice_B {rs x : List Int} {k : Nat} (h : Bytes rs) (hx : Bytes x) : Bytes (rs.take k ++ x ++ rs.drop (k + x.length)) := ((h.take k).append hx).append (h.drop _)

/-- Bytes x come to a state whose rest holds k bytes: the state is that of all. -/
theorem St.more {w : World} {g : Nat} {B x hs rs : List Int} {k : Nat} (hx0 : 0 < x.length) (hB : Bytes rs) (hxB : Bytes x) (h8 : hs.length = 8) (hU : AllU hs) (r64 : rs.length = 64) (hk : k + x.length ≤ 64)
    (hl : (B ++ x).length < 4611686018427387904) (hb : 64 * nb (B ++ x).length + k = B.length) (hh : hs = chain B (nb (B ++ x).length)) (hr : rs.take k = B.drop (64 * nb (B ++ x).length))
    (h : w.heap[g]? = some (.cells (stC hs (rs.take k ++ x ++ rs.drop (k + x.length)) ((B ++ x).length : Nat)) 49 (0, 0))) : St w g (B ++ x) := by
  have hc : hs = chain (B ++ x) (nb (B ++ x).length) := by
    rw [hh]
    apply chain_ext
    rw [List.take_append_of_le_length (by omega)]
  refine ⟨rs.take k ++ x ++ rs.drop (k + x.length), ⟨by rw [← hc]; exact h, by rw [← hc]; exact h8, splice_length r64 hk, by rw [← hc]; exact hU, splice_B hB hxB, hl⟩, ?_⟩
  have hhe : heldN (B ++ x).length = k + x.length := by
    have e : (B ++ x).length = B.length + x.length := List.length_append
    unfold nb at hb
    unfold heldN
    rw [if_neg (by omega)]
    omega
  rw [hhe, List.append_assoc, List.take_append, List.take_of_length_le (by simp; omega), List.length_take, Nat.min_eq_left (by omega), show k + x.length - k = x.length from by omega, List.take_append_of_le_length (Nat.le_refl _), List.take_of_length_le (Nat.le_refl _), hr, List.drop_append_of_le_length (by omega)]
end Go.Proofs.Ytehmnkkfoopanaa
