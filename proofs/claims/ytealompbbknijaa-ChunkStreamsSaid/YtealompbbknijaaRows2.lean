/- chunk: part; slices of slices of bytes. -/
import Derived.Test.YtealompbbknijaaOps
namespace Go.Proofs.Ytealompbbknijaa
open Go.RowKit

theorem splice_all {α : Type} (L cs : List α) (h : cs.length = L.length) : splice L 0 cs = cs := by
  unfold splice; rw [List.take_zero, Nat.zero_add, h, List.drop_length]; simp
theorem make_bytes (n : Nat) (hn : n ≤ 1000000000000) (W : World) : (Instr.makeSlice 25 (.int .i64 (n : Int)) (.int .i64 (n : Int))).run Try.prog W = .ok (.slice (some ⟨W.heap.size, 0, none⟩) n n) (W.alloc (.cells (List.replicate n (Value.int .u8 0)).toArray 5)) := by
  obtain ⟨i0, hi, hz0, hz1, hz2⟩ := info_parts Try.info5
  have := run_make (P := Try.prog) W 25 5 i0 (.int .u8 0) Try.underlying25 hi hz0 .i64 .i64 (n : Int) (n : Int) (by omega) (Int.le_refl _) (by rw [hz2]; omega) (by omega)
  rw [Int.toNat_natCast, hz1, Nat.mul_one] at this
  rw [this, ← madeCells_rep]
  rfl

/-- A copy of bytes. -/
def NewPart (n : Nat) (l : List Int) (w : World) (e : Ending) (w' : World) : Prop :=
  e = .returned (.slice (some ⟨w.heap.size, 0, none⟩) n n) ∧ w'.heap[w.heap.size]? = some (.cells (cellsOf l) 5 (0, 0)) ∧ Below w.heap.size w w'
theorem part_any (A : Option Addr) (n c : Nat) (l : List Int) (w : World) (hn : l.length = n) (hl : n ≤ 1000000000000) (hI : Ints .u8 w A l) :
    Calls Try.prog 24 #[.slice A n c] w (NewPart n l w) := by
  have hmk := make_bytes n hl
  obtain ⟨Z, hZ⟩ : ∃ Z, Z = List.replicate n (Value.int .u8 0) := ⟨_, rfl⟩
  have HZ := Lib.hid (show Z.length = n by rw [hZ, List.length_replicate])
  rw [← hZ] at hmk
  clear hZ
  have HN := Lib.hid hn
  have HI := Lib.hid hI
  have HI2 := Lib.hid (hI.grown (grown_alloc w (.cells Z.toArray 5) none) (fun _ _ _ h => by cases h))
  have HR := Lib.hid (heap_alloc_last w (.cells Z.toArray 5))
  have HB := Lib.hid ((Below.refl w.heap.size w).alloc (Nat.le_refl _) (.cells Z.toArray 5))
  have HU := Lib.hid Try.underlying25
  have HS := Lib.hid (show (Try.prog.info? 5).map (·.size) = some 1 by kernel_rfl)
  clear hn hI
  go_enter Try.func24, Try.ntmps24
  go_wp2_with (with_reducible refine wpList_copy_splice rfl _ _ 25 25 rfl 5 HU.out HS.out (some ⟨w.heap.size, 0, none⟩) A n n n c rfl rfl w.heap.size 0 Z 5 HR.out (l.map (Value.int .u8)) ?c1 ?c2 ?c3 (ints_one _ _) w.heap.size w HB.out (Nat.le_refl _) ?_)
  case c1 => rw [List.length_map, HN.out]; exact (Nat.min_self n).symm
  case c2 =>
    intro h0
    obtain ⟨ad, e, _⟩ := HI2.out 0 h0
    refine ⟨ad, e, fun j a hj => ?_⟩
    have hjl : j < l.length := by
      rcases Nat.lt_or_ge j l.length with h | h
      · exact h
      · rw [List.getElem?_eq_none h] at hj; cases hj
    obtain ⟨ad', e', hc⟩ := HI2.out j hjl
    rw [e] at e'; injection e' with e'; subst e'
    rw [hc, List.getD_eq_getElem?_getD, hj]; rfl
  case c3 => rw [List.length_map, HN.out, HZ.out]; omega
  intro w2 HR2 hb2
  have HB2 := Lib.hid hb2
  clear hb2
  go_wp2
  go_ret
  refine ⟨rfl, ?_, HB2.out⟩
  rw [HR2.out, splice_all _ _ (by simp [HN.out, HZ.out])]
  rfl

theorem Try.info25 : (Try.prog.info? 25).map (fun i => (i.zero, i.size, i.bytes)) = some (some (.slice none 0 0), 1, 24) := by kernel_rfl
theorem E28 : Elem Try.prog 28 25 1 24 := by
  obtain ⟨i0, hi, hz0, hz1, hz2⟩ := info_parts Try.info25
  exact ⟨Try.underlying28, ⟨i0, _, hi, hz0, hz1, hz2, rfl⟩, by decide⟩

/-- The values are slices of the bytes L, whose blocks meet P. -/
def RowsV (P : Nat → Prop) (w : World) (vals : List Value) (L : List (List Int)) : Prop :=
  vals.length = L.length ∧ ∀ (i : Nat) (l : List Int), L[i]? = some l → ∃ (A : Option Addr) (c : Nat), vals[i]? = some (Value.slice A l.length c) ∧ l.length ≤ c ∧ Ints .u8 w A l ∧ Bytes l ∧ ∀ ad, A = some ad → P ad.block
theorem RowsV.nil (P : Nat → Prop) (w : World) : RowsV P w [] [] := ⟨rfl, fun i l h => by cases h⟩
theorem RowsV.one (P : Nat → Prop) (w : World) (A : Option Addr) (c : Nat) (l : List Int) (h1 : l.length ≤ c) (h2 : Ints .u8 w A l) (h3 : Bytes l) (h4 : ∀ ad, A = some ad → P ad.block) : RowsV P w [.slice A l.length c] [l] := by
  refine ⟨rfl, fun i m h => ?_⟩
  match i, h with
  | 0, h => injection h with h; subst h; exact ⟨A, c, rfl, h1, h2, h3, h4⟩
theorem RowsV.imp {P Q : Nat → Prop} {w : World} {vals : List Value} {L : List (List Int)} (h : RowsV P w vals L) (hi : ∀ k, P k → Q k) : RowsV Q w vals L :=
  ⟨h.1, fun i l hl => by obtain ⟨A, c, a1, a2, a3, a4, a5⟩ := h.2 i l hl; exact ⟨A, c, a1, a2, a3, a4, fun ad e => hi _ (a5 ad e)⟩⟩
theorem RowsV.kept {P : Nat → Prop} {w w' : World} {r : Option Nat} {vals : List Value} {L : List (List Int)} (h : RowsV P w vals L) (hg : w.grownBy w' r) (hr : ∀ k, P k → some k ≠ r) : RowsV P w' vals L :=
  ⟨h.1, fun i l hl => by obtain ⟨A, c, a1, a2, a3, a4, a5⟩ := h.2 i l hl; exact ⟨A, c, a1, a2, a3.grown hg (fun ad e _ => hr _ (a5 ad e)), a4, a5⟩⟩
theorem RowsV.append {P : Nat → Prop} {w : World} {v1 v2 : List Value} {L1 L2 : List (List Int)} (h1 : RowsV P w v1 L1) (h2 : RowsV P w v2 L2) : RowsV P w (v1 ++ v2) (L1 ++ L2) := by
  refine ⟨by rw [List.length_append, List.length_append, h1.1, h2.1], fun i l hl => ?_⟩
  rw [List.getElem?_append] at hl
  by_cases hlt : i < L1.length
  · rw [if_pos hlt] at hl
    obtain ⟨A, c, a1, a2⟩ := h1.2 i l hl
    exact ⟨A, c, by rw [List.getElem?_append_left (by rw [h1.1]; exact hlt)]; exact a1, a2⟩
  · rw [if_neg hlt] at hl
    obtain ⟨A, c, a1, a2⟩ := h2.2 _ l hl
    exact ⟨A, c, by rw [List.getElem?_append_right (by rw [h1.1]; omega), h1.1]; exact a1, a2⟩
theorem RowsV.oneCell {P : Nat → Prop} {w : World} {vals : List Value} {L : List (List Int)} (h : RowsV P w vals L) : ∀ u ∈ vals, u.oneCell' = true := by
  intro u hu
  obtain ⟨i, hi, rfl⟩ := List.getElem_of_mem hu
  have hl : i < L.length := by rw [← h.1]; exact hi
  obtain ⟨A, c, a1, _⟩ := h.2 i _ (List.getElem?_eq_getElem hl)
  rw [List.getElem?_eq_getElem hi] at a1
  injection a1 with a1
  rw [a1]; rfl
theorem RowsV.drop {P : Nat → Prop} {w : World} {vals : List Value} {L : List (List Int)} (h : RowsV P w vals L) (k : Nat) : RowsV P w (vals.drop k) (L.drop k) :=
  ⟨by rw [List.length_drop, List.length_drop, h.1], fun i l hl => by rw [List.getElem?_drop] at hl ⊢; exact h.2 _ l hl⟩

/-- The slice at A holds the slices of the bytes L, whose blocks meet P. -/
def Rows (P : Nat → Prop) (w : World) (A : Option Addr) (L : List (List Int)) : Prop :=
  ∃ vals, RowsV P w vals L ∧ ∀ j u, vals[j]? = some u → ∃ ad, A = some ad ∧ w.cell? (ad.add j) = some u
theorem Rows.at {P : Nat → Prop} {w : World} {A : Option Addr} {L : List (List Int)} (h : Rows P w A L) (i : Nat) (hi : i < L.length) :
    ∃ ad B c, A = some ad ∧ w.cell? (ad.add i) = some (.slice B (L.getD i []).length c) ∧ (L.getD i []).length ≤ c ∧ Ints .u8 w B (L.getD i []) ∧ Bytes (L.getD i []) ∧ ∀ b, B = some b → P b.block := by
  obtain ⟨vals, hv, hc⟩ := h
  have e : L[i]? = some (L.getD i []) := by rw [List.getD_eq_getElem?_getD, List.getElem?_eq_getElem hi]; rfl
  obtain ⟨B, c, a1, a2, a3, a4, a5⟩ := hv.2 i _ e
  obtain ⟨ad, e1, hcell⟩ := hc i _ a1
  exact ⟨ad, B, c, e1, hcell, a2, a3, a4, a5⟩
theorem Rows.below {P : Nat → Prop} {w w' : World} {A : Option Addr} {L : List (List Int)} (h : Rows P w A L) (hb : Below w.heap.size w w') : Rows P w' A L := by
  obtain ⟨vals, hv, hc⟩ := h
  refine ⟨vals, ⟨hv.1, fun i l hl => ?_⟩, fun j u hj => ?_⟩
  · obtain ⟨B, c, a1, a2, a3, a4, a5⟩ := hv.2 i l hl
    exact ⟨B, c, a1, a2, a3.below hb, a4, a5⟩
  · obtain ⟨ad, e, hcell⟩ := hc j u hj
    exact ⟨ad, e, (hb.cell (cell_lt hcell)).trans hcell⟩
theorem Rows.drewN {P : Nat → Prop} {w : World} {A : Option Addr} {L : List (List Int)} (h : Rows P w A L) (n : Nat) : Rows P (w.drewN n) A L := h

/-- A new slice of slices. -/
def NewRows (P : Nat → Prop) (B : Nat) (L : List (List Int)) (w' : World) (v : Value) : Prop :=
  ∃ vals, w'.ownsRow B 25 1 v L.length vals ∧ RowsV P w' vals L
theorem NewRows.rows {P : Nat → Prop} {B : Nat} {L : List (List Int)} {w : World} {v : Value} (h : NewRows P B L w v) :
    ∃ A c, v = .slice A L.length c ∧ L.length ≤ c ∧ Rows P w A L ∧ (∀ ad, A = some ad → B ≤ ad.block ∧ ad.block < w.heap.size) ∧ (A = none → L.length = 0 ∧ c = 0) := by
  obtain ⟨vals, ho, hv⟩ := h
  have hlt := ho.lt
  have hcl : ∀ {g : Nat}, v.ownBlock = some g → _ := fun hg => ho.cells hg
  obtain ⟨h1, h2⟩ := ho
  rcases h2 with ⟨rfl, h0⟩ | ⟨g, cap, cur, rfl, hb, hg, hn, _⟩
  · refine ⟨none, 0, by rw [h0], by omega, ⟨vals, hv, fun j u hj => ?_⟩, (fun ad e => by cases e), fun _ => ⟨h0, rfl⟩⟩
    have : vals = [] := List.length_eq_zero_iff.1 (by rw [hv.1, h0])
    subst this; cases hj
  · exact ⟨some ⟨g, 0, none⟩, cap, rfl, hn, ⟨vals, hv, fun j u hj => ⟨_, rfl, hcl rfl j u hj⟩⟩, (fun ad e => by cases e; exact hlt g rfl), fun e => by cases e⟩

end Go.Proofs.Ytealompbbknijaa
