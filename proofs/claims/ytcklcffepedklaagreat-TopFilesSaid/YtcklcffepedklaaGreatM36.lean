/- Texts of the proof, one behind the other: chunk: Cut, New, part, Held; the reference's Cut. chunk: part; slices of slices of bytes. chunk: Write. chunk: Close, All. -/
import Derived.Test.YtcklcffepedklaaGreatM35
import Derived.Test.YtcklcffepedklaaGreatM01
import Derived.Laws.CopyOwn
namespace Go.Proofs.YtcklcffepedklaaGreat.Ck
open Go.RowKit

theorem Ct.Ok.right {c : Ct} (ok : c.Ok) : RightI c.mn c.mx c.main c.back := by
  have := ok.lo; have := ok.le; have := ok.hi; have := ok.m0; have := ok.b0
  unfold RightI; omega
theorem Tryz.info5 : (Tryz.prog.info? 5).map (fun i => (i.zero, i.size, i.bytes)) = some (some (.int .u8 0), 1, 1) := by kernel_rfl
theorem E22 : Elem Tryz.prog 22 5 1 1 := by
  obtain ⟨i0, hi, hz0, hz1, hz2⟩ := info_parts Tryz.info5
  exact ⟨Tryz.underlying22, ⟨i0, _, hi, hz0, hz1, hz2, rfl⟩, by decide⟩

set_option maxRecDepth 20000 in
theorem New_no (mn mx main back : Int) (w : World) (h : ¬ RightI mn mx main back) :
    Calls Tryz.prog 21 #[.agg (cutC mn mx main back)] w fun e w' => e = .returned (.pointer none) ∧ Below w.heap.size w w' := by
  have HC := Lib.hid (Right_no mn mx main back (w.alloc (.cells (cutC mn mx main back) 29)) h)
  unfold cutC at HC ⊢
  clear h
  go_enter Tryz.func21, Tryz.ntmps21
  go_wp2_with (go_at_call 41; refine HC.out.mono ?_; rintro e w2 ⟨rfl, hg2⟩)
  go_ret
  exact ⟨rfl, grown_below (grown_trans (grown_alloc _ _ _) hg2) (Nat.le_refl _) (fun _ h => by cases h)⟩

theorem Ints.blk {k : IntKind} {w : World} {A : Option Addr} {l : List Int} (h : Ints k w A l) : ∀ ad, A = some ad → 0 < l.length → ad.block < w.heap.size := by
  intro ad e h0
  obtain ⟨ad', e', hc⟩ := h 0 h0
  rw [e] at e'
  injection e' with e'
  subst e'
  exact cell_block hc
/-- A new stream. -/
def NewStr (c : Ct) (w : World) (e : Ending) (w' : World) : Prop :=
  ∃ g, e = .returned (.pointer (some ⟨g, 0, none⟩)) ∧ w.heap.size ≤ g ∧ w'.heap[g]? = some (.cells (scanC c 0 0 0 [.slice none 0 0]) 116 (0, 0)) ∧ Below w.heap.size w w'
set_option maxRecDepth 20000 in
theorem New_yes (c : Ct) (ok : c.Ok) (w : World) : Calls Tryz.prog 21 #[.agg (cutC c.mn c.mx c.main c.back)] w (NewStr c w) := by
  have HC := Lib.hid (Right_yes c.mn c.mx c.main c.back (w.alloc (.cells (cutC c.mn c.mx c.main c.back) 29)) ok.right)
  have hrow := heap_alloc_last w (.cells (cutC c.mn c.mx c.main c.back) 29)
  have HG := Lib.hid (grown_alloc w (.cells (cutC c.mn c.mx c.main c.back) 29) none)
  have HR := Lib.hid hrow
  unfold cutC at HC HG HR ⊢
  clear ok hrow
  go_enter Tryz.func21, Tryz.ntmps21
  go_wp2_with fail
  refine HC.out.mono ?_
  rintro e w2 ⟨rfl, hg2⟩
  have hr2 := (hg2.block w.heap.size (by simp) (by simp)).trans HR.out
  have d0 : w2.cell? ⟨w.heap.size, 0, none⟩ = some (.int .i64 c.mn) := by rw [cell_of_row _ _ _ _ _ _ hr2]; rfl
  have d1 : w2.cell? ⟨w.heap.size, 1, none⟩ = some (.int .i64 c.mx) := by rw [cell_of_row _ _ _ _ _ _ hr2]; rfl
  have d2 : w2.cell? ⟨w.heap.size, 2, none⟩ = some (.int .u32 c.main) := by rw [cell_of_row _ _ _ _ _ _ hr2]; rfl
  have d3 : w2.cell? ⟨w.heap.size, 3, none⟩ = some (.int .u32 c.back) := by rw [cell_of_row _ _ _ _ _ _ hr2]; rfl
  have HGW := Lib.hid (grown_trans HG.out hg2)
  clear hr2 hg2
  go_wp2_with fail
  go_ret
  exact ⟨w2.heap.size, rfl, HGW.out.size, heap_alloc_last _ _, (below_refl_grown HGW.out).alloc HGW.out.size _⟩

/-- The reference's loop: what is kept before length n. -/
def keptR (c : Ct) (l : List Int) (n : Nat) : Nat := if 0 < kept c l (n - 1) then kept c l (n - 1) else c.mx
theorem keptR_lo (c : Ct) (ok : c.Ok) (l : List Int) : keptR c l c.mn = c.mx := by
  unfold keptR; rw [kept_below c l _ (by have := ok.lo; omega)]; simp
theorem keptR_next (c : Ct) (l : List Int) (n : Nat) (h : c.mn ≤ n) (h0 : 0 < n) : keptR c l (n + 1) = if backAt c l n = true then n else keptR c l n := by
  obtain ⟨m, rfl⟩ : ∃ m, n = m + 1 := ⟨n - 1, by omega⟩
  have e : kept c l (m + 1) = if backAt c l (m + 1) = true then m + 1 else kept c l m := by
    simp only [kept]
    by_cases hb : backAt c l (m + 1) = true
    · rw [if_pos ⟨h, hb⟩, if_pos hb]
    · rw [if_neg (fun h => hb h.2), if_neg hb]
  unfold keptR
  simp only [Nat.add_sub_cancel]
  rw [e]
  by_cases hb : backAt c l (m + 1) = true
  · rw [if_pos hb, if_pos hb, if_pos (by omega)]
  · rw [if_neg hb, if_neg hb]
theorem keptR_le (c : Ct) (l : List Int) (n : Nat) (h : n ≤ 4097) (h2 : c.mx ≤ 4096) : keptR c l n ≤ 4096 := by
  unfold keptR
  have := kept_le c l (n - 1)
  split <;> omega

end Go.Proofs.YtcklcffepedklaaGreat.Ck

namespace Go.Proofs.YtcklcffepedklaaGreat.Ck
open Go.RowKit

theorem splice_all {α : Type} (L cs : List α) (h : cs.length = L.length) : splice L 0 cs = cs := by
  unfold splice; rw [List.take_zero, Nat.zero_add, h, List.drop_length]; simp
theorem make_bytes (n : Nat) (hn : n ≤ 1000000000000) (W : World) : (Instr.makeSlice 22 (.int .i64 (n : Int)) (.int .i64 (n : Int))).run Tryz.prog W = .ok (.slice (some ⟨W.heap.size, 0, none⟩) n n) (W.alloc (.cells (List.replicate n (Value.int .u8 0)).toArray 5)) := by
  obtain ⟨i0, hi, hz0, hz1, hz2⟩ := info_parts Tryz.info5
  have := run_make (P := Tryz.prog) W 22 5 i0 (.int .u8 0) Tryz.underlying22 hi hz0 .i64 .i64 (n : Int) (n : Int) (by omega) (Int.le_refl _) (by rw [hz2]; omega) (by omega)
  rw [Int.toNat_natCast, hz1, Nat.mul_one] at this
  rw [this, ← madeCells_rep]
  rfl

/-- A copy of bytes. -/
def NewPart (n : Nat) (l : List Int) (w : World) (e : Ending) (w' : World) : Prop :=
  e = .returned (.slice (some ⟨w.heap.size, 0, none⟩) n n) ∧ w'.heap[w.heap.size]? = some (.cells (cellsOf l) 5 (0, 0)) ∧ Below w.heap.size w w'
set_option maxRecDepth 20000 in
theorem part_any (A : Option Addr) (n c : Nat) (l : List Int) (w : World) (hn : l.length = n) (hl : n ≤ 1000000000000) (hI : Ints .u8 w A l) :
    Calls Tryz.prog 42 #[.slice A n c] w (NewPart n l w) := by
  have hmk := make_bytes n hl
  obtain ⟨Z, hZ⟩ : ∃ Z, Z = List.replicate n (Value.int .u8 0) := ⟨_, rfl⟩
  have HZ := Lib.hid (show Z.length = n by rw [hZ, List.length_replicate])
  rw [← hZ] at hmk
  clear hZ
  have HN := Lib.hid hn
  have HI := Lib.hid hI
  have HI2 := Lib.hid (hI.grown (grown_alloc w (.cells Z.toArray 5) none) (fun _ _ _ h => by cases h))
  have HR := Lib.hid (heap_alloc_last w (.cells Z.toArray 5))
  have HB := Lib.hid ((Below.refl w.heap.size w).alloc (Nat.le_refl _) (.cells Z.toArray 5))
  have HU := Lib.hid Tryz.underlying22
  have HS := Lib.hid (show (Tryz.prog.info? 5).map (·.size) = some 1 by kernel_rfl)
  clear hn hI
  go_enter Tryz.func42, Tryz.ntmps42
  go_wp2_with (with_reducible refine wpList_copy_splice rfl _ _ 22 22 rfl 5 HU.out HS.out (some ⟨w.heap.size, 0, none⟩) A n n n c rfl rfl w.heap.size 0 Z 5 HR.out (l.map (Value.int .u8)) ?c1 ?c2 ?c3 (ints_one _ _) w.heap.size w HB.out (Nat.le_refl _) ?_)
  case c1 => rw [List.length_map, HN.out]; exact (Nat.min_self n).symm
  case c2 =>
    intro h0
    obtain ⟨ad, e, _⟩ := HI2.out 0 h0
    refine ⟨ad, e, fun j a hj => ?_⟩
    have hjl : j < l.length := by
      rcases Nat.lt_or_ge j l.length with h | h
      · exact h
      · rw [List.getElem?_eq_none h] at hj; cases hj
    obtain ⟨ad', e', hc⟩ := HI2.out j hjl
    rw [e] at e'; injection e' with e'; subst e'
    rw [hc, List.getD_eq_getElem?_getD, hj]; rfl
  case c3 => rw [List.length_map, HN.out, HZ.out]; omega
  intro w2 HR2 hb2
  have HB2 := Lib.hid hb2
  clear hb2
  go_wp2
  go_ret
  refine ⟨rfl, ?_, HB2.out⟩
  rw [HR2.out, splice_all _ _ (by simp [HN.out, HZ.out])]
  rfl

theorem Tryz.info22 : (Tryz.prog.info? 22).map (fun i => (i.zero, i.size, i.bytes)) = some (some (.slice none 0 0), 1, 24) := by kernel_rfl
theorem E32 : Elem Tryz.prog 32 22 1 24 := by
  obtain ⟨i0, hi, hz0, hz1, hz2⟩ := info_parts Tryz.info22
  exact ⟨Tryz.underlying32, ⟨i0, _, hi, hz0, hz1, hz2, rfl⟩, by decide⟩

/-- The values are slices of the bytes L, whose blocks meet P. -/
def RowsV (P : Nat → Prop) (w : World) (vals : List Value) (L : List (List Int)) : Prop :=
  vals.length = L.length ∧ ∀ (i : Nat) (l : List Int), L[i]? = some l → ∃ (A : Option Addr) (c : Nat), vals[i]? = some (Value.slice A l.length c) ∧ l.length ≤ c ∧ Ints .u8 w A l ∧ Bytes l ∧ ∀ ad, A = some ad → P ad.block
theorem RowsV.nil (P : Nat → Prop) (w : World) : RowsV P w [] [] := ⟨rfl, fun i l h => by cases h⟩
theorem RowsV.one (P : Nat → Prop) (w : World) (A : Option Addr) (c : Nat) (l : List Int) (h1 : l.length ≤ c) (h2 : Ints .u8 w A l) (h3 : Bytes l) (h4 : ∀ ad, A = some ad → P ad.block) : RowsV P w [.slice A l.length c] [l] := by
  refine ⟨rfl, fun i m h => ?_⟩
  match i, h with
  | 0, h => injection h with h; subst h; exact ⟨A, c, rfl, h1, h2, h3, h4⟩
theorem RowsV.imp {P Q : Nat → Prop} {w : World} {vals : List Value} {L : List (List Int)} (h : RowsV P w vals L) (hi : ∀ k, P k → Q k) : RowsV Q w vals L :=
  ⟨h.1, fun i l hl => by obtain ⟨A, c, a1, a2, a3, a4, a5⟩ := h.2 i l hl; exact ⟨A, c, a1, a2, a3, a4, fun ad e => hi _ (a5 ad e)⟩⟩
theorem RowsV.kept {P : Nat → Prop} {w w' : World} {r : Option Nat} {vals : List Value} {L : List (List Int)} (h : RowsV P w vals L) (hg : w.grownBy w' r) (hr : ∀ k, P k → some k ≠ r) : RowsV P w' vals L :=
  ⟨h.1, fun i l hl => by obtain ⟨A, c, a1, a2, a3, a4, a5⟩ := h.2 i l hl; exact ⟨A, c, a1, a2, a3.grown hg (fun ad e _ => hr _ (a5 ad e)), a4, a5⟩⟩
theorem RowsV.append {P : Nat → Prop} {w : World} {v1 v2 : List Value} {L1 L2 : List (List Int)} (h1 : RowsV P w v1 L1) (h2 : RowsV P w v2 L2) : RowsV P w (v1 ++ v2) (L1 ++ L2) := by
  refine ⟨by rw [List.length_append, List.length_append, h1.1, h2.1], fun i l hl => ?_⟩
  rw [List.getElem?_append] at hl
  by_cases hlt : i < L1.length
  · rw [if_pos hlt] at hl
    obtain ⟨A, c, a1, a2⟩ := h1.2 i l hl
    exact ⟨A, c, by rw [List.getElem?_append_left (by rw [h1.1]; exact hlt)]; exact a1, a2⟩
  · rw [if_neg hlt] at hl
    obtain ⟨A, c, a1, a2⟩ := h2.2 _ l hl
    exact ⟨A, c, by rw [List.getElem?_append_right (by rw [h1.1]; omega), h1.1]; exact a1, a2⟩
theorem RowsV.oneCell {P : Nat → Prop} {w : World} {vals : List Value} {L : List (List Int)} (h : RowsV P w vals L) : ∀ u ∈ vals, u.oneCell' = true := by
  intro u hu
  obtain ⟨i, hi, rfl⟩ := List.getElem_of_mem hu
  have hl : i < L.length := by rw [← h.1]; exact hi
  obtain ⟨A, c, a1, _⟩ := h.2 i _ (List.getElem?_eq_getElem hl)
  rw [List.getElem?_eq_getElem hi] at a1
  injection a1 with a1
  rw [a1]; rfl
theorem RowsV.drop {P : Nat → Prop} {w : World} {vals : List Value} {L : List (List Int)} (h : RowsV P w vals L) (k : Nat) : RowsV P w (vals.drop k) (L.drop k) :=
  ⟨by rw [List.length_drop, List.length_drop, h.1], fun i l hl => by rw [List.getElem?_drop] at hl ⊢; exact h.2 _ l hl⟩

/-- The slice at A holds the slices of the bytes L, whose blocks meet P. -/
def Rows (P : Nat → Prop) (w : World) (A : Option Addr) (L : List (List Int)) : Prop :=
  ∃ vals, RowsV P w vals L ∧ ∀ j u, vals[j]? = some u → ∃ ad, A = some ad ∧ w.cell? (ad.add j) = some u
theorem Rows.at {P : Nat → Prop} {w : World} {A : Option Addr} {L : List (List Int)} (h : Rows P w A L) (i : Nat) (hi : i < L.length) :
    ∃ ad B c, A = some ad ∧ w.cell? (ad.add i) = some (.slice B (L.getD i []).length c) ∧ (L.getD i []).length ≤ c ∧ Ints .u8 w B (L.getD i []) ∧ Bytes (L.getD i []) ∧ ∀ b, B = some b → P b.block := by
  obtain ⟨vals, hv, hc⟩ := h
  have e : L[i]? = some (L.getD i []) := by rw [List.getD_eq_getElem?_getD, List.getElem?_eq_getElem hi]; rfl
  obtain ⟨B, c, a1, a2, a3, a4, a5⟩ := hv.2 i _ e
  obtain ⟨ad, e1, hcell⟩ := hc i _ a1
  exact ⟨ad, B, c, e1, hcell, a2, a3, a4, a5⟩
theorem Rows.below {P : Nat → Prop} {w w' : World} {A : Option Addr} {L : List (List Int)} (h : Rows P w A L) (hb : Below w.heap.size w w') : Rows P w' A L := by
  obtain ⟨vals, hv, hc⟩ := h
  refine ⟨vals, ⟨hv.1, fun i l hl => ?_⟩, fun j u hj => ?_⟩
  · obtain ⟨B, c, a1, a2, a3, a4, a5⟩ := hv.2 i l hl
    exact ⟨B, c, a1, a2, a3.below hb, a4, a5⟩
  · obtain ⟨ad, e, hcell⟩ := hc j u hj
    exact ⟨ad, e, (hb.cell (cell_lt hcell)).trans hcell⟩
theorem Rows.drewN {P : Nat → Prop} {w : World} {A : Option Addr} {L : List (List Int)} (h : Rows P w A L) (n : Nat) : Rows P (w.drewN n) A L := h

/-- A new slice of slices. -/
def NewRows (P : Nat → Prop) (B : Nat) (L : List (List Int)) (w' : World) (v : Value) : Prop :=
  ∃ vals, w'.ownsRow B 22 1 v L.length vals ∧ RowsV P w' vals L
theorem NewRows.rows {P : Nat → Prop} {B : Nat} {L : List (List Int)} {w : World} {v : Value} (h : NewRows P B L w v) :
    ∃ A c, v = .slice A L.length c ∧ L.length ≤ c ∧ Rows P w A L ∧ (∀ ad, A = some ad → B ≤ ad.block ∧ ad.block < w.heap.size) ∧ (A = none → L.length = 0 ∧ c = 0) := by
  obtain ⟨vals, ho, hv⟩ := h
  have hlt := ho.lt
  have hcl : ∀ {g : Nat}, v.ownBlock = some g → _ := fun hg => ho.cells hg
  obtain ⟨h1, h2⟩ := ho
  rcases h2 with ⟨rfl, h0⟩ | ⟨g, cap, cur, rfl, hb, hg, hn, _⟩
  · refine ⟨none, 0, by rw [h0], by omega, ⟨vals, hv, fun j u hj => ?_⟩, (fun ad e => by cases e), fun _ => ⟨h0, rfl⟩⟩
    have : vals = [] := List.length_eq_zero_iff.1 (by rw [hv.1, h0])
    subst this; cases hj
  · exact ⟨some ⟨g, 0, none⟩, cap, rfl, hn, ⟨vals, hv, fun j u hj => ⟨_, rfl, hcl rfl j u hj⟩⟩, (fun ad e => by cases e; exact hlt g rfl), fun e => by cases e⟩

end Go.Proofs.YtcklcffepedklaaGreat.Ck

namespace Go.Proofs.YtcklcffepedklaaGreat.Ck
open Go.RowKit

/-- A stream at block g that holds the bytes h, which lie in a block that meets X. -/
def Str (w : World) (g : Nat) (c : Ct) (h : List Int) (X : Nat → Prop) : Prop :=
  ∃ (s : Int) (seen kp : Nat) (A : Option Addr) (cap : Nat), w.heap[g]? = some (.cells (scanC c s seen kp [.slice A h.length cap]) 116 (0, 0)) ∧ ScanOk c h s seen kp ∧ Ints .u8 w A h ∧ Bytes h ∧ h.length ≤ cap ∧ (∀ ad, A = some ad → X ad.block) ∧ (A = none → h.length = 0 ∧ cap = 0)
theorem row_lt {w : World} {g : Nat} {o : Obj} (h : w.heap[g]? = some o) : g < w.heap.size := by
  rcases Nat.lt_or_ge g w.heap.size with h1 | h1
  · exact h1
  · rw [Array.getElem?_eq_none h1] at h; cases h
theorem Str.kept {w w' : World} {g : Nat} {c : Ct} {h : List Int} {X : Nat → Prop} {r : Option Nat} (S : Str w g c h X) (hg : w.grownBy w' r) (h1 : some g ≠ r) (h2 : ∀ k, X k → some k ≠ r) : Str w' g c h X := by
  obtain ⟨s, seen, kp, A, cap, a1, a2, a3, a4, a5, a6, a7⟩ := S
  exact ⟨s, seen, kp, A, cap, (hg.block g (row_lt a1) h1).trans a1, a2, a3.grown hg (fun ad e _ => h2 _ (a6 ad e)), a4, a5, a6, a7⟩
theorem Str.glt {w : World} {g : Nat} {c : Ct} {h : List Int} {X : Nat → Prop} (S : Str w g c h X) : g < w.heap.size := by
  obtain ⟨s, seen, kp, A, cap, a1, _⟩ := S; exact row_lt a1

theorem scanC_7 (c : Ct) (s : Int) (seen kp : Nat) (u v : Value) : (scanC c s seen kp [u]).setIfInBounds 7 v = scanC c s seen kp [v] := by
  unfold scanC; rw [List.setIfInBounds_toArray]; rfl
theorem own_whole {w : World} {g base : Nat} {l : List Int} (h : w.heap[g]? = some (.cells (cellsOf l) 5 (0, 0))) (hb : base ≤ g) (hl : l.length ≤ 1000000000000) : w.ownsRow base 5 1 (.slice (some ⟨g, 0, none⟩) l.length l.length) l.length (l.map (Value.int .u8)) :=
  ⟨by simp, .inr ⟨g, l.length, cellsOf l, rfl, hb, h, Nat.le_refl _, by unfold maxLen; omega, by simp [cellsOf_size], by simp [cellsOf, List.take_of_length_le]⟩⟩

theorem own_kept {w w' : World} {base : Nat} {e : TypeId} {size : Nat} {v : Value} {n : Nat} {xs : List Value} (h : w.ownsRow base e size v n xs) (hg : w.grownBy w' none) : w'.ownsRow base e size v n xs :=
  h.kept hg (by cases v.ownBlock <;> simp)
/-- What holds at each round of Write. -/
structure WRel (w : World) (g : Nat) (c : Ct) (l0 : List Int) (Y : Nat) (old : Value) (L : List (List Int)) (l : List Int) (A : Option Addr) (cap : Nat) (v6 : Value) (w' : World) : Prop where
  ends : endsR c l0 = (L ++ (endsR c l).1, (endsR c l).2)
  ints : Ints .u8 w' A l
  byt : Bytes l
  lec : l.length ≤ cap
  blk : InBlock A Y
  nil : A = none → l.length = 0 ∧ cap = 0
  obj : ∃ s seen kp, w'.heap[g]? = some (.cells (scanC c s seen kp [old]) 116 (0, 0)) ∧ ScanOk c l s seen kp
  rows : NewRows (fun k => w.heap.size ≤ k ∧ k < w'.heap.size ∧ k ≠ Y ∧ v6.ownBlock ≠ some k) w.heap.size L w' v6
  ne : v6.ownBlock ≠ some Y
  gr : w.grownBy w' (some g)
  ylt : Y < w'.heap.size
  ylo : w.heap.size ≤ Y
  glt : g < w.heap.size
  num : L.length + l.length ≤ 2000000000

/-- The scan at block g is as at the beginning. -/
def reset (c : Ct) (g : Nat) (w : World) : World :=
  ((((((w.setCell ⟨g, 0, none⟩ (.int .i64 c.mn)).setCell ⟨g, 1, none⟩ (.int .i64 c.mx)).setCell ⟨g, 2, none⟩ (.int .u32 c.main)).setCell ⟨g, 3, none⟩ (.int .u32 c.back)).setCell ⟨g, 4, none⟩ (.int .u32 0)).setCell ⟨g, 5, none⟩ (.int .i64 0)).setCell ⟨g, 6, none⟩ (.int .i64 0)
theorem reset_row {w : World} {g T : Nat} {c : Ct} {s : Int} {seen kp : Nat} {rest : List Value} (h : w.heap[g]? = some (.cells (scanC c s seen kp rest) T (0, 0))) : (reset c g w).heap[g]? = some (.cells (scanC c 0 0 0 rest) T (0, 0)) := by
  unfold reset
  rw [setCell_row (setCell_row (setCell_row (setCell_row (setCell_row (setCell_row (setCell_row h _ _) _ _) _ _) _ _) _ _) _ _)]
  unfold scanC
  simp only [List.setIfInBounds_toArray]
  rfl
theorem reset_grown (c : Ct) (g : Nat) (w : World) : w.grownBy (reset c g w) (some g) :=
  grown_trans (grown_trans (grown_trans (grown_trans (grown_trans (grown_trans (grown_setCell _ _ _ _) (grown_setCell _ _ _ _)) (grown_setCell _ _ _ _)) (grown_setCell _ _ _ _)) (grown_setCell _ _ _ _)) (grown_setCell _ _ _ _)) (grown_setCell _ _ _ _)

theorem WRel.step {w : World} {g : Nat} {c : Ct} {l0 : List Int} {Y : Nat} {old : Value} {L : List (List Int)} {l : List Int} {ad : Addr} {cap : Nat} {u6 : Value} {wr : World} (ok : c.Ok) (R : WRel w g c l0 Y old L l (some ad) cap u6 wr) (k : Nat) (hk : cutR c l = k) (hk0 : k ≠ 0)
    {w4 w5 w7 : World} {v7 : Value} {vals : List Value} {s4 : Int} {seen4 kp4 : Nat} (hg4 : wr.grownBy w4 (some g)) (hr5 : w5.heap[w4.heap.size]? = some (.cells (cellsOf (l.take k)) 5 (0, 0))) (hb5 : Below w4.heap.size w4 w5)
    (hv : RowsV (fun k => w.heap.size ≤ k ∧ k < wr.heap.size ∧ k ≠ Y ∧ u6.ownBlock ≠ some k) wr vals L) (hlt : ∀ k, u6.ownBlock = some k → w.heap.size ≤ k ∧ k < wr.heap.size)
    (hown7 : w7.ownsRow w.heap.size 22 1 v7 (L.length + 1) (vals ++ [.slice (some ⟨w4.heap.size, 0, none⟩) k k])) (hgrow7 : (w5.alloc (.cells #[.slice (some ⟨w4.heap.size, 0, none⟩) k k] 22)).grownBy w7 u6.ownBlock) (hat7 : v7.ownBlock = u6.ownBlock ∨ v7.ownBlock = some (w5.heap.size + 1))
    (hr7 : w7.heap[g]? = some (.cells (scanC c s4 seen4 kp4 [old]) 116 (0, 0))) (A' : Option Addr) (cap' : Nat) (hA' : cap = k ∧ A' = some ad ∧ cap' = 0 ∨ cap ≠ k ∧ A' = some (ad.add k) ∧ cap' = cap - k) :
    WRel w g c l0 Y old (L ++ [l.take k]) (l.drop k) A' cap' v7 (reset c g w7) := by
  have hbd := cutR_bounds c ok l (by rw [hk]; exact hk0)
  rw [hk] at hbd
  have hlo := ok.lo
  have hcap := R.lec
  have hylo := R.ylo
  have hglt := R.glt
  have hyb := R.blk ad rfl
  have hs4 := hg4.size
  have hs5 := row_lt hr5
  have hsw := R.gr.size
  have hs7 := hgrow7.size
  rw [World.size_alloc] at hs7
  have hylt := R.ylt
  have hog : some g ≠ u6.ownBlock := fun e => by have := hlt g e.symm; omega
  have hlk : (l.take k).length = k := by rw [List.length_take]; omega
  have hG5 : w4.grownBy w5 none := below_grown hb5 none
  have hG6 : w5.grownBy (w5.alloc (.cells #[.slice (some ⟨w4.heap.size, 0, none⟩) k k] 22)) none := grown_alloc _ _ _
  have hGR := reset_grown c g w7
  have hgs : (reset c g w7).heap.size = w7.heap.size := by simp [reset, World.setCell]
  have hrs := reset_row hr7
  obtain ⟨W, hW⟩ : ∃ W, W = reset c g w7 := ⟨_, rfl⟩
  rw [← hW] at hGR hgs hrs ⊢
  clear hW
  -- what lies in an old block other than g and the row of slices, is as it was
  have keep : ∀ {A : Option Addr} {m : List Int}, Ints .u8 wr A m → (∀ ad, A = some ad → ad.block ≠ g ∧ u6.ownBlock ≠ some ad.block ∧ ad.block < wr.heap.size) → Ints .u8 W A m := by
    intro A m hI hA
    have h1 := hI.grown hg4 (fun ad e _ => by have := (hA ad e).1; simpa using this)
    have h2 := (h1.grown hG5 (fun _ _ _ h => by cases h)).grown hG6 (fun _ _ _ h => by cases h)
    have h3 := h2.grown hgrow7 (fun ad e _ => by have := (hA ad e).2.1; exact fun h => this h.symm)
    exact h3.grown hGR (fun ad e _ => by have := (hA ad e).1; simpa using this)
  have hv7 : ∀ j, v7.ownBlock = some j → u6.ownBlock = some j ∨ j = w5.heap.size + 1 := by
    intro j hj
    rcases hat7 with e | e
    · left; rw [← e]; exact hj
    · right; rw [e] at hj; injection hj with hj; omega
  have hrow4 : W.heap[w4.heap.size]? = some (.cells (cellsOf (l.take k)) 5 (0, 0)) := by
    rw [hGR.block w4.heap.size (by omega) (by simp; omega), hgrow7.block w4.heap.size (by simp; omega) (fun e => by have := hlt _ e.symm; omega), Below.heap_alloc _ _ _ (by omega)]
    exact hr5
  refine ⟨?_, ?_, R.byt.drop k, ?_, ?_, ?_, ⟨0, 0, 0, hrs, ScanOk.zero c ok _⟩, ?_, ?_, ?_, by omega, hylo, hglt, ?_⟩
  · rw [R.ends, endsR_cut c ok l (by rw [hk]; exact hk0), hk]
    simp
  · rcases hA' with ⟨h1, rfl, _⟩ | ⟨h1, rfl, _⟩
    · rw [List.drop_of_length_le (by omega)]; exact Ints.nil _ _ _
    · refine Ints.drop ?_ k
      exact keep R.ints (fun ad' e => by cases e; refine ⟨by omega, ?_, by omega⟩; rw [hyb]; exact R.ne)
  · rw [List.length_drop]
    rcases hA' with ⟨h1, _, rfl⟩ | ⟨h1, _, rfl⟩ <;> omega
  · intro a e
    rcases hA' with ⟨h1, rfl, _⟩ | ⟨h1, rfl, _⟩
    · cases e; exact hyb
    · cases e; rw [add_block]; exact hyb
  · intro e
    rcases hA' with ⟨h1, rfl, _⟩ | ⟨h1, rfl, _⟩ <;> cases e
  · refine ⟨vals ++ [.slice (some ⟨w4.heap.size, 0, none⟩) k k], ?_, ?_⟩
    · rw [List.length_append]
      exact hown7.kept hGR (Or.inr (fun e => by rcases hv7 g e with h | h; exact hog h.symm; omega))
    · refine RowsV.append ?_ ?_
      · refine ⟨hv.1, fun i m hm => ?_⟩
        obtain ⟨A, cc, a1, a2, a3, a4, a5⟩ := hv.2 i m hm
        refine ⟨A, cc, a1, a2, keep a3 (fun ad e => ?_), a4, fun ad e => ?_⟩
        · have := a5 ad e; exact ⟨by omega, this.2.2.2, this.2.1⟩
        · have := a5 ad e
          refine ⟨this.1, by omega, this.2.2.1, fun h => ?_⟩
          rcases hv7 _ h with h | h
          · exact this.2.2.2 h
          · omega
      · have := RowsV.one (fun j => w.heap.size ≤ j ∧ j < W.heap.size ∧ j ≠ Y ∧ v7.ownBlock ≠ some j) W (some ⟨w4.heap.size, 0, none⟩) k (l.take k) (by omega) (ints_block hrow4) (R.byt.take k) (fun ad e => by
          cases e
          refine ⟨by show w.heap.size ≤ w4.heap.size; omega, by show w4.heap.size < _; omega, by show w4.heap.size ≠ Y; omega, fun h => ?_⟩
          rcases hv7 _ h with h | h
          · have := hlt _ h; simp at this; omega
          · simp at h; omega)
        rw [hlk] at this
        exact this
  · intro e
    rcases hv7 Y e with h | h
    · exact R.ne h
    · omega
  · have a := grown_trans (grown_trans R.gr hg4) (grown_none (grown_trans hG5 hG6) _)
    exact grown_trans ⟨hgrow7.os.trans a.os, hgrow7.tape.trans a.tape, hgrow7.output.trans a.output, Nat.le_trans a.size hgrow7.size, fun i hi hne => (hgrow7.block i (Nat.lt_of_lt_of_le hi a.size) (fun e => by have := hlt i e.symm; omega)).trans (a.block i hi hne)⟩ hGR
  · rw [List.length_append, List.length_drop]
    have := R.num
    simp; omega

/-- What Write does. -/
def Written (w : World) (g : Nat) (c : Ct) (l0 : List Int) (e : Ending) (w' : World) : Prop :=
  ∃ v Y, e = .returned v ∧ w.grownBy w' (some g) ∧ w.heap.size ≤ Y ∧ Y < w'.heap.size ∧ v.ownBlock ≠ some Y ∧ NewRows (fun k => w.heap.size ≤ k ∧ k < w'.heap.size ∧ k ≠ Y ∧ v.ownBlock ≠ some k) w.heap.size (endsR c l0).1 w' v ∧ Str w' g c (endsR c l0).2 (fun k => k = Y)

set_option maxRecDepth 20000 in
set_option maxHeartbeats 1600000 in
theorem Write_any (c : Ct) (ok : c.Ok) (g : Nat) (h b : List Int) (X : Nat → Prop) (A : Option Addr) (n cap : Nat) (w : World) (S : Str w g c h X) (hn : b.length = n) (hnc : n ≤ cap) (hI : Ints .u8 w A b) (hB : Bytes b) (hA : A = none → n = 0 ∧ cap = 0) (hl : h.length + n ≤ 1000000000) :
    Calls Tryz.prog 22 #[.pointer (some ⟨g, 0, none⟩), .slice A n cap] w (Written w g c (h ++ b)) := by
  obtain ⟨s, seen, kp, HA, hcap, a1, a2, a3, a4, a5, a6, a7⟩ := S
  have d7 : w.cell? ⟨g, 7, none⟩ = some (.slice HA h.length hcap) := by rw [cell_of_row _ _ _ _ _ _ a1]; rfl
  have hglt := row_lt a1
  have HROW := Lib.hid a1
  have HSC := Lib.hid a2
  have HHI := Lib.hid a3
  have HHB := Lib.hid a4
  have HI := Lib.hid hI
  have HB := Lib.hid hB
  have HN := Lib.hid hn
  have HAN := Lib.hid hA
  have HOK := Lib.hid ok
  obtain ⟨q, hq⟩ : ∃ q, h.length = q := ⟨_, rfl⟩
  have HQ := Lib.hid hq
  rw [hq] at d7 a5 hl
  have HPT := Lib.hid (part_any HA q hcap h w hq (by omega) a3)
  clear a1 a2 a3 a4 a6 a7 hI hB hn hA ok hq
  obtain ⟨l0, hl0e⟩ : ∃ l0, l0 = h ++ b := ⟨_, rfl⟩
  rw [← hl0e]
  have HLE := Lib.hid hl0e
  clear hl0e
  go_enter Tryz.func22, Tryz.ntmps22
  go_wp2_with fail
  refine HPT.out.mono ?_
  rintro e w2 ⟨rfl, hr2, hb2⟩
  have HO2 := Lib.hid (show w2.ownsRow w.heap.size 5 1 (.slice (some ⟨w.heap.size, 0, none⟩) q q) q (h.map (Value.int .u8)) from by
    have := own_whole hr2 (Nat.le_refl _) (by rw [HQ.out]; omega)
    rwa [HQ.out] at this)
  have HI2 := Lib.hid (HI.out.below hb2)
  have HB2 := Lib.hid hb2
  have hs2 := row_lt hr2
  clear hr2 hb2
  go_wp2_with (at_builtin; refine wpList_app E22 rfl _ _ rfl w.heap.size (.slice (some ⟨w.heap.size, 0, none⟩) q q) q (h.map (Value.int .u8)) rfl HO2.out A n cap (b.map (Value.int .u8)) rfl HAN.out ?c1 HI2.out.news (ints_one _ _) ?c2 ?c3 ?c4 ?_)
  case c1 => rw [List.length_map, HN.out, Nat.mul_one]
  case c2 => unfold maxLen; omega
  case c3 => omega
  case c4 => omega
  intro v1 w3 hown hgrow hat
  have hl0 : l0.length = q + n := by rw [HLE.out, List.length_append, HQ.out, HN.out]
  rw [← List.map_append, ← HLE.out, ← hl0] at hown
  obtain ⟨A1, c1, hv, hcc, hI1, hA1⟩ := new_of_own hown
  have hb3 : Below w.heap.size w w3 := HB2.out.grown hgrow (by omega) (fun k hk => by simp [Value.ownBlock] at hk; omega)
  have hsz3 := hgrow.size
  subst hv
  have HOB := Lib.hid (show Bytes l0 from by rw [HLE.out]; exact HHB.out.append HB.out)
  have hSC := HSC.out.app b
  rw [← HLE.out] at hSC
  obtain ⟨Y, hY1, hY2, hY3⟩ : ∃ Y, w.heap.size ≤ Y ∧ Y < w3.heap.size ∧ InBlock A1 Y := by
    cases A1 with
    | none => exact ⟨w.heap.size, Nat.le_refl _, by omega, fun ad e => by cases e⟩
    | some a => exact ⟨a.block, (hA1 a rfl).1, (hA1 a rfl).2, fun ad e => by cases e; rfl⟩
  have hnil : A1 = none → l0.length = 0 ∧ c1 = 0 := by
    intro e; subst e
    rcases hat with e | e <;> simp [Value.ownBlock] at e
  have HREL := Lib.hid (show WRel w g c l0 Y (.slice HA q hcap) [] l0 A1 c1 (.slice none 0 0) w3 from
    ⟨by simp, hI1, HOB.out, hcc, hY3, hnil, ⟨s, seen, kp, by
      have := (hb3.block g hglt).trans HROW.out
      rwa [HQ.out] at this, hSC⟩, ⟨[], World.ownsRow_nil _ _ _ _, RowsV.nil _ _⟩, by simp [Value.ownBlock], below_grown hb3 _, hY2, hY1, hglt, by rw [hl0]; simp; omega⟩)
  have HL0 := Lib.hid hl0
  clear hown hgrow hat hI1 hA1 hb3 hsz3 hs2 hY3 hnil hSC HO2 HI2 HB2 HPT HSC HHI HHB HOB HI HB HAN hcc hl0
  go_wp2_with fail
  go_loopg [5, 6] l0.length (fun kq v5 v6 w' => ∃ (L : List (List Int)) (l : List Int) (A : Option Addr) (cap : Nat), v5 = .slice A l.length cap ∧ kq = l.length ∧ WRel w g c l0 Y (.slice HA q hcap) L l A cap v6 w')
  case atStart => exact ⟨[], l0, A1, c1, rfl, rfl, HREL.out⟩
  case round =>
    obtain ⟨L, l, A2, cap2, rfl, hk, R⟩ := hrel
    obtain ⟨s2, seen2, kp2, hobj, hsc⟩ := R.obj
    have HR := Lib.hid R
    obtain ⟨n2, hn2⟩ : ∃ z, l.length = z := ⟨_, rfl⟩
    have HN2 := Lib.hid hn2
    have hnum := R.num
    have hcp := R.lec
    rw [hn2] at hk hnum hcp
    have HLK := Lib.hid (look_any c HOK.out l n2 A2 cap2 g 116 s2 seen2 kp2 [.slice HA q hcap] wr hn2 (by omega) hcp R.ints R.byt (fun ad e _ => by have := R.blk ad e; have := R.ylo; have := R.glt; omega) hsc hobj)
    have d0 := (scan_cells hobj).1
    clear R hobj hsc hn2
    rw [HN2.out]
    subst hk
    go_wp2_with fail
    refine HLK.out.mono ?_
    rintro e w4 ⟨rfl, hg4, s4, seen4, kp4, hr4, hsc4⟩
    by_cases hc0 : cutR c l = 0
    · have f7 := free_row hr4 7
      have e7 : w4.cell? ⟨g, 7, none⟩ = some (.slice HA q hcap) := by rw [cell_of_row _ _ _ _ _ _ hr4]; rfl
      have hr5 := setCell_row hr4 7 (.slice A2 gk cap2)
      rw [scanC_7] at hr5
      have HR5 := Lib.hid hr5
      have HSC5 := Lib.hid (hsc4 hc0)
      have HG5 := Lib.hid (grown_trans hg4 (grown_setCell w4 g 7 (.slice A2 gk cap2)))
      have HZ := Lib.hid (endsR_zero c l hc0)
      rw [hc0]
      clear hr4 hr5 hsc4 hg4 hc0
      go_wp2_with fail
      go_ret
      have R := HR.out
      have hends := R.ends
      rw [HZ.out, List.append_nil] at hends
      have hglt2 := R.glt
      refine ⟨_, Y, rfl, grown_trans R.gr HG5.out, hY1, Nat.lt_of_lt_of_le R.ylt HG5.out.size, R.ne, ?_, ?_⟩
      · rw [hends]
        obtain ⟨vals, ho, hv⟩ := R.rows
        refine ⟨vals, ho.kept HG5.out (Or.inr (fun e => ?_)), (hv.kept HG5.out (fun k hk e => ?_)).imp (fun k hk => ⟨hk.1, Nat.lt_of_lt_of_le hk.2.1 HG5.out.size, hk.2.2⟩)⟩
        · have := ho.lt g e; omega
        · injection e with e; omega
      · rw [hends]
        exact ⟨s4, seen4, kp4, A2, cap2, by rw [HN2.out]; exact HR5.out, HSC5.out, R.ints.grown HG5.out (fun ad e _ => by have h1 := R.blk ad e; have h2 := R.ylo; have h3 := R.glt; simp; omega), R.byt, R.lec, fun ad e => R.blk ad e, R.nil⟩
    · obtain ⟨k, hk⟩ : ∃ k, cutR c l = k := ⟨_, rfl⟩
      have hbd := cutR_bounds c HOK.out l hc0
      have HCT := Lib.hid (endsR_cut c HOK.out l hc0)
      rw [hk] at hbd hc0 HCT
      rw [HN2.out] at hbd
      have HKK := Lib.hid hk
      rw [hk]
      have hlo := HOK.out.lo
      have hhi := HOK.out.hi
      obtain ⟨ad, e, _⟩ := HR.out.ints 0 (by rw [HN2.out]; omega)
      subst e
      have hadb := HR.out.blk ad rfl
      have hlk : (l.take k).length = k := by rw [List.length_take, HN2.out]; omega
      have HLK2 := Lib.hid hlk
      have HI4 := Lib.hid (HR.out.ints.grown hg4 (fun ad e _ => by have h1 := HR.out.blk ad e; have h2 := HR.out.ylo; have h3 := HR.out.glt; simp; omega))
      have HPT := Lib.hid (part_any (some ad) k cap2 (l.take k) w4 hlk (by omega) (HI4.out.take k))
      have HR4 := Lib.hid hr4
      have HG4 := Lib.hid hg4
      have hck : ¬ (k : Int) == 0 := by simp; omega
      clear hr4 hg4 hsc4 hk hlk
      go_wp2_with fail
      refine HPT.out.mono ?_
      rintro e w5 ⟨rfl, hr5, hb5⟩
      obtain ⟨vals, ho, hv⟩ := HR.out.rows
      have hglt2 := HR.out.glt
      have hylo := HR.out.ylo
      have hne := HR.out.ne
      have hs45 := row_lt hr5
      have hsg := HG4.out.size
      have hsw := HR.out.gr.size
      have ho4 := ho.kept HG4.out (Or.inr (fun e => by have := ho.lt g e; omega))
      have ho6 := (own_kept ho4 (below_grown hb5 none)).alloc (.cells #[.slice (some ⟨w4.heap.size, 0, none⟩) k k] 22)
      have HO6 := Lib.hid ho6
      have HOL := Lib.hid ho.lt
      have hb5s := hb5.size
      go_wp2_with (at_builtin; refine wpList_app E32 rfl _ _ rfl w.heap.size _ L.length vals rfl HO6.out (some ⟨w5.heap.size, 0, none⟩) 1 1 [.slice (some ⟨w4.heap.size, 0, none⟩) k k] rfl (fun h => by cases h) rfl ?c1 ?c2 ?c3 ?c4 ?c5 ?_)
      case c1 => intro j u hj; exact ⟨_, rfl, one_new _ _ _ j u hj⟩
      case c2 => intro u hu; simp at hu; subst hu; rfl
      case c3 => unfold maxLen; omega
      case c4 => omega
      case c5 => simp; omega
      intro v7 w7 hown7 hgrow7 hat7
      have hog : some g ≠ Value.ownBlock u6 := fun e => by have := HOL.out g e.symm; omega
      have hr7 : w7.heap[g]? = some (.cells (scanC c s4 seen4 kp4 [.slice HA q hcap]) 116 (0, 0)) :=
        (hgrow7.block g (by simp; omega) hog).trans ((Below.heap_alloc w5 _ _ (by omega)).trans ((hb5.block g (by omega)).trans HR4.out))
      obtain ⟨e0, e1, e2, e3, e4, e5, e6⟩ := scan_cells hr7
      have x0 := free_row hr7 0
      have x1 := free_row hr7 1
      have x2 := free_row hr7 2
      have x3 := free_row hr7 3
      have x4 := free_row hr7 4
      have x5 := free_row hr7 5
      have x6 := free_row hr7 6
      have HR7 := Lib.hid hr7
      have HOWN7 := Lib.hid hown7
      have HGR7 := Lib.hid hgrow7
      have HAT7 := Lib.hid hat7
      have HR5 := Lib.hid hr5
      have HB5 := Lib.hid hb5
      have HV := Lib.hid hv
      have HO := Lib.hid ho
      have HOG := Lib.hid hog
      have HHNE := Lib.hid hne
      have hk1 : (k : Int) ≤ (gk : Int) := by omega
      clear hr7 hown7 hgrow7 hat7 hr5 hb5 hv ho hog ho4 ho6 hne
      by_cases hck2 : cap2 = k
      · have HST := Lib.hid (HR.out.step HOK.out k HKK.out hc0 HG4.out HR5.out HB5.out HV.out HOL.out HOWN7.out HGR7.out HAT7.out HR7.out (some ad) 0 (Or.inl ⟨hck2, rfl, rfl⟩))
        go_wp2_with fail
        go_roundg (gk - k)
        case measure => omega
        case rel => exact ⟨L ++ [l.take k], l.drop k, some ad, 0, by rw [List.length_drop, HN2.out], by rw [List.length_drop, HN2.out], HST.out⟩
      · have HST := Lib.hid (HR.out.step HOK.out k HKK.out hc0 HG4.out HR5.out HB5.out HV.out HOL.out HOWN7.out HGR7.out HAT7.out HR7.out (some (ad.add k)) (cap2 - k) (Or.inr ⟨hck2, rfl, rfl⟩))
        go_wp2_with fail
        go_roundg (gk - k)
        case measure => omega
        case rel => exact ⟨L ++ [l.take k], l.drop k, some (ad.add k), cap2 - k, by rw [List.length_drop, HN2.out], by rw [List.length_drop, HN2.out], HST.out⟩

end Go.Proofs.YtcklcffepedklaaGreat.Ck

namespace Go.Proofs.YtcklcffepedklaaGreat.Ck
open Go.RowKit

/-- What Close does. -/
def Closed (w : World) (g : Nat) (c : Ct) (h : List Int) (X : Nat → Prop) (e : Ending) (w' : World) : Prop :=
  ∃ v, e = .returned v ∧ w.grownBy w' (some g) ∧ NewRows (fun k => w.heap.size ≤ k ∧ k < w'.heap.size ∧ v.ownBlock ≠ some k) w.heap.size (restR h) w' v ∧ Str w' g c [] X
theorem one_own {w : World} {g base cap : Nat} {v : Value} (h : w.heap[g]? = some (.cells #[v] 22 (0, 0))) (hb : base ≤ g) (hc : cap = 1) : w.ownsRow base 22 1 (.slice (some ⟨g, 0, none⟩) 1 cap) 1 [v] :=
  ⟨rfl, .inr ⟨g, 1, #[v], by rw [hc], hb, h, Nat.le_refl _, by unfold maxLen; omega, rfl, rfl⟩⟩

set_option maxRecDepth 20000 in
set_option maxHeartbeats 800000 in
theorem Close_any (c : Ct) (ok : c.Ok) (g : Nat) (h : List Int) (X : Nat → Prop) (w : World) (S : Str w g c h X) (hl : h.length ≤ 1000000000) :
    Calls Tryz.prog 23 #[.pointer (some ⟨g, 0, none⟩)] w (Closed w g c h X) := by
  have HS := Lib.hid S
  obtain ⟨s, seen, kp, HA, hcap, a1, a2, a3, a4, a5, a6, a7⟩ := S
  have d7 : w.cell? ⟨g, 7, none⟩ = some (.slice HA h.length hcap) := by rw [cell_of_row _ _ _ _ _ _ a1]; rfl
  have hglt := row_lt a1
  have HROW := Lib.hid a1
  have HA3 := Lib.hid a3
  have HA4 := Lib.hid a4
  have HOK := Lib.hid ok
  obtain ⟨q, hq⟩ : ∃ q, h.length = q := ⟨_, rfl⟩
  have HQ := Lib.hid hq
  rw [hq] at d7 a5 hl
  have HPT := Lib.hid (part_any HA q hcap h w hq (by omega) a3)
  by_cases h0 : q = 0
  · subst h0
    obtain rfl : h = [] := List.length_eq_zero_iff.1 hq
    clear a1 a2 a3 a4 a6 a7 ok hq
    go_enter Tryz.func23, Tryz.ntmps23
    go_wp2_with fail
    go_ret
    exact ⟨_, rfl, World.grownBy.refl _ _, ⟨[], World.ownsRow_nil _ _ _ _, RowsV.nil _ _⟩, HS.out⟩
  · have hne : h ≠ [] := fun e => h0 (by rw [← hq, e]; rfl)
    have HRE := Lib.hid (show restR h = [h] from if_neg hne)
    have hq0 : ((q : Int) == 0) = false := by simp; omega
    clear a1 a2 a3 a4 a6 a7 ok hq hne h0
    go_enter Tryz.func23, Tryz.ntmps23
    go_wp2_with fail
    refine HPT.out.mono ?_
    rintro e w2 ⟨rfl, hr2, hb2⟩
    have hr1 := (hb2.block g hglt).trans HROW.out
    obtain ⟨e0, e1, e2, e3, e4, e5, e6⟩ := scan_cells hr1
    have e7 : w2.cell? ⟨g, 7, none⟩ = some (.slice HA q hcap) := by rw [cell_of_row _ _ _ _ _ _ hr1]; rw [HQ.out]; rfl
    have x0 := free_row hr1 0
    have x1 := free_row hr1 1
    have x2 := free_row hr1 2
    have x3 := free_row hr1 3
    have x4 := free_row hr1 4
    have x5 := free_row hr1 5
    have x6 := free_row hr1 6
    have x7 := free_row hr1 7
    have HR1 := Lib.hid hr1
    have HR2 := Lib.hid hr2
    have HB2 := Lib.hid hb2
    have hs2 := row_lt hr2
    have hg2 : g < w2.heap.size := by omega
    clear hr1 hr2 hb2
    go_wp2_with fail
    go_ret
    have hg1 := grown_setCell w2 g 7 (.slice none 0 0)
    have hg3 := reset_grown c g (w2.setCell ⟨g, 7, none⟩ (.slice none 0 0))
    have hr7 := setCell_row HR1.out 7 (.slice none 0 0)
    rw [HQ.out, scanC_7] at hr7
    have hr8 := reset_row hr7
    have hsz : (reset c g (w2.setCell ⟨g, 7, none⟩ (.slice none 0 0))).heap.size = w2.heap.size := by simp [reset, World.setCell]
    show Closed w g c h X _ ((reset c g (w2.setCell ⟨g, 7, none⟩ (.slice none 0 0))).alloc (.cells #[.slice (some ⟨w.heap.size, 0, none⟩) q q] 22))
    obtain ⟨W, hW⟩ : ∃ W, W = reset c g (w2.setCell ⟨g, 7, none⟩ (.slice none 0 0)) := ⟨_, rfl⟩
    rw [← hW] at hg3 hr8 hsz ⊢
    clear hW
    have hgW : w2.grownBy W (some g) := grown_trans hg1 hg3
    have hgA := grown_alloc W (.cells #[.slice (some ⟨w.heap.size, 0, none⟩) q q] 22) none
    have hla := heap_alloc_last W (.cells #[.slice (some ⟨w.heap.size, 0, none⟩) q q] 22)
    rw [hsz] at hla
    have hrp : (W.alloc (.cells #[.slice (some ⟨w.heap.size, 0, none⟩) q q] 22)).heap[w.heap.size]? = some (.cells (cellsOf h) 5 (0, 0)) :=
      (hgA.block _ (by omega) (by simp)).trans ((hgW.block _ hs2 (by simp; omega)).trans HR2.out)
    have hrg := (hgA.block g (by omega) (by simp)).trans hr8
    generalize W.alloc (.cells #[.slice (some ⟨w.heap.size, 0, none⟩) q q] 22) = V at *
    have hVs := row_lt hla
    refine ⟨_, rfl, grown_trans (below_grown HB2.out _) (grown_trans hgW (grown_none hgA _)), ⟨[.slice (some ⟨w.heap.size, 0, none⟩) q q], ?_, ?_⟩, 0, 0, 0, none, 0, hrg, ScanOk.zero c HOK.out _, Ints.nil _ _ _, (fun i => by simp), Nat.le_refl _, (fun ad e => by cases e), fun _ => ⟨rfl, rfl⟩⟩
    · rw [HRE.out]; exact one_own hla (by omega) rfl
    · rw [HRE.out]
      have := RowsV.one (fun k => w.heap.size ≤ k ∧ k < V.heap.size ∧ Value.ownBlock (.slice (some ⟨w2.heap.size, 0, none⟩) 1 1) ≠ some k) V (some ⟨w.heap.size, 0, none⟩) q h (by rw [HQ.out]; exact Nat.le_refl _) (ints_block hrp) HA4.out (fun ad e => by
        cases e
        refine ⟨Nat.le_refl _, by show w.heap.size < _; omega, fun e => ?_⟩
        simp [Value.ownBlock] at e
        omega)
      rw [HQ.out] at this
      exact this

set_option maxRecDepth 20000 in
/-- A nil stream has nothing. -/
theorem Write_nil (v : Value) (w : World) : Calls Tryz.prog 22 #[.pointer none, v] w fun e w' => e = .returned (.slice none 0 0) ∧ w = w' := by
  go_enter Tryz.func22, Tryz.ntmps22
  go_wp2_with fail
  go_ret
  exact ⟨rfl, rfl⟩
set_option maxRecDepth 20000 in
theorem Close_nil (w : World) : Calls Tryz.prog 23 #[.pointer none] w fun e w' => e = .returned (.slice none 0 0) ∧ w = w' := by
  go_enter Tryz.func23, Tryz.ntmps23
  go_wp2_with fail
  go_ret
  exact ⟨rfl, rfl⟩
theorem own_base {w : World} {b b' : Nat} {e : TypeId} {size : Nat} {v : Value} {n : Nat} {xs : List Value} (h : w.ownsRow b e size v n xs) (hb : b' ≤ b) : w.ownsRow b' e size v n xs := by
  obtain ⟨h1, h2⟩ := h
  refine ⟨h1, ?_⟩
  rcases h2 with h2 | ⟨g, cap, cur, a1, a2, a3⟩
  · exact .inl h2
  · exact .inr ⟨g, cap, cur, a1, by omega, a3⟩
/-- New slices. -/
def Alled (w : World) (L : List (List Int)) (e : Ending) (w' : World) : Prop :=
  ∃ v, e = .returned v ∧ Below w.heap.size w w' ∧ NewRows (fun k => w.heap.size ≤ k ∧ k < w'.heap.size ∧ v.ownBlock ≠ some k) w.heap.size L w' v

set_option maxRecDepth 20000 in
theorem All_no (mn mx main back : Int) (v : Value) (w : World) (h : ¬ RightI mn mx main back) :
    Calls Tryz.prog 9 #[.agg (cutC mn mx main back), v] w (Alled w []) := by
  have HC := Lib.hid (New_no mn mx main back (w.alloc (.cells (cutC mn mx main back) 29)) h)
  have HG := Lib.hid ((Below.refl w.heap.size w).alloc (Nat.le_refl _) (.cells (cutC mn mx main back) 29))
  unfold cutC at HC HG ⊢
  clear h
  go_enter Tryz.func9, Tryz.ntmps9
  go_wp2_with fail
  refine HC.out.mono ?_
  rintro e w2 ⟨rfl, hb2⟩
  have HB2 := Lib.hid (HG.out.trans (hb2.mono (by simp)))
  clear hb2
  go_wp2_with fail
  refine (Write_nil _ _).mono ?_
  rintro e w3 ⟨rfl, rfl⟩
  go_wp2_with fail
  refine (Close_nil _).mono ?_
  rintro e w3 ⟨rfl, rfl⟩
  go_wp2_with (at_builtin; refine wpList_app E32 rfl _ _ rfl w2.heap.size (.slice none 0 0) 0 [] rfl (World.ownsRow_nil _ _ _ _) none 0 0 [] rfl (fun _ => ⟨rfl, rfl⟩) rfl (fun j u hj => by cases hj) (fun u hu => by cases hu) ?c3 ?c4 (Nat.le_refl _) ?_)
  case c3 => unfold maxLen; omega
  case c4 => omega
  intro v1 w4 hown hgrow _
  have HO := Lib.hid hown
  have HG4 := Lib.hid hgrow
  clear hown hgrow
  go_wp2
  go_ret
  have hs := HB2.out.size
  exact ⟨v1, rfl, HB2.out.trans ((grown_below HG4.out (Nat.le_refl _) (fun k hk => by simp [Value.ownBlock] at hk)).mono hs), ⟨[], own_base HO.out hs, RowsV.nil _ _⟩⟩

set_option maxRecDepth 20000 in
set_option maxHeartbeats 800000 in
theorem All_yes (c : Ct) (ok : c.Ok) (l : List Int) (A : Option Addr) (n cap : Nat) (w : World) (hn : l.length = n) (hnc : n ≤ cap) (hI : Ints .u8 w A l) (hB : Bytes l) (hA : A = none → n = 0 ∧ cap = 0) (hl : n ≤ 1000000000) :
    Calls Tryz.prog 9 #[.agg (cutC c.mn c.mx c.main c.back), .slice A n cap] w (Alled w (pcsR c l)) := by
  have HC := Lib.hid (New_yes c ok (w.alloc (.cells (cutC c.mn c.mx c.main c.back) 29)))
  have HG := Lib.hid ((Below.refl w.heap.size w).alloc (Nat.le_refl _) (.cells (cutC c.mn c.mx c.main c.back) 29))
  have hrow := heap_alloc_last w (.cells (cutC c.mn c.mx c.main c.back) 29)
  have d0 : (w.alloc (.cells (cutC c.mn c.mx c.main c.back) 29)).cell? ⟨w.heap.size, 0, none⟩ = some (.int .i64 c.mn) := by rw [cell_of_row _ _ _ _ _ _ hrow]; rfl
  have d1 : (w.alloc (.cells (cutC c.mn c.mx c.main c.back) 29)).cell? ⟨w.heap.size, 1, none⟩ = some (.int .i64 c.mx) := by rw [cell_of_row _ _ _ _ _ _ hrow]; rfl
  have d2 : (w.alloc (.cells (cutC c.mn c.mx c.main c.back) 29)).cell? ⟨w.heap.size, 2, none⟩ = some (.int .u32 c.main) := by rw [cell_of_row _ _ _ _ _ _ hrow]; rfl
  have d3 : (w.alloc (.cells (cutC c.mn c.mx c.main c.back) 29)).cell? ⟨w.heap.size, 3, none⟩ = some (.int .u32 c.back) := by rw [cell_of_row _ _ _ _ _ _ hrow]; rfl
  unfold cutC at HC HG d0 d1 d2 d3 ⊢
  have HI := Lib.hid hI
  have HB := Lib.hid hB
  have HN := Lib.hid hn
  have HAN := Lib.hid hA
  have HOK := Lib.hid ok
  have HPE := Lib.hid (show pcsR c l = (endsR c l).1 ++ restR (endsR c l).2 from rfl)
  have HFL := Lib.hid (endsR_flat c ok l)
  have HEL := Lib.hid (endsR_lens c ok l)
  clear hrow hI hB hn hA ok
  go_enter Tryz.func9, Tryz.ntmps9
  go_wp2_with fail
  refine HC.out.mono ?_
  rintro e w2 ⟨g, rfl, hg, hr2, hb2⟩
  have hb2w := HG.out.trans (hb2.mono (by simp))
  have hgw : w.heap.size ≤ g := by simp at hg; omega
  have hS : Str w2 g c [] (fun _ => False) := ⟨0, 0, 0, none, 0, hr2, ScanOk.zero c HOK.out _, Ints.nil _ _ _, (fun i => by simp), Nat.le_refl _, (fun ad e => by cases e), fun _ => ⟨rfl, rfl⟩⟩
  have hglt := hS.glt
  have HWR := Lib.hid (Write_any c HOK.out g [] l (fun _ => False) A n cap w2 hS HN.out hnc (HI.out.below hb2w) HB.out HAN.out (by simp; omega))
  rw [List.nil_append] at HWR
  have HB2 := Lib.hid hb2w
  clear hb2w hr2 hb2 hS hg
  obtain ⟨L, rest, hLr⟩ : ∃ L rest, endsR c l = (L, rest) := ⟨_, _, rfl⟩
  rw [hLr] at HPE HFL HEL
  have hLl : L.length ≤ n ∧ rest.length ≤ n := by
    have h1 : L.length ≤ L.flatten.length := by
      have h2 := HEL.out
      have h3 := HOK.out.lo
      clear HEL HFL HPE hLr
      induction L with
      | nil => simp
      | cons x L ih =>
        have := ih (fun y hy => h2 y (List.mem_cons_of_mem _ hy))
        have := h2 x List.mem_cons_self
        simp only [List.length_cons, List.flatten_cons, List.length_append]
        omega
    have h4 := congrArg List.length HFL.out
    simp only [List.length_append] at h4
    rw [HN.out] at h4
    omega
  have hL1 := hLl.1
  have hL2 := hLl.2
  have HLR := Lib.hid hLr
  clear hLl hLr
  go_wp2_with fail
  refine HWR.out.mono ?_
  rintro e w3 ⟨v1, Y, rfl, hg3, hY, _, hvY, hnr1, hS3⟩
  rw [HLR.out] at hnr1 hS3
  have HCL := Lib.hid (Close_any c HOK.out g rest (fun k => k = Y) w3 hS3 (by omega))
  have hs3 := hg3.size
  obtain ⟨vals1, ho1, hv1⟩ := hnr1
  have hlt1 := ho1.lt
  have HO1 := Lib.hid ho1
  have HV1 := Lib.hid hv1
  have HLT1 := Lib.hid hlt1
  have HG3 := Lib.hid hg3
  clear hS3 hg3 hvY ho1 hv1 hlt1
  go_wp2_with fail
  refine HCL.out.mono ?_
  rintro e w4 ⟨v2, rfl, hg4, hnr2, -⟩
  obtain ⟨A2, c2, hv2e, hc2, -, hA2, hA2n⟩ := hnr2.rows
  obtain ⟨vals2, ho2, hv2⟩ := hnr2
  have hs4 := hg4.size
  have HCE := Lib.hid (show ∀ j u, vals2[j]? = some u → ∃ ad, A2 = some ad ∧ w4.cell? (ad.add j) = some u from fun j u hj => by
    cases A2 with
    | none =>
      have h0 := (hA2n rfl).1
      have : vals2 = [] := List.length_eq_zero_iff.1 (by rw [hv2.1, h0])
      subst this; cases hj
    | some a =>
      have hcell := ho2.cells (g := a.block) (by rw [hv2e]; rfl) j u hj
      obtain ⟨_, h2⟩ := ho2
      rcases h2 with ⟨h2, _⟩ | ⟨g', cap', cur, h2, _⟩
      · rw [hv2e] at h2; cases h2
      · rw [hv2e] at h2
        injection h2 with h2
        injection h2 with h2
        subst h2
        exact ⟨_, rfl, hcell⟩)
  have ho1' := HO1.out.kept hg4 (Or.inr (fun e => by have := HLT1.out g e; omega))
  have HO1' := Lib.hid (own_base ho1' (show w.heap.size ≤ w2.heap.size from HB2.out.size))
  have HV2 := Lib.hid hv2
  have HG4 := Lib.hid hg4
  have HA2N := Lib.hid hA2n
  have HA2 := Lib.hid hA2
  have hrl := restR_length rest
  obtain ⟨m, hm⟩ : ∃ m, (restR rest).length = m := ⟨_, rfl⟩
  have HM := Lib.hid hm
  rw [hm] at hv2e hrl HA2N
  have HVL := Lib.hid (show vals2.length = m * 1 by rw [hv2.1, hm, Nat.mul_one])
  have hws := HB2.out.size
  have HVE := Lib.hid hv2e
  clear hv2 ho2 hg4 hA2n hA2 hm ho1'
  subst hv2e
  go_wp2_with (at_builtin; refine wpList_app E32 rfl _ _ rfl w.heap.size v1 L.length vals1 rfl HO1'.out A2 m c2 vals2 rfl HA2N.out HVL.out HCE.out HV2.out.oneCell ?c3 ?c4 ?c5 ?_)
  case c3 => unfold maxLen; omega
  case c4 => omega
  case c5 => omega
  intro v5 w5 hown5 hgrow5 hat5
  have HO5 := Lib.hid hown5
  have HG5 := Lib.hid hgrow5
  have HAT := Lib.hid hat5
  clear hown5 hgrow5 hat5
  go_wp2
  go_ret
  have hs5 := HG5.out.size
  have hat : ∀ j, v5.ownBlock = some j → v1.ownBlock = some j ∨ j = w4.heap.size := by
    intro j hj
    rcases HAT.out with e | e
    · left; rw [← e]; exact hj
    · right; rw [e] at hj; injection hj with hj; omega
  refine ⟨v5, rfl, ?_, vals1 ++ vals2, ?_, ?_⟩
  · have hg34 := grown_trans HG3.out HG4.out
    refine ((HB2.out.grown hg34 hws (fun k hk => by cases hk; exact hgw)).grown HG5.out (by omega) (fun k hk => ?_))
    have := HLT1.out k hk; omega
  · rw [HPE.out, List.length_append, HM.out]; exact HO5.out
  · rw [HPE.out]
    refine RowsV.append ?_ ?_
    · refine (((HV1.out.kept HG4.out (fun k hk e => ?_)).kept HG5.out (fun k hk e => ?_))).imp (fun k hk => ⟨?_, ?_, fun e => ?_⟩)
      · injection e with e; have := hk.1; omega
      · exact hk.2.2.2 e.symm
      · have := hk.1; omega
      · have := hk.2.1; omega
      · rcases hat k e with h | h
        · exact hk.2.2.2 h
        · have := hk.2.1; omega
    · refine (HV2.out.kept HG5.out (fun k hk e => ?_)).imp (fun k hk => ⟨?_, ?_, fun e => ?_⟩)
      · have := HLT1.out k e.symm; have := hk.1; omega
      · have := hk.1; omega
      · have := hk.2.1; omega
      · rcases hat k e with h | h
        · have := HLT1.out k h; have := hk.1; omega
        · have := hk.2.1; omega

end Go.Proofs.YtcklcffepedklaaGreat.Ck
