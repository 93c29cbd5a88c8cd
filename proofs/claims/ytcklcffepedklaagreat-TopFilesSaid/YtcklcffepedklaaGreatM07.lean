/- Texts of the proof, one behind the other: index: what it says; Twins. -/
import Derived.Test.YtcklcffepedklaaGreatM06
namespace Go.Proofs.YtcklcffepedklaaGreat
open Go.RowKit Go.Maps

/-- How many chunks have a fingerprint. -/
def cnt (L : List (Ky × (Nat × Nat))) (d : List Int) : Nat := (L.filter fun x => x.1.sum = d).length
theorem cnt_snoc (L : List (Ky × (Nat × Nat))) (k : Ky) (p : Nat × Nat) (d : List Int) : cnt (L ++ [(k, p)]) d = cnt L d + if k.sum = d then 1 else 0 := by
  unfold cnt
  rw [List.filter_append, List.length_append]
  congr 1
  by_cases h : k.sum = d <;> simp [h]
/-- What an index's maps tell of its chunks. -/
structure IxS (L : List (Ky × (Nat × Nat))) (T : List (List Int × Tw)) (S : List (Nat × Sh)) : Prop where
  cnt : ∀ d, twN (lkp T d) = cnt L d
  sub : ∀ s x, lkp S s = some x → ∀ k ∈ x.2, (lkp L k).isSome = true
  all : ∀ k p, lkp L k = some p → ∃ x, lkp S p.1 = some x
  len : ∀ s x, lkp S s = some x → x.2.length ≤ L.length
/-- An index of chunks; its blocks meet F. -/
structure Ix (w : World) (gi : Nat) (L : List (Ky × (Nat × Nat))) (F : Nat → Prop) : Prop where
  ex : ∃ gp gt gs T S, Ir w gi gp gt gs L T S ∧ IxS L T S ∧ ∀ g ∈ ixB gi gp gt gs T S, F g
theorem Ix.kept {w w' : World} {gi : Nat} {L : List (Ky × (Nat × Nat))} {F F' R : Nat → Prop} (h : Ix w gi L F) (hc : Chg R w w') (h1 : ∀ g, g < w.heap.size → F g → ¬ R g) (h2 : ∀ g, g < w.heap.size → F g → F' g) : Ix w' gi L F' := by
  obtain ⟨gp, gt, gs, T, S, a, b, c⟩ := h.ex
  exact ⟨gp, gt, gs, T, S, a.kept hc (fun g hg => h1 g (a.lt g hg) (c g hg)), b, fun g hg => h2 g (a.lt g hg) (c g hg)⟩
theorem Ix.below {w w' : World} {gi : Nat} {L : List (Ky × (Nat × Nat))} {F : Nat → Prop} (h : Ix w gi L F) (hb : Below w.heap.size w w') : Ix w' gi L F :=
  h.kept (R := fun _ => False) (Chg.belowAt hb) (fun _ _ _ h => h) (fun _ _ h => h)
theorem Ix.bound {w : World} {gi : Nat} {L : List (Ky × (Nat × Nat))} {F : Nat → Prop} (h : Ix w gi L F) : Ix w gi L (fun k => F k ∧ k < w.heap.size) :=
  h.kept (R := fun _ => False) (Chg.refl _ _) (fun _ _ _ h => h) (fun k hk hF => ⟨hF, hk⟩)
theorem Ix.own {w : World} {gi : Nat} {L : List (Ky × (Nat × Nat))} {F : Nat → Prop} (h : Ix w gi L F) : F gi := by
  obtain ⟨gp, gt, gs, T, S, a, b, c⟩ := h.ex
  exact c gi (by simp [ixB])
theorem lkp_fst {α β : Type} [DecidableEq α] {L : List (α × β)} {a : α} : lkp L a = none ↔ a ∉ L.map (·.1) := by
  constructor
  · intro h hm
    obtain ⟨x, hx, e⟩ := List.mem_map.1 hm
    exact lkp_none_mem h x hx e
  · intro h
    exact lkp_none (fun x hx e => h (e ▸ List.mem_map_of_mem (f := (·.1)) hx))
theorem IPut_any {w : World} {gi : Nat} {L : List (Ky × (Nat × Nat))} {F : Nat → Prop} (h : Ix w gi L F) (k : Ky) (hk : k.Ok) (hL : lkp L k = none) (p : Nat × Nat) (hp : IntOk p.1 ∧ IntOk p.2) (hn : k.n = cnt L k.sum) (hn1 : k.n < 1000000000) :
    Calls Tryz.prog 90 #[.pointer (some ⟨gi, 0, none⟩), .agg k.cells.toArray, .agg (plC p).toArray] w fun e w' => e = .returned (.bool false) ∧ Chg F w w' ∧ Ix w' gi (L ++ [(k, p)]) (fun x => F x ∨ w.heap.size ≤ x) := by
  obtain ⟨gp, gt, gs, T, S, a, b, c⟩ := h.ex
  refine (IPut_ir a k hk hL p hp (by rw [hn, b.cnt]) hn1 (fun s x hx hm => by have := b.sub s x hx k hm; rw [hL] at this; cases this)).mono ?_
  rintro e w' ⟨rfl, hc, t, gm, ks, ht, hS, hI, htF, hgF⟩
  refine ⟨rfl, hc.mono (fun x hx => c x hx), gp, gt, gs, _, _, hI, ⟨fun d => ?_, fun s x hx q hq => ?_, fun q r hq => ?_, fun s x hx => ?_⟩, fun g hg => ?_⟩
  · rw [cnt_snoc]
    by_cases e : k.sum = d
    · rw [if_pos e, ← e, lkp_upd_same, ← hn]; exact ht
    · rw [if_neg e, lkp_upd_other _ _ _ _ e, Nat.add_zero]; exact b.cnt d
  · rw [lkp_append]
    have hold : ∀ q, (lkp L q).isSome = true → ((lkp L q).or (lkp [(k, p)] q)).isSome = true := fun q hq => by
      cases hl : lkp L q with
      | none => rw [hl] at hq; cases hq
      | some v => rfl
    by_cases e : p.1 = s
    · rw [← e, lkp_upd_same] at hx
      injection hx with hx
      rw [← hx] at hq
      rcases List.mem_append.1 hq with hq | hq
      · rcases hS with ⟨_, hS⟩ | hS
        · rw [hS] at hq; cases hq
        · exact hold q (b.sub _ _ hS q hq)
      · simp at hq; subst hq
        rw [hL]; simp [lkp]
    · rw [lkp_upd_other _ _ _ _ e] at hx
      exact hold q (b.sub s x hx q hq)
  · by_cases e : p.1 = r.1
    · rw [← e, lkp_upd_same]; exact ⟨_, rfl⟩
    · rw [lkp_upd_other _ _ _ _ e]
      rw [lkp_append] at hq
      cases hl : lkp L q with
      | none =>
        rw [hl] at hq
        simp only [lkp, Option.none_or] at hq
        split at hq
        · injection hq with hq; exact absurd (by rw [hq]) e
        · cases hq
      | some v =>
        rw [hl] at hq
        injection hq with hq
        rw [← hq]
        exact b.all q v hl
  · rw [List.length_append, List.length_singleton]
    by_cases e : p.1 = s
    · rw [← e, lkp_upd_same] at hx
      injection hx with hx
      rw [← hx, List.length_append, List.length_singleton]
      rcases hS with ⟨_, hS⟩ | hS
      · rw [hS]; simp
      · have h9 : ks.length ≤ L.length := b.len _ _ hS
        omega
    · rw [lkp_upd_other _ _ _ _ e] at hx
      have := b.len _ _ hx; omega
  · have c' : ∀ g, g ∈ ixB gi gp gt gs T S ∨ w.heap.size ≤ g → F g ∨ w.heap.size ≤ g := fun g hg => hg.imp (c g) id
    unfold ixB at hg
    rcases List.mem_append.1 hg with hg | hg
    · exact .inl (c g (List.mem_append_left _ hg))
    · rcases List.mem_append.1 hg with hg | hg
      · obtain ⟨x, hx, rfl⟩ := List.mem_map.1 hg
        exact upd_all (p := fun x => F x.2.1 ∨ w.heap.size ≤ x.2.1) (fun x hx _ => .inl (c _ (ixB_tw hx))) (c' _ htF) x hx
      · obtain ⟨x, hx, rfl⟩ := List.mem_map.1 hg
        exact upd_all (p := fun x => F x.2.1 ∨ w.heap.size ≤ x.2.1) (fun x hx _ => .inl (c _ (ixB_sh hx))) (v := (gm, ks ++ [k])) (c' _ hgF) x hx

/-- The chunks of a fingerprint. -/
def twL (d : List Int) (m : Nat) : List Ky := (List.range m).map fun n => ⟨d, n⟩
def flatK (l : List Ky) : List Value := l.flatMap Ky.cells
theorem EK : Elem Tryz.prog 37 64 33 36 := by
  obtain ⟨i0, hi, hz0, hz1, hz2⟩ := info_parts Tryz.infoK
  exact ⟨Tryz.underlying37, ⟨i0, _, hi, hz0, hz1, hz2, rfl⟩, by decide⟩
abbrev OwnK (w : World) (base : Nat) (v : Value) (l : List Ky) : Prop := w.ownsRow base 64 33 v l.length (flatK l)
theorem twL_succ (d : List Int) (i : Nat) : twL d (i + 1) = twL d i ++ [⟨d, i⟩] := by simp [twL, List.range_succ]
theorem twL_length (d : List Int) (m : Nat) : (twL d m).length = m := by simp [twL]
theorem flatK_snoc (l : List Ky) (k : Ky) : flatK (l ++ [k]) = flatK l ++ k.cells := by simp [flatK]

theorem ownsRow_base {w : World} {b b' : Nat} {e : TypeId} {size : Nat} {v : Value} {n : Nat} {xs : List Value} (h : w.ownsRow b e size v n xs) (hb : b' ≤ b) : w.ownsRow b' e size v n xs := by
  obtain ⟨h1, h2⟩ := h
  refine ⟨h1, ?_⟩
  rcases h2 with h2 | ⟨g, cap, cur, a, b, c⟩
  · exact .inl h2
  · exact .inr ⟨g, cap, cur, a, by omega, c⟩
set_option maxRecDepth 20000 in
set_option maxHeartbeats 1600000 in
theorem ITwins_any {w : World} {gi : Nat} {L : List (Ky × (Nat × Nat))} {F : Nat → Prop} (h : Ix w gi L F) (d : List Int) (hd : SumOk d) (m : Nat) (hm : m = cnt L d) (hm1 : m < 1000000000) :
    Calls Tryz.prog 60 #[.pointer (some ⟨gi, 0, none⟩), .agg (cellsOf d)] w fun e w' => ∃ v, e = .returned v ∧ OwnK w' w.heap.size v (twL d m) ∧ Below w.heap.size w w' := by
  obtain ⟨gp, gt, gs, T, S, a, b, _⟩ := h.ex
  have hgi := row_lt a.row
  have HI := Lib.hid a
  have HD := Lib.hid hd
  have hown := a.own d
  rw [b.cnt, ← hm] at hown
  have HOW := Lib.hid hown
  obtain ⟨A8, c8, hv8, hI8⟩ := hown.ints
  have HV8 := Lib.hid hv8
  have HI8 := Lib.hid hI8
  have HSS := Lib.hid (show (Tryz.prog.info? 62).map (·.size) = some (d.map (Value.int .u8)).length by rw [List.length_map, hd.len]; kernel_rfl)
  clear h a b hd hm hown hv8 hI8
  go_enter Tryz.func60, Tryz.ntmps60
  go_upto_region 4 with (fail)
  have hb1 := (Below.refl w.heap.size w).alloc (Nat.le_refl _) (.cells (cellsOf d) 62)
  have hr1 := heap_alloc_last w (.cells (cellsOf d) 62)
  obtain ⟨g3, hg3⟩ : ∃ g, w.heap.size = g := ⟨_, rfl⟩
  rw [hg3] at hr1 ⊢
  generalize w.alloc (.cells (cellsOf d) 62) = w1 at *
  have HB1 := Lib.hid hb1
  have HI1 := Lib.hid (HI.out.below hb1)
  have HR3 := Lib.hid hr1
  have HM_gi := Lib.hid (row_lt HI1.out.row)
  have HM_g3 := Lib.hid (row_lt hr1)
  have HC1 := Lib.hid (show w1.cell? ⟨gi, 1, none⟩ = some (.map (some gt)) by rw [cell_of_row _ _ _ _ _ _ HI1.out.row]; rfl)
  have HS3 := Lib.hid (show w1.rangeAt g3 0 (d.map (Value.int .u8)) from range_row hr1)
  have HLT := Lib.hid (show ∀ W, Below w1.heap.size w1 W → (Instr.lookup 152 (.map (some gt)) (sumV d) false).run Tryz.prog W = .ok (.slice A8 m c8) W from fun W hW => by rw [← HV8.out]; exact (HI1.out.below hW).lkpT HD.out)
  clear hb1 hr1
  --[
  refine wp_region_held_drew (S := fun w' => Below w1.heap.size w1 w') (by kernel_rfl) ((Below.refl _ _).drew) (fun hHeld => ?_)
  refine held_take 0 (some 10) (v := ?_) rfl rfl (by kernel_rfl) (by kernel_rfl) (by kernel_rfl) (fun _ _ _ h => h) (Or.inl ⟨by rfl, ?_⟩) hHeld ?_
  rotate_left
  · (intro w' hSw; clear hSw; go_simp; try with_reducible rfl)
  try simp only [Act.put, List.setIfInBounds_toArray, List.set_cons_zero, List.set_cons_succ]
  refine held_take 1 (some 11) (v := ?_) rfl rfl (by kernel_rfl) (by kernel_rfl) (by kernel_rfl) (fun _ _ _ h => h) (Or.inl ⟨by rfl, ?_⟩) hHeld ?_
  rotate_left
  · (intro w' hSw; clear hSw; go_simp; try with_reducible rfl)
  try simp only [Act.put, List.setIfInBounds_toArray, List.set_cons_zero, List.set_cons_succ]
  refine held_take 2 (some 12) (v := ?_) rfl rfl (by kernel_rfl) (by kernel_rfl) (by kernel_rfl) (fun _ _ _ h => h) (Or.inl ⟨by rfl, ?_⟩) hHeld ?_
  rotate_left
  · (intro w' hSw; clear hSw; go_simp; try with_reducible rfl)
  try simp only [Act.put, List.setIfInBounds_toArray, List.set_cons_zero, List.set_cons_succ]
  refine held_take 3 (some 13) (v := ?_) rfl rfl (by kernel_rfl) (by kernel_rfl) (by kernel_rfl) (fun _ _ _ h => h) (Or.inl ⟨by rfl, ?_⟩) hHeld ?_
  rotate_left
  · (intro w' hSw; have pf := (hSw.cell (p := ⟨gi, 1, none⟩) HM_gi.out).trans HC1.out; clear hSw; go_simp; try with_reducible rfl)
  try simp only [Act.put, List.setIfInBounds_toArray, List.set_cons_zero, List.set_cons_succ]
  refine held_take 4 (some 14) (v := .agg (d.map (Value.int .u8)).toArray) rfl rfl (by kernel_rfl) (by kernel_rfl) (by kernel_rfl) (fun _ _ _ h => h) (yieldsIf_load_mid (by rfl) 62 _ rfl g3 (0) rfl (d.map (Value.int .u8)) _ (fun w' h => rangeAt_block HS3.out (h.block g3 HM_g3.out)) Tryz.underlying62 rfl HSS.out) hHeld ?_
  try simp only [Act.put, List.setIfInBounds_toArray, List.set_cons_zero, List.set_cons_succ]
  refine held_take 5 (some 15) (v := .slice A8 m c8) rfl rfl (by kernel_rfl) (by kernel_rfl) (by kernel_rfl) (fun _ _ _ h => h) (yields_val (by go_simp) (fun W h => exec_lkp _ _ _ _ rfl (.map (some gt)) (sumV d) (by go_simp) (by go_simp; try rfl) (HLT.out W h))) hHeld ?_
  try simp only [Act.put, List.setIfInBounds_toArray, List.set_cons_zero, List.set_cons_succ]
  refine held_take 6 (some 16) (v := ?_) rfl rfl (by kernel_rfl) (by kernel_rfl) (by kernel_rfl) (fun _ _ _ h => h) (Or.inl ⟨by rfl, ?_⟩) hHeld ?_
  rotate_left
  · (intro w' hSw; clear hSw; go_simp; try with_reducible rfl)
  try simp only [Act.put, List.setIfInBounds_toArray, List.set_cons_zero, List.set_cons_succ]
  refine held_take 7 (some 17) (v := ?_) rfl rfl (by kernel_rfl) (by kernel_rfl) (by kernel_rfl) (fun _ _ _ h => h) (Or.inl ⟨by rfl, ?_⟩) hHeld ?_
  rotate_left
  · (intro w' hSw; clear hSw; go_simp; try with_reducible rfl)
  try simp only [Act.put, List.setIfInBounds_toArray, List.set_cons_zero, List.set_cons_succ]
  refine wpAnyH_done (by kernel_rfl) ?_ _
  --]
  clear hHeld
  have HB2 := Lib.hid (show Below w.heap.size w w1.drew from HB1.out.drew)
  have HR32 := Lib.hid (show w1.drew.heap[g3]? = some (.cells (cellsOf d) 62 (0, 0)) from HR3.out)
  have HI2 := Lib.hid (show Ints .u32 w1.drew A8 (idL m) from (HI8.out.below HB1.out).below (Below.refl _ _).drew)
  generalize w1.drew = w2 at *
  clear HR3 HS3 HC1 HLT HI1 HM_gi HM_g3
  have hs2 := HB2.out.size
  have hl3 := row_lt HR32.out
  go_simp
  go_upto_region 5 with (fail)
  go_loopg [5, 17] m (fun kq v5 v17 w' => ∃ i : Nat, v17 = .int .i64 (i : Int) ∧ i + kq = m ∧ OwnK w' w2.heap.size v5 (twL d i) ∧ Below w2.heap.size w2 w')
  case atStart => exact ⟨0, rfl, by omega, World.ownsRow_nil _ _ _ _, Below.refl _ _⟩
  case round =>
    obtain ⟨i, rfl, him, ho, hb⟩ := hrel
    by_cases hlt : i < m
    · obtain ⟨ad, rfl, hc⟩ := (HI2.out.below hb) i (by rw [idL_length]; omega)
      rw [idL_getD (by omega)] at hc
      have hi1 : (i : Int) < (m : Int) := by omega
      have hi2 : (i : Int) < 4294967296 := by omega
      have HBB := Lib.hid hb
      have HO := Lib.hid ho
      have hsr := hb.size
      have hKO : (Ky.mk d i).Ok := ⟨HD.out.len, HD.out.byt, by show i < _; omega⟩
      have HKO := Lib.hid hKO
      have HSR := Lib.hid (show wr.rangeAt g3 0 (d.map (Value.int .u8)) from range_row ((hb.block g3 hl3).trans HR32.out))
      have HBK := Lib.hid (fun W => build_key ⟨d, i⟩ hKO W)
      have HBS := Lib.hid (fun (W : World) => build_one (P := Tryz.prog) (z := .agg zK) (vs := (Ky.mk d i).cells) (s := 33) Tryz.underlying37 (fun _ => by kernel_rfl) zeroK (Ky.cells_length hKO) (by decide) (by decide) (.agg (Ky.mk d i).cells.toArray) rfl W)
      have HOA := Lib.hid (show w2.heap.size = w2.heap.size ∧ _ from ⟨rfl, ho.alloc (.cells (Ky.mk d i).cells.toArray 64)⟩)
      rw [twL_length] at HOA
      have HNW := Lib.hid (show ∀ j u, (Ky.mk d i).cells[j]? = some u → ∃ ad, some (⟨wr.heap.size, 0, none⟩ : Addr) = some ad ∧ (wr.alloc (.cells (Ky.mk d i).cells.toArray 64)).cell? (ad.add j) = some u from fun j u hj => ⟨_, rfl, by rw [addr_add0, Nat.zero_add]; exact row_at (heap_alloc_last wr _) hj⟩)
      have HCL := Lib.hid (show (Ky.mk d i).cells.length = 1 * 33 from Ky.cells_length hKO)
      have HML := Lib.hid (show (i + 1 ≤ maxLen ∧ (i + 1) * 36 ≤ 140737488355328) ∧ w2.heap.size ≤ (wr.alloc (.cells (Ky.mk d i).cells.toArray 64)).heap.size by rw [World.size_alloc]; unfold maxLen; constructor <;> omega)
      have HNN := Lib.hid (show some (⟨wr.heap.size, 0, none⟩ : Addr) = none → 1 = 0 ∧ 1 = 0 from fun h => by cases h)
      clear ho hb hlt hKO
      go_wp2_with (first | (with_reducible refine Go.wpList_load_mid rfl 62 _ rfl g3 0 rfl (d.map (Value.int .u8)) _ HSR.out Tryz.underlying62 rfl HSS.out ?_) | (with_reducible refine wpList_val rfl (exec_build _ _ rfl #[(0, .agg (d.map (Value.int .u8)).toArray), (1, .int .u32 i)] (by go_simp) (HBK.out _)) ?_) | (with_reducible refine wpList_val rfl (exec_buildSlice _ _ _ rfl #[(0, .agg (Ky.mk d i).cells.toArray)] (by go_simp) (HBS.out _)) ?_) | (at_builtin; refine wpList_app EK rfl _ _ rfl w2.heap.size _ i (flatK (twL d i)) rfl HOA.out.2 (some ⟨wr.heap.size, 0, none⟩) 1 1 (Ky.mk d i).cells rfl HNN.out HCL.out HNW.out (Ky.cells_one _) HML.out.1.1 HML.out.1.2 HML.out.2 ?_; intro v9 w9 hown hgrow hat))
      have hl5 := HO.out.lt
      have HB9 := Lib.hid (show Below w2.heap.size w2 w9 from (HBB.out.alloc hsr _).grown hgrow (by rw [World.size_alloc]; omega) (fun x hx => (hl5 x hx).1))
      have HO9 := Lib.hid (show OwnK w9 w2.heap.size v9 (twL d (i + 1)) from by rw [OwnK, twL_length, twL_succ, flatK_snoc]; exact hown)
      clear hown hgrow hat hl5
      go_roundg (m - (i + 1))
      case measure => omega
      case rel => exact ⟨i + 1, by go_num, by omega, HO9.out, HB9.out⟩
    · obtain rfl : i = m := by omega
      have HBB := Lib.hid (show Below w.heap.size w wr from HB2.out.trans (hb.mono hs2))
      have HO := Lib.hid (show OwnK wr w.heap.size _ (twL d i) from ownsRow_base ho hs2)
      clear ho hb hlt
      go_wp2_with fail
      go_ret
      exact ⟨_, rfl, HO.out, HBB.out⟩
end Go.Proofs.YtcklcffepedklaaGreat
