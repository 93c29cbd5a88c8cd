/- Texts of the proof, one behind the other: tree: From. -/
import Derived.Test.YtcklcffepedklaaGreatDoorM10
import Derived.Test.YtcklcffepedklaaGreatDoorM04
namespace Go.Proofs.YtcklcffepedklaaGreatDoor
open Go.RowKit

/-- The cells of a pair. -/
def prC (x : PR) : List Value := [.string x.1, .string x.2]
def flatPr (l : List PR) : List Value := l.flatMap prC
theorem flatPr_snoc (l : List PR) (x : PR) : flatPr (l ++ [x]) = flatPr l ++ prC x := by simp [flatPr]
theorem prC_one (x : PR) : ∀ u ∈ prC x, u.oneCell' = true := by
  intro u hu
  simp only [prC, List.mem_cons, List.not_mem_nil, or_false] at hu
  rcases hu with rfl | rfl <;> rfl
theorem Tryz.infoPr : (Tryz.prog.info? 97).map (fun i => (i.zero, i.size, i.bytes)) = some (some (.agg #[.string ⟨#[]⟩, .string ⟨#[]⟩]), 2, 32) := by kernel_rfl
theorem zeroPr (w : World) : (zeroValue 97).run Tryz.prog w = .ok (.agg #[.string ⟨#[]⟩, .string ⟨#[]⟩]) w := by
  obtain ⟨i0, hi, hz0, _, _⟩ := info_parts Tryz.infoPr
  exact zero_run hi hz0 w
theorem EPr : Elem Tryz.prog 107 97 2 32 := by
  obtain ⟨i0, hi, hz0, hz1, hz2⟩ := info_parts Tryz.infoPr
  exact ⟨Tryz.underlying107, ⟨i0, _, hi, hz0, hz1, hz2, rfl⟩, by decide⟩
theorem build_Pr (x : PR) (W : World) : (Instr.buildSlice 107 1 #[(0, .agg (prC x).toArray)]).run Tryz.prog W = .ok (.slice (some ⟨W.heap.size, 0, none⟩) 1 1) (W.alloc (.cells (prC x).toArray 97)) :=
  build_one (P := Tryz.prog) (z := .agg #[.string ⟨#[]⟩, .string ⟨#[]⟩]) (vs := prC x) (s := 2) Tryz.underlying107 (fun _ => by kernel_rfl) zeroPr rfl (by decide) (by decide) (.agg (prC x).toArray) rfl W
abbrev OwnPr (w : World) (base : Nat) (v : Value) (l : List PR) : Prop := w.ownsRow base 97 2 v l.length (flatPr l)
theorem own_ne {w : World} {b g : Nat} {e t : TypeId} {s n : Nat} {v : Value} {xs : List Value} {cs : Array Value} {fr : Nat × Nat} (h : w.ownsRow b e s v n xs) (hg : v.ownBlock = some g) (hr : w.heap[g]? = some (.cells cs t fr)) (ht : e ≠ t) : False := by
  obtain ⟨_, h2⟩ := h
  rcases h2 with ⟨h2, _⟩ | ⟨g', cap, cur, e', _, h3, _⟩
  · rw [h2] at hg; cases hg
  · rw [e'] at hg
    injection hg with hg
    subst hg
    rw [hr] at h3; injection h3 with h3; injection h3 with _ h3; exact ht h3.symm
theorem ownPr_form {w : World} {b : Nat} {v : Value} {n : Nat} {xs : List Value} (h : w.ownsRow b 97 2 v n xs) : ∃ A c, v = .slice A n c := by
  obtain ⟨_, h2⟩ := h
  rcases h2 with ⟨h2, h3⟩ | ⟨g, cap, cur, e, _⟩
  · exact ⟨none, 0, by rw [h2, h3]⟩
  · exact ⟨_, cap, e⟩
/-- Pairs in a slice that begins at A. -/
def PrAt (w : World) (A : Option Addr) (l : List PR) : Prop := ∀ (i : Nat) (x : PR), l[i]? = some x → ∃ g, A = some ⟨g, 0, none⟩ ∧ w.rangeAt g (i * 2) (prC x)
theorem OwnPr.at_ {w : World} {b n c : Nat} {A : Option Addr} {l : List PR} (h : OwnPr w b (.slice A n c) l) : PrAt w A l := fun i x hi => by
  have h0 : l.length = 0 → flatPr l = [] := fun e => by rw [List.length_eq_zero_iff.1 e]; rfl
  have hl : ∀ y ∈ l, (prC y).length = 2 := fun _ _ => rfl
  obtain ⟨g, hg, _⟩ := own_cell h (flat_at l hl hi (j := 0) rfl) h0
  refine ⟨g, hg, fun j u hj => ?_⟩
  obtain ⟨g', hg', hc⟩ := own_cell h (flat_at l hl hi hj) h0
  rw [hg] at hg'; injection hg' with hg'; injection hg' with hg'
  rw [hg']; exact hc
theorem PrAt.below {w w' : World} {A : Option Addr} {l : List PR} (h : PrAt w A l) (hb : Below w.heap.size w w') : PrAt w' A l := fun i r hi => by
  obtain ⟨g, e, hr⟩ := h i r hi
  exact ⟨g, e, rangeAt_block hr (hb.block g (range_lt hr (by simp [prC])))⟩
/-- The pairs that were told so far, in a captured variable. -/
structure FrJ (wb : World) (ho : Nat) (acc : List PR) (W : World) : Prop where
  below : Below wb.heap.size wb W
  big : wb.heap.size + 2 ≤ W.heap.size
  out : ∃ A c, W.heap[ho]? = some (.cells #[.slice A acc.length c] 107 (0, 0)) ∧ OwnPr W (wb.heap.size + 2) (.slice A acc.length c) acc
structure FrJ2 (wb : World) (ho hn n : Nat) (acc : List PR) (W : World) : Prop where
  j : FrJ wb ho acc W
  num : W.heap[hn]? = some (.cells #[.int .i64 n] 3 (0, 0))
theorem From1_end {wb W w7 w8 : World} {ho hn n l c c7 : Nat} {A A7 : Option Addr} {acc : List PR} {x : PR} (hho : wb.heap.size ≤ ho) (hho2 : ho < wb.heap.size + 2) (hl : acc.length = l) (hB : Below wb.heap.size wb W) (hbig : wb.heap.size + 2 ≤ W.heap.size)
    (hlt : ∀ k, Value.ownBlock (.slice A l c) = some k → wb.heap.size + 2 ≤ k ∧ k < W.heap.size) (h7 : Chg (fun x => Value.ownBlock (.slice A l c) = some x) W w7) (h8 : Chg (fun x => x = ho) w7 w8) (how : w7.ownsRow (wb.heap.size + 2) 97 2 (.slice A7 (l + 1) c7) (l + 1) (flatPr acc ++ prC x))
    (hr : w8.heap[ho]? = some (.cells #[.slice A7 (l + 1) c7] 107 (0, 0))) (hn8 : w8.heap[hn]? = some (.cells #[.int .i64 n] 3 (0, 0))) : FrJ2 wb ho hn n (acc ++ [x]) w8 := by
  have hlen : (acc ++ [x]).length = l + 1 := by simp [hl]
  have h78 := hB.size
  refine ⟨⟨?_, ?_, A7, c7, by rw [hlen]; exact hr, ?_⟩, hn8⟩
  · refine hB.trans ((h7.below h78 (fun k hk => by have := (hlt k hk).1; omega)).trans ?_)
    exact h8.below (Nat.le_trans h78 h7.size) (fun k hk => by omega)
  · have := h7.size; have := h8.size; omega
  · have h9 := own_chg how h8 (fun k hk e => by have := (how.lt k hk).1; omega)
    rw [OwnPr, hlen, flatPr_snoc]; exact h9
set_option maxRecDepth 20000 in
set_option maxHeartbeats 1600000 in
theorem From1_any {wb : World} {ho hn n : Nat} (hho : wb.heap.size ≤ ho) (hho2 : ho < wb.heap.size + 2) (hhn2 : hn < wb.heap.size + 2) (hne : hn ≠ ho) (hn1 : n < 1000000000) (acc : List PR) (W : World) (ga : Nat) (k v : BA) (tl tr : Tre) (hj : FrJ2 wb ho hn n acc W) (hm : acc.length < n) (ht : TrAt W (some ⟨ga, 0, none⟩) (.node k v tl tr)) :
    Calls Tryz.prog 96 #[.pointer (some ⟨ga, 0, none⟩), .pointer (some ⟨ho, 0, none⟩), .pointer (some ⟨hn, 0, none⟩)] W fun e W' => e = .returned (.bool (decide (acc.length + 1 < n))) ∧ FrJ2 wb ho hn n (acc ++ [(k, v)]) W' := by
  obtain ⟨A, c, hro, how⟩ := hj.j.out
  obtain ⟨ga', a, b, e, hra, _, _⟩ := ht
  injection e with e; injection e with e _ _; subst e
  obtain ⟨l, hl⟩ : ∃ l, acc.length = l := ⟨_, rfl⟩
  have how' : W.ownsRow (wb.heap.size + 2) 97 2 (.slice A acc.length c) acc.length (flatPr acc) := how
  have hro' := hro
  rw [hl] at how' hro' hm
  have HCO := Lib.hid (show W.cell? ⟨ho, 0, none⟩ = some (.slice A l c) from cell_row' hro')
  have HRO := Lib.hid hro'
  have HOW := Lib.hid (show W.drew.ownsRow (wb.heap.size + 2) 97 2 (.slice A l c) l (flatPr acc) from how')
  have HK0 := Lib.hid (show W.rangeAt ga 0 [.string k, .string v] from rangeAt_of_row hra 0 2)
  have HKL := Lib.hid (row_lt hra)
  have HKN := Lib.hid (show ¬ (Value.ownBlock (.slice A l c) = some ga ∨ ga = ho) from fun e => by
    rcases e with e | e
    · exact own_ne how' e hra (by decide)
    · rw [e, hro'] at hra; injection hra with hra; injection hra with _ hra; exact absurd hra (by decide))
  have HLO := Lib.hid (row_lt hro')
  have HML := Lib.hid (show l + 1 ≤ maxLen ∧ (l + 1) * 32 ≤ 140737488355328 by unfold maxLen; omega)
  have HBS := Lib.hid hj.j.big
  have HNO := Lib.hid (show ¬ Value.ownBlock (.slice A l c) = some ho from fun e => by have := (how'.lt ho e).1; omega)
  have HNN := Lib.hid (show ¬ Value.ownBlock (.slice A l c) = some hn from fun e => by have := (how'.lt hn e).1; omega)
  have HN := Lib.hid hj.num
  have HB := Lib.hid hj.j.below
  have HX := Lib.hid (And.intro hho (And.intro hho2 (And.intro hhn2 (And.intro hne (And.intro hn1 hm)))))
  have HLT := Lib.hid how'.lt
  have HACC := Lib.hid hl
  obtain ⟨q, hq⟩ : ∃ q, decide (l + 1 < n) = q := ⟨_, rfl⟩
  rw [hl, hq]
  have HQ := Lib.hid hq
  clear hro how hra hl how' hro' hj hho hho2 hhn2 hne hn1 hm hq
  go_enter Tryz.func96, Tryz.ntmps96
  go_upto_region 1 with (fail)
  --[1
  refine wp_region_held_drew (S := fun w' => Chg (fun x => Value.ownBlock (.slice A l c) = some x ∨ x = ho) W w') (by kernel_rfl) (((Chg.refl _ _).drewN 1)) (fun hHeld => ?_)
  refine held_take 1 (some 6) (v := ?_) rfl rfl (by kernel_rfl) (by kernel_rfl) (by kernel_rfl) (fun _ _ _ h => h) (Or.inl ⟨by rfl, ?_⟩) hHeld ?_
  rotate_left
  · (intro w' hSw; clear hSw; go_simp; try with_reducible rfl)
  try simp only [Act.put, List.setIfInBounds_toArray, List.set_cons_zero, List.set_cons_succ]
  refine held_take 2 (some 7) (v := ?_) rfl rfl (by kernel_rfl) (by kernel_rfl) (by kernel_rfl) (fun _ _ _ h => h) (Or.inl ⟨by rfl, ?_⟩) hHeld ?_
  rotate_left
  · (intro w' hSw; clear hSw; go_simp; try with_reducible rfl)
  try simp only [Act.put, List.setIfInBounds_toArray, List.set_cons_zero, List.set_cons_succ]
  refine held_take 3 (some 8) (v := ?_) rfl rfl (by kernel_rfl) (by kernel_rfl) (by kernel_rfl) (fun _ _ _ h => h) (Or.inl ⟨by rfl, ?_⟩) hHeld ?_
  rotate_left
  · (intro w' hSw; clear hSw; go_simp; try with_reducible rfl)
  try simp only [Act.put, List.setIfInBounds_toArray, List.set_cons_zero, List.set_cons_succ]
  refine held_take 4 (some 9) (v := .agg ([.string k, .string v]).toArray) rfl rfl (by kernel_rfl) (by kernel_rfl) (by kernel_rfl) (fun _ _ _ h => h) (yieldsIf_load_mid (by rfl) 97 _ rfl ga (0) rfl ([.string k, .string v]) _ (fun w' h => rangeAt_block HK0.out (h.block _ HKL.out HKN.out)) Tryz.underlying97 rfl rfl) hHeld ?_
  try simp only [Act.put, List.setIfInBounds_toArray, List.set_cons_zero, List.set_cons_succ]
  refine wpAnyH_ready (rs := [0, 5]) (by kernel_rfl) (by simp) ?_
  refine AllReadyH.cons rfl (fun K hKK => ?_) (AllReadyH.cons rfl (fun K hKK => ?_) AllReadyH.nil)
  · go_simp
    try simp only [HCO.out]
    go_simp
    refine hKK.out _ _ hHeld (fun hHeld => ?_)
    clear hKK K
    try simp only [Act.put, List.setIfInBounds_toArray, List.set_cons_zero, List.set_cons_succ]
    refine wpAnyH_ready (rs := [5]) (by kernel_rfl) (by simp) ?_
    refine AllReadyH.cons rfl (fun K hKK => ?_) AllReadyH.nil
    have hrB := heap_alloc_last (W.drew) (.cells (prC (k, v)).toArray 97)
    have hbB := (Below.refl _ (W.drew)).alloc (Nat.le_refl _) (.cells (prC (k, v)).toArray 97)
    have hOB := own_chg (R := fun _ => False) HOW.out (Chg.belowAt hbB) (fun _ _ h => h)
    have hcB := (hbB.cell (p := ⟨ho, 0, none⟩) HLO.out).trans HCO.out
    refine step_val rfl (exec_buildSlice _ _ _ rfl #[(0, .agg (prC (k, v)).toArray)] (by go_simp; try rfl) (build_Pr (k, v) _)) ?_
    refine hKK.out _ _ (hHeld.alloc (.cells (prC (k, v)).toArray 97)) (fun hHeld => ?_)
    clear hKK K
    try simp only [Act.put, List.setIfInBounds_toArray, List.set_cons_zero, List.set_cons_succ]
    refine wpAnyH_ready (rs := [6]) (by kernel_rfl) (by simp) ?_
    refine AllReadyH.cons rfl (fun K hKK => ?_) AllReadyH.nil
    refine step_app EPr rfl (.tmp 5) (.tmp 10) rfl (wb.heap.size + 2) (.slice A l c) l (flatPr acc) (by go_simp) hOB (some ⟨(W.drew).heap.size, 0, none⟩) 1 1 (prC (k, v)) (by go_simp) (fun h => by cases h) rfl (fun j u hj => ⟨_, rfl, by rw [addr_add0, Nat.zero_add]; exact row_at hrB hj⟩) (prC_one _) HML.out.1 HML.out.2 (by have := HBS.out; first | omega | (simp only [World.size_alloc]; show _ ≤ W.heap.size + 1; omega)) ?_
    intro v7 w7 hown7 hgrow7 hat7
    obtain ⟨A7, c7, rfl⟩ := ownPr_form hown7
    have hc7 := (((Chg.refl (fun x => Value.ownBlock (.slice A l c) = some x) W).drewN 1).alloc _).trans2 (Chg.of hgrow7) (fun x _ e => e.symm)
    have HC7 := Lib.hid (show Chg (fun x => Value.ownBlock (.slice A l c) = some x) W w7 from hc7)
    have HOW7 := Lib.hid hown7
    clear hown7 hgrow7 hat7 hc7
    have hr7 := (HC7.out.block ho HLO.out HNO.out).trans HRO.out
    have hcl7 : w7.cell? ⟨ho, 0, none⟩ = some (.slice A l c) := cell_row' hr7
    have hfr7 := free_row hr7 0
    have HR7 := Lib.hid hr7
    clear hr7
    refine hKK.out _ _ (HC7.out.mono (fun x h => .inl h)) (fun hHeld => ?_)
    clear hKK K
    try simp only [Act.put, List.setIfInBounds_toArray, List.set_cons_zero, List.set_cons_succ]
    refine wpAnyH_ready (rs := [7]) (by kernel_rfl) (by simp) ?_
    refine AllReadyH.cons rfl (fun K hKK => ?_) AllReadyH.nil
    go_simp
    refine hKK.out _ _ ((HC7.out.mono (fun x h => .inl h)).trans (Chg.of_ (grown_setCell w7 ho 0 (.slice A7 (l + 1) c7)) (fun k _ e => by injection e with e; exact .inr e.symm))) (fun hHeld => ?_)
    clear hKK K
    try simp only [Act.put, List.setIfInBounds_toArray, List.set_cons_zero, List.set_cons_succ]
    refine wpAnyH_done (by kernel_rfl) ?_ _
    clear hHeld hcl7 hfr7
    have h8 := Chg.of_ (R := fun x => x = ho) (grown_setCell w7 ho 0 (.slice A7 (l + 1) c7)) (fun k _ e => by injection e with e; exact e.symm)
    have hr8 := setCell_row HR7.out 0 (.slice A7 (l + 1) c7)
    obtain ⟨w8, hw8⟩ : ∃ w8, w7.setCell ⟨ho, 0, none⟩ (.slice A7 (l + 1) c7) = w8 := ⟨_, rfl⟩
    rw [hw8] at h8 hr8 ⊢
    have cl8 : w8.cell? ⟨ho, 0, none⟩ = some (.slice A7 (l + 1) c7) := cell_row' hr8
    have hn7 := (HC7.out.block hn (row_lt HN.out) HNN.out).trans HN.out
    have hn8 := (h8.block hn (row_lt hn7) HX.out.2.2.2.1).trans hn7
    have cn8 : w8.cell? ⟨hn, 0, none⟩ = some (.int .i64 n) := cell_row' hn8
    have HFIN := Lib.hid (From1_end HX.out.1 HX.out.2.1 HACC.out HB.out HBS.out HLT.out HC7.out h8 HOW7.out hr8 hn8)
    clear h8 hr8 hn7 hn8 hw8
    go_simp
    go_wp2_with fail
    go_ret
    exact ⟨by rw [← HQ.out]; exact congrArg (fun b => Ending.returned (.bool b)) (decide_eq_decide.2 (by omega)), HFIN.out⟩
  · have hrB := heap_alloc_last (W.drew) (.cells (prC (k, v)).toArray 97)
    have hbB := (Below.refl _ (W.drew)).alloc (Nat.le_refl _) (.cells (prC (k, v)).toArray 97)
    have hOB := own_chg (R := fun _ => False) HOW.out (Chg.belowAt hbB) (fun _ _ h => h)
    have hcB := (hbB.cell (p := ⟨ho, 0, none⟩) HLO.out).trans HCO.out
    refine step_val rfl (exec_buildSlice _ _ _ rfl #[(0, .agg (prC (k, v)).toArray)] (by go_simp; try rfl) (build_Pr (k, v) _)) ?_
    refine hKK.out _ _ (hHeld.alloc (.cells (prC (k, v)).toArray 97)) (fun hHeld => ?_)
    clear hKK K
    try simp only [Act.put, List.setIfInBounds_toArray, List.set_cons_zero, List.set_cons_succ]
    refine wpAnyH_ready (rs := [0]) (by kernel_rfl) (by simp) ?_
    refine AllReadyH.cons rfl (fun K hKK => ?_) AllReadyH.nil
    obtain ⟨w6, hw6⟩ : ∃ w6, (W.drew.alloc (.cells (prC (k, v)).toArray 97)) = w6 := ⟨_, rfl⟩
    have hch6 : Chg (fun x => Value.ownBlock (.slice A l c) = some x) W w6 := by rw [← hw6]; exact ((Chg.refl _ _).drewN 1).alloc _
    rw [hw6] at hrB hbB hOB hcB hHeld ⊢
    have hs6 : w6.heap.size = W.heap.size + 1 := by rw [← hw6]; exact World.size_alloc _ _
    clear hw6
    go_simp
    refine hKK.out _ _ hHeld (fun hHeld => ?_)
    clear hKK K
    try simp only [Act.put, List.setIfInBounds_toArray, List.set_cons_zero, List.set_cons_succ]
    refine wpAnyH_ready (rs := [6]) (by kernel_rfl) (by simp) ?_
    refine AllReadyH.cons rfl (fun K hKK => ?_) AllReadyH.nil
    refine step_app EPr rfl (.tmp 5) (.tmp 10) rfl (wb.heap.size + 2) (.slice A l c) l (flatPr acc) (by go_simp) hOB (some ⟨(W.drew).heap.size, 0, none⟩) 1 1 (prC (k, v)) (by go_simp) (fun h => by cases h) rfl (fun j u hj => ⟨_, rfl, by rw [addr_add0, Nat.zero_add]; exact row_at hrB hj⟩) (prC_one _) HML.out.1 HML.out.2 (by have := HBS.out; first | omega | (simp only [World.size_alloc]; show _ ≤ W.heap.size + 1; omega)) ?_
    intro v7 w7 hown7 hgrow7 hat7
    obtain ⟨A7, c7, rfl⟩ := ownPr_form hown7
    have hc7 := hch6.trans2 (Chg.of hgrow7) (fun x _ e => e.symm)
    have HC7 := Lib.hid (show Chg (fun x => Value.ownBlock (.slice A l c) = some x) W w7 from hc7)
    have HOW7 := Lib.hid hown7
    clear hown7 hgrow7 hat7 hc7
    have hr7 := (HC7.out.block ho HLO.out HNO.out).trans HRO.out
    have hcl7 : w7.cell? ⟨ho, 0, none⟩ = some (.slice A l c) := cell_row' hr7
    have hfr7 := free_row hr7 0
    have HR7 := Lib.hid hr7
    clear hr7
    refine hKK.out _ _ (HC7.out.mono (fun x h => .inl h)) (fun hHeld => ?_)
    clear hKK K
    try simp only [Act.put, List.setIfInBounds_toArray, List.set_cons_zero, List.set_cons_succ]
    refine wpAnyH_ready (rs := [7]) (by kernel_rfl) (by simp) ?_
    refine AllReadyH.cons rfl (fun K hKK => ?_) AllReadyH.nil
    go_simp
    refine hKK.out _ _ ((HC7.out.mono (fun x h => .inl h)).trans (Chg.of_ (grown_setCell w7 ho 0 (.slice A7 (l + 1) c7)) (fun k _ e => by injection e with e; exact .inr e.symm))) (fun hHeld => ?_)
    clear hKK K
    try simp only [Act.put, List.setIfInBounds_toArray, List.set_cons_zero, List.set_cons_succ]
    refine wpAnyH_done (by kernel_rfl) ?_ _
    clear hHeld hcl7 hfr7
    have h8 := Chg.of_ (R := fun x => x = ho) (grown_setCell w7 ho 0 (.slice A7 (l + 1) c7)) (fun k _ e => by injection e with e; exact e.symm)
    have hr8 := setCell_row HR7.out 0 (.slice A7 (l + 1) c7)
    obtain ⟨w8, hw8⟩ : ∃ w8, w7.setCell ⟨ho, 0, none⟩ (.slice A7 (l + 1) c7) = w8 := ⟨_, rfl⟩
    rw [hw8] at h8 hr8 ⊢
    have cl8 : w8.cell? ⟨ho, 0, none⟩ = some (.slice A7 (l + 1) c7) := cell_row' hr8
    have hn7 := (HC7.out.block hn (row_lt HN.out) HNN.out).trans HN.out
    have hn8 := (h8.block hn (row_lt hn7) HX.out.2.2.2.1).trans hn7
    have cn8 : w8.cell? ⟨hn, 0, none⟩ = some (.int .i64 n) := cell_row' hn8
    have HFIN := Lib.hid (From1_end HX.out.1 HX.out.2.1 HACC.out HB.out HBS.out HLT.out HC7.out h8 HOW7.out hr8 hn8)
    clear h8 hr8 hn7 hn8 hw8
    go_simp
    go_wp2_with fail
    go_ret
    exact ⟨by rw [← HQ.out]; exact congrArg (fun b => Ending.returned (.bool b)) (decide_eq_decide.2 (by omega)), HFIN.out⟩
  --]1
end Go.Proofs.YtcklcffepedklaaGreatDoor
