/- Texts of the proof, one behind the other: index: what rows are sorted by. -/
import Derived.Test.YtcklcffepedklaaGreatM08
import Derived.Shelf.SlSortCmp.WholeK
namespace Go.Proofs.YtcklcffepedklaaGreat
open Go.RowKit Go.Maps

theorem Gr.below {w w' : World} (h : Gr w w') : Below w.heap.size w w' := by
  obtain ⟨q, os, rfl⟩ := h
  refine ⟨rfl, rfl, rfl, by simp [Go.Sort.size_grow], fun k hk => ?_⟩
  show (w.heap ++ os)[k]? = _
  rw [Array.getElem?_append_left hk]
theorem Gr.drawn {w w' : World} (h : Gr w w') : w.drawn ≤ w'.drawn := by
  obtain ⟨q, os, rfl⟩ := h
  exact Nat.le_add_right _ _
theorem Gr.trans {a b c : World} (h : Gr a b) (k : Gr b c) : Gr a c := Gr.of (below_trans h.below k.below h.below.size) (Nat.le_trans h.drawn k.drawn)
theorem Gr.alloc {a b : World} (h : Gr a b) (o : Obj) : Gr a (b.alloc o) := Gr.of (h.below.alloc h.below.size o) h.drawn
theorem Gr.refl (w : World) : Gr w w := Gr.of (Below.refl _ _) (Nat.le_refl _)
theorem Gr.drew {a b : World} (h : Gr a b) : Gr a b.drew := Gr.of h.below.drew (Nat.le_succ_of_le h.drawn)

/-- A row: a chunk and where it lies. -/
abbrev Rw := { r : Ky × (Nat × Nat) // r.1.Ok }
instance : Inhabited Rw := ⟨⟨(⟨List.replicate 32 0, 0⟩, (0, 0)), ⟨by simp, fun i => by
  show 0 ≤ (List.replicate 32 (0 : Int)).getD i 0 ∧ (List.replicate 32 (0 : Int)).getD i 0 < 256
  rw [List.getD_eq_getElem?_getD, List.getElem?_replicate]; split <;> simp, by simp⟩⟩⟩
def encR (r : Rw) : List Value := r.val.1.cells ++ plC r.val.2
theorem encR_length (r : Rw) : (encR r).length = 35 := by simp [encR, plC, Ky.cells_length r.property]
theorem encR_one (r : Rw) : ∀ v ∈ encR r, v.oneCell' = true := by
  intro v hv
  rcases List.mem_append.1 hv with hv | hv
  · exact Ky.cells_one _ v hv
  · exact plC_one _ v hv
theorem encR_key (r : Rw) {j : Nat} {v : Value} (h : r.val.1.cells[j]? = some v) : (encR r)[j]? = some v := by
  have hj : j < r.val.1.cells.length := by rcases Nat.lt_or_ge j r.val.1.cells.length with h1 | h1; exact h1; rw [List.getElem?_eq_none h1] at h; cases h
  rw [encR, List.getElem?_append_left hj]; exact h
theorem encR_34 (r : Rw) : (encR r)[34]? = some (.int .i64 r.val.2.2) := by
  rw [encR, List.getElem?_append_right (by rw [Ky.cells_length r.property]; decide), Ky.cells_length r.property]; rfl
def cfA (x y : Rw) : Int := cfK x.val.1 y.val.1
def cfS (x y : Rw) : Int := if cmpI x.val.2.2 y.val.2.2 = 0 then cfK x.val.1 y.val.1 else cmpI x.val.2.2 y.val.2.2
/-- Two rows are boxed. -/
theorem two_boxed (x y : Rw) (w : World) (t : TypeId) : let w2 := (w.alloc (.cells (encR x).toArray t)).alloc (.cells (encR y).toArray t)
    Gr w w2 ∧ w2.heap[w.heap.size]? = some (.cells (encR x).toArray t (0, 0)) ∧ w2.heap[w.heap.size + 1]? = some (.cells (encR y).toArray t (0, 0)) := by
  have hb1 := (Below.refl w.heap.size w).alloc (Nat.le_refl _) (.cells (encR x).toArray t)
  have hr1 := heap_alloc_last w (.cells (encR x).toArray t)
  have hs1 : (w.alloc (.cells (encR x).toArray t)).heap.size = w.heap.size + 1 := World.size_alloc _ _
  have hb2 := (Below.refl (w.alloc (.cells (encR x).toArray t)).heap.size (w.alloc (.cells (encR x).toArray t))).alloc (Nat.le_refl _) (.cells (encR y).toArray t)
  have hr2 := heap_alloc_last (w.alloc (.cells (encR x).toArray t)) (.cells (encR y).toArray t)
  rw [hs1] at hr2
  exact ⟨((Gr.refl w).alloc _).alloc _, (hb2.block _ (by omega)).trans hr1, hr2⟩
set_option maxRecDepth 20000 in
theorem All1_any (x y : Rw) (w : World) : Calls Tryz.prog 69 #[.agg (encR x).toArray, .agg (encR y).toArray] w fun e w' => e = .returned (.int .i64 (cfA x y)) ∧ Gr w w' := by
  obtain ⟨h1, h2, h3⟩ := two_boxed x y w 84
  have HG := Lib.hid h1
  have HX := Lib.hid x.property
  have HY := Lib.hid y.property
  have HKX := Lib.hid (show ((w.alloc (.cells (encR x).toArray 84)).alloc (.cells (encR y).toArray 84)).rangeAt w.heap.size 0 x.val.1.cells from fun j v hj => by rw [Nat.zero_add]; exact row_at h2 (encR_key x hj))
  have HKY := Lib.hid (show ((w.alloc (.cells (encR x).toArray 84)).alloc (.cells (encR y).toArray 84)).rangeAt (w.heap.size + 1) 0 y.val.1.cells from fun j v hj => by rw [Nat.zero_add]; exact row_at h3 (encR_key y hj))
  have HO := Lib.hid (order_any x.val.1 y.val.1 x.property y.property ((w.alloc (.cells (encR x).toArray 84)).alloc (.cells (encR y).toArray 84)))
  clear h1 h2 h3
  go_enter Tryz.func69, Tryz.ntmps69
  go_wp2_with (first | (with_reducible refine Go.wpList_load_mid rfl 64 _ rfl w.heap.size (0) rfl (x.val.1).cells _ HKX.out Tryz.underlying64 rfl (sizeK HX.out) ?_) | (with_reducible refine Go.wpList_load_mid rfl 64 _ rfl (w.heap.size + 1) (0) rfl (y.val.1).cells _ HKY.out Tryz.underlying64 rfl (sizeK HY.out) ?_))
  refine HO.out.mono ?_
  rintro e w' ⟨rfl, hg⟩
  go_wp2_with fail
  go_ret
  exact ⟨rfl, HG.out.trans hg⟩
set_option maxRecDepth 20000 in
set_option maxHeartbeats 1600000 in
theorem Shelf1_any (x y : Rw) (w : World) : Calls Tryz.prog 135 #[.agg (encR x).toArray, .agg (encR y).toArray] w fun e w' => e = .returned (.int .i64 (cfS x y)) ∧ Gr w w' := by
  obtain ⟨h1, h2, h3⟩ := two_boxed x y w 84
  have HX := Lib.hid x.property
  have HY := Lib.hid y.property
  go_enter Tryz.func135, Tryz.ntmps135
  go_upto_region 1 with (fail)
  obtain ⟨gb, hgb⟩ : ∃ g, w.heap.size + 1 = g := ⟨_, rfl⟩
  rw [hgb] at h3 ⊢
  obtain ⟨ga, hga⟩ : ∃ g, w.heap.size = g := ⟨_, rfl⟩
  rw [hga] at h2 ⊢
  clear hga hgb
  generalize (w.alloc (.cells (encR x).toArray 84)).alloc (.cells (encR y).toArray 84) = w2 at *
  have HG2 := Lib.hid h1
  have HLA := Lib.hid (row_lt h2)
  have HLB := Lib.hid (row_lt h3)
  have HCA := Lib.hid (show w2.cell? ⟨ga, 34, none⟩ = some (.int .i64 x.val.2.2) from row_at h2 (encR_34 x))
  have HCB := Lib.hid (show w2.cell? ⟨gb, 34, none⟩ = some (.int .i64 y.val.2.2) from row_at h3 (encR_34 y))
  have HKA := Lib.hid (show w2.rangeAt ga 0 x.val.1.cells from fun j v hj => by rw [Nat.zero_add]; exact row_at h2 (encR_key x hj))
  have HKB := Lib.hid (show w2.rangeAt gb 0 y.val.1.cells from fun j v hj => by rw [Nat.zero_add]; exact row_at h3 (encR_key y hj))
  obtain ⟨c1, hc1⟩ : ∃ c, cmpI x.val.2.2 y.val.2.2 = c := ⟨_, rfl⟩
  obtain ⟨c2, hc2⟩ : ∃ c, cfK x.val.1 y.val.1 = c := ⟨_, rfl⟩
  obtain ⟨c3, hc3⟩ : ∃ c, (if c1 = 0 then c2 else c1) = c := ⟨_, rfl⟩
  have HCC := Lib.hid (cmpN_any x.val.2.2 y.val.2.2 w2.drew)
  have HOD := Lib.hid (order_any x.val.1 y.val.1 x.property y.property w2.drew)
  rw [hc1] at HCC
  rw [hc2] at HOD
  have HC3 := Lib.hid hc3
  have HCF := Lib.hid (show cfS x y = c3 by unfold cfS; rw [hc1, hc2, hc3])
  have HBS := Lib.hid (fun (W : World) => build_two (P := Tryz.prog) (z := .int .i64 0) Tryz.underlying168 (fun _ => by kernel_rfl) zero3 rfl (.int .i64 c1) (.int .i64 c2) rfl rfl W)
  have HG2 := Lib.hid (show Gr w w2.drew from HG2.out.drew)
  clear h1 h2 h3 hc1 hc2 hc3
  --[
  refine wp_region_held_drew (S := fun w' => Below w2.heap.size w2 w') (by kernel_rfl) ((Below.refl _ _).drew) (fun hHeld => ?_)
  refine held_take 0 (some 5) (v := ?_) rfl rfl (by kernel_rfl) (by kernel_rfl) (by kernel_rfl) (fun _ _ _ h => h) (Or.inl ⟨by rfl, ?_⟩) hHeld ?_
  rotate_left
  · (intro w' hSw; clear hSw; go_simp; try with_reducible rfl)
  try simp only [Act.put, List.setIfInBounds_toArray, List.set_cons_zero, List.set_cons_succ]
  refine held_take 1 (some 6) (v := ?_) rfl rfl (by kernel_rfl) (by kernel_rfl) (by kernel_rfl) (fun _ _ _ h => h) (Or.inl ⟨by rfl, ?_⟩) hHeld ?_
  rotate_left
  · (intro w' hSw; clear hSw; go_simp; try with_reducible rfl)
  try simp only [Act.put, List.setIfInBounds_toArray, List.set_cons_zero, List.set_cons_succ]
  refine held_take 2 (some 7) (v := ?_) rfl rfl (by kernel_rfl) (by kernel_rfl) (by kernel_rfl) (fun _ _ _ h => h) (Or.inl ⟨by rfl, ?_⟩) hHeld ?_
  rotate_left
  · (intro w' hSw; have pf := (hSw.cell (p := ⟨ga, 34, none⟩) HLA.out).trans HCA.out; clear hSw; go_simp; try with_reducible rfl)
  try simp only [Act.put, List.setIfInBounds_toArray, List.set_cons_zero, List.set_cons_succ]
  refine held_take 3 (some 8) (v := ?_) rfl rfl (by kernel_rfl) (by kernel_rfl) (by kernel_rfl) (fun _ _ _ h => h) (Or.inl ⟨by rfl, ?_⟩) hHeld ?_
  rotate_left
  · (intro w' hSw; clear hSw; go_simp; try with_reducible rfl)
  try simp only [Act.put, List.setIfInBounds_toArray, List.set_cons_zero, List.set_cons_succ]
  refine held_take 4 (some 9) (v := ?_) rfl rfl (by kernel_rfl) (by kernel_rfl) (by kernel_rfl) (fun _ _ _ h => h) (Or.inl ⟨by rfl, ?_⟩) hHeld ?_
  rotate_left
  · (intro w' hSw; clear hSw; go_simp; try with_reducible rfl)
  try simp only [Act.put, List.setIfInBounds_toArray, List.set_cons_zero, List.set_cons_succ]
  refine held_take 5 (some 10) (v := ?_) rfl rfl (by kernel_rfl) (by kernel_rfl) (by kernel_rfl) (fun _ _ _ h => h) (Or.inl ⟨by rfl, ?_⟩) hHeld ?_
  rotate_left
  · (intro w' hSw; have pf := (hSw.cell (p := ⟨gb, 34, none⟩) HLB.out).trans HCB.out; clear hSw; go_simp; try with_reducible rfl)
  try simp only [Act.put, List.setIfInBounds_toArray, List.set_cons_zero, List.set_cons_succ]
  refine held_take 7 (some 12) (v := ?_) rfl rfl (by kernel_rfl) (by kernel_rfl) (by kernel_rfl) (fun _ _ _ h => h) (Or.inl ⟨by rfl, ?_⟩) hHeld ?_
  rotate_left
  · (intro w' hSw; clear hSw; go_simp; try with_reducible rfl)
  try simp only [Act.put, List.setIfInBounds_toArray, List.set_cons_zero, List.set_cons_succ]
  refine held_take 8 (some 13) (v := .agg (x.val.1.cells).toArray) rfl rfl (by kernel_rfl) (by kernel_rfl) (by kernel_rfl) (fun _ _ _ h => h) (yieldsIf_load_mid (by rfl) 64 _ rfl ga (0) rfl (x.val.1.cells) _ (fun w' h => rangeAt_block HKA.out (h.block ga HLA.out)) Tryz.underlying64 rfl (sizeK HX.out)) hHeld ?_
  try simp only [Act.put, List.setIfInBounds_toArray, List.set_cons_zero, List.set_cons_succ]
  refine held_take 9 (some 14) (v := ?_) rfl rfl (by kernel_rfl) (by kernel_rfl) (by kernel_rfl) (fun _ _ _ h => h) (Or.inl ⟨by rfl, ?_⟩) hHeld ?_
  rotate_left
  · (intro w' hSw; clear hSw; go_simp; try with_reducible rfl)
  try simp only [Act.put, List.setIfInBounds_toArray, List.set_cons_zero, List.set_cons_succ]
  refine held_take 10 (some 15) (v := .agg (y.val.1.cells).toArray) rfl rfl (by kernel_rfl) (by kernel_rfl) (by kernel_rfl) (fun _ _ _ h => h) (yieldsIf_load_mid (by rfl) 64 _ rfl gb (0) rfl (y.val.1.cells) _ (fun w' h => rangeAt_block HKB.out (h.block gb HLB.out)) Tryz.underlying64 rfl (sizeK HY.out)) hHeld ?_
  try simp only [Act.put, List.setIfInBounds_toArray, List.set_cons_zero, List.set_cons_succ]
  refine wpAnyH_ready (rs := [6]) (by kernel_rfl) (by simp) ?_
  refine AllReadyH.cons rfl (fun K hKK => ?_) AllReadyH.nil
  go_simp
  go_at_call 136
  refine HCC.out.mono ?_
  rintro e w3 ⟨rfl, rfl⟩
  refine hKK.out _ _ (Below.refl _ _).drew (fun hHeld => ?_)
  clear hKK K
  try simp only [Act.put, List.setIfInBounds_toArray, List.set_cons_zero, List.set_cons_succ]
  refine wpAnyH_ready (rs := [11]) (by kernel_rfl) (by simp) ?_
  refine AllReadyH.cons rfl (fun K hKK => ?_) AllReadyH.nil
  go_simp
  go_at_call 70
  refine HOD.out.mono ?_
  rintro e w3 ⟨rfl, hgr3⟩
  have hb3 := (Below.refl w2.heap.size w2).drew.trans hgr3.below
  refine hKK.out _ _ hb3 (fun hHeld => ?_)
  clear hKK K
  try simp only [Act.put, List.setIfInBounds_toArray, List.set_cons_zero, List.set_cons_succ]
  refine wpAnyH_ready (rs := [12]) (by kernel_rfl) (by simp) ?_
  refine AllReadyH.cons rfl (fun K hKK => ?_) AllReadyH.nil
  refine step_val rfl (exec_buildSlice _ _ _ rfl #[(0, .int .i64 c1), (1, .int .i64 c2)] (by go_simp) (HBS.out w3)) ?_
  refine hKK.out _ _ (hb3.alloc hb3.size _) (fun hHeld => ?_)
  clear hKK K
  try simp only [Act.put, List.setIfInBounds_toArray, List.set_cons_zero, List.set_cons_succ]
  have hro := heap_alloc_last w3 (.cells #[.int .i64 c1, .int .i64 c2] 3)
  have HOR := Lib.hid (Or_any c1 c2 w3.heap.size 2 (w3.alloc (.cells #[.int .i64 c1, .int .i64 c2] 3)) (row_at hro rfl) (row_at hro rfl))
  rw [HC3.out] at HOR
  refine wpAnyH_ready (rs := [13]) (by kernel_rfl) (by simp) ?_
  refine AllReadyH.cons rfl (fun K hKK => ?_) AllReadyH.nil
  go_simp
  go_at_call 95
  refine HOR.out.mono ?_
  rintro e w5 ⟨rfl, rfl⟩
  refine hKK.out _ _ (hb3.alloc hb3.size _) (fun hHeld => ?_)
  clear hKK K
  try simp only [Act.put, List.setIfInBounds_toArray, List.set_cons_zero, List.set_cons_succ]
  refine held_take 14 (some 4) (v := ?_) rfl rfl (by kernel_rfl) (by kernel_rfl) (by kernel_rfl) (fun _ _ _ h => h) (Or.inl ⟨by rfl, ?_⟩) hHeld ?_
  rotate_left
  · (intro w' hSw; clear hSw; go_simp; try with_reducible rfl)
  try simp only [Act.put, List.setIfInBounds_toArray, List.set_cons_zero, List.set_cons_succ]
  refine wpAnyH_done (by kernel_rfl) ?_ _
  have HGF := Lib.hid (HG2.out.trans (hgr3.alloc (.cells #[.int .i64 c1, .int .i64 c2] 3)))
  clear hHeld hgr3 hb3 hro HOR
  go_simp
  go_wp2_with fail
  go_ret
  exact ⟨by rw [HCF.out]; rfl, HGF.out⟩
  --]
end Go.Proofs.YtcklcffepedklaaGreat
