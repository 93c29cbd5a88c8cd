/- Texts of the proof, one behind the other: index: Drop of a key that is not there; Put of such a key. -/
import Derived.Test.YtcklcffepedklaaGreatM05
import Derived.WalkSpells
namespace Go.Proofs.YtcklcffepedklaaGreat
open Go.RowKit Go.Maps

set_option maxRecDepth 20000 in
theorem IDrop_any {w : World} {gi gp : Nat} {v1 v2 : Value} {L : List (Ky × (Nat × Nat))} (hr : w.heap[gi]? = some (.cells #[.map (some gp), v1, v2] 155 (0, 0))) (hp : MapAt Ky.val Ky.Ok w gp (plRows L)) (k : Ky) (hk : k.Ok) (hL : lkp L k = none) :
    Calls Tryz.prog 116 #[.pointer (some ⟨gi, 0, none⟩), k.val] w fun e w' => e = .returned (.bool false) ∧ Below w.heap.size w w' := by
  have hb1 := (Below.refl w.heap.size w).alloc (Nat.le_refl _) (.cells k.cells.toArray 64)
  have hr1 := heap_alloc_last w (.cells k.cells.toArray 64)
  have HKR := Lib.hid (show (w.alloc (.cells k.cells.toArray 64)).rangeAt w.heap.size 0 k.cells from range_row hr1)
  have HGT := Lib.hid (IGet_any ((hb1.block gi (row_lt hr)).trans hr) (hp.below hb1) k hk)
  rw [hL] at HGT
  simp only [Option.getD_none, Option.isSome_none, plV] at HGT
  have HB1 := Lib.hid hb1
  have HZ := Lib.hid zeroPl
  clear hr hp hL hr1 hb1
  unfold Ky.val at HGT ⊢
  go_enter Tryz.func116, Tryz.ntmps116
  go_wp2_with (with_reducible refine Go.wpList_load_mid rfl 64 _ rfl w.heap.size (0) rfl (k).cells _ HKR.out Tryz.underlying64 rfl (sizeK hk) ?_)
  refine HGT.out.mono ?_
  rintro e w2 ⟨rfl, hb2⟩
  have HB2 := Lib.hid (below_trans HB1.out hb2 HB1.out.size)
  clear hb2 HGT
  go_wp2_with (with_reducible refine wpList_fresh rfl rfl 82 rfl _ _ rfl (plC (0, 0)).toArray (plC (0, 0)).toArray (fun _ => rfl) (fun _ => rfl) HZ.out (sizePlA _) rfl (all_one (plC_one _)) ?_; intro g5 w3 hg5 hr5 hb3)
  go_ret
  exact ⟨rfl, HB2.out.trans (hb3.out.mono HB2.out.size)⟩

theorem zeroTw (w : World) : (zeroValue 177).run Tryz.prog w = .ok (.slice none 0 0) w := by
  obtain ⟨i0, hi, hz0, _, _⟩ := info_parts (show (Tryz.prog.info? 177).map (fun i => (i.zero, i.size, i.bytes)) = some (some (.slice none 0 0), 1, 24) by kernel_rfl)
  exact zero_run hi hz0 w
theorem zeroSh (w : World) : (zeroValue 159).run Tryz.prog w = .ok (.map none) w := by
  obtain ⟨i0, hi, hz0, _, _⟩ := info_parts (show (Tryz.prog.info? 159).map (fun i => (i.zero, i.size, i.bytes)) = some (some (.map none), 1, 8) by kernel_rfl)
  exact zero_run hi hz0 w
theorem upd_snoc {α β : Type} [DecidableEq α] {L : List (α × β)} {a : α} {u v : β} (h : lkp L a = none) : upd (L ++ [(a, u)]) a v = upd L a v := by
  rw [upd_new h, upd_old (u := u) (by rw [lkp_append, h]; simp [lkp]), List.map_append]
  congr 1
  · conv => rhs; rw [← List.map_id L]
    apply List.map_congr_left
    intro x hx
    rw [if_neg (lkp_none_mem h x hx)]; rfl
  · simp
section
variable {w : World} {gi gp gt gs : Nat} {L : List (Ky × (Nat × Nat))} {T : List (List Int × Tw)} {S : List (Nat × Sh)}
theorem OwnU.ints {w : World} {b : Nat} {v : Value} {m : Nat} (h : OwnU w b v m) : ∃ A c, v = .slice A m c ∧ Ints .u32 w A (idL m) := by
  have h' : w.ownsRow b 27 1 v (idL m).length ((idL m).map (Value.int .u32)) := by rw [idL_length]; exact h
  obtain ⟨A, c, e, _, h3, _⟩ := new_of_own h'
  rw [idL_length] at e
  exact ⟨A, c, e, h3⟩
theorem Ir.lkpT (h : Ir w gi gp gt gs L T S) {d : List Int} (hd : SumOk d) : (Instr.lookup 152 (.map (some gt)) (sumV d) false).run Tryz.prog w = .ok (twO (lkp T d)) w := by
  rw [run_lkp keyS Tryz.underlying152 h.tw d hd (.slice none 0 0) (zeroTw w) false]
  unfold twRows
  rw [lkp_map]
  cases lkp T d <;> rfl
theorem Ir.lkpS (h : Ir w gi gp gt gs L T S) {s : Nat} (hs : IntOk s) : (Instr.lookup 153 (.map (some gs)) (intV s) false).run Tryz.prog w = .ok (((lkp S s).map shV).getD (.map none)) w := by
  rw [run_lkp keyI Tryz.underlying153 h.sh s hs (.map none) (zeroSh w) false]
  unfold shRows
  rw [lkp_map]
  rfl
set_option maxRecDepth 20000 in
set_option maxHeartbeats 3200000 in
theorem IPut_ir (h : Ir w gi gp gt gs L T S) (k : Ky) (hk : k.Ok) (hL : lkp L k = none) (p : Nat × Nat) (hp : IntOk p.1 ∧ IntOk p.2) (hn : k.n = twN (lkp T k.sum)) (hn1 : k.n < 1000000000) (hS : ∀ s x, lkp S s = some x → k ∉ x.2) :
    Calls Tryz.prog 90 #[.pointer (some ⟨gi, 0, none⟩), .agg k.cells.toArray, .agg (plC p).toArray] w fun e w' => e = .returned (.bool false) ∧ Chg (fun x => x ∈ ixB gi gp gt gs T S) w w' ∧ ∃ t gm ks, t.2.1 = k.n + 1 ∧ ((lkp S p.1 = none ∧ ks = []) ∨ lkp S p.1 = some (gm, ks)) ∧
      Ir w' gi gp gt gs (L ++ [(k, p)]) (upd T k.sum t) (upd S p.1 (gm, ks ++ [k])) ∧ (t.1 ∈ ixB gi gp gt gs T S ∨ w.heap.size ≤ t.1) ∧ (gm ∈ ixB gi gp gt gs T S ∨ w.heap.size ≤ gm) := by
  have hlt := h.lt
  have HLT0 := Lib.hid hlt
  have n := h.ne
  have HNE := Lib.hid n
  have HKO := Lib.hid hk
  have HP := Lib.hid hp
  have HL := Lib.hid hL
  have HN := Lib.hid hn
  have HSS0 := Lib.hid hS
  have hsum : SumOk k.sum := ⟨hk.len, hk.byt⟩
  have HSU := Lib.hid hsum
  have HSS := Lib.hid (show (Tryz.prog.info? 62).map (·.size) = some (k.sum.map (Value.int .u8)).length by rw [List.length_map, hk.len]; kernel_rfl)
  have hgi := row_lt h.row
  have HIR := Lib.hid h
  clear h hp hL hn hS hsum
  go_enter Tryz.func90, Tryz.ntmps90
  obtain ⟨g4, hg4⟩ : ∃ g, g = w.heap.size := ⟨_, rfl⟩
  have hb1 := (Below.refl w.heap.size w).alloc (Nat.le_refl _) (.cells k.cells.toArray 64)
  have hr1 := heap_alloc_last w (.cells k.cells.toArray 64)
  have hs1 : (w.alloc (.cells k.cells.toArray 64)).heap.size = w.heap.size + 1 := World.size_alloc _ _
  have hb2 := (Below.refl (w.alloc (.cells k.cells.toArray 64)).heap.size (w.alloc (.cells k.cells.toArray 64))).alloc (Nat.le_refl _) (.cells (plC p).toArray 82)
  have hr2 := heap_alloc_last (w.alloc (.cells k.cells.toArray 64)) (.cells (plC p).toArray 82)
  rw [hs1] at hr2
  have HKR := Lib.hid (show ((w.alloc (.cells k.cells.toArray 64)).alloc (.cells (plC p).toArray 82)).rangeAt w.heap.size 0 k.cells from range_row ((hb2.block w.heap.size (by omega)).trans hr1))
  have HB2 := Lib.hid (below_trans hb1 hb2 (by omega))
  have HDR := Lib.hid (IDrop_any ((HIR.out.below HB2.out).row) ((HIR.out.below HB2.out).pl) k HKO.out HL.out)
  unfold Ky.val at HDR
  go_wp2_with (with_reducible refine Go.wpList_load_mid rfl 64 _ rfl w.heap.size (0) rfl (k).cells _ HKR.out Tryz.underlying64 rfl (sizeK hk) ?_)
  refine HDR.out.mono ?_
  rintro e w3 ⟨rfl, hb3⟩
  have HB3 := Lib.hid (below_trans HB2.out hb3 HB2.out.size)
  have hs2 := HB2.out.size
  have hs2' := hb2.size
  obtain ⟨g5, hg5⟩ : ∃ g, g = w.heap.size + 1 := ⟨_, rfl⟩
  rw [← hg5] at hr2 ⊢
  rw [← hg4] at hr1 ⊢
  have hr24 := (hb2.block g4 (row_lt hr1)).trans hr1
  have hr4 := (hb3.block g4 (row_lt hr24)).trans hr24
  have hr5 := (hb3.block g5 (row_lt hr2)).trans hr2
  have HR4 := Lib.hid hr4
  have HR5 := Lib.hid hr5
  have h45 : g4 = w.heap.size ∧ g5 = w.heap.size + 1 := ⟨hg4, hg5⟩
  have H45 := Lib.hid h45
  clear hb1 hr1 hs1 hb2 hr2 hb3 hr24 HDR HKR hg4 hg5 hs2 hs2'
  generalize w.alloc (.cells k.cells.toArray 64) = w1 at *
  have hne45 : ∀ x ∈ ixB gi gp gt gs T S, g4 ≠ x ∧ g5 ≠ x := fun x hx => by have := HLT0.out x hx; omega
  have HNE45 := Lib.hid hne45
  have HI3 := Lib.hid (HIR.out.below HB3.out)
  have HL_g4 := Lib.hid (row_lt hr4)
  have HL_g5 := Lib.hid (row_lt hr5)
  have HL_gi := Lib.hid (row_lt HI3.out.row)
  have HNP_gi := Lib.hid HNE.out.ip
  have HNP_g4 := Lib.hid (hne45 gp (by simp [ixB])).1
  have HNP_g5 := Lib.hid (hne45 gp (by simp [ixB])).2
  have HC0 := Lib.hid (show w3.cell? ⟨gi, 0, none⟩ = some (.map (some gp)) by rw [cell_of_row _ _ _ _ _ _ HI3.out.row]; rfl)
  have HK4 := Lib.hid (show w3.rangeAt g4 0 k.cells from range_row hr4)
  have HK5 := Lib.hid (show w3.rangeAt g5 0 (plC p) from range_row hr5)
  have HU4 := Lib.hid ((HI3.out.below (Below.refl _ _).drew).putPl HKO.out HL.out p)
  clear hr4 hr5 hne45 h45 hlt n
  go_upto_region 4 with (fail)
  --[4
  refine wp_region_held_drew (S := fun w' => Chg (fun x => x = gp) w3 w') (by kernel_rfl) ((Chg.refl _ _).drewN 1) (fun hHeld => ?_)
  refine held_take 0 (some 16) (v := ?_) rfl rfl (by kernel_rfl) (by kernel_rfl) (by kernel_rfl) (fun _ _ _ h => h) (Or.inl ⟨by rfl, ?_⟩) hHeld ?_
  rotate_left
  · (intro w' hSw; clear hSw; go_simp; try with_reducible rfl)
  try simp only [Act.put, List.setIfInBounds_toArray, List.set_cons_zero, List.set_cons_succ]
  refine held_take 1 (some 17) (v := ?_) rfl rfl (by kernel_rfl) (by kernel_rfl) (by kernel_rfl) (fun _ _ _ h => h) (Or.inl ⟨by rfl, ?_⟩) hHeld ?_
  rotate_left
  · (intro w' hSw; clear hSw; go_simp; try with_reducible rfl)
  try simp only [Act.put, List.setIfInBounds_toArray, List.set_cons_zero, List.set_cons_succ]
  refine held_take 2 (some 18) (v := ?_) rfl rfl (by kernel_rfl) (by kernel_rfl) (by kernel_rfl) (fun _ _ _ h => h) (Or.inl ⟨by rfl, ?_⟩) hHeld ?_
  rotate_left
  · (intro w' hSw; clear hSw; go_simp; try with_reducible rfl)
  try simp only [Act.put, List.setIfInBounds_toArray, List.set_cons_zero, List.set_cons_succ]
  refine held_take 3 (some 19) (v := ?_) rfl rfl (by kernel_rfl) (by kernel_rfl) (by kernel_rfl) (fun _ _ _ h => h) (Or.inl ⟨by rfl, ?_⟩) hHeld ?_
  rotate_left
  · (intro w' hSw; have pf := (hSw.cell (p := ⟨gi, 0, none⟩) HL_gi.out HNP_gi.out).trans HC0.out; clear hSw; go_simp; try with_reducible rfl)
  try simp only [Act.put, List.setIfInBounds_toArray, List.set_cons_zero, List.set_cons_succ]
  refine held_take 4 (some 20) (v := .agg (k.cells).toArray) rfl rfl (by kernel_rfl) (by kernel_rfl) (by kernel_rfl) (fun _ _ _ h => h) (yieldsIf_load_mid (by rfl) 64 _ rfl g4 (0) rfl (k.cells) _ (fun w' h => rangeAt_block HK4.out (h.block g4 HL_g4.out HNP_g4.out)) Tryz.underlying64 rfl (sizeK HKO.out)) hHeld ?_
  try simp only [Act.put, List.setIfInBounds_toArray, List.set_cons_zero, List.set_cons_succ]
  refine held_take 5 (some 21) (v := .agg (plC p).toArray) rfl rfl (by kernel_rfl) (by kernel_rfl) (by kernel_rfl) (fun _ _ _ h => h) (yieldsIf_load_mid (by rfl) 82 _ rfl g5 (0) rfl (plC p) _ (fun w' h => rangeAt_block HK5.out (h.block g5 HL_g5.out HNP_g5.out)) Tryz.underlying82 rfl (sizePl p)) hHeld ?_
  try simp only [Act.put, List.setIfInBounds_toArray, List.set_cons_zero, List.set_cons_succ]
  refine wpAnyH_ready (rs := [6]) (by kernel_rfl) (by simp) ?_
  refine AllReadyH.cons rfl (fun K hKK => ?_) AllReadyH.nil
  obtain ⟨w4, hrun, hgr, hir⟩ := HU4.out
  refine step_skip rfl (exec_upd _ (.tmp 19) (.tmp 20) (.tmp 21) rfl (.map (some gp)) (.agg k.cells.toArray) (.agg (plC p).toArray) (by go_simp) (by go_simp; try rfl) (by go_simp; try rfl) hrun) ?_
  refine hKK.out _ _ (((Chg.refl _ _).drewN 1).trans2 (Chg.of hgr) (fun x _ e => by injection e)) (fun hHeld => ?_)
  clear hKK K
  try simp only [Act.put, List.setIfInBounds_toArray, List.set_cons_zero, List.set_cons_succ]
  refine wpAnyH_done (by kernel_rfl) ?_ _
  --]4
  have HI4 := Lib.hid hir
  have HB24 := Lib.hid (show Chg (fun x => x ∈ ixB gi gp gt gs T S) w w4 from (Chg.belowAt HB3.out).trans2 hHeld (fun x _ hx => by rw [hx]; simp [ixB]))
  have HR44 := Lib.hid ((hHeld.block g4 HL_g4.out HNP_g4.out).trans HR4.out)
  have HR54 := Lib.hid ((hHeld.block g5 HL_g5.out HNP_g5.out).trans HR5.out)
  clear hHeld hrun hgr hir
  clear HU4 HK4 HK5 HC0 HNP_gi HNP_g4 HNP_g5 HL_g4 HL_g5 HL_gi HR4 HR5 HI3
  have HM_gi := Lib.hid (row_lt HI4.out.row)
  have HM_g4 := Lib.hid (row_lt HR44.out)
  have HC1 := Lib.hid (show w4.cell? ⟨gi, 1, none⟩ = some (.map (some gt)) by rw [cell_of_row _ _ _ _ _ _ HI4.out.row]; rfl)
  have HS4 := Lib.hid (show w4.rangeAt g4 0 (k.sum.map (Value.int .u8)) from fun j v hj => row_at HR44.out (by rw [Nat.zero_add, Ky.cells, List.getElem?_append_left (by rcases Nat.lt_or_ge j (k.sum.map (Value.int .u8)).length with h | h; exact h; rw [List.getElem?_eq_none h] at hj; cases hj)]; exact hj))
  have hown := HI4.out.own k.sum
  rw [← HN.out] at hown
  obtain ⟨A8, c8, hv8, hI8⟩ := hown.ints
  have HV8 := Lib.hid hv8
  have HI8 := Lib.hid hI8
  have HLT := Lib.hid (show ∀ W, Below w4.heap.size w4 W → (Instr.lookup 152 (.map (some gt)) (sumV k.sum) false).run Tryz.prog W = .ok (.slice A8 k.n c8) W from fun W hW => by rw [← HV8.out]; exact (HI4.out.below hW).lkpT HSU.out)
  clear hown hv8 hI8
  go_simp
  go_upto_region 5 with (fail)
  --[5
  refine wp_region_held_drew (S := fun w' => Below w4.heap.size w4 w') (by kernel_rfl) ((Below.refl _ _).drew) (fun hHeld => ?_)
  refine held_take 0 (some 22) (v := ?_) rfl rfl (by kernel_rfl) (by kernel_rfl) (by kernel_rfl) (fun _ _ _ h => h) (Or.inl ⟨by rfl, ?_⟩) hHeld ?_
  rotate_left
  · (intro w' hSw; clear hSw; go_simp; try with_reducible rfl)
  try simp only [Act.put, List.setIfInBounds_toArray, List.set_cons_zero, List.set_cons_succ]
  refine held_take 1 (some 23) (v := ?_) rfl rfl (by kernel_rfl) (by kernel_rfl) (by kernel_rfl) (fun _ _ _ h => h) (Or.inl ⟨by rfl, ?_⟩) hHeld ?_
  rotate_left
  · (intro w' hSw; clear hSw; go_simp; try with_reducible rfl)
  try simp only [Act.put, List.setIfInBounds_toArray, List.set_cons_zero, List.set_cons_succ]
  refine held_take 2 (some 24) (v := ?_) rfl rfl (by kernel_rfl) (by kernel_rfl) (by kernel_rfl) (fun _ _ _ h => h) (Or.inl ⟨by rfl, ?_⟩) hHeld ?_
  rotate_left
  · (intro w' hSw; clear hSw; go_simp; try with_reducible rfl)
  try simp only [Act.put, List.setIfInBounds_toArray, List.set_cons_zero, List.set_cons_succ]
  refine held_take 3 (some 25) (v := ?_) rfl rfl (by kernel_rfl) (by kernel_rfl) (by kernel_rfl) (fun _ _ _ h => h) (Or.inl ⟨by rfl, ?_⟩) hHeld ?_
  rotate_left
  · (intro w' hSw; have pf := (hSw.cell (p := ⟨gi, 1, none⟩) HM_gi.out).trans HC1.out; clear hSw; go_simp; try with_reducible rfl)
  try simp only [Act.put, List.setIfInBounds_toArray, List.set_cons_zero, List.set_cons_succ]
  refine held_take 4 (some 26) (v := ?_) rfl rfl (by kernel_rfl) (by kernel_rfl) (by kernel_rfl) (fun _ _ _ h => h) (Or.inl ⟨by rfl, ?_⟩) hHeld ?_
  rotate_left
  · (intro w' hSw; clear hSw; go_simp; try with_reducible rfl)
  try simp only [Act.put, List.setIfInBounds_toArray, List.set_cons_zero, List.set_cons_succ]
  refine held_take 5 (some 27) (v := .agg (k.sum.map (Value.int .u8)).toArray) rfl rfl (by kernel_rfl) (by kernel_rfl) (by kernel_rfl) (fun _ _ _ h => h) (yieldsIf_load_mid (by rfl) 62 _ rfl g4 (0) rfl (k.sum.map (Value.int .u8)) _ (fun w' h => rangeAt_block HS4.out (h.block g4 HM_g4.out)) Tryz.underlying62 rfl HSS.out) hHeld ?_
  try simp only [Act.put, List.setIfInBounds_toArray, List.set_cons_zero, List.set_cons_succ]
  refine held_take 6 (some 28) (v := .slice A8 k.n c8) rfl rfl (by kernel_rfl) (by kernel_rfl) (by kernel_rfl) (fun _ _ _ h => h) (yields_val (by go_simp) (fun W h => exec_lkp _ _ _ _ rfl (.map (some gt)) (sumV k.sum) (by go_simp) (by go_simp; try rfl) (HLT.out W h))) hHeld ?_
  try simp only [Act.put, List.setIfInBounds_toArray, List.set_cons_zero, List.set_cons_succ]
  refine held_take 7 (some 8) (v := ?_) rfl rfl (by kernel_rfl) (by kernel_rfl) (by kernel_rfl) (fun _ _ _ h => h) (Or.inl ⟨by rfl, ?_⟩) hHeld ?_
  rotate_left
  · (intro w' hSw; clear hSw; go_simp; try with_reducible rfl)
  try simp only [Act.put, List.setIfInBounds_toArray, List.set_cons_zero, List.set_cons_succ]
  refine wpAnyH_done (by kernel_rfl) ?_ _
  --]5
  have HB45 := Lib.hid (show Below w4.heap.size w4 w4.drew from (Below.refl _ _).drew)
  clear hHeld
  generalize w4.drew = w5 at *
  have HI5 := Lib.hid (HI4.out.below HB45.out)
  have HBS := Lib.hid (BinSearch_any A8 k.n c8 w5 (by omega) (HI8.out.below HB45.out))
  have HR45 := Lib.hid ((HB45.out.block g4 HM_g4.out).trans HR44.out)
  have HC32 := Lib.hid (show w5.cell? ⟨g4, 32, none⟩ = some (.int .u32 k.n) from row_at HR45.out (by exact Ky.cells_32 HKO.out))
  have c32 := HC32.out
  go_simp
  go_wp2_with fail
  refine HBS.out.mono ?_
  rintro e w6 ⟨rfl, rfl⟩
  clear HBS
  go_upto_region 7 with (fail)
  have HT_gi := Lib.hid (row_lt HI5.out.row)
  have HT_g4 := Lib.hid (row_lt HR45.out)
  have hob : ∀ x, (twO (lkp T k.sum)).ownBlock = some x → ∃ y ∈ T, y.2.1 = x := fun x hx => by
    cases hl : lkp T k.sum with
    | none => rw [hl] at hx; cases hx
    | some t0 => rw [hl] at hx; exact ⟨(k.sum, t0), lkp_some_mem hl, by injection hx⟩
  have HOB := Lib.hid hob
  have HNT_gi := Lib.hid (show ¬ (gi = gt ∨ (twO (lkp T k.sum)).ownBlock = some gi) from fun hx => by
    rcases hx with hx | hx
    · exact HNE.out.it hx
    · obtain ⟨y, hy, e⟩ := hob _ hx
      exact (HNE.out.t4 y hy).1 e)
  have HNT_g4 := Lib.hid (show ¬ (g4 = gt ∨ (twO (lkp T k.sum)).ownBlock = some g4) from fun hx => by
    rcases hx with hx | hx
    · exact (HNE45.out gt (by simp [ixB])).1 hx
    · obtain ⟨y, hy, e⟩ := hob _ hx
      exact (HNE45.out _ (ixB_tw hy)).1 e.symm)
  have HC1 := Lib.hid (show w5.cell? ⟨gi, 1, none⟩ = some (.map (some gt)) by rw [cell_of_row _ _ _ _ _ _ HI5.out.row]; rfl)
  have HS4 := Lib.hid (show w5.rangeAt g4 0 (k.sum.map (Value.int .u8)) from fun j v hj => row_at HR45.out (by rw [Nat.zero_add, Ky.cells, List.getElem?_append_left (by rcases Nat.lt_or_ge j (k.sum.map (Value.int .u8)).length with h | h; exact h; rw [List.getElem?_eq_none h] at hj; cases hj)]; exact hj))
  have HBS := Lib.hid (fun (W : World) => build_one (P := Tryz.prog) (z := .int .u32 0) (vs := [.int .u32 k.n]) (s := 1) Tryz.underlying177 (fun _ => by kernel_rfl) (fun W => by obtain ⟨i0, hi, hz0, _, _⟩ := info_parts Tryz.infoU; exact zero_run hi hz0 W) rfl (by decide) (by decide) (.int .u32 k.n) rfl W)
  have hb6 : Below w5.heap.size w5 (w5.drew.alloc (.cells #[.int .u32 k.n] 27)) := (Below.refl _ _).drew.alloc (Nat.le_refl _) _
  have HI6 := Lib.hid (HI5.out.below hb6)
  have hown6 := HI6.out.own k.sum
  rw [← HN.out, HV8.out] at hown6
  have HIN := Lib.hid (Insert_any 0 _ A8 k.n c8 (w5.drew.alloc (.cells #[.int .u32 k.n] 27)) rfl hn1 (Nat.zero_le _) hown6 w5.drew.heap.size 1 (row_at (heap_alloc_last w5.drew (.cells #[.int .u32 k.n] 27)) rfl))
  have HPT := Lib.hid (show ∀ (w7 : World) (v7 : Value), OwnU w7 0 v7 (k.n + 1) → (w5.drew.alloc (.cells #[.int .u32 k.n] 27)).grownBy w7 (Value.ownBlock (.slice A8 k.n c8)) → (v7.ownBlock = Value.ownBlock (.slice A8 k.n c8) ∨ v7.ownBlock = some (w5.drew.alloc (.cells #[.int .u32 k.n] 27)).heap.size) →
      ∃ w8 t, v7 = twV t ∧ t.2.1 = k.n + 1 ∧ (Instr.mapUpdate 152 (.map (some gt)) (sumV k.sum) v7).run Tryz.prog w7 = .ok () w8 ∧ Chg (fun x => x = gt ∨ (twO (lkp T k.sum)).ownBlock = some x) w5 w8 ∧ w7.grownBy w8 (some gt) ∧ Ir w8 gi gp gt gs (L ++ [(k, p)]) (upd T k.sum t) S ∧ (t.1 ∈ T.map (·.2.1) ∨ w5.heap.size ≤ t.1) from fun w7 v7 h1 h2 h3 => by
    obtain ⟨w8, t, a1, a2, a3, a4, a5, a6, a7⟩ := HI6.out.putTw (d := k.sum) HSU.out (w1 := w7) (v := v7) (by rw [← HN.out]; exact h1) (by rw [HV8.out]; exact h2) (by rw [HV8.out]; exact h3.imp id (fun h => ⟨_, h, Nat.le_refl _⟩))
    exact ⟨w8, t, a1, by rw [a2, ← HN.out], a3, (Chg.belowAt hb6).trans a4, a5, a6, a7.imp id (fun h => Nat.le_trans hb6.size h)⟩)
  have HCH := Lib.hid (show ∀ (w7 : World), (w5.drew.alloc (.cells #[.int .u32 k.n] 27)).grownBy w7 (Value.ownBlock (.slice A8 k.n c8)) → Chg (fun x => x = gt ∨ (twO (lkp T k.sum)).ownBlock = some x) w5 w7 from fun w7 h2 => (Chg.belowAt hb6).trans2 (Chg.of h2) (fun x _ hx => .inr (by rw [HV8.out]; exact hx.symm)))
  clear hb6 hown6 hob c32 HI8 HV8
  --[7
  refine wp_region_held_drew (S := fun w' => Chg (fun x => x = gt ∨ (twO (lkp T k.sum)).ownBlock = some x) w5 w') (by kernel_rfl) ((Chg.refl _ _).drewN 1) (fun hHeld => ?_)
  refine held_take 0 (some 36) (v := ?_) rfl rfl (by kernel_rfl) (by kernel_rfl) (by kernel_rfl) (fun _ _ _ h => h) (Or.inl ⟨by rfl, ?_⟩) hHeld ?_
  rotate_left
  · (intro w' hSw; clear hSw; go_simp; try with_reducible rfl)
  try simp only [Act.put, List.setIfInBounds_toArray, List.set_cons_zero, List.set_cons_succ]
  refine held_take 1 (some 37) (v := ?_) rfl rfl (by kernel_rfl) (by kernel_rfl) (by kernel_rfl) (fun _ _ _ h => h) (Or.inl ⟨by rfl, ?_⟩) hHeld ?_
  rotate_left
  · (intro w' hSw; clear hSw; go_simp; try with_reducible rfl)
  try simp only [Act.put, List.setIfInBounds_toArray, List.set_cons_zero, List.set_cons_succ]
  refine held_take 2 (some 38) (v := ?_) rfl rfl (by kernel_rfl) (by kernel_rfl) (by kernel_rfl) (fun _ _ _ h => h) (Or.inl ⟨by rfl, ?_⟩) hHeld ?_
  rotate_left
  · (intro w' hSw; clear hSw; go_simp; try with_reducible rfl)
  try simp only [Act.put, List.setIfInBounds_toArray, List.set_cons_zero, List.set_cons_succ]
  refine held_take 3 (some 39) (v := ?_) rfl rfl (by kernel_rfl) (by kernel_rfl) (by kernel_rfl) (fun _ _ _ h => h) (Or.inl ⟨by rfl, ?_⟩) hHeld ?_
  rotate_left
  · (intro w' hSw; have pf := (hSw.cell (p := ⟨gi, 1, none⟩) HT_gi.out HNT_gi.out).trans HC1.out; clear hSw; go_simp; try with_reducible rfl)
  try simp only [Act.put, List.setIfInBounds_toArray, List.set_cons_zero, List.set_cons_succ]
  refine held_take 4 (some 40) (v := ?_) rfl rfl (by kernel_rfl) (by kernel_rfl) (by kernel_rfl) (fun _ _ _ h => h) (Or.inl ⟨by rfl, ?_⟩) hHeld ?_
  rotate_left
  · (intro w' hSw; clear hSw; go_simp; try with_reducible rfl)
  try simp only [Act.put, List.setIfInBounds_toArray, List.set_cons_zero, List.set_cons_succ]
  refine held_take 5 (some 41) (v := .agg (k.sum.map (Value.int .u8)).toArray) rfl rfl (by kernel_rfl) (by kernel_rfl) (by kernel_rfl) (fun _ _ _ h => h) (yieldsIf_load_mid (by rfl) 62 _ rfl g4 (0) rfl (k.sum.map (Value.int .u8)) _ (fun w' h => rangeAt_block HS4.out (h.block g4 HT_g4.out HNT_g4.out)) Tryz.underlying62 rfl HSS.out) hHeld ?_
  try simp only [Act.put, List.setIfInBounds_toArray, List.set_cons_zero, List.set_cons_succ]
  refine held_take 6 (some 42) (v := ?_) rfl rfl (by kernel_rfl) (by kernel_rfl) (by kernel_rfl) (fun _ _ _ h => h) (Or.inl ⟨by rfl, ?_⟩) hHeld ?_
  rotate_left
  · (intro w' hSw; clear hSw; go_simp; try with_reducible rfl)
  try simp only [Act.put, List.setIfInBounds_toArray, List.set_cons_zero, List.set_cons_succ]
  refine held_take 7 (some 43) (v := ?_) rfl rfl (by kernel_rfl) (by kernel_rfl) (by kernel_rfl) (fun _ _ _ h => h) (Or.inl ⟨by rfl, ?_⟩) hHeld ?_
  rotate_left
  · (intro w' hSw; clear hSw; go_simp; try with_reducible rfl)
  try simp only [Act.put, List.setIfInBounds_toArray, List.set_cons_zero, List.set_cons_succ]
  refine held_take 8 (some 44) (v := ?_) rfl rfl (by kernel_rfl) (by kernel_rfl) (by kernel_rfl) (fun _ _ _ h => h) (Or.inl ⟨by rfl, ?_⟩) hHeld ?_
  rotate_left
  · (intro w' hSw; clear hSw; go_simp; try with_reducible rfl)
  try simp only [Act.put, List.setIfInBounds_toArray, List.set_cons_zero, List.set_cons_succ]
  refine held_take 9 (some 45) (v := ?_) rfl rfl (by kernel_rfl) (by kernel_rfl) (by kernel_rfl) (fun _ _ _ h => h) (Or.inl ⟨by rfl, ?_⟩) hHeld ?_
  rotate_left
  · (intro w' hSw; have pf := (hSw.cell (p := ⟨g4, 32, none⟩) HT_g4.out HNT_g4.out).trans HC32.out; clear hSw; go_simp; try with_reducible rfl)
  try simp only [Act.put, List.setIfInBounds_toArray, List.set_cons_zero, List.set_cons_succ]
  refine wpAnyH_ready (rs := [10]) (by kernel_rfl) (by simp) ?_
  refine AllReadyH.cons rfl (fun K hKK => ?_) AllReadyH.nil
  refine step_val rfl (exec_buildSlice _ _ _ rfl #[(0, .int .u32 k.n)] (by go_simp) (HBS.out w5.drew)) ?_
  refine hKK.out _ _ (((Chg.refl _ _).drewN 1).alloc _) (fun hHeld => ?_)
  clear hKK K
  try simp only [Act.put, List.setIfInBounds_toArray, List.set_cons_zero, List.set_cons_succ]
  refine wpAnyH_ready (rs := [11]) (by kernel_rfl) (by simp) ?_
  refine AllReadyH.cons rfl (fun K hKK => ?_) AllReadyH.nil
  go_simp
  go_at_call 118
  refine HIN.out.mono ?_
  rintro e w7 ⟨v7, rfl, ho7, hg7, ha7⟩
  obtain ⟨w8, t, rfl, ht, hrun, hch8, hg8, hir, hta⟩ := HPT.out w7 v7 ho7 hg7 ha7
  have hch7 := HCH.out w7 hg7
  refine hKK.out _ _ hch7 (fun hHeld => ?_)
  clear hKK K
  try simp only [Act.put, List.setIfInBounds_toArray, List.set_cons_zero, List.set_cons_succ]
  refine wpAnyH_ready (rs := [12]) (by kernel_rfl) (by simp) ?_
  refine AllReadyH.cons rfl (fun K hKK => ?_) AllReadyH.nil
  refine step_skip rfl (exec_upd _ (.tmp 39) (.tmp 41) (.tmp 47) rfl (.map (some gt)) (sumV k.sum) (twV t) (by go_simp) (by go_simp; try rfl) (by go_simp; try rfl) hrun) ?_
  refine hKK.out _ _ hch8 (fun hHeld => ?_)
  clear hKK K
  try simp only [Act.put, List.setIfInBounds_toArray, List.set_cons_zero, List.set_cons_succ]
  refine wpAnyH_done (by kernel_rfl) ?_ _
  --]7
  have HI8 := Lib.hid hir
  have HTA := Lib.hid (And.intro ht hta)
  have HB28 := Lib.hid (show Chg (fun x => x ∈ ixB gi gp gt gs T S) w w8 from (HB24.out.below0 HB45.out).trans2 hch8 (fun x _ hx => by
    rcases hx with hx | hx
    · rw [hx]; simp [ixB]
    · obtain ⟨y, hy, e⟩ := HOB.out x hx
      rw [← e]; exact ixB_tw hy))
  have HR48 := Lib.hid ((hch8.block g4 HT_g4.out HNT_g4.out).trans HR45.out)
  have HR55 := Lib.hid ((HB45.out.block g5 (row_lt HR54.out)).trans HR54.out)
  have HR58 := Lib.hid ((hch8.block g5 (row_lt HR55.out) (fun hx => by
    rcases hx with hx | hx
    · exact (HNE45.out gt (by simp [ixB])).2 hx
    · obtain ⟨y, hy, e⟩ := HOB.out _ hx
      exact (HNE45.out _ (ixB_tw hy)).2 e.symm)).trans HR55.out)
  have HS5 := Lib.hid (show w.heap.size ≤ w5.heap.size from Nat.le_trans HB24.out.size HB45.out.size)
  clear hHeld hch7 hch8 hg8 hir hrun hg7 ho7 ha7 hta ht
  clear HT_gi HT_g4 HNT_gi HNT_g4 HC1 HS4 HBS HIN HPT HCH HOB HR45 HR55 HC32 HLT HR44 HR54
  have HV_gi := Lib.hid (row_lt HI8.out.row)
  have HV_g4 := Lib.hid (row_lt HR48.out)
  have HV_g5 := Lib.hid (row_lt HR58.out)
  have HC2 := Lib.hid (show w8.cell? ⟨gi, 2, none⟩ = some (.map (some gs)) by rw [cell_of_row _ _ _ _ _ _ HI8.out.row]; rfl)
  have HCP := Lib.hid (show w8.cell? ⟨g5, 0, none⟩ = some (.int .i64 p.1) by rw [cell_of_row _ _ _ _ _ _ HR58.out]; rfl)
  go_simp
  go_upto_region 8 with (fail)
  cases hSc : lkp S p.1 with
  | none =>
    have HSc := Lib.hid hSc
    have HLS := Lib.hid (show ∀ W, Below w8.heap.size w8 W → (Instr.lookup 153 (.map (some gs)) (intV p.1) false).run Tryz.prog W = .ok (.map none) W from fun W hW => by
      rw [(HI8.out.below hW).lkpS HP.out.1, hSc]; rfl)
    have HEQ := Lib.hid (show ∀ W, (binOp .eql 159 (.map none) (.map none)).run Tryz.prog W = .ok (.bool true) W from fun W => run_eql_map_nil W 159 _ _ none Tryz.underlying159)
    --[8n
    refine wp_region_held_drew (S := fun w' => Below w8.heap.size w8 w') (by kernel_rfl) ((Below.refl _ _).drew) (fun hHeld => ?_)
    refine held_take 0 (some 48) (v := ?_) rfl rfl (by kernel_rfl) (by kernel_rfl) (by kernel_rfl) (fun _ _ _ h => h) (Or.inl ⟨by rfl, ?_⟩) hHeld ?_
    rotate_left
    · (intro w' hSw; clear hSw; go_simp; try with_reducible rfl)
    try simp only [Act.put, List.setIfInBounds_toArray, List.set_cons_zero, List.set_cons_succ]
    refine held_take 1 (some 49) (v := ?_) rfl rfl (by kernel_rfl) (by kernel_rfl) (by kernel_rfl) (fun _ _ _ h => h) (Or.inl ⟨by rfl, ?_⟩) hHeld ?_
    rotate_left
    · (intro w' hSw; clear hSw; go_simp; try with_reducible rfl)
    try simp only [Act.put, List.setIfInBounds_toArray, List.set_cons_zero, List.set_cons_succ]
    refine held_take 2 (some 50) (v := ?_) rfl rfl (by kernel_rfl) (by kernel_rfl) (by kernel_rfl) (fun _ _ _ h => h) (Or.inl ⟨by rfl, ?_⟩) hHeld ?_
    rotate_left
    · (intro w' hSw; clear hSw; go_simp; try with_reducible rfl)
    try simp only [Act.put, List.setIfInBounds_toArray, List.set_cons_zero, List.set_cons_succ]
    refine held_take 3 (some 51) (v := ?_) rfl rfl (by kernel_rfl) (by kernel_rfl) (by kernel_rfl) (fun _ _ _ h => h) (Or.inl ⟨by rfl, ?_⟩) hHeld ?_
    rotate_left
    · (intro w' hSw; have pf := (hSw.cell (p := ⟨gi, 2, none⟩) HV_gi.out).trans HC2.out; clear hSw; go_simp; try with_reducible rfl)
    try simp only [Act.put, List.setIfInBounds_toArray, List.set_cons_zero, List.set_cons_succ]
    refine held_take 4 (some 52) (v := ?_) rfl rfl (by kernel_rfl) (by kernel_rfl) (by kernel_rfl) (fun _ _ _ h => h) (Or.inl ⟨by rfl, ?_⟩) hHeld ?_
    rotate_left
    · (intro w' hSw; clear hSw; go_simp; try with_reducible rfl)
    try simp only [Act.put, List.setIfInBounds_toArray, List.set_cons_zero, List.set_cons_succ]
    refine held_take 5 (some 53) (v := ?_) rfl rfl (by kernel_rfl) (by kernel_rfl) (by kernel_rfl) (fun _ _ _ h => h) (Or.inl ⟨by rfl, ?_⟩) hHeld ?_
    rotate_left
    · (intro w' hSw; have pf := (hSw.cell (p := ⟨g5, 0, none⟩) HV_g5.out).trans HCP.out; clear hSw; go_simp; try with_reducible rfl)
    try simp only [Act.put, List.setIfInBounds_toArray, List.set_cons_zero, List.set_cons_succ]
    refine held_take 6 (some 54) (v := .map none) rfl rfl (by kernel_rfl) (by kernel_rfl) (by kernel_rfl) (fun _ _ _ h => h) (yields_val (by go_simp) (fun W h => exec_lkp _ _ _ _ rfl (.map (some gs)) (intV p.1) (by go_simp) (by go_simp; try rfl) (HLS.out W h))) hHeld ?_
    try simp only [Act.put, List.setIfInBounds_toArray, List.set_cons_zero, List.set_cons_succ]
    refine held_take 7 (some 55) (v := ?_) rfl rfl (by kernel_rfl) (by kernel_rfl) (by kernel_rfl) (fun _ _ _ h => h) (Or.inl ⟨by rfl, ?_⟩) hHeld ?_
    rotate_left
    · (intro w' hSw; clear hSw; go_simp; simp only [HEQ.out]; go_simp; try with_reducible rfl)
    try simp only [Act.put, List.setIfInBounds_toArray, List.set_cons_zero, List.set_cons_succ]
    refine wpAnyH_done (by kernel_rfl) ?_ _
    --]8n
    clear hHeld
    have HB89 := Lib.hid (show Below w8.heap.size w8 w8.drew from (Below.refl _ _).drew)
    generalize w8.drew = w9 at *
    have HI9 := Lib.hid (HI8.out.below HB89.out)
    have HR49 := Lib.hid ((HB89.out.block g4 HV_g4.out).trans HR48.out)
    have HR59 := Lib.hid ((HB89.out.block g5 HV_g5.out).trans HR58.out)
    clear HC2 HCP HEQ HLS
    have HX_gi := Lib.hid (row_lt HI9.out.row)
    have HX_g4 := Lib.hid (row_lt HR49.out)
    have HX_g5 := Lib.hid (row_lt HR59.out)
    have HNX_gi := Lib.hid HNE.out.is_
    have HNX_g4 := Lib.hid (HNE45.out gs (by simp [ixB])).1
    have HNX_g5 := Lib.hid (HNE45.out gs (by simp [ixB])).2
    have HC2 := Lib.hid (show w9.cell? ⟨gi, 2, none⟩ = some (.map (some gs)) by rw [cell_of_row _ _ _ _ _ _ HI9.out.row]; rfl)
    have HCP := Lib.hid (show w9.cell? ⟨g5, 0, none⟩ = some (.int .i64 p.1) by rw [cell_of_row _ _ _ _ _ _ HR59.out]; rfl)
    have HMK := Lib.hid (run_make0 (P := Tryz.prog) Tryz.underlying159)
    have HNS := Lib.hid ((HI9.out.below (Below.refl _ _).drew).newSh HP.out.1 hSc ((Below.refl w9.drew.heap.size w9.drew).alloc (Nat.le_refl _) (.map #[] 0)) (MapAt.made w9.drew) (Nat.le_refl _))
    go_simp
    go_upto_region 9 with (fail)
    --[9
    refine wp_region_held_drew (S := fun w' => Chg (fun x => x = gs) w9 w') (by kernel_rfl) ((Chg.refl _ _).drewN 1) (fun hHeld => ?_)
    refine held_take 0 (some 56) (v := ?_) rfl rfl (by kernel_rfl) (by kernel_rfl) (by kernel_rfl) (fun _ _ _ h => h) (Or.inl ⟨by rfl, ?_⟩) hHeld ?_
    rotate_left
    · (intro w' hSw; clear hSw; go_simp; try with_reducible rfl)
    try simp only [Act.put, List.setIfInBounds_toArray, List.set_cons_zero, List.set_cons_succ]
    refine held_take 1 (some 57) (v := ?_) rfl rfl (by kernel_rfl) (by kernel_rfl) (by kernel_rfl) (fun _ _ _ h => h) (Or.inl ⟨by rfl, ?_⟩) hHeld ?_
    rotate_left
    · (intro w' hSw; clear hSw; go_simp; try with_reducible rfl)
    try simp only [Act.put, List.setIfInBounds_toArray, List.set_cons_zero, List.set_cons_succ]
    refine held_take 2 (some 58) (v := ?_) rfl rfl (by kernel_rfl) (by kernel_rfl) (by kernel_rfl) (fun _ _ _ h => h) (Or.inl ⟨by rfl, ?_⟩) hHeld ?_
    rotate_left
    · (intro w' hSw; clear hSw; go_simp; try with_reducible rfl)
    try simp only [Act.put, List.setIfInBounds_toArray, List.set_cons_zero, List.set_cons_succ]
    refine held_take 3 (some 59) (v := ?_) rfl rfl (by kernel_rfl) (by kernel_rfl) (by kernel_rfl) (fun _ _ _ h => h) (Or.inl ⟨by rfl, ?_⟩) hHeld ?_
    rotate_left
    · (intro w' hSw; have pf := (hSw.cell (p := ⟨gi, 2, none⟩) HX_gi.out HNX_gi.out).trans HC2.out; clear hSw; go_simp; try with_reducible rfl)
    try simp only [Act.put, List.setIfInBounds_toArray, List.set_cons_zero, List.set_cons_succ]
    refine held_take 4 (some 60) (v := ?_) rfl rfl (by kernel_rfl) (by kernel_rfl) (by kernel_rfl) (fun _ _ _ h => h) (Or.inl ⟨by rfl, ?_⟩) hHeld ?_
    rotate_left
    · (intro w' hSw; clear hSw; go_simp; try with_reducible rfl)
    try simp only [Act.put, List.setIfInBounds_toArray, List.set_cons_zero, List.set_cons_succ]
    refine held_take 5 (some 61) (v := ?_) rfl rfl (by kernel_rfl) (by kernel_rfl) (by kernel_rfl) (fun _ _ _ h => h) (Or.inl ⟨by rfl, ?_⟩) hHeld ?_
    rotate_left
    · (intro w' hSw; have pf := (hSw.cell (p := ⟨g5, 0, none⟩) HX_g5.out HNX_g5.out).trans HCP.out; clear hSw; go_simp; try with_reducible rfl)
    try simp only [Act.put, List.setIfInBounds_toArray, List.set_cons_zero, List.set_cons_succ]
    refine wpAnyH_ready (rs := [6]) (by kernel_rfl) (by simp) ?_
    refine AllReadyH.cons rfl (fun K hKK => ?_) AllReadyH.nil
    go_simp
    simp only [HMK.out]
    go_simp
    refine hKK.out _ _ (((Chg.refl _ _).drewN 1).alloc _) (fun hHeld => ?_)
    clear hKK K
    try simp only [Act.put, List.setIfInBounds_toArray, List.set_cons_zero, List.set_cons_succ]
    refine wpAnyH_ready (rs := [7]) (by kernel_rfl) (by simp) ?_
    refine AllReadyH.cons rfl (fun K hKK => ?_) AllReadyH.nil
    obtain ⟨w10, hrun, hgr, hir⟩ := HNS.out
    refine step_skip rfl (exec_upd _ (.tmp 59) (.tmp 61) (.tmp 62) rfl (.map (some gs)) (intV p.1) (.map (some w9.drew.heap.size)) (by go_simp) (by go_simp; try rfl) (by go_simp; try rfl) hrun) ?_
    refine hKK.out _ _ ((((Chg.refl _ _).drewN 1).alloc _).trans2 (Chg.of hgr) (fun x _ e => by injection e)) (fun hHeld => ?_)
    clear hKK K
    try simp only [Act.put, List.setIfInBounds_toArray, List.set_cons_zero, List.set_cons_succ]
    refine wpAnyH_done (by kernel_rfl) ?_ _
    --]9
    obtain ⟨gm, hgm⟩ : ∃ g, w9.drew.heap.size = g := ⟨_, rfl⟩
    have hgm9 : w9.heap.size = gm := hgm
    rw [hgm] at hir hrun
    have HB10 := Lib.hid (show Chg (fun x => x ∈ ixB gi gp gt gs T S) w w10 from (HB28.out.below0 HB89.out).trans2 hHeld (fun x _ hx => by rw [hx]; simp [ixB]))
    have hs9 : w.heap.size ≤ gm := by have := (HB28.out.below0 HB89.out).size; omega
    have HI10 := Lib.hid hir
    have HR410 := Lib.hid ((hHeld.block g4 HX_g4.out HNX_g4.out).trans HR49.out)
    have HR510 := Lib.hid ((hHeld.block g5 HX_g5.out HNX_g5.out).trans HR59.out)
    have HNY_gi := Lib.hid (show ¬ gi = gm from fun e => by have := HX_gi.out; omega)
    have HNY_g4 := Lib.hid (show ¬ g4 = gm from fun e => by have := HX_g4.out; omega)
    have HNY_g5 := Lib.hid (show ¬ g5 = gm from fun e => by have := HX_g5.out; omega)
    have HNY_gs := Lib.hid (show ¬ gs = gm from fun e => by have := HI9.out.sh.lt; omega)
    clear hHeld hrun hgr hir HC2 HCP HNS HMK
    have HY_gi := Lib.hid (row_lt HI10.out.row)
    have HY_g4 := Lib.hid (row_lt HR410.out)
    have HY_g5 := Lib.hid (row_lt HR510.out)
    have HC2 := Lib.hid (show w10.cell? ⟨gi, 2, none⟩ = some (.map (some gs)) by rw [cell_of_row _ _ _ _ _ _ HI10.out.row]; rfl)
    have HCP := Lib.hid (show w10.cell? ⟨g5, 0, none⟩ = some (.int .i64 p.1) by rw [cell_of_row _ _ _ _ _ _ HR510.out]; rfl)
    have HK4 := Lib.hid (show w10.rangeAt g4 0 k.cells from range_row HR410.out)
    have hS1 : lkp (S ++ [(p.1, (gm, ([] : List Ky)))]) p.1 = some (gm, []) := by rw [lkp_append, hSc]; simp [lkp]
    have HLY := Lib.hid (show ∀ W, Chg (fun x => x = gm) w10 W → (Instr.lookup 153 (.map (some gs)) (intV p.1) false).run Tryz.prog W = .ok (.map (some gm)) W from fun W hW => by
      rw [run_lkp keyI Tryz.underlying153 (HI10.out.sh.chg hW HNY_gs.out) p.1 HP.out.1 (.map none) (zeroSh W) false]
      unfold shRows
      rw [lkp_map, hS1]
      rfl)
    have HPS := Lib.hid ((HI10.out.below (Below.refl _ _).drew).putSh hS1 HKO.out (by simp))
    rw [upd_snoc hSc] at HPS
    clear hgm
    go_simp
    go_upto_region 10 with (fail)
    --[10n
    refine wp_region_held_drew (S := fun w' => Chg (fun x => x = gm) w10 w') (by kernel_rfl) ((Chg.refl _ _).drewN 1) (fun hHeld => ?_)
    refine held_take 0 (some 63) (v := ?_) rfl rfl (by kernel_rfl) (by kernel_rfl) (by kernel_rfl) (fun _ _ _ h => h) (Or.inl ⟨by rfl, ?_⟩) hHeld ?_
    rotate_left
    · (intro w' hSw; clear hSw; go_simp; try with_reducible rfl)
    try simp only [Act.put, List.setIfInBounds_toArray, List.set_cons_zero, List.set_cons_succ]
    refine held_take 1 (some 64) (v := ?_) rfl rfl (by kernel_rfl) (by kernel_rfl) (by kernel_rfl) (fun _ _ _ h => h) (Or.inl ⟨by rfl, ?_⟩) hHeld ?_
    rotate_left
    · (intro w' hSw; clear hSw; go_simp; try with_reducible rfl)
    try simp only [Act.put, List.setIfInBounds_toArray, List.set_cons_zero, List.set_cons_succ]
    refine held_take 2 (some 65) (v := ?_) rfl rfl (by kernel_rfl) (by kernel_rfl) (by kernel_rfl) (fun _ _ _ h => h) (Or.inl ⟨by rfl, ?_⟩) hHeld ?_
    rotate_left
    · (intro w' hSw; clear hSw; go_simp; try with_reducible rfl)
    try simp only [Act.put, List.setIfInBounds_toArray, List.set_cons_zero, List.set_cons_succ]
    refine held_take 3 (some 66) (v := ?_) rfl rfl (by kernel_rfl) (by kernel_rfl) (by kernel_rfl) (fun _ _ _ h => h) (Or.inl ⟨by rfl, ?_⟩) hHeld ?_
    rotate_left
    · (intro w' hSw; have pf := (hSw.cell (p := ⟨gi, 2, none⟩) HY_gi.out HNY_gi.out).trans HC2.out; clear hSw; go_simp; try with_reducible rfl)
    try simp only [Act.put, List.setIfInBounds_toArray, List.set_cons_zero, List.set_cons_succ]
    refine held_take 4 (some 67) (v := ?_) rfl rfl (by kernel_rfl) (by kernel_rfl) (by kernel_rfl) (fun _ _ _ h => h) (Or.inl ⟨by rfl, ?_⟩) hHeld ?_
    rotate_left
    · (intro w' hSw; clear hSw; go_simp; try with_reducible rfl)
    try simp only [Act.put, List.setIfInBounds_toArray, List.set_cons_zero, List.set_cons_succ]
    refine held_take 5 (some 68) (v := ?_) rfl rfl (by kernel_rfl) (by kernel_rfl) (by kernel_rfl) (fun _ _ _ h => h) (Or.inl ⟨by rfl, ?_⟩) hHeld ?_
    rotate_left
    · (intro w' hSw; have pf := (hSw.cell (p := ⟨g5, 0, none⟩) HY_g5.out HNY_g5.out).trans HCP.out; clear hSw; go_simp; try with_reducible rfl)
    try simp only [Act.put, List.setIfInBounds_toArray, List.set_cons_zero, List.set_cons_succ]
    refine held_take 6 (some 69) (v := .map (some gm)) rfl rfl (by kernel_rfl) (by kernel_rfl) (by kernel_rfl) (fun _ _ _ h => h) (yields_val (by go_simp) (fun W h => exec_lkp _ _ _ _ rfl (.map (some gs)) (intV p.1) (by go_simp) (by go_simp; try rfl) (HLY.out W h))) hHeld ?_
    try simp only [Act.put, List.setIfInBounds_toArray, List.set_cons_zero, List.set_cons_succ]
    refine held_take 7 (some 70) (v := .agg (k.cells).toArray) rfl rfl (by kernel_rfl) (by kernel_rfl) (by kernel_rfl) (fun _ _ _ h => h) (yieldsIf_load_mid (by rfl) 64 _ rfl g4 (0) rfl (k.cells) _ (fun w' h => rangeAt_block HK4.out (h.block g4 HY_g4.out HNY_g4.out)) Tryz.underlying64 rfl (sizeK HKO.out)) hHeld ?_
    try simp only [Act.put, List.setIfInBounds_toArray, List.set_cons_zero, List.set_cons_succ]
    refine wpAnyH_ready (rs := [8]) (by kernel_rfl) (by simp) ?_
    refine AllReadyH.cons rfl (fun K hKK => ?_) AllReadyH.nil
    obtain ⟨w11, hrun, hgr, hir⟩ := HPS.out
    refine step_skip rfl (exec_upd _ (.tmp 69) (.tmp 70) (.const (.bool true)) rfl (.map (some gm)) (.agg k.cells.toArray) (.bool true) (by go_simp) (by go_simp; try rfl) (by go_simp; try rfl) hrun) ?_
    refine hKK.out _ _ (((Chg.refl _ _).drewN 1).trans2 (Chg.of hgr) (fun x _ e => by injection e)) (fun hHeld => ?_)
    clear hKK K
    try simp only [Act.put, List.setIfInBounds_toArray, List.set_cons_zero, List.set_cons_succ]
    refine wpAnyH_done (by kernel_rfl) ?_ _
    --]10n
    have HFC := Lib.hid (show Chg (fun x => x ∈ ixB gi gp gt gs T S) w w11 from HB10.out.trans2 hHeld (fun x hx1 hx => by omega))
    have HIF := Lib.hid hir
    clear hHeld hir hrun hgr
    go_simp
    go_wp2_with fail
    go_ret
    exact ⟨rfl, HFC.out, t, gm, [], HTA.out.1, .inl ⟨hSc, rfl⟩, HIF.out, HTA.out.2.imp (fun h => by obtain ⟨y, hy, e⟩ := List.mem_map.1 h; rw [← e]; exact ixB_tw hy) (fun h => Nat.le_trans HS5.out h), .inr hs9⟩
  | some y =>
    obtain ⟨gm, ks⟩ := y
    have HSc := Lib.hid hSc
    have HLS := Lib.hid (show ∀ W, Below w8.heap.size w8 W → (Instr.lookup 153 (.map (some gs)) (intV p.1) false).run Tryz.prog W = .ok (.map (some gm)) W from fun W hW => by
      rw [(HI8.out.below hW).lkpS HP.out.1, hSc]; rfl)
    have HEQ := Lib.hid (show ∀ W, (binOp .eql 159 (.map (some gm)) (.map none)).run Tryz.prog W = .ok (.bool false) W from fun W => run_eql_map_nil W 159 _ _ (some gm) Tryz.underlying159)
    --[8s
    refine wp_region_held_drew (S := fun w' => Below w8.heap.size w8 w') (by kernel_rfl) ((Below.refl _ _).drew) (fun hHeld => ?_)
    refine held_take 0 (some 48) (v := ?_) rfl rfl (by kernel_rfl) (by kernel_rfl) (by kernel_rfl) (fun _ _ _ h => h) (Or.inl ⟨by rfl, ?_⟩) hHeld ?_
    rotate_left
    · (intro w' hSw; clear hSw; go_simp; try with_reducible rfl)
    try simp only [Act.put, List.setIfInBounds_toArray, List.set_cons_zero, List.set_cons_succ]
    refine held_take 1 (some 49) (v := ?_) rfl rfl (by kernel_rfl) (by kernel_rfl) (by kernel_rfl) (fun _ _ _ h => h) (Or.inl ⟨by rfl, ?_⟩) hHeld ?_
    rotate_left
    · (intro w' hSw; clear hSw; go_simp; try with_reducible rfl)
    try simp only [Act.put, List.setIfInBounds_toArray, List.set_cons_zero, List.set_cons_succ]
    refine held_take 2 (some 50) (v := ?_) rfl rfl (by kernel_rfl) (by kernel_rfl) (by kernel_rfl) (fun _ _ _ h => h) (Or.inl ⟨by rfl, ?_⟩) hHeld ?_
    rotate_left
    · (intro w' hSw; clear hSw; go_simp; try with_reducible rfl)
    try simp only [Act.put, List.setIfInBounds_toArray, List.set_cons_zero, List.set_cons_succ]
    refine held_take 3 (some 51) (v := ?_) rfl rfl (by kernel_rfl) (by kernel_rfl) (by kernel_rfl) (fun _ _ _ h => h) (Or.inl ⟨by rfl, ?_⟩) hHeld ?_
    rotate_left
    · (intro w' hSw; have pf := (hSw.cell (p := ⟨gi, 2, none⟩) HV_gi.out).trans HC2.out; clear hSw; go_simp; try with_reducible rfl)
    try simp only [Act.put, List.setIfInBounds_toArray, List.set_cons_zero, List.set_cons_succ]
    refine held_take 4 (some 52) (v := ?_) rfl rfl (by kernel_rfl) (by kernel_rfl) (by kernel_rfl) (fun _ _ _ h => h) (Or.inl ⟨by rfl, ?_⟩) hHeld ?_
    rotate_left
    · (intro w' hSw; clear hSw; go_simp; try with_reducible rfl)
    try simp only [Act.put, List.setIfInBounds_toArray, List.set_cons_zero, List.set_cons_succ]
    refine held_take 5 (some 53) (v := ?_) rfl rfl (by kernel_rfl) (by kernel_rfl) (by kernel_rfl) (fun _ _ _ h => h) (Or.inl ⟨by rfl, ?_⟩) hHeld ?_
    rotate_left
    · (intro w' hSw; have pf := (hSw.cell (p := ⟨g5, 0, none⟩) HV_g5.out).trans HCP.out; clear hSw; go_simp; try with_reducible rfl)
    try simp only [Act.put, List.setIfInBounds_toArray, List.set_cons_zero, List.set_cons_succ]
    refine held_take 6 (some 54) (v := .map (some gm)) rfl rfl (by kernel_rfl) (by kernel_rfl) (by kernel_rfl) (fun _ _ _ h => h) (yields_val (by go_simp) (fun W h => exec_lkp _ _ _ _ rfl (.map (some gs)) (intV p.1) (by go_simp) (by go_simp; try rfl) (HLS.out W h))) hHeld ?_
    try simp only [Act.put, List.setIfInBounds_toArray, List.set_cons_zero, List.set_cons_succ]
    refine held_take 7 (some 55) (v := ?_) rfl rfl (by kernel_rfl) (by kernel_rfl) (by kernel_rfl) (fun _ _ _ h => h) (Or.inl ⟨by rfl, ?_⟩) hHeld ?_
    rotate_left
    · (intro w' hSw; clear hSw; go_simp; simp only [HEQ.out]; go_simp; try with_reducible rfl)
    try simp only [Act.put, List.setIfInBounds_toArray, List.set_cons_zero, List.set_cons_succ]
    refine wpAnyH_done (by kernel_rfl) ?_ _
    --]8s
    clear hHeld
    have HB89 := Lib.hid (show Below w8.heap.size w8 w8.drew from (Below.refl _ _).drew)
    generalize w8.drew = w10 at *
    have HI10 := Lib.hid (HI8.out.below HB89.out)
    have HR410 := Lib.hid ((HB89.out.block g4 HV_g4.out).trans HR48.out)
    have HR510 := Lib.hid ((HB89.out.block g5 HV_g5.out).trans HR58.out)
    have HB10 := Lib.hid (HB28.out.below0 HB89.out)
    clear HC2 HCP HEQ HLS
    have hmem := lkp_some_mem hSc
    have HY_gi := Lib.hid (row_lt HI10.out.row)
    have HY_g4 := Lib.hid (row_lt HR410.out)
    have HY_g5 := Lib.hid (row_lt HR510.out)
    have HNY_gi := Lib.hid (show ¬ gi = gm from fun e => (HNE.out.s4 _ hmem).1 e.symm)
    have HNY_g4 := Lib.hid (HNE45.out gm (ixB_sh hmem)).1
    have HNY_g5 := Lib.hid (HNE45.out gm (ixB_sh hmem)).2
    have HNY_gs := Lib.hid (show ¬ gs = gm from fun e => (HNE.out.s4 _ hmem).2.2.2 e.symm)
    have HC2 := Lib.hid (show w10.cell? ⟨gi, 2, none⟩ = some (.map (some gs)) by rw [cell_of_row _ _ _ _ _ _ HI10.out.row]; rfl)
    have HCP := Lib.hid (show w10.cell? ⟨g5, 0, none⟩ = some (.int .i64 p.1) by rw [cell_of_row _ _ _ _ _ _ HR510.out]; rfl)
    have HK4 := Lib.hid (show w10.rangeAt g4 0 k.cells from range_row HR410.out)
    have HLY := Lib.hid (show ∀ W, Chg (fun x => x = gm) w10 W → (Instr.lookup 153 (.map (some gs)) (intV p.1) false).run Tryz.prog W = .ok (.map (some gm)) W from fun W hW => by
      rw [run_lkp keyI Tryz.underlying153 (HI10.out.sh.chg hW HNY_gs.out) p.1 HP.out.1 (.map none) (zeroSh W) false]
      unfold shRows
      rw [lkp_map, hSc]
      rfl)
    have HPS := Lib.hid ((HI10.out.below (Below.refl _ _).drew).putSh hSc HKO.out (HSS0.out _ _ hSc))
    have hmS : gm ∈ ixB gi gp gt gs T S := ixB_sh hmem
    go_simp
    go_upto_region 10 with (fail)
    --[10s
    refine wp_region_held_drew (S := fun w' => Chg (fun x => x = gm) w10 w') (by kernel_rfl) ((Chg.refl _ _).drewN 1) (fun hHeld => ?_)
    refine held_take 0 (some 63) (v := ?_) rfl rfl (by kernel_rfl) (by kernel_rfl) (by kernel_rfl) (fun _ _ _ h => h) (Or.inl ⟨by rfl, ?_⟩) hHeld ?_
    rotate_left
    · (intro w' hSw; clear hSw; go_simp; try with_reducible rfl)
    try simp only [Act.put, List.setIfInBounds_toArray, List.set_cons_zero, List.set_cons_succ]
    refine held_take 1 (some 64) (v := ?_) rfl rfl (by kernel_rfl) (by kernel_rfl) (by kernel_rfl) (fun _ _ _ h => h) (Or.inl ⟨by rfl, ?_⟩) hHeld ?_
    rotate_left
    · (intro w' hSw; clear hSw; go_simp; try with_reducible rfl)
    try simp only [Act.put, List.setIfInBounds_toArray, List.set_cons_zero, List.set_cons_succ]
    refine held_take 2 (some 65) (v := ?_) rfl rfl (by kernel_rfl) (by kernel_rfl) (by kernel_rfl) (fun _ _ _ h => h) (Or.inl ⟨by rfl, ?_⟩) hHeld ?_
    rotate_left
    · (intro w' hSw; clear hSw; go_simp; try with_reducible rfl)
    try simp only [Act.put, List.setIfInBounds_toArray, List.set_cons_zero, List.set_cons_succ]
    refine held_take 3 (some 66) (v := ?_) rfl rfl (by kernel_rfl) (by kernel_rfl) (by kernel_rfl) (fun _ _ _ h => h) (Or.inl ⟨by rfl, ?_⟩) hHeld ?_
    rotate_left
    · (intro w' hSw; have pf := (hSw.cell (p := ⟨gi, 2, none⟩) HY_gi.out HNY_gi.out).trans HC2.out; clear hSw; go_simp; try with_reducible rfl)
    try simp only [Act.put, List.setIfInBounds_toArray, List.set_cons_zero, List.set_cons_succ]
    refine held_take 4 (some 67) (v := ?_) rfl rfl (by kernel_rfl) (by kernel_rfl) (by kernel_rfl) (fun _ _ _ h => h) (Or.inl ⟨by rfl, ?_⟩) hHeld ?_
    rotate_left
    · (intro w' hSw; clear hSw; go_simp; try with_reducible rfl)
    try simp only [Act.put, List.setIfInBounds_toArray, List.set_cons_zero, List.set_cons_succ]
    refine held_take 5 (some 68) (v := ?_) rfl rfl (by kernel_rfl) (by kernel_rfl) (by kernel_rfl) (fun _ _ _ h => h) (Or.inl ⟨by rfl, ?_⟩) hHeld ?_
    rotate_left
    · (intro w' hSw; have pf := (hSw.cell (p := ⟨g5, 0, none⟩) HY_g5.out HNY_g5.out).trans HCP.out; clear hSw; go_simp; try with_reducible rfl)
    try simp only [Act.put, List.setIfInBounds_toArray, List.set_cons_zero, List.set_cons_succ]
    refine held_take 6 (some 69) (v := .map (some gm)) rfl rfl (by kernel_rfl) (by kernel_rfl) (by kernel_rfl) (fun _ _ _ h => h) (yields_val (by go_simp) (fun W h => exec_lkp _ _ _ _ rfl (.map (some gs)) (intV p.1) (by go_simp) (by go_simp; try rfl) (HLY.out W h))) hHeld ?_
    try simp only [Act.put, List.setIfInBounds_toArray, List.set_cons_zero, List.set_cons_succ]
    refine held_take 7 (some 70) (v := .agg (k.cells).toArray) rfl rfl (by kernel_rfl) (by kernel_rfl) (by kernel_rfl) (fun _ _ _ h => h) (yieldsIf_load_mid (by rfl) 64 _ rfl g4 (0) rfl (k.cells) _ (fun w' h => rangeAt_block HK4.out (h.block g4 HY_g4.out HNY_g4.out)) Tryz.underlying64 rfl (sizeK HKO.out)) hHeld ?_
    try simp only [Act.put, List.setIfInBounds_toArray, List.set_cons_zero, List.set_cons_succ]
    refine wpAnyH_ready (rs := [8]) (by kernel_rfl) (by simp) ?_
    refine AllReadyH.cons rfl (fun K hKK => ?_) AllReadyH.nil
    obtain ⟨w11, hrun, hgr, hir⟩ := HPS.out
    refine step_skip rfl (exec_upd _ (.tmp 69) (.tmp 70) (.const (.bool true)) rfl (.map (some gm)) (.agg k.cells.toArray) (.bool true) (by go_simp) (by go_simp; try rfl) (by go_simp; try rfl) hrun) ?_
    refine hKK.out _ _ (((Chg.refl _ _).drewN 1).trans2 (Chg.of hgr) (fun x _ e => by injection e)) (fun hHeld => ?_)
    clear hKK K
    try simp only [Act.put, List.setIfInBounds_toArray, List.set_cons_zero, List.set_cons_succ]
    refine wpAnyH_done (by kernel_rfl) ?_ _
    --]10s
    have HFC := Lib.hid (show Chg (fun x => x ∈ ixB gi gp gt gs T S) w w11 from HB10.out.trans2 hHeld (fun x _ hx => by rw [hx]; exact hmS))
    have HIF := Lib.hid hir
    clear hHeld hir hrun hgr
    go_simp
    go_wp2_with fail
    go_ret
    exact ⟨rfl, HFC.out, t, gm, ks, HTA.out.1, .inr hSc, HIF.out, HTA.out.2.imp (fun h => by obtain ⟨y, hy, e⟩ := List.mem_map.1 h; rw [← e]; exact ixB_tw hy) (fun h => Nat.le_trans HS5.out h), .inl hmS⟩
end
end Go.Proofs.YtcklcffepedklaaGreat
