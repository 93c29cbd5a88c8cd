/- Texts of the proof, one behind the other: find: Find, of a chunk that is there. -/
import Derived.Test.YtcklcffepedklaaGreatM17
namespace Go.Proofs.YtcklcffepedklaaGreat
open Go.RowKit Go.Maps

section
variable {w : World} {gf bits probes room gi gb gh gc : Nat} {L : List (Ky × (Nat × Nat))} {κ : Nat → Nat} {f : Nat → Bool} {a1 a2 : Int}
/-- What Find leaves. -/
def Found (w : World) (gf bits probes room gi gb gh gc : Nat) (L : List (Ky × (Nat × Nat))) (κ : Nat → Nat) (f : Nat → Bool) (p : Nat × Nat) (e : Ending) (w' : World) : Prop :=
  e = .returned (.tuple #[plV p, .bool true]) ∧ Chg (fun x => κ x ≠ 0) w w' ∧ ∃ κ' b1 b2, Fm w' gf bits probes room L κ' gi gb gh gc f b1 b2 ∧ ∀ x, κ' x ≠ 0 → κ x ≠ 0 ∨ w.heap.size ≤ x
theorem Fm.inc3 (h : Fm w gf bits probes room L κ gi gb gh gc f a1 a2) (b : Int) : Fm (w.setCell ⟨gf, 3, none⟩ (.int .i64 b)) gf bits probes room L κ gi gb gh gc f b a2 :=
  h.fch ((Chg.of (grown_setCell w gf 3 _)).mono (fun x e => by injection e)) (by rw [setCell_row h.row]; rfl)
theorem Fm.inc4 (h : Fm w gf bits probes room L κ gi gb gh gc f a1 a2) (b : Int) : Fm (w.setCell ⟨gf, 4, none⟩ (.int .i64 b)) gf bits probes room L κ gi gb gh gc f a1 b :=
  h.fch ((Chg.of (grown_setCell w gf 4 _)).mono (fun x e => by injection e)) (by rw [setCell_row h.row]; rfl)
set_option maxRecDepth 20000 in
set_option maxHeartbeats 1600000 in
theorem FFind_fm (h : Fm w gf bits probes room L κ gi gb gh gc f a1 a2) (hm1 : L.length < 1000000000) (k : Ky) (hk : k.Ok) (p : Nat × Nat) (hL : lkp L k = some p) (hp : IntOk p.1 ∧ IntOk p.2) (draw : Nat) (hd : draw < 18446744073709551616) :
    Calls Tryz.prog 61 #[.pointer (some ⟨gf, 0, none⟩), .agg k.cells.toArray, .int .u64 draw] w (Found w gf bits probes room gi gb gh gc L κ f p) := by
  obtain ⟨g3, hg3⟩ : ∃ g, w.heap.size = g := ⟨_, rfl⟩
  have hb1 := (Below.refl w.heap.size w).alloc (Nat.le_refl _) (.cells k.cells.toArray 64)
  have hr1 := heap_alloc_last w (.cells k.cells.toArray 64)
  have hs1 : (w.alloc (.cells k.cells.toArray 64)).heap.size = w.heap.size + 1 := World.size_alloc _ _
  have HKO := Lib.hid hk
  have HLN := Lib.hid hL
  have HP := Lib.hid hp
  have HH := Lib.hid h
  clear hk hL hp
  rw [hg3] at hr1 hs1
  go_enter Tryz.func61, Tryz.ntmps61
  obtain ⟨w1, hw1⟩ : ∃ w1, w.alloc (.cells k.cells.toArray 64) = w1 := ⟨_, rfl⟩
  rw [hw1] at hb1 hr1 hs1
  have hb2 := (Below.refl w1.heap.size w1).alloc (Nat.le_refl _) (.cells #[.int .i64 0, .int .i64 0] 82)
  have hr2 := heap_alloc_last w1 (.cells #[.int .i64 0, .int .i64 0] 82)
  have hs2 : (w1.alloc (.cells #[.int .i64 0, .int .i64 0] 82)).heap.size = w1.heap.size + 1 := World.size_alloc _ _
  obtain ⟨w2, hw2⟩ : ∃ w2, w1.alloc (.cells #[.int .i64 0, .int .i64 0] 82) = w2 := ⟨_, rfl⟩
  rw [hw2] at hb2 hr2 hs2
  rw [hs1] at hr2 hs2
  go_upto_region 1 with (fail)
  have hr12 := (hb2.block g3 (by omega)).trans hr1
  have HB2 := Lib.hid (show Below g3 w w2 from hg3 ▸ below_trans hb1 hb2 hb1.size)
  have HK3 := Lib.hid (show w2.rangeAt g3 0 k.cells from range_row hr12)
  have HR4 := Lib.hid hr2
  have HS2 := Lib.hid (And.intro hg3 hs2)
  have H2 := Lib.hid (h.below (by rw [hg3]; exact HB2.out))
  have HLF := Lib.hid (show gf < w2.heap.size ∧ g3 < w2.heap.size ∧ g3 + 1 < w2.heap.size from ⟨row_lt H2.out.row, by omega, by omega⟩)
  clear hb1 hr1 hb2 hr2 hr12 hw1 hw2 hs1 hs2 hg3 h
  have HMY := Lib.hid (fun (W : World) (hW : Below w2.heap.size w2 W) => Bl.May_any gb gh bits probes f k.cells.toArray (bytK k) k.n W ((H2.out.below hW).vec) (keyC HKO.out))
  rw [H2.out.may k p HLN.out] at HMY
  --[1
  refine wp_region_held_drew (S := fun w' => Below w2.heap.size w2 w') (by kernel_rfl) ((Below.refl _ _).drew) (fun hHeld => ?_)
  refine held_take 0 (some 12) (v := ?_) rfl rfl (by kernel_rfl) (by kernel_rfl) (by kernel_rfl) (fun _ _ _ h => h) (Or.inl ⟨by rfl, ?_⟩) hHeld ?_
  rotate_left
  · (intro w' hSw; clear hSw; go_simp; try with_reducible rfl)
  try simp only [Act.put, List.setIfInBounds_toArray, List.set_cons_zero, List.set_cons_succ]
  refine held_take 1 (some 13) (v := ?_) rfl rfl (by kernel_rfl) (by kernel_rfl) (by kernel_rfl) (fun _ _ _ h => h) (Or.inl ⟨by rfl, ?_⟩) hHeld ?_
  rotate_left
  · (intro w' hSw; clear hSw; go_simp; try with_reducible rfl)
  try simp only [Act.put, List.setIfInBounds_toArray, List.set_cons_zero, List.set_cons_succ]
  refine held_take 2 (some 14) (v := ?_) rfl rfl (by kernel_rfl) (by kernel_rfl) (by kernel_rfl) (fun _ _ _ h => h) (Or.inl ⟨by rfl, ?_⟩) hHeld ?_
  rotate_left
  · (intro w' hSw; clear hSw; go_simp; try with_reducible rfl)
  try simp only [Act.put, List.setIfInBounds_toArray, List.set_cons_zero, List.set_cons_succ]
  refine held_take 3 (some 15) (v := ?_) rfl rfl (by kernel_rfl) (by kernel_rfl) (by kernel_rfl) (fun _ _ _ h => h) (Or.inl ⟨by rfl, ?_⟩) hHeld ?_
  rotate_left
  · (intro w' hSw; clear hSw; go_simp; try with_reducible rfl)
  try simp only [Act.put, List.setIfInBounds_toArray, List.set_cons_zero, List.set_cons_succ]
  refine held_take 4 (some 16) (v := ?_) rfl rfl (by kernel_rfl) (by kernel_rfl) (by kernel_rfl) (fun _ _ _ h => h) (Or.inl ⟨by rfl, ?_⟩) hHeld ?_
  rotate_left
  · (intro w' hSw; clear hSw; go_simp; try with_reducible rfl)
  try simp only [Act.put, List.setIfInBounds_toArray, List.set_cons_zero, List.set_cons_succ]
  refine held_take 5 (some 17) (v := ?_) rfl rfl (by kernel_rfl) (by kernel_rfl) (by kernel_rfl) (fun _ _ _ h => h) (Or.inl ⟨by rfl, ?_⟩) hHeld ?_
  rotate_left
  · (intro w' hSw; clear hSw; go_simp; try with_reducible rfl)
  try simp only [Act.put, List.setIfInBounds_toArray, List.set_cons_zero, List.set_cons_succ]
  refine held_take 6 (some 18) (v := ?_) rfl rfl (by kernel_rfl) (by kernel_rfl) (by kernel_rfl) (fun _ _ _ h => h) (Or.inl ⟨by rfl, ?_⟩) hHeld ?_
  rotate_left
  · (intro w' hSw; have pf := (hSw.cell (p := ⟨gf, 1, none⟩) HLF.out.1).trans H2.out.c1; clear hSw; go_simp; try with_reducible rfl)
  try simp only [Act.put, List.setIfInBounds_toArray, List.set_cons_zero, List.set_cons_succ]
  refine held_take 7 (some 19) (v := .agg (k.cells).toArray) rfl rfl (by kernel_rfl) (by kernel_rfl) (by kernel_rfl) (fun _ _ _ h => h) (yieldsIf_load_mid (by rfl) 64 _ rfl g3 (0) rfl (k.cells) _ (fun w' h => rangeAt_block HK3.out (h.block g3 HLF.out.2.1)) Tryz.underlying64 rfl (sizeK HKO.out)) hHeld ?_
  try simp only [Act.put, List.setIfInBounds_toArray, List.set_cons_zero, List.set_cons_succ]
  refine wpAnyH_ready (rs := [8]) (by kernel_rfl) (by simp) ?_
  refine AllReadyH.cons rfl (fun K hKK => ?_) AllReadyH.nil
  go_simp
  go_at_call 77
  refine (HMY.out _ hHeld).mono ?_
  rintro e w3 ⟨rfl, hgm⟩
  have hS25 := (hHeld).grown hgm (hHeld).size (fun k hk => by cases hk)
  refine hKK.out _ _ hS25 (fun hHeld => ?_)
  clear hKK K
  try simp only [Act.put, List.setIfInBounds_toArray, List.set_cons_zero, List.set_cons_succ]
  refine held_take 9 (some 21) (v := ?_) rfl rfl (by kernel_rfl) (by kernel_rfl) (by kernel_rfl) (fun _ _ _ h => h) (Or.inl ⟨by rfl, ?_⟩) hHeld ?_
  rotate_left
  · (intro w' hSw; clear hSw; go_simp; try with_reducible rfl)
  try simp only [Act.put, List.setIfInBounds_toArray, List.set_cons_zero, List.set_cons_succ]
  refine held_take 10 (some 22) (v := ?_) rfl rfl (by kernel_rfl) (by kernel_rfl) (by kernel_rfl) (fun _ _ _ h => h) (Or.inl ⟨by rfl, ?_⟩) hHeld ?_
  rotate_left
  · (intro w' hSw; clear hSw; go_simp; try with_reducible rfl)
  try simp only [Act.put, List.setIfInBounds_toArray, List.set_cons_zero, List.set_cons_succ]
  refine wpAnyH_done (by kernel_rfl) ?_ _
  --]1
  clear HMY
  have H3 := Lib.hid (H2.out.below hHeld)
  have HZ := Lib.hid (show ∀ x, g3 ≤ x → κ x = 0 from fun x hx => by
    rcases Nat.eq_zero_or_pos (κ x) with e | e
    · exact e
    · have := HH.out.lim x (by omega); have := HS2.out; omega)
  have HC3 := Lib.hid (show Chg (fun x => κ x ≠ 0) w w3 from (Chg.belowAt (by rw [HS2.out.1]; exact HB2.out)).trans (Chg.belowAt hHeld))
  have HK3' := Lib.hid (rangeAt_block HK3.out (hHeld.block g3 HLF.out.2.1))
  have HR3 := Lib.hid ((hHeld.block (g3 + 1) HLF.out.2.2).trans HR4.out)
  have HL3 := Lib.hid (show gf < w3.heap.size ∧ g3 < w3.heap.size ∧ g3 + 1 < w3.heap.size from by have := HLF.out; have := hHeld.size; omega)
  clear hHeld hgm HB2 HK3 HR4 HLF H2
  have HCG := Lib.hid (fun (W : World) (hW : Below w3.heap.size w3 W) => CGet_any (w := W) ((H3.out.below hW).ca) k HKO.out)
  go_upto_region 3 with (fail)
  go_cut [8, 9] from 24 to 32 (fun v8 v9 w' => ∃ g b, v8 = .pointer (some ⟨g, 0, none⟩) ∧ v9 = .bool b ∧ (b = true → w'.heap[g]? = some (.cells (plC p).toArray 82 (0, 0))) ∧ w3.heap.size ≤ g ∧ Below w3.heap.size w3 w')
  case first =>
    --[3
    refine wp_region_held_drew (S := fun w' => Below w3.heap.size w3 w') (by kernel_rfl) ((Below.refl _ _).drew) (fun hHeld => ?_)
    refine held_take 0 (some 25) (v := ?_) rfl rfl (by kernel_rfl) (by kernel_rfl) (by kernel_rfl) (fun _ _ _ h => h) (Or.inl ⟨by rfl, ?_⟩) hHeld ?_
    rotate_left
    · (intro w' hSw; clear hSw; go_simp; try with_reducible rfl)
    try simp only [Act.put, List.setIfInBounds_toArray, List.set_cons_zero, List.set_cons_succ]
    refine held_take 1 (some 26) (v := ?_) rfl rfl (by kernel_rfl) (by kernel_rfl) (by kernel_rfl) (fun _ _ _ h => h) (Or.inl ⟨by rfl, ?_⟩) hHeld ?_
    rotate_left
    · (intro w' hSw; clear hSw; go_simp; try with_reducible rfl)
    try simp only [Act.put, List.setIfInBounds_toArray, List.set_cons_zero, List.set_cons_succ]
    refine held_take 2 (some 27) (v := ?_) rfl rfl (by kernel_rfl) (by kernel_rfl) (by kernel_rfl) (fun _ _ _ h => h) (Or.inl ⟨by rfl, ?_⟩) hHeld ?_
    rotate_left
    · (intro w' hSw; clear hSw; go_simp; try with_reducible rfl)
    try simp only [Act.put, List.setIfInBounds_toArray, List.set_cons_zero, List.set_cons_succ]
    refine held_take 3 (some 28) (v := ?_) rfl rfl (by kernel_rfl) (by kernel_rfl) (by kernel_rfl) (fun _ _ _ h => h) (Or.inl ⟨by rfl, ?_⟩) hHeld ?_
    rotate_left
    · (intro w' hSw; have pf := (hSw.cell (p := ⟨gf, 2, none⟩) HL3.out.1).trans H3.out.c2; clear hSw; go_simp; try with_reducible rfl)
    try simp only [Act.put, List.setIfInBounds_toArray, List.set_cons_zero, List.set_cons_succ]
    refine held_take 4 (some 29) (v := .agg (k.cells).toArray) rfl rfl (by kernel_rfl) (by kernel_rfl) (by kernel_rfl) (fun _ _ _ h => h) (yieldsIf_load_mid (by rfl) 64 _ rfl g3 (0) rfl (k.cells) _ (fun w' h => rangeAt_block HK3'.out (h.block g3 HL3.out.2.1)) Tryz.underlying64 rfl (sizeK HKO.out)) hHeld ?_
    try simp only [Act.put, List.setIfInBounds_toArray, List.set_cons_zero, List.set_cons_succ]
    refine wpAnyH_ready (rs := [5, 9]) (by kernel_rfl) (by simp) ?_
    refine AllReadyH.cons rfl (fun K hKK => ?_) (AllReadyH.cons rfl (fun K hKK => ?_) AllReadyH.nil)
    · go_simp
      go_at_call 78
      refine (HCG.out _ (hHeld)).mono ?_
      rintro e wc26 ⟨r, rfl, hrp, hc27⟩
      have hS28 := (hHeld).trans ((hc27).mono (hHeld).size)
      refine hKK.out _ _ hS28 (fun hHeld => ?_)
      clear hKK K
      try simp only [Act.put, List.setIfInBounds_toArray, List.set_cons_zero, List.set_cons_succ]
      refine held_take 6 (some 24) (v := ?_) rfl rfl (by kernel_rfl) (by kernel_rfl) (by kernel_rfl) (fun _ _ _ h => h) (Or.inl ⟨by rfl, ?_⟩) hHeld ?_
      rotate_left
      · (intro w' hSw; clear hSw; go_simp; try with_reducible rfl)
      try simp only [Act.put, List.setIfInBounds_toArray, List.set_cons_zero, List.set_cons_succ]
      refine held_take 7 (some 31) (v := ?_) rfl rfl (by kernel_rfl) (by kernel_rfl) (by kernel_rfl) (fun _ _ _ h => h) (Or.inl ⟨by rfl, ?_⟩) hHeld ?_
      rotate_left
      · (intro w' hSw; clear hSw; go_simp; try with_reducible rfl)
      try simp only [Act.put, List.setIfInBounds_toArray, List.set_cons_zero, List.set_cons_succ]
      refine held_take 8 (some 32) (v := ?_) rfl rfl (by kernel_rfl) (by kernel_rfl) (by kernel_rfl) (fun _ _ _ h => h) (Or.inl ⟨by rfl, ?_⟩) hHeld ?_
      rotate_left
      · (intro w' hSw; clear hSw; go_simp; try with_reducible rfl)
      try simp only [Act.put, List.setIfInBounds_toArray, List.set_cons_zero, List.set_cons_succ]
      refine wpAnyH_ready (rs := [9]) (by kernel_rfl) (by simp) ?_
      refine AllReadyH.cons rfl (fun K hKK => ?_) AllReadyH.nil
      have hga31 := (hHeld).size
      have hrA29 := heap_alloc_last wc26 (.cells (plC (0, 0)).toArray 82)
      have hS30 := (hHeld).alloc (hHeld).size (.cells (plC (0, 0)).toArray 82)
      refine step_val rfl (exec_alloc _ rfl (zeroPl _)) ?_
      refine hKK.out _ _ hS30 (fun hHeld => ?_)
      clear hKK K
      try simp only [Act.put, List.setIfInBounds_toArray, List.set_cons_zero, List.set_cons_succ]
      refine wpAnyH_ready (rs := [10]) (by kernel_rfl) (by simp) ?_
      refine AllReadyH.cons rfl (fun K hKK => ?_) AllReadyH.nil
      refine step_wp rfl (wp_store_row 82 _ _ rfl _ (plC (r.getD (0, 0))).toArray rfl rfl 82 (plC (0, 0)).toArray hrA29 (sizePlA _) rfl (all_one (plC_one _)) ?_)
      have hS32 := (hHeld).grown (grown_setRow (wc26.alloc (.cells (plC (0, 0)).toArray 82)) wc26.heap.size (plC (r.getD (0, 0))).toArray) (hHeld).size (fun k hk => by injection hk with hk; rw [← hk]; exact hga31)
      have hrF := setRow_heap _ _ _ (plC (r.getD (0, 0))).toArray _ _ hrA29
      refine hKK.out _ _ hS32 (fun hHeld => ?_)
      clear hKK K
      try simp only [Act.put, List.setIfInBounds_toArray, List.set_cons_zero, List.set_cons_succ]
      refine held_take 11 (some 9) (v := ?_) rfl rfl (by kernel_rfl) (by kernel_rfl) (by kernel_rfl) (fun _ _ _ h => h) (Or.inl ⟨by rfl, ?_⟩) hHeld ?_
      rotate_left
      · (intro w' hSw; clear hSw; go_simp; try with_reducible rfl)
      try simp only [Act.put, List.setIfInBounds_toArray, List.set_cons_zero, List.set_cons_succ]
      refine wpAnyH_done (by kernel_rfl) ?_ _
      have HB6 := Lib.hid hHeld
      have HRF := Lib.hid hrF
      have HGA := Lib.hid hga31
      clear hHeld hrF
      go_simp
      go_wp2_with fail
      go_meet
      case rel => exact ⟨_, r.isSome, rfl, rfl, fun hr => by obtain ⟨q, hq⟩ := Option.isSome_iff_exists.1 hr; have h1 := hrp q hq; rw [HLN.out] at h1; injection h1 with h1; have e : r.getD (0, 0) = p := (by rw [hq, Option.getD_some, h1]); have h2 := HRF.out; rw [e] at h2 ⊢; exact h2, HGA.out, HB6.out⟩
    · have hga35 := (hHeld).size
      have hrA33 := heap_alloc_last w3.drew (.cells (plC (0, 0)).toArray 82)
      have hS34 := (hHeld).alloc (hHeld).size (.cells (plC (0, 0)).toArray 82)
      refine step_val rfl (exec_alloc _ rfl (zeroPl _)) ?_
      refine hKK.out _ _ hS34 (fun hHeld => ?_)
      clear hKK K
      try simp only [Act.put, List.setIfInBounds_toArray, List.set_cons_zero, List.set_cons_succ]
      refine wpAnyH_ready (rs := [5]) (by kernel_rfl) (by simp) ?_
      refine AllReadyH.cons rfl (fun K hKK => ?_) AllReadyH.nil
      go_simp
      go_at_call 78
      refine (HCG.out _ (hHeld)).mono ?_
      rintro e wc36 ⟨r, rfl, hrp, hc37⟩
      have hS38 := (hHeld).trans ((hc37).mono (hHeld).size)
      have hrA39 := (hc37.block _ (row_lt hrA33)).trans hrA33
      refine hKK.out _ _ hS38 (fun hHeld => ?_)
      clear hKK K
      try simp only [Act.put, List.setIfInBounds_toArray, List.set_cons_zero, List.set_cons_succ]
      refine held_take 6 (some 24) (v := ?_) rfl rfl (by kernel_rfl) (by kernel_rfl) (by kernel_rfl) (fun _ _ _ h => h) (Or.inl ⟨by rfl, ?_⟩) hHeld ?_
      rotate_left
      · (intro w' hSw; clear hSw; go_simp; try with_reducible rfl)
      try simp only [Act.put, List.setIfInBounds_toArray, List.set_cons_zero, List.set_cons_succ]
      refine held_take 7 (some 31) (v := ?_) rfl rfl (by kernel_rfl) (by kernel_rfl) (by kernel_rfl) (fun _ _ _ h => h) (Or.inl ⟨by rfl, ?_⟩) hHeld ?_
      rotate_left
      · (intro w' hSw; clear hSw; go_simp; try with_reducible rfl)
      try simp only [Act.put, List.setIfInBounds_toArray, List.set_cons_zero, List.set_cons_succ]
      refine held_take 8 (some 32) (v := ?_) rfl rfl (by kernel_rfl) (by kernel_rfl) (by kernel_rfl) (fun _ _ _ h => h) (Or.inl ⟨by rfl, ?_⟩) hHeld ?_
      rotate_left
      · (intro w' hSw; clear hSw; go_simp; try with_reducible rfl)
      try simp only [Act.put, List.setIfInBounds_toArray, List.set_cons_zero, List.set_cons_succ]
      refine wpAnyH_ready (rs := [10]) (by kernel_rfl) (by simp) ?_
      refine AllReadyH.cons rfl (fun K hKK => ?_) AllReadyH.nil
      refine step_wp rfl (wp_store_row 82 _ _ rfl _ (plC (r.getD (0, 0))).toArray rfl rfl 82 (plC (0, 0)).toArray hrA39 (sizePlA _) rfl (all_one (plC_one _)) ?_)
      have hS40 := (hHeld).grown (grown_setRow wc36 w3.drew.heap.size (plC (r.getD (0, 0))).toArray) (hHeld).size (fun k hk => by injection hk with hk; rw [← hk]; exact hga35)
      have hrF := setRow_heap _ _ _ (plC (r.getD (0, 0))).toArray _ _ hrA39
      refine hKK.out _ _ hS40 (fun hHeld => ?_)
      clear hKK K
      try simp only [Act.put, List.setIfInBounds_toArray, List.set_cons_zero, List.set_cons_succ]
      refine held_take 11 (some 9) (v := ?_) rfl rfl (by kernel_rfl) (by kernel_rfl) (by kernel_rfl) (fun _ _ _ h => h) (Or.inl ⟨by rfl, ?_⟩) hHeld ?_
      rotate_left
      · (intro w' hSw; clear hSw; go_simp; try with_reducible rfl)
      try simp only [Act.put, List.setIfInBounds_toArray, List.set_cons_zero, List.set_cons_succ]
      refine wpAnyH_done (by kernel_rfl) ?_ _
      have HB6 := Lib.hid hHeld
      have HRF := Lib.hid hrF
      have HGA := Lib.hid hga35
      clear hHeld hrF
      go_simp
      go_wp2_with fail
      go_meet
      case rel => exact ⟨_, r.isSome, rfl, rfl, fun hr => by obtain ⟨q, hq⟩ := Option.isSome_iff_exists.1 hr; have h1 := hrp q hq; rw [HLN.out] at h1; injection h1 with h1; have e : r.getD (0, 0) = p := (by rw [hq, Option.getD_some, h1]); have h2 := HRF.out; rw [e] at h2 ⊢; exact h2, HGA.out, HB6.out⟩
    --]3
  case rest =>
    obtain ⟨g8, b8, rfl, rfl, hb8, hg8, hbc⟩ := hcut
    have hsc := hbc.size
    have H4 := Lib.hid (H3.out.below hbc)
    have HC4 := Lib.hid (HC3.out.trans (Chg.belowAt hbc))
    have HK4 := Lib.hid (rangeAt_block HK3'.out (hbc.block g3 HL3.out.2.1))
    have HR4 := Lib.hid ((hbc.block (g3 + 1) HL3.out.2.2).trans HR3.out)
    have HL4 := Lib.hid (show gf < wc.heap.size ∧ g3 < wc.heap.size ∧ g3 + 1 < wc.heap.size from by have := HL3.out; omega)
    have HB8 := Lib.hid hb8
    clear hbc hsc hg8 hb8 H3 HC3 HK3' HR3 HL3 HCG
    cases b8 with
    | true =>
      have HR8 := Lib.hid (HB8.out rfl)
      have HK8 := Lib.hid (show wc.rangeAt g8 0 (plC p) from range_row HR8.out)
      go_wp2_with (first | (with_reducible refine Go.wpList_load_mid rfl 82 _ rfl g8 0 rfl (plC p) _ HK8.out Tryz.underlying82 rfl (sizePl p) ?_) | (with_reducible refine wpList_store_row rfl 82 _ _ rfl (g3 + 1) (plC p).toArray rfl rfl 82 #[.int .i64 0, .int .i64 0] HR4.out (sizePlA p) rfl (all_one (plC_one _)) ?_))
      refine bodyPost_ret (v := .tuple #[plV p, .bool true]) ?_ rfl ?_
      · exact results_cell_tmp_row rfl _ _ (g3 + 1) 82 (plC p).toArray (0, 0) _ _ rfl rfl (setRow_heap _ _ _ _ _ _ HR4.out) Tryz.underlying82 rfl (sizePlA p)
      · have hgr := grown_setRow wc (g3 + 1) (plC p).toArray
        have hz := HZ.out (g3 + 1) (by omega)
        refine ⟨rfl, HC4.out.trans2 (Chg.of hgr) (fun x hx e => ?_), κ, a1, a2, H4.out.chg (Chg.of hgr) (fun x hx e => ?_), fun x hx => .inl hx⟩
        · injection e with e; have := HS2.out; omega
        · injection e with e; rw [e] at hx; exact hx hz
    | false =>
      clear HB8
      have c3 := H4.out.c3
      have fr3 := free_row H4.out.row 3
      go_upto_region 7 with (fail)
      clear c3 fr3
      have H5 := Lib.hid (H4.out.inc3 (wrap64 (a1 + 1)))
      have hg5 := grown_setCell wc gf 3 (.int .i64 (wrap64 (a1 + 1)))
      have hs5 := hg5.size
      have hne : ¬ some g3 = some gf ∧ ¬ some (g3 + 1) = some gf := by
        have h1 := H4.out.kf
        have h2 := HZ.out g3 (Nat.le_refl _)
        have h3 := HZ.out (g3 + 1) (by omega)
        exact ⟨fun e => by injection e with e; rw [e] at h2; omega, fun e => by injection e with e; rw [e] at h3; omega⟩
      have HC5 := Lib.hid (HC4.out.trans2 (Chg.of hg5) (fun x _ e => by injection e with e; rw [e]; have := HH.out.kf; omega))
      have HK5 := Lib.hid (rangeAt_block HK4.out (hg5.block g3 HL4.out.2.1 hne.1))
      have HR5 := Lib.hid ((hg5.block (g3 + 1) HL4.out.2.2 hne.2).trans HR4.out)
      have HL5 := Lib.hid (show gf < (wc.setCell ⟨gf, 3, none⟩ (.int .i64 (wrap64 (a1 + 1)))).heap.size ∧ g3 < (wc.setCell ⟨gf, 3, none⟩ (.int .i64 (wrap64 (a1 + 1)))).heap.size ∧ g3 + 1 < (wc.setCell ⟨gf, 3, none⟩ (.int .i64 (wrap64 (a1 + 1)))).heap.size from by have := HL4.out; omega)
      clear hg5 hs5 H4 HC4 HK4 HR4 HL4
      generalize wc.setCell ⟨gf, 3, none⟩ (.int .i64 (wrap64 (a1 + 1))) = w5 at *
      generalize wrap64 (a1 + 1) = b1 at *
      have HIG := Lib.hid (fun (W : World) (hW : Below w5.heap.size w5 W) => by
        obtain ⟨gp, gt, gs, T, S, a, _⟩ := (H5.out.below hW).ix.ex
        have := IGet_any (w := W) a.row a.pl k HKO.out
        rw [HLN.out] at this
        simp only [Option.getD_some, Option.isSome_some, Ky.val] at this
        exact this)
      go_cut [10, 11] from 42 to 50 (fun v10 v11 w' => ∃ g, v10 = .pointer (some ⟨g, 0, none⟩) ∧ v11 = .bool true ∧ w'.heap[g]? = some (.cells (plC p).toArray 82 (0, 0)) ∧ w5.heap.size ≤ g ∧ Below w5.heap.size w5 w')
      case first =>
        --[7
        refine wp_region_held_drew (S := fun w' => Below w5.heap.size w5 w') (by kernel_rfl) ((Below.refl _ _).drew) (fun hHeld => ?_)
        refine held_take 0 (some 43) (v := ?_) rfl rfl (by kernel_rfl) (by kernel_rfl) (by kernel_rfl) (fun _ _ _ h => h) (Or.inl ⟨by rfl, ?_⟩) hHeld ?_
        rotate_left
        · (intro w' hSw; clear hSw; go_simp; try with_reducible rfl)
        try simp only [Act.put, List.setIfInBounds_toArray, List.set_cons_zero, List.set_cons_succ]
        refine held_take 1 (some 44) (v := ?_) rfl rfl (by kernel_rfl) (by kernel_rfl) (by kernel_rfl) (fun _ _ _ h => h) (Or.inl ⟨by rfl, ?_⟩) hHeld ?_
        rotate_left
        · (intro w' hSw; clear hSw; go_simp; try with_reducible rfl)
        try simp only [Act.put, List.setIfInBounds_toArray, List.set_cons_zero, List.set_cons_succ]
        refine held_take 2 (some 45) (v := ?_) rfl rfl (by kernel_rfl) (by kernel_rfl) (by kernel_rfl) (fun _ _ _ h => h) (Or.inl ⟨by rfl, ?_⟩) hHeld ?_
        rotate_left
        · (intro w' hSw; clear hSw; go_simp; try with_reducible rfl)
        try simp only [Act.put, List.setIfInBounds_toArray, List.set_cons_zero, List.set_cons_succ]
        refine held_take 3 (some 46) (v := ?_) rfl rfl (by kernel_rfl) (by kernel_rfl) (by kernel_rfl) (fun _ _ _ h => h) (Or.inl ⟨by rfl, ?_⟩) hHeld ?_
        rotate_left
        · (intro w' hSw; have pf := (hSw.cell (p := ⟨gf, 0, none⟩) HL5.out.1).trans H5.out.c0; clear hSw; go_simp; try with_reducible rfl)
        try simp only [Act.put, List.setIfInBounds_toArray, List.set_cons_zero, List.set_cons_succ]
        refine held_take 4 (some 47) (v := .agg (k.cells).toArray) rfl rfl (by kernel_rfl) (by kernel_rfl) (by kernel_rfl) (fun _ _ _ h => h) (yieldsIf_load_mid (by rfl) 64 _ rfl g3 (0) rfl (k.cells) _ (fun w' h => rangeAt_block HK5.out (h.block g3 HL5.out.2.1)) Tryz.underlying64 rfl (sizeK HKO.out)) hHeld ?_
        try simp only [Act.put, List.setIfInBounds_toArray, List.set_cons_zero, List.set_cons_succ]
        refine wpAnyH_ready (rs := [5, 9]) (by kernel_rfl) (by simp) ?_
        refine AllReadyH.cons rfl (fun K hKK => ?_) (AllReadyH.cons rfl (fun K hKK => ?_) AllReadyH.nil)
        · go_simp
          go_at_call 79
          refine (HIG.out _ (hHeld)).mono ?_
          rintro e wc41 ⟨rfl, hc42⟩
          have hS43 := (hHeld).trans ((hc42).mono (hHeld).size)
          refine hKK.out _ _ hS43 (fun hHeld => ?_)
          clear hKK K
          try simp only [Act.put, List.setIfInBounds_toArray, List.set_cons_zero, List.set_cons_succ]
          refine held_take 6 (some 42) (v := ?_) rfl rfl (by kernel_rfl) (by kernel_rfl) (by kernel_rfl) (fun _ _ _ h => h) (Or.inl ⟨by rfl, ?_⟩) hHeld ?_
          rotate_left
          · (intro w' hSw; clear hSw; go_simp; try with_reducible rfl)
          try simp only [Act.put, List.setIfInBounds_toArray, List.set_cons_zero, List.set_cons_succ]
          refine held_take 7 (some 49) (v := ?_) rfl rfl (by kernel_rfl) (by kernel_rfl) (by kernel_rfl) (fun _ _ _ h => h) (Or.inl ⟨by rfl, ?_⟩) hHeld ?_
          rotate_left
          · (intro w' hSw; clear hSw; go_simp; try with_reducible rfl)
          try simp only [Act.put, List.setIfInBounds_toArray, List.set_cons_zero, List.set_cons_succ]
          refine held_take 8 (some 50) (v := ?_) rfl rfl (by kernel_rfl) (by kernel_rfl) (by kernel_rfl) (fun _ _ _ h => h) (Or.inl ⟨by rfl, ?_⟩) hHeld ?_
          rotate_left
          · (intro w' hSw; clear hSw; go_simp; try with_reducible rfl)
          try simp only [Act.put, List.setIfInBounds_toArray, List.set_cons_zero, List.set_cons_succ]
          refine wpAnyH_ready (rs := [9]) (by kernel_rfl) (by simp) ?_
          refine AllReadyH.cons rfl (fun K hKK => ?_) AllReadyH.nil
          have hga46 := (hHeld).size
          have hrA44 := heap_alloc_last wc41 (.cells (plC (0, 0)).toArray 82)
          have hS45 := (hHeld).alloc (hHeld).size (.cells (plC (0, 0)).toArray 82)
          refine step_val rfl (exec_alloc _ rfl (zeroPl _)) ?_
          refine hKK.out _ _ hS45 (fun hHeld => ?_)
          clear hKK K
          try simp only [Act.put, List.setIfInBounds_toArray, List.set_cons_zero, List.set_cons_succ]
          refine wpAnyH_ready (rs := [10]) (by kernel_rfl) (by simp) ?_
          refine AllReadyH.cons rfl (fun K hKK => ?_) AllReadyH.nil
          refine step_wp rfl (wp_store_row 82 _ _ rfl _ (plC p).toArray rfl rfl 82 (plC (0, 0)).toArray hrA44 (sizePlA _) rfl (all_one (plC_one _)) ?_)
          have hS47 := (hHeld).grown (grown_setRow (wc41.alloc (.cells (plC (0, 0)).toArray 82)) wc41.heap.size (plC p).toArray) (hHeld).size (fun k hk => by injection hk with hk; rw [← hk]; exact hga46)
          have hrF := setRow_heap _ _ _ (plC p).toArray _ _ hrA44
          refine hKK.out _ _ hS47 (fun hHeld => ?_)
          clear hKK K
          try simp only [Act.put, List.setIfInBounds_toArray, List.set_cons_zero, List.set_cons_succ]
          refine held_take 11 (some 11) (v := ?_) rfl rfl (by kernel_rfl) (by kernel_rfl) (by kernel_rfl) (fun _ _ _ h => h) (Or.inl ⟨by rfl, ?_⟩) hHeld ?_
          rotate_left
          · (intro w' hSw; clear hSw; go_simp; try with_reducible rfl)
          try simp only [Act.put, List.setIfInBounds_toArray, List.set_cons_zero, List.set_cons_succ]
          refine wpAnyH_done (by kernel_rfl) ?_ _
          have HB6 := Lib.hid hHeld
          have HRF := Lib.hid hrF
          have HGA := Lib.hid hga46
          clear hHeld hrF
          go_simp
          go_wp2_with fail
          go_meet
          case rel => exact ⟨_, rfl, rfl, HRF.out, HGA.out, HB6.out⟩
        · have hga50 := (hHeld).size
          have hrA48 := heap_alloc_last w5.drew (.cells (plC (0, 0)).toArray 82)
          have hS49 := (hHeld).alloc (hHeld).size (.cells (plC (0, 0)).toArray 82)
          refine step_val rfl (exec_alloc _ rfl (zeroPl _)) ?_
          refine hKK.out _ _ hS49 (fun hHeld => ?_)
          clear hKK K
          try simp only [Act.put, List.setIfInBounds_toArray, List.set_cons_zero, List.set_cons_succ]
          refine wpAnyH_ready (rs := [5]) (by kernel_rfl) (by simp) ?_
          refine AllReadyH.cons rfl (fun K hKK => ?_) AllReadyH.nil
          go_simp
          go_at_call 79
          refine (HIG.out _ (hHeld)).mono ?_
          rintro e wc51 ⟨rfl, hc52⟩
          have hS53 := (hHeld).trans ((hc52).mono (hHeld).size)
          have hrA54 := (hc52.block _ (row_lt hrA48)).trans hrA48
          refine hKK.out _ _ hS53 (fun hHeld => ?_)
          clear hKK K
          try simp only [Act.put, List.setIfInBounds_toArray, List.set_cons_zero, List.set_cons_succ]
          refine held_take 6 (some 42) (v := ?_) rfl rfl (by kernel_rfl) (by kernel_rfl) (by kernel_rfl) (fun _ _ _ h => h) (Or.inl ⟨by rfl, ?_⟩) hHeld ?_
          rotate_left
          · (intro w' hSw; clear hSw; go_simp; try with_reducible rfl)
          try simp only [Act.put, List.setIfInBounds_toArray, List.set_cons_zero, List.set_cons_succ]
          refine held_take 7 (some 49) (v := ?_) rfl rfl (by kernel_rfl) (by kernel_rfl) (by kernel_rfl) (fun _ _ _ h => h) (Or.inl ⟨by rfl, ?_⟩) hHeld ?_
          rotate_left
          · (intro w' hSw; clear hSw; go_simp; try with_reducible rfl)
          try simp only [Act.put, List.setIfInBounds_toArray, List.set_cons_zero, List.set_cons_succ]
          refine held_take 8 (some 50) (v := ?_) rfl rfl (by kernel_rfl) (by kernel_rfl) (by kernel_rfl) (fun _ _ _ h => h) (Or.inl ⟨by rfl, ?_⟩) hHeld ?_
          rotate_left
          · (intro w' hSw; clear hSw; go_simp; try with_reducible rfl)
          try simp only [Act.put, List.setIfInBounds_toArray, List.set_cons_zero, List.set_cons_succ]
          refine wpAnyH_ready (rs := [10]) (by kernel_rfl) (by simp) ?_
          refine AllReadyH.cons rfl (fun K hKK => ?_) AllReadyH.nil
          refine step_wp rfl (wp_store_row 82 _ _ rfl _ (plC p).toArray rfl rfl 82 (plC (0, 0)).toArray hrA54 (sizePlA _) rfl (all_one (plC_one _)) ?_)
          have hS55 := (hHeld).grown (grown_setRow wc51 w5.drew.heap.size (plC p).toArray) (hHeld).size (fun k hk => by injection hk with hk; rw [← hk]; exact hga50)
          have hrF := setRow_heap _ _ _ (plC p).toArray _ _ hrA54
          refine hKK.out _ _ hS55 (fun hHeld => ?_)
          clear hKK K
          try simp only [Act.put, List.setIfInBounds_toArray, List.set_cons_zero, List.set_cons_succ]
          refine held_take 11 (some 11) (v := ?_) rfl rfl (by kernel_rfl) (by kernel_rfl) (by kernel_rfl) (fun _ _ _ h => h) (Or.inl ⟨by rfl, ?_⟩) hHeld ?_
          rotate_left
          · (intro w' hSw; clear hSw; go_simp; try with_reducible rfl)
          try simp only [Act.put, List.setIfInBounds_toArray, List.set_cons_zero, List.set_cons_succ]
          refine wpAnyH_done (by kernel_rfl) ?_ _
          have HB6 := Lib.hid hHeld
          have HRF := Lib.hid hrF
          have HGA := Lib.hid hga50
          clear hHeld hrF
          go_simp
          go_wp2_with fail
          go_meet
          case rel => exact ⟨_, rfl, rfl, HRF.out, HGA.out, HB6.out⟩
        --]7
      case rest =>
        obtain ⟨g10, rfl, rfl, hr10, hg10, hbc⟩ := hcut
        have hsc := hbc.size
        have H6 := Lib.hid (H5.out.below hbc)
        have HC6 := Lib.hid (HC5.out.trans (Chg.belowAt hbc))
        have HR6 := Lib.hid ((hbc.block (g3 + 1) HL5.out.2.2).trans HR5.out)
        have HL6 := Lib.hid (show gf < wc.heap.size ∧ g3 < wc.heap.size ∧ g3 + 1 < wc.heap.size from by have := HL5.out; omega)
        have HG6 := Lib.hid (show g3 ≤ g10 from by have := HL5.out; omega)
        have HR10 := Lib.hid hr10
        have c4 := H6.out.c4
        have fr4 := free_row H6.out.row 4
        clear hbc hr10 hg10 hsc H5 HC5 HK5 HR5 HL5 HIG
        go_upto_region 10 with (fail)
        clear c4 fr4
        have hg6 := grown_setCell wc gf 4 (.int .i64 (wrap64 (a2 + 1)))
        have hs6 := hg6.size
        have hz10 := HZ.out g10 HG6.out
        have hne : ¬ some (g3 + 1) = some gf ∧ ¬ some g10 = some gf := by
          have h1 := H6.out.kf
          have h3 := HZ.out (g3 + 1) (by omega)
          exact ⟨fun e => by injection e with e; rw [e] at h3; omega, fun e => by injection e with e; rw [e] at hz10; omega⟩
        have H7 := Lib.hid (H6.out.inc4 (wrap64 (a2 + 1)))
        have HC7 := Lib.hid (HC6.out.trans2 (Chg.of hg6) (fun x _ e => by injection e with e; rw [e]; have := HH.out.kf; omega))
        have HR7 := Lib.hid ((hg6.block (g3 + 1) HL6.out.2.2 hne.1).trans HR6.out)
        have hl10 := row_lt HR10.out
        have hr107 := (hg6.block g10 hl10 hne.2).trans HR10.out
        have HK10 := Lib.hid (show (wc.setCell ⟨gf, 4, none⟩ (.int .i64 (wrap64 (a2 + 1)))).rangeAt g10 0 (plC p) from range_row hr107)
        have HR107 := Lib.hid hr107
        have HL7 := Lib.hid (show gf < (wc.setCell ⟨gf, 4, none⟩ (.int .i64 (wrap64 (a2 + 1)))).heap.size ∧ g3 < (wc.setCell ⟨gf, 4, none⟩ (.int .i64 (wrap64 (a2 + 1)))).heap.size ∧ g3 + 1 < (wc.setCell ⟨gf, 4, none⟩ (.int .i64 (wrap64 (a2 + 1)))).heap.size ∧ g10 < (wc.setCell ⟨gf, 4, none⟩ (.int .i64 (wrap64 (a2 + 1)))).heap.size from by have := HL6.out; omega)
        have HN7 := Lib.hid (show ¬ κ g10 = 4 from by omega)
        have HN7' := Lib.hid (show ¬ κ gf = 4 from by have := HH.out.kf; omega)
        clear hg6 hs6 H6 HC6 HR6 HL6 hl10 hz10 hr107 HR10 hne
        generalize wc.setCell ⟨gf, 4, none⟩ (.int .i64 (wrap64 (a2 + 1))) = w7 at *
        generalize wrap64 (a2 + 1) = b2 at *
        have HG7 := Lib.hid (show g3 ≤ w7.heap.size from by have := HL7.out; omega)
        have HSF := Lib.hid (FShelf_any (w := w7.drew) (H7.out.below (Below.refl _ _).drew).all hm1 p.1 HP.out.1 ⟨k, p, HLN.out, rfl⟩)
        --[10
        refine wp_region_held_drew (S := fun w' => Chg (fun x => κ x = 4) w7 w') (by kernel_rfl) (((Chg.refl _ _).drewN 1)) (fun hHeld => ?_)
        refine held_take 0 (some 59) (v := ?_) rfl rfl (by kernel_rfl) (by kernel_rfl) (by kernel_rfl) (fun _ _ _ h => h) (Or.inl ⟨by rfl, ?_⟩) hHeld ?_
        rotate_left
        · (intro w' hSw; clear hSw; go_simp; try with_reducible rfl)
        try simp only [Act.put, List.setIfInBounds_toArray, List.set_cons_zero, List.set_cons_succ]
        refine held_take 1 (some 60) (v := ?_) rfl rfl (by kernel_rfl) (by kernel_rfl) (by kernel_rfl) (fun _ _ _ h => h) (Or.inl ⟨by rfl, ?_⟩) hHeld ?_
        rotate_left
        · (intro w' hSw; clear hSw; go_simp; try with_reducible rfl)
        try simp only [Act.put, List.setIfInBounds_toArray, List.set_cons_zero, List.set_cons_succ]
        refine held_take 2 (some 61) (v := ?_) rfl rfl (by kernel_rfl) (by kernel_rfl) (by kernel_rfl) (fun _ _ _ h => h) (Or.inl ⟨by rfl, ?_⟩) hHeld ?_
        rotate_left
        · (intro w' hSw; clear hSw; go_simp; try with_reducible rfl)
        try simp only [Act.put, List.setIfInBounds_toArray, List.set_cons_zero, List.set_cons_succ]
        refine held_take 3 (some 62) (v := ?_) rfl rfl (by kernel_rfl) (by kernel_rfl) (by kernel_rfl) (fun _ _ _ h => h) (Or.inl ⟨by rfl, ?_⟩) hHeld ?_
        rotate_left
        · (intro w' hSw; have pf := (hSw.cell (p := ⟨gf, 2, none⟩) HL7.out.1 HN7'.out).trans H7.out.c2; clear hSw; go_simp; try with_reducible rfl)
        try simp only [Act.put, List.setIfInBounds_toArray, List.set_cons_zero, List.set_cons_succ]
        refine held_take 4 (some 63) (v := ?_) rfl rfl (by kernel_rfl) (by kernel_rfl) (by kernel_rfl) (fun _ _ _ h => h) (Or.inl ⟨by rfl, ?_⟩) hHeld ?_
        rotate_left
        · (intro w' hSw; clear hSw; go_simp; try with_reducible rfl)
        try simp only [Act.put, List.setIfInBounds_toArray, List.set_cons_zero, List.set_cons_succ]
        refine held_take 5 (some 64) (v := ?_) rfl rfl (by kernel_rfl) (by kernel_rfl) (by kernel_rfl) (fun _ _ _ h => h) (Or.inl ⟨by rfl, ?_⟩) hHeld ?_
        rotate_left
        · (intro w' hSw; have pf := (show _ = some _ from range_chg HK10.out hSw HL7.out.2.2.2 HN7.out 0 _ rfl); clear hSw; go_simp; try with_reducible rfl)
        try simp only [Act.put, List.setIfInBounds_toArray, List.set_cons_zero, List.set_cons_succ]
        refine held_take 6 (some 65) (v := ?_) rfl rfl (by kernel_rfl) (by kernel_rfl) (by kernel_rfl) (fun _ _ _ h => h) (Or.inl ⟨by rfl, ?_⟩) hHeld ?_
        rotate_left
        · (intro w' hSw; clear hSw; go_simp; try with_reducible rfl)
        try simp only [Act.put, List.setIfInBounds_toArray, List.set_cons_zero, List.set_cons_succ]
        refine held_take 7 (some 66) (v := ?_) rfl rfl (by kernel_rfl) (by kernel_rfl) (by kernel_rfl) (fun _ _ _ h => h) (Or.inl ⟨by rfl, ?_⟩) hHeld ?_
        rotate_left
        · (intro w' hSw; clear hSw; go_simp; try with_reducible rfl)
        try simp only [Act.put, List.setIfInBounds_toArray, List.set_cons_zero, List.set_cons_succ]
        refine held_take 8 (some 67) (v := ?_) rfl rfl (by kernel_rfl) (by kernel_rfl) (by kernel_rfl) (fun _ _ _ h => h) (Or.inl ⟨by rfl, ?_⟩) hHeld ?_
        rotate_left
        · (intro w' hSw; have pf := (show _ = some _ from range_chg HK10.out hSw HL7.out.2.2.2 HN7.out 0 _ rfl); clear hSw; go_simp; try with_reducible rfl)
        try simp only [Act.put, List.setIfInBounds_toArray, List.set_cons_zero, List.set_cons_succ]
        refine held_take 10 (some 69) (v := ?_) rfl rfl (by kernel_rfl) (by kernel_rfl) (by kernel_rfl) (fun _ _ _ h => h) (Or.inl ⟨by rfl, ?_⟩) hHeld ?_
        rotate_left
        · (intro w' hSw; clear hSw; go_simp; try with_reducible rfl)
        try simp only [Act.put, List.setIfInBounds_toArray, List.set_cons_zero, List.set_cons_succ]
        refine wpAnyH_ready (rs := [9]) (by kernel_rfl) (by simp) ?_
        refine AllReadyH.cons rfl (fun K hKK => ?_) AllReadyH.nil
        go_simp
        go_at_call 81
        refine (HSF.out).mono ?_
        rintro e w8 ⟨v8, l8, rfl, ho8, hl8, hn8, hc56⟩
        have hS57 := (hHeld).trans (Chg.belowAt hc56)
        obtain ⟨A8, c8, rfl⟩ := ownR_form ho8
        have HB8 := Lib.hid (show Below w7.heap.size w7 w8 from (Below.refl w7.heap.size w7).drew.trans (hc56.mono (Below.refl w7.heap.size w7).drew.size))
        have HLD := Lib.hid (CLoad_any (w := w8) (H7.out.below HB8.out).ca p.1 HP.out.1 _ A8 c8 l8 ho8 hn8 hl8 (fun ad e => by have h1 := (ho8.lt ad.block (by rw [e]; rfl)).1; have h2 := HZ.out ad.block (Nat.le_trans HG7.out h1); omega) draw hd)
        refine hKK.out _ _ hS57 (fun hHeld => ?_)
        clear hKK K
        try simp only [Act.put, List.setIfInBounds_toArray, List.set_cons_zero, List.set_cons_succ]
        refine wpAnyH_ready (rs := [11]) (by kernel_rfl) (by simp) ?_
        refine AllReadyH.cons rfl (fun K hKK => ?_) AllReadyH.nil
        go_simp
        go_at_call 80
        refine (HLD.out).mono ?_
        rintro e w9 ⟨rfl, hc9, hca9⟩
        have hS59 := (show Chg (fun x => κ x = 4) w7 w8 from Chg.belowAt HB8.out).trans hc9
        refine hKK.out _ _ hS59 (fun hHeld => ?_)
        clear hKK K
        try simp only [Act.put, List.setIfInBounds_toArray, List.set_cons_zero, List.set_cons_succ]
        refine wpAnyH_done (by kernel_rfl) ?_ _
        have HC9 := Lib.hid hc9
        have HCA9 := Lib.hid hca9
        clear hHeld hc9 hca9 ho8 hl8
        --]10
        have H8 := Lib.hid (H7.out.below HB8.out)
        have H9 := Lib.hid (H8.out.cch HC9.out HCA9.out)
        have hs78 := HB8.out.size
        have hs89 := HC9.out.size
        have HC9' := Lib.hid ((HC7.out.trans (Chg.belowAt HB8.out)).trans2 HC9.out (fun x _ e => by omega))
        have hz3 := HZ.out (g3 + 1) (by omega)
        have HR9 := Lib.hid ((HC9.out.block (g3 + 1) (by have := HL7.out; omega) (by omega)).trans ((HB8.out.block (g3 + 1) HL7.out.2.2.1).trans HR7.out))
        have HR10 := Lib.hid ((HC9.out.block g10 (by have := HL7.out; omega) HN7.out).trans ((HB8.out.block g10 HL7.out.2.2.2).trans HR107.out))
        have HK10' := Lib.hid (show w9.rangeAt g10 0 (plC p) from range_row HR10.out)
        have HL9 := Lib.hid (show g3 + 1 < w8.heap.size ∧ g3 ≤ w8.heap.size from by have := HL7.out; omega)
        clear hs78 hs89 hz3 H7 HC7 HR7 HL7 HK10 HR107 HG7 HC9 HCA9 H8 HB8 HLD HSF
        go_wp2_with (first | (with_reducible refine Go.wpList_load_mid rfl 82 _ rfl g10 0 rfl (plC p) _ HK10'.out Tryz.underlying82 rfl (sizePl p) ?_) | (with_reducible refine wpList_store_row rfl 82 _ _ rfl (g3 + 1) (plC p).toArray rfl rfl 82 #[.int .i64 0, .int .i64 0] HR9.out (sizePlA p) rfl (all_one (plC_one _)) ?_))
        refine bodyPost_ret (v := .tuple #[plV p, .bool true]) ?_ rfl ?_
        · exact results_cell_tmp_row rfl _ _ (g3 + 1) 82 (plC p).toArray (0, 0) _ _ rfl rfl (setRow_heap _ _ _ _ _ _ HR9.out) Tryz.underlying82 rfl (sizePlA p)
        · have hgr := grown_setRow w9 (g3 + 1) (plC p).toArray
          have hz := HZ.out (g3 + 1) (by omega)
          refine ⟨rfl, HC9'.out.trans2 (Chg.of hgr) (fun x hx e => ?_), _, b1, b2, H9.out.chg (Chg.of hgr) (fun x hx e => ?_), fun x hx => (cut_from x hx).imp id (fun h => by have := HL9.out; have := HS2.out; omega)⟩
          · injection e with e; have := HS2.out; omega
          · injection e with e
            rw [e, cut_old HL9.out.1] at hx; exact hx hz
end
/-- find.Find, of a chunk that is there. -/
theorem FFind_any {w : World} {gf bits probes room : Nat} {L : List (Ky × (Nat × Nat))} {F : Nat → Prop} (h : Fd w gf bits probes room L F) (hm1 : L.length < 1000000000) (k : Ky) (hk : k.Ok) (p : Nat × Nat) (hL : lkp L k = some p) (hp : IntOk p.1 ∧ IntOk p.2) (draw : Nat) (hd : draw < 18446744073709551616) :
    Calls Tryz.prog 61 #[.pointer (some ⟨gf, 0, none⟩), .agg k.cells.toArray, .int .u64 draw] w fun e w' => e = .returned (.tuple #[plV p, .bool true]) ∧ Chg F w w' ∧ Fd w' gf bits probes room L (fun x => F x ∨ w.heap.size ≤ x) := by
  obtain ⟨κ, gi, gb, gh, gc, f, a1, a2, a, b⟩ := h.ex
  refine (FFind_fm a hm1 k hk p hL hp draw hd).mono ?_
  rintro e w' ⟨rfl, hc, κ', b1, b2, h', hf⟩
  exact ⟨rfl, hc.mono b, κ', gi, gb, gh, gc, f, b1, b2, h', fun x hx => (hf x hx).imp (b x) id⟩
end Go.Proofs.YtcklcffepedklaaGreat
