/- Texts of the proof, one behind the other: home: load. home: Load. home: write. -/
import Derived.Test.YtcklcffepedklaaGreatDoorM25
import Derived.Test.YtcklcffepedklaaGreatDoorM26
namespace Go.Proofs.YtcklcffepedklaaGreatDoor
open Go.RowKit

theorem nwS0 {acc : Slt × Nat} (h : acc.1.gen = 0 → acc = noS) (o : Option Slt) (i : Nat) : (nwS acc o i).1.gen = 0 → nwS acc o i = noS := by
  cases o with
  | none => exact h
  | some s =>
    rw [nwS]
    split
    · intro h0; have h0' : s.gen = 0 := h0; omega
    · exact h
theorem newer0 (a b : List Int) : (newerS a b).1.gen = 0 → newerS a b = noS := nwS0 (nwS0 (fun _ => rfl) _ _) _ _
theorem newerR_eq (a b : List Int) : newerR (newerS a b) = .tuple #[.agg (slC (newerS a b).1).toArray, .int .i64 (newerS a b).2, .int .i64 (if (newerS a b).1.gen = 0 then 100 else 0)] := by
  unfold newerR
  by_cases h : (newerS a b).1.gen = 0
  · rw [if_pos h, if_pos h, newer0 a b h]; rfl
  · rw [if_neg h, if_neg h]
theorem results_load_row {P : Program} {fn : Func} {a p u v : Tmp} {ty : TypeId} (h : fn.results = #[.tmp a, .cell p ty, .tmp u, .tmp v]) (tmps : Array Value) (w : World) (g : Nat) (t : TypeId) (cs : Array Value) (fr : Nat × Nat) (d : TypeDesc) (v1 v2 v3 : Value)
    (hp : tmps.getD p undef = .pointer (some ⟨g, 0, none⟩)) (hv1 : tmps.getD a undef = v1) (hv : tmps.getD u undef = v2) (hv3 : tmps.getD v undef = v3) (hg : w.heap[g]? = some (.cells cs t fr))
    (hu : P.underlying ty = some d) (hd : (match d with | .struct _ | .array _ _ => true | _ => false) = true) (hi : (P.info? ty).map (·.size) = some cs.size) :
    (results fn tmps).run P w = .ok (.tuple #[v1, .agg cs, v2, v3]) w := by
  have hp' : tmps[p]?.getD undef = .pointer (some ⟨g, 0, none⟩) := by simpa using hp
  have hv1' : tmps[a]?.getD undef = v1 := by simpa using hv1
  have hv' : tmps[u]?.getD undef = v2 := by simpa using hv
  have hv3' : tmps[v]?.getD undef = v3 := by simpa using hv3
  simp [results, h, hp', hv1', hv', hv3', asAddr, run_loadVar_row w g t ty cs fr d hg hu hd hi]
/-- What a disk's two slots say. -/
def twoS (B : List Int) : Slt × Nat := newerS (secL B 0) (secL B 1)
/-- What load answers. -/
def LdP (each : Nat) (d : Ds) (x : Slt × Nat) (w : World) (e : Ending) (w' : World) : Prop := Below w.heap.size w w' ∧ (x.1.gen = 0 → e = .returned (.tuple #[.slice none 0 0, .agg zSl, .int .i64 0, .int .i64 0])) ∧
  (x.1.gen ≠ 0 → ∃ A c, e = .returned (.tuple #[.slice A x.1.size c, .agg (slC x.1).toArray, .int .i64 x.2, .int .i64 0]) ∧ Rdd w w' A x.1.size c (rdL d.now (2 + x.1.area * each) x.1.size))
theorem Rdd.turn {w w0 w1 w' : World} {R : Nat → Prop} {A : Option Addr} {n c : Nat} {l : List Int} (h : Rdd w0 w1 A n c l) (hb : w.heap.size ≤ w0.heap.size) (hc : Chg R w1.drew w') (hR : ∀ y, w0.heap.size ≤ y → ¬ R y) : Rdd w w' A n c l where
  ints := Ints.chg (w := w1.drew) h.ints hc (fun ad e _ => by obtain ⟨g, rfl, h1, _⟩ := h.adr ad e; exact hR _ h1)
  cap := h.cap
  adr := fun ad e => by
    obtain ⟨g, hg, h1, h2⟩ := h.adr ad e
    exact ⟨g, hg, Nat.le_trans hb h1, Nat.lt_of_lt_of_le h2 hc.size⟩
  nil := h.nil
section
variable {w : World} {gh gd each S : Nat} {d : Ds} {F : Nat → Prop}
set_option maxRecDepth 20000 in
set_option maxHeartbeats 1600000 in
theorem load_any (hh : Hm w gh gd each) (h : Dk w gd S d F) (hd : d.dead = false) (he : each ≤ 8000) (hS : 2 + 2 * each ≤ S) (x : Slt × Nat) (hx : twoS d.now = x) (hv : x.1.gen ≠ 0 → x.1.area ≤ 1 ∧ x.1.size ≤ 128 * each ∧ sumI (rdL d.now (2 + x.1.area * each) x.1.size) = x.1.sum) :
    Calls Tryz.prog 29 #[.pointer (some ⟨gh, 0, none⟩)] w (LdP each d x w) := by
  have HRD := Lib.hid (fun (W : World) (hb : Below w.heap.size w W) => read_any (hh.below hb) (h.below hb) hd 0 256 2 (by decide) (by omega))
  have hrl : rdL d.now 0 256 = secL d.now 0 ++ secL d.now 1 := by
    have e1 := rdL_step d.now 0 1
    have e0 := rdL_step d.now 0 0
    rw [show 128 * (1 + 1) = 256 from rfl] at e1
    rw [e1, e0]; simp [rdL]
  have HSL := Lib.hid (show (Tryz.prog.info? 71).map (·.size) = some (slC x.1).length from rfl)
  have HON := Lib.hid (show ∀ v ∈ slC x.1, v.oneCell' = true from by simp [slC, Value.oneCell'])
  have hl0 : (secL d.now 0).length = 128 := secL_length h.len (by omega)
  have hl1 : (secL d.now 1).length = 128 := secL_length h.len (by omega)
  have HLL := Lib.hid (And.intro hl0 (And.intro hl1 (And.intro h.byt hrl)))
  have HB1 := Lib.hid ((Below.refl w.heap.size w).alloc (Nat.le_refl _) (.cells #[.int .u64 0, .int .u8 0, .int .u32 0, .int .u32 0] 71))
  have HR1 := Lib.hid (heap_alloc_last w (.cells #[.int .u64 0, .int .u8 0, .int .u32 0, .int .u32 0] 71))
  have hnr : newerR (newerS (secL d.now 0) (secL d.now 1)) = .tuple #[.agg (slC x.1).toArray, .int .i64 x.2, .int .i64 (if x.1.gen = 0 then 100 else 0)] := by rw [newerR_eq]; rw [twoS] at hx; rw [hx]
  obtain ⟨ec, hec⟩ : ∃ ec : Int, (if x.1.gen = 0 then (100 : Int) else 0) = ec := ⟨_, rfl⟩
  rw [hec] at hnr
  have HNR := Lib.hid hnr
  have HEC := Lib.hid hec
  clear hl0 hl1 hrl hnr hec hx
  go_enter Tryz.func29, Tryz.ntmps29
  go_wp2_with fail
  refine (HRD.out _ HB1.out).mono ?_
  rintro e w1 ⟨Ab, cb, rfl, hrd, hb1⟩
  obtain ⟨hI, hcap, hadr, _⟩ := hrd
  have HB2 := Lib.hid (HB1.out.trans (hb1.mono HB1.out.size))
  have HR2 := Lib.hid ((hb1.block _ (row_lt HR1.out)).trans HR1.out)
  obtain ⟨ad, rfl, _⟩ := hI 0 (by rw [HLL.out.2.2.2, List.length_append, HLL.out.1, HLL.out.2.1]; decide)
  obtain ⟨gb, rfl, _, hgbl⟩ := hadr ad rfl
  rw [HLL.out.2.2.2] at hI
  have hIa := hI.take 128
  have hIb := hI.drop 128
  rw [List.take_left' HLL.out.1] at hIa
  rw [List.drop_left' HLL.out.1, addr_add0, Nat.zero_add] at hIb
  have HNW := Lib.hid (fun (W : World) (hb : Below w1.heap.size w1 W) => by
    have := Newer_any gb 0 cb gb 128 (cb - 128) (secL d.now 0) (secL d.now 1) W HLL.out.1 HLL.out.2.1 (HLL.out.2.2.1.drop _ |>.take _) (HLL.out.2.2.1.drop _ |>.take _) (hIa.below hb) (hIb.below hb)
    rw [HNR.out] at this; exact this)
  have hcb1 : (256 : Int) ≤ (cb : Int) := by omega
  have hcb2 : (128 : Int) ≤ (cb : Int) := by omega
  have hcb3 : ¬ cb = 128 := by omega
  clear hI hIa hIb hadr hcap hb1
  go_upto_region 4 with (fail)
  have HFIN := Lib.hid (fun (g : Nat) (W : World) (hb : Below w1.heap.size w1 W) (hge : w1.heap.size ≤ g) (hr : W.heap[g]? = some (.cells zSl 71 (0, 0))) => by
    have e : (zSl.toList.take 0 ++ slC x.1 ++ zSl.toList.drop (0 + (slC x.1).length)).toArray = (slC x.1).toArray := by simp [slC, zSl]
    have hc := hb.grown (grown_setRow W g (zSl.toList.take 0 ++ slC x.1 ++ zSl.toList.drop (0 + (slC x.1).length)).toArray) hb.size (fun k hk => by injection hk with hk; omega)
    have hr2 := setRow_heap W g _ (zSl.toList.take 0 ++ slC x.1 ++ zSl.toList.drop (0 + (slC x.1).length)).toArray _ _ hr
    have : (W.setRow g (zSl.toList.take 0 ++ slC x.1 ++ zSl.toList.drop (0 + (slC x.1).length)).toArray).heap[g]? = some (.cells (slC x.1).toArray 71 (0, 0)) := by rw [hr2, e]
    exact And.intro hc (And.intro hc (And.intro this hge)))
  --[4
  apply shared
  · intro final
    refine wp_region_held_drew (S := fun w' => Below w1.heap.size w1 w') (by kernel_rfl) (((Below.refl _ _).drew)) (fun hHeld => ?_)
    refine held_take 0 (some 21) (v := ?_) rfl rfl (by kernel_rfl) (by kernel_rfl) (by kernel_rfl) (fun _ _ _ h => h) (Or.inl ⟨by rfl, ?_⟩) hHeld ?_
    rotate_left
    · (intro w' hSw; clear hSw; go_simp; try with_reducible rfl)
    try simp only [Act.put, List.setIfInBounds_toArray, List.set_cons_zero, List.set_cons_succ]
    refine held_take 1 (some 22) (v := ?_) rfl rfl (by kernel_rfl) (by kernel_rfl) (by kernel_rfl) (fun _ _ _ h => h) (Or.inl ⟨by rfl, ?_⟩) hHeld ?_
    rotate_left
    · (intro w' hSw; clear hSw; go_simp; try with_reducible rfl)
    try simp only [Act.put, List.setIfInBounds_toArray, List.set_cons_zero, List.set_cons_succ]
    refine held_take 2 (some 23) (v := ?_) rfl rfl (by kernel_rfl) (by kernel_rfl) (by kernel_rfl) (fun _ _ _ h => h) (Or.inl ⟨by rfl, ?_⟩) hHeld ?_
    rotate_left
    · (intro w' hSw; clear hSw; go_simp; try with_reducible rfl)
    try simp only [Act.put, List.setIfInBounds_toArray, List.set_cons_zero, List.set_cons_succ]
    refine held_take 3 (some 24) (v := ?_) rfl rfl (by kernel_rfl) (by kernel_rfl) (by kernel_rfl) (fun _ _ _ h => h) (Or.inl ⟨by rfl, ?_⟩) hHeld ?_
    rotate_left
    · (intro w' hSw; clear hSw; go_simp; try with_reducible rfl)
    try simp only [Act.put, List.setIfInBounds_toArray, List.set_cons_zero, List.set_cons_succ]
    refine wpAnyH_ready (rs := [4, 9]) (by kernel_rfl) (by simp) ?_
    refine AllReadyH.cons rfl (fun K hKK => ?_) (AllReadyH.cons rfl (fun K hKK => ?_) AllReadyH.nil)
    · go_simp
      go_at_call 58
      refine (HNW.out (w1.drew) (hHeld)).mono ?_
      rintro e wnc1 ⟨rfl, hbnc1⟩
      have hSc1 := (hHeld).trans (hbnc1.mono (hHeld).size)
      refine hKK.out _ _ hSc1 (fun hHeld => ?_)
      clear hKK K
      try simp only [Act.put, List.setIfInBounds_toArray, List.set_cons_zero, List.set_cons_succ]
      refine held_take 5 (some 20) (v := ?_) rfl rfl (by kernel_rfl) (by kernel_rfl) (by kernel_rfl) (fun _ _ _ h => h) (Or.inl ⟨by rfl, ?_⟩) hHeld ?_
      rotate_left
      · (intro w' hSw; clear hSw; go_simp; try with_reducible rfl)
      try simp only [Act.put, List.setIfInBounds_toArray, List.set_cons_zero, List.set_cons_succ]
      refine held_take 6 (some 26) (v := ?_) rfl rfl (by kernel_rfl) (by kernel_rfl) (by kernel_rfl) (fun _ _ _ h => h) (Or.inl ⟨by rfl, ?_⟩) hHeld ?_
      rotate_left
      · (intro w' hSw; clear hSw; go_simp; try with_reducible rfl)
      try simp only [Act.put, List.setIfInBounds_toArray, List.set_cons_zero, List.set_cons_succ]
      refine held_take 7 (some 27) (v := ?_) rfl rfl (by kernel_rfl) (by kernel_rfl) (by kernel_rfl) (fun _ _ _ h => h) (Or.inl ⟨by rfl, ?_⟩) hHeld ?_
      rotate_left
      · (intro w' hSw; clear hSw; go_simp; try with_reducible rfl)
      try simp only [Act.put, List.setIfInBounds_toArray, List.set_cons_zero, List.set_cons_succ]
      refine held_take 8 (some 28) (v := ?_) rfl rfl (by kernel_rfl) (by kernel_rfl) (by kernel_rfl) (fun _ _ _ h => h) (Or.inl ⟨by rfl, ?_⟩) hHeld ?_
      rotate_left
      · (intro w' hSw; clear hSw; go_simp; try with_reducible rfl)
      try simp only [Act.put, List.setIfInBounds_toArray, List.set_cons_zero, List.set_cons_succ]
      refine wpAnyH_ready (rs := [9]) (by kernel_rfl) (by simp) ?_
      refine AllReadyH.cons rfl (fun K hKK => ?_) AllReadyH.nil
      have hrowa2 := heap_alloc_last (wnc1) (.cells zSl 71)
      have hSa2 := (hHeld).alloc (hHeld).size (.cells zSl 71)
      have hge := (hHeld).size
      refine step_val rfl (exec_alloc _ rfl (zeroSl _)) ?_
      generalize (wnc1).heap.size = g8 at hrowa2 hge ⊢
      generalize (wnc1).alloc (.cells zSl 71) = w8a2 at hrowa2 hSa2 ⊢
      refine hKK.out _ _ hSa2 (fun hHeld => ?_)
      clear hKK K
      try simp only [Act.put, List.setIfInBounds_toArray, List.set_cons_zero, List.set_cons_succ]
      refine wpAnyH_ready (rs := [10]) (by kernel_rfl) (by simp) ?_
      refine AllReadyH.cons rfl (fun K hKK => ?_) AllReadyH.nil
      have hfins3 := HFIN.out (g8) (w8a2) (hHeld) hge hrowa2
      refine step_skip rfl (exec_store_mid 71 (.tmp 8) (.tmp 26) rfl (g8) 0 (slC x.1) (by go_simp) (by go_simp) 71 zSl hrowa2 HSL.out (Nat.le_refl _) HON.out) ?_
      refine hKK.out _ _ hfins3.1 (fun hHeld => ?_)
      clear hKK K
      try simp only [Act.put, List.setIfInBounds_toArray, List.set_cons_zero, List.set_cons_succ]
      refine held_take 11 (some 9) (v := ?_) rfl rfl (by kernel_rfl) (by kernel_rfl) (by kernel_rfl) (fun _ _ _ h => h) (Or.inl ⟨by rfl, ?_⟩) hHeld ?_
      rotate_left
      · (intro w' hSw; clear hSw; go_simp; try with_reducible rfl)
      try simp only [Act.put, List.setIfInBounds_toArray, List.set_cons_zero, List.set_cons_succ]
      refine held_take 12 (some 7) (v := ?_) rfl rfl (by kernel_rfl) (by kernel_rfl) (by kernel_rfl) (fun _ _ _ h => h) (Or.inl ⟨by rfl, ?_⟩) hHeld ?_
      rotate_left
      · (intro w' hSw; clear hSw; go_simp; try with_reducible rfl)
      try simp only [Act.put, List.setIfInBounds_toArray, List.set_cons_zero, List.set_cons_succ]
      refine wpAnyH_done (by kernel_rfl) ?_ _
      have hfin := hfins3.2
      clear hHeld
      clear hfins3 hrowa2 hge
      generalize (w8a2).setRow g8 (zSl.toList.take 0 ++ slC x.1 ++ zSl.toList.drop (0 + (slC x.1).length)).toArray = w8 at hfin ⊢
      go_simp
      all_goals (revert hfin w8 g8; exact final)
    · have hrowa4 := heap_alloc_last (w1.drew) (.cells zSl 71)
      have hSa4 := (hHeld).alloc (hHeld).size (.cells zSl 71)
      have hge := (hHeld).size
      refine step_val rfl (exec_alloc _ rfl (zeroSl _)) ?_
      generalize (w1.drew).heap.size = g8 at hrowa4 hge ⊢
      generalize (w1.drew).alloc (.cells zSl 71) = w8a4 at hrowa4 hSa4 ⊢
      refine hKK.out _ _ hSa4 (fun hHeld => ?_)
      clear hKK K
      try simp only [Act.put, List.setIfInBounds_toArray, List.set_cons_zero, List.set_cons_succ]
      refine wpAnyH_ready (rs := [4]) (by kernel_rfl) (by simp) ?_
      refine AllReadyH.cons rfl (fun K hKK => ?_) AllReadyH.nil
      go_simp
      go_at_call 58
      refine (HNW.out (w8a4) (hHeld)).mono ?_
      rintro e wnc5 ⟨rfl, hbnc5⟩
      have hSc5 := (hHeld).trans (hbnc5.mono (hHeld).size)
      have hrowc5 := (hbnc5.block _ (row_lt hrowa4)).trans hrowa4
      refine hKK.out _ _ hSc5 (fun hHeld => ?_)
      clear hKK K
      try simp only [Act.put, List.setIfInBounds_toArray, List.set_cons_zero, List.set_cons_succ]
      refine held_take 5 (some 20) (v := ?_) rfl rfl (by kernel_rfl) (by kernel_rfl) (by kernel_rfl) (fun _ _ _ h => h) (Or.inl ⟨by rfl, ?_⟩) hHeld ?_
      rotate_left
      · (intro w' hSw; clear hSw; go_simp; try with_reducible rfl)
      try simp only [Act.put, List.setIfInBounds_toArray, List.set_cons_zero, List.set_cons_succ]
      refine held_take 6 (some 26) (v := ?_) rfl rfl (by kernel_rfl) (by kernel_rfl) (by kernel_rfl) (fun _ _ _ h => h) (Or.inl ⟨by rfl, ?_⟩) hHeld ?_
      rotate_left
      · (intro w' hSw; clear hSw; go_simp; try with_reducible rfl)
      try simp only [Act.put, List.setIfInBounds_toArray, List.set_cons_zero, List.set_cons_succ]
      refine held_take 7 (some 27) (v := ?_) rfl rfl (by kernel_rfl) (by kernel_rfl) (by kernel_rfl) (fun _ _ _ h => h) (Or.inl ⟨by rfl, ?_⟩) hHeld ?_
      rotate_left
      · (intro w' hSw; clear hSw; go_simp; try with_reducible rfl)
      try simp only [Act.put, List.setIfInBounds_toArray, List.set_cons_zero, List.set_cons_succ]
      refine held_take 8 (some 28) (v := ?_) rfl rfl (by kernel_rfl) (by kernel_rfl) (by kernel_rfl) (fun _ _ _ h => h) (Or.inl ⟨by rfl, ?_⟩) hHeld ?_
      rotate_left
      · (intro w' hSw; clear hSw; go_simp; try with_reducible rfl)
      try simp only [Act.put, List.setIfInBounds_toArray, List.set_cons_zero, List.set_cons_succ]
      refine wpAnyH_ready (rs := [10]) (by kernel_rfl) (by simp) ?_
      refine AllReadyH.cons rfl (fun K hKK => ?_) AllReadyH.nil
      have hfins6 := HFIN.out (g8) (wnc5) (hHeld) hge hrowc5
      refine step_skip rfl (exec_store_mid 71 (.tmp 8) (.tmp 26) rfl (g8) 0 (slC x.1) (by go_simp) (by go_simp) 71 zSl hrowc5 HSL.out (Nat.le_refl _) HON.out) ?_
      refine hKK.out _ _ hfins6.1 (fun hHeld => ?_)
      clear hKK K
      try simp only [Act.put, List.setIfInBounds_toArray, List.set_cons_zero, List.set_cons_succ]
      refine held_take 11 (some 9) (v := ?_) rfl rfl (by kernel_rfl) (by kernel_rfl) (by kernel_rfl) (fun _ _ _ h => h) (Or.inl ⟨by rfl, ?_⟩) hHeld ?_
      rotate_left
      · (intro w' hSw; clear hSw; go_simp; try with_reducible rfl)
      try simp only [Act.put, List.setIfInBounds_toArray, List.set_cons_zero, List.set_cons_succ]
      refine held_take 12 (some 7) (v := ?_) rfl rfl (by kernel_rfl) (by kernel_rfl) (by kernel_rfl) (fun _ _ _ h => h) (Or.inl ⟨by rfl, ?_⟩) hHeld ?_
      rotate_left
      · (intro w' hSw; clear hSw; go_simp; try with_reducible rfl)
      try simp only [Act.put, List.setIfInBounds_toArray, List.set_cons_zero, List.set_cons_succ]
      refine wpAnyH_done (by kernel_rfl) ?_ _
      have hfin := hfins6.2
      clear hHeld
      clear hfins6 hrowa4 hrowc5 hge
      generalize (wnc5).setRow g8 (zSl.toList.take 0 ++ slC x.1 ++ zSl.toList.drop (0 + (slC x.1).length)).toArray = w8 at hfin ⊢
      go_simp
      all_goals (revert hfin w8 g8; exact final)
  --]4
  intro g8 w8 hfin
  have HB8 := Lib.hid (HB2.out.trans (hfin.1.mono HB2.out.size))
  have HR8 := Lib.hid hfin.2.1
  have HG8 := Lib.hid hfin.2.2
  have HRZ := Lib.hid ((hfin.1.block _ (row_lt HR2.out)).trans HR2.out)
  clear hfin
  by_cases h0 : x.1.gen = 0
  · have hec : ec = 100 := by rw [← HEC.out, if_pos h0]
    have H0 := Lib.hid h0
    clear h0
    subst hec
    have HON2 := Lib.hid (show ∀ v ∈ ([.int .u64 0, .int .u8 0, .int .u32 0, .int .u32 0] : List Value), v.oneCell' = true from by simp [Value.oneCell'])
    go_wp2_with (first | (with_reducible refine wpList_store_new rfl 71 _ _ rfl w.heap.size [.int .u64 0, .int .u8 0, .int .u32 0, .int .u32 0] rfl rfl 71 _ HRZ.out rfl rfl HON2.out w.heap.size w HB8.out (Nat.le_refl _) ?_; intro w9 hr9 hb9) | fail)
    refine bodyPost_ret (results_load_row rfl _ w9 w.heap.size 71 #[.int .u64 0, .int .u8 0, .int .u32 0, .int .u32 0] (0, 0) _ _ _ _ rfl rfl rfl rfl hr9.out Tryz.underlying71 rfl rfl) rfl ?_
    exact ⟨hb9.out, fun _ => rfl, fun h => absurd H0.out h⟩
  · have hec : ec = 0 := by rw [← HEC.out, if_neg h0]
    have H0 := Lib.hid h0
    clear h0
    subst hec
    obtain ⟨⟨ag, aa, az, am⟩, xat⟩ := x
    obtain ⟨hv1, hv2, hv3⟩ := hv H0.out
    simp only at hv1 hv2 hv3
    have HV := Lib.hid (And.intro hv1 (And.intro hv2 hv3))
    have hse : aa * each + each ≤ 2 * each := by rcases (show aa = 0 ∨ aa = 1 by omega) with rfl | rfl <;> omega
    have HCW := Lib.hid (fun (W : World) (hb : Below w8.heap.size w8 W) => show W.cell? ⟨g8, 1, none⟩ = some (.int .u8 (aa : Int)) ∧ W.cell? ⟨g8, 2, none⟩ = some (.int .u32 (az : Int)) ∧ W.cell? ⟨g8, 3, none⟩ = some (.int .u32 (am : Int)) from by
      have hr := (hb.block _ (row_lt HR8.out)).trans HR8.out
      exact ⟨cell_row' hr, cell_row' hr, cell_row' hr⟩)
    have HW8 := Lib.hid (fun (W : World) (hb : Below w8.heap.size w8 W) => (HB8.out.trans (hb.mono HB8.out.size) : Below w.heap.size w W))
    have HROOM := Lib.hid (fun (W : World) (hb : Below w8.heap.size w8 W) => Room_any (hh.below (HW8.out W hb)) (by omega))
    have HAREA := Lib.hid (fun (W : World) (hb : Below w8.heap.size w8 W) => area_any (hh.below (HW8.out W hb)) (by omega) aa (by omega))
    have HREAD := Lib.hid (fun (W : World) (hb : Below w8.heap.size w8 W) => read_any (hh.below (HW8.out W hb)) (h.below (HW8.out W hb)) hd (2 + aa * each) az each hv2 (by omega))
    have HLR := Lib.hid (show (rdL d.now (2 + aa * each) az).length = az from rdL_length h.len (by omega))
    have HBR := Lib.hid (rdL_bytes h.byt (2 + aa * each) az)
    obtain ⟨kr, hkr⟩ : ∃ k, 128 * each = k := ⟨_, rfl⟩
    obtain ⟨ka, hka⟩ : ∃ k, 2 + aa * each = k := ⟨_, rfl⟩
    have HKA := Lib.hid hka
    rw [hkr] at HROOM
    rw [hka] at HAREA HREAD HLR HBR HV
    have u1 : IntKind.u64.wrap (az : Int) = (az : Int) := by rw [IntKind.wrap_u64]; omega
    have u2 : IntKind.i64.wrap (az : Int) = (az : Int) := by rw [IntKind.wrap_i64]; omega
    have u3 : IntKind.u64.wrap (kr : Int) = (kr : Int) := by rw [IntKind.wrap_u64]; omega
    have q1 : ¬ (1 : Int) < (aa : Int) := by omega
    have q2 : ¬ (kr : Int) < (az : Int) := by omega
    have HSL := Lib.hid (show (Tryz.prog.info? 71).map (·.size) = some (slC ⟨ag, aa, az, am⟩).length from rfl)
    have HON := Lib.hid (show ∀ v ∈ slC ⟨ag, aa, az, am⟩, v.oneCell' = true from by simp [slC, Value.oneCell'])
    have hazb : az ≤ 500000000000 := by omega
    have HAZ := Lib.hid hazb
    clear hv1 hv2 hv3 hv hse hkr hka hazb
    go_upto_region 7 with (fail)
    --[7
    refine wp_region_held_drew (S := fun w' => Below w8.heap.size w8 w') (by kernel_rfl) (((Below.refl _ _).drew)) (fun hHeld => ?_)
    refine held_take 0 (some 32) (v := ?_) rfl rfl (by kernel_rfl) (by kernel_rfl) (by kernel_rfl) (fun _ _ _ h => h) (Or.inl ⟨by rfl, ?_⟩) hHeld ?_
    rotate_left
    · (intro w' hSw; clear hSw; go_simp; try with_reducible rfl)
    try simp only [Act.put, List.setIfInBounds_toArray, List.set_cons_zero, List.set_cons_succ]
    refine held_take 1 (some 33) (v := ?_) rfl rfl (by kernel_rfl) (by kernel_rfl) (by kernel_rfl) (fun _ _ _ h => h) (Or.inl ⟨by rfl, ?_⟩) hHeld ?_
    rotate_left
    · (intro w' hSw; have pf := (HCW.out w' hSw).1; clear hSw; go_simp; try with_reducible rfl)
    try simp only [Act.put, List.setIfInBounds_toArray, List.set_cons_zero, List.set_cons_succ]
    refine held_take 2 (some 34) (v := ?_) rfl rfl (by kernel_rfl) (by kernel_rfl) (by kernel_rfl) (fun _ _ _ h => h) (Or.inl ⟨by rfl, ?_⟩) hHeld ?_
    rotate_left
    · (intro w' hSw; clear hSw; go_simp; try with_reducible rfl)
    try simp only [Act.put, List.setIfInBounds_toArray, List.set_cons_zero, List.set_cons_succ]
    refine held_take 3 (some 35) (v := ?_) rfl rfl (by kernel_rfl) (by kernel_rfl) (by kernel_rfl) (fun _ _ _ h => h) (Or.inl ⟨by rfl, ?_⟩) hHeld ?_
    rotate_left
    · (intro w' hSw; clear hSw; go_simp; try with_reducible rfl)
    try simp only [Act.put, List.setIfInBounds_toArray, List.set_cons_zero, List.set_cons_succ]
    refine held_take 4 (some 36) (v := ?_) rfl rfl (by kernel_rfl) (by kernel_rfl) (by kernel_rfl) (fun _ _ _ h => h) (Or.inl ⟨by rfl, ?_⟩) hHeld ?_
    rotate_left
    · (intro w' hSw; clear hSw; go_simp; try with_reducible rfl)
    try simp only [Act.put, List.setIfInBounds_toArray, List.set_cons_zero, List.set_cons_succ]
    refine held_take 5 (some 37) (v := ?_) rfl rfl (by kernel_rfl) (by kernel_rfl) (by kernel_rfl) (fun _ _ _ h => h) (Or.inl ⟨by rfl, ?_⟩) hHeld ?_
    rotate_left
    · (intro w' hSw; have pf := (HCW.out w' hSw).2.1; clear hSw; go_simp; try with_reducible rfl)
    try simp only [Act.put, List.setIfInBounds_toArray, List.set_cons_zero, List.set_cons_succ]
    refine held_take 6 (some 38) (v := ?_) rfl rfl (by kernel_rfl) (by kernel_rfl) (by kernel_rfl) (fun _ _ _ h => h) (Or.inl ⟨by rfl, ?_⟩) hHeld ?_
    rotate_left
    · (intro w' hSw; clear hSw; go_simp; try with_reducible rfl)
    try simp only [Act.put, List.setIfInBounds_toArray, List.set_cons_zero, List.set_cons_succ]
    refine held_take 7 (some 39) (v := ?_) rfl rfl (by kernel_rfl) (by kernel_rfl) (by kernel_rfl) (fun _ _ _ h => h) (Or.inl ⟨by rfl, ?_⟩) hHeld ?_
    rotate_left
    · (intro w' hSw; clear hSw; go_simp; try with_reducible rfl)
    try simp only [Act.put, List.setIfInBounds_toArray, List.set_cons_zero, List.set_cons_succ]
    refine wpAnyH_ready (rs := [8]) (by kernel_rfl) (by simp) ?_
    refine AllReadyH.cons rfl (fun K hKK => ?_) AllReadyH.nil
    go_simp
    go_at_call 13
    refine (HROOM.out (w8.drew) (hHeld)).mono ?_
    rintro e w' ⟨rfl, rfl⟩
    refine hKK.out _ _ hHeld (fun hHeld => ?_)
    clear hKK K
    try simp only [Act.put, List.setIfInBounds_toArray, List.set_cons_zero, List.set_cons_succ]
    refine held_take 9 (some 41) (v := ?_) rfl rfl (by kernel_rfl) (by kernel_rfl) (by kernel_rfl) (fun _ _ _ h => h) (Or.inl ⟨by rfl, ?_⟩) hHeld ?_
    rotate_left
    · (intro w' hSw; clear hSw; go_simp; try with_reducible rfl)
    try simp only [Act.put, List.setIfInBounds_toArray, List.set_cons_zero, List.set_cons_succ]
    refine held_take 10 (some 42) (v := ?_) rfl rfl (by kernel_rfl) (by kernel_rfl) (by kernel_rfl) (fun _ _ _ h => h) (Or.inl ⟨by rfl, ?_⟩) hHeld ?_
    rotate_left
    · (intro w' hSw; clear hSw; go_simp; try with_reducible rfl)
    try simp only [Act.put, List.setIfInBounds_toArray, List.set_cons_zero, List.set_cons_succ]
    refine held_take 11 (some 43) (v := ?_) rfl rfl (by kernel_rfl) (by kernel_rfl) (by kernel_rfl) (fun _ _ _ h => h) (Or.inl ⟨by rfl, ?_⟩) hHeld ?_
    rotate_left
    · (intro w' hSw; clear hSw; go_simp; try with_reducible rfl)
    try simp only [Act.put, List.setIfInBounds_toArray, List.set_cons_zero, List.set_cons_succ]
    refine wpAnyH_done (by kernel_rfl) ?_ _
    --]7
    have HH7 := Lib.hid hHeld
    clear hHeld
    go_upto_region 9 with (fail)
    --[9
    refine wp_region_held_drew (S := fun w' => Below w8.heap.size w8 w') (by kernel_rfl) (HH7.out.drew) (fun hHeld => ?_)
    refine held_take 0 (some 46) (v := ?_) rfl rfl (by kernel_rfl) (by kernel_rfl) (by kernel_rfl) (fun _ _ _ h => h) (Or.inl ⟨by rfl, ?_⟩) hHeld ?_
    rotate_left
    · (intro w' hSw; clear hSw; go_simp; try with_reducible rfl)
    try simp only [Act.put, List.setIfInBounds_toArray, List.set_cons_zero, List.set_cons_succ]
    refine held_take 1 (some 47) (v := ?_) rfl rfl (by kernel_rfl) (by kernel_rfl) (by kernel_rfl) (fun _ _ _ h => h) (Or.inl ⟨by rfl, ?_⟩) hHeld ?_
    rotate_left
    · (intro w' hSw; clear hSw; go_simp; try with_reducible rfl)
    try simp only [Act.put, List.setIfInBounds_toArray, List.set_cons_zero, List.set_cons_succ]
    refine held_take 2 (some 48) (v := ?_) rfl rfl (by kernel_rfl) (by kernel_rfl) (by kernel_rfl) (fun _ _ _ h => h) (Or.inl ⟨by rfl, ?_⟩) hHeld ?_
    rotate_left
    · (intro w' hSw; clear hSw; go_simp; try with_reducible rfl)
    try simp only [Act.put, List.setIfInBounds_toArray, List.set_cons_zero, List.set_cons_succ]
    refine held_take 3 (some 49) (v := ?_) rfl rfl (by kernel_rfl) (by kernel_rfl) (by kernel_rfl) (fun _ _ _ h => h) (Or.inl ⟨by rfl, ?_⟩) hHeld ?_
    rotate_left
    · (intro w' hSw; have pf := (HCW.out w' hSw).1; clear hSw; go_simp; try with_reducible rfl)
    try simp only [Act.put, List.setIfInBounds_toArray, List.set_cons_zero, List.set_cons_succ]
    refine held_take 5 (some 51) (v := ?_) rfl rfl (by kernel_rfl) (by kernel_rfl) (by kernel_rfl) (fun _ _ _ h => h) (Or.inl ⟨by rfl, ?_⟩) hHeld ?_
    rotate_left
    · (intro w' hSw; clear hSw; go_simp; try with_reducible rfl)
    try simp only [Act.put, List.setIfInBounds_toArray, List.set_cons_zero, List.set_cons_succ]
    refine held_take 6 (some 52) (v := ?_) rfl rfl (by kernel_rfl) (by kernel_rfl) (by kernel_rfl) (fun _ _ _ h => h) (Or.inl ⟨by rfl, ?_⟩) hHeld ?_
    rotate_left
    · (intro w' hSw; have pf := (HCW.out w' hSw).2.1; clear hSw; go_simp; try with_reducible rfl)
    try simp only [Act.put, List.setIfInBounds_toArray, List.set_cons_zero, List.set_cons_succ]
    refine held_take 7 (some 53) (v := ?_) rfl rfl (by kernel_rfl) (by kernel_rfl) (by kernel_rfl) (fun _ _ _ h => h) (Or.inl ⟨by rfl, ?_⟩) hHeld ?_
    rotate_left
    · (intro w' hSw; clear hSw; go_simp; try with_reducible rfl)
    try simp only [Act.put, List.setIfInBounds_toArray, List.set_cons_zero, List.set_cons_succ]
    refine wpAnyH_ready (rs := [4]) (by kernel_rfl) (by simp) ?_
    refine AllReadyH.cons rfl (fun K hKK => ?_) AllReadyH.nil
    go_simp
    go_at_call 32
    refine (HAREA.out (w8.drew.drew) (hHeld)).mono ?_
    rintro e w' ⟨rfl, rfl⟩
    refine hKK.out _ _ hHeld (fun hHeld => ?_)
    clear hKK K
    try simp only [Act.put, List.setIfInBounds_toArray, List.set_cons_zero, List.set_cons_succ]
    refine wpAnyH_ready (rs := [8]) (by kernel_rfl) (by simp) ?_
    refine AllReadyH.cons rfl (fun K hKK => ?_) AllReadyH.nil
    go_simp
    go_at_call 57
    refine (HREAD.out (w8.drew.drew) (hHeld)).mono ?_
    rintro e w11 ⟨A11, c11, rfl, hrd11, hb11⟩
    have hS11 := (hHeld).trans (hb11.mono (hHeld).size)
    have HRD11 := Lib.hid (And.intro hrd11 (hHeld))
    clear hrd11
    refine hKK.out _ _ hS11 (fun hHeld => ?_)
    clear hKK K
    try simp only [Act.put, List.setIfInBounds_toArray, List.set_cons_zero, List.set_cons_succ]
    refine held_take 9 (some 45) (v := ?_) rfl rfl (by kernel_rfl) (by kernel_rfl) (by kernel_rfl) (fun _ _ _ h => h) (Or.inl ⟨by rfl, ?_⟩) hHeld ?_
    rotate_left
    · (intro w' hSw; clear hSw; go_simp; try with_reducible rfl)
    try simp only [Act.put, List.setIfInBounds_toArray, List.set_cons_zero, List.set_cons_succ]
    refine held_take 10 (some 55) (v := ?_) rfl rfl (by kernel_rfl) (by kernel_rfl) (by kernel_rfl) (fun _ _ _ h => h) (Or.inl ⟨by rfl, ?_⟩) hHeld ?_
    rotate_left
    · (intro w' hSw; clear hSw; go_simp; try with_reducible rfl)
    try simp only [Act.put, List.setIfInBounds_toArray, List.set_cons_zero, List.set_cons_succ]
    refine held_take 11 (some 56) (v := ?_) rfl rfl (by kernel_rfl) (by kernel_rfl) (by kernel_rfl) (fun _ _ _ h => h) (Or.inl ⟨by rfl, ?_⟩) hHeld ?_
    rotate_left
    · (intro w' hSw; clear hSw; go_simp; try with_reducible rfl)
    try simp only [Act.put, List.setIfInBounds_toArray, List.set_cons_zero, List.set_cons_succ]
    refine held_take 12 (some 10) (v := ?_) rfl rfl (by kernel_rfl) (by kernel_rfl) (by kernel_rfl) (fun _ _ _ h => h) (Or.inl ⟨by rfl, ?_⟩) hHeld ?_
    rotate_left
    · (intro w' hSw; clear hSw; go_simp; try with_reducible rfl)
    try simp only [Act.put, List.setIfInBounds_toArray, List.set_cons_zero, List.set_cons_succ]
    refine held_take 13 (some 7) (v := ?_) rfl rfl (by kernel_rfl) (by kernel_rfl) (by kernel_rfl) (fun _ _ _ h => h) (Or.inl ⟨by rfl, ?_⟩) hHeld ?_
    rotate_left
    · (intro w' hSw; clear hSw; go_simp; try with_reducible rfl)
    try simp only [Act.put, List.setIfInBounds_toArray, List.set_cons_zero, List.set_cons_succ]
    refine wpAnyH_done (by kernel_rfl) ?_ _
    --]9
    have HH9 := Lib.hid hHeld
    clear hHeld
    go_upto_region 12 with (fail)
    have HSUM := Lib.hid (CSum_any A11 az c11 (rdL d.now ka az) w11.drew HLR.out HAZ.out HRD11.out.1.ints HBR.out)
    --[12
    refine wp_region_held_drew (S := fun w' => Below w8.heap.size w8 w') (by kernel_rfl) (HH9.out.drew) (fun hHeld => ?_)
    refine held_take 0 (some 61) (v := ?_) rfl rfl (by kernel_rfl) (by kernel_rfl) (by kernel_rfl) (fun _ _ _ h => h) (Or.inl ⟨by rfl, ?_⟩) hHeld ?_
    rotate_left
    · (intro w' hSw; clear hSw; go_simp; try with_reducible rfl)
    try simp only [Act.put, List.setIfInBounds_toArray, List.set_cons_zero, List.set_cons_succ]
    refine held_take 2 (some 63) (v := ?_) rfl rfl (by kernel_rfl) (by kernel_rfl) (by kernel_rfl) (fun _ _ _ h => h) (Or.inl ⟨by rfl, ?_⟩) hHeld ?_
    rotate_left
    · (intro w' hSw; clear hSw; go_simp; try with_reducible rfl)
    try simp only [Act.put, List.setIfInBounds_toArray, List.set_cons_zero, List.set_cons_succ]
    refine held_take 3 (some 64) (v := ?_) rfl rfl (by kernel_rfl) (by kernel_rfl) (by kernel_rfl) (fun _ _ _ h => h) (Or.inl ⟨by rfl, ?_⟩) hHeld ?_
    rotate_left
    · (intro w' hSw; have pf := (HCW.out w' hSw).2.2; clear hSw; go_simp; try with_reducible rfl)
    try simp only [Act.put, List.setIfInBounds_toArray, List.set_cons_zero, List.set_cons_succ]
    refine wpAnyH_ready (rs := [1]) (by kernel_rfl) (by simp) ?_
    refine AllReadyH.cons rfl (fun K hKK => ?_) AllReadyH.nil
    go_simp
    go_at_call 30
    refine (HSUM.out).mono ?_
    rintro e w12 ⟨rfl, hb12⟩
    rw [HV.out.2.2]
    have hS12 := (hHeld).trans (hb12.mono (hHeld).size)
    have HB12 := Lib.hid hb12
    clear hb12
    refine hKK.out _ _ hS12 (fun hHeld => ?_)
    clear hKK K
    try simp only [Act.put, List.setIfInBounds_toArray, List.set_cons_zero, List.set_cons_succ]
    refine held_take 4 (some 65) (v := ?_) rfl rfl (by kernel_rfl) (by kernel_rfl) (by kernel_rfl) (fun _ _ _ h => h) (Or.inl ⟨by rfl, ?_⟩) hHeld ?_
    rotate_left
    · (intro w' hSw; clear hSw; go_simp; try with_reducible rfl)
    try simp only [Act.put, List.setIfInBounds_toArray, List.set_cons_zero, List.set_cons_succ]
    refine wpAnyH_done (by kernel_rfl) ?_ _
    --]12
    have HH12 := Lib.hid hHeld
    clear hHeld
    go_upto_region 14 with (fail)
    have HR12r := Lib.hid ((HH12.out.block _ (row_lt HR8.out)).trans HR8.out)
    have HR12 := Lib.hid (show w12.rangeAt g8 0 (slC ⟨ag, aa, az, am⟩) from range_row HR12r.out)
    have HRZ12 := Lib.hid ((HH12.out.block _ (row_lt HRZ.out)).trans HRZ.out)
    have HL12 := Lib.hid (show g8 < w12.heap.size ∧ ¬ g8 = w.heap.size from ⟨row_lt HR12r.out, fun e => by have := HG8.out; have := row_lt HR2.out; omega⟩)
    have e14 : ((#[.int .u64 0, .int .u8 0, .int .u32 0, .int .u32 0] : Array Value).toList.take 0 ++ slC ⟨ag, aa, az, am⟩ ++ (#[.int .u64 0, .int .u8 0, .int .u32 0, .int .u32 0] : Array Value).toList.drop (0 + (slC ⟨ag, aa, az, am⟩).length)).toArray = (slC ⟨ag, aa, az, am⟩).toArray := by simp [slC]
    have hr13 := setRow_heap w12.drew w.heap.size _ (slC ⟨ag, aa, az, am⟩).toArray _ _ HRZ12.out
    have hc13 : Chg (fun k => k = w.heap.size) w12 (w12.drew.setRow w.heap.size (slC ⟨ag, aa, az, am⟩).toArray) := ((Chg.refl _ _).drewN 1).trans2 (Chg.of (grown_setRow _ _ _)) (fun x _ e => by injection e)
    have HC13 := Lib.hid (And.intro hr13 hc13)
    have E14 := Lib.hid e14
    clear hr13 hc13 e14
    --[14
    refine wp_region_held_drew (S := fun w' => Chg (fun k => k = w.heap.size) w12 w') (by kernel_rfl) (((Chg.refl _ _).drewN 1)) (fun hHeld => ?_)
    refine held_take 0 (some 67) (v := ?_) rfl rfl (by kernel_rfl) (by kernel_rfl) (by kernel_rfl) (fun _ _ _ h => h) (Or.inl ⟨by rfl, ?_⟩) hHeld ?_
    rotate_left
    · (intro w' hSw; clear hSw; go_simp; try with_reducible rfl)
    try simp only [Act.put, List.setIfInBounds_toArray, List.set_cons_zero, List.set_cons_succ]
    refine held_take 1 (some 68) (v := .agg (slC ⟨ag, aa, az, am⟩).toArray) rfl rfl (by kernel_rfl) (by kernel_rfl) (by kernel_rfl) (fun _ _ _ h => h) (yieldsIf_load_mid (by rfl) 71 _ rfl g8 (0) rfl (slC ⟨ag, aa, az, am⟩) _ (fun w' h => rangeAt_block HR12.out (h.block _ HL12.out.1 HL12.out.2)) Tryz.underlying71 rfl HSL.out) hHeld ?_
    try simp only [Act.put, List.setIfInBounds_toArray, List.set_cons_zero, List.set_cons_succ]
    refine held_take 2 (some 69) (v := ?_) rfl rfl (by kernel_rfl) (by kernel_rfl) (by kernel_rfl) (fun _ _ _ h => h) (Or.inl ⟨by rfl, ?_⟩) hHeld ?_
    rotate_left
    · (intro w' hSw; clear hSw; go_simp; try with_reducible rfl)
    try simp only [Act.put, List.setIfInBounds_toArray, List.set_cons_zero, List.set_cons_succ]
    refine held_take 3 (some 2) (v := ?_) rfl rfl (by kernel_rfl) (by kernel_rfl) (by kernel_rfl) (fun _ _ _ h => h) (Or.inl ⟨by rfl, ?_⟩) hHeld ?_
    rotate_left
    · (intro w' hSw; clear hSw; go_simp; try with_reducible rfl)
    try simp only [Act.put, List.setIfInBounds_toArray, List.set_cons_zero, List.set_cons_succ]
    refine wpAnyH_ready (rs := [4]) (by kernel_rfl) (by simp) ?_
    refine AllReadyH.cons rfl (fun K hKK => ?_) AllReadyH.nil
    refine step_skip rfl (exec_store_mid 71 (.tmp 3) (.tmp 68) rfl (w.heap.size) 0 (slC ⟨ag, aa, az, am⟩) (by go_simp) (by go_simp) 71 _ HRZ12.out HSL.out (Nat.le_refl _) HON.out) ?_
    refine hKK.out _ _ (((Chg.refl _ _).drewN 1).trans2 (Chg.of (grown_setRow _ _ _)) (fun x _ e => by injection e)) (fun hHeld => ?_)
    clear hKK K
    try simp only [Act.put, List.setIfInBounds_toArray, List.set_cons_zero, List.set_cons_succ]
    refine held_take 5 (some 4) (v := ?_) rfl rfl (by kernel_rfl) (by kernel_rfl) (by kernel_rfl) (fun _ _ _ h => h) (Or.inl ⟨by rfl, ?_⟩) hHeld ?_
    rotate_left
    · (intro w' hSw; clear hSw; go_simp; try with_reducible rfl)
    try simp only [Act.put, List.setIfInBounds_toArray, List.set_cons_zero, List.set_cons_succ]
    refine held_take 6 (some 5) (v := ?_) rfl rfl (by kernel_rfl) (by kernel_rfl) (by kernel_rfl) (fun _ _ _ h => h) (Or.inl ⟨by rfl, ?_⟩) hHeld ?_
    rotate_left
    · (intro w' hSw; clear hSw; go_simp; try with_reducible rfl)
    try simp only [Act.put, List.setIfInBounds_toArray, List.set_cons_zero, List.set_cons_succ]
    refine wpAnyH_done (by kernel_rfl) ?_ _
    --]14
    rw [E14.out]
    clear hHeld
    generalize w12.drew.setRow w.heap.size (slC ⟨ag, aa, az, am⟩).toArray = w13 at HC13 ⊢
    go_wp2_with fail
    refine bodyPost_ret (results_load_row rfl _ w13 w.heap.size 71 (slC ⟨ag, aa, az, am⟩).toArray (0, 0) _ _ _ _ rfl rfl rfl rfl HC13.out.1 Tryz.underlying71 rfl rfl) rfl ?_
    have h1 := HW8.out w12 HH12.out
    have hpre := HRD11.out.2.size
    have hl := row_lt HRZ.out
    refine ⟨h1.trans (HC13.out.2.below h1.size (fun k hk => by omega)), fun e => absurd e H0.out, fun _ => ⟨A11, c11, rfl, ?_⟩⟩
    have hrr := HRD11.out.1
    rw [HKA.out]
    exact Rdd.turn hrr (by omega) ((Chg.belowAt HB12.out : Chg (fun k => k = w.heap.size) w11.drew w12).trans HC13.out.2) (fun y hy e => by omega)
end
end Go.Proofs.YtcklcffepedklaaGreatDoor

namespace Go.Proofs.YtcklcffepedklaaGreatDoor
open Go.RowKit

theorem Rdd.more {w w0 w1 w' : World} {R : Nat → Prop} {A : Option Addr} {n c : Nat} {l : List Int} (h : Rdd w0 w1 A n c l) (hb : w.heap.size ≤ w0.heap.size) (hc : Chg R w1 w') (hR : ∀ y, w0.heap.size ≤ y → ¬ R y) : Rdd w w' A n c l where
  ints := h.ints.chg hc (fun ad e _ => by obtain ⟨g, rfl, h1, _⟩ := h.adr ad e; exact hR _ h1)
  cap := h.cap
  adr := fun ad e => by
    obtain ⟨g, hg, h1, h2⟩ := h.adr ad e
    exact ⟨g, hg, Nat.le_trans hb h1, Nat.lt_of_lt_of_le h2 hc.size⟩
  nil := h.nil
/-- What Load answers. -/
def LoP (each : Nat) (d : Ds) (x : Slt × Nat) (w : World) (e : Ending) (w' : World) : Prop := Below w.heap.size w w' ∧ (x.1.gen = 0 → e = .returned (.tuple #[.slice none 0 0, .int .u64 0, .int .i64 0])) ∧
  (x.1.gen ≠ 0 → ∃ A c, e = .returned (.tuple #[.slice A x.1.size c, .int .u64 x.1.gen, .int .i64 0]) ∧ Rdd w w' A x.1.size c (rdL d.now (2 + x.1.area * each) x.1.size))
section
variable {w : World} {gh gd each S : Nat} {d : Ds} {F : Nat → Prop}
set_option maxRecDepth 20000 in
set_option maxHeartbeats 1600000 in
theorem Load_any (hh : Hm w gh gd each) (h : Dk w gd S d F) (hd : d.dead = false) (he : each ≤ 8000) (hS : 2 + 2 * each ≤ S) (x : Slt × Nat) (hx : twoS d.now = x) (hv : x.1.gen ≠ 0 → x.1.area ≤ 1 ∧ x.1.size ≤ 128 * each ∧ sumI (rdL d.now (2 + x.1.area * each) x.1.size) = x.1.sum) :
    Calls Tryz.prog 16 #[.pointer (some ⟨gh, 0, none⟩)] w (LoP each d x w) := by
  have HLD := Lib.hid (load_any hh h hd he hS x hx hv)
  have HON2 := Lib.hid (show ∀ v ∈ ([.int .u64 0, .int .u8 0, .int .u32 0, .int .u32 0] : List Value), v.oneCell' = true from by simp [Value.oneCell'])
  have HON := Lib.hid (show ∀ v ∈ slC x.1, v.oneCell' = true from by simp [slC, Value.oneCell'])
  have HSL := Lib.hid (show (Tryz.prog.info? 71).map (·.size) = some (slC x.1).length from rfl)
  have HSQ := Lib.hid (show zSl.size = (slC x.1).length from rfl)
  clear hh h hd hx hv
  go_enter Tryz.func16, Tryz.ntmps16
  go_wp2_with fail
  refine HLD.out.mono ?_
  rintro e w1 ⟨hb1, hn, hy⟩
  have HB1 := Lib.hid hb1
  have HRZ := Lib.hid (show (w1.alloc (.cells #[.int .u64 0, .int .u8 0, .int .u32 0, .int .u32 0] 71)).heap[w1.heap.size]? = some (.cells zSl 71 (0, 0)) from heap_alloc_last _ _)
  have HBA := Lib.hid ((Below.refl w1.heap.size w1).alloc (Nat.le_refl _) (.cells #[.int .u64 0, .int .u8 0, .int .u32 0, .int .u32 0] 71))
  clear hb1
  by_cases h0 : x.1.gen = 0
  · obtain rfl := hn h0
    have H0 := Lib.hid h0
    clear hn hy h0
    go_upto_region 4 with (first | (with_reducible refine wpList_store_new rfl 71 _ _ rfl w1.heap.size [.int .u64 0, .int .u8 0, .int .u32 0, .int .u32 0] rfl rfl 71 zSl HRZ.out rfl rfl HON2.out w1.heap.size w1 HBA.out (Nat.le_refl _) ?_; intro w3 hr3 hb3) | fail)
    have HC0 := Lib.hid (show w3.cell? ⟨w1.heap.size, 0, none⟩ = some (.int .u64 0) from cell_row' hr3.out)
    --[4
    refine wp_region_held_drew (S := fun w' => Below w3.heap.size w3 w') (by kernel_rfl) (((Below.refl _ _).drew)) (fun hHeld => ?_)
    refine held_take 0 (some 18) (v := ?_) rfl rfl (by kernel_rfl) (by kernel_rfl) (by kernel_rfl) (fun _ _ _ h => h) (Or.inl ⟨by rfl, ?_⟩) hHeld ?_
    rotate_left
    · (intro w' hSw; clear hSw; go_simp; try with_reducible rfl)
    try simp only [Act.put, List.setIfInBounds_toArray, List.set_cons_zero, List.set_cons_succ]
    refine held_take 1 (some 19) (v := ?_) rfl rfl (by kernel_rfl) (by kernel_rfl) (by kernel_rfl) (fun _ _ _ h => h) (Or.inl ⟨by rfl, ?_⟩) hHeld ?_
    rotate_left
    · (intro w' hSw; clear hSw; go_simp; try with_reducible rfl)
    try simp only [Act.put, List.setIfInBounds_toArray, List.set_cons_zero, List.set_cons_succ]
    refine held_take 2 (some 20) (v := ?_) rfl rfl (by kernel_rfl) (by kernel_rfl) (by kernel_rfl) (fun _ _ _ h => h) (Or.inl ⟨by rfl, ?_⟩) hHeld ?_
    rotate_left
    · (intro w' hSw; have pf := (hSw.cell (p := ⟨w1.heap.size, 0, none⟩) (cell_lt HC0.out)).trans HC0.out; clear hSw; go_simp; try with_reducible rfl)
    try simp only [Act.put, List.setIfInBounds_toArray, List.set_cons_zero, List.set_cons_succ]
    refine held_take 3 (some 21) (v := ?_) rfl rfl (by kernel_rfl) (by kernel_rfl) (by kernel_rfl) (fun _ _ _ h => h) (Or.inl ⟨by rfl, ?_⟩) hHeld ?_
    rotate_left
    · (intro w' hSw; clear hSw; go_simp; try with_reducible rfl)
    try simp only [Act.put, List.setIfInBounds_toArray, List.set_cons_zero, List.set_cons_succ]
    refine held_take 4 (some 2) (v := ?_) rfl rfl (by kernel_rfl) (by kernel_rfl) (by kernel_rfl) (fun _ _ _ h => h) (Or.inl ⟨by rfl, ?_⟩) hHeld ?_
    rotate_left
    · (intro w' hSw; clear hSw; go_simp; try with_reducible rfl)
    try simp only [Act.put, List.setIfInBounds_toArray, List.set_cons_zero, List.set_cons_succ]
    refine held_take 5 (some 3) (v := ?_) rfl rfl (by kernel_rfl) (by kernel_rfl) (by kernel_rfl) (fun _ _ _ h => h) (Or.inl ⟨by rfl, ?_⟩) hHeld ?_
    rotate_left
    · (intro w' hSw; clear hSw; go_simp; try with_reducible rfl)
    try simp only [Act.put, List.setIfInBounds_toArray, List.set_cons_zero, List.set_cons_succ]
    refine held_take 6 (some 4) (v := ?_) rfl rfl (by kernel_rfl) (by kernel_rfl) (by kernel_rfl) (fun _ _ _ h => h) (Or.inl ⟨by rfl, ?_⟩) hHeld ?_
    rotate_left
    · (intro w' hSw; clear hSw; go_simp; try with_reducible rfl)
    try simp only [Act.put, List.setIfInBounds_toArray, List.set_cons_zero, List.set_cons_succ]
    refine wpAnyH_done (by kernel_rfl) ?_ _
    --]4
    go_wp2_with fail
    go_ret3
    exact ⟨(HB1.out.trans (hb3.out.mono HB1.out.size)).drew, fun _ => rfl, fun h => absurd H0.out h⟩
  · obtain ⟨A, c, rfl, hrd⟩ := hy h0
    have H0 := Lib.hid (And.intro h0 hrd)
    clear hn hy h0 hrd
    go_upto_region 4 with (first | (with_reducible refine wpList_store_new rfl 71 _ _ rfl w1.heap.size (slC x.1) rfl rfl 71 zSl HRZ.out HSL.out HSQ.out HON.out w1.heap.size w1 HBA.out (Nat.le_refl _) ?_; intro w3 hr3 hb3) | fail)
    have HC0 := Lib.hid (show w3.cell? ⟨w1.heap.size, 0, none⟩ = some (.int .u64 (x.1.gen : Int)) from cell_row' hr3.out)
    --[5
    refine wp_region_held_drew (S := fun w' => Below w3.heap.size w3 w') (by kernel_rfl) (((Below.refl _ _).drew)) (fun hHeld => ?_)
    refine held_take 0 (some 18) (v := ?_) rfl rfl (by kernel_rfl) (by kernel_rfl) (by kernel_rfl) (fun _ _ _ h => h) (Or.inl ⟨by rfl, ?_⟩) hHeld ?_
    rotate_left
    · (intro w' hSw; clear hSw; go_simp; try with_reducible rfl)
    try simp only [Act.put, List.setIfInBounds_toArray, List.set_cons_zero, List.set_cons_succ]
    refine held_take 1 (some 19) (v := ?_) rfl rfl (by kernel_rfl) (by kernel_rfl) (by kernel_rfl) (fun _ _ _ h => h) (Or.inl ⟨by rfl, ?_⟩) hHeld ?_
    rotate_left
    · (intro w' hSw; clear hSw; go_simp; try with_reducible rfl)
    try simp only [Act.put, List.setIfInBounds_toArray, List.set_cons_zero, List.set_cons_succ]
    refine held_take 2 (some 20) (v := ?_) rfl rfl (by kernel_rfl) (by kernel_rfl) (by kernel_rfl) (fun _ _ _ h => h) (Or.inl ⟨by rfl, ?_⟩) hHeld ?_
    rotate_left
    · (intro w' hSw; have pf := (hSw.cell (p := ⟨w1.heap.size, 0, none⟩) (cell_lt HC0.out)).trans HC0.out; clear hSw; go_simp; try with_reducible rfl)
    try simp only [Act.put, List.setIfInBounds_toArray, List.set_cons_zero, List.set_cons_succ]
    refine held_take 3 (some 21) (v := ?_) rfl rfl (by kernel_rfl) (by kernel_rfl) (by kernel_rfl) (fun _ _ _ h => h) (Or.inl ⟨by rfl, ?_⟩) hHeld ?_
    rotate_left
    · (intro w' hSw; clear hSw; go_simp; try with_reducible rfl)
    try simp only [Act.put, List.setIfInBounds_toArray, List.set_cons_zero, List.set_cons_succ]
    refine held_take 4 (some 2) (v := ?_) rfl rfl (by kernel_rfl) (by kernel_rfl) (by kernel_rfl) (fun _ _ _ h => h) (Or.inl ⟨by rfl, ?_⟩) hHeld ?_
    rotate_left
    · (intro w' hSw; clear hSw; go_simp; try with_reducible rfl)
    try simp only [Act.put, List.setIfInBounds_toArray, List.set_cons_zero, List.set_cons_succ]
    refine held_take 5 (some 3) (v := ?_) rfl rfl (by kernel_rfl) (by kernel_rfl) (by kernel_rfl) (fun _ _ _ h => h) (Or.inl ⟨by rfl, ?_⟩) hHeld ?_
    rotate_left
    · (intro w' hSw; clear hSw; go_simp; try with_reducible rfl)
    try simp only [Act.put, List.setIfInBounds_toArray, List.set_cons_zero, List.set_cons_succ]
    refine held_take 6 (some 4) (v := ?_) rfl rfl (by kernel_rfl) (by kernel_rfl) (by kernel_rfl) (fun _ _ _ h => h) (Or.inl ⟨by rfl, ?_⟩) hHeld ?_
    rotate_left
    · (intro w' hSw; clear hSw; go_simp; try with_reducible rfl)
    try simp only [Act.put, List.setIfInBounds_toArray, List.set_cons_zero, List.set_cons_succ]
    refine wpAnyH_done (by kernel_rfl) ?_ _
    --]5
    go_wp2_with fail
    go_ret3
    have hb := HB1.out.trans (hb3.out.mono HB1.out.size)
    exact ⟨hb.drew, fun e => absurd e H0.out.1, fun _ => ⟨A, c, rfl, Rdd.more (R := fun _ => False) H0.out.2 (Nat.le_refl _) (Chg.belowAt hb3.out.drew) (fun _ _ h => h)⟩⟩
end
end Go.Proofs.YtcklcffepedklaaGreatDoor

namespace Go.Proofs.YtcklcffepedklaaGreatDoor
open Go.RowKit

/-- What a home's write does to a disk, and answers. -/
def hwrite : Nat → Ds → Nat → List Int → Ds × Int
  | 0, d, _, _ => (flD d, pwE d)
  | f + 1, d, p, b => if b = [] then (flD d, pwE d) else if pwE d = 0 then hwrite f (wrD d p (b.take 128)) (p + 1) (b.drop 128) else (wrD d p (b.take 128), pwE d)
theorem hwrite_nil (f : Nat) (d : Ds) (p : Nat) : hwrite f d p [] = (flD d, pwE d) := by cases f <;> simp [hwrite]
theorem wrD_ws (d : Ds) (i : Nat) (b : List Int) : (wrD d i b).ws.length ≤ d.ws.length + 1 := by
  unfold wrD; split
  · simp
  · rw [pwD_ws]; omega
theorem hwrite_or : ∀ (f : Nat) (d : Ds) (p : Nat) (b : List Int), (hwrite f d p b).2 = 0 ∨ (hwrite f d p b).2 = 6
  | 0, d, _, _ => pwE_or d
  | f + 1, d, p, b => by
    rw [hwrite]
    split
    · exact pwE_or d
    · split
      · exact hwrite_or f _ _ _
      · exact pwE_or d
section
variable {w : World} {gh gd each S : Nat} {d : Ds} {F : Nat → Prop}
set_option maxRecDepth 20000 in
set_option maxHeartbeats 1600000 in
theorem write_any (hh : Hm w gh gd each) (hgh : ¬ F gh) (h : Dk w gd S d F) (at' m : Nat) (hS : at' + m ≤ S) (hws : d.ws.length + m ≤ 1000000) (A : Option Addr) (n c : Nat) (b : List Int) (hn : b.length = n) (hnm : n ≤ 128 * m) (hc : n ≤ c) (hI : Ints .u8 w A b) (hB : Bytes b) (hA : 0 < n → ∃ g o, A = some ⟨g, o, none⟩ ∧ ¬ F g ∧ g < w.heap.size) :
    Calls Tryz.prog 31 #[.pointer (some ⟨gh, 0, none⟩), .int .i64 at', .slice A n c] w fun e w' => e = .returned (.int .i64 (hwrite m d at' b).2) ∧ Chg F w w' ∧ Dk w' gd S (hwrite m d at' b).1 (fun k => F k ∨ w.heap.size ≤ k) := by
  have HH := Lib.hid hh
  have HB := Lib.hid hB
  have HF := Lib.hid hgh
  have hsl := h.lim
  obtain ⟨R, hR⟩ : ∃ R, hwrite m d at' b = R := ⟨_, rfl⟩
  have h0 : ∃ j dj A' c', A' = A ∧ c' = c ∧ j = 0 ∧ dj = d := ⟨0, d, A, c, rfl, rfl, rfl, rfl⟩
  have HST := Lib.hid (show Dk w gd S d (fun k => F k ∨ w.heap.size ≤ k) ∧ Chg F w w from ⟨h.kept (R := fun _ => False) (Chg.refl _ _) (fun _ _ _ h => h) (fun k _ h => .inl h), Chg.refl _ _⟩)
  have HI := Lib.hid (And.intro hI (And.intro hA (And.intro hn (And.intro hws hc))))
  have HR := Lib.hid hR
  rw [hR]
  clear h h0 hh hI hB hA hn hws hgh hR
  go_enter Tryz.func31, Tryz.ntmps31
  go_upto_region 1 with (fail)
  go_loopg [1, 2] n (fun kq v1 v2 w' => ∃ (j : Nat) (dj : Ds) (A' : Option Addr) (c' : Nat), v1 = .int .i64 ((at' + j : Nat) : Int) ∧ v2 = .slice A' kq c' ∧ kq = n - 128 * j ∧ j ≤ m ∧ Hid (kq ≤ c' ∧ Ints .u8 w' A' (b.drop (128 * j)) ∧ (0 < kq → ∃ g o, A' = some ⟨g, o, none⟩ ∧ ¬ F g ∧ g < w.heap.size)) ∧ Hid (hwrite (m - j) dj (at' + j) (b.drop (128 * j)) = R) ∧ Hid (Dk w' gd S dj (fun k => F k ∨ w.heap.size ≤ k)) ∧ Hid (Chg F w w') ∧ dj.ws.length ≤ d.ws.length + j)
  case atStart => exact ⟨0, d, A, c, rfl, rfl, rfl, Nat.zero_le _, Lib.hid ⟨HI.out.2.2.2.2, HI.out.1, HI.out.2.1⟩, HR, Lib.hid HST.out.1, Lib.hid HST.out.2, Nat.le_refl _⟩
  case round =>
    obtain ⟨j, dj, A', c', rfl, rfl, hkq, hjm, HAI, HRJ, HDJ, HCJ, hwsj⟩ := hrel
    have hdl : (b.drop (128 * j)).length = gk := by rw [List.length_drop, HI.out.2.2.1]; omega
    have c0 : wr.cell? ⟨gh, 0, none⟩ = some (.pointer (some ⟨gd, 0, none⟩)) := cell_row' (HH.out.chg HCJ.out HF.out)
    by_cases hlt : 0 < gk
    · obtain ⟨g, o, rfl, hFg, hgl⟩ := HAI.out.2.2 hlt
      have hjm' : j < m := by omega
      obtain ⟨q, hq⟩ : ∃ q, (b.drop (128 * j)).take 128 = q := ⟨_, rfl⟩
      obtain ⟨n1, hn1⟩ : ∃ n1, q.length = n1 := ⟨_, rfl⟩
      have hn1' : n1 = min 128 gk := by rw [← hn1, ← hq, List.length_take, hdl]
      have hqB : Bytes q := by rw [← hq]; exact (HB.out.drop _).take _
      have hqI : Ints .u8 wr (some ⟨g, o, none⟩) q := by rw [← hq]; exact HAI.out.2.1.take 128
      have hne : ¬ b.drop (128 * j) = [] := fun e => by rw [e] at hdl; simp at hdl; omega
      obtain ⟨f, hf⟩ : ∃ f, m - j = f + 1 := ⟨m - j - 1, by omega⟩
      have hRJ := HRJ.out
      rw [hf, hwrite, if_neg hne, hq, List.drop_drop] at hRJ
      obtain ⟨p, hp⟩ : ∃ p, at' + j = p := ⟨_, rfl⟩
      rw [hp] at hRJ
      try rw [hp]
      have HDWD := Lib.hid (DWrite_any (w := wr.drew) (HDJ.out.below (Below.refl _ _).drew) (by have := HI.out.2.2.2.1; omega) p (by omega) (some ⟨g, o, none⟩) n1 c' q hn1 (by omega) hqI hqB (fun ad e _ hh => by injection e with e; subst e; rcases hh with hh | hh; exact hFg hh; exact absurd hgl (by have : w.heap.size ≤ g := hh; omega)))
      have HHQ := Lib.hid (And.intro hRJ (And.intro hq (And.intro hn1 (And.intro hp (And.intro hkq (And.intro hjm' (And.intro hn1' (And.intro hf (And.intro hFg (And.intro hgl hwsj))))))))))
      have hc' := HAI.out.1
      have HC' := Lib.hid hc'
      have m1 : min (gk : Int) 128 = (n1 : Int) := by omega
      have m2 : (if (128 : Int) < (gk : Int) then 128 else (gk : Int)) = (n1 : Int) := by split <;> omega
      have m3 : (0 : Int) < (gk : Int) := by omega
      have m4 : (n1 : Int) ≤ (gk : Int) := by omega
      have m5 : (n1 : Int) ≤ (c' : Int) := by omega
      have m6 : (0 : Int) ≤ (n1 : Int) := by omega
      have m7 : n1 ≤ c' := by omega
      have u1 : IntKind.i64.wrap ((p : Int) + 1) = ((p + 1 : Nat) : Int) := by rw [IntKind.wrap_i64]; omega
      have HC0 := Lib.hid c0
      have HGH := Lib.hid (show ¬ (F gh ∨ w.heap.size ≤ gh) ∧ gh < wr.heap.size from ⟨fun hh => by
        rcases hh with hh | hh
        · exact HF.out hh
        · have := row_lt HH.out; omega, cell_lt c0⟩)
      obtain ⟨E, hE⟩ : ∃ E, pwE dj = E := ⟨_, rfl⟩
      rw [hE] at HDWD
      have HEE := Lib.hid (And.intro hE (show E = 0 ∨ E = 6 from hE ▸ pwE_or dj))
      clear hdl hq hn1 hn1' hqB hqI hne hf hRJ hp hkq hjm hjm' hFg hgl hwsj hc' hE c0
      go_upto_region 4 with (fail)
      --[4
      refine wp_region_held_drew (S := fun w' => Chg (fun k => F k ∨ w.heap.size ≤ k) wr w') (by kernel_rfl) (((Chg.refl _ _).drewN 1)) (fun hHeld => ?_)
      refine held_take 0 (some 17) (v := ?_) rfl rfl (by kernel_rfl) (by kernel_rfl) (by kernel_rfl) (fun _ _ _ h => h) (Or.inl ⟨by rfl, ?_⟩) hHeld ?_
      rotate_left
      · (intro w' hSw; clear hSw; go_simp; try with_reducible rfl)
      try simp only [Act.put, List.setIfInBounds_toArray, List.set_cons_zero, List.set_cons_succ]
      refine held_take 1 (some 18) (v := ?_) rfl rfl (by kernel_rfl) (by kernel_rfl) (by kernel_rfl) (fun _ _ _ h => h) (Or.inl ⟨by rfl, ?_⟩) hHeld ?_
      rotate_left
      · (intro w' hSw; clear hSw; go_simp; try with_reducible rfl)
      try simp only [Act.put, List.setIfInBounds_toArray, List.set_cons_zero, List.set_cons_succ]
      refine held_take 2 (some 19) (v := ?_) rfl rfl (by kernel_rfl) (by kernel_rfl) (by kernel_rfl) (fun _ _ _ h => h) (Or.inl ⟨by rfl, ?_⟩) hHeld ?_
      rotate_left
      · (intro w' hSw; clear hSw; go_simp; try with_reducible rfl)
      try simp only [Act.put, List.setIfInBounds_toArray, List.set_cons_zero, List.set_cons_succ]
      refine held_take 3 (some 20) (v := ?_) rfl rfl (by kernel_rfl) (by kernel_rfl) (by kernel_rfl) (fun _ _ _ h => h) (Or.inl ⟨by rfl, ?_⟩) hHeld ?_
      rotate_left
      · (intro w' hSw; have pf := (hSw.cell (p := ⟨gh, 0, none⟩) HGH.out.2 HGH.out.1).trans HC0.out; clear hSw; go_simp; try with_reducible rfl)
      try simp only [Act.put, List.setIfInBounds_toArray, List.set_cons_zero, List.set_cons_succ]
      refine held_take 4 (some 21) (v := ?_) rfl rfl (by kernel_rfl) (by kernel_rfl) (by kernel_rfl) (fun _ _ _ h => h) (Or.inl ⟨by rfl, ?_⟩) hHeld ?_
      rotate_left
      · (intro w' hSw; clear hSw; go_simp; try with_reducible rfl)
      try simp only [Act.put, List.setIfInBounds_toArray, List.set_cons_zero, List.set_cons_succ]
      refine held_take 5 (some 22) (v := ?_) rfl rfl (by kernel_rfl) (by kernel_rfl) (by kernel_rfl) (fun _ _ _ h => h) (Or.inl ⟨by rfl, ?_⟩) hHeld ?_
      rotate_left
      · (intro w' hSw; clear hSw; go_simp; try with_reducible rfl)
      try simp only [Act.put, List.setIfInBounds_toArray, List.set_cons_zero, List.set_cons_succ]
      refine held_take 6 (some 23) (v := ?_) rfl rfl (by kernel_rfl) (by kernel_rfl) (by kernel_rfl) (fun _ _ _ h => h) (Or.inl ⟨by rfl, ?_⟩) hHeld ?_
      rotate_left
      · (intro w' hSw; clear hSw; go_simp; try with_reducible rfl)
      try simp only [Act.put, List.setIfInBounds_toArray, List.set_cons_zero, List.set_cons_succ]
      refine held_take 7 (some 24) (v := ?_) rfl rfl (by kernel_rfl) (by kernel_rfl) (by kernel_rfl) (fun _ _ _ h => h) (Or.inl ⟨by rfl, ?_⟩) hHeld ?_
      rotate_left
      · (intro w' hSw; clear hSw; go_simp; try with_reducible rfl)
      try simp only [Act.put, List.setIfInBounds_toArray, List.set_cons_zero, List.set_cons_succ]
      refine wpAnyH_ready (rs := [8]) (by kernel_rfl) (by simp) ?_
      refine AllReadyH.cons rfl (fun K hKK => ?_) AllReadyH.nil
      go_simp
      go_at_call 60
      refine (HDWD.out).mono ?_
      rintro e w5 ⟨rfl, hc5, hd5⟩
      have HD5 := Lib.hid hd5
      have hS5 := (hHeld).trans hc5
      have HS5 := Lib.hid hS5
      clear hd5 hc5
      refine hKK.out _ _ hS5 (fun hHeld => ?_)
      clear hKK K
      try simp only [Act.put, List.setIfInBounds_toArray, List.set_cons_zero, List.set_cons_succ]
      refine held_take 9 (some 8) (v := ?_) rfl rfl (by kernel_rfl) (by kernel_rfl) (by kernel_rfl) (fun _ _ _ h => h) (Or.inl ⟨by rfl, ?_⟩) hHeld ?_
      rotate_left
      · (intro w' hSw; clear hSw; go_simp; try with_reducible rfl)
      try simp only [Act.put, List.setIfInBounds_toArray, List.set_cons_zero, List.set_cons_succ]
      refine wpAnyH_done (by kernel_rfl) ?_ _
      --]4
      clear hHeld
      have HCF := Lib.hid (show Chg F w w5 from HCJ.out.trans2 HS5.out (fun k hk hh => hh.elim (fun h => h) (fun h => by omega)))
      have HDF := Lib.hid (HD5.out.kept (F' := fun k => F k ∨ w.heap.size ≤ k) (R := fun _ => False) (Chg.refl _ _) (fun _ _ _ h => h) (fun k _ hh => hh.elim (fun h => h) (fun h => .inr (Nat.le_trans HCJ.out.size h))))
      rcases HEE.out.2 with rfl | rfl
      case inr =>
        have hRR := HHQ.out.1
        rw [if_neg (by rw [HEE.out.1]; decide), HEE.out.1] at hRR
        have HRR := Lib.hid hRR
        clear hRR
        go_wp2_with fail
        go_ret
        rw [← HRR.out]
        exact ⟨rfl, HCF.out, HDF.out⟩
      have hRR := HHQ.out.1
      rw [if_pos HEE.out.1] at hRR
      have HRR := Lib.hid hRR
      clear hRR
      have HKN := Lib.hid (show gk - n1 = n - 128 * (j + 1) ∧ n1 = min 128 gk from by have := HHQ.out.2; omega)
      by_cases hcn : c' = n1
      · have hkn : gk = n1 := by have := HC'.out; have := HKN.out; omega
        have hHC := Lib.hid hcn
        go_wp2_with fail
        go_roundg (gk - n1)
        case measure => have := HKN.out; omega
        case rel =>
          refine ⟨j + 1, _, some ⟨g, o, none⟩, 0, by have := HHQ.out.2.2.2.1; rw [← Nat.add_assoc, this]; rfl, by rw [show gk - n1 = 0 by omega], HKN.out.1, HHQ.out.2.2.2.2.2.1, Lib.hid ⟨by omega, ?_, fun h => by omega⟩, Lib.hid ?_, HDF, HCF, ?_⟩
          · have : b.drop (128 * (j + 1)) = [] := List.drop_of_length_le (by rw [HI.out.2.2.1]; have := HKN.out; omega)
            rw [this]; exact Ints.nil _ _ _
          · have h1 := HRR.out
            have h2 := HHQ.out.2
            rw [show m - (j + 1) = f by omega, show at' + (j + 1) = p + 1 by omega]; exact h1
          · have := wrD_ws dj p q; have := HHQ.out.2; omega
      · go_wp2_with fail
        go_roundg (gk - n1)
        case measure => have := HKN.out; omega
        case rel =>
          refine ⟨j + 1, _, _, _, by have := HHQ.out.2.2.2.1; rw [← Nat.add_assoc, this]; rfl, rfl, HKN.out.1, HHQ.out.2.2.2.2.2.1, Lib.hid ⟨by have := HC'.out; omega, ?_, fun h => ⟨g, o + n1, rfl, HHQ.out.2.2.2.2.2.2.2.2.1, HHQ.out.2.2.2.2.2.2.2.2.2.1⟩⟩, Lib.hid ?_, HDF, HCF, ?_⟩
          · have hi5 := HAI.out.2.1.chg HS5.out (fun ad e _ hh => by injection e with e; subst e; exact hh.elim HHQ.out.2.2.2.2.2.2.2.2.1 (fun h => by have h1 := HHQ.out.2.2.2.2.2.2.2.2.2.1; have h2 : w.heap.size ≤ g := h; omega))
            have hd := hi5.drop n1
            rw [addr_add0, List.drop_drop] at hd
            by_cases h128 : 128 ≤ gk
            · have : n1 = 128 := by have := HKN.out; omega
              rw [this] at hd ⊢
              exact hd
            · have : b.drop (128 * (j + 1)) = [] := List.drop_of_length_le (by rw [HI.out.2.2.1]; have := HHQ.out.2; omega)
              rw [this]; exact Ints.nil _ _ _
          · have h1 := HRR.out
            have h2 := HHQ.out.2
            rw [show m - (j + 1) = f by omega, show at' + (j + 1) = p + 1 by omega]; exact h1
          · have := wrD_ws dj p q; have := HHQ.out.2; omega
    · obtain rfl : gk = 0 := by omega
      have hnil : b.drop (128 * j) = [] := List.length_eq_zero_iff.1 hdl
      have hRJ := HRJ.out
      rw [hnil, hwrite_nil] at hRJ
      have HRQ := Lib.hid hRJ
      have HFL := Lib.hid (Flush_any HDJ.out (by have := HI.out.2.2.2.1; omega))
      obtain ⟨E, hE⟩ : ∃ E, pwE dj = E := ⟨_, rfl⟩
      rw [hE] at HFL HRQ
      clear hnil hRJ hdl hlt hE hkq hjm hwsj
      go_wp2_with fail
      refine HFL.out.mono ?_
      rintro e w5 ⟨rfl, hc5, hd5⟩
      have H5 := Lib.hid (And.intro hc5 hd5)
      clear hc5 hd5
      go_wp2_with fail
      go_ret
      rw [← HRQ.out]
      exact ⟨rfl, HCJ.out.trans2 H5.out.1 (fun k hk hh => hh.elim (fun h => h) (fun h => by omega)), H5.out.2⟩
end
end Go.Proofs.YtcklcffepedklaaGreatDoor
