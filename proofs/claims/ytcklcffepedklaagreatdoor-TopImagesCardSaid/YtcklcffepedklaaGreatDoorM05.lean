/- Texts of the proof, one behind the other: tree: join. -/
import Derived.Test.YtcklcffepedklaaGreatDoorM04
namespace Go.Proofs.YtcklcffepedklaaGreatDoor
open Go.RowKit

theorem Tre.join_C (k v : BA) {l r : Tre} (h1 : l.ht ≠ r.ht + 2) (h2 : r.ht ≠ l.ht + 2) : Tre.join k v l r = .node k v l r := by
  unfold Tre.join; rw [if_neg h1, if_neg h2]
theorem Tre.join_A1 (k v k1 v1 : BA) {a b r : Tre} (h1 : (Tre.node k1 v1 a b).ht = r.ht + 2) (h2 : b.ht ≤ a.ht) : Tre.join k v (.node k1 v1 a b) r = .node k1 v1 a (.node k v b r) := by
  unfold Tre.join; rw [if_pos h1]; simp only [h2, if_pos]
theorem Tre.join_A2 (k v k1 v1 k2 v2 : BA) {a c d r : Tre} (h1 : (Tre.node k1 v1 a (.node k2 v2 c d)).ht = r.ht + 2) (h2 : ¬ (Tre.node k2 v2 c d).ht ≤ a.ht) : Tre.join k v (.node k1 v1 a (.node k2 v2 c d)) r = .node k2 v2 (.node k1 v1 a c) (.node k v d r) := by
  unfold Tre.join; rw [if_pos h1]; simp only [h2, if_neg, not_false_eq_true]
theorem Tre.join_B1 (k v k1 v1 : BA) {a b l : Tre} (h1 : (Tre.node k1 v1 a b).ht = l.ht + 2) (h2 : a.ht ≤ b.ht) : Tre.join k v l (.node k1 v1 a b) = .node k1 v1 (.node k v l a) b := by
  unfold Tre.join; rw [if_neg (by omega), if_pos h1]; simp only [h2, if_pos]
theorem Tre.join_B2 (k v k1 v1 k2 v2 : BA) {c d b l : Tre} (h1 : (Tre.node k1 v1 (.node k2 v2 c d) b).ht = l.ht + 2) (h2 : ¬ (Tre.node k2 v2 c d).ht ≤ b.ht) : Tre.join k v l (.node k1 v1 (.node k2 v2 c d) b) = .node k2 v2 (.node k v l c) (.node k1 v1 d b) := by
  unfold Tre.join; rw [if_neg (by omega), if_pos h1]; simp only [h2, if_neg, not_false_eq_true]
theorem cell_row' {w : World} {g i : Nat} {cs : Array Value} {t : TypeId} (h : w.heap[g]? = some (.cells cs t (0, 0))) : w.cell? ⟨g, i, none⟩ = cs[i]? := cell_of_row _ _ i _ _ _ h
set_option maxRecDepth 20000 in
set_option maxHeartbeats 1600000 in
theorem join_any {w : World} {a b : Option Addr} {k v : BA} {l r : Tre} (hl : TrAt w a l) (hr : TrAt w b r) (hz : l.len + r.len < 1000000) :
    Calls Tryz.prog 69 #[.agg #[.string k, .string v], .pointer a, .pointer b] w fun e w' => ∃ p, e = .returned (.pointer p) ∧ TrAt w' p (Tre.join k v l r) ∧ Below w.heap.size w w' := by
  have hh1 := l.ht_le
  have hh2 := r.ht_le
  have hb0 := (Below.refl w.heap.size w).alloc (Nat.le_refl _) (.cells #[.string k, .string v] 97)
  have hr0 := heap_alloc_last w (.cells #[.string k, .string v] 97)
  obtain ⟨w0, hw0⟩ : ∃ w0, w.alloc (.cells #[.string k, .string v] 97) = w0 := ⟨_, rfl⟩
  rw [hw0] at hb0 hr0
  have HL := Lib.hid (hl.below hb0)
  have HR := Lib.hid (hr.below hb0)
  obtain ⟨g3, hg3⟩ : ∃ g, w.heap.size = g := ⟨_, rfl⟩
  rw [hg3] at hr0
  have HG0 := Lib.hid (show w0.rangeAt g3 0 [.string k, .string v] from rangeAt_of_row hr0 0 2)
  have HGL := Lib.hid (row_lt hr0)
  have HB0 := Lib.hid hb0
  have H1 := Lib.hid (THeight_any HL.out)
  have H2 := Lib.hid (THeight_any HR.out)
  obtain ⟨tl, htl⟩ : ∃ n, l.ht = n := ⟨_, rfl⟩
  obtain ⟨tr, htr⟩ : ∃ n, r.ht = n := ⟨_, rfl⟩
  rw [htl] at H1 hh1
  rw [htr] at H2 hh2
  have HTL := Lib.hid htl
  have HTR := Lib.hid htr
  clear hl hr hb0 hr0 htl htr
  go_enter Tryz.func69, Tryz.ntmps69
  go_upto_region 1 with (fail)
  try rw [hw0]
  have HG3 := Lib.hid hg3
  clear hw0 hg3
  go_wp2_with fail
  refine H1.out.mono ?_
  rintro e w' ⟨rfl, rfl⟩
  go_wp2_with fail
  refine H2.out.mono ?_
  rintro e w' ⟨rfl, rfl⟩
  clear H1 H2
  by_cases hA : tl = tr + 2
  · have hwd : IntKind.i64.wrap ((tl : Int) - (tr : Int)) = 2 := by rw [IntKind.wrap_i64]; omega
    obtain ⟨k1, v1, ta, tb, rfl⟩ : ∃ k1 v1 ta tb, l = .node k1 v1 ta tb := by
      cases l with
      | nil => have := HTL.out; simp [Tre.ht] at this; omega
      | node k1 v1 ta tb => exact ⟨k1, v1, ta, tb, rfl⟩
    obtain ⟨ga, pa, pb, rfl, hra, hta, htb⟩ := HL.out
    have HA0 := Lib.hid (show w0.rangeAt ga 0 [.string k1, .string v1] from rangeAt_of_row hra 0 2)
    have HA2 := Lib.hid (show w0.cell? ⟨ga, 2, none⟩ = some (.pointer pa) from cell_row' hra)
    have HA3 := Lib.hid (show w0.cell? ⟨ga, 3, none⟩ = some (.pointer pb) from cell_row' hra)
    have HAL := Lib.hid (row_lt hra)
    have HTa := Lib.hid hta
    have HTb := Lib.hid htb
    obtain ⟨ha, hha⟩ : ∃ n, ta.ht = n := ⟨_, rfl⟩
    obtain ⟨hb, hhb⟩ : ∃ n, tb.ht = n := ⟨_, rfl⟩
    have Hh1 := Lib.hid (fun (W : World) (h : Below w0.heap.size w0 W) => hha ▸ THeight_any (HTa.out.below h))
    have Hh2 := Lib.hid (fun (W : World) (h : Below w0.heap.size w0 W) => hhb ▸ THeight_any (HTb.out.below h))
    have HHA := Lib.hid (And.intro hha hhb)
    have hz' : ta.len + tb.len + 1 + r.len < 1000000 := hz
    have HAE := Lib.hid hA
    clear hra hta htb hha hhb hz HL hA hh1 hh2
    go_upto_region 3 with (fail)
    --[3
    refine wp_region_held_drew (S := fun w' => Below w0.heap.size w0 w') (by kernel_rfl) ((Below.refl _ _).drew) (fun hHeld => ?_)
    refine held_take 0 (some 16) (v := ?_) rfl rfl (by kernel_rfl) (by kernel_rfl) (by kernel_rfl) (fun _ _ _ h => h) (Or.inl ⟨by rfl, ?_⟩) hHeld ?_
    rotate_left
    · (intro w' hSw; clear hSw; go_simp; try with_reducible rfl)
    try simp only [Act.put, List.setIfInBounds_toArray, List.set_cons_zero, List.set_cons_succ]
    refine held_take 1 (some 17) (v := ?_) rfl rfl (by kernel_rfl) (by kernel_rfl) (by kernel_rfl) (fun _ _ _ h => h) (Or.inl ⟨by rfl, ?_⟩) hHeld ?_
    rotate_left
    · (intro w' hSw; clear hSw; go_simp; try with_reducible rfl)
    try simp only [Act.put, List.setIfInBounds_toArray, List.set_cons_zero, List.set_cons_succ]
    refine held_take 2 (some 18) (v := ?_) rfl rfl (by kernel_rfl) (by kernel_rfl) (by kernel_rfl) (fun _ _ _ h => h) (Or.inl ⟨by rfl, ?_⟩) hHeld ?_
    rotate_left
    · (intro w' hSw; clear hSw; go_simp; try with_reducible rfl)
    try simp only [Act.put, List.setIfInBounds_toArray, List.set_cons_zero, List.set_cons_succ]
    refine held_take 3 (some 19) (v := ?_) rfl rfl (by kernel_rfl) (by kernel_rfl) (by kernel_rfl) (fun _ _ _ h => h) (Or.inl ⟨by rfl, ?_⟩) hHeld ?_
    rotate_left
    · (intro w' hSw; have pf := (hSw.cell (p := ⟨ga, 2, none⟩) HAL.out).trans HA2.out; clear hSw; go_simp; try with_reducible rfl)
    try simp only [Act.put, List.setIfInBounds_toArray, List.set_cons_zero, List.set_cons_succ]
    refine held_take 5 (some 21) (v := ?_) rfl rfl (by kernel_rfl) (by kernel_rfl) (by kernel_rfl) (fun _ _ _ h => h) (Or.inl ⟨by rfl, ?_⟩) hHeld ?_
    rotate_left
    · (intro w' hSw; clear hSw; go_simp; try with_reducible rfl)
    try simp only [Act.put, List.setIfInBounds_toArray, List.set_cons_zero, List.set_cons_succ]
    refine held_take 6 (some 22) (v := ?_) rfl rfl (by kernel_rfl) (by kernel_rfl) (by kernel_rfl) (fun _ _ _ h => h) (Or.inl ⟨by rfl, ?_⟩) hHeld ?_
    rotate_left
    · (intro w' hSw; clear hSw; go_simp; try with_reducible rfl)
    try simp only [Act.put, List.setIfInBounds_toArray, List.set_cons_zero, List.set_cons_succ]
    refine held_take 7 (some 23) (v := ?_) rfl rfl (by kernel_rfl) (by kernel_rfl) (by kernel_rfl) (fun _ _ _ h => h) (Or.inl ⟨by rfl, ?_⟩) hHeld ?_
    rotate_left
    · (intro w' hSw; clear hSw; go_simp; try with_reducible rfl)
    try simp only [Act.put, List.setIfInBounds_toArray, List.set_cons_zero, List.set_cons_succ]
    refine held_take 8 (some 24) (v := ?_) rfl rfl (by kernel_rfl) (by kernel_rfl) (by kernel_rfl) (fun _ _ _ h => h) (Or.inl ⟨by rfl, ?_⟩) hHeld ?_
    rotate_left
    · (intro w' hSw; have pf := (hSw.cell (p := ⟨ga, 3, none⟩) HAL.out).trans HA3.out; clear hSw; go_simp; try with_reducible rfl)
    try simp only [Act.put, List.setIfInBounds_toArray, List.set_cons_zero, List.set_cons_succ]
    refine wpAnyH_ready (rs := [4]) (by kernel_rfl) (by simp) ?_
    refine AllReadyH.cons rfl (fun K hKK => ?_) AllReadyH.nil
    go_simp
    go_at_call 90
    refine (Hh1.out _ hHeld).mono ?_
    rintro e w' ⟨rfl, rfl⟩
    refine hKK.out _ _ hHeld (fun hHeld => ?_)
    clear hKK K
    try simp only [Act.put, List.setIfInBounds_toArray, List.set_cons_zero, List.set_cons_succ]
    refine wpAnyH_ready (rs := [9]) (by kernel_rfl) (by simp) ?_
    refine AllReadyH.cons rfl (fun K hKK => ?_) AllReadyH.nil
    go_simp
    go_at_call 90
    refine (Hh2.out _ hHeld).mono ?_
    rintro e w' ⟨rfl, rfl⟩
    refine hKK.out _ _ hHeld (fun hHeld => ?_)
    clear hKK K
    try simp only [Act.put, List.setIfInBounds_toArray, List.set_cons_zero, List.set_cons_succ]
    refine held_take 10 (some 26) (v := ?_) rfl rfl (by kernel_rfl) (by kernel_rfl) (by kernel_rfl) (fun _ _ _ h => h) (Or.inl ⟨by rfl, ?_⟩) hHeld ?_
    rotate_left
    · (intro w' hSw; clear hSw; go_simp; try with_reducible rfl)
    try simp only [Act.put, List.setIfInBounds_toArray, List.set_cons_zero, List.set_cons_succ]
    refine wpAnyH_done (by kernel_rfl) ?_ _
    --]3
    have HH := Lib.hid hHeld
    clear hHeld
    by_cases h2 : hb ≤ ha
    · have hHT : tb.ht ≤ ta.ht := by rw [HHA.out.1, HHA.out.2]; exact h2
      have HHT := Lib.hid hHT
      clear hHT
      go_upto_region 4 with (fail)
      --[4
      refine wp_region_held_drew (S := fun w' => Below w0.heap.size w0 w') (by kernel_rfl) (HH.out.drew) (fun hHeld => ?_)
      refine held_take 0 (some 27) (v := ?_) rfl rfl (by kernel_rfl) (by kernel_rfl) (by kernel_rfl) (fun _ _ _ h => h) (Or.inl ⟨by rfl, ?_⟩) hHeld ?_
      rotate_left
      · (intro w' hSw; clear hSw; go_simp; try with_reducible rfl)
      try simp only [Act.put, List.setIfInBounds_toArray, List.set_cons_zero, List.set_cons_succ]
      refine held_take 1 (some 28) (v := ?_) rfl rfl (by kernel_rfl) (by kernel_rfl) (by kernel_rfl) (fun _ _ _ h => h) (Or.inl ⟨by rfl, ?_⟩) hHeld ?_
      rotate_left
      · (intro w' hSw; clear hSw; go_simp; try with_reducible rfl)
      try simp only [Act.put, List.setIfInBounds_toArray, List.set_cons_zero, List.set_cons_succ]
      refine held_take 2 (some 29) (v := ?_) rfl rfl (by kernel_rfl) (by kernel_rfl) (by kernel_rfl) (fun _ _ _ h => h) (Or.inl ⟨by rfl, ?_⟩) hHeld ?_
      rotate_left
      · (intro w' hSw; clear hSw; go_simp; try with_reducible rfl)
      try simp only [Act.put, List.setIfInBounds_toArray, List.set_cons_zero, List.set_cons_succ]
      refine held_take 3 (some 30) (v := .agg ([.string k1, .string v1]).toArray) rfl rfl (by kernel_rfl) (by kernel_rfl) (by kernel_rfl) (fun _ _ _ h => h) (yieldsIf_load_mid (by rfl) 97 _ rfl ga (0) rfl ([.string k1, .string v1]) _ (fun w' h => rangeAt_block HA0.out (h.block _ HAL.out)) Tryz.underlying97 rfl rfl) hHeld ?_
      try simp only [Act.put, List.setIfInBounds_toArray, List.set_cons_zero, List.set_cons_succ]
      refine held_take 4 (some 31) (v := ?_) rfl rfl (by kernel_rfl) (by kernel_rfl) (by kernel_rfl) (fun _ _ _ h => h) (Or.inl ⟨by rfl, ?_⟩) hHeld ?_
      rotate_left
      · (intro w' hSw; clear hSw; go_simp; try with_reducible rfl)
      try simp only [Act.put, List.setIfInBounds_toArray, List.set_cons_zero, List.set_cons_succ]
      refine held_take 5 (some 32) (v := ?_) rfl rfl (by kernel_rfl) (by kernel_rfl) (by kernel_rfl) (fun _ _ _ h => h) (Or.inl ⟨by rfl, ?_⟩) hHeld ?_
      rotate_left
      · (intro w' hSw; clear hSw; go_simp; try with_reducible rfl)
      try simp only [Act.put, List.setIfInBounds_toArray, List.set_cons_zero, List.set_cons_succ]
      refine held_take 6 (some 33) (v := ?_) rfl rfl (by kernel_rfl) (by kernel_rfl) (by kernel_rfl) (fun _ _ _ h => h) (Or.inl ⟨by rfl, ?_⟩) hHeld ?_
      rotate_left
      · (intro w' hSw; clear hSw; go_simp; try with_reducible rfl)
      try simp only [Act.put, List.setIfInBounds_toArray, List.set_cons_zero, List.set_cons_succ]
      refine held_take 7 (some 34) (v := ?_) rfl rfl (by kernel_rfl) (by kernel_rfl) (by kernel_rfl) (fun _ _ _ h => h) (Or.inl ⟨by rfl, ?_⟩) hHeld ?_
      rotate_left
      · (intro w' hSw; have pf := (hSw.cell (p := ⟨ga, 2, none⟩) HAL.out).trans HA2.out; clear hSw; go_simp; try with_reducible rfl)
      try simp only [Act.put, List.setIfInBounds_toArray, List.set_cons_zero, List.set_cons_succ]
      refine held_take 8 (some 35) (v := .agg ([.string k, .string v]).toArray) rfl rfl (by kernel_rfl) (by kernel_rfl) (by kernel_rfl) (fun _ _ _ h => h) (yieldsIf_load_mid (by rfl) 97 _ rfl g3 (0) rfl ([.string k, .string v]) _ (fun w' h => rangeAt_block HG0.out (h.block _ HGL.out)) Tryz.underlying97 rfl rfl) hHeld ?_
      try simp only [Act.put, List.setIfInBounds_toArray, List.set_cons_zero, List.set_cons_succ]
      refine held_take 9 (some 36) (v := ?_) rfl rfl (by kernel_rfl) (by kernel_rfl) (by kernel_rfl) (fun _ _ _ h => h) (Or.inl ⟨by rfl, ?_⟩) hHeld ?_
      rotate_left
      · (intro w' hSw; clear hSw; go_simp; try with_reducible rfl)
      try simp only [Act.put, List.setIfInBounds_toArray, List.set_cons_zero, List.set_cons_succ]
      refine held_take 10 (some 37) (v := ?_) rfl rfl (by kernel_rfl) (by kernel_rfl) (by kernel_rfl) (fun _ _ _ h => h) (Or.inl ⟨by rfl, ?_⟩) hHeld ?_
      rotate_left
      · (intro w' hSw; clear hSw; go_simp; try with_reducible rfl)
      try simp only [Act.put, List.setIfInBounds_toArray, List.set_cons_zero, List.set_cons_succ]
      refine held_take 11 (some 38) (v := ?_) rfl rfl (by kernel_rfl) (by kernel_rfl) (by kernel_rfl) (fun _ _ _ h => h) (Or.inl ⟨by rfl, ?_⟩) hHeld ?_
      rotate_left
      · (intro w' hSw; clear hSw; go_simp; try with_reducible rfl)
      try simp only [Act.put, List.setIfInBounds_toArray, List.set_cons_zero, List.set_cons_succ]
      refine held_take 12 (some 39) (v := ?_) rfl rfl (by kernel_rfl) (by kernel_rfl) (by kernel_rfl) (fun _ _ _ h => h) (Or.inl ⟨by rfl, ?_⟩) hHeld ?_
      rotate_left
      · (intro w' hSw; have pf := (hSw.cell (p := ⟨ga, 3, none⟩) HAL.out).trans HA3.out; clear hSw; go_simp; try with_reducible rfl)
      try simp only [Act.put, List.setIfInBounds_toArray, List.set_cons_zero, List.set_cons_succ]
      refine held_take 13 (some 40) (v := ?_) rfl rfl (by kernel_rfl) (by kernel_rfl) (by kernel_rfl) (fun _ _ _ h => h) (Or.inl ⟨by rfl, ?_⟩) hHeld ?_
      rotate_left
      · (intro w' hSw; clear hSw; go_simp; try with_reducible rfl)
      try simp only [Act.put, List.setIfInBounds_toArray, List.set_cons_zero, List.set_cons_succ]
      refine wpAnyH_ready (rs := [14]) (by kernel_rfl) (by simp) ?_
      refine AllReadyH.cons rfl (fun K hKK => ?_) AllReadyH.nil
      go_simp
      go_at_call 68
      refine (node_any (HTb.out.below hHeld) (HR.out.below hHeld) (by omega)).mono ?_
      rintro e wc1 ⟨p1, rfl, ht1, hc2⟩
      have hS3 := (hHeld).trans ((hc2).mono (hHeld).size)
      refine hKK.out _ _ hS3 (fun hHeld => ?_)
      clear hKK K
      try simp only [Act.put, List.setIfInBounds_toArray, List.set_cons_zero, List.set_cons_succ]
      refine wpAnyH_ready (rs := [15]) (by kernel_rfl) (by simp) ?_
      refine AllReadyH.cons rfl (fun K hKK => ?_) AllReadyH.nil
      go_simp
      go_at_call 68
      refine (node_any (HTa.out.below hHeld) ht1 (by simp only [Tre.len]; omega)).mono ?_
      rintro e wc4 ⟨p2, rfl, ht2, hc5⟩
      have hS6 := (hHeld).trans ((hc5).mono (hHeld).size)
      refine hKK.out _ _ hS6 (fun hHeld => ?_)
      clear hKK K
      try simp only [Act.put, List.setIfInBounds_toArray, List.set_cons_zero, List.set_cons_succ]
      refine held_take 16 (some 6) (v := ?_) rfl rfl (by kernel_rfl) (by kernel_rfl) (by kernel_rfl) (fun _ _ _ h => h) (Or.inl ⟨by rfl, ?_⟩) hHeld ?_
      rotate_left
      · (intro w' hSw; clear hSw; go_simp; try with_reducible rfl)
      try simp only [Act.put, List.setIfInBounds_toArray, List.set_cons_zero, List.set_cons_succ]
      refine wpAnyH_done (by kernel_rfl) ?_ _
      --]4
      go_wp2_with fail
      go_ret
      exact ⟨_, rfl, by rw [Tre.join_A1 _ _ _ _ (by rw [HTL.out, HTR.out]; exact HAE.out) HHT.out]; exact ht2, HB0.out.trans (hHeld.mono HB0.out.size)⟩
    · have hHT : ¬ tb.ht ≤ ta.ht := by rw [HHA.out.1, HHA.out.2]; exact h2
      have HHT := Lib.hid hHT
      clear hHT
      obtain ⟨k2, v2, tc, td, rfl⟩ : ∃ k2 v2 tc td, tb = .node k2 v2 tc td := by
        cases tb with
        | nil => have := HHA.out.2; simp [Tre.ht] at this; omega
        | node k2 v2 tc td => exact ⟨k2, v2, tc, td, rfl⟩
      obtain ⟨gb, pc, pd, rfl, hrb, htc, htd⟩ := HTb.out
      have HBx0 := Lib.hid (show w0.rangeAt gb 0 [.string k2, .string v2] from rangeAt_of_row hrb 0 2)
      have HB2 := Lib.hid (show w0.cell? ⟨gb, 2, none⟩ = some (.pointer pc) from cell_row' hrb)
      have HB3 := Lib.hid (show w0.cell? ⟨gb, 3, none⟩ = some (.pointer pd) from cell_row' hrb)
      have HBL := Lib.hid (row_lt hrb)
      have HTc := Lib.hid htc
      have HTd := Lib.hid htd
      clear hrb htc htd
      simp only [Tre.len] at hz'
      have pf := (HH.out.cell (p := ⟨ga, 3, none⟩) HAL.out).trans HA3.out
      go_upto_region 6 with (fail)
      clear pf
      --[6
      refine wp_region_held_drew (S := fun w' => Below w0.heap.size w0 w') (by kernel_rfl) (HH.out.drew) (fun hHeld => ?_)
      refine held_take 0 (some 47) (v := ?_) rfl rfl (by kernel_rfl) (by kernel_rfl) (by kernel_rfl) (fun _ _ _ h => h) (Or.inl ⟨by rfl, ?_⟩) hHeld ?_
      rotate_left
      · (intro w' hSw; clear hSw; go_simp; try with_reducible rfl)
      try simp only [Act.put, List.setIfInBounds_toArray, List.set_cons_zero, List.set_cons_succ]
      refine held_take 1 (some 48) (v := ?_) rfl rfl (by kernel_rfl) (by kernel_rfl) (by kernel_rfl) (fun _ _ _ h => h) (Or.inl ⟨by rfl, ?_⟩) hHeld ?_
      rotate_left
      · (intro w' hSw; clear hSw; go_simp; try with_reducible rfl)
      try simp only [Act.put, List.setIfInBounds_toArray, List.set_cons_zero, List.set_cons_succ]
      refine held_take 2 (some 49) (v := ?_) rfl rfl (by kernel_rfl) (by kernel_rfl) (by kernel_rfl) (fun _ _ _ h => h) (Or.inl ⟨by rfl, ?_⟩) hHeld ?_
      rotate_left
      · (intro w' hSw; clear hSw; go_simp; try with_reducible rfl)
      try simp only [Act.put, List.setIfInBounds_toArray, List.set_cons_zero, List.set_cons_succ]
      refine held_take 3 (some 50) (v := .agg ([.string k2, .string v2]).toArray) rfl rfl (by kernel_rfl) (by kernel_rfl) (by kernel_rfl) (fun _ _ _ h => h) (yieldsIf_load_mid (by rfl) 97 _ rfl gb (0) rfl ([.string k2, .string v2]) _ (fun w' h => rangeAt_block HBx0.out (h.block _ HBL.out)) Tryz.underlying97 rfl rfl) hHeld ?_
      try simp only [Act.put, List.setIfInBounds_toArray, List.set_cons_zero, List.set_cons_succ]
      refine held_take 4 (some 51) (v := ?_) rfl rfl (by kernel_rfl) (by kernel_rfl) (by kernel_rfl) (fun _ _ _ h => h) (Or.inl ⟨by rfl, ?_⟩) hHeld ?_
      rotate_left
      · (intro w' hSw; clear hSw; go_simp; try with_reducible rfl)
      try simp only [Act.put, List.setIfInBounds_toArray, List.set_cons_zero, List.set_cons_succ]
      refine held_take 5 (some 52) (v := ?_) rfl rfl (by kernel_rfl) (by kernel_rfl) (by kernel_rfl) (fun _ _ _ h => h) (Or.inl ⟨by rfl, ?_⟩) hHeld ?_
      rotate_left
      · (intro w' hSw; clear hSw; go_simp; try with_reducible rfl)
      try simp only [Act.put, List.setIfInBounds_toArray, List.set_cons_zero, List.set_cons_succ]
      refine held_take 6 (some 53) (v := ?_) rfl rfl (by kernel_rfl) (by kernel_rfl) (by kernel_rfl) (fun _ _ _ h => h) (Or.inl ⟨by rfl, ?_⟩) hHeld ?_
      rotate_left
      · (intro w' hSw; clear hSw; go_simp; try with_reducible rfl)
      try simp only [Act.put, List.setIfInBounds_toArray, List.set_cons_zero, List.set_cons_succ]
      refine held_take 7 (some 54) (v := .agg ([.string k1, .string v1]).toArray) rfl rfl (by kernel_rfl) (by kernel_rfl) (by kernel_rfl) (fun _ _ _ h => h) (yieldsIf_load_mid (by rfl) 97 _ rfl ga (0) rfl ([.string k1, .string v1]) _ (fun w' h => rangeAt_block HA0.out (h.block _ HAL.out)) Tryz.underlying97 rfl rfl) hHeld ?_
      try simp only [Act.put, List.setIfInBounds_toArray, List.set_cons_zero, List.set_cons_succ]
      refine held_take 8 (some 55) (v := ?_) rfl rfl (by kernel_rfl) (by kernel_rfl) (by kernel_rfl) (fun _ _ _ h => h) (Or.inl ⟨by rfl, ?_⟩) hHeld ?_
      rotate_left
      · (intro w' hSw; clear hSw; go_simp; try with_reducible rfl)
      try simp only [Act.put, List.setIfInBounds_toArray, List.set_cons_zero, List.set_cons_succ]
      refine held_take 9 (some 56) (v := ?_) rfl rfl (by kernel_rfl) (by kernel_rfl) (by kernel_rfl) (fun _ _ _ h => h) (Or.inl ⟨by rfl, ?_⟩) hHeld ?_
      rotate_left
      · (intro w' hSw; clear hSw; go_simp; try with_reducible rfl)
      try simp only [Act.put, List.setIfInBounds_toArray, List.set_cons_zero, List.set_cons_succ]
      refine held_take 10 (some 57) (v := ?_) rfl rfl (by kernel_rfl) (by kernel_rfl) (by kernel_rfl) (fun _ _ _ h => h) (Or.inl ⟨by rfl, ?_⟩) hHeld ?_
      rotate_left
      · (intro w' hSw; clear hSw; go_simp; try with_reducible rfl)
      try simp only [Act.put, List.setIfInBounds_toArray, List.set_cons_zero, List.set_cons_succ]
      refine held_take 11 (some 58) (v := ?_) rfl rfl (by kernel_rfl) (by kernel_rfl) (by kernel_rfl) (fun _ _ _ h => h) (Or.inl ⟨by rfl, ?_⟩) hHeld ?_
      rotate_left
      · (intro w' hSw; have pf := (hSw.cell (p := ⟨ga, 2, none⟩) HAL.out).trans HA2.out; clear hSw; go_simp; try with_reducible rfl)
      try simp only [Act.put, List.setIfInBounds_toArray, List.set_cons_zero, List.set_cons_succ]
      refine held_take 12 (some 59) (v := ?_) rfl rfl (by kernel_rfl) (by kernel_rfl) (by kernel_rfl) (fun _ _ _ h => h) (Or.inl ⟨by rfl, ?_⟩) hHeld ?_
      rotate_left
      · (intro w' hSw; clear hSw; go_simp; try with_reducible rfl)
      try simp only [Act.put, List.setIfInBounds_toArray, List.set_cons_zero, List.set_cons_succ]
      refine held_take 13 (some 60) (v := ?_) rfl rfl (by kernel_rfl) (by kernel_rfl) (by kernel_rfl) (fun _ _ _ h => h) (Or.inl ⟨by rfl, ?_⟩) hHeld ?_
      rotate_left
      · (intro w' hSw; clear hSw; go_simp; try with_reducible rfl)
      try simp only [Act.put, List.setIfInBounds_toArray, List.set_cons_zero, List.set_cons_succ]
      refine held_take 14 (some 61) (v := ?_) rfl rfl (by kernel_rfl) (by kernel_rfl) (by kernel_rfl) (fun _ _ _ h => h) (Or.inl ⟨by rfl, ?_⟩) hHeld ?_
      rotate_left
      · (intro w' hSw; clear hSw; go_simp; try with_reducible rfl)
      try simp only [Act.put, List.setIfInBounds_toArray, List.set_cons_zero, List.set_cons_succ]
      refine held_take 15 (some 62) (v := ?_) rfl rfl (by kernel_rfl) (by kernel_rfl) (by kernel_rfl) (fun _ _ _ h => h) (Or.inl ⟨by rfl, ?_⟩) hHeld ?_
      rotate_left
      · (intro w' hSw; have pf := (hSw.cell (p := ⟨gb, 2, none⟩) HBL.out).trans HB2.out; clear hSw; go_simp; try with_reducible rfl)
      try simp only [Act.put, List.setIfInBounds_toArray, List.set_cons_zero, List.set_cons_succ]
      refine held_take 17 (some 64) (v := .agg ([.string k, .string v]).toArray) rfl rfl (by kernel_rfl) (by kernel_rfl) (by kernel_rfl) (fun _ _ _ h => h) (yieldsIf_load_mid (by rfl) 97 _ rfl g3 (0) rfl ([.string k, .string v]) _ (fun w' h => rangeAt_block HG0.out (h.block _ HGL.out)) Tryz.underlying97 rfl rfl) hHeld ?_
      try simp only [Act.put, List.setIfInBounds_toArray, List.set_cons_zero, List.set_cons_succ]
      refine held_take 18 (some 65) (v := ?_) rfl rfl (by kernel_rfl) (by kernel_rfl) (by kernel_rfl) (fun _ _ _ h => h) (Or.inl ⟨by rfl, ?_⟩) hHeld ?_
      rotate_left
      · (intro w' hSw; clear hSw; go_simp; try with_reducible rfl)
      try simp only [Act.put, List.setIfInBounds_toArray, List.set_cons_zero, List.set_cons_succ]
      refine held_take 19 (some 66) (v := ?_) rfl rfl (by kernel_rfl) (by kernel_rfl) (by kernel_rfl) (fun _ _ _ h => h) (Or.inl ⟨by rfl, ?_⟩) hHeld ?_
      rotate_left
      · (intro w' hSw; clear hSw; go_simp; try with_reducible rfl)
      try simp only [Act.put, List.setIfInBounds_toArray, List.set_cons_zero, List.set_cons_succ]
      refine held_take 20 (some 67) (v := ?_) rfl rfl (by kernel_rfl) (by kernel_rfl) (by kernel_rfl) (fun _ _ _ h => h) (Or.inl ⟨by rfl, ?_⟩) hHeld ?_
      rotate_left
      · (intro w' hSw; clear hSw; go_simp; try with_reducible rfl)
      try simp only [Act.put, List.setIfInBounds_toArray, List.set_cons_zero, List.set_cons_succ]
      refine held_take 21 (some 68) (v := ?_) rfl rfl (by kernel_rfl) (by kernel_rfl) (by kernel_rfl) (fun _ _ _ h => h) (Or.inl ⟨by rfl, ?_⟩) hHeld ?_
      rotate_left
      · (intro w' hSw; have pf := (hSw.cell (p := ⟨gb, 3, none⟩) HBL.out).trans HB3.out; clear hSw; go_simp; try with_reducible rfl)
      try simp only [Act.put, List.setIfInBounds_toArray, List.set_cons_zero, List.set_cons_succ]
      refine held_take 22 (some 69) (v := ?_) rfl rfl (by kernel_rfl) (by kernel_rfl) (by kernel_rfl) (fun _ _ _ h => h) (Or.inl ⟨by rfl, ?_⟩) hHeld ?_
      rotate_left
      · (intro w' hSw; clear hSw; go_simp; try with_reducible rfl)
      try simp only [Act.put, List.setIfInBounds_toArray, List.set_cons_zero, List.set_cons_succ]
      refine wpAnyH_ready (rs := [16]) (by kernel_rfl) (by simp) ?_
      refine AllReadyH.cons rfl (fun K hKK => ?_) AllReadyH.nil
      go_simp
      go_at_call 68
      refine (node_any (HTa.out.below hHeld) (HTc.out.below hHeld) (by omega)).mono ?_
      rintro e wc7 ⟨p1, rfl, ht1, hc8⟩
      have hS9 := (hHeld).trans ((hc8).mono (hHeld).size)
      refine hKK.out _ _ hS9 (fun hHeld => ?_)
      clear hKK K
      try simp only [Act.put, List.setIfInBounds_toArray, List.set_cons_zero, List.set_cons_succ]
      refine wpAnyH_ready (rs := [23]) (by kernel_rfl) (by simp) ?_
      refine AllReadyH.cons rfl (fun K hKK => ?_) AllReadyH.nil
      go_simp
      go_at_call 68
      refine (node_any (HTd.out.below hHeld) (HR.out.below hHeld) (by omega)).mono ?_
      rintro e wc10 ⟨p2, rfl, ht2, hc11⟩
      have hS12 := (hHeld).trans ((hc11).mono (hHeld).size)
      refine hKK.out _ _ hS12 (fun hHeld => ?_)
      clear hKK K
      try simp only [Act.put, List.setIfInBounds_toArray, List.set_cons_zero, List.set_cons_succ]
      refine wpAnyH_ready (rs := [24]) (by kernel_rfl) (by simp) ?_
      refine AllReadyH.cons rfl (fun K hKK => ?_) AllReadyH.nil
      go_simp
      go_at_call 68
      refine (node_any (ht1.below hc11) ht2 (by simp only [Tre.len]; omega)).mono ?_
      rintro e wc13 ⟨p3, rfl, ht3, hc14⟩
      have hS15 := (hHeld).trans ((hc14).mono (hHeld).size)
      refine hKK.out _ _ hS15 (fun hHeld => ?_)
      clear hKK K
      try simp only [Act.put, List.setIfInBounds_toArray, List.set_cons_zero, List.set_cons_succ]
      refine held_take 25 (some 6) (v := ?_) rfl rfl (by kernel_rfl) (by kernel_rfl) (by kernel_rfl) (fun _ _ _ h => h) (Or.inl ⟨by rfl, ?_⟩) hHeld ?_
      rotate_left
      · (intro w' hSw; clear hSw; go_simp; try with_reducible rfl)
      try simp only [Act.put, List.setIfInBounds_toArray, List.set_cons_zero, List.set_cons_succ]
      refine wpAnyH_done (by kernel_rfl) ?_ _
      --]6
      go_wp2_with fail
      go_ret
      exact ⟨_, rfl, by rw [Tre.join_A2 _ _ _ _ _ _ (by rw [HTL.out, HTR.out]; exact HAE.out) HHT.out]; exact ht3, HB0.out.trans (hHeld.mono HB0.out.size)⟩
  · by_cases hB : tr = tl + 2
    · have hwd : IntKind.i64.wrap ((tl : Int) - (tr : Int)) = -2 := by rw [IntKind.wrap_i64]; omega
      obtain ⟨k1, v1, ta, tb, rfl⟩ : ∃ k1 v1 ta tb, r = .node k1 v1 ta tb := by
        cases r with
        | nil => have := HTR.out; simp [Tre.ht] at this; omega
        | node k1 v1 ta tb => exact ⟨k1, v1, ta, tb, rfl⟩
      obtain ⟨ga, pa, pb, rfl, hra, hta, htb⟩ := HR.out
      have HA0 := Lib.hid (show w0.rangeAt ga 0 [.string k1, .string v1] from rangeAt_of_row hra 0 2)
      have HA2 := Lib.hid (show w0.cell? ⟨ga, 2, none⟩ = some (.pointer pa) from cell_row' hra)
      have HA3 := Lib.hid (show w0.cell? ⟨ga, 3, none⟩ = some (.pointer pb) from cell_row' hra)
      have HAL := Lib.hid (row_lt hra)
      have HTa := Lib.hid hta
      have HTb := Lib.hid htb
      obtain ⟨ha, hha⟩ : ∃ n, ta.ht = n := ⟨_, rfl⟩
      obtain ⟨hb, hhb⟩ : ∃ n, tb.ht = n := ⟨_, rfl⟩
      have Hh1 := Lib.hid (fun (W : World) (h : Below w0.heap.size w0 W) => hha ▸ THeight_any (HTa.out.below h))
      have Hh2 := Lib.hid (fun (W : World) (h : Below w0.heap.size w0 W) => hhb ▸ THeight_any (HTb.out.below h))
      have HHA := Lib.hid (And.intro hha hhb)
      have hz' : l.len + (ta.len + tb.len + 1) < 1000000 := hz
      have HAE := Lib.hid hB
      clear hra hta htb hha hhb hz HR hA hB hh1 hh2
      go_upto_region 8 with (fail)
      --[8
      refine wp_region_held_drew (S := fun w' => Below w0.heap.size w0 w') (by kernel_rfl) ((Below.refl _ _).drew) (fun hHeld => ?_)
      refine held_take 0 (some 74) (v := ?_) rfl rfl (by kernel_rfl) (by kernel_rfl) (by kernel_rfl) (fun _ _ _ h => h) (Or.inl ⟨by rfl, ?_⟩) hHeld ?_
      rotate_left
      · (intro w' hSw; clear hSw; go_simp; try with_reducible rfl)
      try simp only [Act.put, List.setIfInBounds_toArray, List.set_cons_zero, List.set_cons_succ]
      refine held_take 1 (some 75) (v := ?_) rfl rfl (by kernel_rfl) (by kernel_rfl) (by kernel_rfl) (fun _ _ _ h => h) (Or.inl ⟨by rfl, ?_⟩) hHeld ?_
      rotate_left
      · (intro w' hSw; clear hSw; go_simp; try with_reducible rfl)
      try simp only [Act.put, List.setIfInBounds_toArray, List.set_cons_zero, List.set_cons_succ]
      refine held_take 2 (some 76) (v := ?_) rfl rfl (by kernel_rfl) (by kernel_rfl) (by kernel_rfl) (fun _ _ _ h => h) (Or.inl ⟨by rfl, ?_⟩) hHeld ?_
      rotate_left
      · (intro w' hSw; clear hSw; go_simp; try with_reducible rfl)
      try simp only [Act.put, List.setIfInBounds_toArray, List.set_cons_zero, List.set_cons_succ]
      refine held_take 3 (some 77) (v := ?_) rfl rfl (by kernel_rfl) (by kernel_rfl) (by kernel_rfl) (fun _ _ _ h => h) (Or.inl ⟨by rfl, ?_⟩) hHeld ?_
      rotate_left
      · (intro w' hSw; have pf := (hSw.cell (p := ⟨ga, 3, none⟩) HAL.out).trans HA3.out; clear hSw; go_simp; try with_reducible rfl)
      try simp only [Act.put, List.setIfInBounds_toArray, List.set_cons_zero, List.set_cons_succ]
      refine held_take 5 (some 79) (v := ?_) rfl rfl (by kernel_rfl) (by kernel_rfl) (by kernel_rfl) (fun _ _ _ h => h) (Or.inl ⟨by rfl, ?_⟩) hHeld ?_
      rotate_left
      · (intro w' hSw; clear hSw; go_simp; try with_reducible rfl)
      try simp only [Act.put, List.setIfInBounds_toArray, List.set_cons_zero, List.set_cons_succ]
      refine held_take 6 (some 80) (v := ?_) rfl rfl (by kernel_rfl) (by kernel_rfl) (by kernel_rfl) (fun _ _ _ h => h) (Or.inl ⟨by rfl, ?_⟩) hHeld ?_
      rotate_left
      · (intro w' hSw; clear hSw; go_simp; try with_reducible rfl)
      try simp only [Act.put, List.setIfInBounds_toArray, List.set_cons_zero, List.set_cons_succ]
      refine held_take 7 (some 81) (v := ?_) rfl rfl (by kernel_rfl) (by kernel_rfl) (by kernel_rfl) (fun _ _ _ h => h) (Or.inl ⟨by rfl, ?_⟩) hHeld ?_
      rotate_left
      · (intro w' hSw; clear hSw; go_simp; try with_reducible rfl)
      try simp only [Act.put, List.setIfInBounds_toArray, List.set_cons_zero, List.set_cons_succ]
      refine held_take 8 (some 82) (v := ?_) rfl rfl (by kernel_rfl) (by kernel_rfl) (by kernel_rfl) (fun _ _ _ h => h) (Or.inl ⟨by rfl, ?_⟩) hHeld ?_
      rotate_left
      · (intro w' hSw; have pf := (hSw.cell (p := ⟨ga, 2, none⟩) HAL.out).trans HA2.out; clear hSw; go_simp; try with_reducible rfl)
      try simp only [Act.put, List.setIfInBounds_toArray, List.set_cons_zero, List.set_cons_succ]
      refine wpAnyH_ready (rs := [4]) (by kernel_rfl) (by simp) ?_
      refine AllReadyH.cons rfl (fun K hKK => ?_) AllReadyH.nil
      go_simp
      go_at_call 90
      refine (Hh2.out _ hHeld).mono ?_
      rintro e w' ⟨rfl, rfl⟩
      refine hKK.out _ _ hHeld (fun hHeld => ?_)
      clear hKK K
      try simp only [Act.put, List.setIfInBounds_toArray, List.set_cons_zero, List.set_cons_succ]
      refine wpAnyH_ready (rs := [9]) (by kernel_rfl) (by simp) ?_
      refine AllReadyH.cons rfl (fun K hKK => ?_) AllReadyH.nil
      go_simp
      go_at_call 90
      refine (Hh1.out _ hHeld).mono ?_
      rintro e w' ⟨rfl, rfl⟩
      refine hKK.out _ _ hHeld (fun hHeld => ?_)
      clear hKK K
      try simp only [Act.put, List.setIfInBounds_toArray, List.set_cons_zero, List.set_cons_succ]
      refine held_take 10 (some 84) (v := ?_) rfl rfl (by kernel_rfl) (by kernel_rfl) (by kernel_rfl) (fun _ _ _ h => h) (Or.inl ⟨by rfl, ?_⟩) hHeld ?_
      rotate_left
      · (intro w' hSw; clear hSw; go_simp; try with_reducible rfl)
      try simp only [Act.put, List.setIfInBounds_toArray, List.set_cons_zero, List.set_cons_succ]
      refine wpAnyH_done (by kernel_rfl) ?_ _
      --]8
      have HH := Lib.hid hHeld
      clear hHeld
      by_cases h2 : ha ≤ hb
      · have hHT : ta.ht ≤ tb.ht := by rw [HHA.out.1, HHA.out.2]; exact h2
        have HHT := Lib.hid hHT
        clear hHT
        go_upto_region 9 with (fail)
        --[9
        refine wp_region_held_drew (S := fun w' => Below w0.heap.size w0 w') (by kernel_rfl) (HH.out.drew) (fun hHeld => ?_)
        refine held_take 0 (some 85) (v := ?_) rfl rfl (by kernel_rfl) (by kernel_rfl) (by kernel_rfl) (fun _ _ _ h => h) (Or.inl ⟨by rfl, ?_⟩) hHeld ?_
        rotate_left
        · (intro w' hSw; clear hSw; go_simp; try with_reducible rfl)
        try simp only [Act.put, List.setIfInBounds_toArray, List.set_cons_zero, List.set_cons_succ]
        refine held_take 1 (some 86) (v := ?_) rfl rfl (by kernel_rfl) (by kernel_rfl) (by kernel_rfl) (fun _ _ _ h => h) (Or.inl ⟨by rfl, ?_⟩) hHeld ?_
        rotate_left
        · (intro w' hSw; clear hSw; go_simp; try with_reducible rfl)
        try simp only [Act.put, List.setIfInBounds_toArray, List.set_cons_zero, List.set_cons_succ]
        refine held_take 2 (some 87) (v := ?_) rfl rfl (by kernel_rfl) (by kernel_rfl) (by kernel_rfl) (fun _ _ _ h => h) (Or.inl ⟨by rfl, ?_⟩) hHeld ?_
        rotate_left
        · (intro w' hSw; clear hSw; go_simp; try with_reducible rfl)
        try simp only [Act.put, List.setIfInBounds_toArray, List.set_cons_zero, List.set_cons_succ]
        refine held_take 3 (some 88) (v := .agg ([.string k1, .string v1]).toArray) rfl rfl (by kernel_rfl) (by kernel_rfl) (by kernel_rfl) (fun _ _ _ h => h) (yieldsIf_load_mid (by rfl) 97 _ rfl ga (0) rfl ([.string k1, .string v1]) _ (fun w' h => rangeAt_block HA0.out (h.block _ HAL.out)) Tryz.underlying97 rfl rfl) hHeld ?_
        try simp only [Act.put, List.setIfInBounds_toArray, List.set_cons_zero, List.set_cons_succ]
        refine held_take 4 (some 89) (v := .agg ([.string k, .string v]).toArray) rfl rfl (by kernel_rfl) (by kernel_rfl) (by kernel_rfl) (fun _ _ _ h => h) (yieldsIf_load_mid (by rfl) 97 _ rfl g3 (0) rfl ([.string k, .string v]) _ (fun w' h => rangeAt_block HG0.out (h.block _ HGL.out)) Tryz.underlying97 rfl rfl) hHeld ?_
        try simp only [Act.put, List.setIfInBounds_toArray, List.set_cons_zero, List.set_cons_succ]
        refine held_take 5 (some 90) (v := ?_) rfl rfl (by kernel_rfl) (by kernel_rfl) (by kernel_rfl) (fun _ _ _ h => h) (Or.inl ⟨by rfl, ?_⟩) hHeld ?_
        rotate_left
        · (intro w' hSw; clear hSw; go_simp; try with_reducible rfl)
        try simp only [Act.put, List.setIfInBounds_toArray, List.set_cons_zero, List.set_cons_succ]
        refine held_take 6 (some 91) (v := ?_) rfl rfl (by kernel_rfl) (by kernel_rfl) (by kernel_rfl) (fun _ _ _ h => h) (Or.inl ⟨by rfl, ?_⟩) hHeld ?_
        rotate_left
        · (intro w' hSw; clear hSw; go_simp; try with_reducible rfl)
        try simp only [Act.put, List.setIfInBounds_toArray, List.set_cons_zero, List.set_cons_succ]
        refine held_take 7 (some 92) (v := ?_) rfl rfl (by kernel_rfl) (by kernel_rfl) (by kernel_rfl) (fun _ _ _ h => h) (Or.inl ⟨by rfl, ?_⟩) hHeld ?_
        rotate_left
        · (intro w' hSw; clear hSw; go_simp; try with_reducible rfl)
        try simp only [Act.put, List.setIfInBounds_toArray, List.set_cons_zero, List.set_cons_succ]
        refine held_take 8 (some 93) (v := ?_) rfl rfl (by kernel_rfl) (by kernel_rfl) (by kernel_rfl) (fun _ _ _ h => h) (Or.inl ⟨by rfl, ?_⟩) hHeld ?_
        rotate_left
        · (intro w' hSw; clear hSw; go_simp; try with_reducible rfl)
        try simp only [Act.put, List.setIfInBounds_toArray, List.set_cons_zero, List.set_cons_succ]
        refine held_take 9 (some 94) (v := ?_) rfl rfl (by kernel_rfl) (by kernel_rfl) (by kernel_rfl) (fun _ _ _ h => h) (Or.inl ⟨by rfl, ?_⟩) hHeld ?_
        rotate_left
        · (intro w' hSw; have pf := (hSw.cell (p := ⟨ga, 2, none⟩) HAL.out).trans HA2.out; clear hSw; go_simp; try with_reducible rfl)
        try simp only [Act.put, List.setIfInBounds_toArray, List.set_cons_zero, List.set_cons_succ]
        refine held_take 11 (some 96) (v := ?_) rfl rfl (by kernel_rfl) (by kernel_rfl) (by kernel_rfl) (fun _ _ _ h => h) (Or.inl ⟨by rfl, ?_⟩) hHeld ?_
        rotate_left
        · (intro w' hSw; clear hSw; go_simp; try with_reducible rfl)
        try simp only [Act.put, List.setIfInBounds_toArray, List.set_cons_zero, List.set_cons_succ]
        refine held_take 12 (some 97) (v := ?_) rfl rfl (by kernel_rfl) (by kernel_rfl) (by kernel_rfl) (fun _ _ _ h => h) (Or.inl ⟨by rfl, ?_⟩) hHeld ?_
        rotate_left
        · (intro w' hSw; clear hSw; go_simp; try with_reducible rfl)
        try simp only [Act.put, List.setIfInBounds_toArray, List.set_cons_zero, List.set_cons_succ]
        refine held_take 13 (some 98) (v := ?_) rfl rfl (by kernel_rfl) (by kernel_rfl) (by kernel_rfl) (fun _ _ _ h => h) (Or.inl ⟨by rfl, ?_⟩) hHeld ?_
        rotate_left
        · (intro w' hSw; clear hSw; go_simp; try with_reducible rfl)
        try simp only [Act.put, List.setIfInBounds_toArray, List.set_cons_zero, List.set_cons_succ]
        refine held_take 14 (some 99) (v := ?_) rfl rfl (by kernel_rfl) (by kernel_rfl) (by kernel_rfl) (fun _ _ _ h => h) (Or.inl ⟨by rfl, ?_⟩) hHeld ?_
        rotate_left
        · (intro w' hSw; have pf := (hSw.cell (p := ⟨ga, 3, none⟩) HAL.out).trans HA3.out; clear hSw; go_simp; try with_reducible rfl)
        try simp only [Act.put, List.setIfInBounds_toArray, List.set_cons_zero, List.set_cons_succ]
        refine wpAnyH_ready (rs := [10]) (by kernel_rfl) (by simp) ?_
        refine AllReadyH.cons rfl (fun K hKK => ?_) AllReadyH.nil
        go_simp
        go_at_call 68
        refine (node_any (HL.out.below hHeld) (HTa.out.below hHeld) (by omega)).mono ?_
        rintro e wc16 ⟨p1, rfl, ht1, hc17⟩
        have hS18 := (hHeld).trans ((hc17).mono (hHeld).size)
        refine hKK.out _ _ hS18 (fun hHeld => ?_)
        clear hKK K
        try simp only [Act.put, List.setIfInBounds_toArray, List.set_cons_zero, List.set_cons_succ]
        refine wpAnyH_ready (rs := [15]) (by kernel_rfl) (by simp) ?_
        refine AllReadyH.cons rfl (fun K hKK => ?_) AllReadyH.nil
        go_simp
        go_at_call 68
        refine (node_any ht1 (HTb.out.below hHeld) (by simp only [Tre.len]; omega)).mono ?_
        rintro e wc19 ⟨p2, rfl, ht2, hc20⟩
        have hS21 := (hHeld).trans ((hc20).mono (hHeld).size)
        refine hKK.out _ _ hS21 (fun hHeld => ?_)
        clear hKK K
        try simp only [Act.put, List.setIfInBounds_toArray, List.set_cons_zero, List.set_cons_succ]
        refine held_take 16 (some 6) (v := ?_) rfl rfl (by kernel_rfl) (by kernel_rfl) (by kernel_rfl) (fun _ _ _ h => h) (Or.inl ⟨by rfl, ?_⟩) hHeld ?_
        rotate_left
        · (intro w' hSw; clear hSw; go_simp; try with_reducible rfl)
        try simp only [Act.put, List.setIfInBounds_toArray, List.set_cons_zero, List.set_cons_succ]
        refine wpAnyH_done (by kernel_rfl) ?_ _
        --]9
        go_wp2_with fail
        go_ret
        exact ⟨_, rfl, by rw [Tre.join_B1 _ _ _ _ (by rw [HTR.out, HTL.out]; exact HAE.out) HHT.out]; exact ht2, HB0.out.trans (hHeld.mono HB0.out.size)⟩
      · have hHT : ¬ ta.ht ≤ tb.ht := by rw [HHA.out.1, HHA.out.2]; exact h2
        have HHT := Lib.hid hHT
        clear hHT
        obtain ⟨k2, v2, tc, td, rfl⟩ : ∃ k2 v2 tc td, ta = .node k2 v2 tc td := by
          cases ta with
          | nil => have := HHA.out.1; simp [Tre.ht] at this; omega
          | node k2 v2 tc td => exact ⟨k2, v2, tc, td, rfl⟩
        obtain ⟨gb, pc, pd, rfl, hrb, htc, htd⟩ := HTa.out
        have HBx0 := Lib.hid (show w0.rangeAt gb 0 [.string k2, .string v2] from rangeAt_of_row hrb 0 2)
        have HB2 := Lib.hid (show w0.cell? ⟨gb, 2, none⟩ = some (.pointer pc) from cell_row' hrb)
        have HB3 := Lib.hid (show w0.cell? ⟨gb, 3, none⟩ = some (.pointer pd) from cell_row' hrb)
        have HBL := Lib.hid (row_lt hrb)
        have HTc := Lib.hid htc
        have HTd := Lib.hid htd
        clear hrb htc htd
        simp only [Tre.len] at hz'
        have pf := (HH.out.cell (p := ⟨ga, 2, none⟩) HAL.out).trans HA2.out
        go_upto_region 11 with (fail)
        clear pf
        --[11
        refine wp_region_held_drew (S := fun w' => Below w0.heap.size w0 w') (by kernel_rfl) (HH.out.drew) (fun hHeld => ?_)
        refine held_take 0 (some 105) (v := ?_) rfl rfl (by kernel_rfl) (by kernel_rfl) (by kernel_rfl) (fun _ _ _ h => h) (Or.inl ⟨by rfl, ?_⟩) hHeld ?_
        rotate_left
        · (intro w' hSw; clear hSw; go_simp; try with_reducible rfl)
        try simp only [Act.put, List.setIfInBounds_toArray, List.set_cons_zero, List.set_cons_succ]
        refine held_take 1 (some 106) (v := ?_) rfl rfl (by kernel_rfl) (by kernel_rfl) (by kernel_rfl) (fun _ _ _ h => h) (Or.inl ⟨by rfl, ?_⟩) hHeld ?_
        rotate_left
        · (intro w' hSw; clear hSw; go_simp; try with_reducible rfl)
        try simp only [Act.put, List.setIfInBounds_toArray, List.set_cons_zero, List.set_cons_succ]
        refine held_take 2 (some 107) (v := ?_) rfl rfl (by kernel_rfl) (by kernel_rfl) (by kernel_rfl) (fun _ _ _ h => h) (Or.inl ⟨by rfl, ?_⟩) hHeld ?_
        rotate_left
        · (intro w' hSw; clear hSw; go_simp; try with_reducible rfl)
        try simp only [Act.put, List.setIfInBounds_toArray, List.set_cons_zero, List.set_cons_succ]
        refine held_take 3 (some 108) (v := .agg ([.string k2, .string v2]).toArray) rfl rfl (by kernel_rfl) (by kernel_rfl) (by kernel_rfl) (fun _ _ _ h => h) (yieldsIf_load_mid (by rfl) 97 _ rfl gb (0) rfl ([.string k2, .string v2]) _ (fun w' h => rangeAt_block HBx0.out (h.block _ HBL.out)) Tryz.underlying97 rfl rfl) hHeld ?_
        try simp only [Act.put, List.setIfInBounds_toArray, List.set_cons_zero, List.set_cons_succ]
        refine held_take 4 (some 109) (v := .agg ([.string k, .string v]).toArray) rfl rfl (by kernel_rfl) (by kernel_rfl) (by kernel_rfl) (fun _ _ _ h => h) (yieldsIf_load_mid (by rfl) 97 _ rfl g3 (0) rfl ([.string k, .string v]) _ (fun w' h => rangeAt_block HG0.out (h.block _ HGL.out)) Tryz.underlying97 rfl rfl) hHeld ?_
        try simp only [Act.put, List.setIfInBounds_toArray, List.set_cons_zero, List.set_cons_succ]
        refine held_take 5 (some 110) (v := ?_) rfl rfl (by kernel_rfl) (by kernel_rfl) (by kernel_rfl) (fun _ _ _ h => h) (Or.inl ⟨by rfl, ?_⟩) hHeld ?_
        rotate_left
        · (intro w' hSw; clear hSw; go_simp; try with_reducible rfl)
        try simp only [Act.put, List.setIfInBounds_toArray, List.set_cons_zero, List.set_cons_succ]
        refine held_take 6 (some 111) (v := ?_) rfl rfl (by kernel_rfl) (by kernel_rfl) (by kernel_rfl) (fun _ _ _ h => h) (Or.inl ⟨by rfl, ?_⟩) hHeld ?_
        rotate_left
        · (intro w' hSw; clear hSw; go_simp; try with_reducible rfl)
        try simp only [Act.put, List.setIfInBounds_toArray, List.set_cons_zero, List.set_cons_succ]
        refine held_take 7 (some 112) (v := ?_) rfl rfl (by kernel_rfl) (by kernel_rfl) (by kernel_rfl) (fun _ _ _ h => h) (Or.inl ⟨by rfl, ?_⟩) hHeld ?_
        rotate_left
        · (intro w' hSw; clear hSw; go_simp; try with_reducible rfl)
        try simp only [Act.put, List.setIfInBounds_toArray, List.set_cons_zero, List.set_cons_succ]
        refine held_take 8 (some 113) (v := ?_) rfl rfl (by kernel_rfl) (by kernel_rfl) (by kernel_rfl) (fun _ _ _ h => h) (Or.inl ⟨by rfl, ?_⟩) hHeld ?_
        rotate_left
        · (intro w' hSw; clear hSw; go_simp; try with_reducible rfl)
        try simp only [Act.put, List.setIfInBounds_toArray, List.set_cons_zero, List.set_cons_succ]
        refine held_take 9 (some 114) (v := ?_) rfl rfl (by kernel_rfl) (by kernel_rfl) (by kernel_rfl) (fun _ _ _ h => h) (Or.inl ⟨by rfl, ?_⟩) hHeld ?_
        rotate_left
        · (intro w' hSw; have pf := (hSw.cell (p := ⟨gb, 2, none⟩) HBL.out).trans HB2.out; clear hSw; go_simp; try with_reducible rfl)
        try simp only [Act.put, List.setIfInBounds_toArray, List.set_cons_zero, List.set_cons_succ]
        refine held_take 11 (some 116) (v := ?_) rfl rfl (by kernel_rfl) (by kernel_rfl) (by kernel_rfl) (fun _ _ _ h => h) (Or.inl ⟨by rfl, ?_⟩) hHeld ?_
        rotate_left
        · (intro w' hSw; clear hSw; go_simp; try with_reducible rfl)
        try simp only [Act.put, List.setIfInBounds_toArray, List.set_cons_zero, List.set_cons_succ]
        refine held_take 12 (some 117) (v := ?_) rfl rfl (by kernel_rfl) (by kernel_rfl) (by kernel_rfl) (fun _ _ _ h => h) (Or.inl ⟨by rfl, ?_⟩) hHeld ?_
        rotate_left
        · (intro w' hSw; clear hSw; go_simp; try with_reducible rfl)
        try simp only [Act.put, List.setIfInBounds_toArray, List.set_cons_zero, List.set_cons_succ]
        refine held_take 13 (some 118) (v := ?_) rfl rfl (by kernel_rfl) (by kernel_rfl) (by kernel_rfl) (fun _ _ _ h => h) (Or.inl ⟨by rfl, ?_⟩) hHeld ?_
        rotate_left
        · (intro w' hSw; clear hSw; go_simp; try with_reducible rfl)
        try simp only [Act.put, List.setIfInBounds_toArray, List.set_cons_zero, List.set_cons_succ]
        refine held_take 14 (some 119) (v := .agg ([.string k1, .string v1]).toArray) rfl rfl (by kernel_rfl) (by kernel_rfl) (by kernel_rfl) (fun _ _ _ h => h) (yieldsIf_load_mid (by rfl) 97 _ rfl ga (0) rfl ([.string k1, .string v1]) _ (fun w' h => rangeAt_block HA0.out (h.block _ HAL.out)) Tryz.underlying97 rfl rfl) hHeld ?_
        try simp only [Act.put, List.setIfInBounds_toArray, List.set_cons_zero, List.set_cons_succ]
        refine held_take 15 (some 120) (v := ?_) rfl rfl (by kernel_rfl) (by kernel_rfl) (by kernel_rfl) (fun _ _ _ h => h) (Or.inl ⟨by rfl, ?_⟩) hHeld ?_
        rotate_left
        · (intro w' hSw; clear hSw; go_simp; try with_reducible rfl)
        try simp only [Act.put, List.setIfInBounds_toArray, List.set_cons_zero, List.set_cons_succ]
        refine held_take 16 (some 121) (v := ?_) rfl rfl (by kernel_rfl) (by kernel_rfl) (by kernel_rfl) (fun _ _ _ h => h) (Or.inl ⟨by rfl, ?_⟩) hHeld ?_
        rotate_left
        · (intro w' hSw; clear hSw; go_simp; try with_reducible rfl)
        try simp only [Act.put, List.setIfInBounds_toArray, List.set_cons_zero, List.set_cons_succ]
        refine held_take 17 (some 122) (v := ?_) rfl rfl (by kernel_rfl) (by kernel_rfl) (by kernel_rfl) (fun _ _ _ h => h) (Or.inl ⟨by rfl, ?_⟩) hHeld ?_
        rotate_left
        · (intro w' hSw; clear hSw; go_simp; try with_reducible rfl)
        try simp only [Act.put, List.setIfInBounds_toArray, List.set_cons_zero, List.set_cons_succ]
        refine held_take 18 (some 123) (v := ?_) rfl rfl (by kernel_rfl) (by kernel_rfl) (by kernel_rfl) (fun _ _ _ h => h) (Or.inl ⟨by rfl, ?_⟩) hHeld ?_
        rotate_left
        · (intro w' hSw; have pf := (hSw.cell (p := ⟨gb, 3, none⟩) HBL.out).trans HB3.out; clear hSw; go_simp; try with_reducible rfl)
        try simp only [Act.put, List.setIfInBounds_toArray, List.set_cons_zero, List.set_cons_succ]
        refine held_take 19 (some 124) (v := ?_) rfl rfl (by kernel_rfl) (by kernel_rfl) (by kernel_rfl) (fun _ _ _ h => h) (Or.inl ⟨by rfl, ?_⟩) hHeld ?_
        rotate_left
        · (intro w' hSw; clear hSw; go_simp; try with_reducible rfl)
        try simp only [Act.put, List.setIfInBounds_toArray, List.set_cons_zero, List.set_cons_succ]
        refine held_take 20 (some 125) (v := ?_) rfl rfl (by kernel_rfl) (by kernel_rfl) (by kernel_rfl) (fun _ _ _ h => h) (Or.inl ⟨by rfl, ?_⟩) hHeld ?_
        rotate_left
        · (intro w' hSw; clear hSw; go_simp; try with_reducible rfl)
        try simp only [Act.put, List.setIfInBounds_toArray, List.set_cons_zero, List.set_cons_succ]
        refine held_take 21 (some 126) (v := ?_) rfl rfl (by kernel_rfl) (by kernel_rfl) (by kernel_rfl) (fun _ _ _ h => h) (Or.inl ⟨by rfl, ?_⟩) hHeld ?_
        rotate_left
        · (intro w' hSw; clear hSw; go_simp; try with_reducible rfl)
        try simp only [Act.put, List.setIfInBounds_toArray, List.set_cons_zero, List.set_cons_succ]
        refine held_take 22 (some 127) (v := ?_) rfl rfl (by kernel_rfl) (by kernel_rfl) (by kernel_rfl) (fun _ _ _ h => h) (Or.inl ⟨by rfl, ?_⟩) hHeld ?_
        rotate_left
        · (intro w' hSw; have pf := (hSw.cell (p := ⟨ga, 3, none⟩) HAL.out).trans HA3.out; clear hSw; go_simp; try with_reducible rfl)
        try simp only [Act.put, List.setIfInBounds_toArray, List.set_cons_zero, List.set_cons_succ]
        refine wpAnyH_ready (rs := [10]) (by kernel_rfl) (by simp) ?_
        refine AllReadyH.cons rfl (fun K hKK => ?_) AllReadyH.nil
        go_simp
        go_at_call 68
        refine (node_any (HL.out.below hHeld) (HTc.out.below hHeld) (by omega)).mono ?_
        rintro e wc22 ⟨p1, rfl, ht1, hc23⟩
        have hS24 := (hHeld).trans ((hc23).mono (hHeld).size)
        refine hKK.out _ _ hS24 (fun hHeld => ?_)
        clear hKK K
        try simp only [Act.put, List.setIfInBounds_toArray, List.set_cons_zero, List.set_cons_succ]
        refine wpAnyH_ready (rs := [23]) (by kernel_rfl) (by simp) ?_
        refine AllReadyH.cons rfl (fun K hKK => ?_) AllReadyH.nil
        go_simp
        go_at_call 68
        refine (node_any (HTd.out.below hHeld) (HTb.out.below hHeld) (by omega)).mono ?_
        rintro e wc25 ⟨p2, rfl, ht2, hc26⟩
        have hS27 := (hHeld).trans ((hc26).mono (hHeld).size)
        refine hKK.out _ _ hS27 (fun hHeld => ?_)
        clear hKK K
        try simp only [Act.put, List.setIfInBounds_toArray, List.set_cons_zero, List.set_cons_succ]
        refine wpAnyH_ready (rs := [24]) (by kernel_rfl) (by simp) ?_
        refine AllReadyH.cons rfl (fun K hKK => ?_) AllReadyH.nil
        go_simp
        go_at_call 68
        refine (node_any (ht1.below hc26) ht2 (by simp only [Tre.len]; omega)).mono ?_
        rintro e wc28 ⟨p3, rfl, ht3, hc29⟩
        have hS30 := (hHeld).trans ((hc29).mono (hHeld).size)
        refine hKK.out _ _ hS30 (fun hHeld => ?_)
        clear hKK K
        try simp only [Act.put, List.setIfInBounds_toArray, List.set_cons_zero, List.set_cons_succ]
        refine held_take 25 (some 6) (v := ?_) rfl rfl (by kernel_rfl) (by kernel_rfl) (by kernel_rfl) (fun _ _ _ h => h) (Or.inl ⟨by rfl, ?_⟩) hHeld ?_
        rotate_left
        · (intro w' hSw; clear hSw; go_simp; try with_reducible rfl)
        try simp only [Act.put, List.setIfInBounds_toArray, List.set_cons_zero, List.set_cons_succ]
        refine wpAnyH_done (by kernel_rfl) ?_ _
        --]11
        go_wp2_with fail
        go_ret
        exact ⟨_, rfl, by rw [Tre.join_B2 _ _ _ _ _ _ (by rw [HTR.out, HTL.out]; exact HAE.out) HHT.out]; exact ht3, HB0.out.trans (hHeld.mono HB0.out.size)⟩
    · obtain ⟨d, hd⟩ : ∃ d : Int, IntKind.i64.wrap ((tl : Int) - (tr : Int)) = d := ⟨_, rfl⟩
      have hd2 : ¬ d = 2 := by rw [← hd, IntKind.wrap_i64]; omega
      have hd3 : ¬ d = -2 := by rw [← hd, IntKind.wrap_i64]; omega
      have HNA := Lib.hid (And.intro hA hB)
      have HND := Lib.hid (node_any (k := k) (v := v) HL.out HR.out hz)
      clear hA hB hh1 hh2 hz
      go_wp2_with (first | (with_reducible refine Go.wpList_load_mid rfl 97 _ rfl g3 0 rfl [.string k, .string v] _ HG0.out Tryz.underlying97 rfl rfl ?_) | fail)
      refine HND.out.mono ?_
      rintro e w1 ⟨p1, rfl, ht1, hb1⟩
      go_wp2_with fail
      go_ret
      exact ⟨_, rfl, by rw [Tre.join_C _ _ (by rw [HTL.out, HTR.out]; exact HNA.out.1) (by rw [HTL.out, HTR.out]; exact HNA.out.2)]; exact ht1, HB0.out.trans (hb1.mono HB0.out.size)⟩
end Go.Proofs.YtcklcffepedklaaGreatDoor
