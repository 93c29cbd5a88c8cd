/- Texts of the proof, one behind the other: tree: Put. tree: Get. -/
import Derived.Test.YtcklcffepedklaaGreatDoorM05
import Derived.Test.YtcklcffepedklaaGreatDoorM04
import Derived.Laws.Cover1
namespace Go.Proofs.YtcklcffepedklaaGreatDoor
open Go.RowKit

theorem Tre.len_join (k v : BA) (l r : Tre) : (Tre.join k v l r).len = l.len + r.len + 1 := by
  rw [← Tre.prs_len, Tre.prs_join, List.length_append, List.length_cons, Tre.prs_len, Tre.prs_len]; omega
theorem Tre.len_put (k v : BA) : ∀ t : Tre, (t.put k v).len ≤ t.len + 1
  | .nil => by simp [Tre.put, Tre.len]
  | .node k1 v1 l r => by
    have hl := Tre.len_put k v l
    have hr := Tre.len_put k v r
    rw [Tre.put]
    split
    · rw [Tre.len_join]; simp only [Tre.len]; omega
    · split
      · rw [Tre.len_join]; simp only [Tre.len]; omega
      · simp only [Tre.len]; omega
set_option maxRecDepth 20000 in
set_option maxHeartbeats 1600000 in
theorem TPut_any (k v : BA) : ∀ (t : Tre) (p : Option Addr) (w : World), TrAt w p t → t.len < 900000 →
    Calls Tryz.prog 43 #[.pointer p, .string k, .string v] w fun e w' => ∃ p', e = .returned (.pointer p') ∧ TrAt w' p' (t.put k v) ∧ Below w.heap.size w w'
  | .nil, p, w, h, hz => by
    have h' : p = none := h
    subst h'
    clear h hz
    go_enter Tryz.func43, Tryz.ntmps43
    go_upto_region 2 with (fail)
    have hr := heap_alloc_last w (.cells #[.string k, .string v] 97)
    have hb := (Below.refl w.heap.size w).alloc (Nat.le_refl _) (.cells #[.string k, .string v] 97)
    obtain ⟨w0, hw0⟩ : ∃ w0, w.alloc (.cells #[.string k, .string v] 97) = w0 := ⟨_, rfl⟩
    obtain ⟨g7, hg7⟩ : ∃ g, w.heap.size = g := ⟨_, rfl⟩
    rw [hg7] at hr
    rw [hw0] at hr hb ⊢
    try rw [hg7]
    have HG7 := Lib.hid hg7
    have HR := Lib.hid hr
    have HB := Lib.hid hb
    clear hw0 hg7 hr hb
    have HN := Lib.hid (node_any (w := w0) (a := none) (b := none) (k := k) (v := v) (l := .nil) (r := .nil) rfl rfl (by decide))
    have HG0 := Lib.hid (show w0.rangeAt g7 0 [.string k, .string v] from rangeAt_of_row HR.out 0 2)
    go_wp2_with (first | (with_reducible refine Go.wpList_load_mid rfl 97 _ rfl g7 0 rfl [.string k, .string v] _ HG0.out Tryz.underlying97 rfl rfl ?_) | fail)
    refine HN.out.mono ?_
    rintro e w1 ⟨p1, rfl, ht1, hb1⟩
    go_wp2_with fail
    go_ret
    exact ⟨_, rfl, ht1, HB.out.trans (hb1.mono HB.out.size)⟩
  | .node k1 v1 l r, p, w, h, hz => by
    have IHL := Lib.hid (TPut_any k v l)
    have IHR := Lib.hid (TPut_any k v r)
    obtain ⟨ga, pa, pb, rfl, hra, hta, htb⟩ := h
    have HRA := Lib.hid hra
    have HTa := Lib.hid hta
    have HTb := Lib.hid htb
    have HZ := Lib.hid hz
    clear hra hta htb hz
    go_enter Tryz.func43, Tryz.ntmps43
    go_upto_region 2 with (fail)
    have hr := heap_alloc_last w (.cells #[.string k, .string v] 97)
    have hb := (Below.refl w.heap.size w).alloc (Nat.le_refl _) (.cells #[.string k, .string v] 97)
    obtain ⟨w0, hw0⟩ : ∃ w0, w.alloc (.cells #[.string k, .string v] 97) = w0 := ⟨_, rfl⟩
    obtain ⟨g7, hg7⟩ : ∃ g, w.heap.size = g := ⟨_, rfl⟩
    rw [hg7] at hr
    rw [hw0] at hr hb ⊢
    try rw [hg7]
    have HG7 := Lib.hid hg7
    have HR := Lib.hid hr
    have HB := Lib.hid hb
    clear hw0 hg7 hr hb
    have hra := (HB.out.block ga (row_lt HRA.out)).trans HRA.out
    have HTa := Lib.hid (HTa.out.below HB.out)
    have HTb := Lib.hid (HTb.out.below HB.out)
    have HAL := Lib.hid (row_lt hra)
    have HA0 := Lib.hid (show w0.rangeAt ga 0 [.string k1, .string v1] from rangeAt_of_row hra 0 2)
    have HA2 := Lib.hid (show w0.cell? ⟨ga, 2, none⟩ = some (.pointer pa) from cell_row' hra)
    have HA3 := Lib.hid (show w0.cell? ⟨ga, 3, none⟩ = some (.pointer pb) from cell_row' hra)
    have ca0 : w0.cell? ⟨ga, 0, none⟩ = some (.string k1) := cell_row' hra
    have HRA0 := Lib.hid hra
    clear hra
    by_cases h1 : bl k k1 = true
    · have h1' : Op.bytesLess k.toList k1.toList = true := h1
      have HH1 := Lib.hid h1
      clear h1
      go_upto_region 5 with (fail)
      --[5
      refine wp_region_held_drew (S := fun w' => Below w0.heap.size w0 w') (by kernel_rfl) ((Below.refl _ _).drew) (fun hHeld => ?_)
      refine held_take 0 (some 25) (v := ?_) rfl rfl (by kernel_rfl) (by kernel_rfl) (by kernel_rfl) (fun _ _ _ h => h) (Or.inl ⟨by rfl, ?_⟩) hHeld ?_
      rotate_left
      · (intro w' hSw; clear hSw; go_simp; try with_reducible rfl)
      try simp only [Act.put, List.setIfInBounds_toArray, List.set_cons_zero, List.set_cons_succ]
      refine held_take 1 (some 26) (v := ?_) rfl rfl (by kernel_rfl) (by kernel_rfl) (by kernel_rfl) (fun _ _ _ h => h) (Or.inl ⟨by rfl, ?_⟩) hHeld ?_
      rotate_left
      · (intro w' hSw; clear hSw; go_simp; try with_reducible rfl)
      try simp only [Act.put, List.setIfInBounds_toArray, List.set_cons_zero, List.set_cons_succ]
      refine held_take 2 (some 27) (v := ?_) rfl rfl (by kernel_rfl) (by kernel_rfl) (by kernel_rfl) (fun _ _ _ h => h) (Or.inl ⟨by rfl, ?_⟩) hHeld ?_
      rotate_left
      · (intro w' hSw; clear hSw; go_simp; try with_reducible rfl)
      try simp only [Act.put, List.setIfInBounds_toArray, List.set_cons_zero, List.set_cons_succ]
      refine held_take 3 (some 28) (v := .agg ([.string k1, .string v1]).toArray) rfl rfl (by kernel_rfl) (by kernel_rfl) (by kernel_rfl) (fun _ _ _ h => h) (yieldsIf_load_mid (by rfl) 97 _ rfl ga (0) rfl ([.string k1, .string v1]) _ (fun w' h => rangeAt_block HA0.out (h.block _ HAL.out)) Tryz.underlying97 rfl rfl) hHeld ?_
      try simp only [Act.put, List.setIfInBounds_toArray, List.set_cons_zero, List.set_cons_succ]
      refine held_take 4 (some 29) (v := ?_) rfl rfl (by kernel_rfl) (by kernel_rfl) (by kernel_rfl) (fun _ _ _ h => h) (Or.inl ⟨by rfl, ?_⟩) hHeld ?_
      rotate_left
      · (intro w' hSw; clear hSw; go_simp; try with_reducible rfl)
      try simp only [Act.put, List.setIfInBounds_toArray, List.set_cons_zero, List.set_cons_succ]
      refine held_take 5 (some 30) (v := ?_) rfl rfl (by kernel_rfl) (by kernel_rfl) (by kernel_rfl) (fun _ _ _ h => h) (Or.inl ⟨by rfl, ?_⟩) hHeld ?_
      rotate_left
      · (intro w' hSw; clear hSw; go_simp; try with_reducible rfl)
      try simp only [Act.put, List.setIfInBounds_toArray, List.set_cons_zero, List.set_cons_succ]
      refine held_take 6 (some 31) (v := ?_) rfl rfl (by kernel_rfl) (by kernel_rfl) (by kernel_rfl) (fun _ _ _ h => h) (Or.inl ⟨by rfl, ?_⟩) hHeld ?_
      rotate_left
      · (intro w' hSw; clear hSw; go_simp; try with_reducible rfl)
      try simp only [Act.put, List.setIfInBounds_toArray, List.set_cons_zero, List.set_cons_succ]
      refine held_take 7 (some 32) (v := ?_) rfl rfl (by kernel_rfl) (by kernel_rfl) (by kernel_rfl) (fun _ _ _ h => h) (Or.inl ⟨by rfl, ?_⟩) hHeld ?_
      rotate_left
      · (intro w' hSw; have pf := (hSw.cell (p := ⟨ga, 2, none⟩) HAL.out).trans HA2.out; clear hSw; go_simp; try with_reducible rfl)
      try simp only [Act.put, List.setIfInBounds_toArray, List.set_cons_zero, List.set_cons_succ]
      refine held_take 8 (some 33) (v := ?_) rfl rfl (by kernel_rfl) (by kernel_rfl) (by kernel_rfl) (fun _ _ _ h => h) (Or.inl ⟨by rfl, ?_⟩) hHeld ?_
      rotate_left
      · (intro w' hSw; clear hSw; go_simp; try with_reducible rfl)
      try simp only [Act.put, List.setIfInBounds_toArray, List.set_cons_zero, List.set_cons_succ]
      refine held_take 9 (some 34) (v := ?_) rfl rfl (by kernel_rfl) (by kernel_rfl) (by kernel_rfl) (fun _ _ _ h => h) (Or.inl ⟨by rfl, ?_⟩) hHeld ?_
      rotate_left
      · (intro w' hSw; clear hSw; go_simp; try with_reducible rfl)
      try simp only [Act.put, List.setIfInBounds_toArray, List.set_cons_zero, List.set_cons_succ]
      refine held_take 11 (some 36) (v := ?_) rfl rfl (by kernel_rfl) (by kernel_rfl) (by kernel_rfl) (fun _ _ _ h => h) (Or.inl ⟨by rfl, ?_⟩) hHeld ?_
      rotate_left
      · (intro w' hSw; clear hSw; go_simp; try with_reducible rfl)
      try simp only [Act.put, List.setIfInBounds_toArray, List.set_cons_zero, List.set_cons_succ]
      refine held_take 12 (some 37) (v := ?_) rfl rfl (by kernel_rfl) (by kernel_rfl) (by kernel_rfl) (fun _ _ _ h => h) (Or.inl ⟨by rfl, ?_⟩) hHeld ?_
      rotate_left
      · (intro w' hSw; clear hSw; go_simp; try with_reducible rfl)
      try simp only [Act.put, List.setIfInBounds_toArray, List.set_cons_zero, List.set_cons_succ]
      refine held_take 13 (some 38) (v := ?_) rfl rfl (by kernel_rfl) (by kernel_rfl) (by kernel_rfl) (fun _ _ _ h => h) (Or.inl ⟨by rfl, ?_⟩) hHeld ?_
      rotate_left
      · (intro w' hSw; clear hSw; go_simp; try with_reducible rfl)
      try simp only [Act.put, List.setIfInBounds_toArray, List.set_cons_zero, List.set_cons_succ]
      refine held_take 14 (some 39) (v := ?_) rfl rfl (by kernel_rfl) (by kernel_rfl) (by kernel_rfl) (fun _ _ _ h => h) (Or.inl ⟨by rfl, ?_⟩) hHeld ?_
      rotate_left
      · (intro w' hSw; have pf := (hSw.cell (p := ⟨ga, 3, none⟩) HAL.out).trans HA3.out; clear hSw; go_simp; try with_reducible rfl)
      try simp only [Act.put, List.setIfInBounds_toArray, List.set_cons_zero, List.set_cons_succ]
      refine wpAnyH_ready (rs := [10]) (by kernel_rfl) (by simp) ?_
      refine AllReadyH.cons rfl (fun K hKK => ?_) AllReadyH.nil
      go_simp
      go_at_call 43
      refine (IHL.out _ _ (HTa.out.below hHeld) (by have := HZ.out; simp only [Tre.len] at this; omega)).mono ?_
      rintro e wc31 ⟨p1, rfl, ht1, hc32⟩
      have hS33 := (hHeld).trans ((hc32).mono (hHeld).size)
      refine hKK.out _ _ hS33 (fun hHeld => ?_)
      clear hKK K
      try simp only [Act.put, List.setIfInBounds_toArray, List.set_cons_zero, List.set_cons_succ]
      refine wpAnyH_ready (rs := [15]) (by kernel_rfl) (by simp) ?_
      refine AllReadyH.cons rfl (fun K hKK => ?_) AllReadyH.nil
      go_simp
      go_at_call 69
      refine (join_any ht1 (HTb.out.below hHeld) (by have := HZ.out; have := Tre.len_put k v l; simp only [Tre.len] at *; omega)).mono ?_
      rintro e wc34 ⟨p2, rfl, ht2, hc35⟩
      have hS36 := (hHeld).trans ((hc35).mono (hHeld).size)
      refine hKK.out _ _ hS36 (fun hHeld => ?_)
      clear hKK K
      try simp only [Act.put, List.setIfInBounds_toArray, List.set_cons_zero, List.set_cons_succ]
      refine held_take 16 (some 6) (v := ?_) rfl rfl (by kernel_rfl) (by kernel_rfl) (by kernel_rfl) (fun _ _ _ h => h) (Or.inl ⟨by rfl, ?_⟩) hHeld ?_
      rotate_left
      · (intro w' hSw; clear hSw; go_simp; try with_reducible rfl)
      try simp only [Act.put, List.setIfInBounds_toArray, List.set_cons_zero, List.set_cons_succ]
      refine wpAnyH_done (by kernel_rfl) ?_ _
      --]5
      go_wp2_with fail
      go_ret
      exact ⟨_, rfl, by rw [Tre.put, if_pos HH1.out]; exact ht2, HB.out.trans (hHeld.mono HB.out.size)⟩
    · have h1' : Op.bytesLess k.toList k1.toList = false := (by simpa using h1 : bl k k1 = false)
      have HH1 := Lib.hid h1
      clear h1
      by_cases h2 : bl k1 k = true
      · have hne : k ≠ k1 := (bl_ne h2).symm
        have hgt : (k.toList == k1.toList) = false := by
          have : k.toList ≠ k1.toList := fun e => hne (Go.WideShapes.bytes_inj (by rw [← Lib.toList_data, ← Lib.toList_data]; exact e))
          simpa using this
        clear hne
        have HH2 := Lib.hid h2
        clear h2
        go_upto_region 7 with (fail)
        --[7
        refine wp_region_held_drew (S := fun w' => Below w0.heap.size w0 w') (by kernel_rfl) ((Below.refl _ _).drew) (fun hHeld => ?_)
        refine held_take 0 (some 49) (v := ?_) rfl rfl (by kernel_rfl) (by kernel_rfl) (by kernel_rfl) (fun _ _ _ h => h) (Or.inl ⟨by rfl, ?_⟩) hHeld ?_
        rotate_left
        · (intro w' hSw; clear hSw; go_simp; try with_reducible rfl)
        try simp only [Act.put, List.setIfInBounds_toArray, List.set_cons_zero, List.set_cons_succ]
        refine held_take 1 (some 50) (v := ?_) rfl rfl (by kernel_rfl) (by kernel_rfl) (by kernel_rfl) (fun _ _ _ h => h) (Or.inl ⟨by rfl, ?_⟩) hHeld ?_
        rotate_left
        · (intro w' hSw; clear hSw; go_simp; try with_reducible rfl)
        try simp only [Act.put, List.setIfInBounds_toArray, List.set_cons_zero, List.set_cons_succ]
        refine held_take 2 (some 51) (v := ?_) rfl rfl (by kernel_rfl) (by kernel_rfl) (by kernel_rfl) (fun _ _ _ h => h) (Or.inl ⟨by rfl, ?_⟩) hHeld ?_
        rotate_left
        · (intro w' hSw; clear hSw; go_simp; try with_reducible rfl)
        try simp only [Act.put, List.setIfInBounds_toArray, List.set_cons_zero, List.set_cons_succ]
        refine held_take 3 (some 52) (v := .agg ([.string k1, .string v1]).toArray) rfl rfl (by kernel_rfl) (by kernel_rfl) (by kernel_rfl) (fun _ _ _ h => h) (yieldsIf_load_mid (by rfl) 97 _ rfl ga (0) rfl ([.string k1, .string v1]) _ (fun w' h => rangeAt_block HA0.out (h.block _ HAL.out)) Tryz.underlying97 rfl rfl) hHeld ?_
        try simp only [Act.put, List.setIfInBounds_toArray, List.set_cons_zero, List.set_cons_succ]
        refine held_take 4 (some 53) (v := ?_) rfl rfl (by kernel_rfl) (by kernel_rfl) (by kernel_rfl) (fun _ _ _ h => h) (Or.inl ⟨by rfl, ?_⟩) hHeld ?_
        rotate_left
        · (intro w' hSw; clear hSw; go_simp; try with_reducible rfl)
        try simp only [Act.put, List.setIfInBounds_toArray, List.set_cons_zero, List.set_cons_succ]
        refine held_take 5 (some 54) (v := ?_) rfl rfl (by kernel_rfl) (by kernel_rfl) (by kernel_rfl) (fun _ _ _ h => h) (Or.inl ⟨by rfl, ?_⟩) hHeld ?_
        rotate_left
        · (intro w' hSw; clear hSw; go_simp; try with_reducible rfl)
        try simp only [Act.put, List.setIfInBounds_toArray, List.set_cons_zero, List.set_cons_succ]
        refine held_take 6 (some 55) (v := ?_) rfl rfl (by kernel_rfl) (by kernel_rfl) (by kernel_rfl) (fun _ _ _ h => h) (Or.inl ⟨by rfl, ?_⟩) hHeld ?_
        rotate_left
        · (intro w' hSw; clear hSw; go_simp; try with_reducible rfl)
        try simp only [Act.put, List.setIfInBounds_toArray, List.set_cons_zero, List.set_cons_succ]
        refine held_take 7 (some 56) (v := ?_) rfl rfl (by kernel_rfl) (by kernel_rfl) (by kernel_rfl) (fun _ _ _ h => h) (Or.inl ⟨by rfl, ?_⟩) hHeld ?_
        rotate_left
        · (intro w' hSw; have pf := (hSw.cell (p := ⟨ga, 2, none⟩) HAL.out).trans HA2.out; clear hSw; go_simp; try with_reducible rfl)
        try simp only [Act.put, List.setIfInBounds_toArray, List.set_cons_zero, List.set_cons_succ]
        refine held_take 8 (some 57) (v := ?_) rfl rfl (by kernel_rfl) (by kernel_rfl) (by kernel_rfl) (fun _ _ _ h => h) (Or.inl ⟨by rfl, ?_⟩) hHeld ?_
        rotate_left
        · (intro w' hSw; clear hSw; go_simp; try with_reducible rfl)
        try simp only [Act.put, List.setIfInBounds_toArray, List.set_cons_zero, List.set_cons_succ]
        refine held_take 9 (some 58) (v := ?_) rfl rfl (by kernel_rfl) (by kernel_rfl) (by kernel_rfl) (fun _ _ _ h => h) (Or.inl ⟨by rfl, ?_⟩) hHeld ?_
        rotate_left
        · (intro w' hSw; clear hSw; go_simp; try with_reducible rfl)
        try simp only [Act.put, List.setIfInBounds_toArray, List.set_cons_zero, List.set_cons_succ]
        refine held_take 10 (some 59) (v := ?_) rfl rfl (by kernel_rfl) (by kernel_rfl) (by kernel_rfl) (fun _ _ _ h => h) (Or.inl ⟨by rfl, ?_⟩) hHeld ?_
        rotate_left
        · (intro w' hSw; clear hSw; go_simp; try with_reducible rfl)
        try simp only [Act.put, List.setIfInBounds_toArray, List.set_cons_zero, List.set_cons_succ]
        refine held_take 11 (some 60) (v := ?_) rfl rfl (by kernel_rfl) (by kernel_rfl) (by kernel_rfl) (fun _ _ _ h => h) (Or.inl ⟨by rfl, ?_⟩) hHeld ?_
        rotate_left
        · (intro w' hSw; have pf := (hSw.cell (p := ⟨ga, 3, none⟩) HAL.out).trans HA3.out; clear hSw; go_simp; try with_reducible rfl)
        try simp only [Act.put, List.setIfInBounds_toArray, List.set_cons_zero, List.set_cons_succ]
        refine held_take 12 (some 61) (v := ?_) rfl rfl (by kernel_rfl) (by kernel_rfl) (by kernel_rfl) (fun _ _ _ h => h) (Or.inl ⟨by rfl, ?_⟩) hHeld ?_
        rotate_left
        · (intro w' hSw; clear hSw; go_simp; try with_reducible rfl)
        try simp only [Act.put, List.setIfInBounds_toArray, List.set_cons_zero, List.set_cons_succ]
        refine held_take 13 (some 62) (v := ?_) rfl rfl (by kernel_rfl) (by kernel_rfl) (by kernel_rfl) (fun _ _ _ h => h) (Or.inl ⟨by rfl, ?_⟩) hHeld ?_
        rotate_left
        · (intro w' hSw; clear hSw; go_simp; try with_reducible rfl)
        try simp only [Act.put, List.setIfInBounds_toArray, List.set_cons_zero, List.set_cons_succ]
        refine wpAnyH_ready (rs := [14]) (by kernel_rfl) (by simp) ?_
        refine AllReadyH.cons rfl (fun K hKK => ?_) AllReadyH.nil
        go_simp
        go_at_call 43
        refine (IHR.out _ _ (HTb.out.below hHeld) (by have := HZ.out; simp only [Tre.len] at this; omega)).mono ?_
        rintro e wc37 ⟨p1, rfl, ht1, hc38⟩
        have hS39 := (hHeld).trans ((hc38).mono (hHeld).size)
        refine hKK.out _ _ hS39 (fun hHeld => ?_)
        clear hKK K
        try simp only [Act.put, List.setIfInBounds_toArray, List.set_cons_zero, List.set_cons_succ]
        refine wpAnyH_ready (rs := [15]) (by kernel_rfl) (by simp) ?_
        refine AllReadyH.cons rfl (fun K hKK => ?_) AllReadyH.nil
        go_simp
        go_at_call 69
        refine (join_any (HTa.out.below hHeld) ht1 (by have := HZ.out; have := Tre.len_put k v r; simp only [Tre.len] at *; omega)).mono ?_
        rintro e wc40 ⟨p2, rfl, ht2, hc41⟩
        have hS42 := (hHeld).trans ((hc41).mono (hHeld).size)
        refine hKK.out _ _ hS42 (fun hHeld => ?_)
        clear hKK K
        try simp only [Act.put, List.setIfInBounds_toArray, List.set_cons_zero, List.set_cons_succ]
        refine held_take 16 (some 6) (v := ?_) rfl rfl (by kernel_rfl) (by kernel_rfl) (by kernel_rfl) (fun _ _ _ h => h) (Or.inl ⟨by rfl, ?_⟩) hHeld ?_
        rotate_left
        · (intro w' hSw; clear hSw; go_simp; try with_reducible rfl)
        try simp only [Act.put, List.setIfInBounds_toArray, List.set_cons_zero, List.set_cons_succ]
        refine wpAnyH_done (by kernel_rfl) ?_ _
        --]7
        go_wp2_with fail
        go_ret
        exact ⟨_, rfl, by rw [Tre.put, if_neg HH1.out, if_pos HH2.out]; exact ht2, HB.out.trans (hHeld.mono HB.out.size)⟩
      · have e : k = k1 := bl_eq (by simpa using HH1.out) (by simpa using h2)
        subst e
        have HH2 := Lib.hid h2
        clear h2
        have ca1 : w0.cell? ⟨ga, 1, none⟩ = some (.string v1) := cell_row' HRA0.out
        have ca2 := HA2.out
        have ca3 := HA3.out
        have ca4 : w0.cell? ⟨ga, 4, none⟩ = some (.int .i64 (Tre.node k v1 l r).len) := cell_row' HRA0.out
        have ca5 : w0.cell? ⟨ga, 5, none⟩ = some (.int .i64 (Tre.node k v1 l r).ht) := cell_row' HRA0.out
        obtain ⟨nl, hnl⟩ : ∃ n, (Tre.node k v1 l r).len = n := ⟨_, rfl⟩
        obtain ⟨ht, hht⟩ : ∃ n, (Tre.node k v1 l r).ht = n := ⟨_, rfl⟩
        rw [hnl] at ca4
        rw [hht] at ca5
        have HX := Lib.hid (And.intro hnl hht)
        clear hnl hht
        go_upto_region 9 with (fail)
        clear ca0 ca1 ca2 ca3 ca4 ca5 h1'
        have hr8 := heap_alloc_last w0 (.cells #[.string k, .string v1, .pointer pa, .pointer pb, .int .i64 nl, .int .i64 ht] 125)
        have hb8 := (Below.refl w0.heap.size w0).alloc (Nat.le_refl _) (.cells #[.string k, .string v1, .pointer pa, .pointer pb, .int .i64 nl, .int .i64 ht] 125)
        have hth := there_alloc w0 #[.string k, .string v1, .pointer pa, .pointer pb, .int .i64 nl, .int .i64 ht] 125 2 (by simp)
        obtain ⟨w8, hw8⟩ : ∃ w8, w0.alloc (.cells #[.string k, .string v1, .pointer pa, .pointer pb, .int .i64 nl, .int .i64 ht] 125) = w8 := ⟨_, rfl⟩
        obtain ⟨g8, hg8⟩ : ∃ g, w0.heap.size = g := ⟨_, rfl⟩
        rw [hw8, hg8] at hr8 hth
        rw [hw8] at hb8 ⊢
        try rw [hg8]
        have HR8 := Lib.hid hr8
        have HB8 := Lib.hid hb8
        have HTH := Lib.hid hth
        have HG8 := Lib.hid hg8
        have HG0 := Lib.hid (show w8.rangeAt g7 0 [.string k, .string v] from rangeAt_of_row ((hb8.block g7 (row_lt HR.out)).trans HR.out) 0 2)
        clear hr8 hb8 hth hw8 hg8
        have c80 : w8.cell? ⟨g8, 0, none⟩ = some (.string k) := cell_row' HR8.out
        have c81 : w8.cell? ⟨g8, 1, none⟩ = some (.string v1) := cell_row' HR8.out
        have f80 : w8.frozen? ⟨g8, 0, none⟩ = false := (HTH.out 0 (by decide)).2
        have f81 : w8.frozen? ⟨g8, 1, none⟩ = false := (HTH.out 1 (by decide)).2
        go_wp2_with (first | (with_reducible refine Go.wpList_load_mid rfl 97 _ rfl g7 0 rfl [.string k, .string v] _ HG0.out Tryz.underlying97 rfl rfl ?_) | fail)
        go_ret
        have hg8 : w0.heap.size = g8 := HG8.out
        have hr1 := setCell_row (setCell_row HR8.out 0 (.string k)) 1 (.string v)
        have hb9 : Below w0.heap.size w0 ((w8.setCell ⟨g8, 0, none⟩ (.string k)).setCell ⟨g8, 1, none⟩ (.string v)) :=
          HB8.out.trans (grown_below (grown_trans (grown_setCell _ _ _ _) (grown_setCell _ _ _ _)) HB8.out.size (fun k e => by injection e with e; omega))
        refine ⟨_, rfl, ?_, HB.out.trans (hb9.mono HB.out.size)⟩
        rw [Tre.put, if_neg HH1.out, if_neg HH2.out]
        exact ⟨g8, pa, pb, rfl, by rw [show (Tre.node k v l r).len = nl from HX.out.1, show (Tre.node k v l r).ht = ht from HX.out.2]; exact hr1, HTa.out.below hb9, HTb.out.below hb9⟩
end Go.Proofs.YtcklcffepedklaaGreatDoor

namespace Go.Proofs.YtcklcffepedklaaGreatDoor
open Go.RowKit

theorem str_ne {a b : BA} (h : a ≠ b) : (a.toList == b.toList) = false := by
  have : a.toList ≠ b.toList := fun e => h (Go.WideShapes.bytes_inj (by rw [← Lib.toList_data, ← Lib.toList_data]; exact e))
  simpa using this
set_option maxRecDepth 20000 in
set_option maxHeartbeats 1600000 in
theorem TGet_any (k : BA) (t : Tre) (p : Option Addr) (w : World) (h : TrAt w p t) :
    Calls Tryz.prog 53 #[.pointer p, .string k] w fun e w' => e = .returned (.tuple #[.string ((t.get k).getD ⟨#[]⟩), .bool (t.get k).isSome]) ∧ w = w' := by
  have H := Lib.hid h
  clear h
  go_enter Tryz.func53, Tryz.ntmps53
  go_upto_region 1 with (fail)
  go_loopg [0] t.ht (fun kq v0 w' => ∃ (q : Option Addr) (s : Tre), v0 = .pointer q ∧ s.ht = kq ∧ Hid (TrAt w q s ∧ s.get k = t.get k) ∧ w = w')
  case atStart => exact ⟨p, t, rfl, rfl, Lib.hid ⟨H.out, rfl⟩, rfl⟩
  case round =>
    obtain ⟨q, s, rfl, hk, HS, rfl⟩ := hrel
    cases s with
    | nil =>
      have hq : q = none := HS.out.1
      subst hq
      clear hk
      go_wp2_with fail
      go_ret2
      refine ⟨?_, rfl⟩
      rw [← HS.out.2]; rfl
    | node k1 v1 l r =>
      obtain ⟨ga, pa, pb, rfl, hra, hta, htb⟩ := HS.out.1
      have HTa := Lib.hid hta
      have HTb := Lib.hid htb
      have ca0 : w.cell? ⟨ga, 0, none⟩ = some (.string k1) := cell_row' hra
      have ca1 : w.cell? ⟨ga, 1, none⟩ = some (.string v1) := cell_row' hra
      have ca2 : w.cell? ⟨ga, 2, none⟩ = some (.pointer pa) := cell_row' hra
      have ca3 : w.cell? ⟨ga, 3, none⟩ = some (.pointer pb) := cell_row' hra
      have HK := Lib.hid hk
      clear hra hta htb hk
      by_cases he : k1 = k
      · subst he
        have hee : (k1.toList == k1.toList) = true := by simp
        go_wp2_with fail
        go_ret2
        refine ⟨?_, rfl⟩
        rw [← HS.out.2, Tre.get, if_pos rfl]; rfl
      · have hne := str_ne he
        have HNE := Lib.hid he
        clear he
        by_cases h1 : bl k k1 = true
        · have h1' : Op.bytesLess k.toList k1.toList = true := h1
          have HH := Lib.hid h1
          clear h1
          go_wp2_with fail
          go_roundg l.ht
          case measure => have := HK.out; simp only [Tre.ht] at this; omega
          case rel => exact ⟨_, l, rfl, rfl, Lib.hid ⟨HTa.out, by rw [← HS.out.2, Tre.get, if_neg HNE.out, if_pos HH.out]⟩, rfl⟩
        · have h1' : Op.bytesLess k.toList k1.toList = false := (by simpa using h1 : bl k k1 = false)
          have HH := Lib.hid h1
          clear h1
          go_wp2_with fail
          go_roundg r.ht
          case measure => have := HK.out; simp only [Tre.ht] at this; omega
          case rel => exact ⟨_, r, rfl, rfl, Lib.hid ⟨HTb.out, by rw [← HS.out.2, Tre.get, if_neg HNE.out, if_neg HH.out]⟩, rfl⟩
end Go.Proofs.YtcklcffepedklaaGreatDoor
