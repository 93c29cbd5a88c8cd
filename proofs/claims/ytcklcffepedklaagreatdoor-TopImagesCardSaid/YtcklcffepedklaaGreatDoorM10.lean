/- Texts of the proof, one behind the other: tree: drop, Drop. tree: walk. -/
import Derived.Test.YtcklcffepedklaaGreatDoorM09
namespace Go.Proofs.YtcklcffepedklaaGreatDoor
open Go.RowKit

theorem Tre.len_drop (k : BA) : ∀ t : Tre, (t.drop k).len ≤ t.len
  | .nil => by simp [Tre.drop, Tre.len]
  | .node k1 v1 l r => by
    have hl := Tre.len_drop k l
    have hr := Tre.len_drop k r
    rw [Tre.drop.eq_def]
    simp only
    split
    · rw [Tre.len_join]; simp only [Tre.len]; omega
    · split
      · rw [Tre.len_join]; simp only [Tre.len]; omega
      · cases r with
        | nil => simp only [Tre.len]; omega
        | node k2 v2 a b =>
          have h1 := Tre.len_first k2 v2 a b
          simp only
          rw [Tre.len_join]; simp only [Tre.len] at h1 ⊢; omega
set_option maxRecDepth 20000 in
set_option maxHeartbeats 1600000 in
theorem Tdrop_any (k : BA) : ∀ (t : Tre) (p : Option Addr) (w0 : World), TrAt w0 p t → t.len < 900000 → (t.get k).isSome = true →
    Calls Tryz.prog 77 #[.pointer p, .string k] w0 fun e w' => ∃ p', e = .returned (.pointer p') ∧ TrAt w' p' (t.drop k) ∧ Below w0.heap.size w0 w'
  | .nil, p, w0, h, hz, hg => by simp [Tre.get] at hg
  | .node k1 v1 l r, p, w0, h, hz, hg => by
    have IHL := Lib.hid (Tdrop_any k l)
    have IHR := Lib.hid (Tdrop_any k r)
    obtain ⟨ga, pa, pb, rfl, hra, hta, htb⟩ := h
    have HTa := Lib.hid hta
    have HTb := Lib.hid htb
    have HZ := Lib.hid hz
    have HAL := Lib.hid (row_lt hra)
    have HA0 := Lib.hid (show w0.rangeAt ga 0 [.string k1, .string v1] from rangeAt_of_row hra 0 2)
    have HA2 := Lib.hid (show w0.cell? ⟨ga, 2, none⟩ = some (.pointer pa) from cell_row' hra)
    have HA3 := Lib.hid (show w0.cell? ⟨ga, 3, none⟩ = some (.pointer pb) from cell_row' hra)
    have ca0 : w0.cell? ⟨ga, 0, none⟩ = some (.string k1) := cell_row' hra
    have HRA0 := Lib.hid hra
    have HGG := Lib.hid hg
    clear hra hta htb hz hg
    go_enter Tryz.func77, Tryz.ntmps77
    by_cases h1 : bl k k1 = true
    · have h1' : Op.bytesLess k.toList k1.toList = true := h1
      have HH1 := Lib.hid h1
      have HGL := Lib.hid (show (l.get k).isSome = true by
        have := HGG.out
        rw [Tre.get, if_neg (fun e => by rw [e, bl_irrefl] at h1; cases h1), if_pos h1] at this
        exact this)
      clear h1
      go_upto_region 2 with (fail)
      --[2
      refine wp_region_held_drew (S := fun w' => Below w0.heap.size w0 w') (by kernel_rfl) ((Below.refl _ _).drew) (fun hHeld => ?_)
      refine held_take 0 (some 15) (v := ?_) rfl rfl (by kernel_rfl) (by kernel_rfl) (by kernel_rfl) (fun _ _ _ h => h) (Or.inl ⟨by rfl, ?_⟩) hHeld ?_
      rotate_left
      · (intro w' hSw; clear hSw; go_simp; try with_reducible rfl)
      try simp only [Act.put, List.setIfInBounds_toArray, List.set_cons_zero, List.set_cons_succ]
      refine held_take 1 (some 16) (v := ?_) rfl rfl (by kernel_rfl) (by kernel_rfl) (by kernel_rfl) (fun _ _ _ h => h) (Or.inl ⟨by rfl, ?_⟩) hHeld ?_
      rotate_left
      · (intro w' hSw; clear hSw; go_simp; try with_reducible rfl)
      try simp only [Act.put, List.setIfInBounds_toArray, List.set_cons_zero, List.set_cons_succ]
      refine held_take 2 (some 17) (v := ?_) rfl rfl (by kernel_rfl) (by kernel_rfl) (by kernel_rfl) (fun _ _ _ h => h) (Or.inl ⟨by rfl, ?_⟩) hHeld ?_
      rotate_left
      · (intro w' hSw; clear hSw; go_simp; try with_reducible rfl)
      try simp only [Act.put, List.setIfInBounds_toArray, List.set_cons_zero, List.set_cons_succ]
      refine held_take 3 (some 18) (v := .agg ([.string k1, .string v1]).toArray) rfl rfl (by kernel_rfl) (by kernel_rfl) (by kernel_rfl) (fun _ _ _ h => h) (yieldsIf_load_mid (by rfl) 97 _ rfl ga (0) rfl ([.string k1, .string v1]) _ (fun w' h => rangeAt_block HA0.out (h.block _ HAL.out)) Tryz.underlying97 rfl rfl) hHeld ?_
      try simp only [Act.put, List.setIfInBounds_toArray, List.set_cons_zero, List.set_cons_succ]
      refine held_take 4 (some 19) (v := ?_) rfl rfl (by kernel_rfl) (by kernel_rfl) (by kernel_rfl) (fun _ _ _ h => h) (Or.inl ⟨by rfl, ?_⟩) hHeld ?_
      rotate_left
      · (intro w' hSw; clear hSw; go_simp; try with_reducible rfl)
      try simp only [Act.put, List.setIfInBounds_toArray, List.set_cons_zero, List.set_cons_succ]
      refine held_take 5 (some 20) (v := ?_) rfl rfl (by kernel_rfl) (by kernel_rfl) (by kernel_rfl) (fun _ _ _ h => h) (Or.inl ⟨by rfl, ?_⟩) hHeld ?_
      rotate_left
      · (intro w' hSw; clear hSw; go_simp; try with_reducible rfl)
      try simp only [Act.put, List.setIfInBounds_toArray, List.set_cons_zero, List.set_cons_succ]
      refine held_take 6 (some 21) (v := ?_) rfl rfl (by kernel_rfl) (by kernel_rfl) (by kernel_rfl) (fun _ _ _ h => h) (Or.inl ⟨by rfl, ?_⟩) hHeld ?_
      rotate_left
      · (intro w' hSw; clear hSw; go_simp; try with_reducible rfl)
      try simp only [Act.put, List.setIfInBounds_toArray, List.set_cons_zero, List.set_cons_succ]
      refine held_take 7 (some 22) (v := ?_) rfl rfl (by kernel_rfl) (by kernel_rfl) (by kernel_rfl) (fun _ _ _ h => h) (Or.inl ⟨by rfl, ?_⟩) hHeld ?_
      rotate_left
      · (intro w' hSw; have pf := (hSw.cell (p := ⟨ga, 2, none⟩) HAL.out).trans HA2.out; clear hSw; go_simp; try with_reducible rfl)
      try simp only [Act.put, List.setIfInBounds_toArray, List.set_cons_zero, List.set_cons_succ]
      refine held_take 8 (some 23) (v := ?_) rfl rfl (by kernel_rfl) (by kernel_rfl) (by kernel_rfl) (fun _ _ _ h => h) (Or.inl ⟨by rfl, ?_⟩) hHeld ?_
      rotate_left
      · (intro w' hSw; clear hSw; go_simp; try with_reducible rfl)
      try simp only [Act.put, List.setIfInBounds_toArray, List.set_cons_zero, List.set_cons_succ]
      refine held_take 10 (some 25) (v := ?_) rfl rfl (by kernel_rfl) (by kernel_rfl) (by kernel_rfl) (fun _ _ _ h => h) (Or.inl ⟨by rfl, ?_⟩) hHeld ?_
      rotate_left
      · (intro w' hSw; clear hSw; go_simp; try with_reducible rfl)
      try simp only [Act.put, List.setIfInBounds_toArray, List.set_cons_zero, List.set_cons_succ]
      refine held_take 11 (some 26) (v := ?_) rfl rfl (by kernel_rfl) (by kernel_rfl) (by kernel_rfl) (fun _ _ _ h => h) (Or.inl ⟨by rfl, ?_⟩) hHeld ?_
      rotate_left
      · (intro w' hSw; clear hSw; go_simp; try with_reducible rfl)
      try simp only [Act.put, List.setIfInBounds_toArray, List.set_cons_zero, List.set_cons_succ]
      refine held_take 12 (some 27) (v := ?_) rfl rfl (by kernel_rfl) (by kernel_rfl) (by kernel_rfl) (fun _ _ _ h => h) (Or.inl ⟨by rfl, ?_⟩) hHeld ?_
      rotate_left
      · (intro w' hSw; clear hSw; go_simp; try with_reducible rfl)
      try simp only [Act.put, List.setIfInBounds_toArray, List.set_cons_zero, List.set_cons_succ]
      refine held_take 13 (some 28) (v := ?_) rfl rfl (by kernel_rfl) (by kernel_rfl) (by kernel_rfl) (fun _ _ _ h => h) (Or.inl ⟨by rfl, ?_⟩) hHeld ?_
      rotate_left
      · (intro w' hSw; have pf := (hSw.cell (p := ⟨ga, 3, none⟩) HAL.out).trans HA3.out; clear hSw; go_simp; try with_reducible rfl)
      try simp only [Act.put, List.setIfInBounds_toArray, List.set_cons_zero, List.set_cons_succ]
      refine wpAnyH_ready (rs := [9]) (by kernel_rfl) (by simp) ?_
      refine AllReadyH.cons rfl (fun K hKK => ?_) AllReadyH.nil
      go_simp
      go_at_call 77
      refine (IHL.out _ _ (HTa.out.below hHeld) (by have := HZ.out; simp only [Tre.len] at this; omega) HGL.out).mono ?_
      rintro e wc45 ⟨p1, rfl, ht1, hc46⟩
      have hS47 := (hHeld).trans ((hc46).mono (hHeld).size)
      refine hKK.out _ _ hS47 (fun hHeld => ?_)
      clear hKK K
      try simp only [Act.put, List.setIfInBounds_toArray, List.set_cons_zero, List.set_cons_succ]
      refine wpAnyH_ready (rs := [14]) (by kernel_rfl) (by simp) ?_
      refine AllReadyH.cons rfl (fun K hKK => ?_) AllReadyH.nil
      go_simp
      go_at_call 69
      refine (join_any ht1 (HTb.out.below hHeld) (by have := HZ.out; have := Tre.len_drop k l; simp only [Tre.len] at *; omega)).mono ?_
      rintro e wc48 ⟨p2, rfl, ht2, hc49⟩
      have hS50 := (hHeld).trans ((hc49).mono (hHeld).size)
      refine hKK.out _ _ hS50 (fun hHeld => ?_)
      clear hKK K
      try simp only [Act.put, List.setIfInBounds_toArray, List.set_cons_zero, List.set_cons_succ]
      refine held_take 15 (some 4) (v := ?_) rfl rfl (by kernel_rfl) (by kernel_rfl) (by kernel_rfl) (fun _ _ _ h => h) (Or.inl ⟨by rfl, ?_⟩) hHeld ?_
      rotate_left
      · (intro w' hSw; clear hSw; go_simp; try with_reducible rfl)
      try simp only [Act.put, List.setIfInBounds_toArray, List.set_cons_zero, List.set_cons_succ]
      refine wpAnyH_done (by kernel_rfl) ?_ _
      --]2
      go_wp2_with fail
      go_ret
      exact ⟨_, rfl, by rw [Tre.drop.eq_def]; simp only; rw [if_pos HH1.out]; exact ht2, hHeld⟩
    · have h1' : Op.bytesLess k.toList k1.toList = false := (by simpa using h1 : bl k k1 = false)
      have HH1 := Lib.hid h1
      clear h1
      by_cases h2 : bl k1 k = true
      · have hne : k ≠ k1 := (bl_ne h2).symm
        have hgt := str_ne hne
        have HGR := Lib.hid (show (r.get k).isSome = true by
          have := HGG.out
          rw [Tre.get, if_neg hne.symm, if_neg HH1.out] at this
          exact this)
        clear hne
        have HH2 := Lib.hid h2
        clear h2
        go_upto_region 4 with (fail)
        --[4
        refine wp_region_held_drew (S := fun w' => Below w0.heap.size w0 w') (by kernel_rfl) ((Below.refl _ _).drew) (fun hHeld => ?_)
        refine held_take 0 (some 38) (v := ?_) rfl rfl (by kernel_rfl) (by kernel_rfl) (by kernel_rfl) (fun _ _ _ h => h) (Or.inl ⟨by rfl, ?_⟩) hHeld ?_
        rotate_left
        · (intro w' hSw; clear hSw; go_simp; try with_reducible rfl)
        try simp only [Act.put, List.setIfInBounds_toArray, List.set_cons_zero, List.set_cons_succ]
        refine held_take 1 (some 39) (v := ?_) rfl rfl (by kernel_rfl) (by kernel_rfl) (by kernel_rfl) (fun _ _ _ h => h) (Or.inl ⟨by rfl, ?_⟩) hHeld ?_
        rotate_left
        · (intro w' hSw; clear hSw; go_simp; try with_reducible rfl)
        try simp only [Act.put, List.setIfInBounds_toArray, List.set_cons_zero, List.set_cons_succ]
        refine held_take 2 (some 40) (v := ?_) rfl rfl (by kernel_rfl) (by kernel_rfl) (by kernel_rfl) (fun _ _ _ h => h) (Or.inl ⟨by rfl, ?_⟩) hHeld ?_
        rotate_left
        · (intro w' hSw; clear hSw; go_simp; try with_reducible rfl)
        try simp only [Act.put, List.setIfInBounds_toArray, List.set_cons_zero, List.set_cons_succ]
        refine held_take 3 (some 41) (v := .agg ([.string k1, .string v1]).toArray) rfl rfl (by kernel_rfl) (by kernel_rfl) (by kernel_rfl) (fun _ _ _ h => h) (yieldsIf_load_mid (by rfl) 97 _ rfl ga (0) rfl ([.string k1, .string v1]) _ (fun w' h => rangeAt_block HA0.out (h.block _ HAL.out)) Tryz.underlying97 rfl rfl) hHeld ?_
        try simp only [Act.put, List.setIfInBounds_toArray, List.set_cons_zero, List.set_cons_succ]
        refine held_take 4 (some 42) (v := ?_) rfl rfl (by kernel_rfl) (by kernel_rfl) (by kernel_rfl) (fun _ _ _ h => h) (Or.inl ⟨by rfl, ?_⟩) hHeld ?_
        rotate_left
        · (intro w' hSw; clear hSw; go_simp; try with_reducible rfl)
        try simp only [Act.put, List.setIfInBounds_toArray, List.set_cons_zero, List.set_cons_succ]
        refine held_take 5 (some 43) (v := ?_) rfl rfl (by kernel_rfl) (by kernel_rfl) (by kernel_rfl) (fun _ _ _ h => h) (Or.inl ⟨by rfl, ?_⟩) hHeld ?_
        rotate_left
        · (intro w' hSw; clear hSw; go_simp; try with_reducible rfl)
        try simp only [Act.put, List.setIfInBounds_toArray, List.set_cons_zero, List.set_cons_succ]
        refine held_take 6 (some 44) (v := ?_) rfl rfl (by kernel_rfl) (by kernel_rfl) (by kernel_rfl) (fun _ _ _ h => h) (Or.inl ⟨by rfl, ?_⟩) hHeld ?_
        rotate_left
        · (intro w' hSw; clear hSw; go_simp; try with_reducible rfl)
        try simp only [Act.put, List.setIfInBounds_toArray, List.set_cons_zero, List.set_cons_succ]
        refine held_take 7 (some 45) (v := ?_) rfl rfl (by kernel_rfl) (by kernel_rfl) (by kernel_rfl) (fun _ _ _ h => h) (Or.inl ⟨by rfl, ?_⟩) hHeld ?_
        rotate_left
        · (intro w' hSw; have pf := (hSw.cell (p := ⟨ga, 2, none⟩) HAL.out).trans HA2.out; clear hSw; go_simp; try with_reducible rfl)
        try simp only [Act.put, List.setIfInBounds_toArray, List.set_cons_zero, List.set_cons_succ]
        refine held_take 8 (some 46) (v := ?_) rfl rfl (by kernel_rfl) (by kernel_rfl) (by kernel_rfl) (fun _ _ _ h => h) (Or.inl ⟨by rfl, ?_⟩) hHeld ?_
        rotate_left
        · (intro w' hSw; clear hSw; go_simp; try with_reducible rfl)
        try simp only [Act.put, List.setIfInBounds_toArray, List.set_cons_zero, List.set_cons_succ]
        refine held_take 9 (some 47) (v := ?_) rfl rfl (by kernel_rfl) (by kernel_rfl) (by kernel_rfl) (fun _ _ _ h => h) (Or.inl ⟨by rfl, ?_⟩) hHeld ?_
        rotate_left
        · (intro w' hSw; clear hSw; go_simp; try with_reducible rfl)
        try simp only [Act.put, List.setIfInBounds_toArray, List.set_cons_zero, List.set_cons_succ]
        refine held_take 10 (some 48) (v := ?_) rfl rfl (by kernel_rfl) (by kernel_rfl) (by kernel_rfl) (fun _ _ _ h => h) (Or.inl ⟨by rfl, ?_⟩) hHeld ?_
        rotate_left
        · (intro w' hSw; clear hSw; go_simp; try with_reducible rfl)
        try simp only [Act.put, List.setIfInBounds_toArray, List.set_cons_zero, List.set_cons_succ]
        refine held_take 11 (some 49) (v := ?_) rfl rfl (by kernel_rfl) (by kernel_rfl) (by kernel_rfl) (fun _ _ _ h => h) (Or.inl ⟨by rfl, ?_⟩) hHeld ?_
        rotate_left
        · (intro w' hSw; have pf := (hSw.cell (p := ⟨ga, 3, none⟩) HAL.out).trans HA3.out; clear hSw; go_simp; try with_reducible rfl)
        try simp only [Act.put, List.setIfInBounds_toArray, List.set_cons_zero, List.set_cons_succ]
        refine held_take 12 (some 50) (v := ?_) rfl rfl (by kernel_rfl) (by kernel_rfl) (by kernel_rfl) (fun _ _ _ h => h) (Or.inl ⟨by rfl, ?_⟩) hHeld ?_
        rotate_left
        · (intro w' hSw; clear hSw; go_simp; try with_reducible rfl)
        try simp only [Act.put, List.setIfInBounds_toArray, List.set_cons_zero, List.set_cons_succ]
        refine wpAnyH_ready (rs := [13]) (by kernel_rfl) (by simp) ?_
        refine AllReadyH.cons rfl (fun K hKK => ?_) AllReadyH.nil
        go_simp
        go_at_call 77
        refine (IHR.out _ _ (HTb.out.below hHeld) (by have := HZ.out; simp only [Tre.len] at this; omega) HGR.out).mono ?_
        rintro e wc51 ⟨p1, rfl, ht1, hc52⟩
        have hS53 := (hHeld).trans ((hc52).mono (hHeld).size)
        refine hKK.out _ _ hS53 (fun hHeld => ?_)
        clear hKK K
        try simp only [Act.put, List.setIfInBounds_toArray, List.set_cons_zero, List.set_cons_succ]
        refine wpAnyH_ready (rs := [14]) (by kernel_rfl) (by simp) ?_
        refine AllReadyH.cons rfl (fun K hKK => ?_) AllReadyH.nil
        go_simp
        go_at_call 69
        refine (join_any (HTa.out.below hHeld) ht1 (by have := HZ.out; have := Tre.len_drop k r; simp only [Tre.len] at *; omega)).mono ?_
        rintro e wc54 ⟨p2, rfl, ht2, hc55⟩
        have hS56 := (hHeld).trans ((hc55).mono (hHeld).size)
        refine hKK.out _ _ hS56 (fun hHeld => ?_)
        clear hKK K
        try simp only [Act.put, List.setIfInBounds_toArray, List.set_cons_zero, List.set_cons_succ]
        refine held_take 15 (some 4) (v := ?_) rfl rfl (by kernel_rfl) (by kernel_rfl) (by kernel_rfl) (fun _ _ _ h => h) (Or.inl ⟨by rfl, ?_⟩) hHeld ?_
        rotate_left
        · (intro w' hSw; clear hSw; go_simp; try with_reducible rfl)
        try simp only [Act.put, List.setIfInBounds_toArray, List.set_cons_zero, List.set_cons_succ]
        refine wpAnyH_done (by kernel_rfl) ?_ _
        --]4
        go_wp2_with fail
        go_ret
        exact ⟨_, rfl, by rw [Tre.drop.eq_def]; simp only; rw [if_neg HH1.out, if_pos HH2.out]; exact ht2, hHeld⟩
      · have he : k = k1 := bl_eq (by simpa using HH1.out) (by simpa using h2)
        subst he
        have hee : (k.toList == k.toList) = true := by simp
        have HH2 := Lib.hid h2
        clear h2
        cases r with
        | nil =>
          have hpb : pb = none := HTb.out
          subst hpb
          have ca3 := HA3.out
          have ca2 := HA2.out
          go_wp2_with fail
          go_ret
          exact ⟨_, rfl, by rw [Tre.drop.eq_def]; simp only; rw [if_neg HH1.out, if_neg HH2.out]; exact HTa.out, Below.refl _ _⟩
        | node k2 v2 la lb =>
          obtain ⟨gr, pra, prb, rfl, hrr, htra, htrb⟩ := HTb.out
          have HTb := Lib.hid (show TrAt w0 (some ⟨gr, 0, none⟩) (.node k2 v2 la lb) from ⟨gr, pra, prb, rfl, hrr, htra, htrb⟩)
          clear hrr htra htrb
          have ca3 := HA3.out
          go_wp2_with fail
          refine (Tfirst_any (.node k2 v2 la lb) gr w0 HTb.out (by have := HZ.out; simp only [Tre.len] at this ⊢; omega)).mono ?_
          rintro e w1 ⟨p1, rfl, ht1, hb1⟩
          obtain ⟨f, hf⟩ : ∃ f, (Tre.node k2 v2 la lb).first = f := ⟨_, rfl⟩
          rw [hf] at ht1
          rw [hf]
          have HF := Lib.hid hf
          obtain ⟨⟨fk, fv⟩, ft⟩ := f
          have HT1 := Lib.hid ht1
          have HB1 := Lib.hid hb1
          clear ht1 hb1 hf ca3 ca0
          try simp only
          go_upto_region 8 with (fail)
          have hb4 := (Below.refl w1.heap.size w1).alloc (Nat.le_refl _) (.cells #[.string fk, .string fv] 97)
          have hr4 := heap_alloc_last w1 (.cells #[.string fk, .string fv] 97)
          obtain ⟨w4, hw4⟩ : ∃ w4, w1.alloc (.cells #[.string fk, .string fv] 97) = w4 := ⟨_, rfl⟩
          rw [hw4] at hb4 hr4
          rw [hw4]
          have h04 := HB1.out.trans (hb4.mono HB1.out.size)
          obtain ⟨g4, hg4⟩ : ∃ g, w1.heap.size = g := ⟨_, rfl⟩
          rw [hg4] at hr4
          try rw [hg4]
          have HG4L := Lib.hid (row_lt hr4)
          have HG40 := Lib.hid (show w4.rangeAt g4 0 [.string fk, .string fv] from rangeAt_of_row hr4 0 2)
          have hra4 := (h04.block ga HAL.out).trans HRA0.out
          have HAL4 := Lib.hid (row_lt hra4)
          have HA42 := Lib.hid (show w4.cell? ⟨ga, 2, none⟩ = some (.pointer pa) from cell_row' hra4)
          have HT4 := Lib.hid (HT1.out.below hb4)
          have HTa4 := Lib.hid (HTa.out.below h04)
          have HZJ := Lib.hid (show l.len + ft.len < 1000000 by
            have h1 := Tre.len_first k2 v2 la lb
            rw [HF.out] at h1
            have h2 := HZ.out
            simp only [Tre.len] at h1 h2
            omega)
          have H04 := Lib.hid h04
          clear hb4 hr4 hw4 h04 hg4 hra4
          --[8
          refine wp_region_held_drew (S := fun w' => Below w4.heap.size w4 w') (by kernel_rfl) ((Below.refl _ _).drew) (fun hHeld => ?_)
          refine held_take 0 (some 71) (v := .agg ([.string fk, .string fv]).toArray) rfl rfl (by kernel_rfl) (by kernel_rfl) (by kernel_rfl) (fun _ _ _ h => h) (yieldsIf_load_mid (by rfl) 97 _ rfl g4 (0) rfl ([.string fk, .string fv]) _ (fun w' h => rangeAt_block HG40.out (h.block _ HG4L.out)) Tryz.underlying97 rfl rfl) hHeld ?_
          try simp only [Act.put, List.setIfInBounds_toArray, List.set_cons_zero, List.set_cons_succ]
          refine held_take 1 (some 72) (v := ?_) rfl rfl (by kernel_rfl) (by kernel_rfl) (by kernel_rfl) (fun _ _ _ h => h) (Or.inl ⟨by rfl, ?_⟩) hHeld ?_
          rotate_left
          · (intro w' hSw; clear hSw; go_simp; try with_reducible rfl)
          try simp only [Act.put, List.setIfInBounds_toArray, List.set_cons_zero, List.set_cons_succ]
          refine held_take 2 (some 73) (v := ?_) rfl rfl (by kernel_rfl) (by kernel_rfl) (by kernel_rfl) (fun _ _ _ h => h) (Or.inl ⟨by rfl, ?_⟩) hHeld ?_
          rotate_left
          · (intro w' hSw; clear hSw; go_simp; try with_reducible rfl)
          try simp only [Act.put, List.setIfInBounds_toArray, List.set_cons_zero, List.set_cons_succ]
          refine held_take 3 (some 74) (v := ?_) rfl rfl (by kernel_rfl) (by kernel_rfl) (by kernel_rfl) (fun _ _ _ h => h) (Or.inl ⟨by rfl, ?_⟩) hHeld ?_
          rotate_left
          · (intro w' hSw; clear hSw; go_simp; try with_reducible rfl)
          try simp only [Act.put, List.setIfInBounds_toArray, List.set_cons_zero, List.set_cons_succ]
          refine held_take 4 (some 75) (v := ?_) rfl rfl (by kernel_rfl) (by kernel_rfl) (by kernel_rfl) (fun _ _ _ h => h) (Or.inl ⟨by rfl, ?_⟩) hHeld ?_
          rotate_left
          · (intro w' hSw; have pf := (hSw.cell (p := ⟨ga, 2, none⟩) HAL4.out).trans HA42.out; clear hSw; go_simp; try with_reducible rfl)
          try simp only [Act.put, List.setIfInBounds_toArray, List.set_cons_zero, List.set_cons_succ]
          refine held_take 5 (some 76) (v := ?_) rfl rfl (by kernel_rfl) (by kernel_rfl) (by kernel_rfl) (fun _ _ _ h => h) (Or.inl ⟨by rfl, ?_⟩) hHeld ?_
          rotate_left
          · (intro w' hSw; clear hSw; go_simp; try with_reducible rfl)
          try simp only [Act.put, List.setIfInBounds_toArray, List.set_cons_zero, List.set_cons_succ]
          refine wpAnyH_ready (rs := [6]) (by kernel_rfl) (by simp) ?_
          refine AllReadyH.cons rfl (fun K hKK => ?_) AllReadyH.nil
          go_simp
          go_at_call 69
          refine (join_any (HTa4.out.below hHeld) (HT4.out.below hHeld) HZJ.out).mono ?_
          rintro e wc57 ⟨p2, rfl, ht2, hc58⟩
          have hS59 := (hHeld).trans ((hc58).mono (hHeld).size)
          refine hKK.out _ _ hS59 (fun hHeld => ?_)
          clear hKK K
          try simp only [Act.put, List.setIfInBounds_toArray, List.set_cons_zero, List.set_cons_succ]
          refine held_take 7 (some 4) (v := ?_) rfl rfl (by kernel_rfl) (by kernel_rfl) (by kernel_rfl) (fun _ _ _ h => h) (Or.inl ⟨by rfl, ?_⟩) hHeld ?_
          rotate_left
          · (intro w' hSw; clear hSw; go_simp; try with_reducible rfl)
          try simp only [Act.put, List.setIfInBounds_toArray, List.set_cons_zero, List.set_cons_succ]
          refine wpAnyH_done (by kernel_rfl) ?_ _
          --]8
          go_wp2_with fail
          go_ret
          have e1 : (Tre.node k v1 l (Tre.node k2 v2 la lb)).drop k = Tre.join fk fv l ft := by
            rw [Tre.drop.eq_def]; simp only; rw [if_neg HH1.out, if_neg HH2.out, HF.out]
          rw [e1]
          exact ⟨_, rfl, ht2, H04.out.trans (hHeld.mono H04.out.size)⟩
set_option maxRecDepth 20000 in
theorem TDrop_any (k : BA) (t : Tre) (p : Option Addr) (w : World) (h : TrAt w p t) (hz : t.len < 900000) :
    Calls Tryz.prog 51 #[.pointer p, .string k] w fun e w' => ∃ p', e = .returned (.tuple #[.pointer p', .bool (t.get k).isSome]) ∧ TrAt w' p' (if (t.get k).isSome = true then t.drop k else t) ∧ Below w.heap.size w w' := by
  have hG := TGet_any k t p w h
  have H := Lib.hid h
  have HZ := Lib.hid hz
  obtain ⟨d, hd⟩ : ∃ d, (if (t.get k).isSome = true then t.drop k else t) = d := ⟨_, rfl⟩
  rw [hd]
  have HD := Lib.hid hd
  obtain ⟨b, hb⟩ : ∃ b, (t.get k).isSome = b := ⟨_, rfl⟩
  obtain ⟨x, hx⟩ : ∃ x, (t.get k).getD ⟨#[]⟩ = x := ⟨_, rfl⟩
  rw [hb, hx] at hG
  rw [hb]
  have HG := Lib.hid hG
  have HB := Lib.hid hb
  clear h hz hd hb hx hG
  go_enter Tryz.func51, Tryz.ntmps51
  go_wp2_with fail
  refine HG.out.mono ?_
  rintro e w' ⟨rfl, rfl⟩
  cases b with
  | false =>
    go_wp2_with fail
    go_ret2
    exact ⟨_, rfl, by rw [← HD.out, if_neg (by rw [HB.out]; simp)]; exact H.out, Below.refl _ _⟩
  | true =>
    go_wp2_with fail
    refine (Tdrop_any k t p w H.out HZ.out HB.out).mono ?_
    rintro e w1 ⟨p1, rfl, ht1, hb1⟩
    go_wp2_with fail
    go_ret2
    exact ⟨_, rfl, by rw [← HD.out, if_pos HB.out]; exact ht1, hb1⟩
end Go.Proofs.YtcklcffepedklaaGreatDoor

namespace Go.Proofs.YtcklcffepedklaaGreatDoor
open Go.RowKit

/-- The pairs from a key on. -/
def geP (k : BA) (l : List PR) : List PR := l.filter fun x => !(bl x.1 k)
theorem geP_app {k : BA} {a b : List PR} : geP k (a ++ b) = geP k a ++ geP k b := List.filter_append ..
theorem geP_cons {k : BA} {x : PR} {b : List PR} : geP k (x :: b) = if bl x.1 k = true then geP k b else x :: geP k b := by
  unfold geP; rw [List.filter_cons]; cases bl x.1 k <;> rfl
theorem geP_none {k : BA} {l : List PR} (h : ∀ x ∈ l, bl x.1 k = true) : geP k l = [] :=
  List.filter_eq_nil_iff.2 fun x hx => by simp [h x hx]
theorem geP_left {key k v : BA} {l r : List PR} (hs : Srtd (l ++ (k, v) :: r)) (h : bl key k = false) : geP key l = [] := by
  obtain ⟨_, hr, hc⟩ := List.pairwise_append.1 hs
  refine geP_none fun x hx => ?_
  have h1 : bl x.1 k = true := hc x hx _ List.mem_cons_self
  by_cases h2 : bl k key = true
  · exact bl_trans h1 h2
  · have := bl_eq h (by simpa using h2); subst this; exact h1
/-- A function that is told the nodes of a tree, and keeps a list. -/
structure TellsN (g : Nat) (lb : Array Value) (wb : World) (m : Nat) (J : List PR → World → Prop) : Prop where
  enters : ∀ args W, (callFunc g args).run Tryz.prog W = .ok (.enter g args) W
  below : ∀ acc W, J acc W → Below wb.heap.size wb W
  told : ∀ acc W ga k v l r, J acc W → acc.length < m → TrAt W (some ⟨ga, 0, none⟩) (.node k v l r) →
    Calls Tryz.prog g (#[.pointer (some ⟨ga, 0, none⟩)] ++ lb) W fun e W' => e = .returned (.bool (decide (acc.length + 1 < m))) ∧ J (acc ++ [(k, v)]) W'
set_option maxRecDepth 20000 in
set_option maxHeartbeats 1600000 in
theorem Twalk_any (key : BA) {g : Nat} {lb : Array Value} {wb : World} {m : Nat} {J : List PR → World → Prop} (hT : TellsN g lb wb m J) :
    ∀ (t : Tre) (p : Option Addr) (acc : List PR) (W : World), TrAt wb p t → Srtd t.prs → J acc W → acc.length < m →
    Calls Tryz.prog 95 #[.pointer p, .string key, .func (.func g) #[] lb] W fun e W' => e = .returned (.bool (decide ((acc ++ geP key t.prs).length < m))) ∧ J ((acc ++ geP key t.prs).take m) W'
  | .nil, p, acc, W, h, hs, hj, hm => by
    have h' : p = none := h
    subst h'
    have HM := Lib.hid hm
    have HJ := Lib.hid hj
    clear h hs hj hm hT
    go_enter Tryz.func95, Tryz.ntmps95
    go_wp2_with fail
    go_ret
    have e1 : acc ++ geP key (Tre.prs .nil) = acc := by simp [Tre.prs, geP]
    rw [e1]
    exact ⟨by rw [decide_eq_true HM.out]; rfl, by rw [List.take_of_length_le (Nat.le_of_lt HM.out)]; exact HJ.out⟩
  | .node k1 v1 l r, p, acc, W, h, hs, hj, hm => by
    have IHL := Lib.hid (Twalk_any key hT l)
    have IHR := Lib.hid (Twalk_any key hT r)
    have HT := Lib.hid hT
    have hb := hT.below _ _ hj
    have hW := h.below hb
    have HTN := Lib.hid hW
    obtain ⟨ga, pa, pb, rfl, hra, hta, htb⟩ := h
    have HTa := Lib.hid hta
    have HTb := Lib.hid htb
    have HRA := Lib.hid hra
    have hraW := (hb.block ga (row_lt hra)).trans hra
    have ca0 : W.cell? ⟨ga, 0, none⟩ = some (.string k1) := cell_row' hraW
    have ca2 : W.cell? ⟨ga, 1 + 1, none⟩ = some (.pointer pa) := cell_row' hraW
    have ca3 : W.cell? ⟨ga, 3, none⟩ = some (.pointer pb) := cell_row' hraW
    have HS := Lib.hid hs
    have HJ := Lib.hid hj
    have HM := Lib.hid hm
    have HE := Lib.hid (show (Tre.node k1 v1 l r).prs = l.prs ++ (k1, v1) :: r.prs from rfl)
    obtain ⟨N, hN⟩ : ∃ N, (Tre.node k1 v1 l r).prs = N := ⟨_, rfl⟩
    rw [hN]
    have HN := Lib.hid hN
    obtain ⟨B, hB⟩ : ∃ B, decide ((acc ++ geP key N).length < m) = B := ⟨_, rfl⟩
    rw [hB]
    have HB := Lib.hid hB
    clear hta htb hra hraW hs hj hm hb hW hT hN hB
    go_enter Tryz.func95, Tryz.ntmps95
    by_cases h1 : bl key k1 = true
    · have h1' : Op.bytesLess key.toList k1.toList = true := h1
      have HH1 := Lib.hid h1
      clear h1
      go_wp2_with fail
      refine (IHL.out pa acc W HTa.out HS.out.left HJ.out HM.out).mono ?_
      rintro e W1 ⟨rfl, hj1⟩
      obtain ⟨b1, hb1⟩ : ∃ b, decide ((acc ++ geP key l.prs).length < m) = b := ⟨_, rfl⟩
      rw [hb1]
      have HB1 := Lib.hid hb1
      have HJ1 := Lib.hid hj1
      clear hb1 hj1 ca0 ca2 ca3
      cases b1 with
      | false =>
        go_wp2_with fail
        go_ret
        have hle : m ≤ (acc ++ geP key l.prs).length := by simpa using HB1.out
        have eN : acc ++ geP key N = (acc ++ geP key l.prs) ++ geP key ((k1, v1) :: r.prs) := by rw [← HN.out, HE.out, geP_app, List.append_assoc]
        refine ⟨?_, ?_⟩
        · rw [← HB.out, eN, decide_eq_false (by rw [List.length_append]; omega)]; rfl
        · rw [eN, List.take_append_of_le_length hle]; exact HJ1.out
      | true =>
        have hlt : (acc ++ geP key l.prs).length < m := by simpa using HB1.out
        have hj1 := HJ1.out
        rw [List.take_of_length_le (Nat.le_of_lt hlt)] at hj1
        have eN : acc ++ geP key N = (acc ++ geP key l.prs ++ [(k1, v1)]) ++ geP key r.prs := by
          rw [← HN.out, HE.out, geP_app, geP_cons, if_neg (by rw [bl_asymm HH1.out]; simp)]; simp
        have hb1 := HT.out.below _ _ hj1
        have h2' : Op.bytesLess k1.toList key.toList = false := bl_asymm HH1.out
        obtain ⟨acc2, hacc2⟩ : ∃ a, acc ++ geP key l.prs = a := ⟨_, rfl⟩
        rw [hacc2] at hlt hj1 eN
        clear hacc2
        have HEN := Lib.hid eN
        have hraW := (hb1.block ga (row_lt HRA.out)).trans HRA.out
        have HTN1 := Lib.hid (show TrAt W1 (some ⟨ga, 0, none⟩) (.node k1 v1 l r) from ⟨ga, pa, pb, rfl, hraW, HTa.out.below hb1, HTb.out.below hb1⟩)
        have ca0 : W1.cell? ⟨ga, 0, none⟩ = some (.string k1) := cell_row' hraW
        have hcall := HT.out.told _ _ ga k1 v1 l r hj1 hlt HTN1.out
        have eg := HT.out.enters
        have HLT := Lib.hid hlt
        obtain ⟨b2, hb2⟩ : ∃ b, decide (acc2.length + 1 < m) = b := ⟨_, rfl⟩
        rw [hb2] at hcall
        have HB2 := Lib.hid hb2
        have HCALL := Lib.hid hcall
        clear hb1 hraW hcall hlt hj1 eN hb2
        go_wp2_with fail
        refine HCALL.out.mono ?_
        rintro e W2 ⟨rfl, hj2⟩
        have HJ2 := Lib.hid hj2
        clear hj2 ca0 eg
        cases b2 with
        | false =>
          go_wp2_with fail
          go_ret
          have hge : ¬ acc2.length + 1 < m := by simpa using HB2.out
          have hlt := HLT.out
          have hle : (acc2 ++ [(k1, v1)]).length = m := by simp; omega
          refine ⟨?_, ?_⟩
          · rw [← HB.out, HEN.out, decide_eq_false (by rw [List.length_append, hle]; omega)]; rfl
          · rw [HEN.out, List.take_append_of_le_length (Nat.le_of_eq hle.symm), List.take_of_length_le (Nat.le_of_eq hle)]; exact HJ2.out
        | true =>
          have hlt2 : acc2.length + 1 < m := by simpa using HB2.out
          have hb2 := HT.out.below _ _ HJ2.out
          have ca3 : W2.cell? ⟨ga, 3, none⟩ = some (.pointer pb) := cell_row' ((hb2.block ga (row_lt HRA.out)).trans HRA.out)
          have HJR := HJ2
          have HMR := Lib.hid (show (acc2 ++ [(k1, v1)]).length < m by simp; omega)
          clear hlt2 hb2
          go_wp2_with fail
          refine (IHR.out pb (acc2 ++ [(k1, v1)]) W2 HTb.out (HS.out.right.tail) HJR.out HMR.out).mono ?_
          rintro e W9 ⟨rfl, hj9⟩
          obtain ⟨b9, hb9⟩ : ∃ b, decide (((acc2 ++ [(k1, v1)]) ++ geP key r.prs).length < m) = b := ⟨_, rfl⟩
          rw [hb9]
          have HB9 := Lib.hid hb9
          clear hb9
          go_wp2_with fail
          go_ret
          refine ⟨?_, ?_⟩
          · rw [← HB.out, HEN.out, HB9.out]; rfl
          · rw [HEN.out]; exact hj9
    · have h1' : Op.bytesLess key.toList k1.toList = false := (by simpa using h1 : bl key k1 = false)
      have HH1 := Lib.hid (by simpa using h1 : bl key k1 = false)
      clear h1
      have e0 : geP key l.prs = [] := geP_left HS.out HH1.out
      by_cases h2 : bl k1 key = true
      · have h2' : Op.bytesLess k1.toList key.toList = true := h2
        have HEN := Lib.hid (show acc ++ geP key N = acc ++ geP key r.prs by rw [← HN.out, HE.out, geP_app, geP_cons, if_pos h2, e0, List.nil_append])
        have HJR := HJ
        have HMR := HM
        have hee : (key.toList == k1.toList) = false := str_ne (bl_ne h2).symm
        clear h2 e0 ca2
        go_wp2_with fail
        refine (IHR.out pb acc W HTb.out (HS.out.right.tail) HJR.out HMR.out).mono ?_
        rintro e W9 ⟨rfl, hj9⟩
        obtain ⟨b9, hb9⟩ : ∃ b, decide ((acc ++ geP key r.prs).length < m) = b := ⟨_, rfl⟩
        rw [hb9]
        have HB9 := Lib.hid hb9
        clear hb9
        go_wp2_with fail
        go_ret
        refine ⟨?_, ?_⟩
        · rw [← HB.out, HEN.out, HB9.out]; rfl
        · rw [HEN.out]; exact hj9
      · have h2' : Op.bytesLess k1.toList key.toList = false := (by simpa using h2 : bl k1 key = false)
        have eN : acc ++ geP key N = (acc ++ [(k1, v1)]) ++ geP key r.prs := by
          rw [← HN.out, HE.out, geP_app, geP_cons, if_neg h2, e0]; simp
        have hee : (key.toList == k1.toList) = true := by rw [bl_eq HH1.out (by simpa using h2)]; simp
        clear h2 e0 ca2 ca0 ca3
        have hb1 := HT.out.below _ _ HJ.out
        have hj1 := HJ.out
        have hlt := HM.out
        have HEN := Lib.hid eN
        have hraW := (hb1.block ga (row_lt HRA.out)).trans HRA.out
        have HTN1 := Lib.hid (show TrAt W (some ⟨ga, 0, none⟩) (.node k1 v1 l r) from ⟨ga, pa, pb, rfl, hraW, HTa.out.below hb1, HTb.out.below hb1⟩)
        have ca0 : W.cell? ⟨ga, 0, none⟩ = some (.string k1) := cell_row' hraW
        have hcall := HT.out.told _ _ ga k1 v1 l r hj1 hlt HTN1.out
        have eg := HT.out.enters
        have HLT := Lib.hid hlt
        obtain ⟨b2, hb2⟩ : ∃ b, decide (acc.length + 1 < m) = b := ⟨_, rfl⟩
        rw [hb2] at hcall
        have HB2 := Lib.hid hb2
        have HCALL := Lib.hid hcall
        clear hb1 hraW hcall hlt hj1 eN hb2
        go_wp2_with fail
        refine HCALL.out.mono ?_
        rintro e W2 ⟨rfl, hj2⟩
        have HJ2 := Lib.hid hj2
        clear hj2 ca0 eg
        cases b2 with
        | false =>
          go_wp2_with fail
          go_ret
          have hge : ¬ acc.length + 1 < m := by simpa using HB2.out
          have hlt := HLT.out
          have hle : (acc ++ [(k1, v1)]).length = m := by simp; omega
          refine ⟨?_, ?_⟩
          · rw [← HB.out, HEN.out, decide_eq_false (by rw [List.length_append, hle]; omega)]; rfl
          · rw [HEN.out, List.take_append_of_le_length (Nat.le_of_eq hle.symm), List.take_of_length_le (Nat.le_of_eq hle)]; exact HJ2.out
        | true =>
          have hlt2 : acc.length + 1 < m := by simpa using HB2.out
          have hb2 := HT.out.below _ _ HJ2.out
          have ca3 : W2.cell? ⟨ga, 3, none⟩ = some (.pointer pb) := cell_row' ((hb2.block ga (row_lt HRA.out)).trans HRA.out)
          have HJR := HJ2
          have HMR := Lib.hid (show (acc ++ [(k1, v1)]).length < m by simp; omega)
          clear hlt2 hb2
          go_wp2_with fail
          refine (IHR.out pb (acc ++ [(k1, v1)]) W2 HTb.out (HS.out.right.tail) HJR.out HMR.out).mono ?_
          rintro e W9 ⟨rfl, hj9⟩
          obtain ⟨b9, hb9⟩ : ∃ b, decide (((acc ++ [(k1, v1)]) ++ geP key r.prs).length < m) = b := ⟨_, rfl⟩
          rw [hb9]
          have HB9 := Lib.hid hb9
          clear hb9
          go_wp2_with fail
          go_ret
          refine ⟨?_, ?_⟩
          · rw [← HB.out, HEN.out, HB9.out]; rfl
          · rw [HEN.out]; exact hj9
end Go.Proofs.YtcklcffepedklaaGreatDoor
