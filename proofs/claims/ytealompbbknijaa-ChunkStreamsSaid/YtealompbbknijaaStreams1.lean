/- chunk: ChunkStreams where the cutter is right. -/
import Derived.Test.YtealompbbknijaaSrel
import Derived.Test.YtealompbbknijaaLaws4a
import Derived.Deep.DeepCutAuto
namespace Go.Proofs.Ytealompbbknijaa
open Go.RowKit

set_option maxRecDepth 20000 in
set_option maxHeartbeats 1600000 in
theorem Streams_yes (c : Ct) (ok : c.Ok) (LL : List (List Int)) (n cap : Nat) (LA : Option Addr) (cl : Nat) (hcl : cl < 256) (w : World) (hn : LL.length = n) (hl : n ≤ 9223372036854775807) (hnc : n ≤ cap) (hI : InRows w LA LL) :
    Calls Try.prog 7 #[.agg (cutC c.mn c.mx c.main c.back), .slice LA n cap, .int .u8 cl] w fun e w' => e = .returned (.bool true) ∧ Below w.heap.size w w' := by
  have HS24 := Lib.hid (show (Try.prog.info? 24).map (·.size) = some [Value.int .i64 c.mn, .int .i64 c.mx, .int .u32 c.main, .int .u32 c.back].length by kernel_rfl)
  have HR := Lib.hid (heap_alloc_last w (.cells #[Value.int .i64 c.mn, .int .i64 c.mx, .int .u32 c.main, .int .u32 c.back] 24))
  have HBW := Lib.hid ((Below.refl w.heap.size w).alloc (Nat.le_refl _) (.cells #[Value.int .i64 c.mn, .int .i64 c.mx, .int .u32 c.main, .int .u32 c.back] 24))
  have hlt : w.heap.size < (w.alloc (.cells #[Value.int .i64 c.mn, .int .i64 c.mx, .int .u32 c.main, .int .u32 c.back] 24)).heap.size := by simp
  have HOK := Lib.hid ok
  have HIN := Lib.hid hI
  have HN := Lib.hid hn
  unfold cutC
  clear hI hn ok
  go_enter Try.func7, Try.ntmps7
  go_wp2_with fail
  generalize w.alloc (.cells #[Value.int .i64 c.mn, .int .i64 c.mx, .int .u32 c.main, .int .u32 c.back] 24) = W at *
  obtain ⟨K0, hK0⟩ : ∃ z, z = w.heap.size := ⟨_, rfl⟩
  rw [← hK0] at HR hlt ⊢
  have HK0 := Lib.hid hK0
  clear hK0
  have HQ := Lib.hid (show W.rangeAt K0 0 [Value.int .i64 c.mn, .int .i64 c.mx, .int .u32 c.main, .int .u32 c.back] from rangeAt_of_row HR.out 0 4)
  refine (shown_any _).mono ?_
  rintro e w1 ⟨rfl, hb1⟩
  have hr3 := (hb1.block K0 hlt).trans HR.out
  have d0 : w1.cell? ⟨K0, 0, none⟩ = some (.int .i64 c.mn) := by rw [cell_of_row _ _ _ _ _ _ hr3]; rfl
  have d1 : w1.cell? ⟨K0, 1, none⟩ = some (.int .i64 c.mx) := by rw [cell_of_row _ _ _ _ _ _ hr3]; rfl
  have d2 : w1.cell? ⟨K0, 2, none⟩ = some (.int .u32 c.main) := by rw [cell_of_row _ _ _ _ _ _ hr3]; rfl
  have d3 : w1.cell? ⟨K0, 3, none⟩ = some (.int .u32 c.back) := by rw [cell_of_row _ _ _ _ _ _ hr3]; rfl
  have HR3 := Lib.hid hr3
  have HB1 := Lib.hid hb1
  clear hb1 hr3
  have HNW := Lib.hid (New_yes c HOK.out w1)
  unfold cutC at HNW
  go_wp2_with fail
  refine HNW.out.mono ?_
  rintro e y2 ⟨g, rfl, hg, hrg, hy2⟩
  have hr4 := (hy2.block K0 (row_lt HR3.out)).trans HR3.out
  have e0 : y2.cell? ⟨K0, 0, none⟩ = some (.int .i64 c.mn) := by rw [cell_of_row _ _ _ _ _ _ hr4]; rfl
  have e1 : y2.cell? ⟨K0, 1, none⟩ = some (.int .i64 c.mx) := by rw [cell_of_row _ _ _ _ _ _ hr4]; rfl
  have e2 : y2.cell? ⟨K0, 2, none⟩ = some (.int .u32 c.main) := by rw [cell_of_row _ _ _ _ _ _ hr4]; rfl
  have e3 : y2.cell? ⟨K0, 3, none⟩ = some (.int .u32 c.back) := by rw [cell_of_row _ _ _ _ _ _ hr4]; rfl
  have hKg : K0 ≠ g := by have := row_lt HR3.out; omega
  have HRG := Lib.hid hrg
  have HR4 := Lib.hid hr4
  have HW2 := Lib.hid (HB1.out.trans (hy2.mono HB1.out.size))
  have hs1 := HB1.out.size
  have hsB := HBW.out.size
  have hsy := hy2.size
  clear hy2 hrg hr4 d0 d1 d2 d3
  go_wp2_with fail
  have HRT := Lib.hid (rRight_yes c.mn c.mx c.main c.back y2 HOK.out.right)
  unfold cutC at HRT
  refine HRT.out.mono ?_
  rintro e W1 ⟨rfl, hg3⟩
  have hs3 := hg3.size
  have hrg := (hg3.block g (row_lt HRG.out) (fun h => by cases h)).trans HRG.out
  have hrk := (hg3.block K0 (row_lt HR4.out) (fun h => by cases h)).trans HR4.out
  have HRK := Lib.hid hrk
  have hkl := row_lt hrk
  have hgl := row_lt hrg
  have HW1 := Lib.hid (HW2.out.trans ((below_refl_grown hg3).mono HW2.out.size))
  have HBA := Lib.hid (HBW.out.trans (HW1.out.mono HBW.out.size))
  have hsA := HBA.out.size
  have HREL := Lib.hid (show SRel W1 g c 0 [] none 0 K0 W1 from
    ⟨World.grownBy.refl _ _, cutR_nil c HOK.out, ⟨0, 0, 0, none, 0, hrg, ScanOk.zero c HOK.out _, Ints.nil _ _ _, (fun i => by simp), Nat.le_refl _, (fun ad e => by cases e), fun _ => ⟨rfl, rfl⟩⟩,
     hkl, hKg, (fun h => absurd h (by simp)), Ints.nil _ _ _, (fun i => by simp), Nat.le_refl _, (fun _ => ⟨rfl, rfl⟩), (fun ad e => by cases e), by simp, hgl⟩)
  clear hg3 hrg hrk e0 e1 e2 e3
  go_wp2_with fail
  go_loopg [9, 34] n (fun kq v9 v34 w' => ∃ (i : Nat) (h : List Int) (HA : Option Addr) (hc Y : Nat), v9 = .slice HA h.length hc ∧ v34 = .int .i64 (i : Int) ∧ i + kq = n ∧ i ≤ 50 ∧ SRel W1 g c i h HA hc Y w')
  case atStart => exact ⟨0, [], none, 0, K0, rfl, rfl, by omega, by omega, HREL.out⟩
  case round =>
    obtain ⟨i, h, HA, hc, Y, rfl, rfl, hk, hi50, R⟩ := hrel
    obtain ⟨w0, rfl⟩ : ∃ z, z = wr := ⟨_, rfl⟩
    obtain ⟨g0, rfl⟩ : ∃ z, z = gk := ⟨_, rfl⟩
    have HP := Lib.hid R
    obtain ⟨hn0, hhn⟩ : ∃ z, h.length = z := ⟨_, rfl⟩
    have HHN := Lib.hid hhn
    have hlec := R.lec
    have hnum := R.num
    have hsr := R.gr.size
    rw [hhn] at hlec hnum
    rw [HHN.out]
    have hBR := HBA.out.grown R.gr (by omega) (fun k hk => by cases hk; omega)
    have HBR := Lib.hid hBR
    clear R hhn hBR
    by_cases hz : g0 = 0
    · have hin2 : ¬ (i < n) := by omega
      go_upto_region 38 with (fail)
      have HQ1 := Lib.hid (show W1.rangeAt K0 0 [Value.int .i64 c.mn, .int .i64 c.mx, .int .u32 c.main, .int .u32 c.back] from rangeAt_of_row HRK.out 0 4)
      have HNLH := Lib.hid (show HA = none → hn0 = 0 ∧ hc = 0 from fun e => by have := HP.out.nil e; rwa [HHN.out] at this)
      obtain ⟨N8, hN8⟩ : ∃ z, (restR h).length = z := ⟨_, rfl⟩
      have HN8 := Lib.hid hN8
      have hN81 : N8 ≤ 1 := by rw [← hN8]; exact restR_length h
      have hglt := HP.out.glt
      clear hN8
      refine wp_region_held_drew (S := fun w' => W1.grownBy w' (some g)) (by kernel_rfl) (grown_drewN HP.out.gr 1) (fun hHeld => ?_)
      refine held_take 0 (some 135) (v := ?_) rfl rfl (by kernel_rfl) (by kernel_rfl) (by kernel_rfl) (fun _ _ _ h => h) (Or.inl ⟨by rfl, ?_⟩) hHeld ?_
      rotate_left
      · (intro w' hSw; clear hSw; go_simp; try with_reducible rfl)
      try simp only [Act.put, List.setIfInBounds_toArray, List.set_cons_zero, List.set_cons_succ]
      refine held_take 1 (some 136) (v := ?_) rfl rfl (by kernel_rfl) (by kernel_rfl) (by kernel_rfl) (fun _ _ _ h => h) (Or.inl ⟨by rfl, ?_⟩) hHeld ?_
      rotate_left
      · (intro w' hSw; clear hSw; go_simp; try with_reducible rfl)
      try simp only [Act.put, List.setIfInBounds_toArray, List.set_cons_zero, List.set_cons_succ]
      refine held_take 2 (some 137) (v := ?_) rfl rfl (by kernel_rfl) (by kernel_rfl) (by kernel_rfl) (fun _ _ _ h => h) (Or.inl ⟨by rfl, ?_⟩) hHeld ?_
      rotate_left
      · (intro w' hSw; clear hSw; go_simp; try with_reducible rfl)
      try simp only [Act.put, List.setIfInBounds_toArray, List.set_cons_zero, List.set_cons_succ]
      refine held_take 4 (some 139) (v := .agg ([Value.int .i64 c.mn, .int .i64 c.mx, .int .u32 c.main, .int .u32 c.back]).toArray) rfl rfl (by kernel_rfl) (by kernel_rfl) (by kernel_rfl) (fun _ _ _ h => h) (yieldsIf_load_mid (by rfl) 24 _ rfl K0 (0) rfl ([Value.int .i64 c.mn, .int .i64 c.mx, .int .u32 c.main, .int .u32 c.back]) _ (fun w' h => rangeAt_block HQ1.out (h.block _ hkl (fun e => by injection e with e; exact hKg e))) Try.underlying24 rfl HS24.out) hHeld ?_
      try simp only [Act.put, List.setIfInBounds_toArray, List.set_cons_zero, List.set_cons_succ]
      refine held_take 5 (some 140) (v := ?_) rfl rfl (by kernel_rfl) (by kernel_rfl) (by kernel_rfl) (fun _ _ _ h => h) (Or.inl ⟨by rfl, ?_⟩) hHeld ?_
      rotate_left
      · (intro w' hSw; clear hSw; go_simp; try with_reducible rfl)
      try simp only [Act.put, List.setIfInBounds_toArray, List.set_cons_zero, List.set_cons_succ]
      refine wpAnyH_ready (rs := [3]) (by kernel_rfl) (by simp) ?_
      refine AllReadyH.cons rfl (fun K hKK => ?_) AllReadyH.nil
      go_simp
      go_at_call 18
      refine (Close_any c HOK.out g h (fun k => k = Y) w0.drew HP.out.str (by rw [HHN.out]; omega)).mono ?_
      rintro e w8 ⟨v8, rfl, hg8, hnr8, hS8⟩
      have hG8 : W1.grownBy w8 (some g) := grown_trans (grown_drewN HP.out.gr 1) hg8
      have hgw8 : w0.grownBy w8 (some g) := grown_trans (grown_drewN (World.grownBy.refl _ _) 1) hg8
      obtain ⟨A8', c8', rfl, hcc8, hrw8, hA8b, -⟩ := hnr8.rows
      rw [HN8.out]
      refine hKK.out _ _ hG8 (fun hHeld => ?_)
      clear hKK K
      try simp only [Act.put, List.setIfInBounds_toArray, List.set_cons_zero, List.set_cons_succ]
      refine wpAnyH_ready (rs := [6]) (by kernel_rfl) (by simp) ?_
      refine AllReadyH.cons rfl (fun K hKK => ?_) AllReadyH.nil
      go_simp
      go_at_call 14
      refine (rAll_yes c HOK.out h HA hn0 hc w8 HHN.out hlec (HP.out.ints.grown hgw8 (fun ad e _ he => by injection he with he; have := HP.out.blk ad e; omega)) HP.out.byt HNLH.out (by omega)).mono ?_
      rintro e w9 ⟨v9, rfl, hb9, hnr9⟩
      rw [pcsR_zero c h HP.out.cut0] at hnr9
      obtain ⟨A9, c9, rfl, hcc9, hrw9, -, -⟩ := hnr9.rows
      rw [HN8.out]
      refine hKK.out _ _ (grown_trans hG8 (below_grown hb9 _)) (fun hHeld => ?_)
      clear hKK K
      try simp only [Act.put, List.setIfInBounds_toArray, List.set_cons_zero, List.set_cons_succ]
      refine wpAnyH_ready (rs := [7]) (by kernel_rfl) (by simp) ?_
      refine AllReadyH.cons rfl (fun K hKK => ?_) AllReadyH.nil
      go_simp
      go_at_call 11
      refine (Same_any _ _ A8' A9 N8 c8' c9 (restR h) w9 HN8.out (by omega) (hrw8.below hb9) hrw9).mono ?_
      rintro e z9 ⟨rfl, q9, rfl⟩
      refine hKK.out _ _ (grown_drewN (grown_trans hG8 (below_grown hb9 _)) _) (fun hHeld => ?_)
      clear hKK K
      try simp only [Act.put, List.setIfInBounds_toArray, List.set_cons_zero, List.set_cons_succ]
      refine held_take 8 (some 143) (v := ?_) rfl rfl (by kernel_rfl) (by kernel_rfl) (by kernel_rfl) (fun _ _ _ h => h) (Or.inl ⟨by rfl, ?_⟩) hHeld ?_
      rotate_left
      · (intro w' hSw; clear hSw; go_simp; try with_reducible rfl)
      try simp only [Act.put, List.setIfInBounds_toArray, List.set_cons_zero, List.set_cons_succ]
      refine held_take 9 (some 144) (v := ?_) rfl rfl (by kernel_rfl) (by kernel_rfl) (by kernel_rfl) (fun _ _ _ h => h) (Or.inl ⟨by rfl, ?_⟩) hHeld ?_
      rotate_left
      · (intro w' hSw; clear hSw; go_simp; try with_reducible rfl)
      try simp only [Act.put, List.setIfInBounds_toArray, List.set_cons_zero, List.set_cons_succ]
      refine held_take 10 (some 145) (v := ?_) rfl rfl (by kernel_rfl) (by kernel_rfl) (by kernel_rfl) (fun _ _ _ h => h) (Or.inl ⟨by rfl, ?_⟩) hHeld ?_
      rotate_left
      · (intro w' hSw; clear hSw; go_simp; try with_reducible rfl)
      try simp only [Act.put, List.setIfInBounds_toArray, List.set_cons_zero, List.set_cons_succ]
      have hS9 := hS8.kept (below_grown hb9 none) (fun h => by cases h) (fun _ _ h => by cases h)
      have HS9 := Lib.hid hS9
      obtain ⟨s9, seen9, kp9, A10, c10, hobj9, -⟩ := hS9
      refine wpAnyH_ready (rs := [11]) (by kernel_rfl) (by simp) ?_
      refine AllReadyH.cons rfl (fun K hKK => ?_) AllReadyH.nil
      go_simp
      go_at_call 21
      refine (Held_any c s9 seen9 kp9 g 0 c10 A10 (w9.drewN q9) hobj9).mono ?_
      rintro e zq ⟨rfl, rfl⟩
      refine hKK.out _ _ (grown_drewN (grown_trans hG8 (below_grown hb9 _)) _) (fun hHeld => ?_)
      clear hKK K
      try simp only [Act.put, List.setIfInBounds_toArray, List.set_cons_zero, List.set_cons_succ]
      refine held_take 12 (some 147) (v := ?_) rfl rfl (by kernel_rfl) (by kernel_rfl) (by kernel_rfl) (fun _ _ _ h => h) (Or.inl ⟨by rfl, ?_⟩) hHeld ?_
      rotate_left
      · (intro w' hSw; clear hSw; go_simp; try with_reducible rfl)
      try simp only [Act.put, List.setIfInBounds_toArray, List.set_cons_zero, List.set_cons_succ]
      refine held_take 13 (some 148) (v := ?_) rfl rfl (by kernel_rfl) (by kernel_rfl) (by kernel_rfl) (fun _ _ _ h => h) (Or.inl ⟨by rfl, ?_⟩) hHeld ?_
      rotate_left
      · (intro w' hSw; clear hSw; go_simp; try with_reducible rfl)
      try simp only [Act.put, List.setIfInBounds_toArray, List.set_cons_zero, List.set_cons_succ]
      refine held_take 14 (some 149) (v := ?_) rfl rfl (by kernel_rfl) (by kernel_rfl) (by kernel_rfl) (fun _ _ _ h => h) (Or.inl ⟨by rfl, ?_⟩) hHeld ?_
      rotate_left
      · (intro w' hSw; clear hSw; go_simp; try with_reducible rfl)
      try simp only [Act.put, List.setIfInBounds_toArray, List.set_cons_zero, List.set_cons_succ]
      refine held_take 15 (some 150) (v := ?_) rfl rfl (by kernel_rfl) (by kernel_rfl) (by kernel_rfl) (fun _ _ _ h => h) (Or.inl ⟨by rfl, ?_⟩) hHeld ?_
      rotate_left
      · (intro w' hSw; clear hSw; go_simp; try with_reducible rfl)
      try simp only [Act.put, List.setIfInBounds_toArray, List.set_cons_zero, List.set_cons_succ]
      refine wpAnyH_ready (rs := [16]) (by kernel_rfl) (by simp) ?_
      refine AllReadyH.cons rfl (fun K hKK => ?_) AllReadyH.nil
      go_simp
      go_at_call 18
      refine (Close_any c HOK.out g [] (fun k => k = Y) (w9.drewN q9) HS9.out (by simp)).mono ?_
      rintro e w11 ⟨v11, rfl, hg11, hnr11, hS11⟩
      obtain ⟨A11, c11, rfl, -⟩ := hnr11.rows
      rw [show (restR []).length = 0 from rfl]
      refine hKK.out _ _ (grown_trans (grown_drewN (grown_trans hG8 (below_grown hb9 _)) _) hg11) (fun hHeld => ?_)
      clear hKK K
      try simp only [Act.put, List.setIfInBounds_toArray, List.set_cons_zero, List.set_cons_succ]
      refine held_take 17 (some 152) (v := ?_) rfl rfl (by kernel_rfl) (by kernel_rfl) (by kernel_rfl) (fun _ _ _ h => h) (Or.inl ⟨by rfl, ?_⟩) hHeld ?_
      rotate_left
      · (intro w' hSw; clear hSw; go_simp; try with_reducible rfl)
      try simp only [Act.put, List.setIfInBounds_toArray, List.set_cons_zero, List.set_cons_succ]
      refine held_take 18 (some 153) (v := ?_) rfl rfl (by kernel_rfl) (by kernel_rfl) (by kernel_rfl) (fun _ _ _ h => h) (Or.inl ⟨by rfl, ?_⟩) hHeld ?_
      rotate_left
      · (intro w' hSw; clear hSw; go_simp; try with_reducible rfl)
      try simp only [Act.put, List.setIfInBounds_toArray, List.set_cons_zero, List.set_cons_succ]
      refine held_take 19 (some 154) (v := ?_) rfl rfl (by kernel_rfl) (by kernel_rfl) (by kernel_rfl) (fun _ _ _ h => h) (Or.inl ⟨by rfl, ?_⟩) hHeld ?_
      rotate_left
      · (intro w' hSw; clear hSw; go_simp; try with_reducible rfl)
      try simp only [Act.put, List.setIfInBounds_toArray, List.set_cons_zero, List.set_cons_succ]
      refine held_take 20 (some 6) (v := ?_) rfl rfl (by kernel_rfl) (by kernel_rfl) (by kernel_rfl) (fun _ _ _ h => h) (Or.inl ⟨by rfl, ?_⟩) hHeld ?_
      rotate_left
      · (intro w' hSw; clear hSw; go_simp; try with_reducible rfl)
      try simp only [Act.put, List.setIfInBounds_toArray, List.set_cons_zero, List.set_cons_succ]
      refine wpAnyH_done (by kernel_rfl) ?_ _
      have HFIN := Lib.hid (HBA.out.grown hHeld hsA (fun k hk => by cases hk; omega))
      clear hHeld
      go_wp2_with fail
      go_ret
      exact ⟨rfl, HFIN.out⟩
    · have hin : i < n := by omega
      obtain ⟨la, B, cB, eL, hcell0, hleB, hIB, hBB, hnB⟩ := HIN.out i (by rw [HN.out]; exact hin)
      subst eL
      obtain ⟨l, hl2⟩ : ∃ z, LL.getD i [] = z := ⟨_, rfl⟩
      rw [hl2] at hcell0 hleB hIB hBB hnB
      clear hl2
      obtain ⟨li, hli⟩ : ∃ z, l.length = z := ⟨_, rfl⟩
      have HLI := Lib.hid hli
      rw [hli] at hcell0 hleB hnB
      have HIB := Lib.hid hIB
      have HBB := Lib.hid hBB
      have HNB := Lib.hid hnB
      have HCL := Lib.hid hcell0
      have hcell := (HBR.out.cell (cell_lt hcell0)).trans hcell0
      clear hli hIB hBB hnB hcell0
      by_cases h50 : i = 50
      · have h502 : 50 ≤ i := by omega
        go_upto_region 38 with (fail)
        have HQ1 := Lib.hid (show W1.rangeAt K0 0 [Value.int .i64 c.mn, .int .i64 c.mx, .int .u32 c.main, .int .u32 c.back] from rangeAt_of_row HRK.out 0 4)
        have HNLH := Lib.hid (show HA = none → hn0 = 0 ∧ hc = 0 from fun e => by have := HP.out.nil e; rwa [HHN.out] at this)
        obtain ⟨N8, hN8⟩ : ∃ z, (restR h).length = z := ⟨_, rfl⟩
        have HN8 := Lib.hid hN8
        have hN81 : N8 ≤ 1 := by rw [← hN8]; exact restR_length h
        have hglt := HP.out.glt
        clear hN8
        refine wp_region_held_drew (S := fun w' => W1.grownBy w' (some g)) (by kernel_rfl) (grown_drewN HP.out.gr 1) (fun hHeld => ?_)
        refine held_take 0 (some 135) (v := ?_) rfl rfl (by kernel_rfl) (by kernel_rfl) (by kernel_rfl) (fun _ _ _ h => h) (Or.inl ⟨by rfl, ?_⟩) hHeld ?_
        rotate_left
        · (intro w' hSw; clear hSw; go_simp; try with_reducible rfl)
        try simp only [Act.put, List.setIfInBounds_toArray, List.set_cons_zero, List.set_cons_succ]
        refine held_take 1 (some 136) (v := ?_) rfl rfl (by kernel_rfl) (by kernel_rfl) (by kernel_rfl) (fun _ _ _ h => h) (Or.inl ⟨by rfl, ?_⟩) hHeld ?_
        rotate_left
        · (intro w' hSw; clear hSw; go_simp; try with_reducible rfl)
        try simp only [Act.put, List.setIfInBounds_toArray, List.set_cons_zero, List.set_cons_succ]
        refine held_take 2 (some 137) (v := ?_) rfl rfl (by kernel_rfl) (by kernel_rfl) (by kernel_rfl) (fun _ _ _ h => h) (Or.inl ⟨by rfl, ?_⟩) hHeld ?_
        rotate_left
        · (intro w' hSw; clear hSw; go_simp; try with_reducible rfl)
        try simp only [Act.put, List.setIfInBounds_toArray, List.set_cons_zero, List.set_cons_succ]
        refine held_take 4 (some 139) (v := .agg ([Value.int .i64 c.mn, .int .i64 c.mx, .int .u32 c.main, .int .u32 c.back]).toArray) rfl rfl (by kernel_rfl) (by kernel_rfl) (by kernel_rfl) (fun _ _ _ h => h) (yieldsIf_load_mid (by rfl) 24 _ rfl K0 (0) rfl ([Value.int .i64 c.mn, .int .i64 c.mx, .int .u32 c.main, .int .u32 c.back]) _ (fun w' h => rangeAt_block HQ1.out (h.block _ hkl (fun e => by injection e with e; exact hKg e))) Try.underlying24 rfl HS24.out) hHeld ?_
        try simp only [Act.put, List.setIfInBounds_toArray, List.set_cons_zero, List.set_cons_succ]
        refine held_take 5 (some 140) (v := ?_) rfl rfl (by kernel_rfl) (by kernel_rfl) (by kernel_rfl) (fun _ _ _ h => h) (Or.inl ⟨by rfl, ?_⟩) hHeld ?_
        rotate_left
        · (intro w' hSw; clear hSw; go_simp; try with_reducible rfl)
        try simp only [Act.put, List.setIfInBounds_toArray, List.set_cons_zero, List.set_cons_succ]
        refine wpAnyH_ready (rs := [3]) (by kernel_rfl) (by simp) ?_
        refine AllReadyH.cons rfl (fun K hKK => ?_) AllReadyH.nil
        go_simp
        go_at_call 18
        refine (Close_any c HOK.out g h (fun k => k = Y) w0.drew HP.out.str (by rw [HHN.out]; omega)).mono ?_
        rintro e w8 ⟨v8, rfl, hg8, hnr8, hS8⟩
        have hG8 : W1.grownBy w8 (some g) := grown_trans (grown_drewN HP.out.gr 1) hg8
        have hgw8 : w0.grownBy w8 (some g) := grown_trans (grown_drewN (World.grownBy.refl _ _) 1) hg8
        obtain ⟨A8', c8', rfl, hcc8, hrw8, hA8b, -⟩ := hnr8.rows
        rw [HN8.out]
        refine hKK.out _ _ hG8 (fun hHeld => ?_)
        clear hKK K
        try simp only [Act.put, List.setIfInBounds_toArray, List.set_cons_zero, List.set_cons_succ]
        refine wpAnyH_ready (rs := [6]) (by kernel_rfl) (by simp) ?_
        refine AllReadyH.cons rfl (fun K hKK => ?_) AllReadyH.nil
        go_simp
        go_at_call 14
        refine (rAll_yes c HOK.out h HA hn0 hc w8 HHN.out hlec (HP.out.ints.grown hgw8 (fun ad e _ he => by injection he with he; have := HP.out.blk ad e; omega)) HP.out.byt HNLH.out (by omega)).mono ?_
        rintro e w9 ⟨v9, rfl, hb9, hnr9⟩
        rw [pcsR_zero c h HP.out.cut0] at hnr9
        obtain ⟨A9, c9, rfl, hcc9, hrw9, -, -⟩ := hnr9.rows
        rw [HN8.out]
        refine hKK.out _ _ (grown_trans hG8 (below_grown hb9 _)) (fun hHeld => ?_)
        clear hKK K
        try simp only [Act.put, List.setIfInBounds_toArray, List.set_cons_zero, List.set_cons_succ]
        refine wpAnyH_ready (rs := [7]) (by kernel_rfl) (by simp) ?_
        refine AllReadyH.cons rfl (fun K hKK => ?_) AllReadyH.nil
        go_simp
        go_at_call 11
        refine (Same_any _ _ A8' A9 N8 c8' c9 (restR h) w9 HN8.out (by omega) (hrw8.below hb9) hrw9).mono ?_
        rintro e z9 ⟨rfl, q9, rfl⟩
        refine hKK.out _ _ (grown_drewN (grown_trans hG8 (below_grown hb9 _)) _) (fun hHeld => ?_)
        clear hKK K
        try simp only [Act.put, List.setIfInBounds_toArray, List.set_cons_zero, List.set_cons_succ]
        refine held_take 8 (some 143) (v := ?_) rfl rfl (by kernel_rfl) (by kernel_rfl) (by kernel_rfl) (fun _ _ _ h => h) (Or.inl ⟨by rfl, ?_⟩) hHeld ?_
        rotate_left
        · (intro w' hSw; clear hSw; go_simp; try with_reducible rfl)
        try simp only [Act.put, List.setIfInBounds_toArray, List.set_cons_zero, List.set_cons_succ]
        refine held_take 9 (some 144) (v := ?_) rfl rfl (by kernel_rfl) (by kernel_rfl) (by kernel_rfl) (fun _ _ _ h => h) (Or.inl ⟨by rfl, ?_⟩) hHeld ?_
        rotate_left
        · (intro w' hSw; clear hSw; go_simp; try with_reducible rfl)
        try simp only [Act.put, List.setIfInBounds_toArray, List.set_cons_zero, List.set_cons_succ]
        refine held_take 10 (some 145) (v := ?_) rfl rfl (by kernel_rfl) (by kernel_rfl) (by kernel_rfl) (fun _ _ _ h => h) (Or.inl ⟨by rfl, ?_⟩) hHeld ?_
        rotate_left
        · (intro w' hSw; clear hSw; go_simp; try with_reducible rfl)
        try simp only [Act.put, List.setIfInBounds_toArray, List.set_cons_zero, List.set_cons_succ]
        have hS9 := hS8.kept (below_grown hb9 none) (fun h => by cases h) (fun _ _ h => by cases h)
        have HS9 := Lib.hid hS9
        obtain ⟨s9, seen9, kp9, A10, c10, hobj9, -⟩ := hS9
        refine wpAnyH_ready (rs := [11]) (by kernel_rfl) (by simp) ?_
        refine AllReadyH.cons rfl (fun K hKK => ?_) AllReadyH.nil
        go_simp
        go_at_call 21
        refine (Held_any c s9 seen9 kp9 g 0 c10 A10 (w9.drewN q9) hobj9).mono ?_
        rintro e zq ⟨rfl, rfl⟩
        refine hKK.out _ _ (grown_drewN (grown_trans hG8 (below_grown hb9 _)) _) (fun hHeld => ?_)
        clear hKK K
        try simp only [Act.put, List.setIfInBounds_toArray, List.set_cons_zero, List.set_cons_succ]
        refine held_take 12 (some 147) (v := ?_) rfl rfl (by kernel_rfl) (by kernel_rfl) (by kernel_rfl) (fun _ _ _ h => h) (Or.inl ⟨by rfl, ?_⟩) hHeld ?_
        rotate_left
        · (intro w' hSw; clear hSw; go_simp; try with_reducible rfl)
        try simp only [Act.put, List.setIfInBounds_toArray, List.set_cons_zero, List.set_cons_succ]
        refine held_take 13 (some 148) (v := ?_) rfl rfl (by kernel_rfl) (by kernel_rfl) (by kernel_rfl) (fun _ _ _ h => h) (Or.inl ⟨by rfl, ?_⟩) hHeld ?_
        rotate_left
        · (intro w' hSw; clear hSw; go_simp; try with_reducible rfl)
        try simp only [Act.put, List.setIfInBounds_toArray, List.set_cons_zero, List.set_cons_succ]
        refine held_take 14 (some 149) (v := ?_) rfl rfl (by kernel_rfl) (by kernel_rfl) (by kernel_rfl) (fun _ _ _ h => h) (Or.inl ⟨by rfl, ?_⟩) hHeld ?_
        rotate_left
        · (intro w' hSw; clear hSw; go_simp; try with_reducible rfl)
        try simp only [Act.put, List.setIfInBounds_toArray, List.set_cons_zero, List.set_cons_succ]
        refine held_take 15 (some 150) (v := ?_) rfl rfl (by kernel_rfl) (by kernel_rfl) (by kernel_rfl) (fun _ _ _ h => h) (Or.inl ⟨by rfl, ?_⟩) hHeld ?_
        rotate_left
        · (intro w' hSw; clear hSw; go_simp; try with_reducible rfl)
        try simp only [Act.put, List.setIfInBounds_toArray, List.set_cons_zero, List.set_cons_succ]
        refine wpAnyH_ready (rs := [16]) (by kernel_rfl) (by simp) ?_
        refine AllReadyH.cons rfl (fun K hKK => ?_) AllReadyH.nil
        go_simp
        go_at_call 18
        refine (Close_any c HOK.out g [] (fun k => k = Y) (w9.drewN q9) HS9.out (by simp)).mono ?_
        rintro e w11 ⟨v11, rfl, hg11, hnr11, hS11⟩
        obtain ⟨A11, c11, rfl, -⟩ := hnr11.rows
        rw [show (restR []).length = 0 from rfl]
        refine hKK.out _ _ (grown_trans (grown_drewN (grown_trans hG8 (below_grown hb9 _)) _) hg11) (fun hHeld => ?_)
        clear hKK K
        try simp only [Act.put, List.setIfInBounds_toArray, List.set_cons_zero, List.set_cons_succ]
        refine held_take 17 (some 152) (v := ?_) rfl rfl (by kernel_rfl) (by kernel_rfl) (by kernel_rfl) (fun _ _ _ h => h) (Or.inl ⟨by rfl, ?_⟩) hHeld ?_
        rotate_left
        · (intro w' hSw; clear hSw; go_simp; try with_reducible rfl)
        try simp only [Act.put, List.setIfInBounds_toArray, List.set_cons_zero, List.set_cons_succ]
        refine held_take 18 (some 153) (v := ?_) rfl rfl (by kernel_rfl) (by kernel_rfl) (by kernel_rfl) (fun _ _ _ h => h) (Or.inl ⟨by rfl, ?_⟩) hHeld ?_
        rotate_left
        · (intro w' hSw; clear hSw; go_simp; try with_reducible rfl)
        try simp only [Act.put, List.setIfInBounds_toArray, List.set_cons_zero, List.set_cons_succ]
        refine held_take 19 (some 154) (v := ?_) rfl rfl (by kernel_rfl) (by kernel_rfl) (by kernel_rfl) (fun _ _ _ h => h) (Or.inl ⟨by rfl, ?_⟩) hHeld ?_
        rotate_left
        · (intro w' hSw; clear hSw; go_simp; try with_reducible rfl)
        try simp only [Act.put, List.setIfInBounds_toArray, List.set_cons_zero, List.set_cons_succ]
        refine held_take 20 (some 6) (v := ?_) rfl rfl (by kernel_rfl) (by kernel_rfl) (by kernel_rfl) (fun _ _ _ h => h) (Or.inl ⟨by rfl, ?_⟩) hHeld ?_
        rotate_left
        · (intro w' hSw; clear hSw; go_simp; try with_reducible rfl)
        try simp only [Act.put, List.setIfInBounds_toArray, List.set_cons_zero, List.set_cons_succ]
        refine wpAnyH_done (by kernel_rfl) ?_ _
        have HFIN := Lib.hid (HBA.out.grown hHeld hsA (fun k hk => by cases hk; omega))
        clear hHeld
        go_wp2_with fail
        go_ret
        exact ⟨rfl, HFIN.out⟩
      · have hi2 : i < 50 := by omega
        by_cases hl1 : 10000 < li
        · have hl12 : 10000 < li := hl1
          go_upto_region 38 with (fail)
          have HQ1 := Lib.hid (show W1.rangeAt K0 0 [Value.int .i64 c.mn, .int .i64 c.mx, .int .u32 c.main, .int .u32 c.back] from rangeAt_of_row HRK.out 0 4)
          have HNLH := Lib.hid (show HA = none → hn0 = 0 ∧ hc = 0 from fun e => by have := HP.out.nil e; rwa [HHN.out] at this)
          obtain ⟨N8, hN8⟩ : ∃ z, (restR h).length = z := ⟨_, rfl⟩
          have HN8 := Lib.hid hN8
          have hN81 : N8 ≤ 1 := by rw [← hN8]; exact restR_length h
          have hglt := HP.out.glt
          clear hN8
          refine wp_region_held_drew (S := fun w' => W1.grownBy w' (some g)) (by kernel_rfl) (grown_drewN HP.out.gr 1) (fun hHeld => ?_)
          refine held_take 0 (some 135) (v := ?_) rfl rfl (by kernel_rfl) (by kernel_rfl) (by kernel_rfl) (fun _ _ _ h => h) (Or.inl ⟨by rfl, ?_⟩) hHeld ?_
          rotate_left
          · (intro w' hSw; clear hSw; go_simp; try with_reducible rfl)
          try simp only [Act.put, List.setIfInBounds_toArray, List.set_cons_zero, List.set_cons_succ]
          refine held_take 1 (some 136) (v := ?_) rfl rfl (by kernel_rfl) (by kernel_rfl) (by kernel_rfl) (fun _ _ _ h => h) (Or.inl ⟨by rfl, ?_⟩) hHeld ?_
          rotate_left
          · (intro w' hSw; clear hSw; go_simp; try with_reducible rfl)
          try simp only [Act.put, List.setIfInBounds_toArray, List.set_cons_zero, List.set_cons_succ]
          refine held_take 2 (some 137) (v := ?_) rfl rfl (by kernel_rfl) (by kernel_rfl) (by kernel_rfl) (fun _ _ _ h => h) (Or.inl ⟨by rfl, ?_⟩) hHeld ?_
          rotate_left
          · (intro w' hSw; clear hSw; go_simp; try with_reducible rfl)
          try simp only [Act.put, List.setIfInBounds_toArray, List.set_cons_zero, List.set_cons_succ]
          refine held_take 4 (some 139) (v := .agg ([Value.int .i64 c.mn, .int .i64 c.mx, .int .u32 c.main, .int .u32 c.back]).toArray) rfl rfl (by kernel_rfl) (by kernel_rfl) (by kernel_rfl) (fun _ _ _ h => h) (yieldsIf_load_mid (by rfl) 24 _ rfl K0 (0) rfl ([Value.int .i64 c.mn, .int .i64 c.mx, .int .u32 c.main, .int .u32 c.back]) _ (fun w' h => rangeAt_block HQ1.out (h.block _ hkl (fun e => by injection e with e; exact hKg e))) Try.underlying24 rfl HS24.out) hHeld ?_
          try simp only [Act.put, List.setIfInBounds_toArray, List.set_cons_zero, List.set_cons_succ]
          refine held_take 5 (some 140) (v := ?_) rfl rfl (by kernel_rfl) (by kernel_rfl) (by kernel_rfl) (fun _ _ _ h => h) (Or.inl ⟨by rfl, ?_⟩) hHeld ?_
          rotate_left
          · (intro w' hSw; clear hSw; go_simp; try with_reducible rfl)
          try simp only [Act.put, List.setIfInBounds_toArray, List.set_cons_zero, List.set_cons_succ]
          refine wpAnyH_ready (rs := [3]) (by kernel_rfl) (by simp) ?_
          refine AllReadyH.cons rfl (fun K hKK => ?_) AllReadyH.nil
          go_simp
          go_at_call 18
          refine (Close_any c HOK.out g h (fun k => k = Y) w0.drew HP.out.str (by rw [HHN.out]; omega)).mono ?_
          rintro e w8 ⟨v8, rfl, hg8, hnr8, hS8⟩
          have hG8 : W1.grownBy w8 (some g) := grown_trans (grown_drewN HP.out.gr 1) hg8
          have hgw8 : w0.grownBy w8 (some g) := grown_trans (grown_drewN (World.grownBy.refl _ _) 1) hg8
          obtain ⟨A8', c8', rfl, hcc8, hrw8, hA8b, -⟩ := hnr8.rows
          rw [HN8.out]
          refine hKK.out _ _ hG8 (fun hHeld => ?_)
          clear hKK K
          try simp only [Act.put, List.setIfInBounds_toArray, List.set_cons_zero, List.set_cons_succ]
          refine wpAnyH_ready (rs := [6]) (by kernel_rfl) (by simp) ?_
          refine AllReadyH.cons rfl (fun K hKK => ?_) AllReadyH.nil
          go_simp
          go_at_call 14
          refine (rAll_yes c HOK.out h HA hn0 hc w8 HHN.out hlec (HP.out.ints.grown hgw8 (fun ad e _ he => by injection he with he; have := HP.out.blk ad e; omega)) HP.out.byt HNLH.out (by omega)).mono ?_
          rintro e w9 ⟨v9, rfl, hb9, hnr9⟩
          rw [pcsR_zero c h HP.out.cut0] at hnr9
          obtain ⟨A9, c9, rfl, hcc9, hrw9, -, -⟩ := hnr9.rows
          rw [HN8.out]
          refine hKK.out _ _ (grown_trans hG8 (below_grown hb9 _)) (fun hHeld => ?_)
          clear hKK K
          try simp only [Act.put, List.setIfInBounds_toArray, List.set_cons_zero, List.set_cons_succ]
          refine wpAnyH_ready (rs := [7]) (by kernel_rfl) (by simp) ?_
          refine AllReadyH.cons rfl (fun K hKK => ?_) AllReadyH.nil
          go_simp
          go_at_call 11
          refine (Same_any _ _ A8' A9 N8 c8' c9 (restR h) w9 HN8.out (by omega) (hrw8.below hb9) hrw9).mono ?_
          rintro e z9 ⟨rfl, q9, rfl⟩
          refine hKK.out _ _ (grown_drewN (grown_trans hG8 (below_grown hb9 _)) _) (fun hHeld => ?_)
          clear hKK K
          try simp only [Act.put, List.setIfInBounds_toArray, List.set_cons_zero, List.set_cons_succ]
          refine held_take 8 (some 143) (v := ?_) rfl rfl (by kernel_rfl) (by kernel_rfl) (by kernel_rfl) (fun _ _ _ h => h) (Or.inl ⟨by rfl, ?_⟩) hHeld ?_
          rotate_left
          · (intro w' hSw; clear hSw; go_simp; try with_reducible rfl)
          try simp only [Act.put, List.setIfInBounds_toArray, List.set_cons_zero, List.set_cons_succ]
          refine held_take 9 (some 144) (v := ?_) rfl rfl (by kernel_rfl) (by kernel_rfl) (by kernel_rfl) (fun _ _ _ h => h) (Or.inl ⟨by rfl, ?_⟩) hHeld ?_
          rotate_left
          · (intro w' hSw; clear hSw; go_simp; try with_reducible rfl)
          try simp only [Act.put, List.setIfInBounds_toArray, List.set_cons_zero, List.set_cons_succ]
          refine held_take 10 (some 145) (v := ?_) rfl rfl (by kernel_rfl) (by kernel_rfl) (by kernel_rfl) (fun _ _ _ h => h) (Or.inl ⟨by rfl, ?_⟩) hHeld ?_
          rotate_left
          · (intro w' hSw; clear hSw; go_simp; try with_reducible rfl)
          try simp only [Act.put, List.setIfInBounds_toArray, List.set_cons_zero, List.set_cons_succ]
          have hS9 := hS8.kept (below_grown hb9 none) (fun h => by cases h) (fun _ _ h => by cases h)
          have HS9 := Lib.hid hS9
          obtain ⟨s9, seen9, kp9, A10, c10, hobj9, -⟩ := hS9
          refine wpAnyH_ready (rs := [11]) (by kernel_rfl) (by simp) ?_
          refine AllReadyH.cons rfl (fun K hKK => ?_) AllReadyH.nil
          go_simp
          go_at_call 21
          refine (Held_any c s9 seen9 kp9 g 0 c10 A10 (w9.drewN q9) hobj9).mono ?_
          rintro e zq ⟨rfl, rfl⟩
          refine hKK.out _ _ (grown_drewN (grown_trans hG8 (below_grown hb9 _)) _) (fun hHeld => ?_)
          clear hKK K
          try simp only [Act.put, List.setIfInBounds_toArray, List.set_cons_zero, List.set_cons_succ]
          refine held_take 12 (some 147) (v := ?_) rfl rfl (by kernel_rfl) (by kernel_rfl) (by kernel_rfl) (fun _ _ _ h => h) (Or.inl ⟨by rfl, ?_⟩) hHeld ?_
          rotate_left
          · (intro w' hSw; clear hSw; go_simp; try with_reducible rfl)
          try simp only [Act.put, List.setIfInBounds_toArray, List.set_cons_zero, List.set_cons_succ]
          refine held_take 13 (some 148) (v := ?_) rfl rfl (by kernel_rfl) (by kernel_rfl) (by kernel_rfl) (fun _ _ _ h => h) (Or.inl ⟨by rfl, ?_⟩) hHeld ?_
          rotate_left
          · (intro w' hSw; clear hSw; go_simp; try with_reducible rfl)
          try simp only [Act.put, List.setIfInBounds_toArray, List.set_cons_zero, List.set_cons_succ]
          refine held_take 14 (some 149) (v := ?_) rfl rfl (by kernel_rfl) (by kernel_rfl) (by kernel_rfl) (fun _ _ _ h => h) (Or.inl ⟨by rfl, ?_⟩) hHeld ?_
          rotate_left
          · (intro w' hSw; clear hSw; go_simp; try with_reducible rfl)
          try simp only [Act.put, List.setIfInBounds_toArray, List.set_cons_zero, List.set_cons_succ]
          refine held_take 15 (some 150) (v := ?_) rfl rfl (by kernel_rfl) (by kernel_rfl) (by kernel_rfl) (fun _ _ _ h => h) (Or.inl ⟨by rfl, ?_⟩) hHeld ?_
          rotate_left
          · (intro w' hSw; clear hSw; go_simp; try with_reducible rfl)
          try simp only [Act.put, List.setIfInBounds_toArray, List.set_cons_zero, List.set_cons_succ]
          refine wpAnyH_ready (rs := [16]) (by kernel_rfl) (by simp) ?_
          refine AllReadyH.cons rfl (fun K hKK => ?_) AllReadyH.nil
          go_simp
          go_at_call 18
          refine (Close_any c HOK.out g [] (fun k => k = Y) (w9.drewN q9) HS9.out (by simp)).mono ?_
          rintro e w11 ⟨v11, rfl, hg11, hnr11, hS11⟩
          obtain ⟨A11, c11, rfl, -⟩ := hnr11.rows
          rw [show (restR []).length = 0 from rfl]
          refine hKK.out _ _ (grown_trans (grown_drewN (grown_trans hG8 (below_grown hb9 _)) _) hg11) (fun hHeld => ?_)
          clear hKK K
          try simp only [Act.put, List.setIfInBounds_toArray, List.set_cons_zero, List.set_cons_succ]
          refine held_take 17 (some 152) (v := ?_) rfl rfl (by kernel_rfl) (by kernel_rfl) (by kernel_rfl) (fun _ _ _ h => h) (Or.inl ⟨by rfl, ?_⟩) hHeld ?_
          rotate_left
          · (intro w' hSw; clear hSw; go_simp; try with_reducible rfl)
          try simp only [Act.put, List.setIfInBounds_toArray, List.set_cons_zero, List.set_cons_succ]
          refine held_take 18 (some 153) (v := ?_) rfl rfl (by kernel_rfl) (by kernel_rfl) (by kernel_rfl) (fun _ _ _ h => h) (Or.inl ⟨by rfl, ?_⟩) hHeld ?_
          rotate_left
          · (intro w' hSw; clear hSw; go_simp; try with_reducible rfl)
          try simp only [Act.put, List.setIfInBounds_toArray, List.set_cons_zero, List.set_cons_succ]
          refine held_take 19 (some 154) (v := ?_) rfl rfl (by kernel_rfl) (by kernel_rfl) (by kernel_rfl) (fun _ _ _ h => h) (Or.inl ⟨by rfl, ?_⟩) hHeld ?_
          rotate_left
          · (intro w' hSw; clear hSw; go_simp; try with_reducible rfl)
          try simp only [Act.put, List.setIfInBounds_toArray, List.set_cons_zero, List.set_cons_succ]
          refine held_take 20 (some 6) (v := ?_) rfl rfl (by kernel_rfl) (by kernel_rfl) (by kernel_rfl) (fun _ _ _ h => h) (Or.inl ⟨by rfl, ?_⟩) hHeld ?_
          rotate_left
          · (intro w' hSw; clear hSw; go_simp; try with_reducible rfl)
          try simp only [Act.put, List.setIfInBounds_toArray, List.set_cons_zero, List.set_cons_succ]
          refine wpAnyH_done (by kernel_rfl) ?_ _
          have HFIN := Lib.hid (HBA.out.grown hHeld hsA (fun k hk => by cases hk; omega))
          clear hHeld
          go_wp2_with fail
          go_ret
          exact ⟨rfl, HFIN.out⟩
        · have hl2 : li ≤ 10000 := by omega
          have hc1 := (Below.alloc (Below.refl w0.heap.size w0) (Nat.le_refl _) (.cells #[] 5)).cell (cell_lt hcell) |>.trans hcell
          have HI1 := Lib.hid (HIB.out.below (HBR.out.trans (Below.mono (Below.alloc (Below.refl w0.heap.size w0) (Nat.le_refl _) (.cells #[] 5)) HBR.out.size)))
          go_wp2_with (at_builtin; refine wpList_app E25 rfl _ _ rfl w0.heap.size _ 0 [] rfl (own_empty w0) B li cB (l.map (Value.int .u8)) rfl HNB.out ?c1 HI1.out.news (ints_one _ _) ?c2 ?c3 ?c4 ?_)
          case c1 => rw [List.length_map, HLI.out, Nat.mul_one]
          case c2 => unfold maxLen; omega
          case c3 => omega
          case c4 => simp
          intro v1 wA hown hgrow hat
          rw [← HLI.out] at hown
          obtain ⟨A1, c1, hv, hcc, hIA, hA1⟩ := new_of_own hown
          have hUA := own_unf hown
          subst hv
          rw [HLI.out] at hcc
          have hbA : Below w0.heap.size w0 wA := (Below.alloc (Below.refl w0.heap.size w0) (Nat.le_refl _) (.cells #[] 5)).grown hgrow (by simp) (fun k hk => by simp [Value.ownBlock] at hk; omega)
          have hnA : A1 = none → li = 0 ∧ c1 = 0 := by
            intro e; subst e
            rcases hat with e | e <;> simp [Value.ownBlock] at e
          have HSA := Lib.hid (HP.out.str.kept (below_grown hbA none) (fun h => by cases h) (fun _ _ h => by cases h))
          have HWR := Lib.hid (W2.Write_any c HOK.out g h l (fun k => k = Y) A1 li c1 wA HSA.out HLI.out hcc hIA HBB.out hnA (by rw [HHN.out]; omega))
          have hRX := row_x hIA (fun b e => hUA b.block (by rw [e]; rfl))
          have HRX := Lib.hid hRX
          have HUA := Lib.hid hUA
          have HA1 := Lib.hid hA1
          have HBA1 := Lib.hid hbA
          have hsA1 := hbA.size
          rw [HLI.out]
          clear hown hgrow hat hIA hA1 hUA hbA hnA hRX hc1
          go_wp2_with fail
          (with_reducible refine HWR.out.mono ?_)
          rintro e w2 ⟨v2, Y2, rfl, hg2, hY2, hY2l, hvY2, hnr2, hS2⟩
          have HG2 := Lib.hid hg2
          have HS2 := Lib.hid hS2
          have HNR2 := Lib.hid hnr2
          have HVY2 := Lib.hid hvY2
          have hs2 := hg2.size
          have HRX2 := Lib.hid (show RowX w2 A1 li from fun j hj => by
            obtain ⟨b, x, e, h1, h2⟩ := HRX.out j (by rw [HLI.out]; exact hj)
            have hbl := HA1.out b e
            have hg := HP.out.glt
            have hbk := hg2.block b.block (by omega) (fun h => by injection h with h; omega)
            exact ⟨b, x, e, (World.cell?_of_block (by rw [add_block]; exact hbk)).trans h1, (World.frozen?_of_block (by rw [add_block]; exact hbk)).trans h2⟩)
          have HU2 := Lib.hid (show ∀ b, A1 = some b → W2.Unf w2 b.block from fun b e => by
            have hbl := HA1.out b e
            have hg := HP.out.glt
            exact W2.Unf.of (hg2.block b.block (by omega) (fun h => by injection h with h; omega)) (HUA.out b.block (by rw [e]; rfl)))
          clear hg2 hS2 hnr2 hvY2
          go_wp2_with fail
          go_loopg [58] li (fun kq v58 w' => ∃ k : Nat, v58 = .int .i64 (k : Int) ∧ k + kq = li ∧ XF (At A1) w2 w')
          case atStart => exact ⟨0, rfl, by omega, XF.refl _ _⟩
          case round =>
            obtain ⟨k, rfl, hkk, HX⟩ := hrel
            have HX := Lib.hid HX
            by_cases hz2 : gk = 0
            · obtain rfl : li = k := by omega
              obtain ⟨w3, rfl⟩ : ∃ z, z = wr := ⟨_, rfl⟩
              have hX := HX.out
              have hglt := HP.out.glt
              have hs3 := hX.size
              have hnA1 : ∀ k, At A1 k → w0.heap.size ≤ k ∧ k < wA.heap.size := fun k ⟨a, e, hk⟩ => by have := HA1.out a e; omega
              have HNA1 := Lib.hid hnA1
              have hB2 : Below w.heap.size w w2 := (HBR.out.trans (HBA1.out.mono HBR.out.size)).grown HG2.out (by have := HBR.out.size; omega) (fun k hk => by cases hk; omega)
              have hsw0 := HBR.out.size
              have hB3 : Below w.heap.size w w3 := hX.below hB2 (fun k hk => by have := hnA1 k hk; omega)
              have HB3 := Lib.hid hB3
              have hA2 : ∀ k, k < w0.heap.size → k ≠ g → w3.heap[k]? = w0.heap[k]? := fun k h1 h2 => by
                rw [hX.block k (fun hp => by have := hnA1 k hp; omega), HG2.out.block k (by omega) (fun h => by injection h with h; omega)]
                exact HBA1.out.block k h1
              have HA2 := Lib.hid hA2
              have HK3 := Lib.hid (show w3.heap[K0]? = some (.cells #[Value.int .i64 c.mn, .int .i64 c.mx, .int .u32 c.main, .int .u32 c.back] 24 (0, 0)) from (hA2 K0 (by omega) hKg).trans ((HP.out.gr.block K0 hkl (fun h => by injection h with h; omega)).trans HRK.out))
              have HI3 := Lib.hid (show Ints .u8 w3 HA h from fun j hj => by
                obtain ⟨ad, e, hcj⟩ := HP.out.ints j hj
                have hbk := HP.out.blk ad e
                exact ⟨ad, e, (World.cell?_of_block (by rw [add_block]; exact hA2 _ hbk.2.1 (by omega))).trans hcj⟩)
              have HIB3 := Lib.hid (HIB.out.below hB3)
              have HC3 := Lib.hid ((hB3.cell (cell_lt HCL.out)).trans HCL.out)
              have HHN2 := Lib.hid HHN.out
              have HNL := Lib.hid HP.out.nil
              clear hX hB2 hB3 hA2 hnA1
              go_upto_region 19 with (fail)
              refine wp_region_held_drew (S := fun w' => Below w3.heap.size w3 w') (by kernel_rfl) ((Below.refl _ _).drew) (fun hHeld => ?_)
              refine held_take 1 (some 69) (v := ?_) rfl rfl (by kernel_rfl) (by kernel_rfl) (by kernel_rfl) (fun _ _ _ h => h) (Or.inl ⟨by rfl, ?_⟩) hHeld ?_
              rotate_left
              · (intro w' hSw; clear hSw; go_simp; try with_reducible rfl)
              try simp only [Act.put, List.setIfInBounds_toArray, List.set_cons_zero, List.set_cons_succ]
              refine held_take 3 (some 71) (v := ?_) rfl rfl (by kernel_rfl) (by kernel_rfl) (by kernel_rfl) (fun _ _ _ h => h) (Or.inl ⟨by rfl, ?_⟩) hHeld ?_
              rotate_left
              · (intro w' hSw; clear hSw; go_simp; try with_reducible rfl)
              try simp only [Act.put, List.setIfInBounds_toArray, List.set_cons_zero, List.set_cons_succ]
              refine held_take 4 (some 72) (v := ?_) rfl rfl (by kernel_rfl) (by kernel_rfl) (by kernel_rfl) (fun _ _ _ h => h) (Or.inl ⟨by rfl, ?_⟩) hHeld ?_
              rotate_left
              · (intro w' hSw; clear hSw; go_simp; try with_reducible rfl)
              try simp only [Act.put, List.setIfInBounds_toArray, List.set_cons_zero, List.set_cons_succ]
              refine held_take 5 (some 73) (v := ?_) rfl rfl (by kernel_rfl) (by kernel_rfl) (by kernel_rfl) (fun _ _ _ h => h) (Or.inl ⟨by rfl, ?_⟩) hHeld ?_
              rotate_left
              · (intro w' hSw; clear hSw; go_simp; try with_reducible rfl)
              try simp only [Act.put, List.setIfInBounds_toArray, List.set_cons_zero, List.set_cons_succ]
              refine held_take 6 (some 74) (v := ?_) rfl rfl (by kernel_rfl) (by kernel_rfl) (by kernel_rfl) (fun _ _ _ h => h) (Or.inl ⟨by rfl, ?_⟩) hHeld ?_
              rotate_left
              · (intro w' hSw; have pf := (hSw.cell (cell_lt HC3.out)).trans HC3.out; clear hSw; go_simp; try with_reducible rfl)
              try simp only [Act.put, List.setIfInBounds_toArray, List.set_cons_zero, List.set_cons_succ]
              refine wpAnyH_ready (rs := [0]) (by kernel_rfl) (by simp) ?_
              refine AllReadyH.cons rfl (fun K hKK => ?_) AllReadyH.nil
              go_simp
              refine hKK.out _ _ ((Below.refl _ _).drew.alloc (Nat.le_refl _) _) (fun hHeld => ?_)
              clear hKK K
              try simp only [Act.put, List.setIfInBounds_toArray, List.set_cons_zero, List.set_cons_succ]
              refine wpAnyH_ready (rs := [2]) (by kernel_rfl) (by simp) ?_
              refine AllReadyH.cons rfl (fun K hKK => ?_) AllReadyH.nil
              refine step_app E25 rfl (.tmp 68) (.tmp 69) rfl w3.heap.size (.slice (some ⟨w3.heap.size, 0, none⟩) 0 0) 0 [] (by go_simp) (own_empty w3) HA hn0 hc (h.map (Value.int .u8)) rfl (fun e => by have := HNL.out e; rw [HHN.out] at this; exact this) (by rw [List.length_map, HHN.out, Nat.mul_one]) (HI3.out.below hHeld).news (ints_one _ _) (by unfold maxLen; omega) (by omega) (by simp) ?_
              intro v4 wB hownB hgB hatB
              have hBB : Below w3.heap.size w3 wB := hHeld.grown hgB hHeld.size (fun k hk => by simp only [Value.ownBlock, Option.some.injEq] at hk; omega)
              refine hKK.out _ _ hBB (fun hHeld => ?_)
              clear hKK K
              try simp only [Act.put, List.setIfInBounds_toArray, List.set_cons_zero, List.set_cons_succ]
              refine wpAnyH_ready (rs := [7]) (by kernel_rfl) (by simp) ?_
              refine AllReadyH.cons rfl (fun K hKK => ?_) AllReadyH.nil
              refine step_app E25 rfl (.tmp 70) (.tmp 74) rfl w3.heap.size v4 (0 + hn0) _ rfl hownB B li cB (l.map (Value.int .u8)) rfl HNB.out (by rw [List.length_map, HLI.out, Nat.mul_one]) (HIB3.out.below hBB).news (ints_one _ _) (by unfold maxLen; omega) (by omega) hBB.size ?_
              intro v5 wC hownC hgC hatC
              have hBC : Below w3.heap.size w3 wC := hBB.grown hgC hBB.size (fun k hk => (hownB.lt k hk).1)
              refine hKK.out _ _ hBC (fun hHeld => ?_)
              clear hKK K
              try simp only [Act.put, List.setIfInBounds_toArray, List.set_cons_zero, List.set_cons_succ]
              refine held_take 8 (some 14) (v := ?_) rfl rfl (by kernel_rfl) (by kernel_rfl) (by kernel_rfl) (fun _ _ _ h => h) (Or.inl ⟨by rfl, ?_⟩) hHeld ?_
              rotate_left
              · (intro w' hSw; clear hSw; go_simp; try with_reducible rfl)
              try simp only [Act.put, List.setIfInBounds_toArray, List.set_cons_zero, List.set_cons_succ]
              refine wpAnyH_done (by kernel_rfl) ?_ _
              have HBC := Lib.hid hHeld
              have hall : (h ++ l).length = hn0 + li := by rw [List.length_append, HHN.out, HLI.out]
              obtain ⟨al, hal⟩ : ∃ z, (h ++ l).length = z := ⟨_, rfl⟩
              have hal2 : al ≤ 510000 := by omega
              have HAL := Lib.hid hal
              have HALE := Lib.hid (show al = hn0 + li by omega)
              rw [List.nil_append, ← List.map_append, Nat.zero_add, ← hall] at hownC
              obtain ⟨A5, c5, hv5, hcc5, hI5, hA5⟩ := new_of_own hownC
              subst hv5
              have hnil5 : A5 = none → al = 0 ∧ c5 = 0 := fun e => by subst e; have := own_nil hownC; omega
              rw [HAL.out] at hcc5
              have HEN := Lib.hid (Ends_any c HOK.out (h ++ l) A5 al c5 wC HAL.out hcc5 hI5 (HP.out.byt.append HBB.out) hnil5 (by omega))
              unfold cutC at HEN
              have hrC := (hHeld.block K0 (row_lt HK3.out)).trans HK3.out
              have f0 : wC.cell? ⟨K0, 0, none⟩ = some (.int .i64 c.mn) := by rw [cell_of_row _ _ _ _ _ _ hrC]; rfl
              have f1 : wC.cell? ⟨K0, 1, none⟩ = some (.int .i64 c.mx) := by rw [cell_of_row _ _ _ _ _ _ hrC]; rfl
              have f2 : wC.cell? ⟨K0, 2, none⟩ = some (.int .u32 c.main) := by rw [cell_of_row _ _ _ _ _ _ hrC]; rfl
              have f3 : wC.cell? ⟨K0, 3, none⟩ = some (.int .u32 c.back) := by rw [cell_of_row _ _ _ _ _ _ hrC]; rfl
              have HRC := Lib.hid hrC
              have HA5 := Lib.hid hA5
              have hsC := hHeld.size
              rw [HAL.out]
              clear hHeld hownB hgB hatB hBB hownC hgC hatC hBC hI5 hA5 hnil5 hrC hal hall
              go_wp2_with fail
              (with_reducible refine HEN.out.mono ?_)
              rintro e w5 ⟨v6, A6, c6, rfl, hb5, hnr5, hi5, hby5, hle5, hbk5, hnl5⟩
              obtain ⟨L, hL⟩ : ∃ z, (endsR c (h ++ l)).1 = z := ⟨_, rfl⟩
              obtain ⟨r, hr⟩ : ∃ z, (endsR c (h ++ l)).2 = z := ⟨_, rfl⟩
              have hnum5 := endsR_num c HOK.out (h ++ l)
              have HCR := Lib.hid (show cutR c r = 0 by rw [← hr]; exact endsR_rest c HOK.out _)
              have HLENS := Lib.hid (show ∀ x ∈ L, x.length ≤ c.mx from fun x hx => (endsR_lens c HOK.out (h ++ l) x (by rw [hL]; exact hx)).2)
              have hnr2 := HNR2.out
              have hS2 := HS2.out
              rw [hL] at hnr2 hnr5 hnum5
              rw [hr] at hS2 hi5 hby5 hle5 hnl5 hnum5 ⊢
              rw [HAL.out] at hnum5
              obtain ⟨rl, hrl⟩ : ∃ z, r.length = z := ⟨_, rfl⟩
              have HRL := Lib.hid hrl
              rw [hrl] at hle5 hnl5 hnum5 ⊢
              obtain ⟨A2, c2, rfl, hc2, hrows2, hA2b, hnil2⟩ := hnr2.rows
              obtain ⟨A7, c7, rfl, hc7, hrows5, hA7b, hnil7⟩ := hnr5.rows
              obtain ⟨m, hm⟩ : ∃ z, L.length = z := ⟨_, rfl⟩
              have HM := Lib.hid hm
              rw [hm] at hc2 hnum5 hc7 ⊢
              have hs5 := hb5.size
              have hs3 : w3.heap.size = w2.heap.size := HX.out.size
              have hblk : ∀ k, wA.heap.size ≤ k → k < w2.heap.size → w5.heap[k]? = w2.heap[k]? := fun k h1 h2 => by
                rw [hb5.block k (by omega), HBC.out.block k (by omega)]
                exact HX.out.block k (fun hp => by have := HNA1.out k hp; omega)
              have HBLK := Lib.hid hblk
              have HROW2 := Lib.hid (hrows2.blocks (w' := w5) (fun k hk => by
                rcases hk with ⟨a, e, hk⟩ | hk
                · have := hA2b a e; exact hblk k (by omega) (by omega)
                · exact hblk k hk.1 hk.2.1))
              have HROW5 := Lib.hid hrows5
              have hglt := HP.out.glt
              have hS5 : Str w5 g c r (fun k => k = Y2) := (((HX.out.str hS2 (fun hp => by have := HNA1.out g hp; omega) (fun k hk hp => by subst hk; have := HNA1.out _ hp; omega)).kept (below_grown HBC.out none) (fun h => by cases h) (fun _ _ h => by cases h))).kept (below_grown hb5 none) (fun h => by cases h) (fun _ _ h => by cases h)
              have HS5 := Lib.hid hS5
              obtain ⟨s8, seen8, kp8, A8, c8, hobj8, hsc8, hi8, hby8, hle8, hx8, hn8⟩ := HS5.out
              rw [hrl] at hobj8
              have HOB := Lib.hid hobj8
              have HI5 := Lib.hid hi5
              have HBY5 := Lib.hid hby5
              have HBK5 := Lib.hid hbk5
              have HNL5 := Lib.hid hnl5
              have HB5 := Lib.hid hb5
              have HA2B := Lib.hid hA2b
              have hm1 := hnum5.1
              have hr1 := hnum5.2
              clear hb5 hnr5 hi5 hby5 hbk5 hnl5 hL hr hnr2 hS2 hrl hrows2 hrows5 hnil2 hnil7 hA2b hA7b hm hblk hobj8 hsc8 hi8 hby8 hx8 hn8 hnum5 hS5 f0 f1 f2 f3
              go_wp2_with fail
              (with_reducible refine (Same_any _ _ _ _ m c2 c7 L _ HM.out (by omega) HROW2.out HROW5.out).mono ?_)
              rintro e w6 ⟨rfl, q6, rfl⟩
              go_wp2_with fail
              have HHD := Lib.hid (Held_any c s8 seen8 kp8 g rl c8 A8 (w5.drewN q6) HOB.out)
              (with_reducible refine HHD.out.mono ?_)
              rintro e w6 ⟨rfl, rfl⟩
              have HROWY := Lib.hid (show RowsX _ (w5.drewN q6) A2 L from Rows.x (HROW2.out.drewN q6) (fun k hk => W2.Unf.of (HBLK.out k hk.1 hk.2.1) hk.2.2.2.2))
              have HUY := Lib.hid (show ∀ k, wA.heap.size ≤ k ∧ k < w2.heap.size ∧ k ≠ Y2 ∧ (Value.slice A2 L.length c2).ownBlock ≠ some k ∧ W2.Unf w2 k → W2.Unf (w5.drewN q6) k from fun k hk => W2.Unf.of (HBLK.out k hk.1 hk.2.1) hk.2.2.2.2)
              have HS6 := Lib.hid (show Str (w5.drewN q6) g c r (fun k => k = Y2) from HS5.out)
              have HI6 := Lib.hid (show Ints .u8 (w5.drewN q6) A6 r from HI5.out)
              have HG6 := Lib.hid (show W1.grownBy (w5.drewN q6) (some g) from by
                have h2 := grown_trans (grown_trans HP.out.gr (below_grown HBA1.out (some g))) HG2.out
                have h3 := HX.out.grown h2 (fun k hp => by have := HNA1.out k hp; omega)
                exact grown_drewN (grown_trans (grown_trans h3 (below_grown HBC.out (some g))) (below_grown HB5.out (some g))) q6)
              have hs6 : (w5.drewN q6).heap.size = w5.heap.size := rfl
              obtain ⟨PW, hPW⟩ : ∃ PW, PW = (fun k => wA.heap.size ≤ k ∧ k < w2.heap.size ∧ k ≠ Y2 ∧ (Value.slice A2 L.length c2).ownBlock ≠ some k ∧ W2.Unf w2 k) := ⟨_, rfl⟩
              have HPW := Lib.hid (show ∀ k, PW k → wA.heap.size ≤ k ∧ k < w2.heap.size ∧ k ≠ Y2 ∧ (Value.slice A2 L.length c2).ownBlock ≠ some k from fun k hk => by rw [hPW] at hk; exact ⟨hk.1, hk.2.1, hk.2.2.1, hk.2.2.2.1⟩)
              have HROWX := Lib.hid (show RowsX PW (w5.drewN q6) A2 L from by rw [hPW]; exact HROWY.out)
              have HU6 := Lib.hid (show ∀ k, PW k → W2.Unf (w5.drewN q6) k from fun k hk => HUY.out k (by rw [hPW] at hk; exact hk))
              clear hPW HROWY HUY
              generalize w5.drewN q6 = w6 at *
              go_wp2_with fail
              go_loopg [95] m (fun kq v95 w' => ∃ k : Nat, v95 = .int .i64 (k : Int) ∧ k + kq = m ∧ XF PW w6 w')
              case atStart => exact ⟨0, rfl, by omega, XF.refl _ _⟩
              case round =>
                obtain ⟨k2, rfl, hkk2, HX6⟩ := hrel
                have HX6 := Lib.hid HX6
                obtain ⟨w7, rfl⟩ : ∃ z, z = wr := ⟨_, rfl⟩
                obtain ⟨g7, rfl⟩ : ∃ z, z = gk := ⟨_, rfl⟩
                by_cases hz3 : g7 = 0
                · obtain rfl : m = k2 := by omega
                  have hX6 := HX6.out
                  have hA6 : ∀ ad, A6 = some ad → w3.heap.size ≤ ad.block ∧ ad.block < wC.heap.size := fun ad e => by
                    obtain ⟨a, ea, hb⟩ := HBK5.out ad e
                    have := HA5.out a ea; omega
                  have hs7 := hX6.size
                  have hale := HALE.out
                  have HSR := Lib.hid (show SRel W1 g c (i + 1) r A6 c6 Y2 w7 from
                    ⟨hX6.grown HG6.out (fun k hp => by have := HPW.out k hp; omega), HCR.out, hX6.str HS6.out (fun hp => by have := HPW.out g hp; omega) (fun k hk hp => (HPW.out k hp).2.2.1 hk),
                     by omega, by omega, (fun _ => by omega), hX6.ints HI6.out (fun ad e _ hp => by have := HPW.out _ hp; have := hA6 ad e; omega), HBY5.out, by rw [HRL.out]; exact hle5, by rw [HRL.out]; exact HNL5.out,
                     (fun ad e => by have := hA6 ad e; omega), by rw [HRL.out]; omega, hglt⟩)
                  have HQ1 := Lib.hid (show W1.rangeAt K0 0 [Value.int .i64 c.mn, .int .i64 c.mx, .int .u32 c.main, .int .u32 c.back] from rangeAt_of_row HRK.out 0 4)
                  clear hX6 hA6 hale
                  by_cases hic : i = cl
                  · have hic2 : (i : Int) = (cl : Int) := by omega
                    go_upto_region 34 with (fail)
                    obtain ⟨N8, hN8⟩ : ∃ z, (restR r).length = z := ⟨_, rfl⟩
                    have HN8 := Lib.hid hN8
                    have hN81 : N8 ≤ 1 := by rw [← hN8]; exact restR_length r
                    clear hN8
                    refine wp_region_held_drew (S := fun w' => W1.grownBy w' (some g)) (by kernel_rfl) (grown_drewN HSR.out.gr 1) (fun hHeld => ?_)
                    refine held_take 0 (some 122) (v := ?_) rfl rfl (by kernel_rfl) (by kernel_rfl) (by kernel_rfl) (fun _ _ _ h => h) (Or.inl ⟨by rfl, ?_⟩) hHeld ?_
                    rotate_left
                    · (intro w' hSw; clear hSw; go_simp; try with_reducible rfl)
                    try simp only [Act.put, List.setIfInBounds_toArray, List.set_cons_zero, List.set_cons_succ]
                    refine held_take 2 (some 124) (v := .agg ([Value.int .i64 c.mn, .int .i64 c.mx, .int .u32 c.main, .int .u32 c.back]).toArray) rfl rfl (by kernel_rfl) (by kernel_rfl) (by kernel_rfl) (fun _ _ _ h => h) (yieldsIf_load_mid (by rfl) 24 _ rfl K0 (0) rfl ([Value.int .i64 c.mn, .int .i64 c.mx, .int .u32 c.main, .int .u32 c.back]) _ (fun w' h => rangeAt_block HQ1.out (h.block _ hkl (fun e => by injection e with e; exact hKg e))) Try.underlying24 rfl HS24.out) hHeld ?_
                    try simp only [Act.put, List.setIfInBounds_toArray, List.set_cons_zero, List.set_cons_succ]
                    refine held_take 3 (some 125) (v := ?_) rfl rfl (by kernel_rfl) (by kernel_rfl) (by kernel_rfl) (fun _ _ _ h => h) (Or.inl ⟨by rfl, ?_⟩) hHeld ?_
                    rotate_left
                    · (intro w' hSw; clear hSw; go_simp; try with_reducible rfl)
                    try simp only [Act.put, List.setIfInBounds_toArray, List.set_cons_zero, List.set_cons_succ]
                    refine wpAnyH_ready (rs := [1]) (by kernel_rfl) (by simp) ?_
                    refine AllReadyH.cons rfl (fun K hKK => ?_) AllReadyH.nil
                    go_simp
                    go_at_call 18
                    refine (Close_any c HOK.out g r (fun k => k = Y2) w7.drew HSR.out.str (by rw [HRL.out]; omega)).mono ?_
                    rintro e w8 ⟨v8, rfl, hg8, hnr8, hS8⟩
                    have hG8 : W1.grownBy w8 (some g) := grown_trans (grown_drewN HSR.out.gr 1) hg8
                    have hgw8 : w7.grownBy w8 (some g) := grown_trans (grown_drewN (World.grownBy.refl _ _) 1) hg8
                    obtain ⟨A8', c8', rfl, hcc8, hrw8, hA8b, -⟩ := hnr8.rows
                    rw [HN8.out]
                    refine hKK.out _ _ hG8 (fun hHeld => ?_)
                    clear hKK K
                    try simp only [Act.put, List.setIfInBounds_toArray, List.set_cons_zero, List.set_cons_succ]
                    refine held_more (S1 := fun w' => Below w8.heap.size w8 w') (fun w' h => grown_trans hG8 (below_grown h _)) _ _ _ _ ?_
                    have hHeld := Below.refl w8.heap.size w8
                    refine wpAnyH_ready (rs := [4]) (by kernel_rfl) (by simp) ?_
                    refine AllReadyH.cons rfl (fun K hKK => ?_) AllReadyH.nil
                    go_simp
                    go_at_call 14
                    refine (rAll_yes c HOK.out r A6 rl c6 w8 HRL.out hle5 (HSR.out.ints.grown hgw8 (fun ad e _ he => by injection he with he; have := HSR.out.blk ad e; omega)) HBY5.out HNL5.out (by omega)).mono ?_
                    rintro e w9 ⟨v9, rfl, hb9, hnr9⟩
                    rw [pcsR_zero c r HCR.out] at hnr9
                    obtain ⟨A9, c9, rfl, hcc9, hrw9, -, -⟩ := hnr9.rows
                    rw [HN8.out]
                    refine hKK.out _ _ hb9 (fun hHeld => ?_)
                    clear hKK K
                    try simp only [Act.put, List.setIfInBounds_toArray, List.set_cons_zero, List.set_cons_succ]
                    refine wpAnyH_ready (rs := [5]) (by kernel_rfl) (by simp) ?_
                    refine AllReadyH.cons rfl (fun K hKK => ?_) AllReadyH.nil
                    go_simp
                    go_at_call 11
                    refine (Same_any _ _ A8' A9 N8 c8' c9 (restR r) w9 HN8.out (by omega) (hrw8.below hb9) hrw9).mono ?_
                    rintro e z9 ⟨rfl, q9, rfl⟩
                    refine hKK.out _ _ (below_drewN hb9 _) (fun hHeld => ?_)
                    clear hKK K
                    try simp only [Act.put, List.setIfInBounds_toArray, List.set_cons_zero, List.set_cons_succ]
                    refine held_take 6 (some 128) (v := ?_) rfl rfl (by kernel_rfl) (by kernel_rfl) (by kernel_rfl) (fun _ _ _ h => h) (Or.inl ⟨by rfl, ?_⟩) hHeld ?_
                    rotate_left
                    · (intro w' hSw; clear hSw; go_simp; try with_reducible rfl)
                    try simp only [Act.put, List.setIfInBounds_toArray, List.set_cons_zero, List.set_cons_succ]
                    refine held_take 7 (some 129) (v := ?_) rfl rfl (by kernel_rfl) (by kernel_rfl) (by kernel_rfl) (fun _ _ _ h => h) (Or.inl ⟨by rfl, ?_⟩) hHeld ?_
                    rotate_left
                    · (intro w' hSw; clear hSw; go_simp; try with_reducible rfl)
                    try simp only [Act.put, List.setIfInBounds_toArray, List.set_cons_zero, List.set_cons_succ]
                    refine held_take 8 (some 130) (v := ?_) rfl rfl (by kernel_rfl) (by kernel_rfl) (by kernel_rfl) (fun _ _ _ h => h) (Or.inl ⟨by rfl, ?_⟩) hHeld ?_
                    rotate_left
                    · (intro w' hSw; clear hSw; go_simp; try with_reducible rfl)
                    try simp only [Act.put, List.setIfInBounds_toArray, List.set_cons_zero, List.set_cons_succ]
                    have hS9 := hS8.kept (below_grown hb9 none) (fun h => by cases h) (fun _ _ h => by cases h)
                    obtain ⟨s9, seen9, kp9, A10, c10, hobj9, -⟩ := hS9
                    refine wpAnyH_ready (rs := [9]) (by kernel_rfl) (by simp) ?_
                    refine AllReadyH.cons rfl (fun K hKK => ?_) AllReadyH.nil
                    go_simp
                    go_at_call 21
                    refine (Held_any c s9 seen9 kp9 g 0 c10 A10 (w9.drewN q9) hobj9).mono ?_
                    rintro e zq ⟨rfl, rfl⟩
                    refine hKK.out _ _ (below_drewN hb9 _) (fun hHeld => ?_)
                    clear hKK K
                    try simp only [Act.put, List.setIfInBounds_toArray, List.set_cons_zero, List.set_cons_succ]
                    refine held_take 10 (some 132) (v := ?_) rfl rfl (by kernel_rfl) (by kernel_rfl) (by kernel_rfl) (fun _ _ _ h => h) (Or.inl ⟨by rfl, ?_⟩) hHeld ?_
                    rotate_left
                    · (intro w' hSw; clear hSw; go_simp; try with_reducible rfl)
                    try simp only [Act.put, List.setIfInBounds_toArray, List.set_cons_zero, List.set_cons_succ]
                    refine held_take 11 (some 133) (v := ?_) rfl rfl (by kernel_rfl) (by kernel_rfl) (by kernel_rfl) (fun _ _ _ h => h) (Or.inl ⟨by rfl, ?_⟩) hHeld ?_
                    rotate_left
                    · (intro w' hSw; clear hSw; go_simp; try with_reducible rfl)
                    try simp only [Act.put, List.setIfInBounds_toArray, List.set_cons_zero, List.set_cons_succ]
                    refine wpAnyH_done (by kernel_rfl) ?_ _
                    have HZ9 := Lib.hid (show SRel W1 g c (i + 1) [] none 0 Y2 (w9.drewN q9) from
                      ⟨grown_trans hG8 (below_grown hHeld _), cutR_nil c HOK.out, hS8.kept (below_grown hHeld none) (fun h => by cases h) (fun _ _ h => by cases h), by have h1 := hg8.size; have h2 := hHeld.size; have h3 : w7.drew.heap.size = w7.heap.size := rfl; omega, by omega, (fun h => absurd h (by simp)), Ints.nil _ _ _, (fun i => by simp), Nat.le_refl _, (fun _ => ⟨rfl, rfl⟩), (fun ad e => by cases e), by simp, hglt⟩)
                    go_wp2_with fail
                    go_roundg (g0 - 1)
                    case measure => omega
                    case rel => exact ⟨i + 1, [], none, 0, Y2, rfl, by go_num, by omega, by omega, HZ9.out⟩
                  · have hic2 : ¬ ((i : Int) = (cl : Int)) := by omega
                    go_wp2_with fail
                    go_roundg (g0 - 1)
                    case measure => omega
                    case rel => exact ⟨i + 1, r, A6, c6, Y2, by rw [HRL.out], by go_num, by omega, by omega, HSR.out⟩
                · have hkm : k2 < L.length := by rw [HM.out]; omega
                  have HKM := Lib.hid hkm
                  have HNP := Lib.hid (show ∀ ad, A2 = some ad → ¬ PW ad.block from fun ad e hp => (HPW.out _ hp).2.2.2 (by rw [e]; rfl))
                  obtain ⟨a2, B2, cB2, eA2, hcl2, hle2, hPB2, _⟩ := (HROWX.out.xf HX6.out HU6.out HNP.out) k2 hkm
                  subst eA2
                  obtain ⟨lk, hlk⟩ : ∃ z, (L.getD k2 []).length = z := ⟨_, rfl⟩
                  have HLK := Lib.hid hlk
                  rw [hlk] at hcl2 hle2
                  have hlk3 : lk ≤ c.mx := by rw [← hlk, List.getD_eq_getElem?_getD, List.getElem?_eq_getElem hkm]; exact HLENS.out _ (List.getElem_mem hkm)
                  have hhi := HOK.out.hi
                  clear hlk hPB2
                  go_wp2_with fail
                  go_loopg [103] lk (fun kq v103 w' => ∃ j : Nat, v103 = .int .i64 (j : Int) ∧ j + kq = lk ∧ XF PW w6 w')
                  case atStart => exact ⟨0, rfl, by omega, HX6.out⟩
                  case round =>
                    obtain ⟨j, rfl, hjj, HX7⟩ := hrel
                    have HX7 := Lib.hid HX7
                    by_cases hz4 : gk = 0
                    · go_wp2_with fail
                      go_roundg (g7 - 1)
                      case measure => omega
                      case rel => exact ⟨k2 + 1, by go_num, by omega, HX7.out⟩
                    · obtain ⟨a3, B3, cB3, eA3, hcl3, hle3, hPB3, hby3⟩ := (HROWX.out.xf HX7.out HU6.out HNP.out) k2 HKM.out
                      injection eA3 with eA3
                      subst eA3
                      rw [HLK.out] at hcl3 hle3 hby3
                      obtain ⟨b3, x3, eb3, hcx3, hfx3⟩ := hby3 j (by omega)
                      subst eb3
                      have HPB3 := Lib.hid (hPB3 b3 rfl)
                      clear hPB3 hby3
                      go_wp2_with fail
                      go_roundg (gk - 1)
                      case measure => omega
                      case rel => exact ⟨j + 1, by go_num, by omega, HX7.out.set (b3.add j) (by rw [add_block]; exact HPB3.out) _⟩
            · obtain ⟨a1, x, eA, hcx, hfx⟩ := (HRX2.out.xf HX.out (fun b e _ => HU2.out b e)) k (by omega)
              subst eA
              go_wp2_with fail
              go_roundg (gk - 1)
              case measure => omega
              case rel => exact ⟨k + 1, by go_num, by omega, HX.out.set (a1.add k) ⟨_, rfl, (add_block _ _).symm⟩ _⟩

end Go.Proofs.Ytealompbbknijaa
