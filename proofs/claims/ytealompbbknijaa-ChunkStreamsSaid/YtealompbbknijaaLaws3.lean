/- chunk: the walk of ChunkAgain. -/
import Derived.Test.YtealompbbknijaaLaws2
namespace Go.Proofs.Ytealompbbknijaa
open Go.RowKit

theorem few_min5 (l : List Int) (n : Nat) (h : l.length = n) : (l.take 5000).length = min n 5000 := by rw [List.length_take, h, Nat.min_comm]

theorem Again_no (mn mx main back : Int) (h : ¬ RightI mn mx main back) (l : List Int) (n cap : Nat) (A : Option Addr) (which : Nat) (w : World) (hn : l.length = n) (hl : n ≤ 1000000000000000) (hnc : n ≤ cap) (hI : Ints .u8 w A l) :
    Calls Try.prog 6 #[.agg (cutC mn mx main back), .slice A n cap, .int .u8 which] w fun e w' => e = .returned (.bool true) ∧ Below w.heap.size w w' := by
  have HS24 := Lib.hid (show (Try.prog.info? 24).map (·.size) = some [Value.int .i64 mn, .int .i64 mx, .int .u32 main, .int .u32 back].length by kernel_rfl)
  have HR := Lib.hid (heap_alloc_last w (.cells #[Value.int .i64 mn, .int .i64 mx, .int .u32 main, .int .u32 back] 24))
  have HBW := Lib.hid ((Below.refl w.heap.size w).alloc (Nat.le_refl _) (.cells #[Value.int .i64 mn, .int .i64 mx, .int .u32 main, .int .u32 back] 24))
  have hlt : w.heap.size < (w.alloc (.cells #[Value.int .i64 mn, .int .i64 mx, .int .u32 main, .int .u32 back] 24)).heap.size := by simp
  have HIW := Lib.hid (hI.grown (grown_alloc w (.cells #[Value.int .i64 mn, .int .i64 mx, .int .u32 main, .int .u32 back] 24) none) (fun _ _ _ h => by cases h))
  have HRN := Lib.hid h
  unfold cutC
  clear h hI
  go_enter Try.func6, Try.ntmps6
  go_wp2_with fail
  generalize w.alloc (.cells #[Value.int .i64 mn, .int .i64 mx, .int .u32 main, .int .u32 back] 24) = W at *
  obtain ⟨K0, hK0⟩ : ∃ z, z = w.heap.size := ⟨_, rfl⟩
  rw [← hK0] at HR hlt ⊢
  have HK0 := Lib.hid hK0
  clear hK0
  have HQ := Lib.hid (show W.rangeAt K0 0 [Value.int .i64 mn, .int .i64 mx, .int .u32 main, .int .u32 back] from rangeAt_of_row HR.out 0 4)
  refine (shown_any _).mono ?_
  rintro e w1 ⟨rfl, hb1⟩
  have hr3 := (hb1.block K0 hlt).trans HR.out
  have d0 : w1.cell? ⟨K0, 0, none⟩ = some (.int .i64 mn) := by rw [cell_of_row _ _ _ _ _ _ hr3]; rfl
  have d1 : w1.cell? ⟨K0, 1, none⟩ = some (.int .i64 mx) := by rw [cell_of_row _ _ _ _ _ _ hr3]; rfl
  have d2 : w1.cell? ⟨K0, 2, none⟩ = some (.int .u32 main) := by rw [cell_of_row _ _ _ _ _ _ hr3]; rfl
  have d3 : w1.cell? ⟨K0, 3, none⟩ = some (.int .u32 back) := by rw [cell_of_row _ _ _ _ _ _ hr3]; rfl
  have HB1 := Lib.hid (HBW.out.trans (hb1.mono HBW.out.size))
  clear hb1 hr3
  by_cases h5 : n ≤ 5000
  all_goals
    go_wp2_with fail
    refine (All_no mn mx main back _ _ HRN.out).mono ?_
    rintro e y1 ⟨v, rfl, hy1, hnr⟩
    obtain ⟨A2, c2, rfl, -⟩ := hnr.rows
    have HY1 := Lib.hid hy1
    clear hy1 hnr
    go_wp2_with fail
    go_ret
    exact ⟨rfl, HB1.out.trans (HY1.out.mono HB1.out.size)⟩

set_option maxRecDepth 20000 in
set_option maxHeartbeats 1600000 in
theorem Again_yes (c : Ct) (ok : c.Ok) (l : List Int) (n cap : Nat) (A : Option Addr) (which : Nat) (hwh : which < 256) (w : World) (hn : l.length = n) (hl : n ≤ 1000000000000000) (hnc : n ≤ cap) (hA : A = none → n = 0 ∧ cap = 0) (hI : Ints .u8 w A l) (hB : Bytes l) :
    Calls Try.prog 6 #[.agg (cutC c.mn c.mx c.main c.back), .slice A n cap, .int .u8 which] w fun e w' => e = .returned (.bool true) ∧ Below w.heap.size w w' := by
  have HS24 := Lib.hid (show (Try.prog.info? 24).map (·.size) = some [Value.int .i64 c.mn, .int .i64 c.mx, .int .u32 c.main, .int .u32 c.back].length by kernel_rfl)
  have HR := Lib.hid (heap_alloc_last w (.cells #[Value.int .i64 c.mn, .int .i64 c.mx, .int .u32 c.main, .int .u32 c.back] 24))
  have HBW := Lib.hid ((Below.refl w.heap.size w).alloc (Nat.le_refl _) (.cells #[Value.int .i64 c.mn, .int .i64 c.mx, .int .u32 c.main, .int .u32 c.back] 24))
  have hlt : w.heap.size < (w.alloc (.cells #[Value.int .i64 c.mn, .int .i64 c.mx, .int .u32 c.main, .int .u32 c.back] 24)).heap.size := by simp
  have HIW := Lib.hid (hI.grown (grown_alloc w (.cells #[Value.int .i64 c.mn, .int .i64 c.mx, .int .u32 c.main, .int .u32 c.back] 24) none) (fun _ _ _ h => by cases h))
  have HOK := Lib.hid ok
  have HFM := Lib.hid (few_min5 l n hn)
  have HBB := Lib.hid hB
  have HAN := Lib.hid hA
  unfold cutC
  clear hI hB hn hA ok
  go_enter Try.func6, Try.ntmps6
  go_wp2_with fail
  generalize w.alloc (.cells #[Value.int .i64 c.mn, .int .i64 c.mx, .int .u32 c.main, .int .u32 c.back] 24) = W at *
  obtain ⟨K0, hK0⟩ : ∃ z, z = w.heap.size := ⟨_, rfl⟩
  rw [← hK0] at HR hlt ⊢
  have HK0 := Lib.hid hK0
  clear hK0
  have HQ := Lib.hid (show W.rangeAt K0 0 [Value.int .i64 c.mn, .int .i64 c.mx, .int .u32 c.main, .int .u32 c.back] from rangeAt_of_row HR.out 0 4)
  refine (shown_any _).mono ?_
  rintro e w1 ⟨rfl, hb1⟩
  have hr3 := (hb1.block K0 hlt).trans HR.out
  have d0 : w1.cell? ⟨K0, 0, none⟩ = some (.int .i64 c.mn) := by rw [cell_of_row _ _ _ _ _ _ hr3]; rfl
  have d1 : w1.cell? ⟨K0, 1, none⟩ = some (.int .i64 c.mx) := by rw [cell_of_row _ _ _ _ _ _ hr3]; rfl
  have d2 : w1.cell? ⟨K0, 2, none⟩ = some (.int .u32 c.main) := by rw [cell_of_row _ _ _ _ _ _ hr3]; rfl
  have d3 : w1.cell? ⟨K0, 3, none⟩ = some (.int .u32 c.back) := by rw [cell_of_row _ _ _ _ _ _ hr3]; rfl
  have HB1 := Lib.hid hb1
  clear hb1 hr3
  obtain ⟨m, hm⟩ : ∃ m, min n 5000 = m := ⟨_, rfl⟩
  rw [hm] at HFM
  have hm2 : m ≤ 5000 := by omega
  have hmc : m ≤ cap := by omega
  have HAM := Lib.hid (show A = none → m = 0 ∧ cap = 0 from fun e => by have := HAN.out e; omega)
  have HAL := Lib.hid (All_yes c HOK.out (l.take 5000) A m cap w1 HFM.out hmc ((HIW.out.take _).below HB1.out) (HBB.out.take _) HAM.out (by omega))
  have HPG := Lib.hid (pcsR_again c HOK.out · (l.take 5000))
  have HPF := Lib.hid (pcsR_flat c HOK.out (l.take 5000))
  have HPL := Lib.hid (pcsR_lens c HOK.out (l.take 5000))
  unfold cutC at HAL
  obtain ⟨L, hL⟩ : ∃ L, pcsR c (l.take 5000) = L := ⟨_, rfl⟩
  rw [hL] at HPG HPF HPL HAL
  have HLL := Lib.hid hL
  clear hL
  by_cases h5 : n ≤ 5000
  · obtain rfl : n = m := by omega
    clear hm
    go_wp2_with fail
    refine HAL.out.mono ?_
    rintro e y1 ⟨v, rfl, hy1, hnr⟩
    obtain ⟨A2, c2, rfl, hc2, hrows, hA2, hA2n⟩ := hnr.rows
    have HY1 := Lib.hid (HB1.out.trans (hy1.mono HB1.out.size))
    have HRW := Lib.hid hrows
    obtain ⟨N, hN⟩ : ∃ N, L.length = N := ⟨_, rfl⟩
    rw [hN] at hc2 ⊢
    have HN := Lib.hid hN
    have HAD := Lib.hid (NewRows.addr hnr)
    clear hy1 hnr hrows hA2 hA2n hN
    have hNb : N ≤ n := by
      have h1 : L.length ≤ L.flatten.length := by
        have h2 : ∀ x ∈ L, 1 ≤ x.length := fun x hx => by
          obtain ⟨i, hi, rfl⟩ := List.getElem_of_mem hx
          exact (HPL.out i hi).1
        clear HPL HPF HPG HLL HRW HN hc2 HAL HAD
        induction L with
        | nil => simp
        | cons x L ih =>
          have := ih (fun y hy => h2 y (List.mem_cons_of_mem _ hy))
          have := h2 x List.mem_cons_self
          simp only [List.length_cons, List.flatten_cons, List.length_append]
          omega
      rw [HPF.out, HFM.out, HN.out] at h1
      exact h1
    by_cases h2 : N < 2
    · go_wp2_with fail
      go_ret
      exact ⟨rfl, HBW.out.trans (HY1.out.mono HBW.out.size)⟩
    · obtain ⟨k, hk⟩ : ∃ k, which % (N - 1) = k := ⟨_, rfl⟩
      have hk2 : k < N - 1 := by rw [← hk]; exact Nat.mod_lt _ (by omega)
      have HK := Lib.hid (show (which : Int) % ((N : Int) - 1) = (k : Int) by
        rw [← hk, Int.natCast_emod, Int.natCast_sub (by omega)]; rfl)
      clear hk
      obtain ⟨ad, B0, cc0, eA, -⟩ := HRW.out.at 0 (by rw [HN.out]; omega)
      obtain ⟨g2, rfl⟩ := HAD.out ad eA
      subst eA
      go_wp2_with fail
      rw [HK.out]
      go_loopg [11, 12] (k + 1) (fun kq v11 v12 w' => ∃ i : Nat, v12 = .int .i64 (i : Int) ∧ i + kq = k + 1 ∧ v11 = .int .i64 (((L.take i).flatten.length : Nat) : Int) ∧ w' = y1)
      case atStart => exact ⟨0, rfl, by omega, rfl, rfl⟩
      case round =>
        obtain ⟨i, rfl, hi, rfl, rfl⟩ := hrel
        by_cases hlt2 : i < k + 1
        · obtain ⟨ad, B, cc, e, hcell, hcc, -⟩ := HRW.out.at i (by rw [HN.out]; omega)
          obtain rfl : ad = ⟨g2, 0, none⟩ := by injection e with e; exact e.symm
          clear e
          have hfl := flat_take_le L (i + 1)
          have HTF := Lib.hid (take_flat L i (by rw [HN.out]; omega))
          have htl : (L.take i).flatten.length + (L.getD i []).length = (L.take (i + 1)).flatten.length := by rw [← HTF.out, List.length_append]
          rw [HPF.out, HFM.out, ← htl] at hfl
          have HTL := Lib.hid htl
          generalize (L.take i).flatten.length = a at *
          generalize (L.getD i []).length = b at *
          have hcell2 : wr.cell? ⟨g2, i, none⟩ = some (.slice B b cc) := by
            have e1 : (⟨g2, 0, none⟩ : Addr).add i = ⟨g2, i, none⟩ := by unfold Addr.add; split <;> simp_all
            rw [← e1]; exact hcell
          have i0 : (i : Int) ≤ (k : Int) := by omega
          have i1 : (i : Int) < (N : Int) := by omega
          clear hcell htl
          go_wp2_with fail
          go_roundg (k + 1 - (i + 1))
          case measure => omega
          case rel => exact ⟨i + 1, by go_num, by omega, by rw [← HTL.out]; go_num, rfl⟩
        · obtain rfl : i = k + 1 := by omega
          have hfl := flat_take_le L (k + 1)
          have hlast := HPL.out (k + 1) (by rw [HN.out]; omega)
          have hgd : L[k + 1]'(by rw [HN.out]; omega) = L.getD (k + 1) [] := by rw [List.getD_eq_getElem?_getD, List.getElem?_eq_getElem (by rw [HN.out]; omega)]; rfl
          rw [hgd] at hlast
          have htl : (L.take (k + 1)).flatten.length + (L.getD (k + 1) []).length = (L.take (k + 2)).flatten.length := by rw [← take_flat L (k + 1) (by rw [HN.out]; omega), List.length_append]
          have hfl2 := flat_take_le L (k + 2)
          rw [HPF.out, HFM.out, ← htl] at hfl2
          have HAG := Lib.hid (HPG.out (k + 1) (by rw [HN.out]; omega))
          obtain ⟨a, ha⟩ : ∃ a, (L.take (k + 1)).flatten.length = a := ⟨_, rfl⟩
          rw [ha] at hfl2 HAG ⊢
          have ha2 : a < n := by have := hlast.1; omega
          clear hlast hgd htl hfl hfl2 ha
          have hca : ¬ cap = a := by omega
          obtain ⟨k2, hk2e⟩ : ∃ z, z = k + 1 := ⟨_, rfl⟩
          have hck : ¬ c2 = k2 := by omega
          have hk20 : (0 : Int) ≤ (k2 : Int) := by omega
          have hk21 : (k2 : Int) ≤ (N : Int) := by omega
          have hWk : IntKind.i64.wrap ((k : Int) + 1) = (k2 : Int) := by rw [IntWalk.i64_in _ (by omega)]; omega
          have HWK := Lib.hid hWk
          clear hWk
          have a1 : (a : Int) ≤ (n : Int) := by omega
          have k1 : (k : Int) + 1 ≤ (N : Int) := by omega
          have hdl : ((l.take 5000).drop a).length = n - a := by rw [List.length_drop, HFM.out]
          have hai := HIW.out.below HY1.out
          obtain ⟨ad0, eA0, _⟩ := hai 0 (by have := HFM.out; rw [List.length_take] at this; omega)
          have hAL2 := All_yes c HOK.out ((l.take 5000).drop a) (some (ad0.add a)) (n - a) (cap - a) wr.drew hdl (by omega) (show Ints .u8 wr (some (ad0.add a)) ((l.take 5000).drop a) from by
            have h3 := hai.take 5000
            rw [eA0] at h3
            exact h3.drop a) ((HBB.out.take _).drop _) (fun e => by cases e) (by omega)
          rw [HAG.out] at hAL2
          unfold cutC at hAL2
          have HAL2 := Lib.hid hAL2
          subst eA0
          have HRR := Lib.hid (show Rows _ wr (some ⟨g2, k2, none⟩) (L.drop k2) from by
            rw [hk2e]
            obtain ⟨vals, hv, hcl⟩ := HRW.out
            refine ⟨vals.drop (k + 1), hv.drop _, fun j u hj => ⟨_, rfl, ?_⟩⟩
            rw [List.getElem?_drop] at hj
            obtain ⟨ad1, e1, hc1⟩ := hcl _ u hj
            injection e1 with e1
            subst e1
            rw [← hc1]
            congr 1
            unfold Addr.add
            split <;> simp <;> omega)
          clear hAL2 hai hdl
          have HDL := Lib.hid (show (L.drop k2).length = N - k2 by rw [List.length_drop, HN.out])
          have hkn : k2 ≤ N := by omega
          rw [← hk2e] at HAL2
          clear hk2e
          go_wp2_with fail
          have hWk := HWK.out
          refine wp_region_held_drew (S := fun w' => Below W.heap.size W w') (by kernel_rfl) (HY1.out.drew) (fun hHeld => ?_)
          refine held_take 0 (some 48) (v := ?_) rfl rfl (by kernel_rfl) (by kernel_rfl) (by kernel_rfl) (fun _ _ _ h => h) (Or.inl ⟨by rfl, ?_⟩) hHeld ?_
          rotate_left
          · (intro w' hSw; clear hSw; go_simp; try with_reducible rfl)
          try simp only [Act.put, List.setIfInBounds_toArray, List.set_cons_zero, List.set_cons_succ]
          refine held_take 1 (some 49) (v := ?_) rfl rfl (by kernel_rfl) (by kernel_rfl) (by kernel_rfl) (fun _ _ _ h => h) (Or.inl ⟨by rfl, ?_⟩) hHeld ?_
          rotate_left
          · (intro w' hSw; clear hSw; go_simp; try with_reducible rfl)
          try simp only [Act.put, List.setIfInBounds_toArray, List.set_cons_zero, List.set_cons_succ]
          refine held_take 2 (some 50) (v := .agg ([Value.int .i64 c.mn, .int .i64 c.mx, .int .u32 c.main, .int .u32 c.back]).toArray) rfl rfl (by kernel_rfl) (by kernel_rfl) (by kernel_rfl) (fun _ _ _ h => h) (yieldsIf_load_mid (by rfl) 24 _ rfl K0 (0) rfl ([Value.int .i64 c.mn, .int .i64 c.mx, .int .u32 c.main, .int .u32 c.back]) _ (fun w' h => rangeAt_block HQ.out (h.block _ hlt)) Try.underlying24 rfl HS24.out) hHeld ?_
          try simp only [Act.put, List.setIfInBounds_toArray, List.set_cons_zero, List.set_cons_succ]
          refine held_take 3 (some 51) (v := ?_) rfl rfl (by kernel_rfl) (by kernel_rfl) (by kernel_rfl) (fun _ _ _ h => h) (Or.inl ⟨by rfl, ?_⟩) hHeld ?_
          rotate_left
          · (intro w' hSw; clear hSw; go_simp; try with_reducible rfl)
          try simp only [Act.put, List.setIfInBounds_toArray, List.set_cons_zero, List.set_cons_succ]
          refine held_take 4 (some 52) (v := ?_) rfl rfl (by kernel_rfl) (by kernel_rfl) (by kernel_rfl) (fun _ _ _ h => h) (Or.inl ⟨by rfl, ?_⟩) hHeld ?_
          rotate_left
          · (intro w' hSw; clear hSw; go_simp; try with_reducible rfl)
          try simp only [Act.put, List.setIfInBounds_toArray, List.set_cons_zero, List.set_cons_succ]
          refine held_take 5 (some 53) (v := ?_) rfl rfl (by kernel_rfl) (by kernel_rfl) (by kernel_rfl) (fun _ _ _ h => h) (Or.inl ⟨by rfl, ?_⟩) hHeld ?_
          rotate_left
          · (intro w' hSw; clear hSw; go_simp; try with_reducible rfl)
          try simp only [Act.put, List.setIfInBounds_toArray, List.set_cons_zero, List.set_cons_succ]
          refine held_take 7 (some 55) (v := ?_) rfl rfl (by kernel_rfl) (by kernel_rfl) (by kernel_rfl) (fun _ _ _ h => h) (Or.inl ⟨by rfl, ?_⟩) hHeld ?_
          rotate_left
          · (intro w' hSw; clear hSw; go_simp; try with_reducible rfl)
          try simp only [Act.put, List.setIfInBounds_toArray, List.set_cons_zero, List.set_cons_succ]
          refine held_take 8 (some 56) (v := ?_) rfl rfl (by kernel_rfl) (by kernel_rfl) (by kernel_rfl) (fun _ _ _ h => h) (Or.inl ⟨by rfl, ?_⟩) hHeld ?_
          rotate_left
          · (intro w' hSw; clear hSw; go_simp; try with_reducible rfl)
          try simp only [Act.put, List.setIfInBounds_toArray, List.set_cons_zero, List.set_cons_succ]
          refine held_take 9 (some 57) (v := ?_) rfl rfl (by kernel_rfl) (by kernel_rfl) (by kernel_rfl) (fun _ _ _ h => h) (Or.inl ⟨by rfl, ?_⟩) hHeld ?_
          rotate_left
          · (intro w' hSw; clear hSw; go_simp; try with_reducible rfl)
          try simp only [Act.put, List.setIfInBounds_toArray, List.set_cons_zero, List.set_cons_succ]
          refine held_take 10 (some 58) (v := ?_) rfl rfl (by kernel_rfl) (by kernel_rfl) (by kernel_rfl) (fun _ _ _ h => h) (Or.inl ⟨by rfl, ?_⟩) hHeld ?_
          rotate_left
          · (intro w' hSw; clear hSw; go_simp; try with_reducible rfl)
          try simp only [Act.put, List.setIfInBounds_toArray, List.set_cons_zero, List.set_cons_succ]
          clear hWk
          refine wpAnyH_ready (rs := [6]) (by kernel_rfl) (by simp) ?_
          refine AllReadyH.cons rfl (fun K hKK => ?_) AllReadyH.nil
          go_simp
          go_at_call 12
          refine HAL2.out.mono ?_
          rintro e y2 ⟨v, rfl, hy2, hnr⟩
          have hY2 : Below W.heap.size W y2 := HY1.out.drew.trans (hy2.mono (HY1.out.drew).size)
          obtain ⟨A3, c3, rfl, -, hrows3, -⟩ := hnr.rows
          have hRR2 := HRR.out.below (w' := y2) ((Below.refl _ _).drew.trans hy2)
          rw [HDL.out]
          refine hKK.out _ _ hY2 (fun hHeld => ?_)
          clear hKK K
          try simp only [Act.put, List.setIfInBounds_toArray, List.set_cons_zero, List.set_cons_succ]
          refine wpAnyH_ready (rs := [11]) (by kernel_rfl) (by simp) ?_
          refine AllReadyH.cons rfl (fun K hKK => ?_) AllReadyH.nil
          go_simp
          go_at_call 11
          refine (Same_any _ _ _ _ (N - k2) _ _ (L.drop k2) _ HDL.out (by omega) hrows3 hRR2).mono ?_
          rintro e y3 ⟨rfl, q3, rfl⟩
          refine hKK.out _ _ (below_drewN hY2 _) (fun hHeld => ?_)
          clear hKK K
          try simp only [Act.put, List.setIfInBounds_toArray, List.set_cons_zero, List.set_cons_succ]
          refine held_take 12 (some 60) (v := ?_) rfl rfl (by kernel_rfl) (by kernel_rfl) (by kernel_rfl) (fun _ _ _ h => h) (Or.inl ⟨by rfl, ?_⟩) hHeld ?_
          rotate_left
          · (intro w' hSw; clear hSw; go_simp; try with_reducible rfl)
          try simp only [Act.put, List.setIfInBounds_toArray, List.set_cons_zero, List.set_cons_succ]
          refine held_take 13 (some 6) (v := ?_) rfl rfl (by kernel_rfl) (by kernel_rfl) (by kernel_rfl) (fun _ _ _ h => h) (Or.inl ⟨by rfl, ?_⟩) hHeld ?_
          rotate_left
          · (intro w' hSw; clear hSw; go_simp; try with_reducible rfl)
          try simp only [Act.put, List.setIfInBounds_toArray, List.set_cons_zero, List.set_cons_succ]
          refine wpAnyH_done (by kernel_rfl) ?_ _
          have HBF := Lib.hid (HBW.out.trans (hHeld.mono HBW.out.size))
          clear hHeld
          go_wp2_with fail
          go_ret
          exact ⟨rfl, HBF.out⟩
  · obtain rfl : m = 5000 := by omega
    clear hm
    go_wp2_with fail
    refine HAL.out.mono ?_
    rintro e y1 ⟨v, rfl, hy1, hnr⟩
    obtain ⟨A2, c2, rfl, hc2, hrows, hA2, hA2n⟩ := hnr.rows
    have HY1 := Lib.hid (HB1.out.trans (hy1.mono HB1.out.size))
    have HRW := Lib.hid hrows
    obtain ⟨N, hN⟩ : ∃ N, L.length = N := ⟨_, rfl⟩
    rw [hN] at hc2 ⊢
    have HN := Lib.hid hN
    have HAD := Lib.hid (NewRows.addr hnr)
    clear hy1 hnr hrows hA2 hA2n hN
    have hNb : N ≤ 5000 := by
      have h1 : L.length ≤ L.flatten.length := by
        have h2 : ∀ x ∈ L, 1 ≤ x.length := fun x hx => by
          obtain ⟨i, hi, rfl⟩ := List.getElem_of_mem hx
          exact (HPL.out i hi).1
        clear HPL HPF HPG HLL HRW HN hc2 HAL HAD
        induction L with
        | nil => simp
        | cons x L ih =>
          have := ih (fun y hy => h2 y (List.mem_cons_of_mem _ hy))
          have := h2 x List.mem_cons_self
          simp only [List.length_cons, List.flatten_cons, List.length_append]
          omega
      rw [HPF.out, HFM.out, HN.out] at h1
      exact h1
    by_cases h2 : N < 2
    · go_wp2_with fail
      go_ret
      exact ⟨rfl, HBW.out.trans (HY1.out.mono HBW.out.size)⟩
    · obtain ⟨k, hk⟩ : ∃ k, which % (N - 1) = k := ⟨_, rfl⟩
      have hk2 : k < N - 1 := by rw [← hk]; exact Nat.mod_lt _ (by omega)
      have HK := Lib.hid (show (which : Int) % ((N : Int) - 1) = (k : Int) by
        rw [← hk, Int.natCast_emod, Int.natCast_sub (by omega)]; rfl)
      clear hk
      obtain ⟨ad, B0, cc0, eA, -⟩ := HRW.out.at 0 (by rw [HN.out]; omega)
      obtain ⟨g2, rfl⟩ := HAD.out ad eA
      subst eA
      go_wp2_with fail
      rw [HK.out]
      go_loopg [11, 12] (k + 1) (fun kq v11 v12 w' => ∃ i : Nat, v12 = .int .i64 (i : Int) ∧ i + kq = k + 1 ∧ v11 = .int .i64 (((L.take i).flatten.length : Nat) : Int) ∧ w' = y1)
      case atStart => exact ⟨0, rfl, by omega, rfl, rfl⟩
      case round =>
        obtain ⟨i, rfl, hi, rfl, rfl⟩ := hrel
        by_cases hlt2 : i < k + 1
        · obtain ⟨ad, B, cc, e, hcell, hcc, -⟩ := HRW.out.at i (by rw [HN.out]; omega)
          obtain rfl : ad = ⟨g2, 0, none⟩ := by injection e with e; exact e.symm
          clear e
          have hfl := flat_take_le L (i + 1)
          have HTF := Lib.hid (take_flat L i (by rw [HN.out]; omega))
          have htl : (L.take i).flatten.length + (L.getD i []).length = (L.take (i + 1)).flatten.length := by rw [← HTF.out, List.length_append]
          rw [HPF.out, HFM.out, ← htl] at hfl
          have HTL := Lib.hid htl
          generalize (L.take i).flatten.length = a at *
          generalize (L.getD i []).length = b at *
          have hcell2 : wr.cell? ⟨g2, i, none⟩ = some (.slice B b cc) := by
            have e1 : (⟨g2, 0, none⟩ : Addr).add i = ⟨g2, i, none⟩ := by unfold Addr.add; split <;> simp_all
            rw [← e1]; exact hcell
          have i0 : (i : Int) ≤ (k : Int) := by omega
          have i1 : (i : Int) < (N : Int) := by omega
          clear hcell htl
          go_wp2_with fail
          go_roundg (k + 1 - (i + 1))
          case measure => omega
          case rel => exact ⟨i + 1, by go_num, by omega, by rw [← HTL.out]; go_num, rfl⟩
        · obtain rfl : i = k + 1 := by omega
          have hfl := flat_take_le L (k + 1)
          have hlast := HPL.out (k + 1) (by rw [HN.out]; omega)
          have hgd : L[k + 1]'(by rw [HN.out]; omega) = L.getD (k + 1) [] := by rw [List.getD_eq_getElem?_getD, List.getElem?_eq_getElem (by rw [HN.out]; omega)]; rfl
          rw [hgd] at hlast
          have htl : (L.take (k + 1)).flatten.length + (L.getD (k + 1) []).length = (L.take (k + 2)).flatten.length := by rw [← take_flat L (k + 1) (by rw [HN.out]; omega), List.length_append]
          have hfl2 := flat_take_le L (k + 2)
          rw [HPF.out, HFM.out, ← htl] at hfl2
          have HAG := Lib.hid (HPG.out (k + 1) (by rw [HN.out]; omega))
          obtain ⟨a, ha⟩ : ∃ a, (L.take (k + 1)).flatten.length = a := ⟨_, rfl⟩
          rw [ha] at hfl2 HAG ⊢
          have ha2 : a < 5000 := by have := hlast.1; omega
          clear hlast hgd htl hfl hfl2 ha
          have hca : ¬ cap = a := by omega
          obtain ⟨k2, hk2e⟩ : ∃ z, z = k + 1 := ⟨_, rfl⟩
          have hck : ¬ c2 = k2 := by omega
          have hk20 : (0 : Int) ≤ (k2 : Int) := by omega
          have hk21 : (k2 : Int) ≤ (N : Int) := by omega
          have hWk : IntKind.i64.wrap ((k : Int) + 1) = (k2 : Int) := by rw [IntWalk.i64_in _ (by omega)]; omega
          have HWK := Lib.hid hWk
          clear hWk
          have a1 : (a : Int) ≤ (5000 : Int) := by omega
          have k1 : (k : Int) + 1 ≤ (N : Int) := by omega
          have hdl : ((l.take 5000).drop a).length = 5000 - a := by rw [List.length_drop, HFM.out]
          have hai := HIW.out.below HY1.out
          obtain ⟨ad0, eA0, _⟩ := hai 0 (by have := HFM.out; rw [List.length_take] at this; omega)
          have hAL2 := All_yes c HOK.out ((l.take 5000).drop a) (some (ad0.add a)) (5000 - a) (cap - a) wr.drew hdl (by omega) (show Ints .u8 wr (some (ad0.add a)) ((l.take 5000).drop a) from by
            have h3 := hai.take 5000
            rw [eA0] at h3
            exact h3.drop a) ((HBB.out.take _).drop _) (fun e => by cases e) (by omega)
          rw [HAG.out] at hAL2
          unfold cutC at hAL2
          have HAL2 := Lib.hid hAL2
          subst eA0
          have HRR := Lib.hid (show Rows _ wr (some ⟨g2, k2, none⟩) (L.drop k2) from by
            rw [hk2e]
            obtain ⟨vals, hv, hcl⟩ := HRW.out
            refine ⟨vals.drop (k + 1), hv.drop _, fun j u hj => ⟨_, rfl, ?_⟩⟩
            rw [List.getElem?_drop] at hj
            obtain ⟨ad1, e1, hc1⟩ := hcl _ u hj
            injection e1 with e1
            subst e1
            rw [← hc1]
            congr 1
            unfold Addr.add
            split <;> simp <;> omega)
          clear hAL2 hai hdl
          have HDL := Lib.hid (show (L.drop k2).length = N - k2 by rw [List.length_drop, HN.out])
          have hkn : k2 ≤ N := by omega
          rw [← hk2e] at HAL2
          clear hk2e
          go_wp2_with fail
          have hWk := HWK.out
          refine wp_region_held_drew (S := fun w' => Below W.heap.size W w') (by kernel_rfl) (HY1.out.drew) (fun hHeld => ?_)
          refine held_take 0 (some 48) (v := ?_) rfl rfl (by kernel_rfl) (by kernel_rfl) (by kernel_rfl) (fun _ _ _ h => h) (Or.inl ⟨by rfl, ?_⟩) hHeld ?_
          rotate_left
          · (intro w' hSw; clear hSw; go_simp; try with_reducible rfl)
          try simp only [Act.put, List.setIfInBounds_toArray, List.set_cons_zero, List.set_cons_succ]
          refine held_take 1 (some 49) (v := ?_) rfl rfl (by kernel_rfl) (by kernel_rfl) (by kernel_rfl) (fun _ _ _ h => h) (Or.inl ⟨by rfl, ?_⟩) hHeld ?_
          rotate_left
          · (intro w' hSw; clear hSw; go_simp; try with_reducible rfl)
          try simp only [Act.put, List.setIfInBounds_toArray, List.set_cons_zero, List.set_cons_succ]
          refine held_take 2 (some 50) (v := .agg ([Value.int .i64 c.mn, .int .i64 c.mx, .int .u32 c.main, .int .u32 c.back]).toArray) rfl rfl (by kernel_rfl) (by kernel_rfl) (by kernel_rfl) (fun _ _ _ h => h) (yieldsIf_load_mid (by rfl) 24 _ rfl K0 (0) rfl ([Value.int .i64 c.mn, .int .i64 c.mx, .int .u32 c.main, .int .u32 c.back]) _ (fun w' h => rangeAt_block HQ.out (h.block _ hlt)) Try.underlying24 rfl HS24.out) hHeld ?_
          try simp only [Act.put, List.setIfInBounds_toArray, List.set_cons_zero, List.set_cons_succ]
          refine held_take 3 (some 51) (v := ?_) rfl rfl (by kernel_rfl) (by kernel_rfl) (by kernel_rfl) (fun _ _ _ h => h) (Or.inl ⟨by rfl, ?_⟩) hHeld ?_
          rotate_left
          · (intro w' hSw; clear hSw; go_simp; try with_reducible rfl)
          try simp only [Act.put, List.setIfInBounds_toArray, List.set_cons_zero, List.set_cons_succ]
          refine held_take 4 (some 52) (v := ?_) rfl rfl (by kernel_rfl) (by kernel_rfl) (by kernel_rfl) (fun _ _ _ h => h) (Or.inl ⟨by rfl, ?_⟩) hHeld ?_
          rotate_left
          · (intro w' hSw; clear hSw; go_simp; try with_reducible rfl)
          try simp only [Act.put, List.setIfInBounds_toArray, List.set_cons_zero, List.set_cons_succ]
          refine held_take 5 (some 53) (v := ?_) rfl rfl (by kernel_rfl) (by kernel_rfl) (by kernel_rfl) (fun _ _ _ h => h) (Or.inl ⟨by rfl, ?_⟩) hHeld ?_
          rotate_left
          · (intro w' hSw; clear hSw; go_simp; try with_reducible rfl)
          try simp only [Act.put, List.setIfInBounds_toArray, List.set_cons_zero, List.set_cons_succ]
          refine held_take 7 (some 55) (v := ?_) rfl rfl (by kernel_rfl) (by kernel_rfl) (by kernel_rfl) (fun _ _ _ h => h) (Or.inl ⟨by rfl, ?_⟩) hHeld ?_
          rotate_left
          · (intro w' hSw; clear hSw; go_simp; try with_reducible rfl)
          try simp only [Act.put, List.setIfInBounds_toArray, List.set_cons_zero, List.set_cons_succ]
          refine held_take 8 (some 56) (v := ?_) rfl rfl (by kernel_rfl) (by kernel_rfl) (by kernel_rfl) (fun _ _ _ h => h) (Or.inl ⟨by rfl, ?_⟩) hHeld ?_
          rotate_left
          · (intro w' hSw; clear hSw; go_simp; try with_reducible rfl)
          try simp only [Act.put, List.setIfInBounds_toArray, List.set_cons_zero, List.set_cons_succ]
          refine held_take 9 (some 57) (v := ?_) rfl rfl (by kernel_rfl) (by kernel_rfl) (by kernel_rfl) (fun _ _ _ h => h) (Or.inl ⟨by rfl, ?_⟩) hHeld ?_
          rotate_left
          · (intro w' hSw; clear hSw; go_simp; try with_reducible rfl)
          try simp only [Act.put, List.setIfInBounds_toArray, List.set_cons_zero, List.set_cons_succ]
          refine held_take 10 (some 58) (v := ?_) rfl rfl (by kernel_rfl) (by kernel_rfl) (by kernel_rfl) (fun _ _ _ h => h) (Or.inl ⟨by rfl, ?_⟩) hHeld ?_
          rotate_left
          · (intro w' hSw; clear hSw; go_simp; try with_reducible rfl)
          try simp only [Act.put, List.setIfInBounds_toArray, List.set_cons_zero, List.set_cons_succ]
          clear hWk
          refine wpAnyH_ready (rs := [6]) (by kernel_rfl) (by simp) ?_
          refine AllReadyH.cons rfl (fun K hKK => ?_) AllReadyH.nil
          go_simp
          go_at_call 12
          refine HAL2.out.mono ?_
          rintro e y2 ⟨v, rfl, hy2, hnr⟩
          have hY2 : Below W.heap.size W y2 := HY1.out.drew.trans (hy2.mono (HY1.out.drew).size)
          obtain ⟨A3, c3, rfl, -, hrows3, -⟩ := hnr.rows
          have hRR2 := HRR.out.below (w' := y2) ((Below.refl _ _).drew.trans hy2)
          rw [HDL.out]
          refine hKK.out _ _ hY2 (fun hHeld => ?_)
          clear hKK K
          try simp only [Act.put, List.setIfInBounds_toArray, List.set_cons_zero, List.set_cons_succ]
          refine wpAnyH_ready (rs := [11]) (by kernel_rfl) (by simp) ?_
          refine AllReadyH.cons rfl (fun K hKK => ?_) AllReadyH.nil
          go_simp
          go_at_call 11
          refine (Same_any _ _ _ _ (N - k2) _ _ (L.drop k2) _ HDL.out (by omega) hrows3 hRR2).mono ?_
          rintro e y3 ⟨rfl, q3, rfl⟩
          refine hKK.out _ _ (below_drewN hY2 _) (fun hHeld => ?_)
          clear hKK K
          try simp only [Act.put, List.setIfInBounds_toArray, List.set_cons_zero, List.set_cons_succ]
          refine held_take 12 (some 60) (v := ?_) rfl rfl (by kernel_rfl) (by kernel_rfl) (by kernel_rfl) (fun _ _ _ h => h) (Or.inl ⟨by rfl, ?_⟩) hHeld ?_
          rotate_left
          · (intro w' hSw; clear hSw; go_simp; try with_reducible rfl)
          try simp only [Act.put, List.setIfInBounds_toArray, List.set_cons_zero, List.set_cons_succ]
          refine held_take 13 (some 6) (v := ?_) rfl rfl (by kernel_rfl) (by kernel_rfl) (by kernel_rfl) (fun _ _ _ h => h) (Or.inl ⟨by rfl, ?_⟩) hHeld ?_
          rotate_left
          · (intro w' hSw; clear hSw; go_simp; try with_reducible rfl)
          try simp only [Act.put, List.setIfInBounds_toArray, List.set_cons_zero, List.set_cons_succ]
          refine wpAnyH_done (by kernel_rfl) ?_ _
          have HBF := Lib.hid (HBW.out.trans (hHeld.mono HBW.out.size))
          clear hHeld
          go_wp2_with fail
          go_ret
          exact ⟨rfl, HBF.out⟩

theorem Again_law (mn mx main back : Int) (h1 : main < 4294967296) (h2 : back < 4294967296) (l : List Int) (n cap : Nat) (A : Option Addr) (which : Nat) (hwh : which < 256) (w : World) (hn : l.length = n) (hl : n ≤ 1000000000000000) (hnc : n ≤ cap) (hA : A = none → n = 0 ∧ cap = 0) (hI : Ints .u8 w A l) (hB : Bytes l) :
    Calls Try.prog 6 #[.agg (cutC mn mx main back), .slice A n cap, .int .u8 which] w fun e w' => e = .returned (.bool true) ∧ Below w.heap.size w w' := by
  by_cases h : RightI mn mx main back
  · obtain ⟨c, ok, rfl, rfl, rfl, rfl⟩ := ct_of mn mx main back h h1 h2
    exact Again_yes c ok l n cap A which hwh w hn hl hnc hA hI hB
  · exact Again_no mn mx main back h l n cap A which w hn hl hnc hI

end Go.Proofs.Ytealompbbknijaa
