/- chunk: the walks of ChunkWhole, ChunkAgain. -/
import Derived.Test.YtealompbbknijaaLaws1
namespace Go.Proofs.Ytealompbbknijaa
open Go.RowKit

theorem strOfNums_append (a b : List Int) : strOfNums a ++ strOfNums b = strOfNums (a ++ b) := by
  have h : ∀ x y : ByteArray, x.data = y.data → x = y := fun x y e => by cases x; cases y; cases e; rfl
  apply h
  simp [strOfNums]
theorem strOfNums_size (a : List Int) : (strOfNums a).size = a.length := by simp [strOfNums, ByteArray.size]
theorem take_flat (L : List (List Int)) (i : Nat) (h : i < L.length) : (L.take i).flatten ++ L.getD i [] = (L.take (i + 1)).flatten := by
  rw [List.take_succ_eq_append_getElem h, List.flatten_append, List.getD_eq_getElem?_getD, List.getElem?_eq_getElem h]; simp
theorem flat_take_le (L : List (List Int)) (i : Nat) : (L.take i).flatten.length ≤ L.flatten.length := by
  have h := congrArg List.flatten (List.take_append_drop i L)
  rw [List.flatten_append] at h
  have := congrArg List.length h
  rw [List.length_append] at this
  omega

theorem Whole_no (mn mx main back : Int) (h : ¬ RightI mn mx main back) (l : List Int) (n cap : Nat) (A : Option Addr) (w : World) (hn : l.length = n) (hl : n ≤ 1000000000000000) (hnc : n ≤ cap) (hI : Ints .u8 w A l) :
    Calls Try.prog 5 #[.agg (cutC mn mx main back), .slice A n cap] w fun e w' => e = .returned (.bool true) ∧ Below w.heap.size w w' := by
  have HS24 := Lib.hid (show (Try.prog.info? 24).map (·.size) = some [Value.int .i64 mn, .int .i64 mx, .int .u32 main, .int .u32 back].length by kernel_rfl)
  have HR := Lib.hid (heap_alloc_last w (.cells #[Value.int .i64 mn, .int .i64 mx, .int .u32 main, .int .u32 back] 24))
  have HBW := Lib.hid ((Below.refl w.heap.size w).alloc (Nat.le_refl _) (.cells #[Value.int .i64 mn, .int .i64 mx, .int .u32 main, .int .u32 back] 24))
  have hlt : w.heap.size < (w.alloc (.cells #[Value.int .i64 mn, .int .i64 mx, .int .u32 main, .int .u32 back] 24)).heap.size := by simp
  have HIW := Lib.hid (hI.grown (grown_alloc w (.cells #[Value.int .i64 mn, .int .i64 mx, .int .u32 main, .int .u32 back] 24) none) (fun _ _ _ h => by cases h))
  have HRN := Lib.hid h
  unfold cutC
  clear h hI
  go_enter Try.func5, Try.ntmps5
  go_wp2_with fail
  generalize w.alloc (.cells #[Value.int .i64 mn, .int .i64 mx, .int .u32 main, .int .u32 back] 24) = W at *
  obtain ⟨K0, hK0⟩ : ∃ z, z = w.heap.size := ⟨_, rfl⟩
  rw [← hK0] at HR hlt ⊢
  have HK0 := Lib.hid hK0
  clear hK0
  have HQ := Lib.hid (show W.rangeAt K0 0 [Value.int .i64 mn, .int .i64 mx, .int .u32 main, .int .u32 back] from rangeAt_of_row HR.out 0 4)
  have HFW := Lib.hid (few_any A n cap · hnc)
  obtain ⟨m, hm⟩ : ∃ m, min n 20000 = m := ⟨_, rfl⟩
  rw [hm] at HFW
  clear hm
  refine (shown_any _).mono ?_
  rintro e w1 ⟨rfl, hb1⟩
  have HB1 := Lib.hid hb1
  clear hb1
  go_wp2_with fail
  refine wp_region_held_drew (S := fun w' => Below W.heap.size W w') (by kernel_rfl) (HB1.out.drew) (fun hHeld => ?_)
  refine held_take 0 (some 10) (v := .agg ([Value.int .i64 mn, .int .i64 mx, .int .u32 main, .int .u32 back]).toArray) rfl rfl (by kernel_rfl) (by kernel_rfl) (by kernel_rfl) (fun _ _ _ h => h) (yieldsIf_load_mid (by rfl) 24 _ rfl K0 (0) rfl ([Value.int .i64 mn, .int .i64 mx, .int .u32 main, .int .u32 back]) _ (fun w' h => rangeAt_block HQ.out (h.block _ hlt)) Try.underlying24 rfl HS24.out) hHeld ?_
  try simp only [Act.put, List.setIfInBounds_toArray, List.set_cons_zero, List.set_cons_succ]
  refine held_take 1 (some 11) (v := ?_) rfl rfl (by kernel_rfl) (by kernel_rfl) (by kernel_rfl) (fun _ _ _ h => h) (Or.inl ⟨by rfl, ?_⟩) hHeld ?_
  rotate_left
  · (intro w' hSw; clear hSw; go_simp; try with_reducible rfl)
  try simp only [Act.put, List.setIfInBounds_toArray, List.set_cons_zero, List.set_cons_succ]
  refine wpAnyH_ready (rs := [2]) (by kernel_rfl) (by simp) ?_
  refine AllReadyH.cons rfl (fun K hKK => ?_) AllReadyH.nil
  go_simp
  go_at_call 13
  refine (HFW.out _).mono ?_
  rintro e zq ⟨rfl, rfl⟩
  refine hKK.out _ _ HB1.out.drew (fun hHeld => ?_)
  clear hKK K
  try simp only [Act.put, List.setIfInBounds_toArray, List.set_cons_zero, List.set_cons_succ]
  refine wpAnyH_ready (rs := [3]) (by kernel_rfl) (by simp) ?_
  refine AllReadyH.cons rfl (fun K hKK => ?_) AllReadyH.nil
  go_simp
  go_at_call 12
  refine (All_no mn mx main back _ _ HRN.out).mono ?_
  rintro e y1 ⟨v, rfl, hy1, hnr⟩
  have hY1 : Below W.heap.size W y1 := HB1.out.drew.trans (hy1.mono (HB1.out.drew).size)
  refine hKK.out _ _ hY1 (fun hHeld => ?_)
  clear hKK K
  try simp only [Act.put, List.setIfInBounds_toArray, List.set_cons_zero, List.set_cons_succ]
  refine held_take 4 (some 6) (v := ?_) rfl rfl (by kernel_rfl) (by kernel_rfl) (by kernel_rfl) (fun _ _ _ h => h) (Or.inl ⟨by rfl, ?_⟩) hHeld ?_
  rotate_left
  · (intro w' hSw; clear hSw; go_simp; try with_reducible rfl)
  try simp only [Act.put, List.setIfInBounds_toArray, List.set_cons_zero, List.set_cons_succ]
  refine wpAnyH_done (by kernel_rfl) ?_ _
  obtain ⟨A2, c2, rfl, -⟩ := hnr.rows
  have hr3 := (hHeld.block K0 hlt).trans HR.out
  have d0 : y1.cell? ⟨K0, 0, none⟩ = some (.int .i64 mn) := by rw [cell_of_row _ _ _ _ _ _ hr3]; rfl
  have d1 : y1.cell? ⟨K0, 1, none⟩ = some (.int .i64 mx) := by rw [cell_of_row _ _ _ _ _ _ hr3]; rfl
  have d2 : y1.cell? ⟨K0, 2, none⟩ = some (.int .u32 main) := by rw [cell_of_row _ _ _ _ _ _ hr3]; rfl
  have d3 : y1.cell? ⟨K0, 3, none⟩ = some (.int .u32 back) := by rw [cell_of_row _ _ _ _ _ _ hr3]; rfl
  have HY1 := Lib.hid (HBW.out.trans (hHeld.mono HBW.out.size))
  have HRC := Lib.hid (Right_no mn mx main back y1 HRN.out)
  unfold cutC at HRC
  clear hr3 hHeld hY1 hy1 hnr
  go_wp2_with fail
  refine HRC.out.mono ?_
  rintro e y2 ⟨rfl, hg2⟩
  have HG2 := Lib.hid hg2
  clear hg2
  go_wp2_with fail
  go_ret
  exact ⟨rfl, HY1.out.trans ((below_refl_grown HG2.out).mono HY1.out.size)⟩

set_option maxRecDepth 20000 in
set_option maxHeartbeats 6400000 in
theorem Whole_yes (c : Ct) (ok : c.Ok) (l : List Int) (n cap : Nat) (A : Option Addr) (w : World) (hn : l.length = n) (hl : n ≤ 1000000000000000) (hnc : n ≤ cap) (hA : A = none → n = 0 ∧ cap = 0) (hI : Ints .u8 w A l) (hB : Bytes l) :
    Calls Try.prog 5 #[.agg (cutC c.mn c.mx c.main c.back), .slice A n cap] w fun e w' => e = .returned (.bool true) ∧ Below w.heap.size w w' := by
  have HS24 := Lib.hid (show (Try.prog.info? 24).map (·.size) = some [Value.int .i64 c.mn, .int .i64 c.mx, .int .u32 c.main, .int .u32 c.back].length by kernel_rfl)
  have HR := Lib.hid (heap_alloc_last w (.cells #[Value.int .i64 c.mn, .int .i64 c.mx, .int .u32 c.main, .int .u32 c.back] 24))
  have HBW := Lib.hid ((Below.refl w.heap.size w).alloc (Nat.le_refl _) (.cells #[Value.int .i64 c.mn, .int .i64 c.mx, .int .u32 c.main, .int .u32 c.back] 24))
  have hlt : w.heap.size < (w.alloc (.cells #[Value.int .i64 c.mn, .int .i64 c.mx, .int .u32 c.main, .int .u32 c.back] 24)).heap.size := by simp
  have HIW := Lib.hid (hI.grown (grown_alloc w (.cells #[Value.int .i64 c.mn, .int .i64 c.mx, .int .u32 c.main, .int .u32 c.back] 24) none) (fun _ _ _ h => by cases h))
  have HOK := Lib.hid ok
  have HFM := Lib.hid (few_min l n hn)
  have HBB := Lib.hid hB
  have HAN := Lib.hid hA
  have hlo := ok.lo
  have hle := ok.le
  have hhi := ok.hi
  unfold cutC
  clear hI hB hn hA ok
  go_enter Try.func5, Try.ntmps5
  go_wp2_with fail
  generalize w.alloc (.cells #[Value.int .i64 c.mn, .int .i64 c.mx, .int .u32 c.main, .int .u32 c.back] 24) = W at *
  obtain ⟨K0, hK0⟩ : ∃ z, z = w.heap.size := ⟨_, rfl⟩
  rw [← hK0] at HR hlt ⊢
  have HK0 := Lib.hid hK0
  clear hK0
  have HQ := Lib.hid (show W.rangeAt K0 0 [Value.int .i64 c.mn, .int .i64 c.mx, .int .u32 c.main, .int .u32 c.back] from rangeAt_of_row HR.out 0 4)
  have HFW := Lib.hid (few_any A n cap · hnc)
  obtain ⟨m, hm⟩ : ∃ m, min n 20000 = m := ⟨_, rfl⟩
  rw [hm] at HFW HFM
  have hm2 : m ≤ 20000 := by omega
  have HM := Lib.hid hm
  clear hm
  refine (shown_any _).mono ?_
  rintro e w1 ⟨rfl, hb1⟩
  have HB1 := Lib.hid hb1
  clear hb1
  go_wp2_with fail
  refine wp_region_held_drew (S := fun w' => Below W.heap.size W w') (by kernel_rfl) (HB1.out.drew) (fun hHeld => ?_)
  refine held_take 0 (some 10) (v := .agg ([Value.int .i64 c.mn, .int .i64 c.mx, .int .u32 c.main, .int .u32 c.back]).toArray) rfl rfl (by kernel_rfl) (by kernel_rfl) (by kernel_rfl) (fun _ _ _ h => h) (yieldsIf_load_mid (by rfl) 24 _ rfl K0 (0) rfl ([Value.int .i64 c.mn, .int .i64 c.mx, .int .u32 c.main, .int .u32 c.back]) _ (fun w' h => rangeAt_block HQ.out (h.block _ hlt)) Try.underlying24 rfl HS24.out) hHeld ?_
  try simp only [Act.put, List.setIfInBounds_toArray, List.set_cons_zero, List.set_cons_succ]
  refine held_take 1 (some 11) (v := ?_) rfl rfl (by kernel_rfl) (by kernel_rfl) (by kernel_rfl) (fun _ _ _ h => h) (Or.inl ⟨by rfl, ?_⟩) hHeld ?_
  rotate_left
  · (intro w' hSw; clear hSw; go_simp; try with_reducible rfl)
  try simp only [Act.put, List.setIfInBounds_toArray, List.set_cons_zero, List.set_cons_succ]
  refine wpAnyH_ready (rs := [2]) (by kernel_rfl) (by simp) ?_
  refine AllReadyH.cons rfl (fun K hKK => ?_) AllReadyH.nil
  go_simp
  go_at_call 13
  refine (HFW.out _).mono ?_
  rintro e zq ⟨rfl, rfl⟩
  refine hKK.out _ _ HB1.out.drew (fun hHeld => ?_)
  clear hKK K
  try simp only [Act.put, List.setIfInBounds_toArray, List.set_cons_zero, List.set_cons_succ]
  refine wpAnyH_ready (rs := [3]) (by kernel_rfl) (by simp) ?_
  refine AllReadyH.cons rfl (fun K hKK => ?_) AllReadyH.nil
  go_simp
  go_at_call 12
  refine (All_yes c HOK.out (l.take 20000) A m cap _ HFM.out (by have := HM.out; omega) ((HIW.out.take _).below HB1.out.drew) (HBB.out.take _) (fun e => by have := HAN.out e; have := HM.out; omega) (by omega)).mono ?_
  rintro e y1 ⟨v, rfl, hy1, hnr⟩
  have hY1 : Below W.heap.size W y1 := HB1.out.drew.trans (hy1.mono (HB1.out.drew).size)
  refine hKK.out _ _ hY1 (fun hHeld => ?_)
  clear hKK K
  try simp only [Act.put, List.setIfInBounds_toArray, List.set_cons_zero, List.set_cons_succ]
  refine held_take 4 (some 6) (v := ?_) rfl rfl (by kernel_rfl) (by kernel_rfl) (by kernel_rfl) (fun _ _ _ h => h) (Or.inl ⟨by rfl, ?_⟩) hHeld ?_
  rotate_left
  · (intro w' hSw; clear hSw; go_simp; try with_reducible rfl)
  try simp only [Act.put, List.setIfInBounds_toArray, List.set_cons_zero, List.set_cons_succ]
  refine wpAnyH_done (by kernel_rfl) ?_ _
  obtain ⟨A2, c2, rfl, hc2, hrows, -⟩ := hnr.rows
  have hr3 := (hHeld.block K0 hlt).trans HR.out
  have d0 : y1.cell? ⟨K0, 0, none⟩ = some (.int .i64 c.mn) := by rw [cell_of_row _ _ _ _ _ _ hr3]; rfl
  have d1 : y1.cell? ⟨K0, 1, none⟩ = some (.int .i64 c.mx) := by rw [cell_of_row _ _ _ _ _ _ hr3]; rfl
  have d2 : y1.cell? ⟨K0, 2, none⟩ = some (.int .u32 c.main) := by rw [cell_of_row _ _ _ _ _ _ hr3]; rfl
  have d3 : y1.cell? ⟨K0, 3, none⟩ = some (.int .u32 c.back) := by rw [cell_of_row _ _ _ _ _ _ hr3]; rfl
  have HIY := Lib.hid ((HIW.out.take 20000).below hHeld)
  have HPL := Lib.hid (pcsR_lens c HOK.out (l.take 20000))
  have HPF := Lib.hid (pcsR_flat c HOK.out (l.take 20000))
  obtain ⟨L, hL⟩ : ∃ L, pcsR c (l.take 20000) = L := ⟨_, rfl⟩
  rw [hL] at HPL HPF hrows hc2 ⊢
  clear hL
  have HY1 := Lib.hid (HBW.out.trans (hHeld.mono HBW.out.size))
  have HRC := Lib.hid (Right_yes c.mn c.mx c.main c.back y1 HOK.out.right)
  unfold cutC at HRC
  have HRW := Lib.hid hrows
  have HR3 := Lib.hid hr3
  obtain ⟨N, hN⟩ : ∃ N, L.length = N := ⟨_, rfl⟩
  rw [hN] at hc2 ⊢
  have HN := Lib.hid hN
  have hNm : N ≤ m := by
    have h1 : L.length ≤ L.flatten.length := by
      have h2 : ∀ x ∈ L, 1 ≤ x.length := fun x hx => by
        obtain ⟨i, hi, rfl⟩ := List.getElem_of_mem hx
        exact (HPL.out i hi).1
      clear HPL HPF HRW HN hN hc2 hrows hnr
      induction L with
      | nil => simp
      | cons x L ih =>
        have := ih (fun y hy => h2 y (List.mem_cons_of_mem _ hy))
        have := h2 x List.mem_cons_self
        simp only [List.length_cons, List.flatten_cons, List.length_append]
        omega
    rw [HPF.out, HFM.out, HN.out] at h1
    exact h1
  clear hr3 hHeld hY1 hy1 hnr hrows hN
  go_wp2_with fail
  refine HRC.out.mono ?_
  rintro e y2 ⟨rfl, hg2⟩
  have HG2 := Lib.hid hg2
  have HRY := Lib.hid (HRW.out.below (below_refl_grown hg2))
  have HIZ := Lib.hid (HIY.out.grown hg2 (fun _ _ _ h => by cases h))
  have e0 : y2.cell? ⟨K0, 0, none⟩ = some (.int .i64 c.mn) := (World.cell?_of_block (w := y1) (hg2.block K0 (row_lt HR3.out) (by simp))).trans d0
  have e1 : y2.cell? ⟨K0, 1, none⟩ = some (.int .i64 c.mx) := (World.cell?_of_block (w := y1) (hg2.block K0 (row_lt HR3.out) (by simp))).trans d1
  clear hg2 d0 d1 d2 d3
  have hs0 : strOfNums (L.take 0).flatten = ByteArray.mk #[] := rfl
  go_wp2_with fail
  go_loopg [7, 25] N (fun kq v7 v25 w' => ∃ i : Nat, v25 = .int .i64 (i : Int) ∧ i + kq = N ∧ v7 = .string (strOfNums (L.take i).flatten) ∧ ∃ q, w' = y2.drewN q)
  case atStart => exact ⟨0, rfl, by omega, rfl, 0, rfl⟩
  case round =>
    obtain ⟨i, rfl, hi, rfl, q, rfl⟩ := hrel
    by_cases hlt2 : i < N
    · obtain ⟨ad, B, cc, e, hcell, hcc, hIb, -⟩ := HRY.out.at i (by rw [HN.out]; exact hlt2)
      subst e
      have hlens := HPL.out i (by rw [HN.out]; exact hlt2)
      have hgd : L[i]'(by rw [HN.out]; exact hlt2) = L.getD i [] := by rw [List.getD_eq_getElem?_getD, List.getElem?_eq_getElem (by rw [HN.out]; exact hlt2)]; rfl
      rw [hgd, HN.out] at hlens
      have HSA := Lib.hid (show strOfNums (L.take i).flatten ++ strOfNums (L.getD i []) = strOfNums (L.take (i + 1)).flatten by rw [strOfNums_append, take_flat L i (by rw [HN.out]; exact hlt2)])
      have hfl := flat_take_le L i
      rw [HPF.out, HFM.out, ← strOfNums_size] at hfl
      have hsz2 := strOfNums_size (L.getD i [])
      obtain ⟨li, hli⟩ : ∃ z, L.getD i [] = z := ⟨_, rfl⟩
      rw [hli] at hcell hcc hIb hlens HSA hsz2
      obtain ⟨mi, hmi⟩ : ∃ z, li.length = z := ⟨_, rfl⟩
      rw [hmi] at hcell hcc hlens hsz2
      have hcv := run_same (y2.drewN q) B mi cc li hIb hmi
      have hz1 := hlens.1
      have hz2 := hlens.2.1
      have hz3 := hlens.2.2
      generalize strOfNums (L.take i).flatten = S1 at *
      generalize strOfNums li = S2 at *
      have hS2 : S2.size ≤ 4096 := by omega
      have i0 : (0 : Int) ≤ (i : Int) := by omega
      have i1 : (i : Int) < (N : Int) := by omega
      clear hlens hsz2 hmi hli hgd hIb
      by_cases hlast : i + 1 < N
      · have hz4 := hz3 hlast
        have i2 : (i : Int) + 1 < (N : Int) := by omega
        have hdA : decide ((mi : Int) < 1) = false := by simp; omega
        have hdB : decide ((c.mx : Int) < (mi : Int)) = false := by simp; omega
        have hdB2 : decide (c.mx < mi) = false := by simp; omega
        have hdC : decide ((i : Int) + 1 < (N : Int)) = true := by simp; omega
        have hdD : decide ((mi : Int) < (c.mn : Int)) = false := by simp; omega
        have hdD2 : decide (mi < c.mn) = false := by simp; omega
        have hdW : IntKind.i64.wrap ((i : Int) + 1) = (i : Int) + 1 := IntWalk.i64_in _ (by omega)
        clear hz3
        go_wp2_with fail
        go_quiet (fail)
        clear hdW
        go_wp2_with fail
        go_roundg (N - (i + 1))
        case measure => omega
        case rel => exact ⟨i + 1, by go_num, by omega, by rw [HSA.out], _, rfl⟩
      · have i2 : ¬ (i : Int) + 1 < (N : Int) := by omega
        have hdA : decide ((mi : Int) < 1) = false := by simp; omega
        have hdB : decide ((c.mx : Int) < (mi : Int)) = false := by simp; omega
        have hdB2 : decide (c.mx < mi) = false := by simp; omega
        have hdC : decide ((i : Int) + 1 < (N : Int)) = false := by simp; omega
        have hdW : IntKind.i64.wrap ((i : Int) + 1) = (i : Int) + 1 := IntWalk.i64_in _ (by omega)
        clear hz3
        go_wp2_with fail
        go_quiet (fail)
        clear hdW
        go_wp2_with fail
        go_roundg (N - (i + 1))
        case measure => omega
        case rel => exact ⟨i + 1, by go_num, by omega, by rw [HSA.out], _, rfl⟩
    · obtain rfl : i = N := by omega
      have HTL := Lib.hid (show (L.take i).flatten = l.take 20000 by rw [← HPF.out, List.take_of_length_le (by rw [HN.out]; exact Nat.le_refl _)])
      rw [HTL.out]
      have hcv := run_same (y2.drewN q) A m cap (l.take 20000) HIZ.out HFM.out
      generalize strOfNums (l.take 20000) = S1 at *
      go_wp2_with fail
      refine (HFW.out _).mono ?_
      rintro e zq ⟨rfl, rfl⟩
      go_wp2_with fail
      go_ret
      exact ⟨rfl, below_drewN (HY1.out.trans ((below_refl_grown HG2.out).mono HY1.out.size)) _⟩

theorem Whole_law (mn mx main back : Int) (h1 : main < 4294967296) (h2 : back < 4294967296) (l : List Int) (n cap : Nat) (A : Option Addr) (w : World) (hn : l.length = n) (hl : n ≤ 1000000000000000) (hnc : n ≤ cap) (hA : A = none → n = 0 ∧ cap = 0) (hI : Ints .u8 w A l) (hB : Bytes l) :
    Calls Try.prog 5 #[.agg (cutC mn mx main back), .slice A n cap] w fun e w' => e = .returned (.bool true) ∧ Below w.heap.size w w' := by
  by_cases h : RightI mn mx main back
  · obtain ⟨c, ok, rfl, rfl, rfl, rfl⟩ := ct_of mn mx main back h h1 h2
    exact Whole_yes c ok l n cap A w hn hl hnc hA hI hB
  · exact Whole_no mn mx main back h l n cap A w hn hl hnc hI

end Go.Proofs.Ytealompbbknijaa
