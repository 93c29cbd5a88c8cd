/- chunk: the reference's All, Same; few. -/
import Derived.Test.YtealompbbknijaaEnds
namespace Go.Proofs.Ytealompbbknijaa
open Go.RowKit

theorem few_short (A : Option Addr) (n c : Nat) (w : World) (h : n ≤ 20000) (hc : n ≤ c) : Calls Try.prog 13 #[.slice A n c] w fun e w' => e = .returned (.slice A n c) ∧ w = w' := by
  go_enter Try.func13, Try.ntmps13
  go_wp2_with fail
  go_ret
  exact ⟨rfl, rfl⟩
theorem few_long (A : Option Addr) (n c : Nat) (w : World) (h : 20000 < n) (hc : n ≤ c) : Calls Try.prog 13 #[.slice A n c] w fun e w' => e = .returned (.slice A 20000 c) ∧ w = w' := by
  go_enter Try.func13, Try.ntmps13
  go_wp2_with fail
  go_ret
  exact ⟨rfl, rfl⟩
theorem few_any (A : Option Addr) (n c : Nat) (w : World) (hc : n ≤ c) : Calls Try.prog 13 #[.slice A n c] w fun e w' => e = .returned (.slice A (min n 20000) c) ∧ w = w' := by
  by_cases h : n ≤ 20000
  · rw [Nat.min_eq_left h]; exact few_short A n c w h hc
  · rw [Nat.min_eq_right (by omega)]; exact few_long A n c w (by omega) hc

theorem run_same (w : World) (A : Option Addr) (n c : Nat) (l : List Int) (hI : Ints .u8 w A l) (hn : l.length = n) : (convert 25 9 (.slice A n c)).run Try.prog w = .ok (.string (strOfNums l)) w :=
  run_conv_ints hI 25 9 5 _ c hn Try.underlying25 Try.underlying5 Try.underlying9

set_option maxHeartbeats 800000 in
theorem Same_any (P Q : Nat → Prop) (A B : Option Addr) (n c d : Nat) (L : List (List Int)) (w : World) (hn : L.length = n) (hl : n ≤ 1000000000000) (hA : Rows P w A L) (hB : Rows Q w B L) :
    Calls Try.prog 11 #[.slice A n c, .slice B n d] w fun e w' => e = .returned (.bool true) ∧ ∃ q, w' = w.drewN q := by
  have HN := Lib.hid hn
  have HA := Lib.hid hA
  have HB := Lib.hid hB
  clear hn hA hB
  go_enter Try.func11, Try.ntmps11
  go_wp2_with fail
  go_loopg [5] n (fun kq v5 w' => ∃ i : Nat, v5 = .int .i64 (i : Int) ∧ i + kq = n ∧ ∃ q, w' = w.drewN q)
  case atStart => exact ⟨0, rfl, by omega, 0, rfl⟩
  case round =>
    obtain ⟨i, rfl, hi, q, rfl⟩ := hrel
    by_cases hlt : i < n
    · obtain ⟨a1, B1, c1, e1, h1, _, hI1, _⟩ := HA.out.at i (by rw [HN.out]; exact hlt)
      obtain ⟨a2, B2, c2, e2, h2, _, hI2, _⟩ := HB.out.at i (by rw [HN.out]; exact hlt)
      subst e1
      subst e2
      generalize L.getD i [] = l at *
      obtain ⟨m, hm⟩ : ∃ m, l.length = m := ⟨_, rfl⟩
      rw [hm] at h1 h2
      have i0 : (0 : Int) ≤ (i : Int) := by omega
      have i1 : (i : Int) < (n : Int) := by omega
      have HI1 := Lib.hid hI1
      have HI2 := Lib.hid hI2
      have HM := Lib.hid hm
      clear hI1 hI2 hm
      go_wp2_with fail
      refine wp_region_held_drew (S := fun w' => ∃ q', w' = w.drewN q') (by kernel_rfl) (⟨q + 1, rfl⟩) (fun hHeld => ?_)
      refine held_take 0 (some 17) (v := ?_) rfl rfl (by kernel_rfl) (by kernel_rfl) (by kernel_rfl) (fun _ _ _ h => h) (Or.inl ⟨by rfl, ?_⟩) hHeld ?_
      rotate_left
      · (intro w' hSw; obtain ⟨qS, rfl⟩ := hSw; go_simp; try with_reducible rfl)
      try simp only [Act.put, List.setIfInBounds_toArray, List.set_cons_zero, List.set_cons_succ]
      refine held_take 1 (some 18) (v := ?_) rfl rfl (by kernel_rfl) (by kernel_rfl) (by kernel_rfl) (fun _ _ _ h => h) (Or.inl ⟨by rfl, ?_⟩) hHeld ?_
      rotate_left
      · (intro w' hSw; obtain ⟨qS, rfl⟩ := hSw; go_simp; try with_reducible rfl)
      try simp only [Act.put, List.setIfInBounds_toArray, List.set_cons_zero, List.set_cons_succ]
      refine held_take 2 (some 19) (v := ?_) rfl rfl (by kernel_rfl) (by kernel_rfl) (by kernel_rfl) (fun _ _ _ h => h) (Or.inl ⟨by rfl, ?_⟩) hHeld ?_
      rotate_left
      · (intro w' hSw; obtain ⟨qS, rfl⟩ := hSw; go_simp; try with_reducible rfl)
      try simp only [Act.put, List.setIfInBounds_toArray, List.set_cons_zero, List.set_cons_succ]
      refine held_take 3 (some 20) (v := ?_) rfl rfl (by kernel_rfl) (by kernel_rfl) (by kernel_rfl) (fun _ _ _ h => h) (Or.inl ⟨by rfl, ?_⟩) hHeld ?_
      rotate_left
      · (intro w' hSw; obtain ⟨qS, rfl⟩ := hSw; go_simp; try with_reducible rfl)
      try simp only [Act.put, List.setIfInBounds_toArray, List.set_cons_zero, List.set_cons_succ]
      refine held_take 4 (some 21) (v := .string (strOfNums l)) rfl rfl (by kernel_rfl) (by kernel_rfl) (by kernel_rfl) (fun _ _ _ h => h) (yieldsIf_conv (by rfl) 25 9 5 _ rfl B1 m c1 l rfl HM.out (fun w' h => by obtain ⟨z, rfl⟩ := h; exact HI1.out) Try.underlying25 Try.underlying5 Try.underlying9) hHeld ?_
      try simp only [Act.put, List.setIfInBounds_toArray, List.set_cons_zero, List.set_cons_succ]
      refine held_take 5 (some 22) (v := ?_) rfl rfl (by kernel_rfl) (by kernel_rfl) (by kernel_rfl) (fun _ _ _ h => h) (Or.inl ⟨by rfl, ?_⟩) hHeld ?_
      rotate_left
      · (intro w' hSw; obtain ⟨qS, rfl⟩ := hSw; go_simp; try with_reducible rfl)
      try simp only [Act.put, List.setIfInBounds_toArray, List.set_cons_zero, List.set_cons_succ]
      refine held_take 6 (some 23) (v := ?_) rfl rfl (by kernel_rfl) (by kernel_rfl) (by kernel_rfl) (fun _ _ _ h => h) (Or.inl ⟨by rfl, ?_⟩) hHeld ?_
      rotate_left
      · (intro w' hSw; obtain ⟨qS, rfl⟩ := hSw; go_simp; try with_reducible rfl)
      try simp only [Act.put, List.setIfInBounds_toArray, List.set_cons_zero, List.set_cons_succ]
      refine held_take 7 (some 24) (v := ?_) rfl rfl (by kernel_rfl) (by kernel_rfl) (by kernel_rfl) (fun _ _ _ h => h) (Or.inl ⟨by rfl, ?_⟩) hHeld ?_
      rotate_left
      · (intro w' hSw; obtain ⟨qS, rfl⟩ := hSw; go_simp; try with_reducible rfl)
      try simp only [Act.put, List.setIfInBounds_toArray, List.set_cons_zero, List.set_cons_succ]
      refine held_take 8 (some 25) (v := ?_) rfl rfl (by kernel_rfl) (by kernel_rfl) (by kernel_rfl) (fun _ _ _ h => h) (Or.inl ⟨by rfl, ?_⟩) hHeld ?_
      rotate_left
      · (intro w' hSw; obtain ⟨qS, rfl⟩ := hSw; go_simp; try with_reducible rfl)
      try simp only [Act.put, List.setIfInBounds_toArray, List.set_cons_zero, List.set_cons_succ]
      refine held_take 9 (some 26) (v := .string (strOfNums l)) rfl rfl (by kernel_rfl) (by kernel_rfl) (by kernel_rfl) (fun _ _ _ h => h) (yieldsIf_conv (by rfl) 25 9 5 _ rfl B2 m c2 l rfl HM.out (fun w' h => by obtain ⟨z, rfl⟩ := h; exact HI2.out) Try.underlying25 Try.underlying5 Try.underlying9) hHeld ?_
      try simp only [Act.put, List.setIfInBounds_toArray, List.set_cons_zero, List.set_cons_succ]
      refine held_take 10 (some 27) (v := ?_) rfl rfl (by kernel_rfl) (by kernel_rfl) (by kernel_rfl) (fun _ _ _ h => h) (Or.inl ⟨by rfl, ?_⟩) hHeld ?_
      rotate_left
      · (intro w' hSw; obtain ⟨qS, rfl⟩ := hSw; go_simp; try with_reducible rfl)
      try simp only [Act.put, List.setIfInBounds_toArray, List.set_cons_zero, List.set_cons_succ]
      refine wpAnyH_done (by kernel_rfl) ?_ _
      go_wp2_with fail
      go_roundg (n - (i + 1))
      case measure => omega
      case rel => exact ⟨i + 1, by go_num, by omega, q + 1, rfl⟩
    · go_wp2
      go_ret
      exact ⟨rfl, _, rfl⟩

theorem endsR_num (c : Ct) (ok : c.Ok) : ∀ l, (endsR c l).1.length ≤ l.length ∧ (endsR c l).2.length ≤ l.length := by
  refine cuts_ind c ok _ (fun a h => ?_) (fun a h ih => ?_)
  · rw [endsR_zero c a h]; simp
  · have hb := cutR_bounds c ok a h
    have hlo := ok.lo
    rw [endsR_cut c ok a h]
    rw [List.length_drop] at ih
    simp only [List.length_cons]
    omega

theorem rAll_no (mn mx main back : Int) (v : Value) (w : World) (h : ¬ RightI mn mx main back) :
    Calls Try.prog 14 #[.agg (cutC mn mx main back), v] w fun e w' => e = .returned (.slice none 0 0) ∧ Below w.heap.size w w' := by
  have HC := Lib.hid (rRight_no mn mx main back (w.alloc (.cells (cutC mn mx main back) 24)) h)
  unfold cutC at HC ⊢
  clear h
  go_enter Try.func14, Try.ntmps14
  go_wp2_with (go_at_call 19; refine HC.out.mono ?_; rintro e w2 ⟨rfl, hg2⟩)
  go_ret
  exact ⟨rfl, grown_below (grown_trans (grown_alloc _ _ _) hg2) (Nat.le_refl _) (fun _ h => by cases h)⟩

set_option maxHeartbeats 800000 in
theorem rAll_yes (c : Ct) (ok : c.Ok) (l0 : List Int) (A0 : Option Addr) (n cap : Nat) (w : World) (hn : l0.length = n) (hnc : n ≤ cap) (hI : Ints .u8 w A0 l0) (hB : Bytes l0) (hA : A0 = none → n = 0 ∧ cap = 0) (hl : n ≤ 1000000000) :
    Calls Try.prog 14 #[.agg (cutC c.mn c.mx c.main c.back), .slice A0 n cap] w fun e w' => ∃ v, e = .returned v ∧ Below w.heap.size w w' ∧ NewRows (At A0) w.heap.size (pcsR c l0) w' v := by
  have HC := Lib.hid (rRight_yes c.mn c.mx c.main c.back (w.alloc (.cells (cutC c.mn c.mx c.main c.back) 24)) ok.right)
  have hrow := heap_alloc_last w (.cells (cutC c.mn c.mx c.main c.back) 24)
  have HG := Lib.hid (grown_alloc w (.cells (cutC c.mn c.mx c.main c.back) 24) none)
  have HR := Lib.hid hrow
  have HI := Lib.hid hI
  have HB := Lib.hid hB
  have HN := Lib.hid hn
  have HAN := Lib.hid hA
  have HOK := Lib.hid ok
  have HPE := Lib.hid (show pcsR c l0 = (endsR c l0).1 ++ restR (endsR c l0).2 from rfl)
  have HNUM := Lib.hid (endsR_num c ok l0)
  unfold cutC at HC HG HR ⊢
  clear hrow hI hB hn ok hA
  go_enter Try.func14, Try.ntmps14
  go_wp2_with fail
  refine HC.out.mono ?_
  rintro e w2 ⟨rfl, hg2⟩
  have hr2 := (hg2.block w.heap.size (by simp) (by simp)).trans HR.out
  have d0 : w2.cell? ⟨w.heap.size, 0, none⟩ = some (.int .i64 c.mn) := by rw [cell_of_row _ _ _ _ _ _ hr2]; rfl
  have d1 : w2.cell? ⟨w.heap.size, 1, none⟩ = some (.int .i64 c.mx) := by rw [cell_of_row _ _ _ _ _ _ hr2]; rfl
  have d2 : w2.cell? ⟨w.heap.size, 2, none⟩ = some (.int .u32 c.main) := by rw [cell_of_row _ _ _ _ _ _ hr2]; rfl
  have d3 : w2.cell? ⟨w.heap.size, 3, none⟩ = some (.int .u32 c.back) := by rw [cell_of_row _ _ _ _ _ _ hr2]; rfl
  have hgw := grown_trans HG.out hg2
  have HGW := Lib.hid hgw
  have HEN := Lib.hid (Ends_any c HOK.out l0 A0 n cap w2 HN.out hnc (HI.out.grown hgw (fun _ _ _ h => by cases h)) HB.out HAN.out hl)
  have hsw := hgw.size
  unfold cutC at HEN
  clear hr2 hg2 hgw
  go_wp2_with fail
  refine HEN.out.mono ?_
  rintro e w3 ⟨v, A, cp, rfl, hb3, hnr, hi3, hby3, hle3, hbk3, hnl3⟩
  have hLl := HNUM.out
  rw [HN.out] at hLl
  have hL1 := hLl.1
  have hL2 := hLl.2
  clear hLl
  have HB3 := Lib.hid hb3
  obtain ⟨vals, ho, hv⟩ := hnr
  have HO := Lib.hid ho
  have HV := Lib.hid hv
  have HI3 := Lib.hid hi3
  have HBY := Lib.hid hby3
  have HBK := Lib.hid hbk3
  have HNL := Lib.hid hnl3
  have hs3 := hb3.size
  obtain ⟨m, hm⟩ : ∃ m, (endsR c l0).2.length = m := ⟨_, rfl⟩
  have HM := Lib.hid hm
  rw [hm] at hle3 hL2 ⊢
  clear hb3 ho hv hi3 hby3 hbk3 hnl3
  by_cases hm0 : m = 0
  · subst hm0
    have HRE := Lib.hid (show restR (endsR c l0).2 = [] from if_pos (List.length_eq_zero_iff.1 hm))
    clear hm
    go_wp2_with fail
    go_ret
    refine ⟨v, rfl, (below_refl_grown HGW.out).trans (HB3.out.mono hsw), vals, ?_, ?_⟩
    · rw [HPE.out, HRE.out, List.append_nil]; exact own_base HO.out hsw
    · rw [HPE.out, HRE.out, List.append_nil]; exact HV.out
  · have HRE := Lib.hid (show restR (endsR c l0).2 = [(endsR c l0).2] from if_neg (fun e => hm0 (by rw [← hm, e]; rfl)))
    have hm1 : 0 < m := by omega
    clear hm hm0
    obtain ⟨q, hq⟩ : ∃ q, (endsR c l0).1.length = q := ⟨_, rfl⟩
    have HQ := Lib.hid hq
    rw [hq] at hL1
    have HOq := Lib.hid (show (w3.alloc (.cells #[.slice A m cp] 25)).ownsRow w2.heap.size 25 1 v q vals from by rw [← hq]; exact HO.out.alloc _)
    clear hq
    go_wp2_with (at_builtin; refine wpList_app E28 rfl _ _ rfl w2.heap.size v q vals rfl HOq.out (some ⟨w3.heap.size, 0, none⟩) 1 1 [.slice A m cp] rfl (fun h => by cases h) rfl ?c1 ?c2 ?c3 ?c4 ?c5 ?_)
    case c1 => intro j u hj; exact ⟨_, rfl, one_new _ _ _ j u hj⟩
    case c2 => intro u hu; simp at hu; subst hu; rfl
    case c3 => unfold maxLen; omega
    case c4 => omega
    case c5 => simp; omega
    intro v7 w7 hown7 hgrow7 hat7
    have HO7 := Lib.hid hown7
    have HG7 := Lib.hid hgrow7
    clear hown7 hgrow7 hat7
    go_wp2
    go_ret
    have hlt := HO.out.lt
    have hg7 := grown_alloc w3 (.cells #[.slice A m cp] 25) none
    have hs7 := HG7.out.size
    have keep : ∀ k, At A0 k → 0 < n → k < w.heap.size := fun k ⟨a, e, hk⟩ h0 => by
      have := HI.out.blk a e (by rw [HN.out]; exact h0); omega
    have hn0 : 0 < n := by omega
    refine ⟨v7, rfl, ?_, vals ++ [.slice A m cp], ?_, ?_⟩
    · refine (((below_refl_grown HGW.out).trans (HB3.out.mono hsw)).alloc (by omega) _).grown HG7.out (by simp; omega) (fun k hk => ?_)
      have := hlt k hk; omega
    · rw [HPE.out, HRE.out, List.length_append, HQ.out]; exact own_base HO7.out hsw
    · rw [HPE.out, HRE.out]
      have hkp : ∀ k, At A0 k → some k ≠ v.ownBlock := fun k hk e => by have := hlt k e.symm; have := keep k hk hn0; omega
      refine RowsV.append ((HV.out.kept hg7 (fun k _ h => by cases h)).kept HG7.out hkp) ?_
      have := RowsV.one (At A0) w7 A cp (endsR c l0).2 (by rw [HM.out]; exact hle3) ((HI3.out.grown hg7 (fun _ _ _ h => by cases h)).grown HG7.out (fun ad e _ => hkp _ (HBK.out ad e))) HBY.out HBK.out
      rw [HM.out] at this
      exact this

end Go.Proofs.Ytealompbbknijaa
