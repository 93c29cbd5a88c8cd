/- space: the walk of SpacePlays. -/
import Derived.Test.YtdnincnfamcchaaDoorBack
namespace Go.Proofs.YtdnincnfamcchaaDoor
open Go.RowKit

/-- A space and the document's, behind w0. -/
structure Pl (w0 w : World) (g h g2 h2 n m : Nat) (f : Nat → Bool) : Prop where
  s : St w0 w g h n m f
  t : RS w g2 h2 n f
  ge : w0.heap.size ≤ g2 ∧ w0.heap.size ≤ h2
  dis : g2 ≠ g ∧ g2 ≠ h ∧ h2 ≠ g ∧ h2 ≠ h
section
variable {w0 w w' w2 : World} {g h g2 h2 n m : Nat} {f f' : Nat → Bool}
theorem Pl.quiet (V : Pl w0 w g h g2 h2 n m f) (hb : Below w.heap.size w w') : Pl w0 w' g h g2 h2 n m f := ⟨V.s.quiet hb, V.t.kept (R := fun _ => False) (Chg.belowAt hb) (fun h => h) (fun h => h), V.ge, V.dis⟩
/-- Both do the same. -/
theorem Pl.both (V : Pl w0 w g h g2 h2 n m f) (hc : Chg (Two g h) w w') (hs : Sp w' g h n m f') (hc2 : Chg (Two g2 h2) w' w2) (ht : RS w2 g2 h2 n f') : Pl w0 w2 g h g2 h2 n m f' := by
  obtain ⟨d1, d2, d3, d4⟩ := V.dis
  have hS := V.s.step hc hs
  have hS2 : St w0 w2 g h n m f' := ⟨hS.bel.trans (hc2.below hS.bel.size (fun k hk => by have := V.ge; rcases hk with rfl | rfl <;> omega)), hS.tb.chg hc2 (by have := V.ge; have := V.s.pos; rintro (e | e) <;> omega),
    hS.sp.kept hc2 (by rintro (e | e) <;> exact absurd e.symm (by assumption)) (by rintro (e | e) <;> exact absurd e.symm (by assumption)), hS.ge, hS.pos⟩
  exact ⟨hS2, ht, V.ge, V.dis⟩
theorem Pl.ref (V : Pl w0 w g h g2 h2 n m f) (hc : Chg (Two g h) w w') : RS w' g2 h2 n f := by
  obtain ⟨d1, d2, d3, d4⟩ := V.dis
  exact V.t.kept hc (by rintro (e | e) <;> contradiction) (by rintro (e | e) <;> contradiction)
end
theorem Plays_bad (x z : Int) (v : Value) (w : World) (hT : Tb w) (hx : x < 0 ∨ 16384 < x) : Calls Tryd.prog 6 #[.int .i64 x, v, .int .i64 z] w fun e w' => e = .returned (.bool true) ∧ Below w.heap.size w w' := by
  have HL := Lib.hid (fun W => New_bad x W hx)
  have HR := Lib.hid (fun W => rNew_bad x W hx)
  have HS := Lib.hid (shown_any w hT)
  clear hx hT
  go_enter Tryd.func6, Tryd.ntmps6
  go_wp2_with fail
  refine HS.out.mono ?_
  rintro e w1 ⟨rfl, hb1⟩
  go_wp2_with fail
  refine (HL.out _).mono ?_
  rintro e w2 ⟨rfl, rfl⟩
  go_wp2_with fail
  refine (HR.out _).mono ?_
  rintro e w2 ⟨rfl, rfl⟩
  go_wp2_with fail
  go_ret
  exact ⟨rfl, hb1⟩

set_option maxRecDepth 20000 in
set_option maxHeartbeats 6400000 in
theorem Plays_good (n : Nat) (y : Int) (A : Option Addr) (c : Nat) (l : List (Nat × Int)) (L : Nat) (w : World) (hT : Tb w) (hn5 : n ≤ 16384) (hn : l.length = L) (hA : Acts w A l) (hnc : L ≤ c) :
    Calls Tryd.prog 6 #[.int .i64 n, .slice A L c, .int .i64 y] w fun e w' => e = .returned (.bool true) ∧ Below w.heap.size w w' := by
  have HS := Lib.hid (shown_any w hT)
  have HT := Lib.hid hT
  have HA := Lib.hid hA
  have HL := Lib.hid hn
  obtain ⟨m, hm⟩ : ∃ m, m = (n + 63) / 64 := ⟨_, rfl⟩
  have HM := Lib.hid hm
  clear hm hT hA
  go_enter Tryd.func6, Tryd.ntmps6
  go_wp2_with fail
  refine HS.out.mono ?_
  rintro e w1 ⟨rfl, hb1⟩
  have HN := Lib.hid (New_st (n := n) (m := m) hb1 (HT.out.below hb1) HT.out.1 n rfl (by omega) HM.out)
  clear hb1
  go_wp2_with fail
  refine HN.out.mono ?_
  rintro e w2 ⟨rfl, hV⟩
  have HV := Lib.hid hV
  clear hV
  go_wp2_with fail
  refine (rNew_any n w2 hn5).mono ?_
  rintro e w3 ⟨rfl, hg3, hV3, hs3⟩
  have HP : Hid (Pl w w3 (w1.heap.size + 1) w1.heap.size (w2.heap.size + 1) w2.heap.size n m (fun _ => false)) := by
    have hb3 := below_refl_grown hg3
    have h1 := row_lt HV.out.sp.obj
    have h2 := HV.out.bel.size
    exact Lib.hid ⟨HV.out.quiet hb3, hV3, ⟨by omega, h2⟩, by omega, by omega, by omega, by omega⟩
  obtain ⟨g, hg⟩ : ∃ z, z = w1.heap.size + 1 := ⟨_, rfl⟩
  obtain ⟨h, hh⟩ : ∃ z, z = w1.heap.size := ⟨_, rfl⟩
  obtain ⟨g2, hg2⟩ : ∃ z, z = w2.heap.size + 1 := ⟨_, rfl⟩
  obtain ⟨h2, hh2⟩ : ∃ z, z = w2.heap.size := ⟨_, rfl⟩
  rw [← hg, ← hg2] at HP ⊢
  rw [← hh, ← hh2] at HP
  clear hg hh hg2 hh2 hg3 hV3 hs3 hn
  go_wp2_with fail
  refine (few_any A L c _ hnc).mono ?_
  rintro e w4 ⟨rfl, rfl⟩
  obtain ⟨M, hM⟩ : ∃ M, M = min L 300 := ⟨_, rfl⟩
  have hML : M ≤ L := by omega
  have hM3 : M ≤ 300 := by omega
  rw [← hM]
  clear hM
  go_wp2_with fail
  go_loopg [52] M (fun kq v52 w' => ∃ (i : Nat) (f : Nat → Bool), v52 = .int .i64 (i : Int) ∧ i + kq = M ∧ Pl w w' g h g2 h2 n m f)
  case atStart => exact ⟨0, _, rfl, by omega, HP.out⟩
  case round =>
    obtain ⟨i, f, rfl, hi, hV⟩ := hrel
    have HV1 := Lib.hid hV
    clear hV
    by_cases hlt : i < M
    · obtain ⟨⟨kd, z⟩, ha⟩ : ∃ a, l[i]? = some a := ⟨_, List.getElem?_eq_getElem (by rw [HL.out]; omega)⟩
      obtain ⟨klt_1, b, o, e, hbl, hr⟩ := (HA.out.below HV1.out.s.bel) i _ ha
      subst e
      have klt : kd < 256 := klt_1
      have i1 : (i : Int) < (M : Int) := by omega
      have i2 : (0 : Int) ≤ (i : Int) := by omega
      have k0 : wr.cell? ⟨b, o + i * 2, none⟩ = some (.int .u8 kd) := hr 0 _ rfl
      have k1 : wr.cell? ⟨b, o + i * 2 + 1, none⟩ = some (.int .i64 z) := hr 1 _ rfl
      clear ha hr
      go_upto_region 11 with (fail)
      obtain ⟨w5, hw5⟩ : ∃ w5, w5 = wr.alloc (Obj.cells #[Value.int IntKind.u8 (kd : Int), Value.int IntKind.i64 z] 46) := ⟨_, rfl⟩
      obtain ⟨T, hTT⟩ : ∃ T, T = wr.heap.size := ⟨_, rfl⟩
      have hrow : w5.heap[T]? = some (.cells #[Value.int IntKind.u8 (kd : Int), Value.int IntKind.i64 z] 46 (0, 0)) := by rw [hw5, hTT]; exact heap_alloc_last _ _
      have HV2 := Lib.hid (show Pl w w5 g h g2 h2 n m f by rw [hw5]; exact HV1.out.quiet (below_refl_grown (grown_alloc _ _ none)))
      have HTT := Lib.hid (show T ≠ g ∧ T ≠ h by
        have h1 := row_lt HV1.out.s.sp.obj
        have h2 := row_lt HV1.out.s.sp.row
        omega)
      have HROW := Lib.hid hrow
      have a0 : w5.cell? ⟨T, 0, none⟩ = some (.int .u8 kd) := by rw [cell_of_row _ _ _ _ _ _ hrow]; rfl
      have a1 : w5.cell? ⟨T, 1, none⟩ = some (.int .i64 z) := by rw [cell_of_row _ _ _ _ _ _ hrow]; rfl
      rw [← hw5, ← hTT]
      clear hw5 hTT k0 k1 hbl hrow klt_1
      go_upto_region 12 with (go_at_call 22; refine (does_any HV2.out.s.sp HV2.out.s.tb kd klt z).mono ?_; rintro e w6 ⟨x5, er, f', rfl, hR, hc, hs⟩)
      have HR := Lib.hid hR
      have HC := Lib.hid hc
      have HSP := Lib.hid hs
      have b0 : w6.cell? ⟨T, 0, none⟩ = some (.int .u8 kd) := (hc.cell (p := ⟨T, 0, none⟩) (row_lt HROW.out) (fun e => Or.elim (show T = g ∨ T = h from e) HTT.out.1 HTT.out.2)).trans a0
      have b1 : w6.cell? ⟨T, 1, none⟩ = some (.int .i64 z) := (hc.cell (p := ⟨T, 1, none⟩) (row_lt HROW.out) (fun e => Or.elim (show T = g ∨ T = h from e) HTT.out.1 HTT.out.2)).trans a1
      clear a0 a1 hR hc hs
      go_upto_region 13 with (go_at_call 24; refine (model_any (HV2.out.ref HC.out) kd klt z).mono ?_; rintro e w7 ⟨x6, er2, f2, rfl, hR2, hc2, ht2⟩)
      obtain ⟨rfl, rfl, rfl⟩ := HR.out.uniq hR2
      have HV7 := Lib.hid (HV2.out.both HC.out HSP.out hc2 ht2)
      clear b0 b1 hR2 hc2 ht2
      have d0 := HV7.out.t.cell
      by_cases hy : y < 0 ∨ (n : Int) ≤ y
      · have HH := Lib.hid (Has_no HV7.out.s.sp y hy)
        by_cases hy0 : y < 0
        · clear hy
          go_wp2_with (go_at_call 13; refine HH.out.mono ?_; rintro e w8 ⟨rfl, rfl⟩)
          go_roundg (M - (i + 1))
          case measure => omega
          case rel => exact ⟨i + 1, _, by go_num, by omega, HV7.out⟩
        · have hy1 : 0 ≤ y := by omega
          have hy2 : (n : Int) ≤ y := by omega
          clear hy hy0
          go_wp2_with (go_at_call 13; refine HH.out.mono ?_; rintro e w8 ⟨rfl, rfl⟩)
          go_roundg (M - (i + 1))
          case measure => omega
          case rel => exact ⟨i + 1, _, by go_num, by omega, HV7.out⟩
      · obtain ⟨p, rfl⟩ := Int.eq_ofNat_of_zero_le (show 0 ≤ y by omega)
        have hp : p < n := by omega
        have hp1 : (p : Int) < (n : Int) := by omega
        have HH := Lib.hid (Has_yes HV7.out.s.sp p hp)
        have d1 := HV7.out.t.bit p hp
        clear hy
        cases hf : f' p with
        | true =>
          rw [hf] at HH d1
          clear hf
          go_wp2_with (go_at_call 13; refine HH.out.mono ?_; rintro e w8 ⟨rfl, rfl⟩)
          go_roundg (M - (i + 1))
          case measure => omega
          case rel => exact ⟨i + 1, _, by go_num, by omega, HV7.out⟩
        | false =>
          rw [hf] at HH d1
          clear hf
          go_wp2_with (go_at_call 13; refine HH.out.mono ?_; rintro e w8 ⟨rfl, rfl⟩)
          go_roundg (M - (i + 1))
          case measure => omega
          case rel => exact ⟨i + 1, _, by go_num, by omega, HV7.out⟩
    · have hMi : M = i := by omega
      subst hMi
      have HTI := Lib.hid (takenI_length f n)
      have HLE := Lib.hid (takenL_le f n)
      obtain ⟨q, hq⟩ : ∃ q, q = (n + 7) / 8 := ⟨_, rfl⟩
      have HQ := Lib.hid hq
      have HO := Lib.hid HV1.out.s.sp.out
      have HPL := Lib.hid (pack_length q f)
      obtain ⟨P1, hP1⟩ : ∃ z, z = pack q f := ⟨_, rfl⟩
      rw [← hP1] at HPL
      have HP1 := Lib.hid hP1
      obtain ⟨TI, hTI⟩ : ∃ z, z = takenI f n := ⟨_, rfl⟩
      rw [← hTI] at HTI
      have HTE := Lib.hid hTI
      obtain ⟨tl, htl⟩ : ∃ z, z = (takenL f n).length := ⟨_, rfl⟩
      rw [← htl] at HTI HLE
      have HTLE := Lib.hid htl
      have htb : tl ≤ 16384 := by have := HLE.out; omega
      clear hq hP1 hTI htl
      go_wp2_with fail
      refine (rAll_any HV1.out.t).mono ?_
      rw [← HTE.out]
      rintro e w4 ⟨A4, c4, rfl, hc4, hI4, hA4, hb4⟩
      rw [HTI.out]
      have HV4 := Lib.hid (HV1.out.quiet hb4)
      have HI4 := Lib.hid hI4
      clear hc4 hI4 hA4 hb4
      have CK := Lib.hid HV4.out.t.cell
      have HAL := Lib.hid (fun w V hT => All_any (w := w) (g := g) (h := h) (n := n) (m := m) (f := f) V hT)
      rw [← HTE.out] at HAL
      have HRB := Lib.hid (fun W V => rBytes_m g2 h2 n q f W V HQ.out)
      rw [upF_out _ _ HO.out, ← HP1.out] at HRB
      go_wp2_with fail
      refine wp_region_held_drew (S := fun w' => Below w4.heap.size w4 w') (by kernel_rfl) ((Below.refl _ _).drew) (fun hHeld => ?_)
      refine held_take 0 (some 105) (v := ?_) rfl rfl (by kernel_rfl) (by kernel_rfl) (by kernel_rfl) (fun _ _ _ h => h) (Or.inl ⟨by rfl, ?_⟩) hHeld ?_
      rotate_left
      · (intro w' hSw; clear hSw; go_simp; try with_reducible rfl)
      try simp only [Act.put, List.setIfInBounds_toArray, List.set_cons_zero, List.set_cons_succ]
      refine held_take 1 (some 106) (v := ?_) rfl rfl (by kernel_rfl) (by kernel_rfl) (by kernel_rfl) (fun _ _ _ h => h) (Or.inl ⟨by rfl, ?_⟩) hHeld ?_
      rotate_left
      · (intro w' hSw; clear hSw; go_simp; try with_reducible rfl)
      try simp only [Act.put, List.setIfInBounds_toArray, List.set_cons_zero, List.set_cons_succ]
      refine held_take 2 (some 107) (v := ?_) rfl rfl (by kernel_rfl) (by kernel_rfl) (by kernel_rfl) (fun _ _ _ h => h) (Or.inl ⟨by rfl, ?_⟩) hHeld ?_
      rotate_left
      · (intro w' hSw; clear hSw; go_simp; try with_reducible rfl)
      try simp only [Act.put, List.setIfInBounds_toArray, List.set_cons_zero, List.set_cons_succ]
      refine held_take 4 (some 109) (v := ?_) rfl rfl (by kernel_rfl) (by kernel_rfl) (by kernel_rfl) (fun _ _ _ h => h) (Or.inl ⟨by rfl, ?_⟩) hHeld ?_
      rotate_left
      · (intro w' hSw; clear hSw; go_simp; try with_reducible rfl)
      try simp only [Act.put, List.setIfInBounds_toArray, List.set_cons_zero, List.set_cons_succ]
      refine held_take 5 (some 110) (v := ?_) rfl rfl (by kernel_rfl) (by kernel_rfl) (by kernel_rfl) (fun _ _ _ h => h) (Or.inl ⟨by rfl, ?_⟩) hHeld ?_
      rotate_left
      · (intro w' hSw; clear hSw; go_simp; try with_reducible rfl)
      try simp only [Act.put, List.setIfInBounds_toArray, List.set_cons_zero, List.set_cons_succ]
      refine held_take 6 (some 111) (v := ?_) rfl rfl (by kernel_rfl) (by kernel_rfl) (by kernel_rfl) (fun _ _ _ h => h) (Or.inl ⟨by rfl, ?_⟩) hHeld ?_
      rotate_left
      · (intro w' hSw; clear hSw; go_simp; try with_reducible rfl)
      try simp only [Act.put, List.setIfInBounds_toArray, List.set_cons_zero, List.set_cons_succ]
      refine held_take 7 (some 112) (v := ?_) rfl rfl (by kernel_rfl) (by kernel_rfl) (by kernel_rfl) (fun _ _ _ h => h) (Or.inl ⟨by rfl, ?_⟩) hHeld ?_
      rotate_left
      · (intro w' hSw; have pf := (hSw.cell (cell_lt CK.out)).trans CK.out; clear hSw; go_simp; try with_reducible rfl)
      try simp only [Act.put, List.setIfInBounds_toArray, List.set_cons_zero, List.set_cons_succ]
      refine held_take 8 (some 113) (v := ?_) rfl rfl (by kernel_rfl) (by kernel_rfl) (by kernel_rfl) (fun _ _ _ h => h) (Or.inl ⟨by rfl, ?_⟩) hHeld ?_
      rotate_left
      · (intro w' hSw; clear hSw; go_simp; try with_reducible rfl)
      try simp only [Act.put, List.setIfInBounds_toArray, List.set_cons_zero, List.set_cons_succ]
      refine wpAnyH_ready (rs := [3]) (by kernel_rfl) (by simp) ?_
      refine AllReadyH.cons rfl (fun K hKK => ?_) AllReadyH.nil
      go_simp
      go_at_call 17
      ((with_reducible refine (Len_any (HV4.out.quiet (Below.refl _ _).drew).s.sp).mono ?_))
      rintro e zq ⟨rfl, rfl⟩
      refine hKK.out _ _ (Below.refl _ _).drew (fun hHeld => ?_)
      clear hKK K
      try simp only [Act.put, List.setIfInBounds_toArray, List.set_cons_zero, List.set_cons_succ]
      refine held_take 9 (some 114) (v := ?_) rfl rfl (by kernel_rfl) (by kernel_rfl) (by kernel_rfl) (fun _ _ _ h => h) (Or.inl ⟨by rfl, ?_⟩) hHeld ?_
      rotate_left
      · (intro w' hSw; clear hSw; go_simp; try with_reducible rfl)
      try simp only [Act.put, List.setIfInBounds_toArray, List.set_cons_zero, List.set_cons_succ]
      refine held_take 10 (some 115) (v := ?_) rfl rfl (by kernel_rfl) (by kernel_rfl) (by kernel_rfl) (fun _ _ _ h => h) (Or.inl ⟨by rfl, ?_⟩) hHeld ?_
      rotate_left
      · (intro w' hSw; clear hSw; go_simp; try with_reducible rfl)
      try simp only [Act.put, List.setIfInBounds_toArray, List.set_cons_zero, List.set_cons_succ]
      refine held_take 11 (some 116) (v := ?_) rfl rfl (by kernel_rfl) (by kernel_rfl) (by kernel_rfl) (fun _ _ _ h => h) (Or.inl ⟨by rfl, ?_⟩) hHeld ?_
      rotate_left
      · (intro w' hSw; clear hSw; go_simp; try with_reducible rfl)
      try simp only [Act.put, List.setIfInBounds_toArray, List.set_cons_zero, List.set_cons_succ]
      refine held_take 12 (some 117) (v := ?_) rfl rfl (by kernel_rfl) (by kernel_rfl) (by kernel_rfl) (fun _ _ _ h => h) (Or.inl ⟨by rfl, ?_⟩) hHeld ?_
      rotate_left
      · (intro w' hSw; clear hSw; go_simp; try with_reducible rfl)
      try simp only [Act.put, List.setIfInBounds_toArray, List.set_cons_zero, List.set_cons_succ]
      refine held_take 14 (some 119) (v := ?_) rfl rfl (by kernel_rfl) (by kernel_rfl) (by kernel_rfl) (fun _ _ _ h => h) (Or.inl ⟨by rfl, ?_⟩) hHeld ?_
      rotate_left
      · (intro w' hSw; clear hSw; go_simp; try with_reducible rfl)
      try simp only [Act.put, List.setIfInBounds_toArray, List.set_cons_zero, List.set_cons_succ]
      refine held_take 15 (some 120) (v := ?_) rfl rfl (by kernel_rfl) (by kernel_rfl) (by kernel_rfl) (fun _ _ _ h => h) (Or.inl ⟨by rfl, ?_⟩) hHeld ?_
      rotate_left
      · (intro w' hSw; clear hSw; go_simp; try with_reducible rfl)
      try simp only [Act.put, List.setIfInBounds_toArray, List.set_cons_zero, List.set_cons_succ]
      refine wpAnyH_ready (rs := [13]) (by kernel_rfl) (by simp) ?_
      refine AllReadyH.cons rfl (fun K hKK => ?_) AllReadyH.nil
      go_simp
      go_at_call 12
      ((with_reducible refine (Taken_any (HV4.out.quiet (Below.refl _ _).drew).s.sp).mono ?_))
      rw [← HTLE.out]
      rintro e zq ⟨rfl, rfl⟩
      refine hKK.out _ _ (Below.refl _ _).drew (fun hHeld => ?_)
      clear hKK K
      try simp only [Act.put, List.setIfInBounds_toArray, List.set_cons_zero, List.set_cons_succ]
      refine held_take 16 (some 121) (v := ?_) rfl rfl (by kernel_rfl) (by kernel_rfl) (by kernel_rfl) (fun _ _ _ h => h) (Or.inl ⟨by rfl, ?_⟩) hHeld ?_
      rotate_left
      · (intro w' hSw; clear hSw; go_simp; try with_reducible rfl)
      try simp only [Act.put, List.setIfInBounds_toArray, List.set_cons_zero, List.set_cons_succ]
      refine held_take 17 (some 122) (v := ?_) rfl rfl (by kernel_rfl) (by kernel_rfl) (by kernel_rfl) (fun _ _ _ h => h) (Or.inl ⟨by rfl, ?_⟩) hHeld ?_
      rotate_left
      · (intro w' hSw; clear hSw; go_simp; try with_reducible rfl)
      try simp only [Act.put, List.setIfInBounds_toArray, List.set_cons_zero, List.set_cons_succ]
      refine held_take 18 (some 123) (v := ?_) rfl rfl (by kernel_rfl) (by kernel_rfl) (by kernel_rfl) (fun _ _ _ h => h) (Or.inl ⟨by rfl, ?_⟩) hHeld ?_
      rotate_left
      · (intro w' hSw; clear hSw; go_simp; try with_reducible rfl)
      try simp only [Act.put, List.setIfInBounds_toArray, List.set_cons_zero, List.set_cons_succ]
      refine held_take 19 (some 124) (v := ?_) rfl rfl (by kernel_rfl) (by kernel_rfl) (by kernel_rfl) (fun _ _ _ h => h) (Or.inl ⟨by rfl, ?_⟩) hHeld ?_
      rotate_left
      · (intro w' hSw; clear hSw; go_simp; try with_reducible rfl)
      try simp only [Act.put, List.setIfInBounds_toArray, List.set_cons_zero, List.set_cons_succ]
      refine held_take 21 (some 126) (v := ?_) rfl rfl (by kernel_rfl) (by kernel_rfl) (by kernel_rfl) (fun _ _ _ h => h) (Or.inl ⟨by rfl, ?_⟩) hHeld ?_
      rotate_left
      · (intro w' hSw; clear hSw; go_simp; try with_reducible rfl)
      try simp only [Act.put, List.setIfInBounds_toArray, List.set_cons_zero, List.set_cons_succ]
      refine wpAnyH_ready (rs := [20]) (by kernel_rfl) (by simp) ?_
      refine AllReadyH.cons rfl (fun K hKK => ?_) AllReadyH.nil
      go_simp
      go_at_call 21
      ((with_reducible refine (HAL.out _ (HV4.out.quiet (Below.refl _ _).drew).s.sp (HV4.out.quiet (Below.refl _ _).drew).s.tb).mono ?_))
      skip
      rintro e v1 ⟨Av1, cv1, rfl, hcv1, hIv1, hAv1, hbv1⟩
      rw [HTI.out]
      have hB1 : Below w4.heap.size w4 v1 := ((Below.refl w4.heap.size w4).drew).trans (hbv1.mono ((Below.refl w4.heap.size w4).drew).size)
      have HIv1 := Lib.hid hIv1
      refine hKK.out _ _ hB1 (fun _ => held_more (S1 := fun w' => Below v1.heap.size v1 w') (fun w' h => hB1.trans (h.mono hB1.size)) _ _ _ _ ?_)
      have hHeld := Below.refl v1.heap.size v1
      clear hKK K hIv1 hAv1
      try simp only [Act.put, List.setIfInBounds_toArray, List.set_cons_zero, List.set_cons_succ]
      refine wpAnyH_ready (rs := [22]) (by kernel_rfl) (by simp) ?_
      refine AllReadyH.cons rfl (fun K hKK => ?_) AllReadyH.nil
      go_simp
      go_at_call 25
      ((with_reducible refine (Same_yes Av1 A4 tl cv1 c4 TI _ HTI.out (by omega) HIv1.out (HI4.out.below hB1)).mono ?_))
      rintro e v5 ⟨rfl, q5, rfl⟩
      have hB2 : Below w4.heap.size w4 (v1.drewN q5) := hB1.trans (below_drewN (Below.refl _ _) q5 |>.mono hB1.size)
      refine hKK.out _ _ (below_drewN (Below.refl _ _) q5) (fun hHeld => ?_)
      clear hKK K
      try simp only [Act.put, List.setIfInBounds_toArray, List.set_cons_zero, List.set_cons_succ]
      refine held_take 23 (some 128) (v := ?_) rfl rfl (by kernel_rfl) (by kernel_rfl) (by kernel_rfl) (fun _ _ _ h => h) (Or.inl ⟨by rfl, ?_⟩) hHeld ?_
      rotate_left
      · (intro w' hSw; clear hSw; go_simp; try with_reducible rfl)
      try simp only [Act.put, List.setIfInBounds_toArray, List.set_cons_zero, List.set_cons_succ]
      refine held_take 24 (some 129) (v := ?_) rfl rfl (by kernel_rfl) (by kernel_rfl) (by kernel_rfl) (fun _ _ _ h => h) (Or.inl ⟨by rfl, ?_⟩) hHeld ?_
      rotate_left
      · (intro w' hSw; clear hSw; go_simp; try with_reducible rfl)
      try simp only [Act.put, List.setIfInBounds_toArray, List.set_cons_zero, List.set_cons_succ]
      refine held_take 25 (some 130) (v := ?_) rfl rfl (by kernel_rfl) (by kernel_rfl) (by kernel_rfl) (fun _ _ _ h => h) (Or.inl ⟨by rfl, ?_⟩) hHeld ?_
      rotate_left
      · (intro w' hSw; clear hSw; go_simp; try with_reducible rfl)
      try simp only [Act.put, List.setIfInBounds_toArray, List.set_cons_zero, List.set_cons_succ]
      refine held_take 28 (some 133) (v := ?_) rfl rfl (by kernel_rfl) (by kernel_rfl) (by kernel_rfl) (fun _ _ _ h => h) (Or.inl ⟨by rfl, ?_⟩) hHeld ?_
      rotate_left
      · (intro w' hSw; clear hSw; go_simp; try with_reducible rfl)
      try simp only [Act.put, List.setIfInBounds_toArray, List.set_cons_zero, List.set_cons_succ]
      refine wpAnyH_ready (rs := [26]) (by kernel_rfl) (by simp) ?_
      refine AllReadyH.cons rfl (fun K hKK => ?_) AllReadyH.nil
      go_simp
      go_at_call 19
      ((with_reducible refine (Bytes_any (HV4.out.quiet hB2).s.sp q HQ.out).mono ?_))
      rw [← HP1.out]
      rintro e v2 ⟨Av2, cv2, rfl, hcv2, hIv2, hAv2, hbv2⟩
      rw [HPL.out]
      have hB3 : Below w4.heap.size w4 v2 := (hB2).trans (hbv2.mono (hB2).size)
      have HIv2 := Lib.hid hIv2
      have hX2 : Below v1.heap.size v1 v2 := (below_drewN (Below.refl _ _) q5).trans hbv2
      refine hKK.out _ _ hX2 (fun _ => held_more (S1 := fun w' => Below v2.heap.size v2 w') (fun w' h => hX2.trans (h.mono hX2.size)) _ _ _ _ ?_)
      have hHeld := Below.refl v2.heap.size v2
      clear hKK K hIv2 hAv2
      try simp only [Act.put, List.setIfInBounds_toArray, List.set_cons_zero, List.set_cons_succ]
      refine held_take 27 (some 132) (v := .string (strOfNums P1)) rfl rfl (by kernel_rfl) (by kernel_rfl) (by kernel_rfl) (fun _ _ _ h => h) (yieldsIf_conv (by rfl) 34 9 5 _ rfl Av2 q cv2 _ rfl HPL.out (fun w' h => HIv2.out.below h) Tryd.underlying34 Tryd.underlying5 Tryd.underlying9) hHeld ?_
      try simp only [Act.put, List.setIfInBounds_toArray, List.set_cons_zero, List.set_cons_succ]
      refine wpAnyH_ready (rs := [29]) (by kernel_rfl) (by simp) ?_
      refine AllReadyH.cons rfl (fun K hKK => ?_) AllReadyH.nil
      go_simp
      go_at_call 26
      ((with_reducible refine (HRB.out _ (HV4.out.quiet hB3).t).mono ?_))
      skip
      rintro e v3 ⟨Av3, cv3, rfl, hcv3, hIv3, hAv3, hbv3⟩
      rw [HPL.out]
      have hB4 : Below w4.heap.size w4 v3 := (hB3).trans (hbv3.mono (hB3).size)
      have HIv3 := Lib.hid hIv3
      refine hKK.out _ _ hbv3 (fun _ => held_more (S1 := fun w' => Below v3.heap.size v3 w') (fun w' h => hbv3.trans (h.mono hbv3.size)) _ _ _ _ ?_)
      have hHeld := Below.refl v3.heap.size v3
      clear hKK K hIv3 hAv3
      try simp only [Act.put, List.setIfInBounds_toArray, List.set_cons_zero, List.set_cons_succ]
      refine held_take 30 (some 135) (v := .string (strOfNums P1)) rfl rfl (by kernel_rfl) (by kernel_rfl) (by kernel_rfl) (fun _ _ _ h => h) (yieldsIf_conv (by rfl) 34 9 5 _ rfl Av3 q cv3 _ rfl HPL.out (fun w' h => HIv3.out.below h) Tryd.underlying34 Tryd.underlying5 Tryd.underlying9) hHeld ?_
      try simp only [Act.put, List.setIfInBounds_toArray, List.set_cons_zero, List.set_cons_succ]
      refine held_take 31 (some 136) (v := ?_) rfl rfl (by kernel_rfl) (by kernel_rfl) (by kernel_rfl) (fun _ _ _ h => h) (Or.inl ⟨by rfl, ?_⟩) hHeld ?_
      rotate_left
      · (intro w' hSw; clear hSw; go_simp; try with_reducible rfl)
      try simp only [Act.put, List.setIfInBounds_toArray, List.set_cons_zero, List.set_cons_succ]
      refine held_take 32 (some 137) (v := ?_) rfl rfl (by kernel_rfl) (by kernel_rfl) (by kernel_rfl) (fun _ _ _ h => h) (Or.inl ⟨by rfl, ?_⟩) hHeld ?_
      rotate_left
      · (intro w' hSw; clear hSw; go_simp; try with_reducible rfl)
      try simp only [Act.put, List.setIfInBounds_toArray, List.set_cons_zero, List.set_cons_succ]
      refine held_take 33 (some 6) (v := ?_) rfl rfl (by kernel_rfl) (by kernel_rfl) (by kernel_rfl) (fun _ _ _ h => h) (Or.inl ⟨by rfl, ?_⟩) hHeld ?_
      rotate_left
      · (intro w' hSw; clear hSw; go_simp; try with_reducible rfl)
      try simp only [Act.put, List.setIfInBounds_toArray, List.set_cons_zero, List.set_cons_succ]
      refine wpAnyH_done (by kernel_rfl) ?_ _
      have HBL := Lib.hid (HV4.out.s.bel.trans ((hB4.trans ((hHeld).mono hB4.size)).mono HV4.out.s.bel.size))
      clear hB1 hB2 hB3 hB4 hbv1 hbv2 hbv3 hX2 hHeld
      go_wp2_with fail
      go_ret
      exact ⟨rfl, HBL.out⟩

theorem Plays_law (x y : Int) (A : Option Addr) (c : Nat) (l : List (Nat × Int)) (w : World) (hT : Tb w) (hA : Acts w A l) (hnc : l.length ≤ c) :
    Calls Tryd.prog 6 #[.int .i64 x, .slice A l.length c, .int .i64 y] w fun e w' => e = .returned (.bool true) ∧ Below w.heap.size w w' := by
  by_cases h : x < 0 ∨ 16384 < x
  · exact Plays_bad x y _ w hT h
  · obtain ⟨n, rfl⟩ := Int.eq_ofNat_of_zero_le (show 0 ≤ x by omega)
    exact Plays_good n y A c l _ w hT (by omega) rfl hA hnc
end Go.Proofs.YtdnincnfamcchaaDoor
