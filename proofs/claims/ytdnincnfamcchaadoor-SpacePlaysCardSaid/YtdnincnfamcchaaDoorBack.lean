/- space: the walk of SpaceBack. -/
import Derived.Test.YtdnincnfamcchaaDoorLeast
namespace Go.Proofs.YtdnincnfamcchaaDoor
open Go.RowKit

/-- Two spaces that came new behind w0. -/
structure Pr (w0 w : World) (g h g2 h2 n m : Nat) (f f2 : Nat → Bool) : Prop where
  s : St w0 w g h n m f
  t : St w0 w g2 h2 n m f2
  dis : g2 ≠ g ∧ g2 ≠ h ∧ h2 ≠ g ∧ h2 ≠ h
section
variable {w0 w w' : World} {g h g2 h2 n m : Nat} {f f2 f' : Nat → Bool}
theorem Pr.stepS (V : Pr w0 w g h g2 h2 n m f f2) (hc : Chg (Two g h) w w') (hs : Sp w' g h n m f') : Pr w0 w' g h g2 h2 n m f' f2 := by
  obtain ⟨d1, d2, d3, d4⟩ := V.dis
  have hS := V.s.step hc hs
  exact ⟨hS, ⟨hS.bel, hS.tb, V.t.sp.kept hc (by rintro (e | e) <;> contradiction) (by rintro (e | e) <;> contradiction), V.t.ge, V.t.pos⟩, V.dis⟩
theorem Pr.stepT (V : Pr w0 w g h g2 h2 n m f f2) (hc : Chg (Two g2 h2) w w') (hs : Sp w' g2 h2 n m f') : Pr w0 w' g h g2 h2 n m f f' := by
  obtain ⟨d1, d2, d3, d4⟩ := V.dis
  have hS := V.t.step hc hs
  exact ⟨⟨hS.bel, hS.tb, V.s.sp.kept hc (by rintro (e | e) <;> exact absurd e.symm (by assumption)) (by rintro (e | e) <;> exact absurd e.symm (by assumption)), V.s.ge, V.s.pos⟩, hS, V.dis⟩
theorem Pr.quiet (V : Pr w0 w g h g2 h2 n m f f2) (hb : Below w.heap.size w w') : Pr w0 w' g h g2 h2 n m f f2 := ⟨V.s.quiet hb, V.t.quiet hb, V.dis⟩
end
theorem bitOf_back (n q : Nat) (f : Nat → Bool) (hq : q = (n + 7) / 8) (ho : ∀ p, n ≤ p → f p = false) : bitOf (pack q f) = f := by
  funext p
  rw [bitOf_pack]
  by_cases h : p < 8 * q
  · simp [h]
  · rw [ho p (by omega)]; rfl

set_option maxRecDepth 20000 in
set_option maxHeartbeats 6400000 in
theorem Back_law (x : Int) (A B : Option Addr) (c d : Nat) (l k : List (Nat × Int)) (L K : Nat) (w : World) (hT : Tb w) (hx0 : 0 ≤ x) (hx1 : x ≤ 65535) (hn : l.length = L) (hA : Acts w A l) (hnc : L ≤ c) (hk : k.length = K) (hB : Acts w B k) (hkd : K ≤ d) :
    Calls Tryd.prog 7 #[.int .u16 x, .slice A L c, .slice B K d] w fun e w' => e = .returned (.bool true) ∧ Below w.heap.size w w' := by
  have HS := Lib.hid (shown_any w hT)
  have HT := Lib.hid hT
  have HA := Lib.hid hA
  have HL := Lib.hid hn
  have HAB := Lib.hid hB
  have HLB := Lib.hid hk
  obtain ⟨n, hn⟩ : ∃ n : Nat, x % 2001 = (n : Int) := ⟨(x % 2001).toNat, by omega⟩
  have hn5 : n ≤ 2000 := by omega
  obtain ⟨m, hm⟩ : ∃ m, m = (n + 63) / 64 := ⟨_, rfl⟩
  have HM := Lib.hid hm
  clear hm hT hA hB hk
  go_enter Tryd.func7, Tryd.ntmps7
  go_wp2_with fail
  refine HS.out.mono ?_
  rintro e w1 ⟨rfl, hb1⟩
  have HN := Lib.hid (New_st (n := n) (m := m) hb1 (HT.out.below hb1) HT.out.1 n rfl (by omega) HM.out)
  clear hb1
  go_wp2_with fail
  refine HN.out.mono ?_
  rintro e w2 ⟨rfl, hV⟩
  have HN2 := Lib.hid (New_st (n := n) (m := m) hV.bel hV.tb hV.pos n rfl (by omega) HM.out)
  have HV := Lib.hid hV
  clear hV
  go_wp2_with fail
  refine (New_any n m w2 (by omega) HM.out).mono ?_
  rintro e w3 ⟨rfl, hg3, hV3, hs3⟩
  have HP : Hid (Pr w w3 (w1.heap.size + 1) w1.heap.size (w2.heap.size + 1) w2.heap.size n m (fun _ => false) (fun _ => false)) := by
    have hb3 := below_refl_grown hg3
    have h1 := row_lt HV.out.sp.obj
    have h2 := HV.out.bel.size
    have hS := HV.out.quiet hb3
    exact Lib.hid ⟨hS, ⟨hS.bel, hS.tb, hV3, ⟨by omega, h2⟩, hS.pos⟩, by omega, by omega, by omega, by omega⟩
  obtain ⟨g, hg⟩ : ∃ z, z = w1.heap.size + 1 := ⟨_, rfl⟩
  obtain ⟨h, hh⟩ : ∃ z, z = w1.heap.size := ⟨_, rfl⟩
  obtain ⟨g2, hg2⟩ : ∃ z, z = w2.heap.size + 1 := ⟨_, rfl⟩
  obtain ⟨h2, hh2⟩ : ∃ z, z = w2.heap.size := ⟨_, rfl⟩
  rw [← hg, ← hg2] at HP ⊢
  rw [← hh, ← hh2] at HP
  clear hg hh hg2 hh2 hg3 hV3 hs3 hn hx0 hx1
  go_wp2_with fail
  refine (few_any A L c _ hnc).mono ?_
  rintro e w4 ⟨rfl, rfl⟩
  obtain ⟨M, hM⟩ : ∃ M, M = min L 300 := ⟨_, rfl⟩
  have hML : M ≤ L := by omega
  have hM3 : M ≤ 300 := by omega
  rw [← hM]
  clear hM
  go_wp2_with fail
  go_loopg [50] M (fun kq v50 w' => ∃ (i : Nat) (f : Nat → Bool), v50 = .int .i64 (i : Int) ∧ i + kq = M ∧ Pr w w' g h g2 h2 n m f (fun _ => false))
  case atStart => exact ⟨0, _, rfl, by omega, HP.out⟩
  case round =>
    obtain ⟨i, f, rfl, hi, hV⟩ := hrel
    have HV1 := Lib.hid hV
    clear hV
    by_cases hlt : i < M
    · obtain ⟨⟨kd, z⟩, ha⟩ : ∃ a, l[i]? = some a := ⟨_, List.getElem?_eq_getElem (by rw [HL.out]; omega)⟩
      obtain ⟨klt_1, b, o, e, hbl, hr⟩ := (HA.out.below HV1.out.s.bel) i _ ha
      subst e
      have klt : kd < 256 := klt_1
      have i1 : (i : Int) < (M : Int) := by omega
      have i2 : (0 : Int) ≤ (i : Int) := by omega
      have k0 : wr.cell? ⟨b, o + i * 2, none⟩ = some (.int .u8 kd) := hr 0 _ rfl
      have k1 : wr.cell? ⟨b, o + i * 2 + 1, none⟩ = some (.int .i64 z) := hr 1 _ rfl
      clear ha hr
      go_upto_region 9 with (fail)
      obtain ⟨w5, hw5⟩ : ∃ w5, w5 = wr.alloc (Obj.cells #[Value.int IntKind.u8 (kd : Int), Value.int IntKind.i64 z] 46) := ⟨_, rfl⟩
      obtain ⟨T, hTT⟩ : ∃ T, T = wr.heap.size := ⟨_, rfl⟩
      have hrow : w5.heap[T]? = some (.cells #[Value.int IntKind.u8 (kd : Int), Value.int IntKind.i64 z] 46 (0, 0)) := by rw [hw5, hTT]; exact heap_alloc_last _ _
      have HV2 := Lib.hid (show Pr w w5 g h g2 h2 n m f (fun _ => false) by rw [hw5]; exact HV1.out.quiet (below_refl_grown (grown_alloc _ _ none)))
      have a0 : w5.cell? ⟨T, 0, none⟩ = some (.int .u8 kd) := by rw [cell_of_row _ _ _ _ _ _ hrow]; rfl
      have a1 : w5.cell? ⟨T, 1, none⟩ = some (.int .i64 z) := by rw [cell_of_row _ _ _ _ _ _ hrow]; rfl
      rw [← hw5, ← hTT]
      clear hw5 hTT k0 k1 hbl hrow klt_1
      go_wp2_with fail
      refine (does_any HV2.out.s.sp HV2.out.s.tb kd klt z).mono ?_
      rintro e w6 ⟨x5, er, f', rfl, hR, hc, hs⟩
      have HV5 := Lib.hid (HV2.out.stepS hc hs)
      clear hc hs hR
      go_wp2_with fail
      go_roundg (M - (i + 1))
      case measure => omega
      case rel => exact ⟨i + 1, f', by go_num, by omega, HV5.out⟩
    · have hMi : M = i := by omega
      subst hMi
      go_wp2_with fail
      refine (few_any B K d _ hkd).mono ?_
      rintro e w4 ⟨rfl, rfl⟩
      obtain ⟨N, hN⟩ : ∃ N, N = min K 300 := ⟨_, rfl⟩
      have hNK : N ≤ K := by omega
      have hN3 : N ≤ 300 := by omega
      rw [← hN]
      clear hN
      obtain ⟨f1, hf1⟩ : ∃ f1, f1 = f := ⟨_, rfl⟩
      rw [← hf1] at HV1
      clear hf1 HP
      have HP := HV1
      clear HV1
      go_wp2_with fail
      go_loopg [61] N (fun kq v61 w' => ∃ (i : Nat) (f : Nat → Bool), v61 = .int .i64 (i : Int) ∧ i + kq = N ∧ Pr w w' g h g2 h2 n m f1 f)
      case atStart => exact ⟨0, _, rfl, by omega, HP.out⟩
      case round =>
        obtain ⟨i, f, rfl, hi, hV⟩ := hrel
        have HV1 := Lib.hid hV
        clear hV
        by_cases hlt : i < N
        · obtain ⟨⟨kd, z⟩, ha⟩ : ∃ a, k[i]? = some a := ⟨_, List.getElem?_eq_getElem (by rw [HLB.out]; omega)⟩
          obtain ⟨klt_1, b, o, e, hbl, hr⟩ := (HAB.out.below HV1.out.s.bel) i _ ha
          subst e
          have klt : kd < 256 := klt_1
          have i1 : (i : Int) < (N : Int) := by omega
          have i2 : (0 : Int) ≤ (i : Int) := by omega
          have k0 : wr.cell? ⟨b, o + i * 2, none⟩ = some (.int .u8 kd) := hr 0 _ rfl
          have k1 : wr.cell? ⟨b, o + i * 2 + 1, none⟩ = some (.int .i64 z) := hr 1 _ rfl
          clear ha hr
          go_upto_region 14 with (fail)
          obtain ⟨w5, hw5⟩ : ∃ w5, w5 = wr.alloc (Obj.cells #[Value.int IntKind.u8 (kd : Int), Value.int IntKind.i64 z] 46) := ⟨_, rfl⟩
          obtain ⟨T, hTT⟩ : ∃ T, T = wr.heap.size := ⟨_, rfl⟩
          have hrow : w5.heap[T]? = some (.cells #[Value.int IntKind.u8 (kd : Int), Value.int IntKind.i64 z] 46 (0, 0)) := by rw [hw5, hTT]; exact heap_alloc_last _ _
          have HV2 := Lib.hid (show Pr w w5 g h g2 h2 n m f1 f by rw [hw5]; exact HV1.out.quiet (below_refl_grown (grown_alloc _ _ none)))
          have a0 : w5.cell? ⟨T, 0, none⟩ = some (.int .u8 kd) := by rw [cell_of_row _ _ _ _ _ _ hrow]; rfl
          have a1 : w5.cell? ⟨T, 1, none⟩ = some (.int .i64 z) := by rw [cell_of_row _ _ _ _ _ _ hrow]; rfl
          rw [← hw5, ← hTT]
          clear hw5 hTT k0 k1 hbl hrow klt_1
          go_wp2_with fail
          refine (does_any HV2.out.t.sp HV2.out.t.tb kd klt z).mono ?_
          rintro e w6 ⟨x5, er, f', rfl, hR, hc, hs⟩
          have HV5 := Lib.hid (HV2.out.stepT hc hs)
          clear hc hs hR
          go_wp2_with fail
          go_roundg (N - (i + 1))
          case measure => omega
          case rel => exact ⟨i + 1, f', by go_num, by omega, HV5.out⟩
        · have hNi : N = i := by omega
          subst hNi
          obtain ⟨f2, hf2⟩ : ∃ f2, f2 = f := ⟨_, rfl⟩
          rw [← hf2] at HV1
          obtain ⟨q, hq⟩ : ∃ q, q = (n + 7) / 8 := ⟨_, rfl⟩
          have HQ := Lib.hid hq
          have HO1 := Lib.hid HV1.out.s.sp.out
          have HO2 := Lib.hid HV1.out.t.sp.out
          have HBK := Lib.hid (bitOf_back n q f1 hq HO1.out)
          have HOK := Lib.hid (show Ok n (pack q f1) from fun p hp => by rw [HBK.out]; exact HO1.out p hp)
          have HPL := Lib.hid (pack_length q f1)
          clear hf2 hq
          go_wp2_with fail
          refine (Len_any HV1.out.s.sp).mono ?_
          rintro e w4 ⟨rfl, rfl⟩
          go_wp2_with fail
          refine (Bytes_any HV1.out.s.sp q HQ.out).mono ?_
          rintro e w4 ⟨A4, c4, rfl, hc4, hI4, hA4, hb4⟩
          have HV4 := Lib.hid (HV1.out.quiet hb4)
          have HI4 := Lib.hid hI4
          rw [HPL.out]
          clear hI4 hA4 hb4 hc4
          go_wp2_with fail
          refine (Load_any n c4 q m (pack q f1) A4 w4 (by omega) HM.out (pack_bytes q f1) HPL.out HQ.out HI4.out HOK.out).mono ?_
          rw [HBK.out]
          rintro e w5 ⟨rfl, hg5, hV5, hs5⟩
          have HV5 := Lib.hid (HV4.out.quiet (below_refl_grown hg5))
          have HX5 := Lib.hid hV5
          obtain ⟨gx, hgx⟩ : ∃ z, z = w4.heap.size + 1 := ⟨_, rfl⟩
          rw [← hgx] at HX5 ⊢
          obtain ⟨hx, hhx⟩ : ∃ z, z = w4.heap.size := ⟨_, rfl⟩
          rw [← hhx] at HX5
          clear hg5 hV5 hs5 hgx hhx
          have HTI1 := Lib.hid (takenI_length f1 n)
          have HLE1 := Lib.hid (takenL_le f1 n)
          go_wp2_with fail
          refine (All_any HX5.out HV5.out.s.tb).mono ?_
          rintro e w6 ⟨A6, c6, rfl, hc6, hI6, hA6, hb6⟩
          have HV6 := Lib.hid (HV5.out.quiet hb6)
          have HX6 := Lib.hid (HX5.out.kept (R := fun _ => False) (Chg.belowAt hb6) (fun h => h) (fun h => h))
          have HI6 := Lib.hid hI6
          clear hc6 hI6 hA6 hb6
          go_wp2_with fail
          refine (All_any HV6.out.s.sp HV6.out.s.tb).mono ?_
          rintro e w7 ⟨A7, c7, rfl, hc7, hI7, hA7, hb7⟩
          have HV7 := Lib.hid (HV6.out.quiet hb7)
          have HX7 := Lib.hid (HX6.out.kept (R := fun _ => False) (Chg.belowAt hb7) (fun h => h) (fun h => h))
          have HI7 := Lib.hid hI7
          have HJ7 := Lib.hid (HI6.out.below hb7)
          clear hc7 hI7 hA7 hb7
          go_wp2_with fail
          refine (Same_yes A6 A7 _ c6 c7 (takenI f1 n) w7 rfl (by rw [HTI1.out]; have := HLE1.out; omega) HJ7.out HI7.out).mono ?_
          rintro e w8 ⟨rfl, q8, rfl⟩
          have HV8 := Lib.hid (HV7.out.quiet (below_drewN (Below.refl _ _) q8))
          have HX8 := Lib.hid (HX7.out.kept (R := fun _ => False) (Chg.belowAt (below_drewN (Below.refl _ _) q8)) (fun h => h) (fun h => h))
          obtain ⟨w8, hw8⟩ : ∃ w8, w8 = w7.drewN q8 := ⟨_, rfl⟩
          rw [← hw8] at HV8 HX8 ⊢
          clear hw8
          obtain ⟨tl, htl⟩ : ∃ tl, tl = (takenL f1 n).length := ⟨_, rfl⟩
          have HTL := Lib.hid htl
          clear htl
          go_wp2_with fail
          refine (Taken_any HX8.out).mono ?_
          rw [← HTL.out]
          rintro e w9 ⟨rfl, rfl⟩
          go_wp2_with fail
          refine (Taken_any HV8.out.s.sp).mono ?_
          rw [← HTL.out]
          rintro e w9 ⟨rfl, rfl⟩
          obtain ⟨B1, hB1⟩ : ∃ b, b = decide (takenI f1 n = takenI f2 n) := ⟨_, rfl⟩
          have HEQ := Lib.hid (show ((strOfNums (pack q f1)).toList == (strOfNums (pack q f2)).toList) = B1 by
            rw [hB1]
            by_cases he : takenI f1 n = takenI f2 n
            · rw [(pack_eq f1 f2 n q HQ.out HO1.out HO2.out).2 ((takenI_eq f1 f2 n).1 he)]
              simp [he]
            · have hne : ¬ pack q f1 = pack q f2 := fun e => he ((takenI_eq f1 f2 n).2 ((pack_eq f1 f2 n q HQ.out HO1.out HO2.out).1 e))
              rw [beq_false_of_ne (fun e => hne (str_inj (pack_bytes q f1) (pack_bytes q f2) (toList_inj e)))]
              simp [he])
          have HB1 := Lib.hid hB1
          clear hB1
          have HPL2 := Lib.hid (pack_length q f2)
          have HTI2 := Lib.hid (takenI_length f2 n)
          have HLE2 := Lib.hid (takenL_le f2 n)
          generalize hP1 : pack q f1 = P1 at *
          generalize hP2 : pack q f2 = P2 at *
          have HP1 := Lib.hid hP1
          have HP2 := Lib.hid hP2
          clear hP1 hP2
          have HT1 := Lib.hid (fun w V hT => All_any (w := w) (g := g) (h := h) (n := n) (m := m) (f := f1) V hT)
          have HT2 := Lib.hid (fun w V hT => All_any (w := w) (g := g2) (h := h2) (n := n) (m := m) (f := f2) V hT)
          generalize takenI f1 n = I1 at *
          generalize takenI f2 n = I2 at *
          obtain ⟨i1, hi1⟩ : ∃ z, z = I1.length := ⟨_, rfl⟩
          obtain ⟨i2, hi2⟩ : ∃ z, z = I2.length := ⟨_, rfl⟩
          have HL1 := Lib.hid hi1
          have HL2 := Lib.hid hi2
          have hi1b : i1 ≤ 2000 := by have := HTI1.out; have := HLE1.out; omega
          have hi2b : i2 ≤ 2000 := by have := HTI2.out; have := HLE2.out; omega
          clear hi1 hi2
          go_wp2_with fail
          refine wp_region_held_drew (S := fun w' => Below w8.heap.size w8 w') (by kernel_rfl) ((Below.refl _ _).drew) (fun hHeld => ?_)
          refine held_take 0 (some 98) (v := ?_) rfl rfl (by kernel_rfl) (by kernel_rfl) (by kernel_rfl) (fun _ _ _ h => h) (Or.inl ⟨by rfl, ?_⟩) hHeld ?_
          rotate_left
          · (intro w' hSw; clear hSw; go_simp; try with_reducible rfl)
          try simp only [Act.put, List.setIfInBounds_toArray, List.set_cons_zero, List.set_cons_succ]
          refine held_take 1 (some 99) (v := ?_) rfl rfl (by kernel_rfl) (by kernel_rfl) (by kernel_rfl) (fun _ _ _ h => h) (Or.inl ⟨by rfl, ?_⟩) hHeld ?_
          rotate_left
          · (intro w' hSw; clear hSw; go_simp; try with_reducible rfl)
          try simp only [Act.put, List.setIfInBounds_toArray, List.set_cons_zero, List.set_cons_succ]
          refine held_take 2 (some 100) (v := ?_) rfl rfl (by kernel_rfl) (by kernel_rfl) (by kernel_rfl) (fun _ _ _ h => h) (Or.inl ⟨by rfl, ?_⟩) hHeld ?_
          rotate_left
          · (intro w' hSw; clear hSw; go_simp; try with_reducible rfl)
          try simp only [Act.put, List.setIfInBounds_toArray, List.set_cons_zero, List.set_cons_succ]
          refine held_take 5 (some 103) (v := ?_) rfl rfl (by kernel_rfl) (by kernel_rfl) (by kernel_rfl) (fun _ _ _ h => h) (Or.inl ⟨by rfl, ?_⟩) hHeld ?_
          rotate_left
          · (intro w' hSw; clear hSw; go_simp; try with_reducible rfl)
          try simp only [Act.put, List.setIfInBounds_toArray, List.set_cons_zero, List.set_cons_succ]
          refine held_take 9 (some 107) (v := ?_) rfl rfl (by kernel_rfl) (by kernel_rfl) (by kernel_rfl) (fun _ _ _ h => h) (Or.inl ⟨by rfl, ?_⟩) hHeld ?_
          rotate_left
          · (intro w' hSw; clear hSw; go_simp; try with_reducible rfl)
          try simp only [Act.put, List.setIfInBounds_toArray, List.set_cons_zero, List.set_cons_succ]
          refine held_take 11 (some 109) (v := ?_) rfl rfl (by kernel_rfl) (by kernel_rfl) (by kernel_rfl) (fun _ _ _ h => h) (Or.inl ⟨by rfl, ?_⟩) hHeld ?_
          rotate_left
          · (intro w' hSw; clear hSw; go_simp; try with_reducible rfl)
          try simp only [Act.put, List.setIfInBounds_toArray, List.set_cons_zero, List.set_cons_succ]
          refine wpAnyH_ready (rs := [3]) (by kernel_rfl) (by simp) ?_
          refine AllReadyH.cons rfl (fun K hKK => ?_) AllReadyH.nil
          go_simp
          go_at_call 19
          ((with_reducible refine (Bytes_any (HV8.out.quiet (Below.refl _ _).drew).s.sp q HQ.out).mono ?_))
          rw [HP1.out]
          rintro e v1 ⟨Av1, cv1, rfl, hcv1, hIv1, hAv1, hbv1⟩
          rw [HPL.out]
          have hB1 : Below w8.heap.size w8 v1 := ((Below.refl w8.heap.size w8).drew).trans (hbv1.mono ((Below.refl w8.heap.size w8).drew).size)
          have HIv1 := Lib.hid hIv1
          refine hKK.out _ _ hB1 (fun _ => held_more (S1 := fun w' => Below v1.heap.size v1 w') (fun w' h => hB1.trans (h.mono hB1.size)) _ _ _ _ ?_)
          have hHeld := Below.refl v1.heap.size v1
          clear hKK K hIv1 hAv1
          try simp only [Act.put, List.setIfInBounds_toArray, List.set_cons_zero, List.set_cons_succ]
          refine held_take 4 (some 102) (v := .string (strOfNums P1)) rfl rfl (by kernel_rfl) (by kernel_rfl) (by kernel_rfl) (fun _ _ _ h => h) (yieldsIf_conv (by rfl) 34 9 5 _ rfl Av1 q cv1 _ rfl HPL.out (fun w' h => HIv1.out.below h) Tryd.underlying34 Tryd.underlying5 Tryd.underlying9) hHeld ?_
          try simp only [Act.put, List.setIfInBounds_toArray, List.set_cons_zero, List.set_cons_succ]
          refine wpAnyH_ready (rs := [6]) (by kernel_rfl) (by simp) ?_
          refine AllReadyH.cons rfl (fun K hKK => ?_) AllReadyH.nil
          go_simp
          go_at_call 19
          ((with_reducible refine (Bytes_any (HV8.out.quiet hB1).t.sp q HQ.out).mono ?_))
          rw [HP2.out]
          rintro e v2 ⟨Av2, cv2, rfl, hcv2, hIv2, hAv2, hbv2⟩
          rw [HPL2.out]
          have hB2 : Below w8.heap.size w8 v2 := (hB1).trans (hbv2.mono (hB1).size)
          have HIv2 := Lib.hid hIv2
          refine hKK.out _ _ hbv2 (fun _ => held_more (S1 := fun w' => Below v2.heap.size v2 w') (fun w' h => hbv2.trans (h.mono hbv2.size)) _ _ _ _ ?_)
          have hHeld := Below.refl v2.heap.size v2
          clear hKK K hIv2 hAv2
          try simp only [Act.put, List.setIfInBounds_toArray, List.set_cons_zero, List.set_cons_succ]
          refine held_take 7 (some 105) (v := .string (strOfNums P2)) rfl rfl (by kernel_rfl) (by kernel_rfl) (by kernel_rfl) (fun _ _ _ h => h) (yieldsIf_conv (by rfl) 34 9 5 _ rfl Av2 q cv2 _ rfl HPL2.out (fun w' h => HIv2.out.below h) Tryd.underlying34 Tryd.underlying5 Tryd.underlying9) hHeld ?_
          try simp only [Act.put, List.setIfInBounds_toArray, List.set_cons_zero, List.set_cons_succ]
          refine held_take 8 (some 106) (v := ?_) rfl rfl (by kernel_rfl) (by kernel_rfl) (by kernel_rfl) (fun _ _ _ h => h) (Or.inl ⟨by rfl, ?_⟩) hHeld ?_
          rotate_left
          · (intro w' hSw; clear hSw; go_simp; rw [HEQ.out]; try with_reducible rfl)
          try simp only [Act.put, List.setIfInBounds_toArray, List.set_cons_zero, List.set_cons_succ]
          refine wpAnyH_ready (rs := [10]) (by kernel_rfl) (by simp) ?_
          refine AllReadyH.cons rfl (fun K hKK => ?_) AllReadyH.nil
          go_simp
          go_at_call 21
          ((with_reducible refine (HT1.out _ (HV8.out.quiet hB2).s.sp (HV8.out.quiet hB2).s.tb).mono ?_))
          skip
          rintro e v3 ⟨Av3, cv3, rfl, hcv3, hIv3, hAv3, hbv3⟩
          rw [← HL1.out]
          have hB3 : Below w8.heap.size w8 v3 := (hB2).trans (hbv3.mono (hB2).size)
          have HIv3 := Lib.hid hIv3
          refine hKK.out _ _ hbv3 (fun _ => held_more (S1 := fun w' => Below v3.heap.size v3 w') (fun w' h => hbv3.trans (h.mono hbv3.size)) _ _ _ _ ?_)
          have hHeld := Below.refl v3.heap.size v3
          clear hKK K hIv3 hAv3
          try simp only [Act.put, List.setIfInBounds_toArray, List.set_cons_zero, List.set_cons_succ]
          refine wpAnyH_ready (rs := [12]) (by kernel_rfl) (by simp) ?_
          refine AllReadyH.cons rfl (fun K hKK => ?_) AllReadyH.nil
          go_simp
          go_at_call 21
          ((with_reducible refine (HT2.out _ (HV8.out.quiet hB3).t.sp (HV8.out.quiet hB3).t.tb).mono ?_))
          skip
          rintro e v4 ⟨Av4, cv4, rfl, hcv4, hIv4, hAv4, hbv4⟩
          rw [← HL2.out]
          have hB4 : Below w8.heap.size w8 v4 := (hB3).trans (hbv4.mono (hB3).size)
          have HIv4 := Lib.hid hIv4
          refine hKK.out _ _ hbv4 (fun _ => held_more (S1 := fun w' => Below v4.heap.size v4 w') (fun w' h => hbv4.trans (h.mono hbv4.size)) _ _ _ _ ?_)
          have hHeld := Below.refl v4.heap.size v4
          clear hKK K hIv4 hAv4
          try simp only [Act.put, List.setIfInBounds_toArray, List.set_cons_zero, List.set_cons_succ]
          refine wpAnyH_ready (rs := [13]) (by kernel_rfl) (by simp) ?_
          refine AllReadyH.cons rfl (fun K hKK => ?_) AllReadyH.nil
          go_simp
          go_at_call 25
          ((with_reducible refine (Same_any Av3 Av4 i1 i2 cv3 cv4 I1 I2 _ HL1.out.symm HL2.out.symm (by omega) (by omega) (HIv3.out.below hbv4) HIv4.out).mono ?_))
          rw [← HB1.out]
          rintro e v5 ⟨rfl, q5, rfl⟩
          refine hKK.out _ _ (below_drewN (Below.refl _ _) q5) (fun hHeld => ?_)
          clear hKK K
          try simp only [Act.put, List.setIfInBounds_toArray, List.set_cons_zero, List.set_cons_succ]
          refine held_take 14 (some 112) (v := ?_) rfl rfl (by kernel_rfl) (by kernel_rfl) (by kernel_rfl) (fun _ _ _ h => h) (Or.inl ⟨by rfl, ?_⟩) hHeld ?_
          rotate_left
          · (intro w' hSw; clear hSw; go_simp; try with_reducible rfl)
          try simp only [Act.put, List.setIfInBounds_toArray, List.set_cons_zero, List.set_cons_succ]
          refine held_take 15 (some 113) (v := ?_) rfl rfl (by kernel_rfl) (by kernel_rfl) (by kernel_rfl) (fun _ _ _ h => h) (Or.inl ⟨by rfl, ?_⟩) hHeld ?_
          rotate_left
          · (intro w' hSw; clear hSw; go_simp; try with_reducible rfl)
          try simp only [Act.put, List.setIfInBounds_toArray, List.set_cons_zero, List.set_cons_succ]
          refine held_take 16 (some 6) (v := ?_) rfl rfl (by kernel_rfl) (by kernel_rfl) (by kernel_rfl) (fun _ _ _ h => h) (Or.inl ⟨by rfl, ?_⟩) hHeld ?_
          rotate_left
          · (intro w' hSw; clear hSw; go_simp; try with_reducible rfl)
          try simp only [Act.put, List.setIfInBounds_toArray, List.set_cons_zero, List.set_cons_succ]
          refine wpAnyH_done (by kernel_rfl) ?_ _
          have HBL := Lib.hid (HV8.out.s.bel.trans ((hB4.trans ((hHeld).mono hB4.size)).mono HV8.out.s.bel.size))
          clear hB1 hB2 hB3 hB4 hbv1 hbv2 hbv3 hbv4 hHeld
          go_wp2_with fail
          go_ret
          exact ⟨ret_bool (by simp), HBL.out⟩
end Go.Proofs.YtdnincnfamcchaaDoor
