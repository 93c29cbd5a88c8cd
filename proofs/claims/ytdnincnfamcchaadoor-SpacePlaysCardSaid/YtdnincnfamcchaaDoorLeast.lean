/- space: the walk of SpaceLeast. -/
import Derived.Test.YtdnincnfamcchaaDoorSame
import Derived.Deep.DeepCutAuto
namespace Go.Proofs.YtdnincnfamcchaaDoor
open Go.RowKit

theorem info46 : (Tryd.prog.info? 46).map (·.size) = some 2 := by kernel_rfl
theorem NewInts.nilA {k : IntKind} {B : Nat} {l : List Int} {w w' : World} {e : Ending} (h : NewInts k B l w e w') : True := trivial

set_option maxRecDepth 20000 in
set_option maxHeartbeats 3200000 in
theorem Least_law (x : Int) (A : Option Addr) (c : Nat) (l : List (Nat × Int)) (L : Nat) (w : World) (hT : Tb w) (hx0 : 0 ≤ x) (hx1 : x ≤ 65535) (hn : l.length = L) (hA : Acts w A l) (hnc : L ≤ c) :
    Calls Tryd.prog 5 #[.int .u16 x, .slice A L c] w fun e w' => e = .returned (.bool true) ∧ Below w.heap.size w w' := by
  have HS := Lib.hid (shown_any w hT)
  have HT := Lib.hid hT
  have HA := Lib.hid hA
  have HL := Lib.hid hn
  obtain ⟨n, hn⟩ : ∃ n : Nat, x % 2001 = (n : Int) := ⟨(x % 2001).toNat, by omega⟩
  have hn5 : n ≤ 2000 := by omega
  obtain ⟨m, hm⟩ : ∃ m, m = (n + 63) / 64 := ⟨_, rfl⟩
  have HM := Lib.hid hm
  clear hm hT hA
  go_enter Tryd.func5, Tryd.ntmps5
  go_wp2_with fail
  refine HS.out.mono ?_
  rintro e w1 ⟨rfl, hb1⟩
  have HN := Lib.hid (New_st (n := n) (m := m) hb1 (HT.out.below hb1) HT.out.1 n rfl (by omega) HM.out)
  clear hb1
  go_wp2_with fail
  refine HN.out.mono ?_
  rintro e w2 ⟨rfl, hV⟩
  obtain ⟨g, hg⟩ : ∃ z, z = w1.heap.size + 1 := ⟨_, rfl⟩
  obtain ⟨h, hh⟩ : ∃ z, z = w1.heap.size := ⟨_, rfl⟩
  rw [← hg] at hV ⊢
  rw [← hh] at hV
  have HV := Lib.hid hV
  clear hV hg hh hn hx0 hx1
  go_wp2_with fail
  refine (few_any A L c _ hnc).mono ?_
  rintro e w3 ⟨rfl, rfl⟩
  obtain ⟨M, hM⟩ : ∃ M, M = min L 300 := ⟨_, rfl⟩
  have hML : M ≤ L := by omega
  have hM3 : M ≤ 300 := by omega
  rw [← hM]
  clear hM
  go_wp2_with fail
  go_loopg [32] M (fun kq v32 w' => ∃ (i : Nat) (f : Nat → Bool), v32 = .int .i64 (i : Int) ∧ i + kq = M ∧ St w w' g h n m f)
  case atStart => exact ⟨0, _, rfl, by omega, HV.out⟩
  case round =>
    obtain ⟨i, f, rfl, hi, hV⟩ := hrel
    have HV1 := Lib.hid hV
    clear hV
    by_cases hlt : i < M
    · obtain ⟨⟨kd, z⟩, ha⟩ : ∃ a, l[i]? = some a := ⟨_, List.getElem?_eq_getElem (by rw [HL.out]; omega)⟩
      obtain ⟨klt_1, b, o, e, hbl, hr⟩ := (HA.out.below HV1.out.bel) i _ ha
      subst e
      have klt : kd < 256 := klt_1
      have i1 : (i : Int) < (M : Int) := by omega
      have i2 : (0 : Int) ≤ (i : Int) := by omega
      have k0 : wr.cell? ⟨b, o + i * 2, none⟩ = some (.int .u8 kd) := hr 0 _ rfl
      have k1 : wr.cell? ⟨b, o + i * 2 + 1, none⟩ = some (.int .i64 z) := hr 1 _ rfl
      clear ha hr
      go_upto_region 8 with (fail)
      obtain ⟨w3, hw3⟩ : ∃ w3, w3 = wr.alloc (Obj.cells #[Value.int IntKind.u8 (kd : Int), Value.int IntKind.i64 z] 46) := ⟨_, rfl⟩
      obtain ⟨T, hTT⟩ : ∃ T, T = wr.heap.size := ⟨_, rfl⟩
      have hrow : w3.heap[T]? = some (.cells #[Value.int IntKind.u8 (kd : Int), Value.int IntKind.i64 z] 46 (0, 0)) := by rw [hw3, hTT]; exact heap_alloc_last _ _
      have HV2 := Lib.hid (show St w w3 g h n m f by rw [hw3]; exact HV1.out.quiet (below_refl_grown (grown_alloc _ _ none)))
      rw [← hw3, ← hTT]
      have hTg : T ≠ g ∧ T ≠ h := by
        have h1 := row_lt HV1.out.sp.obj
        have h2 := row_lt HV1.out.sp.row
        omega
      have HROW := Lib.hid hrow
      have HTG := Lib.hid hTg
      clear hw3 hTT k0 k1 hbl hrow hTg klt_1
      go_wp2_with fail
      refine (All_any HV2.out.sp HV2.out.tb).mono ?_
      rintro e w4 ⟨A4, c4, rfl, hc4, hI4, hA4, hb4⟩
      have HV4 := Lib.hid (HV2.out.quiet hb4)
      have HR4 := Lib.hid ((hb4.block T (row_lt HROW.out)).trans HROW.out)
      have HI4 := Lib.hid hI4
      have HA4 := Lib.hid (show ∀ ad, A4 = some ad → w3.heap.size ≤ ad.block ∧ ad.block < w4.heap.size from hA4)
      have a0 : w4.cell? ⟨T, 0, none⟩ = some (.int .u8 kd) := by rw [cell_of_row _ _ _ _ _ _ HR4.out]; rfl
      have a1 : w4.cell? ⟨T, 1, none⟩ = some (.int .i64 z) := by rw [cell_of_row _ _ _ _ _ _ HR4.out]; rfl
      have HTL := Lib.hid (takenI_length f n)
      have HLE := Lib.hid (takenL_le f n)
      obtain ⟨tl, htl⟩ : ∃ tl, tl = (takenI f n).length := ⟨_, rfl⟩
      have HTL2 := Lib.hid htl
      rw [← htl]
      clear hI4 hA4 hb4 hc4 htl
      by_cases hk : kd % 3 = 0
      · have hk1 : (kd : Int) % 3 = 0 := by omega
        go_wp2_with fail
        refine (Take_all HV4.out.sp HV4.out.tb).mono ?_
        rintro e w5 ⟨x5, er, f', rfl, hR, hc, hs⟩
        have HV5 := Lib.hid (HV4.out.step hc hs)
        have HC5 := Lib.hid hc
        clear hc hs
        rcases hR with ⟨p, hp, rfl, rfl, rfl⟩ | ⟨ha, rfl, rfl, rfl⟩
        · obtain ⟨l1, l2, l3, l4⟩ := takenI_least f n p hp
          rw [← HTL2.out] at l1 l2 l4
          have HI5 := Lib.hid (show Ints .i64 w5 A4 (takenI f n) from HI4.out.keep fun ad e i => by
            obtain ⟨q1, q2⟩ := HA4.out ad e
            exact HC5.out.cell (p := ad.add i) (by rw [add_block]; exact q2) (by
              rw [add_block]
              have r1 := row_lt HV2.out.sp.obj
              have r2 := row_lt HV2.out.sp.row
              rintro (e | e) <;> omega))
          have HLN := Lib.hid l1
          have HJ1 := Lib.hid l3
          have HJ2 := Lib.hid l4
          have HTL3 := Lib.hid HTL2.out.symm
          clear l1 l3 l4 hp
          go_wp2_with fail
          refine (All_any HV5.out.sp HV5.out.tb).mono ?_
          rintro e w6 ⟨A6, c6, rfl, hc6, hI6, hA6, hb6⟩
          have HV6 := Lib.hid (HV5.out.quiet hb6)
          have HI6 := Lib.hid hI6
          have HW6 := Lib.hid (HI5.out.below hb6)
          rw [HLN.out]
          generalize takenI (turnF f p) n = NOW at *
          generalize takenI f n = WAS at *
          obtain ⟨t2, ht2⟩ : ∃ t2, t2 = tl + 1 := ⟨_, rfl⟩
          rw [← ht2] at l2 HLN HJ2 ⊢
          have hq1 : ((t2 : Int) != (tl : Int) + 1) = false := by simp; omega
          have hq2 : (p : Int) < (t2 : Int) := by omega
          have htlb : tl ≤ 2000 := by have := HLE.out; have := HTL.out; have := HTL3.out; omega
          have HT2 := Lib.hid ht2
          clear hc6 hI6 hA6 hb6 ht2
          go_wp2_with fail
          go_loopg [81] t2 (fun kq v81 w' => ∃ j : Nat, v81 = .int .i64 (j : Int) ∧ j + kq = t2 ∧ ∃ q, w' = w6.drewN q)
          case atStart => exact ⟨0, rfl, by omega, 0, rfl⟩
          case round =>
            obtain ⟨j, rfl, hj, q, rfl⟩ := hrel
            by_cases hlt2 : j < t2
            · obtain ⟨d6, rfl, hd6⟩ := HI6.out j (by rw [HLN.out]; exact hlt2)
              have j0 : (0 : Int) ≤ (j : Int) := by omega
              have jb : j ≤ 2001 := by have := HT2.out; omega
              have j1 : (j : Int) < (t2 : Int) := by omega
              by_cases hjp : j ≤ p
              · rw [HJ1.out j hjp] at hd6
                have j2 : decide (j ≤ p) = true := by simp; omega
                have j3 : decide (p < j) = false := by simp; omega
                have HJ := Lib.hid hj
                clear hlt2 hjp hj hq1 hq2 hk hk1 a0 a1
                go_wp2_with fail
                go_quiet (fail)
                go_wp2_with fail
                go_roundg (t2 - (j + 1))
                case measure => have := HJ.out; omega
                case rel => exact ⟨j + 1, by go_num, by have := HJ.out; omega, _, rfl⟩
              · rw [HJ2.out j (by omega) hlt2] at hd6
                obtain ⟨d4, rfl, hd4⟩ := HW6.out (j - 1) (by rw [HTL3.out]; have := HT2.out; omega)
                have j2 : decide (j ≤ p) = false := by simp; omega
                have j3 : decide (p < j) = true := by simp; omega
                have j4 : (j : Int) - 1 = ((j - 1 : Nat) : Int) := by omega
                have j5 : (0 : Int) ≤ (j : Int) - 1 := by omega
                have j6 : (j : Int) - 1 < (tl : Int) := by have := HT2.out; omega
                have j7 : IntKind.i64.wrap ((j : Int) - 1) = ((j - 1 : Nat) : Int) := by rw [← j4]; exact IntWalk.i64_in _ (by omega)
                have j8 : ((j - 1 : Nat) : Int) < (tl : Int) := by omega
                have HJ := Lib.hid hj
                generalize WAS.getD (j - 1) 0 = y at *
                clear hlt2 hjp hj hq1 hq2 hk hk1 a0 a1 j4
                go_wp2_with fail
                go_quiet (fail)
                go_wp2_with fail
                go_roundg (t2 - (j + 1))
                case measure => have := HJ.out; omega
                case rel => exact ⟨j + 1, by go_num, by have := HJ.out; omega, _, rfl⟩
            · have hjt : t2 = j := by omega
              subst hjt
              go_wp2_with fail
              go_roundg (M - (i + 1))
              case measure => omega
              case rel => exact ⟨i + 1, _, by go_num, by omega, HV6.out.quiet (below_drewN (Below.refl _ _) _)⟩
        · have htn : tl = n := by rw [HTL2.out, HTL.out, full_taken f' n ha, List.length_range]
          clear ha
          go_wp2_with fail
          refine (Len_any HV5.out.sp).mono ?_
          rintro e w6 ⟨rfl, rfl⟩
          subst htn
          go_wp2_with fail
          go_roundg (M - (i + 1))
          case measure => omega
          case rel => exact ⟨i + 1, f', by go_num, by omega, HV5.out⟩
      · have hk1 : (kd : Int) % 3 > 0 := by omega
        go_wp2_with fail
        refine (does_any HV4.out.sp HV4.out.tb kd klt z).mono ?_
        rintro e w5 ⟨x5, er, f', rfl, hR, hc, hs⟩
        have HV5 := Lib.hid (HV4.out.step hc hs)
        clear hc hs hR
        go_wp2_with fail
        go_roundg (M - (i + 1))
        case measure => omega
        case rel => exact ⟨i + 1, f', by go_num, by omega, HV5.out⟩
    · obtain rfl : i = M := by omega
      go_wp2_with fail
      go_ret
      exact ⟨rfl, HV1.out.bel⟩
end Go.Proofs.YtdnincnfamcchaaDoor
