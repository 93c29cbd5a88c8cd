/- chunk: the walk of ChunkPieces. -/
import Derived.Test.YtealompbbknijaaLaws4a
namespace Go.Proofs.Ytealompbbknijaa
open Go.RowKit

set_option maxRecDepth 20000 in
set_option maxHeartbeats 6400000 in
theorem Pieces_yes (c : Ct) (ok : c.Ok) (l : List Int) (n cap : Nat) (A : Option Addr) (sz : List Int) (q scap : Nat) (B : Option Addr) (w : World) (hn : l.length = n) (hl : n ≤ 1000000000000000) (hnc : n ≤ cap) (hA : A = none → n = 0 ∧ cap = 0) (hI : Ints .u8 w A l) (hB : Bytes l)
    (hq : sz.length = q) (hql : q ≤ 1000000000000000) (hqc : q ≤ scap) (hSI : Ints .u8 w B sz) (hSB : Bytes sz) :
    Calls Try.prog 4 #[.agg (cutC c.mn c.mx c.main c.back), .slice A n cap, .slice B q scap] w fun e w' => e = .returned (.bool true) ∧ Below w.heap.size w w' := by
  have HS24 := Lib.hid (show (Try.prog.info? 24).map (·.size) = some [Value.int .i64 c.mn, .int .i64 c.mx, .int .u32 c.main, .int .u32 c.back].length by kernel_rfl)
  have HR := Lib.hid (heap_alloc_last w (.cells #[Value.int .i64 c.mn, .int .i64 c.mx, .int .u32 c.main, .int .u32 c.back] 24))
  have HBW := Lib.hid ((Below.refl w.heap.size w).alloc (Nat.le_refl _) (.cells #[Value.int .i64 c.mn, .int .i64 c.mx, .int .u32 c.main, .int .u32 c.back] 24))
  have hlt : w.heap.size < (w.alloc (.cells #[Value.int .i64 c.mn, .int .i64 c.mx, .int .u32 c.main, .int .u32 c.back] 24)).heap.size := by simp
  have HIW := Lib.hid (hI.grown (grown_alloc w (.cells #[Value.int .i64 c.mn, .int .i64 c.mx, .int .u32 c.main, .int .u32 c.back] 24) none) (fun _ _ _ h => by cases h))
  have HOK := Lib.hid ok
  have HFM := Lib.hid (few_min5 l n hn)
  have HBB := Lib.hid hB
  have HAN := Lib.hid hA
  have HSQ := Lib.hid hq
  have HSI := Lib.hid (hSI.grown (grown_alloc w (.cells #[Value.int .i64 c.mn, .int .i64 c.mx, .int .u32 c.main, .int .u32 c.back] 24) none) (fun _ _ _ h => by cases h))
  have HSB := Lib.hid hSB
  have HALT := Lib.hid hI.blk
  unfold cutC
  have HN := Lib.hid hn
  clear hI hB hn hA ok hq hSI hSB
  go_enter Try.func4, Try.ntmps4
  go_wp2_with fail
  generalize w.alloc (.cells #[Value.int .i64 c.mn, .int .i64 c.mx, .int .u32 c.main, .int .u32 c.back] 24) = W at *
  obtain ⟨K0, hK0⟩ : ∃ z, z = w.heap.size := ⟨_, rfl⟩
  rw [← hK0] at HR hlt ⊢
  have HK0 := Lib.hid hK0
  clear hK0
  have HQ := Lib.hid (show W.rangeAt K0 0 [Value.int .i64 c.mn, .int .i64 c.mx, .int .u32 c.main, .int .u32 c.back] from rangeAt_of_row HR.out 0 4)
  refine (shown_any _).mono ?_
  rintro e w1 ⟨rfl, hb1⟩
  have hr3 := (hb1.block K0 hlt).trans HR.out
  have d0 : w1.cell? ⟨K0, 0, none⟩ = some (.int .i64 c.mn) := by rw [cell_of_row _ _ _ _ _ _ hr3]; rfl
  have d1 : w1.cell? ⟨K0, 1, none⟩ = some (.int .i64 c.mx) := by rw [cell_of_row _ _ _ _ _ _ hr3]; rfl
  have d2 : w1.cell? ⟨K0, 2, none⟩ = some (.int .u32 c.main) := by rw [cell_of_row _ _ _ _ _ _ hr3]; rfl
  have d3 : w1.cell? ⟨K0, 3, none⟩ = some (.int .u32 c.back) := by rw [cell_of_row _ _ _ _ _ _ hr3]; rfl
  have HR3 := Lib.hid hr3
  have HB1 := Lib.hid hb1
  clear hb1 hr3
  obtain ⟨m, hm⟩ : ∃ m, min n 5000 = m := ⟨_, rfl⟩
  rw [hm] at HFM
  have hm2 : m ≤ 5000 := by omega
  have hmc : m ≤ cap := by omega
  have hmn : m ≤ n := by omega
  have HAM := Lib.hid (show A = none → m = 0 ∧ cap = 0 from fun e => by have := HAN.out e; omega)
  have HAL := Lib.hid (All_yes c HOK.out (l.take 5000) A m cap w1 HFM.out hmc ((HIW.out.take _).below HB1.out) (HBB.out.take _) HAM.out (by omega))
  unfold cutC at HAL
  obtain ⟨L, hL⟩ : ∃ L, pcsR c (l.take 5000) = L := ⟨_, rfl⟩
  rw [hL] at HAL
  have HLL := Lib.hid hL
  have hLn : L.length ≤ 5001 := by
    have h1 := endsR_num c HOK.out (l.take 5000)
    have h2 := restR_length (endsR c (l.take 5000)).2
    rw [HFM.out] at h1
    rw [← hL, pcsR, List.length_append]; omega
  clear hL
  by_cases h5 : n ≤ 5000
  · obtain rfl : n = m := by omega
    clear hm
    go_wp2_with fail
    refine HAL.out.mono ?_
    rintro e y1 ⟨v, rfl, hy1, hnr⟩
    obtain ⟨A2, c2, rfl, hc2, hrows, hA2, hA2n⟩ := hnr.rows
    have hr4 := (hy1.block K0 (row_lt HR3.out)).trans HR3.out
    have HR4 := Lib.hid hr4
    have e0 : y1.cell? ⟨K0, 0, none⟩ = some (.int .i64 c.mn) := by rw [cell_of_row _ _ _ _ _ _ hr4]; rfl
    have e1 : y1.cell? ⟨K0, 1, none⟩ = some (.int .i64 c.mx) := by rw [cell_of_row _ _ _ _ _ _ hr4]; rfl
    have e2 : y1.cell? ⟨K0, 2, none⟩ = some (.int .u32 c.main) := by rw [cell_of_row _ _ _ _ _ _ hr4]; rfl
    have e3 : y1.cell? ⟨K0, 3, none⟩ = some (.int .u32 c.back) := by rw [cell_of_row _ _ _ _ _ _ hr4]; rfl
    have HY1 := Lib.hid (HB1.out.trans (hy1.mono HB1.out.size))
    have HRW := Lib.hid hrows
    have HA2 := Lib.hid hA2
    have HNW := Lib.hid (New_yes c HOK.out y1)
    unfold cutC at HNW
    have hs1 := hy1.size
    clear hy1 hnr hrows hr4 d0 d1 d2 d3 hA2 hA2n
    go_wp2_with fail
    refine HNW.out.mono ?_
    rintro e y2 ⟨g, rfl, hg, hrg, hy2⟩
    have hW2 := HY1.out.trans (hy2.mono HY1.out.size)
    have hKg : K0 ≠ g := by have := row_lt HR4.out; omega
    have hK2 : K0 < y2.heap.size := Nat.lt_of_lt_of_le (row_lt HR4.out) hy2.size
    have HRY := Lib.hid (HRW.out.below hy2)
    have HREL := Lib.hid (show PRel y2 g c A L [] (l.take 5000) A cap [] K0 (.slice none 0 0) y2 from
      ⟨by rw [← HLL.out]; rfl, cutR_nil c HOK.out, (HIW.out.take _).below hW2, HBB.out.take _, by rw [HFM.out]; exact hmc, by rw [HFM.out]; exact HAM.out, (fun ad e => ⟨ad, e, rfl⟩),
       ⟨0, 0, 0, none, 0, hrg, ScanOk.zero c HOK.out _, Ints.nil _ _ _, (fun i => by simp), Nat.le_refl _, (fun ad e => by cases e), fun _ => ⟨rfl, rfl⟩⟩,
       ⟨[], World.ownsRow_nil _ _ _ _, RowsV.nil _ _⟩, by simp [Value.ownBlock], hK2, hKg, World.grownBy.refl _ _, by rw [HFM.out]; simp <;> omega, row_lt hrg,
       (fun k ⟨a, e, hk⟩ h0 => by
         rw [HFM.out] at h0
         have h1 := HALT.out a e (by rw [HN.out]; omega)
         have h2 := HBW.out.size
         have h3 := HY1.out.size
         have h4 := hy2.size
         omega)⟩)
    have HW2 := Lib.hid hW2
    have hsy := hy2.size
    have hgl := row_lt hrg
    clear hW2 hrg hy2 hK2 hKg e0 e1 e2 e3
    go_wp2_with fail
    go_loopg [11, 12, 13] n (fun kq v11 v12 v13 w' => ∃ (i : Nat) (h rest : List Int) (Ar : Option Addr) (cr : Nat) (Lo : List (List Int)) (Y : Nat), v12 = .slice Ar rest.length cr ∧ v13 = .int .i64 (i : Int) ∧ kq = rest.length ∧ i + rest.length ≤ 5000 ∧ PRel y2 g c A L h rest Ar cr Lo Y v11 w')
    case atStart => exact ⟨0, [], l.take 5000, A, cap, [], K0, by rw [HFM.out], rfl, HFM.out.symm, by rw [HFM.out]; omega, HREL.out⟩
    case round =>
      obtain ⟨i, h, rest, Ar, cr, Lo, Y, rfl, rfl, hk, hir, R⟩ := hrel
      have HP := Lib.hid R
      obtain ⟨rl, hrl⟩ : ∃ z, rest.length = z := ⟨_, rfl⟩
      have HRL := Lib.hid hrl
      have hlec := R.lec
      have hnum := R.num
      have hsr := R.gr.size
      rw [hrl] at hk hir hlec hnum
      rw [HRL.out]
      have HSW := Lib.hid ((HSI.out.below (HW2.out)).grown R.gr (fun ad e h0 => by
        have h1 := HSI.out.blk ad e h0
        have h2 := HY1.out.size
        simp; omega))
      obtain ⟨vals1, ho1, hv1⟩ := R.rows
      have HO1 := Lib.hid ho1
      have HV1 := Lib.hid hv1
      have HLT1 := Lib.hid ho1.lt
      have hLo : Lo.length ≤ 5001 := by
        have := congrArg List.length R.all
        rw [List.length_append] at this
        omega
      clear R hrl ho1 hv1
      subst hk
      by_cases hr0 : gk = 0
      · subst hr0
        have hrest : rest = [] := List.length_eq_zero_iff.1 HRL.out
        subst hrest
        have HLe := Lib.hid (show L = Lo ++ restR h by rw [HP.out.all, List.append_nil, pcsR_zero c h HP.out.cut0])
        have HCL := Lib.hid (Close_any c HOK.out g h (fun k => k = Y) wr HP.out.str (by omega))
        have hRWr := HRY.out.grown HP.out.gr (fun ad e => by have := (HA2.out ad e).2; simp; omega) (fun k hk => by have := hk.2.1; simp; omega)
        have HRWr := Lib.hid hRWr
        clear hRWr
        go_wp2_with fail
        refine HCL.out.mono ?_
        rintro e w4 ⟨v2, rfl, hg4, hnr2, -⟩
        obtain ⟨A3, c3, vals2, rfl, hA3n, hvl, hvc, hv2⟩ := hnr2.arg
        have hrl1 := restR_length h
        have ho1' := HO1.out.kept hg4 (Or.inr (fun e => by have := HLT1.out g e; have := HP.out.glt; omega))
        have HO1' := Lib.hid ho1'
        have HV2 := Lib.hid hv2
        have HG4 := Lib.hid hg4
        have HA3 := Lib.hid hA3n
        have HVL := Lib.hid hvl
        have HVC := Lib.hid hvc
        have hs4 := hg4.size
        obtain ⟨m2, hm2e⟩ : ∃ z, (restR h).length = z := ⟨_, rfl⟩
        have HM2 := Lib.hid hm2e
        rw [hm2e] at HA3 HVL hrl1 ⊢
        clear hv2 hg4 hA3n hvl hvc ho1' hnr2 hm2e
        go_wp2_with (at_builtin; refine wpList_app_w E28 (by rfl) _ _ rfl y2.heap.size _ Lo.length vals1 rfl HO1'.out A3 m2 c3 vals2 rfl HA3.out HVL.out HVC.out HV2.out.oneCell ?c3 ?c4 ?c5 ?_)
        case c3 => unfold maxLen; omega
        case c4 => omega
        case c5 => omega
        intro v7 w7 hown7 hgrow7 hat7
        have hs7 := hgrow7.size
        have hnr7 : NewRows (fun _ => True) y2.heap.size L w7 v7 := by
          refine ⟨vals1 ++ vals2, by rw [HLe.out, List.length_append, HM2.out]; exact hown7, ?_⟩
          rw [HLe.out]
          refine RowsV.append (((HV1.out.kept HG4.out (fun k hk e => ?_)).kept hgrow7 (fun k hk e => hk.2.2 e.symm)).imp (fun _ _ => trivial)) ((HV2.out.kept hgrow7 (fun k hk e => ?_)).imp (fun _ _ => trivial))
          · injection e with e; have := hk.1; have := HP.out.glt; omega
          · have := HLT1.out k e.symm; have := hk.1; omega
        obtain ⟨A7, c7, rfl, -, hrw7, -⟩ := hnr7.rows
        have hR2 := (HRWr.out.grown HG4.out (fun ad e => by have := (HA2.out ad e).2; simp; omega) (fun k hk => by have := hk.2.1; simp; omega)).grown hgrow7 (fun ad e he => by have := (HA2.out ad e).2; have := HLT1.out _ he.symm; omega) (fun k hk he => by have := hk.2.1; have := HLT1.out _ he.symm; omega)
        have HR2 := Lib.hid hR2
        have HR7 := Lib.hid hrw7
        have HBZ := Lib.hid (show Below w.heap.size w w7 from by
          have h1 := HBW.out.trans (HW2.out.mono HBW.out.size)
          have hw := h1.size
          have hWs := HBW.out.size
          have hY := HY1.out.size
          refine ((h1.grown HP.out.gr hw (fun k hk => by cases hk; omega)).grown HG4.out (by omega) (fun k hk => by cases hk; omega)).grown hgrow7 (by omega) (fun k hk => ?_)
          have := HLT1.out k hk; omega)
        obtain ⟨N, hN⟩ : ∃ N, L.length = N := ⟨_, rfl⟩
        have HNN := Lib.hid hN
        rw [hN] at hLn hc2 ⊢
        clear hown7 hgrow7 hat7 hnr7 hR2 hrw7 hN
        go_wp2_with fail
        refine (Same_any _ _ _ _ N c7 c2 L _ HNN.out (by omega) HR7.out HR2.out).mono ?_
        rintro e w8 ⟨rfl, q8, rfl⟩
        go_wp2_with fail
        go_ret
        exact ⟨rfl, below_drewN HBZ.out _⟩
      · by_cases hq0 : q = 0
        · obtain rfl : q = 0 := hq0
          have hnn : 0 < 1 ∧ 1 ≤ gk := by omega
          have h1k : (1 : Int) ≤ (gk : Int) := by omega
          have hn0 : 0 < 1 := by omega
          have hn1 : 1 ≤ gk := by omega
          have HWR := Lib.hid (Write_any c HOK.out g h (rest.take 1) (fun k => k = Y) Ar 1 cr wr HP.out.str (by rw [List.length_take, HRL.out]; omega) (by omega) (HP.out.ints.take 1) (HP.out.byt.take 1) (fun e => by have := HP.out.nil e; rw [HRL.out] at this; omega) (by omega))
          go_wp2_with fail
          (with_reducible refine HWR.out.mono ?_)
          rintro e w2 ⟨v2, Y2, rfl, hg2, hY2, hY2l, hvY2, hnr2, hS2⟩
          obtain ⟨A3, c3, vals2, rfl, hA3n, hvl, hvc, hv2⟩ := hnr2.arg
          have hln := endsR_num c HOK.out (h ++ rest.take 1)
          rw [List.length_append, List.length_take, HRL.out] at hln
          have ho1' := HO1.out.kept hg2 (Or.inr (fun e => by have := HLT1.out g e; have := HP.out.glt; omega))
          have HO1' := Lib.hid ho1'
          have HV2 := Lib.hid hv2
          have HG2 := Lib.hid hg2
          have HA3 := Lib.hid hA3n
          have HVL := Lib.hid hvl
          have HVC := Lib.hid hvc
          have HS2 := Lib.hid hS2
          have hs2 := hg2.size
          obtain ⟨L2, hL2⟩ : ∃ Z, (endsR c (h ++ rest.take 1)).1 = Z := ⟨_, rfl⟩
          have HL2 := Lib.hid hL2
          rw [hL2] at HV2 HA3 HVL hln ⊢
          obtain ⟨m2, hm2e⟩ : ∃ Z, L2.length = Z := ⟨_, rfl⟩
          have HM2 := Lib.hid hm2e
          rw [hm2e] at HA3 HVL hln ⊢
          clear hv2 hg2 hA3n hvl hvc hS2 ho1' hnr2 hL2 hm2e hvY2
          go_wp2_with (at_builtin; refine wpList_app E28 rfl _ _ rfl y2.heap.size _ Lo.length vals1 rfl HO1'.out A3 m2 c3 vals2 rfl HA3.out HVL.out HVC.out HV2.out.oneCell ?c3 ?c4 ?c5 ?_)
          case c3 => unfold maxLen; omega
          case c4 => omega
          case c5 => omega
          intro v7 w7 hown7 hgrow7 hat7
          have HO7 := Lib.hid hown7
          have HG7 := Lib.hid hgrow7
          have HAT7 := Lib.hid hat7
          clear hown7 hgrow7 hat7
          have hk1 : (1 : Int) ≤ (gk : Int) := by omega
          obtain ⟨ar, ear, _⟩ := HP.out.ints 0 (by rw [HRL.out]; omega)
          subst ear
          have hdl : (rest.drop 1).length = gk - 1 := by rw [List.length_drop, HRL.out]
          have HDL := Lib.hid hdl
          clear hdl
          by_cases hck : cr = 1
          · have HST := Lib.hid (HP.out.step HOK.out hn0 (by rw [HRL.out]; exact hn1) HG2.out hY2 hY2l HV1.out HLT1.out (by rw [HL2.out]; exact HV2.out) HS2.out (by rw [HL2.out, HM2.out]; exact HO7.out) HG7.out HAT7.out (some ar) 0 (Or.inl ⟨hck, rfl, rfl⟩))
            go_wp2_with fail
            go_roundg (gk - 1)
            case measure => omega
            case rel => exact ⟨i + 1, _, rest.drop 1, some ar, 0, _, Y2, by first | (rw [HDL.out]; done) | (rw [HDL.out, Nat.sub_self]; done) | (rw [HDL.out]; simp [Addr.add]; done), by go_num, HDL.out.symm, by rw [HDL.out]; omega, HST.out⟩
          · have HST := Lib.hid (HP.out.step HOK.out hn0 (by rw [HRL.out]; exact hn1) HG2.out hY2 hY2l HV1.out HLT1.out (by rw [HL2.out]; exact HV2.out) HS2.out (by rw [HL2.out, HM2.out]; exact HO7.out) HG7.out HAT7.out (some (ar.add 1)) (cr - 1) (Or.inr ⟨hck, rfl, rfl⟩))
            go_wp2_with fail
            go_roundg (gk - 1)
            case measure => omega
            case rel => exact ⟨i + 1, _, rest.drop 1, some (ar.add 1), cr - 1, _, Y2, by first | (rw [HDL.out]; done) | (rw [HDL.out, Nat.sub_self]; done) | (rw [HDL.out]; simp [Addr.add]; done), by go_num, HDL.out.symm, by rw [HDL.out]; omega, HST.out⟩
        · obtain ⟨sb, es, hsc⟩ := HSW.out (i % q) (by rw [HSQ.out]; exact Nat.mod_lt _ (by omega))
          subst es
          have hsbb := HSB.out (i % q)
          obtain ⟨z, hz⟩ : ∃ z : Nat, sz.getD (i % q) 0 = z := ⟨(sz.getD (i % q) 0).toNat, by omega⟩
          rw [hz] at hsc hsbb
          have hqp : (0 : Int) < (q : Int) := by omega
          have hm0 : (0 : Int) ≤ (i : Int) % (q : Int) := by omega
          have hm1 : (i : Int) % (q : Int) < (q : Int) := Int.emod_lt_of_pos _ hqp
          clear hz
          by_cases hzk : z + 1 ≤ gk
          · have hzk' := hzk
            have hn0 : 0 < (z + 1) := by omega
            have hn1 : (z + 1) ≤ gk := by omega
            have HWR := Lib.hid (Write_any c HOK.out g h (rest.take (z + 1)) (fun k => k = Y) Ar (z + 1) cr wr HP.out.str (by rw [List.length_take, HRL.out]; omega) (by omega) (HP.out.ints.take (z + 1)) (HP.out.byt.take (z + 1)) (fun e => by have := HP.out.nil e; rw [HRL.out] at this; omega) (by omega))
            go_wp2_with fail
            (with_reducible refine HWR.out.mono ?_)
            rintro e w2 ⟨v2, Y2, rfl, hg2, hY2, hY2l, hvY2, hnr2, hS2⟩
            obtain ⟨A3, c3, vals2, rfl, hA3n, hvl, hvc, hv2⟩ := hnr2.arg
            have hln := endsR_num c HOK.out (h ++ rest.take (z + 1))
            rw [List.length_append, List.length_take, HRL.out] at hln
            have ho1' := HO1.out.kept hg2 (Or.inr (fun e => by have := HLT1.out g e; have := HP.out.glt; omega))
            have HO1' := Lib.hid ho1'
            have HV2 := Lib.hid hv2
            have HG2 := Lib.hid hg2
            have HA3 := Lib.hid hA3n
            have HVL := Lib.hid hvl
            have HVC := Lib.hid hvc
            have HS2 := Lib.hid hS2
            have hs2 := hg2.size
            obtain ⟨L2, hL2⟩ : ∃ Z, (endsR c (h ++ rest.take (z + 1))).1 = Z := ⟨_, rfl⟩
            have HL2 := Lib.hid hL2
            rw [hL2] at HV2 HA3 HVL hln ⊢
            obtain ⟨m2, hm2e⟩ : ∃ Z, L2.length = Z := ⟨_, rfl⟩
            have HM2 := Lib.hid hm2e
            rw [hm2e] at HA3 HVL hln ⊢
            clear hv2 hg2 hA3n hvl hvc hS2 ho1' hnr2 hL2 hm2e hvY2
            go_wp2_with (at_builtin; refine wpList_app E28 rfl _ _ rfl y2.heap.size _ Lo.length vals1 rfl HO1'.out A3 m2 c3 vals2 rfl HA3.out HVL.out HVC.out HV2.out.oneCell ?c3 ?c4 ?c5 ?_)
            case c3 => unfold maxLen; omega
            case c4 => omega
            case c5 => omega
            intro v7 w7 hown7 hgrow7 hat7
            have HO7 := Lib.hid hown7
            have HG7 := Lib.hid hgrow7
            have HAT7 := Lib.hid hat7
            clear hown7 hgrow7 hat7
            have hk1 : ((z + 1) : Int) ≤ (gk : Int) := by omega
            obtain ⟨ar, ear, _⟩ := HP.out.ints 0 (by rw [HRL.out]; omega)
            subst ear
            have hdl : (rest.drop (z + 1)).length = gk - (z + 1) := by rw [List.length_drop, HRL.out]
            have HDL := Lib.hid hdl
            clear hdl
            by_cases hck : cr = (z + 1)
            · have HST := Lib.hid (HP.out.step HOK.out hn0 (by rw [HRL.out]; exact hn1) HG2.out hY2 hY2l HV1.out HLT1.out (by rw [HL2.out]; exact HV2.out) HS2.out (by rw [HL2.out, HM2.out]; exact HO7.out) HG7.out HAT7.out (some ar) 0 (Or.inl ⟨hck, rfl, rfl⟩))
              go_wp2_with fail
              go_roundg (gk - (z + 1))
              case measure => omega
              case rel => exact ⟨i + 1, _, rest.drop (z + 1), some ar, 0, _, Y2, by first | (rw [HDL.out]; done) | (rw [HDL.out, Nat.sub_self]; done) | (rw [HDL.out]; simp [Addr.add]; done), by go_num, HDL.out.symm, by rw [HDL.out]; omega, HST.out⟩
            · have HST := Lib.hid (HP.out.step HOK.out hn0 (by rw [HRL.out]; exact hn1) HG2.out hY2 hY2l HV1.out HLT1.out (by rw [HL2.out]; exact HV2.out) HS2.out (by rw [HL2.out, HM2.out]; exact HO7.out) HG7.out HAT7.out (some (ar.add (z + 1))) (cr - (z + 1)) (Or.inr ⟨hck, rfl, rfl⟩))
              go_wp2_with fail
              go_roundg (gk - (z + 1))
              case measure => omega
              case rel => exact ⟨i + 1, _, rest.drop (z + 1), some (ar.add (z + 1)), cr - (z + 1), _, Y2, by first | (rw [HDL.out]; done) | (rw [HDL.out, Nat.sub_self]; done) | (rw [HDL.out]; simp [Addr.add]; done), by go_num, HDL.out.symm, by rw [HDL.out]; omega, HST.out⟩
          · have hzk' := hzk
            have hn0 : 0 < gk := by omega
            have hn1 : gk ≤ gk := by omega
            have HWR := Lib.hid (Write_any c HOK.out g h (rest.take gk) (fun k => k = Y) Ar gk cr wr HP.out.str (by rw [List.length_take, HRL.out]; omega) (by omega) (HP.out.ints.take gk) (HP.out.byt.take gk) (fun e => by have := HP.out.nil e; rw [HRL.out] at this; omega) (by omega))
            go_wp2_with fail
            (with_reducible refine HWR.out.mono ?_)
            rintro e w2 ⟨v2, Y2, rfl, hg2, hY2, hY2l, hvY2, hnr2, hS2⟩
            obtain ⟨A3, c3, vals2, rfl, hA3n, hvl, hvc, hv2⟩ := hnr2.arg
            have hln := endsR_num c HOK.out (h ++ rest.take gk)
            rw [List.length_append, List.length_take, HRL.out] at hln
            have ho1' := HO1.out.kept hg2 (Or.inr (fun e => by have := HLT1.out g e; have := HP.out.glt; omega))
            have HO1' := Lib.hid ho1'
            have HV2 := Lib.hid hv2
            have HG2 := Lib.hid hg2
            have HA3 := Lib.hid hA3n
            have HVL := Lib.hid hvl
            have HVC := Lib.hid hvc
            have HS2 := Lib.hid hS2
            have hs2 := hg2.size
            obtain ⟨L2, hL2⟩ : ∃ Z, (endsR c (h ++ rest.take gk)).1 = Z := ⟨_, rfl⟩
            have HL2 := Lib.hid hL2
            rw [hL2] at HV2 HA3 HVL hln ⊢
            obtain ⟨m2, hm2e⟩ : ∃ Z, L2.length = Z := ⟨_, rfl⟩
            have HM2 := Lib.hid hm2e
            rw [hm2e] at HA3 HVL hln ⊢
            clear hv2 hg2 hA3n hvl hvc hS2 ho1' hnr2 hL2 hm2e hvY2
            go_wp2_with (at_builtin; refine wpList_app E28 rfl _ _ rfl y2.heap.size _ Lo.length vals1 rfl HO1'.out A3 m2 c3 vals2 rfl HA3.out HVL.out HVC.out HV2.out.oneCell ?c3 ?c4 ?c5 ?_)
            case c3 => unfold maxLen; omega
            case c4 => omega
            case c5 => omega
            intro v7 w7 hown7 hgrow7 hat7
            have HO7 := Lib.hid hown7
            have HG7 := Lib.hid hgrow7
            have HAT7 := Lib.hid hat7
            clear hown7 hgrow7 hat7
            have hk1 : (gk : Int) ≤ (gk : Int) := by omega
            obtain ⟨ar, ear, _⟩ := HP.out.ints 0 (by rw [HRL.out]; omega)
            subst ear
            have hdl : (rest.drop gk).length = gk - gk := by rw [List.length_drop, HRL.out]
            have HDL := Lib.hid hdl
            clear hdl
            by_cases hck : cr = gk
            · have HST := Lib.hid (HP.out.step HOK.out hn0 (by rw [HRL.out]; exact hn1) HG2.out hY2 hY2l HV1.out HLT1.out (by rw [HL2.out]; exact HV2.out) HS2.out (by rw [HL2.out, HM2.out]; exact HO7.out) HG7.out HAT7.out (some ar) 0 (Or.inl ⟨hck, rfl, rfl⟩))
              go_wp2_with fail
              go_roundg (gk - gk)
              case measure => omega
              case rel => exact ⟨i + 1, _, rest.drop gk, some ar, 0, _, Y2, by first | (rw [HDL.out]; done) | (rw [HDL.out, Nat.sub_self]; done) | (rw [HDL.out]; simp [Addr.add]; done), by go_num, HDL.out.symm, by rw [HDL.out]; omega, HST.out⟩
            · have HST := Lib.hid (HP.out.step HOK.out hn0 (by rw [HRL.out]; exact hn1) HG2.out hY2 hY2l HV1.out HLT1.out (by rw [HL2.out]; exact HV2.out) HS2.out (by rw [HL2.out, HM2.out]; exact HO7.out) HG7.out HAT7.out (some (ar.add gk)) (cr - gk) (Or.inr ⟨hck, rfl, rfl⟩))
              go_wp2_with fail
              go_roundg (gk - gk)
              case measure => omega
              case rel => exact ⟨i + 1, _, rest.drop gk, some (ar.add gk), cr - gk, _, Y2, by first | (rw [HDL.out]; done) | (rw [HDL.out, Nat.sub_self]; done) | (rw [HDL.out]; simp [Addr.add]; done), by go_num, HDL.out.symm, by rw [HDL.out]; omega, HST.out⟩
  · obtain rfl : m = 5000 := by omega
    clear hm
    go_wp2_with fail
    refine HAL.out.mono ?_
    rintro e y1 ⟨v, rfl, hy1, hnr⟩
    obtain ⟨A2, c2, rfl, hc2, hrows, hA2, hA2n⟩ := hnr.rows
    have hr4 := (hy1.block K0 (row_lt HR3.out)).trans HR3.out
    have HR4 := Lib.hid hr4
    have e0 : y1.cell? ⟨K0, 0, none⟩ = some (.int .i64 c.mn) := by rw [cell_of_row _ _ _ _ _ _ hr4]; rfl
    have e1 : y1.cell? ⟨K0, 1, none⟩ = some (.int .i64 c.mx) := by rw [cell_of_row _ _ _ _ _ _ hr4]; rfl
    have e2 : y1.cell? ⟨K0, 2, none⟩ = some (.int .u32 c.main) := by rw [cell_of_row _ _ _ _ _ _ hr4]; rfl
    have e3 : y1.cell? ⟨K0, 3, none⟩ = some (.int .u32 c.back) := by rw [cell_of_row _ _ _ _ _ _ hr4]; rfl
    have HY1 := Lib.hid (HB1.out.trans (hy1.mono HB1.out.size))
    have HRW := Lib.hid hrows
    have HA2 := Lib.hid hA2
    have HNW := Lib.hid (New_yes c HOK.out y1)
    unfold cutC at HNW
    have hs1 := hy1.size
    clear hy1 hnr hrows hr4 d0 d1 d2 d3 hA2 hA2n
    go_wp2_with fail
    refine HNW.out.mono ?_
    rintro e y2 ⟨g, rfl, hg, hrg, hy2⟩
    have hW2 := HY1.out.trans (hy2.mono HY1.out.size)
    have hKg : K0 ≠ g := by have := row_lt HR4.out; omega
    have hK2 : K0 < y2.heap.size := Nat.lt_of_lt_of_le (row_lt HR4.out) hy2.size
    have HRY := Lib.hid (HRW.out.below hy2)
    have HREL := Lib.hid (show PRel y2 g c A L [] (l.take 5000) A cap [] K0 (.slice none 0 0) y2 from
      ⟨by rw [← HLL.out]; rfl, cutR_nil c HOK.out, (HIW.out.take _).below hW2, HBB.out.take _, by rw [HFM.out]; exact hmc, by rw [HFM.out]; exact HAM.out, (fun ad e => ⟨ad, e, rfl⟩),
       ⟨0, 0, 0, none, 0, hrg, ScanOk.zero c HOK.out _, Ints.nil _ _ _, (fun i => by simp), Nat.le_refl _, (fun ad e => by cases e), fun _ => ⟨rfl, rfl⟩⟩,
       ⟨[], World.ownsRow_nil _ _ _ _, RowsV.nil _ _⟩, by simp [Value.ownBlock], hK2, hKg, World.grownBy.refl _ _, by rw [HFM.out]; simp <;> omega, row_lt hrg,
       (fun k ⟨a, e, hk⟩ h0 => by
         rw [HFM.out] at h0
         have h1 := HALT.out a e (by rw [HN.out]; omega)
         have h2 := HBW.out.size
         have h3 := HY1.out.size
         have h4 := hy2.size
         omega)⟩)
    have HW2 := Lib.hid hW2
    have hsy := hy2.size
    have hgl := row_lt hrg
    clear hW2 hrg hy2 hK2 hKg e0 e1 e2 e3
    go_wp2_with fail
    go_loopg [11, 12, 13] 5000 (fun kq v11 v12 v13 w' => ∃ (i : Nat) (h rest : List Int) (Ar : Option Addr) (cr : Nat) (Lo : List (List Int)) (Y : Nat), v12 = .slice Ar rest.length cr ∧ v13 = .int .i64 (i : Int) ∧ kq = rest.length ∧ i + rest.length ≤ 5000 ∧ PRel y2 g c A L h rest Ar cr Lo Y v11 w')
    case atStart => exact ⟨0, [], l.take 5000, A, cap, [], K0, by rw [HFM.out], rfl, HFM.out.symm, by rw [HFM.out]; omega, HREL.out⟩
    case round =>
      obtain ⟨i, h, rest, Ar, cr, Lo, Y, rfl, rfl, hk, hir, R⟩ := hrel
      have HP := Lib.hid R
      obtain ⟨rl, hrl⟩ : ∃ z, rest.length = z := ⟨_, rfl⟩
      have HRL := Lib.hid hrl
      have hlec := R.lec
      have hnum := R.num
      have hsr := R.gr.size
      rw [hrl] at hk hir hlec hnum
      rw [HRL.out]
      have HSW := Lib.hid ((HSI.out.below (HW2.out)).grown R.gr (fun ad e h0 => by
        have h1 := HSI.out.blk ad e h0
        have h2 := HY1.out.size
        simp; omega))
      obtain ⟨vals1, ho1, hv1⟩ := R.rows
      have HO1 := Lib.hid ho1
      have HV1 := Lib.hid hv1
      have HLT1 := Lib.hid ho1.lt
      have hLo : Lo.length ≤ 5001 := by
        have := congrArg List.length R.all
        rw [List.length_append] at this
        omega
      clear R hrl ho1 hv1
      subst hk
      by_cases hr0 : gk = 0
      · subst hr0
        have hrest : rest = [] := List.length_eq_zero_iff.1 HRL.out
        subst hrest
        have HLe := Lib.hid (show L = Lo ++ restR h by rw [HP.out.all, List.append_nil, pcsR_zero c h HP.out.cut0])
        have HCL := Lib.hid (Close_any c HOK.out g h (fun k => k = Y) wr HP.out.str (by omega))
        have hRWr := HRY.out.grown HP.out.gr (fun ad e => by have := (HA2.out ad e).2; simp; omega) (fun k hk => by have := hk.2.1; simp; omega)
        have HRWr := Lib.hid hRWr
        clear hRWr
        go_wp2_with fail
        refine HCL.out.mono ?_
        rintro e w4 ⟨v2, rfl, hg4, hnr2, -⟩
        obtain ⟨A3, c3, vals2, rfl, hA3n, hvl, hvc, hv2⟩ := hnr2.arg
        have hrl1 := restR_length h
        have ho1' := HO1.out.kept hg4 (Or.inr (fun e => by have := HLT1.out g e; have := HP.out.glt; omega))
        have HO1' := Lib.hid ho1'
        have HV2 := Lib.hid hv2
        have HG4 := Lib.hid hg4
        have HA3 := Lib.hid hA3n
        have HVL := Lib.hid hvl
        have HVC := Lib.hid hvc
        have hs4 := hg4.size
        obtain ⟨m2, hm2e⟩ : ∃ z, (restR h).length = z := ⟨_, rfl⟩
        have HM2 := Lib.hid hm2e
        rw [hm2e] at HA3 HVL hrl1 ⊢
        clear hv2 hg4 hA3n hvl hvc ho1' hnr2 hm2e
        go_wp2_with (at_builtin; refine wpList_app_w E28 (by rfl) _ _ rfl y2.heap.size _ Lo.length vals1 rfl HO1'.out A3 m2 c3 vals2 rfl HA3.out HVL.out HVC.out HV2.out.oneCell ?c3 ?c4 ?c5 ?_)
        case c3 => unfold maxLen; omega
        case c4 => omega
        case c5 => omega
        intro v7 w7 hown7 hgrow7 hat7
        have hs7 := hgrow7.size
        have hnr7 : NewRows (fun _ => True) y2.heap.size L w7 v7 := by
          refine ⟨vals1 ++ vals2, by rw [HLe.out, List.length_append, HM2.out]; exact hown7, ?_⟩
          rw [HLe.out]
          refine RowsV.append (((HV1.out.kept HG4.out (fun k hk e => ?_)).kept hgrow7 (fun k hk e => hk.2.2 e.symm)).imp (fun _ _ => trivial)) ((HV2.out.kept hgrow7 (fun k hk e => ?_)).imp (fun _ _ => trivial))
          · injection e with e; have := hk.1; have := HP.out.glt; omega
          · have := HLT1.out k e.symm; have := hk.1; omega
        obtain ⟨A7, c7, rfl, -, hrw7, -⟩ := hnr7.rows
        have hR2 := (HRWr.out.grown HG4.out (fun ad e => by have := (HA2.out ad e).2; simp; omega) (fun k hk => by have := hk.2.1; simp; omega)).grown hgrow7 (fun ad e he => by have := (HA2.out ad e).2; have := HLT1.out _ he.symm; omega) (fun k hk he => by have := hk.2.1; have := HLT1.out _ he.symm; omega)
        have HR2 := Lib.hid hR2
        have HR7 := Lib.hid hrw7
        have HBZ := Lib.hid (show Below w.heap.size w w7 from by
          have h1 := HBW.out.trans (HW2.out.mono HBW.out.size)
          have hw := h1.size
          have hWs := HBW.out.size
          have hY := HY1.out.size
          refine ((h1.grown HP.out.gr hw (fun k hk => by cases hk; omega)).grown HG4.out (by omega) (fun k hk => by cases hk; omega)).grown hgrow7 (by omega) (fun k hk => ?_)
          have := HLT1.out k hk; omega)
        obtain ⟨N, hN⟩ : ∃ N, L.length = N := ⟨_, rfl⟩
        have HNN := Lib.hid hN
        rw [hN] at hLn hc2 ⊢
        clear hown7 hgrow7 hat7 hnr7 hR2 hrw7 hN
        go_wp2_with fail
        refine (Same_any _ _ _ _ N c7 c2 L _ HNN.out (by omega) HR7.out HR2.out).mono ?_
        rintro e w8 ⟨rfl, q8, rfl⟩
        go_wp2_with fail
        go_ret
        exact ⟨rfl, below_drewN HBZ.out _⟩
      · by_cases hq0 : q = 0
        · obtain rfl : q = 0 := hq0
          have hnn : 0 < 1 ∧ 1 ≤ gk := by omega
          have h1k : (1 : Int) ≤ (gk : Int) := by omega
          have hn0 : 0 < 1 := by omega
          have hn1 : 1 ≤ gk := by omega
          have HWR := Lib.hid (Write_any c HOK.out g h (rest.take 1) (fun k => k = Y) Ar 1 cr wr HP.out.str (by rw [List.length_take, HRL.out]; omega) (by omega) (HP.out.ints.take 1) (HP.out.byt.take 1) (fun e => by have := HP.out.nil e; rw [HRL.out] at this; omega) (by omega))
          go_wp2_with fail
          (with_reducible refine HWR.out.mono ?_)
          rintro e w2 ⟨v2, Y2, rfl, hg2, hY2, hY2l, hvY2, hnr2, hS2⟩
          obtain ⟨A3, c3, vals2, rfl, hA3n, hvl, hvc, hv2⟩ := hnr2.arg
          have hln := endsR_num c HOK.out (h ++ rest.take 1)
          rw [List.length_append, List.length_take, HRL.out] at hln
          have ho1' := HO1.out.kept hg2 (Or.inr (fun e => by have := HLT1.out g e; have := HP.out.glt; omega))
          have HO1' := Lib.hid ho1'
          have HV2 := Lib.hid hv2
          have HG2 := Lib.hid hg2
          have HA3 := Lib.hid hA3n
          have HVL := Lib.hid hvl
          have HVC := Lib.hid hvc
          have HS2 := Lib.hid hS2
          have hs2 := hg2.size
          obtain ⟨L2, hL2⟩ : ∃ Z, (endsR c (h ++ rest.take 1)).1 = Z := ⟨_, rfl⟩
          have HL2 := Lib.hid hL2
          rw [hL2] at HV2 HA3 HVL hln ⊢
          obtain ⟨m2, hm2e⟩ : ∃ Z, L2.length = Z := ⟨_, rfl⟩
          have HM2 := Lib.hid hm2e
          rw [hm2e] at HA3 HVL hln ⊢
          clear hv2 hg2 hA3n hvl hvc hS2 ho1' hnr2 hL2 hm2e hvY2
          go_wp2_with (at_builtin; refine wpList_app E28 rfl _ _ rfl y2.heap.size _ Lo.length vals1 rfl HO1'.out A3 m2 c3 vals2 rfl HA3.out HVL.out HVC.out HV2.out.oneCell ?c3 ?c4 ?c5 ?_)
          case c3 => unfold maxLen; omega
          case c4 => omega
          case c5 => omega
          intro v7 w7 hown7 hgrow7 hat7
          have HO7 := Lib.hid hown7
          have HG7 := Lib.hid hgrow7
          have HAT7 := Lib.hid hat7
          clear hown7 hgrow7 hat7
          have hk1 : (1 : Int) ≤ (gk : Int) := by omega
          obtain ⟨ar, ear, _⟩ := HP.out.ints 0 (by rw [HRL.out]; omega)
          subst ear
          have hdl : (rest.drop 1).length = gk - 1 := by rw [List.length_drop, HRL.out]
          have HDL := Lib.hid hdl
          clear hdl
          by_cases hck : cr = 1
          · have HST := Lib.hid (HP.out.step HOK.out hn0 (by rw [HRL.out]; exact hn1) HG2.out hY2 hY2l HV1.out HLT1.out (by rw [HL2.out]; exact HV2.out) HS2.out (by rw [HL2.out, HM2.out]; exact HO7.out) HG7.out HAT7.out (some ar) 0 (Or.inl ⟨hck, rfl, rfl⟩))
            go_wp2_with fail
            go_roundg (gk - 1)
            case measure => omega
            case rel => exact ⟨i + 1, _, rest.drop 1, some ar, 0, _, Y2, by first | (rw [HDL.out]; done) | (rw [HDL.out, Nat.sub_self]; done) | (rw [HDL.out]; simp [Addr.add]; done), by go_num, HDL.out.symm, by rw [HDL.out]; omega, HST.out⟩
          · have HST := Lib.hid (HP.out.step HOK.out hn0 (by rw [HRL.out]; exact hn1) HG2.out hY2 hY2l HV1.out HLT1.out (by rw [HL2.out]; exact HV2.out) HS2.out (by rw [HL2.out, HM2.out]; exact HO7.out) HG7.out HAT7.out (some (ar.add 1)) (cr - 1) (Or.inr ⟨hck, rfl, rfl⟩))
            go_wp2_with fail
            go_roundg (gk - 1)
            case measure => omega
            case rel => exact ⟨i + 1, _, rest.drop 1, some (ar.add 1), cr - 1, _, Y2, by first | (rw [HDL.out]; done) | (rw [HDL.out, Nat.sub_self]; done) | (rw [HDL.out]; simp [Addr.add]; done), by go_num, HDL.out.symm, by rw [HDL.out]; omega, HST.out⟩
        · obtain ⟨sb, es, hsc⟩ := HSW.out (i % q) (by rw [HSQ.out]; exact Nat.mod_lt _ (by omega))
          subst es
          have hsbb := HSB.out (i % q)
          obtain ⟨z, hz⟩ : ∃ z : Nat, sz.getD (i % q) 0 = z := ⟨(sz.getD (i % q) 0).toNat, by omega⟩
          rw [hz] at hsc hsbb
          have hqp : (0 : Int) < (q : Int) := by omega
          have hm0 : (0 : Int) ≤ (i : Int) % (q : Int) := by omega
          have hm1 : (i : Int) % (q : Int) < (q : Int) := Int.emod_lt_of_pos _ hqp
          clear hz
          by_cases hzk : z + 1 ≤ gk
          · have hzk' := hzk
            have hn0 : 0 < (z + 1) := by omega
            have hn1 : (z + 1) ≤ gk := by omega
            have HWR := Lib.hid (Write_any c HOK.out g h (rest.take (z + 1)) (fun k => k = Y) Ar (z + 1) cr wr HP.out.str (by rw [List.length_take, HRL.out]; omega) (by omega) (HP.out.ints.take (z + 1)) (HP.out.byt.take (z + 1)) (fun e => by have := HP.out.nil e; rw [HRL.out] at this; omega) (by omega))
            go_wp2_with fail
            (with_reducible refine HWR.out.mono ?_)
            rintro e w2 ⟨v2, Y2, rfl, hg2, hY2, hY2l, hvY2, hnr2, hS2⟩
            obtain ⟨A3, c3, vals2, rfl, hA3n, hvl, hvc, hv2⟩ := hnr2.arg
            have hln := endsR_num c HOK.out (h ++ rest.take (z + 1))
            rw [List.length_append, List.length_take, HRL.out] at hln
            have ho1' := HO1.out.kept hg2 (Or.inr (fun e => by have := HLT1.out g e; have := HP.out.glt; omega))
            have HO1' := Lib.hid ho1'
            have HV2 := Lib.hid hv2
            have HG2 := Lib.hid hg2
            have HA3 := Lib.hid hA3n
            have HVL := Lib.hid hvl
            have HVC := Lib.hid hvc
            have HS2 := Lib.hid hS2
            have hs2 := hg2.size
            obtain ⟨L2, hL2⟩ : ∃ Z, (endsR c (h ++ rest.take (z + 1))).1 = Z := ⟨_, rfl⟩
            have HL2 := Lib.hid hL2
            rw [hL2] at HV2 HA3 HVL hln ⊢
            obtain ⟨m2, hm2e⟩ : ∃ Z, L2.length = Z := ⟨_, rfl⟩
            have HM2 := Lib.hid hm2e
            rw [hm2e] at HA3 HVL hln ⊢
            clear hv2 hg2 hA3n hvl hvc hS2 ho1' hnr2 hL2 hm2e hvY2
            go_wp2_with (at_builtin; refine wpList_app E28 rfl _ _ rfl y2.heap.size _ Lo.length vals1 rfl HO1'.out A3 m2 c3 vals2 rfl HA3.out HVL.out HVC.out HV2.out.oneCell ?c3 ?c4 ?c5 ?_)
            case c3 => unfold maxLen; omega
            case c4 => omega
            case c5 => omega
            intro v7 w7 hown7 hgrow7 hat7
            have HO7 := Lib.hid hown7
            have HG7 := Lib.hid hgrow7
            have HAT7 := Lib.hid hat7
            clear hown7 hgrow7 hat7
            have hk1 : ((z + 1) : Int) ≤ (gk : Int) := by omega
            obtain ⟨ar, ear, _⟩ := HP.out.ints 0 (by rw [HRL.out]; omega)
            subst ear
            have hdl : (rest.drop (z + 1)).length = gk - (z + 1) := by rw [List.length_drop, HRL.out]
            have HDL := Lib.hid hdl
            clear hdl
            by_cases hck : cr = (z + 1)
            · have HST := Lib.hid (HP.out.step HOK.out hn0 (by rw [HRL.out]; exact hn1) HG2.out hY2 hY2l HV1.out HLT1.out (by rw [HL2.out]; exact HV2.out) HS2.out (by rw [HL2.out, HM2.out]; exact HO7.out) HG7.out HAT7.out (some ar) 0 (Or.inl ⟨hck, rfl, rfl⟩))
              go_wp2_with fail
              go_roundg (gk - (z + 1))
              case measure => omega
              case rel => exact ⟨i + 1, _, rest.drop (z + 1), some ar, 0, _, Y2, by first | (rw [HDL.out]; done) | (rw [HDL.out, Nat.sub_self]; done) | (rw [HDL.out]; simp [Addr.add]; done), by go_num, HDL.out.symm, by rw [HDL.out]; omega, HST.out⟩
            · have HST := Lib.hid (HP.out.step HOK.out hn0 (by rw [HRL.out]; exact hn1) HG2.out hY2 hY2l HV1.out HLT1.out (by rw [HL2.out]; exact HV2.out) HS2.out (by rw [HL2.out, HM2.out]; exact HO7.out) HG7.out HAT7.out (some (ar.add (z + 1))) (cr - (z + 1)) (Or.inr ⟨hck, rfl, rfl⟩))
              go_wp2_with fail
              go_roundg (gk - (z + 1))
              case measure => omega
              case rel => exact ⟨i + 1, _, rest.drop (z + 1), some (ar.add (z + 1)), cr - (z + 1), _, Y2, by first | (rw [HDL.out]; done) | (rw [HDL.out, Nat.sub_self]; done) | (rw [HDL.out]; simp [Addr.add]; done), by go_num, HDL.out.symm, by rw [HDL.out]; omega, HST.out⟩
          · have hzk' := hzk
            have hn0 : 0 < gk := by omega
            have hn1 : gk ≤ gk := by omega
            have HWR := Lib.hid (Write_any c HOK.out g h (rest.take gk) (fun k => k = Y) Ar gk cr wr HP.out.str (by rw [List.length_take, HRL.out]; omega) (by omega) (HP.out.ints.take gk) (HP.out.byt.take gk) (fun e => by have := HP.out.nil e; rw [HRL.out] at this; omega) (by omega))
            go_wp2_with fail
            (with_reducible refine HWR.out.mono ?_)
            rintro e w2 ⟨v2, Y2, rfl, hg2, hY2, hY2l, hvY2, hnr2, hS2⟩
            obtain ⟨A3, c3, vals2, rfl, hA3n, hvl, hvc, hv2⟩ := hnr2.arg
            have hln := endsR_num c HOK.out (h ++ rest.take gk)
            rw [List.length_append, List.length_take, HRL.out] at hln
            have ho1' := HO1.out.kept hg2 (Or.inr (fun e => by have := HLT1.out g e; have := HP.out.glt; omega))
            have HO1' := Lib.hid ho1'
            have HV2 := Lib.hid hv2
            have HG2 := Lib.hid hg2
            have HA3 := Lib.hid hA3n
            have HVL := Lib.hid hvl
            have HVC := Lib.hid hvc
            have HS2 := Lib.hid hS2
            have hs2 := hg2.size
            obtain ⟨L2, hL2⟩ : ∃ Z, (endsR c (h ++ rest.take gk)).1 = Z := ⟨_, rfl⟩
            have HL2 := Lib.hid hL2
            rw [hL2] at HV2 HA3 HVL hln ⊢
            obtain ⟨m2, hm2e⟩ : ∃ Z, L2.length = Z := ⟨_, rfl⟩
            have HM2 := Lib.hid hm2e
            rw [hm2e] at HA3 HVL hln ⊢
            clear hv2 hg2 hA3n hvl hvc hS2 ho1' hnr2 hL2 hm2e hvY2
            go_wp2_with (at_builtin; refine wpList_app E28 rfl _ _ rfl y2.heap.size _ Lo.length vals1 rfl HO1'.out A3 m2 c3 vals2 rfl HA3.out HVL.out HVC.out HV2.out.oneCell ?c3 ?c4 ?c5 ?_)
            case c3 => unfold maxLen; omega
            case c4 => omega
            case c5 => omega
            intro v7 w7 hown7 hgrow7 hat7
            have HO7 := Lib.hid hown7
            have HG7 := Lib.hid hgrow7
            have HAT7 := Lib.hid hat7
            clear hown7 hgrow7 hat7
            have hk1 : (gk : Int) ≤ (gk : Int) := by omega
            obtain ⟨ar, ear, _⟩ := HP.out.ints 0 (by rw [HRL.out]; omega)
            subst ear
            have hdl : (rest.drop gk).length = gk - gk := by rw [List.length_drop, HRL.out]
            have HDL := Lib.hid hdl
            clear hdl
            by_cases hck : cr = gk
            · have HST := Lib.hid (HP.out.step HOK.out hn0 (by rw [HRL.out]; exact hn1) HG2.out hY2 hY2l HV1.out HLT1.out (by rw [HL2.out]; exact HV2.out) HS2.out (by rw [HL2.out, HM2.out]; exact HO7.out) HG7.out HAT7.out (some ar) 0 (Or.inl ⟨hck, rfl, rfl⟩))
              go_wp2_with fail
              go_roundg (gk - gk)
              case measure => omega
              case rel => exact ⟨i + 1, _, rest.drop gk, some ar, 0, _, Y2, by first | (rw [HDL.out]; done) | (rw [HDL.out, Nat.sub_self]; done) | (rw [HDL.out]; simp [Addr.add]; done), by go_num, HDL.out.symm, by rw [HDL.out]; omega, HST.out⟩
            · have HST := Lib.hid (HP.out.step HOK.out hn0 (by rw [HRL.out]; exact hn1) HG2.out hY2 hY2l HV1.out HLT1.out (by rw [HL2.out]; exact HV2.out) HS2.out (by rw [HL2.out, HM2.out]; exact HO7.out) HG7.out HAT7.out (some (ar.add gk)) (cr - gk) (Or.inr ⟨hck, rfl, rfl⟩))
              go_wp2_with fail
              go_roundg (gk - gk)
              case measure => omega
              case rel => exact ⟨i + 1, _, rest.drop gk, some (ar.add gk), cr - gk, _, Y2, by first | (rw [HDL.out]; done) | (rw [HDL.out, Nat.sub_self]; done) | (rw [HDL.out]; simp [Addr.add]; done), by go_num, HDL.out.symm, by rw [HDL.out]; omega, HST.out⟩

theorem Pieces_law (mn mx main back : Int) (h1 : main < 4294967296) (h2 : back < 4294967296) (l : List Int) (n cap : Nat) (A : Option Addr) (sz : List Int) (q scap : Nat) (B : Option Addr) (w : World) (hn : l.length = n) (hl : n ≤ 1000000000000000) (hnc : n ≤ cap) (hA : A = none → n = 0 ∧ cap = 0) (hI : Ints .u8 w A l) (hB : Bytes l)
    (hq : sz.length = q) (hql : q ≤ 1000000000000000) (hqc : q ≤ scap) (hSI : Ints .u8 w B sz) (hSB : Bytes sz) :
    Calls Try.prog 4 #[.agg (cutC mn mx main back), .slice A n cap, .slice B q scap] w fun e w' => e = .returned (.bool true) ∧ Below w.heap.size w w' := by
  by_cases h : RightI mn mx main back
  · obtain ⟨c, ok, rfl, rfl, rfl, rfl⟩ := ct_of mn mx main back h h1 h2
    exact Pieces_yes c ok l n cap A sz q scap B w hn hl hnc hA hI hB hq hql hqc hSI hSB
  · exact Pieces_no mn mx main back h l n cap A _ w hn hl hnc hI

end Go.Proofs.Ytealompbbknijaa
