/- The document's digest: block. -/
import Derived.Test.YtehmnkkfoopanaaBlockA
namespace Go.Proofs.Ytehmnkkfoopanaa
open Go.RowKit

set_option maxRecDepth 20000 in
set_option maxHeartbeats 6400000 in
theorem block_any (hs b : List Int) (A : Option Addr) (q c n : Nat) (last : Bool) (w : World) (h8 : hs.length = 8) (hb : Bytes b) (hq : b.length = q) (_hq64 : q ≤ 64) (hI : Ints .u8 w A b) (hn : n < 4611686018427387904) :
    Calls Try.prog 20 #[.agg (cellsW hs), .slice A q c, .int .u64 n, .bool last] w fun e w' => e = .returned (.agg (cellsW (blockF hs (pad b) n last))) ∧ w.grownBy w' none := by
  have H8 := Lib.hid h8
  have HB := Lib.hid hb
  have HQ := Lib.hid hq
  have HI := Lib.hid hI
  have R0 := Lib.hid (show Rws w (((w.alloc (.cells (cellsW hs) 44)).alloc (.cells (cellsW z8) 44)).alloc (.cells (cellsW (loadM (pad b) 0)) 52)) [(w.heap.size, cellsW hs, 44), (w.heap.size + 1, cellsW z8, 44), (w.heap.size + 1 + 1, cellsW (loadM (pad b) 0), 52)] by
    have h := (((Rws.start w).alloc (cellsW hs) 44).alloc (cellsW z8) 44).alloc (cellsW (loadM (pad b) 0)) 52
    simpa using h)
  clear h8 hb hq hI
  go_enter Try.func20, Try.ntmps20
  go_upto_region 2 with (fail)
  obtain ⟨W, hW⟩ : ∃ z, z = ((w.alloc (.cells (cellsW hs) 44)).alloc (.cells (cellsW z8) 44)).alloc (.cells (cellsW (loadM (pad b) 0)) 52) := ⟨_, rfl⟩
  change Code.wp _ _ _ _ (((w.alloc (.cells (cellsW hs) 44)).alloc (.cells (cellsW z8) 44)).alloc (.cells (cellsW (loadM (pad b) 0)) 52))
  rw [← hW] at R0 ⊢
  obtain ⟨gh, hgh⟩ : ∃ z, z = w.heap.size := ⟨_, rfl⟩
  obtain ⟨gr, hgr⟩ : ∃ z, z = w.heap.size + 1 := ⟨_, rfl⟩
  obtain ⟨gm, hgm⟩ : ∃ z, z = w.heap.size + 1 + 1 := ⟨_, rfl⟩
  rw [← hgm, ← hgr, ← hgh] at R0
  rw [← hgm, ← hgr, ← hgh]
  clear hgh hgr hgm hW
  go_wp2_with fail
  go_loopg [10] 64 (fun kq v10 w' => ∃ i : Nat, v10 = .int .i64 (i : Int) ∧ i + kq = 64 ∧ Rws w w' [(gh, cellsW hs, 44), (gr, cellsW z8, 44), (gm, cellsW (loadM (pad b) i), 52)])
  case atStart => exact ⟨0, rfl, by omega, R0.out⟩
  case round =>
    obtain ⟨i, rfl, hi, hR⟩ := hrel
    have R1 := Lib.hid hR
    by_cases hlt : i < 64
    · have hcm := hR.c 2 rfl (i / 4) (by rw [loadM_length]; omega)
      have hfz := hR.f 2 rfl (i / 4)
      have HLS := Lib.hid (show (loadM (pad b) i).set (i / 4) (Go.bits .or .u32 ((loadM (pad b) i).getD (i / 4) 0) ((pad b).getD i 0 * 2 ^ (8 * (i % 4)) % 4294967296)) = loadM (pad b) (i + 1) from rfl)
      have HS := Lib.hid (hR.setW 2 rfl (i / 4) (Go.bits .or .u32 ((loadM (pad b) i).getD (i / 4) 0) ((pad b).getD i 0 * 2 ^ (8 * (i % 4)) % 4294967296))).drew
      have HPG := Lib.hid (pad_get b i)
      have i1 : (i : Int) < 64 := by omega
      have i2 : (0 : Int) ≤ (i : Int) / 4 := by omega
      have i3 : (i : Int) / 4 < 16 := by omega
      have i4 : (0 : Int) ≤ (i : Int) % 4 := by omega
      have i5 : (i : Int) % 4 < 4 := by omega
      have i6 : (0 : Int) ≤ (i : Int) := by omega
      generalize (loadM (pad b) i).getD (i / 4) 0 = mx at *
      by_cases hiq : i < q
      · obtain ⟨ad, rfl, hci⟩ := HI.out i (by rw [HQ.out]; exact hiq)
        have hci2 := (hR.bel.block _ (cell_block hci))
        have hci3 := (World.cell?_of_block (w := w) (w' := wr) (a := ad.add i) (by rw [add_block]; exact hci2)).trans hci
        rw [HPG.out, if_pos (by rw [HQ.out]; exact hiq)] at HS HLS
        obtain ⟨b0, b1⟩ := HB.out i
        generalize b.getD i 0 = x at *
        clear hci hci2 hR hlt
        go_upto_region 8 with (fail)
        go_region
        go_wp2_with fail
        go_roundg (64 - (i + 1))
        case measure => omega
        case rel => exact ⟨i + 1, by go_num, by omega, HLS.out ▸ HS.out⟩
      · rw [HPG.out, if_neg (by rw [HQ.out]; exact hiq)] at HS HLS
        have hz : (0 : Int) * 2 ^ (8 * (i % 4)) % 4294967296 = 0 := by rw [Int.zero_mul]; rfl
        rw [hz] at HS HLS
        clear hR hlt hz
        go_upto_region 8 with (fail)
        go_region
        go_wp2_with fail
        go_roundg (64 - (i + 1))
        case measure => omega
        case rel => exact ⟨i + 1, by go_num, by omega, HLS.out ▸ HS.out⟩
    · have hi64 : i = 64 := by omega
      subst hi64
      obtain ⟨M, hM⟩ : ∃ z, z = loadM (pad b) 64 := ⟨_, rfl⟩
      have HM := Lib.hid hM
      have HML := Lib.hid (show M.length = 16 by rw [hM]; exact loadM_length _ _)
      rw [← hM] at R1
      clear hM hR hlt hi
      go_upto_region 10 with (fail)
      have R2 := Lib.hid (show Rws w (wr.alloc (.cells (cellsW z16) 52)) [(gh, cellsW hs, 44), (gr, cellsW z8, 44), (gm, cellsW M, 52), (wr.heap.size, cellsW z16, 52)] from R1.out.alloc (cellsW z16) 52)
      obtain ⟨W2, hW⟩ : ∃ z, z = wr.alloc (.cells (cellsW z16) 52) := ⟨_, rfl⟩
      obtain ⟨gv, hgv⟩ : ∃ z, z = wr.heap.size := ⟨_, rfl⟩
      change Code.wp _ _ _ _ (wr.alloc (.cells (cellsW z16) 52))
      rw [← hW, ← hgv] at R2 ⊢
      clear hW hgv
      go_wp2_with fail
      refine (words_any _).mono ?_
      rintro e W3 ⟨rfl, hg3⟩
      have R3 := Lib.hid ((R2.out.quiet (below_refl_grown hg3)).alloc (cellsW ivL) 44)
      clear hg3
      simp only [cellsW, ivL, List.map]
      go_upto_region 11 with (fail)
      obtain ⟨W4, hW⟩ : ∃ z, z = W3.alloc (.cells (cellsW ivL) 44) := ⟨_, rfl⟩
      obtain ⟨gi, hgi⟩ : ∃ z, z = W3.heap.size := ⟨_, rfl⟩
      change Code.wp _ _ _ _ (W3.alloc (.cells (cellsW ivL) 44))
      rw [← hW, ← hgi] at R3 ⊢
      have R3 := Lib.hid (show Rws w W4 [(gh, cellsW hs, 44), (gr, cellsW z8, 44), (gm, cellsW M, 52), (gv, cellsW z16, 52), (gi, cellsW ivL, 44)] from R3.out)
      clear hW hgi
      go_wp2_with fail
      go_loopg [14] 8 (fun kq v14 w' => ∃ i : Nat, v14 = .int .i64 (i : Int) ∧ i + kq = 8 ∧ Rws w w' [(gh, cellsW hs, 44), (gr, cellsW z8, 44), (gm, cellsW M, 52), (gv, cellsW (vS hs i), 52), (gi, cellsW ivL, 44)])
      case atStart => exact ⟨0, rfl, by omega, R3.out⟩
      case round =>
        obtain ⟨i, rfl, hi, hR⟩ := hrel
        have R4 := Lib.hid hR
        by_cases hlt : i < 8
        · have c1 := hR.c 0 rfl i (by rw [H8.out]; exact hlt)
          have c2 := hR.c 4 rfl i (by show i < 8; exact hlt)
          have f1 := hR.f 3 rfl i
          have f2 := hR.f 3 rfl (i + 8)
          have k1 := hR.c 3 rfl i (by rw [vS_length]; omega)
          have k2 := hR.c 3 rfl (i + 8) (by rw [vS_length]; omega)
          have HN := Lib.hid (show Rws w _ [(gh, cellsW hs, 44), (gr, cellsW z8, 44), (gm, cellsW M, 52), (gv, cellsW (vS hs (i + 1)), 52), (gi, cellsW ivL, 44)] from (hR.setW 3 rfl i (hs.getD i 0)).setW 3 rfl (i + 8) (ivL.getD i 0))
          have nvi : gv ≠ gi := hR.apart 3 4 _ _ _ _ _ _ rfl rfl (by decide)
          have i0 : (0 : Int) ≤ (i : Int) := by omega
          have i1 : (i : Int) < 8 := by omega
          have i2 : (i : Int) + 8 < 16 := by omega
          have i3 : (i : Int) < 16 := by omega
          generalize hs.getD i 0 = x1 at *
          generalize ivL.getD i 0 = x2 at *
          clear hR hlt
          go_wp2_with fail
          go_roundg (8 - (i + 1))
          case measure => omega
          case rel => exact ⟨i + 1, by go_num, by omega, HN.out⟩
        · have hi8 : i = 8 := by omega
          subst hi8
          rw [vS_8 hs H8.out] at R4
          have hc12 : wr.cell? ⟨gv, 12, none⟩ = some (.int .u32 1359893119) := by rw [R4.out.c 3 rfl 12 (by simp [H8.out, ivL]), v12 hs H8.out]
          have hf12 := R4.out.f 3 rfl 12
          have hf13 := R4.out.f 3 rfl 13
          have R5 := Lib.hid (show Rws w _ [(gh, cellsW hs, 44), (gr, cellsW z8, 44), (gm, cellsW M, 52), (gv, cellsW ((hs ++ ivL).set 12 (Go.bits .xor .u32 1359893119 ((n % 4294967296 : Nat) : Int))), 52), (gi, cellsW ivL, 44)] from R4.out.setW 3 rfl 12 (Go.bits .xor .u32 1359893119 ((n % 4294967296 : Nat) : Int)))
          have hc13 := R5.out.c 3 rfl 13 (by simp [H8.out, ivL])
          rw [v13 hs H8.out] at hc13
          have R6 := Lib.hid (show Rws w _ [(gh, cellsW hs, 44), (gr, cellsW z8, 44), (gm, cellsW M, 52), (gv, cellsW (vN hs n), 52), (gi, cellsW ivL, 44)] from R5.out.setW 3 rfl 13 (Go.bits .xor .u32 2600822924 ((n / 4294967296 : Nat) : Int)))
          have hm1 : ((n % 4294967296 : Nat) : Int) = (n : Int) % 4294967296 := by omega
          have hm2 : ((n / 4294967296 : Nat) : Int) = (n : Int) / 4294967296 := by omega
          have hm3 : (n : Int) / 4294967296 % 4294967296 = (n : Int) / 4294967296 := by omega
          rw [hm1, hm2] at R6
          rw [hm1] at hc13
          clear hR hlt hi hm1 hm2
          go_upto_if 75 with (fail)
          obtain ⟨W5, hW⟩ : ∃ z, z = (wr.setCell { block := gv, off := 12 } (Value.int IntKind.u32 (Go.bits BinOp.xor IntKind.u32 1359893119 ((n : Int) % 4294967296)))).setCell { block := gv, off := 13 } (Value.int IntKind.u32 (Go.bits BinOp.xor IntKind.u32 2600822924 ((n : Int) / 4294967296))) := ⟨_, rfl⟩
          rw [← hW] at R6 ⊢
          clear hW R5 hc13 hc12 hf12 hf13 hm3 R4
          go_cut [] (fun w' => Rws w w' [(gh, cellsW hs, 44), (gr, cellsW z8, 44), (gm, cellsW M, 52), (gv, cellsW (hs ++ wV n last), 52), (gi, cellsW ivL, 44)])
          case first =>
            cases last with
            | false =>
              have HE := Lib.hid (vN_false hs H8.out n)
              rw [HE.out] at R6
              go_wp2_with fail
              go_meet
              exact R6.out
            | true =>
              have hc14 := R6.out.c 3 rfl 14 (by simp [vN, H8.out, ivL])
              rw [v14 hs H8.out] at hc14
              have hf14 := R6.out.f 3 rfl 14
              have HE := Lib.hid (vN_true hs H8.out n)
              have R7 := Lib.hid (show Rws w _ [(gh, cellsW hs, 44), (gr, cellsW z8, 44), (gm, cellsW M, 52), (gv, cellsW ((vN hs n).set 14 3766232660), 52), (gi, cellsW ivL, 44)] from R6.out.setW 3 rfl 14 3766232660)
              rw [HE.out] at R7
              have hcm : Go.bits BinOp.xor IntKind.u32 528734635 4294967295 = 3766232660 := by decide +kernel
              go_wp2_with fail
              go_meet
              exact R7.out
          case rest =>
            have R7 := Lib.hid hcut
            clear hcut R6
            go_wp2_with fail
            refine (orders_any _).mono ?_
            rintro e W6 ⟨rfl, hg6⟩
            have R8 := Lib.hid (R7.out.quiet (below_refl_grown hg6))
            clear hg6
            obtain ⟨Z, hz, hZs⟩ : ∃ Z : Array Value, (∀ W, (zeroValue 54).run Try.prog W = .ok (.agg Z) W) ∧ Z.size = 160 := ⟨_, zero54, by simp⟩
            have HI54 := Lib.hid (show (Try.prog.info? 54).map (·.size) = some (cellsI ordC).size by rw [info54]; simp [cellsI, ordC])
            have HZ54 := Lib.hid (show Z.size = (cellsI ordC).size by rw [hZs]; simp [cellsI, ordC])
            clear hZs
            obtain ⟨W7, hst, hg7, hr7, _⟩ := store_new (P := Try.prog) W6 Z (cellsI ordC) 54 HZ54.out (one_i64 _)
            have R9 := Lib.hid (show Rws w W7 [(gh, cellsW hs, 44), (gr, cellsW z8, 44), (gm, cellsW M, 52), (gv, cellsW (hs ++ wV n last), 52), (gi, cellsW ivL, 44), (W6.heap.size, cellsI ordC, 54)] from R8.out.alloced _ _ hg7 hr7)
            simp only [cellsI] at hst
            have HST := Lib.hid hst
            clear hst hg7 hr7
            go_wp2_with (rw [HST.out]; simp only [Result.andThen_ok])
            obtain ⟨gs, hgs⟩ : ∃ z, z = W6.heap.size := ⟨_, rfl⟩
            rw [← hgs] at R9 ⊢
            have hV16 : (hs ++ wV n last).length = 16 := by rw [List.length_append, H8.out]; rfl
            have HV16 := Lib.hid hV16
            obtain ⟨V0, hV0⟩ : ∃ z, z = hs ++ wV n last := ⟨_, rfl⟩
            have HV0 := Lib.hid hV0
            rw [← hV0] at R9 HV16
            clear hgs hV0 hV16 hz HST R8 R7
            go_loopg [16] 10 (fun kq v16 w' => ∃ r : Nat, v16 = .int .i64 (r : Int) ∧ r + kq = 10 ∧ Rws w w' [(gh, cellsW hs, 44), (gr, cellsW z8, 44), (gm, cellsW M, 52), (gv, cellsW (roundsF M r V0), 52), (gi, cellsW ivL, 44), (gs, cellsI ordC, 54)])
            case atStart => exact ⟨0, rfl, by omega, R9.out⟩
            case round =>
              obtain ⟨r, rfl, hr, hR⟩ := hrel
              have R1 := Lib.hid hR
              by_cases hlt : r < 10
              · have HOR := Lib.hid (ord_range (hR.at 5 rfl) r hlt)
                have HI53 := Lib.hid (info53' r)
                have HNB := Lib.hid (nib_lt r hlt)
                have r0 : (0 : Int) ≤ (r : Int) := by omega
                have r1 : (r : Int) < 10 := by omega
                clear hR
                have hol : (oRow r).length = 16 := by simp [oRow]
                obtain ⟨W8, hst, hg8, hr8, _⟩ := store_new (P := Try.prog) wr (z16.map (Value.int .i64)).toArray (cellsI (oRow r)) 53 (by simp [cellsI, hol, z16]) (one_i64 _)
                have R2 := Lib.hid (show Rws w W8 [(gh, cellsW hs, 44), (gr, cellsW z8, 44), (gm, cellsW M, 52), (gv, cellsW (roundsF M r V0), 52), (gi, cellsW ivL, 44), (gs, cellsI ordC, 54), (wr.heap.size, cellsI (oRow r), 53)] from R1.out.alloced _ _ hg8 hr8)
                simp only [cellsI, z16, List.map] at hst
                have HST := Lib.hid hst
                clear hst hg8 hr8
                go_upto_region 25 with (first | (with_reducible refine Go.wpList_load_mid rfl 53 _ rfl gs (r * 16) rfl ((oRow r).map (Value.int .i64)) _ HOR.out Try.underlying53 rfl HI53.out ?_) | (rw [HST.out]; simp only [Result.andThen_ok]))
                obtain ⟨go, hgo⟩ : ∃ z, z = wr.heap.size := ⟨_, rfl⟩
                rw [← hgo] at R2 ⊢
                have HLN := Lib.hid ((roundsF_length M r V0).trans HV16.out)
                have HNX := Lib.hid (show stepsF M r 8 (roundsF M r V0) = roundsF M (r + 1) V0 from rfl)
                obtain ⟨V, hV⟩ : ∃ z, z = roundsF M r V0 := ⟨_, rfl⟩
                rw [← hV] at R2 HLN HNX
                have HOC := Lib.hid (fun (W : World) (L : List (Nat × Array Value × TypeId)) (R : Rws w W L) (h6 : L[6]? = some (go, cellsI (oRow r), 53)) (j : Nat) (hj : j < 16) => (show W.cell? ⟨go, j, none⟩ = some (.int .i64 ((nib r j : Nat) : Int)) by rw [cell_of_row _ _ _ _ _ _ (R.at 6 h6), cellsI_get _ _ (by simp [oRow]; exact hj), oRow_get r j hj]))
                clear hV hgo HST HOR hol
                have HVV0 := Lib.hid (show V = stepsF M r 0 V from rfl)
                as_aux_lemma =>
                 have n0 := HNB.out 0 (by decide)
                 have n1 := HNB.out 1 (by decide)
                 have c0 := HOC.out _ _ R2.out rfl 0 (by decide)
                 have c1 := HOC.out _ _ R2.out rfl 1 (by decide)
                 have m0 := R2.out.c 2 rfl (nib r 0) (by rw [HML.out]; exact n0)
                 have m1 := R2.out.c 2 rfl (nib r 1) (by rw [HML.out]; exact n1)
                 obtain ⟨x0, hx0⟩ : ∃ z, z = M.getD (nib r 0) 0 := ⟨_, rfl⟩
                 obtain ⟨x1, hx1⟩ : ∃ z, z = M.getD (nib r 1) 0 := ⟨_, rfl⟩
                 rw [← hx0] at m0
                 rw [← hx1] at m1
                 have HMX := Lib.hid (mix_at gv 0 4 8 12 V x0 x1 W8.drew (R2.out.at 3 rfl) HLN.out (by decide) (by decide) (by decide) (by decide) (by decide) (by decide) (by decide) (by decide) (by decide) (by decide) 0 4 8 12 rfl rfl rfl rfl)
                 obtain ⟨V1, hV2⟩ : ∃ z, z = stepsF M r 1 V := ⟨_, rfl⟩
                 have HVV1 := Lib.hid hV2
                 have HVE := Lib.hid (show mixL V 0 4 8 12 x0 x1 = V1 by rw [hV2, hx0, hx1, HVV0.out]; rfl)
                 have HLN1 := Lib.hid (show V1.length = 16 by rw [← HVE.out, mixL_length]; exact HLN.out)
                 rw [HVE.out] at HMX
                 generalize nib r 0 = k0 at *
                 generalize nib r 1 = k1 at *
                 as_aux_lemma =>
                  have n2 : (k0 : Int) < 16 := by omega
                  have n3 : (k1 : Int) < 16 := by omega
                  clear hx0 hx1 hV2
                  go_upto_region 25 with (fail)
                  as_aux_lemma =>
                   refine wp_region_still_tail 8 (by kernel_rfl) (by kernel_rfl) ?_
                   simp only [List.take_succ_cons, List.take_zero, List.drop_succ_cons, List.drop_zero]
                   as_aux_lemma =>
                    repeat still_step
                    refine wpStill_nil ?_
                    as_aux_lemma =>
                     change wpList _ _ _ _ _ W8.drew
                     clear c0 c1 m0 m1 n0 n1 n2 n3
                     go_wp2_with (go_at_call 25; refine HMX.out.mono ?_; rintro e W8n ⟨rfl, hgn, hrn⟩; have R2n := Lib.hid (show Rws w W8n [(gh, cellsW hs, 44), (gr, cellsW z8, 44), (gm, cellsW M, 52), (gv, cellsW V1, 52), (gi, cellsW ivL, 44), (gs, cellsI ordC, 54), (go, cellsI (oRow r), 53)] from R2.out.drew.change 3 rfl hgn hrn); clear hgn hrn HMX HVE)
                     as_aux_lemma =>
                      have n0 := HNB.out 2 (by decide)
                      have n1 := HNB.out 3 (by decide)
                      have c0 := HOC.out _ _ R2n.out rfl 2 (by decide)
                      have c1 := HOC.out _ _ R2n.out rfl 3 (by decide)
                      have m0 := R2n.out.c 2 rfl (nib r 2) (by rw [HML.out]; exact n0)
                      have m1 := R2n.out.c 2 rfl (nib r 3) (by rw [HML.out]; exact n1)
                      obtain ⟨x0, hx0⟩ : ∃ z, z = M.getD (nib r 2) 0 := ⟨_, rfl⟩
                      obtain ⟨x1, hx1⟩ : ∃ z, z = M.getD (nib r 3) 0 := ⟨_, rfl⟩
                      rw [← hx0] at m0
                      rw [← hx1] at m1
                      have HMX := Lib.hid (mix_at gv 1 5 9 13 V1 x0 x1 W8n.drew (R2n.out.at 3 rfl) HLN1.out (by decide) (by decide) (by decide) (by decide) (by decide) (by decide) (by decide) (by decide) (by decide) (by decide) 1 5 9 13 rfl rfl rfl rfl)
                      obtain ⟨V2, hV2⟩ : ∃ z, z = stepsF M r 2 V := ⟨_, rfl⟩
                      have HVV2 := Lib.hid hV2
                      have HVE := Lib.hid (show mixL V1 1 5 9 13 x0 x1 = V2 by rw [hV2, hx0, hx1, HVV1.out]; rfl)
                      have HLN2 := Lib.hid (show V2.length = 16 by rw [← HVE.out, mixL_length]; exact HLN1.out)
                      rw [HVE.out] at HMX
                      generalize nib r 2 = k0 at *
                      generalize nib r 3 = k1 at *
                      as_aux_lemma =>
                       have n2 : (k0 : Int) < 16 := by omega
                       have n3 : (k1 : Int) < 16 := by omega
                       clear hx0 hx1 hV2
                       go_upto_region 26 with (fail)
                       as_aux_lemma =>
                        refine wp_region_still_tail 8 (by kernel_rfl) (by kernel_rfl) ?_
                        simp only [List.take_succ_cons, List.take_zero, List.drop_succ_cons, List.drop_zero]
                        as_aux_lemma =>
                         repeat still_step
                         refine wpStill_nil ?_
                         as_aux_lemma =>
                          change wpList _ _ _ _ _ W8n.drew
                          clear c0 c1 m0 m1 n0 n1 n2 n3
                          go_wp2_with (go_at_call 25; refine HMX.out.mono ?_; rintro e W8nn ⟨rfl, hgn, hrn⟩; have R2nn := Lib.hid (show Rws w W8nn [(gh, cellsW hs, 44), (gr, cellsW z8, 44), (gm, cellsW M, 52), (gv, cellsW V2, 52), (gi, cellsW ivL, 44), (gs, cellsI ordC, 54), (go, cellsI (oRow r), 53)] from R2n.out.drew.change 3 rfl hgn hrn); clear hgn hrn HMX HVE)
                          as_aux_lemma =>
                           have n0 := HNB.out 4 (by decide)
                           have n1 := HNB.out 5 (by decide)
                           have c0 := HOC.out _ _ R2nn.out rfl 4 (by decide)
                           have c1 := HOC.out _ _ R2nn.out rfl 5 (by decide)
                           have m0 := R2nn.out.c 2 rfl (nib r 4) (by rw [HML.out]; exact n0)
                           have m1 := R2nn.out.c 2 rfl (nib r 5) (by rw [HML.out]; exact n1)
                           obtain ⟨x0, hx0⟩ : ∃ z, z = M.getD (nib r 4) 0 := ⟨_, rfl⟩
                           obtain ⟨x1, hx1⟩ : ∃ z, z = M.getD (nib r 5) 0 := ⟨_, rfl⟩
                           rw [← hx0] at m0
                           rw [← hx1] at m1
                           have HMX := Lib.hid (mix_at gv 2 6 10 14 V2 x0 x1 W8nn.drew (R2nn.out.at 3 rfl) HLN2.out (by decide) (by decide) (by decide) (by decide) (by decide) (by decide) (by decide) (by decide) (by decide) (by decide) 2 6 10 14 rfl rfl rfl rfl)
                           obtain ⟨V3, hV2⟩ : ∃ z, z = stepsF M r 3 V := ⟨_, rfl⟩
                           have HVV3 := Lib.hid hV2
                           have HVE := Lib.hid (show mixL V2 2 6 10 14 x0 x1 = V3 by rw [hV2, hx0, hx1, HVV2.out]; rfl)
                           have HLN3 := Lib.hid (show V3.length = 16 by rw [← HVE.out, mixL_length]; exact HLN2.out)
                           rw [HVE.out] at HMX
                           generalize nib r 4 = k0 at *
                           generalize nib r 5 = k1 at *
                           as_aux_lemma =>
                            have n2 : (k0 : Int) < 16 := by omega
                            have n3 : (k1 : Int) < 16 := by omega
                            clear hx0 hx1 hV2
                            go_upto_region 27 with (fail)
                            as_aux_lemma =>
                             refine wp_region_still_tail 8 (by kernel_rfl) (by kernel_rfl) ?_
                             simp only [List.take_succ_cons, List.take_zero, List.drop_succ_cons, List.drop_zero]
                             as_aux_lemma =>
                              repeat still_step
                              refine wpStill_nil ?_
                              as_aux_lemma =>
                               change wpList _ _ _ _ _ W8nn.drew
                               clear c0 c1 m0 m1 n0 n1 n2 n3
                               go_wp2_with (go_at_call 25; refine HMX.out.mono ?_; rintro e W8nnn ⟨rfl, hgn, hrn⟩; have R2nnn := Lib.hid (show Rws w W8nnn [(gh, cellsW hs, 44), (gr, cellsW z8, 44), (gm, cellsW M, 52), (gv, cellsW V3, 52), (gi, cellsW ivL, 44), (gs, cellsI ordC, 54), (go, cellsI (oRow r), 53)] from R2nn.out.drew.change 3 rfl hgn hrn); clear hgn hrn HMX HVE)
                               as_aux_lemma =>
                                have n0 := HNB.out 6 (by decide)
                                have n1 := HNB.out 7 (by decide)
                                have c0 := HOC.out _ _ R2nnn.out rfl 6 (by decide)
                                have c1 := HOC.out _ _ R2nnn.out rfl 7 (by decide)
                                have m0 := R2nnn.out.c 2 rfl (nib r 6) (by rw [HML.out]; exact n0)
                                have m1 := R2nnn.out.c 2 rfl (nib r 7) (by rw [HML.out]; exact n1)
                                obtain ⟨x0, hx0⟩ : ∃ z, z = M.getD (nib r 6) 0 := ⟨_, rfl⟩
                                obtain ⟨x1, hx1⟩ : ∃ z, z = M.getD (nib r 7) 0 := ⟨_, rfl⟩
                                rw [← hx0] at m0
                                rw [← hx1] at m1
                                have HMX := Lib.hid (mix_at gv 3 7 11 15 V3 x0 x1 W8nnn.drew (R2nnn.out.at 3 rfl) HLN3.out (by decide) (by decide) (by decide) (by decide) (by decide) (by decide) (by decide) (by decide) (by decide) (by decide) 3 7 11 15 rfl rfl rfl rfl)
                                obtain ⟨V4, hV2⟩ : ∃ z, z = stepsF M r 4 V := ⟨_, rfl⟩
                                have HVV4 := Lib.hid hV2
                                have HVE := Lib.hid (show mixL V3 3 7 11 15 x0 x1 = V4 by rw [hV2, hx0, hx1, HVV3.out]; rfl)
                                have HLN4 := Lib.hid (show V4.length = 16 by rw [← HVE.out, mixL_length]; exact HLN3.out)
                                rw [HVE.out] at HMX
                                generalize nib r 6 = k0 at *
                                generalize nib r 7 = k1 at *
                                as_aux_lemma =>
                                 have n2 : (k0 : Int) < 16 := by omega
                                 have n3 : (k1 : Int) < 16 := by omega
                                 clear hx0 hx1 hV2
                                 go_upto_region 28 with (fail)
                                 as_aux_lemma =>
                                  refine wp_region_still_tail 8 (by kernel_rfl) (by kernel_rfl) ?_
                                  simp only [List.take_succ_cons, List.take_zero, List.drop_succ_cons, List.drop_zero]
                                  as_aux_lemma =>
                                   repeat still_step
                                   refine wpStill_nil ?_
                                   as_aux_lemma =>
                                    change wpList _ _ _ _ _ W8nnn.drew
                                    clear c0 c1 m0 m1 n0 n1 n2 n3
                                    go_wp2_with (go_at_call 25; refine HMX.out.mono ?_; rintro e W8nnnn ⟨rfl, hgn, hrn⟩; have R2nnnn := Lib.hid (show Rws w W8nnnn [(gh, cellsW hs, 44), (gr, cellsW z8, 44), (gm, cellsW M, 52), (gv, cellsW V4, 52), (gi, cellsW ivL, 44), (gs, cellsI ordC, 54), (go, cellsI (oRow r), 53)] from R2nnn.out.drew.change 3 rfl hgn hrn); clear hgn hrn HMX HVE)
                                    as_aux_lemma =>
                                     have n0 := HNB.out 8 (by decide)
                                     have n1 := HNB.out 9 (by decide)
                                     have c0 := HOC.out _ _ R2nnnn.out rfl 8 (by decide)
                                     have c1 := HOC.out _ _ R2nnnn.out rfl 9 (by decide)
                                     have m0 := R2nnnn.out.c 2 rfl (nib r 8) (by rw [HML.out]; exact n0)
                                     have m1 := R2nnnn.out.c 2 rfl (nib r 9) (by rw [HML.out]; exact n1)
                                     obtain ⟨x0, hx0⟩ : ∃ z, z = M.getD (nib r 8) 0 := ⟨_, rfl⟩
                                     obtain ⟨x1, hx1⟩ : ∃ z, z = M.getD (nib r 9) 0 := ⟨_, rfl⟩
                                     rw [← hx0] at m0
                                     rw [← hx1] at m1
                                     have HMX := Lib.hid (mix_at gv 0 5 10 15 V4 x0 x1 W8nnnn.drew (R2nnnn.out.at 3 rfl) HLN4.out (by decide) (by decide) (by decide) (by decide) (by decide) (by decide) (by decide) (by decide) (by decide) (by decide) 0 5 10 15 rfl rfl rfl rfl)
                                     obtain ⟨V5, hV2⟩ : ∃ z, z = stepsF M r 5 V := ⟨_, rfl⟩
                                     have HVV5 := Lib.hid hV2
                                     have HVE := Lib.hid (show mixL V4 0 5 10 15 x0 x1 = V5 by rw [hV2, hx0, hx1, HVV4.out]; rfl)
                                     have HLN5 := Lib.hid (show V5.length = 16 by rw [← HVE.out, mixL_length]; exact HLN4.out)
                                     rw [HVE.out] at HMX
                                     generalize nib r 8 = k0 at *
                                     generalize nib r 9 = k1 at *
                                     as_aux_lemma =>
                                      have n2 : (k0 : Int) < 16 := by omega
                                      have n3 : (k1 : Int) < 16 := by omega
                                      clear hx0 hx1 hV2
                                      go_upto_region 29 with (fail)
                                      as_aux_lemma =>
                                       refine wp_region_still_tail 8 (by kernel_rfl) (by kernel_rfl) ?_
                                       simp only [List.take_succ_cons, List.take_zero, List.drop_succ_cons, List.drop_zero]
                                       as_aux_lemma =>
                                        repeat still_step
                                        refine wpStill_nil ?_
                                        as_aux_lemma =>
                                         change wpList _ _ _ _ _ W8nnnn.drew
                                         clear c0 c1 m0 m1 n0 n1 n2 n3
                                         go_wp2_with (go_at_call 25; refine HMX.out.mono ?_; rintro e W8nnnnn ⟨rfl, hgn, hrn⟩; have R2nnnnn := Lib.hid (show Rws w W8nnnnn [(gh, cellsW hs, 44), (gr, cellsW z8, 44), (gm, cellsW M, 52), (gv, cellsW V5, 52), (gi, cellsW ivL, 44), (gs, cellsI ordC, 54), (go, cellsI (oRow r), 53)] from R2nnnn.out.drew.change 3 rfl hgn hrn); clear hgn hrn HMX HVE)
                                         as_aux_lemma =>
                                          have n0 := HNB.out 10 (by decide)
                                          have n1 := HNB.out 11 (by decide)
                                          have c0 := HOC.out _ _ R2nnnnn.out rfl 10 (by decide)
                                          have c1 := HOC.out _ _ R2nnnnn.out rfl 11 (by decide)
                                          have m0 := R2nnnnn.out.c 2 rfl (nib r 10) (by rw [HML.out]; exact n0)
                                          have m1 := R2nnnnn.out.c 2 rfl (nib r 11) (by rw [HML.out]; exact n1)
                                          obtain ⟨x0, hx0⟩ : ∃ z, z = M.getD (nib r 10) 0 := ⟨_, rfl⟩
                                          obtain ⟨x1, hx1⟩ : ∃ z, z = M.getD (nib r 11) 0 := ⟨_, rfl⟩
                                          rw [← hx0] at m0
                                          rw [← hx1] at m1
                                          have HMX := Lib.hid (mix_at gv 1 6 11 12 V5 x0 x1 W8nnnnn.drew (R2nnnnn.out.at 3 rfl) HLN5.out (by decide) (by decide) (by decide) (by decide) (by decide) (by decide) (by decide) (by decide) (by decide) (by decide) 1 6 11 12 rfl rfl rfl rfl)
                                          obtain ⟨V6, hV2⟩ : ∃ z, z = stepsF M r 6 V := ⟨_, rfl⟩
                                          have HVV6 := Lib.hid hV2
                                          have HVE := Lib.hid (show mixL V5 1 6 11 12 x0 x1 = V6 by rw [hV2, hx0, hx1, HVV5.out]; rfl)
                                          have HLN6 := Lib.hid (show V6.length = 16 by rw [← HVE.out, mixL_length]; exact HLN5.out)
                                          rw [HVE.out] at HMX
                                          generalize nib r 10 = k0 at *
                                          generalize nib r 11 = k1 at *
                                          as_aux_lemma =>
                                           have n2 : (k0 : Int) < 16 := by omega
                                           have n3 : (k1 : Int) < 16 := by omega
                                           clear hx0 hx1 hV2
                                           go_upto_region 30 with (fail)
                                           as_aux_lemma =>
                                            refine wp_region_still_tail 8 (by kernel_rfl) (by kernel_rfl) ?_
                                            simp only [List.take_succ_cons, List.take_zero, List.drop_succ_cons, List.drop_zero]
                                            as_aux_lemma =>
                                             repeat still_step
                                             refine wpStill_nil ?_
                                             as_aux_lemma =>
                                              change wpList _ _ _ _ _ W8nnnnn.drew
                                              clear c0 c1 m0 m1 n0 n1 n2 n3
                                              go_wp2_with (go_at_call 25; refine HMX.out.mono ?_; rintro e W8nnnnnn ⟨rfl, hgn, hrn⟩; have R2nnnnnn := Lib.hid (show Rws w W8nnnnnn [(gh, cellsW hs, 44), (gr, cellsW z8, 44), (gm, cellsW M, 52), (gv, cellsW V6, 52), (gi, cellsW ivL, 44), (gs, cellsI ordC, 54), (go, cellsI (oRow r), 53)] from R2nnnnn.out.drew.change 3 rfl hgn hrn); clear hgn hrn HMX HVE)
                                              as_aux_lemma =>
                                               have n0 := HNB.out 12 (by decide)
                                               have n1 := HNB.out 13 (by decide)
                                               have c0 := HOC.out _ _ R2nnnnnn.out rfl 12 (by decide)
                                               have c1 := HOC.out _ _ R2nnnnnn.out rfl 13 (by decide)
                                               have m0 := R2nnnnnn.out.c 2 rfl (nib r 12) (by rw [HML.out]; exact n0)
                                               have m1 := R2nnnnnn.out.c 2 rfl (nib r 13) (by rw [HML.out]; exact n1)
                                               obtain ⟨x0, hx0⟩ : ∃ z, z = M.getD (nib r 12) 0 := ⟨_, rfl⟩
                                               obtain ⟨x1, hx1⟩ : ∃ z, z = M.getD (nib r 13) 0 := ⟨_, rfl⟩
                                               rw [← hx0] at m0
                                               rw [← hx1] at m1
                                               have HMX := Lib.hid (mix_at gv 2 7 8 13 V6 x0 x1 W8nnnnnn.drew (R2nnnnnn.out.at 3 rfl) HLN6.out (by decide) (by decide) (by decide) (by decide) (by decide) (by decide) (by decide) (by decide) (by decide) (by decide) 2 7 8 13 rfl rfl rfl rfl)
                                               obtain ⟨V7, hV2⟩ : ∃ z, z = stepsF M r 7 V := ⟨_, rfl⟩
                                               have HVV7 := Lib.hid hV2
                                               have HVE := Lib.hid (show mixL V6 2 7 8 13 x0 x1 = V7 by rw [hV2, hx0, hx1, HVV6.out]; rfl)
                                               have HLN7 := Lib.hid (show V7.length = 16 by rw [← HVE.out, mixL_length]; exact HLN6.out)
                                               rw [HVE.out] at HMX
                                               generalize nib r 12 = k0 at *
                                               generalize nib r 13 = k1 at *
                                               as_aux_lemma =>
                                                have n2 : (k0 : Int) < 16 := by omega
                                                have n3 : (k1 : Int) < 16 := by omega
                                                clear hx0 hx1 hV2
                                                go_upto_region 31 with (fail)
                                                as_aux_lemma =>
                                                 refine wp_region_still_tail 8 (by kernel_rfl) (by kernel_rfl) ?_
                                                 simp only [List.take_succ_cons, List.take_zero, List.drop_succ_cons, List.drop_zero]
                                                 as_aux_lemma =>
                                                  repeat still_step
                                                  refine wpStill_nil ?_
                                                  as_aux_lemma =>
                                                   change wpList _ _ _ _ _ W8nnnnnn.drew
                                                   clear c0 c1 m0 m1 n0 n1 n2 n3
                                                   go_wp2_with (go_at_call 25; refine HMX.out.mono ?_; rintro e W8nnnnnnn ⟨rfl, hgn, hrn⟩; have R2nnnnnnn := Lib.hid (show Rws w W8nnnnnnn [(gh, cellsW hs, 44), (gr, cellsW z8, 44), (gm, cellsW M, 52), (gv, cellsW V7, 52), (gi, cellsW ivL, 44), (gs, cellsI ordC, 54), (go, cellsI (oRow r), 53)] from R2nnnnnn.out.drew.change 3 rfl hgn hrn); clear hgn hrn HMX HVE)
                                                   as_aux_lemma =>
                                                    have n0 := HNB.out 14 (by decide)
                                                    have n1 := HNB.out 15 (by decide)
                                                    have c0 := HOC.out _ _ R2nnnnnnn.out rfl 14 (by decide)
                                                    have c1 := HOC.out _ _ R2nnnnnnn.out rfl 15 (by decide)
                                                    have m0 := R2nnnnnnn.out.c 2 rfl (nib r 14) (by rw [HML.out]; exact n0)
                                                    have m1 := R2nnnnnnn.out.c 2 rfl (nib r 15) (by rw [HML.out]; exact n1)
                                                    obtain ⟨x0, hx0⟩ : ∃ z, z = M.getD (nib r 14) 0 := ⟨_, rfl⟩
                                                    obtain ⟨x1, hx1⟩ : ∃ z, z = M.getD (nib r 15) 0 := ⟨_, rfl⟩
                                                    rw [← hx0] at m0
                                                    rw [← hx1] at m1
                                                    have HMX := Lib.hid (mix_at gv 3 4 9 14 V7 x0 x1 W8nnnnnnn.drew (R2nnnnnnn.out.at 3 rfl) HLN7.out (by decide) (by decide) (by decide) (by decide) (by decide) (by decide) (by decide) (by decide) (by decide) (by decide) 3 4 9 14 rfl rfl rfl rfl)
                                                    obtain ⟨V8, hV2⟩ : ∃ z, z = stepsF M r 8 V := ⟨_, rfl⟩
                                                    have HVV8 := Lib.hid hV2
                                                    have HVE := Lib.hid (show mixL V7 3 4 9 14 x0 x1 = V8 by rw [hV2, hx0, hx1, HVV7.out]; rfl)
                                                    have HLN8 := Lib.hid (show V8.length = 16 by rw [← HVE.out, mixL_length]; exact HLN7.out)
                                                    rw [HVE.out] at HMX
                                                    generalize nib r 14 = k0 at *
                                                    generalize nib r 15 = k1 at *
                                                    as_aux_lemma =>
                                                     have n2 : (k0 : Int) < 16 := by omega
                                                     have n3 : (k1 : Int) < 16 := by omega
                                                     clear hx0 hx1 hV2
                                                     go_upto_region 32 with (fail)
                                                     as_aux_lemma =>
                                                      refine wp_region_still_tail 8 (by kernel_rfl) (by kernel_rfl) ?_
                                                      simp only [List.take_succ_cons, List.take_zero, List.drop_succ_cons, List.drop_zero]
                                                      as_aux_lemma =>
                                                       repeat still_step
                                                       refine wpStill_nil ?_
                                                       as_aux_lemma =>
                                                        change wpList _ _ _ _ _ W8nnnnnnn.drew
                                                        clear c0 c1 m0 m1 n0 n1 n2 n3
                                                        go_wp2_with (go_at_call 25; refine HMX.out.mono ?_; rintro e W8nnnnnnnn ⟨rfl, hgn, hrn⟩; have R2nnnnnnnn := Lib.hid (show Rws w W8nnnnnnnn [(gh, cellsW hs, 44), (gr, cellsW z8, 44), (gm, cellsW M, 52), (gv, cellsW V8, 52), (gi, cellsW ivL, 44), (gs, cellsI ordC, 54), (go, cellsI (oRow r), 53)] from R2nnnnnnn.out.drew.change 3 rfl hgn hrn); clear hgn hrn HMX HVE)
                                                        as_aux_lemma =>
                                                         go_roundg (10 - (r + 1))
                                                         case measure => omega
                                                         case rel => exact ⟨r + 1, by go_num, by omega, by rw [← HNX.out, ← HVV8.out]; exact R2nnnnnnnn.out.cut (L := [(gh, cellsW hs, 44), (gr, cellsW z8, 44), (gm, cellsW M, 52), (gv, cellsW V8, 52), (gi, cellsW ivL, 44), (gs, cellsI ordC, 54)]) (L' := [(go, cellsI (oRow r), 53)])⟩
              · have hr10 : r = 10 := by omega
                subst hr10
                clear hR hlt hr
                obtain ⟨V, hV⟩ : ∃ z, z = roundsF M 10 V0 := ⟨_, rfl⟩
                have HLN := Lib.hid (show V.length = 16 by rw [hV]; exact (roundsF_length M 10 V0).trans HV16.out)
                have HBF := Lib.hid (show blockF hs (pad b) n last = xorS hs V 8 by rw [hV, HV0.out, HM.out]; rfl)
                rw [← hV] at R1
                clear hV
                as_aux_lemma =>
                 go_wp2_with fail
                 go_loopg [18] 8 (fun kq v18 w' => ∃ i : Nat, v18 = .int .i64 (i : Int) ∧ i + kq = 8 ∧ Rws w w' [(gh, cellsW (xorS hs V i), 44), (gr, cellsW z8, 44), (gm, cellsW M, 52), (gv, cellsW V, 52), (gi, cellsW ivL, 44), (gs, cellsI ordC, 54)])
                 case atStart => exact ⟨0, rfl, by omega, R1.out⟩
                 case round =>
                   obtain ⟨i, rfl, hi, hR⟩ := hrel
                   have R2 := Lib.hid hR
                   by_cases hlt : i < 8
                   · have c1 := hR.c 0 rfl i (by rw [xorS_length, H8.out]; exact hlt)
                     have c2 := hR.c 3 rfl i (by rw [HLN.out]; omega)
                     have c3 := hR.c 3 rfl (8 + i) (by rw [HLN.out]; omega)
                     rw [Nat.add_comm 8 i] at c3
                     have f1 := hR.f 0 rfl i
                     have HN := Lib.hid (show Rws w _ [(gh, cellsW (xorS hs V (i + 1)), 44), (gr, cellsW z8, 44), (gm, cellsW M, 52), (gv, cellsW V, 52), (gi, cellsW ivL, 44), (gs, cellsI ordC, 54)] from hR.setW 0 rfl i (Go.bits .xor .u32 ((xorS hs V i).getD i 0) (Go.bits .xor .u32 (V.getD i 0) (V.getD (8 + i) 0))))
                     rw [← xor_assoc32, Nat.add_comm 8 i] at HN
                     have i0 : (0 : Int) ≤ (i : Int) := by omega
                     have i1 : (i : Int) < 8 := by omega
                     have i2 : (i : Int) + 8 < 16 := by omega
                     have i3 : (i : Int) < 16 := by omega
                     generalize (xorS hs V i).getD i 0 = x1 at *
                     generalize V.getD i 0 = x2 at *
                     generalize V.getD (i + 8) 0 = x3 at *
                     clear hR hlt
                     go_upto_region 36 with (fail)
                     go_region
                     go_wp2_with fail
                     go_roundg (8 - (i + 1))
                     case measure => omega
                     case rel => exact ⟨i + 1, by go_num, by omega, HN.out.drew⟩
                   · have hi8 : i = 8 := by omega
                     subst hi8
                     rw [← HBF.out] at R2
                     have HL8 := Lib.hid (show (blockF hs (pad b) n last).length = 8 by rw [blockF_length]; exact H8.out)
                     obtain ⟨Z, hZ⟩ : ∃ z, z = blockF hs (pad b) n last := ⟨_, rfl⟩
                     rw [← hZ] at R2 HL8
                     have HZE := Lib.hid hZ
                     have HIZ := Lib.hid (show (Try.prog.info? 44).map (·.size) = some (cellsW Z).size by rw [cellsW_size, HL8.out]; exact info44)
                     have HZ8 := Lib.hid (show (cellsW z8).size = (cellsW Z).size by rw [cellsW_size, cellsW_size, HL8.out]; rfl)
                     have hrow := Lib.hid (R2.out.at 0 rfl)
                     have hrow2 := Lib.hid (R2.out.at 1 rfl)
                     have R3 := Lib.hid (R2.out.setRow 1 rfl (cellsW Z))
                     clear hR hlt hi hZ
                     go_wp2_with (first | (with_reducible refine wpList_load_row rfl 44 _ rfl gh rfl 44 (cellsW Z) (0, 0) _ hrow.out Try.underlying44 rfl HIZ.out ?_) | (with_reducible refine wpList_store_row rfl 44 _ _ rfl gr (cellsW Z) rfl rfl 44 (cellsW z8) hrow2.out HIZ.out HZ8.out (cellsW_one _) ?_))
                     refine bodyPost_ret (results_cell rfl _ _ gr 44 (cellsW Z) (0, 0) _ rfl (R3.out.at 1 rfl) Try.underlying44 rfl HIZ.out) rfl ?_
                     exact ⟨by rw [← HZE.out], below_grown R3.out.bel _⟩
end Go.Proofs.Ytehmnkkfoopanaa
