/- Texts of the proof, one behind the other: chunk: how streams may be cut; a scan looks on. -/
import Derived.Test.YtcklcffepedklaaGreatM34
import Derived.BigRegion
import Derived.StillTailTactics
namespace Go.Proofs.YtcklcffepedklaaGreat.Ck
open Go.RowKit

/-- A cutter's cells. -/
def cutC (mn mx main back : Int) : Array Value := #[.int .i64 mn, .int .i64 mx, .int .u32 main, .int .u32 back]
/-- May streams be cut so? -/
def RightI (mn mx main back : Int) : Prop := 16 ≤ mn ∧ mn ≤ mx ∧ mx ≤ 4096 ∧ 1 ≤ main ∧ 1 ≤ back

set_option maxRecDepth 20000 in
theorem Right_yes (mn mx main back : Int) (w : World) (h : RightI mn mx main back) :
    Calls Tryz.prog 41 #[.agg (cutC mn mx main back)] w fun e w' => e = .returned (.bool true) ∧ w.grownBy w' none := by
  obtain ⟨h1, h2, h3, h4, h5⟩ := h
  unfold cutC
  go_enter Tryz.func41, Tryz.ntmps41
  go_wp2
  go_ret
  exact ⟨ret_bool (decide_eq_true (by omega)), grown_alloc _ _ _⟩
set_option maxRecDepth 20000 in
theorem Right_no (mn mx main back : Int) (w : World) (h : ¬ RightI mn mx main back) :
    Calls Tryz.prog 41 #[.agg (cutC mn mx main back)] w fun e w' => e = .returned (.bool false) ∧ w.grownBy w' none := by
  have H := Lib.hid h
  clear h
  unfold cutC
  by_cases h1 : 16 ≤ mn
  · by_cases h2 : mn ≤ mx
    · by_cases h3 : mx ≤ 4096
      · by_cases h4 : 1 ≤ main
        · have h5 : ¬ 1 ≤ back := fun h5 => H.out ⟨h1, h2, h3, h4, h5⟩
          go_enter Tryz.func41, Tryz.ntmps41
          go_wp2
          go_ret
          exact ⟨ret_bool (decide_eq_false (by omega)), grown_alloc _ _ _⟩
        · go_enter Tryz.func41, Tryz.ntmps41
          go_wp2
          go_ret
          exact ⟨rfl, grown_alloc _ _ _⟩
      · go_enter Tryz.func41, Tryz.ntmps41
        go_wp2
        go_ret
        exact ⟨rfl, grown_alloc _ _ _⟩
    · go_enter Tryz.func41, Tryz.ntmps41
      go_wp2
      go_ret
      exact ⟨rfl, grown_alloc _ _ _⟩
  · go_enter Tryz.func41, Tryz.ntmps41
    go_wp2
    go_ret
    exact ⟨rfl, grown_alloc _ _ _⟩
/-- A scan's cells, and what stands behind them. -/
def scanC (c : Ct) (s : Int) (seen kp : Nat) (rest : List Value) : Array Value :=
  (Value.int .i64 c.mn :: .int .i64 c.mx :: .int .u32 c.main :: .int .u32 c.back :: .int .u32 s :: .int .i64 seen :: .int .i64 kp :: rest).toArray
theorem scanC_4 (c : Ct) (s s' : Int) (seen kp : Nat) (rest : List Value) : (scanC c s seen kp rest).setIfInBounds 4 (.int .u32 s') = scanC c s' seen kp rest := by
  unfold scanC; rw [List.setIfInBounds_toArray]; rfl
theorem scanC_5 (c : Ct) (s : Int) (seen seen' kp : Nat) (rest : List Value) : (scanC c s seen kp rest).setIfInBounds 5 (.int .i64 seen') = scanC c s seen' kp rest := by
  unfold scanC; rw [List.setIfInBounds_toArray]; rfl
theorem scanC_6 (c : Ct) (s : Int) (seen kp kp' : Nat) (rest : List Value) : (scanC c s seen kp rest).setIfInBounds 6 (.int .i64 kp') = scanC c s seen kp' rest := by
  unfold scanC; rw [List.setIfInBounds_toArray]; rfl
theorem scan_cells {w : World} {g T : Nat} {c : Ct} {s : Int} {seen kp : Nat} {rest : List Value} (h : w.heap[g]? = some (.cells (scanC c s seen kp rest) T (0, 0))) :
    w.cell? ⟨g, 0, none⟩ = some (.int .i64 c.mn) ∧ w.cell? ⟨g, 1, none⟩ = some (.int .i64 c.mx) ∧ w.cell? ⟨g, 2, none⟩ = some (.int .u32 c.main) ∧ w.cell? ⟨g, 3, none⟩ = some (.int .u32 c.back) ∧
    w.cell? ⟨g, 4, none⟩ = some (.int .u32 s) ∧ w.cell? ⟨g, 5, none⟩ = some (.int .i64 seen) ∧ w.cell? ⟨g, 6, none⟩ = some (.int .i64 kp) := by
  refine ⟨?_, ?_, ?_, ?_, ?_, ?_, ?_⟩ <;> rw [cell_of_row _ _ _ _ _ _ h] <;> rfl

theorem row5 {w : World} {g T : Nat} {c : Ct} {s : Int} {seen kp : Nat} {rest : List Value} (h : w.heap[g]? = some (.cells (scanC c s seen kp rest) T (0, 0))) (seen' : Nat) :
    (w.setCell ⟨g, 5, none⟩ (.int .i64 seen')).heap[g]? = some (.cells (scanC c s seen' kp rest) T (0, 0)) := by rw [setCell_row h, scanC_5]
theorem row45 {w : World} {g T : Nat} {c : Ct} {s : Int} {seen kp : Nat} {rest : List Value} (h : w.heap[g]? = some (.cells (scanC c s seen kp rest) T (0, 0))) (s' : Int) (seen' : Nat) :
    ((w.setCell ⟨g, 4, none⟩ (.int .u32 s')).setCell ⟨g, 5, none⟩ (.int .i64 seen')).heap[g]? = some (.cells (scanC c s' seen' kp rest) T (0, 0)) := by
  have h1 : (w.setCell ⟨g, 4, none⟩ (.int .u32 s')).heap[g]? = some (.cells (scanC c s' seen kp rest) T (0, 0)) := by rw [setCell_row h, scanC_4]
  exact row5 h1 seen'
theorem row456 {w : World} {g T : Nat} {c : Ct} {s : Int} {seen kp : Nat} {rest : List Value} (h : w.heap[g]? = some (.cells (scanC c s seen kp rest) T (0, 0))) (s' : Int) (seen' kp' : Nat) :
    (((w.setCell ⟨g, 4, none⟩ (.int .u32 s')).setCell ⟨g, 5, none⟩ (.int .i64 seen')).setCell ⟨g, 6, none⟩ (.int .i64 kp')).heap[g]? = some (.cells (scanC c s' seen' kp' rest) T (0, 0)) := by
  rw [setCell_row (row45 h s' seen'), scanC_6]
theorem gr2 (w : World) (g i j : Nat) (u v : Value) : w.grownBy ((w.setCell ⟨g, i, none⟩ u).setCell ⟨g, j, none⟩ v) (some g) := grown_trans (grown_setCell _ _ _ _) (grown_setCell _ _ _ _)
theorem gr3 (w : World) (g i j k : Nat) (u v x : Value) : w.grownBy (((w.setCell ⟨g, i, none⟩ u).setCell ⟨g, j, none⟩ v).setCell ⟨g, k, none⟩ x) (some g) := grown_trans (gr2 w g i j u v) (grown_setCell _ _ _ _)

/-- What a look leaves. -/
def Looked (c : Ct) (l : List Int) (g T : Nat) (rest : List Value) (w : World) (e : Ending) (w' : World) : Prop :=
  e = .returned (.int .i64 (cutR c l)) ∧ w.grownBy w' (some g) ∧ ∃ s' seen' kp', w'.heap[g]? = some (.cells (scanC c s' seen' kp' rest) T (0, 0)) ∧ (cutR c l = 0 → ScanOk c l s' seen' kp')

set_option maxRecDepth 100000 in
set_option maxHeartbeats 1600000 in
theorem look_any (c : Ct) (ok : c.Ok) (l : List Int) (n : Nat) (A : Option Addr) (cap g T : Nat) (s : Int) (seen kp : Nat) (rest : List Value) (w : World) (hn : l.length = n) (hl : n ≤ 1000000000000) (hnc : n ≤ cap) (hI : Ints .u8 w A l) (hB : Bytes l)
    (hA : ∀ ad, A = some ad → 0 < n → ad.block ≠ g) (hS : ScanOk c l s seen kp) (hrow : w.heap[g]? = some (.cells (scanC c s seen kp rest) T (0, 0))) :
    Calls Tryz.prog 43 #[.pointer (some ⟨g, 0, none⟩), .slice A n cap] w (Looked c l g T rest w) := by
  have HN := Lib.hid hn
  have HI := Lib.hid hI
  have HB := Lib.hid hB
  have HA := Lib.hid hA
  have HS := Lib.hid hS
  have HR := Lib.hid hrow
  have hlo := ok.lo
  have hle := ok.le
  have hhi := ok.hi
  have hm0 := ok.m0
  have hm1 := ok.m1
  have hb0 := ok.b0
  have hb1 := ok.b1
  have hs0 := hS.mx
  clear hn hI hB hA hS hrow ok
  go_enter Tryz.func43, Tryz.ntmps43
  go_wp2_with fail
  go_loopg [] (c.mx - seen) (fun kq w' => ∃ (s : Int) (seen kp : Nat), seen + kq = c.mx ∧ ScanOk c l s seen kp ∧ w'.heap[g]? = some (.cells (scanC c s seen kp rest) T (0, 0)) ∧ w.grownBy w' (some g))
  case atStart => exact ⟨s, seen, kp, by omega, HS.out, HR.out, World.grownBy.refl _ _⟩
  case round =>
    obtain ⟨s, seen, kp, hk, S, hrow, G⟩ := hrel
    obtain ⟨d0, d1, d2, d3, d4, d5, d6⟩ := scan_cells hrow
    have f4 := free_row hrow 4
    have f5 := free_row hrow 5
    have f6 := free_row hrow 6
    have HR := Lib.hid hrow
    have HG := Lib.hid G
    have HS := Lib.hid S
    have s0 := S.s0
    have s1 := S.s1
    have x1 := S.mx
    have x2 := S.len
    rw [HN.out] at x2
    clear hrow G S
    have HX := Lib.hid (show Ints .u8 wr A l from fun i hi => by
      obtain ⟨ad, e, hc⟩ := HI.out i hi
      exact ⟨ad, e, (World.cell?_of_block (w := w) (HG.out.block _ (cell_lt hc) (by rw [add_block]; have := HA.out ad e (by rw [← HN.out]; omega); simpa using this))).trans hc⟩)
    by_cases hnm : n ≤ c.mx
    · by_cases hlt0 : seen < n
      · have hlt : seen < n := by omega
        have hmx : seen < c.mx := by omega
        by_cases h3 : c.mn ≤ seen + 1
        · obtain ⟨s2, hs2⟩ : ∃ z, sumR (l.take (seen + 1)) = z := ⟨_, rfl⟩
          have HS2 := Lib.hid hs2
          have y0 : 0 ≤ s2 := by rw [← hs2]; exact sumR_lo _
          have y1 : s2 < 4294967296 := by rw [← hs2]; exact sumR_hi _
          have hmb : (s2 % (c.main : Int) == (c.main : Int) - 1) = mainAt c l (seen + 1) := by rw [← hs2, Bool.eq_iff_iff]; simp [mainAt, hit]
          have hbb : (s2 % (c.back : Int) == (c.back : Int) - 1) = backAt c l (seen + 1) := by rw [← hs2, Bool.eq_iff_iff]; simp [backAt, hit]
          have HCUT := Lib.hid (fun hm => HS.out.cut h3 (by rw [HN.out]; exact hlt) hmx hm)
          have HNX := Lib.hid (fun hm => HS.out.next h3 (by rw [HN.out]; exact hlt) hmx hm)
          rw [hs2] at HNX
          clear hs2
          by_cases h4 : c.mn = seen + 1
          · have h4a : ((seen : Int) + 1 == (c.mn : Int)) = true := by simp; omega
            have HOF := Lib.hid (fun nq => Of_any A cap (l.take (seen + 1)) (wr.drewN nq) (show Ints .u8 wr A (l.take (seen + 1)) from HX.out.take _) (HB.out.take _) (by rw [List.length_take]; omega))
            rw [List.length_take, HN.out, Nat.min_eq_left (by omega), HS2.out] at HOF
            have h3a : ¬ ((seen : Int) + 1 < (c.mn : Int)) := by omega
            clear h4
            go_wp2_with fail
            go_quiet (fail)
            go_wp2_with fail
            refine (HOF.out nq).mono ?_
            rintro e w' ⟨rfl, rfl⟩
            go_wp2_with fail
            have hsn : ((seen : Int) + 1) = ((seen + 1 : Nat) : Int) := by omega
            have HSN := Lib.hid hsn
            clear hsn
            cases hm : mainAt c l (seen + 1) with
            | true =>
              rw [hm] at hmb
              have hcut := HCUT.out hm
              have HC := Lib.hid hcut
              have HROW := Lib.hid (row45 HR.out s2 (seen + 1))
              have HGR := Lib.hid (grown_trans HG.out (gr2 wr g 4 5 (.int .u32 s2) (.int .i64 ((seen + 1 : Nat) : Int))))
              rw [← HSN.out] at HROW HGR
              clear hm hcut hbb
              go_quiet (fail)
              go_wp2
              go_ret
              exact ⟨by rw [HC.out, ← HSN.out]; rfl, ⟨HGR.out.os, HGR.out.tape, HGR.out.output, HGR.out.size, HGR.out.block⟩, s2, seen + 1, kp, HROW.out, fun h => by rw [HC.out] at h; omega⟩
            | false =>
              rw [hm] at hmb
              have hnx := HNX.out hm
              cases hbk : backAt c l (seen + 1) with
              | true =>
                rw [hbk] at hbb hnx
                rw [if_pos rfl] at hnx
                have HNX2 := Lib.hid hnx
                have HROW := Lib.hid (row456 HR.out s2 (seen + 1) (seen + 1))
                have HGR := Lib.hid (grown_trans HG.out (gr3 wr g 4 5 6 (.int .u32 s2) (.int .i64 ((seen + 1 : Nat) : Int)) (.int .i64 ((seen + 1 : Nat) : Int))))
                rw [← HSN.out] at HROW HGR
                clear hm hbk hnx
                go_quiet (fail)
                go_wp2_with fail
                go_quiet (fail)
                go_wp2
                go_roundg (c.mx - (seen + 1))
                case measure => omega
                case rel => exact ⟨s2, seen + 1, seen + 1, by omega, HNX2.out, HROW.out, ⟨HGR.out.os, HGR.out.tape, HGR.out.output, HGR.out.size, HGR.out.block⟩⟩
              | false =>
                rw [hbk] at hbb hnx
                rw [if_neg (by simp)] at hnx
                have HNX2 := Lib.hid hnx
                have HROW := Lib.hid (row45 HR.out s2 (seen + 1))
                have HGR := Lib.hid (grown_trans HG.out (gr2 wr g 4 5 (.int .u32 s2) (.int .i64 ((seen + 1 : Nat) : Int))))
                rw [← HSN.out] at HROW HGR
                clear hm hbk hnx
                go_quiet (fail)
                go_wp2_with fail
                go_quiet (fail)
                go_wp2
                go_roundg (c.mx - (seen + 1))
                case measure => omega
                case rel => exact ⟨s2, seen + 1, kp, by omega, HNX2.out, HROW.out, ⟨HGR.out.os, HGR.out.tape, HGR.out.output, HGR.out.size, HGR.out.block⟩⟩
          · have h4a : ((seen : Int) + 1 == (c.mn : Int)) = false := by simp; omega
            obtain ⟨ad, e, hc1⟩ := HX.out (seen - 16) (by rw [HN.out]; omega)
            subst e
            obtain ⟨ad2, e2, hc2⟩ := HX.out seen (by rw [HN.out]; omega)
            obtain rfl : ad = ad2 := by injection e2
            clear e2
            have hbo := HB.out (seen - 16)
            have hbi := HB.out seen
            have HNE := Lib.hid (sumR_next l seen (by rw [HN.out]; exact hlt) (by omega))
            have hsum := HS.out.sum (by omega)
            rw [← hsum, HS2.out] at HNE
            clear hsum
            generalize l.getD (seen - 16) 0 = xo at *
            generalize l.getD seen 0 = xi at *
            obtain ⟨j, hj⟩ : ∃ j, seen - 16 = j := ⟨_, rfl⟩
            rw [hj] at hc1
            have hw1 : IntKind.i64.wrap (seen : Int) = (seen : Int) := IntWalk.i64_in _ (by omega)
            have hw2 : IntKind.i64.wrap ((seen : Int) - 16) = (j : Int) := by rw [IntWalk.i64_in _ (by omega)]; omega
            have hj0 : (0 : Int) ≤ (j : Int) := by omega
            have hj1 : (j : Int) < (n : Int) := by omega
            have hj2 : (seen : Int) < (n : Int) := by omega
            clear hj
            have h3a : ¬ ((seen : Int) + 1 < (c.mn : Int)) := by omega
            clear h4
            go_wp2_with fail
            go_quiet (fail)
            go_wp2_with fail
            refine wp_region_still_tail 19 (by kernel_rfl) (by kernel_rfl) ?_
            simp only [List.take_succ_cons, List.take_zero, List.drop_succ_cons, List.drop_zero]
            change wpStill _ _ (wr.drewN (nq + 1)) (fun a' => wpList _ _ _ _ a' (wr.drewN (nq + 1))) _ _
            iterate 16 still_step
            still_call ((Next_any s xo xi _ hbo.1 hbo.2 hbi.1 hbi.2).mono (fun _ _ h => ⟨h.1, h.2.symm⟩))
            repeat still_step
            refine wpStill_nil ?_
            rw [HNE.out]
            clear hw1 hw2
            go_wp2_with fail
            have hsn : ((seen : Int) + 1) = ((seen + 1 : Nat) : Int) := by omega
            have HSN := Lib.hid hsn
            clear hsn
            cases hm : mainAt c l (seen + 1) with
            | true =>
              rw [hm] at hmb
              have hcut := HCUT.out hm
              have HC := Lib.hid hcut
              have HROW := Lib.hid (row45 HR.out s2 (seen + 1))
              have HGR := Lib.hid (grown_trans HG.out (gr2 wr g 4 5 (.int .u32 s2) (.int .i64 ((seen + 1 : Nat) : Int))))
              rw [← HSN.out] at HROW HGR
              clear hm hcut hbb
              go_quiet (fail)
              go_wp2
              go_ret
              exact ⟨by rw [HC.out, ← HSN.out]; rfl, ⟨HGR.out.os, HGR.out.tape, HGR.out.output, HGR.out.size, HGR.out.block⟩, s2, seen + 1, kp, HROW.out, fun h => by rw [HC.out] at h; omega⟩
            | false =>
              rw [hm] at hmb
              have hnx := HNX.out hm
              cases hbk : backAt c l (seen + 1) with
              | true =>
                rw [hbk] at hbb hnx
                rw [if_pos rfl] at hnx
                have HNX2 := Lib.hid hnx
                have HROW := Lib.hid (row456 HR.out s2 (seen + 1) (seen + 1))
                have HGR := Lib.hid (grown_trans HG.out (gr3 wr g 4 5 6 (.int .u32 s2) (.int .i64 ((seen + 1 : Nat) : Int)) (.int .i64 ((seen + 1 : Nat) : Int))))
                rw [← HSN.out] at HROW HGR
                clear hm hbk hnx
                go_quiet (fail)
                go_wp2_with fail
                go_quiet (fail)
                go_wp2
                go_roundg (c.mx - (seen + 1))
                case measure => omega
                case rel => exact ⟨s2, seen + 1, seen + 1, by omega, HNX2.out, HROW.out, ⟨HGR.out.os, HGR.out.tape, HGR.out.output, HGR.out.size, HGR.out.block⟩⟩
              | false =>
                rw [hbk] at hbb hnx
                rw [if_neg (by simp)] at hnx
                have HNX2 := Lib.hid hnx
                have HROW := Lib.hid (row45 HR.out s2 (seen + 1))
                have HGR := Lib.hid (grown_trans HG.out (gr2 wr g 4 5 (.int .u32 s2) (.int .i64 ((seen + 1 : Nat) : Int))))
                rw [← HSN.out] at HROW HGR
                clear hm hbk hnx
                go_quiet (fail)
                go_wp2_with fail
                go_quiet (fail)
                go_wp2
                go_roundg (c.mx - (seen + 1))
                case measure => omega
                case rel => exact ⟨s2, seen + 1, kp, by omega, HNX2.out, HROW.out, ⟨HGR.out.os, HGR.out.tape, HGR.out.output, HGR.out.size, HGR.out.block⟩⟩
        · have h3b : seen + 1 < c.mn := by omega
          have h3a : (seen : Int) + 1 < (c.mn : Int) := by omega
          by_cases hq : n ≤ c.mn - 1
          · have hqa : (n : Int) ≤ (c.mn : Int) - 1 := by omega
            have HSK := Lib.hid (HS.out.skip (n := n) h3b (by rw [HN.out]; omega) hle)
            have HROW := Lib.hid (row5 HR.out (n))
            have HGR := Lib.hid (grown_trans HG.out (grown_setCell wr g 5 (.int .i64 ((n : Nat) : Int))))
            have hgt : seen < n := by omega
            have hto : n ≤ c.mx := by omega
            go_wp2_with fail
            go_quiet (fail)
            go_wp2
            go_roundg (c.mx - (n))
            case measure => omega
            case rel => exact ⟨s, n, kp, by omega, HSK.out, HROW.out, ⟨HGR.out.os, HGR.out.tape, HGR.out.output, HGR.out.size, HGR.out.block⟩⟩
          · have hqa : (c.mn : Int) - 1 < (n : Int) := by omega
            have HSK := Lib.hid (HS.out.skip (n := c.mn - 1) h3b (by rw [HN.out]; omega) hle)
            have HROW := Lib.hid (row5 HR.out (c.mn - 1))
            have HGR := Lib.hid (grown_trans HG.out (grown_setCell wr g 5 (.int .i64 ((c.mn - 1 : Nat) : Int))))
            have hcs : (((c.mn - 1 : Nat)) : Int) = (c.mn : Int) - 1 := by omega
            rw [hcs] at HROW HGR
            clear hcs
            have hgt : seen < c.mn - 1 := by omega
            have hto : c.mn - 1 ≤ c.mx := by omega
            go_wp2_with fail
            go_quiet (fail)
            go_wp2
            go_roundg (c.mx - (c.mn - 1))
            case measure => omega
            case rel => exact ⟨s, c.mn - 1, kp, by omega, HSK.out, HROW.out, ⟨HGR.out.os, HGR.out.tape, HGR.out.output, HGR.out.size, HGR.out.block⟩⟩
      · have HGR := HG
        by_cases hsm : seen < c.mx
        · have HC := Lib.hid (show cutR c l = 0 by rw [HS.out.done (Or.inl (by rw [HN.out]; omega))]; unfold lastR; rw [if_pos (by rw [HN.out]; omega)])
          go_wp2_with fail
          go_quiet (fail)
          go_wp2_with fail
          go_quiet (fail)
          go_wp2
          go_ret
          exact ⟨by rw [HC.out]; rfl, ⟨HGR.out.os, HGR.out.tape, HGR.out.output, HGR.out.size, HGR.out.block⟩, s, seen, kp, HR.out, fun _ => HS.out⟩
        · by_cases hkp : 0 < kp
          · have HKE := Lib.hid (show kept c l c.mx = kp by rw [HS.out.kp, show seen = c.mx from by omega])
            have HC := Lib.hid (show cutR c l = kp by rw [HS.out.done (by rw [HN.out]; omega)]; unfold lastR; rw [if_neg (by rw [HN.out]; omega), HKE.out, if_pos hkp])
            have hkq : (0 : Int) < (kp : Int) := by omega
            go_wp2_with fail
            go_quiet (fail)
            go_wp2_with fail
            go_quiet (fail)
            go_wp2
            go_ret
            exact ⟨by rw [HC.out]; rfl, ⟨HGR.out.os, HGR.out.tape, HGR.out.output, HGR.out.size, HGR.out.block⟩, s, seen, kp, HR.out, fun h => by rw [HC.out] at h; omega⟩
          · have HKE := Lib.hid (show kept c l c.mx = kp by rw [HS.out.kp, show seen = c.mx from by omega])
            have HC := Lib.hid (show cutR c l = c.mx by rw [HS.out.done (by rw [HN.out]; omega)]; unfold lastR; rw [if_neg (by rw [HN.out]; omega), HKE.out, if_neg hkp])
            have hkq : ¬ (0 : Int) < (kp : Int) := by omega
            go_wp2_with fail
            go_quiet (fail)
            go_wp2_with fail
            go_quiet (fail)
            go_wp2
            go_ret
            exact ⟨by rw [HC.out]; rfl, ⟨HGR.out.os, HGR.out.tape, HGR.out.output, HGR.out.size, HGR.out.block⟩, s, seen, kp, HR.out, fun h => by rw [HC.out] at h; omega⟩
    · by_cases hlt0 : seen < c.mx
      · have hlt : seen < n := by omega
        have hmx : seen < c.mx := by omega
        by_cases h3 : c.mn ≤ seen + 1
        · obtain ⟨s2, hs2⟩ : ∃ z, sumR (l.take (seen + 1)) = z := ⟨_, rfl⟩
          have HS2 := Lib.hid hs2
          have y0 : 0 ≤ s2 := by rw [← hs2]; exact sumR_lo _
          have y1 : s2 < 4294967296 := by rw [← hs2]; exact sumR_hi _
          have hmb : (s2 % (c.main : Int) == (c.main : Int) - 1) = mainAt c l (seen + 1) := by rw [← hs2, Bool.eq_iff_iff]; simp [mainAt, hit]
          have hbb : (s2 % (c.back : Int) == (c.back : Int) - 1) = backAt c l (seen + 1) := by rw [← hs2, Bool.eq_iff_iff]; simp [backAt, hit]
          have HCUT := Lib.hid (fun hm => HS.out.cut h3 (by rw [HN.out]; exact hlt) hmx hm)
          have HNX := Lib.hid (fun hm => HS.out.next h3 (by rw [HN.out]; exact hlt) hmx hm)
          rw [hs2] at HNX
          clear hs2
          by_cases h4 : c.mn = seen + 1
          · have h4a : ((seen : Int) + 1 == (c.mn : Int)) = true := by simp; omega
            have HOF := Lib.hid (fun nq => Of_any A cap (l.take (seen + 1)) (wr.drewN nq) (show Ints .u8 wr A (l.take (seen + 1)) from HX.out.take _) (HB.out.take _) (by rw [List.length_take]; omega))
            rw [List.length_take, HN.out, Nat.min_eq_left (by omega), HS2.out] at HOF
            have h3a : ¬ ((seen : Int) + 1 < (c.mn : Int)) := by omega
            clear h4
            go_wp2_with fail
            go_quiet (fail)
            go_wp2_with fail
            refine (HOF.out nq).mono ?_
            rintro e w' ⟨rfl, rfl⟩
            go_wp2_with fail
            have hsn : ((seen : Int) + 1) = ((seen + 1 : Nat) : Int) := by omega
            have HSN := Lib.hid hsn
            clear hsn
            cases hm : mainAt c l (seen + 1) with
            | true =>
              rw [hm] at hmb
              have hcut := HCUT.out hm
              have HC := Lib.hid hcut
              have HROW := Lib.hid (row45 HR.out s2 (seen + 1))
              have HGR := Lib.hid (grown_trans HG.out (gr2 wr g 4 5 (.int .u32 s2) (.int .i64 ((seen + 1 : Nat) : Int))))
              rw [← HSN.out] at HROW HGR
              clear hm hcut hbb
              go_quiet (fail)
              go_wp2
              go_ret
              exact ⟨by rw [HC.out, ← HSN.out]; rfl, ⟨HGR.out.os, HGR.out.tape, HGR.out.output, HGR.out.size, HGR.out.block⟩, s2, seen + 1, kp, HROW.out, fun h => by rw [HC.out] at h; omega⟩
            | false =>
              rw [hm] at hmb
              have hnx := HNX.out hm
              cases hbk : backAt c l (seen + 1) with
              | true =>
                rw [hbk] at hbb hnx
                rw [if_pos rfl] at hnx
                have HNX2 := Lib.hid hnx
                have HROW := Lib.hid (row456 HR.out s2 (seen + 1) (seen + 1))
                have HGR := Lib.hid (grown_trans HG.out (gr3 wr g 4 5 6 (.int .u32 s2) (.int .i64 ((seen + 1 : Nat) : Int)) (.int .i64 ((seen + 1 : Nat) : Int))))
                rw [← HSN.out] at HROW HGR
                clear hm hbk hnx
                go_quiet (fail)
                go_wp2_with fail
                go_quiet (fail)
                go_wp2
                go_roundg (c.mx - (seen + 1))
                case measure => omega
                case rel => exact ⟨s2, seen + 1, seen + 1, by omega, HNX2.out, HROW.out, ⟨HGR.out.os, HGR.out.tape, HGR.out.output, HGR.out.size, HGR.out.block⟩⟩
              | false =>
                rw [hbk] at hbb hnx
                rw [if_neg (by simp)] at hnx
                have HNX2 := Lib.hid hnx
                have HROW := Lib.hid (row45 HR.out s2 (seen + 1))
                have HGR := Lib.hid (grown_trans HG.out (gr2 wr g 4 5 (.int .u32 s2) (.int .i64 ((seen + 1 : Nat) : Int))))
                rw [← HSN.out] at HROW HGR
                clear hm hbk hnx
                go_quiet (fail)
                go_wp2_with fail
                go_quiet (fail)
                go_wp2
                go_roundg (c.mx - (seen + 1))
                case measure => omega
                case rel => exact ⟨s2, seen + 1, kp, by omega, HNX2.out, HROW.out, ⟨HGR.out.os, HGR.out.tape, HGR.out.output, HGR.out.size, HGR.out.block⟩⟩
          · have h4a : ((seen : Int) + 1 == (c.mn : Int)) = false := by simp; omega
            obtain ⟨ad, e, hc1⟩ := HX.out (seen - 16) (by rw [HN.out]; omega)
            subst e
            obtain ⟨ad2, e2, hc2⟩ := HX.out seen (by rw [HN.out]; omega)
            obtain rfl : ad = ad2 := by injection e2
            clear e2
            have hbo := HB.out (seen - 16)
            have hbi := HB.out seen
            have HNE := Lib.hid (sumR_next l seen (by rw [HN.out]; exact hlt) (by omega))
            have hsum := HS.out.sum (by omega)
            rw [← hsum, HS2.out] at HNE
            clear hsum
            generalize l.getD (seen - 16) 0 = xo at *
            generalize l.getD seen 0 = xi at *
            obtain ⟨j, hj⟩ : ∃ j, seen - 16 = j := ⟨_, rfl⟩
            rw [hj] at hc1
            have hw1 : IntKind.i64.wrap (seen : Int) = (seen : Int) := IntWalk.i64_in _ (by omega)
            have hw2 : IntKind.i64.wrap ((seen : Int) - 16) = (j : Int) := by rw [IntWalk.i64_in _ (by omega)]; omega
            have hj0 : (0 : Int) ≤ (j : Int) := by omega
            have hj1 : (j : Int) < (n : Int) := by omega
            have hj2 : (seen : Int) < (n : Int) := by omega
            clear hj
            have h3a : ¬ ((seen : Int) + 1 < (c.mn : Int)) := by omega
            clear h4
            go_wp2_with fail
            go_quiet (fail)
            go_wp2_with fail
            refine wp_region_still_tail 19 (by kernel_rfl) (by kernel_rfl) ?_
            simp only [List.take_succ_cons, List.take_zero, List.drop_succ_cons, List.drop_zero]
            change wpStill _ _ (wr.drewN (nq + 1)) (fun a' => wpList _ _ _ _ a' (wr.drewN (nq + 1))) _ _
            iterate 16 still_step
            still_call ((Next_any s xo xi _ hbo.1 hbo.2 hbi.1 hbi.2).mono (fun _ _ h => ⟨h.1, h.2.symm⟩))
            repeat still_step
            refine wpStill_nil ?_
            rw [HNE.out]
            clear hw1 hw2
            go_wp2_with fail
            have hsn : ((seen : Int) + 1) = ((seen + 1 : Nat) : Int) := by omega
            have HSN := Lib.hid hsn
            clear hsn
            cases hm : mainAt c l (seen + 1) with
            | true =>
              rw [hm] at hmb
              have hcut := HCUT.out hm
              have HC := Lib.hid hcut
              have HROW := Lib.hid (row45 HR.out s2 (seen + 1))
              have HGR := Lib.hid (grown_trans HG.out (gr2 wr g 4 5 (.int .u32 s2) (.int .i64 ((seen + 1 : Nat) : Int))))
              rw [← HSN.out] at HROW HGR
              clear hm hcut hbb
              go_quiet (fail)
              go_wp2
              go_ret
              exact ⟨by rw [HC.out, ← HSN.out]; rfl, ⟨HGR.out.os, HGR.out.tape, HGR.out.output, HGR.out.size, HGR.out.block⟩, s2, seen + 1, kp, HROW.out, fun h => by rw [HC.out] at h; omega⟩
            | false =>
              rw [hm] at hmb
              have hnx := HNX.out hm
              cases hbk : backAt c l (seen + 1) with
              | true =>
                rw [hbk] at hbb hnx
                rw [if_pos rfl] at hnx
                have HNX2 := Lib.hid hnx
                have HROW := Lib.hid (row456 HR.out s2 (seen + 1) (seen + 1))
                have HGR := Lib.hid (grown_trans HG.out (gr3 wr g 4 5 6 (.int .u32 s2) (.int .i64 ((seen + 1 : Nat) : Int)) (.int .i64 ((seen + 1 : Nat) : Int))))
                rw [← HSN.out] at HROW HGR
                clear hm hbk hnx
                go_quiet (fail)
                go_wp2_with fail
                go_quiet (fail)
                go_wp2
                go_roundg (c.mx - (seen + 1))
                case measure => omega
                case rel => exact ⟨s2, seen + 1, seen + 1, by omega, HNX2.out, HROW.out, ⟨HGR.out.os, HGR.out.tape, HGR.out.output, HGR.out.size, HGR.out.block⟩⟩
              | false =>
                rw [hbk] at hbb hnx
                rw [if_neg (by simp)] at hnx
                have HNX2 := Lib.hid hnx
                have HROW := Lib.hid (row45 HR.out s2 (seen + 1))
                have HGR := Lib.hid (grown_trans HG.out (gr2 wr g 4 5 (.int .u32 s2) (.int .i64 ((seen + 1 : Nat) : Int))))
                rw [← HSN.out] at HROW HGR
                clear hm hbk hnx
                go_quiet (fail)
                go_wp2_with fail
                go_quiet (fail)
                go_wp2
                go_roundg (c.mx - (seen + 1))
                case measure => omega
                case rel => exact ⟨s2, seen + 1, kp, by omega, HNX2.out, HROW.out, ⟨HGR.out.os, HGR.out.tape, HGR.out.output, HGR.out.size, HGR.out.block⟩⟩
        · have h3b : seen + 1 < c.mn := by omega
          have h3a : (seen : Int) + 1 < (c.mn : Int) := by omega
          have hq : ¬ n ≤ c.mn - 1 := by omega
          have hqa : (c.mn : Int) - 1 < (n : Int) := by omega
          have HSK := Lib.hid (HS.out.skip (n := c.mn - 1) h3b (by rw [HN.out]; omega) hle)
          have HROW := Lib.hid (row5 HR.out (c.mn - 1))
          have HGR := Lib.hid (grown_trans HG.out (grown_setCell wr g 5 (.int .i64 ((c.mn - 1 : Nat) : Int))))
          have hcs : (((c.mn - 1 : Nat)) : Int) = (c.mn : Int) - 1 := by omega
          rw [hcs] at HROW HGR
          clear hcs
          have hgt : seen < c.mn - 1 := by omega
          have hto : c.mn - 1 ≤ c.mx := by omega
          go_wp2_with fail
          go_quiet (fail)
          go_wp2
          go_roundg (c.mx - (c.mn - 1))
          case measure => omega
          case rel => exact ⟨s, c.mn - 1, kp, by omega, HSK.out, HROW.out, ⟨HGR.out.os, HGR.out.tape, HGR.out.output, HGR.out.size, HGR.out.block⟩⟩
      · have HGR := HG
        have hsm : c.mx ≤ seen := by omega
        by_cases hkp : 0 < kp
        · have HKE := Lib.hid (show kept c l c.mx = kp by rw [HS.out.kp, show seen = c.mx from by omega])
          have HC := Lib.hid (show cutR c l = kp by rw [HS.out.done (by rw [HN.out]; omega)]; unfold lastR; rw [if_neg (by rw [HN.out]; omega), HKE.out, if_pos hkp])
          have hkq : (0 : Int) < (kp : Int) := by omega
          go_wp2_with fail
          go_quiet (fail)
          go_wp2_with fail
          go_quiet (fail)
          go_wp2
          go_ret
          exact ⟨by rw [HC.out]; rfl, ⟨HGR.out.os, HGR.out.tape, HGR.out.output, HGR.out.size, HGR.out.block⟩, s, seen, kp, HR.out, fun h => by rw [HC.out] at h; omega⟩
        · have HKE := Lib.hid (show kept c l c.mx = kp by rw [HS.out.kp, show seen = c.mx from by omega])
          have HC := Lib.hid (show cutR c l = c.mx by rw [HS.out.done (by rw [HN.out]; omega)]; unfold lastR; rw [if_neg (by rw [HN.out]; omega), HKE.out, if_neg hkp])
          have hkq : ¬ (0 : Int) < (kp : Int) := by omega
          go_wp2_with fail
          go_quiet (fail)
          go_wp2_with fail
          go_quiet (fail)
          go_wp2
          go_ret
          exact ⟨by rw [HC.out]; rfl, ⟨HGR.out.os, HGR.out.tape, HGR.out.output, HGR.out.size, HGR.out.block⟩, s, seen, kp, HR.out, fun h => by rw [HC.out] at h; omega⟩

end Go.Proofs.YtcklcffepedklaaGreat.Ck
