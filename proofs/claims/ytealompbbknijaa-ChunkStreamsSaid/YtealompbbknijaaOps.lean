/- chunk: Cut, New, part, Held; the reference's Cut. -/
import Derived.Test.YtealompbbknijaaLook
import Derived.Test.YtealompbbknijaaStore
import Derived.Laws.CopyOwn
namespace Go.Proofs.Ytealompbbknijaa
open Go.RowKit

theorem Ct.Ok.right {c : Ct} (ok : c.Ok) : RightI c.mn c.mx c.main c.back := by
  have := ok.lo; have := ok.le; have := ok.hi; have := ok.m0; have := ok.b0
  unfold RightI; omega
theorem Try.info5 : (Try.prog.info? 5).map (fun i => (i.zero, i.size, i.bytes)) = some (some (.int .u8 0), 1, 1) := by kernel_rfl
theorem E25 : Elem Try.prog 25 5 1 1 := by
  obtain ⟨i0, hi, hz0, hz1, hz2⟩ := info_parts Try.info5
  exact ⟨Try.underlying25, ⟨i0, _, hi, hz0, hz1, hz2, rfl⟩, by decide⟩

theorem Held_any (c : Ct) (s : Int) (seen kp g n cap : Nat) (A : Option Addr) (w : World) (h : w.heap[g]? = some (.cells (scanC c s seen kp [.slice A n cap]) 48 (0, 0))) :
    Calls Try.prog 21 #[.pointer (some ⟨g, 0, none⟩)] w fun e w' => e = .returned (.int .i64 n) ∧ w = w' := by
  have d7 : w.cell? ⟨g, 7, none⟩ = some (.slice A n cap) := by rw [cell_of_row _ _ _ _ _ _ h]; rfl
  clear h
  go_enter Try.func21, Try.ntmps21
  go_wp2
  go_ret
  exact ⟨rfl, rfl⟩

theorem New_no (mn mx main back : Int) (w : World) (h : ¬ RightI mn mx main back) :
    Calls Try.prog 15 #[.agg (cutC mn mx main back)] w fun e w' => e = .returned (.pointer none) ∧ Below w.heap.size w w' := by
  have HC := Lib.hid (Right_no mn mx main back (w.alloc (.cells (cutC mn mx main back) 24)) h)
  unfold cutC at HC ⊢
  clear h
  go_enter Try.func15, Try.ntmps15
  go_wp2_with (go_at_call 16; refine HC.out.mono ?_; rintro e w2 ⟨rfl, hg2⟩)
  go_ret
  exact ⟨rfl, grown_below (grown_trans (grown_alloc _ _ _) hg2) (Nat.le_refl _) (fun _ h => by cases h)⟩

theorem Ints.blk {k : IntKind} {w : World} {A : Option Addr} {l : List Int} (h : Ints k w A l) : ∀ ad, A = some ad → 0 < l.length → ad.block < w.heap.size := by
  intro ad e h0
  obtain ⟨ad', e', hc⟩ := h 0 h0
  rw [e] at e'
  injection e' with e'
  subst e'
  exact cell_block hc
/-- A new stream. -/
def NewStr (c : Ct) (w : World) (e : Ending) (w' : World) : Prop :=
  ∃ g, e = .returned (.pointer (some ⟨g, 0, none⟩)) ∧ w.heap.size ≤ g ∧ w'.heap[g]? = some (.cells (scanC c 0 0 0 [.slice none 0 0]) 48 (0, 0)) ∧ Below w.heap.size w w'
theorem New_yes (c : Ct) (ok : c.Ok) (w : World) : Calls Try.prog 15 #[.agg (cutC c.mn c.mx c.main c.back)] w (NewStr c w) := by
  have HC := Lib.hid (Right_yes c.mn c.mx c.main c.back (w.alloc (.cells (cutC c.mn c.mx c.main c.back) 24)) ok.right)
  have hrow := heap_alloc_last w (.cells (cutC c.mn c.mx c.main c.back) 24)
  have HG := Lib.hid (grown_alloc w (.cells (cutC c.mn c.mx c.main c.back) 24) none)
  have HR := Lib.hid hrow
  unfold cutC at HC HG HR ⊢
  clear ok hrow
  go_enter Try.func15, Try.ntmps15
  go_wp2_with fail
  refine HC.out.mono ?_
  rintro e w2 ⟨rfl, hg2⟩
  have hr2 := (hg2.block w.heap.size (by simp) (by simp)).trans HR.out
  have d0 : w2.cell? ⟨w.heap.size, 0, none⟩ = some (.int .i64 c.mn) := by rw [cell_of_row _ _ _ _ _ _ hr2]; rfl
  have d1 : w2.cell? ⟨w.heap.size, 1, none⟩ = some (.int .i64 c.mx) := by rw [cell_of_row _ _ _ _ _ _ hr2]; rfl
  have d2 : w2.cell? ⟨w.heap.size, 2, none⟩ = some (.int .u32 c.main) := by rw [cell_of_row _ _ _ _ _ _ hr2]; rfl
  have d3 : w2.cell? ⟨w.heap.size, 3, none⟩ = some (.int .u32 c.back) := by rw [cell_of_row _ _ _ _ _ _ hr2]; rfl
  have HGW := Lib.hid (grown_trans HG.out hg2)
  clear hr2 hg2
  go_wp2_with fail
  go_ret
  exact ⟨w2.heap.size, rfl, HGW.out.size, heap_alloc_last _ _, (below_refl_grown HGW.out).alloc HGW.out.size _⟩

theorem Cut_no (mn mx main back : Int) (v : Value) (w : World) (h : ¬ RightI mn mx main back) :
    Calls Try.prog 22 #[.agg (cutC mn mx main back), v] w fun e w' => e = .returned (.int .i64 0) ∧ Below w.heap.size w w' := by
  have HC := Lib.hid (Right_no mn mx main back (w.alloc (.cells (cutC mn mx main back) 24)) h)
  unfold cutC at HC ⊢
  clear h
  go_enter Try.func22, Try.ntmps22
  go_wp2_with (go_at_call 16; refine HC.out.mono ?_; rintro e w2 ⟨rfl, hg2⟩)
  go_ret
  exact ⟨rfl, grown_below (grown_trans (grown_alloc _ _ _) hg2) (Nat.le_refl _) (fun _ h => by cases h)⟩

theorem Cut_yes (c : Ct) (ok : c.Ok) (l : List Int) (n cap : Nat) (A : Option Addr) (w : World) (hn : l.length = n) (hl : n ≤ 1000000000000) (hnc : n ≤ cap) (hI : Ints .u8 w A l) (hB : Bytes l) :
    Calls Try.prog 22 #[.agg (cutC c.mn c.mx c.main c.back), .slice A n cap] w fun e w' => e = .returned (.int .i64 (cutR c l)) ∧ Below w.heap.size w w' := by
  have HC := Lib.hid (Right_yes c.mn c.mx c.main c.back (w.alloc (.cells (cutC c.mn c.mx c.main c.back) 24)) ok.right)
  have hrow := heap_alloc_last w (.cells (cutC c.mn c.mx c.main c.back) 24)
  have HG := Lib.hid (grown_alloc w (.cells (cutC c.mn c.mx c.main c.back) 24) none)
  have HR := Lib.hid hrow
  have HI := Lib.hid hI
  have HB := Lib.hid hB
  have HN := Lib.hid hn
  unfold cutC at HC HG HR ⊢
  clear hrow hI hB hn
  go_enter Try.func22, Try.ntmps22
  go_wp2_with fail
  refine HC.out.mono ?_
  rintro e w2 ⟨rfl, hg2⟩
  have hr2 := (hg2.block w.heap.size (by simp) (by simp)).trans HR.out
  have d0 : w2.cell? ⟨w.heap.size, 0, none⟩ = some (.int .i64 c.mn) := by rw [cell_of_row _ _ _ _ _ _ hr2]; rfl
  have d1 : w2.cell? ⟨w.heap.size, 1, none⟩ = some (.int .i64 c.mx) := by rw [cell_of_row _ _ _ _ _ _ hr2]; rfl
  have d2 : w2.cell? ⟨w.heap.size, 2, none⟩ = some (.int .u32 c.main) := by rw [cell_of_row _ _ _ _ _ _ hr2]; rfl
  have d3 : w2.cell? ⟨w.heap.size, 3, none⟩ = some (.int .u32 c.back) := by rw [cell_of_row _ _ _ _ _ _ hr2]; rfl
  have hgw := grown_trans HG.out hg2
  have HGW := Lib.hid hgw
  have HI2 := Lib.hid (HI.out.grown hgw (fun _ _ _ h => by cases h))
  clear hr2 hg2 hgw
  have HI3 := Lib.hid (HI2.out.grown (grown_alloc w2 (.cells (scanC c 0 0 0 []) 46) none) (fun _ _ _ h => by cases h))
  have HLK := Lib.hid (look_any c ok l n A cap w2.heap.size 46 0 0 0 [] (w2.alloc (.cells (scanC c 0 0 0 []) 46)) HN.out hl hnc HI3.out HB.out (fun ad e h0 => by
    have := HI2.out.blk ad e (by rw [HN.out]; omega)
    omega) (ScanOk.zero c ok l) (heap_alloc_last _ _))
  go_wp2_with fail
  refine HLK.out.mono ?_
  rintro e w3 ⟨rfl, hg3, -⟩
  have HG3 := Lib.hid (grown_trans (grown_alloc w2 (.cells (scanC c 0 0 0 []) 46) (some w2.heap.size)) hg3)
  have hle := HGW.out.size
  clear hg3
  go_wp2_with fail
  go_ret
  exact ⟨rfl, (below_refl_grown HGW.out).grown HG3.out hle (fun k hk => by cases hk; exact hle)⟩

/-- The reference's loop: what is kept before length n. -/
def keptR (c : Ct) (l : List Int) (n : Nat) : Nat := if 0 < kept c l (n - 1) then kept c l (n - 1) else c.mx
theorem keptR_lo (c : Ct) (ok : c.Ok) (l : List Int) : keptR c l c.mn = c.mx := by
  unfold keptR; rw [kept_below c l _ (by have := ok.lo; omega)]; simp
theorem keptR_next (c : Ct) (l : List Int) (n : Nat) (h : c.mn ≤ n) (h0 : 0 < n) : keptR c l (n + 1) = if backAt c l n = true then n else keptR c l n := by
  obtain ⟨m, rfl⟩ : ∃ m, n = m + 1 := ⟨n - 1, by omega⟩
  have e : kept c l (m + 1) = if backAt c l (m + 1) = true then m + 1 else kept c l m := by
    simp only [kept]
    by_cases hb : backAt c l (m + 1) = true
    · rw [if_pos ⟨h, hb⟩, if_pos hb]
    · rw [if_neg (fun h => hb h.2), if_neg hb]
  unfold keptR
  simp only [Nat.add_sub_cancel]
  rw [e]
  by_cases hb : backAt c l (m + 1) = true
  · rw [if_pos hb, if_pos hb, if_pos (by omega)]
  · rw [if_neg hb, if_neg hb]
theorem keptR_le (c : Ct) (l : List Int) (n : Nat) (h : n ≤ 4097) (h2 : c.mx ≤ 4096) : keptR c l n ≤ 4096 := by
  unfold keptR
  have := kept_le c l (n - 1)
  split <;> omega

theorem rCut_no (mn mx main back : Int) (v : Value) (w : World) (h : ¬ RightI mn mx main back) :
    Calls Try.prog 23 #[.agg (cutC mn mx main back), v] w fun e w' => e = .returned (.int .i64 0) ∧ Below w.heap.size w w' := by
  have HC := Lib.hid (rRight_no mn mx main back (w.alloc (.cells (cutC mn mx main back) 24)) h)
  unfold cutC at HC ⊢
  clear h
  go_enter Try.func23, Try.ntmps23
  go_wp2_with (go_at_call 19; refine HC.out.mono ?_; rintro e w2 ⟨rfl, hg2⟩)
  go_ret
  exact ⟨rfl, grown_below (grown_trans (grown_alloc _ _ _) hg2) (Nat.le_refl _) (fun _ h => by cases h)⟩

set_option maxRecDepth 20000 in
set_option maxHeartbeats 800000 in
theorem rCut_yes (c : Ct) (ok : c.Ok) (l : List Int) (n cap : Nat) (A : Option Addr) (w : World) (hn : l.length = n) (hl : n ≤ 1000000000000) (hnc : n ≤ cap) (hI : Ints .u8 w A l) (hB : Bytes l) :
    Calls Try.prog 23 #[.agg (cutC c.mn c.mx c.main c.back), .slice A n cap] w fun e w' => e = .returned (.int .i64 (cutR c l)) ∧ Below w.heap.size w w' := by
  have HC := Lib.hid (rRight_yes c.mn c.mx c.main c.back (w.alloc (.cells (cutC c.mn c.mx c.main c.back) 24)) ok.right)
  have hrow := heap_alloc_last w (.cells (cutC c.mn c.mx c.main c.back) 24)
  have HG := Lib.hid (grown_alloc w (.cells (cutC c.mn c.mx c.main c.back) 24) none)
  have HR := Lib.hid hrow
  have HI := Lib.hid hI
  have HB := Lib.hid hB
  have HN := Lib.hid hn
  have hlo := ok.lo
  have hle := ok.le
  have hhi := ok.hi
  have hm0 := ok.m0
  have hm1 := ok.m1
  have hb0 := ok.b0
  have hb1 := ok.b1
  have HKL := Lib.hid (keptR_lo c ok l)
  unfold cutC at HC HG HR ⊢
  clear hrow hI hB hn ok
  go_enter Try.func23, Try.ntmps23
  go_wp2_with fail
  refine HC.out.mono ?_
  rintro e w2 ⟨rfl, hg2⟩
  have hr2 := (hg2.block w.heap.size (by simp) (by simp)).trans HR.out
  have d0 : w2.cell? ⟨w.heap.size, 0, none⟩ = some (.int .i64 c.mn) := by rw [cell_of_row _ _ _ _ _ _ hr2]; rfl
  have d1 : w2.cell? ⟨w.heap.size, 1, none⟩ = some (.int .i64 c.mx) := by rw [cell_of_row _ _ _ _ _ _ hr2]; rfl
  have d2 : w2.cell? ⟨w.heap.size, 2, none⟩ = some (.int .u32 c.main) := by rw [cell_of_row _ _ _ _ _ _ hr2]; rfl
  have d3 : w2.cell? ⟨w.heap.size, 3, none⟩ = some (.int .u32 c.back) := by rw [cell_of_row _ _ _ _ _ _ hr2]; rfl
  have hgw := grown_trans HG.out hg2
  have HGW := Lib.hid hgw
  have HI2 := Lib.hid (HI.out.grown hgw (fun _ _ _ h => by cases h))
  clear hr2 hg2 hgw
  go_wp2_with fail
  go_loopg [5, 6] (c.mx + 1 - c.mn) (fun kq v5 v6 w' => ∃ n : Nat, v6 = .int .i64 (n : Int) ∧ kq = c.mx + 1 - n ∧ c.mn ≤ n ∧ n ≤ c.mx + 1 ∧ v5 = .int .i64 (keptR c l n) ∧ Hid (∀ j, c.mn ≤ j → j < n → mainAt c l j = false) ∧ ∃ q, w' = w2.drewN q)
  case atStart => exact ⟨c.mn, rfl, rfl, by omega, by omega, by rw [HKL.out], Lib.hid (fun j h1 h2 => by omega), 0, rfl⟩
  case round =>
    obtain ⟨m, rfl, hk, hm1', hm2, rfl, HNO, q, rfl⟩ := hrel
    have HK := Lib.hid hk
    clear hk
    by_cases h1 : m ≤ c.mx
    · by_cases h2 : m ≤ n
      · obtain ⟨s2, hs2⟩ : ∃ z, sumR (l.take m) = z := ⟨_, rfl⟩
        have HS2 := Lib.hid hs2
        have y0 : 0 ≤ s2 := by rw [← hs2]; exact sumR_lo _
        have y1 : s2 < 4294967296 := by rw [← hs2]; exact sumR_hi _
        have hmb : (s2 % (c.main : Int) == (c.main : Int) - 1) = mainAt c l m := by rw [← hs2, Bool.eq_iff_iff]; simp [mainAt, hit]
        have hbb : (s2 % (c.back : Int) == (c.back : Int) - 1) = backAt c l m := by rw [← hs2, Bool.eq_iff_iff]; simp [backAt, hit]
        have HOF := Lib.hid (rOf_any A cap (l.take m) (w2.drewN q) (show Ints .u8 w2 A (l.take m) from HI2.out.take _) (HB.out.take _) (by rw [List.length_take]; omega))
        rw [List.length_take, HN.out, Nat.min_eq_left (by omega), HS2.out] at HOF
        have HCUT := Lib.hid (fun hm => cutR_hit c l m hm1' (by rw [HN.out]; exact h2) h1 hm HNO.out)
        have HKN := Lib.hid (keptR_next c l m hm1' (by omega))
        have hkl := keptR_le c l m (by omega) hhi
        clear hs2
        cases hm : mainAt c l m with
        | true =>
          rw [hm] at hmb
          have HC := Lib.hid (HCUT.out hm)
          clear hm hbb
          go_wp2_with fail
          refine HOF.out.mono ?_
          rintro e w' ⟨rfl, rfl⟩
          go_wp2_with fail
          go_quiet (fail)
          go_wp2
          go_ret
          exact ⟨by rw [HC.out]; rfl, below_drewN (below_drewN (below_refl_grown HGW.out) _) _⟩
        | false =>
          rw [hm] at hmb
          have HNO2 : Hid (∀ j, c.mn ≤ j → j < m + 1 → mainAt c l j = false) := Lib.hid (fun j h3 h4 => by
            by_cases e : j = m
            · subst e; exact hm
            · exact HNO.out j h3 (by omega))
          cases hbk : backAt c l m with
          | true =>
            rw [hbk] at hbb HKN
            have HKN2 := Lib.hid (HKN.out.trans (if_pos rfl))
            clear hm hbk
            go_wp2_with fail
            refine HOF.out.mono ?_
            rintro e w' ⟨rfl, rfl⟩
            go_wp2_with fail
            go_quiet (fail)
            go_wp2_with fail
            go_quiet (fail)
            go_wp2
            go_roundg (c.mx + 1 - (m + 1))
            case measure => rw [HK.out]; omega
            case rel => exact ⟨m + 1, by go_num, rfl, by omega, by omega, by rw [HKN2.out], HNO2, _, rfl⟩
          | false =>
            rw [hbk] at hbb HKN
            have HKN2 := Lib.hid (HKN.out.trans (if_neg (by simp)))
            clear hm hbk
            go_wp2_with fail
            refine HOF.out.mono ?_
            rintro e w' ⟨rfl, rfl⟩
            go_wp2_with fail
            go_quiet (fail)
            go_wp2_with fail
            go_quiet (fail)
            go_wp2
            go_roundg (c.mx + 1 - (m + 1))
            case measure => rw [HK.out]; omega
            case rel => exact ⟨m + 1, by go_num, rfl, by omega, by omega, by rw [HKN2.out], HNO2, _, rfl⟩
      · have HC := Lib.hid (show cutR c l = 0 by rw [cutR_last c l (fun j h3 h4 h5 => HNO.out j h3 (by rw [HN.out] at h4; omega))]; unfold lastR; rw [if_pos (by rw [HN.out]; omega)])
        have hnm : n < c.mx := by omega
        go_wp2
        go_ret
        exact ⟨by rw [HC.out]; rfl, below_drewN (below_refl_grown HGW.out) _⟩
    · have HC0 := Lib.hid (cutR_last c l (fun j h3 h4 h5 => HNO.out j h3 (by omega)))
      by_cases hnm : n < c.mx
      · have HC := Lib.hid (show cutR c l = 0 by rw [HC0.out]; unfold lastR; rw [if_pos (by rw [HN.out]; omega)])
        go_wp2
        go_ret
        exact ⟨by rw [HC.out]; rfl, below_drewN (below_refl_grown HGW.out) _⟩
      · have HC := Lib.hid (show cutR c l = keptR c l m by rw [HC0.out]; unfold lastR keptR; rw [if_neg (by rw [HN.out]; omega), show m - 1 = c.mx from by omega])
        go_wp2
        go_ret
        exact ⟨by rw [HC.out]; rfl, below_drewN (below_refl_grown HGW.out) _⟩

end Go.Proofs.Ytealompbbknijaa
