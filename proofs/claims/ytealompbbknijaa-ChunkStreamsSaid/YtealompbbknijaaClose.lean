/- chunk: Close, All. -/
import Derived.Test.YtealompbbknijaaWrite
namespace Go.Proofs.Ytealompbbknijaa
open Go.RowKit

/-- What Close does. -/
def Closed (w : World) (g : Nat) (c : Ct) (h : List Int) (X : Nat → Prop) (e : Ending) (w' : World) : Prop :=
  ∃ v, e = .returned v ∧ w.grownBy w' (some g) ∧ NewRows (fun k => w.heap.size ≤ k ∧ k < w'.heap.size ∧ v.ownBlock ≠ some k) w.heap.size (restR h) w' v ∧ Str w' g c [] X
theorem one_own {w : World} {g base cap : Nat} {v : Value} (h : w.heap[g]? = some (.cells #[v] 25 (0, 0))) (hb : base ≤ g) (hc : cap = 1) : w.ownsRow base 25 1 (.slice (some ⟨g, 0, none⟩) 1 cap) 1 [v] :=
  ⟨rfl, .inr ⟨g, 1, #[v], by rw [hc], hb, h, Nat.le_refl _, by unfold maxLen; omega, rfl, rfl⟩⟩

set_option maxHeartbeats 800000 in
theorem Close_any (c : Ct) (ok : c.Ok) (g : Nat) (h : List Int) (X : Nat → Prop) (w : World) (S : Str w g c h X) (hl : h.length ≤ 1000000000) :
    Calls Try.prog 18 #[.pointer (some ⟨g, 0, none⟩)] w (Closed w g c h X) := by
  have HS := Lib.hid S
  obtain ⟨s, seen, kp, HA, hcap, a1, a2, a3, a4, a5, a6, a7⟩ := S
  have d7 : w.cell? ⟨g, 7, none⟩ = some (.slice HA h.length hcap) := by rw [cell_of_row _ _ _ _ _ _ a1]; rfl
  have hglt := row_lt a1
  have HROW := Lib.hid a1
  have HA3 := Lib.hid a3
  have HA4 := Lib.hid a4
  have HOK := Lib.hid ok
  obtain ⟨q, hq⟩ : ∃ q, h.length = q := ⟨_, rfl⟩
  have HQ := Lib.hid hq
  rw [hq] at d7 a5 hl
  have HPT := Lib.hid (part_any HA q hcap h w hq (by omega) a3)
  by_cases h0 : q = 0
  · subst h0
    obtain rfl : h = [] := List.length_eq_zero_iff.1 hq
    clear a1 a2 a3 a4 a6 a7 ok hq
    go_enter Try.func18, Try.ntmps18
    go_wp2_with fail
    go_ret
    exact ⟨_, rfl, World.grownBy.refl _ _, ⟨[], World.ownsRow_nil _ _ _ _, RowsV.nil _ _⟩, HS.out⟩
  · have hne : h ≠ [] := fun e => h0 (by rw [← hq, e]; rfl)
    have HRE := Lib.hid (show restR h = [h] from if_neg hne)
    have hq0 : ((q : Int) == 0) = false := by simp; omega
    clear a1 a2 a3 a4 a6 a7 ok hq hne h0
    go_enter Try.func18, Try.ntmps18
    go_wp2_with fail
    refine HPT.out.mono ?_
    rintro e w2 ⟨rfl, hr2, hb2⟩
    have hr1 := (hb2.block g hglt).trans HROW.out
    obtain ⟨e0, e1, e2, e3, e4, e5, e6⟩ := scan_cells hr1
    have e7 : w2.cell? ⟨g, 7, none⟩ = some (.slice HA q hcap) := by rw [cell_of_row _ _ _ _ _ _ hr1]; rw [HQ.out]; rfl
    have x0 := free_row hr1 0
    have x1 := free_row hr1 1
    have x2 := free_row hr1 2
    have x3 := free_row hr1 3
    have x4 := free_row hr1 4
    have x5 := free_row hr1 5
    have x6 := free_row hr1 6
    have x7 := free_row hr1 7
    have HR1 := Lib.hid hr1
    have HR2 := Lib.hid hr2
    have HB2 := Lib.hid hb2
    have hs2 := row_lt hr2
    have hg2 : g < w2.heap.size := by omega
    clear hr1 hr2 hb2
    go_wp2_with fail
    go_ret
    have hg1 := grown_setCell w2 g 7 (.slice none 0 0)
    have hg3 := reset_grown c g (w2.setCell ⟨g, 7, none⟩ (.slice none 0 0))
    have hr7 := setCell_row HR1.out 7 (.slice none 0 0)
    rw [HQ.out, scanC_7] at hr7
    have hr8 := reset_row hr7
    have hsz : (reset c g (w2.setCell ⟨g, 7, none⟩ (.slice none 0 0))).heap.size = w2.heap.size := by simp [reset, World.setCell]
    show Closed w g c h X _ ((reset c g (w2.setCell ⟨g, 7, none⟩ (.slice none 0 0))).alloc (.cells #[.slice (some ⟨w.heap.size, 0, none⟩) q q] 25))
    obtain ⟨W, hW⟩ : ∃ W, W = reset c g (w2.setCell ⟨g, 7, none⟩ (.slice none 0 0)) := ⟨_, rfl⟩
    rw [← hW] at hg3 hr8 hsz ⊢
    clear hW
    have hgW : w2.grownBy W (some g) := grown_trans hg1 hg3
    have hgA := grown_alloc W (.cells #[.slice (some ⟨w.heap.size, 0, none⟩) q q] 25) none
    have hla := heap_alloc_last W (.cells #[.slice (some ⟨w.heap.size, 0, none⟩) q q] 25)
    rw [hsz] at hla
    have hrp : (W.alloc (.cells #[.slice (some ⟨w.heap.size, 0, none⟩) q q] 25)).heap[w.heap.size]? = some (.cells (cellsOf h) 5 (0, 0)) :=
      (hgA.block _ (by omega) (by simp)).trans ((hgW.block _ hs2 (by simp; omega)).trans HR2.out)
    have hrg := (hgA.block g (by omega) (by simp)).trans hr8
    generalize W.alloc (.cells #[.slice (some ⟨w.heap.size, 0, none⟩) q q] 25) = V at *
    have hVs := row_lt hla
    refine ⟨_, rfl, grown_trans (below_grown HB2.out _) (grown_trans hgW (grown_none hgA _)), ⟨[.slice (some ⟨w.heap.size, 0, none⟩) q q], ?_, ?_⟩, 0, 0, 0, none, 0, hrg, ScanOk.zero c HOK.out _, Ints.nil _ _ _, (fun i => by simp), Nat.le_refl _, (fun ad e => by cases e), fun _ => ⟨rfl, rfl⟩⟩
    · rw [HRE.out]; exact one_own hla (by omega) rfl
    · rw [HRE.out]
      have := RowsV.one (fun k => w.heap.size ≤ k ∧ k < V.heap.size ∧ Value.ownBlock (.slice (some ⟨w2.heap.size, 0, none⟩) 1 1) ≠ some k) V (some ⟨w.heap.size, 0, none⟩) q h (by rw [HQ.out]; exact Nat.le_refl _) (ints_block hrp) HA4.out (fun ad e => by
        cases e
        refine ⟨Nat.le_refl _, by show w.heap.size < _; omega, fun e => ?_⟩
        simp [Value.ownBlock] at e
        omega)
      rw [HQ.out] at this
      exact this

/-- A nil stream has nothing. -/
theorem Write_nil (v : Value) (w : World) : Calls Try.prog 17 #[.pointer none, v] w fun e w' => e = .returned (.slice none 0 0) ∧ w = w' := by
  go_enter Try.func17, Try.ntmps17
  go_wp2_with fail
  go_ret
  exact ⟨rfl, rfl⟩
theorem Close_nil (w : World) : Calls Try.prog 18 #[.pointer none] w fun e w' => e = .returned (.slice none 0 0) ∧ w = w' := by
  go_enter Try.func18, Try.ntmps18
  go_wp2_with fail
  go_ret
  exact ⟨rfl, rfl⟩
theorem Held_nil (w : World) : Calls Try.prog 21 #[.pointer none] w fun e w' => e = .returned (.int .i64 0) ∧ w = w' := by
  go_enter Try.func21, Try.ntmps21
  go_wp2_with fail
  go_ret
  exact ⟨rfl, rfl⟩

theorem own_base {w : World} {b b' : Nat} {e : TypeId} {size : Nat} {v : Value} {n : Nat} {xs : List Value} (h : w.ownsRow b e size v n xs) (hb : b' ≤ b) : w.ownsRow b' e size v n xs := by
  obtain ⟨h1, h2⟩ := h
  refine ⟨h1, ?_⟩
  rcases h2 with h2 | ⟨g, cap, cur, a1, a2, a3⟩
  · exact .inl h2
  · exact .inr ⟨g, cap, cur, a1, by omega, a3⟩
/-- New slices. -/
def Alled (w : World) (L : List (List Int)) (e : Ending) (w' : World) : Prop :=
  ∃ v, e = .returned v ∧ Below w.heap.size w w' ∧ NewRows (fun k => w.heap.size ≤ k ∧ k < w'.heap.size ∧ v.ownBlock ≠ some k) w.heap.size L w' v

theorem All_no (mn mx main back : Int) (v : Value) (w : World) (h : ¬ RightI mn mx main back) :
    Calls Try.prog 12 #[.agg (cutC mn mx main back), v] w (Alled w []) := by
  have HC := Lib.hid (New_no mn mx main back (w.alloc (.cells (cutC mn mx main back) 24)) h)
  have HG := Lib.hid ((Below.refl w.heap.size w).alloc (Nat.le_refl _) (.cells (cutC mn mx main back) 24))
  unfold cutC at HC HG ⊢
  clear h
  go_enter Try.func12, Try.ntmps12
  go_wp2_with fail
  refine HC.out.mono ?_
  rintro e w2 ⟨rfl, hb2⟩
  have HB2 := Lib.hid (HG.out.trans (hb2.mono (by simp)))
  clear hb2
  go_wp2_with fail
  refine (Write_nil _ _).mono ?_
  rintro e w3 ⟨rfl, rfl⟩
  go_wp2_with fail
  refine (Close_nil _).mono ?_
  rintro e w3 ⟨rfl, rfl⟩
  go_wp2_with (at_builtin; refine wpList_app E28 rfl _ _ rfl w2.heap.size (.slice none 0 0) 0 [] rfl (World.ownsRow_nil _ _ _ _) none 0 0 [] rfl (fun _ => ⟨rfl, rfl⟩) rfl (fun j u hj => by cases hj) (fun u hu => by cases hu) ?c3 ?c4 (Nat.le_refl _) ?_)
  case c3 => unfold maxLen; omega
  case c4 => omega
  intro v1 w4 hown hgrow _
  have HO := Lib.hid hown
  have HG4 := Lib.hid hgrow
  clear hown hgrow
  go_wp2
  go_ret
  have hs := HB2.out.size
  exact ⟨v1, rfl, HB2.out.trans ((grown_below HG4.out (Nat.le_refl _) (fun k hk => by simp [Value.ownBlock] at hk)).mono hs), ⟨[], own_base HO.out hs, RowsV.nil _ _⟩⟩

set_option maxHeartbeats 800000 in
theorem All_yes (c : Ct) (ok : c.Ok) (l : List Int) (A : Option Addr) (n cap : Nat) (w : World) (hn : l.length = n) (hnc : n ≤ cap) (hI : Ints .u8 w A l) (hB : Bytes l) (hA : A = none → n = 0 ∧ cap = 0) (hl : n ≤ 1000000000) :
    Calls Try.prog 12 #[.agg (cutC c.mn c.mx c.main c.back), .slice A n cap] w (Alled w (pcsR c l)) := by
  have HC := Lib.hid (New_yes c ok (w.alloc (.cells (cutC c.mn c.mx c.main c.back) 24)))
  have HG := Lib.hid ((Below.refl w.heap.size w).alloc (Nat.le_refl _) (.cells (cutC c.mn c.mx c.main c.back) 24))
  have hrow := heap_alloc_last w (.cells (cutC c.mn c.mx c.main c.back) 24)
  have d0 : (w.alloc (.cells (cutC c.mn c.mx c.main c.back) 24)).cell? ⟨w.heap.size, 0, none⟩ = some (.int .i64 c.mn) := by rw [cell_of_row _ _ _ _ _ _ hrow]; rfl
  have d1 : (w.alloc (.cells (cutC c.mn c.mx c.main c.back) 24)).cell? ⟨w.heap.size, 1, none⟩ = some (.int .i64 c.mx) := by rw [cell_of_row _ _ _ _ _ _ hrow]; rfl
  have d2 : (w.alloc (.cells (cutC c.mn c.mx c.main c.back) 24)).cell? ⟨w.heap.size, 2, none⟩ = some (.int .u32 c.main) := by rw [cell_of_row _ _ _ _ _ _ hrow]; rfl
  have d3 : (w.alloc (.cells (cutC c.mn c.mx c.main c.back) 24)).cell? ⟨w.heap.size, 3, none⟩ = some (.int .u32 c.back) := by rw [cell_of_row _ _ _ _ _ _ hrow]; rfl
  unfold cutC at HC HG d0 d1 d2 d3 ⊢
  have HI := Lib.hid hI
  have HB := Lib.hid hB
  have HN := Lib.hid hn
  have HAN := Lib.hid hA
  have HOK := Lib.hid ok
  have HPE := Lib.hid (show pcsR c l = (endsR c l).1 ++ restR (endsR c l).2 from rfl)
  have HFL := Lib.hid (endsR_flat c ok l)
  have HEL := Lib.hid (endsR_lens c ok l)
  clear hrow hI hB hn hA ok
  go_enter Try.func12, Try.ntmps12
  go_wp2_with fail
  refine HC.out.mono ?_
  rintro e w2 ⟨g, rfl, hg, hr2, hb2⟩
  have hb2w := HG.out.trans (hb2.mono (by simp))
  have hgw : w.heap.size ≤ g := by simp at hg; omega
  have hS : Str w2 g c [] (fun _ => False) := ⟨0, 0, 0, none, 0, hr2, ScanOk.zero c HOK.out _, Ints.nil _ _ _, (fun i => by simp), Nat.le_refl _, (fun ad e => by cases e), fun _ => ⟨rfl, rfl⟩⟩
  have hglt := hS.glt
  have HWR := Lib.hid (Write_any c HOK.out g [] l (fun _ => False) A n cap w2 hS HN.out hnc (HI.out.below hb2w) HB.out HAN.out (by simp; omega))
  rw [List.nil_append] at HWR
  have HB2 := Lib.hid hb2w
  clear hb2w hr2 hb2 hS hg
  obtain ⟨L, rest, hLr⟩ : ∃ L rest, endsR c l = (L, rest) := ⟨_, _, rfl⟩
  rw [hLr] at HPE HFL HEL
  have hLl : L.length ≤ n ∧ rest.length ≤ n := by
    have h1 : L.length ≤ L.flatten.length := by
      have h2 := HEL.out
      have h3 := HOK.out.lo
      clear HEL HFL HPE hLr
      induction L with
      | nil => simp
      | cons x L ih =>
        have := ih (fun y hy => h2 y (List.mem_cons_of_mem _ hy))
        have := h2 x List.mem_cons_self
        simp only [List.length_cons, List.flatten_cons, List.length_append]
        omega
    have h4 := congrArg List.length HFL.out
    simp only [List.length_append] at h4
    rw [HN.out] at h4
    omega
  have hL1 := hLl.1
  have hL2 := hLl.2
  have HLR := Lib.hid hLr
  clear hLl hLr
  go_wp2_with fail
  refine HWR.out.mono ?_
  rintro e w3 ⟨v1, Y, rfl, hg3, hY, _, hvY, hnr1, hS3⟩
  rw [HLR.out] at hnr1 hS3
  have HCL := Lib.hid (Close_any c HOK.out g rest (fun k => k = Y) w3 hS3 (by omega))
  have hs3 := hg3.size
  obtain ⟨vals1, ho1, hv1⟩ := hnr1
  have hlt1 := ho1.lt
  have HO1 := Lib.hid ho1
  have HV1 := Lib.hid hv1
  have HLT1 := Lib.hid hlt1
  have HG3 := Lib.hid hg3
  clear hS3 hg3 hvY ho1 hv1 hlt1
  go_wp2_with fail
  refine HCL.out.mono ?_
  rintro e w4 ⟨v2, rfl, hg4, hnr2, -⟩
  obtain ⟨A2, c2, hv2e, hc2, -, hA2, hA2n⟩ := hnr2.rows
  obtain ⟨vals2, ho2, hv2⟩ := hnr2
  have hs4 := hg4.size
  have HCE := Lib.hid (show ∀ j u, vals2[j]? = some u → ∃ ad, A2 = some ad ∧ w4.cell? (ad.add j) = some u from fun j u hj => by
    cases A2 with
    | none =>
      have h0 := (hA2n rfl).1
      have : vals2 = [] := List.length_eq_zero_iff.1 (by rw [hv2.1, h0])
      subst this; cases hj
    | some a =>
      have hcell := ho2.cells (g := a.block) (by rw [hv2e]; rfl) j u hj
      obtain ⟨_, h2⟩ := ho2
      rcases h2 with ⟨h2, _⟩ | ⟨g', cap', cur, h2, _⟩
      · rw [hv2e] at h2; cases h2
      · rw [hv2e] at h2
        injection h2 with h2
        injection h2 with h2
        subst h2
        exact ⟨_, rfl, hcell⟩)
  have ho1' := HO1.out.kept hg4 (Or.inr (fun e => by have := HLT1.out g e; omega))
  have HO1' := Lib.hid (own_base ho1' (show w.heap.size ≤ w2.heap.size from HB2.out.size))
  have HV2 := Lib.hid hv2
  have HG4 := Lib.hid hg4
  have HA2N := Lib.hid hA2n
  have HA2 := Lib.hid hA2
  have hrl := restR_length rest
  obtain ⟨m, hm⟩ : ∃ m, (restR rest).length = m := ⟨_, rfl⟩
  have HM := Lib.hid hm
  rw [hm] at hv2e hrl HA2N
  have HVL := Lib.hid (show vals2.length = m * 1 by rw [hv2.1, hm, Nat.mul_one])
  have hws := HB2.out.size
  have HVE := Lib.hid hv2e
  clear hv2 ho2 hg4 hA2n hA2 hm ho1'
  subst hv2e
  go_wp2_with (at_builtin; refine wpList_app E28 rfl _ _ rfl w.heap.size v1 L.length vals1 rfl HO1'.out A2 m c2 vals2 rfl HA2N.out HVL.out HCE.out HV2.out.oneCell ?c3 ?c4 ?c5 ?_)
  case c3 => unfold maxLen; omega
  case c4 => omega
  case c5 => omega
  intro v5 w5 hown5 hgrow5 hat5
  have HO5 := Lib.hid hown5
  have HG5 := Lib.hid hgrow5
  have HAT := Lib.hid hat5
  clear hown5 hgrow5 hat5
  go_wp2
  go_ret
  have hs5 := HG5.out.size
  have hat : ∀ j, v5.ownBlock = some j → v1.ownBlock = some j ∨ j = w4.heap.size := by
    intro j hj
    rcases HAT.out with e | e
    · left; rw [← e]; exact hj
    · right; rw [e] at hj; injection hj with hj; omega
  refine ⟨v5, rfl, ?_, vals1 ++ vals2, ?_, ?_⟩
  · have hg34 := grown_trans HG3.out HG4.out
    refine ((HB2.out.grown hg34 hws (fun k hk => by cases hk; exact hgw)).grown HG5.out (by omega) (fun k hk => ?_))
    have := HLT1.out k hk; omega
  · rw [HPE.out, List.length_append, HM.out]; exact HO5.out
  · rw [HPE.out]
    refine RowsV.append ?_ ?_
    · refine (((HV1.out.kept HG4.out (fun k hk e => ?_)).kept HG5.out (fun k hk e => ?_))).imp (fun k hk => ⟨?_, ?_, fun e => ?_⟩)
      · injection e with e; have := hk.1; omega
      · exact hk.2.2.2 e.symm
      · have := hk.1; omega
      · have := hk.2.1; omega
      · rcases hat k e with h | h
        · exact hk.2.2.2 h
        · have := hk.2.1; omega
    · refine (HV2.out.kept HG5.out (fun k hk e => ?_)).imp (fun k hk => ⟨?_, ?_, fun e => ?_⟩)
      · have := HLT1.out k e.symm; have := hk.1; omega
      · have := hk.1; omega
      · have := hk.2.1; omega
      · rcases hat k e with h | h
        · have := HLT1.out k h; have := hk.1; omega
        · have := hk.2.1; omega

end Go.Proofs.Ytealompbbknijaa
