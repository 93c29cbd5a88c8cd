/- Texts of the proof, one behind the other: The top: TopImages. -/
import Derived.Test.YtcklcffepedklaaGreatDoorM32
namespace Go.Proofs.YtcklcffepedklaaGreatDoor
open Go.RowKit Go.Maps

theorem build_s7 (W : World) : (Instr.build 39 #[(0, .int .u8 7)]).run Tryz.prog W = .ok (.agg (stC s7).toArray) W := by kernel_rfl
theorem build_st (W : World) : (Instr.buildSlice 22 1 #[(0, .agg (stC s7).toArray)]).run Tryz.prog W = .ok (.slice (some ⟨W.heap.size, 0, none⟩) 1 1) (W.alloc (.cells (stC s7).toArray 39)) :=
  build_one (P := Tryz.prog) (z := .agg zS) (vs := stC s7) (s := 6) Tryz.underlying22 (fun _ => by kernel_rfl) zeroS rfl (by decide) (by decide) (.agg (stC s7).toArray) rfl W
theorem own_formS {w : World} {b : Nat} {v : Value} {n : Nat} {xs : List Value} (h : w.ownsRow b 39 6 v n xs) : ∃ A c, v = .slice A n c := by
  obtain ⟨_, h2⟩ := h
  rcases h2 with ⟨h2, h3⟩ | ⟨g, cap, cur, e, _⟩
  · exact ⟨none, 0, by rw [h2, h3]⟩
  · exact ⟨_, _, e⟩
theorem own_ty5 {w : World} {B n : Nat} {V : Value} {xs : List Value} (h : w.ownsRow B 39 6 V n xs) : ∀ k, V.ownBlock = some k → ∃ cs, w.heap[k]? = some (.cells cs 39 (0, 0)) := fun k hk => by
  rcases h.2 with ⟨e, _⟩ | ⟨g, cap, cur, e, _, e2, _⟩
  · rw [e] at hk; cases hk
  · rw [e] at hk
    injection hk with hk
    have hk' : g = k := hk
    exact ⟨cur, by rw [← hk']; exact e2⟩
/-- A block of the steps' has changed. -/
theorem TSt.other {B each S : Nat} {w w' : World} {gd gh gn gm g : Nat} {d : Ds} {N : List PR} {Q : List (BA × List PR)} {cs : Array Value} (h : TSt B each S w gd gh gn gm d N Q) (hc : Chg (fun k => k = g) w w') (hr : w.heap[g]? = some (.cells cs 39 (0, 0))) (hB : B ≤ g) : TSt B each S w' gd gh gn gm d N Q := by
  obtain ⟨cs1, r1⟩ := h.nm.row
  obtain ⟨es, c, r2⟩ := h.sn.row
  have r3 : w.heap[gh]? = _ := h.hm
  have n1 : ¬ gn = g := fun e => by rw [e, hr] at r1; injection r1 with r1; injection r1 with _ r1 _; cases r1
  have n2 : ¬ gm = g := fun e => by rw [e, hr] at r2; injection r2 with r2; cases r2
  have n3 : ¬ gh = g := fun e => by rw [e, hr] at r3; injection r3 with r3; injection r3 with _ r3 _; cases r3
  have n4 : ∀ g' cs', g' = g → w.heap[g']? ≠ some (.cells cs' 125 (0, 0)) := fun g' cs' e e2 => by rw [e, hr] at e2; injection e2 with e2; injection e2 with _ e2 _; cases e2
  exact ⟨h.env.chg hc (fun k hk => by rw [hk]; exact Nat.lt_of_lt_of_le h.base hB), (h.dk.kept (F' := fun k => B ≤ k) hc (fun k _ hk e => by rw [e] at hk; exact Fd.not hr (by decide) hk) (fun k _ hk => hk.1)).typed (fun _ hk => hk), h.hm.chg hc n3, h.nm.chg hc n1 n4, h.sn.chg hc n2 n4, h.base, h.bh, h.bn, h.bm, h.val, h.len, h.snv⟩
theorem TSt.app {B each S : Nat} {w w' : World} {gd gh gn gm n : Nat} {d : Ds} {N : List PR} {Q : List (BA × List PR)} {V : Value} {xs : List Value} (h : TSt B each S w gd gh gn gm d N Q) (ho : w.ownsRow B 39 6 V n xs) (hg : w.grownBy w' V.ownBlock) : TSt B each S w' gd gh gn gm d N Q := by
  cases hv : V.ownBlock with
  | none =>
    rw [hv] at hg
    exact h.below (below_refl_grown hg)
  | some g =>
    obtain ⟨cs, hr⟩ := own_ty5 ho g hv
    exact h.other (Chg.of_ hg (fun k _ e => by rw [hv] at e; injection e with e; exact e.symm)) hr (ho.lt g hv).1
theorem own_bel {w w' : World} {B n : Nat} {V : Value} {xs : List Value} (h : w.ownsRow B 39 6 V n xs) (hb : Below w.heap.size w w') : w'.ownsRow B 39 6 V n xs := ownsRow_chg h (R := fun _ => False) (Chg.belowAt hb) (fun _ _ h => h)
theorem bel_drewN {B : Nat} {w w' : World} (h : Below B w w') (q : Nat) : Below B w (w'.drewN q) := ⟨h.os, h.tape, h.output, h.size, h.block⟩
set_option maxRecDepth 20000 in
set_option maxHeartbeats 3200000 in
theorem images_any (A : Option Addr) (n c : Nat) (l : List Stp) (w : World) (hE : Env w) (hn : l.length = n) (hc : n ≤ c) (hc2 : c ≤ 9223372036854775807) (hA : Stps w A l) (hA0 : A = none → n = 0 ∧ c = 0) :
    Calls Tryz.prog 3 #[.slice A n c] w fun e w' => e = .returned (.bool true) ∧ Below w.heap.size w w' := by
  have HE := Lib.hid hE
  have HARG := Lib.hid (And.intro hn (And.intro hc (And.intro hc2 (And.intro hA hA0))))
  have HKP := Lib.hid (kept_any w hE)
  clear hE hn hc hc2 hA hA0
  go_enter Tryz.func3, Tryz.ntmps3
  go_wp2_with fail
  refine HKP.out.mono ?_
  rintro e w0 ⟨rfl, hb0⟩
  have HB0 := Lib.hid hb0
  have HDN := Lib.hid (show Calls Tryz.prog 5 #[.int .i64 4002] w0 (NewDk 4002 w0) from DNew_any 4002 w0 (by decide))
  clear hb0 HKP
  go_wp2_with fail
  refine HDN.out.mono ?_
  rintro e w1 ⟨gd, rfl, hb1, hd⟩
  have HB1 := Lib.hid hb1
  have HD := Lib.hid hd
  have HHN := Lib.hid (show Calls Tryz.prog 6 #[.pointer (some ⟨gd, 0, none⟩), .int .i64 2000] w1 fun e w' => ∃ gh, e = .returned (.tuple #[.pointer (some ⟨gh, 0, none⟩), .int .i64 0]) ∧ w1.heap.size ≤ gh ∧ Hm w' gh gd 2000 ∧ Below w1.heap.size w1 w' from HNew_any (each := 2000) hd (by decide) (by decide) (by decide))
  clear hb1 hd HDN
  go_wp2_with fail
  refine HHN.out.mono ?_
  rintro e w2 ⟨gh, rfl, hgh, hh, hb2⟩
  have HHH := Lib.hid (And.intro hgh (And.intro hh hb2))
  clear hgh hh hb2 HHN
  go_wp2_with fail
  refine (NNew_any w2).mono ?_
  rintro e w3 ⟨gn, gm, rfl, hn, hq, h1, h2, _, hb3⟩
  have hst := TSt.start (B := w.heap.size) (HE.out.below HB0.out) HB0.out.size HE.out.lt HD.out HB1.out HHH.out.2.1 HHH.out.1 HHH.out.2.2 hn hq h1 h2 hb3
  have HST := Lib.hid hst.1
  have HB3 := Lib.hid (HB0.out.trans (hst.2.mono HB0.out.size))
  have HLY := Lib.hid (lay_t hst.1)
  clear hn hq h1 h2 hb3 hst
  go_wp2_with fail
  refine HLY.out.mono ?_
  rintro e w4 ⟨A4, c4, rfl, hcc, ho4, hb4⟩
  obtain ⟨A', c', e, _, hI4, _⟩ := ho4.ints
  injection e with eA _ ec
  subst eA; subst ec
  obtain ⟨n4, hn4⟩ : ∃ k, (layN [] []).length = k := ⟨_, rfl⟩
  obtain ⟨X, hX⟩ : ∃ X, strOfNums (layN [] []) = X := ⟨_, rfl⟩
  have hcv : (convert 33 9 (.slice A4 n4 c4)).run Tryz.prog w4 = .ok (.string X) w4 := by
    rw [← hX]; exact run_conv_ints hI4 33 9 5 n4 c4 hn4 Tryz.underlying33 Tryz.underlying5 Tryz.underlying9
  have hst4 := HST.out.below hb4
  have hb04 := HB3.out.trans (hb4.mono HB3.out.size)
  have HS4 := Lib.hid hst4
  have HB4 := Lib.hid hb04
  have HX := Lib.hid hX
  rw [hn4]
  have hBE : Below w.heap.size w (w4.alloc (.cells #[] 39)) := hb04.alloc hb04.size _
  have HBE := Lib.hid hBE
  have HFEW := Lib.hid (few_any A n c l (w4.alloc (.cells #[] 39)) HARG.out.1 HARG.out.2.1 HARG.out.2.2.1 (HARG.out.2.2.2.1.below hBE) HARG.out.2.2.2.2)
  have HO5 := Lib.hid (show (w4.alloc (.cells #[] 39)).ownsRow w.heap.size 39 6 (.slice (some ⟨w4.heap.size, 0, none⟩) 0 0) 0 [] from World.ownsRow_lit w4 #[] 0 hb04.size (by decide) rfl)
  have HSE := Lib.hid (hst4.below ((Below.refl w4.heap.size w4).alloc (Nat.le_refl _) (.cells #[] 39)))
  clear hcc ho4 hb4 hI4 hn4 hX hst4 hb04 hBE HLY HHH HD HB1 HB3 HST
  go_wp2_with fail
  refine HFEW.out.mono ?_
  rintro e w5' ⟨m, rfl, hm, hm40, hfew, q, rfl⟩
  obtain ⟨w5, hw5⟩ : ∃ w5, (w4.alloc (.cells #[] 39)).drewN q = w5 := ⟨_, rfl⟩
  have HB5 := Lib.hid (show Below w.heap.size w w5 by rw [← hw5]; exact bel_drewN HBE.out q)
  have hO5 : w5.ownsRow w.heap.size 39 6 (.slice (some ⟨w4.heap.size, 0, none⟩) 0 0) 0 [] := by rw [← hw5]; exact HO5.out
  have HS5 := Lib.hid (show TSt w.heap.size 2000 4002 w5 gd gh gn gm (newD 4002) [] [] by rw [← hw5]; exact HSE.out.below (bel_drewN (Below.refl _ _) q))
  obtain ⟨g5, hg5⟩ : ∃ g5, w4.heap.size = g5 := ⟨_, rfl⟩
  rw [hg5] at hO5 ⊢
  rw [hw5]
  have HOO5 := Lib.hid hO5
  obtain ⟨L0, hL0⟩ : ∃ L0, l.take m = L0 := ⟨_, rfl⟩
  have hL0m : L0.length = m := by rw [← hL0, List.length_take, HARG.out.1]; omega
  have HA5 := Lib.hid (show Stps w5 A L0 by rw [← hL0]; exact (HARG.out.2.2.2.1.take m).below HB5.out)
  have HN5 := Lib.hid (show A = none → m = 0 ∧ c = 0 from fun e => by have := HARG.out.2.2.2.2 e; omega)
  have HLN := Lib.hid (show (flatS L0).length = m * 6 by rw [flatS_length, hL0m])
  have HM := Lib.hid (show 0 + m ≤ maxLen ∧ (0 + m) * 96 ≤ 140737488355328 by unfold maxLen; omega)
  have HM1 := Lib.hid (show m + 1 ≤ maxLen ∧ (m + 1) * 96 ≤ 140737488355328 by unfold maxLen; omega)
  have HL := Lib.hid (And.intro hL0m (And.intro hm (And.intro hm40 (show ∀ s ∈ L0, Few s from fun s hs => hfew s (by rw [hL0]; exact hs)))))
  have HPOST := Lib.hid (fun (v6 : Value) (w6 : World) (hown6 : w6.ownsRow w.heap.size 39 6 v6 (0 + m) ([] ++ flatS L0)) (hgrow6 : w5.grownBy w6 (Value.ownBlock (.slice (some ⟨g5, 0, none⟩) 0 0))) =>
    show (w6.alloc (.cells (stC s7).toArray 39)).ownsRow w.heap.size 39 6 v6 m (flatS L0) ∧ Below w.heap.size w (w6.alloc (.cells (stC s7).toArray 39)) ∧ TSt w.heap.size 2000 4002 (w6.alloc (.cells (stC s7).toArray 39)) gd gh gn gm (newD 4002) [] [] ∧
      (∀ j u, (stC s7)[j]? = some u → ∃ ad, some (⟨w6.heap.size, 0, none⟩ : Addr) = some ad ∧ (w6.alloc (.cells (stC s7).toArray 39)).cell? (ad.add j) = some u) ∧ w.heap.size ≤ (w6.alloc (.cells (stC s7).toArray 39)).heap.size from by
      rw [Nat.zero_add, List.nil_append] at hown6
      have hg5w : w.heap.size ≤ g5 := by rw [← hg5]; exact HB4.out.size
      have hb6 : Below w.heap.size w w6 := HB5.out.grown hgrow6 HB5.out.size (fun k hk => by injection hk with hk; have hk' : g5 = k := hk; omega)
      obtain ⟨cs5, hr5⟩ := own_ty5 HOO5.out g5 rfl
      have hst6 := HS5.out.other (Chg.of_ hgrow6 (fun k _ e => by injection e with e; exact e.symm)) hr5 hg5w
      have hba : Below w6.heap.size w6 (w6.alloc (.cells (stC s7).toArray 39)) := (Below.refl _ _).alloc (Nat.le_refl _) _
      refine ⟨hown6.alloc _, hb6.trans (hba.mono hb6.size), hst6.below hba, fun j u hj => ⟨_, rfl, ?_⟩, by have := hb6.size; have := hba.size; omega⟩
      rw [addr_add0, Nat.zero_add]; exact row_at (heap_alloc_last w6 _) hj)
  obtain ⟨m1, hm1⟩ : ∃ m1, m + 1 = m1 := ⟨_, rfl⟩
  have HM2 := Lib.hid hm1
  have HSL := Lib.hid (show ∀ s ∈ L0, StOk w s from fun s hs => by
    rw [← hL0] at hs
    obtain ⟨j, hj, rfl⟩ := List.getElem_of_mem hs
    have := (HARG.out.2.2.2.1.take m) j _ (List.getElem?_eq_getElem hj)
    exact this.1)
  have HBU := Lib.hid build_s7
  have HBS := Lib.hid build_st
  clear hw5 hg5 hO5 hL0 hL0m hm hm40 hfew hm1 HFEW HO5 HSE HBE
  go_wp2_with (first
    | (with_reducible refine wpList_val rfl (exec_build _ _ rfl #[(0, .int .u8 7)] (by go_simp) (HBU.out _)) ?_)
    | (with_reducible refine wpList_val rfl (exec_buildSlice _ _ _ rfl #[(0, .agg (stC s7).toArray)] (by go_simp) (HBS.out _)) ?_)
    | (at_builtin; refine wpList_app ES rfl _ _ rfl w.heap.size (.slice (some ⟨g5, 0, none⟩) 0 0) 0 [] rfl HOO5.out A m c (flatS L0) rfl HN5.out HLN.out HA5.out.news (flatS_one _) HM.out.1 HM.out.2 HB5.out.size ?_; intro v6 w6 hown6 hgrow6 hat6; have HP := Lib.hid (HPOST.out v6 w6 hown6 hgrow6); clear hown6 hgrow6 hat6)
    | (at_builtin; refine wpList_app ES rfl _ _ rfl w.heap.size _ m (flatS L0) rfl HP.out.1 (some ⟨w6.heap.size, 0, none⟩) 1 1 (stC s7) rfl (fun h => by cases h) rfl HP.out.2.2.2.1 (stC_one _) HM1.out.1 HM1.out.2 HP.out.2.2.2.2 ?_; intro v8 w8 hown8 hgrow8 hat8; rw [HM2.out] at hown8; obtain ⟨A8, c8, hv8⟩ := own_formS hown8; subst hv8; have HO8 := Lib.hid hown8; have HG8 := Lib.hid hgrow8; clear hown8 hgrow8 hat8)
    | fail)
  obtain ⟨L, hL⟩ : ∃ L, L0 ++ [s7] = L := ⟨_, rfl⟩
  have hLl : L.length = m1 := by rw [← hL, List.length_append, HL.out.1]; exact HM2.out
  have HLL := Lib.hid hLl
  have HSOK := Lib.hid (show ∀ s ∈ L, StOk w s ∧ Few s from fun s hs => by
    rw [← hL] at hs
    rcases List.mem_append.1 hs with hs | hs
    · exact ⟨HSL.out s hs, HL.out.2.2.2 s hs⟩
    · obtain rfl := List.mem_singleton.1 hs; exact ⟨s7_ok w, s7_few⟩)
  have ho8 : w8.ownsRow w.heap.size 39 6 (.slice A8 m1 c8) L.length (flatS L) := by
    rw [hLl, ← hL, show flatS (L0 ++ [s7]) = flatS L0 ++ stC s7 by simp [flatS]]; exact HO8.out
  have hst8 := HP.out.2.2.1.app HP.out.1 HG8.out
  have hb8 : Below w.heap.size w w8 := HP.out.2.1.grown HG8.out HP.out.2.2.2.2 (fun k hk => (HP.out.1.lt k hk).1)
  have HLP := Lib.hid (Lp.mk2 (i := 0) (w0 := w) hst8 (Kept.new 2000 4002 (by decide)) OfT.none OfT.none hb8 ho8)
  have hm41 : m1 ≤ 41 := by have := HL.out.2.2.1; have := HM2.out; omega
  have HB0' := Lib.hid HE.out.lt
  clear hL hLl ho8 hst8 hb8 HP HO8 HG8 HM1 HPOST HBU HBS HA5 HN5 HLN HOO5 HS5 HB5 HM HM2 HL HSL hcv HS4 HB4 HARG HE
  go_loopg [8, 9, 10, 55] m1 (fun kq v8 v9 v10 v55 w' => ∃ (i gn : Nat) (a' c' : List Int), v55 = .int .i64 (i : Int) ∧ i + kq = m1 ∧ v8 = .pointer (some ⟨gn, 0, none⟩) ∧ v9 = .string (strOfNums a') ∧ v10 = .string (strOfNums c') ∧ Hid (Lp w.heap.size w gd gh (.slice A8 m1 c8) L i gn a' c' w'))
  case atStart => exact ⟨0, gn, layN [] [], layN [] [], rfl, by omega, rfl, by rw [HX.out], by rw [HX.out], HLP⟩
  case round =>
    obtain ⟨i, gn', a', c', rfl, hi, rfl, rfl, rfl, HLR⟩ := hrel
    by_cases hlt : i < m1
    · have hil : i < L.length := by rw [HLL.out]; exact hlt
      obtain ⟨s, hs⟩ : ∃ s, L[i]? = some s := ⟨_, List.getElem?_eq_getElem hil⟩
      have hsk := HSOK.out s (List.mem_of_getElem? hs)
      have hor := HLR.out.own
      rw [← HLL.out] at hor
      obtain ⟨gs, hA8, hrg⟩ := own_st (l := L) hor hs
      subst hA8
      obtain ⟨gm', d, N, Q, a, cc, hst, hk, hoa, hoc⟩ := HLR.out.ex
      have HST := Lib.hid hst
      have HKP := Lib.hid (show Kept 2000 (i + 1) d a cc from hk.mono (by omega))
      have HKK := Lib.hid hk
      have HOA := Lib.hid (And.intro hoa hoc)
      have HBL := Lib.hid HLR.out.bel
      have HOW := Lib.hid HLR.out.own
      have HRG := Lib.hid hrg
      have HSK := Lib.hid hsk
      have HI := Lib.hid (And.intro hi (And.intro hlt hm41))
      have HZR := Lib.hid zeroS
      have HSZ := Lib.hid (sizeS s)
      have HSA := Lib.hid (sizeSA s)
      have HZZ := Lib.hid (zS_size s)
      have HON := Lib.hid (all_one (stC_one s))
      obtain ⟨bb, hbb⟩ : ∃ bb, decide (s.kind % 8 < 5) = bb := ⟨_, rfl⟩
      have HCH := Lib.hid (fun W (hb : Below wr.heap.size wr W) => change_any (hst.below hb) s ((hsk.1.below HLR.out.bel).below hb) hsk.2)
      rw [hbb] at HCH
      have HBB := Lib.hid hbb
      obtain ⟨sa, hsa⟩ : ∃ x, strOfNums a' = x := ⟨_, rfl⟩
      obtain ⟨sc, hsc⟩ : ∃ x, strOfNums c' = x := ⟨_, rfl⟩
      have HSS := Lib.hid (And.intro hsa hsc)
      have hi0 : (0 : Int) ≤ (i : Int) := by omega
      have hi1 : (i : Int) < (m1 : Int) := by omega
      obtain ⟨i2, hi2⟩ : ∃ i2, i + 1 = i2 := ⟨_, rfl⟩
      have u1 : IntKind.i64.wrap ((i : Int) + 1) = (i2 : Int) := by rw [IntKind.wrap_i64]; omega
      have HI2 := Lib.hid hi2
      rw [hsa, hsc]
      rw [hi2] at HKP
      clear hi hlt hil hs hsk hor hrg hst hk hoa hoc hbb hsa hsc hi2 HLR hm41
      go_wp2_with (first
        | (with_reducible refine Go.wpList_load_mid rfl 39 _ rfl gs (i * 6) rfl (stC s) _ HRG.out Tryz.underlying39 rfl HSZ.out ?_)
        | (with_reducible refine Go.wpList_load_mid rfl 39 _ rfl gs (0 + i * 6) rfl (stC s) _ (by rw [Nat.zero_add]; exact HRG.out) Tryz.underlying39 rfl HSZ.out ?_)
        | (with_reducible refine wpList_fresh rfl rfl 39 rfl _ _ rfl (stC s).toArray zS (fun _ => rfl) (fun _ => rfl) HZR.out HSA.out HZZ.out HON.out ?_; intro gx wx hgx hrx hbx)
        | (with_reducible refine Go.wpList_load_mid rfl 39 _ rfl gx 0 rfl (stC s) _ (range_row hrx.out) Tryz.underlying39 rfl HSZ.out ?_)
        | fail)
      refine (HCH.out wx hbx.out).mono ?_
      rintro e w2 ⟨rfl, hc2, N2, Q2, hst2⟩
      have htx := HST.out.below hbx.out
      have HB2 := Lib.hid (show Below w.heap.size w w2 from (HBL.out.trans (hbx.out.mono HBL.out.size)).trans (hc2.below (Nat.le_trans HBL.out.size hbx.out.size) (fun k hk => hk.elim (fun e => e ▸ htx.bn) (fun e => e ▸ htx.bm))))
      have HO2 := Lib.hid (show w2.ownsRow w.heap.size 39 6 (.slice (some ⟨gs, 0, none⟩) m1 c8) L.length (flatS L) from by
        have := own_bel HOW.out hbx.out
        exact own_names htx this hc2)
      have hr2 : w2.heap[gx]? = some (.cells (stC s).toArray 39 (0, 0)) := (hc2.block gx (row_lt hrx.out) (row39_names htx hrx.out)).trans hrx.out
      have HR2 := Lib.hid hr2
      have HST2 := Lib.hid hst2
      clear hc2 hst2 htx hr2
      cases bb with
      | true =>
        go_wp2_with fail
        go_roundg (m1 - i2)
        case measure => have := HI.out; have := HI2.out; omega
        case rel => exact ⟨i2, gn', a', c', rfl, by have := HI.out; have := HI2.out; omega, rfl, by rw [HSS.out.1], by rw [HSS.out.2], Lib.hid (Lp.mk2 HST2.out HKP.out HOA.out.1 HOA.out.2 HB2.out HO2.out)⟩
      | false =>
        have hk8 : 5 ≤ s.kind % 8 := by have := of_decide_eq_false HBB.out; omega
        obtain ⟨r, hr⟩ : ∃ r, s.kind % 8 = r := ⟨_, rfl⟩
        have u2 : Int.tmod (s.kind : Int) 8 = (r : Int) := by rw [Int.tmod_eq_emod_of_nonneg (by omega)]; omega
        have hr7 : r = 5 ∨ r = 6 ∨ r = 7 := by omega
        have c0 : w2.cell? ⟨gx, 0, none⟩ = some (.int .u8 (s.kind : Int)) := row_at HR2.out rfl
        have c4' : w2.cell? ⟨gx, 4, none⟩ = some (.int .i64 s.n) := row_at HR2.out rfl
        have c5' : w2.cell? ⟨gx, 5, none⟩ = some (.slice s.fa s.fn s.fc) := row_at HR2.out rfl
        clear hk8 hr
        rcases hr7 with rfl | rfl | rfl
        · have HLY2 := Lib.hid (lay_t HST2.out)
          go_wp2_with fail
          refine HLY2.out.mono ?_
          rintro e w3 ⟨A3, c3, rfl, hcc3, ho3, hb3⟩
          obtain ⟨b, hb⟩ : ∃ b, layN N2 Q2 = b := ⟨_, rfl⟩
          have HBY := Lib.hid (show Bytes b by rw [← hb]; exact layN_bytes _ _)
          have HOF := Lib.hid (show OfT (some b) b by rw [← hb]; exact OfT.of HST2.out.val HST2.out.len HST2.out.snv)
          rw [hb] at hcc3 ho3 ⊢
          obtain ⟨A', c', e, _, hI3, _⟩ := ho3.ints
          injection e with eA _ ec
          subst eA; subst ec
          obtain ⟨n3, hn3⟩ : ∃ k, b.length = k := ⟨_, rfl⟩
          obtain ⟨X3, hX3⟩ : ∃ x, strOfNums b = x := ⟨_, rfl⟩
          have hcv3 : (convert 33 9 (.slice A3 n3 c3)).run Tryz.prog w3 = .ok (.string X3) w3 := by
            rw [← hX3]; exact run_conv_ints hI3 33 9 5 n3 c3 hn3 Tryz.underlying33 Tryz.underlying5 Tryz.underlying9
          rw [hn3] at hcc3 ho3 ⊢
          have HN3 := Lib.hid hn3
          have HX3 := Lib.hid hX3
          have HOB := Lib.hid ho3
          have hst3 := HST2.out.below hb3
          have HST3 := Lib.hid hst3
          have HB3 := Lib.hid (HB2.out.trans (hb3.mono HB2.out.size))
          have HO3 := Lib.hid (own_bel HO2.out hb3)
          have HDD := Lib.hid (DDead_any hst3.dk)
          have HRM := Lib.hid (show Calls Tryz.prog 13 #[.pointer (some ⟨gh, 0, none⟩)] w3 fun e w' => e = .returned (.int .i64 256000) ∧ w3 = w' from Room_any hst3.hm (by decide))
          obtain ⟨dd, hdd⟩ : ∃ x, d.dead = x := ⟨_, rfl⟩
          rw [hdd] at HDD
          have HDE := Lib.hid hdd
          have HLP3 := Lib.hid (show Lp w.heap.size w gd gh (.slice (some ⟨gs, 0, none⟩) m1 c8) L i2 gn' a' c' w3 from Lp.mk2 hst3 HKP.out HOA.out.1 HOA.out.2 HB3.out HO3.out)
          clear hb hcc3 ho3 hb3 hI3 hn3 hX3 hst3 hdd HLY2 HR2 c0 c4' c5'
          go_wp2_with fail
          refine HDD.out.mono ?_
          rintro e w3' ⟨rfl, rfl⟩
          cases dd with
          | true =>
            go_wp2_with fail
            go_roundg (m1 - i2)
            case measure => have := HI.out; have := HI2.out; omega
            case rel => exact ⟨i2, gn', a', c', rfl, by have := HI.out; have := HI2.out; omega, rfl, by rw [HSS.out.1], by rw [HSS.out.2], HLP3⟩
          | false =>
            go_wp2_with fail
            refine HRM.out.mono ?_
            rintro e w3' ⟨rfl, rfl⟩
            by_cases hrm : n3 ≤ 256000
            · have q3 : ¬ (256000 : Int) < (n3 : Int) := by omega
              have HSV := Lib.hid (save_t HST3.out HKK.out HDE.out (by decide) (by decide) (by have := HI.out; omega) HB3.out.size A3 n3 c3 b (HOB.out.base HB2.out.size) HN3.out HBY.out (by rw [HN3.out]; exact hrm))
              clear hrm
              go_wp2_with fail
              refine HSV.out.mono ?_
              rintro e w4 ⟨r4, d4, rfl, hk4, _, hst4, hc4⟩
              have HB4 := Lib.hid (show Below w.heap.size w w4 from HB3.out.trans (hc4.below HB3.out.size (fun k hk => hk.1)))
              have HO4 := Lib.hid (own_disk HO3.out hc4)
              have hi2 := HI2.out
              rw [hi2] at hk4
              rcases hk4 with ⟨rfl, _, hk4⟩ | ⟨rfl, hk4⟩
              · have HLP4 := Lib.hid (show Lp w.heap.size w gd gh (.slice (some ⟨gs, 0, none⟩) m1 c8) L i2 gn' b b w4 from Lp.mk2 hst4 hk4 HOF.out HOF.out HB4.out HO4.out)
                clear hk4 hst4 hc4 hi2
                go_wp2_with fail
                go_roundg (m1 - i2)
                case measure => have := HI.out; have := HI2.out; omega
                case rel => exact ⟨i2, gn', b, b, rfl, by have := HI.out; have := HI2.out; omega, rfl, by rw [HX3.out], by rw [HX3.out], HLP4⟩
              · have HLP4 := Lib.hid (show Lp w.heap.size w gd gh (.slice (some ⟨gs, 0, none⟩) m1 c8) L i2 gn' a' b w4 from Lp.mk2 hst4 hk4 HOA.out.1 HOF.out HB4.out HO4.out)
                clear hk4 hst4 hc4 hi2
                go_wp2_with fail
                go_roundg (m1 - i2)
                case measure => have := HI.out; have := HI2.out; omega
                case rel => exact ⟨i2, gn', a', b, rfl, by have := HI.out; have := HI2.out; omega, rfl, by rw [HSS.out.1], by rw [HX3.out], HLP4⟩
            · have q3 : (256000 : Int) < (n3 : Int) := by omega
              clear hrm
              go_wp2_with fail
              go_roundg (m1 - i2)
              case measure => have := HI.out; have := HI2.out; omega
              case rel => exact ⟨i2, gn', a', c', rfl, by have := HI.out; have := HI2.out; omega, rfl, by rw [HSS.out.1], by rw [HSS.out.2], HLP3⟩
        · go_wp2_with fail
          refine (cut_t HST2.out HKP.out HB2.out.size s.n HSK.out.1.n).mono ?_
          rintro e w3 ⟨rfl, hc3, d3, hk3, hst3⟩
          have HLP3 := Lib.hid (show Lp w.heap.size w gd gh (.slice (some ⟨gs, 0, none⟩) m1 c8) L i2 gn' a' c' w3 from Lp.mk2 hst3 hk3 HOA.out.1 HOA.out.2 (HB2.out.trans (hc3.below HB2.out.size (fun k hk => hk.1))) (own_disk HO2.out hc3))
          clear hc3 hk3 hst3 c0 c4' c5'
          go_wp2_with fail
          go_roundg (m1 - i2)
          case measure => have := HI.out; have := HI2.out; omega
          case rel => exact ⟨i2, gn', a', c', rfl, by have := HI.out; have := HI2.out; omega, rfl, by rw [HSS.out.1], by rw [HSS.out.2], HLP3⟩
        · obtain ⟨fs, hfs, hfi⟩ := HSK.out.1.f
          have HCR := Lib.hid (crash_t HST2.out HKP.out (by decide) HB2.out.size s.fa s.fn s.fc fs hfs HSK.out.1.g (hfi.below HB2.out) (fun ad e h0 => hfi.lt ad e (by omega)))
          clear hfs hfi
          go_wp2_with fail
          refine HCR.out.mono ?_
          rintro e w3 ⟨rfl, hc3, t, d3, ht, hk3, hdd, hst3⟩
          obtain ⟨b, hob, hbb⟩ : ∃ b, OfT t b ∧ (b = a' ∨ b = c') := by
            rcases ht with rfl | rfl
            · exact ⟨a', HOA.out.1, .inl rfl⟩
            · exact ⟨c', HOA.out.2, .inr rfl⟩
          have HOBB := Lib.hid hob
          have HK3 := Lib.hid hk3
          have HST3 := Lib.hid hst3
          have HB3 := Lib.hid (show Below w.heap.size w w3 from HB2.out.trans (hc3.below HB2.out.size (fun k hk => hk.1)))
          have HO3 := Lib.hid (own_disk HO2.out hc3)
          have HLD := Lib.hid (load_t hst3 hk3 hdd (by decide) (by decide))
          obtain ⟨sb, hsb⟩ : ∃ x, strOfNums b = x := ⟨_, rfl⟩
          have HSB := Lib.hid hsb
          obtain ⟨q1, hq1⟩ : ∃ q, (sb.toList == sa.toList) = q := ⟨_, rfl⟩
          obtain ⟨q2, hq2⟩ : ∃ q, (sb.toList == sc.toList) = q := ⟨_, rfl⟩
          have HQQ := Lib.hid (show q1 = true ∨ q2 = true by
            rcases hbb with rfl | rfl
            · left; rw [← hq1, ← hsb, ← HSS.out.1]; exact beq_self_eq_true _
            · right; rw [← hq2, ← hsb, ← HSS.out.2]; exact beq_self_eq_true _)
          clear hc3 ht hk3 hdd hst3 hob hbb hsb HCR HR2 c0 c4' c5'
          go_wp2_with fail
          refine HLD.out.mono ?_
          rintro e w4 ⟨hb4, h4⟩
          have HB34 := Lib.hid hb4
          have HB4 := Lib.hid (HB3.out.trans (hb4.mono HB3.out.size))
          clear hb4
          rcases h4 with ⟨htn, rfl⟩ | ⟨b', A4, n4, cc4, g4, htn, hn4, hg4, rfl, hr4⟩
          · have HT := Lib.hid htn
            clear htn
            go_wp2_with fail
            refine (NNew_any w4).mono ?_
            rintro e w5 ⟨gn5, gm5, rfl, hn5, hq5, h15, h25, _, hb5⟩
            have hst5 := (HST3.out.below HB34.out).turn hb5 HB4.out.size hn5 hq5 h15 h25 (Val.nil _) (by simp) SnV.nil
            have HSTE := Lib.hid hst5
            have HBE := Lib.hid (HB4.out.trans (hb5.mono HB4.out.size))
            have HOE := Lib.hid (own_bel (own_bel HO3.out HB34.out) hb5)
            have HLY9 := Lib.hid (lay_t hst5)
            clear hn5 hq5 h15 h25 hb5 hst5
            go_wp2_with fail
            refine HLY9.out.mono ?_
            rintro e w9 ⟨A9, c9, rfl, hcc9, ho9, hb9⟩
            have hlay : layN [] [] = b := (HOBB.out.non HT.out).symm
            rw [hlay] at hcc9 ho9 ⊢
            obtain ⟨A', c', e, _, hI9, _⟩ := ho9.ints
            injection e with eA _ ec
            subst eA; subst ec
            obtain ⟨n9, hn9⟩ : ∃ k, b.length = k := ⟨_, rfl⟩
            have hcv9 : (convert 33 9 (.slice A9 n9 c9)).run Tryz.prog w9 = .ok (.string sb) w9 := by
              rw [← HSB.out]; exact run_conv_ints hI9 33 9 5 n9 c9 hn9 Tryz.underlying33 Tryz.underlying5 Tryz.underlying9
            rw [hn9]
            have HLP9 := Lib.hid (show Lp w.heap.size w gd gh (.slice (some ⟨gs, 0, none⟩) m1 c8) L i2 gn5 b b w9 from Lp.mk2 (HSTE.out.below hb9) HK3.out HOBB.out HOBB.out (HBE.out.trans (hb9.mono HBE.out.size)) (own_bel HOE.out hb9))
            clear hlay hcc9 ho9 hb9 hI9 hn9
            cases q1 with
            | true =>
              go_wp2_with fail
              go_roundg (m1 - i2)
              case measure => have := HI.out; have := HI2.out; omega
              case rel => exact ⟨i2, gn5, b, b, rfl, by have := HI.out; have := HI2.out; omega, rfl, by rw [HSB.out], by rw [HSB.out], HLP9⟩
            | false =>
              cases q2 with
              | true =>
                go_wp2_with fail
                go_roundg (m1 - i2)
                case measure => have := HI.out; have := HI2.out; omega
                case rel => exact ⟨i2, gn5, b, b, rfl, by have := HI.out; have := HI2.out; omega, rfl, by rw [HSB.out], by rw [HSB.out], HLP9⟩
              | false => exact absurd HQQ.out (by simp)
          · have hbe := HOBB.out.som b' htn
            subst hbe
            have g0 : (0 : Int) < (g4 : Int) := by omega
            have HOB4 := Lib.hid (show OfT (some b') b' by rw [← htn]; exact HOBB.out)
            have HR4 := Lib.hid hr4
            have HN4 := Lib.hid hn4
            clear htn hg4 hr4 hn4
            go_wp2_with fail
            refine (NNew_any w4).mono ?_
            rintro e w5 ⟨gn5, gm5, rfl, _, _, _, _, _, hb5⟩
            have hst5 := (HST3.out.below HB34.out).below hb5
            have HST5 := Lib.hid hst5
            have HB5 := Lib.hid (HB4.out.trans (hb5.mono HB4.out.size))
            have HO5 := Lib.hid (own_bel (own_bel HO3.out HB34.out) hb5)
            have HTK := Lib.hid (take_t hst5.env A4 n4 cc4 b' HN4.out w3 (HR4.out.more (R := fun _ => False) (Nat.le_refl _) (Chg.belowAt hb5) (fun _ _ h => h)) HOB4.out)
            clear hb5 hst5
            go_wp2_with fail
            refine HTK.out.mono ?_
            rintro e w6 ⟨gn6, gm6, N6, Q6, rfl, hn6, hq6, hv6, hl6, hs6, hlay, h16, h26, hb6⟩
            have hst6 := HST5.out.turn hb6 HB5.out.size hn6 hq6 h16 h26 hv6 hl6 hs6
            have HSTE := Lib.hid hst6
            have HBE := Lib.hid (HB5.out.trans (hb6.mono HB5.out.size))
            have HOE := Lib.hid (own_bel HO5.out hb6)
            have HLY9 := Lib.hid (lay_t hst6)
            have HLAY := Lib.hid hlay
            clear hn6 hq6 hv6 hl6 hs6 h16 h26 hb6 hst6 hlay
            go_wp2_with fail
            refine HLY9.out.mono ?_
            rintro e w9 ⟨A9, c9, rfl, hcc9, ho9, hb9⟩
            have hlay := HLAY.out
            rw [hlay] at hcc9 ho9 ⊢
            obtain ⟨A', c', e, _, hI9, _⟩ := ho9.ints
            injection e with eA _ ec
            subst eA; subst ec
            obtain ⟨n9, hn9⟩ : ∃ k, b'.length = k := ⟨_, rfl⟩
            have hcv9 : (convert 33 9 (.slice A9 n9 c9)).run Tryz.prog w9 = .ok (.string sb) w9 := by
              rw [← HSB.out]; exact run_conv_ints hI9 33 9 5 n9 c9 hn9 Tryz.underlying33 Tryz.underlying5 Tryz.underlying9
            rw [hn9]
            have HLP9 := Lib.hid (show Lp w.heap.size w gd gh (.slice (some ⟨gs, 0, none⟩) m1 c8) L i2 gn6 b' b' w9 from Lp.mk2 (HSTE.out.below hb9) HK3.out HOBB.out HOBB.out (HBE.out.trans (hb9.mono HBE.out.size)) (own_bel HOE.out hb9))
            clear hlay hcc9 ho9 hb9 hI9 hn9
            cases q1 with
            | true =>
              go_wp2_with fail
              go_roundg (m1 - i2)
              case measure => have := HI.out; have := HI2.out; omega
              case rel => exact ⟨i2, gn6, b', b', rfl, by have := HI.out; have := HI2.out; omega, rfl, by rw [HSB.out], by rw [HSB.out], HLP9⟩
            | false =>
              cases q2 with
              | true =>
                go_wp2_with fail
                go_roundg (m1 - i2)
                case measure => have := HI.out; have := HI2.out; omega
                case rel => exact ⟨i2, gn6, b', b', rfl, by have := HI.out; have := HI2.out; omega, rfl, by rw [HSB.out], by rw [HSB.out], HLP9⟩
              | false => exact absurd HQQ.out (by simp)
    · obtain rfl : i = m1 := by omega
      have HBL := Lib.hid HLR.out.bel
      clear hlt hi HLR
      go_wp2_with fail
      go_ret
      exact ⟨rfl, HBL.out⟩
end Go.Proofs.YtcklcffepedklaaGreatDoor
