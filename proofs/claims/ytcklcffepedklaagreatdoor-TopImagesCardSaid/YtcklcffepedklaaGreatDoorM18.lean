/- Texts of the proof, one behind the other: names: Put. codec: Text. names: table. names: table, whole. -/
import Derived.Test.YtcklcffepedklaaGreatDoorM15
import Derived.Test.YtcklcffepedklaaGreatDoorM17
import Derived.Lib.AppendStr
import Derived.Test.YtcklcffepedklaaGreatDoorM16
import Derived.Test.YtcklcffepedklaaGreatDoorM04
namespace Go.Proofs.YtcklcffepedklaaGreatDoor
open Go.RowKit Go.Maps

/-- What a file has. -/
def fileV (l : List Xt) : BA := fV ++ strOfNums (layX l)
def FBx (v : BA) : Prop := ∃ l, rightX l = true ∧ v = fileV l
theorem FBx_ok : FOk FBx := by
  rintro v ⟨l, _, rfl⟩
  rw [fileV, app_data]; rfl
theorem str_size (l : List Int) : (strOfNums l).size = l.length := by simp [strOfNums, ByteArray.size]
def puE (N : List PR) (P : Option (List L8)) (k : BA) (rl : Bool) : Int :=
  if soE 191 P ≠ 0 then soE 191 P else if rl = false then 1 else if paE N (P.getD []) ≠ 0 then paE N (P.getD []) else
    if getP k N = some dV then 191 else if (getP k N).isSome = false ∧ 4096 ≤ N.length then 4 else 0
def puN (N : List PR) (P : Option (List L8)) (k : BA) (l : List Xt) : List PR := if puE N P k (rightX l) = 0 then insP k (fileV l) N else N
set_option maxRecDepth 20000 in
set_option maxHeartbeats 1600000 in
theorem NPut_any {w : World} {gn gm : Nat} {N : List PR} (hV : Val FBx N) (hL : N.length ≤ 4096) (h : Nm w gn gm N) (s : BA) (hE : Env w) (hs : s.size ≤ 1000000) (A : Option Addr) (n c : Nat) (l : List Xt) (hn : l.length = n) (hn1 : n ≤ 1000000000) (hA : XAt w A l) :
    Calls Tryz.prog 25 #[.pointer (some ⟨gn, 0, none⟩), .string s, .slice A n c] w fun e w' => e = .returned (.int .i64 (puE N (pNames s.data.toList) s (rightX l))) ∧ Nm w' gn gm (puN N (pNames s.data.toList) s l) ∧ Chg (fun x => x = gn) w w' := by
  have HSO := Lib.hid (sound_any (gn := gn) s 191 hE hs)
  have HNO := Lib.hid (fun W (hb : Below w.heap.size w W) hr => XLay_no A n c l W hn hn1 (hA.below hb) hr)
  have HYES := Lib.hid (fun W (hb : Below w.heap.size w W) hr => XLay_yes A n c l W hn (hA.below hb) hr)
  have HPA := Lib.hid (fun W (hb : Below w.heap.size w W) l hp hl => parent_any FBx_ok hV (h.below hb) s l (hE.below hb) hs hp hl)
  have HKI := Lib.hid (fun W (hb : Below w.heap.size w W) hk => kind_any FBx_ok hV (h.below hb) s hk)
  have HFU := Lib.hid (fun W (hb : Below w.heap.size w W) => full_any (h.below hb))
  have HROOT := Lib.hid (@pNames_root s)
  obtain ⟨p, t, h1, h2, h3, h4⟩ := getP_len hV.srt hL h
  have HPUT := Lib.hid (fun W (hb : Below w.heap.size w W) => TPut_any s (fileV l) t p W (h2.below hb) h4)
  have HTP := Lib.hid (show (t.put s (fileV l)).prs = insP s (fileV l) N by rw [prs_put s (fileV l) t (by rw [h3]; exact hV.srt), h3])
  have HNM := Lib.hid h
  have HR := Lib.hid h1
  have HLN := Lib.hid hL
  obtain ⟨P, hP⟩ : ∃ P, pNames s.data.toList = P := ⟨_, rfl⟩
  rw [hP] at HSO HROOT HPA ⊢
  obtain ⟨rl, hrl⟩ : ∃ b, rightX l = b := ⟨_, rfl⟩
  rw [hrl] at HNO HYES
  obtain ⟨E, hE'⟩ : ∃ E, puE N P s (rightX l) = E := ⟨_, rfl⟩
  obtain ⟨M, hM⟩ : ∃ M, puN N P s l = M := ⟨_, rfl⟩
  rw [hE', hM]
  rw [hrl] at hE'
  have hM2 : M = if E = 0 then insP s (fileV l) N else N := by rw [← hM, puN, hrl, hE']
  have HEM := Lib.hid (And.intro hE' hM2)
  have HLX := Lib.hid (fun h => right_one (l := l) h)
  have HRL := Lib.hid hrl
  clear h1 h2 h3 h4 h hP hE' hM hM2 hV hE hs hn hn1 hA hL hrl
  have fin : ∀ (W : World) (cc : Int), Below w.heap.size w W → cc ≠ 0 → E = cc → E = E ∧ Nm W gn gm M ∧ Chg (fun x => x = gn) w W := fun W cc hb hc hEc => by
    have hm := HEM.out.2
    rw [if_neg (by rw [hEc]; exact hc)] at hm
    rw [hm]
    exact ⟨rfl, HNM.out.below hb, Chg.belowAt hb⟩
  have HFIN := Lib.hid fin
  clear fin
  go_enter Tryz.func25, Tryz.ntmps25
  go_wp2_with fail
  refine HSO.out.mono ?_
  rintro e w1 ⟨rfl, hb1⟩
  have HB1 := Lib.hid hb1
  obtain ⟨so, hso⟩ : ∃ so, soE 191 P = so := ⟨_, rfl⟩
  rw [hso]
  by_cases hso0 : so = 0
  rotate_left
  · have HSO0 := Lib.hid (And.intro hso hso0)
    clear hso hb1
    go_wp2_with fail
    go_ret
    have h5 : E = so := by rw [← HEM.out.1, puE, if_pos (by rw [HSO0.out.1]; exact HSO0.out.2), HSO0.out.1]
    exact ⟨by rw [h5]; rfl, (HFIN.out w1 so HB1.out HSO0.out.2 h5).2⟩
  subst hso0
  obtain ⟨pl, hPl, hpl⟩ := soE_zero (by decide) hso
  have HPL := Lib.hid (And.intro hPl (And.intro hpl hso))
  have hskey : s ≠ ⟨#[47]⟩ := fun e => hpl (by have := HROOT.out.2 e; rw [hPl] at this; injection this)
  have HSK := Lib.hid hskey
  have e1 : ∀ E', (if rl = false then 1 else if paE N (P.getD []) ≠ 0 then paE N (P.getD []) else if getP s N = some dV then 191 else if (getP s N).isSome = false ∧ 4096 ≤ N.length then (4 : Int) else 0) = E' → E = E' := fun E' h => by
    rw [← HEM.out.1, puE, if_neg (by rw [hso]; simp)]; exact h
  have HE1 := Lib.hid e1
  clear hPl hpl hso hskey hb1 e1
  cases rl with
  | false =>
    go_wp2_with fail
    refine (HNO.out w1 HB1.out trivial).mono ?_
    rintro e w2 ⟨rfl, hb2⟩
    have HB2 := Lib.hid (HB1.out.trans (hb2.mono HB1.out.size))
    clear hb2
    go_wp2_with fail
    go_ret
    have h5 : E = 1 := HE1.out 1 (by rw [if_pos (by trivial)])
    exact ⟨by rw [h5]; rfl, (HFIN.out w2 1 HB2.out (by decide) h5).2⟩
  | true =>
  go_wp2_with fail
  refine (HYES.out w1 HB1.out trivial).mono ?_
  rintro e w2 ⟨vb, rfl, hob, hb2⟩
  have HB2 := Lib.hid (HB1.out.trans (hb2.mono HB1.out.size))
  obtain ⟨Ab, cb, rfl, hcb, hIb, hAb⟩ := hob.ints
  have hlx := layX_length l
  have hln := (HLX.out HRL.out).1
  obtain ⟨bl', hbl⟩ : ∃ k, (layX l).length = k := ⟨_, rfl⟩
  rw [hbl] at hcb
  rw [hbl]
  have HBL := Lib.hid hbl
  have HIB := Lib.hid hIb
  have HAB := Lib.hid (fun ad e => (hAb ad e).1)
  have hbln : bl' ≤ 655364 := by rw [← hbl, hlx]; omega
  clear hob hb2 hIb hAb hlx hln hbl
  go_wp2_with fail
  refine (HPA.out w2 HB2.out pl HPL.out.1 HPL.out.2.1).mono ?_
  rintro e w3 ⟨rfl, hb3⟩
  have HB3 := Lib.hid (HB2.out.trans (hb3.mono HB2.out.size))
  have HB23 := Lib.hid hb3
  obtain ⟨pa, hpa⟩ : ∃ pa, paE N pl = pa := ⟨_, rfl⟩
  rw [hpa]
  have hpp : paE N (P.getD []) = pa := by rw [HPL.out.1]; exact hpa
  have e2 := HE1.out
  rw [if_neg (by simp), hpp] at e2
  have HE2 := Lib.hid e2
  clear hb3 hpa hpp e2
  by_cases hp0 : pa = 0
  rotate_left
  · have HP0 := Lib.hid hp0
    go_wp2_with fail
    go_ret
    have h5 : E = pa := HE2.out pa (by rw [if_pos HP0.out])
    exact ⟨by rw [h5]; rfl, (HFIN.out w3 pa HB3.out HP0.out h5).2⟩
  subst hp0
  have e3 := HE2.out
  rw [if_neg (by simp)] at e3
  have HE3 := Lib.hid e3
  clear e3
  go_wp2_with fail
  refine (HKI.out w3 HB3.out HSK.out).mono ?_
  rintro e w4 ⟨rfl, rfl⟩
  have hkd := kd_cases (getP s N)
  obtain ⟨y, hy⟩ : ∃ y, kd (getP s N) = y := ⟨_, rfl⟩
  rw [hy] at hkd ⊢
  clear hy
  obtain ⟨X, hX⟩ : ∃ X, strOfNums (layX l) = X := ⟨_, rfl⟩
  have hcat : ¬ 9223372036854775807 < 1 + X.size := by rw [← hX, str_size, HBL.out]; omega
  have HFV := Lib.hid (show (⟨#[102]⟩ : BA) ++ X = fileV l by rw [← hX]; rfl)
  have HCV := Lib.hid (fun W (hc : Chg (fun x => x = gn) w3 W) => show (convert 33 9 (.slice Ab bl' cb)).run Tryz.prog W = .ok (.string X) W by
    rw [← hX]
    exact run_conv_ints ((HIB.out.below HB23.out).chg hc (fun ad e h0 hn => by
      have h1 := HAB.out ad e
      have h2 := row_lt HR.out
      have h3 := HB1.out.size
      rw [hn] at h1
      omega)) _ _ _ _ _ HBL.out Tryz.underlying33 Tryz.underlying5 Tryz.underlying9)
  have hr3 := (HB3.out.block gn (row_lt HR.out)).trans HR.out
  have HC0 := Lib.hid (show w3.cell? ⟨gn, 0, none⟩ = some (.pointer p) from cell_row' hr3)
  have HLG := Lib.hid (row_lt hr3)
  clear hX hr3
  rcases hkd with ⟨hq, rfl⟩ | ⟨hq, rfl⟩ | ⟨v, hq, hv, rfl⟩
  · have HQ := Lib.hid hq
    clear hq
    go_wp2_with fail
    refine (HFU.out w3 HB3.out).mono ?_
    rintro e w4 ⟨rfl, rfl⟩
    have hq := HQ.out
    by_cases hf : 4096 ≤ N.length
    · rw [decide_eq_true hf]
      have h5 : E = 4 := HE3.out 4 (by rw [if_neg (by rw [hq]; simp), if_pos ⟨by rw [hq]; rfl, hf⟩])
      have HH := Lib.hid h5
      clear h5 hq hf
      go_wp2_with fail
      go_ret
      exact ⟨by rw [HH.out]; rfl, (HFIN.out w3 4 HB3.out (by decide) HH.out).2⟩
    rw [decide_eq_false hf]
    have h5 : E = 0 := HE3.out 0 (by rw [if_neg (by rw [hq]; simp), if_neg (fun h => hf h.2)])
    have hm := HEM.out.2
    rw [if_pos h5] at hm
    have HH := Lib.hid (And.intro h5 hm)
    clear h5 hq hf hm
    go_upto_region 15 with (fail)
    --[15
    refine wp_region_held_drew (S := fun w' => Chg (fun x => x = gn) w3 w') (by kernel_rfl) (((Chg.refl _ _).drewN 1)) (fun hHeld => ?_)
    refine held_take 0 (some 45) (v := ?_) rfl rfl (by kernel_rfl) (by kernel_rfl) (by kernel_rfl) (fun _ _ _ h => h) (Or.inl ⟨by rfl, ?_⟩) hHeld ?_
    rotate_left
    · (intro w' hSw; clear hSw; go_simp; try with_reducible rfl)
    try simp only [Act.put, List.setIfInBounds_toArray, List.set_cons_zero, List.set_cons_succ]
    refine held_take 1 (some 46) (v := ?_) rfl rfl (by kernel_rfl) (by kernel_rfl) (by kernel_rfl) (fun _ _ _ h => h) (Or.inl ⟨by rfl, ?_⟩) hHeld ?_
    rotate_left
    · (intro w' hSw; clear hSw; go_simp; try with_reducible rfl)
    try simp only [Act.put, List.setIfInBounds_toArray, List.set_cons_zero, List.set_cons_succ]
    refine held_take 2 (some 47) (v := ?_) rfl rfl (by kernel_rfl) (by kernel_rfl) (by kernel_rfl) (fun _ _ _ h => h) (Or.inl ⟨by rfl, ?_⟩) hHeld ?_
    rotate_left
    · (intro w' hSw; clear hSw; go_simp; try with_reducible rfl)
    try simp only [Act.put, List.setIfInBounds_toArray, List.set_cons_zero, List.set_cons_succ]
    refine held_take 3 (some 48) (v := ?_) rfl rfl (by kernel_rfl) (by kernel_rfl) (by kernel_rfl) (fun _ _ _ h => h) (Or.inl ⟨by rfl, ?_⟩) hHeld ?_
    rotate_left
    · (intro w' hSw; clear hSw; go_simp; try with_reducible rfl)
    try simp only [Act.put, List.setIfInBounds_toArray, List.set_cons_zero, List.set_cons_succ]
    refine held_take 5 (some 50) (v := ?_) rfl rfl (by kernel_rfl) (by kernel_rfl) (by kernel_rfl) (fun _ _ _ h => h) (Or.inl ⟨by rfl, ?_⟩) hHeld ?_
    rotate_left
    · (intro w' hSw; clear hSw; go_simp; try with_reducible rfl)
    try simp only [Act.put, List.setIfInBounds_toArray, List.set_cons_zero, List.set_cons_succ]
    refine held_take 6 (some 51) (v := ?_) rfl rfl (by kernel_rfl) (by kernel_rfl) (by kernel_rfl) (fun _ _ _ h => h) (Or.inl ⟨by rfl, ?_⟩) hHeld ?_
    rotate_left
    · (intro w' hSw; clear hSw; go_simp; try with_reducible rfl)
    try simp only [Act.put, List.setIfInBounds_toArray, List.set_cons_zero, List.set_cons_succ]
    refine held_take 7 (some 52) (v := ?_) rfl rfl (by kernel_rfl) (by kernel_rfl) (by kernel_rfl) (fun _ _ _ h => h) (Or.inl ⟨by rfl, ?_⟩) hHeld ?_
    rotate_left
    · (intro w' hSw; have pf := HCV.out _ hSw; clear hSw; go_simp; try with_reducible rfl)
    try simp only [Act.put, List.setIfInBounds_toArray, List.set_cons_zero, List.set_cons_succ]
    refine held_take 8 (some 53) (v := ?_) rfl rfl (by kernel_rfl) (by kernel_rfl) (by kernel_rfl) (fun _ _ _ h => h) (Or.inl ⟨by rfl, ?_⟩) hHeld ?_
    rotate_left
    · (intro w' hSw; clear hSw; go_simp; try with_reducible rfl)
    try simp only [Act.put, List.setIfInBounds_toArray, List.set_cons_zero, List.set_cons_succ]
    refine wpAnyH_ready (rs := [4]) (by kernel_rfl) (by simp) ?_
    refine AllReadyH.cons rfl (fun K hKK => ?_) AllReadyH.nil
    have c30 := HC0.out
    go_simp
    clear c30
    refine hKK.out _ _ hHeld (fun hHeld => ?_)
    clear hKK K
    try simp only [Act.put, List.setIfInBounds_toArray, List.set_cons_zero, List.set_cons_succ]
    refine wpAnyH_ready (rs := [9]) (by kernel_rfl) (by simp) ?_
    refine AllReadyH.cons rfl (fun K hKK => ?_) AllReadyH.nil
    go_simp
    rw [HFV.out]
    go_at_call 43
    refine (HPUT.out w3.drew HB3.out.drew).mono ?_
    rintro e w5 ⟨p', rfl, ht5, hb5⟩
    have hS5 : Chg (fun x => x = gn) w3 w5 := ((Chg.refl _ _).drewN 1).below0 hb5
    have HB5 := Lib.hid (show Below w.heap.size w w5 from HB3.out.drew.trans (hb5.mono HB3.out.size))
    have hr5 := (HB5.out.block gn (row_lt HR.out)).trans HR.out
    have c50 : w5.cell? ⟨gn, 0, none⟩ = some (.pointer p) := cell_row' hr5
    have f50 := free_row hr5 0
    have HT5 := Lib.hid (Nm.turn HR.out HB5.out ht5 HTP.out)
    clear ht5 hb5 hr5
    refine hKK.out _ _ hS5 (fun hHeld => ?_)
    clear hKK K
    try simp only [Act.put, List.setIfInBounds_toArray, List.set_cons_zero, List.set_cons_succ]
    refine held_take 10 (some 55) (v := ?_) rfl rfl (by kernel_rfl) (by kernel_rfl) (by kernel_rfl) (fun _ _ _ h => h) (Or.inl ⟨by rfl, ?_⟩) hHeld ?_
    rotate_left
    · (intro w' hSw; clear hSw; go_simp; try with_reducible rfl)
    try simp only [Act.put, List.setIfInBounds_toArray, List.set_cons_zero, List.set_cons_succ]
    refine held_take 11 (some 56) (v := ?_) rfl rfl (by kernel_rfl) (by kernel_rfl) (by kernel_rfl) (fun _ _ _ h => h) (Or.inl ⟨by rfl, ?_⟩) hHeld ?_
    rotate_left
    · (intro w' hSw; clear hSw; go_simp; try with_reducible rfl)
    try simp only [Act.put, List.setIfInBounds_toArray, List.set_cons_zero, List.set_cons_succ]
    refine wpAnyH_ready (rs := [12]) (by kernel_rfl) (by simp) ?_
    refine AllReadyH.cons rfl (fun K hKK => ?_) AllReadyH.nil
    go_simp
    refine hKK.out _ _ (hS5.trans (Chg.of_ (grown_setCell w5 gn 0 (.pointer p')) (fun k _ e => by injection e with e; exact e.symm))) (fun hHeld => ?_)
    clear hKK K
    try simp only [Act.put, List.setIfInBounds_toArray, List.set_cons_zero, List.set_cons_succ]
    refine wpAnyH_done (by kernel_rfl) ?_ _
    clear hHeld c50 f50
    go_simp
    go_wp2_with fail
    go_ret
    exact ⟨by rw [HH.out.1]; rfl, by rw [HH.out.2]; exact HT5.out.1, HT5.out.2⟩
    --]15
  · have h5 : E = 191 := HE3.out 191 (by rw [if_pos hq])
    have HH := Lib.hid h5
    clear h5 hq
    unfold dV
    go_wp2_with fail
    go_ret
    exact ⟨by rw [HH.out]; rfl, (HFIN.out w3 191 HB3.out (by decide) HH.out).2⟩
  · have h5 : E = 0 := HE3.out 0 (by rw [if_neg (by rw [hq]; intro e; injection e with e; exact hv e), if_neg (by rw [hq]; simp)])
    have hm := HEM.out.2
    rw [if_pos h5] at hm
    have HH := Lib.hid (And.intro h5 hm)
    clear h5 hq hv hm
    unfold fV
    go_upto_region 15 with (fail)
    --[16
    refine wp_region_held_drew (S := fun w' => Chg (fun x => x = gn) w3 w') (by kernel_rfl) (((Chg.refl _ _).drewN 1)) (fun hHeld => ?_)
    refine held_take 0 (some 45) (v := ?_) rfl rfl (by kernel_rfl) (by kernel_rfl) (by kernel_rfl) (fun _ _ _ h => h) (Or.inl ⟨by rfl, ?_⟩) hHeld ?_
    rotate_left
    · (intro w' hSw; clear hSw; go_simp; try with_reducible rfl)
    try simp only [Act.put, List.setIfInBounds_toArray, List.set_cons_zero, List.set_cons_succ]
    refine held_take 1 (some 46) (v := ?_) rfl rfl (by kernel_rfl) (by kernel_rfl) (by kernel_rfl) (fun _ _ _ h => h) (Or.inl ⟨by rfl, ?_⟩) hHeld ?_
    rotate_left
    · (intro w' hSw; clear hSw; go_simp; try with_reducible rfl)
    try simp only [Act.put, List.setIfInBounds_toArray, List.set_cons_zero, List.set_cons_succ]
    refine held_take 2 (some 47) (v := ?_) rfl rfl (by kernel_rfl) (by kernel_rfl) (by kernel_rfl) (fun _ _ _ h => h) (Or.inl ⟨by rfl, ?_⟩) hHeld ?_
    rotate_left
    · (intro w' hSw; clear hSw; go_simp; try with_reducible rfl)
    try simp only [Act.put, List.setIfInBounds_toArray, List.set_cons_zero, List.set_cons_succ]
    refine held_take 3 (some 48) (v := ?_) rfl rfl (by kernel_rfl) (by kernel_rfl) (by kernel_rfl) (fun _ _ _ h => h) (Or.inl ⟨by rfl, ?_⟩) hHeld ?_
    rotate_left
    · (intro w' hSw; clear hSw; go_simp; try with_reducible rfl)
    try simp only [Act.put, List.setIfInBounds_toArray, List.set_cons_zero, List.set_cons_succ]
    refine held_take 5 (some 50) (v := ?_) rfl rfl (by kernel_rfl) (by kernel_rfl) (by kernel_rfl) (fun _ _ _ h => h) (Or.inl ⟨by rfl, ?_⟩) hHeld ?_
    rotate_left
    · (intro w' hSw; clear hSw; go_simp; try with_reducible rfl)
    try simp only [Act.put, List.setIfInBounds_toArray, List.set_cons_zero, List.set_cons_succ]
    refine held_take 6 (some 51) (v := ?_) rfl rfl (by kernel_rfl) (by kernel_rfl) (by kernel_rfl) (fun _ _ _ h => h) (Or.inl ⟨by rfl, ?_⟩) hHeld ?_
    rotate_left
    · (intro w' hSw; clear hSw; go_simp; try with_reducible rfl)
    try simp only [Act.put, List.setIfInBounds_toArray, List.set_cons_zero, List.set_cons_succ]
    refine held_take 7 (some 52) (v := ?_) rfl rfl (by kernel_rfl) (by kernel_rfl) (by kernel_rfl) (fun _ _ _ h => h) (Or.inl ⟨by rfl, ?_⟩) hHeld ?_
    rotate_left
    · (intro w' hSw; have pf := HCV.out _ hSw; clear hSw; go_simp; try with_reducible rfl)
    try simp only [Act.put, List.setIfInBounds_toArray, List.set_cons_zero, List.set_cons_succ]
    refine held_take 8 (some 53) (v := ?_) rfl rfl (by kernel_rfl) (by kernel_rfl) (by kernel_rfl) (fun _ _ _ h => h) (Or.inl ⟨by rfl, ?_⟩) hHeld ?_
    rotate_left
    · (intro w' hSw; clear hSw; go_simp; try with_reducible rfl)
    try simp only [Act.put, List.setIfInBounds_toArray, List.set_cons_zero, List.set_cons_succ]
    refine wpAnyH_ready (rs := [4]) (by kernel_rfl) (by simp) ?_
    refine AllReadyH.cons rfl (fun K hKK => ?_) AllReadyH.nil
    have c30 := HC0.out
    go_simp
    clear c30
    refine hKK.out _ _ hHeld (fun hHeld => ?_)
    clear hKK K
    try simp only [Act.put, List.setIfInBounds_toArray, List.set_cons_zero, List.set_cons_succ]
    refine wpAnyH_ready (rs := [9]) (by kernel_rfl) (by simp) ?_
    refine AllReadyH.cons rfl (fun K hKK => ?_) AllReadyH.nil
    go_simp
    rw [HFV.out]
    go_at_call 43
    refine (HPUT.out w3.drew HB3.out.drew).mono ?_
    rintro e w5 ⟨p', rfl, ht5, hb5⟩
    have hS5 : Chg (fun x => x = gn) w3 w5 := ((Chg.refl _ _).drewN 1).below0 hb5
    have HB5 := Lib.hid (show Below w.heap.size w w5 from HB3.out.drew.trans (hb5.mono HB3.out.size))
    have hr5 := (HB5.out.block gn (row_lt HR.out)).trans HR.out
    have c50 : w5.cell? ⟨gn, 0, none⟩ = some (.pointer p) := cell_row' hr5
    have f50 := free_row hr5 0
    have HT5 := Lib.hid (Nm.turn HR.out HB5.out ht5 HTP.out)
    clear ht5 hb5 hr5
    refine hKK.out _ _ hS5 (fun hHeld => ?_)
    clear hKK K
    try simp only [Act.put, List.setIfInBounds_toArray, List.set_cons_zero, List.set_cons_succ]
    refine held_take 10 (some 55) (v := ?_) rfl rfl (by kernel_rfl) (by kernel_rfl) (by kernel_rfl) (fun _ _ _ h => h) (Or.inl ⟨by rfl, ?_⟩) hHeld ?_
    rotate_left
    · (intro w' hSw; clear hSw; go_simp; try with_reducible rfl)
    try simp only [Act.put, List.setIfInBounds_toArray, List.set_cons_zero, List.set_cons_succ]
    refine held_take 11 (some 56) (v := ?_) rfl rfl (by kernel_rfl) (by kernel_rfl) (by kernel_rfl) (fun _ _ _ h => h) (Or.inl ⟨by rfl, ?_⟩) hHeld ?_
    rotate_left
    · (intro w' hSw; clear hSw; go_simp; try with_reducible rfl)
    try simp only [Act.put, List.setIfInBounds_toArray, List.set_cons_zero, List.set_cons_succ]
    refine wpAnyH_ready (rs := [12]) (by kernel_rfl) (by simp) ?_
    refine AllReadyH.cons rfl (fun K hKK => ?_) AllReadyH.nil
    go_simp
    refine hKK.out _ _ (hS5.trans (Chg.of_ (grown_setCell w5 gn 0 (.pointer p')) (fun k _ e => by injection e with e; exact e.symm))) (fun hHeld => ?_)
    clear hKK K
    try simp only [Act.put, List.setIfInBounds_toArray, List.set_cons_zero, List.set_cons_succ]
    refine wpAnyH_done (by kernel_rfl) ?_ _
    clear hHeld c50 f50
    go_simp
    go_wp2_with fail
    go_ret
    exact ⟨by rw [HH.out.1]; rfl, by rw [HH.out.2]; exact HT5.out.1, HT5.out.2⟩
    --]16
end Go.Proofs.YtcklcffepedklaaGreatDoor

namespace Go.Proofs.YtcklcffepedklaaGreatDoor
open Go.RowKit

/-- A text's bytes. -/
def bI (s : ByteArray) : List Int := s.data.toList.map fun b => (b.toNat : Int)
theorem bI_length (s : ByteArray) : (bI s).length = s.size := by rw [bI, List.length_map]; rfl
theorem bI_bytes (s : ByteArray) : Bytes (bI s) := by
  unfold bI
  induction s.data.toList with
  | nil => exact fun i => by simp
  | cons b l ih =>
    intro i
    cases i with
    | zero => simp only [List.map_cons, List.getD_cons_zero]; have := b.toNat_lt; omega
    | succ i => simp only [List.map_cons, List.getD_cons_succ]; exact ih i
theorem strCells_bI (s : ByteArray) : Lib.strCells s = (bI s).map (Value.int .u8) := by
  rw [Lib.strCells, bI, List.map_map]; rfl
theorem str_bI (s : ByteArray) : strOfNums (bI s) = s := by
  apply Go.WideShapes.bytes_inj
  show ((bI s).map fun n => UInt8.ofNat n.toNat) = _
  rw [bI, List.map_map]
  have : ((fun n : Int => UInt8.ofNat n.toNat) ∘ fun b : UInt8 => (b.toNat : Int)) = id := by
    funext b; simp
  rw [this, List.map_id]
def textL (s : ByteArray) : List Int := beL s.size 4 ++ bI s
theorem textL_length (s : ByteArray) : (textL s).length = 4 + s.size := by rw [textL, List.length_append, beL_length, bI_length]
theorem textL_bytes (s : ByteArray) : Bytes (textL s) := (beL_bytes _ _).append (bI_bytes s)
set_option maxRecDepth 20000 in
theorem Text_any (A : Option Addr) (n c : Nat) (l : List Int) (s : ByteArray) (w : World) (hn : l.length = n) (hl : n ≤ 400000000000) (hI : Ints .u8 w A l) (hs : s.size ≤ 1000000000) :
    Calls Tryz.prog 24 #[.slice A n c, .string s] w (NewRow (l ++ textL s) w) := by
  obtain ⟨k, hk⟩ : ∃ k, s.size = k := ⟨_, rfl⟩
  have HP := Lib.hid (Put_any A n c l k 4 w hn (by omega) hI (by omega) (by decide) (by decide))
  have e1 : IntKind.u64.wrap (k : Int) = (k : Int) := by rw [IntKind.wrap_u64]; omega
  obtain ⟨i0, hi, hz0, hz1, hz2⟩ := info_parts Tryz.info5
  have HI := Lib.hid (And.intro hi (And.intro hz0 (And.intro hz1 hz2)))
  have hlen : (l ++ beL k 4).length = n + 4 := by rw [List.length_append, beL_length, hn]
  have HL := Lib.hid hlen
  have HK := Lib.hid hk
  clear hn hI hi hz0 hz1 hz2 hlen
  go_enter Tryz.func24, Tryz.ntmps24
  go_wp2_with fail
  refine HP.out.mono ?_
  rintro e w1 ⟨v, rfl, ho, hb⟩
  have HO := Lib.hid (show w1.ownsRow w.heap.size 5 1 v (n + 4) ((l ++ beL k 4).map (Value.int .u8)) from by rw [← HL.out]; exact ho)
  have HB := Lib.hid hb
  clear ho hb
  go_wp2_with (first | (at_builtin; refine Lib.wpList_append_own_string _ rfl _ _ _ _ rfl w.heap.size 5 i0 Tryz.underlying33 Tryz.underlying9 HI.out.1 HI.out.2.1 HI.out.2.2.1 HI.out.2.2.2 v (n + 4) ((l ++ beL k 4).map (Value.int .u8)) rfl HO.out s rfl (by unfold maxLen; omega) (by omega) HB.out.size ?_; intro v2 w2 hown hgrow hnil) | fail)
  go_ret
  refine ⟨v2, rfl, ?_, HB.out.grown hgrow HB.out.size (fun x hx => (HO.out.lt x hx).1)⟩
  have e2 : (l ++ textL s).length = n + 4 + s.size := by rw [textL, ← List.append_assoc, List.length_append, HK.out, HL.out, bI_length, HK.out]
  rw [OwnB, e2, textL, ← List.append_assoc, List.map_append, HK.out, ← strCells_bI]
  rw [HK.out] at hown
  exact hown
end Go.Proofs.YtcklcffepedklaaGreatDoor

namespace Go.Proofs.YtcklcffepedklaaGreatDoor
open Go.RowKit Go.Maps

theorem own_formN {w : World} {b : Nat} {e : TypeId} {s n : Nat} {v : Value} {xs : List Value} (h : w.ownsRow b e s v n xs) : ∃ A m c, v = .slice A m c := by
  obtain ⟨_, h2⟩ := h
  rcases h2 with ⟨h2, _⟩ | ⟨g, cap, cur, e, _⟩
  · exact ⟨none, 0, 0, h2⟩
  · exact ⟨_, _, _, e⟩
/-- The bytes of pairs. -/
def rowsT (N : List PR) : List Int := N.flatMap fun x => textL x.1 ++ textL x.2
theorem rowsT_snoc (N : List PR) (x : PR) : rowsT (N ++ [x]) = rowsT N ++ (textL x.1 ++ textL x.2) := by simp [rowsT]
def smallP (x : PR) : Prop := x.1.size ≤ 1617 ∧ x.2.size ≤ 655365
/-- The bytes so far, in a captured slice. -/
structure TbJ (wb : World) (hb : Nat) (b0 : List Int) (acc : List PR) (F : Nat → Prop) (W : World) : Prop where
  base : wb.heap.size ≤ hb
  ex : ∃ v, W.heap[hb]? = some (.cells #[v] 33 (0, 0)) ∧ OwnB W wb.heap.size v (b0 ++ rowsT acc) ∧ ∀ x, F x ↔ x = hb ∨ Value.ownBlock v = some x
  len : (b0 ++ rowsT acc).length ≤ 300000000000 + acc.length * 656990
set_option maxRecDepth 20000 in
set_option maxHeartbeats 1600000 in
theorem Tb1_any (wb : World) (hb : Nat) (b0 : List Int) (acc : List PR) (F : Nat → Prop) (W : World) (k val : BA) (hj : TbJ wb hb b0 acc F W) (hm : acc.length < 1000000) (hq : smallP (k, val)) :
    Calls Tryz.prog 48 #[.agg #[.string k, .string val], .pointer (some ⟨hb, 0, none⟩)] W fun e W' => e = .returned (.bool true) ∧ ∃ F', TbJ wb hb b0 (acc ++ [(k, val)]) F' W' ∧ Chg F W W' ∧ ∀ x, F' x → F x ∨ W.heap.size ≤ x := by
  obtain ⟨v, h1, h2, h3⟩ := hj.ex
  have hne : ¬ Value.ownBlock v = some hb := fun e => own_ne h2 e h1 (by decide)
  have hbl := (Below.refl W.heap.size W).alloc (Nat.le_refl _) (.cells #[.string k, .string val] 97)
  have hr1 := heap_alloc_last W (.cells #[.string k, .string val] 97)
  have hs1 := World.size_alloc W (.cells #[.string k, .string val] 97)
  have ho1 := own_chg (R := fun _ => False) h2 (Chg.belowAt hbl) (fun _ _ h => h)
  have hrow1 := (hbl.block hb (row_lt h1)).trans h1
  obtain ⟨W1, hW1⟩ : ∃ W1, W.alloc (.cells #[.string k, .string val] 97) = W1 := ⟨_, rfl⟩
  rw [hW1] at hbl hr1 hs1 ho1 hrow1
  obtain ⟨g2, hg2⟩ : ∃ g, W.heap.size = g := ⟨_, rfl⟩
  obtain ⟨l8, hl8⟩ : ∃ l, b0 ++ rowsT acc = l := ⟨_, rfl⟩
  rw [hl8] at ho1
  have hlen := hj.len
  rw [hl8] at hlen
  have hq1 : k.size ≤ 1617 := hq.1
  have hq2 : val.size ≤ 655365 := hq.2
  have HSZ := Lib.hid (show k.size ≤ 1617 ∧ val.size ≤ 655365 from ⟨hq1, hq2⟩)
  have HML := Lib.hid (show l8.length + (4 + k.size + (4 + val.size)) ≤ maxLen ∧ (l8.length + (4 + k.size + (4 + val.size))) * 1 ≤ 140737488355328 by unfold maxLen; omega)
  have hown : W1.ownsRow wb.heap.size 5 1 v l8.length (l8.map (Value.int .u8)) := ho1
  have HOW := Lib.hid hown
  have HRO := Lib.hid hrow1
  have HC0 := Lib.hid (show W1.cell? ⟨hb, 0, none⟩ = some v from cell_row' hrow1)
  have HLT := Lib.hid (row_lt hrow1)
  have HNE := Lib.hid hne
  have hlt2 := h2.lt
  have hhb := row_lt h1
  have HG2 := Lib.hid (show g2 < W1.heap.size ∧ ¬ (g2 = hb ∨ Value.ownBlock v = some g2) from ⟨by omega, fun e => by
    rcases e with e | e
    · omega
    · have := (hlt2 _ e).2; omega⟩)
  have HK0 := Lib.hid (show W1.cell? ⟨g2, 0, none⟩ = some (.string k) from by rw [← hg2]; exact cell_row' hr1)
  have HK1 := Lib.hid (show W1.cell? ⟨g2, 1, none⟩ = some (.string val) from by rw [← hg2]; exact cell_row' hr1)
  have HBASE := Lib.hid (show wb.heap.size ≤ W1.heap.size by have := hj.base; omega)
  have fin : ∀ (wz : World) (v9 : Value) (w9 : World), Chg (fun _ => False) W1 wz → w9.heap[hb]? = some (.cells #[v] 33 (0, 0)) → Chg (fun x => x = hb ∨ Value.ownBlock v = some x) W1 w9 → wz.grownBy w9 v.ownBlock → (v9.ownBlock = v.ownBlock ∨ v9.ownBlock = some wz.heap.size) →
      w9.ownsRow wb.heap.size 5 1 v9 (l8.length + (4 + k.size + (4 + val.size))) (l8.map (Value.int .u8) ++ (textL k ++ textL val).map (Value.int .u8)) →
      ∃ F', TbJ wb hb b0 (acc ++ [(k, val)]) F' (w9.setCell ⟨hb, 0, none⟩ v9) ∧ Chg F W (w9.setCell ⟨hb, 0, none⟩ v9) ∧ ∀ x, F' x → F x ∨ W.heap.size ≤ x := by
    intro wz v9 w9 hF hr9 hH9 hgrow hat hown9
    have hc8 := Chg.of_ (R := fun x => x = hb) (grown_setCell w9 hb 0 v9) (fun k _ e => by injection e with e; exact e.symm)
    have e1 : b0 ++ rowsT (acc ++ [(k, val)]) = l8 ++ (textL k ++ textL val) := by rw [rowsT_snoc, ← List.append_assoc, hl8]
    have e2 : (l8 ++ (textL k ++ textL val)).length = l8.length + (4 + k.size + (4 + val.size)) := by simp [textL_length]
    have hne9 : ¬ Value.ownBlock v9 = some hb := fun e => own_ne hown9 e hr9 (by decide)
    refine ⟨fun x => x = hb ∨ Value.ownBlock v9 = some x, ⟨hj.base, ⟨v9, ?_, ?_, fun x => Iff.rfl⟩, ?_⟩, ?_, ?_⟩
    · rw [setCell_row hr9]; rfl
    · rw [e1, OwnB, e2, List.map_append]
      exact own_chg hown9 hc8 (fun x hx e => hne9 (by rw [hx, e]))
    · rw [e1, e2, List.length_append, List.length_singleton]; omega
    · have h4 : Chg F W w9 := (Chg.belowAt hbl).trans2 hH9 (fun x _ e => (h3 x).2 e)
      exact h4.trans2 hc8 (fun x _ e => (h3 x).2 (.inl e))
    · rintro x (h | h)
      · exact .inl ((h3 x).2 (.inl h))
      · rcases hat with h' | h'
        · rw [h'] at h; exact .inl ((h3 x).2 (.inr h))
        · rw [h'] at h; injection h with h
          have := hF.size
          right; omega
  clear h1 h2 h3 hne hbl hr1 hs1 ho1 hrow1 hl8 hlen hq1 hq2 hown hlt2 hhb hj hm hq
  go_enter Tryz.func48, Tryz.ntmps48
  go_upto_region 1 with (fail)
  try rw [hW1]
  try rw [hg2]
  have HFIN := Lib.hid fin
  clear hW1 hg2 fin
  have fin := HFIN.out
  --[1
  refine wp_region_held_drew (S := fun w' => Chg (fun x => x = hb ∨ Value.ownBlock v = some x) W1 w') (by kernel_rfl) (((Chg.refl _ _).drewN 1)) (fun hHeld => ?_)
  refine held_take 1 (some 5) (v := ?_) rfl rfl (by kernel_rfl) (by kernel_rfl) (by kernel_rfl) (fun _ _ _ h => h) (Or.inl ⟨by rfl, ?_⟩) hHeld ?_
  rotate_left
  · (intro w' hSw; clear hSw; go_simp; try with_reducible rfl)
  try simp only [Act.put, List.setIfInBounds_toArray, List.set_cons_zero, List.set_cons_succ]
  refine held_take 2 (some 6) (v := ?_) rfl rfl (by kernel_rfl) (by kernel_rfl) (by kernel_rfl) (fun _ _ _ h => h) (Or.inl ⟨by rfl, ?_⟩) hHeld ?_
  rotate_left
  · (intro w' hSw; have pf := (hSw.cell (p := ⟨g2, 0, none⟩) HG2.out.1 HG2.out.2).trans HK0.out; clear hSw; go_simp; try with_reducible rfl)
  try simp only [Act.put, List.setIfInBounds_toArray, List.set_cons_zero, List.set_cons_succ]
  refine held_take 4 (some 8) (v := ?_) rfl rfl (by kernel_rfl) (by kernel_rfl) (by kernel_rfl) (fun _ _ _ h => h) (Or.inl ⟨by rfl, ?_⟩) hHeld ?_
  rotate_left
  · (intro w' hSw; clear hSw; go_simp; try with_reducible rfl)
  try simp only [Act.put, List.setIfInBounds_toArray, List.set_cons_zero, List.set_cons_succ]
  refine held_take 5 (some 9) (v := ?_) rfl rfl (by kernel_rfl) (by kernel_rfl) (by kernel_rfl) (fun _ _ _ h => h) (Or.inl ⟨by rfl, ?_⟩) hHeld ?_
  rotate_left
  · (intro w' hSw; have pf := (hSw.cell (p := ⟨g2, 1, none⟩) HG2.out.1 HG2.out.2).trans HK1.out; clear hSw; go_simp; try with_reducible rfl)
  try simp only [Act.put, List.setIfInBounds_toArray, List.set_cons_zero, List.set_cons_succ]
  refine wpAnyH_ready (rs := [0, 3]) (by kernel_rfl) (by simp) ?_
  refine AllReadyH.cons rfl (fun K hKK => ?_) (AllReadyH.cons rfl (fun K hKK => ?_) AllReadyH.nil)
  · go_simp
    try simp only [HC0.out]
    go_simp
    refine hKK.out _ _ hHeld (fun hHeld => ?_)
    clear hKK K
    try simp only [Act.put, List.setIfInBounds_toArray, List.set_cons_zero, List.set_cons_succ]
    refine wpAnyH_ready (rs := [3]) (by kernel_rfl) (by simp) ?_
    refine AllReadyH.cons rfl (fun K hKK => ?_) AllReadyH.nil
    go_simp
    go_at_call 24
    refine (Text_any none 0 0 [] k W1.drew rfl (by omega) (Ints.nil _ _ _) (by have := HSZ.out.1; omega)).mono ?_
    rintro e wa ⟨vwa, rfl, howa, hbwa⟩
    rw [List.nil_append] at howa
    obtain ⟨Aa, ca, rfl, hca', hIa, hAa⟩ := howa.ints
    rw [textL_length] at hca' ⊢
    have HT2 := Lib.hid (fun h0 => Text_any Aa (4 + k.size) ca (textL k) val wa (textL_length _) h0 hIa (by have := HSZ.out.2; omega))
    have hFwa := (((Chg.refl (fun _ => False) W1).drewN 1)).below0 hbwa
    have hHwa : Chg (fun x => x = hb ∨ Value.ownBlock v = some x) W1 wa := hFwa.mono (fun _ h => h.elim)
    have hcwa := (hFwa.cell (p := ⟨hb, 0, none⟩) HLT.out (fun h => h)).trans HC0.out
    have hOwa := own_chg HOW.out hFwa (fun _ _ h => h)
    refine hKK.out _ _ hHwa (fun hHeld => ?_)
    clear hKK K
    try simp only [Act.put, List.setIfInBounds_toArray, List.set_cons_zero, List.set_cons_succ]
    refine wpAnyH_ready (rs := [6]) (by kernel_rfl) (by simp) ?_
    refine AllReadyH.cons rfl (fun K hKK => ?_) AllReadyH.nil
    go_simp
    go_at_call 24
    refine (HT2.out (by have := HSZ.out.1; omega)).mono ?_
    rintro e wc ⟨vwc, rfl, howc, hbwc⟩
    obtain ⟨Ac, cc, rfl, hcc', hIc, hAc⟩ := howc.ints
    have hlc : (textL k ++ textL val).length = 4 + k.size + (4 + val.size) := by simp [textL_length]
    have hAN := howc.nilA
    rw [hlc] at hcc' hAN ⊢
    have HAN := Lib.hid hAN
    have HIC := Lib.hid hIc
    have hFwc := (hFwa).below0 hbwc
    have hHwc : Chg (fun x => x = hb ∨ Value.ownBlock v = some x) W1 wc := hFwc.mono (fun _ h => h.elim)
    have hcwc := (hFwc.cell (p := ⟨hb, 0, none⟩) HLT.out (fun h => h)).trans HC0.out
    have hOwc := own_chg HOW.out hFwc (fun _ _ h => h)
    refine hKK.out _ _ hHwc (fun hHeld => ?_)
    clear hKK K
    try simp only [Act.put, List.setIfInBounds_toArray, List.set_cons_zero, List.set_cons_succ]
    refine wpAnyH_ready (rs := [7]) (by kernel_rfl) (by simp) ?_
    refine AllReadyH.cons rfl (fun K hKK => ?_) AllReadyH.nil
    have hsz := hFwc.size
    refine step_app EB rfl (.tmp 4) (.tmp 10) rfl wb.heap.size v l8.length (l8.map (Value.int .u8)) (by go_simp) hOwc Ac (4 + k.size + (4 + val.size)) cc ((textL k ++ textL val).map (Value.int .u8)) (by go_simp) HAN.out (by simp [textL_length]) HIC.out.news (ints_one _ _) HML.out.1 HML.out.2 (Nat.le_trans HBASE.out hsz) ?_
    intro v9 w9 hown hgrow hat
    obtain ⟨A9, n9, c9, rfl⟩ := own_formN hown
    have hH9 : Chg (fun x => x = hb ∨ Value.ownBlock v = some x) W1 w9 := (hHeld).trans2 (Chg.of hgrow) (fun x _ e => .inr e.symm)
    have hr9 := ((Chg.of hgrow).block hb (Nat.lt_of_lt_of_le HLT.out hsz) (fun e => HNE.out e.symm)).trans ((hFwc.block hb HLT.out (fun h => h)).trans HRO.out)
    have hc9 : w9.cell? ⟨hb, 0, none⟩ = some v := cell_row' hr9
    have hf9 := free_row hr9 0
    have HR9 := Lib.hid hr9
    have HFW := Lib.hid hFwc
    have HH9 := Lib.hid hH9
    have HGR := Lib.hid hgrow
    have HAT := Lib.hid hat
    have HOWN := Lib.hid hown
    clear hr9 hgrow hat hown hsz
    refine hKK.out _ _ hH9 (fun hHeld => ?_)
    clear hKK K
    try simp only [Act.put, List.setIfInBounds_toArray, List.set_cons_zero, List.set_cons_succ]
    refine wpAnyH_ready (rs := [8]) (by kernel_rfl) (by simp) ?_
    refine AllReadyH.cons rfl (fun K hKK => ?_) AllReadyH.nil
    go_simp
    try simp only [hc9, hf9]
    go_simp
    refine hKK.out _ _ (hH9.trans (Chg.of_ (grown_setCell w9 hb 0 (.slice A9 n9 c9)) (fun k _ e => by injection e with e; exact .inl e.symm))) (fun hHeld => ?_)
    clear hKK K
    try simp only [Act.put, List.setIfInBounds_toArray, List.set_cons_zero, List.set_cons_succ]
    refine wpAnyH_done (by kernel_rfl) ?_ _
    clear hHeld hc9 hf9
    have hfin := fin _ (.slice A9 n9 c9) w9 HFW.out HR9.out HH9.out HGR.out HAT.out HOWN.out
    obtain ⟨w8, hw8⟩ : ∃ w8, w9.setCell ⟨hb, 0, none⟩ (.slice A9 n9 c9) = w8 := ⟨_, rfl⟩
    rw [hw8] at hfin ⊢
    have HFN := Lib.hid hfin
    clear hfin hw8
    go_simp
    go_wp2_with fail
    go_ret
    exact ⟨rfl, HFN.out⟩
  · go_simp
    go_at_call 24
    refine (Text_any none 0 0 [] k W1.drew rfl (by omega) (Ints.nil _ _ _) (by have := HSZ.out.1; omega)).mono ?_
    rintro e wa ⟨vwa, rfl, howa, hbwa⟩
    rw [List.nil_append] at howa
    obtain ⟨Aa, ca, rfl, hca', hIa, hAa⟩ := howa.ints
    rw [textL_length] at hca' ⊢
    have HT2 := Lib.hid (fun h0 => Text_any Aa (4 + k.size) ca (textL k) val wa (textL_length _) h0 hIa (by have := HSZ.out.2; omega))
    have hFwa := (((Chg.refl (fun _ => False) W1).drewN 1)).below0 hbwa
    have hHwa : Chg (fun x => x = hb ∨ Value.ownBlock v = some x) W1 wa := hFwa.mono (fun _ h => h.elim)
    have hcwa := (hFwa.cell (p := ⟨hb, 0, none⟩) HLT.out (fun h => h)).trans HC0.out
    have hOwa := own_chg HOW.out hFwa (fun _ _ h => h)
    refine hKK.out _ _ hHwa (fun hHeld => ?_)
    clear hKK K
    try simp only [Act.put, List.setIfInBounds_toArray, List.set_cons_zero, List.set_cons_succ]
    refine wpAnyH_ready (rs := [0, 6]) (by kernel_rfl) (by simp) ?_
    refine AllReadyH.cons rfl (fun K hKK => ?_) (AllReadyH.cons rfl (fun K hKK => ?_) AllReadyH.nil)
    · go_simp
      try simp only [hcwa]
      go_simp
      refine hKK.out _ _ hHeld (fun hHeld => ?_)
      clear hKK K
      try simp only [Act.put, List.setIfInBounds_toArray, List.set_cons_zero, List.set_cons_succ]
      refine wpAnyH_ready (rs := [6]) (by kernel_rfl) (by simp) ?_
      refine AllReadyH.cons rfl (fun K hKK => ?_) AllReadyH.nil
      go_simp
      go_at_call 24
      refine (HT2.out (by have := HSZ.out.1; omega)).mono ?_
      rintro e wc ⟨vwc, rfl, howc, hbwc⟩
      obtain ⟨Ac, cc, rfl, hcc', hIc, hAc⟩ := howc.ints
      have hlc : (textL k ++ textL val).length = 4 + k.size + (4 + val.size) := by simp [textL_length]
      have hAN := howc.nilA
      rw [hlc] at hcc' hAN ⊢
      have HAN := Lib.hid hAN
      have HIC := Lib.hid hIc
      have hFwc := (hFwa).below0 hbwc
      have hHwc : Chg (fun x => x = hb ∨ Value.ownBlock v = some x) W1 wc := hFwc.mono (fun _ h => h.elim)
      have hcwc := (hFwc.cell (p := ⟨hb, 0, none⟩) HLT.out (fun h => h)).trans HC0.out
      have hOwc := own_chg HOW.out hFwc (fun _ _ h => h)
      refine hKK.out _ _ hHwc (fun hHeld => ?_)
      clear hKK K
      try simp only [Act.put, List.setIfInBounds_toArray, List.set_cons_zero, List.set_cons_succ]
      refine wpAnyH_ready (rs := [7]) (by kernel_rfl) (by simp) ?_
      refine AllReadyH.cons rfl (fun K hKK => ?_) AllReadyH.nil
      have hsz := hFwc.size
      refine step_app EB rfl (.tmp 4) (.tmp 10) rfl wb.heap.size v l8.length (l8.map (Value.int .u8)) (by go_simp) hOwc Ac (4 + k.size + (4 + val.size)) cc ((textL k ++ textL val).map (Value.int .u8)) (by go_simp) HAN.out (by simp [textL_length]) HIC.out.news (ints_one _ _) HML.out.1 HML.out.2 (Nat.le_trans HBASE.out hsz) ?_
      intro v9 w9 hown hgrow hat
      obtain ⟨A9, n9, c9, rfl⟩ := own_formN hown
      have hH9 : Chg (fun x => x = hb ∨ Value.ownBlock v = some x) W1 w9 := (hHeld).trans2 (Chg.of hgrow) (fun x _ e => .inr e.symm)
      have hr9 := ((Chg.of hgrow).block hb (Nat.lt_of_lt_of_le HLT.out hsz) (fun e => HNE.out e.symm)).trans ((hFwc.block hb HLT.out (fun h => h)).trans HRO.out)
      have hc9 : w9.cell? ⟨hb, 0, none⟩ = some v := cell_row' hr9
      have hf9 := free_row hr9 0
      have HR9 := Lib.hid hr9
      have HFW := Lib.hid hFwc
      have HH9 := Lib.hid hH9
      have HGR := Lib.hid hgrow
      have HAT := Lib.hid hat
      have HOWN := Lib.hid hown
      clear hr9 hgrow hat hown hsz
      refine hKK.out _ _ hH9 (fun hHeld => ?_)
      clear hKK K
      try simp only [Act.put, List.setIfInBounds_toArray, List.set_cons_zero, List.set_cons_succ]
      refine wpAnyH_ready (rs := [8]) (by kernel_rfl) (by simp) ?_
      refine AllReadyH.cons rfl (fun K hKK => ?_) AllReadyH.nil
      go_simp
      try simp only [hc9, hf9]
      go_simp
      refine hKK.out _ _ (hH9.trans (Chg.of_ (grown_setCell w9 hb 0 (.slice A9 n9 c9)) (fun k _ e => by injection e with e; exact .inl e.symm))) (fun hHeld => ?_)
      clear hKK K
      try simp only [Act.put, List.setIfInBounds_toArray, List.set_cons_zero, List.set_cons_succ]
      refine wpAnyH_done (by kernel_rfl) ?_ _
      clear hHeld hc9 hf9
      have hfin := fin _ (.slice A9 n9 c9) w9 HFW.out HR9.out HH9.out HGR.out HAT.out HOWN.out
      obtain ⟨w8, hw8⟩ : ∃ w8, w9.setCell ⟨hb, 0, none⟩ (.slice A9 n9 c9) = w8 := ⟨_, rfl⟩
      rw [hw8] at hfin ⊢
      have HFN := Lib.hid hfin
      clear hfin hw8
      go_simp
      go_wp2_with fail
      go_ret
      exact ⟨rfl, HFN.out⟩
    · go_simp
      go_at_call 24
      refine (HT2.out (by have := HSZ.out.1; omega)).mono ?_
      rintro e wc ⟨vwc, rfl, howc, hbwc⟩
      obtain ⟨Ac, cc, rfl, hcc', hIc, hAc⟩ := howc.ints
      have hlc : (textL k ++ textL val).length = 4 + k.size + (4 + val.size) := by simp [textL_length]
      have hAN := howc.nilA
      rw [hlc] at hcc' hAN ⊢
      have HAN := Lib.hid hAN
      have HIC := Lib.hid hIc
      have hFwc := (hFwa).below0 hbwc
      have hHwc : Chg (fun x => x = hb ∨ Value.ownBlock v = some x) W1 wc := hFwc.mono (fun _ h => h.elim)
      have hcwc := (hFwc.cell (p := ⟨hb, 0, none⟩) HLT.out (fun h => h)).trans HC0.out
      have hOwc := own_chg HOW.out hFwc (fun _ _ h => h)
      refine hKK.out _ _ hHwc (fun hHeld => ?_)
      clear hKK K
      try simp only [Act.put, List.setIfInBounds_toArray, List.set_cons_zero, List.set_cons_succ]
      refine wpAnyH_ready (rs := [0]) (by kernel_rfl) (by simp) ?_
      refine AllReadyH.cons rfl (fun K hKK => ?_) AllReadyH.nil
      go_simp
      try simp only [hcwc]
      go_simp
      refine hKK.out _ _ hHeld (fun hHeld => ?_)
      clear hKK K
      try simp only [Act.put, List.setIfInBounds_toArray, List.set_cons_zero, List.set_cons_succ]
      refine wpAnyH_ready (rs := [7]) (by kernel_rfl) (by simp) ?_
      refine AllReadyH.cons rfl (fun K hKK => ?_) AllReadyH.nil
      have hsz := hFwc.size
      refine step_app EB rfl (.tmp 4) (.tmp 10) rfl wb.heap.size v l8.length (l8.map (Value.int .u8)) (by go_simp) hOwc Ac (4 + k.size + (4 + val.size)) cc ((textL k ++ textL val).map (Value.int .u8)) (by go_simp) HAN.out (by simp [textL_length]) HIC.out.news (ints_one _ _) HML.out.1 HML.out.2 (Nat.le_trans HBASE.out hsz) ?_
      intro v9 w9 hown hgrow hat
      obtain ⟨A9, n9, c9, rfl⟩ := own_formN hown
      have hH9 : Chg (fun x => x = hb ∨ Value.ownBlock v = some x) W1 w9 := (hHeld).trans2 (Chg.of hgrow) (fun x _ e => .inr e.symm)
      have hr9 := ((Chg.of hgrow).block hb (Nat.lt_of_lt_of_le HLT.out hsz) (fun e => HNE.out e.symm)).trans ((hFwc.block hb HLT.out (fun h => h)).trans HRO.out)
      have hc9 : w9.cell? ⟨hb, 0, none⟩ = some v := cell_row' hr9
      have hf9 := free_row hr9 0
      have HR9 := Lib.hid hr9
      have HFW := Lib.hid hFwc
      have HH9 := Lib.hid hH9
      have HGR := Lib.hid hgrow
      have HAT := Lib.hid hat
      have HOWN := Lib.hid hown
      clear hr9 hgrow hat hown hsz
      refine hKK.out _ _ hH9 (fun hHeld => ?_)
      clear hKK K
      try simp only [Act.put, List.setIfInBounds_toArray, List.set_cons_zero, List.set_cons_succ]
      refine wpAnyH_ready (rs := [8]) (by kernel_rfl) (by simp) ?_
      refine AllReadyH.cons rfl (fun K hKK => ?_) AllReadyH.nil
      go_simp
      try simp only [hc9, hf9]
      go_simp
      refine hKK.out _ _ (hH9.trans (Chg.of_ (grown_setCell w9 hb 0 (.slice A9 n9 c9)) (fun k _ e => by injection e with e; exact .inl e.symm))) (fun hHeld => ?_)
      clear hKK K
      try simp only [Act.put, List.setIfInBounds_toArray, List.set_cons_zero, List.set_cons_succ]
      refine wpAnyH_done (by kernel_rfl) ?_ _
      clear hHeld hc9 hf9
      have hfin := fin _ (.slice A9 n9 c9) w9 HFW.out HR9.out HH9.out HGR.out HAT.out HOWN.out
      obtain ⟨w8, hw8⟩ : ∃ w8, w9.setCell ⟨hb, 0, none⟩ (.slice A9 n9 c9) = w8 := ⟨_, rfl⟩
      rw [hw8] at hfin ⊢
      have HFN := Lib.hid hfin
      clear hfin hw8
      go_simp
      go_wp2_with fail
      go_ret
      exact ⟨rfl, HFN.out⟩
  --]1
end Go.Proofs.YtcklcffepedklaaGreatDoor

namespace Go.Proofs.YtcklcffepedklaaGreatDoor
open Go.RowKit Go.Maps

theorem tb_tells (wb : World) (hb : Nat) (b0 : List Int) : TellsP 48 #[.pointer (some ⟨hb, 0, none⟩)] wb true 1000000 smallP (TbJ wb hb b0) where
  enters := enters_of Tryz.func48 (by kernel_rfl) rfl
  keep acc F W W' R hj hc hR := by
    obtain ⟨v, h1, h2, h3⟩ := hj.ex
    exact ⟨hj.base, ⟨v, (hc.block hb (row_lt h1) (hR hb ((h3 hb).2 (.inl rfl)))).trans h1, own_chg h2 hc (fun k hk => hR k ((h3 k).2 (.inr hk))), h3⟩, hj.len⟩
  bound acc F W hj x hx := by
    obtain ⟨v, h1, h2, h3⟩ := hj.ex
    rcases (h3 x).1 hx with rfl | h
    · exact row_lt h1
    · exact (h2.lt x h).2
  base acc F W hj x hx := by
    obtain ⟨v, h1, h2, h3⟩ := hj.ex
    rcases (h3 x).1 hx with rfl | h
    · exact hj.base
    · exact (h2.lt x h).1
  told acc F W k v hj hm hq := Tb1_any wb hb b0 acc F W k v hj hm hq
/-- The bytes of a tree's pairs. -/
def tabL (N : List PR) : List Int := beL N.length 4 ++ rowsT N
theorem slash_front : (⟨(Lib.trimSuffix (⟨#[47]⟩ : BA).data.toList [47]).toArray⟩ : BA) ++ ⟨#[47]⟩ = ⟨#[47]⟩ := by
  apply Go.WideShapes.bytes_inj
  rw [app_data]; rfl
theorem inP_all {N : List PR} (hs : Srtd N) (h : ∀ x ∈ N, pfx ⟨#[47]⟩ x = true) : inP ⟨#[47]⟩ N = N := by
  rw [inP_eq hs]; exact List.filter_eq_self.2 h
set_option maxRecDepth 20000 in
set_option maxHeartbeats 1600000 in
theorem table_any (A : Option Addr) (n c : Nat) (b0 : List Int) (p : Option Addr) (t : Tre) (N : List PR) (w : World) (hn : b0.length = n) (hn1 : n ≤ 200000000000) (hI : Ints .u8 w A b0) (ht : TrAt w p t) (hN : t.prs = N) (hs : Srtd N) (hl : N.length ≤ 4096) (hq : ∀ x ∈ N, smallP x) (h47 : ∀ x ∈ N, pfx ⟨#[47]⟩ x = true) :
    Calls Tryz.prog 23 #[.slice A n c, .pointer p] w fun e w' => ∃ v, e = .returned v ∧ OwnB w' w.heap.size v (b0 ++ tabL N) ∧ Below w.heap.size w w' := by
  have htl : t.len = N.length := by rw [← Tre.prs_len, hN]
  have hbl := (Below.refl w.heap.size w).alloc (Nat.le_refl _) (.cells #[.slice A n c] 33)
  have hr1 := heap_alloc_last w (.cells #[.slice A n c] 33)
  obtain ⟨W1, hW1⟩ : ∃ W1, w.alloc (.cells #[.slice A n c] 33) = W1 := ⟨_, rfl⟩
  rw [hW1] at hbl hr1
  obtain ⟨hb, hhb⟩ : ∃ g, w.heap.size = g := ⟨_, rfl⟩
  rw [hhb] at hr1
  have HLN := Lib.hid (fun W (hB : Below W1.heap.size W1 W) => TLen_any ((ht.below hbl).below hB))
  obtain ⟨m, hm⟩ : ∃ m, N.length = m := ⟨_, rfl⟩
  rw [htl, hm] at HLN
  have HPUT := Lib.hid (fun W (hB : Below W1.heap.size W1 W) => Put_any A n c b0 m 4 W hn (by omega) ((hI.below hbl).below hB) (by omega) (by decide) (by decide))
  have HC0 := Lib.hid (show W1.cell? ⟨hb, 0, none⟩ = some (.slice A n c) from cell_row' hr1)
  have HRO := Lib.hid hr1
  have HLT := Lib.hid (row_lt hr1)
  have e1 : IntKind.u64.wrap (m : Int) = (m : Int) := by rw [IntKind.wrap_u64]; omega
  have fin : ∀ (v5 : Value) (w5 : World), w5.heap[hb]? = some (.cells #[.slice A n c] 33 (0, 0)) → OwnB w5 W1.drew.heap.size v5 (b0 ++ beL m 4) → Below W1.drew.heap.size W1.drew w5 →
      Calls Tryz.prog 47 #[.pointer p, .string ⟨#[47]⟩, .func (.func 48) #[] #[.pointer (some ⟨hb, 0, none⟩)]] (w5.setCell ⟨hb, 0, none⟩ v5) fun e w9 => e = .returned (.tuple #[]) ∧ ∃ v9, w9.cell? ⟨hb, 0, none⟩ = some v9 ∧ OwnB w9 w.heap.size v9 (b0 ++ tabL N) ∧ Below w.heap.size w w9 := by
    intro v5 w5 hr5 ho5 hb5
    have hne : ¬ Value.ownBlock v5 = some hb := fun e => own_ne ho5 e hr5 (by decide)
    have hc8 := Chg.of_ (R := fun x => x = hb) (grown_setCell w5 hb 0 v5) (fun k _ e => by injection e with e; exact e.symm)
    have hwsz := hbl.size
    have hb5' : Below w.heap.size w w5 := hbl.trans ((show Below W1.heap.size W1 w5 from (Below.refl W1.heap.size W1).drew.trans hb5).mono hwsz)
    have hb8 : Below w.heap.size w (w5.setCell ⟨hb, 0, none⟩ v5) := hb5'.trans (hc8.below hb5'.size (fun k hk => by omega))
    have ho8 := own_chg ho5 hc8 (fun x hx e => hne (by rw [hx, e]))
    have hj : TbJ w hb (b0 ++ beL m 4) [] (fun x => x = hb ∨ Value.ownBlock v5 = some x) (w5.setCell ⟨hb, 0, none⟩ v5) := by
      refine ⟨by omega, ⟨v5, by rw [setCell_row hr5]; rfl, ?_, fun x => Iff.rfl⟩, ?_⟩
      · rw [show rowsT [] = [] from rfl, List.append_nil]
        exact OwnB.base ho8 hwsz
      · rw [show rowsT [] = [] from rfl, List.append_nil, List.length_append, beL_length, hn, List.length_nil]; omega
    refine (within_any (tb_tells w hb (b0 ++ beL m 4)) t p ⟨#[47]⟩ [] _ _ ht (by rw [hN]; exact hs) hb8 hj (by decide) ⟨#[47]⟩ slash_front (by rw [htl]; simp; omega) (by rw [hN]; intro x hx; have := (hq x hx).1; omega) (by rw [hN]; exact hq)).mono ?_
    rintro e w9 ⟨rfl, F', hj9, hc9, hF9⟩
    refine ⟨rfl, ?_⟩
    rw [if_pos rfl, List.nil_append, hN, inP_all hs h47] at hj9
    obtain ⟨v9, h1, h2, h3⟩ := hj9.ex
    refine ⟨v9, cell_row' h1, ?_, hb8.trans (hc9.below hb8.size (fun x hx => ?_))⟩
    · rw [tabL, hm, ← List.append_assoc]; exact h2
    · rcases hx with rfl | hx
      · omega
      · have := (ho5.lt x hx).1
        have h9 : W1.heap.size ≤ x := this
        omega
  have HFIN := Lib.hid fin
  clear hn hI ht hN hs hl hq h47 htl hbl hr1 fin hn1 hm
  go_enter Tryz.func23, Tryz.ntmps23
  go_upto_region 1 with (fail)
  try rw [hW1]
  try rw [hhb]
  have HHB := Lib.hid hhb
  clear hW1 hhb
  have fin := HFIN.out
  --[1
  refine wp_region_held_drew (S := fun w' => Chg (fun x => x = hb) W1 w') (by kernel_rfl) (((Chg.refl _ _).drewN 1)) (fun hHeld => ?_)
  refine held_take 1 (some 6) (v := ?_) rfl rfl (by kernel_rfl) (by kernel_rfl) (by kernel_rfl) (fun _ _ _ h => h) (Or.inl ⟨by rfl, ?_⟩) hHeld ?_
  rotate_left
  · (intro w' hSw; clear hSw; go_simp; try with_reducible rfl)
  try simp only [Act.put, List.setIfInBounds_toArray, List.set_cons_zero, List.set_cons_succ]
  refine wpAnyH_ready (rs := [0, 2]) (by kernel_rfl) (by simp) ?_
  refine AllReadyH.cons rfl (fun K hKK => ?_) (AllReadyH.cons rfl (fun K hKK => ?_) AllReadyH.nil)
  · go_simp
    try simp only [HC0.out]
    go_simp
    refine hKK.out _ _ hHeld (fun hHeld => ?_)
    clear hKK K
    try simp only [Act.put, List.setIfInBounds_toArray, List.set_cons_zero, List.set_cons_succ]
    refine wpAnyH_ready (rs := [2]) (by kernel_rfl) (by simp) ?_
    refine AllReadyH.cons rfl (fun K hKK => ?_) AllReadyH.nil
    go_simp
    go_at_call 44
    refine (HLN.out _ ((Below.refl W1.heap.size W1).drew)).mono ?_
    rintro e w' ⟨rfl, rfl⟩
    refine hKK.out _ _ hHeld (fun hHeld => ?_)
    clear hKK K
    try simp only [Act.put, List.setIfInBounds_toArray, List.set_cons_zero, List.set_cons_succ]
    refine held_take 3 (some 8) (v := ?_) rfl rfl (by kernel_rfl) (by kernel_rfl) (by kernel_rfl) (fun _ _ _ h => h) (Or.inl ⟨by rfl, ?_⟩) hHeld ?_
    rotate_left
    · (intro w' hSw; clear hSw; go_simp; try with_reducible rfl)
    try simp only [Act.put, List.setIfInBounds_toArray, List.set_cons_zero, List.set_cons_succ]
    refine wpAnyH_ready (rs := [4]) (by kernel_rfl) (by simp) ?_
    refine AllReadyH.cons rfl (fun K hKK => ?_) AllReadyH.nil
    go_simp
    go_at_call 21
    refine (HPUT.out _ ((Below.refl W1.heap.size W1).drew)).mono ?_
    rintro e w5 ⟨v5, rfl, ho5, hb5⟩
    obtain ⟨A5, n5, c5, rfl⟩ := own_formN ho5
    have hS5 : Chg (fun x => x = hb) W1 w5 := ((Chg.refl _ _).drewN 1).below0 hb5
    have hr5 := (hb5.block hb HLT.out).trans HRO.out
    have c50 : w5.cell? ⟨hb, 0, none⟩ = some (.slice A n c) := cell_row' hr5
    have f50 := free_row hr5 0
    have HR5 := Lib.hid hr5
    have HO5 := Lib.hid ho5
    have HB5 := Lib.hid hb5
    clear hr5 ho5 hb5
    refine hKK.out _ _ hS5 (fun hHeld => ?_)
    clear hKK K
    try simp only [Act.put, List.setIfInBounds_toArray, List.set_cons_zero, List.set_cons_succ]
    refine wpAnyH_ready (rs := [5]) (by kernel_rfl) (by simp) ?_
    refine AllReadyH.cons rfl (fun K hKK => ?_) AllReadyH.nil
    go_simp
    refine hKK.out _ _ (hS5.trans (Chg.of_ (grown_setCell w5 hb 0 (.slice A5 n5 c5)) (fun k _ e => by injection e with e; exact e.symm))) (fun hHeld => ?_)
    clear hKK K
    try simp only [Act.put, List.setIfInBounds_toArray, List.set_cons_zero, List.set_cons_succ]
    refine wpAnyH_done (by kernel_rfl) ?_ _
    clear hHeld c50 f50
    have hfin := fin (.slice A5 n5 c5) w5 HR5.out HO5.out HB5.out
    obtain ⟨w8, hw8⟩ : ∃ w8, w5.setCell ⟨hb, 0, none⟩ (.slice A5 n5 c5) = w8 := ⟨_, rfl⟩
    rw [hw8] at hfin ⊢
    have HWI := Lib.hid hfin
    clear hfin hw8
    go_simp
    go_wp2_with fail
    refine HWI.out.mono ?_
    rintro e w9 ⟨rfl, v9, hc9, hfin9⟩
    obtain ⟨A9, n9, c9', rfl⟩ := own_formN hfin9.1
    have HF9 := Lib.hid hfin9
    clear hfin9
    go_wp2_with fail
    go_ret
    exact ⟨_, rfl, HF9.out⟩
  · go_simp
    go_at_call 44
    refine (HLN.out _ ((Below.refl W1.heap.size W1).drew)).mono ?_
    rintro e w' ⟨rfl, rfl⟩
    refine hKK.out _ _ hHeld (fun hHeld => ?_)
    clear hKK K
    try simp only [Act.put, List.setIfInBounds_toArray, List.set_cons_zero, List.set_cons_succ]
    refine held_take 3 (some 8) (v := ?_) rfl rfl (by kernel_rfl) (by kernel_rfl) (by kernel_rfl) (fun _ _ _ h => h) (Or.inl ⟨by rfl, ?_⟩) hHeld ?_
    rotate_left
    · (intro w' hSw; clear hSw; go_simp; try with_reducible rfl)
    try simp only [Act.put, List.setIfInBounds_toArray, List.set_cons_zero, List.set_cons_succ]
    refine wpAnyH_ready (rs := [0]) (by kernel_rfl) (by simp) ?_
    refine AllReadyH.cons rfl (fun K hKK => ?_) AllReadyH.nil
    go_simp
    try simp only [HC0.out]
    go_simp
    refine hKK.out _ _ hHeld (fun hHeld => ?_)
    clear hKK K
    try simp only [Act.put, List.setIfInBounds_toArray, List.set_cons_zero, List.set_cons_succ]
    refine wpAnyH_ready (rs := [4]) (by kernel_rfl) (by simp) ?_
    refine AllReadyH.cons rfl (fun K hKK => ?_) AllReadyH.nil
    go_simp
    go_at_call 21
    refine (HPUT.out _ ((Below.refl W1.heap.size W1).drew)).mono ?_
    rintro e w5 ⟨v5, rfl, ho5, hb5⟩
    obtain ⟨A5, n5, c5, rfl⟩ := own_formN ho5
    have hS5 : Chg (fun x => x = hb) W1 w5 := ((Chg.refl _ _).drewN 1).below0 hb5
    have hr5 := (hb5.block hb HLT.out).trans HRO.out
    have c50 : w5.cell? ⟨hb, 0, none⟩ = some (.slice A n c) := cell_row' hr5
    have f50 := free_row hr5 0
    have HR5 := Lib.hid hr5
    have HO5 := Lib.hid ho5
    have HB5 := Lib.hid hb5
    clear hr5 ho5 hb5
    refine hKK.out _ _ hS5 (fun hHeld => ?_)
    clear hKK K
    try simp only [Act.put, List.setIfInBounds_toArray, List.set_cons_zero, List.set_cons_succ]
    refine wpAnyH_ready (rs := [5]) (by kernel_rfl) (by simp) ?_
    refine AllReadyH.cons rfl (fun K hKK => ?_) AllReadyH.nil
    go_simp
    refine hKK.out _ _ (hS5.trans (Chg.of_ (grown_setCell w5 hb 0 (.slice A5 n5 c5)) (fun k _ e => by injection e with e; exact e.symm))) (fun hHeld => ?_)
    clear hKK K
    try simp only [Act.put, List.setIfInBounds_toArray, List.set_cons_zero, List.set_cons_succ]
    refine wpAnyH_done (by kernel_rfl) ?_ _
    clear hHeld c50 f50
    have hfin := fin (.slice A5 n5 c5) w5 HR5.out HO5.out HB5.out
    obtain ⟨w8, hw8⟩ : ∃ w8, w5.setCell ⟨hb, 0, none⟩ (.slice A5 n5 c5) = w8 := ⟨_, rfl⟩
    rw [hw8] at hfin ⊢
    have HWI := Lib.hid hfin
    clear hfin hw8
    go_simp
    go_wp2_with fail
    refine HWI.out.mono ?_
    rintro e w9 ⟨rfl, v9, hc9, hfin9⟩
    obtain ⟨A9, n9, c9', rfl⟩ := own_formN hfin9.1
    have HF9 := Lib.hid hfin9
    clear hfin9
    go_wp2_with fail
    go_ret
    exact ⟨_, rfl, HF9.out⟩
  --]1
end Go.Proofs.YtcklcffepedklaaGreatDoor
