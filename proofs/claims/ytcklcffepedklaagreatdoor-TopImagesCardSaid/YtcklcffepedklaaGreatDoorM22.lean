/- Texts of the proof, one behind the other: names: row. names: things. names: Take. disk, with power that may fail: its state; New, Size, Dead, powered. -/
import Derived.Test.YtcklcffepedklaaGreatDoorM20
import Derived.Test.YtcklcffepedklaaGreatDoorM21
namespace Go.Proofs.YtcklcffepedklaaGreatDoor
open Go.RowKit Go.Maps

theorem bI_str {l : List Int} (h : Bytes l) : bI (strOfNums l) = l := by
  rw [bI]
  show (l.map fun n => UInt8.ofNat n.toNat).map (fun b => (b.toNat : Int)) = l
  rw [List.map_map]
  have : ∀ x ∈ l, ((fun b : UInt8 => (b.toNat : Int)) ∘ fun n : Int => UInt8.ofNat n.toNat) x = id x := fun x hx => by
    obtain ⟨i, hi, rfl⟩ := List.mem_iff_getElem.1 hx
    have hb := h i
    rw [List.getD_eq_getElem?_getD, List.getElem?_eq_getElem hi, Option.getD_some] at hb
    simp only [Function.comp, id, UInt8.toNat_ofNat']
    omega
  rw [List.map_congr_left this, List.map_id]
theorem bytesRow_ints (w : World) (s : BA) (c : Nat) (fr : Nat × Nat) : Ints .u8 (w.alloc (.cells (bytesRow s c) 5 fr)) (some ⟨w.heap.size, 0, none⟩) (bI s) := fun i hi => by
  refine ⟨_, rfl, ?_⟩
  rw [addr_add0, Nat.zero_add, cell_of_row _ _ i _ _ _ (heap_alloc_last w _)]
  rw [bI_length] at hi
  have hs : s.size = s.data.size := rfl
  rw [bytesRow, Array.getElem?_append_left (by rw [Array.size_map]; omega), Array.getElem?_map, Array.getElem?_eq_getElem (by omega)]
  rw [List.getD_eq_getElem?_getD, bI, List.getElem?_map, List.getElem?_eq_getElem (by rw [Array.length_toList]; omega)]
  simp
section
variable {w : World} {gn gm : Nat} {N : List PR}
theorem mkE_ok (hs : Srtd N) {k : BA} {l : List L8} {v : BA} (hx : PairOk FBx N (k, v) l) (hn : getP k N = none) (hL : N.length < 4096) : mkE N (pNames k.data.toList) k = 0 ∧ pNames k.data.toList = some l := by
  have hk : k = bp l := hx.key
  have hp : pNames k.data.toList = some l := by rw [hk]; exact pNames_of hx.pn
  refine ⟨?_, hp⟩
  have h0 : soE 3 (some l) = 0 := by simp [soE, hx.ne]
  rw [hp, mkE, if_neg (by rw [h0]; simp), if_neg (by rw [show (some l).getD [] = l from rfl, paE_of hs hx.up]; simp), hn, if_neg (by simp), if_neg (by omega)]
theorem puE_ok (hs : Srtd N) {k : BA} {l : List L8} {v : BA} (hx : PairOk FBx N (k, v) l) (hn : getP k N = none) (hL : N.length < 4096) : puE N (pNames k.data.toList) k true = 0 := by
  have hk : k = bp l := hx.key
  have hp : pNames k.data.toList = some l := by rw [hk]; exact pNames_of hx.pn
  have h0 : soE 191 (some l) = 0 := by simp [soE, hx.ne]
  rw [hp, puE, if_neg (by rw [h0]; simp), if_neg (by simp), if_neg (by rw [show (some l).getD [] = l from rfl, paE_of hs hx.up]; simp), hn, if_neg (by simp), if_neg (by simp; omega)]
theorem fileV_ne (xl : List Xt) : fileV xl ≠ dV := fun e => by
  have h := congrArg (fun b : BA => b.data.toList.take 1) e
  rw [fileV, app_data] at h
  exact absurd (show ([102] : List UInt8) = [100] from h) (by decide)
set_option maxRecDepth 20000 in
set_option maxHeartbeats 1600000 in
theorem row_any (hV : Val FBx N) (h : Nm w gn gm N) (k v : BA) (l : List L8) (hx : PairOk FBx N (k, v) l) (hn : getP k N = none) (hL : N.length < 4096) (hE : Env w) (hgn : 2 < gn) :
    Calls Tryz.prog 66 #[.pointer (some ⟨gn, 0, none⟩), .string k, .string v] w fun e w' => e = .returned (.bool true) ∧ Nm w' gn gm (insP k v N) ∧ Chg (fun x => x = gn) w w' := by
  have hkz : k.size ≤ 1000000 := by
    have hk : k = bp l := hx.key
    rw [hk, size_data, bp, ba_data]; have := pOf_len hx.pn; omega
  rcases hx.val with hv | ⟨xl, hxr, hv⟩
  · have hv' : v = dV := hv
    subst hv'
    obtain ⟨h0, _⟩ := mkE_ok hV.srt hx hn hL
    have hM := Mkdir_any FBx_ok hV (by omega) h k hE hgn hkz
    rw [h0, mkN, h0, if_pos rfl] at hM
    have HM := Lib.hid hM
    clear hV h hx hn hL hE hM h0 hv hkz
    unfold dV at *
    go_enter Tryz.func66, Tryz.ntmps66
    go_wp2_with fail
    refine HM.out.mono ?_
    rintro e w1 ⟨rfl, hn1, hc1⟩
    have HN := Lib.hid (And.intro hn1 hc1)
    clear hn1 hc1
    go_wp2_with fail
    go_ret
    exact ⟨rfl, HN.out⟩
  · have hv' : v = fileV xl := hv
    have hne : v ≠ dV := by rw [hv']; exact fileV_ne xl
    have hvd : (v.toList == [100]) = false := by have := str_ne hne; rwa [show dV.toList = [100] from by rw [Lib.toList_data]; rfl] at this
    have hpre : Lib.hasPrefix v.data.toList (⟨#[102]⟩ : BA).data.toList = true := by
      rw [hv', fileV, app_data, Lib.hasPrefix]; rfl
    have HHP := Lib.hid (fun W => Tryz.strings_HasPrefix v ⟨#[102]⟩ W)
    rw [hpre] at HHP
    have hkk : k ≠ ⟨#[47]⟩ := fun e => hx.ne ((bp_root hx.pn).1 (by have hk : k = bp l := hx.key; rw [← hk]; exact e))
    have HKI := Lib.hid (kind_any FBx_ok hV h k hkk)
    rw [hn] at HKI
    have hsz : v.size = 1 + (layX xl).length := by
      rw [hv', fileV, ByteArray.size_append, str_size]; rfl
    have hll := layX_length xl
    have hxl := (right_one hxr).1
    obtain ⟨s1, hs1⟩ : ∃ s, strOfNums (layX xl) = s := ⟨_, rfl⟩
    have hex : v.extract 1 v.size = s1 := by
      apply Go.WideShapes.bytes_inj
      rw [Lib.extract_to_end, hv', fileV, app_data, ← hs1]; rfl
    obtain ⟨vs, hvs⟩ : ∃ n, v.size = n := ⟨_, rfl⟩
    rw [hvs] at hex hsz
    have hz1 : s1.size = (layX xl).length := by rw [← hs1, str_size]
    have hcv := run_bytes_of_string (P := Tryz.prog) w 9 33 5 s1 Tryz.underlying9 Tryz.underlying33 Tryz.underlying5
    have hge := grownCap_ge w s1.size 0 5
    obtain ⟨cp, hcp⟩ : ∃ c, grownCap w s1.size 0 5 = c := ⟨_, rfl⟩
    rw [hcp] at hcv hge
    have hbi : bI s1 = layX xl := by rw [← hs1, bI_str (layX_bytes xl)]
    have hI := bytesRow_ints w.drew s1 cp ((bytesRow s1 cp).size, (bytesRow s1 cp).size + 1)
    rw [hbi] at hI
    have hb1 := ((Below.refl w.heap.size w).drew).alloc (Nat.le_refl _) (.cells (bytesRow s1 cp) 5 ((bytesRow s1 cp).size, (bytesRow s1 cp).size + 1))
    obtain ⟨w1, hw1⟩ : ∃ w1, w.drew.alloc (.cells (bytesRow s1 cp) 5 ((bytesRow s1 cp).size, (bytesRow s1 cp).size + 1)) = w1 := ⟨_, rfl⟩
    rw [hw1] at hcv hI hb1
    obtain ⟨n1, hn1⟩ : ∃ n, s1.size = n := ⟨_, rfl⟩
    rw [hn1] at hcv hge hz1
    have HTK := Lib.hid (XTake_any (some ⟨w.heap.size, 0, none⟩) w.heap.size cp n1 xl w1 rfl hz1.symm hge hxr hI)
    have HB1 := Lib.hid hb1
    have HPU := Lib.hid (fun W A c (hb : Below w.heap.size w W) hA => NPut_any hV (by omega) (h.below hb) k (hE.below hb) hkz A xl.length c xl rfl (by omega) hA)
    rw [hxr, puE_ok hV.srt hx hn hL] at HPU
    have HPN := Lib.hid (show puN N (pNames k.data.toList) k xl = insP k v N by rw [puN, hxr, puE_ok hV.srt hx hn hL, if_pos rfl, hv'])
    have hv1 : (1 : Int) ≤ (vs : Int) := by omega
    obtain ⟨xn, hxn⟩ : ∃ n, xl.length = n := ⟨_, rfl⟩
    rw [hxn] at HTK HPU
    clear hV h hx hn hL hE hv hv' hne hpre hkk hsz hll hxl hs1 hz1 hge hcp hbi hI hb1 hw1 hn1 hkz hxn hxr
    go_enter Tryz.func66, Tryz.ntmps66
    go_wp2_with fail
    refine (HHP.out w).mono ?_
    rintro e w2 ⟨rfl, rfl⟩
    go_wp2_with fail
    refine HKI.out.mono ?_
    rintro e w2 ⟨rfl, rfl⟩
    unfold kd
    go_wp2_with fail
    refine HTK.out.mono ?_
    rintro e w3 ⟨A3, c3, rfl, hx3, hb3⟩
    have HB3 := Lib.hid (HB1.out.trans (hb3.mono HB1.out.size))
    have HP3 := Lib.hid (HPU.out w3 A3 c3 HB3.out hx3)
    clear hx3 hb3
    go_wp2_with fail
    refine HP3.out.mono ?_
    rintro e w4 ⟨rfl, hn4, hc4⟩
    rw [HPN.out] at hn4
    have HN := Lib.hid (And.intro hn4 ((Chg.belowAt HB3.out).trans hc4))
    clear hn4 hc4
    go_wp2_with fail
    go_ret
    exact ⟨rfl, HN.out⟩
end
end Go.Proofs.YtcklcffepedklaaGreatDoor

namespace Go.Proofs.YtcklcffepedklaaGreatDoor
open Go.RowKit Go.Maps

theorem bl_empty {s : BA} (h : s ≠ ⟨#[]⟩) : bl ⟨#[]⟩ s = true := by
  rw [bl_iff]
  cases hh : s.data.toList with
  | nil => exact absurd (Go.WideShapes.bytes_inj (a := s) (b := ⟨#[]⟩) (by rw [hh])) h
  | cons a b => exact List.nil_lt_cons _ _
theorem bp_ne_empty (l : List L8) : bp l ≠ ⟨#[]⟩ := fun e => by
  have h := congrArg (fun b : BA => b.data.toList) e
  simp only [bp, ba_data, pOf] at h
  split at h
  · cases h
  · cases l with
    | nil => rename_i h2; exact h2 rfl
    | cons a b => simp [joinP] at h
theorem rowsT_cons (x : PR) (N : List PR) : rowsT (x :: N) = textL x.1 ++ (textL x.2 ++ rowsT N) := by simp [rowsT]
theorem rd_row {w : World} {r : Nat} {l : List Int} (h : Rd w r l) : ∀ g cs, g = r → w.heap[g]? ≠ some (.cells cs 125 (0, 0)) := fun g cs e => by
  obtain ⟨A, c, h1, _⟩ := h.ex
  rw [e, h1]; intro e2; injection e2 with e2; injection e2 with _ e2; exact absurd e2 (by decide)
theorem nm_row {w : World} {gn gm : Nat} {N : List PR} (h : Nm w gn gm N) : ∀ g cs, g = gn → w.heap[g]? ≠ some (.cells cs 125 (0, 0)) := fun g cs e => by
  obtain ⟨p, t, h1, _⟩ := h.ex
  rw [e, h1]; intro e2; injection e2 with e2; injection e2 with _ e2; exact absurd e2 (by decide)
set_option maxRecDepth 20000 in
set_option maxHeartbeats 1600000 in
theorem things_any {w : World} {gn gm r : Nat} {M N : List PR} (hV : Val FBx N) (hT : TabOk N) (h : Nm w gn gm M) (rest : List Int) (hr : Rd w r (tabL N ++ rest)) (hrl : rest.length ≤ 500000000000) (hrg : r < gn) (h2r : 2 < r) (hE : Env w) :
    Calls Tryz.prog 37 #[.pointer (some ⟨gn, 0, none⟩), .pointer (some ⟨r, 0, none⟩)] w fun e w' => e = .returned (.bool true) ∧ Nm w' gn gm N ∧ Rd w' r rest ∧ Chg (fun x => x = gn ∨ x = r) w w' := by
  obtain ⟨p, t, h1, h2, h3⟩ := h.ex
  have c0 : w.cell? ⟨gn, 0, none⟩ = some (.pointer p) := cell_row' h1
  have f0 := free_row h1 0
  have HT1 := Lib.hid (Nm.turn (N' := []) h1 (Below.refl _ _) (p' := none) (t' := .nil) rfl rfl)
  have hcg : Chg (fun x => x = gn) w (w.setCell ⟨gn, 0, none⟩ (.pointer none)) := HT1.out.2
  have HRD1 := Lib.hid (hr.chg hcg (fun x hx => by omega))
  have HE1 := Lib.hid (hE.chg hcg (fun x hx => by omega))
  obtain ⟨m, hm⟩ : ∃ m, N.length = m := ⟨_, rfl⟩
  have hm1 : m ≤ 4096 := by rw [← hm]; exact hT.len
  have HN := Lib.hid (And.intro hV (And.intro hT (And.intro hm (And.intro hrg (And.intro h2r (And.intro hrl hm1))))))
  have ht4 : (tabL N ++ rest).take 4 = beL m 4 := by rw [tabL, hm, List.append_assoc, List.take_left' (beL_length m 4)]
  have hd4 : (tabL N ++ rest).drop 4 = rowsT N ++ rest := by rw [tabL, hm, List.append_assoc, List.drop_left' (beL_length m 4)]
  have HGET := Lib.hid (fun W (h : Rd W r (tabL N ++ rest)) => Get_any r (tabL N ++ rest) 4 W h (by decide) (by decide) (by rw [tabL, List.length_append, List.length_append, beL_length]; omega))
  rw [ht4, hd4, numL_be m 4 (by omega)] at HGET
  clear hV hT h h1 h2 h3 hr hrl hE hcg hm ht4 hd4
  go_enter Tryz.func37, Tryz.ntmps37
  go_wp2_with fail
  refine (HGET.out _ HRD1.out).mono ?_
  rintro e w1 ⟨rfl, hg1, hrd1⟩
  have hc1 : Chg (fun x => x = r) (w.setCell ⟨gn, 0, none⟩ (.pointer none)) w1 := Chg.of_ hg1 (fun k _ e => by injection e with e; exact e.symm)
  have HN1 := Lib.hid (HT1.out.1.chg hc1 (by omega) (fun g cs e => rd_row HRD1.out g cs e))
  have HE2 := Lib.hid (HE1.out.chg hc1 (fun x hx => by omega))
  have HC1 := Lib.hid (show Chg (fun x => x = gn ∨ x = r) w w1 from (HT1.out.2.mono (fun x h => .inl h)).trans (hc1.mono (fun x h => .inr h)))
  have HRD2 := Lib.hid hrd1
  clear hg1 hrd1 hc1 c0 f0
  go_upto_region 4 with (fail)
  go_loopg [5, 6] m (fun kq v5 v6 w' => ∃ (i : Nat) (last : BA), v5 = .string last ∧ v6 = .int .u64 (kq : Nat) ∧ i + kq = m ∧ Hid (∀ y ∈ N.drop i, bl last y.1 = true) ∧ Hid (Nm w' gn gm (N.take i)) ∧ Hid (Rd w' r (rowsT (N.drop i) ++ rest)) ∧ Hid (Env w') ∧ Hid (Chg (fun x => x = gn ∨ x = r) w w'))
  case atStart =>
    refine ⟨0, ⟨#[]⟩, rfl, rfl, by omega, Lib.hid (fun y hy => ?_), HN1, HRD2, HE2, HC1⟩
    obtain ⟨l, hl⟩ := HN.out.1.ok y (by simpa using hy)
    rw [hl.key]; exact bl_empty (bp_ne_empty l)
  case round =>
    obtain ⟨i, last, rfl, rfl, hi, HLS, HNM, HRD, HEW, HCW⟩ := hrel
    by_cases hlt : 0 < gk
    · obtain ⟨k', rfl⟩ : ∃ k', gk = k' + 1 := ⟨gk - 1, by omega⟩
      have hil : i < N.length := by rw [HN.out.2.2.1]; omega
      obtain ⟨x, hx⟩ : ∃ x, N[i]? = some x := ⟨_, List.getElem?_eq_getElem hil⟩
      have hdr : N.drop i = x :: N.drop (i + 1) := by
        rw [List.drop_eq_getElem_cons hil]
        rw [List.getElem?_eq_getElem hil] at hx
        injection hx with hx; rw [hx]
      have hsp : N = N.take i ++ x :: N.drop (i + 1) := by rw [← hdr]; exact (List.take_append_drop i N).symm
      obtain ⟨xk, xv⟩ := x
      have hfr := Val.front (FB := FBx) (A := N.take i) (B := N.drop (i + 1)) (x := (xk, xv)) (by rw [← hsp]; exact HN.out.1)
      obtain ⟨hVA, l, hPO, hgn, hins⟩ := hfr
      have hsm : smallP (xk, xv) := HN.out.2.1.small _ (List.mem_of_getElem? hx)
      have hs1 : xk.size ≤ 1617 := hsm.1
      have hs2 : xv.size ≤ 655365 := hsm.2
      have hrd := HRD.out
      rw [hdr, rowsT_cons, List.append_assoc, List.append_assoc] at hrd
      have hrest : (textL xv ++ (rowsT (N.drop (i + 1)) ++ rest)).length ≤ 1000000000000 ∧ (rowsT (N.drop (i + 1)) ++ rest).length ≤ 1000000000000 := by
        have h1 := rowsT_len (N := N.drop (i + 1)) (fun y hy => HN.out.2.1.small y (List.mem_of_mem_drop hy))
        have h2 : (N.drop (i + 1)).length ≤ 4096 := by rw [List.length_drop, HN.out.2.2.1]; have := HN.out.2.2.2.2.2.2; omega
        have h3 := HN.out.2.2.2.2.2.1
        rw [List.length_append, List.length_append, textL_length]
        have h4 : (N.drop (i + 1)).length * 656990 ≤ 4096 * 656990 := Nat.mul_le_mul_right _ h2
        omega
      have HT1 := Lib.hid (RText_any r xk _ 65536 wr hrd (by show xk.size ≤ 65536; omega) (by decide) hrest.1)
      have HT2 := Lib.hid (fun W h => RText_any r xv (rowsT (N.drop (i + 1)) ++ rest) 1073741824 W h (by show xv.size ≤ 1073741824; omega) (by decide) hrest.2)
      have hbl : bl last xk = true := HLS.out (xk, xv) (by rw [hdr]; simp)
      have hb1 : Op.bytesLess last.toList xk.toList = true := hbl
      have hb2 : Op.bytesLess xk.toList last.toList = false := bl_asymm hbl
      have hb3 : (xk.toList == last.toList) = false := str_ne (bl_ne hbl).symm
      have HX := Lib.hid (And.intro hVA (And.intro hPO (And.intro hgn hins)))
      have HLS2 := Lib.hid (show ∀ y ∈ N.drop (i + 1), bl xk y.1 = true from by
        have hs : Srtd (N.take i ++ (xk, xv) :: N.drop (i + 1)) := by rw [← hsp]; exact HN.out.1.srt
        exact (List.pairwise_cons.1 hs.right).1)
      have HTK := Lib.hid (show N.take (i + 1) = insP xk xv (N.take i) from by rw [List.take_add_one, hx]; exact hins.symm)
      have hlen : (N.take i).length < 4096 := by rw [List.length_take]; have := HN.out.2.2.2.2.2.2; have := HN.out.2.2.1; omega
      have HLEN := Lib.hid hlen
      have HRDX := Lib.hid hrd
      have u1 : IntKind.u64.wrap (((k' + 1 : Nat) : Int) - 1) = (k' : Int) := by rw [IntKind.wrap_u64]; have := HN.out.2.2.2.2.2.2; omega
      have u2 : (0 : Int) < ((k' + 1 : Nat) : Int) := by omega
      obtain ⟨kk, hkk⟩ : ∃ kk, k' + 1 = kk := ⟨_, rfl⟩
      rw [hkk] at u1 u2
      try rw [hkk]
      clear hil hx hdr hsp hVA hPO hgn hins hsm hs1 hs2 hrd hrest hbl hlen
      go_wp2_with fail
      refine HT1.out.mono ?_
      rintro e w2 ⟨rfl, hc2, hrd2⟩
      have HRD2 := Lib.hid hrd2
      have HC2 := Lib.hid hc2
      clear hc2 hrd2
      go_wp2_with fail
      refine (HT2.out w2 HRD2.out).mono ?_
      rintro e w3 ⟨rfl, hc3, hrd3⟩
      have HRD3 := Lib.hid hrd3
      have hc23 := HC2.out.trans hc3
      have hgr := HN.out.2.2.2.1
      have h2r' := HN.out.2.2.2.2.1
      have hnm3 := HNM.out.chg hc23 (by omega) (fun g cs e => rd_row HRDX.out g cs e)
      have henv3 := HEW.out.chg hc23 (fun x hx => by omega)
      have HC3 := Lib.hid (HCW.out.trans (hc23.mono (fun x h => .inr h)))
      have HF := Lib.hid (Fault_any r _ w3 hrd3)
      have HRO := Lib.hid (row_any HX.out.1 hnm3 xk xv l HX.out.2.1 HX.out.2.2.1 HLEN.out henv3 (by omega))
      have HE3 := Lib.hid henv3
      have HNM3 := Lib.hid hnm3
      clear hc3 hrd3 hc23 hnm3 henv3
      go_wp2_with fail
      refine HF.out.mono ?_
      rintro e w4 ⟨rfl, rfl⟩
      go_wp2_with fail
      refine HRO.out.mono ?_
      rintro e w4 ⟨rfl, hn4, hc4⟩
      have HN4 := Lib.hid (show Nm w4 gn gm (N.take (i + 1)) from by rw [HTK.out]; exact hn4)
      have HRD4 := Lib.hid (HRD3.out.chg hc4 (fun x hx => by omega))
      have HE4 := Lib.hid (HE3.out.chg hc4 (fun x hx => by omega))
      have HC4 := Lib.hid (HC3.out.trans (hc4.mono (fun x h => .inl h)))
      have HKK := Lib.hid hkk
      clear hn4 hc4 hgr h2r' hkk
      go_wp2_with fail
      go_roundg k'
      case measure => have := HKK.out; omega
      case rel => exact ⟨i + 1, xk, rfl, by rfl, by have := HKK.out; omega, HLS2, HN4, HRD4, HE4, HC4⟩
    · obtain rfl : gk = 0 := by omega
      obtain rfl : i = m := by omega
      have hti : N.take i = N := List.take_of_length_le (by rw [HN.out.2.2.1]; exact Nat.le_refl _)
      have hdi : N.drop i = [] := List.drop_of_length_le (by rw [HN.out.2.2.1]; exact Nat.le_refl _)
      have HF := Lib.hid (Fault_any r _ wr HRD.out)
      have HNF := Lib.hid (show Nm wr gn gm N from hti ▸ HNM.out)
      have HRF := Lib.hid (show Rd wr r rest from by have := HRD.out; rw [hdi] at this; exact this)
      clear hti hdi hlt
      go_wp2_with fail
      refine HF.out.mono ?_
      rintro e w4 ⟨rfl, rfl⟩
      go_wp2_with fail
      go_ret
      exact ⟨rfl, HNF.out, HRF.out, HCW.out⟩
end Go.Proofs.YtcklcffepedklaaGreatDoor

namespace Go.Proofs.YtcklcffepedklaaGreatDoor
open Go.RowKit Go.Maps

/-- Snapshots that may be. -/
structure SnV (S : List (BA × List PR)) : Prop where
  ok : SnOk S
  val : ∀ x ∈ S, Val FBx x.2
  nm : ∀ x ∈ S, nmOk x.1 = true
  nod : (S.map (·.1)).Nodup
theorem sortN_srtd {S : List (BA × List PR)} (h : (S.map (·.1)).Nodup) : (sortN S).Pairwise fun a b => bl a b = true := by
  have tr : ∀ a b c : List UInt8, leB a b = true → leB b c = true → leB a c = true := fun a b c h1 h2 => by simp only [leB, decide_eq_true_eq] at *; exact List.le_trans h1 h2
  have tot : ∀ a b : List UInt8, (leB a b || leB b a) = true := fun a b => by simp only [leB, Bool.or_eq_true, decide_eq_true_eq]; exact List.le_total a b
  have h1 := List.pairwise_mergeSort tr tot (S.map fun x => x.1.data.toList)
  have h2 : ((S.map fun x => x.1.data.toList).mergeSort leB).Nodup := by
    refine (List.mergeSort_perm _ leB).nodup_iff.2 ?_
    have : (S.map fun x => x.1.data.toList) = (S.map (·.1)).map fun x : BA => x.data.toList := by rw [List.map_map]; rfl
    rw [this]
    exact List.Pairwise.map _ (fun a b hab e => hab (Go.WideShapes.bytes_inj e)) h
  rw [sortN, List.pairwise_map]
  refine (h1.and h2).imp fun {a b} hab => ?_
  rw [bl_iff, ba_data, ba_data]
  have h3 : a ≤ b := by simpa [leB] using hab.1
  rcases List.le_iff_lt_or_eq.1 h3 with h | h
  · exact h
  · exact absurd h hab.2
theorem sortN_nodup {S : List (BA × List PR)} (h : (S.map (·.1)).Nodup) : (sortN S).Nodup := (sortN_srtd h).imp fun h => bl_ne h
/-- The snapshots, in order. -/
def inOrd (S : List (BA × List PR)) (l : List BA) : List (BA × List PR) := l.map fun s => (s, snGet S s)
theorem inOrd_keys (S : List (BA × List PR)) (l : List BA) : (inOrd S l).map (·.1) = l := by
  rw [inOrd, List.map_map]; show l.map id = l; exact List.map_id l
theorem snGet_mem {S : List (BA × List PR)} {s : BA} (h : s ∈ S.map (·.1)) : ∃ x ∈ S, x.1 = s ∧ snGet S s = x.2 := by
  unfold snGet
  cases hf : S.find? fun x => decide (x.1 = s) with
  | none =>
    obtain ⟨y, hy, e⟩ := List.mem_map.1 h
    have := List.find?_eq_none.1 hf y hy
    simp at this; exact absurd e this
  | some x =>
    have h1 := List.find?_some hf
    exact ⟨x, List.mem_of_find?_eq_some hf, by simpa using h1, rfl⟩
theorem inOrd_get {S : List (BA × List PR)} {s : BA} : ∀ {l : List BA}, s ∈ l → snGet (inOrd S l) s = snGet S s
  | [], h => by cases h
  | y :: l, h => by
    by_cases hy : y = s
    · subst hy
      rw [snGet, inOrd, List.map_cons, List.find?_cons, show decide ((y, snGet S y).1 = y) = true from decide_eq_true rfl]; rfl
    · have hs : s ∈ l := by rcases List.mem_cons.1 h with h | h; exact absurd h.symm hy; exact h
      have ih := inOrd_get (S := S) hs
      rw [snGet, inOrd, List.map_cons, List.find?_cons, show decide ((y, snGet S y).1 = s) = false from decide_eq_false hy]
      exact ih
theorem snV_inOrd {S : List (BA × List PR)} (h : SnV S) : SnV (inOrd S (sortN S)) ∧ ∀ N, layN N (inOrd S (sortN S)) = layN N S := by
  have hk := inOrd_keys S (sortN S)
  have hlen : (inOrd S (sortN S)).length = S.length := by rw [inOrd, List.length_map, sortN_length]
  have hm : ∀ x ∈ inOrd S (sortN S), ∃ y ∈ S, x = y := fun x hx => by
    obtain ⟨s, hs, rfl⟩ := List.mem_map.1 hx
    obtain ⟨y, hy, h1, h2⟩ := snGet_mem (sortN_mem.1 hs)
    exact ⟨y, hy, by rw [h2, ← h1]⟩
  have hsort : sortN (inOrd S (sortN S)) = sortN S := by
    have hp : ((inOrd S (sortN S)).map fun x => x.1.data.toList).Perm (S.map fun x => x.1.data.toList) := by
      have e1 : ((inOrd S (sortN S)).map fun x => x.1.data.toList) = (sortN S).map fun s : BA => s.data.toList := by rw [inOrd, List.map_map]; rfl
      have e2 : ((sortN S).map fun s : BA => s.data.toList) = (S.map fun x => x.1.data.toList).mergeSort leB := by
        rw [sortN, List.map_map]
        show List.map id _ = _
        exact List.map_id _
      rw [e1, e2]; exact List.mergeSort_perm _ _
    rw [sortN, mergeSort_of_perm hp]; rfl
  refine ⟨⟨⟨by rw [hlen]; exact h.ok.len, fun x hx => ?_, fun x hx => ?_⟩, fun x hx => ?_, fun x hx => ?_, by rw [hk]; exact sortN_nodup h.nod⟩, fun N => ?_⟩
  · obtain ⟨y, hy, rfl⟩ := hm x hx; exact h.ok.small _ hy
  · obtain ⟨y, hy, rfl⟩ := hm x hx; exact h.ok.tab _ hy
  · obtain ⟨y, hy, rfl⟩ := hm x hx; exact h.val _ hy
  · obtain ⟨y, hy, rfl⟩ := hm x hx; exact h.nm _ hy
  · rw [layN, layN, hlen, hsort]
    congr 2
    have : ∀ l : List BA, (∀ s ∈ l, s ∈ sortN S) → l.flatMap (snapL (inOrd S (sortN S))) = l.flatMap (snapL S) := fun l => by
      induction l with
      | nil => exact fun _ => rfl
      | cons s l ih =>
        intro hl
        rw [List.flatMap_cons, List.flatMap_cons, ih (fun x hx => hl x (by simp [hx])), snapL, snapL, inOrd_get (hl s (by simp))]
    exact this _ (fun s hs => hs)
theorem nmOk_ne {s : BA} (h : nmOk s = true) : s ≠ ⟨#[]⟩ := fun e => by rw [e] at h; exact absurd h (by decide)
set_option maxRecDepth 20000 in
set_option maxHeartbeats 1600000 in
theorem NTake_any (A : Option Addr) (n c : Nat) (N : List PR) (S : List (BA × List PR)) (w : World) (hn : (layN N S).length = n) (hI : Ints .u8 w A (layN N S)) (hB : Bytes (layN N S)) (hA : A = none → n = 0 ∧ c = 0) (hV : Val FBx N) (hT : TabOk N) (hS : SnV S) (hE : Env w) :
    Calls Tryz.prog 17 #[.slice A n c] w fun e w' => ∃ gn gm, e = .returned (.tuple #[.pointer (some ⟨gn, 0, none⟩), .int .i64 0]) ∧ Nm w' gn gm N ∧ Sn w' gm (inOrd S (sortN S)) ∧ w.heap.size ≤ gn ∧ w.heap.size ≤ gm ∧ gn ≠ gm ∧ Below w.heap.size w w' := by
  obtain ⟨m, hm⟩ : ∃ m, S.length = m := ⟨_, rfl⟩
  have hm1 : m ≤ 64 := by rw [← hm]; exact hS.ok.len
  have hlm : (sortN S).length = m := by rw [sortN_length, hm]
  have hmem : ∀ s ∈ sortN S, s ∈ S.map (·.1) := fun s hs => sortN_mem.1 hs
  have hdrop : ∀ i, (((sortN S).drop i).flatMap (snapL S)).length ≤ 64 * 2691031148 := fun i => by
    have h1 := snaps_len hS.ok ((sortN S).drop i) (fun s hs => hmem s (List.mem_of_mem_drop hs))
    have h2 : ((sortN S).drop i).length ≤ 64 := by rw [List.length_drop, hlm]; omega
    exact Nat.le_trans h1 (Nat.mul_le_mul_right 2691031148 h2)
  have hNl := tabL_len hT
  have hlay : layN N S = beL m 2 ++ ((sortN S).flatMap (snapL S) ++ tabL N) := by rw [layN, hm, List.append_assoc]
  have hlayl : (layN N S).length ≤ 500000000000 := by
    have := hdrop 0
    rw [List.drop_zero] at this
    rw [hlay, List.length_append, List.length_append, beL_length]; omega
  have h2l : 2 ≤ (layN N S).length := by rw [hlay, List.length_append, beL_length]; omega
  have ht2 : (layN N S).take 2 = beL m 2 := by rw [hlay, List.take_left' (beL_length m 2)]
  have hd2 : (layN N S).drop 2 = (sortN S).flatMap (snapL S) ++ tabL N := by rw [hlay, List.drop_left' (beL_length m 2)]
  have HRN := Lib.hid (RNew_any A n c (layN N S) w hn (by omega) hI hB hA)
  have HGET := Lib.hid (fun r W (h : Rd W r (layN N S)) => Get_any r (layN N S) 2 W h (by decide) (by decide) h2l)
  rw [ht2, hd2, numL_be m 2 (by omega)] at HGET
  have HX := Lib.hid (And.intro hV (And.intro hT (And.intro hS (And.intro hlm (And.intro hm1 (And.intro hdrop hNl))))))
  have HE := Lib.hid hE
  clear hn hI hB hA hV hT hS hE hm hmem hdrop hNl hlay hlayl h2l ht2 hd2
  go_enter Tryz.func17, Tryz.ntmps17
  go_wp2_with fail
  refine HRN.out.mono ?_
  rintro e w1 ⟨r, rfl, hr, hrd, hb1⟩
  have HR := Lib.hid hr
  have HRD := Lib.hid hrd
  have HB1 := Lib.hid hb1
  clear hr hrd hb1
  go_wp2_with fail
  refine (NNew_any w1).mono ?_
  rintro e w2 ⟨gn, gm, rfl, hnm, hsn, hgn, hgm, hne, hb2⟩
  have h2r : 2 < r := by have := HE.out.lt; have := HR.out; omega
  have hrl := HRD.out.lt
  have hrgn : r < gn := by omega
  have hrgm : r < gm := by omega
  have HG := Lib.hid (And.intro h2r (And.intro hrgn (And.intro hrgm (And.intro hne (And.intro (show w.heap.size ≤ gn by have := HR.out; omega) (show w.heap.size ≤ gm by have := HR.out; omega))))))
  have HRD2 := Lib.hid (HRD.out.chg (Chg.belowAt hb2) (fun x (hx : False) => hx.elim))
  have HB2 := Lib.hid (HB1.out.trans (hb2.mono HB1.out.size))
  have HNM2 := Lib.hid hnm
  have HSN2 := Lib.hid hsn
  clear hnm hsn hgn hgm hne hb2 h2r hrl hrgn hrgm
  go_wp2_with fail
  refine (HGET.out r _ HRD2.out).mono ?_
  rintro e w3 ⟨rfl, hg3, hrd3⟩
  have hc3 : Chg (fun x => x = r) w2 w3 := Chg.of_ hg3 (fun k _ e => by injection e with e; exact e.symm)
  have hG := HG.out
  have HRD3 := Lib.hid hrd3
  have HNM3 := Lib.hid (HNM2.out.chg hc3 (by omega) (fun g cs e => rd_row HRD2.out g cs e))
  have HSN3 := Lib.hid (HSN2.out.chg hc3 (by omega) (fun g cs e => rd_row HRD2.out g cs e))
  have HB3 := Lib.hid (HB2.out.trans (hc3.below HB2.out.size (fun k hk => by rw [hk]; exact HR.out)))
  clear hrd3 hc3 hg3 hG
  go_upto_region 5 with (fail)
  go_loopg [6, 7] m (fun kq v6 v7 w' => ∃ (i : Nat) (last : BA) (M : List PR), v6 = .string last ∧ v7 = .int .u64 (kq : Nat) ∧ i + kq = m ∧ Hid (∀ s ∈ (sortN S).drop i, bl last s = true) ∧ Hid (Nm w' gn gm M) ∧ Hid (Sn w' gm (inOrd S ((sortN S).take i))) ∧ Hid (Rd w' r (((sortN S).drop i).flatMap (snapL S) ++ tabL N)) ∧ Hid (Below w.heap.size w w'))
  case atStart =>
    refine ⟨0, ⟨#[]⟩, [], rfl, rfl, by omega, Lib.hid (fun s hs => ?_), HNM3, HSN3, HRD3, HB3⟩
    obtain ⟨x, hx, rfl⟩ := List.mem_map.1 (sortN_mem.1 (List.mem_of_mem_drop hs))
    exact bl_empty (nmOk_ne (HX.out.2.2.1.nm x hx))
  case round =>
    obtain ⟨i, last, M, rfl, rfl, hi, HLS, HNM, HSN, HRD, HBW⟩ := hrel
    have hX := HX.out
    have hG := HG.out
    have HEW := Lib.hid (HE.out.below HBW.out)
    by_cases hlt : 0 < gk
    · obtain ⟨k', rfl⟩ : ∃ k', gk = k' + 1 := ⟨gk - 1, by omega⟩
      have hil : i < (sortN S).length := by rw [hX.2.2.2.1]; omega
      obtain ⟨s, hx⟩ : ∃ s, (sortN S)[i]? = some s := ⟨_, List.getElem?_eq_getElem hil⟩
      have hdr : (sortN S).drop i = s :: (sortN S).drop (i + 1) := by
        rw [List.drop_eq_getElem_cons hil]
        rw [List.getElem?_eq_getElem hil] at hx
        injection hx with hx; rw [hx]
      have hsS : s ∈ S.map (·.1) := sortN_mem.1 (List.mem_of_getElem? hx)
      obtain ⟨x, hxS, hx1, hx2⟩ := snGet_mem hsS
      have hs1 : s.size ≤ 100 := by rw [← hx1]; exact hX.2.2.1.ok.small x hxS
      have hsnm : nmOk s = true := by rw [← hx1]; exact hX.2.2.1.nm x hxS
      obtain ⟨Q, hQ⟩ : ∃ Q, snGet S s = Q := ⟨_, rfl⟩
      have hQV : Val FBx Q := by rw [← hQ, hx2]; exact hX.2.2.1.val x hxS
      have hQT : TabOk Q := by rw [← hQ, hx2]; exact hX.2.2.1.ok.tab x hxS
      have hrd := HRD.out
      rw [hdr, List.flatMap_cons, snapL, hQ, List.append_assoc, List.append_assoc] at hrd
      have hr2 : (((sortN S).drop (i + 1)).flatMap (snapL S) ++ tabL N).length ≤ 500000000000 := by
        have h1 := hX.2.2.2.2.2.1 (i + 1); have h2 := hX.2.2.2.2.2.2
        rw [List.length_append]; omega
      have hr1 : (tabL Q ++ (((sortN S).drop (i + 1)).flatMap (snapL S) ++ tabL N)).length ≤ 1000000000000 := by
        have h1 := tabL_len hQT
        rw [List.length_append]; omega
      have HT1 := Lib.hid (RText_any r s _ 100 wr hrd hs1 (by decide) hr1)
      have hbl : bl last s = true := HLS.out s (by rw [hdr]; simp)
      have hb1 : Op.bytesLess last.toList s.toList = true := hbl
      have hb2 : Op.bytesLess s.toList last.toList = false := bl_asymm hbl
      have hb3 : (s.toList == last.toList) = false := str_ne (bl_ne hbl).symm
      have hsplit : sortN S = (sortN S).take i ++ s :: (sortN S).drop (i + 1) := by rw [← hdr]; exact (List.take_append_drop i _).symm
      have hsrt : ((sortN S).take i ++ s :: (sortN S).drop (i + 1)).Pairwise fun a b => bl a b = true := by rw [← hsplit]; exact sortN_srtd hX.2.2.1.nod
      have HLS2 := Lib.hid (show ∀ y ∈ (sortN S).drop (i + 1), bl s y = true from (List.pairwise_cons.1 (List.pairwise_append.1 hsrt).2.1).1)
      have htk : (sortN S).take (i + 1) = (sortN S).take i ++ [s] := by rw [List.take_add_one, hx]; rfl
      have hso : snE (inOrd S ((sortN S).take i)) s = 0 := by
        have h1 : snHas (inOrd S ((sortN S).take i)) s = false := by
          rw [snHas, List.any_eq_false]
          intro y hy
          obtain ⟨t, ht, rfl⟩ := List.mem_map.1 hy
          have := (List.pairwise_append.1 hsrt).2.2 t ht s (by simp)
          simp only [decide_eq_true_eq]
          exact bl_ne this
        have h2 : (inOrd S ((sortN S).take i)).length < 64 := by
          rw [inOrd, List.length_map, List.length_take]; have := hX.2.2.2.2.1; omega
        rw [snE, if_neg (by rw [hsnm]; decide), if_neg (by rw [h1]; decide), if_neg (by omega)]
      have hsn : snN Q (inOrd S ((sortN S).take i)) s = inOrd S ((sortN S).take (i + 1)) := by
        rw [snN, if_pos hso, htk, inOrd, inOrd, List.map_append, ← hQ]; rfl
      have HQ := Lib.hid (And.intro hQV (And.intro hQT (And.intro hr2 (And.intro hso hsn))))
      have HS1 := Lib.hid hs1
      have HRDX := Lib.hid hrd
      have u1 : IntKind.u64.wrap (((k' + 1 : Nat) : Int) - 1) = (k' : Int) := by rw [IntKind.wrap_u64]; have := hX.2.2.2.2.1; omega
      have u2 : (0 : Int) < ((k' + 1 : Nat) : Int) := by omega
      obtain ⟨kk, hkk⟩ : ∃ kk, k' + 1 = kk := ⟨_, rfl⟩
      rw [hkk] at u1 u2
      try rw [hkk]
      have HKK := Lib.hid hkk
      clear hil hx hdr hsS hx1 hx2 hxS hs1 hsnm hQ hQV hQT hrd hr1 hr2 hbl hsplit hsrt htk hso hsn hkk hX hG
      go_wp2_with fail
      refine HT1.out.mono ?_
      rintro e w4 ⟨rfl, hc4, hrd4⟩
      have hG := HG.out
      have HRD4 := Lib.hid hrd4
      have HNM4 := Lib.hid (HNM.out.chg hc4 (by omega) (fun g cs e => rd_row HRDX.out g cs e))
      have HSN4 := Lib.hid (HSN.out.chg hc4 (by omega) (fun g cs e => rd_row HRDX.out g cs e))
      have HE4 := Lib.hid (HEW.out.chg hc4 (fun x hx => by omega))
      have HB4 := Lib.hid (HBW.out.trans (hc4.below HBW.out.size (fun k hk => by rw [hk]; exact HR.out)))
      have HTH := Lib.hid (things_any HQ.out.1 HQ.out.2.1 HNM4.out _ HRD4.out HQ.out.2.2.1 hG.2.1 hG.1 HE4.out)
      clear hrd4 hc4 hG
      go_wp2_with fail
      refine HTH.out.mono ?_
      rintro e w5 ⟨rfl, hn5, hr5, hc5⟩
      have hG := HG.out
      have HRD5 := Lib.hid hr5
      have HNM5 := Lib.hid hn5
      have HSN5 := Lib.hid (HSN4.out.chg hc5 (by omega) (fun g cs e => by
        rcases e with e | e
        · exact nm_row HNM4.out g cs e
        · exact rd_row HRD4.out g cs e))
      have HE5 := Lib.hid (HE4.out.chg hc5 (fun x hx => by omega))
      have HB5 := Lib.hid (HB4.out.trans (hc5.below HB4.out.size (fun k hk => by have := HR.out; omega)))
      have HSP := Lib.hid (Snap_any hn5 HSN5.out s HE5.out (by have := HS1.out; omega))
      clear hr5 hn5 hc5 hG
      go_wp2_with fail
      refine HSP.out.mono ?_
      rw [HQ.out.2.2.2.1, HQ.out.2.2.2.2]
      rintro e w6 ⟨rfl, hn6, hs6, hc6⟩
      have hG := HG.out
      have HNM6 := Lib.hid hn6
      have HSN6 := Lib.hid hs6
      have HRD6 := Lib.hid (HRD5.out.chg hc6 (fun x hx => by omega))
      have HB6 := Lib.hid (HB5.out.trans (hc6.below HB5.out.size (fun k hk => by rw [hk]; omega)))
      clear hn6 hs6 hc6 hG
      go_wp2_with fail
      go_roundg k'
      case measure => have := HKK.out; omega
      case rel => exact ⟨i + 1, s, _, rfl, by rfl, by have := HKK.out; omega, HLS2, HNM6, HSN6, HRD6, HB6⟩
    · obtain rfl : gk = 0 := by omega
      obtain rfl : i = m := by omega
      have hti : (sortN S).take i = sortN S := List.take_of_length_le (by rw [hX.2.2.2.1]; exact Nat.le_refl _)
      have hdi : (sortN S).drop i = [] := List.drop_of_length_le (by rw [hX.2.2.2.1]; exact Nat.le_refl _)
      have hrd := HRD.out
      rw [hdi, List.flatMap_nil, List.nil_append] at hrd
      have hsn := HSN.out
      rw [hti] at hsn
      have HSNF := Lib.hid hsn
      have hrd0 : Rd wr r (tabL N ++ []) := by rw [List.append_nil]; exact hrd
      have HRD0 := Lib.hid hrd0
      have HTH := Lib.hid (things_any hX.1 hX.2.1 HNM.out [] hrd0 (by simp) hG.2.1 hG.1 HEW.out)
      clear hti hdi hlt hrd hsn hrd0 hX hG
      go_wp2_with fail
      refine HTH.out.mono ?_
      rintro e w5 ⟨rfl, hn5, hr5, hc5⟩
      have hG := HG.out
      have HNM5 := Lib.hid hn5
      have HSN5 := Lib.hid (HSNF.out.chg hc5 (by omega) (fun g cs e => by
        rcases e with e | e
        · exact nm_row HNM.out g cs e
        · exact rd_row HRD0.out g cs e))
      have HB5 := Lib.hid (HBW.out.trans (hc5.below HBW.out.size (fun k hk => by have := HR.out; omega)))
      have HEN := Lib.hid (End_any r w5 hr5)
      clear hr5 hn5 hc5 hG
      go_wp2_with fail
      refine HEN.out.mono ?_
      rintro e w6 ⟨rfl, rfl⟩
      go_wp2_with fail
      go_ret2
      exact ⟨gn, gm, rfl, HNM5.out, HSN5.out, HG.out.2.2.2.2.1, HG.out.2.2.2.2.2, HG.out.2.2.2.1, HB5.out⟩
end Go.Proofs.YtcklcffepedklaaGreatDoor

namespace Go.Proofs.YtcklcffepedklaaGreatDoor
open Go.RowKit

theorem Tryz.infoSec : (Tryz.prog.info? 79).map (fun i => (i.zero, i.size, i.bytes)) = some (some (.agg (List.replicate 128 (Value.int .u8 0)).toArray), 128, 128) := by kernel_rfl
theorem Tryz.infoWr : (Tryz.prog.info? 81).map (fun i => (i.zero, i.size, i.bytes)) = some (some (.agg (Value.int .i64 0 :: List.replicate 128 (Value.int .u8 0)).toArray), 129, 136) := by kernel_rfl
theorem EW : Elem Tryz.prog 53 81 129 136 := by
  obtain ⟨i0, hi, hz0, hz1, hz2⟩ := info_parts Tryz.infoWr
  exact ⟨Tryz.underlying53, ⟨i0, _, hi, hz0, hz1, hz2, rfl⟩, by decide⟩

/-- The cells of a write. -/
def wrC (i : Nat) (b : List Int) : List Value := .int .i64 i :: (b ++ List.replicate (128 - b.length) 0).map (Value.int .u8)
theorem wrC_length {i : Nat} {b : List Int} (h : b.length ≤ 128) : (wrC i b).length = 129 := by simp [wrC]; omega
theorem wrC_one (i : Nat) (b : List Int) : ∀ u ∈ wrC i b, u.oneCell' = true := by
  intro u hu
  rcases List.mem_cons.1 hu with rfl | hu
  · rfl
  · exact ints_one .u8 _ u hu
/-- The cells of writes. -/
def wsC (l : List (Nat × List Int)) : List Value := l.flatMap fun x => wrC x.1 x.2
/-- What a disk has: its sectors as they are, and as they are safe; the writes that are not safe; whether the power is off; when it fails. -/
structure Ds where
  now : List Int
  safe : List Int
  ws : List (Nat × List Int)
  dead : Bool
  fuse : Int
/-- A disk of S sectors. Its blocks meet F. -/
structure Dk (w : World) (gd S : Nat) (d : Ds) (F : Nat → Prop) : Prop where
  ex : ∃ gn gs wv dn, w.heap[gd]? = some (.cells #[.slice (some ⟨gn, 0, none⟩) S S, .slice (some ⟨gs, 0, none⟩) S S, wv, .bool d.dead, .int .i64 d.fuse, .int .i64 dn] 55 (0, 0)) ∧
    w.heap[gn]? = some (.cells (cellsOf d.now) 79 (0, 0)) ∧ w.heap[gs]? = some (.cells (cellsOf d.safe) 79 (0, 0)) ∧ w.ownsRow 0 81 129 wv d.ws.length (wsC d.ws) ∧
    gd ≠ gn ∧ gd ≠ gs ∧ gn ≠ gs ∧ wv.ownBlock ≠ some gd ∧ wv.ownBlock ≠ some gn ∧ wv.ownBlock ≠ some gs ∧ F gn ∧ F gs ∧ (∀ k, wv.ownBlock = some k → F k)
  own : F gd
  len : d.now.length = 128 * S
  len2 : d.safe.length = 128 * S
  byt : Bytes d.now
  byt2 : Bytes d.safe
  wok : ∀ x ∈ d.ws, x.1 < S ∧ x.2.length ≤ 128 ∧ Bytes x.2
  lim : S ≤ 16384
  fus : -1 ≤ d.fuse ∧ d.fuse ≤ 9223372036854775807
theorem ownsRow_chg {w w' : World} {R : Nat → Prop} {B t s : Nat} {v : Value} {n : Nat} {xs : List Value} (h : w.ownsRow B t s v n xs) (hc : Chg R w w') (hR : ∀ k, v.ownBlock = some k → ¬ R k) : w'.ownsRow B t s v n xs := by
  obtain ⟨b1, b2⟩ := h
  refine ⟨b1, ?_⟩
  rcases b2 with b2 | ⟨g, cap, cur, e, b3, b4, b5⟩
  · exact .inl b2
  · exact .inr ⟨g, cap, cur, e, b3, (hc.block g (row_lt b4) (hR g (by rw [e]; rfl))).trans b4, b5⟩
theorem Dk.kept {w w' : World} {gd S : Nat} {d : Ds} {F F' R : Nat → Prop} (h : Dk w gd S d F) (hc : Chg R w w') (h1 : ∀ k, k < w.heap.size → F k → ¬ R k) (h2 : ∀ k, k < w.heap.size → F k → F' k) : Dk w' gd S d F' := by
  obtain ⟨gn, gs, wv, dn, a1, a2, a3, a4, a5, a6, a7, a8, a9, b1, b2, b3, b4⟩ := h.ex
  have k1 := row_lt a1
  have k2 := row_lt a2
  have k3 := row_lt a3
  exact ⟨⟨gn, gs, wv, dn, (hc.block gd k1 (h1 gd k1 h.own)).trans a1, (hc.block gn k2 (h1 gn k2 b2)).trans a2, (hc.block gs k3 (h1 gs k3 b3)).trans a3, ownsRow_chg a4 hc (fun k hk => h1 k (a4.lt k hk).2 (b4 k hk)), a5, a6, a7, a8, a9, b1, h2 gn k2 b2, h2 gs k3 b3, fun k hk => h2 k (a4.lt k hk).2 (b4 k hk)⟩, h2 gd k1 h.own, h.len, h.len2, h.byt, h.byt2, h.wok, h.lim, h.fus⟩
theorem Dk.glt {w : World} {gd S : Nat} {d : Ds} {F : Nat → Prop} (h : Dk w gd S d F) : gd < w.heap.size := by obtain ⟨gn, gs, wv, dn, a1, _⟩ := h.ex; exact row_lt a1
theorem Dk.below {w w' : World} {gd S : Nat} {d : Ds} {F : Nat → Prop} (h : Dk w gd S d F) (hb : Below w.heap.size w w') : Dk w' gd S d F := h.kept (R := fun _ => False) (Chg.belowAt hb) (fun _ _ _ h => h) (fun _ _ h => h)
theorem Dk.bound {w : World} {gd S : Nat} {d : Ds} {F : Nat → Prop} (h : Dk w gd S d F) : Dk w gd S d (fun k => F k ∧ k < w.heap.size) :=
  h.kept (R := fun _ => False) (Chg.refl _ _) (fun _ _ _ h => h) (fun k hk hF => ⟨hF, hk⟩)
/-- A disk's own row changes. -/
theorem Dk.turn {w w' : World} {gd S : Nat} {d : Ds} {F : Nat → Prop} (h : Dk w gd S d F) (dead : Bool) (fuse dn : Int) (hf : -1 ≤ fuse ∧ fuse ≤ 9223372036854775807) (hg : w.grownBy w' (some gd))
    (hr : ∀ n s wv f e g t, w.heap[gd]? = some (.cells #[n, s, wv, f, e, g] t (0, 0)) → w'.heap[gd]? = some (.cells #[n, s, wv, .bool dead, .int .i64 fuse, .int .i64 dn] t (0, 0))) : Dk w' gd S { d with dead := dead, fuse := fuse } F := by
  obtain ⟨gn, gs, wv, dn0, a1, a2, a3, a4, a5, a6, a7, a8, a9, b1, b2, b3, b4⟩ := h.ex
  exact ⟨⟨gn, gs, wv, dn, hr _ _ _ _ _ _ _ a1, (hg.block gn (row_lt a2) (fun e => by injection e with e; exact a5 e.symm)).trans a2, (hg.block gs (row_lt a3) (fun e => by injection e with e; exact a6 e.symm)).trans a3, World.ownsRow.kept a4 hg (.inr a8), a5, a6, a7, a8, a9, b1, b2, b3, b4⟩, h.own, h.len, h.len2, h.byt, h.byt2, h.wok, h.lim, hf⟩

theorem madeCells_rep2 (v : Value) (n m : Nat) (hn : 0 < n) : madeCells (List.replicate n v).toArray m = (List.replicate m v).toArray := by
  apply Array.ext_getElem?
  intro i
  simp only [madeCells, Array.getElem?_map, List.getElem?_toArray, List.getElem?_replicate]
  by_cases h : i < m
  · rw [if_pos h]
    simp [h, Nat.mod_lt _ hn]
  · rw [if_neg h]
    simp [h]
theorem make_sec (S : Nat) (hS : S ≤ 16384) (W : World) : (Instr.makeSlice 52 (.int .i64 (S : Int)) (.int .i64 (S : Int))).run Tryz.prog W = .ok (.slice (some ⟨W.heap.size, 0, none⟩) S S) (W.alloc (.cells (cellsOf (List.replicate (128 * S) 0)) 79)) := by
  obtain ⟨i0, hi, hz0, hz1, hz2⟩ := info_parts Tryz.infoSec
  have := run_make (P := Tryz.prog) (w := W) 52 79 i0 _ Tryz.underlying52 hi hz0 .i64 .i64 (S : Int) (S : Int) (by omega) (Int.le_refl _) (by rw [hz2]; omega) (by omega)
  rw [Int.toNat_natCast, hz1] at this
  rw [this]
  have e : madeCells (Value.cells (.agg (List.replicate 128 (Value.int .u8 0)).toArray)) (S * 128) = cellsOf (List.replicate (128 * S) 0) :=
    (madeCells_rep2 (.int .u8 0) 128 (S * 128) (by decide)).trans (by rw [cellsOf, List.map_replicate, Nat.mul_comm])
  rw [e]
/-- A new disk. -/
def newD (S : Nat) : Ds := ⟨List.replicate (128 * S) 0, List.replicate (128 * S) 0, [], false, -1⟩
theorem rep_bytes (n : Nat) : Bytes (List.replicate n 0) := fun i => by
  rw [List.getD_eq_getElem?_getD, List.getElem?_replicate]
  split <;> simp
/-- What a disk's New does. -/
def NewDk (S : Nat) (w : World) (e : Ending) (w' : World) : Prop := ∃ gd, e = .returned (.tuple #[.pointer (some ⟨gd, 0, none⟩), .int .i64 0]) ∧ Below w.heap.size w w' ∧ Dk w' gd S (newD S) (fun k => w.heap.size ≤ k)
theorem NewDk.leaf {w w4 : World} {S gn gs : Nat} (hS : S ≤ 16384) (hb : Below w.heap.size w w4) (hn : w4.heap[gn]? = some (.cells (cellsOf (List.replicate (128 * S) 0)) 79 (0, 0))) (hs : w4.heap[gs]? = some (.cells (cellsOf (List.replicate (128 * S) 0)) 79 (0, 0))) (h1 : w.heap.size ≤ gn) (h2 : w.heap.size ≤ gs) (hne : gn ≠ gs) :
    Dk (w4.alloc (.cells #[.slice (some ⟨gn, 0, none⟩) S S, .slice (some ⟨gs, 0, none⟩) S S, .slice none 0 0, .bool false, .int .i64 (-1), .int .i64 0] 55)) w4.heap.size S (newD S) (fun k => w.heap.size ≤ k) := by
  have hl := row_lt hn
  have hl2 := row_lt hs
  exact ⟨⟨gn, gs, .slice none 0 0, 0, heap_alloc_last _ _, (Below.heap_alloc _ _ _ hl).trans hn, (Below.heap_alloc _ _ _ hl2).trans hs, World.ownsRow_nil _ _ _ _, by omega, by omega, hne, by simp [Value.ownBlock], by simp [Value.ownBlock], by simp [Value.ownBlock], h1, h2, fun k hk => by simp [Value.ownBlock] at hk⟩, hb.size, by simp [newD], by simp [newD], rep_bytes _, rep_bytes _, by simp [newD], hS, (by show -1 ≤ (-1 : Int) ∧ (-1 : Int) ≤ 9223372036854775807; decide)⟩
set_option maxRecDepth 20000 in
set_option maxHeartbeats 800000 in
theorem DNew_any (S : Nat) (w : World) (hS : S ≤ 16384) : Calls Tryz.prog 5 #[.int .i64 S] w (NewDk S w) := by
  have hmk := make_sec S hS
  obtain ⟨Z, hZ⟩ : ∃ Z, Z = cellsOf (List.replicate (128 * S) 0) := ⟨_, rfl⟩
  rw [← hZ] at hmk
  have HZ := Lib.hid hZ
  clear hZ
  have h1 : ¬ (S : Int) < 0 := by omega
  have h2 : ¬ 16384 < (S : Int) := by omega
  have HN1 := Lib.hid (show ((w.alloc (.cells Z 79)).alloc (.cells Z 79)).heap[w.heap.size]? = some (.cells (cellsOf (List.replicate (128 * S) 0)) 79 (0, 0)) from by
    rw [Below.heap_alloc _ _ _ (by simp), ← HZ.out]; exact heap_alloc_last _ _)
  have HN2 := Lib.hid (show ((w.alloc (.cells Z 79)).alloc (.cells Z 79)).heap[w.heap.size + 1]? = some (.cells (cellsOf (List.replicate (128 * S) 0)) 79 (0, 0)) from by
    rw [← HZ.out]; have := heap_alloc_last (w.alloc (.cells Z 79)) (.cells Z 79); rwa [World.size_alloc] at this)
  go_enter Tryz.func5, Tryz.ntmps5
  go_upto_region 3 with (fail)
  go_region
  · go_wp2
    go_ret2
    have hb : Below w.heap.size w ((w.alloc (.cells Z 79)).alloc (.cells Z 79)) := ((Below.refl _ _).alloc (Nat.le_refl _) _).alloc (by simp) _
    have hL := NewDk.leaf (gn := w.heap.size) (gs := w.heap.size + 1) hS hb HN1.out HN2.out (Nat.le_refl _) (by omega) (by omega)
    simp only [World.size_alloc] at hL
    exact ⟨_, rfl, (hb.alloc (by simp; omega) _).drew, hL.below (Below.refl _ _).drew⟩
  · go_wp2
    go_ret2
    have hb : Below w.heap.size w ((w.alloc (.cells Z 79)).alloc (.cells Z 79)) := ((Below.refl _ _).alloc (Nat.le_refl _) _).alloc (by simp) _
    have hL := NewDk.leaf (gn := w.heap.size + 1) (gs := w.heap.size) hS hb HN2.out HN1.out (by omega) (Nat.le_refl _) (by omega)
    simp only [World.size_alloc] at hL
    exact ⟨_, rfl, (hb.alloc (by simp; omega) _).drew, hL.below (Below.refl _ _).drew⟩

/-- Power, ahead of an operation. -/
def pwD (d : Ds) : Ds := if d.fuse = 0 then { d with dead := true, fuse := -1 } else if d.dead = true then d else { d with fuse := if 0 < d.fuse then d.fuse - 1 else d.fuse }
def pwE (d : Ds) : Int := if d.fuse = 0 then 6 else if d.dead = true then 6 else 0
section
variable {w : World} {gd S : Nat} {d : Ds} {F : Nat → Prop}
theorem DSize_any (h : Dk w gd S d F) : Calls Tryz.prog 20 #[.pointer (some ⟨gd, 0, none⟩)] w fun e w' => e = .returned (.int .i64 S) ∧ w = w' := by
  obtain ⟨gn, gs, wv, dn, a1, _⟩ := h.ex
  have c0 : w.cell? ⟨gd, 0, none⟩ = some (.slice (some ⟨gn, 0, none⟩) S S) := by rw [cell_of_row _ _ _ _ _ _ a1]; rfl
  clear h a1
  go_enter Tryz.func20, Tryz.ntmps20
  go_wp2
  go_ret
  exact ⟨rfl, rfl⟩
theorem DDead_any (h : Dk w gd S d F) : Calls Tryz.prog 12 #[.pointer (some ⟨gd, 0, none⟩)] w fun e w' => e = .returned (.bool d.dead) ∧ w = w' := by
  obtain ⟨gn, gs, wv, dn, a1, _⟩ := h.ex
  have c3 : w.cell? ⟨gd, 3, none⟩ = some (.bool d.dead) := by rw [cell_of_row _ _ _ _ _ _ a1]; rfl
  obtain ⟨b, hb⟩ : ∃ b, d.dead = b := ⟨_, rfl⟩
  rw [hb] at c3 ⊢
  clear h a1 hb
  go_enter Tryz.func12, Tryz.ntmps12
  go_wp2
  go_ret
  exact ⟨rfl, rfl⟩
/-- Dead, or to be alive again: a row's three last cells. -/
theorem row_turn {W : World} {n s wv f e g : Value} {t : TypeId} (dead : Bool) (fuse : Int) (h : W.heap[gd]? = some (.cells #[n, s, wv, f, e, g] t (0, 0))) :
    ((W.setCell ⟨gd, 3, none⟩ (.bool dead)).setCell ⟨gd, 4, none⟩ (.int .i64 fuse)).heap[gd]? = some (.cells #[n, s, wv, .bool dead, .int .i64 fuse, g] t (0, 0)) := by
  have h1 : (W.setCell ⟨gd, 3, none⟩ (.bool dead)).heap[gd]? = some (.cells #[n, s, wv, .bool dead, e, g] t (0, 0)) := by rw [setCell_row h]; rfl
  rw [setCell_row h1]; rfl
theorem powered_any (h : Dk w gd S d F) : Calls Tryz.prog 88 #[.pointer (some ⟨gd, 0, none⟩)] w fun e w' => e = .returned (.int .i64 (pwE d)) ∧ w.grownBy w' (some gd) ∧ Dk w' gd S (pwD d) F ∧ w'.heap.size = w.heap.size := by
  obtain ⟨gn, gs, wv, dn, a1, _⟩ := h.ex
  obtain ⟨hf1, hf2⟩ := h.fus
  obtain ⟨dead, hdead⟩ : ∃ b, d.dead = b := ⟨_, rfl⟩
  obtain ⟨fuse, hfuse⟩ : ∃ b, d.fuse = b := ⟨_, rfl⟩
  rw [hfuse] at hf1 hf2
  have c3 : w.cell? ⟨gd, 3, none⟩ = some (.bool dead) := by rw [cell_of_row _ _ _ _ _ _ a1, ← hdead]; rfl
  have c4 : w.cell? ⟨gd, 4, none⟩ = some (.int .i64 fuse) := by rw [cell_of_row _ _ _ _ _ _ a1, ← hfuse]; rfl
  have c5 : w.cell? ⟨gd, 5, none⟩ = some (.int .i64 dn) := by rw [cell_of_row _ _ _ _ _ _ a1]; rfl
  have f3 := free_row a1 3
  have f4 := free_row a1 4
  have f5 := free_row a1 5
  have HD := Lib.hid h
  have HE := Lib.hid (And.intro hdead hfuse)
  by_cases h0 : fuse = 0
  · subst h0
    have hg : w.grownBy ((w.setCell ⟨gd, 3, none⟩ (.bool true)).setCell ⟨gd, 4, none⟩ (.int .i64 (-1))) (some gd) := (grown_setCell w gd 3 _).trans (grown_setCell _ gd 4 _)
    have HF := Lib.hid (And.intro hg (show Dk ((w.setCell ⟨gd, 3, none⟩ (.bool true)).setCell ⟨gd, 4, none⟩ (.int .i64 (-1))) gd S (pwD d) F from by
      rw [pwD, if_pos hfuse]
      refine h.turn true (-1) dn (by decide) hg (fun n s wv' f e g t hr => ?_)
      rw [row_turn true (-1) hr]
      rw [hr] at a1
      injection a1 with a1
      simp only [Obj.cells.injEq, Array.mk.injEq, List.cons.injEq] at a1
      rw [a1.1.2.2.2.2.2.1]))
    clear h a1 hg hdead hfuse hf1 hf2
    go_enter Tryz.func88, Tryz.ntmps88
    go_wp2
    go_ret
    exact ⟨by rw [pwE, if_pos HE.out.2]; rfl, HF.out.1, HF.out.2, by simp [World.setCell]⟩
  cases dead with
  | true =>
    clear h a1 hdead hfuse hf1 hf2
    go_enter Tryz.func88, Tryz.ntmps88
    go_wp2
    go_ret
    refine ⟨by rw [pwE, if_neg (by rw [HE.out.2]; exact h0), if_pos HE.out.1]; rfl, World.grownBy.refl _ _, ?_, rfl⟩
    rw [pwD, if_neg (by rw [HE.out.2]; exact h0), if_pos HE.out.1]
    exact HD.out
  | false =>
    by_cases h1 : 0 < fuse
    · have e1 : IntKind.i64.wrap (fuse - 1) = fuse - 1 := by rw [IntKind.wrap_i64]; omega
      have hg : w.grownBy ((w.setCell ⟨gd, 5, none⟩ (.int .i64 (wrap64 (dn + 1)))).setCell ⟨gd, 4, none⟩ (.int .i64 (fuse - 1))) (some gd) := (grown_setCell w gd 5 _).trans (grown_setCell _ gd 4 _)
      have HF := Lib.hid (And.intro hg (show Dk ((w.setCell ⟨gd, 5, none⟩ (.int .i64 (wrap64 (dn + 1)))).setCell ⟨gd, 4, none⟩ (.int .i64 (fuse - 1))) gd S (pwD d) F from by
        rw [pwD, hfuse, hdead, if_neg h0, if_neg (by simp), if_pos h1]
        have := h.turn false (fuse - 1) (wrap64 (dn + 1)) (by omega) hg (fun n s wv' f e g t hr => by
          have hr1 : (w.setCell ⟨gd, 5, none⟩ (.int .i64 (wrap64 (dn + 1)))).heap[gd]? = some (.cells #[n, s, wv', f, e, .int .i64 (wrap64 (dn + 1))] t (0, 0)) := by rw [setCell_row hr]; rfl
          rw [setCell_row hr1]
          rw [hr] at a1
          injection a1 with a1
          simp only [Obj.cells.injEq, Array.mk.injEq, List.cons.injEq] at a1
          rw [a1.1.2.2.2.1, hdead]; rfl)
        rw [← hdead] at this
        rw [← hdead]; exact this))
      clear h a1 hg hdead hfuse hf1 hf2
      go_enter Tryz.func88, Tryz.ntmps88
      go_wp2
      go_ret
      exact ⟨by rw [pwE, if_neg (by rw [HE.out.2]; exact h0), if_neg (by rw [HE.out.1]; simp)]; rfl, HF.out.1, HF.out.2, by simp [World.setCell]⟩
    · have hg : w.grownBy (w.setCell ⟨gd, 5, none⟩ (.int .i64 (wrap64 (dn + 1)))) (some gd) := grown_setCell w gd 5 _
      have HF := Lib.hid (And.intro hg (show Dk (w.setCell ⟨gd, 5, none⟩ (.int .i64 (wrap64 (dn + 1)))) gd S (pwD d) F from by
        rw [pwD, hfuse, hdead, if_neg h0, if_neg (by simp), if_neg h1]
        have := h.turn false fuse (wrap64 (dn + 1)) (by omega) hg (fun n s wv' f e g t hr => by
          rw [setCell_row hr]
          rw [hr] at a1
          injection a1 with a1
          simp only [Obj.cells.injEq, Array.mk.injEq, List.cons.injEq] at a1
          rw [a1.1.2.2.2.1, a1.1.2.2.2.2.1, hdead, hfuse]; rfl)
        rw [← hdead] at this
        rw [← hdead]; exact this))
      clear h a1 hg hdead hfuse hf1 hf2
      go_enter Tryz.func88, Tryz.ntmps88
      go_wp2
      go_ret
      exact ⟨by rw [pwE, if_neg (by rw [HE.out.2]; exact h0), if_neg (by rw [HE.out.1]; simp)]; rfl, HF.out.1, HF.out.2, by simp [World.setCell]⟩
end
end Go.Proofs.YtcklcffepedklaaGreatDoor
