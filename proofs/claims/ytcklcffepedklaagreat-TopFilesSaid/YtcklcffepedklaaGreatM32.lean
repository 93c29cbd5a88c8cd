/- Texts of the proof, one behind the other: extent: Join, of extents that all begin at 0. extent: Slice. -/
import Derived.Test.YtcklcffepedklaaGreatM31
namespace Go.Proofs.YtcklcffepedklaaGreat
open Go.RowKit Go.Maps

/-- Lists of extents, one behind the other. -/
def XsAt (w : World) (A : Option Addr) (LL : List (List Rw)) : Prop := ∀ (i : Nat) (l : List Rw), LL[i]? = some l → ∃ g X c, A = some ⟨g, 0, none⟩ ∧ w.cell? ⟨g, i, none⟩ = some (.slice X l.length c) ∧ XAt w X l
theorem XsAt.below {w w' : World} {A : Option Addr} {LL : List (List Rw)} (h : XsAt w A LL) (hb : Below w.heap.size w w') : XsAt w' A LL := fun i l hi => by
  obtain ⟨g, X, c, e, hc, hx⟩ := h i l hi
  exact ⟨g, X, c, e, (hb.cell (p := ⟨g, i, none⟩) (cell_lt hc)).trans hc, hx.below hb⟩
theorem flatR_snoc' (l : List Rw) (r : Rw) : flatR (l ++ [r]) = flatR l ++ encR r := by simp [flatR]
theorem build_rowX (r : Rw) (W : World) : (Instr.buildSlice 33 1 #[(0, .agg (encR r).toArray)]).run Tryz.prog W = .ok (.slice (some ⟨W.heap.size, 0, none⟩) 1 1) (W.alloc (.cells (encR r).toArray 69)) :=
  build_one (P := Tryz.prog) (z := .agg zR) (vs := encR r) (s := 35) Tryz.underlying33 (fun _ => by kernel_rfl) zeroX (encR_length r) (by decide) (by decide) (.agg (encR r).toArray) rfl W
theorem flat_take {α : Type} {LL : List (List α)} {p : Nat} {l : List α} (h : LL[p]? = some l) : (LL.take (p + 1)).flatten = (LL.take p).flatten ++ l := by
  rw [List.take_add_one, h]; simp
theorem flat_le {α : Type} (LL : List (List α)) (p : Nat) : (LL.take p).flatten.length ≤ LL.flatten.length := by
  have := congrArg (fun l => l.flatten.length) (List.take_append_drop p LL)
  simp only [List.flatten_append, List.length_append] at this
  omega
set_option maxRecDepth 20000 in
set_option maxHeartbeats 1600000 in
theorem Join_any (A : Option Addr) (n c : Nat) (LL : List (List Rw)) (w : World) (hn : LL.length = n) (hA : XsAt w A LL) (hR : ∀ l ∈ LL, RightX l) (hRF : RightX LL.flatten) (h0 : ∀ r ∈ LL.flatten, r.val.2.1 = 0) (hn1 : n ≤ 1000) :
    Calls Tryz.prog 13 #[.slice A n c] w fun e w' => ∃ v, e = .returned v ∧ OwnX w' w.heap.size v LL.flatten ∧ Below w.heap.size w w' := by
  have HN := Lib.hid hn
  have HA := Lib.hid hA
  have HR := Lib.hid hR
  have HRF := Lib.hid hRF
  have H0 := Lib.hid h0
  have HZX := Lib.hid zeroX
  clear hn hA hR hRF h0
  go_enter Tryz.func13, Tryz.ntmps13
  go_upto_region 3 with (fail)
  go_loopg [3, 11] n (fun kq v3 v11 w' => ∃ (p : Nat) (A3 : Option Addr) (c3 : Nat) (acc : List Rw), v11 = .int .i64 (p : Int) ∧ p + kq = n ∧ v3 = .slice A3 acc.length c3 ∧ OwnX w' w.heap.size (.slice A3 acc.length c3) acc ∧ Below w.heap.size w w' ∧ acc = (LL.take p).flatten)
  case atStart => exact ⟨0, none, 0, [], rfl, by omega, rfl, World.ownsRow_nil _ _ _ _, Below.refl _ _, by simp⟩
  case round =>
    obtain ⟨p, A3, c3, acc, rfl, hp, rfl, ho, hb, hacc⟩ := hrel
    by_cases hlt : p < n
    · obtain ⟨l, hl⟩ : ∃ l, LL[p]? = some l := ⟨_, List.getElem?_eq_getElem (by have := HN.out; omega)⟩
      obtain ⟨g, X, c5, rfl, hcw, hx⟩ := HA.out p l hl
      have hc5 := (hb.cell (p := ⟨g, p, none⟩) (cell_lt hcw)).trans hcw
      have hp0 : (0 : Int) ≤ (p : Int) := by omega
      have hp1 : (p : Int) < (n : Int) := by omega
      have HRI := Lib.hid (Right_any X l.length c5 l wr rfl (HR.out l (List.mem_of_getElem? hl)) (hx.below hb))
      have HX := Lib.hid hx
      have HO := Lib.hid ho
      have HB := Lib.hid hb
      have HL := Lib.hid (And.intro hl hacc)
      have hll : l.length ≤ 16384 := (HR.out l (List.mem_of_getElem? hl)).len
      obtain ⟨nl, hnl⟩ : ∃ nl, l.length = nl := ⟨_, rfl⟩
      rw [hnl] at HRI hc5 hll
      have HNL := Lib.hid hnl
      have hal : acc.length ≤ 16384 := by rw [hacc]; exact Nat.le_trans (flat_le LL p) HRF.out.len
      clear ho hb hl hx hacc hnl hcw
      go_wp2_with fail
      refine HRI.out.mono ?_
      rintro e w2 ⟨rfl, hb2⟩
      have HB2 := Lib.hid (HB.out.trans (hb2.mono HB.out.size))
      have HO2 := Lib.hid (own_chg (R := fun _ => False) HO.out (Chg.belowAt hb2) (fun _ _ h => h))
      clear hb2 HRI HO HB hc5
      go_upto_region 8 with (fail)
      go_loopg [3, 20] nl (fun kq v3 v20 w' => ∃ (i : Nat) (A3 : Option Addr) (c3 : Nat) (ac2 : List Rw), v20 = .int .i64 (i : Int) ∧ i + kq = nl ∧ v3 = .slice A3 ac2.length c3 ∧ OwnX w' w.heap.size (.slice A3 ac2.length c3) ac2 ∧ Below w.heap.size w w' ∧ ac2 = acc ++ l.take i)
      case atStart => exact ⟨0, A3, c3, acc, rfl, by omega, rfl, HO2.out, HB2.out, by simp⟩
      case round =>
        obtain ⟨i, A4, c4, ac2, rfl, hi, rfl, ho, hb, hac⟩ := hrel
        have HO4 := Lib.hid ho
        have HB4 := Lib.hid hb
        have hal2 : ac2.length ≤ 32768 := by
          have h1 := congrArg List.length hac
          rw [List.length_append, List.length_take] at h1
          have := HNL.out
          omega
        by_cases hli : i < nl
        · obtain ⟨r, hr⟩ : ∃ r, l[i]? = some r := ⟨_, List.getElem?_eq_getElem (by have := HNL.out; omega)⟩
          obtain ⟨gx, rfl, hrx⟩ := (HX.out.below hb) i r hr
          have HRX := Lib.hid hrx
          have hi0 : (0 : Int) ≤ (i : Int) := by omega
          have hi1 : (i : Int) < (nl : Int) := by omega
          have hrF : r ∈ LL.flatten := List.mem_flatten.2 ⟨l, List.mem_of_getElem? HL.out.1, List.mem_of_getElem? hr⟩
          have HRO := Lib.hid (And.intro (H0.out r hrF) r.property)
          have HAC := Lib.hid (show ac2 ++ [r] = acc ++ l.take (i + 1) by rw [hac, List.append_assoc, List.take_add_one, hr]; rfl)
          have HAF := Lib.hid (show ∀ y ∈ ac2, y ∈ LL.flatten from fun y hy => by
            rw [hac, HL.out.2] at hy
            rcases List.mem_append.1 hy with hy | hy
            · obtain ⟨z, hz, hyz⟩ := List.mem_flatten.1 hy
              exact List.mem_flatten.2 ⟨z, List.mem_of_mem_take hz, hyz⟩
            · exact List.mem_flatten.2 ⟨l, List.mem_of_getElem? HL.out.1, List.mem_of_mem_take hy⟩)
          clear ho hb hac hr hrx hrF
          go_upto_region 10 with (first | (with_reducible refine Go.wpList_load_mid rfl 69 _ rfl gx (i * 35) rfl (encR r) _ HRX.out Tryz.underlying69 rfl (sizeX r) ?_) | (with_reducible refine wpList_fresh rfl rfl 69 rfl _ _ rfl (encR r).toArray zR (fun _ => rfl) (fun _ => rfl) HZX.out (sizeXA r) (zR_size r) (all_one (encR_one r)) ?_; intro g7 w5 hg7 hr7 hb7))
          have HB5 := Lib.hid (HB4.out.trans (hb7.out.mono HB4.out.size))
          have HO5 := Lib.hid (own_chg (R := fun _ => False) HO4.out (Chg.belowAt hb7.out) (fun _ _ h => h))
          have HR7 := hr7
          have hs7 := HB4.out.size
          have hs75 := hb7.out.size
          have HS5 := Lib.hid (And.intro hs7 hs75)
          clear hr7 hb7 hg7 hs7 hs75
          obtain ⟨na, hna⟩ : ∃ na, ac2.length = na := ⟨_, rfl⟩
          rw [hna] at hal2 ⊢
          have HNA := Lib.hid hna
          clear hna
          obtain ⟨bb, hbb⟩ : ∃ bb : Bool, decide (0 < na) = bb := ⟨_, rfl⟩
          have HBB := Lib.hid hbb
          go_upto_if 26 with (fail)
          clear hbb
          go_cut [8] from 27 to 61 (fun v8 w' => Below w5.heap.size w5 w')
          case first =>
            cases bb with
            | false =>
              go_wp2_with fail
              go_meet
              case rel => exact Below.refl _ _
            | true =>
              obtain ⟨m, rfl⟩ : ∃ m, na = m + 1 := ⟨na - 1, by have := HBB.out; simp at this; omega⟩
              obtain ⟨r1, hr1⟩ : ∃ r1, ac2[m]? = some r1 := ⟨_, List.getElem?_eq_getElem (by have := HNA.out; omega)⟩
              obtain ⟨go, rfl, hro⟩ := ownR_range HO5.out hr1
              have hrm := HAF.out r1 (List.mem_of_getElem? hr1)
              have hpos := (HRF.out.all r1 hrm).pos
              have hlim := (HRF.out.all r1 hrm).lim
              have HK1 := Lib.hid (show w5.rangeAt go (m * 35) r1.val.1.cells from by have := range_take hro 33; rw [encR_take] at this; exact this)
              have HKO1 := Lib.hid r1.property
              have HK7 := Lib.hid (show w5.rangeAt g7 0 r.val.1.cells from by have := range_take (range_row HR7.out) 33; rw [encR_take] at this; exact this)
              have HCO := Lib.hid (show w5.cell? ⟨go, m * 35 + 33, none⟩ = some (.int .i64 (r1.val.2.1 : Nat)) from range_cell hro (encR_33 r1))
              have HCL := Lib.hid (show w5.cell? ⟨go, m * 35 + 34, none⟩ = some (.int .i64 (r1.val.2.2 : Nat)) from range_cell hro (encR_34 r1))
              have HCX := Lib.hid (show w5.cell? ⟨g7, 33, none⟩ = some (.int .i64 0) from by have := row_at HR7.out (encR_33 r); rw [HRO.out.1] at this; exact this)
              have HLO := Lib.hid (show go < w5.heap.size ∧ g7 < w5.heap.size from ⟨range_lt hro (by rw [encR_length]; decide), row_lt HR7.out⟩)
              obtain ⟨o1, ho1⟩ : ∃ o1, r1.val.2.1 = o1 := ⟨_, rfl⟩
              obtain ⟨m1, hm1⟩ : ∃ m1, r1.val.2.2 = m1 := ⟨_, rfl⟩
              rw [ho1] at HCO hlim
              rw [hm1] at HCL hlim hpos
              have hm0 : (0 : Int) ≤ (m : Int) := by omega
              have hm9 : (m : Int) < (m : Int) + 1 := by omega
              obtain ⟨sx, hsx⟩ : ∃ sx, o1 + m1 = sx := ⟨_, rfl⟩
              have hne : ((sx : Int) == 0) = false := by simp; omega
              have hww : IntKind.i64.wrap ((o1 : Int) + (m1 : Int)) = (sx : Int) := by simp [IntKind.wrap, IntKind.bits, IntKind.signed]; omega
              clear hsx
              obtain ⟨kb, hkb⟩ : ∃ kb : Bool, decide (r1.val.1 = r.val.1) = kb := ⟨_, rfl⟩
              have HEQ := Lib.hid (fun (W : World) => run_eqK r1.val.1 r.val.1 r1.property r.property W)
              rw [hkb] at HEQ
              clear hr1 hro hrm ho1 hm1 hkb
              go_upto_region 12 with (fail)
              cases kb with
              | true =>
                --[12
                refine wp_region_held_drew (S := fun w' => Below w5.heap.size w5 w') (by kernel_rfl) ((Below.refl _ _).drew) (fun hHeld => ?_)
                refine held_take 0 (some 32) (v := ?_) rfl rfl (by kernel_rfl) (by kernel_rfl) (by kernel_rfl) (fun _ _ _ h => h) (Or.inl ⟨by rfl, ?_⟩) hHeld ?_
                rotate_left
                · (intro w' hSw; clear hSw; go_simp; try with_reducible rfl)
                try simp only [Act.put, List.setIfInBounds_toArray, List.set_cons_zero, List.set_cons_succ]
                refine held_take 1 (some 33) (v := ?_) rfl rfl (by kernel_rfl) (by kernel_rfl) (by kernel_rfl) (fun _ _ _ h => h) (Or.inl ⟨by rfl, ?_⟩) hHeld ?_
                rotate_left
                · (intro w' hSw; clear hSw; go_simp; try with_reducible rfl)
                try simp only [Act.put, List.setIfInBounds_toArray, List.set_cons_zero, List.set_cons_succ]
                refine held_take 2 (some 34) (v := ?_) rfl rfl (by kernel_rfl) (by kernel_rfl) (by kernel_rfl) (fun _ _ _ h => h) (Or.inl ⟨by rfl, ?_⟩) hHeld ?_
                rotate_left
                · (intro w' hSw; clear hSw; go_simp; try with_reducible rfl)
                try simp only [Act.put, List.setIfInBounds_toArray, List.set_cons_zero, List.set_cons_succ]
                refine held_take 3 (some 35) (v := .agg (r1.val.1.cells).toArray) rfl rfl (by kernel_rfl) (by kernel_rfl) (by kernel_rfl) (fun _ _ _ h => h) (yieldsIf_load_mid (by rfl) 64 _ rfl go ((m * 35)) rfl (r1.val.1.cells) _ (fun w' h => rangeAt_block HK1.out (h.block go HLO.out.1)) Tryz.underlying64 rfl (sizeK HKO1.out)) hHeld ?_
                try simp only [Act.put, List.setIfInBounds_toArray, List.set_cons_zero, List.set_cons_succ]
                refine held_take 4 (some 36) (v := ?_) rfl rfl (by kernel_rfl) (by kernel_rfl) (by kernel_rfl) (fun _ _ _ h => h) (Or.inl ⟨by rfl, ?_⟩) hHeld ?_
                rotate_left
                · (intro w' hSw; clear hSw; go_simp; try with_reducible rfl)
                try simp only [Act.put, List.setIfInBounds_toArray, List.set_cons_zero, List.set_cons_succ]
                refine held_take 5 (some 37) (v := .agg (r.val.1.cells).toArray) rfl rfl (by kernel_rfl) (by kernel_rfl) (by kernel_rfl) (fun _ _ _ h => h) (yieldsIf_load_mid (by rfl) 64 _ rfl g7 (0) rfl (r.val.1.cells) _ (fun w' h => rangeAt_block HK7.out (h.block g7 HLO.out.2)) Tryz.underlying64 rfl (sizeK HRO.out.2)) hHeld ?_
                try simp only [Act.put, List.setIfInBounds_toArray, List.set_cons_zero, List.set_cons_succ]
                refine held_take 6 (some 38) (v := .bool true) rfl rfl (by kernel_rfl) (by kernel_rfl) (by kernel_rfl) (fun _ _ _ h => h) (yields_val (by go_simp) (fun W _ => exec_eqK .eql _ _ _ rfl (.agg r1.val.1.cells.toArray) (.agg r.val.1.cells.toArray) _ (by go_simp) (by go_simp) (guardK _ _ _ _ _ _) (HEQ.out W))) hHeld ?_
                try simp only [Act.put, List.setIfInBounds_toArray, List.set_cons_zero, List.set_cons_succ]
                refine held_take 7 (some 39) (v := ?_) rfl rfl (by kernel_rfl) (by kernel_rfl) (by kernel_rfl) (fun _ _ _ h => h) (Or.inl ⟨by rfl, ?_⟩) hHeld ?_
                rotate_left
                · (intro w' hSw; clear hSw; go_simp; try with_reducible rfl)
                try simp only [Act.put, List.setIfInBounds_toArray, List.set_cons_zero, List.set_cons_succ]
                refine held_take 8 (some 40) (v := ?_) rfl rfl (by kernel_rfl) (by kernel_rfl) (by kernel_rfl) (fun _ _ _ h => h) (Or.inl ⟨by rfl, ?_⟩) hHeld ?_
                rotate_left
                · (intro w' hSw; clear hSw; go_simp; try with_reducible rfl)
                try simp only [Act.put, List.setIfInBounds_toArray, List.set_cons_zero, List.set_cons_succ]
                refine held_take 9 (some 41) (v := ?_) rfl rfl (by kernel_rfl) (by kernel_rfl) (by kernel_rfl) (fun _ _ _ h => h) (Or.inl ⟨by rfl, ?_⟩) hHeld ?_
                rotate_left
                · (intro w' hSw; clear hSw; go_simp; try with_reducible rfl)
                try simp only [Act.put, List.setIfInBounds_toArray, List.set_cons_zero, List.set_cons_succ]
                refine held_take 10 (some 42) (v := ?_) rfl rfl (by kernel_rfl) (by kernel_rfl) (by kernel_rfl) (fun _ _ _ h => h) (Or.inl ⟨by rfl, ?_⟩) hHeld ?_
                rotate_left
                · (intro w' hSw; clear hSw; go_simp; try with_reducible rfl)
                try simp only [Act.put, List.setIfInBounds_toArray, List.set_cons_zero, List.set_cons_succ]
                refine held_take 11 (some 43) (v := ?_) rfl rfl (by kernel_rfl) (by kernel_rfl) (by kernel_rfl) (fun _ _ _ h => h) (Or.inl ⟨by rfl, ?_⟩) hHeld ?_
                rotate_left
                · (intro w' hSw; have pf := (hSw.cell (p := ⟨go, m * 35 + 33, none⟩) HLO.out.1).trans HCO.out; clear hSw; go_simp; try with_reducible rfl)
                try simp only [Act.put, List.setIfInBounds_toArray, List.set_cons_zero, List.set_cons_succ]
                refine held_take 12 (some 44) (v := ?_) rfl rfl (by kernel_rfl) (by kernel_rfl) (by kernel_rfl) (fun _ _ _ h => h) (Or.inl ⟨by rfl, ?_⟩) hHeld ?_
                rotate_left
                · (intro w' hSw; clear hSw; go_simp; try with_reducible rfl)
                try simp only [Act.put, List.setIfInBounds_toArray, List.set_cons_zero, List.set_cons_succ]
                refine held_take 13 (some 45) (v := ?_) rfl rfl (by kernel_rfl) (by kernel_rfl) (by kernel_rfl) (fun _ _ _ h => h) (Or.inl ⟨by rfl, ?_⟩) hHeld ?_
                rotate_left
                · (intro w' hSw; clear hSw; go_simp; try with_reducible rfl)
                try simp only [Act.put, List.setIfInBounds_toArray, List.set_cons_zero, List.set_cons_succ]
                refine held_take 14 (some 46) (v := ?_) rfl rfl (by kernel_rfl) (by kernel_rfl) (by kernel_rfl) (fun _ _ _ h => h) (Or.inl ⟨by rfl, ?_⟩) hHeld ?_
                rotate_left
                · (intro w' hSw; clear hSw; go_simp; try with_reducible rfl)
                try simp only [Act.put, List.setIfInBounds_toArray, List.set_cons_zero, List.set_cons_succ]
                refine held_take 15 (some 47) (v := ?_) rfl rfl (by kernel_rfl) (by kernel_rfl) (by kernel_rfl) (fun _ _ _ h => h) (Or.inl ⟨by rfl, ?_⟩) hHeld ?_
                rotate_left
                · (intro w' hSw; have pf := (hSw.cell (p := ⟨go, m * 35 + 34, none⟩) HLO.out.1).trans HCL.out; clear hSw; go_simp; try with_reducible rfl)
                try simp only [Act.put, List.setIfInBounds_toArray, List.set_cons_zero, List.set_cons_succ]
                refine held_take 16 (some 48) (v := ?_) rfl rfl (by kernel_rfl) (by kernel_rfl) (by kernel_rfl) (fun _ _ _ h => h) (Or.inl ⟨by rfl, ?_⟩) hHeld ?_
                rotate_left
                · (intro w' hSw; clear hSw; go_simp; try with_reducible rfl)
                try simp only [Act.put, List.setIfInBounds_toArray, List.set_cons_zero, List.set_cons_succ]
                refine held_take 17 (some 49) (v := ?_) rfl rfl (by kernel_rfl) (by kernel_rfl) (by kernel_rfl) (fun _ _ _ h => h) (Or.inl ⟨by rfl, ?_⟩) hHeld ?_
                rotate_left
                · (intro w' hSw; clear hSw; go_simp; try with_reducible rfl)
                try simp only [Act.put, List.setIfInBounds_toArray, List.set_cons_zero, List.set_cons_succ]
                refine held_take 18 (some 50) (v := ?_) rfl rfl (by kernel_rfl) (by kernel_rfl) (by kernel_rfl) (fun _ _ _ h => h) (Or.inl ⟨by rfl, ?_⟩) hHeld ?_
                rotate_left
                · (intro w' hSw; have pf := (hSw.cell (p := ⟨g7, 33, none⟩) HLO.out.2).trans HCX.out; clear hSw; go_simp; try with_reducible rfl)
                try simp only [Act.put, List.setIfInBounds_toArray, List.set_cons_zero, List.set_cons_succ]
                refine held_take 19 (some 51) (v := ?_) rfl rfl (by kernel_rfl) (by kernel_rfl) (by kernel_rfl) (fun _ _ _ h => h) (Or.inl ⟨by rfl, ?_⟩) hHeld ?_
                rotate_left
                · (intro w' hSw; clear hSw; go_simp; try with_reducible rfl)
                try simp only [Act.put, List.setIfInBounds_toArray, List.set_cons_zero, List.set_cons_succ]
                refine held_take 20 (some 52) (v := ?_) rfl rfl (by kernel_rfl) (by kernel_rfl) (by kernel_rfl) (fun _ _ _ h => h) (Or.inl ⟨by rfl, ?_⟩) hHeld ?_
                rotate_left
                · (intro w' hSw; clear hSw; go_simp; try with_reducible rfl)
                try simp only [Act.put, List.setIfInBounds_toArray, List.set_cons_zero, List.set_cons_succ]
                refine wpAnyH_done (by kernel_rfl) ?_ _
                --]12
                have HB6 := Lib.hid hHeld
                clear hHeld
                go_simp
                go_wp2_with fail
                go_meet
                case rel => exact HB6.out
              | false =>
                --[13
                refine wp_region_held_drew (S := fun w' => Below w5.heap.size w5 w') (by kernel_rfl) ((Below.refl _ _).drew) (fun hHeld => ?_)
                refine held_take 0 (some 32) (v := ?_) rfl rfl (by kernel_rfl) (by kernel_rfl) (by kernel_rfl) (fun _ _ _ h => h) (Or.inl ⟨by rfl, ?_⟩) hHeld ?_
                rotate_left
                · (intro w' hSw; clear hSw; go_simp; try with_reducible rfl)
                try simp only [Act.put, List.setIfInBounds_toArray, List.set_cons_zero, List.set_cons_succ]
                refine held_take 1 (some 33) (v := ?_) rfl rfl (by kernel_rfl) (by kernel_rfl) (by kernel_rfl) (fun _ _ _ h => h) (Or.inl ⟨by rfl, ?_⟩) hHeld ?_
                rotate_left
                · (intro w' hSw; clear hSw; go_simp; try with_reducible rfl)
                try simp only [Act.put, List.setIfInBounds_toArray, List.set_cons_zero, List.set_cons_succ]
                refine held_take 2 (some 34) (v := ?_) rfl rfl (by kernel_rfl) (by kernel_rfl) (by kernel_rfl) (fun _ _ _ h => h) (Or.inl ⟨by rfl, ?_⟩) hHeld ?_
                rotate_left
                · (intro w' hSw; clear hSw; go_simp; try with_reducible rfl)
                try simp only [Act.put, List.setIfInBounds_toArray, List.set_cons_zero, List.set_cons_succ]
                refine held_take 3 (some 35) (v := .agg (r1.val.1.cells).toArray) rfl rfl (by kernel_rfl) (by kernel_rfl) (by kernel_rfl) (fun _ _ _ h => h) (yieldsIf_load_mid (by rfl) 64 _ rfl go ((m * 35)) rfl (r1.val.1.cells) _ (fun w' h => rangeAt_block HK1.out (h.block go HLO.out.1)) Tryz.underlying64 rfl (sizeK HKO1.out)) hHeld ?_
                try simp only [Act.put, List.setIfInBounds_toArray, List.set_cons_zero, List.set_cons_succ]
                refine held_take 4 (some 36) (v := ?_) rfl rfl (by kernel_rfl) (by kernel_rfl) (by kernel_rfl) (fun _ _ _ h => h) (Or.inl ⟨by rfl, ?_⟩) hHeld ?_
                rotate_left
                · (intro w' hSw; clear hSw; go_simp; try with_reducible rfl)
                try simp only [Act.put, List.setIfInBounds_toArray, List.set_cons_zero, List.set_cons_succ]
                refine held_take 5 (some 37) (v := .agg (r.val.1.cells).toArray) rfl rfl (by kernel_rfl) (by kernel_rfl) (by kernel_rfl) (fun _ _ _ h => h) (yieldsIf_load_mid (by rfl) 64 _ rfl g7 (0) rfl (r.val.1.cells) _ (fun w' h => rangeAt_block HK7.out (h.block g7 HLO.out.2)) Tryz.underlying64 rfl (sizeK HRO.out.2)) hHeld ?_
                try simp only [Act.put, List.setIfInBounds_toArray, List.set_cons_zero, List.set_cons_succ]
                refine held_take 6 (some 38) (v := .bool false) rfl rfl (by kernel_rfl) (by kernel_rfl) (by kernel_rfl) (fun _ _ _ h => h) (yields_val (by go_simp) (fun W _ => exec_eqK .eql _ _ _ rfl (.agg r1.val.1.cells.toArray) (.agg r.val.1.cells.toArray) _ (by go_simp) (by go_simp) (guardK _ _ _ _ _ _) (HEQ.out W))) hHeld ?_
                try simp only [Act.put, List.setIfInBounds_toArray, List.set_cons_zero, List.set_cons_succ]
                refine held_take 7 (some 39) (v := ?_) rfl rfl (by kernel_rfl) (by kernel_rfl) (by kernel_rfl) (fun _ _ _ h => h) (Or.inl ⟨by rfl, ?_⟩) hHeld ?_
                rotate_left
                · (intro w' hSw; clear hSw; go_simp; try with_reducible rfl)
                try simp only [Act.put, List.setIfInBounds_toArray, List.set_cons_zero, List.set_cons_succ]
                refine held_take 8 (some 40) (v := undef) rfl rfl (by kernel_rfl) (by kernel_rfl) (by kernel_rfl) (fun _ _ _ h => h) (Or.inr ⟨by rfl, rfl⟩) hHeld ?_
                try simp only [Act.put, List.setIfInBounds_toArray, List.set_cons_zero, List.set_cons_succ]
                refine held_take 9 (some 41) (v := undef) rfl rfl (by kernel_rfl) (by kernel_rfl) (by kernel_rfl) (fun _ _ _ h => h) (Or.inr ⟨by rfl, rfl⟩) hHeld ?_
                try simp only [Act.put, List.setIfInBounds_toArray, List.set_cons_zero, List.set_cons_succ]
                refine held_take 10 (some 42) (v := undef) rfl rfl (by kernel_rfl) (by kernel_rfl) (by kernel_rfl) (fun _ _ _ h => h) (Or.inr ⟨by rfl, rfl⟩) hHeld ?_
                try simp only [Act.put, List.setIfInBounds_toArray, List.set_cons_zero, List.set_cons_succ]
                refine held_take 11 (some 43) (v := undef) rfl rfl (by kernel_rfl) (by kernel_rfl) (by kernel_rfl) (fun _ _ _ h => h) (Or.inr ⟨by rfl, rfl⟩) hHeld ?_
                try simp only [Act.put, List.setIfInBounds_toArray, List.set_cons_zero, List.set_cons_succ]
                refine held_take 12 (some 44) (v := undef) rfl rfl (by kernel_rfl) (by kernel_rfl) (by kernel_rfl) (fun _ _ _ h => h) (Or.inr ⟨by rfl, rfl⟩) hHeld ?_
                try simp only [Act.put, List.setIfInBounds_toArray, List.set_cons_zero, List.set_cons_succ]
                refine held_take 13 (some 45) (v := undef) rfl rfl (by kernel_rfl) (by kernel_rfl) (by kernel_rfl) (fun _ _ _ h => h) (Or.inr ⟨by rfl, rfl⟩) hHeld ?_
                try simp only [Act.put, List.setIfInBounds_toArray, List.set_cons_zero, List.set_cons_succ]
                refine held_take 14 (some 46) (v := undef) rfl rfl (by kernel_rfl) (by kernel_rfl) (by kernel_rfl) (fun _ _ _ h => h) (Or.inr ⟨by rfl, rfl⟩) hHeld ?_
                try simp only [Act.put, List.setIfInBounds_toArray, List.set_cons_zero, List.set_cons_succ]
                refine held_take 15 (some 47) (v := undef) rfl rfl (by kernel_rfl) (by kernel_rfl) (by kernel_rfl) (fun _ _ _ h => h) (Or.inr ⟨by rfl, rfl⟩) hHeld ?_
                try simp only [Act.put, List.setIfInBounds_toArray, List.set_cons_zero, List.set_cons_succ]
                refine held_take 16 (some 48) (v := undef) rfl rfl (by kernel_rfl) (by kernel_rfl) (by kernel_rfl) (fun _ _ _ h => h) (Or.inr ⟨by rfl, rfl⟩) hHeld ?_
                try simp only [Act.put, List.setIfInBounds_toArray, List.set_cons_zero, List.set_cons_succ]
                refine held_take 17 (some 49) (v := undef) rfl rfl (by kernel_rfl) (by kernel_rfl) (by kernel_rfl) (fun _ _ _ h => h) (Or.inr ⟨by rfl, rfl⟩) hHeld ?_
                try simp only [Act.put, List.setIfInBounds_toArray, List.set_cons_zero, List.set_cons_succ]
                refine held_take 18 (some 50) (v := undef) rfl rfl (by kernel_rfl) (by kernel_rfl) (by kernel_rfl) (fun _ _ _ h => h) (Or.inr ⟨by rfl, rfl⟩) hHeld ?_
                try simp only [Act.put, List.setIfInBounds_toArray, List.set_cons_zero, List.set_cons_succ]
                refine held_take 19 (some 51) (v := undef) rfl rfl (by kernel_rfl) (by kernel_rfl) (by kernel_rfl) (fun _ _ _ h => h) (Or.inr ⟨by rfl, rfl⟩) hHeld ?_
                try simp only [Act.put, List.setIfInBounds_toArray, List.set_cons_zero, List.set_cons_succ]
                refine held_take 20 (some 52) (v := ?_) rfl rfl (by kernel_rfl) (by kernel_rfl) (by kernel_rfl) (fun _ _ _ h => h) (Or.inl ⟨by rfl, ?_⟩) hHeld ?_
                rotate_left
                · (intro w' hSw; clear hSw; go_simp; try with_reducible rfl)
                try simp only [Act.put, List.setIfInBounds_toArray, List.set_cons_zero, List.set_cons_succ]
                refine wpAnyH_done (by kernel_rfl) ?_ _
                --]13
                have HB6 := Lib.hid hHeld
                clear hHeld
                go_simp
                go_wp2_with fail
                go_meet
                case rel => exact HB6.out
          case rest =>
            have HBC := Lib.hid hcut
            have hsc := hcut.size
            have HRC := Lib.hid (show wc.rangeAt g7 0 (encR r) from range_row ((hcut.block g7 (row_lt HR7.out)).trans HR7.out))
            have HBS := Lib.hid (fun W => build_rowX r W)
            have hs5 := HS5.out
            have HOA := Lib.hid (own_chg (R := fun _ => False) HO5.out ((Chg.belowAt hcut).alloc (.cells (encR r).toArray 69)) (fun _ _ h => h))
            rw [HNA.out] at HOA
            have HNW := Lib.hid (show ∀ j u, (encR r)[j]? = some u → ∃ ad, some (⟨wc.heap.size, 0, none⟩ : Addr) = some ad ∧ (wc.alloc (.cells (encR r).toArray 69)).cell? (ad.add j) = some u from fun j u hj => ⟨_, rfl, by rw [addr_add0, Nat.zero_add]; exact row_at (heap_alloc_last wc _) hj⟩)
            have HCL := Lib.hid (show (encR r).length = 1 * 35 from encR_length r)
            have HML := Lib.hid (show (na + 1 ≤ maxLen ∧ (na + 1) * 56 ≤ 140737488355328) ∧ w.heap.size ≤ (wc.alloc (.cells (encR r).toArray 69)).heap.size by rw [World.size_alloc]; unfold maxLen; constructor <;> omega)
            have HNN := Lib.hid (show some (⟨wc.heap.size, 0, none⟩ : Addr) = none → 1 = 0 ∧ 1 = 0 from fun h => by cases h)
            clear hcut
            go_wp2_with (first | (with_reducible refine Go.wpList_load_mid rfl 69 _ rfl g7 0 rfl (encR r) _ HRC.out Tryz.underlying69 rfl (sizeX r) ?_) | (with_reducible refine wpList_val rfl (exec_buildSlice _ _ _ rfl #[(0, .agg (encR r).toArray)] (by go_simp) (HBS.out _)) ?_) | (at_builtin; refine wpList_app EX rfl _ _ rfl w.heap.size _ na (flatR ac2) rfl HOA.out (some ⟨wc.heap.size, 0, none⟩) 1 1 (encR r) rfl HNN.out HCL.out HNW.out (encR_one _) HML.out.1.1 HML.out.1.2 HML.out.2 ?_; intro v9 w9 hown hgrow hat))
            obtain ⟨A9, c9, rfl⟩ := ownX_form hown
            have hl5 := HOA.out.lt
            have HB9 := Lib.hid (show Below w.heap.size w w9 from ((HB5.out.trans (HBC.out.mono (by omega))).alloc (by omega) _).grown hgrow (by rw [World.size_alloc]; omega) (fun x hx => (hl5 x hx).1))
            have HO9 := Lib.hid (show OwnX w9 w.heap.size (.slice A9 (ac2 ++ [r]).length c9) (ac2 ++ [r]) from by rw [OwnX, List.length_append, List.length_singleton, HNA.out, flatR_snoc']; exact hown)
            have hlr : na + 1 = (ac2 ++ [r]).length := by rw [List.length_append, List.length_singleton, HNA.out]
            clear hown hgrow hat hl5
            go_roundg (nl - (i + 1))
            case measure => omega
            case rel => exact ⟨i + 1, A9, c9, ac2 ++ [r], by go_num, by omega, by rw [hlr], HO9.out, HB9.out, HAC.out⟩
        · obtain rfl : i = nl := by omega
          have HAC := Lib.hid (show ac2 = (LL.take (p + 1)).flatten by rw [hac, HL.out.2, flat_take HL.out.1, show l.take i = l from List.take_of_length_le (Nat.le_of_eq HNL.out)])
          clear ho hb hac hli
          go_wp2_with fail
          go_roundg (n - (p + 1))
          case measure => omega
          case rel => exact ⟨p + 1, A4, c4, ac2, by go_num, by omega, rfl, HO4.out, HB4.out, HAC.out⟩
    · obtain rfl : p = n := by omega
      have hfl : acc = LL.flatten := by rw [hacc, List.take_of_length_le (by rw [HN.out]; exact Nat.le_refl _)]
      subst hfl
      have HO := Lib.hid ho
      have HB := Lib.hid hb
      obtain ⟨nf, hnf⟩ : ∃ nf, LL.flatten.length = nf := ⟨_, rfl⟩
      have HRI := Lib.hid (Right_any A3 nf c3 LL.flatten wr hnf HRF.out (fun _ _ hi => ownR_range ho hi))
      rw [hnf] at HO ⊢
      have HNF := Lib.hid hnf
      clear ho hb hacc hlt hnf
      go_wp2_with fail
      refine HRI.out.mono ?_
      rintro e w2 ⟨rfl, hb2⟩
      have HB2 := Lib.hid (HB.out.trans (hb2.mono HB.out.size))
      have HO2 := Lib.hid (own_chg (R := fun _ => False) HO.out (Chg.belowAt hb2) (fun _ _ h => h))
      clear hb2 HRI
      go_wp2_with fail
      go_ret
      exact ⟨_, rfl, HO2.out, HB2.out⟩
end Go.Proofs.YtcklcffepedklaaGreat

namespace Go.Proofs.YtcklcffepedklaaGreat
open Go.RowKit Go.Maps

/-- The extents of some bytes. -/
def sliceL : List Rw → Nat → Nat → List Rw
  | [], _, _ => []
  | r :: l, off, n => if n = 0 then [] else if r.val.2.2 ≤ off then sliceL l (off - r.val.2.2) n
      else ⟨(r.val.1, (r.val.2.1 + off, min (r.val.2.2 - off) n)), r.property⟩ :: sliceL l 0 (n - min (r.val.2.2 - off) n)
theorem sliceL_zero (l : List Rw) (off : Nat) : sliceL l off 0 = [] := by cases l <;> simp [sliceL]
theorem sliceL_skip {r : Rw} {l : List Rw} {off n : Nat} (hn : ¬ n = 0) (ho : r.val.2.2 ≤ off) : sliceL (r :: l) off n = sliceL l (off - r.val.2.2) n := by
  rw [sliceL, if_neg hn, if_pos ho]
theorem sliceL_cut {r : Rw} {l : List Rw} {off n : Nat} (hn : ¬ n = 0) (ho : ¬ r.val.2.2 ≤ off) : sliceL (r :: l) off n = ⟨(r.val.1, (r.val.2.1 + off, min (r.val.2.2 - off) n)), r.property⟩ :: sliceL l 0 (n - min (r.val.2.2 - off) n) := by
  rw [sliceL, if_neg hn, if_neg ho]
/-- The bytes of an extent, where chunks are told by f. -/
def bytX (f : Ky → List Int) (r : Rw) : List Int := ((f r.val.1).drop r.val.2.1).take r.val.2.2
theorem sliceL_bytes (f : Ky → List Int) : ∀ (l : List Rw) (off n : Nat), (∀ r ∈ l, r.val.2.1 + r.val.2.2 ≤ (f r.val.1).length) → (sliceL l off n).flatMap (bytX f) = ((l.flatMap (bytX f)).drop off).take n
  | [], off, n, _ => by simp [sliceL]
  | r :: l, off, n, h => by
    have hr := h r List.mem_cons_self
    have hl := fun x hx => h x (List.mem_cons_of_mem _ hx)
    have hb : (bytX f r).length = r.val.2.2 := by unfold bytX; rw [List.length_take, List.length_drop]; omega
    unfold sliceL
    by_cases hn : n = 0
    · simp [hn]
    · rw [if_neg hn, List.flatMap_cons]
      by_cases ho : r.val.2.2 ≤ off
      · have e0 : (bytX f r).drop off = [] := List.drop_of_length_le (by omega)
        rw [if_pos ho, sliceL_bytes f l _ n hl, List.drop_append, e0, List.nil_append, hb]
      · rw [if_neg ho, List.flatMap_cons, sliceL_bytes f l 0 _ hl, List.drop_zero]
        rw [List.drop_append, show off - (bytX f r).length = 0 by omega, List.drop_zero, List.take_append]
        have e1 : bytX f ⟨(r.val.1, (r.val.2.1 + off, min (r.val.2.2 - off) n)), r.property⟩ = ((bytX f r).drop off).take n := by
          unfold bytX
          simp only
          rw [List.drop_take, List.take_take, List.drop_drop, Nat.min_comm]
        rw [e1, List.length_drop, hb]
        congr 2
        rcases Nat.le_total n (r.val.2.2 - off) with h1 | h1
        · rw [Nat.min_eq_right h1]; omega
        · rw [Nat.min_eq_left h1]
theorem sliceL_ok : ∀ (l : List Rw) (off n : Nat), (∀ r ∈ l, XOk r) → (∀ r ∈ sliceL l off n, XOk r) ∧ (sliceL l off n).length ≤ l.length
  | [], off, n, _ => by simp [sliceL]
  | r :: l, off, n, h => by
    have hr := h r List.mem_cons_self
    have hl := fun x hx => h x (List.mem_cons_of_mem _ hx)
    unfold sliceL
    by_cases hn : n = 0
    · simp [hn]
    · rw [if_neg hn]
      by_cases ho : r.val.2.2 ≤ off
      · rw [if_pos ho]
        have := sliceL_ok l (off - r.val.2.2) n hl
        exact ⟨this.1, by rw [List.length_cons]; omega⟩
      · rw [if_neg ho]
        have := sliceL_ok l 0 (n - min (r.val.2.2 - off) n) hl
        refine ⟨fun x hx => ?_, by rw [List.length_cons, List.length_cons]; omega⟩
        rcases List.mem_cons.1 hx with rfl | hx
        · have h1 := hr.pos; have h2 := hr.lim
          exact ⟨by show 1 ≤ min _ _; omega, by show r.val.2.1 + off + min _ _ ≤ 4096; omega⟩
        · exact this.1 x hx
theorem encR_set (r : Rw) (o m : Nat) : ((encR r).toArray.setIfInBounds 33 (.int .i64 (o : Nat))).setIfInBounds 34 (.int .i64 (m : Nat)) = (encR ⟨(r.val.1, (o, m)), r.property⟩).toArray := by
  rw [List.setIfInBounds_toArray, List.setIfInBounds_toArray]
  congr 1
  have hk := Ky.cells_length r.property
  unfold encR
  rw [List.set_append_right _ _ (by omega), List.set_append_right _ _ (by omega), hk]
  rfl
set_option maxRecDepth 20000 in
set_option maxHeartbeats 3200000 in
theorem Slice_any (A : Option Addr) (n c : Nat) (l : List Rw) (off many : Nat) (w : World) (hn : l.length = n) (hA : XAt w A l) (hR : RightX l) (hoff : off < 1000000) (hmany : many < 1000000) :
    Calls Tryz.prog 15 #[.slice A n c, .int .i64 off, .int .i64 many] w fun e w' => ∃ v, e = .returned v ∧ OwnX w' w.heap.size v (sliceL l off many) ∧ Below w.heap.size w w' := by
  by_cases hm0 : many = 0
  · subst hm0
    rw [sliceL_zero]
    go_enter Tryz.func15, Tryz.ntmps15
    go_wp2
    go_ret
    exact ⟨_, rfl, World.ownsRow_nil _ _ _ _, Below.refl _ _⟩
  · have HRI := Lib.hid (Right_any A n c l w hn hR hA)
    have HN := Lib.hid hn
    have HA := Lib.hid hA
    have HR := Lib.hid hR
    have HZX := Lib.hid zeroX
    have hn1 : n ≤ 16384 := by have := hR.len; omega
    have d1 : decide ((many : Int) ≤ 0) = false := decide_eq_false (by omega)
    have d2 : decide (many ≤ 0) = false := decide_eq_false (by omega)
    have d3 : ((many : Int) == 0) = false := by simp; omega
    have d4 : ¬ many = 0 := hm0
    have d5 : decide ((off : Int) < 0) = false := decide_eq_false (by omega)
    clear hn hA hR
    go_enter Tryz.func15, Tryz.ntmps15
    go_wp2_with fail
    refine HRI.out.mono ?_
    rintro e w1 ⟨rfl, hb1⟩
    have HB1 := Lib.hid hb1
    clear hb1 HRI
    go_upto_region 7 with (fail)
    clear d1 d2 d3 d4 d5 hm0
    go_loopg [1, 2, 7, 24] n (fun kq v1 v2 v7 v24 w' => ∃ (i : Nat) (A7 : Option Addr) (c7 : Nat) (acc : List Rw) (o' n' : Nat), v24 = .int .i64 (i : Int) ∧ i + kq = n ∧ v1 = .int .i64 (o' : Int) ∧ v2 = .int .i64 (n' : Int) ∧ v7 = .slice A7 acc.length c7 ∧ OwnX w' w.heap.size (.slice A7 acc.length c7) acc ∧ Below w.heap.size w w' ∧ acc ++ sliceL (l.drop i) o' n' = sliceL l off many ∧ acc.length ≤ i ∧ o' < 1000000 ∧ n' < 1000000)
    case atStart => exact ⟨0, none, 0, [], off, many, rfl, by omega, rfl, rfl, rfl, World.ownsRow_nil _ _ _ _, HB1.out, by simp, by simp, hoff, hmany⟩
    case round =>
      obtain ⟨i, A7, c7, acc, o1, n1, rfl, hi, rfl, rfl, rfl, ho, hb, hac, hal, ho1, hn1'⟩ := hrel
      obtain ⟨na, hna⟩ : ∃ na, acc.length = na := ⟨_, rfl⟩
      rw [hna] at hal ⊢
      have HNA := Lib.hid hna
      have HO := Lib.hid ho
      have HB := Lib.hid hb
      have HAC := Lib.hid hac
      have hsr := hb.size
      clear ho hac hna
      by_cases hlt : i < n
      · obtain ⟨r, hr⟩ : ∃ r, l[i]? = some r := ⟨_, List.getElem?_eq_getElem (by have := HN.out; omega)⟩
        obtain ⟨gx, rfl, hrx⟩ := (HA.out.below hb) i r hr
        have HRX := Lib.hid hrx
        have hi0 : (0 : Int) ≤ (i : Int) := by omega
        have hi1 : (i : Int) < (n : Int) := by omega
        have HDR := Lib.hid (show l.drop i = r :: l.drop (i + 1) from by
          have hil : i < l.length := by have := HN.out; omega
          rw [List.drop_eq_getElem_cons hil]
          rw [List.getElem?_eq_getElem hil] at hr
          injection hr with hr
          rw [hr])
        have HXO := Lib.hid (HR.out.all r (List.mem_of_getElem? hr))
        clear hb hr hrx
        go_upto_region 9 with (first | (with_reducible refine Go.wpList_load_mid rfl 69 _ rfl gx (i * 35) rfl (encR r) _ HRX.out Tryz.underlying69 rfl (sizeX r) ?_) | (with_reducible refine wpList_fresh rfl rfl 69 rfl _ _ rfl (encR r).toArray zR (fun _ => rfl) (fun _ => rfl) HZX.out (sizeXA r) (zR_size r) (all_one (encR_one r)) ?_; intro g9 w5 hg9 hr9 hb9))
        have HB5 := Lib.hid (HB.out.trans (hb9.out.mono hsr))
        have HO5 := Lib.hid (own_chg (R := fun _ => False) HO.out (Chg.belowAt hb9.out) (fun _ _ h => h))
        have HR9 := hr9
        have hs95 := hb9.out.size
        have hg9' := hg9.out
        have HG9 := Lib.hid (show w.heap.size ≤ g9 ∧ g9 < w5.heap.size ∧ w.heap.size ≤ w5.heap.size ∧ ∀ k, Value.ownBlock (.slice A7 acc.length c7) = some k → k ≠ g9 from ⟨by omega, row_lt hr9.out, by omega, fun k hk e => by have := (HO.out.lt k hk).2; omega⟩)
        clear hr9 hb9 hg9 hs95 hg9' HO
        by_cases hz : n1 = 0
        · subst hz
          have hfin : acc = sliceL l off many := by
            have := HAC.out
            rw [sliceL_zero, List.append_nil] at this
            exact this
          have HF := Lib.hid hfin
          clear hfin
          go_wp2_with fail
          go_ret
          exact ⟨_, rfl, by rw [← HF.out, ← HNA.out]; exact HO5.out, HB5.out⟩
        · have d1 : decide ((n1 : Int) ≤ 0) = false := decide_eq_false (by omega)
          have d2 : decide (n1 ≤ 0) = false := decide_eq_false (by omega)
          have d3 : ((n1 : Int) == 0) = false := by simp; omega
          have c34 := row_at HR9.out (encR_34 r)
          have c33 := row_at HR9.out (encR_33 r)
          obtain ⟨xo, hxo⟩ : ∃ xo, r.val.2.1 = xo := ⟨_, rfl⟩
          obtain ⟨xl, hxl⟩ : ∃ xl, r.val.2.2 = xl := ⟨_, rfl⟩
          rw [hxo] at c33
          rw [hxl] at c34
          have HXX := Lib.hid (And.intro hxo hxl)
          have hpos := HXO.out.pos
          have hlim := HXO.out.lim
          rw [hxl] at hpos
          rw [hxo, hxl] at hlim
          clear hxo hxl
          by_cases hge : xl ≤ o1
          · have d6 : decide ((xl : Int) ≤ (o1 : Int)) = true := decide_eq_true (by omega)
            have d7 : decide (xl ≤ o1) = true := decide_eq_true hge
            obtain ⟨o2, ho2⟩ : ∃ o2, o1 - xl = o2 := ⟨_, rfl⟩
            have hw1' : IntKind.i64.wrap ((o1 : Int) - (xl : Int)) = (o2 : Int) := by simp [IntKind.wrap, IntKind.bits, IntKind.signed]; omega
            have HO2 := Lib.hid ho2
            have hge' : (xl : Int) ≤ (o1 : Int) := by omega
            clear ho2
            go_wp2_with fail
            go_roundg (n - (i + 1))
            case measure => omega
            case rel =>
              have h2 := HO2.out
              refine ⟨i + 1, A7, c7, acc, o2, n1, by go_num, by omega, by first | rfl | go_num, rfl, by rw [HNA.out], HO5.out, HB5.out, ?_, by rw [HNA.out]; omega, by omega, hn1'⟩
              have h3 := HAC.out
              rw [HDR.out, sliceL_skip hz (by rw [HXX.out.2]; exact hge), HXX.out.2, h2] at h3
              exact h3
          · have d6 : decide ((xl : Int) ≤ (o1 : Int)) = false := decide_eq_false (by omega)
            have d7 : decide (xl ≤ o1) = false := decide_eq_false hge
            have f33 := free_row HR9.out 33
            have f34 := free_row HR9.out 34
            obtain ⟨xo2, hxo2⟩ : ∃ z, xo + o1 = z := ⟨_, rfl⟩
            obtain ⟨rl, hrl⟩ : ∃ z, xl - o1 = z := ⟨_, rfl⟩
            obtain ⟨mn, hmn⟩ : ∃ z, min rl n1 = z := ⟨_, rfl⟩
            obtain ⟨n2, hn2⟩ : ∃ z, n1 - mn = z := ⟨_, rfl⟩
            have hw1' : IntKind.i64.wrap ((xo : Int) + (o1 : Int)) = (xo2 : Int) := by simp [IntKind.wrap, IntKind.bits, IntKind.signed]; omega
            have hw2' : IntKind.i64.wrap ((xl : Int) - (o1 : Int)) = (rl : Int) := by simp [IntKind.wrap, IntKind.bits, IntKind.signed]; omega
            have hmi : min (rl : Int) (n1 : Int) = (mn : Int) := by omega
            have hw3' : IntKind.i64.wrap ((n1 : Int) - (mn : Int)) = (n2 : Int) := by simp [IntKind.wrap, IntKind.bits, IntKind.signed]; omega
            have HNU := Lib.hid (And.intro hxo2 (And.intro hrl (And.intro hmn hn2)))
            have hle : mn ≤ 4096 ∧ xo2 ≤ 8192 := by omega
            clear hxo2 hrl hmn hn2
            go_upto_region 14 with (fail)
            have g1 := grown_setCell w5 g9 33 (.int .i64 xo2)
            have r1 := setCell_row HR9.out 33 (.int .i64 xo2)
            have g2 := grown_setCell (w5.setCell ⟨g9, 33, none⟩ (.int .i64 xo2)) g9 34 (.int .i64 mn)
            have r2 := setCell_row r1 34 (.int .i64 mn)
            rw [encR_set r xo2 mn] at r2
            obtain ⟨r', hr'⟩ : ∃ r' : Rw, (⟨(r.val.1, (xo2, mn)), r.property⟩ : Rw) = r' := ⟨_, rfl⟩
            rw [hr'] at r2
            have HR' := Lib.hid hr'
            have hch : Chg (fun x => x = g9) w5 ((w5.setCell ⟨g9, 33, none⟩ (.int .i64 xo2)).setCell ⟨g9, 34, none⟩ (.int .i64 mn)) := ((Chg.of g1).trans (Chg.of g2)).mono (fun x e => by injection e)
            obtain ⟨w7, hw7⟩ : ∃ w7, (w5.setCell ⟨g9, 33, none⟩ (.int .i64 xo2)).setCell ⟨g9, 34, none⟩ (.int .i64 mn) = w7 := ⟨_, rfl⟩
            rw [hw7] at r2 hch ⊢
            have HR7 := Lib.hid r2
            have HC7 := Lib.hid hch
            have HL7 := Lib.hid (row_lt r2)
            have hn34 : r'.val.2.2 = mn := by rw [← hr']
            have HC34 := Lib.hid (show w7.cell? ⟨g9, 34, none⟩ = some (.int .i64 (mn : Nat)) from hn34 ▸ row_at r2 (encR_34 r'))
            clear g1 r1 g2 r2 hr' hch hw7 c33 c34 f33 f34 hw1' hw2' hmi hn34
            --[14
            refine wp_region_held_drew (S := fun w' => Below w7.heap.size w7 w') (by kernel_rfl) ((Below.refl _ _).drew) (fun hHeld => ?_)
            refine held_take 0 (some 50) (v := ?_) rfl rfl (by kernel_rfl) (by kernel_rfl) (by kernel_rfl) (fun _ _ _ h => h) (Or.inl ⟨by rfl, ?_⟩) hHeld ?_
            rotate_left
            · (intro w' hSw; clear hSw; go_simp; try with_reducible rfl)
            try simp only [Act.put, List.setIfInBounds_toArray, List.set_cons_zero, List.set_cons_succ]
            refine held_take 1 (some 51) (v := ?_) rfl rfl (by kernel_rfl) (by kernel_rfl) (by kernel_rfl) (fun _ _ _ h => h) (Or.inl ⟨by rfl, ?_⟩) hHeld ?_
            rotate_left
            · (intro w' hSw; clear hSw; go_simp; try with_reducible rfl)
            try simp only [Act.put, List.setIfInBounds_toArray, List.set_cons_zero, List.set_cons_succ]
            refine held_take 2 (some 52) (v := ?_) rfl rfl (by kernel_rfl) (by kernel_rfl) (by kernel_rfl) (fun _ _ _ h => h) (Or.inl ⟨by rfl, ?_⟩) hHeld ?_
            rotate_left
            · (intro w' hSw; have pf := (hSw.cell (p := ⟨g9, 34, none⟩) HL7.out).trans HC34.out; clear hSw; go_simp; try with_reducible rfl)
            try simp only [Act.put, List.setIfInBounds_toArray, List.set_cons_zero, List.set_cons_succ]
            refine held_take 3 (some 53) (v := ?_) rfl rfl (by kernel_rfl) (by kernel_rfl) (by kernel_rfl) (fun _ _ _ h => h) (Or.inl ⟨by rfl, ?_⟩) hHeld ?_
            rotate_left
            · (intro w' hSw; clear hSw; go_simp; try with_reducible rfl)
            try simp only [Act.put, List.setIfInBounds_toArray, List.set_cons_zero, List.set_cons_succ]
            refine held_take 4 (some 1) (v := ?_) rfl rfl (by kernel_rfl) (by kernel_rfl) (by kernel_rfl) (fun _ _ _ h => h) (Or.inl ⟨by rfl, ?_⟩) hHeld ?_
            rotate_left
            · (intro w' hSw; clear hSw; go_simp; try with_reducible rfl)
            try simp only [Act.put, List.setIfInBounds_toArray, List.set_cons_zero, List.set_cons_succ]
            refine held_take 5 (some 2) (v := ?_) rfl rfl (by kernel_rfl) (by kernel_rfl) (by kernel_rfl) (fun _ _ _ h => h) (Or.inl ⟨by rfl, ?_⟩) hHeld ?_
            rotate_left
            · (intro w' hSw; clear hSw; go_simp; try with_reducible rfl)
            try simp only [Act.put, List.setIfInBounds_toArray, List.set_cons_zero, List.set_cons_succ]
            refine wpAnyH_done (by kernel_rfl) ?_ _
            --]14
            have HB8 := Lib.hid hHeld
            clear hHeld hw3'
            have hs57 := HC7.out.size
            have HOA := Lib.hid (own_chg (R := fun _ => False) (own_chg HO5.out HC7.out (fun k hk => HG9.out.2.2.2 k hk)) ((Chg.belowAt (Below.refl _ _).drew).alloc (.cells (encR r').toArray 69)) (fun _ _ h => h))
            rw [HNA.out] at HOA
            have HRC := Lib.hid (show w7.drew.rangeAt g9 0 (encR r') from range_row HR7.out)
            have HBS := Lib.hid (fun W => build_rowX r' W)
            have HNW := Lib.hid (show ∀ j u, (encR r')[j]? = some u → ∃ ad, some (⟨w7.drew.heap.size, 0, none⟩ : Addr) = some ad ∧ (w7.drew.alloc (.cells (encR r').toArray 69)).cell? (ad.add j) = some u from fun j u hj => ⟨_, rfl, by rw [addr_add0, Nat.zero_add]; exact row_at (heap_alloc_last w7.drew _) hj⟩)
            have HCL := Lib.hid (show (encR r').length = 1 * 35 from encR_length r')
            have hg9l := HG9.out
            have hsd : w7.drew.heap.size = w7.heap.size := rfl
            have HML := Lib.hid (show (na + 1 ≤ maxLen ∧ (na + 1) * 56 ≤ 140737488355328) ∧ w.heap.size ≤ (w7.drew.alloc (.cells (encR r').toArray 69)).heap.size by rw [World.size_alloc]; unfold maxLen; constructor <;> omega)
            have HNN := Lib.hid (show some (⟨w7.drew.heap.size, 0, none⟩ : Addr) = none → 1 = 0 ∧ 1 = 0 from fun h => by cases h)
            clear hg9l hs57 hsd
            go_wp2_with (first | (with_reducible refine Go.wpList_load_mid rfl 69 _ rfl g9 0 rfl (encR r') _ HRC.out Tryz.underlying69 rfl (sizeX r') ?_) | (with_reducible refine wpList_val rfl (exec_buildSlice _ _ _ rfl #[(0, .agg (encR r').toArray)] (by go_simp) (HBS.out _)) ?_) | (at_builtin; refine wpList_app EX rfl _ _ rfl w.heap.size _ na (flatR acc) rfl HOA.out (some ⟨w7.drew.heap.size, 0, none⟩) 1 1 (encR r') rfl HNN.out HCL.out HNW.out (encR_one _) HML.out.1.1 HML.out.1.2 HML.out.2 ?_; intro v9 w9 hown hgrow hat))
            obtain ⟨A9, c9, rfl⟩ := ownX_form hown
            have hl5 := HOA.out.lt
            have hgg := HG9.out
            have hb7 : Below w.heap.size w w7.drew := (HB5.out.trans (HC7.out.below (B := w.heap.size) hgg.2.2.1 (fun k e => by rw [e]; exact hgg.1))).drew
            have HB9 := Lib.hid (show Below w.heap.size w w9 from (hb7.alloc hb7.size _).grown hgrow (by rw [World.size_alloc]; exact Nat.le_succ_of_le hb7.size) (fun x hx => (hl5 x hx).1))
            have HO9 := Lib.hid (show OwnX w9 w.heap.size (.slice A9 (acc ++ [r']).length c9) (acc ++ [r']) from by rw [OwnX, List.length_append, List.length_singleton, HNA.out, flatR_snoc']; exact hown)
            have hlr : na + 1 = (acc ++ [r']).length := by rw [List.length_append, List.length_singleton, HNA.out]
            clear hown hgrow hat hl5 hb7
            go_roundg (n - (i + 1))
            case measure => omega
            case rel =>
              have hh := HNU.out
              refine ⟨i + 1, A9, c9, acc ++ [r'], 0, n2, by go_num, by omega, rfl, rfl, by rw [hlr], HO9.out, HB9.out, ?_, by omega, by omega, by omega⟩
              have h3 := HAC.out
              rw [HDR.out, sliceL_cut hz (by rw [HXX.out.2]; exact hge)] at h3
              rw [← h3, List.append_assoc, ← HR'.out]
              simp only [HXX.out.1, HXX.out.2, hh.1, hh.2.1, hh.2.2.1, hh.2.2.2]
              rfl
      · obtain rfl : i = n := by omega
        have hfin : acc = sliceL l off many := by
          have := HAC.out
          rw [List.drop_of_length_le (Nat.le_of_eq HN.out)] at this
          simpa [sliceL] using this
        have HF := Lib.hid hfin
        clear hb hfin hlt
        go_wp2_with fail
        go_ret
        exact ⟨_, rfl, by rw [← HF.out, ← HNA.out]; exact HO.out, HB.out⟩
end Go.Proofs.YtcklcffepedklaaGreat
