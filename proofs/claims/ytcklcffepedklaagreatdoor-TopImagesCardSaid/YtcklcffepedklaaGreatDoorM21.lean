/- Texts of the proof, one behind the other: extent: Take. -/
import Derived.Test.YtcklcffepedklaaGreatDoorM17
import Derived.Test.YtcklcffepedklaaGreatDoorM20
namespace Go.Proofs.YtcklcffepedklaaGreatDoor
open Go.RowKit Go.Maps

theorem rowX_parts (r : Xt) : (rowX r).take 32 = r.val.1.sum ∧ ((rowX r).drop 32) = beL r.val.1.n 4 ++ (beL r.val.2.1.toNat 2 ++ beL r.val.2.2.toNat 2) := by
  have h := r.property.len
  unfold rowX
  refine ⟨?_, ?_⟩
  · rw [List.take_append_of_le_length (by omega), List.take_of_length_le (by omega)]
  · rw [List.drop_append_of_le_length (by omega), List.drop_of_length_le (by omega), List.nil_append, List.append_assoc]
theorem EX : Elem Tryz.prog 36 135 35 56 := by
  obtain ⟨i0, hi, hz0, hz1, hz2⟩ := info_parts Tryz.infoX
  exact ⟨Tryz.underlying36, ⟨i0, _, hi, hz0, hz1, hz2, rfl⟩, by decide⟩
theorem build_rowX (r : Xt) (W : World) : (Instr.buildSlice 36 1 #[(0, .agg (encX r).toArray)]).run Tryz.prog W = .ok (.slice (some ⟨W.heap.size, 0, none⟩) 1 1) (W.alloc (.cells (encX r).toArray 135)) :=
  build_one (P := Tryz.prog) (z := .agg zX) (vs := encX r) (s := 35) Tryz.underlying36 (fun _ => by kernel_rfl) zeroX (encX_length r) (by decide) (by decide) (.agg (encX r).toArray) rfl W
theorem set33_34 (r : Xt) {z : Value} : ((encX r).toArray.setIfInBounds 33 z)[34]? = some (.int .i64 r.val.2.2) := by
  rw [Array.getElem?_setIfInBounds, if_neg (by decide), List.getElem?_toArray]; exact encX_34 r
theorem enc_set (x : Xt) (xo xm : Nat) (h1 : x.val.2.1 = xo) (h2 : x.val.2.2 = xm) : (((encX ⟨(x.val.1, (0, 0)), x.property⟩).toArray.setIfInBounds 33 (.int .i64 (xo : Int))).setIfInBounds 34 (.int .i64 (xm : Int))) = (encX x).toArray := by
  have hk := Ky.cells_length x.property
  simp only [List.setIfInBounds_toArray]
  congr 1
  rw [encX, encX, h1, h2]
  show ((x.val.1.cells ++ [Value.int .i64 0, Value.int .i64 0]).set 33 _).set 34 _ = _
  rw [List.set_append_right _ _ (by omega), List.set_append_right _ _ (by omega), hk]
  rfl
theorem take_round {w wr wD w10 : World} {l : List Xt} {x : Xt} {i g o : Nat} {v9 u4 : Value} (hx : l[i]? = some x) (hd : l.drop i = x :: l.drop (i + 1)) (hown : w10.ownsRow w.heap.size 135 35 v9 (i + 1) ((l.take i).flatMap encX ++ encX x))
    (hgr : (wD.alloc (.cells (encX x).toArray 135)).grownBy w10 u4.ownBlock) (hb : Below w.heap.size w wD) (hlt : ∀ k, u4.ownBlock = some k → w.heap.size ≤ k) (hI : Ints .u8 wr (some ⟨g, o, none⟩) ((l.drop i).flatMap rowX)) (hbD : Below wr.heap.size wr wD) (hg : g < w.heap.size) :
    w10.ownsRow w.heap.size 135 35 v9 (i + 1) ((l.take (i + 1)).flatMap encX) ∧ Below w.heap.size w w10 ∧ Ints .u8 w10 (some ⟨g, o, none⟩) ((l.drop i).flatMap rowX) ∧ ((l.drop i).flatMap rowX).drop 40 = (l.drop (i + 1)).flatMap rowX := by
  refine ⟨?_, (hb.alloc hb.size _).grown hgr (Nat.le_trans hb.size (by rw [World.size_alloc]; exact Nat.le_succ _)) hlt, ?_, by rw [hd, List.flatMap_cons, List.drop_left' (rowX_length x)]⟩
  · have : l.take (i + 1) = l.take i ++ [x] := by rw [List.take_add_one, hx]; rfl
    rw [this, List.flatMap_append]; simpa using hown
  · have h1 := (hI.below hbD).below ((Below.refl wD.heap.size wD).alloc (Nat.le_refl _) (.cells (encX x).toArray 135))
    refine h1.chg (Chg.of hgr) (fun ad e _ hk => ?_)
    injection e with e; subst e
    have h2 := hlt g hk.symm
    omega
theorem own_XAt {w : World} {b n c : Nat} {A : Option Addr} {l : List Xt} (h : w.ownsRow b 135 35 (.slice A n c) l.length (l.flatMap encX)) : XAt w A l := fun i r hi => by
  have h0 : l.length = 0 → l.flatMap encX = [] := fun e => by rw [List.length_eq_zero_iff.1 e]; rfl
  have hl : ∀ y ∈ l, (encX y).length = 35 := fun y _ => encX_length y
  obtain ⟨g, hg, _⟩ := own_cell h (flat_at l hl hi (encX_34 r)) h0
  refine ⟨g, 0, hg, fun j u hj => ?_⟩
  obtain ⟨g', hg', hc⟩ := own_cell h (flat_at l hl hi hj) h0
  rw [hg] at hg'; injection hg' with hg'; injection hg' with hg'
  rw [hg', Nat.zero_add]; exact hc
theorem array_at (g o cb : Nat) (W : World) : (Instr.arrayAt 131 (.slice (some ⟨g, o, none⟩) 32 cb)).run Tryz.prog W = .ok (.pointer (some ⟨g, o, none⟩)) W := by
  simp [Instr.arrayAt, run_underlying Tryz.underlying131]
theorem build_extent (k : Ky) (h : k.Ok) (w : World) : (Instr.build 135 #[(0, .agg k.cells.toArray)]).run Tryz.prog w = .ok (.agg (encX ⟨(k, (0, 0)), h⟩).toArray) w := by
  obtain ⟨i0, hi, hz0, _, _⟩ := info_parts Tryz.infoX
  refine run_build w _ _ _ ?_
  have hk := Ky.cells_length h
  rw [built_struct hi hz0 Tryz.underlying135 (places := [(0, 33), (33, 1), (34, 1)]) (by decide +kernel)]
  have hz : (Value.agg zX).cells.size = 35 := by decide +kernel
  show Instr.fill _ (Value.agg zX).cells _ = _
  rw [fill_cons (off := 0) (size := 33) (vs := k.cells) rfl rfl hk (by rw [hz]; decide)]
  rw [Instr.fill]
  refine congrArg some (congrArg List.toArray ?_)
  simp only [List.take_zero, List.nil_append, Nat.zero_add]
  have e : List.drop 33 (Value.agg zX).cells.toList = [Value.int .i64 0, Value.int .i64 0] := rfl
  rw [e]; rfl
theorem Rd.chg {R : Nat → Prop} {w w' : World} {r : Nat} {l : List Int} (h : Rd w r l) (hc : Chg R w w') (hR : ∀ x, R x → r < x) : Rd w' r l := by
  obtain ⟨A, c, h1, h2, h3, h4⟩ := h.ex
  exact ⟨⟨A, c, (hc.block r (row_lt h1) (fun e => by have := hR _ e; omega)).trans h1, h2.chg hc (fun ad e _ hr => by have := hR _ hr; have := h4 ad e; omega), h3, h4⟩, h.byt⟩
set_option maxRecDepth 20000 in
set_option maxHeartbeats 1600000 in
theorem XTake_any (A : Option Addr) (g c : Nat) (n : Nat) (l : List Xt) (w : World) (hA : A = some ⟨g, 0, none⟩) (hn : (layX l).length = n) (hc : n ≤ c) (hR : rightX l = true) (hI : Ints .u8 w A (layX l)) :
    Calls Tryz.prog 89 #[.slice A n c] w fun e w' => ∃ A c', e = .returned (.tuple #[.slice A l.length c', .int .i64 0]) ∧ XAt w' A l ∧ Below w.heap.size w w' := by
  obtain ⟨m, hm⟩ : ∃ m, l.length = m := ⟨_, rfl⟩
  have hnm : n = 4 + 40 * m := by rw [← hn, layX_length, hm]
  have hm1 : m ≤ 16384 := by rw [← hm]; exact (right_one hR).1
  have ht4 : (layX l).take 4 = beL m 4 := by
    rw [layX, hm, List.take_append_of_le_length (by rw [beL_length]; exact Nat.le_refl _), List.take_of_length_le (by rw [beL_length]; exact Nat.le_refl _)]
  have hd4 : (layX l).drop 4 = l.flatMap rowX := by
    rw [layX, hm, List.drop_append_of_le_length (by rw [beL_length]; exact Nat.le_refl _), List.drop_of_length_le (by rw [beL_length]; exact Nat.le_refl _), List.nil_append]
  have h4 := hI.take 4
  rw [ht4] at h4
  have HNW := Lib.hid (fun W (hb : Below w.heap.size w W) => RNew_any A 4 c (beL m 4) W (beL_length _ _) (by decide) (h4.below hb) (beL_bytes _ _) (fun h => by rw [hA] at h; cases h))
  have HGET := Lib.hid (fun W r (h : Rd W r (beL m 4)) => Get_any r (beL m 4) 4 W h (by decide) (by decide) (by rw [beL_length]; exact Nat.le_refl _))
  have hnum : numL ((beL m 4).take 4) = (m : Int) := by rw [List.take_of_length_le (by rw [beL_length]; exact Nat.le_refl _), numL_be m 4 (by omega)]
  have HNUM := Lib.hid hnum
  have e1 : IntKind.i64.wrap ((n : Int) - 4) = ((40 * m : Nat) : Int) := by rw [IntKind.wrap_i64]; omega
  obtain ⟨k, hk⟩ : ∃ k, 40 * m = k := ⟨_, rfl⟩
  rw [hk] at e1
  have e2 : (k : Int).tmod 40 = 0 := by rw [← hk, Int.tmod_eq_emod_of_nonneg (by omega)]; omega
  have e3 : (k : Int).tdiv 40 = (m : Int) := by rw [← hk, Int.tdiv_eq_ediv_of_nonneg (by omega)]; omega
  have e4 : ¬ (n : Int) < 4 := by omega
  have e5 : (4 : Int) ≤ (c : Int) := by omega
  have e6 : IntKind.u64.wrap (m : Int) = (m : Int) := by rw [IntKind.wrap_u64]; omega
  obtain ⟨A4, hA4⟩ : ∃ x, slA A 4 c = x := ⟨_, rfl⟩
  have hif : (if c = 4 then A else Option.map (fun x => { block := x.block, off := x.off + 4 }) A) = A4 := (map_add4 A c).trans hA4
  have hi4 := hI.sl 4 c (by omega)
  rw [hd4, hA4] at hi4
  have HI4 := Lib.hid hi4
  have HGW := Lib.hid (show g < w.heap.size from by
    obtain ⟨ad, e0, hc0⟩ := hI 0 (by rw [layX_length]; omega)
    rw [hA] at e0; injection e0 with e0; subst e0
    rw [addr_add0] at hc0; exact cell_lt hc0)
  have HA4 := Lib.hid (show m = 0 ∨ A4 = some ⟨g, 4, none⟩ from by
    by_cases h0 : m = 0
    · exact .inl h0
    · right
      rw [← hA4, slA, if_neg (by omega), hA]
      show some ((⟨g, 0, none⟩ : Addr).add 4) = _
      rw [addr_add0])
  obtain ⟨n4, hn4⟩ : ∃ x, n - 4 = x := ⟨_, rfl⟩
  obtain ⟨c4, hc4⟩ : ∃ x, c - 4 = x := ⟨_, rfl⟩
  have HN4 := Lib.hid (show n4 = 40 * m ∧ n4 ≤ c4 by omega)
  have HX := Lib.hid (And.intro hnm (And.intro hk (And.intro hm (And.intro hd4 hc))))
  have HI := Lib.hid hI
  clear hn hc hI hm hnm ht4 hd4 h4 hnum hk hA hA4 hi4
  go_enter Tryz.func89, Tryz.ntmps89
  go_wp2_with fail
  refine (HNW.out w (Below.refl _ _)).mono ?_
  rintro e w1 ⟨r1, rfl, hr1, hrd1, hb1⟩
  have HRD1 := Lib.hid hrd1
  have HB1 := Lib.hid hb1
  have HR1 := Lib.hid hr1
  clear hrd1 hb1 hr1
  go_wp2_with fail
  refine (HGET.out w1 r1 HRD1.out).mono ?_
  rintro e w2 ⟨rfl, hg2, _⟩
  rw [HNUM.out]
  have HB2 := Lib.hid (show Below w.heap.size w w2 from HB1.out.grown hg2 HB1.out.size (fun k hk => by injection hk with hk; rw [← hk]; exact HR1.out))
  clear hg2
  go_upto_region 5 with (fail)
  have HML := Lib.hid hm1
  have HRX := Lib.hid hR
  clear hR hif hn4 hc4 e1 e2 e3 e4 e5 e6 hm1
  go_loopg [0, 4] (m + 1) (fun kq v0 v4 w' => ∃ (i : Nat) (B : Option Addr) (nb cb : Nat), v0 = .slice B nb cb ∧ i + kq = m + 1 ∧ nb + 40 * i = 40 * m ∧ nb ≤ cb ∧ Hid (i = m ∨ ∃ o, B = some ⟨g, o, none⟩) ∧ Hid (Ints .u8 w' B ((l.drop i).flatMap rowX)) ∧ Hid (w'.ownsRow w.heap.size 135 35 v4 i ((l.take i).flatMap encX)) ∧ Hid (Below w.heap.size w w'))
  case atStart =>
    refine ⟨0, A4, n4, c4, rfl, by omega, by have := HN4.out; omega, HN4.out.2, Lib.hid ?_, Lib.hid ?_, Lib.hid ?_, HB2⟩
    · rcases HA4.out with h | h
      · exact .inl h.symm
      · exact .inr ⟨4, h⟩
    · rw [List.drop_zero]; exact HI4.out.below HB2.out
    · exact World.ownsRow_nil _ _ _ _
  case round =>
    obtain ⟨i, B, nb, cb, rfl, hi, hnb, hcb, HB, HIB, HOW, HBW⟩ := hrel
    by_cases hlt : i < m
    · have hil : i < l.length := by rw [HX.out.2.2.1]; exact hlt
      obtain ⟨x, hx⟩ : ∃ x, l[i]? = some x := ⟨_, List.getElem?_eq_getElem hil⟩
      obtain ⟨o, hB⟩ := HB.out.resolve_left (by omega)
      subst hB
      have hdr : l.drop i = x :: l.drop (i + 1) := by
        rw [List.drop_eq_getElem_cons hil]
        rw [List.getElem?_eq_getElem hil] at hx
        injection hx with hx; rw [hx]
      have HDR := Lib.hid hdr
      have HXX := Lib.hid hx
      have hnb0 : ¬ nb = 0 := by omega
      have g1 : (0 : Int) < (nb : Int) := by omega
      have g2 : (40 : Int) ≤ (cb : Int) := by omega
      have g3 : ¬ cb = 32 := by omega
      have g4 : (32 : Int) ≤ (cb : Int) := by omega
      have g5 : (40 : Int) ≤ (nb : Int) := by omega
      clear hil hx hdr
      obtain ⟨xo, hxo⟩ : ∃ k : Nat, x.val.2.1 = k := ⟨x.val.2.1.toNat, by have := ((right_one HRX.out).2 x (List.mem_of_getElem? HXX.out)).1; omega⟩
      obtain ⟨xm, hxm⟩ : ∃ k : Nat, x.val.2.2 = k := ⟨x.val.2.2.toNat, by have := ((right_one HRX.out).2 x (List.mem_of_getElem? HXX.out)).2.1; omega⟩
      obtain ⟨kn, hkn⟩ : ∃ k, x.val.1.n = k := ⟨_, rfl⟩
      have hlim := ((right_one HRX.out).2 x (List.mem_of_getElem? HXX.out)).2.2
      rw [hxo, hxm] at hlim
      have hk4 := x.property.lt
      rw [hkn] at hk4
      have hpt := rowX_parts x
      rw [hkn, hxo, hxm, Int.toNat_natCast, Int.toNat_natCast] at hpt
      have hib := HIB.out
      rw [HDR.out, List.flatMap_cons] at hib
      have h8 := (hib.drop 32).take 8
      rw [addr_add0, List.drop_append_of_le_length (by rw [rowX_length]; decide), hpt.2, List.take_append_of_le_length (by simp [beL_length]), List.take_of_length_le (by simp [beL_length])] at h8
      have hsi := hib.take 32
      rw [List.take_append_of_le_length (by rw [rowX_length]; decide), hpt.1] at hsi
      have HN8 := Lib.hid (RNew_any (some ⟨g, o + 32, none⟩) 8 (cb - 32) (beL kn 4 ++ (beL xo 2 ++ beL xm 2)) wr (by simp [beL_length]) (by decide) h8 ((beL_bytes _ _).append ((beL_bytes _ _).append (beL_bytes _ _))) (fun h => by cases h))
      have HSI := Lib.hid hsi
      have HT4 := Lib.hid (show numL ((beL kn 4 ++ (beL xo 2 ++ beL xm 2)).take 4) = (kn : Int) from by rw [List.take_append_of_le_length (by rw [beL_length]; exact Nat.le_refl _), List.take_of_length_le (by rw [beL_length]; exact Nat.le_refl _), numL_be kn 4 (by omega)])
      have HT2 := Lib.hid (show numL (((beL kn 4 ++ (beL xo 2 ++ beL xm 2)).drop 4).take 2) = (xo : Int) from by rw [List.drop_left' (beL_length kn 4), List.take_left' (beL_length xo 2), numL_be xo 2 (by omega)])
      have HT3 := Lib.hid (show numL ((((beL kn 4 ++ (beL xo 2 ++ beL xm 2)).drop 4).drop 2).take 2) = (xm : Int) from by rw [List.drop_left' (beL_length kn 4), List.drop_left' (beL_length xo 2), List.take_of_length_le (by rw [beL_length]; exact Nat.le_refl _), numL_be xm 2 (by omega)])
      have HEX := Lib.hid (And.intro hxo (And.intro hxm hkn))
      have u1 : IntKind.u32.wrap (kn : Int) = (kn : Int) := by rw [IntKind.wrap_u32]; omega
      have u2 : IntKind.i64.wrap (xo : Int) = (xo : Int) := by rw [IntKind.wrap_i64]; omega
      have u3 : IntKind.i64.wrap (xm : Int) = (xm : Int) := by rw [IntKind.wrap_i64]; omega
      have HLIM := Lib.hid hlim
      clear hxo hxm hkn hlim hpt hib h8 hsi
      go_wp2_with fail
      refine HN8.out.mono ?_
      rintro e w3 ⟨r8, rfl, hr8, hrd8, hb3⟩
      have HRD8 := Lib.hid hrd8
      have HR8 := Lib.hid (show wr.heap.size ≤ r8 ∧ r8 < w3.heap.size from ⟨hr8, hrd8.lt⟩)
      have HSZ3 := Lib.hid hb3.size
      have HB3 := Lib.hid hb3
      have hgl : g < wr.heap.size := by
        obtain ⟨ad, e0, hc0⟩ := HSI.out 0 (by rw [x.property.len]; decide)
        injection e0 with e0; subst e0
        rw [addr_add0] at hc0
        exact cell_lt hc0
      have HGL := Lib.hid hgl
      have HSUM := Lib.hid (show w3.rangeAt g o (x.val.1.sum.map (Value.int .u8)) from fun j u hj => by
        obtain ⟨ad, e0, hc0⟩ := (HSI.out.below hb3).news j u hj
        injection e0 with e0; subst e0
        rw [addr_add0] at hc0; exact hc0)
      have HSZS := Lib.hid (show (Tryz.prog.info? 131).map (·.size) = some (x.val.1.sum.map (Value.int .u8)).length from by rw [List.length_map, x.property.len]; kernel_rfl)
      have HBK := Lib.hid (show ∀ W, (Instr.build 133 #[(0, .agg (x.val.1.sum.map (Value.int .u8)).toArray), (1, .int .u32 kn)]).run Tryz.prog W = .ok (.agg x.val.1.cells.toArray) W from by rw [← HEX.out.2.2]; exact build_key _ x.property)
      have HAA := Lib.hid (array_at g o cb)
      clear hrd8 hr8 hb3 hgl HRD1
      go_upto_region 8 with (fail)
      --[8
      refine wp_region_held_drew (S := fun w' => Below wr.heap.size w3 w') (by kernel_rfl) ((Below.refl _ _).drew) (fun hHeld => ?_)
      refine held_take 0 (some 39) (v := ?_) rfl rfl (by kernel_rfl) (by kernel_rfl) (by kernel_rfl) (fun _ _ _ h => h) (Or.inl ⟨by rfl, ?_⟩) hHeld ?_
      rotate_left
      · (intro w' hSw; clear hSw; go_simp; try with_reducible rfl)
      try simp only [Act.put, List.setIfInBounds_toArray, List.set_cons_zero, List.set_cons_succ]
      refine held_take 1 (some 40) (v := ?_) rfl rfl (by kernel_rfl) (by kernel_rfl) (by kernel_rfl) (fun _ _ _ h => h) (Or.inl ⟨by rfl, ?_⟩) hHeld ?_
      rotate_left
      · (intro w' hSw; clear hSw; go_simp; try with_reducible rfl)
      try simp only [Act.put, List.setIfInBounds_toArray, List.set_cons_zero, List.set_cons_succ]
      refine held_take 2 (some 41) (v := ?_) rfl rfl (by kernel_rfl) (by kernel_rfl) (by kernel_rfl) (fun _ _ _ h => h) (Or.inl ⟨by rfl, ?_⟩) hHeld ?_
      rotate_left
      · (intro w' hSw; have pf := HAA.out w'; clear hSw; go_simp; try with_reducible rfl)
      try simp only [Act.put, List.setIfInBounds_toArray, List.set_cons_zero, List.set_cons_succ]
      refine held_take 3 (some 42) (v := .agg ((x.val.1.sum.map (Value.int .u8))).toArray) rfl rfl (by kernel_rfl) (by kernel_rfl) (by kernel_rfl) (fun _ _ _ h => h) (yieldsIf_load_mid (by rfl) 131 _ rfl g (o) rfl ((x.val.1.sum.map (Value.int .u8))) _ (fun w' h => rangeAt_block HSUM.out (h.block g HGL.out)) Tryz.underlying131 rfl HSZS.out) hHeld ?_
      try simp only [Act.put, List.setIfInBounds_toArray, List.set_cons_zero, List.set_cons_succ]
      refine held_take 4 (some 43) (v := ?_) rfl rfl (by kernel_rfl) (by kernel_rfl) (by kernel_rfl) (fun _ _ _ h => h) (Or.inl ⟨by rfl, ?_⟩) hHeld ?_
      rotate_left
      · (intro w' hSw; clear hSw; go_simp; try with_reducible rfl)
      try simp only [Act.put, List.setIfInBounds_toArray, List.set_cons_zero, List.set_cons_succ]
      refine wpAnyH_ready (rs := [5, 9]) (by kernel_rfl) (by simp) ?_
      refine AllReadyH.cons rfl (fun K hKK => ?_) (AllReadyH.cons rfl (fun K hKK => ?_) AllReadyH.nil)
      · go_simp
        go_at_call 35
        refine (Get_any r8 _ 4 _ ((HRD8.out.below (Below.refl _ _).drew)) (by decide) (by decide) (by simp [beL_length])).mono ?_
        rintro e wg1 ⟨rfl, hgg1, hrdg1⟩
        rw [HT4.out]
        have hSg1 : Below wr.heap.size w3 wg1 := (hHeld).grown hgg1 (Nat.le_trans HSZ3.out ((Nat.le_refl _))) (fun k hk => by injection hk with hk; rw [← hk]; exact HR8.out.1)
        refine hKK.out _ _ hSg1 (fun hHeld => ?_)
        clear hKK K
        try simp only [Act.put, List.setIfInBounds_toArray, List.set_cons_zero, List.set_cons_succ]
        refine held_take 6 (some 45) (v := ?_) rfl rfl (by kernel_rfl) (by kernel_rfl) (by kernel_rfl) (fun _ _ _ h => h) (Or.inl ⟨by rfl, ?_⟩) hHeld ?_
        rotate_left
        · (intro w' hSw; clear hSw; go_simp; try with_reducible rfl)
        try simp only [Act.put, List.setIfInBounds_toArray, List.set_cons_zero, List.set_cons_succ]
        refine held_take 7 (some 46) (v := .agg x.val.1.cells.toArray) rfl rfl (by kernel_rfl) (by kernel_rfl) (by kernel_rfl) (fun _ _ _ h => h) (yields_val (by go_simp) (fun W _ => exec_build _ _ rfl #[(0, .agg (x.val.1.sum.map (Value.int .u8)).toArray), (1, .int .u32 kn)] (by go_simp) (HBK.out W))) hHeld ?_
        try simp only [Act.put, List.setIfInBounds_toArray, List.set_cons_zero, List.set_cons_succ]
        refine held_take 8 (some 47) (v := .agg (encX ⟨(x.val.1, (0, 0)), x.property⟩).toArray) rfl rfl (by kernel_rfl) (by kernel_rfl) (by kernel_rfl) (fun _ _ _ h => h) (yields_val (by go_simp) (fun W _ => exec_build _ _ rfl #[(0, .agg x.val.1.cells.toArray)] (by go_simp) (build_extent _ _ W))) hHeld ?_
        try simp only [Act.put, List.setIfInBounds_toArray, List.set_cons_zero, List.set_cons_succ]
        refine wpAnyH_ready (rs := [9]) (by kernel_rfl) (by simp) ?_
        refine AllReadyH.cons rfl (fun K hKK => ?_) AllReadyH.nil
        have hrAq2 : ((wg1).alloc (.cells zX 135)).heap[(wg1).heap.size]? = some (.cells zX 135 (0, 0)) := heap_alloc_last (wg1) (.cells zX 135)
        have hgAq2 : w3.heap.size ≤ (wg1).heap.size := (Nat.le_trans (Nat.le_refl _) hgg1.size)
        have hSAq2 := (hHeld).alloc (Nat.le_trans HSZ3.out (hHeld).size) (.cells zX 135)
        have hRAq2 := (hrdg1).below ((Below.refl _ (wg1)).alloc (Nat.le_refl _) (.cells zX 135))
        refine step_val rfl (exec_alloc _ rfl (zeroX _)) ?_
        refine hKK.out _ _ hSAq2 (fun hHeld => ?_)
        clear hKK K
        try simp only [Act.put, List.setIfInBounds_toArray, List.set_cons_zero, List.set_cons_succ]
        refine wpAnyH_ready (rs := [10]) (by kernel_rfl) (by simp) ?_
        refine AllReadyH.cons rfl (fun K hKK => ?_) AllReadyH.nil
        have hges3 : w3.heap.size ≤ (wg1).heap.size := hgAq2
        have hSs3 := (hHeld).grown (grown_setRow (((wg1).alloc (.cells zX 135))) ((wg1).heap.size) (encX ⟨(x.val.1, (0, 0)), x.property⟩).toArray) (Nat.le_trans HSZ3.out (by rw [World.size_alloc]; exact Nat.le_succ_of_le ((Nat.le_trans (Nat.le_refl _) hgg1.size)))) (fun k hk => by injection hk with hk; rw [← hk]; exact Nat.le_trans HSZ3.out hges3)
        have hRs3 := Rd.chg (R := fun z => z = (wg1).heap.size) (hRAq2) (Chg.of_ (grown_setRow (((wg1).alloc (.cells zX 135))) ((wg1).heap.size) (encX ⟨(x.val.1, (0, 0)), x.property⟩).toArray) (fun k _ e => by injection e with e; exact e.symm)) (fun z hz => by have := HR8.out.2; omega)
        have hrs3 := setRow_heap _ _ _ (encX ⟨(x.val.1, (0, 0)), x.property⟩).toArray _ _ hrAq2
        refine step_wp rfl (wp_store_row 135 _ _ rfl _ (encX ⟨(x.val.1, (0, 0)), x.property⟩).toArray rfl rfl 135 zX hrAq2 (sizeXA _) (zX_size _) (all_one (encX_one _)) ?_)
        refine hKK.out _ _ hSs3 (fun hHeld => ?_)
        clear hKK K
        try simp only [Act.put, List.setIfInBounds_toArray, List.set_cons_zero, List.set_cons_succ]
        refine wpAnyH_done (by kernel_rfl) ?_ _
        obtain ⟨w9, hw9⟩ : ∃ w9, ((((wg1).alloc (.cells zX 135))).setRow ((wg1).heap.size) (encX ⟨(x.val.1, (0, 0)), x.property⟩).toArray) = w9 := ⟨_, rfl⟩
        have h9r := hrs3
        have h9d := hRs3
        have h9s := hHeld
        rw [hw9] at h9r h9d h9s ⊢
        obtain ⟨g6, hg6⟩ : ∃ g6, (wg1).heap.size = g6 := ⟨_, rfl⟩
        have h9g : w3.heap.size ≤ g6 := by rw [← hg6]; exact hges3
        rw [hg6] at h9r
        try rw [hg6]
        have H9 := Lib.hid (And.intro h9r (And.intro h9d (And.intro h9s h9g)))
        clear h9r h9d h9s h9g hw9 hg6 hHeld
        go_simp
        go_wp2_with fail
        refine (Get_any r8 _ 2 w9 H9.out.2.1 (by decide) (by decide) (by simp [beL_length])).mono ?_
        rintro e wA ⟨rfl, hgA, hrdA⟩
        rw [HT2.out]
        have hn86 : r8 < g6 := by have := HR8.out.2; have := H9.out.2.2.2; omega
        have hrA := ((Chg.of hgA).block g6 (row_lt H9.out.1) (fun e => by injection e with e; omega)).trans H9.out.1
        have c33A : wA.cell? ⟨g6, 33, none⟩ = some (.int .i64 0) := row_at hrA (encX_33 _)
        have f33A := free_row hrA 33
        have HBA := Lib.hid (show Below wr.heap.size w3 wA from H9.out.2.2.1.grown hgA (Nat.le_trans HSZ3.out H9.out.2.2.1.size) (fun k hk => by injection hk with hk; rw [← hk]; exact HR8.out.1))
        have hcB := Chg.of_ (R := fun z => z = g6) (grown_setCell wA g6 33 (.int .i64 xo)) (fun k _ e => by injection e with e; exact e.symm)
        have HRDB := Lib.hid (hrdA.chg hcB (fun z hz => by omega))
        have HRB := Lib.hid (setCell_row hrA 33 (.int .i64 xo))
        have HCB := Lib.hid hcB
        have HN86 := Lib.hid hn86
        clear hgA hrdA hrA hcB hn86
        go_wp2_with fail
        refine (Get_any r8 _ 2 _ HRDB.out (by decide) (by decide) (by simp [beL_length])).mono ?_
        rintro e wC ⟨rfl, hgC, hrdC⟩
        rw [HT3.out]
        have hrC := ((Chg.of hgC).block g6 (row_lt HRB.out) (fun e => by injection e with e; have := HN86.out; omega)).trans HRB.out
        have c34C : wC.cell? ⟨g6, 34, none⟩ = some (.int .i64 0) := by rw [cell_row' hrC]; exact set33_34 _
        have f34C := free_row hrC 34
        have HG6G := Lib.hid (show wr.heap.size ≤ g6 from Nat.le_trans HSZ3.out H9.out.2.2.2)
        have HBC := Lib.hid (show Below wr.heap.size w3 wC from (HBA.out.trans (HCB.out.below (Nat.le_trans HSZ3.out HBA.out.size) (fun k hk => by rw [hk]; exact HG6G.out))).grown hgC (Nat.le_trans HSZ3.out (Nat.le_trans HBA.out.size HCB.out.size)) (fun k hk => by injection hk with hk; rw [← hk]; exact HR8.out.1))
        have HRC := Lib.hid hrC
        clear hgC hrdC hrC c33A f33A
        go_upto_region 11 with (fail)
        have hcD := Chg.of_ (R := fun z => z = g6) (grown_setCell wC g6 34 (.int .i64 xm)) (fun k _ e => by injection e with e; exact e.symm)
        have hrD := setCell_row HRC.out 34 (.int .i64 xm)
        obtain ⟨wD, hwD⟩ : ∃ wD, wC.setCell ⟨g6, 34, none⟩ (.int .i64 xm) = wD := ⟨_, rfl⟩
        rw [hwD] at hcD hrD ⊢
        rw [enc_set x xo xm HEX.out.1 HEX.out.2.1] at hrD
        have HRGD := Lib.hid (show wD.rangeAt g6 0 (encX x) from range_row hrD)
        have HBD := Lib.hid (show Below wr.heap.size wr wD from HB3.out.trans (HBC.out.trans (hcD.below (Nat.le_trans HSZ3.out HBC.out.size) (fun k hk => by rw [hk]; exact HG6G.out))))
        have HBS := Lib.hid (build_rowX x)
        have hoD := own_chg (R := fun _ => False) HOW.out (Chg.belowAt HBD.out) (fun _ _ h => h)
        have HOA := Lib.hid (own_chg (R := fun _ => False) hoD ((Chg.refl _ _).alloc (.cells (encX x).toArray 135)) (fun _ _ h => h))
        have HNW := Lib.hid (show ∀ j u, (encX x)[j]? = some u → ∃ ad, some (⟨wD.heap.size, 0, none⟩ : Addr) = some ad ∧ (wD.alloc (.cells (encX x).toArray 135)).cell? (ad.add j) = some u from fun j u hj => ⟨_, rfl, by rw [addr_add0, Nat.zero_add]; exact row_at (heap_alloc_last wD _) hj⟩)
        have HBX := Lib.hid (show Below w.heap.size w wD from HBW.out.trans (HBD.out.mono HBW.out.size))
        have HBASE := Lib.hid (show w.heap.size ≤ (wD.alloc (.cells (encX x).toArray 135)).heap.size from by rw [World.size_alloc]; have := HBX.out.size; omega)
        have HMX := Lib.hid (show i + 1 ≤ maxLen ∧ (i + 1) * 56 ≤ 140737488355328 from by have := HML.out; unfold maxLen; omega)
        clear hcD hrD hwD hoD c34C f34C
        go_wp2_with (first | (with_reducible refine Go.wpList_load_mid rfl 135 _ rfl g6 0 rfl (encX x) _ HRGD.out Tryz.underlying135 rfl (sizeX x) ?_) | (with_reducible refine wpList_val rfl (exec_buildSlice _ _ _ rfl #[(0, .agg (encX x).toArray)] (by go_simp) (HBS.out _)) ?_) | (at_builtin; refine wpList_app EX rfl _ _ rfl w.heap.size _ i ((l.take i).flatMap encX) rfl HOA.out (some ⟨wD.heap.size, 0, none⟩) 1 1 (encX x) rfl (fun h => by cases h) (encX_length x) HNW.out (encX_one x) HMX.out.1 HMX.out.2 HBASE.out ?_; intro v9 w10 hown hgrow hat; have HOWN := Lib.hid hown; have HGR := Lib.hid hgrow; clear hown hgrow hat; have HFA := Lib.hid (take_round HXX.out HDR.out HOWN.out HGR.out HBX.out (fun k hk => (HOA.out.lt k hk).1) HIB.out HBD.out HGW.out)) | fail)
        · go_roundg (m - i)
          case measure => omega
          case rel =>
            refine ⟨i + 1, some ⟨g, o, none⟩, nb - 40, 0, rfl, by omega, by omega, by omega, Lib.hid (.inl (by omega)), Lib.hid ?_, Lib.hid HFA.out.1, Lib.hid HFA.out.2.1⟩
            rw [List.drop_of_length_le (by rw [HX.out.2.2.1]; omega)]; exact Ints.nil _ _ _
        · go_roundg (m - i)
          case measure => omega
          case rel =>
            refine ⟨i + 1, some ⟨g, o + 40, none⟩, nb - 40, cb - 40, rfl, by omega, by omega, by omega, Lib.hid (.inr ⟨o + 40, rfl⟩), Lib.hid ?_, Lib.hid HFA.out.1, Lib.hid HFA.out.2.1⟩
            have h1 := HFA.out.2.2.1.drop 40
            rw [addr_add0, HFA.out.2.2.2] at h1
            exact h1
      · have hrAq4 : ((w3.drew).alloc (.cells zX 135)).heap[(w3).heap.size]? = some (.cells zX 135 (0, 0)) := heap_alloc_last (w3.drew) (.cells zX 135)
        have hgAq4 : w3.heap.size ≤ (w3).heap.size := (Nat.le_refl _)
        have hSAq4 := (hHeld).alloc (Nat.le_trans HSZ3.out (hHeld).size) (.cells zX 135)
        have hRAq4 := ((HRD8.out.below (Below.refl _ _).drew)).below ((Below.refl _ (w3.drew)).alloc (Nat.le_refl _) (.cells zX 135))
        refine step_val rfl (exec_alloc _ rfl (zeroX _)) ?_
        refine hKK.out _ _ hSAq4 (fun hHeld => ?_)
        clear hKK K
        try simp only [Act.put, List.setIfInBounds_toArray, List.set_cons_zero, List.set_cons_succ]
        refine wpAnyH_ready (rs := [5]) (by kernel_rfl) (by simp) ?_
        refine AllReadyH.cons rfl (fun K hKK => ?_) AllReadyH.nil
        go_simp
        go_at_call 35
        refine (Get_any r8 _ 4 _ (hRAq4) (by decide) (by decide) (by simp [beL_length])).mono ?_
        rintro e wg5 ⟨rfl, hgg5, hrdg5⟩
        rw [HT4.out]
        have hSg5 : Below wr.heap.size w3 wg5 := (hHeld).grown hgg5 (Nat.le_trans HSZ3.out ((by rw [World.size_alloc]; exact Nat.le_succ_of_le ((Nat.le_refl _))))) (fun k hk => by injection hk with hk; rw [← hk]; exact HR8.out.1)
        have hrBg5 := (((Chg.of hgg5).block _ (row_lt hrAq4) (fun e => by injection e with e; have h9 := HR8.out.2; have := hgAq4; omega))).trans hrAq4
        refine hKK.out _ _ hSg5 (fun hHeld => ?_)
        clear hKK K
        try simp only [Act.put, List.setIfInBounds_toArray, List.set_cons_zero, List.set_cons_succ]
        refine held_take 6 (some 45) (v := ?_) rfl rfl (by kernel_rfl) (by kernel_rfl) (by kernel_rfl) (fun _ _ _ h => h) (Or.inl ⟨by rfl, ?_⟩) hHeld ?_
        rotate_left
        · (intro w' hSw; clear hSw; go_simp; try with_reducible rfl)
        try simp only [Act.put, List.setIfInBounds_toArray, List.set_cons_zero, List.set_cons_succ]
        refine held_take 7 (some 46) (v := .agg x.val.1.cells.toArray) rfl rfl (by kernel_rfl) (by kernel_rfl) (by kernel_rfl) (fun _ _ _ h => h) (yields_val (by go_simp) (fun W _ => exec_build _ _ rfl #[(0, .agg (x.val.1.sum.map (Value.int .u8)).toArray), (1, .int .u32 kn)] (by go_simp) (HBK.out W))) hHeld ?_
        try simp only [Act.put, List.setIfInBounds_toArray, List.set_cons_zero, List.set_cons_succ]
        refine held_take 8 (some 47) (v := .agg (encX ⟨(x.val.1, (0, 0)), x.property⟩).toArray) rfl rfl (by kernel_rfl) (by kernel_rfl) (by kernel_rfl) (fun _ _ _ h => h) (yields_val (by go_simp) (fun W _ => exec_build _ _ rfl #[(0, .agg x.val.1.cells.toArray)] (by go_simp) (build_extent _ _ W))) hHeld ?_
        try simp only [Act.put, List.setIfInBounds_toArray, List.set_cons_zero, List.set_cons_succ]
        refine wpAnyH_ready (rs := [10]) (by kernel_rfl) (by simp) ?_
        refine AllReadyH.cons rfl (fun K hKK => ?_) AllReadyH.nil
        have hges6 : w3.heap.size ≤ (w3).heap.size := hgAq4
        have hSs6 := (hHeld).grown (grown_setRow (wg5) ((w3).heap.size) (encX ⟨(x.val.1, (0, 0)), x.property⟩).toArray) (Nat.le_trans HSZ3.out (Nat.le_trans (by rw [World.size_alloc]; exact Nat.le_succ_of_le ((Nat.le_refl _))) hgg5.size)) (fun k hk => by injection hk with hk; rw [← hk]; exact Nat.le_trans HSZ3.out hges6)
        have hRs6 := Rd.chg (R := fun z => z = (w3).heap.size) (hrdg5) (Chg.of_ (grown_setRow (wg5) ((w3).heap.size) (encX ⟨(x.val.1, (0, 0)), x.property⟩).toArray) (fun k _ e => by injection e with e; exact e.symm)) (fun z hz => by have := HR8.out.2; omega)
        have hrs6 := setRow_heap _ _ _ (encX ⟨(x.val.1, (0, 0)), x.property⟩).toArray _ _ hrBg5
        refine step_wp rfl (wp_store_row 135 _ _ rfl _ (encX ⟨(x.val.1, (0, 0)), x.property⟩).toArray rfl rfl 135 zX hrBg5 (sizeXA _) (zX_size _) (all_one (encX_one _)) ?_)
        refine hKK.out _ _ hSs6 (fun hHeld => ?_)
        clear hKK K
        try simp only [Act.put, List.setIfInBounds_toArray, List.set_cons_zero, List.set_cons_succ]
        refine wpAnyH_done (by kernel_rfl) ?_ _
        obtain ⟨w9, hw9⟩ : ∃ w9, ((wg5).setRow ((w3).heap.size) (encX ⟨(x.val.1, (0, 0)), x.property⟩).toArray) = w9 := ⟨_, rfl⟩
        have h9r := hrs6
        have h9d := hRs6
        have h9s := hHeld
        rw [hw9] at h9r h9d h9s ⊢
        obtain ⟨g6, hg6⟩ : ∃ g6, (w3).heap.size = g6 := ⟨_, rfl⟩
        have h9g : w3.heap.size ≤ g6 := by rw [← hg6]; exact hges6
        rw [hg6] at h9r
        try rw [hg6]
        have H9 := Lib.hid (And.intro h9r (And.intro h9d (And.intro h9s h9g)))
        clear h9r h9d h9s h9g hw9 hg6 hHeld
        go_simp
        go_wp2_with fail
        refine (Get_any r8 _ 2 w9 H9.out.2.1 (by decide) (by decide) (by simp [beL_length])).mono ?_
        rintro e wA ⟨rfl, hgA, hrdA⟩
        rw [HT2.out]
        have hn86 : r8 < g6 := by have := HR8.out.2; have := H9.out.2.2.2; omega
        have hrA := ((Chg.of hgA).block g6 (row_lt H9.out.1) (fun e => by injection e with e; omega)).trans H9.out.1
        have c33A : wA.cell? ⟨g6, 33, none⟩ = some (.int .i64 0) := row_at hrA (encX_33 _)
        have f33A := free_row hrA 33
        have HBA := Lib.hid (show Below wr.heap.size w3 wA from H9.out.2.2.1.grown hgA (Nat.le_trans HSZ3.out H9.out.2.2.1.size) (fun k hk => by injection hk with hk; rw [← hk]; exact HR8.out.1))
        have hcB := Chg.of_ (R := fun z => z = g6) (grown_setCell wA g6 33 (.int .i64 xo)) (fun k _ e => by injection e with e; exact e.symm)
        have HRDB := Lib.hid (hrdA.chg hcB (fun z hz => by omega))
        have HRB := Lib.hid (setCell_row hrA 33 (.int .i64 xo))
        have HCB := Lib.hid hcB
        have HN86 := Lib.hid hn86
        clear hgA hrdA hrA hcB hn86
        go_wp2_with fail
        refine (Get_any r8 _ 2 _ HRDB.out (by decide) (by decide) (by simp [beL_length])).mono ?_
        rintro e wC ⟨rfl, hgC, hrdC⟩
        rw [HT3.out]
        have hrC := ((Chg.of hgC).block g6 (row_lt HRB.out) (fun e => by injection e with e; have := HN86.out; omega)).trans HRB.out
        have c34C : wC.cell? ⟨g6, 34, none⟩ = some (.int .i64 0) := by rw [cell_row' hrC]; exact set33_34 _
        have f34C := free_row hrC 34
        have HG6G := Lib.hid (show wr.heap.size ≤ g6 from Nat.le_trans HSZ3.out H9.out.2.2.2)
        have HBC := Lib.hid (show Below wr.heap.size w3 wC from (HBA.out.trans (HCB.out.below (Nat.le_trans HSZ3.out HBA.out.size) (fun k hk => by rw [hk]; exact HG6G.out))).grown hgC (Nat.le_trans HSZ3.out (Nat.le_trans HBA.out.size HCB.out.size)) (fun k hk => by injection hk with hk; rw [← hk]; exact HR8.out.1))
        have HRC := Lib.hid hrC
        clear hgC hrdC hrC c33A f33A
        go_upto_region 11 with (fail)
        have hcD := Chg.of_ (R := fun z => z = g6) (grown_setCell wC g6 34 (.int .i64 xm)) (fun k _ e => by injection e with e; exact e.symm)
        have hrD := setCell_row HRC.out 34 (.int .i64 xm)
        obtain ⟨wD, hwD⟩ : ∃ wD, wC.setCell ⟨g6, 34, none⟩ (.int .i64 xm) = wD := ⟨_, rfl⟩
        rw [hwD] at hcD hrD ⊢
        rw [enc_set x xo xm HEX.out.1 HEX.out.2.1] at hrD
        have HRGD := Lib.hid (show wD.rangeAt g6 0 (encX x) from range_row hrD)
        have HBD := Lib.hid (show Below wr.heap.size wr wD from HB3.out.trans (HBC.out.trans (hcD.below (Nat.le_trans HSZ3.out HBC.out.size) (fun k hk => by rw [hk]; exact HG6G.out))))
        have HBS := Lib.hid (build_rowX x)
        have hoD := own_chg (R := fun _ => False) HOW.out (Chg.belowAt HBD.out) (fun _ _ h => h)
        have HOA := Lib.hid (own_chg (R := fun _ => False) hoD ((Chg.refl _ _).alloc (.cells (encX x).toArray 135)) (fun _ _ h => h))
        have HNW := Lib.hid (show ∀ j u, (encX x)[j]? = some u → ∃ ad, some (⟨wD.heap.size, 0, none⟩ : Addr) = some ad ∧ (wD.alloc (.cells (encX x).toArray 135)).cell? (ad.add j) = some u from fun j u hj => ⟨_, rfl, by rw [addr_add0, Nat.zero_add]; exact row_at (heap_alloc_last wD _) hj⟩)
        have HBX := Lib.hid (show Below w.heap.size w wD from HBW.out.trans (HBD.out.mono HBW.out.size))
        have HBASE := Lib.hid (show w.heap.size ≤ (wD.alloc (.cells (encX x).toArray 135)).heap.size from by rw [World.size_alloc]; have := HBX.out.size; omega)
        have HMX := Lib.hid (show i + 1 ≤ maxLen ∧ (i + 1) * 56 ≤ 140737488355328 from by have := HML.out; unfold maxLen; omega)
        clear hcD hrD hwD hoD c34C f34C
        go_wp2_with (first | (with_reducible refine Go.wpList_load_mid rfl 135 _ rfl g6 0 rfl (encX x) _ HRGD.out Tryz.underlying135 rfl (sizeX x) ?_) | (with_reducible refine wpList_val rfl (exec_buildSlice _ _ _ rfl #[(0, .agg (encX x).toArray)] (by go_simp) (HBS.out _)) ?_) | (at_builtin; refine wpList_app EX rfl _ _ rfl w.heap.size _ i ((l.take i).flatMap encX) rfl HOA.out (some ⟨wD.heap.size, 0, none⟩) 1 1 (encX x) rfl (fun h => by cases h) (encX_length x) HNW.out (encX_one x) HMX.out.1 HMX.out.2 HBASE.out ?_; intro v9 w10 hown hgrow hat; have HOWN := Lib.hid hown; have HGR := Lib.hid hgrow; clear hown hgrow hat; have HFA := Lib.hid (take_round HXX.out HDR.out HOWN.out HGR.out HBX.out (fun k hk => (HOA.out.lt k hk).1) HIB.out HBD.out HGW.out)) | fail)
        · go_roundg (m - i)
          case measure => omega
          case rel =>
            refine ⟨i + 1, some ⟨g, o, none⟩, nb - 40, 0, rfl, by omega, by omega, by omega, Lib.hid (.inl (by omega)), Lib.hid ?_, Lib.hid HFA.out.1, Lib.hid HFA.out.2.1⟩
            rw [List.drop_of_length_le (by rw [HX.out.2.2.1]; omega)]; exact Ints.nil _ _ _
        · go_roundg (m - i)
          case measure => omega
          case rel =>
            refine ⟨i + 1, some ⟨g, o + 40, none⟩, nb - 40, cb - 40, rfl, by omega, by omega, by omega, Lib.hid (.inr ⟨o + 40, rfl⟩), Lib.hid ?_, Lib.hid HFA.out.1, Lib.hid HFA.out.2.1⟩
            have h1 := HFA.out.2.2.1.drop 40
            rw [addr_add0, HFA.out.2.2.2] at h1
            exact h1
      --]8
    · obtain rfl : i = m := by omega
      have htl : l.take i = l := List.take_of_length_le (by rw [HX.out.2.2.1]; exact Nat.le_refl _)
      have how := HOW.out
      rw [htl] at how
      obtain ⟨A9, c9, hv⟩ : ∃ A c, u4 = .slice A i c := by
        obtain ⟨_, h2⟩ := how
        rcases h2 with ⟨h2, h3⟩ | ⟨g, cap, cur, e, _⟩
        · exact ⟨none, 0, by rw [h2, h3]⟩
        · exact ⟨_, cap, e⟩
      subst hv
      have hxa : XAt wr A9 l := own_XAt (by rw [HX.out.2.2.1]; exact how)
      have HXA := Lib.hid hxa
      have HRI := Lib.hid (Right_any A9 i c9 l wr HX.out.2.2.1 (by have := HML.out; omega) hxa)
      rw [HRX.out] at HRI
      have hnb0 : nb = 0 := by omega
      subst hnb0
      have HLM := Lib.hid HX.out.2.2.1
      clear htl how hxa hlt hi hnb
      go_wp2_with fail
      refine HRI.out.mono ?_
      rintro e w4 ⟨rfl, hb4⟩
      have HB4 := Lib.hid hb4
      clear hb4
      go_wp2_with fail
      go_ret2
      exact ⟨A9, c9, by rw [HLM.out]; rfl, HXA.out.below HB4.out, HBW.out.trans (HB4.out.mono HBW.out.size)⟩
end Go.Proofs.YtcklcffepedklaaGreatDoor
