/- Texts of the proof, one behind the other: extent: Lay. -/
import Derived.Test.YtcklcffepedklaaGreatDoorM16
import Derived.Test.YtcklcffepedklaaGreatDoorM11
namespace Go.Proofs.YtcklcffepedklaaGreatDoor
open Go.RowKit Go.Maps

/-- An extent's bytes. -/
def rowX (r : Xt) : List Int := r.val.1.sum ++ (beL r.val.1.n 4 ++ beL r.val.2.1.toNat 2 ++ beL r.val.2.2.toNat 2)
def layX (l : List Xt) : List Int := beL l.length 4 ++ l.flatMap rowX
theorem rowX_length (r : Xt) : (rowX r).length = 40 := by
  have := r.property.len
  simp [rowX, beL_length, this]
theorem flatX_length : ∀ l : List Xt, (l.flatMap rowX).length = 40 * l.length
  | [] => rfl
  | r :: l => by rw [List.flatMap_cons, List.length_append, rowX_length, flatX_length l, List.length_cons]; omega
theorem layX_length (l : List Xt) : (layX l).length = 4 + 40 * l.length := by rw [layX, List.length_append, beL_length, flatX_length]
theorem bytes_nil : Bytes [] := fun i => by simp
theorem rowX_bytes (r : Xt) : Bytes (rowX r) := r.property.byt.append (((beL_bytes _ _).append (beL_bytes _ _)).append (beL_bytes _ _))
theorem layX_bytes (l : List Xt) : Bytes (layX l) := by
  refine (beL_bytes _ _).append ?_
  induction l with
  | nil => exact bytes_nil
  | cons r l ih => rw [List.flatMap_cons]; exact (rowX_bytes r).append ih
theorem right_one {l : List Xt} (h : rightX l = true) : l.length ≤ 16384 ∧ ∀ r ∈ l, 0 ≤ r.val.2.1 ∧ 1 ≤ r.val.2.2 ∧ r.val.2.1 + r.val.2.2 ≤ 4096 := by
  unfold rightX at h
  rw [Bool.and_eq_true, decide_eq_true_eq] at h
  refine ⟨h.1, fun r hr => ?_⟩
  have h2 : ¬ l.any wrongX = true := by simpa using h.2
  have h3 : ¬ wrongX r = true := fun h3 => h2 (List.any_eq_true.2 ⟨r, hr, h3⟩)
  unfold wrongX at h3
  simp only [Bool.or_eq_true, decide_eq_true_eq, not_or] at h3
  omega
theorem Tryz.infoX : (Tryz.prog.info? 135).map (fun i => (i.zero, i.size, i.bytes)) = some (some (.agg (((List.replicate 32 (Value.int .u8 0)) ++ [Value.int .u32 0]) ++ [Value.int .i64 0, Value.int .i64 0]).toArray), 35, 56) := by kernel_rfl
def zX : Array Value := (((List.replicate 32 (Value.int .u8 0)) ++ [Value.int .u32 0]) ++ [Value.int .i64 0, Value.int .i64 0]).toArray
theorem zeroX (w : World) : (zeroValue 135).run Tryz.prog w = .ok (.agg zX) w := by
  obtain ⟨i0, hi, hz0, _, _⟩ := info_parts Tryz.infoX
  exact zero_run hi hz0 w
theorem zX_size (r : Xt) : zX.size = (encX r).toArray.size := by
  have e : (encX r).toArray.size = 35 := by rw [List.size_toArray, encX_length]
  rw [e]; rfl
theorem encX_32 (r : Xt) : (encX r)[32]? = some (.int .u32 r.val.1.n) := by
  rw [encX, List.getElem?_append_left (by rw [Ky.cells_length r.property]; decide)]; exact Ky.cells_32 r.property
theorem own_cap (W : World) (m : Nat) (hm : m ≤ 1000000000000) (base : Nat) (hb : base ≤ W.heap.size) : OwnB (W.alloc (.cells (List.replicate m (Value.int .u8 0)).toArray 5)) base (.slice (some ⟨W.heap.size, 0, none⟩) 0 m) [] :=
  ⟨rfl, .inr ⟨W.heap.size, m, (List.replicate m (Value.int .u8 0)).toArray, rfl, hb, heap_alloc_last _ _, Nat.zero_le _, by unfold maxLen; omega, by simp, by simp⟩⟩
theorem sum_ints {w : World} {g : Nat} {r : Xt} {t : TypeId} (h : w.heap[g]? = some (.cells (encX r).toArray t (0, 0))) : Ints .u8 w (some ⟨g, 0, none⟩) r.val.1.sum := fun i hi => by
  refine ⟨_, rfl, ?_⟩
  have h32 := r.property.len
  rw [addr_add0, Nat.zero_add]
  refine row_at h ?_
  rw [encX, List.getElem?_append_left (by rw [Ky.cells_length r.property]; omega), Ky.cells, List.getElem?_append_left (by simpa using hi), List.getElem?_map, List.getD_eq_getElem?_getD, List.getElem?_eq_getElem hi]
  rfl
set_option maxRecDepth 20000 in
theorem XLay_no (A : Option Addr) (n c : Nat) (l : List Xt) (w : World) (hn : l.length = n) (hn1 : n ≤ 1000000000) (hA : XAt w A l) (hR : rightX l = false) :
    Calls Tryz.prog 49 #[.slice A n c] w fun e w' => e = .returned (.tuple #[.slice none 0 0, .int .i64 1]) ∧ Below w.heap.size w w' := by
  have HR := Lib.hid (Right_any A n c l w hn hn1 hA)
  rw [hR] at HR
  clear hn hA hR
  go_enter Tryz.func49, Tryz.ntmps49
  go_wp2_with fail
  refine HR.out.mono ?_
  rintro e w1 ⟨rfl, hb1⟩
  have HB1 := Lib.hid hb1
  clear hb1
  go_wp2_with fail
  go_ret2
  exact ⟨rfl, HB1.out⟩
set_option maxRecDepth 20000 in
set_option maxHeartbeats 1600000 in
theorem XLay_yes (A : Option Addr) (n c : Nat) (l : List Xt) (w : World) (hn : l.length = n) (hA : XAt w A l) (hR : rightX l = true) :
    Calls Tryz.prog 49 #[.slice A n c] w fun e w' => ∃ v, e = .returned (.tuple #[v, .int .i64 0]) ∧ OwnB w' w.heap.size v (layX l) ∧ Below w.heap.size w w' := by
  have hro := right_one hR
  have hn2 : n ≤ 16384 := by rw [← hn]; exact hro.1
  have HR := Lib.hid (Right_any A n c l w hn (by omega) hA)
  rw [hR] at HR
  have HN := Lib.hid hn
  have HA := Lib.hid hA
  clear hn hA hR
  have HRO := Lib.hid hro.2
  have e1 : IntKind.i64.wrap (40 * (n : Int)) = ((40 * n : Nat) : Int) := by rw [IntKind.wrap_i64]; omega
  obtain ⟨k1, hk1⟩ : ∃ k, 40 * n = k := ⟨_, rfl⟩
  rw [hk1] at e1
  obtain ⟨k2, hk2⟩ : ∃ k, 4 + k1 = k := ⟨_, rfl⟩
  have e2 : IntKind.i64.wrap (4 + (k1 : Int)) = (k2 : Int) := by rw [IntKind.wrap_i64]; omega
  have e3 : IntKind.u64.wrap (n : Int) = (n : Int) := by rw [IntKind.wrap_u64]; omega
  have HMK := Lib.hid (fun W => make_cap 0 k2 (Nat.zero_le _) (by omega) W)
  have HP1 := Lib.hid (fun W => Put_any none 0 0 [] n 4 W rfl (by omega) (Ints.nil _ _ _) (by omega) (by decide) (by decide))
  have HK := Lib.hid (And.intro hk1 hk2)
  clear hro hk1 hk2
  go_enter Tryz.func49, Tryz.ntmps49
  go_wp2_with fail
  refine HR.out.mono ?_
  rintro e w1 ⟨rfl, hb1⟩
  have HB1 := Lib.hid hb1
  have hmk := HMK.out w1
  rw [show ((0 : Nat) : Int) = 0 from rfl] at hmk
  have hoc := own_cap w1 k2 (by have := HK.out; omega) w.heap.size HB1.out.size
  obtain ⟨Z, hZ⟩ : ∃ Z, Z = List.replicate k2 (Value.int .u8 0) := ⟨_, rfl⟩
  rw [← hZ] at hmk hoc
  clear hb1 hZ
  go_wp2_with fail
  have hba := HB1.out.alloc HB1.out.size (.cells Z.toArray 5)
  obtain ⟨w2, hw2⟩ : ∃ w2, w1.alloc (.cells Z.toArray 5) = w2 := ⟨_, rfl⟩
  rw [hw2] at hoc hba ⊢
  refine (HP1.out w2).mono ?_
  rintro e w3 ⟨v3, rfl, ho3, hb3⟩
  rw [List.nil_append] at ho3
  obtain ⟨A3, c3, rfl, hc3, hI3, hA3⟩ := ho3.ints
  have hAN := ho3.nilA
  rw [beL_length] at hc3 hAN ⊢
  have HAN := Lib.hid hAN
  have HI3 := Lib.hid hI3
  have HO2 := Lib.hid (hoc.below hb3)
  have HB3 := Lib.hid (hba.trans (hb3.mono hba.size))
  have HHS := Lib.hid (show w.heap.size ≤ w3.heap.size from HB3.out.size)
  clear hmk hw2 hoc hba ho3 hb3 hc3 hI3 hA3 hAN
  go_wp2_with (first | (at_builtin; refine wpList_app EB rfl _ _ rfl w.heap.size _ 0 [] rfl HO2.out A3 4 c3 ((beL n 4).map (Value.int .u8)) rfl HAN.out (by simp [beL_length]) HI3.out.news (ints_one _ _) (by unfold maxLen; omega) (by omega) HHS.out ?_; intro v4 w4 hown hgrow hat) | fail)
  have HOW := Lib.hid (show OwnB w4 w.heap.size v4 (beL n 4 ++ (l.take 0).flatMap rowX) from by
    rw [List.take_zero, List.flatMap_nil, List.append_nil, OwnB, beL_length]; exact hown)
  have HB4 := Lib.hid (show Below w.heap.size w w4 from HB3.out.grown hgrow HB3.out.size (fun k hk => (HO2.out.lt k hk).1))
  clear hown hgrow hat
  go_upto_region 6 with (fail)
  go_loopg [4, 23] n (fun kq v4 v23 w' => ∃ (i : Nat), v23 = .int .i64 (i : Int) ∧ i + kq = n ∧ Hid (OwnB w' w.heap.size v4 (beL n 4 ++ (l.take i).flatMap rowX)) ∧ Hid (Below w.heap.size w w'))
  case atStart => exact ⟨0, rfl, by omega, HOW, HB4⟩
  case round =>
    obtain ⟨i, rfl, hi, HOW, HBW⟩ := hrel
    by_cases hlt : i < n
    · have hil : i < l.length := by rw [HN.out]; exact hlt
      obtain ⟨r, hr⟩ : ∃ r, l[i]? = some r := ⟨_, List.getElem?_eq_getElem hil⟩
      obtain ⟨g, q, rfl, hrg⟩ := (HA.out.below HBW.out) i r hr
      have HRG := Lib.hid hrg
      have HTK := Lib.hid (show (l.take (i + 1)).flatMap rowX = (l.take i).flatMap rowX ++ rowX r by rw [List.take_add_one, hr]; simp)
      have hrx := HRO.out r (List.mem_of_getElem? hr)
      obtain ⟨o, ho⟩ : ∃ o : Nat, r.val.2.1 = o := ⟨r.val.2.1.toNat, by omega⟩
      obtain ⟨m, hm⟩ : ∃ m : Nat, r.val.2.2 = m := ⟨r.val.2.2.toNat, by omega⟩
      obtain ⟨kn, hkn⟩ : ∃ k, r.val.1.n = k := ⟨_, rfl⟩
      have hk4 := r.property.lt
      rw [hkn] at hk4
      rw [ho, hm] at hrx
      have HRX := Lib.hid (show rowX r = r.val.1.sum ++ (beL kn 4 ++ beL o 2 ++ beL m 2) by rw [rowX, hkn, ho, hm, Int.toNat_natCast, Int.toNat_natCast])
      have HEX := Lib.hid (And.intro hkn (And.intro ho hm))
      have hi0 : (0 : Int) ≤ (i : Int) := by omega
      have hi1 : (i : Int) < (n : Int) := by omega
      have u1 : IntKind.u64.wrap (kn : Int) = (kn : Int) := by rw [IntKind.wrap_u64]; omega
      have u2 : IntKind.u64.wrap (o : Int) = (o : Int) := by rw [IntKind.wrap_u64]; omega
      have u3 : IntKind.u64.wrap (m : Int) = (m : Int) := by rw [IntKind.wrap_u64]; omega
      have HZX := Lib.hid zeroX
      have hsum := r.property.len
      have HSU := Lib.hid hsum
      clear hil hr hrg ho hm hkn hsum
      go_wp2_with (first | (with_reducible refine Go.wpList_load_mid rfl 135 _ rfl g (q + i * 35) rfl (encX r) _ HRG.out Tryz.underlying135 rfl (sizeX r) ?_) | (with_reducible refine wpList_fresh rfl rfl 135 rfl _ _ rfl (encX r).toArray zX (fun _ => rfl) (fun _ => rfl) HZX.out (sizeXA r) (zX_size r) (all_one (encX_one r)) ?_; intro g6 w6 hg6 hr6 hb6; have HO6 := Lib.hid (HOW.out.below hb6.out); have HI6 := Lib.hid (sum_ints hr6.out); have HLL := Lib.hid (show (beL n 4 ++ (l.take i).flatMap rowX).length = 4 + 40 * i from by rw [List.length_append, beL_length, flatX_length, List.length_take, HN.out]; omega); have HSW := Lib.hid (show w.heap.size ≤ w6.heap.size from Nat.le_trans HBW.out.size hb6.out.size)) | (at_builtin; refine wpList_app EB rfl _ _ rfl w.heap.size _ _ ((beL n 4 ++ (l.take i).flatMap rowX).map (Value.int .u8)) rfl HO6.out (some ⟨g6, 0, none⟩) 32 32 (r.val.1.sum.map (Value.int .u8)) rfl (fun h => by cases h) (by rw [List.length_map, HSU.out]) HI6.out.news (ints_one _ _) (by rw [HLL.out]; unfold maxLen; omega) (by rw [HLL.out]; omega) HSW.out ?_; intro v8 w8 hown8 hgrow8 hat8) | fail)
      have hne4 : ¬ Value.ownBlock u4 = some g6 := fun e => own_ne HO6.out e hr6.out (by decide)
      have hgr : w6.grownBy w8 u4.ownBlock := hgrow8
      have hc68 := Chg.of hgr
      have hr8 := (hc68.block g6 (row_lt hr6.out) (fun e => hne4 e.symm)).trans hr6.out
      obtain ⟨l8, hl8⟩ : ∃ l8, (beL n 4 ++ (l.take i).flatMap rowX) ++ r.val.1.sum = l8 := ⟨_, rfl⟩
      have HO8 := Lib.hid (show w8.ownsRow w.heap.size 5 1 v8 l8.length (l8.map (Value.int .u8)) from by
        rw [← hl8, List.length_append, HSU.out, List.map_append]; exact hown8)
      have HLX := Lib.hid (show g6 < w8.heap.size ∧ ¬ Value.ownBlock v8 = some g6 from ⟨row_lt hr8, fun e => own_ne HO8.out e hr8 (by decide)⟩)
      have HX32 := Lib.hid (show w8.cell? ⟨g6, 32, none⟩ = some (.int .u32 (kn : Int)) from by rw [← HEX.out.1]; exact row_at hr8 (encX_32 r))
      have HX33 := Lib.hid (show w8.cell? ⟨g6, 33, none⟩ = some (.int .i64 (o : Int)) from by rw [← HEX.out.2.1]; exact row_at hr8 (encX_33 r))
      have HX34 := Lib.hid (show w8.cell? ⟨g6, 34, none⟩ = some (.int .i64 (m : Int)) from by rw [← HEX.out.2.2]; exact row_at hr8 (encX_34 r))
      have HPK := Lib.hid (fun W => Put_any none 0 0 [] kn 4 W rfl (by omega) (Ints.nil _ _ _) (by omega) (by decide) (by decide))
      have hl8n : l8.length = 36 + 40 * i := by rw [← hl8, List.length_append, HLL.out, HSU.out]; omega
      have HML := Lib.hid (show l8.length + 8 ≤ maxLen ∧ (l8.length + 8) * 1 ≤ 140737488355328 from by rw [hl8n]; unfold maxLen; omega)
      have HBASE := Lib.hid (show w.heap.size ≤ w8.heap.size from Nat.le_trans HSW.out hc68.size)
      have HB8 := Lib.hid (show Below w.heap.size w w8 from (HBW.out.trans (hb6.out.mono HBW.out.size)).grown hgr (Nat.le_trans HBW.out.size hb6.out.size) (fun k hk => (HO6.out.lt k hk).1))
      have HL8 := Lib.hid hl8
      clear hne4 hgr hc68 hr8 hl8 hl8n hown8 hgrow8 hat8 hg6 hr6 hb6
      --[9
      refine wp_region_held_drew (S := fun w' => Chg (fun x => Value.ownBlock v8 = some x) w8 w') (by kernel_rfl) (((Chg.refl _ _).drewN 1)) (fun hHeld => ?_)
      refine held_take 0 (some 32) (v := ?_) rfl rfl (by kernel_rfl) (by kernel_rfl) (by kernel_rfl) (fun _ _ _ h => h) (Or.inl ⟨by rfl, ?_⟩) hHeld ?_
      rotate_left
      · (intro w' hSw; clear hSw; go_simp; try with_reducible rfl)
      try simp only [Act.put, List.setIfInBounds_toArray, List.set_cons_zero, List.set_cons_succ]
      refine held_take 1 (some 33) (v := ?_) rfl rfl (by kernel_rfl) (by kernel_rfl) (by kernel_rfl) (fun _ _ _ h => h) (Or.inl ⟨by rfl, ?_⟩) hHeld ?_
      rotate_left
      · (intro w' hSw; clear hSw; go_simp; try with_reducible rfl)
      try simp only [Act.put, List.setIfInBounds_toArray, List.set_cons_zero, List.set_cons_succ]
      refine held_take 2 (some 34) (v := ?_) rfl rfl (by kernel_rfl) (by kernel_rfl) (by kernel_rfl) (fun _ _ _ h => h) (Or.inl ⟨by rfl, ?_⟩) hHeld ?_
      rotate_left
      · (intro w' hSw; clear hSw; go_simp; try with_reducible rfl)
      try simp only [Act.put, List.setIfInBounds_toArray, List.set_cons_zero, List.set_cons_succ]
      refine held_take 3 (some 35) (v := ?_) rfl rfl (by kernel_rfl) (by kernel_rfl) (by kernel_rfl) (fun _ _ _ h => h) (Or.inl ⟨by rfl, ?_⟩) hHeld ?_
      rotate_left
      · (intro w' hSw; have pf := (hSw.cell (p := ⟨g6, 32, none⟩) HLX.out.1 HLX.out.2).trans HX32.out; clear hSw; go_simp; try with_reducible rfl)
      try simp only [Act.put, List.setIfInBounds_toArray, List.set_cons_zero, List.set_cons_succ]
      refine held_take 4 (some 36) (v := ?_) rfl rfl (by kernel_rfl) (by kernel_rfl) (by kernel_rfl) (fun _ _ _ h => h) (Or.inl ⟨by rfl, ?_⟩) hHeld ?_
      rotate_left
      · (intro w' hSw; clear hSw; go_simp; try with_reducible rfl)
      try simp only [Act.put, List.setIfInBounds_toArray, List.set_cons_zero, List.set_cons_succ]
      refine held_take 6 (some 38) (v := ?_) rfl rfl (by kernel_rfl) (by kernel_rfl) (by kernel_rfl) (fun _ _ _ h => h) (Or.inl ⟨by rfl, ?_⟩) hHeld ?_
      rotate_left
      · (intro w' hSw; clear hSw; go_simp; try with_reducible rfl)
      try simp only [Act.put, List.setIfInBounds_toArray, List.set_cons_zero, List.set_cons_succ]
      refine held_take 7 (some 39) (v := ?_) rfl rfl (by kernel_rfl) (by kernel_rfl) (by kernel_rfl) (fun _ _ _ h => h) (Or.inl ⟨by rfl, ?_⟩) hHeld ?_
      rotate_left
      · (intro w' hSw; have pf := (hSw.cell (p := ⟨g6, 33, none⟩) HLX.out.1 HLX.out.2).trans HX33.out; clear hSw; go_simp; try with_reducible rfl)
      try simp only [Act.put, List.setIfInBounds_toArray, List.set_cons_zero, List.set_cons_succ]
      refine held_take 8 (some 40) (v := ?_) rfl rfl (by kernel_rfl) (by kernel_rfl) (by kernel_rfl) (fun _ _ _ h => h) (Or.inl ⟨by rfl, ?_⟩) hHeld ?_
      rotate_left
      · (intro w' hSw; clear hSw; go_simp; try with_reducible rfl)
      try simp only [Act.put, List.setIfInBounds_toArray, List.set_cons_zero, List.set_cons_succ]
      refine held_take 10 (some 42) (v := ?_) rfl rfl (by kernel_rfl) (by kernel_rfl) (by kernel_rfl) (fun _ _ _ h => h) (Or.inl ⟨by rfl, ?_⟩) hHeld ?_
      rotate_left
      · (intro w' hSw; clear hSw; go_simp; try with_reducible rfl)
      try simp only [Act.put, List.setIfInBounds_toArray, List.set_cons_zero, List.set_cons_succ]
      refine held_take 11 (some 43) (v := ?_) rfl rfl (by kernel_rfl) (by kernel_rfl) (by kernel_rfl) (fun _ _ _ h => h) (Or.inl ⟨by rfl, ?_⟩) hHeld ?_
      rotate_left
      · (intro w' hSw; have pf := (hSw.cell (p := ⟨g6, 34, none⟩) HLX.out.1 HLX.out.2).trans HX34.out; clear hSw; go_simp; try with_reducible rfl)
      try simp only [Act.put, List.setIfInBounds_toArray, List.set_cons_zero, List.set_cons_succ]
      refine held_take 12 (some 44) (v := ?_) rfl rfl (by kernel_rfl) (by kernel_rfl) (by kernel_rfl) (fun _ _ _ h => h) (Or.inl ⟨by rfl, ?_⟩) hHeld ?_
      rotate_left
      · (intro w' hSw; clear hSw; go_simp; try with_reducible rfl)
      try simp only [Act.put, List.setIfInBounds_toArray, List.set_cons_zero, List.set_cons_succ]
      refine wpAnyH_ready (rs := [5]) (by kernel_rfl) (by simp) ?_
      refine AllReadyH.cons rfl (fun K hKK => ?_) AllReadyH.nil
      go_simp
      go_at_call 21
      refine (HPK.out _).mono ?_
      rintro e wa ⟨vwa, rfl, howa, hbwa⟩
      rw [List.nil_append] at howa
      obtain ⟨Aa, ca, rfl, hca, hIa, hAa⟩ := howa.ints
      rw [beL_length] at hca ⊢
      have HP2 := Lib.hid (Put_any Aa 4 ca (beL kn 4) o 2 wa (beL_length _ _) (by omega) hIa (by omega) (by decide) (by decide))
      have hFwa := ((Chg.refl (fun _ => False) w8).drewN 1).below0 hbwa
      have hHwa : Chg (fun x => Value.ownBlock v8 = some x) w8 wa := hFwa.mono (fun _ h => h.elim)
      clear howa hIa hAa hca
      refine hKK.out _ _ hHwa (fun hHeld => ?_)
      clear hKK K
      try simp only [Act.put, List.setIfInBounds_toArray, List.set_cons_zero, List.set_cons_succ]
      refine wpAnyH_ready (rs := [9]) (by kernel_rfl) (by simp) ?_
      refine AllReadyH.cons rfl (fun K hKK => ?_) AllReadyH.nil
      go_simp
      go_at_call 21
      refine (HP2.out).mono ?_
      rintro e wb ⟨vwb, rfl, howb, hbwb⟩
      obtain ⟨Ab, cb, rfl, hcb, hIb, hAb⟩ := howb.ints
      have hlb : (beL kn 4 ++ beL o 2).length = 6 := by simp [beL_length]
      rw [hlb] at hcb ⊢
      have HP3 := Lib.hid (Put_any Ab 6 cb (beL kn 4 ++ beL o 2) m 2 wb hlb (by omega) hIb (by omega) (by decide) (by decide))
      have hFwb := (hFwa).below0 hbwb
      have hHwb : Chg (fun x => Value.ownBlock v8 = some x) w8 wb := hFwb.mono (fun _ h => h.elim)
      clear howb hIb hAb hcb hlb
      refine hKK.out _ _ hHwb (fun hHeld => ?_)
      clear hKK K
      try simp only [Act.put, List.setIfInBounds_toArray, List.set_cons_zero, List.set_cons_succ]
      refine wpAnyH_ready (rs := [13]) (by kernel_rfl) (by simp) ?_
      refine AllReadyH.cons rfl (fun K hKK => ?_) AllReadyH.nil
      go_simp
      go_at_call 21
      refine (HP3.out).mono ?_
      rintro e wc ⟨vwc, rfl, howc, hbwc⟩
      obtain ⟨Ac, cc, rfl, hcc, hIc, hAc⟩ := howc.ints
      have hlc : (beL kn 4 ++ beL o 2 ++ beL m 2).length = 8 := by simp [beL_length]
      have hAN := howc.nilA
      rw [hlc] at hcc hAN ⊢
      have HAN := Lib.hid hAN
      have HIC := Lib.hid hIc
      have hFwc := (hFwb).below0 hbwc
      have hHwc : Chg (fun x => Value.ownBlock v8 = some x) w8 wc := hFwc.mono (fun _ h => h.elim)
      have HOD := Lib.hid (own_chg HO8.out hFwc (fun _ _ h => h))
      have HSZ := Lib.hid hFwc.size
      clear howc hIc hAc hcc hlc hAN
      refine hKK.out _ _ hHwc (fun hHeld => ?_)
      clear hKK K
      try simp only [Act.put, List.setIfInBounds_toArray, List.set_cons_zero, List.set_cons_succ]
      refine wpAnyH_ready (rs := [14]) (by kernel_rfl) (by simp) ?_
      refine AllReadyH.cons rfl (fun K hKK => ?_) AllReadyH.nil
      refine step_app EB rfl (.tmp 32) (.tmp 45) rfl w.heap.size v8 l8.length (l8.map (Value.int .u8)) (by go_simp) HOD.out Ac 8 cc ((beL kn 4 ++ beL o 2 ++ beL m 2).map (Value.int .u8)) (by go_simp) HAN.out (by simp [beL_length]) HIC.out.news (ints_one _ _) HML.out.1 HML.out.2 (Nat.le_trans HBASE.out HSZ.out) ?_
      intro v9 w9 hown hgrow hat
      refine hKK.out _ _ (hHwc.trans2 (Chg.of hgrow) (fun x _ e => e.symm)) (fun hHeld => ?_)
      clear hKK K
      try simp only [Act.put, List.setIfInBounds_toArray, List.set_cons_zero, List.set_cons_succ]
      refine held_take 15 (some 4) (v := ?_) rfl rfl (by kernel_rfl) (by kernel_rfl) (by kernel_rfl) (fun _ _ _ h => h) (Or.inl ⟨by rfl, ?_⟩) hHeld ?_
      rotate_left
      · (intro w' hSw; clear hSw; go_simp; try with_reducible rfl)
      try simp only [Act.put, List.setIfInBounds_toArray, List.set_cons_zero, List.set_cons_succ]
      refine wpAnyH_done (by kernel_rfl) ?_ _
      --]9
      have HO9 := Lib.hid (show OwnB w9 w.heap.size v9 (beL n 4 ++ (l.take (i + 1)).flatMap rowX) from by
        have e1 : beL n 4 ++ (l.take (i + 1)).flatMap rowX = l8 ++ (beL kn 4 ++ beL o 2 ++ beL m 2) := by
          rw [HTK.out, HRX.out, ← HL8.out]; simp
        have e2 : (l8 ++ (beL kn 4 ++ beL o 2 ++ beL m 2)).length = l8.length + 8 := by simp [beL_length]
        rw [e1, OwnB, e2, List.map_append]; exact hown)
      have HB9 := Lib.hid (show Below w.heap.size w w9 from HB8.out.trans (hHeld.below HBASE.out (fun k hk => (HO8.out.lt k hk).1)))
      clear hown hgrow hat hHeld
      go_simp
      go_wp2_with fail
      go_roundg (n - (i + 1))
      case measure => omega
      case rel => exact ⟨i + 1, by go_num, by omega, HO9, HB9⟩
    · obtain rfl : i = n := by omega
      have HF := Lib.hid (show OwnB wr w.heap.size u4 (layX l) from by
        have := HOW.out
        rwa [List.take_of_length_le (by rw [HN.out]; exact Nat.le_refl _), ← HN.out, ← layX] at this)
      clear hlt hi HOW
      go_wp2_with fail
      go_ret2
      exact ⟨_, rfl, HF.out, HBW.out⟩
end Go.Proofs.YtcklcffepedklaaGreatDoor
