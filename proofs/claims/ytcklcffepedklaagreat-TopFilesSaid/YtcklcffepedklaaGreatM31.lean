/- Texts of the proof, one behind the other: store: Put. store: New. store: All. extent: wrong, Right, Total. extent: Right, Total. -/
import Derived.Test.YtcklcffepedklaaGreatM30
namespace Go.Proofs.YtcklcffepedklaaGreat
open Go.RowKit Go.Maps

section
variable {w : World} {gs N : Nat} {B : Sb} {κ : Nat → Nat} {E : List KD} {L : List (Ky × (Nat × Nat))} {P : Nat → List KD} {q : Nat} {v : Value} {M : List Pc} {size at_ : Nat} {D : Nat → Option (List Int)} {c b : Nat}
/-- What Put leaves. -/
def PutP (w : World) (gs N : Nat) (B : Sb) (κ : Nat → Nat) (E : List KD) (d : List Int) (b : Nat) (e : Ending) (w' : World) : Prop :=
  ∃ k fresh E', e = .returned (.tuple #[.agg k.cells.toArray, .bool fresh, .int .i64 0]) ∧ (k, d) ∈ E' ∧ (E' = E ∨ (d ∉ E.map (·.2) ∧ E' = E ++ [(k, d)])) ∧ Chg (fun x => κ x ≠ 0) w w' ∧ ∃ κ' L' P' q' v' M' size' at' D' c', Fu w' gs N B κ' E' L' P' q' v' M' size' at' D' c' b ∧ ∀ y, κ' y ≠ 0 → κ y ≠ 0 ∨ w.heap.size ≤ y
/-- Within Put's loop: the first i chunks of the fingerprint are others. -/
structure PutR (w8 : World) (gs N : Nat) (B : Sb) (κ : Nat → Nat) (E : List KD) (L : List (Ky × (Nat × Nat))) (P : Nat → List KD) (q : Nat) (v : Value) (M : List Pc) (size at_ : Nat) (D : Nat → Option (List Int)) (c b : Nat) (g9 : Nat) (sm d : List Int) (i : Nat) (κ' : Nat → Nat) (w' : World) : Prop where
  fu : Fu w' gs N B κ' E L P q v M size at_ D c b
  chg : Chg (fun x => κ x ≠ 0 ∨ x = g9) w8 w'
  col : ∀ x, κ' x ≠ 0 → κ x ≠ 0 ∨ w8.heap.size ≤ x
  key : w'.heap[g9]? = some (.cells (⟨sm, i⟩ : Ky).cells.toArray 64 (0, 0))
  oth : ∀ j, j < i → ∀ y ∈ E, y.1 = ⟨sm, j⟩ → y.2 ≠ d
set_option maxRecDepth 20000 in
set_option maxHeartbeats 3200000 in
theorem Put_fu (h : Fu w gs N B κ E L P q v M size at_ D c b) (ad : Addr) (n cp : Nat) (d : List Int) (hn : d.length = n) (h0 : 0 < n) (h93 : n ≤ 93) (hcp : n ≤ cp) (hB : Bytes d) (hI : Ints .u8 w (some ad) d) (hκ : κ ad.block = 0) (draw : Nat) (hdr : draw < 18446744073709551616)
    (hb : 368 * q + szD (P q) + (38 + n) ≤ b) (hE : E.length + 1 ≤ b) :
    Calls Tryz.prog 20 #[.pointer (some ⟨gs, 0, none⟩), .slice (some ad) n cp, .int .u64 draw] w (PutP w gs N B κ E d b) := by
  obtain ⟨g6, hg6⟩ : ∃ g, w.heap.size = g := ⟨_, rfl⟩
  have hb1 := (Below.refl w.heap.size w).alloc (Nat.le_refl _) (.cells zK 64)
  have hr1 := heap_alloc_last w (.cells zK 64)
  rw [hg6] at hr1
  obtain ⟨w1, hw1⟩ : ∃ w1, w.alloc (.cells zK 64) = w1 := ⟨_, rfl⟩
  rw [hw1] at hb1 hr1
  have hb2 := (Below.refl w1.heap.size w1).alloc (Nat.le_refl _) (.cells (k0.cells ++ [Value.slice (some ad) n cp]).toArray 105)
  have hr2 := heap_alloc_last w1 (.cells (k0.cells ++ [Value.slice (some ad) n cp]).toArray 105)
  have hI1 := hI.below hb1
  have hp2 : Pc.Ok (w1.alloc (.cells (k0.cells ++ [Value.slice (some ad) n cp]).toArray 105)) ⟨k0, some ad, cp, d⟩ := ⟨k0_ok, hI1.below hb2, hB, by rw [hn]; exact hcp, fun e => by cases e⟩
  have HZ := Lib.hid (Size_any (some ⟨w1.heap.size, 0, none⟩) 1 1 [⟨k0, some ad, cp, d⟩] _ rfl (by decide) (by simp [lenP]; omega) (pcAt_one (p := ⟨k0, some ad, cp, d⟩) (by rw [hr2]; simp [Pc.cells, hn]) hp2))
  rw [show 10 + 38 * 1 + lenP [⟨k0, some ad, cp, d⟩] = 48 + n by simp [lenP, hn]] at HZ
  have HZP := Lib.hid (fun W => build_data (some ad) n cp W)
  have HZR := Lib.hid (fun W => build_rowP ⟨k0, some ad, cp, d⟩ k0_ok W)
  simp only [Pc.cells, hn] at HZR
  have HH := Lib.hid h
  have HX := Lib.hid (And.intro hn (And.intro hB (And.intro hκ (And.intro hb hE))))
  have HB1 := Lib.hid hb1
  have HB2 := Lib.hid hb2
  have HI1 := Lib.hid hI1
  have HR1 := Lib.hid hr1
  have HI1S := Lib.hid (show ad.block < w.heap.size from hI.lt ad rfl (by omega))
  have HZK := Lib.hid zeroK
  have HN := Lib.hid (show decide ((4096 : Int) < (n : Int)) = false ∧ ((n : Int) == 0) = false from ⟨decide_eq_false (by omega), by simp; omega⟩)
  clear h hn hB hκ hb hE hb1 hb2 hr2 hp2 hI1 hr1 hI
  have hd1 := HN.out.1
  have hd2 := HN.out.2
  go_enter Tryz.func20, Tryz.ntmps20
  go_upto_region 5 with (fail)
  change Code.wp _ _ _ _ (w.alloc (.cells zK 64))
  rw [hw1]
  clear hw1 hd1 hd2
  have hd1 := HN.out.1
  have HLM := Lib.hid (fun (W : World) (hW : Below w.heap.size w W) => limit_any (HH.out.below hW).sm)
  have hd3 : decide ((508 : Int) < 48 + (n : Int)) = false := decide_eq_false (by omega)
  have hd4 : decide ((508 : Int) < ((48 + n : Nat) : Int)) = false := decide_eq_false (by omega)
  go_wp2_with (first | (with_reducible refine wpList_val_w (by rfl) (exec_build _ _ rfl #[(1, .slice (some ad) n cp)] (by go_simp) (HZP.out _)) ?_) | (with_reducible refine wpList_val_w (by rfl) (exec_buildSlice _ _ _ rfl #[(0, .agg (k0.cells ++ [Value.slice (some ad) n cp]).toArray)] (by go_simp) (HZR.out _)) ?_))
  refine HZ.out.mono ?_
  rintro e w3 ⟨rfl, hb3⟩
  have HB13 := Lib.hid (show Below w1.heap.size w1 w3 from HB2.out.trans (hb3.mono HB2.out.size))
  have HB3 := Lib.hid (show Below w.heap.size w w3 from HB1.out.trans (HB13.out.mono HB1.out.size))
  have HL3 := Lib.hid (HLM.out w3 HB3.out)
  clear hb3 HZ HB2 HLM HZP HZR
  go_wp2_with (go_at_call 34; refine HL3.out.mono ?_; rintro e w' ⟨rfl, rfl⟩)
  clear hd1 hd3 hd4 HL3
  obtain ⟨sm, hsm⟩ : ∃ sm, Dg.digestF d = sm := ⟨_, rfl⟩
  have HSO := Lib.hid (show SumOk sm from hsm ▸ digest_ok d)
  have HSM := Lib.hid hsm
  obtain ⟨K0, hK0⟩ : ∃ K0 : Ky, K0 = ⟨sm, 0⟩ := ⟨_, rfl⟩
  have HK0 := Lib.hid (show K0.Ok from hK0 ▸ ⟨HSO.out.len, HSO.out.byt, show 0 < 4294967296 by decide⟩)
  have HK0E := Lib.hid hK0
  have hb4 := (Below.refl w3.heap.size w3).alloc (Nat.le_refl _) (.cells #[.slice (some ad) n cp] 22)
  have HIR := Lib.hid (inRows_one (w := w3) HX.out.1 hcp (HI1.out.below HB13.out) HX.out.2.1)
  have HDS := Lib.hid (Dg.DSum_any (some ⟨w3.heap.size, 0, none⟩) 1 1 [d] _ rfl (by decide) (Nat.le_refl _) HIR.out (by have := HX.out.1; simp; omega))
  rw [show [d].flatten = d by simp, hsm] at HDS
  have HBR := Lib.hid (fun W => build_rowB (some ad) n cp W)
  have HBK := Lib.hid (fun W => build_sum K0 HK0.out (by rw [HK0E.out]) W)
  rw [show K0.sum = sm by rw [hK0]] at HBK
  have HB4 := Lib.hid hb4
  clear hsm hK0 hb4 HIR
  go_wp2_with (with_reducible refine wpList_val rfl (exec_buildSlice _ _ _ rfl #[(0, .slice (some ad) n cp)] (by go_simp) (HBR.out _)) ?_)
  refine HDS.out.mono ?_
  rintro e w5 ⟨rfl, hb5⟩
  have HB5 := Lib.hid (show Below w3.heap.size w3 w5 from HB4.out.trans (hb5.mono HB4.out.size))
  clear hb5 HDS HB4 HBR
  unfold cellsOf
  go_upto_region 8 with (first | (with_reducible refine wpList_val rfl (exec_build _ _ rfl #[(0, .agg (sm.map (Value.int .u8)).toArray)] (by go_simp) (HBK.out _)) ?_) | (with_reducible refine wpList_fresh rfl rfl 64 rfl _ _ rfl (K0).cells.toArray zK (fun _ => rfl) (fun _ => rfl) HZK.out (sizeKA HK0.out) (zK_size HK0.out) (all_one (Ky.cells_one K0)) ?_; intro g9 w6 hg9 hr9 hb9))
  obtain ⟨mt, hmt⟩ : ∃ mt, cnt L sm = mt := ⟨_, rfl⟩
  have hm9 : mt < 1000000 := by
    have h1 : cnt L sm ≤ L.length := List.length_filter_le _ _
    have h2 := HH.out.a.len
    have h3 := HH.out.bud.num
    have h4 := HH.out.bud.lim
    omega
  have hg9' : g9 = w5.heap.size := hg9.out
  have HB9 := hb9
  have HB36 := Lib.hid (HB5.out.trans (HB9.out.mono HB5.out.size))
  have H6 := Lib.hid (HH.out.below (HB3.out.trans (HB36.out.mono HB3.out.size)))
  have HR9 := hr9
  have HTW := Lib.hid (FTwins_any (w := w6.drew) (H6.out.sm.fd.below (Below.refl _ _).drew) sm HSO.out mt hmt.symm (by omega))
  have HS9 := Lib.hid (show w6.rangeAt g9 0 (sm.map (Value.int .u8)) from by
    have := range_take (range_row HR9.out) 32
    rw [Ky.cells_sum HK0.out, HK0E.out] at this; exact this)
  have HL6 := Lib.hid (show gs < w6.heap.size ∧ g9 < w6.heap.size from ⟨row_lt H6.out.sm.row, row_lt HR9.out⟩)
  have HMT := Lib.hid hmt
  have HG9 := Lib.hid hg9'
  clear hmt hg9' hr9 hb9
  --[8
  refine wp_region_held_drew (S := fun w' => Below w6.heap.size w6 w') (by kernel_rfl) ((Below.refl _ _).drew) (fun hHeld => ?_)
  refine held_take 0 (some 42) (v := ?_) rfl rfl (by kernel_rfl) (by kernel_rfl) (by kernel_rfl) (fun _ _ _ h => h) (Or.inl ⟨by rfl, ?_⟩) hHeld ?_
  rotate_left
  · (intro w' hSw; clear hSw; go_simp; try with_reducible rfl)
  try simp only [Act.put, List.setIfInBounds_toArray, List.set_cons_zero, List.set_cons_succ]
  refine held_take 1 (some 43) (v := ?_) rfl rfl (by kernel_rfl) (by kernel_rfl) (by kernel_rfl) (fun _ _ _ h => h) (Or.inl ⟨by rfl, ?_⟩) hHeld ?_
  rotate_left
  · (intro w' hSw; clear hSw; go_simp; try with_reducible rfl)
  try simp only [Act.put, List.setIfInBounds_toArray, List.set_cons_zero, List.set_cons_succ]
  refine held_take 2 (some 44) (v := ?_) rfl rfl (by kernel_rfl) (by kernel_rfl) (by kernel_rfl) (fun _ _ _ h => h) (Or.inl ⟨by rfl, ?_⟩) hHeld ?_
  rotate_left
  · (intro w' hSw; clear hSw; go_simp; try with_reducible rfl)
  try simp only [Act.put, List.setIfInBounds_toArray, List.set_cons_zero, List.set_cons_succ]
  refine held_take 3 (some 45) (v := ?_) rfl rfl (by kernel_rfl) (by kernel_rfl) (by kernel_rfl) (fun _ _ _ h => h) (Or.inl ⟨by rfl, ?_⟩) hHeld ?_
  rotate_left
  · (intro w' hSw; have pf := (hSw.cell (p := ⟨gs, 1, none⟩) HL6.out.1).trans (H6.out.sm.ci 1 _ rfl); clear hSw; go_simp; try with_reducible rfl)
  try simp only [Act.put, List.setIfInBounds_toArray, List.set_cons_zero, List.set_cons_succ]
  refine held_take 4 (some 46) (v := ?_) rfl rfl (by kernel_rfl) (by kernel_rfl) (by kernel_rfl) (fun _ _ _ h => h) (Or.inl ⟨by rfl, ?_⟩) hHeld ?_
  rotate_left
  · (intro w' hSw; clear hSw; go_simp; try with_reducible rfl)
  try simp only [Act.put, List.setIfInBounds_toArray, List.set_cons_zero, List.set_cons_succ]
  refine held_take 5 (some 47) (v := .agg (sm.map (Value.int .u8)).toArray) rfl rfl (by kernel_rfl) (by kernel_rfl) (by kernel_rfl) (fun _ _ _ h => h) (yieldsIf_load_mid (by rfl) 62 _ rfl g9 (0) rfl (sm.map (Value.int .u8)) _ (fun w' h => rangeAt_block HS9.out (h.block g9 HL6.out.2)) Tryz.underlying62 rfl (sizeS HSO.out)) hHeld ?_
  try simp only [Act.put, List.setIfInBounds_toArray, List.set_cons_zero, List.set_cons_succ]
  refine held_take 8 (some 50) (v := ?_) rfl rfl (by kernel_rfl) (by kernel_rfl) (by kernel_rfl) (fun _ _ _ h => h) (Or.inl ⟨by rfl, ?_⟩) hHeld ?_
  rotate_left
  · (intro w' hSw; clear hSw; go_simp; try with_reducible rfl)
  try simp only [Act.put, List.setIfInBounds_toArray, List.set_cons_zero, List.set_cons_succ]
  refine wpAnyH_ready (rs := [6]) (by kernel_rfl) (by simp) ?_
  refine AllReadyH.cons rfl (fun K hKK => ?_) AllReadyH.nil
  go_simp
  go_at_call 36
  refine (HTW.out).mono ?_
  rintro e w8 ⟨v8, rfl, ho8, hc9⟩
  have hS10 := (hHeld).trans (hc9)
  obtain ⟨A8, c8, rfl⟩ := own_form33 ho8
  refine hKK.out _ _ hS10 (fun hHeld => ?_)
  clear hKK K
  try simp only [Act.put, List.setIfInBounds_toArray, List.set_cons_zero, List.set_cons_succ]
  refine held_take 7 (some 49) (v := ?_) rfl rfl (by kernel_rfl) (by kernel_rfl) (by kernel_rfl) (fun _ _ _ h => h) (Or.inl ⟨by rfl, ?_⟩) hHeld ?_
  rotate_left
  · (intro w' hSw; clear hSw; go_simp; try with_reducible rfl)
  try simp only [Act.put, List.setIfInBounds_toArray, List.set_cons_zero, List.set_cons_succ]
  refine wpAnyH_done (by kernel_rfl) ?_ _
  --]8
  have HB68 := Lib.hid hHeld
  have hs68 := hHeld.size
  have hz : ∀ x, w.heap.size ≤ x → κ x = 0 := fun x hx => HH.out.sm.zero hx
  have hs36 := HB36.out.size
  have hs13 := HB13.out.size
  have hs1 := HB1.out.size
  have HZ := Lib.hid hz
  have HSZ := Lib.hid (show w.heap.size ≤ w3.heap.size ∧ w3.heap.size ≤ w6.heap.size ∧ w6.heap.size ≤ w8.heap.size ∧ w.heap.size ≤ g9 ∧ g9 < w8.heap.size ∧ g6 < w8.heap.size ∧ g6 = w.heap.size ∧ g6 ≠ g9 ∧ g9 < w6.heap.size from by
    have h1 := HL6.out.2
    have h2 := row_lt HR1.out
    have h3 := HG9.out
    have h4 := HB5.out.size
    refine ⟨by omega, hs36, hs68, by omega, by omega, by omega, hg6.symm, by omega, h1⟩)
  have H8 := Lib.hid (H6.out.below hHeld)
  have HR98 := Lib.hid ((hHeld.block g9 HL6.out.2).trans HR9.out)
  have HB18 := Lib.hid (show Below w1.heap.size w1 w8 from HB13.out.trans ((HB36.out.trans (hHeld.mono hs36)).mono hs13))
  have HR68 := Lib.hid ((HB18.out.block g6 (row_lt HR1.out)).trans HR1.out)
  have HI8 := Lib.hid (HI1.out.below HB18.out)
  have HO8 := Lib.hid ho8
  have HC8 := Lib.hid (show Below w.heap.size w w8 from HB1.out.trans (HB18.out.mono hs1))
  clear hHeld ho8 hs68 hz hs36 hs13 hs1 HB68 H6 HB36 HB3 HB13 HTW HS9 HL6 HR9 HB9 hg6 HI1 HR1 HB1 HB18 HB5
  rw [twL_length]
  go_upto_region 9 with (fail)
  go_loopg [50] mt (fun kq v50 w' => ∃ (i : Nat) (κ' : Nat → Nat), v50 = .int .i64 (i : Int) ∧ i + kq = mt ∧ PutR w8 gs N B κ E L P q v M size at_ D c b g9 sm d i κ' w')
  case atStart => exact ⟨0, κ, rfl, by omega, H8.out, Chg.refl _ _, fun x hx => .inl hx, by have := HR98.out; rw [HK0E.out] at this; exact this, fun j hj => by omega⟩
  case round =>
    obtain ⟨i, κ2, rfl, hi, hr⟩ := hrel
    have HR := Lib.hid hr
    have hsr := hr.chg.size
    clear hr
    have HZ2 := Lib.hid (show ∀ x, w.heap.size ≤ x → x < w8.heap.size → κ2 x = 0 from fun x h1 h2 => by
      rcases Nat.eq_zero_or_pos (κ2 x) with e | e
      · exact e
      · rcases HR.out.col x (by omega) with h3 | h3
        · exact absurd (HZ.out x h1) h3
        · omega)
    by_cases hlt : i < mt
    · obtain ⟨y, hyE, hyk⟩ := HH.out.a.all sm i (by rw [HMT.out]; exact hlt)
      obtain ⟨ki, hki⟩ : ∃ ki : Ky, (⟨sm, i⟩ : Ky) = ki := ⟨_, rfl⟩
      have hkok : ki.Ok := by rw [← hki, ← hyk]; exact (HH.out.a.ok y hyE).key
      have HKI := Lib.hid (And.intro hki (And.intro hkok (And.intro hyE (hyk.trans hki))))
      have hng : ∀ k, Value.ownBlock (.slice A8 mt c8) = some k → ¬ (κ k ≠ 0 ∨ k = g9) := fun k hk => by
        have h1 := HO8.out.lt k (by rw [twL_length]; exact hk)
        have h2 : w6.heap.size ≤ k := h1.1
        have h3 := HSZ.out
        have h5 := HG9.out
        rw [HZ.out k (by omega)]
        omega
      have HOR := Lib.hid (own_chg (by have := HO8.out; rw [twL_length] at this; exact this) HR.out.chg hng)
      obtain ⟨gt, rfl, hrt⟩ := ownK_range (l := twL sm mt) (i := i) (k := ki) HOR.out (fun k hk => by
        obtain ⟨j, hj, e⟩ := List.mem_map.1 hk
        rw [← e]; exact ⟨HSO.out.len, HSO.out.byt, by have := List.mem_range.1 hj; show j < 4294967296; omega⟩) (by rw [twL, List.getElem?_map, List.getElem?_range hlt]; exact congrArg some hki)
      have HRT := Lib.hid hrt
      have hi0 : (0 : Int) ≤ (i : Int) := by omega
      have hi1 : (i : Int) < (mt : Int) := by omega
      clear hyE hyk hki hrt hng
      go_upto_region 11 with (first | (with_reducible refine Go.wpList_load_mid rfl 64 _ rfl gt (i * 33) rfl (ki).cells _ HRT.out Tryz.underlying64 rfl (sizeK hkok) ?_) | (with_reducible refine wpList_fresh rfl rfl 64 rfl _ _ rfl (ki).cells.toArray zK (fun _ => rfl) (fun _ => rfl) HZK.out (sizeKA hkok) (zK_size hkok) (all_one (Ky.cells_one ki)) ?_; intro g11 w9 hg11 hr11 hb11))
      have H9 := Lib.hid (HR.out.fu.below hb11.out)
      have hs11 := hb11.out.size
      have HK11 := Lib.hid (show w9.rangeAt g11 0 ki.cells from range_row hr11.out)
      have HR99 := Lib.hid ((hb11.out.block g9 (by have := HSZ.out; omega)).trans HR.out.key)
      have HR69 := Lib.hid ((hb11.out.block g6 (by have := HSZ.out; omega)).trans ((HR.out.chg.block g6 (by have := HSZ.out; omega) (by have h1 := HSZ.out; rw [HZ.out g6 (by omega)]; omega)).trans HR68.out))
      have HI9 := Lib.hid ((HI8.out.chg HR.out.chg (fun a ha _ => by
        injection ha with ha
        rw [← ha, HX.out.2.2.1]
        have h1 := HI1S.out
        have h2 := HSZ.out
        omega)).below hb11.out)
      have HRD := Lib.hid (read_sm H9.out.sm H9.out.a H9.out.bud H9.out.laid H9.out.hkd (fun e => (H9.out.hsz e).2) ki y.2 (by have h1 := HKI.out.2.2.1; have h2 := HKI.out.2.2.2; have h3 : (ki, y.2) = y := (by rw [← h2]); rw [h3]; exact h1) draw hdr)
      have HG11 := Lib.hid (show wr.heap.size ≤ g11 ∧ g11 < w9.heap.size ∧ κ2 g11 = 0 from ⟨by have := hg11.out; omega, row_lt hr11.out, HR.out.fu.sm.zero (by have := hg11.out; omega)⟩)
      have HB9 := hb11
      have HR11 := hr11
      clear hs11 hb11 hr11 hg11
      go_wp2_with (with_reducible refine Go.wpList_load_mid rfl 64 _ rfl g11 (0) rfl (ki).cells _ HK11.out Tryz.underlying64 rfl (sizeK HKI.out.2.1) ?_)
      refine HRD.out.mono ?_
      rintro e w10 ⟨A12, c12, rfl, hI12, hc10, κ3, hs10, hk10⟩
      have hs910 := hc10.size
      have HKO := Lib.hid (show ∀ x, κ3 x ≠ 0 → κ2 x ≠ 0 ∨ w9.heap.size ≤ x from hk10)
      have H10 := Lib.hid (H9.out.of hs10)
      have hz0 : κ2 g9 = 0 ∧ κ2 g6 = 0 := ⟨HZ2.out g9 (by have := HSZ.out; omega) (by have := HSZ.out; omega), HZ2.out g6 (by have := HSZ.out; omega) (by have := HSZ.out; omega)⟩
      have HR910 := Lib.hid ((hc10.block g9 (row_lt HR99.out) (by rw [hz0.1]; simp)).trans HR99.out)
      have HR610 := Lib.hid ((hc10.block g6 (row_lt HR69.out) (by rw [hz0.2]; simp)).trans HR69.out)
      have HR1110 := Lib.hid ((hc10.block g11 HG11.out.2.1 (by rw [HG11.out.2.2]; simp)).trans HR11.out)
      have had2 : κ2 ad.block = 0 := by
        rcases Nat.eq_zero_or_pos (κ2 ad.block) with e | e
        · exact e
        · have h1 := HI1S.out
          have h2 := HSZ.out
          rcases HR.out.col ad.block (by omega) with h3 | h3
          · exact absurd HX.out.2.2.1 h3
          · omega
      have HI10 := Lib.hid (HI9.out.chg hc10 (fun a ha _ => by injection ha with ha; rw [← ha, had2]; simp))
      have HI12 := Lib.hid hI12
      have hyB : Bytes y.2 := (HH.out.a.ok y HKI.out.2.2.1).byt
      have HBE := Lib.hid (bEqual_any A12 (some ad) y.2.length c12 n cp y.2 d w10 rfl HX.out.1 hI12 HI10.out hyB HX.out.2.1)
      have HCH10 := Lib.hid ((HR.out.chg.trans (Chg.belowAt HB9.out)).trans2 hc10 (fun x hx e => by
        rcases HR.out.col x e with h3 | h3
        · exact .inl h3
        · omega))
      obtain ⟨be, hbe⟩ : ∃ be : Bool, decide (y.2 = d) = be := ⟨_, rfl⟩
      rw [hbe] at HBE
      have HBB := Lib.hid hbe
      clear hI12 hc10 hs10 hk10 hyB hbe had2 hz0 HRD
      have HK36 := Lib.hid (show κ3 g6 = 0 ∧ κ3 g9 = 0 from by
        have h1 := HSZ.out
        have h2 := HB9.out.size
        constructor
        · rcases Nat.eq_zero_or_pos (κ3 g6) with e | e
          · exact e
          · rcases HKO.out g6 (by omega) with h3 | h3
            · exact absurd (HZ2.out g6 (by omega) (by omega)) h3
            · omega
        · rcases Nat.eq_zero_or_pos (κ3 g9) with e | e
          · exact e
          · rcases HKO.out g9 (by omega) with h3 | h3
            · exact absurd (HZ2.out g9 (by omega) (by omega)) h3
            · omega)
      have HCOL := Lib.hid (show ∀ x, κ3 x ≠ 0 → κ x ≠ 0 ∨ w8.heap.size ≤ x from fun x hx => by
        have h2 := HB9.out.size
        rcases HKO.out x hx with h3 | h3
        · exact HR.out.col x h3
        · exact .inr (by omega))
      cases be with
      | true =>
        have HK12 := Lib.hid (show w10.rangeAt g11 0 ki.cells from range_row HR1110.out)
        go_wp2_with (first | (go_at_call 38; refine HBE.out.mono ?_; rintro e w' ⟨rfl, rfl⟩) | (with_reducible refine Go.wpList_load_mid rfl 64 _ rfl g11 (0) rfl (ki).cells _ HK12.out Tryz.underlying64 rfl (sizeK HKI.out.2.1) ?_) | (with_reducible refine wpList_store_row rfl 64 _ _ rfl g6 ki.cells.toArray rfl rfl 64 zK HR610.out (sizeKA HKI.out.2.1) (zK_size HKI.out.2.1) (all_one (Ky.cells_one ki)) ?_))
        refine bodyPost_ret (v := .tuple #[.agg ki.cells.toArray, .bool false, .int .i64 0]) ?_ rfl ?_
        · exact results_cell_2 rfl _ _ g6 64 ki.cells.toArray (0, 0) _ _ _ rfl rfl rfl (setRow_heap _ _ _ _ _ _ HR610.out) Tryz.underlying64 rfl (sizeKA HKI.out.2.1)
        · have hgr := grown_setRow w10 g6 ki.cells.toArray
          have h1 := HSZ.out
          have hc8 := HC8.out.size
          refine ⟨ki, false, E, rfl, ?_, .inl rfl, ((Chg.belowAt HC8.out).trans2 HCH10.out (fun x hx e => ?_)).trans2 (Chg.of hgr) (fun x hx e => ?_), κ3, L, P, q, v, M, size, at_, D, c, H10.out.chg (Chg.of hgr) (fun x hx e => ?_), fun x hx => (HCOL.out x hx).imp id (fun h => by omega)⟩
          · have h2 := of_decide_eq_true HBB.out
            rw [← h2, ← HKI.out.2.2.2]; exact HKI.out.2.2.1
          · rcases e with e | e
            · exact e
            · omega
          · injection e with e; omega
          · injection e with e; rw [e] at hx; exact hx HK36.out.1
      | false =>
        have hkn : ki.n = i := by rw [← HKI.out.1]
        have c11 : w10.cell? ⟨g11, 32, none⟩ = some (.int .u32 (i : Nat)) := by have := row_at HR1110.out (Ky.cells_32 HKI.out.2.1); rw [hkn] at this; exact this
        have c9 : w10.cell? ⟨g9, 32, none⟩ = some (.int .u32 (i : Nat)) := by
          have h1 : (⟨sm, i⟩ : Ky).Ok := by have := HKI.out.2.1; rw [← HKI.out.1] at this; exact this
          exact row_at HR910.out (Ky.cells_32 h1)
        have f9 := free_row HR910.out 32
        have hww : IntKind.u32.wrap ((i : Int) + 1) = ((i + 1 : Nat) : Int) := by simp [IntKind.wrap, IntKind.bits, IntKind.signed]; omega
        have hww2 : ((i : Int) + 1) % 4294967296 = ((i + 1 : Nat) : Int) := by omega
        clear hkn
        go_wp2_with (go_at_call 38; refine HBE.out.mono ?_; rintro e w' ⟨rfl, rfl⟩)
        go_roundg (mt - (i + 1))
        case measure => omega
        case rel =>
          have hgs := grown_setCell w10 g9 32 (.int .u32 ((i : Int) + 1))
          refine ⟨i + 1, κ3, by go_num, by omega, H10.out.chg (Chg.of hgs) (fun x hx e => ?_), HCH10.out.trans2 (Chg.of hgs) (fun x hx e => ?_), HCOL.out, ?_, fun j hj z hz hzk => ?_⟩
          · injection e with e; rw [e] at hx; exact hx HK36.out.2
          · injection e with e; exact .inr e
          · rw [setCell_row HR910.out, show ((i : Int) + 1) = ((i + 1 : Nat) : Int) from rfl, key_set sm i (i + 1) HSO.out.len]
          · rcases Nat.lt_or_ge j i with h1 | h1
            · exact HR.out.oth j h1 z hz hzk
            · obtain rfl : j = i := by omega
              have h2 := of_decide_eq_false HBB.out
              have h3 : z = y := HH.out.a.uni hz HKI.out.2.2.1 (by rw [hzk, HKI.out.1, HKI.out.2.2.2])
              rw [h3]; exact h2
    · obtain rfl : i = mt := by omega
      obtain ⟨ki, hki⟩ : ∃ ki : Ky, (⟨sm, i⟩ : Ky) = ki := ⟨_, rfl⟩
      have hkok : ki.Ok := by rw [← hki]; exact ⟨HSO.out.len, HSO.out.byt, show i < 4294967296 by omega⟩
      have HKI := Lib.hid (And.intro hki hkok)
      have had2 : κ2 ad.block = 0 := by
        rcases Nat.eq_zero_or_pos (κ2 ad.block) with e | e
        · exact e
        · have h1 := HI1S.out
          have h2 := HSZ.out
          rcases HR.out.col ad.block (by omega) with h3 | h3
          · exact absurd HX.out.2.2.1 h3
          · omega
      have HI9 := Lib.hid (HI8.out.chg HR.out.chg (fun a ha _ => by
        injection ha with ha
        rw [← ha, HX.out.2.2.1]
        have h1 := HI1S.out
        have h2 := HSZ.out
        omega))
      have HR9 := Lib.hid (show wr.heap[g9]? = some (.cells ki.cells.toArray 64 (0, 0)) from by rw [← hki]; exact HR.out.key)
      have HR6 := Lib.hid ((HR.out.chg.block g6 (by have := HSZ.out; omega) (by have h1 := HSZ.out; rw [HZ.out g6 (by omega)]; omega)).trans HR68.out)
      have HK9 := Lib.hid (show wr.rangeAt g9 0 ki.cells from range_row HR9.out)
      have hkg : κ2 g9 = 0 ∧ κ2 g6 = 0 := ⟨HZ2.out g9 (by have := HSZ.out; omega) (by have := HSZ.out; omega), HZ2.out g6 (by have := HSZ.out; omega) (by have := HSZ.out; omega)⟩
      have HKG := Lib.hid hkg
      have HCL := Lib.hid (Clone_any ad n cp d wr.drew HX.out.1 (by omega) (HI9.out.below (Below.refl _ _).drew))
      have HNEW := Lib.hid (show (⟨ki, d⟩ : KD).2 ∉ E.map (·.2) from fun hm => by
        obtain ⟨z, hz, hzd⟩ := List.mem_map.1 hm
        have hzd' : z.2 = d := hzd
        have h1 := (HH.out.a.ok z hz).sum
        rw [hzd', HSM.out] at h1
        have h2 := HH.out.a.low z hz
        rw [← h1, HMT.out] at h2
        exact HR.out.oth z.1.n h2 z hz (by rw [h1]) hzd')
      have HBP := Lib.hid (fun (A4 : Option Addr) (c4 : Nat) (W : World) => build_piece ki hkok A4 n c4 W)
      have HHO := Lib.hid (fun (W : World) (hW : Below wr.heap.size wr W) (ad4 : Addr) (c4 : Nat) (hI4 : Ints .u8 W (some ad4) d) (hc4 : n ≤ c4) (hn4 : wr.heap.size ≤ ad4.block) =>
        hold_fu (HR.out.fu.below hW) (ki, d) ⟨hkok, HX.out.2.1, by rw [HX.out.1]; exact h0, by rw [HX.out.1]; exact h93, by rw [HSM.out, ← hki]⟩ ⟨ki, some ad4, c4, d⟩ rfl ⟨hkok, hI4, HX.out.2.1, by rw [HX.out.1]; exact hc4, fun e => by cases e⟩ ad4 rfl (HR.out.fu.sm.zero hn4) (by rw [← hki]; exact HMT.out.symm) HNEW.out (by rw [HX.out.1]; exact HX.out.2.2.2.1) HX.out.2.2.2.2)
      simp only [Pc.cells, HX.out.1] at HHO
      have HL9 := Lib.hid (row_lt HR9.out)
      have HN9 := Lib.hid (show ¬ κ2 g9 ≠ 0 from by rw [hkg.1]; simp)
      clear hki had2 hkg
      go_upto_region 19 with (fail)
      --[19
      refine wp_region_held_drew (S := fun w' => Chg (fun x => κ2 x ≠ 0) wr w') (by kernel_rfl) (((Chg.refl _ _).drewN 1)) (fun hHeld => ?_)
      refine held_take 0 (some 79) (v := ?_) rfl rfl (by kernel_rfl) (by kernel_rfl) (by kernel_rfl) (fun _ _ _ h => h) (Or.inl ⟨by rfl, ?_⟩) hHeld ?_
      rotate_left
      · (intro w' hSw; clear hSw; go_simp; try with_reducible rfl)
      try simp only [Act.put, List.setIfInBounds_toArray, List.set_cons_zero, List.set_cons_succ]
      refine held_take 1 (some 80) (v := .agg (ki.cells).toArray) rfl rfl (by kernel_rfl) (by kernel_rfl) (by kernel_rfl) (fun _ _ _ h => h) (yieldsIf_load_mid (by rfl) 64 _ rfl g9 (0) rfl (ki.cells) _ (fun w' h => range_chg HK9.out h HL9.out HN9.out) Tryz.underlying64 rfl (sizeK HKI.out.2)) hHeld ?_
      try simp only [Act.put, List.setIfInBounds_toArray, List.set_cons_zero, List.set_cons_succ]
      refine held_take 2 (some 81) (v := ?_) rfl rfl (by kernel_rfl) (by kernel_rfl) (by kernel_rfl) (fun _ _ _ h => h) (Or.inl ⟨by rfl, ?_⟩) hHeld ?_
      rotate_left
      · (intro w' hSw; clear hSw; go_simp; try with_reducible rfl)
      try simp only [Act.put, List.setIfInBounds_toArray, List.set_cons_zero, List.set_cons_succ]
      refine wpAnyH_ready (rs := [3]) (by kernel_rfl) (by simp) ?_
      refine AllReadyH.cons rfl (fun K hKK => ?_) AllReadyH.nil
      go_simp
      go_at_call 40
      refine (HCL.out).mono ?_
      rintro e w12 ⟨v4, rfl, ho4, hc11⟩
      have hS12 := (hHeld).trans (Chg.belowAt hc11)
      have hb12 : Below wr.heap.size wr w12 := (Below.refl _ _).drew.trans hc11
      obtain ⟨A4, c4, rfl, hl4, hI4, hA4⟩ := ho4.ints
      have hdn : d.length = n := HX.out.1
      rw [hdn] at hl4
      obtain ⟨ad4, rfl, _⟩ := hI4 0 (by rw [hdn]; exact h0)
      rw [hdn]
      have HHD := Lib.hid (HHO.out w12 hb12 ad4 c4 hI4 hl4 (hA4 ad4 rfl).1)
      have HA4 := Lib.hid (And.intro (hA4 ad4 rfl) hb12)
      clear ho4 hl4 hI4 hA4 hb12 hdn
      refine hKK.out _ _ hS12 (fun hHeld => ?_)
      clear hKK K
      try simp only [Act.put, List.setIfInBounds_toArray, List.set_cons_zero, List.set_cons_succ]
      refine held_take 4 (some 83) (v := .agg (ki.cells ++ [Value.slice (some ad4) n c4]).toArray) rfl rfl (by kernel_rfl) (by kernel_rfl) (by kernel_rfl) (fun _ _ _ h => h) (yields_val (by go_simp) (fun W _ => exec_build _ _ rfl #[(0, .agg ki.cells.toArray), (1, .slice (some ad4) n c4)] (by go_simp) (HBP.out _ _ W))) hHeld ?_
      try simp only [Act.put, List.setIfInBounds_toArray, List.set_cons_zero, List.set_cons_succ]
      refine wpAnyH_ready (rs := [5]) (by kernel_rfl) (by simp) ?_
      refine AllReadyH.cons rfl (fun K hKK => ?_) AllReadyH.nil
      go_simp
      go_at_call 39
      refine (HHD.out).mono ?_
      rintro e w13 ⟨rfl, hc13, hex13⟩
      have hS14 := (hHeld).trans hc13
      refine hKK.out _ _ hS14 (fun hHeld => ?_)
      clear hKK K
      try simp only [Act.put, List.setIfInBounds_toArray, List.set_cons_zero, List.set_cons_succ]
      refine held_take 6 (some 14) (v := ?_) rfl rfl (by kernel_rfl) (by kernel_rfl) (by kernel_rfl) (fun _ _ _ h => h) (Or.inl ⟨by rfl, ?_⟩) hHeld ?_
      rotate_left
      · (intro w' hSw; clear hSw; go_simp; try with_reducible rfl)
      try simp only [Act.put, List.setIfInBounds_toArray, List.set_cons_zero, List.set_cons_succ]
      refine wpAnyH_done (by kernel_rfl) ?_ _
      --]19
      have HC13 := Lib.hid hHeld
      have HEX := Lib.hid hex13
      have HK13 := Lib.hid (range_chg HK9.out hHeld HL9.out HN9.out)
      have HR613 := Lib.hid ((hHeld.block g6 (row_lt HR6.out) (by rw [HKG.out.2]; simp)).trans HR6.out)
      clear hHeld hc13 hex13 HHD
      go_wp2_with (first | (with_reducible refine Go.wpList_load_mid rfl 64 _ rfl g9 (0) rfl (ki).cells _ HK13.out Tryz.underlying64 rfl (sizeK HKI.out.2) ?_) | (with_reducible refine wpList_store_row rfl 64 _ _ rfl g6 ki.cells.toArray rfl rfl 64 zK HR613.out (sizeKA HKI.out.2) (zK_size HKI.out.2) (all_one (Ky.cells_one ki)) ?_))
      refine bodyPost_ret (v := .tuple #[.agg ki.cells.toArray, .bool true, .int .i64 0]) ?_ rfl ?_
      · exact results_cell_2 rfl _ _ g6 64 ki.cells.toArray (0, 0) _ _ _ rfl rfl rfl (setRow_heap _ _ _ _ _ _ HR613.out) Tryz.underlying64 rfl (sizeKA HKI.out.2)
      · have hgr := grown_setRow w13 g6 ki.cells.toArray
        have h1 := HSZ.out
        have hc8 := HC8.out.size
        have hb12 := HA4.out.2.size
        have hsr2 := HR.out.chg.size
        obtain ⟨κ', L', P', q', v', M', size', at', D', c', hfu, hcol⟩ := HEX.out
        have hcol2 : ∀ y, κ' y ≠ 0 → κ y ≠ 0 ∨ (w.heap.size ≤ y ∧ y ≠ g6) := fun y hy => by
          rcases hcol y hy with h2 | h2 | h2
          · rcases HR.out.col y h2 with h3 | h3
            · exact .inl h3
            · exact .inr ⟨by omega, by omega⟩
          · have h5 : wr.heap.size ≤ ad4.block := HA4.out.1.1; exact .inr ⟨by omega, by omega⟩
          · exact .inr ⟨by omega, by omega⟩
        refine ⟨ki, true, E ++ [(ki, d)], rfl, by simp, .inr ⟨HNEW.out, rfl⟩, (((Chg.belowAt HC8.out).trans2 HR.out.chg (fun x hx e => ?_)).trans2 HC13.out (fun x hx e => ?_)).trans2 (Chg.of hgr) (fun x hx e => ?_), κ', L', P', q', v', M', size', at', D', c', hfu.chg (Chg.of hgr) (fun x hx e => ?_), fun x hx => (hcol2 x hx).imp id (fun h => h.1)⟩
        · rcases e with e | e
          · exact e
          · omega
        · rcases HR.out.col x e with h3 | h3
          · exact h3
          · omega
        · injection e with e; omega
        · injection e with e
          rcases hcol2 x hx with h2 | h2
          · exact h2 (HZ.out x (by omega))
          · exact h2.2 e
end
/-- store.Put. -/
theorem SPut_any {w : World} {gs N : Nat} {E : List KD} {b : Nat} {F : Nat → Prop} (h : Sto w gs N E b F) (A : Option Addr) (n cp : Nat) (d : List Int) (hn : d.length = n) (h0 : 0 < n) (h93 : n ≤ 93) (hcp : n ≤ cp) (hB : Bytes d) (hI : Ints .u8 w A d) (hF : ∀ ad, A = some ad → ¬ F ad.block) (draw : Nat) (hdr : draw < 18446744073709551616) (hl : b + (38 + n) < 1000000) (hN : b + (38 + n) < 368 * N) :
    Calls Tryz.prog 20 #[.pointer (some ⟨gs, 0, none⟩), .slice A n cp, .int .u64 draw] w fun e w' => ∃ k fresh E', e = .returned (.tuple #[.agg k.cells.toArray, .bool fresh, .int .i64 0]) ∧ (k, d) ∈ E' ∧ (E' = E ∨ (d ∉ E.map (·.2) ∧ E' = E ++ [(k, d)])) ∧ Chg F w w' ∧ Sto w' gs N E' (b + (38 + n)) (fun x => F x ∨ w.heap.size ≤ x) := by
  obtain ⟨B, κ, L, P, q, v, M, size, at_, D, c, a, hf⟩ := h.ex
  obtain ⟨ad, rfl, _⟩ := hI 0 (by omega)
  have hz : κ ad.block = 0 := by
    rcases Nat.eq_zero_or_pos (κ ad.block) with e | e
    · exact e
    · exact absurd (hf _ (by omega)) (hF ad rfl)
  have ha : Fu w gs N B κ E L P q v M size at_ D c (b + (38 + n)) := ⟨a.sm, a.a, a.laid, a.cl, a.hkd, a.hsz, ⟨by have := a.bud.use; omega, by have := a.bud.num; omega, hl⟩, hN⟩
  refine (Put_fu ha ad n cp d hn h0 h93 hcp hB hI hz draw hdr (by have := a.bud.use; omega) (by have := a.bud.num; omega)).mono ?_
  rintro e w' ⟨k, fresh, E', rfl, h1, h2, h3, κ', L', P', q', v', M', size', at', D', c', hfu, hcol⟩
  exact ⟨k, fresh, E', rfl, h1, h2, h3.mono hf, B, κ', L', P', q', v', M', size', at', D', c', hfu, fun x hx => (hcol x hx).imp (hf x) id⟩
end Go.Proofs.YtcklcffepedklaaGreat

namespace Go.Proofs.YtcklcffepedklaaGreat
open Go.RowKit Go.Maps

theorem st_made {w w1 w2 w3 w4 w5 : World} {gv gd N m c gf bits probes room : Nat} {F : Nat → Prop} (hN : 0 < N) (h : Vt w gv gd N (fun _ => none) c F) (hc : c = 0) (hb1 : Below w.heap.size w w1) (hb2 : Below w1.heap.size w1 w2) (hfd : Fd w2 gf bits probes room [] (fun x => w1.heap.size ≤ x))
    (hb3 : Below w2.heap.size w2 w3) (hs3 : w3.heap.size = w2.heap.size + 2) (hn : Sp.Sp w3 (w2.heap.size + 1) w2.heap.size N m (fun _ => false)) (hb4 : Below w3.heap.size w3 w4) (hs4 : w4.heap.size = w3.heap.size + 2) (hk : Sp.Sp w4 (w3.heap.size + 1) w3.heap.size N m (fun _ => false))
    (h5 : w4.alloc (.cells #[.pointer (some ⟨gv, 0, none⟩), .pointer (some ⟨gf, 0, none⟩), .pointer (some ⟨w2.heap.size + 1, 0, none⟩), .pointer (some ⟨w3.heap.size + 1, 0, none⟩), .slice none 0 0, .int .i64 0, .int .i64 0, .int .u32 0] 79) = w5) :
    Sto w5 w4.heap.size N [] 0 (fun x => F x ∨ x = gv ∨ w.heap.size ≤ x) ∧ Below w.heap.size w w5 := by
  subst h5
  have hr := heap_alloc_last w4 (.cells #[.pointer (some ⟨gv, 0, none⟩), .pointer (some ⟨gf, 0, none⟩), .pointer (some ⟨w2.heap.size + 1, 0, none⟩), .pointer (some ⟨w3.heap.size + 1, 0, none⟩), .slice none 0 0, .int .i64 0, .int .i64 0, .int .u32 0] 79)
  have hb5 := (Below.refl w4.heap.size w4).alloc (Nat.le_refl _) (.cells #[.pointer (some ⟨gv, 0, none⟩), .pointer (some ⟨gf, 0, none⟩), .pointer (some ⟨w2.heap.size + 1, 0, none⟩), .pointer (some ⟨w3.heap.size + 1, 0, none⟩), .slice none 0 0, .int .i64 0, .int .i64 0, .int .u32 0] 79)
  have hs5 : (w4.alloc (.cells #[.pointer (some ⟨gv, 0, none⟩), .pointer (some ⟨gf, 0, none⟩), .pointer (some ⟨w2.heap.size + 1, 0, none⟩), .pointer (some ⟨w3.heap.size + 1, 0, none⟩), .slice none 0 0, .int .i64 0, .int .i64 0, .int .u32 0] 79)).heap.size = w4.heap.size + 1 := World.size_alloc _ _
  generalize w4.alloc _ = w5 at *
  have s1 := hb1.size
  have s2 := hb2.size
  have hgv := row_lt h.row
  have hb14 : Below w1.heap.size w1 w4 := below_trans (below_trans hb2 hb3 hb2.size) hb4 (by omega)
  have hbF : Below w.heap.size w w5 := below_trans (below_trans hb1 hb14 hb1.size) hb5 (by omega)
  obtain ⟨κ, hκ⟩ : ∃ κ : Nat → Nat, (∀ x, w.heap.size ≤ x → x < w1.heap.size → κ x = 0) ∧ (∀ x, w1.heap.size ≤ x → x < w2.heap.size → κ x = 4) ∧ (∀ x, w2.heap.size ≤ x → x < w3.heap.size → κ x = 5) ∧ (∀ x, w3.heap.size ≤ x → x < w4.heap.size → κ x = 6) ∧ κ w4.heap.size = 1 ∧ (∀ x, w5.heap.size ≤ x → κ x = 0) ∧ κ gv = 2 ∧ (∀ x, x < w.heap.size → F x → κ x = 3) ∧ (∀ x, x < w.heap.size → κ x ≠ 0 → F x ∨ x = gv) := by
    classical
    refine ⟨fun x => if x = gv then 2 else if x < w.heap.size then (if F x then 3 else 0) else if x < w1.heap.size then 0 else if x < w2.heap.size then 4 else if x < w3.heap.size then 5 else if x < w4.heap.size then 6 else if x < w5.heap.size then 1 else 0, ?_, ?_, ?_, ?_, ?_, ?_, ?_, ?_, ?_⟩
    · intro x a b; simp only; rw [if_neg (by omega), if_neg (by omega), if_pos b]
    · intro x a b; simp only; rw [if_neg (by omega), if_neg (by omega), if_neg (by omega), if_pos b]
    · intro x a b; simp only; rw [if_neg (by omega), if_neg (by omega), if_neg (by omega), if_neg (by omega), if_pos b]
    · intro x a b; simp only; rw [if_neg (by omega), if_neg (by omega), if_neg (by omega), if_neg (by omega), if_neg (by omega), if_pos b]
    · simp only; rw [if_neg (by omega), if_neg (by omega), if_neg (by omega), if_neg (by omega), if_neg (by omega), if_neg (by omega), if_pos (by omega)]
    · intro x a; simp only; rw [if_neg (by omega), if_neg (by omega), if_neg (by omega), if_neg (by omega), if_neg (by omega), if_neg (by omega), if_neg (by omega)]
    · simp
    · intro x a b
      simp only
      rw [if_neg (fun (e : x = gv) => h.out (by rw [← e]; exact b)), if_pos a, if_pos b]
    · intro x a b
      simp only at b
      by_cases e : x = gv
      · exact .inr e
      · rw [if_neg e, if_pos a] at b
        split at b
        · rename_i hF; exact .inl hF
        · exact absurd rfl b
  obtain ⟨k0, k4, k5, k6, k1, kz, kv, k3, kF⟩ := hκ
  have hlim : ∀ x, κ x ≠ 0 → x < w5.heap.size := fun x hx => by
    rcases Nat.lt_or_ge x w5.heap.size with h1 | h1
    · exact h1
    · exact absurd (kz x h1) hx
  have hvt : Vt w5 gv gd N (fun _ => none) c (fun x => κ x = 3) := h.kept (R := fun _ => False) (Chg.belowAt hbF) (fun h => h) (fun _ _ _ h => h) (fun x hx hF => k3 x hx hF) (by rw [kv]; decide)
  have hfd5 : Fd w5 gf bits probes room [] (fun x => κ x = 4) := by
    have hb25 : Below w2.heap.size w2 w5 := below_trans (below_trans hb3 hb4 (by omega)) hb5 (by omega)
    exact hfd.kept (R := fun _ => False) (Chg.belowAt hb25) (fun _ _ _ h => h) (fun x hx h1 => k4 x h1 hx)
  have hn5 : Sp.Sp w5 (w2.heap.size + 1) w2.heap.size N m (nowF (fun _ => []) 0) := by
    have e : nowF (fun _ => []) 0 = fun _ => false := by funext p; simp [nowF]
    rw [e]
    exact sp_chg (R := fun _ => False) (sp_chg (R := fun _ => False) hn (Chg.belowAt hb4) (fun h => h) (fun h => h)) (Chg.belowAt hb5) (fun h => h) (fun h => h)
  have hk5 : Sp.Sp w5 (w3.heap.size + 1) w3.heap.size N m (fun _ => false) := sp_chg (R := fun _ => False) hk (Chg.belowAt hb5) (fun h => h) (fun h => h)
  refine ⟨⟨⟨gv, gd, gf, w2.heap.size + 1, w2.heap.size, w3.heap.size + 1, w3.heap.size, bits, probes, room, m⟩, κ, [], fun _ => [], 0, .slice none 0 0, [], 0, 0, fun _ => none, c, ⟨⟨hr, hvt, hfd5, hn5, hk5, ⟨World.ownsRow_nil _ _ _ _, fun p h => (by cases h)⟩, fun p h => (by cases h), fun b e => (by simp [Value.ownBlock] at e), k1, kv, ⟨k5 (w2.heap.size + 1) (by omega) (by omega), k5 w2.heap.size (by omega) (by omega)⟩, ⟨k6 (w3.heap.size + 1) (by omega) (by omega), k6 w3.heap.size (by omega) (by omega)⟩, hlim⟩, StA.nil, fun s hs => by omega, by omega, rfl, fun e => absurd rfl e, ⟨by simp [szD, lenD], Nat.zero_le _, by decide⟩, by omega⟩, fun x hx => ?_⟩, hbF⟩
  rcases Nat.lt_or_ge x w.heap.size with h1 | h1
  · rcases kF x h1 hx with h2 | h2
    · exact .inl h2
    · exact .inr (.inl h2)
  · exact .inr (.inr h1)
set_option maxRecDepth 20000 in
set_option maxHeartbeats 1600000 in
theorem SNew_any {w : World} {gv gd N c : Nat} {F : Nat → Prop} (h : Vt w gv gd N (fun _ => none) c F) (hc : c = 0) (hN : 0 < N) (bits probes room : Nat) (h1 : bits ≤ 1048576) (h2 : probes ≤ 30) (h3 : room ≤ 4096) :
    Calls Tryz.prog 18 #[.pointer (some ⟨gv, 0, none⟩), .agg #[.int .i64 bits, .int .i64 probes, .int .i64 room]] w fun e w' => ∃ gs, e = .returned (.tuple #[.pointer (some ⟨gs, 0, none⟩), .int .i64 0]) ∧ Sto w' gs N [] 0 (fun x => F x ∨ x = gv ∨ w.heap.size ≤ x) ∧ Below w.heap.size w w' := by
  have hN16 := h.num
  have hb1 := (Below.refl w.heap.size w).alloc (Nat.le_refl _) (.cells #[.int .i64 bits, .int .i64 probes, .int .i64 room] 59)
  have hr1 := heap_alloc_last w (.cells #[.int .i64 bits, .int .i64 probes, .int .i64 room] 59)
  obtain ⟨g3, hg3⟩ : ∃ g, w.heap.size = g := ⟨_, rfl⟩
  rw [hg3] at hr1
  obtain ⟨w1, hw1⟩ : ∃ w1, w.alloc (.cells #[.int .i64 bits, .int .i64 probes, .int .i64 room] 59) = w1 := ⟨_, rfl⟩
  rw [hw1] at hb1 hr1
  have HFN := Lib.hid (FNew_any w1 bits probes room h1 h2 h3)
  have cb : w1.cell? ⟨g3, 0, none⟩ = some (.int .i64 bits) := by rw [cell_of_row _ _ _ _ _ _ hr1]; rfl
  have cp : w1.cell? ⟨g3, 1, none⟩ = some (.int .i64 probes) := by rw [cell_of_row _ _ _ _ _ _ hr1]; rfl
  have cr : w1.cell? ⟨g3, 2, none⟩ = some (.int .i64 room) := by rw [cell_of_row _ _ _ _ _ _ hr1]; rfl
  have HB1 := Lib.hid hb1
  have HV := Lib.hid h
  obtain ⟨m, hm⟩ : ∃ m, m = (N + 63) / 64 := ⟨_, rfl⟩
  have HM := Lib.hid hm
  clear hr1 hb1 h hm
  go_enter Tryz.func18, Tryz.ntmps18
  go_wp2_with fail
  refine HFN.out.mono ?_
  rintro e w2 ⟨gf, rfl, hfd, hb2⟩
  have HX2 := Lib.hid (And.intro hfd hb2)
  have HL2 := Lib.hid (Len_any (HV.out.below (HB1.out.trans (hb2.mono HB1.out.size))))
  have HSN := Lib.hid (Sp.New_any N m w2 (by omega) HM.out)
  clear hfd hb2 HFN cb cp cr
  go_wp2_with (go_at_call 32; refine HL2.out.mono ?_; rintro e w' ⟨rfl, rfl⟩)
  refine HSN.out.mono ?_
  rintro e w3 ⟨rfl, hg3', hn3, hs3⟩
  have hb3 : Below w2.heap.size w2 w3 := (Below.refl _ _).grown hg3' (Nat.le_refl _) (fun k hk => by cases hk)
  have HX3 := Lib.hid (And.intro hb3 (And.intro hs3 hn3))
  have HL3 := Lib.hid (Len_any ((HV.out.below (HB1.out.trans (HX2.out.2.mono HB1.out.size))).below hb3))
  have HSN3 := Lib.hid (Sp.New_any N m w3 (by omega) HM.out)
  obtain ⟨gn, hgn⟩ : ∃ g, w2.heap.size + 1 = g := ⟨_, rfl⟩
  rw [hgn]
  have HGN := Lib.hid hgn
  clear hg3' hb3 hs3 hn3 HL2 HSN hgn
  go_wp2_with (go_at_call 32; refine HL3.out.mono ?_; rintro e w' ⟨rfl, rfl⟩)
  refine HSN3.out.mono ?_
  rintro e w4 ⟨rfl, hg4', hn4, hs4⟩
  have hb4 : Below w3.heap.size w3 w4 := (Below.refl _ _).grown hg4' (Nat.le_refl _) (fun k hk => by cases hk)
  have HX4 := Lib.hid (And.intro hb4 (And.intro hs4 hn4))
  obtain ⟨gk, hgk⟩ : ∃ g, w3.heap.size + 1 = g := ⟨_, rfl⟩
  rw [hgk]
  have HGK := Lib.hid hgk
  obtain ⟨w5, hw5⟩ : ∃ w5, w4.alloc (.cells #[.pointer (some ⟨gv, 0, none⟩), .pointer (some ⟨gf, 0, none⟩), .pointer (some ⟨gn, 0, none⟩), .pointer (some ⟨gk, 0, none⟩), .slice none 0 0, .int .i64 0, .int .i64 0, .int .u32 0] 79) = w5 := ⟨_, rfl⟩
  clear hg4' hb4 hs4 hn4 HL3 HSN3 hgk hw1
  go_wp2_with fail
  go_ret2
  have e1 := HGN.out
  have e2 := HGK.out
  subst e1 e2
  have := st_made hN HV.out hc HB1.out HX2.out.2 HX2.out.1 HX3.out.1 HX3.out.2.1 HX3.out.2.2 HX4.out.1 HX4.out.2.1 HX4.out.2.2 hw5
  exact ⟨_, rfl, this.1, this.2⟩
end Go.Proofs.YtcklcffepedklaaGreat

namespace Go.Proofs.YtcklcffepedklaaGreat
open Go.RowKit Go.Maps

theorem ownR_range {w : World} {b n c i : Nat} {e : TypeId} {A : Option Addr} {l : List Rw} {r : Rw} (h : w.ownsRow b e 35 (.slice A n c) l.length (flatR l)) (hi : l[i]? = some r) : ∃ g, A = some ⟨g, 0, none⟩ ∧ w.rangeAt g (i * 35) (encR r) := by
  have h0 : l.length = 0 → flatR l = [] := fun e => by rw [List.length_eq_zero_iff.1 e]; rfl
  obtain ⟨g, hg, _⟩ := own_cell h (flat_at l (fun x _ => encR_length x) hi (encR_34 r)) h0
  refine ⟨g, hg, fun j u hj => ?_⟩
  obtain ⟨g', hg', hc⟩ := own_cell h (flat_at l (fun x _ => encR_length x) hi hj) h0
  rw [hg] at hg'; injection hg' with hg'; injection hg' with hg'
  rw [hg']; exact hc
theorem sizeR (r : Rw) : (Tryz.prog.info? 84).map (·.size) = some (encR r).length := by
  rw [encR_length]; kernel_rfl
theorem sizeRA (r : Rw) : (Tryz.prog.info? 84).map (·.size) = some (encR r).toArray.size := by rw [List.size_toArray]; exact sizeR r
theorem zR_size (r : Rw) : zR.size = (encR r).toArray.size := by
  have e : (encR r).toArray.size = 35 := by rw [List.size_toArray, encR_length]
  rw [e]; rfl
theorem encR_take (r : Rw) : (encR r).take 33 = r.val.1.cells := by
  unfold encR
  rw [List.take_append_of_le_length (by rw [Ky.cells_length r.property]; exact Nat.le_refl _), List.take_of_length_le (by rw [Ky.cells_length r.property]; exact Nat.le_refl _)]
set_option maxRecDepth 20000 in
set_option maxHeartbeats 1600000 in
theorem SAll_any {w : World} {gs N : Nat} {E : List KD} {b : Nat} {F : Nat → Prop} (h : Sto w gs N E b F) :
    Calls Tryz.prog 10 #[.pointer (some ⟨gs, 0, none⟩)] w fun e w' => ∃ A c, e = .returned (.slice A E.length c) ∧ Below w.heap.size w w' := by
  obtain ⟨B, κ, L, P, q, v, M, size, at_, D, c, a, _⟩ := h.ex
  have c1 := a.sm.ci 1 _ rfl
  have hE : E.length < 1000000 := by have := a.bud.num; have := a.bud.lim; omega
  have hLE := a.a.len
  have HFA := Lib.hid (FAll_any a.sm.fd (by omega))
  rw [hLE] at HFA
  obtain ⟨n, hn⟩ : ∃ n, E.length = n := ⟨_, rfl⟩
  rw [hn] at HFA hE ⊢
  clear h a hLE hn
  go_enter Tryz.func10, Tryz.ntmps10
  go_wp2_with fail
  refine HFA.out.mono ?_
  rintro e w1 ⟨v1, l, rfl, ho, hl, hb1⟩
  obtain ⟨A1, c1', rfl⟩ := ownR_form ho
  have HO := Lib.hid ho
  have HB1 := Lib.hid hb1
  have HZR := Lib.hid zeroR
  rw [hl]
  have HLN := Lib.hid hl
  clear ho hb1 HFA c1 hl
  go_upto_region 5 with (fail)
  go_loopg [3, 14] n (fun kq v3 v14 w' => ∃ (i : Nat) (A3 : Option Addr) (c3 : Nat) (xs : List Value), v14 = .int .i64 (i : Int) ∧ i + kq = n ∧ v3 = .slice A3 i c3 ∧ w'.ownsRow w1.heap.size 64 33 (.slice A3 i c3) i xs ∧ Below w1.heap.size w1 w')
  case atStart => exact ⟨0, none, 0, [], rfl, by omega, rfl, World.ownsRow_nil _ _ _ _, Below.refl _ _⟩
  case round =>
    obtain ⟨i, A3, c3, xs, rfl, hi, rfl, ho, hb⟩ := hrel
    by_cases hlt : i < n
    · obtain ⟨r, hr⟩ : ∃ r, l[i]? = some r := ⟨_, List.getElem?_eq_getElem (by have := HLN.out; omega)⟩
      obtain ⟨g1, rfl, hrg⟩ := ownR_range (own_chg (R := fun _ => False) HO.out (Chg.belowAt hb) (fun _ _ h => h)) hr
      have HRG := Lib.hid hrg
      have HBB := Lib.hid hb
      have HOW := Lib.hid ho
      have hsr := hb.size
      have hi0 : (0 : Int) ≤ (i : Int) := by omega
      have hi1 : (i : Int) < (n : Int) := by omega
      clear hr hrg ho hb
      go_upto_region 7 with (first | (with_reducible refine Go.wpList_load_mid rfl 84 _ rfl g1 (i * 35) rfl (encR r) _ HRG.out Tryz.underlying84 rfl (sizeR r) ?_) | (with_reducible refine wpList_fresh rfl rfl 84 rfl _ _ rfl (encR r).toArray zR (fun _ => rfl) (fun _ => rfl) HZR.out (sizeRA r) (zR_size r) (all_one (encR_one r)) ?_; intro g5 w5 hg5 hr5 hb5))
      have HK5 := Lib.hid (show w5.rangeAt g5 0 r.val.1.cells from by have := range_take (range_row hr5.out) 33; rw [encR_take] at this; exact this)
      have HKO := Lib.hid r.property
      have HBS := Lib.hid (fun (W : World) => build_one (P := Tryz.prog) (z := .agg zK) (vs := r.val.1.cells) (s := 33) Tryz.underlying37 (fun _ => by kernel_rfl) zeroK (Ky.cells_length r.property) (by decide) (by decide) (.agg r.val.1.cells.toArray) rfl W)
      have HB15 := Lib.hid (show Below w1.heap.size w1 w5 from HBB.out.trans (hb5.out.mono hsr))
      have hs5 := hb5.out.size
      have HOA := Lib.hid (own_chg (R := fun _ => False) HOW.out ((Chg.belowAt hb5.out).alloc (.cells r.val.1.cells.toArray 64)) (fun _ _ h => h))
      have HNW := Lib.hid (show ∀ j u, r.val.1.cells[j]? = some u → ∃ ad, some (⟨w5.heap.size, 0, none⟩ : Addr) = some ad ∧ (w5.alloc (.cells r.val.1.cells.toArray 64)).cell? (ad.add j) = some u from fun j u hj => ⟨_, rfl, by rw [addr_add0, Nat.zero_add]; exact row_at (heap_alloc_last w5 _) hj⟩)
      have HCL := Lib.hid (show r.val.1.cells.length = 1 * 33 from Ky.cells_length r.property)
      have HML := Lib.hid (show (i + 1 ≤ maxLen ∧ (i + 1) * 36 ≤ 140737488355328) ∧ w1.heap.size ≤ (w5.alloc (.cells r.val.1.cells.toArray 64)).heap.size by rw [World.size_alloc]; unfold maxLen; constructor <;> omega)
      have HNN := Lib.hid (show some (⟨w5.heap.size, 0, none⟩ : Addr) = none → 1 = 0 ∧ 1 = 0 from fun h => by cases h)
      clear hb5 hr5 hg5
      go_wp2_with (first | (with_reducible refine Go.wpList_load_mid rfl 64 _ rfl g5 (0) rfl (r.val.1).cells _ HK5.out Tryz.underlying64 rfl (sizeK HKO.out) ?_) | (with_reducible refine wpList_val rfl (exec_buildSlice _ _ _ rfl #[(0, .agg r.val.1.cells.toArray)] (by go_simp) (HBS.out _)) ?_) | (at_builtin; refine wpList_app EK rfl _ _ rfl w1.heap.size _ i xs rfl HOA.out (some ⟨w5.heap.size, 0, none⟩) 1 1 r.val.1.cells rfl HNN.out HCL.out HNW.out (Ky.cells_one _) HML.out.1.1 HML.out.1.2 HML.out.2 ?_; intro v9 w9 hown hgrow hat))
      obtain ⟨A9, c9, rfl⟩ := own_form33 hown
      have hl5 := HOW.out.lt
      have HB9 := Lib.hid (show Below w1.heap.size w1 w9 from (HB15.out.alloc (by omega) _).grown hgrow (by rw [World.size_alloc]; omega) (fun x hx => (hl5 x hx).1))
      have HO9 := Lib.hid hown
      clear hown hgrow hat hl5
      go_roundg (n - (i + 1))
      case measure => omega
      case rel => exact ⟨i + 1, A9, c9, _, by go_num, by omega, rfl, HO9.out, HB9.out⟩
    · obtain rfl : i = n := by omega
      have HBF := Lib.hid (show Below w.heap.size w wr from HB1.out.trans (hb.mono HB1.out.size))
      clear ho hb hlt
      go_wp2_with fail
      go_ret
      exact ⟨_, _, rfl, HBF.out⟩
end Go.Proofs.YtcklcffepedklaaGreat

namespace Go.Proofs.YtcklcffepedklaaGreat
open Go.RowKit Go.Maps

theorem Tryz.infoX : (Tryz.prog.info? 69).map (fun i => (i.zero, i.size, i.bytes)) = some (some (.agg zR), 35, 56) := by kernel_rfl
theorem zeroX (w : World) : (zeroValue 69).run Tryz.prog w = .ok (.agg zR) w := by
  obtain ⟨i0, hi, hz0, _, _⟩ := info_parts Tryz.infoX
  exact zero_run hi hz0 w
theorem EX : Elem Tryz.prog 33 69 35 56 := by
  obtain ⟨i0, hi, hz0, hz1, hz2⟩ := info_parts Tryz.infoX
  exact ⟨Tryz.underlying33, ⟨i0, _, hi, hz0, hz1, hz2, rfl⟩, by decide⟩
theorem sizeX (r : Rw) : (Tryz.prog.info? 69).map (·.size) = some (encR r).length := by rw [encR_length]; kernel_rfl
theorem sizeXA (r : Rw) : (Tryz.prog.info? 69).map (·.size) = some (encR r).toArray.size := by rw [List.size_toArray]; exact sizeX r
abbrev OwnX (w : World) (base : Nat) (v : Value) (l : List Rw) : Prop := w.ownsRow base 69 35 v l.length (flatR l)
/-- Extents in a slice that begins at A. -/
def XAt (w : World) (A : Option Addr) (l : List Rw) : Prop := ∀ (i : Nat) (r : Rw), l[i]? = some r → ∃ g, A = some ⟨g, 0, none⟩ ∧ w.rangeAt g (i * 35) (encR r)
theorem OwnX.at_ {w : World} {b n c : Nat} {A : Option Addr} {l : List Rw} (h : OwnX w b (.slice A n c) l) : XAt w A l := fun _ _ hi => ownR_range h hi
theorem XAt.below {w w' : World} {A : Option Addr} {l : List Rw} (h : XAt w A l) (hb : Below w.heap.size w w') : XAt w' A l := fun i r hi => by
  obtain ⟨g, e, hr⟩ := h i r hi
  exact ⟨g, e, rangeAt_block hr (hb.block g (range_lt hr (by rw [encR_length]; decide)))⟩
theorem XAt.chg {R : Nat → Prop} {w w' : World} {A : Option Addr} {l : List Rw} (h : XAt w A l) (hc : Chg R w w') (hr : ∀ ad, A = some ad → 0 < l.length → ¬ R ad.block) : XAt w' A l := fun i r hi => by
  obtain ⟨g, e, hr'⟩ := h i r hi
  exact ⟨g, e, rangeAt_block hr' (hc.block g (range_lt hr' (by rw [encR_length]; decide)) (hr _ e (List.length_pos_of_mem (List.mem_of_getElem? hi))))⟩
theorem ownX_form {w : World} {b : Nat} {v : Value} {n : Nat} {xs : List Value} (h : w.ownsRow b 69 35 v n xs) : ∃ A c, v = .slice A n c := by
  obtain ⟨_, h2⟩ := h
  rcases h2 with ⟨h2, h3⟩ | ⟨g, cap, cur, e, _⟩
  · exact ⟨none, 0, by rw [h2, h3]⟩
  · exact ⟨_, cap, e⟩
/-- Extents that may be a file's. -/
structure XOk (r : Rw) : Prop where
  pos : 1 ≤ r.val.2.2
  lim : r.val.2.1 + r.val.2.2 ≤ 4096
structure RightX (l : List Rw) : Prop where
  len : l.length ≤ 16384
  all : ∀ r ∈ l, XOk r
theorem encR_33 (r : Rw) : (encR r)[33]? = some (.int .i64 r.val.2.1) := by
  rw [encR, List.getElem?_append_right (by rw [Ky.cells_length r.property]; decide), Ky.cells_length r.property]; rfl
set_option maxRecDepth 20000 in
theorem wrong_any (r : Rw) (h : XOk r) (w : World) : Calls Tryz.prog 53 #[.agg (encR r).toArray] w fun e w' => e = .returned (.bool false) ∧ Below w.heap.size w w' := by
  have hr := heap_alloc_last w (.cells (encR r).toArray 69)
  have hb := (Below.refl w.heap.size w).alloc (Nat.le_refl _) (.cells (encR r).toArray 69)
  have c1 := row_at hr (encR_33 r)
  have c2 := row_at hr (encR_34 r)
  have h1 := h.pos
  have h2 := h.lim
  have HB := Lib.hid hb
  obtain ⟨o, ho⟩ : ∃ o, r.val.2.1 = o := ⟨_, rfl⟩
  obtain ⟨m, hm⟩ : ∃ m, r.val.2.2 = m := ⟨_, rfl⟩
  rw [ho] at c1 h2
  rw [hm] at c2 h1 h2
  have d1 : decide ((o : Int) < 0) = false := decide_eq_false (by omega)
  have d2 : decide ((m : Int) < 1) = false := decide_eq_false (by omega)
  have d3 : decide ((4096 : Int) < (o : Int)) = false := decide_eq_false (by omega)
  have d4 : decide ((4096 : Int) - (o : Int) < (m : Int)) = false := decide_eq_false (by omega)
  clear hr hb ho hm h
  go_enter Tryz.func53, Tryz.ntmps53
  go_wp2
  go_ret
  exact ⟨rfl, HB.out⟩
end Go.Proofs.YtcklcffepedklaaGreat

namespace Go.Proofs.YtcklcffepedklaaGreat
open Go.RowKit Go.Maps

set_option maxRecDepth 20000 in
theorem IdxF_any (A : Option Addr) (n c : Nat) (l : List Rw) (w : World) (hn : l.length = n) (hR : RightX l) (hA : XAt w A l) (fv : Value) (hfv : fv = .func (.func 53) #[] #[]) :
    Calls Tryz.prog 73 #[.slice A n c, fv] w fun e w' => e = .returned (.int .i64 (-1)) ∧ Below w.heap.size w w' := by
  subst hfv
  have HN := Lib.hid hn
  have HA := Lib.hid hA
  have HR := Lib.hid hR
  have hn1 : n ≤ 16384 := by have := hR.len; omega
  clear hn hA hR
  go_enter Tryz.func73, Tryz.ntmps73
  go_upto_region 2 with (fail)
  go_loopg [5, 8] n (fun kq v5 v8 w' => ∃ i : Nat, v8 = .int .i64 (i : Int) ∧ i + kq = n ∧ Below w.heap.size w w')
  case atStart => exact ⟨0, rfl, by omega, Below.refl _ _⟩
  case round =>
    obtain ⟨i, rfl, hi, hb⟩ := hrel
    have HB := Lib.hid hb
    by_cases hlt : i < n
    · obtain ⟨r, hr⟩ : ∃ r, l[i]? = some r := ⟨_, List.getElem?_eq_getElem (by have := HN.out; omega)⟩
      obtain ⟨g, rfl, hrg⟩ := (HA.out.below hb) i r hr
      have HRG := Lib.hid hrg
      have HW := Lib.hid (wrong_any r (HR.out.all r (List.mem_of_getElem? hr)) wr)
      have hi0 : (0 : Int) ≤ (i : Int) := by omega
      have hi1 : (i : Int) < (n : Int) := by omega
      clear hr hrg hb
      go_wp2_with (with_reducible refine Go.wpList_load_mid rfl 69 _ rfl g (i * 35) rfl (encR r) _ HRG.out Tryz.underlying69 rfl (sizeX r) ?_)
      refine HW.out.mono ?_
      rintro e w2 ⟨rfl, hb2⟩
      have HB2 := Lib.hid (HB.out.trans (hb2.mono HB.out.size))
      clear hb2 HW
      go_wp2_with fail
      go_roundg (n - (i + 1))
      case measure => omega
      case rel => exact ⟨i + 1, by go_num, by omega, HB2.out⟩
    · obtain rfl : i = n := by omega
      clear hb hlt
      go_wp2_with fail
      go_ret
      exact ⟨rfl, HB.out⟩
theorem Right_any (A : Option Addr) (n c : Nat) (l : List Rw) (w : World) (hn : l.length = n) (hR : RightX l) (hA : XAt w A l) :
    Calls Tryz.prog 27 #[.slice A n c] w fun e w' => e = .returned (.bool true) ∧ Below w.heap.size w w' := by
  have hC : Calls Tryz.prog 52 #[.slice A n c, .func (.func 53) #[] #[]] w fun e w' => e = .returned (.bool false) ∧ Below w.heap.size w w' := by
    have HI := Lib.hid (IdxF_any A n c l w hn hR hA _ rfl)
    clear hn hR hA
    go_enter Tryz.func52, Tryz.ntmps52
    go_wp2_with fail
    refine HI.out.mono ?_
    rintro e w2 ⟨rfl, hb2⟩
    have HB := Lib.hid hb2
    clear hb2 HI
    go_wp2
    go_ret
    exact ⟨rfl, HB.out⟩
  have HC := Lib.hid hC
  have hn1 : n ≤ 16384 := by have := hR.len; omega
  have d1 : decide ((n : Int) ≤ 16384) = true := decide_eq_true (by omega)
  clear hn hR hA hC
  go_enter Tryz.func27, Tryz.ntmps27
  go_wp2_with fail
  refine HC.out.mono ?_
  rintro e w2 ⟨rfl, hb2⟩
  have HB := Lib.hid hb2
  clear hb2 HC
  go_wp2
  go_ret
  exact ⟨rfl, HB.out⟩
/-- How many bytes extents have. -/
def lenX (l : List Rw) : Nat := (l.map (·.val.2.2)).sum
theorem lenX_take {l : List Rw} {i : Nat} {r : Rw} (h : l[i]? = some r) : lenX (l.take (i + 1)) = lenX (l.take i) + r.val.2.2 := by
  unfold lenX
  rw [List.take_add_one, h]
  simp
theorem lenX_le {l : List Rw} (h : RightX l) : ∀ i, lenX (l.take i) ≤ 4096 * i
  | 0 => by simp [lenX]
  | i + 1 => by
    have ih := lenX_le h i
    cases hr : l[i]? with
    | none =>
      rw [List.take_add_one, hr]
      simp; omega
    | some r =>
      rw [lenX_take hr]
      have := (h.all r (List.mem_of_getElem? hr)).lim
      omega
set_option maxRecDepth 20000 in
theorem Total_any (A : Option Addr) (n c : Nat) (l : List Rw) (w : World) (hn : l.length = n) (hR : RightX l) (hA : XAt w A l) :
    Calls Tryz.prog 12 #[.slice A n c] w fun e w' => e = .returned (.int .i64 (lenX l : Nat)) ∧ Below w.heap.size w w' := by
  have HRI := Lib.hid (Right_any A n c l w hn hR hA)
  have HN := Lib.hid hn
  have HA := Lib.hid hA
  have HR := Lib.hid hR
  have HZX := Lib.hid zeroX
  have hn1 : n ≤ 16384 := by have := hR.len; omega
  have HFU := Lib.hid (show lenX (l.take n) = lenX l by rw [← hn, List.take_length])
  clear hn hA hR
  go_enter Tryz.func12, Tryz.ntmps12
  go_wp2_with fail
  refine HRI.out.mono ?_
  rintro e w1 ⟨rfl, hb1⟩
  have HB1 := Lib.hid hb1
  clear hb1 HRI
  go_upto_region 5 with (fail)
  go_loopg [3, 11] n (fun kq v3 v11 w' => ∃ i : Nat, v11 = .int .i64 (i : Int) ∧ i + kq = n ∧ v3 = .int .i64 (lenX (l.take i) : Nat) ∧ Below w1.heap.size w1 w')
  case atStart => exact ⟨0, rfl, by omega, by simp [lenX], Below.refl _ _⟩
  case round =>
    obtain ⟨i, rfl, hi, rfl, hb⟩ := hrel
    have HB := Lib.hid hb
    by_cases hlt : i < n
    · obtain ⟨r, hr⟩ : ∃ r, l[i]? = some r := ⟨_, List.getElem?_eq_getElem (by have := HN.out; omega)⟩
      obtain ⟨g, rfl, hrg⟩ := ((HA.out.below HB1.out).below hb) i r hr
      have HRG := Lib.hid hrg
      have hi0 : (0 : Int) ≤ (i : Int) := by omega
      have hi1 : (i : Int) < (n : Int) := by omega
      have hl := lenX_le HR.out i
      have hm := (HR.out.all r (List.mem_of_getElem? hr)).lim
      obtain ⟨m, hme⟩ : ∃ m, r.val.2.2 = m := ⟨_, rfl⟩
      obtain ⟨s, hse⟩ : ∃ s, lenX (l.take i) = s := ⟨_, rfl⟩
      have HT := Lib.hid (lenX_take hr)
      rw [hme, hse] at HT
      rw [hme] at hm
      rw [hse] at hl ⊢
      have HME := Lib.hid hme
      clear hr hrg hb hme hse
      go_upto_region 7 with (first | (with_reducible refine Go.wpList_load_mid rfl 69 _ rfl g (i * 35) rfl (encR r) _ HRG.out Tryz.underlying69 rfl (sizeX r) ?_) | (with_reducible refine wpList_fresh rfl rfl 69 rfl _ _ rfl (encR r).toArray zR (fun _ => rfl) (fun _ => rfl) HZX.out (sizeXA r) (zR_size r) (all_one (encR_one r)) ?_; intro g5 w5 hg5 hr5 hb5))
      have c34 : w5.cell? ⟨g5, 34, none⟩ = some (.int .i64 (m : Nat)) := HME.out ▸ row_at hr5.out (encR_34 r)
      have HB5 := Lib.hid (HB.out.trans (hb5.out.mono HB.out.size))
      clear hr5 hb5 hg5
      go_wp2_with fail
      go_roundg (n - (i + 1))
      case measure => omega
      case rel => exact ⟨i + 1, by go_num, by omega, by rw [HT.out]; go_num, HB5.out⟩
    · obtain rfl : i = n := by omega
      have HBF := Lib.hid (HB1.out.trans (hb.mono HB1.out.size))
      rw [HFU.out]
      clear hb hlt
      go_wp2_with fail
      go_ret
      exact ⟨rfl, HBF.out⟩
end Go.Proofs.YtcklcffepedklaaGreat
