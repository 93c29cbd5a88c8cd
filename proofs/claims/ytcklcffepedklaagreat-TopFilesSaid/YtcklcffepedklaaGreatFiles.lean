/- cellaragetop: TopFiles, walked. -/
import Derived.Test.YtcklcffepedklaaGreatM39
namespace Go.Proofs.YtcklcffepedklaaGreat
open Go.RowKit Go.Maps

theorem FeP.append {E : List KD} {f : Ky → List Int} {l m : List Rw} (h : FeP E f l) (k : FeP E f m) : FeP E f (l ++ m) :=
  ⟨fun r hr => (List.mem_append.1 hr).elim (h.mem r) (k.mem r), fun r hr => (List.mem_append.1 hr).elim (h.lim r) (k.lim r), fun r hr => (List.mem_append.1 hr).elim (h.pos r) (k.pos r)⟩
theorem FeP.slice {E : List KD} {f : Ky → List Int} : ∀ {l : List Rw} (off n : Nat), FeP E f l → FeP E f (sliceL l off n)
  | [], off, n, _ => ⟨fun r h => by simp [sliceL] at h, fun r h => by simp [sliceL] at h, fun r h => by simp [sliceL] at h⟩
  | r :: l, off, n, h => by
    have hr := List.mem_cons_self (a := r) (l := l)
    have hl : FeP E f l := ⟨fun x hx => h.mem x (List.mem_cons_of_mem _ hx), fun x hx => h.lim x (List.mem_cons_of_mem _ hx), fun x hx => h.pos x (List.mem_cons_of_mem _ hx)⟩
    by_cases hn : n = 0
    · rw [hn, sliceL_zero]; exact ⟨fun r h => (by cases h), fun r h => (by cases h), fun r h => (by cases h)⟩
    · by_cases ho : r.val.2.2 ≤ off
      · rw [sliceL_skip hn ho]; exact FeP.slice _ _ hl
      · rw [sliceL_cut hn ho]
        have ih := FeP.slice 0 (n - min (r.val.2.2 - off) n) hl
        have h1 := h.lim r hr
        refine ⟨fun x hx => ?_, fun x hx => ?_, fun x hx => ?_⟩
        · rcases List.mem_cons.1 hx with rfl | hx
          · exact h.mem r hr
          · exact ih.mem x hx
        · rcases List.mem_cons.1 hx with rfl | hx
          · show r.val.2.1 + off + min (r.val.2.2 - off) n ≤ (f r.val.1).length; omega
          · exact ih.lim x hx
        · rcases List.mem_cons.1 hx with rfl | hx
          · show 1 ≤ min (r.val.2.2 - off) n; omega
          · exact ih.pos x hx
theorem str_extract (l : List Int) (a b : Nat) : (strOfNums l).extract a b = strOfNums ((l.drop a).take (b - a)) := by
  apply Go.WideShapes.bytes_inj
  simp [strOfNums, ByteArray.data_extract, List.extract_eq_take_drop, List.map_drop, List.map_take]
set_option maxRecDepth 20000 in
set_option maxHeartbeats 3200000 in
theorem Files_law (A : Option Addr) (na ca : Nat) (a : List Int) (B : Option Addr) (nb cb : Nat) (b : List Int) (n p0 p1 : Nat) (w : World) (hna : a.length = na) (hca : na ≤ ca) (hIa : Ints .u8 w A a) (hBa : Bytes a) (hA : A = none → na = 0 ∧ ca = 0) (hnb : b.length = nb) (hcb : nb ≤ cb) (hIb : Ints .u8 w B b) (hBb : Bytes b) (hB : B = none → nb = 0 ∧ cb = 0) (hn : n < 256) (hp0 : p0 < 65536) (hp1 : p1 < 65536) :
    Calls Tryz.prog 4 #[.slice A na ca, .slice B nb cb, .int .u8 n, .agg #[.int .u16 p0, .int .u16 p1]] w fun e w' => e = .returned (.bool true) ∧ Below w.heap.size w w' := by
  have hr0 := heap_alloc_last w (.cells #[.int .u16 p0, .int .u16 p1] 41)
  have hb0 := (Below.refl w.heap.size w).alloc (Nat.le_refl _) (.cells #[.int .u16 p0, .int .u16 p1] 41)
  obtain ⟨g7, hg7⟩ : ∃ g, w.heap.size = g := ⟨_, rfl⟩
  rw [hg7] at hr0
  obtain ⟨w0, hw0⟩ : ∃ w0, w.alloc (.cells #[.int .u16 p0, .int .u16 p1] 41) = w0 := ⟨_, rfl⟩
  rw [hw0] at hr0 hb0
  have HR0 := Lib.hid hr0
  have HB0 := Lib.hid hb0
  have HHO := Lib.hid (holds_top w0)
  have HA := Lib.hid (And.intro hna (And.intro hIa (And.intro hBa hA)))
  have HB := Lib.hid (And.intro hnb (And.intro hIb (And.intro hBb hB)))
  clear hna hIa hBa hA hnb hIb hBb hB hr0 hb0
  go_enter Tryz.func4, Tryz.ntmps4
  go_wp2_with fail
  refine HHO.out.mono ?_
  rintro e w1 ⟨rfl, hb1⟩
  have HG7 := Lib.hid hg7
  clear hw0 hg7
  have HB1 := Lib.hid (HB0.out.trans (hb1.mono HB0.out.size))
  have HR1 := Lib.hid ((hb1.block g7 (row_lt HR0.out)).trans HR0.out)
  have HG71 := Lib.hid (row_lt HR1.out)
  have HMD := Lib.hid (made_any 120 n (by decide) (by decide) hn w1)
  clear hb1 HHO HR0 HB0
  go_wp2_with fail
  refine HMD.out.mono ?_
  rintro e w2 ⟨gs, rfl, hs2, hb2⟩
  have HS2 := Lib.hid hs2.bound
  have HB2 := Lib.hid hb2
  have HR2 := Lib.hid ((hb2.block g7 (row_lt HR1.out)).trans HR1.out)
  clear hs2 hb2 HMD HR1
  obtain ⟨ma, hma⟩ : ∃ ma, min na 1500 = ma := ⟨_, rfl⟩
  obtain ⟨mb, hmb⟩ : ∃ mb, min nb 1500 = mb := ⟨_, rfl⟩
  have ha1 : min (na : Int) 1500 = (ma : Int) := by omega
  have hb1' : min (nb : Int) 1500 = (mb : Int) := by omega
  have ha2 : (if (1500 : Int) < (na : Int) then (1500 : Int) else (na : Int)) = (ma : Int) := by split <;> omega
  have hb2' : (if (1500 : Int) < (nb : Int) then (1500 : Int) else (nb : Int)) = (mb : Int) := by split <;> omega
  have ha3 : (ma : Int) ≤ (ca : Int) := by omega
  have hb3' : (mb : Int) ≤ (cb : Int) := by omega
  have hma5 : ma ≤ 1500 ∧ ma ≤ na := by omega
  have hmb5 : mb ≤ 1500 ∧ mb ≤ nb := by omega
  clear hma hmb
  go_upto_region 5 with (fail)
  --[5
  refine wp_region_held_drew (S := fun w' => Below w2.heap.size w2 w') (by kernel_rfl) ((Below.refl _ _).drew) (fun hHeld => ?_)
  refine held_take 0 (some 34) (v := ?_) rfl rfl (by kernel_rfl) (by kernel_rfl) (by kernel_rfl) (fun _ _ _ h => h) (Or.inl ⟨by rfl, ?_⟩) hHeld ?_
  rotate_left
  · (intro w' hSw; clear hSw; go_simp; try with_reducible rfl)
  try simp only [Act.put, List.setIfInBounds_toArray, List.set_cons_zero, List.set_cons_succ]
  refine held_take 1 (some 35) (v := ?_) rfl rfl (by kernel_rfl) (by kernel_rfl) (by kernel_rfl) (fun _ _ _ h => h) (Or.inl ⟨by rfl, ?_⟩) hHeld ?_
  rotate_left
  · (intro w' hSw; clear hSw; go_simp; try with_reducible rfl)
  try simp only [Act.put, List.setIfInBounds_toArray, List.set_cons_zero, List.set_cons_succ]
  refine held_take 2 (some 36) (v := ?_) rfl rfl (by kernel_rfl) (by kernel_rfl) (by kernel_rfl) (fun _ _ _ h => h) (Or.inl ⟨by rfl, ?_⟩) hHeld ?_
  rotate_left
  · (intro w' hSw; clear hSw; go_simp; try with_reducible rfl)
  try simp only [Act.put, List.setIfInBounds_toArray, List.set_cons_zero, List.set_cons_succ]
  refine held_take 3 (some 37) (v := ?_) rfl rfl (by kernel_rfl) (by kernel_rfl) (by kernel_rfl) (fun _ _ _ h => h) (Or.inl ⟨by rfl, ?_⟩) hHeld ?_
  rotate_left
  · (intro w' hSw; clear hSw; go_simp; try with_reducible rfl)
  try simp only [Act.put, List.setIfInBounds_toArray, List.set_cons_zero, List.set_cons_succ]
  refine held_take 4 (some 38) (v := ?_) rfl rfl (by kernel_rfl) (by kernel_rfl) (by kernel_rfl) (fun _ _ _ h => h) (Or.inl ⟨by rfl, ?_⟩) hHeld ?_
  rotate_left
  · (intro w' hSw; clear hSw; go_simp; try with_reducible rfl)
  try simp only [Act.put, List.setIfInBounds_toArray, List.set_cons_zero, List.set_cons_succ]
  refine held_take 5 (some 39) (v := ?_) rfl rfl (by kernel_rfl) (by kernel_rfl) (by kernel_rfl) (fun _ _ _ h => h) (Or.inl ⟨by rfl, ?_⟩) hHeld ?_
  rotate_left
  · (intro w' hSw; clear hSw; go_simp; try with_reducible rfl)
  try simp only [Act.put, List.setIfInBounds_toArray, List.set_cons_zero, List.set_cons_succ]
  refine held_take 6 (some 40) (v := ?_) rfl rfl (by kernel_rfl) (by kernel_rfl) (by kernel_rfl) (fun _ _ _ h => h) (Or.inl ⟨by rfl, ?_⟩) hHeld ?_
  rotate_left
  · (intro w' hSw; clear hSw; go_simp; try with_reducible rfl)
  try simp only [Act.put, List.setIfInBounds_toArray, List.set_cons_zero, List.set_cons_succ]
  refine held_take 7 (some 41) (v := ?_) rfl rfl (by kernel_rfl) (by kernel_rfl) (by kernel_rfl) (fun _ _ _ h => h) (Or.inl ⟨by rfl, ?_⟩) hHeld ?_
  rotate_left
  · (intro w' hSw; clear hSw; go_simp; try with_reducible rfl)
  try simp only [Act.put, List.setIfInBounds_toArray, List.set_cons_zero, List.set_cons_succ]
  refine held_take 8 (some 42) (v := ?_) rfl rfl (by kernel_rfl) (by kernel_rfl) (by kernel_rfl) (fun _ _ _ h => h) (Or.inl ⟨by rfl, ?_⟩) hHeld ?_
  rotate_left
  · (intro w' hSw; clear hSw; go_simp; try with_reducible rfl)
  try simp only [Act.put, List.setIfInBounds_toArray, List.set_cons_zero, List.set_cons_succ]
  refine held_take 9 (some 43) (v := ?_) rfl rfl (by kernel_rfl) (by kernel_rfl) (by kernel_rfl) (fun _ _ _ h => h) (Or.inl ⟨by rfl, ?_⟩) hHeld ?_
  rotate_left
  · (intro w' hSw; clear hSw; go_simp; try with_reducible rfl)
  try simp only [Act.put, List.setIfInBounds_toArray, List.set_cons_zero, List.set_cons_succ]
  refine held_take 10 (some 12) (v := ?_) rfl rfl (by kernel_rfl) (by kernel_rfl) (by kernel_rfl) (fun _ _ _ h => h) (Or.inl ⟨by rfl, ?_⟩) hHeld ?_
  rotate_left
  · (intro w' hSw; clear hSw; go_simp; try with_reducible rfl)
  try simp only [Act.put, List.setIfInBounds_toArray, List.set_cons_zero, List.set_cons_succ]
  refine held_take 11 (some 13) (v := ?_) rfl rfl (by kernel_rfl) (by kernel_rfl) (by kernel_rfl) (fun _ _ _ h => h) (Or.inl ⟨by rfl, ?_⟩) hHeld ?_
  rotate_left
  · (intro w' hSw; clear hSw; go_simp; try with_reducible rfl)
  try simp only [Act.put, List.setIfInBounds_toArray, List.set_cons_zero, List.set_cons_succ]
  refine wpAnyH_done (by kernel_rfl) ?_ _
  --]5
  have HB23' := Lib.hid hHeld
  clear hHeld ha1 ha2 ha3 hb1' hb2' hb3'
  obtain ⟨w3, hw3⟩ : ∃ w3, w2.drew = w3 := ⟨_, rfl⟩
  rw [hw3] at HB23' ⊢
  have HB23 := HB23'
  clear hw3 HB23'
  have hs12 := HB2.out.size
  have hs23 := HB23.out.size
  have hs01 := HB1.out.size
  have HB3 := Lib.hid (show Below w.heap.size w w3 from (HB1.out.trans (HB2.out.mono hs01)).trans (HB23.out.mono (by omega)))
  have HCU := Lib.hid (cutter_any n hn w3)
  obtain ⟨ct, hct⟩ : ∃ ct, ctN n = ct := ⟨_, rfl⟩
  rw [hct] at HCU
  have HCT := Lib.hid (show ct.Ok ∧ ct.mx ≤ 93 from hct ▸ ⟨ctN_ok n hn, ctN_93 n hn⟩)
  have HCE := Lib.hid hct
  obtain ⟨xs, hxs⟩ : ∃ xs, a.take ma = xs := ⟨_, rfl⟩
  obtain ⟨ys, hys⟩ : ∃ ys, b.take mb = ys := ⟨_, rfl⟩
  have HXS := Lib.hid (show xs.length = ma ∧ Bytes xs ∧ Ints .u8 w A xs ∧ (A = none → ma = 0 ∧ ca = 0) ∧ ∀ ad, A = some ad → 0 < ma → ad.block < w.heap.size from by
    rw [← hxs]
    exact ⟨by rw [List.length_take, HA.out.1]; omega, HA.out.2.2.1.take _, HA.out.2.1.take _, fun e => by have := HA.out.2.2.2 e; omega, fun ad e h0 => HA.out.2.1.lt ad e (by rw [HA.out.1]; omega)⟩)
  have HYS := Lib.hid (show ys.length = mb ∧ Bytes ys ∧ Ints .u8 w B ys ∧ (B = none → mb = 0 ∧ cb = 0) ∧ ∀ ad, B = some ad → 0 < mb → ad.block < w.heap.size from by
    rw [← hys]
    exact ⟨by rw [List.length_take, HB.out.1]; omega, HB.out.2.2.1.take _, HB.out.2.1.take _, fun e => by have := HB.out.2.2.2 e; omega, fun ad e h0 => HB.out.2.1.lt ad e (by rw [HB.out.1]; omega)⟩)
  clear hxs hys hct
  have hca' : ma ≤ ca := by omega
  have hcb' : mb ≤ cb := by omega
  go_wp2_with fail
  refine HCU.out.mono ?_
  rintro e w4 ⟨rfl, hb4⟩
  have HB34 := Lib.hid hb4
  have HB4 := Lib.hid (HB3.out.trans (hb4.mono HB3.out.size))
  have HST := Lib.hid (stored_any ((HS2.out.below HB23.out).below hb4) ct HCT.out.1 HCT.out.2 A ma ca xs HXS.out.1 hca' HXS.out.2.1 (HXS.out.2.2.1.below HB4.out) HXS.out.2.2.2.1 (by omega) (b' := 5072) (by omega) (by decide) (by decide))
  unfold Ck.cutC at HST ⊢
  clear hb4 HCU
  go_wp2_with fail
  refine HST.out.mono ?_
  rintro e w5 ⟨v5, l, E1, rfl, ho5, hxf5, _, _, hc5, F5, hs5, hf5, hno5⟩
  obtain ⟨A5, c5, rfl⟩ := ownX_form ho5
  have HO5 := Lib.hid ho5
  have HXF := Lib.hid hxf5
  have HC5 := Lib.hid hc5
  have HS5 := Lib.hid hs5
  have HF5 := Lib.hid (And.intro hf5 hno5)
  obtain ⟨nl, hnl⟩ : ∃ nl, l.length = nl := ⟨_, rfl⟩
  rw [hnl]
  have HNL := Lib.hid hnl
  clear ho5 hxf5 hc5 hs5 hf5 hno5 hnl HST
  go_upto_region 7 with (fail)
  go_cut [59] from 52 to 58 (fun v59 w' => v59 = .bool false ∧ Chg F5 w5 w' ∧ ∃ F', Sto w' gs 120 E1 5440 F' ∧ ∀ x, F' x → (F5 x ∨ w5.heap.size ≤ x) ∧ x < w'.heap.size)
  case first =>
    have hr2 : (n : Int).tmod 2 = ((n % 2 : Nat) : Int) := (Int.ofNat_tmod n 2).symm
    by_cases hev : n % 2 = 0
    · rw [hev] at hr2
      have hr3 : (n : Int).tmod 2 = 0 := hr2
      clear hr2
      have HSE := Lib.hid (SSeal_any HS5.out (by decide) (by decide))
      go_wp2_with (go_at_call 11; refine HSE.out.mono ?_; rintro e w6 ⟨rfl, hc6, hs6⟩)
      go_meet
      case rel => exact ⟨rfl, hc6, _, hs6.bound, fun x hx => hx⟩
    · have h1 : n % 2 = 1 := by omega
      rw [h1] at hr2
      have hr3 : (n : Int).tmod 2 = 1 := hr2
      clear hr2
      go_wp2_with fail
      go_meet
      case rel => exact ⟨rfl, Chg.refl _ _, F5, HS5.out.more (by decide) (by decide) (by decide), fun x hx => ⟨.inl hx, (HF5.out.1 x hx).2⟩⟩
  case rest =>
    obtain ⟨rfl, hc6, F6, hs6, hf6⟩ := hcut
    have hs34 := HB34.out.size
    have hs45 := HC5.out.size
    have hs56 := hc6.size
    have hG5 : ∀ x, F5 x → w1.heap.size ≤ x ∧ x < w5.heap.size := fun x hx => by
      rcases (HF5.out.1 x hx).1 with h1 | h1
      · have := h1.1; exact ⟨this, (HF5.out.1 x hx).2⟩
      · exact ⟨by omega, (HF5.out.1 x hx).2⟩
    have hG6 : ∀ x, F6 x → w1.heap.size ≤ x ∧ x < wc.heap.size := fun x hx => by
      rcases (hf6 x hx).1 with h1 | h1
      · exact ⟨(hG5 x h1).1, (hf6 x hx).2⟩
      · exact ⟨by omega, (hf6 x hx).2⟩
    have hn6 : ∀ k, Value.ownBlock (.slice A5 l.length c5) = some k → ¬ F6 k := fun k hk hF => by
      rcases (hf6 k hF).1 with h1 | h1
      · exact HF5.out.2 k hk h1
      · have := (HO5.out.lt k hk).2; omega
    have HO6 := Lib.hid (own_chg HO5.out hc6 (fun k hk hF => HF5.out.2 k hk hF))
    have HB5 := Lib.hid (show Below w.heap.size w w5 from HB4.out.trans (HC5.out.below (B := w.heap.size) HB4.out.size (fun k hk => by have := hk.1; omega)))
    have HBC := Lib.hid (show Below w.heap.size w wc from HB5.out.trans (hc6.below (B := w.heap.size) HB5.out.size (fun k hk => by have := (hG5 k hk).1; omega)))
    have HG6 := Lib.hid hG6
    have HN6 := Lib.hid hn6
    have HS6 := Lib.hid hs6
    have HCU := Lib.hid (cutter_any n hn wc)
    rw [HCE.out] at HCU
    have HR6 := Lib.hid (show wc.heap[g7]? = some (.cells #[.int .u16 p0, .int .u16 p1] 41 (0, 0)) from by
      have h0 := row_lt HR2.out
      have hl1 : g7 < w1.heap.size := HG71.out
      exact (hc6.block g7 (by omega) (fun hF => by have := (hG5 g7 hF).1; omega)).trans ((HC5.out.block g7 (by omega) (fun hF => by have := hF.1; omega)).trans ((HB34.out.block g7 (by omega)).trans ((HB23.out.block g7 h0).trans HR2.out))))
    clear hc6 hs6 hf6 hG5 hG6 hn6
    go_wp2_with fail
    refine HCU.out.mono ?_
    rintro e w7 ⟨rfl, hb7⟩
    have HB67 := Lib.hid hb7
    have HB7 := Lib.hid (HBC.out.trans (hb7.mono HBC.out.size))
    have HST := Lib.hid (stored_any (HS6.out.below hb7) ct HCT.out.1 HCT.out.2 B mb cb ys HYS.out.1 hcb' HYS.out.2.1 (HYS.out.2.2.1.below HB7.out) HYS.out.2.2.2.1 (by omega) (b' := 10512) (by omega) (by decide) (by decide))
    unfold Ck.cutC at HST ⊢
    clear hb7 HCU
    go_wp2_with fail
    refine HST.out.mono ?_
    rintro e w8 ⟨v8, m, E2, rfl, ho8, hxf8, hsub8, _, hc8, F8, hs8, hf8, hno8⟩
    obtain ⟨A8, c8, rfl⟩ := ownX_form ho8
    have hs67 := HB67.out.size
    have hs78 := hc8.size
    have hs6w := HBC.out.size
    have HXF8 := Lib.hid hxf8
    have HXF5 := Lib.hid (HXF.out.mono hsub8)
    have HS8 := Lib.hid hs8
    have HO8 := Lib.hid ho8
    have HN8 := Lib.hid (And.intro hno8 (show ∀ k, Value.ownBlock (.slice A5 l.length c5) = some k → ¬ F8 k from fun k hk hF => by
      rcases (hf8 k hF).1 with h1 | h1
      · exact HN6.out k hk h1
      · have := (HO6.out.lt k hk).2; omega))
    have HO58 := Lib.hid (own_chg (own_chg (R := fun _ => False) HO6.out (Chg.belowAt HB67.out) (fun _ _ h => h)) hc8 (fun k hk hF => HN6.out k hk hF))
    have HG8 := Lib.hid (show ∀ x, F8 x → w1.heap.size ≤ x ∧ x < w8.heap.size from fun x hx => by
      rcases (hf8 x hx).1 with h1 | h1
      · exact ⟨(HG6.out x h1).1, (hf8 x hx).2⟩
      · exact ⟨by omega, (hf8 x hx).2⟩)
    have HB8 := Lib.hid (show Below w.heap.size w w8 from HB7.out.trans (hc8.below (B := w.heap.size) HB7.out.size (fun k hk => by have := (HG6.out k hk).1; omega)))
    have HR8 := Lib.hid ((hc8.block g7 (by have := row_lt HR6.out; omega) (fun hF => by have h1 := (HG6.out g7 hF).1; have hl1 : g7 < w1.heap.size := HG71.out; omega)).trans ((HB67.out.block g7 (row_lt HR6.out)).trans HR6.out))
    obtain ⟨nm, hnm⟩ : ∃ nm, m.length = nm := ⟨_, rfl⟩
    rw [hnm]
    have HNM := Lib.hid hnm
    clear ho8 hxf8 hsub8 hc8 hs8 hf8 hno8 hnm HST
    have hpx := pcs_count ct HCT.out.1 xs
    have hpy := pcs_count ct HCT.out.1 ys
    rw [HXS.out.1] at hpx
    rw [HYS.out.1] at hpy
    have hpa : ∀ z, ∀ p ∈ Ck.pcsR ct z, 1 ≤ p.length ∧ p.length ≤ 4096 := fun z p hp => by
      have := pcs_all ct HCT.out.1 z p hp
      have := HCT.out.2
      omega
    have HRX := Lib.hid (HXF5.out.right (hpa xs) (by omega))
    have HRM := Lib.hid (HXF8.out.right (hpa ys) (by omega))
    have hnl2 : nl ≤ 100 ∧ nm ≤ 100 := by have h1 := HXF5.out.1; have h2 := HXF8.out.1; have := HNL.out; have := HNM.out; omega
    have HLX := Lib.hid (show lenX l = ma by rw [HXF5.out.lenX, Ck.pcsR_flat _ HCT.out.1, HXS.out.1])
    have HLM := Lib.hid (show lenX m = mb by rw [HXF8.out.lenX, Ck.pcsR_flat _ HCT.out.1, HYS.out.1])
    have HTX := Lib.hid (Total_any A5 nl c5 l w8 HNL.out HRX.out (fun _ _ hi => ownR_range HO58.out hi))
    rw [HLX.out] at HTX
    have HTM := Lib.hid (fun (W : World) (hW : Below w8.heap.size w8 W) => Total_any A8 nm c8 m W HNM.out HRM.out (XAt.below (fun _ _ hi => ownR_range HO8.out hi) hW))
    rw [HLM.out] at HTM
    clear hpx hpy hpa
    go_wp2_with fail
    refine HTX.out.mono ?_
    rintro e w9 ⟨rfl, hb9⟩
    have HB9 := Lib.hid hb9
    have HTM9 := Lib.hid (HTM.out w9 hb9)
    clear hb9 HTX HTM
    go_wp2_with fail
    refine HTM9.out.mono ?_
    rintro e w10 ⟨rfl, hb10⟩
    have HB10 := Lib.hid (HB9.out.trans (hb10.mono HB9.out.size))
    have hw10 : Below w.heap.size w w10 := HB8.out.trans (HB10.out.mono HB8.out.size)
    have HW10 := Lib.hid hw10
    have hcx := run_conv_ints (P := Tryz.prog) (HXS.out.2.2.1.below hw10) 22 9 5 ma ca HXS.out.1 Tryz.underlying22 Tryz.underlying5 Tryz.underlying9
    have hcy := run_conv_ints (P := Tryz.prog) (HYS.out.2.2.1.below hw10) 22 9 5 mb cb HYS.out.1 Tryz.underlying22 Tryz.underlying5 Tryz.underlying9
    obtain ⟨s1, hs1⟩ : ∃ s1, strOfNums xs = s1 := ⟨_, rfl⟩
    obtain ⟨s2, hs2⟩ : ∃ s2, strOfNums ys = s2 := ⟨_, rfl⟩
    have hz1 : s1.size = ma := by rw [← hs1, strOfNums_size, HXS.out.1]
    have hz2 : s2.size = mb := by rw [← hs2, strOfNums_size, HYS.out.1]
    rw [hs1] at hcx
    rw [hs2] at hcy
    obtain ⟨S, hS⟩ : ∃ S, s1 ++ s2 = S := ⟨_, rfl⟩
    have HSS := Lib.hid (show S = strOfNums (xs ++ ys) by rw [← hS, ← hs1, ← hs2, strOfNums_append])
    have hzS : S.size = ma + mb := by rw [HSS.out, strOfNums_size, List.length_append, HXS.out.1, HYS.out.1]
    have HZS := Lib.hid hzS
    clear hb10 HTM9 hs1 hs2 hw10 hzS
    go_upto_region 13 with (fail)
    clear hcx hcy hz1 hz2
    have hra := heap_alloc_last w10 (.cells #[.slice A5 nl c5, .slice A8 nm c8] 33)
    have hb11 := (Below.refl w10.heap.size w10).alloc (Nat.le_refl _) (.cells #[.slice A5 nl c5, .slice A8 nm c8] 33)
    have hxs : XsAt (w10.alloc (.cells #[.slice A5 nl c5, .slice A8 nm c8] 33)) (some ⟨w10.heap.size, 0, none⟩) [l, m] := fun j l' hj => by
      match j, hj with
      | 0, hj =>
        simp at hj; subst hj
        exact ⟨_, A5, c5, rfl, by rw [HNL.out]; exact row_at (cs := [.slice A5 nl c5, .slice A8 nm c8]) hra rfl, XAt.below (XAt.below (fun _ _ hi => ownR_range HO58.out hi) HB10.out) hb11⟩
      | 1, hj =>
        simp at hj; subst hj
        exact ⟨_, A8, c8, rfl, by rw [HNM.out]; exact row_at (cs := [.slice A5 nl c5, .slice A8 nm c8]) hra rfl, XAt.below (XAt.below (fun _ _ hi => ownR_range HO8.out hi) HB10.out) hb11⟩
    have hRF : RightX (l ++ m) := ⟨by rw [List.length_append, HNL.out, HNM.out]; omega, fun r hr => (List.mem_append.1 hr).elim (HRX.out.all r) (HRM.out.all r)⟩
    have HRF := Lib.hid hRF
    have HJO := Lib.hid (Join_any (some ⟨w10.heap.size, 0, none⟩) 2 2 [l, m] _ rfl hxs (fun l' hl' => by
      rcases List.mem_cons.1 hl' with rfl | hl'
      · exact HRX.out
      · rw [List.mem_singleton.1 hl']; exact HRM.out) (by simpa using hRF) (fun r hr => by
        have hr' : r ∈ l ++ m := by simpa using hr
        rcases List.mem_append.1 hr' with h1 | h1
        · exact HXF5.out.zero r h1
        · exact HXF8.out.zero r h1) (by decide))
    rw [show [l, m].flatten = l ++ m by simp] at HJO
    have HB11 := Lib.hid (HB10.out.trans (hb11.mono HB10.out.size))
    clear hra hb11 hxs hRF
    go_wp2_with fail
    refine HJO.out.mono ?_
    rintro e w12 ⟨v12, rfl, ho12, hb12⟩
    obtain ⟨A12, c12, rfl⟩ := ownX_form ho12
    have HO12 := Lib.hid ho12
    have HB12 := Lib.hid (HB11.out.trans (hb12.mono HB11.out.size))
    have HL12 := Lib.hid (show ∀ k, Value.ownBlock (.slice A12 (l ++ m).length c12) = some k → w8.heap.size ≤ k from fun k hk => by have h1 := (ho12.lt k hk).1; have h2 := HB11.out.size; omega)
    obtain ⟨nj, hnj⟩ : ∃ nj, (l ++ m).length = nj := ⟨_, rfl⟩
    rw [hnj]
    have HNJ := Lib.hid hnj
    have hnj2 : nj ≤ 200 := by rw [← hnj, List.length_append, HNL.out, HNM.out]; omega
    clear ho12 hb12 hnj HJO
    obtain ⟨tot, htot⟩ : ∃ tot, ma + mb = tot := ⟨_, rfl⟩
    obtain ⟨off, hoff⟩ : ∃ off, p0 % (tot + 1) = off := ⟨_, rfl⟩
    have hzS : S.size = tot := by rw [HZS.out, htot]
    obtain ⟨tt, htt⟩ : ∃ tt, tot + 1 = tt := ⟨_, rfl⟩
    have hrem : (p0 : Int).tmod (tt : Int) = (off : Int) := by rw [← hoff, htt]; exact (Int.ofNat_tmod p0 tt).symm
    have hof : off ≤ tot := by have := Nat.mod_lt p0 (show 0 < tot + 1 by omega); omega
    have hne : ¬ tt = 0 := by omega
    have hto : tot ≤ 3000 := by omega
    have hwt : IntKind.i64.wrap ((tot : Int) + 1) = (tt : Int) := by rw [← htt]; simp [IntKind.wrap, IntKind.bits, IntKind.signed]; omega
    have hwp : IntKind.i64.wrap (p0 : Int) = (p0 : Int) := by simp [IntKind.wrap, IntKind.bits, IntKind.signed]; omega
    have HTOT := Lib.hid htot
    have hr14 := (HB12.out.block g7 (row_lt HR8.out)).trans HR8.out
    clear hoff htot htt
    go_upto_region 14 with (fail)
    have HP0 := Lib.hid (show w12.cell? ⟨g7, 0, none⟩ = some (.int .u16 p0) from by rw [cell_of_row _ _ _ _ _ _ hr14]; rfl)
    have HP1 := Lib.hid (show w12.cell? ⟨g7, 1, none⟩ = some (.int .u16 p1) from by rw [cell_of_row _ _ _ _ _ _ hr14]; rfl)
    have HL14 := Lib.hid (row_lt hr14)
    clear hr14
    --[14
    refine wp_region_held_drew (S := fun w' => Below w12.heap.size w12 w') (by kernel_rfl) ((Below.refl _ _).drew) (fun hHeld => ?_)
    refine held_take 0 (some 97) (v := ?_) rfl rfl (by kernel_rfl) (by kernel_rfl) (by kernel_rfl) (fun _ _ _ h => h) (Or.inl ⟨by rfl, ?_⟩) hHeld ?_
    rotate_left
    · (intro w' hSw; clear hSw; go_simp; try with_reducible rfl)
    try simp only [Act.put, List.setIfInBounds_toArray, List.set_cons_zero, List.set_cons_succ]
    refine held_take 1 (some 98) (v := ?_) rfl rfl (by kernel_rfl) (by kernel_rfl) (by kernel_rfl) (fun _ _ _ h => h) (Or.inl ⟨by rfl, ?_⟩) hHeld ?_
    rotate_left
    · (intro w' hSw; have pf := (hSw.cell (p := ⟨g7, 0, none⟩) HL14.out).trans HP0.out; clear hSw; go_simp; try with_reducible rfl)
    try simp only [Act.put, List.setIfInBounds_toArray, List.set_cons_zero, List.set_cons_succ]
    refine held_take 2 (some 99) (v := ?_) rfl rfl (by kernel_rfl) (by kernel_rfl) (by kernel_rfl) (fun _ _ _ h => h) (Or.inl ⟨by rfl, ?_⟩) hHeld ?_
    rotate_left
    · (intro w' hSw; clear hSw; go_simp; try with_reducible rfl)
    try simp only [Act.put, List.setIfInBounds_toArray, List.set_cons_zero, List.set_cons_succ]
    refine held_take 3 (some 100) (v := ?_) rfl rfl (by kernel_rfl) (by kernel_rfl) (by kernel_rfl) (fun _ _ _ h => h) (Or.inl ⟨by rfl, ?_⟩) hHeld ?_
    rotate_left
    · (intro w' hSw; clear hSw; go_simp; try with_reducible rfl)
    try simp only [Act.put, List.setIfInBounds_toArray, List.set_cons_zero, List.set_cons_succ]
    refine held_take 4 (some 101) (v := ?_) rfl rfl (by kernel_rfl) (by kernel_rfl) (by kernel_rfl) (fun _ _ _ h => h) (Or.inl ⟨by rfl, ?_⟩) hHeld ?_
    rotate_left
    · (intro w' hSw; clear hSw; go_simp; try with_reducible rfl)
    try simp only [Act.put, List.setIfInBounds_toArray, List.set_cons_zero, List.set_cons_succ]
    refine held_take 5 (some 102) (v := ?_) rfl rfl (by kernel_rfl) (by kernel_rfl) (by kernel_rfl) (fun _ _ _ h => h) (Or.inl ⟨by rfl, ?_⟩) hHeld ?_
    rotate_left
    · (intro w' hSw; clear hSw; go_simp; try with_reducible rfl)
    try simp only [Act.put, List.setIfInBounds_toArray, List.set_cons_zero, List.set_cons_succ]
    refine held_take 6 (some 103) (v := ?_) rfl rfl (by kernel_rfl) (by kernel_rfl) (by kernel_rfl) (fun _ _ _ h => h) (Or.inl ⟨by rfl, ?_⟩) hHeld ?_
    rotate_left
    · (intro w' hSw; clear hSw; go_simp; try with_reducible rfl)
    try simp only [Act.put, List.setIfInBounds_toArray, List.set_cons_zero, List.set_cons_succ]
    refine held_take 7 (some 104) (v := ?_) rfl rfl (by kernel_rfl) (by kernel_rfl) (by kernel_rfl) (fun _ _ _ h => h) (Or.inl ⟨by rfl, ?_⟩) hHeld ?_
    rotate_left
    · (intro w' hSw; clear hSw; go_simp; try with_reducible rfl)
    try simp only [Act.put, List.setIfInBounds_toArray, List.set_cons_zero, List.set_cons_succ]
    refine held_take 8 (some 105) (v := ?_) rfl rfl (by kernel_rfl) (by kernel_rfl) (by kernel_rfl) (fun _ _ _ h => h) (Or.inl ⟨by rfl, ?_⟩) hHeld ?_
    rotate_left
    · (intro w' hSw; have pf := (hSw.cell (p := ⟨g7, 1, none⟩) HL14.out).trans HP1.out; clear hSw; go_simp; try with_reducible rfl)
    try simp only [Act.put, List.setIfInBounds_toArray, List.set_cons_zero, List.set_cons_succ]
    refine held_take 9 (some 106) (v := ?_) rfl rfl (by kernel_rfl) (by kernel_rfl) (by kernel_rfl) (fun _ _ _ h => h) (Or.inl ⟨by rfl, ?_⟩) hHeld ?_
    rotate_left
    · (intro w' hSw; clear hSw; go_simp; try with_reducible rfl)
    try simp only [Act.put, List.setIfInBounds_toArray, List.set_cons_zero, List.set_cons_succ]
    refine held_take 10 (some 20) (v := ?_) rfl rfl (by kernel_rfl) (by kernel_rfl) (by kernel_rfl) (fun _ _ _ h => h) (Or.inl ⟨by rfl, ?_⟩) hHeld ?_
    rotate_left
    · (intro w' hSw; clear hSw; go_simp; try with_reducible rfl)
    try simp only [Act.put, List.setIfInBounds_toArray, List.set_cons_zero, List.set_cons_succ]
    refine held_take 11 (some 21) (v := ?_) rfl rfl (by kernel_rfl) (by kernel_rfl) (by kernel_rfl) (fun _ _ _ h => h) (Or.inl ⟨by rfl, ?_⟩) hHeld ?_
    rotate_left
    · (intro w' hSw; clear hSw; go_simp; try with_reducible rfl)
    try simp only [Act.put, List.setIfInBounds_toArray, List.set_cons_zero, List.set_cons_succ]
    refine wpAnyH_done (by kernel_rfl) ?_ _
    --]14
    have HB14' := Lib.hid hHeld
    clear hHeld hrem hne hwt hwp
    obtain ⟨w14, hw14⟩ : ∃ w14, w12.drew = w14 := ⟨_, rfl⟩
    rw [hw14] at HB14' ⊢
    have HB14 := HB14'
    clear hw14 HB14'
    obtain ⟨f, hf⟩ := HS8.out.fn
    have HFE := Lib.hid (show FeP E2 f (l ++ m) from (HXF5.out.fe hf (fun x hx => (HS8.out.ok hx).pos)).append (HXF8.out.fe hf (fun x hx => (HS8.out.ok hx).pos)))
    have HBY := Lib.hid (show (l ++ m).flatMap (bytX f) = xs ++ ys by rw [List.flatMap_append, XF.bytes hf HXF5.out, XF.bytes hf HXF8.out, Ck.pcsR_flat _ HCT.out.1, Ck.pcsR_flat _ HCT.out.1])
    have hs812 := HB12.out.size
    have hs1214 := HB14.out.size
    have HB814 := Lib.hid (HB12.out.trans (HB14.out.mono hs812))
    have HS14 := Lib.hid (HS8.out.below HB814.out)
    have HX14 := Lib.hid (show XAt w14 A12 (l ++ m) from HO12.out.at_.below HB14.out)
    have HNG := Lib.hid (show ∀ ad, A12 = some ad → ¬ F8 ad.block from fun ad e hF => by
      have h1 := HL12.out ad.block (by rw [e]; rfl)
      have h2 := (HG8.out _ hF).2
      omega)
    have HF1 := Lib.hid (fetched_any HS14.out A12 nj c12 (l ++ m) f HNJ.out (by omega) HX14.out (fun ad e _ => HNG.out ad e) HFE.out)
    rw [HBY.out, ← HSS.out] at HF1
    clear hf
    go_wp2_with fail
    refine HF1.out.mono ?_
    rintro e w15 ⟨rfl, hc15, hs15⟩
    have HC15 := Lib.hid hc15
    have HS15 := Lib.hid hs15.bound
    have HX15 := Lib.hid (HX14.out.chg hc15 (fun ad e _ => HNG.out ad e))
    have HSL := Lib.hid (Slice_any A12 nj c12 (l ++ m) off p1 w15 HNJ.out HX15.out HRF.out (by omega) (by omega))
    clear hc15 hs15 HF1
    go_wp2_with fail
    refine HSL.out.mono ?_
    rintro e w16 ⟨v16, rfl, ho16, hb16⟩
    obtain ⟨A16, c16, rfl⟩ := ownX_form ho16
    have hle := (sliceL_ok (l ++ m) off p1 HRF.out.all).2
    rw [HNJ.out] at hle
    have HF2 := Lib.hid (fetched_any (HS15.out.below hb16) A16 (sliceL (l ++ m) off p1).length c16 (sliceL (l ++ m) off p1) f rfl (by omega) ho16.at_ (fun ad e _ hF => by
      have h1 := (ho16.lt ad.block (by rw [e]; rfl)).1
      have h2 := hF.2
      omega) (HFE.out.slice off p1))
    rw [sliceL_bytes f _ _ _ HFE.out.lim, HBY.out] at HF2
    have HB16 := Lib.hid hb16
    obtain ⟨n16, hn16⟩ : ∃ n16, (sliceL (l ++ m) off p1).length = n16 := ⟨_, rfl⟩
    rw [hn16] at HF2 ⊢
    obtain ⟨Q, hQ⟩ : ∃ Q, strOfNums (((xs ++ ys).drop off).take p1) = Q := ⟨_, rfl⟩
    rw [hQ] at HF2
    have HQ := Lib.hid hQ
    clear hb16 ho16 HSL hn16 hle hQ
    go_wp2_with fail
    refine HF2.out.mono ?_
    rintro e w17 ⟨rfl, hc17, _⟩
    have HC17 := Lib.hid hc17
    clear hc17 HF2
    obtain ⟨op, hop⟩ : ∃ op, off + p1 = op := ⟨_, rfl⟩
    obtain ⟨hi2, hhi⟩ : ∃ hi2, min tot op = hi2 := ⟨_, rfl⟩
    have hwo : IntKind.i64.wrap ((off : Int) + (p1 : Int)) = (op : Int) := by simp [IntKind.wrap, IntKind.bits, IntKind.signed]; omega
    have hmn : min (tot : Int) (op : Int) = (hi2 : Int) := by omega
    have hh1 : (off : Int) ≤ (hi2 : Int) := by omega
    have hh2 : (hi2 : Int) ≤ (tot : Int) := by omega
    have hmt : (min (tot : Int) ((off : Int) + (p1 : Int))).toNat = hi2 := by omega
    have hex : S.extract off (min (tot : Int) ((off : Int) + (p1 : Int))).toNat = Q := by
      rw [hmt, ← HQ.out, HSS.out]
      have hl : (xs ++ ys).length = tot := by rw [List.length_append, HXS.out.1, HYS.out.1]; exact HTOT.out
      rw [str_extract, show ((xs ++ ys).drop off).take p1 = ((xs ++ ys).drop off).take (hi2 - off) from ?_]
      rcases Nat.le_total p1 (tot - off) with h1 | h1
      · rw [show hi2 - off = p1 by omega]
      · rw [List.take_of_length_le (by rw [List.length_drop]; omega), List.take_of_length_le (by rw [List.length_drop]; omega)]
    clear hop hhi hmt
    go_wp2_with fail
    go_ret
    refine ⟨rfl, ?_⟩
    · have b14 : Below w.heap.size w w14 := HB8.out.trans (HB814.out.mono HB8.out.size)
      have h1 := HB1.out.size
      have b15 := b14.trans (HC15.out.below (B := w.heap.size) b14.size (fun k hk => by have := (HG8.out k hk).1; omega))
      have b16 := b15.trans (HB16.out.mono b15.size)
      exact b16.trans (HC17.out.below (B := w.heap.size) b16.size (fun k hk => by
        rcases hk.1 with h | h
        · have := (HG8.out k h).1; omega
        · have := b14.size; omega))
end Go.Proofs.YtcklcffepedklaaGreat
