/- cellaragetop: TopShares, walked. -/
import Derived.Test.YtcklcffepedklaaGreatM39
namespace Go.Proofs.YtcklcffepedklaaGreat
open Go.RowKit Go.Maps

/-- Within TopShares' loop. -/
structure ShR (w8 w' : World) (gs gm : Nat) (F0 : Nat → Prop) (i : Nat) (E : List KD) (F : Nat → Prop) (D : List (List Int)) : Prop where
  sto : Sto w' gs 120 E (10144 * i) F
  fro : ∀ x, F x → F0 x ∨ w8.heap.size ≤ x
  map : MapAt strV StrOk w' gm (trueR D)
  nod : D.Nodup
  dat : ∀ y, y ∈ D ↔ y ∈ E.map (·.2)
  chg : Chg (fun x => F0 x ∨ x = gm) w8 w'
set_option maxRecDepth 20000 in
set_option maxHeartbeats 3200000 in
theorem Shares_law (A : Option Addr) (na ca : Nat) (a : List Int) (B : Option Addr) (nb cb : Nat) (b : List Int) (n : Nat) (w : World) (hna : a.length = na) (hca : na ≤ ca) (hIa : Ints .u8 w A a) (hBa : Bytes a) (hA : A = none → na = 0 ∧ ca = 0) (hnb : b.length = nb) (hcb : nb ≤ cb) (hIb : Ints .u8 w B b) (hBb : Bytes b) (hB : B = none → nb = 0 ∧ cb = 0) (hn : n < 256) :
    Calls Tryz.prog 3 #[.slice A na ca, .slice B nb cb, .int .u8 n] w fun e w' => e = .returned (.bool true) ∧ Below w.heap.size w w' := by
  have HHO := Lib.hid (holds_top w)
  have HA := Lib.hid (And.intro hna (And.intro hIa (And.intro hBa hA)))
  have HB := Lib.hid (And.intro hnb (And.intro hIb (And.intro hBb hB)))
  clear hna hIa hBa hA hnb hIb hBb hB
  go_enter Tryz.func3, Tryz.ntmps3
  go_wp2_with fail
  refine HHO.out.mono ?_
  rintro e w1 ⟨rfl, hb1⟩
  have HB1 := Lib.hid hb1
  have HMD := Lib.hid (made_any 120 n (by decide) (by decide) hn w1)
  clear hb1 HHO
  go_wp2_with fail
  refine HMD.out.mono ?_
  rintro e w2 ⟨gs, rfl, hs2, hb2⟩
  have HS2 := Lib.hid hs2.bound
  have HB2 := Lib.hid (HB1.out.trans (hb2.mono HB1.out.size))
  have hs12 := hb2.size
  have HCU := Lib.hid (cutter_any n hn w2)
  clear hs2 hb2 HMD
  go_wp2_with fail
  refine HCU.out.mono ?_
  rintro e w3 ⟨rfl, hb3⟩
  have HB3 := Lib.hid hb3
  have hs23 := hb3.size
  clear hb3 HCU
  unfold Ck.cutC
  obtain ⟨ct, hct⟩ : ∃ ct, ctN n = ct := ⟨_, rfl⟩
  rw [hct]
  have HCT := Lib.hid (show ct.Ok ∧ ct.mx ≤ 93 from hct ▸ ⟨ctN_ok n hn, ctN_93 n hn⟩)
  clear hct
  obtain ⟨ma, hma⟩ : ∃ ma, min na 1500 = ma := ⟨_, rfl⟩
  obtain ⟨mb, hmb⟩ : ∃ mb, min nb 1500 = mb := ⟨_, rfl⟩
  have ha1 : min (na : Int) 1500 = (ma : Int) := by omega
  have hb1' : min (nb : Int) 1500 = (mb : Int) := by omega
  have ha2 : (if (1500 : Int) < (na : Int) then (1500 : Int) else (na : Int)) = (ma : Int) := by split <;> omega
  have hb2' : (if (1500 : Int) < (nb : Int) then (1500 : Int) else (nb : Int)) = (mb : Int) := by split <;> omega
  have ha3 : (ma : Int) ≤ (ca : Int) := by omega
  have hb3' : (mb : Int) ≤ (cb : Int) := by omega
  have hma5 : ma ≤ 1500 ∧ ma ≤ na := by omega
  have hmb5 : mb ≤ 1500 ∧ mb ≤ nb := by omega
  clear hma hmb
  go_upto_region 6 with (fail)
  have hr4 := heap_alloc_last w3 (.cells #[.int .i64 ct.mn, .int .i64 ct.mx, .int .u32 ct.main, .int .u32 ct.back] 29)
  have hb4 := (Below.refl w3.heap.size w3).alloc (Nat.le_refl _) (.cells #[.int .i64 ct.mn, .int .i64 ct.mx, .int .u32 ct.main, .int .u32 ct.back] 29)
  obtain ⟨g10, hg10⟩ : ∃ g, w3.heap.size = g := ⟨_, rfl⟩
  rw [hg10] at hr4 ⊢
  generalize w3.alloc (.cells #[.int .i64 ct.mn, .int .i64 ct.mx, .int .u32 ct.main, .int .u32 ct.back] 29) = w4 at *
  have HR4 := Lib.hid hr4
  have HB4 := Lib.hid hb4
  have hs34 := hb4.size
  have hg10l := row_lt hr4
  clear hr4 hb4
  --[6
  refine wp_region_held_drew (S := fun w' => Below w4.heap.size w4 w') (by kernel_rfl) ((Below.refl _ _).drew) (fun hHeld => ?_)
  refine held_take 0 (some 30) (v := ?_) rfl rfl (by kernel_rfl) (by kernel_rfl) (by kernel_rfl) (fun _ _ _ h => h) (Or.inl ⟨by rfl, ?_⟩) hHeld ?_
  rotate_left
  · (intro w' hSw; clear hSw; go_simp; try with_reducible rfl)
  try simp only [Act.put, List.setIfInBounds_toArray, List.set_cons_zero, List.set_cons_succ]
  refine held_take 1 (some 31) (v := ?_) rfl rfl (by kernel_rfl) (by kernel_rfl) (by kernel_rfl) (fun _ _ _ h => h) (Or.inl ⟨by rfl, ?_⟩) hHeld ?_
  rotate_left
  · (intro w' hSw; clear hSw; go_simp; try with_reducible rfl)
  try simp only [Act.put, List.setIfInBounds_toArray, List.set_cons_zero, List.set_cons_succ]
  refine held_take 2 (some 32) (v := ?_) rfl rfl (by kernel_rfl) (by kernel_rfl) (by kernel_rfl) (fun _ _ _ h => h) (Or.inl ⟨by rfl, ?_⟩) hHeld ?_
  rotate_left
  · (intro w' hSw; clear hSw; go_simp; try with_reducible rfl)
  try simp only [Act.put, List.setIfInBounds_toArray, List.set_cons_zero, List.set_cons_succ]
  refine held_take 3 (some 33) (v := ?_) rfl rfl (by kernel_rfl) (by kernel_rfl) (by kernel_rfl) (fun _ _ _ h => h) (Or.inl ⟨by rfl, ?_⟩) hHeld ?_
  rotate_left
  · (intro w' hSw; clear hSw; go_simp; try with_reducible rfl)
  try simp only [Act.put, List.setIfInBounds_toArray, List.set_cons_zero, List.set_cons_succ]
  refine held_take 4 (some 34) (v := ?_) rfl rfl (by kernel_rfl) (by kernel_rfl) (by kernel_rfl) (fun _ _ _ h => h) (Or.inl ⟨by rfl, ?_⟩) hHeld ?_
  rotate_left
  · (intro w' hSw; clear hSw; go_simp; try with_reducible rfl)
  try simp only [Act.put, List.setIfInBounds_toArray, List.set_cons_zero, List.set_cons_succ]
  refine held_take 5 (some 35) (v := ?_) rfl rfl (by kernel_rfl) (by kernel_rfl) (by kernel_rfl) (fun _ _ _ h => h) (Or.inl ⟨by rfl, ?_⟩) hHeld ?_
  rotate_left
  · (intro w' hSw; clear hSw; go_simp; try with_reducible rfl)
  try simp only [Act.put, List.setIfInBounds_toArray, List.set_cons_zero, List.set_cons_succ]
  refine held_take 6 (some 36) (v := ?_) rfl rfl (by kernel_rfl) (by kernel_rfl) (by kernel_rfl) (fun _ _ _ h => h) (Or.inl ⟨by rfl, ?_⟩) hHeld ?_
  rotate_left
  · (intro w' hSw; clear hSw; go_simp; try with_reducible rfl)
  try simp only [Act.put, List.setIfInBounds_toArray, List.set_cons_zero, List.set_cons_succ]
  refine held_take 7 (some 37) (v := ?_) rfl rfl (by kernel_rfl) (by kernel_rfl) (by kernel_rfl) (fun _ _ _ h => h) (Or.inl ⟨by rfl, ?_⟩) hHeld ?_
  rotate_left
  · (intro w' hSw; clear hSw; go_simp; try with_reducible rfl)
  try simp only [Act.put, List.setIfInBounds_toArray, List.set_cons_zero, List.set_cons_succ]
  refine held_take 8 (some 38) (v := ?_) rfl rfl (by kernel_rfl) (by kernel_rfl) (by kernel_rfl) (fun _ _ _ h => h) (Or.inl ⟨by rfl, ?_⟩) hHeld ?_
  rotate_left
  · (intro w' hSw; clear hSw; go_simp; try with_reducible rfl)
  try simp only [Act.put, List.setIfInBounds_toArray, List.set_cons_zero, List.set_cons_succ]
  refine held_take 9 (some 39) (v := ?_) rfl rfl (by kernel_rfl) (by kernel_rfl) (by kernel_rfl) (fun _ _ _ h => h) (Or.inl ⟨by rfl, ?_⟩) hHeld ?_
  rotate_left
  · (intro w' hSw; clear hSw; go_simp; try with_reducible rfl)
  try simp only [Act.put, List.setIfInBounds_toArray, List.set_cons_zero, List.set_cons_succ]
  refine held_take 10 (some 11) (v := ?_) rfl rfl (by kernel_rfl) (by kernel_rfl) (by kernel_rfl) (fun _ _ _ h => h) (Or.inl ⟨by rfl, ?_⟩) hHeld ?_
  rotate_left
  · (intro w' hSw; clear hSw; go_simp; try with_reducible rfl)
  try simp only [Act.put, List.setIfInBounds_toArray, List.set_cons_zero, List.set_cons_succ]
  refine held_take 11 (some 12) (v := ?_) rfl rfl (by kernel_rfl) (by kernel_rfl) (by kernel_rfl) (fun _ _ _ h => h) (Or.inl ⟨by rfl, ?_⟩) hHeld ?_
  rotate_left
  · (intro w' hSw; clear hSw; go_simp; try with_reducible rfl)
  try simp only [Act.put, List.setIfInBounds_toArray, List.set_cons_zero, List.set_cons_succ]
  refine wpAnyH_done (by kernel_rfl) ?_ _
  --]6
  have HB5' := Lib.hid hHeld
  have hmk := run_make0 (P := Tryz.prog) Tryz.underlying31
  clear hHeld ha1 ha2 ha3 hb1' hb2' hb3'
  obtain ⟨w5, hw5⟩ : ∃ w5, w4.drew = w5 := ⟨_, rfl⟩
  have hs45 : w4.heap.size = w5.heap.size := by rw [← hw5]; rfl
  rw [hw5] at HB5' ⊢
  have HB5 := HB5'
  clear hw5 HB5'
  have HS45 := Lib.hid hs45
  clear hs45
  go_upto_region 8 with (fail)
  clear hmk
  have hs45 := HS45.out
  have hmp := MapAt.made (α := List Int) (enc := strV) (V := StrOk) w5
  have hb6 := (Below.refl w5.heap.size w5).alloc (Nat.le_refl _) (.map #[] 0)
  have hs56 : (w5.alloc (.map #[] 0)).heap.size = w5.heap.size + 1 := World.size_alloc _ _
  obtain ⟨gm, hgm⟩ : ∃ g, w5.heap.size = g := ⟨_, rfl⟩
  have hgm4 : w4.heap.size = gm := hs45.trans hgm
  rw [hgm] at hmp hs56
  try rw [hgm]
  try rw [hgm4]
  generalize w5.alloc (.map #[] 0) = w6 at *
  have HMP := Lib.hid hmp
  have HB46 := Lib.hid (show Below w4.heap.size w4 w6 from HB5.out.trans (hb6.mono (by omega)))
  have HB6 := Lib.hid (show Below w.heap.size w w6 from (((HB2.out.trans (HB3.out.mono (Nat.le_trans HB1.out.size hs12))).trans (HB4.out.mono (by have := HB1.out.size; omega))).trans (HB46.out.mono (by have := HB1.out.size; omega))))
  have HIa := Lib.hid ((HA.out.2.1.take ma).below HB6.out)
  have HIb := Lib.hid ((HB.out.2.1.take mb).below HB6.out)
  have HLa := Lib.hid (show (a.take ma).length = ma by rw [List.length_take, HA.out.1]; omega)
  have HLb := Lib.hid (show (b.take mb).length = mb by rw [List.length_take, HB.out.1]; omega)
  have HNa := Lib.hid (show A = none → ma = 0 ∧ ca = 0 from fun e => by have := HA.out.2.2.2 e; omega)
  have HNb := Lib.hid (show B = none → mb = 0 ∧ cb = 0 from fun e => by have := HB.out.2.2.2 e; omega)
  have HS6 := Lib.hid ((HS2.out.below HB3.out).below (HB4.out.trans (HB46.out.mono hs34)))
  have HSG := Lib.hid (And.intro hs56 (And.intro hs45 (And.intro hgm hgm4)))
  clear hmp hb6 hs56 hs45 hgm hgm4
  have HIb2 := Lib.hid (show Ints .u8 (w6.alloc (.cells #[] 5)) B (b.take mb) from HIb.out.below ((Below.refl _ _).alloc (Nat.le_refl _) _))
  have HLb2 := Lib.hid (show ((b.take mb).map (Value.int .u8)).length = mb * 1 by rw [List.length_map, HLb.out, Nat.mul_one])
  have HM1 := Lib.hid (show 0 + mb ≤ maxLen ∧ (0 + mb) * 1 ≤ 140737488355328 by unfold maxLen; omega)
  have HM1' := Lib.hid (show w6.heap.size ≤ (w6.alloc (.cells #[] 5)).heap.size by simp)
  have HPOST := Lib.hid (fun (v7 : Value) (w7 : World) (hown7 : w7.ownsRow w6.heap.size 5 1 v7 (0 + mb) ([] ++ (b.take mb).map (Value.int .u8))) (hgrow7 : (w6.alloc (.cells #[] 5)).grownBy w7 (Value.ownBlock (.slice (some ⟨w6.heap.size, 0, none⟩) 0 0))) =>
    show w7.ownsRow w6.heap.size 5 1 v7 mb ((b.take mb).map (Value.int .u8)) ∧ Below w6.heap.size w6 w7 ∧ Ints .u8 w7 A (a.take ma) ∧ w6.heap.size ≤ w7.heap.size from by
      rw [Nat.zero_add, List.nil_append] at hown7
      have hb67 : Below w6.heap.size w6 w7 := ((Below.refl _ _).alloc (Nat.le_refl _) (.cells #[] 5)).grown hgrow7 (by simp) (fun k hk => by simp [Value.ownBlock] at hk; omega)
      exact ⟨hown7, hb67, HIa.out.below hb67, hb67.size⟩)
  have HLa2 := Lib.hid (show ((a.take ma).map (Value.int .u8)).length = ma * 1 by rw [List.length_map, HLa.out, Nat.mul_one])
  have HM2 := Lib.hid (show mb + ma ≤ maxLen ∧ (mb + ma) * 1 ≤ 140737488355328 by unfold maxLen; omega)
  go_upto_region 9 with (first
    | (at_builtin; refine wpList_app EB rfl _ _ rfl w6.heap.size (.slice (some ⟨w6.heap.size, 0, none⟩) 0 0) 0 [] rfl (own_empty5 w6) B mb cb ((b.take mb).map (Value.int .u8)) rfl HNb.out HLb2.out HIb2.out.news (ints_one _ _) HM1.out.1 HM1.out.2 HM1'.out ?_; intro v7 w7 hown7 hgrow7 hat7; have HO7 := Lib.hid (HPOST.out v7 w7 hown7 hgrow7); clear hown7 hgrow7 hat7)
    | (at_builtin; refine wpList_app EB rfl _ _ rfl w6.heap.size _ mb ((b.take mb).map (Value.int .u8)) rfl HO7.out.1 A ma ca ((a.take ma).map (Value.int .u8)) rfl HNa.out HLa2.out HO7.out.2.2.1.news (ints_one _ _) HM2.out.1 HM2.out.2 HO7.out.2.2.2 ?_; intro v8 w8 hown8 hgrow8 hat8; obtain ⟨A8, c8, hv8, hc8, hn8⟩ := own_formA hown8; subst hv8; clear hat8))
  have hr9 := heap_alloc_last w8 (.cells #[.slice A ma ca, .slice A8 (mb + ma) c8, .slice A ma ca] 22)
  have hb9 := (Below.refl w8.heap.size w8).alloc (Nat.le_refl _) (.cells #[.slice A ma ca, .slice A8 (mb + ma) c8, .slice A ma ca] 22)
  obtain ⟨gr, hgr⟩ : ∃ g, w8.heap.size = g := ⟨_, rfl⟩
  rw [hgr] at hr9 ⊢
  generalize w8.alloc (.cells #[.slice A ma ca, .slice A8 (mb + ma) c8, .slice A ma ca] 22) = w9 at *
  have hb78 : Below w6.heap.size w6 w8 := (HO7.out.2.1).grown hgrow8 HO7.out.2.2.2 (fun k hk => (HO7.out.1.lt k hk).1)
  have hb69 : Below w6.heap.size w6 w9 := hb78.trans (hb9.mono hb78.size)
  obtain ⟨yx, hyx⟩ : ∃ yx, b.take mb ++ a.take ma = yx := ⟨_, rfl⟩
  have ho8 : OwnB w8 w6.heap.size (.slice A8 (mb + ma) c8) yx := by
    have h1 : yx.length = mb + ma := by rw [← hyx, List.length_append, HLa.out, HLb.out]
    rw [OwnB, h1, ← hyx, List.map_append]; exact hown8
  obtain ⟨F0, hF0⟩ : ∃ F0 : Nat → Prop, F0 = fun k => w1.heap.size ≤ k ∧ k < w2.heap.size := ⟨_, rfl⟩
  have hsg := HSG.out
  have hs1 := HB1.out.size
  have hs8 := hb78.size
  have hs9 := hb9.size
  have HTRI := Lib.hid (show ∀ i, i < 3 → ∃ X m c d, w9.cell? ⟨gr, i, none⟩ = some (.slice X m c) ∧ d.length = m ∧ m ≤ c ∧ Bytes d ∧ Ints .u8 w9 X d ∧ (X = none → m = 0 ∧ c = 0) ∧ m ≤ 3000 ∧ ∀ ad, X = some ad → 0 < m → ad.block < w9.heap.size ∧ ¬ (F0 ad.block ∨ ad.block = gm) from by
    have hA0 : ∃ X m c d, w9.cell? ⟨gr, 0, none⟩ = some (.slice X m c) ∧ w9.cell? ⟨gr, 2, none⟩ = some (.slice X m c) ∧ d.length = m ∧ m ≤ c ∧ Bytes d ∧ Ints .u8 w9 X d ∧ (X = none → m = 0 ∧ c = 0) ∧ m ≤ 3000 ∧ ∀ ad, X = some ad → 0 < m → ad.block < w9.heap.size ∧ ¬ (F0 ad.block ∨ ad.block = gm) := by
      refine ⟨A, ma, ca, a.take ma, by rw [cell_of_row _ _ _ _ _ _ hr9]; rfl, by rw [cell_of_row _ _ _ _ _ _ hr9]; rfl, HLa.out, by omega, HA.out.2.2.1.take _, HIa.out.below hb69, HNa.out, by omega, fun ad e h0 => ?_⟩
      have h1 := HA.out.2.1.lt ad e (by rw [HA.out.1]; omega)
      rw [hF0]
      omega
    obtain ⟨X, m, c, d, h0, h2, hh⟩ := hA0
    intro i hi
    match i, hi with
    | 0, _ => exact ⟨X, m, c, d, h0, hh⟩
    | 2, _ => exact ⟨X, m, c, d, h2, hh⟩
    | 1, _ =>
      refine ⟨A8, mb + ma, c8, yx, by rw [cell_of_row _ _ _ _ _ _ hr9]; rfl, by rw [← hyx, List.length_append, HLa.out, HLb.out], hc8, ?_, ?_, hn8, by omega, fun ad e h0 => ?_⟩
      · rw [← hyx]; exact (HB.out.2.2.1.take _).append (HA.out.2.2.1.take _)
      · obtain ⟨A', c', e', _, hI', _⟩ := ho8.ints
        injection e' with e1 _ _
        rw [e1]; exact hI'.below (by rw [hgr] at hb9; rw [hgr]; exact hb9)
      · have h1 := ho8.lt ad.block (by rw [e]; rfl)
        rw [hF0]
        omega)
  have HS9 := Lib.hid (show Sto w9 gs 120 [] 0 F0 from hF0 ▸ HS6.out.below hb69)
  have HM9 := Lib.hid (HMP.out.below hb69)
  have HR9 := Lib.hid (((HB46.out.trans (hb69.mono (by omega))).block g10 (by omega)).trans HR4.out)
  have HRR := Lib.hid hr9
  have HBW := Lib.hid (show Below w.heap.size w w9 from HB6.out.trans (hb69.mono HB6.out.size))
  have HSZ := Lib.hid (show w.heap.size ≤ w1.heap.size ∧ w1.heap.size ≤ w2.heap.size ∧ w2.heap.size ≤ g10 ∧ g10 < gm ∧ gm < gr ∧ gr < w9.heap.size from by have := row_lt hr9; omega)
  have HF0 := Lib.hid hF0
  clear hr9 hb9 hb78 hb69 ho8 hyx hF0 hsg hs8 hs9 hown8 hgrow8 hgr HO7 HPOST HIa HIb HIb2 HLb2 HLa2 HM1 HM1' HM2 HMP HS6 HS2 HB46 HR4 HB4 HB3
  go_loopg [50] 3 (fun kq v50 w' => ∃ (i : Nat) (E : List KD) (F : Nat → Prop) (D : List (List Int)), v50 = .int .i64 (i : Int) ∧ i + kq = 3 ∧ ShR w9 w' gs gm F0 i E F D)
  case atStart => exact ⟨0, [], F0, [], rfl, by omega, by simpa using HS9.out, fun x hx => .inl hx, HM9.out, List.nodup_nil, fun y => by simp, Chg.refl _ _⟩
  case round =>
    obtain ⟨i, E, F, D, rfl, hi, hr⟩ := hrel
    have HR := Lib.hid hr
    have hsr := hr.chg.size
    clear hr
    have HKEEP := Lib.hid (show ∀ x, w2.heap.size ≤ x → x < w9.heap.size → x ≠ gm → ¬ (F0 x ∨ x = gm) from fun x h1 h2 h3 h4 => by
      rcases h4 with h4 | h4
      · rw [HF0.out] at h4; have := h4.2; omega
      · exact h3 h4)
    have HNF := Lib.hid (show ∀ x, w2.heap.size ≤ x → x < w9.heap.size → ¬ F x from fun x h1 h2 h3 => by
      rcases HR.out.fro x h3 with h4 | h4
      · rw [HF0.out] at h4; have := h4.2; omega
      · omega)
    by_cases hlt : i < 3
    · obtain ⟨X, m, c, d, hc, hd, hmc, hBd, hId, hX, hm3, hXb⟩ := HTRI.out i hlt
      have hszs := HSZ.out
      have c50 : wr.cell? ⟨gr, i, none⟩ = some (.slice X m c) := (HR.out.chg.cell (p := ⟨gr, i, none⟩) hszs.2.2.2.2.2 (HKEEP.out gr (by omega) (by omega) (by omega))).trans hc
      have hrow10 := (HR.out.chg.block g10 (by omega) (HKEEP.out g10 (by omega) (by omega) (by omega))).trans HR9.out
      have d0 : wr.cell? ⟨g10, 0, none⟩ = some (.int .i64 ct.mn) := by rw [cell_of_row _ _ _ _ _ _ hrow10]; rfl
      have d1 : wr.cell? ⟨g10, 1, none⟩ = some (.int .i64 ct.mx) := by rw [cell_of_row _ _ _ _ _ _ hrow10]; rfl
      have d2 : wr.cell? ⟨g10, 2, none⟩ = some (.int .u32 ct.main) := by rw [cell_of_row _ _ _ _ _ _ hrow10]; rfl
      have d3 : wr.cell? ⟨g10, 3, none⟩ = some (.int .u32 ct.back) := by rw [cell_of_row _ _ _ _ _ _ hrow10]; rfl
      have hIr : Ints .u8 wr X d := hId.chg HR.out.chg (fun ad e h0 => (hXb ad e (by omega)).2)
      have HST := Lib.hid (stored_any HR.out.sto ct HCT.out.1 HCT.out.2 X m c d hd hmc hBd hIr hX hm3 (b' := 10144 * (i + 1)) (by omega) (by omega) (by omega))
      unfold Ck.cutC at HST
      have hi0 : (0 : Int) ≤ (i : Int) := by omega
      have hi1 : (i : Int) < 3 := by omega
      have HRW := Lib.hid hrow10
      have HD := Lib.hid (And.intro hd (And.intro hBd (And.intro hIr (And.intro hX hXb))))
      clear hc hd hBd hId hX hXb hrow10 hIr
      go_wp2_with fail
      refine HST.out.mono ?_
      rintro e w10 ⟨v10, l, E2, rfl, _, _, _, hdat, hc10, F2, hs10, hf10, _⟩
      have HNG := Lib.hid (show ∀ x, F2 x → (F x ∨ wr.heap.size ≤ x) ∧ x < w10.heap.size from hf10)
      have HS10 := Lib.hid hs10
      have HC10 := Lib.hid hc10
      have HDAT := Lib.hid hdat
      have hs1r := hc10.size
      have hrow10 := (hc10.block g10 (by omega) (HNF.out g10 (by omega) (by omega))).trans HRW.out
      have d0 : w10.cell? ⟨g10, 0, none⟩ = some (.int .i64 ct.mn) := by rw [cell_of_row _ _ _ _ _ _ hrow10]; rfl
      have d1 : w10.cell? ⟨g10, 1, none⟩ = some (.int .i64 ct.mx) := by rw [cell_of_row _ _ _ _ _ _ hrow10]; rfl
      have d2 : w10.cell? ⟨g10, 2, none⟩ = some (.int .u32 ct.main) := by rw [cell_of_row _ _ _ _ _ _ hrow10]; rfl
      have d3 : w10.cell? ⟨g10, 3, none⟩ = some (.int .u32 ct.back) := by rw [cell_of_row _ _ _ _ _ _ hrow10]; rfl
      have hI10 : Ints .u8 w10 X d := HD.out.2.2.1.chg hc10 (fun ad e h0 hF => by
        have h1 := HD.out.2.2.2.2 ad e (by have := HD.out.1; omega)
        rcases HR.out.fro ad.block hF with h2 | h2
        · exact h1.2 (.inl h2)
        · omega)
      have HAL := Lib.hid (Ck.All_yes ct HCT.out.1 d X m c w10 HD.out.1 hmc hI10 HD.out.2.1 HD.out.2.2.2.1 (by omega))
      unfold Ck.cutC at HAL
      have HPA := Lib.hid (pcs_all ct HCT.out.1 d)
      have hcnt := pcs_count ct HCT.out.1 d
      obtain ⟨L, hL⟩ : ∃ L, Ck.pcsR ct d = L := ⟨_, rfl⟩
      rw [hL] at HAL HPA HDAT hcnt
      rw [HD.out.1] at hcnt
      clear hrow10 hI10 hL hs10 hf10 hc10 hdat HST c50
      go_wp2_with fail
      refine HAL.out.mono ?_
      rintro e w11 ⟨v11, rfl, hb11, hrows⟩
      obtain ⟨A11, c11, rfl, _, _, hA11, _⟩ := hrows.rows
      have hs11 := hb11.size
      have hM11 : MapAt strV StrOk w11 gm (trueR D) := (HR.out.map.chg HC10.out (HNF.out gm (by omega) (by omega))).below hb11
      have HM11 := Lib.hid hM11
      have HRO := Lib.hid hrows
      have HLT := Lib.hid (show ∀ k, Value.ownBlock (.slice A11 L.length c11) = some k → w10.heap.size ≤ k from fun k hk => by obtain ⟨vals, ho, _⟩ := hrows; exact (ho.lt k hk).1)
      have HS11 := Lib.hid (HS10.out.below hb11)
      have HB11 := Lib.hid hb11
      have HA11 := Lib.hid hA11
      obtain ⟨cn, hcn⟩ : ∃ cn, L.length = cn := ⟨_, rfl⟩
      rw [hcn] at hcnt ⊢
      have HCN := Lib.hid hcn
      clear hb11 hrows hA11 hM11 hcn HAL
      go_upto_region 15 with (fail)
      go_loopg [67] cn (fun kq v67 w' => ∃ (j : Nat) (D' : List (List Int)), v67 = .int .i64 (j : Int) ∧ j + kq = cn ∧ MapAt strV StrOk w' gm (trueR D') ∧ D'.Nodup ∧ (∀ y, y ∈ D' ↔ y ∈ D ∨ y ∈ L.take j) ∧ Chg (fun x => x = gm) w11 w')
      case atStart => exact ⟨0, D, rfl, by omega, HM11.out, HR.out.nod, fun y => by simp, Chg.refl _ _⟩
      case round =>
        obtain ⟨j, D', rfl, hj, hm, hnd, hdt, hc⟩ := hrel
        have HM := Lib.hid hm
        have HND := Lib.hid hnd
        have HDT := Lib.hid hdt
        have HC := Lib.hid hc
        by_cases hlj : j < cn
        · obtain ⟨p, hp⟩ : ∃ p, L[j]? = some p := ⟨_, List.getElem?_eq_getElem (by have := HCN.out; omega)⟩
          have hzz := HSZ.out
          have hz2 := HC10.out.size
          have hz3 := HR.out.chg.size
          have hnr := newRows_chg HRO.out hc (fun k hk e => by
            have h2 := HLT.out k hk
            have e' : k = gm := e
            omega) (fun k hk e => by have h2 := hk.1; have e' : k = gm := e; omega)
          obtain ⟨gp, Y, cy, rfl, hcy, hly, hIy, hBy, _⟩ := newRows_get hnr hp
          have hpl := HPA.out p (List.mem_of_getElem? hp)
          have hstr : StrOk p := ⟨hBy, by have := HCT.out.2; omega⟩
          obtain ⟨my, hmy⟩ : ∃ my, p.length = my := ⟨_, rfl⟩
          have hcv := run_conv_ints (P := Tryz.prog) hIy 22 9 5 my cy hmy Tryz.underlying22 Tryz.underlying5 Tryz.underlying9
          rw [hmy] at hcy
          obtain ⟨wz, hrun, hgz, hmz, hsz⟩ := run_upd keyStr Tryz.underlying31 hm p hstr (.bool true)
          rw [upd_trueR D' p hnd] at hmz
          have HRUN := Lib.hid hrun
          have HGZ := Lib.hid hgz
          have HMZ := Lib.hid hmz
          have HPT := Lib.hid (show L.take (j + 1) = L.take j ++ [p] by rw [List.take_add_one, hp]; rfl)
          have hj0 : (0 : Int) ≤ (j : Int) := by omega
          have hj1 : (j : Int) < (cn : Int) := by omega
          unfold strV at HRUN
          obtain ⟨sp, hsp⟩ : ∃ sp, strOfNums p = sp := ⟨_, rfl⟩
          rw [hsp] at hcv HRUN
          clear hzz hz2 hz3
          clear hp hnr hly hIy hBy hpl hstr hmy hrun hgz hmz hsp hm hnd hdt hc hsz
          go_wp2_with (at_mapUpdate; refine wpList_upd rfl _ _ _ _ rfl _ _ _ rfl rfl rfl HRUN.out ?_)
          go_roundg (cn - (j + 1))
          case measure => omega
          case rel =>
            refine ⟨j + 1, _, by go_num, by omega, HMZ.out, ?_, fun y => ?_, HC.out.trans2 (Chg.of HGZ.out) (fun x _ e => by injection e)⟩
            · by_cases h : p ∈ D'
              · rw [if_pos h]; exact HND.out
              · rw [if_neg h, List.nodup_append]
                refine ⟨HND.out, by simp, fun a ha b hb => ?_⟩
                simp at hb
                rintro rfl
                rw [hb] at ha; exact h ha
            · rw [HPT.out, List.mem_append, List.mem_singleton]
              have h1 := HDT.out y
              by_cases h : p ∈ D'
              · rw [if_pos h, h1]
                constructor
                · rintro (h2 | h2)
                  · exact .inl h2
                  · exact .inr (.inl h2)
                · rintro (h2 | h2 | h2)
                  · exact .inl h2
                  · exact .inr h2
                  · subst h2; exact h1.1 h
              · rw [if_neg h, List.mem_append, List.mem_singleton, h1]
                constructor
                · rintro ((h2 | h2) | h2)
                  · exact .inl h2
                  · exact .inr (.inl h2)
                  · exact .inr (.inr h2)
                · rintro (h2 | h2 | h2)
                  · exact .inl (.inl h2)
                  · exact .inl (.inr h2)
                  · exact .inr h2
        · obtain rfl : j = cn := by omega
          have hLt : L.take j = L := List.take_of_length_le (Nat.le_of_eq HCN.out)
          rw [hLt] at hdt
          have hng : ¬ F2 gm := fun hF => by
            have hszs := HSZ.out
            rcases (HNG.out gm hF).1 with h1 | h1
            · exact HNF.out gm (by omega) (by omega) h1
            · omega
          have hsW := HS11.out.kept (F' := F2) hc (fun x _ hx e => hng (by rw [← e]; exact hx)) (fun _ _ h => h)
          have HSW := Lib.hid hsW
          have HALL := Lib.hid (SAll_any hsW)
          have hlen : E2.length = D'.length := by
            have h1 := len_same hnd hsW.nodup (fun y => by
              rw [hdt, HDAT.out, HR.out.dat])
            rw [List.length_map] at h1
            exact h1.symm
          have hE2 := hsW.num
          obtain ⟨nE, hnE⟩ : ∃ nE, E2.length = nE := ⟨_, rfl⟩
          rw [hnE] at HALL hE2
          have HML := Lib.hid (fun (W : World) (hW : Below wr.heap.size wr W) ty => by
            have := mapAt_len (hm.below hW) ty
            rw [← hlen, hnE] at this
            exact this)
          have HDT2 := Lib.hid hdt
          clear hm hnd hdt hc hsW hlen hnE hng hLt
          go_wp2_with fail
          refine HALL.out.mono ?_
          rintro e w13 ⟨A13, c13, rfl, hb13⟩
          have HB13 := Lib.hid hb13
          have hml := HML.out w13 hb13
          clear hb13 HALL HML
          go_wp2_with fail
          go_roundg (3 - (i + 1))
          case measure => omega
          case rel =>
            have hszs := HSZ.out
            have hz3 := HR.out.chg.size
            refine ⟨i + 1, E2, F2, D', by go_num, by omega, HSW.out.below HB13.out, fun x hx => ?_, HM.out.below HB13.out, HND.out, fun y => by rw [HDT2.out, HDAT.out, HR.out.dat], ?_⟩
            · rcases (HNG.out x hx).1 with h1 | h1
              · exact HR.out.fro x h1
              · exact .inr (by omega)
            · refine ((((HR.out.chg.trans2 HC10.out (fun x hx e => ?_)).trans (Chg.belowAt HB11.out)).trans2 HC.out (fun x _ e => .inr e))).trans (Chg.belowAt HB13.out)
              rcases HR.out.fro x e with h1 | h1
              · exact .inl h1
              · omega
    · obtain rfl : i = 3 := by omega
      clear hlt
      go_wp2_with fail
      go_ret
      refine ⟨rfl, HBW.out.trans ((HR.out.chg.below (B := w.heap.size) (by have := HSZ.out; omega) (fun k hk => by
        have := HSZ.out
        rcases hk with hk | hk
        · rw [HF0.out] at hk; have := hk.1; omega
        · omega)))⟩
end Go.Proofs.YtcklcffepedklaaGreat
