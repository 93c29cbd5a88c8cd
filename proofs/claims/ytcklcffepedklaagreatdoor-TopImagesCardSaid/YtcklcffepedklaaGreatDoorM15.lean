/- Texts of the proof, one behind the other: names: renamable. names: Rename. names: Rename, whole. names: Snap. Keys of chunks. -/
import Derived.Test.YtcklcffepedklaaGreatDoorM14
import Derived.Test.YtcklcffepedklaaGreatDoorM13
namespace Go.Proofs.YtcklcffepedklaaGreatDoor
open Go.RowKit Go.Maps

/-- What is so where a path may be given to another one's thing. -/
structure RnOk (N : List PR) (s d : BA) (a t : List L8) : Prop where
  pa : pNames s.data.toList = some a
  na : a ≠ []
  pt : pNames d.data.toList = some t
  nt : t ≠ []
  has : (getP s N).isSome = true
  notin : ¬ a <+: t
  up : paE N t = 0
  nodir : getP d N ≠ some dV
theorem soE_zero {root : Int} (hr : root ≠ 0) {P : Option (List L8)} (h : soE root P = 0) : ∃ l, P = some l ∧ l ≠ [] := by
  cases P with
  | none => cases h
  | some l => exact ⟨l, rfl, fun e => by rw [e] at h; exact hr h⟩
theorem soE_val (P : Option (List L8)) : soE 191 P = 170 ∨ soE 191 P = 191 ∨ soE 191 P = 0 := by
  cases P with
  | none => exact .inl rfl
  | some l =>
    by_cases h : l = []
    · exact .inr (.inl (by simp [soE, h]))
    · exact .inr (.inr (by simp [soE, h]))
theorem kd_cases (o : Option BA) : (o = none ∧ kd o = ⟨#[]⟩) ∨ (o = some dV ∧ kd o = dV) ∨ (∃ v, o = some v ∧ v ≠ dV ∧ kd o = fV) := by
  cases o with
  | none => exact .inl ⟨rfl, rfl⟩
  | some v =>
    by_cases h : v = dV
    · exact .inr (.inl ⟨by rw [h], by rw [kd, if_pos h]⟩)
    · exact .inr (.inr ⟨v, rfl, h, by rw [kd, if_neg h]⟩)
set_option maxRecDepth 20000 in
set_option maxHeartbeats 1600000 in
theorem renamable_any {FB : BA → Prop} {w : World} {gn gm : Nat} {N : List PR} (HF : FOk FB) (hV : Val FB N) (h : Nm w gn gm N) (s d : BA) (hE : Env w) (hs : s.size ≤ 1000000) (hd : d.size ≤ 1000000) :
    Calls Tryz.prog 52 #[.pointer (some ⟨gn, 0, none⟩), .string s, .string d] w fun e w' => ∃ c b, e = .returned (.tuple #[.int .i64 c, .bool b]) ∧ Below w.heap.size w w' ∧ (c = 0 → b = false → ∃ a t, RnOk N s d a t) := by
  have HS1 := Lib.hid (sound_any (gn := gn) s 191 hE hs)
  have HS2 := Lib.hid (fun W (hb : Below w.heap.size w W) => sound_any (gn := gn) (w := W) d 191 (hE.below hb) hd)
  have HK1 := Lib.hid (fun W (hb : Below w.heap.size w W) hk => kind_any HF hV (h.below hb) s hk)
  have HK2 := Lib.hid (fun W (hb : Below w.heap.size w W) hk => kind_any HF hV (h.below hb) d hk)
  have HWI := Lib.hid (fun W (hb : Below w.heap.size w W) a t hp1 hn1 hp2 hn2 => Within_any d s t a W (hE.below hb) hd hs hp1 hn1 hp2 hn2)
  have HPA := Lib.hid (fun W (hb : Below w.heap.size w W) t hp hn => parent_any HF hV (h.below hb) d t (hE.below hb) hd hp hn)
  have HR1 := Lib.hid (@pNames_root s)
  have HR2 := Lib.hid (@pNames_root d)
  obtain ⟨P, hP⟩ : ∃ P, pNames s.data.toList = P := ⟨_, rfl⟩
  obtain ⟨Q, hQ⟩ : ∃ Q, pNames d.data.toList = Q := ⟨_, rfl⟩
  rw [hP] at HS1 HR1
  rw [hQ] at HS2 HR2
  have HPQ := Lib.hid (And.intro hP hQ)
  obtain ⟨so, hso⟩ : ∃ so, soE 191 P = so := ⟨_, rfl⟩
  obtain ⟨sq, hsq⟩ : ∃ sq, soE 191 Q = sq := ⟨_, rfl⟩
  rw [hso] at HS1
  rw [hsq] at HS2
  have h1 := soE_val P
  have h2 := soE_val Q
  rw [hso] at h1
  rw [hsq] at h2
  have HSO := Lib.hid (And.intro hso hsq)
  clear HF hV h hE hs hd hP hQ hso hsq
  go_enter Tryz.func52, Tryz.ntmps52
  go_wp2_with fail
  refine HS1.out.mono ?_
  rintro e w1 ⟨rfl, hb1⟩
  have HB1 := Lib.hid hb1
  clear hb1
  go_wp2_with fail
  refine (HS2.out w1 HB1.out).mono ?_
  rintro e w2 ⟨rfl, hb2⟩
  have HB2 := Lib.hid (HB1.out.trans (hb2.mono HB1.out.size))
  clear hb2 HS1 HS2
  by_cases hz : so = 0 ∧ sq = 0
  rotate_left
  · have hnz : ∀ c b, (c : Int) ≠ 0 → (c = 0 → b = false → ∃ a t, RnOk N s d a t) := fun c b hc h0 => absurd h0 hc
    rcases h1 with rfl | rfl | rfl <;> rcases h2 with rfl | rfl | rfl
    all_goals first
      | exact absurd ⟨rfl, rfl⟩ hz
      | (clear hz hnz
         go_wp2_with fail
         go_ret2
         exact ⟨_, _, rfl, HB2.out, fun h0 => by cases h0⟩)
  obtain ⟨rfl, rfl⟩ := hz
  obtain ⟨a, hPa, hna⟩ := soE_zero (by decide) HSO.out.1
  obtain ⟨t, hQt, hnt⟩ := soE_zero (by decide) HSO.out.2
  have hs1 : s ≠ ⟨#[47]⟩ := fun e => hna (by have := HR1.out.2 e; rw [hPa] at this; injection this)
  have hd1 : d ≠ ⟨#[47]⟩ := fun e => hnt (by have := HR2.out.2 e; rw [hQt] at this; injection this)
  have HSK := Lib.hid (And.intro hs1 hd1)
  have HAT := Lib.hid (And.intro (HPQ.out.1.trans hPa) (And.intro hna (And.intro (HPQ.out.2.trans hQt) hnt)))
  clear h1 h2 hPa hna hQt hnt hs1 hd1
  go_wp2_with fail
  refine (HK1.out w2 HB2.out HSK.out.1).mono ?_
  rintro e w3 ⟨rfl, rfl⟩
  have hkd := kd_cases (getP s N)
  obtain ⟨y, hy⟩ : ∃ y, kd (getP s N) = y := ⟨_, rfl⟩
  rw [hy] at hkd ⊢
  by_cases hy0 : y = ⟨#[]⟩
  · subst hy0
    clear hkd hy
    go_wp2_with fail
    go_ret2
    exact ⟨_, _, rfl, HB2.out, fun h0 => by cases h0⟩
  have hemp : y.toList.isEmpty = false := by
    have h9 := str_ne hy0
    rw [Lib.toList_data, show (⟨#[]⟩ : BA).toList = [] from by rw [Lib.toList_data]] at h9
    rw [Lib.toList_data]
    cases hh : y.data.toList with
    | nil => rw [hh] at h9; simp at h9
    | cons a b => rfl
  have hisS : (getP s N).isSome = true := by
    rcases hkd with ⟨_, hk⟩ | ⟨hk, _⟩ | ⟨v, hk, _⟩
    · exact absurd hk hy0
    · rw [hk]; rfl
    · rw [hk]; rfl
  have HY := Lib.hid (And.intro hisS (And.intro hkd hy))
  clear hkd hy hy0 hisS
  by_cases hsd : s = d
  · have hse : (s.toList == d.toList) = true := by rw [hsd]; simp
    clear hsd
    go_wp2_with fail
    go_ret2
    exact ⟨_, _, rfl, HB2.out, fun _ h0 => by cases h0⟩
  have hse := str_ne hsd
  clear hsd
  go_wp2_with fail
  refine (HWI.out w2 HB2.out a t HAT.out.2.2.1 HAT.out.2.2.2 HAT.out.1 HAT.out.2.1).mono ?_
  rintro e w3 ⟨rfl, hb3⟩
  have HB3 := Lib.hid (HB2.out.trans (hb3.mono HB2.out.size))
  obtain ⟨wi, hwi⟩ : ∃ wi, decide (a <+: t) = wi := ⟨_, rfl⟩
  rw [hwi]
  have HWW := Lib.hid hwi
  clear hb3 hwi
  cases wi with
  | true =>
    go_wp2_with fail
    go_ret2
    exact ⟨_, _, rfl, HB3.out, fun h0 => by cases h0⟩
  | false =>
    go_wp2_with fail
    refine (HPA.out w3 HB3.out t HAT.out.2.2.1 HAT.out.2.2.2).mono ?_
    rintro e w4 ⟨rfl, hb4⟩
    have HB4 := Lib.hid (HB3.out.trans (hb4.mono HB3.out.size))
    obtain ⟨pa, hpa⟩ : ∃ pa, paE N t = pa := ⟨_, rfl⟩
    rw [hpa]
    have HPE := Lib.hid hpa
    clear hb4 hpa
    by_cases hp0 : pa = 0
    rotate_left
    · have HP0 := Lib.hid hp0
      go_wp2_with fail
      go_ret2
      exact ⟨_, _, rfl, HB4.out, fun h0 => absurd h0 HP0.out⟩
    subst hp0
    go_wp2_with fail
    refine (HK2.out w4 HB4.out HSK.out.2).mono ?_
    rintro e w5 ⟨rfl, rfl⟩
    have hkq := kd_cases (getP d N)
    obtain ⟨z, hz⟩ : ∃ z, kd (getP d N) = z := ⟨_, rfl⟩
    rw [hz] at hkq ⊢
    have hfin : getP d N ≠ some dV → ∃ a t, RnOk N s d a t := fun hn => ⟨a, t, HAT.out.1, HAT.out.2.1, HAT.out.2.2.1, HAT.out.2.2.2, HY.out.1, by simpa using HWW.out, HPE.out, hn⟩
    rcases hkq with ⟨hq, rfl⟩ | ⟨hq, rfl⟩ | ⟨v, hq, hv, rfl⟩
    · have HFIN := Lib.hid (hfin (by rw [hq]; simp))
      clear hfin hq hz
      go_wp2_with fail
      go_ret2
      exact ⟨_, _, rfl, HB4.out, fun _ _ => HFIN.out⟩
    · clear hfin hq hz
      unfold dV
      go_wp2_with fail
      go_ret2
      exact ⟨_, _, rfl, HB4.out, fun h0 => by cases h0⟩
    · have HFIN := Lib.hid (hfin (by rw [hq]; intro e; injection e with e; exact hv e))
      clear hfin hq hz hv
      unfold fV
      go_wp2_with fail
      refine (HK1.out w4 HB4.out HSK.out.1).mono ?_
      rintro e w5 ⟨rfl, rfl⟩
      rw [HY.out.2.2]
      have hkd := HY.out.2.1
      rcases hkd with ⟨_, hk⟩ | ⟨_, hk⟩ | ⟨v, _, _, hk⟩
      · rw [hk, Lib.toList_data] at hemp; exact absurd hemp (by decide)
      · rw [hk]
        clear hk
        unfold dV
        go_wp2_with fail
        go_ret2
        exact ⟨_, _, rfl, HB4.out, fun h0 => by cases h0⟩
      · rw [hk]
        clear hk
        unfold fV
        go_wp2_with fail
        go_ret2
        exact ⟨_, _, rfl, HB4.out, fun _ _ => HFIN.out⟩
end Go.Proofs.YtcklcffepedklaaGreatDoor

namespace Go.Proofs.YtcklcffepedklaaGreatDoor
open Go.RowKit Go.Maps

/-- The pairs that were told, in a captured slice. -/
structure RnJ (wb : World) (ho : Nat) (acc : List PR) (F : Nat → Prop) (W : World) : Prop where
  base : wb.heap.size ≤ ho
  ex : ∃ A c, W.heap[ho]? = some (.cells #[.slice A acc.length c] 107 (0, 0)) ∧ OwnPr W wb.heap.size (.slice A acc.length c) acc ∧ ∀ x, F x ↔ x = ho ∨ Value.ownBlock (.slice A acc.length c) = some x
theorem own_less {w : World} {b : Nat} {e : TypeId} {s n : Nat} {v : Value} {xs : List Value} (h : w.ownsRow b e s v n xs) (hb : b ≤ w.heap.size) : True := trivial
set_option maxRecDepth 20000 in
set_option maxHeartbeats 800000 in
theorem Rn1_any (wb : World) (ho : Nat) (acc : List PR) (F : Nat → Prop) (W : World) (k v : BA) (hj : RnJ wb ho acc F W) (hm : acc.length < 1000000) :
    Calls Tryz.prog 54 #[.agg #[.string k, .string v], .pointer (some ⟨ho, 0, none⟩)] W fun e W' => e = .returned (.bool true) ∧ ∃ F', RnJ wb ho (acc ++ [(k, v)]) F' W' ∧ Chg F W W' ∧ ∀ x, F' x → F x ∨ W.heap.size ≤ x := by
  obtain ⟨A, c, h1, h2, h3⟩ := hj.ex
  obtain ⟨l, hl⟩ : ∃ l, acc.length = l := ⟨_, rfl⟩
  have h2' : W.ownsRow wb.heap.size 97 2 (.slice A acc.length c) acc.length (flatPr acc) := h2
  rw [hl] at h1 h2' h3 hm
  have hne : ¬ Value.ownBlock (.slice A l c) = some ho := fun e => own_ne h2' e h1 (by decide)
  have hb := (Below.refl W.heap.size W).alloc (Nat.le_refl _) (.cells #[.string k, .string v] 97)
  have hr1 := heap_alloc_last W (.cells #[.string k, .string v] 97)
  have hs1 := World.size_alloc W (.cells #[.string k, .string v] 97)
  have ho1 := own_chg (R := fun _ => False) h2' (Chg.belowAt hb) (fun _ _ h => h)
  have hrow1 := (hb.block ho (row_lt h1)).trans h1
  obtain ⟨W1, hW1⟩ : ∃ W1, W.alloc (.cells #[.string k, .string v] 97) = W1 := ⟨_, rfl⟩
  rw [hW1] at hb hr1 hs1 ho1 hrow1
  obtain ⟨g2, hg2⟩ : ∃ g, W.heap.size = g := ⟨_, rfl⟩
  rw [hg2] at hr1
  have hb2 := (Below.refl W1.heap.size W1).alloc (Nat.le_refl _) (.cells (prC (k, v)).toArray 97)
  have hs2 := World.size_alloc W1 (.cells (prC (k, v)).toArray 97)
  have ho2 := own_chg (R := fun _ => False) ho1 (Chg.belowAt hb2) (fun _ _ h => h)
  have HOA := Lib.hid ho2
  have HNW := Lib.hid (show ∀ j u, (prC (k, v))[j]? = some u → ∃ ad, some (⟨W1.heap.size, 0, none⟩ : Addr) = some ad ∧ (W1.alloc (.cells (prC (k, v)).toArray 97)).cell? (ad.add j) = some u from fun j u hj => ⟨_, rfl, by rw [addr_add0, Nat.zero_add]; exact row_at (heap_alloc_last W1 _) hj⟩)
  have hbw := (h2'.lt)
  have HBASE := Lib.hid (show wb.heap.size ≤ (W1.alloc (.cells (prC (k, v)).toArray 97)).heap.size by
    have := hj.base; have := row_lt h1; rw [hs2, hs1]; omega)
  have HML := Lib.hid (show l + 1 ≤ maxLen ∧ (l + 1) * 32 ≤ 140737488355328 by unfold maxLen; omega)
  have c1 : W1.cell? ⟨ho, 0, none⟩ = some (.slice A l c) := cell_row' hrow1
  have c20 : W1.cell? ⟨g2, 0, none⟩ = some (.string k) := cell_row' hr1
  have c21 : W1.cell? ⟨g2, 1, none⟩ = some (.string v) := cell_row' hr1
  have HB := Lib.hid (And.intro hb hb2)
  have HX := Lib.hid (And.intro h3 (And.intro hne (And.intro hj.base (And.intro hl (And.intro hs1 (And.intro hs2 hg2))))))
  have HR1 := Lib.hid hrow1
  have HHO := Lib.hid (row_lt hrow1)
  have HBS := Lib.hid (fun W => show (Instr.buildSlice 107 1 #[(0, .agg #[.string k, .string v])]).run Tryz.prog W = .ok (.slice (some ⟨W.heap.size, 0, none⟩) 1 1) (W.alloc (.cells (prC (k, v)).toArray 97)) from build_Pr (k, v) W)
  clear h1 h2 h3 h2' hne hb hr1 hs1 ho1 hrow1 hb2 hs2 ho2 hbw hj hl hm
  go_enter Tryz.func54, Tryz.ntmps54
  go_upto_region 1 with (fail)
  try rw [hW1]
  try rw [hg2]
  clear hW1 hg2
  go_wp2_with (first | (with_reducible refine wpList_val rfl (exec_buildSlice _ _ _ rfl #[(0, .agg #[.string k, .string v])] (by go_simp) (HBS.out _)) ?_) | (at_builtin; refine wpList_app EPr rfl _ _ rfl wb.heap.size _ l (flatPr acc) rfl HOA.out (some ⟨W1.heap.size, 0, none⟩) 1 1 (prC (k, v)) rfl (fun h => by cases h) rfl HNW.out (prC_one _) HML.out.1 HML.out.2 HBASE.out ?_; intro v9 w9 hown hgrow hat; obtain ⟨A9, c9, rfl⟩ := ownPr_form hown; have hr9 := ((Chg.of hgrow).block ho (Nat.lt_of_lt_of_le HHO.out HB.out.2.size) (fun e => HX.out.2.1 e.symm)).trans ((HB.out.2.block ho HHO.out).trans HR1.out); have c9' : w9.cell? ⟨ho, 0, none⟩ = some (.slice A l c) := cell_row' hr9; have f9 := free_row hr9 0; have HR9 := Lib.hid hr9; have HOW := Lib.hid hown; have HGR := Lib.hid hgrow; have HAT := Lib.hid hat; clear hown hgrow hat hr9) | fail)
  go_ret
  have hc8 := Chg.of_ (R := fun x => x = ho) (grown_setCell w9 ho 0 (.slice A9 (l + 1) c9)) (fun k _ e => by injection e with e; exact e.symm)
  obtain ⟨h3, hne, hbase, hl, hs1, hs2, hg2⟩ := HX.out
  have hlen : (acc ++ [(k, v)]).length = l + 1 := by simp [hl]
  have hown : w9.ownsRow wb.heap.size 97 2 (.slice A9 (l + 1) c9) (l + 1) (flatPr acc ++ prC (k, v)) := HOW.out
  have hne9 : ¬ Value.ownBlock (.slice A9 (l + 1) c9) = some ho := fun e => own_ne hown e HR9.out (by decide)
  have hWs : W.heap.size ≤ (W1.alloc (.cells (prC (k, v)).toArray 97)).heap.size := by rw [hs2, hs1]; omega
  have hc02 : Chg F W (W1.alloc (.cells (prC (k, v)).toArray 97)) := Chg.belowAt (HB.out.1.trans (HB.out.2.mono HB.out.1.size))
  have hc29 : Chg F W w9 := hc02.trans2 (Chg.of HGR.out) (fun x _ e => (h3 x).2 (.inr e.symm))
  refine ⟨rfl, (fun x => x = ho ∨ Value.ownBlock (.slice A9 (l + 1) c9) = some x), ⟨hbase, A9, c9, ?_, ?_, ?_⟩, hc29.trans2 hc8 (fun x _ e => (h3 x).2 (.inl e)), ?_⟩
  · rw [setCell_row HR9.out, hlen]; rfl
  · rw [OwnPr, hlen, flatPr_snoc]
    exact own_chg hown hc8 (fun x hx e => hne9 (by rw [hx, e]))
  · intro x; rw [hlen]
  · rintro x (h | h)
    · exact .inl ((h3 x).2 (.inl h))
    · rcases HAT.out with h' | h'
      · rw [h'] at h; exact .inl ((h3 x).2 (.inr h))
      · rw [h'] at h; injection h with h; right; omega
end Go.Proofs.YtcklcffepedklaaGreatDoor

namespace Go.Proofs.YtcklcffepedklaaGreatDoor
open Go.RowKit Go.Maps

theorem rn_tells (wb : World) (ho : Nat) : TellsP 54 #[.pointer (some ⟨ho, 0, none⟩)] wb true 1000000 (fun _ => True) (RnJ wb ho) where
  enters := enters_of Tryz.func54 (by kernel_rfl) rfl
  keep acc F W W' R hj hc hR := by
    obtain ⟨A, c, h1, h2, h3⟩ := hj.ex
    exact ⟨hj.base, A, c, (hc.block ho (row_lt h1) (hR ho ((h3 ho).2 (.inl rfl)))).trans h1, own_chg h2 hc (fun k hk => hR k ((h3 k).2 (.inr hk))), h3⟩
  bound acc F W hj x hx := by
    obtain ⟨A, c, h1, h2, h3⟩ := hj.ex
    rcases (h3 x).1 hx with rfl | h
    · exact row_lt h1
    · exact (h2.lt x h).2
  base acc F W hj x hx := by
    obtain ⟨A, c, h1, h2, h3⟩ := hj.ex
    rcases (h3 x).1 hx with rfl | h
    · exact hj.base
    · exact (h2.lt x h).1
  told acc F W k v hj hm _ := Rn1_any wb ho acc F W k v hj hm
theorem prs_Drop (k : BA) (t : Tre) (hs : Srtd t.prs) : (if (t.get k).isSome = true then t.drop k else t).prs = delP k t.prs := by
  by_cases h : (t.get k).isSome = true
  · rw [if_pos h, prs_drop k t hs]
  · rw [if_neg h]
    refine (delP_none fun x hx e => h ?_).symm
    rw [prs_get k t hs, ← e, getP_mem hs (show (x.1, x.2) ∈ t.prs from hx)]; rfl
theorem delP_len {N : List PR} (hs : Srtd N) {x : PR} (hx : x ∈ N) : (delP x.1 N).length + 1 = N.length := by
  obtain ⟨l, r, rfl⟩ := List.append_of_mem hx
  obtain ⟨k, v⟩ := x
  rw [delP_mid hs, if_neg (by rw [bl_irrefl]; simp), if_neg (by rw [bl_irrefl]; simp)]
  simp; omega
theorem dels_len : ∀ {all N : List PR}, Srtd N → (∀ x ∈ all, x ∈ N) → all.Pairwise (fun y z => y.1 ≠ z.1) → (dels all N).length + all.length = N.length
  | [], _, _, _, _ => rfl
  | x :: all, N, hs, hm, hp => by
    have hp' := List.pairwise_cons.1 hp
    have h1 := dels_len (all := all) (N := delP x.1 N) (delP_srtd hs) (fun y hy => delP_mem.2 ⟨hm y (by simp [hy]), (hp'.1 y hy).symm⟩) hp'.2
    have h2 := delP_len hs (hm x (by simp))
    rw [dels, List.foldl_cons, ← dels, List.length_cons]
    omega
theorem build_pair (s v : BA) (W : World) : (Instr.build 97 #[(0, .string s), (1, .string v)]).run Tryz.prog W = .ok (.agg #[.string s, .string v]) W := by
  obtain ⟨i0, hi, hz0, _, _⟩ := info_parts Tryz.infoPr
  refine run_build W _ _ _ ?_
  rw [built_struct hi hz0 Tryz.underlying97 (places := [(0, 1), (1, 1)]) (by decide +kernel)]
  rfl
theorem newk_text {a t : List L8} {k s d : BA} (hs : s = bp a) (ha : a ≠ []) (hd : d = bp t) (ht : t ≠ []) : d ++ k.extract s.size k.size = newk a t k := by
  apply Go.WideShapes.bytes_inj
  rw [app_data, newk, ba_data, hd, bp_data ht]
  congr 1
  rw [Lib.extract_to_end, hs, bp_size ha]
/-- What is moved: the thing itself, and all within it. -/
theorem moved_mem {FB : BA → Prop} {N : List PR} (hV : Val FB N) {a : List L8} (ha : PN a) (hna : a ≠ []) {v : BA} (hv : getP (bp a) N = some v) {f : BA} (hf : f.data.toList = joinP a ++ [47]) :
    (∀ x, x ∈ (bp a, v) :: inP f N ↔ x ∈ N ∧ (x.1 = bp a ∨ (joinP a ++ [47]) <+: x.1.data.toList)) ∧ ((bp a, v) :: inP f N).Pairwise (fun y z => y.1 ≠ z.1) := by
  rw [inP_eq hV.srt]
  refine ⟨fun x => ?_, List.pairwise_cons.2 ⟨fun x hx e => ?_, List.Pairwise.imp (fun h => bl_ne h) (List.Pairwise.sublist List.filter_sublist hV.srt)⟩⟩
  · rw [List.mem_cons, List.mem_filter, pfx_iff', hf]
    constructor
    · rintro (rfl | ⟨h1, h2⟩)
      · exact ⟨getP_some hv, .inl rfl⟩
      · exact ⟨h1, .inr h2⟩
    · rintro ⟨h1, h2 | h2⟩
      · exact .inl (hV.srt.uniq h1 (getP_some hv) h2)
      · exact .inr ⟨h1, h2⟩
  · have h2 := pfx_iff'.1 (List.mem_filter.1 hx).2
    rw [hf, ← e] at h2
    have h3 : (joinP a ++ [47]) <+: (bp a).data.toList := h2
    rw [bp_data hna] at h3
    have := h3.length_le
    rw [List.length_append, List.length_singleton] at this
    omega
set_option maxRecDepth 20000 in
set_option maxHeartbeats 1600000 in
theorem Rename_any {FB : BA → Prop} {w : World} {gn gm : Nat} {N : List PR} (HF : FOk FB) (hV : Val FB N) (hL : N.length ≤ 4096) (h : Nm w gn gm N) (s d : BA) (hE : Env w) (hs : s.size ≤ 1000000) (hd : d.size ≤ 900000) :
    Calls Tryz.prog 27 #[.pointer (some ⟨gn, 0, none⟩), .string s, .string d] w fun e w' => ∃ c N', e = .returned (.int .i64 c) ∧ Nm w' gn gm N' ∧ Val FB N' ∧ N'.length ≤ 4096 ∧ Chg (fun x => x = gn) w w' := by
  have HRN := Lib.hid (renamable_any HF hV h s d hE hs (by omega))
  obtain ⟨p, t, h1, h2, h3, h4⟩ := getP_len hV.srt hL h
  have HT := Lib.hid h2
  have HTL := Lib.hid (And.intro h3 h4)
  have HNM := Lib.hid h
  have HR := Lib.hid h1
  have HVL := Lib.hid (And.intro hV hL)
  have HSZ := Lib.hid (And.intro hs hd)
  have HE := Lib.hid hE
  clear h1 h2 h3 h4 h HF hV hE hs hL hd
  go_enter Tryz.func27, Tryz.ntmps27
  go_wp2_with fail
  refine HRN.out.mono ?_
  rintro e w1 ⟨c, b, rfl, hb1, hok⟩
  have HB1 := Lib.hid hb1
  have HOK := Lib.hid hok
  clear hb1 hok HRN
  by_cases hc : c = 0
  rotate_left
  · go_wp2_with fail
    go_ret
    exact ⟨_, N, rfl, HNM.out.below HB1.out, HVL.out.1, by have := HVL.out.2; omega, Chg.belowAt HB1.out⟩
  subst hc
  cases b with
  | true =>
    go_wp2_with fail
    go_ret
    exact ⟨_, N, rfl, HNM.out.below HB1.out, HVL.out.1, by have := HVL.out.2; omega, Chg.belowAt HB1.out⟩
  | false =>
  obtain ⟨a, u, hrn⟩ := HOK.out rfl rfl
  have HRN := Lib.hid hrn
  have HSK := Lib.hid (And.intro (pNames_key hrn.pa) (pNames_key hrn.pt))
  have hst : Srtd t.prs := by rw [HTL.out.1]; exact HVL.out.1.srt
  have hG := TGet_any s t p w1 (HT.out.below HB1.out)
  rw [prs_get s t hst, HTL.out.1] at hG
  obtain ⟨v, hv⟩ := Option.isSome_iff_exists.1 hrn.has
  rw [hv] at hG
  have HG := Lib.hid hG
  have HVV := Lib.hid hv
  have ca0 : w1.cell? ⟨gn, 0, none⟩ = some (.pointer p) := cell_row' ((HB1.out.block gn (row_lt HR.out)).trans HR.out)
  clear hrn hst hG hv
  go_wp2_with fail
  refine HG.out.mono ?_
  rintro e w2 ⟨rfl, rfl⟩
  have HBP := Lib.hid (build_pair s v)
  have HBS := Lib.hid (fun W => show (Instr.buildSlice 107 1 #[(0, .agg #[.string s, .string v])]).run Tryz.prog W = .ok (.slice (some ⟨W.heap.size, 0, none⟩) 1 1) (W.alloc (.cells (prC (s, v)).toArray 97)) from build_Pr (s, v) W)
  have hr1 := heap_alloc_last w1 (.cells (prC (s, v)).toArray 97)
  have hs1 := World.size_alloc w1 (.cells (prC (s, v)).toArray 97)
  have hb1 := (Below.refl w1.heap.size w1).alloc (Nat.le_refl _) (.cells (prC (s, v)).toArray 97)
  have hr2 := heap_alloc_last (w1.alloc (.cells (prC (s, v)).toArray 97)) (.cells #[.slice (some ⟨w1.heap.size, 0, none⟩) 1 1] 107)
  have hs2 := World.size_alloc (w1.alloc (.cells (prC (s, v)).toArray 97)) (.cells #[.slice (some ⟨w1.heap.size, 0, none⟩) 1 1] 107)
  have hb2 := (Below.refl (w1.alloc (.cells (prC (s, v)).toArray 97)).heap.size (w1.alloc (.cells (prC (s, v)).toArray 97))).alloc (Nat.le_refl _) (.cells #[.slice (some ⟨w1.heap.size, 0, none⟩) 1 1] 107)
  rw [hs1] at hr2
  have hr12 := (hb2.block w1.heap.size (by rw [hs1]; omega)).trans hr1
  have hb3 := hb1.trans (hb2.mono hb1.size)
  have hrg := (hb3.block gn (row_lt ((HB1.out.block gn (row_lt HR.out)).trans HR.out))).trans ((HB1.out.block gn (row_lt HR.out)).trans HR.out)
  have cg3 : ((w1.alloc (.cells (prC (s, v)).toArray 97)).alloc (.cells #[.slice (some ⟨w1.heap.size, 0, none⟩) 1 1] 107)).cell? ⟨gn, 0, none⟩ = some (.pointer p) := cell_row' hrg
  have hJ : RnJ w1 (w1.heap.size + 1) [(s, v)] (fun x => x = w1.heap.size + 1 ∨ Value.ownBlock (.slice (some ⟨w1.heap.size, 0, none⟩) 1 1) = some x) ((w1.alloc (.cells (prC (s, v)).toArray 97)).alloc (.cells #[.slice (some ⟨w1.heap.size, 0, none⟩) 1 1] 107)) :=
    ⟨Nat.le_succ _, some ⟨w1.heap.size, 0, none⟩, 1, hr2, ⟨rfl, .inr ⟨w1.heap.size, 1, (prC (s, v)).toArray, rfl, Nat.le_refl _, hr12, Nat.le_refl _, by unfold maxLen; omega, rfl, rfl⟩⟩, fun x => Iff.rfl⟩
  have HWI := Lib.hid (within_any (rn_tells w1 (w1.heap.size + 1)) t p s [(s, v)] _ _ (HT.out.below HB1.out) (by rw [HTL.out.1]; exact HVL.out.1.srt) hb3 hJ HSZ.out.1 _ rfl (by have := HTL.out.1; have := HVL.out.2; rw [List.length_singleton, ← Tre.prs_len, HTL.out.1]; omega) (by rw [HTL.out.1]; exact val_keys HVL.out.1) (fun _ _ => trivial))
  obtain ⟨f, hf⟩ : ∃ f, (⟨(Lib.trimSuffix s.data.toList [47]).toArray⟩ : BA) ++ ⟨#[47]⟩ = f := ⟨_, rfl⟩
  rw [hf, HTL.out.1] at HWI
  have HFF := Lib.hid (show f.data.toList = joinP a ++ [47] by rw [← hf, HSK.out.1]; exact front_of (pNames_some HRN.out.pa).2 HRN.out.na)
  have HB3 := Lib.hid hb3
  clear hr1 hs1 hb1 hr2 hs2 hb2 hr12 hb3 hrg hJ hf
  go_wp2_with (first | (with_reducible refine wpList_val rfl (exec_build _ _ rfl #[(0, .string s), (1, .string v)] (by go_simp) (HBP.out _)) ?_) | (with_reducible refine wpList_val rfl (exec_buildSlice _ _ _ rfl #[(0, .agg #[.string s, .string v])] (by go_simp) (HBS.out _)) ?_) | fail)
  refine HWI.out.mono ?_
  rintro e w4 ⟨rfl, F', hj, hc, hF'⟩
  rw [if_pos (by trivial)] at hj
  obtain ⟨A4, c4, hr4, ho4, _⟩ := hj.ex
  have hmv := moved_mem HVL.out.1 (pNames_some HRN.out.pa).2 HRN.out.na (v := v) (by rw [← HSK.out.1]; exact HVV.out) HFF.out
  rw [← HSK.out.1] at hmv
  obtain ⟨all, hall⟩ : ∃ all, [(s, v)] ++ inP f N = all := ⟨_, rfl⟩
  have hall' : (s, v) :: inP f N = all := hall
  rw [hall'] at hmv
  rw [hall] at hr4 ho4
  obtain ⟨n, hn⟩ : ∃ n, all.length = n := ⟨_, rfl⟩
  have hn1 : n ≤ 4097 := by
    rw [← hn, ← hall', List.length_cons]
    have h1 : (inP f N).length ≤ N.length := Nat.le_trans (List.takeWhile_prefix _).length_le (List.length_filter_le _ _)
    have := HVL.out.2; omega
  have HMV := Lib.hid (And.intro hmv (And.intro hn hn1))
  have HPR := Lib.hid ho4.at_
  have HB4 := Lib.hid (show Below w.heap.size w w4 from HB1.out.trans ((HB3.out.trans (hc.below HB3.out.size (fun x hx => by
    rcases hx with rfl | hx
    · omega
    · injection hx with hx; have : w1.heap.size = x := hx; omega))).mono HB1.out.size))
  rw [hn] at hr4
  have c4' : w4.cell? ⟨w1.heap.size + 1, 0, none⟩ = some (.slice A4 n c4) := cell_row' hr4
  obtain ⟨g4, hg4⟩ : ∃ g, w1.heap.size + 1 = g := ⟨_, rfl⟩
  rw [hg4] at c4' hr4
  try rw [hg4]
  have HR4 := Lib.hid hr4
  have cg4 : w4.cell? ⟨gn, 0, none⟩ = some (.pointer p) := cell_row' ((HB4.out.block gn (row_lt HR.out)).trans HR.out)
  clear hmv hall hall' hj hc hF' hr4 ho4 cg3 ca0 hn
  go_upto_region 9 with (fail)
  go_loopg [12, 59] n (fun kq v12 v59 w' => ∃ (i : Nat) (q : Option Addr) (r : Tre), v12 = .pointer q ∧ v59 = .int .i64 (i : Int) ∧ i + kq = n ∧ Hid (TrAt w' q r ∧ r.prs = dels (all.take i) N) ∧ Hid (Below w4.heap.size w4 w'))
  case atStart => exact ⟨0, p, t, rfl, rfl, by omega, Lib.hid ⟨HT.out.below HB4.out, by rw [HTL.out.1]; rfl⟩, Lib.hid (Below.refl _ _)⟩
  case round =>
    obtain ⟨i, q, r, rfl, rfl, hi, HQ, HBW⟩ := hrel
    by_cases hlt : i < n
    · have hil : i < all.length := by rw [HMV.out.2.1]; exact hlt
      obtain ⟨x, hx⟩ : ∃ x, all[i]? = some x := ⟨_, List.getElem?_eq_getElem hil⟩
      obtain ⟨g0, hA, hrg⟩ := (HPR.out.below HBW.out) i x hx
      have HTK := Lib.hid (show all.take (i + 1) = all.take i ++ [x] by rw [List.take_add_one, hx]; rfl)
      obtain ⟨xk, xv⟩ := x
      have HRG := Lib.hid (show wr.rangeAt g0 (i * 2) [.string xk, .string xv] from hrg)
      have HAE := Lib.hid hA
      subst hA
      have hi0 : (0 : Int) ≤ (i : Int) := by omega
      have hi1 : (i : Int) < (n : Int) := by omega
      have hr2 := heap_alloc_last wr (.cells #[.string xk, .string xv] 97)
      have hb2 := (Below.refl wr.heap.size wr).alloc (Nat.le_refl _) (.cells #[.string xk, .string xv] 97)
      have k0 : (wr.alloc (.cells #[.string xk, .string xv] 97)).cell? ⟨wr.heap.size, 0, none⟩ = some (.string xk) := cell_row' hr2
      have hsr : Srtd r.prs := by rw [HQ.out.2]; exact dels_srtd HVL.out.1.srt
      have hrl : r.len < 900000 := by
        rw [← Tre.prs_len, HQ.out.2]
        have h1 : (dels (all.take i) N).length ≤ N.length := by
          have : ∀ (al M : List PR), (dels al M).length ≤ M.length := by
            intro al
            induction al with
            | nil => intro M; exact Nat.le_refl _
            | cons z al ih => intro M; exact Nat.le_trans (ih (delP z.1 M)) (List.length_filter_le _ _)
          exact this _ _
        have := HVL.out.2; omega
      have hD := TDrop_any xk r q (wr.alloc (.cells #[.string xk, .string xv] 97)) (HQ.out.1.below hb2) hrl
      obtain ⟨z, hz⟩ : ∃ z, (r.get xk).isSome = z := ⟨_, rfl⟩
      obtain ⟨r2, hr2'⟩ : ∃ r2, (if (r.get xk).isSome = true then r.drop xk else r) = r2 := ⟨_, rfl⟩
      have hp2 := prs_Drop xk r hsr
      rw [hr2'] at hp2 hD
      rw [hz] at hD
      have HD := Lib.hid hD
      have HP2 := Lib.hid (show r2.prs = dels (all.take (i + 1)) N by rw [hp2, HQ.out.2, HTK.out, dels, dels, List.foldl_append]; rfl)
      have HB2 := Lib.hid hb2
      clear hil hx hrg hr2 hb2 hsr hrl hD hz hr2' hp2 hlt
      go_wp2_with (first | (with_reducible refine Go.wpList_load_mid rfl 97 _ rfl g0 (i * 2) rfl [.string xk, .string xv] _ HRG.out Tryz.underlying97 rfl rfl ?_) | fail)
      refine HD.out.mono ?_
      rintro e w5 ⟨q2, rfl, ht5, hb5⟩
      have HQ5 := Lib.hid (And.intro ht5 HP2.out)
      have HB5 := Lib.hid (HBW.out.trans ((HB2.out.trans (hb5.mono HB2.out.size)).mono HBW.out.size))
      clear ht5 hb5 k0
      go_wp2_with fail
      go_roundg (n - (i + 1))
      case measure => omega
      case rel => exact ⟨i + 1, q2, r2, rfl, by go_num, by omega, HQ5, HB5⟩
    · obtain rfl : i = n := by omega
      have hti : all.take i = all := List.take_of_length_le (by rw [HMV.out.2.1]; exact Nat.le_refl _)
      have HQ1 := Lib.hid (show TrAt wr q r ∧ r.prs = dels all N by have := HQ.out; rwa [hti] at this)
      have cw : wr.cell? ⟨g4, 0, none⟩ = some (.slice A4 i c4) := cell_row' ((HBW.out.block g4 (row_lt HR4.out)).trans HR4.out)
      have HBW1 := HBW
      clear hti hlt hi HQ HBW cg4 c4'
      go_upto_region 14 with (fail)
      go_loopg [12, 73] i (fun kq v12 v73 w' => ∃ (j : Nat) (q : Option Addr) (r : Tre), v12 = .pointer q ∧ v73 = .int .i64 (j : Int) ∧ j + kq = i ∧ Hid (TrAt w' q r ∧ r.prs = inss (newk a u) (all.take j) (dels all N)) ∧ Hid (Below w4.heap.size w4 w') ∧ Hid (∀ x ∈ all.take j, pNames (newk a u x.1).data.toList ≠ none))
      case atStart => exact ⟨0, q, r, rfl, rfl, by omega, Lib.hid ⟨HQ1.out.1, by rw [HQ1.out.2]; rfl⟩, HBW1, Lib.hid (fun x hx => by simp at hx)⟩
      case round =>
        clear cw HBW1 HQ1 q r
        obtain ⟨j, q, r, rfl, rfl, hj, HQ, HBW, HPN⟩ := hrel
        by_cases hlt : j < i
        · have hil : j < all.length := by rw [HMV.out.2.1]; exact hlt
          obtain ⟨x, hx⟩ : ∃ x, all[j]? = some x := ⟨_, List.getElem?_eq_getElem hil⟩
          obtain ⟨g0, hA, hrg⟩ := (HPR.out.below HBW.out) j x hx
          have HTK := Lib.hid (show all.take (j + 1) = all.take j ++ [x] by rw [List.take_add_one, hx]; rfl)
          obtain ⟨xk, xv⟩ := x
          have hmem := (HMV.out.1.1 (xk, xv)).1 (List.mem_of_getElem? hx)
          have hsk : s.size ≤ xk.size := by
            rcases hmem.2 with h | h
            · have h' : xk = s := h
              rw [h']; exact Nat.le_refl _
            · have h1 := h.length_le
              have h2 : (xk, xv).1.data.toList.length = xk.size := rfl
              rw [h2, List.length_append] at h1
              rw [HSK.out.1, bp_size HRN.out.na]; omega
          have hxs' : xk.size ≤ 1617 := by
            obtain ⟨l, hl⟩ := HVL.out.1.ok _ hmem.1
            have hk : xk = bp l := hl.key
            rw [hk]; exact pOf_len hl.pn
          have hnt := newk_text (k := xk) HSK.out.1 HRN.out.na HSK.out.2 HRN.out.nt
          obtain ⟨nk, hnk⟩ : ∃ nk, newk a u xk = nk := ⟨_, rfl⟩
          rw [hnk] at hnt
          have hdz := HSZ.out.2
          have hcat : ¬ 9223372036854775807 < d.size + (xk.extract s.size xk.size).size := by
            rw [ByteArray.size_extract]; omega
          have hnz : nk.size ≤ 1000000 := by
            rw [← hnt, ByteArray.size_append, ByteArray.size_extract]; omega
          have HNT := Lib.hid hnt
          have HNK := Lib.hid hnk
          have HRG := Lib.hid (show wr.rangeAt g0 (j * 2) [.string xk, .string xv] from hrg)
          have HAE := Lib.hid hA
          subst hA
          have hi0 : (0 : Int) ≤ (j : Int) := by omega
          have hi1 : (j : Int) < (i : Int) := by omega
          have hr2 := heap_alloc_last wr (.cells #[.string xk, .string xv] 97)
          have hb2 := (Below.refl wr.heap.size wr).alloc (Nat.le_refl _) (.cells #[.string xk, .string xv] 97)
          have k0 : (wr.alloc (.cells #[.string xk, .string xv] 97)).cell? ⟨wr.heap.size, 0, none⟩ = some (.string xk) := cell_row' hr2
          have k1 : (wr.alloc (.cells #[.string xk, .string xv] 97)).cell? ⟨wr.heap.size, 1, none⟩ = some (.string xv) := cell_row' hr2
          have hbw2 := HB4.out.trans ((HBW.out.trans (hb2.mono HBW.out.size)).mono HB4.out.size)
          have HP := Lib.hid (Parse_any nk _ (HE.out.below hbw2) hnz)
          have HB2 := Lib.hid hb2
          obtain ⟨P, hP⟩ : ∃ P, pNames nk.data.toList = P := ⟨_, rfl⟩
          rw [hP] at HP
          have HPP := Lib.hid hP
          obtain ⟨g16, hg16⟩ : ∃ g, wr.heap.size = g := ⟨_, rfl⟩
          have HG16 := Lib.hid (show g16 < (wr.alloc (.cells #[.string xk, .string xv] 97)).heap.size by rw [World.size_alloc, hg16]; omega)
          have hrl : r.len < 900000 := by
            rw [← Tre.prs_len, HQ.out.2]
            have h1 : (dels all N).length ≤ N.length := by
              have : ∀ (al M : List PR), (dels al M).length ≤ M.length := by
                intro al
                induction al with
                | nil => intro M; exact Nat.le_refl _
                | cons z al ih => intro M; exact Nat.le_trans (ih (delP z.1 M)) (List.length_filter_le _ _)
              exact this _ _
            have h2 := inss_len (f := newk a u) (all := all.take j) (N := dels all N)
            have h3 : (all.take j).length ≤ all.length := by rw [List.length_take]; omega
            have := HMV.out.2; have := HVL.out.2; omega
          have HRL := Lib.hid hrl
          have HSR := Lib.hid (show Srtd r.prs by rw [HQ.out.2]; exact inss_srtd (dels_srtd HVL.out.1.srt))
          clear hil hx hrg hlt hmem hnt hnk hdz hbw2 hP hr2 hb2 hrl
          go_wp2_with (first | (with_reducible refine Go.wpList_load_mid rfl 97 _ rfl g0 (j * 2) rfl [.string xk, .string xv] _ HRG.out Tryz.underlying97 rfl rfl ?_) | fail)
          rw [HNT.out]
          refine HP.out.mono ?_
          rintro e w5 ⟨hb5, hpr⟩
          have HB5 := Lib.hid hb5
          rw [hg16] at k0 k1
          try rw [hg16]
          have k15 : w5.cell? ⟨g16, 1, none⟩ = some (.string xv) := (hb5.cell (p := ⟨g16, 1, none⟩) HG16.out).trans k1
          have HBB := Lib.hid (HBW.out.trans ((HB2.out.trans (hb5.mono HB2.out.size)).mono HBW.out.size))
          clear hb5 k0 k1 HP hsk hxs' hcat hnz
          cases P with
          | none =>
            have hpr' : e = .returned (.tuple #[.slice none 0 0, .int .i64 170]) := hpr
            subst hpr'
            clear hpr
            go_wp2_with fail
            go_ret
            have hbb := HB4.out.trans (HBB.out.mono HB4.out.size)
            exact ⟨_, N, rfl, HNM.out.below hbb, HVL.out.1, by have := HVL.out.2; omega, Chg.belowAt hbb⟩
          | some pl =>
            obtain ⟨A5, rfl, _⟩ := hpr
            obtain ⟨pn, hpn⟩ : ∃ n, pl.length = n := ⟨_, rfl⟩
            rw [hpn]
            have HPUT := Lib.hid (TPut_any nk xv r q w5 (HQ.out.1.below (HB2.out.trans (HB5.out.mono HB2.out.size))) HRL.out)
            clear hpn
            go_wp2_with fail
            refine HPUT.out.mono ?_
            rintro e w6 ⟨q2, rfl, ht6, hb6⟩
            have HQ6 := Lib.hid (show TrAt w6 q2 (r.put nk xv) ∧ (r.put nk xv).prs = inss (newk a u) (all.take (j + 1)) (dels all N) from ⟨ht6, by
              rw [prs_put nk xv r HSR.out, HQ.out.2, HTK.out, inss, inss, List.foldl_append, ← HNK.out]; rfl⟩)
            have HB6 := Lib.hid (HBB.out.trans (hb6.mono HBB.out.size))
            have HPN2 := Lib.hid (show ∀ x ∈ all.take (j + 1), pNames (newk a u x.1).data.toList ≠ none from fun x hx => by
              rw [HTK.out] at hx
              rcases List.mem_append.1 hx with hx | hx
              · exact HPN.out x hx
              · have : x = (xk, xv) := by simpa using hx
                rw [this, HNK.out, HPP.out]; simp)
            clear ht6 hb6 k15
            go_wp2_with fail
            go_roundg (i - (j + 1))
            case measure => omega
            case rel => exact ⟨j + 1, q2, r.put nk xv, rfl, by go_num, by omega, HQ6, HB6, HPN2⟩
        · obtain rfl : j = i := by omega
          have hti : all.take j = all := List.take_of_length_le (by rw [HMV.out.2.1]; exact Nat.le_refl _)
          have HBF := Lib.hid (HB4.out.trans (HBW.out.mono HB4.out.size))
          have HT9 := Lib.hid (Nm.turn (N' := inss (newk a u) all (dels all N)) HR.out HBF.out HQ.out.1 (by rw [HQ.out.2, hti]))
          have hr9 := (HBF.out.block gn (row_lt HR.out)).trans HR.out
          have c90 : wr.cell? ⟨gn, 0, none⟩ = some (.pointer p) := cell_row' hr9
          have f90 := free_row hr9 0
          have HPA := Lib.hid (show ∀ x ∈ all, pNames (newk a u x.1).data.toList ≠ none from fun x hx => HPN.out x (by rw [hti]; exact hx))
          clear hti hlt hr9
          go_wp2_with fail
          go_ret
          refine ⟨_, inss (newk a u) all (dels all N), rfl, HT9.out.1, ?_, ?_, HT9.out.2⟩
          · have h1 := HMV.out.1
            rw [HSK.out.1] at h1
            refine HVL.out.1.ren (pNames_some HRN.out.pa).2 HRN.out.na (pNames_some HRN.out.pt).2 HRN.out.nt HRN.out.notin h1.1 h1.2 (paE_ok HRN.out.up) (by rw [← HSK.out.2]; exact HRN.out.nodir) HPA.out
          · have h2 := inss_len (f := newk a u) (all := all) (N := dels all N)
            have h1 := dels_len HVL.out.1.srt (fun x hx => ((HMV.out.1.1 x).1 hx).1) HMV.out.1.2
            have := HVL.out.2; omega
end Go.Proofs.YtcklcffepedklaaGreatDoor

namespace Go.Proofs.YtcklcffepedklaaGreatDoor
open Go.RowKit Go.Maps

theorem keyB : KeyOk Tryz.prog 9 Value.string SvOk where
  keyed := string_keyed Tryz.underlying9
  reads s h := ⟨_, Go.WideMaps.keyOf_string_mk Tryz.underlying9 (by have : s.size ≤ 1000000 := h; unfold maxLen; omega)⟩
  inj a b _ _ h := by injection h
section
variable {P : Program} {o : Oper} {w w' : World} {ρ : Operand → Value}
theorem exec_lkp (t : TypeId) (x k : Operand) (ok : Bool) (ho : o.op = .lookup t x k ok) (mv kv : Value) {v : Value} (hx : ρ x = mv) (hk : ρ k = kv) (hr : (Instr.lookup t mv kv ok).run P w = .ok v w) : (execOp ρ o).run P w = .ok (.value v) w := by
  unfold execOp
  simp only [ho, hx, hk, Sem.run_bind, hr, Result.andThen_ok, Sem.run_pure]
theorem exec_upd (t : TypeId) (x k y : Operand) (ho : o.op = .mapUpdate t x k y) (mv kv v : Value) (hx : ρ x = mv) (hk : ρ k = kv) (hy : ρ y = v) (hr : (Instr.mapUpdate t mv kv v).run P w = .ok () w') : (execOp ρ o).run P w = .ok .skip w' := by
  unfold execOp
  simp only [ho, hx, hk, hy, Sem.run_bind, hr, Result.andThen_ok, Sem.run_pure]
end
theorem MapAt.run_len {α : Type} {P : Program} {mt kt et : TypeId} {enc : α → Value} {V : α → Prop} {w : World} {m : Nat} {L : List (α × Value)} (ht : P.underlying mt = some (.map kt et)) (h : MapAt enc V w m L) (ty : TypeId) :
    (Builtin.len_ #[mt] ty #[.map (some m)]).run P w = .ok (.int .i64 L.length) w := by
  obtain ⟨es, c, h1, h2, _⟩ := h.ex
  have : es.size = L.length := by
    have := congrArg List.length h2
    simpa using this
  simp [Builtin.len_, run_underlying ht, Go.MapKept.run_getObj_map h1, this, goInt]
def snHas (S : List (BA × List PR)) (s : BA) : Bool := S.any fun x => decide (x.1 = s)
theorem snHas_lkp (s : BA) : ∀ P : List (BA × Option Addr × Tre), (lkp (snV P) s).isSome = snHas (snL P) s
  | [] => rfl
  | x :: P => by
    have ih := snHas_lkp s P
    unfold snHas snL snV at ih ⊢
    rw [List.map_cons, List.map_cons, List.any_cons, lkp, ← ih]
    by_cases h : x.1 = s <;> simp [h]
/-- What Snap answers. -/
def snE (S : List (BA × List PR)) (s : BA) : Int := if nmOk s = false then 1 else if snHas S s = true then 3 else if 64 ≤ S.length then 4 else 0
def snN (N : List PR) (S : List (BA × List PR)) (s : BA) : List (BA × List PR) := if snE S s = 0 then S ++ [(s, N)] else S
set_option maxRecDepth 20000 in
set_option maxHeartbeats 800000 in
theorem Snap_any {w : World} {gn gm : Nat} {N : List PR} {S : List (BA × List PR)} (h : Nm w gn gm N) (hS : Sn w gm S) (s : BA) (hE : Env w) (hs : s.size ≤ 1000000) :
    Calls Tryz.prog 28 #[.pointer (some ⟨gn, 0, none⟩), .string s] w fun e w' => e = .returned (.int .i64 (snE S s)) ∧ Nm w' gn gm N ∧ Sn w' gm (snN N S s) ∧ Chg (fun x => x = gm) w w' := by
  obtain ⟨p, t, h1, h2, h3⟩ := h.ex
  obtain ⟨P, m1, m2, rfl⟩ := hS.ex
  have HZ := Lib.hid (show ∀ W, (zeroValue 59).run Tryz.prog W = .ok (.pointer none) W from fun W => by kernel_rfl)
  have hlk := run_lkp keyB Tryz.underlying58 m1 s hs (.pointer none) (HZ.out w) true
  rw [if_pos rfl, snHas_lkp s P] at hlk
  obtain ⟨x, hx⟩ : ∃ x, (lkp (snV P) s).getD (.pointer none) = x := ⟨_, rfl⟩
  rw [hx] at hlk
  have HLK := Lib.hid hlk
  have HNA := Lib.hid (Name_any s w hE (by omega))
  have c0 : w.cell? ⟨gn, 0, none⟩ = some (.pointer p) := cell_row' h1
  have c1 : w.cell? ⟨gn, 1, none⟩ = some (.map (some gm)) := cell_row' h1
  have HLEN := Lib.hid (fun (W : World) (hb : Below w.heap.size w W) ty => MapAt.run_len (P := Tryz.prog) Tryz.underlying58 (m1.below hb) ty)
  have HUPP := Lib.hid (fun (W : World) (hb : Below w.heap.size w W) => run_upd keyB Tryz.underlying58 (m1.below hb) s hs (.pointer p))
  have HNM := Lib.hid h
  have HSN := Lib.hid hS
  have HP := Lib.hid m2
  have HM := Lib.hid m1
  have HR := Lib.hid h1
  have HT := Lib.hid (And.intro h2 h3)
  have hlen : (snV P).length = (snL P).length := by simp [snV, snL]
  rw [hlen] at HLEN
  obtain ⟨S, hSS⟩ : ∃ S, snL P = S := ⟨_, rfl⟩
  rw [hSS] at HLEN HLK HSN ⊢
  have HSS := Lib.hid hSS
  obtain ⟨n, hn⟩ : ∃ n, S.length = n := ⟨_, rfl⟩
  rw [hn] at HLEN
  obtain ⟨E, hE'⟩ : ∃ E, snE S s = E := ⟨_, rfl⟩
  obtain ⟨M, hM⟩ : ∃ M, snN N S s = M := ⟨_, rfl⟩
  obtain ⟨ok, hok⟩ : ∃ b, nmOk s = b := ⟨_, rfl⟩
  obtain ⟨is, his⟩ : ∃ b, snHas S s = b := ⟨_, rfl⟩
  rw [hE', hM]
  rw [hok] at HNA
  rw [his] at HLK
  have e8 : E = if ok = false then 1 else if is = true then 3 else if 64 ≤ n then 4 else 0 := by rw [← hE', snE, hok, his, hn]
  have e7 : M = if E = 0 then S ++ [(s, N)] else S := by rw [← hM, snN, hE']
  have HX := Lib.hid (And.intro e8 (And.intro e7 (And.intro hn his)))
  clear h hS h1 h2 h3 m1 m2 hlk hx hE hs hlen hSS hn hE' hM hok his e8 e7
  go_enter Tryz.func28, Tryz.ntmps28
  go_wp2_with (first | (at_lookup; refine wpList_lkp rfl _ _ _ _ rfl _ _ _ rfl rfl HLK.out ?_) | fail)
  refine HNA.out.mono ?_
  rintro e w1 ⟨rfl, hb1⟩
  have HB1 := Lib.hid hb1
  have fin : ∀ c : Int, c ≠ 0 → E = c → E = E ∧ Nm w1 gn gm N ∧ Sn w1 gm M ∧ Chg (fun x => x = gm) w w1 := fun c hc hEc => by
    have hm := HX.out.2.1
    rw [if_neg (by rw [hEc]; exact hc)] at hm
    rw [hm]
    exact ⟨rfl, HNM.out.below HB1.out, HSN.out.below HB1.out, Chg.belowAt HB1.out⟩
  have HFIN := Lib.hid fin
  clear hb1 fin
  cases ok with
  | false =>
    go_wp2_with fail
    go_ret
    have h1 : E = 1 := HX.out.1
    refine ⟨by rw [h1]; rfl, (HFIN.out 1 (by decide) h1).2⟩
  | true =>
  cases is with
  | true =>
    go_wp2_with fail
    go_ret
    have h1 : E = 3 := HX.out.1
    refine ⟨by rw [h1]; rfl, (HFIN.out 3 (by decide) h1).2⟩
  | false =>
  have c11 : w1.cell? ⟨gn, 1, none⟩ = some (.map (some gm)) := cell_row' ((HB1.out.block gn (row_lt HR.out)).trans HR.out)
  have hlen := fun ty => HLEN.out w1 HB1.out ty
  by_cases h64 : 64 ≤ n
  · have h64' : (64 : Int) ≤ (n : Int) := by omega
    have HH := Lib.hid h64
    clear h64
    go_wp2_with fail
    go_ret
    have h1 : E = 4 := by
      have := HX.out.1
      rw [if_neg (by simp), if_neg (by simp), if_pos HH.out] at this; exact this
    refine ⟨by rw [h1]; rfl, (HFIN.out 4 (by decide) h1).2⟩
  · have h64' : ¬ (64 : Int) ≤ (n : Int) := by omega
    have HH := Lib.hid h64
    clear h64
    go_upto_region 10 with (fail)
    have hr1 := (HB1.out.block gn (row_lt HR.out)).trans HR.out
    have hm1 := HM.out.below HB1.out
    obtain ⟨es, ck, hme, _⟩ := hm1.ex
    have hne : gn ≠ gm := fun e => by rw [e, hme] at hr1; cases hr1
    have HLN := Lib.hid (And.intro (row_lt hr1) hne)
    have HC1 := Lib.hid c11
    have HC0 := Lib.hid (show w1.cell? ⟨gn, 0, none⟩ = some (.pointer p) from cell_row' hr1)
    have hme' : w1.drew.heap[gm]? = some (.map es ck) := hme
    have HME := Lib.hid hme'
    have HUP := Lib.hid (HUPP.out w1.drew HB1.out.drew)
    clear hr1 hm1 hme hne c11 hlen hme'
    --[10
    refine wp_region_held_drew (S := fun w' => Chg (fun x => x = gm) w1 w') (by kernel_rfl) (((Chg.refl _ _).drewN 1)) (fun hHeld => ?_)
    refine held_take 0 (some 31) (v := ?_) rfl rfl (by kernel_rfl) (by kernel_rfl) (by kernel_rfl) (fun _ _ _ h => h) (Or.inl ⟨by rfl, ?_⟩) hHeld ?_
    rotate_left
    · (intro w' hSw; clear hSw; go_simp; try with_reducible rfl)
    try simp only [Act.put, List.setIfInBounds_toArray, List.set_cons_zero, List.set_cons_succ]
    refine held_take 1 (some 32) (v := ?_) rfl rfl (by kernel_rfl) (by kernel_rfl) (by kernel_rfl) (fun _ _ _ h => h) (Or.inl ⟨by rfl, ?_⟩) hHeld ?_
    rotate_left
    · (intro w' hSw; clear hSw; go_simp; try with_reducible rfl)
    try simp only [Act.put, List.setIfInBounds_toArray, List.set_cons_zero, List.set_cons_succ]
    refine held_take 2 (some 33) (v := ?_) rfl rfl (by kernel_rfl) (by kernel_rfl) (by kernel_rfl) (fun _ _ _ h => h) (Or.inl ⟨by rfl, ?_⟩) hHeld ?_
    rotate_left
    · (intro w' hSw; clear hSw; go_simp; try with_reducible rfl)
    try simp only [Act.put, List.setIfInBounds_toArray, List.set_cons_zero, List.set_cons_succ]
    refine held_take 3 (some 34) (v := ?_) rfl rfl (by kernel_rfl) (by kernel_rfl) (by kernel_rfl) (fun _ _ _ h => h) (Or.inl ⟨by rfl, ?_⟩) hHeld ?_
    rotate_left
    · (intro w' hSw; have pf := (hSw.cell (p := ⟨gn, 1, none⟩) HLN.out.1 HLN.out.2).trans HC1.out; clear hSw; go_simp; try with_reducible rfl)
    try simp only [Act.put, List.setIfInBounds_toArray, List.set_cons_zero, List.set_cons_succ]
    refine held_take 4 (some 35) (v := ?_) rfl rfl (by kernel_rfl) (by kernel_rfl) (by kernel_rfl) (fun _ _ _ h => h) (Or.inl ⟨by rfl, ?_⟩) hHeld ?_
    rotate_left
    · (intro w' hSw; clear hSw; go_simp; try with_reducible rfl)
    try simp only [Act.put, List.setIfInBounds_toArray, List.set_cons_zero, List.set_cons_succ]
    refine held_take 5 (some 36) (v := ?_) rfl rfl (by kernel_rfl) (by kernel_rfl) (by kernel_rfl) (fun _ _ _ h => h) (Or.inl ⟨by rfl, ?_⟩) hHeld ?_
    rotate_left
    · (intro w' hSw; clear hSw; go_simp; try with_reducible rfl)
    try simp only [Act.put, List.setIfInBounds_toArray, List.set_cons_zero, List.set_cons_succ]
    refine held_take 6 (some 37) (v := ?_) rfl rfl (by kernel_rfl) (by kernel_rfl) (by kernel_rfl) (fun _ _ _ h => h) (Or.inl ⟨by rfl, ?_⟩) hHeld ?_
    rotate_left
    · (intro w' hSw; clear hSw; go_simp; try with_reducible rfl)
    try simp only [Act.put, List.setIfInBounds_toArray, List.set_cons_zero, List.set_cons_succ]
    refine held_take 7 (some 38) (v := ?_) rfl rfl (by kernel_rfl) (by kernel_rfl) (by kernel_rfl) (fun _ _ _ h => h) (Or.inl ⟨by rfl, ?_⟩) hHeld ?_
    rotate_left
    · (intro w' hSw; clear hSw; go_simp; try with_reducible rfl)
    try simp only [Act.put, List.setIfInBounds_toArray, List.set_cons_zero, List.set_cons_succ]
    refine held_take 8 (some 39) (v := ?_) rfl rfl (by kernel_rfl) (by kernel_rfl) (by kernel_rfl) (fun _ _ _ h => h) (Or.inl ⟨by rfl, ?_⟩) hHeld ?_
    rotate_left
    · (intro w' hSw; have pf := (hSw.cell (p := ⟨gn, 0, none⟩) HLN.out.1 HLN.out.2).trans HC0.out; clear hSw; go_simp; try with_reducible rfl)
    try simp only [Act.put, List.setIfInBounds_toArray, List.set_cons_zero, List.set_cons_succ]
    refine wpAnyH_ready (rs := [9]) (by kernel_rfl) (by simp) ?_
    refine AllReadyH.cons rfl (fun K hKK => ?_) AllReadyH.nil
    obtain ⟨w9, hrun, hgr, hmp, _⟩ := HUP.out
    refine step_skip rfl (exec_upd _ (.tmp 34) (.tmp 35) (.tmp 39) rfl (.map (some gm)) (.string s) (.pointer p) (by go_simp) (by go_simp) (by go_simp) hrun) ?_
    refine hKK.out _ _ (((Chg.refl _ _).drewN 1).trans2 (Chg.of hgr) (fun x _ e => by injection e)) (fun hHeld => ?_)
    clear hKK K
    try simp only [Act.put, List.setIfInBounds_toArray, List.set_cons_zero, List.set_cons_succ]
    refine wpAnyH_done (by kernel_rfl) ?_ _
    --]10
    go_wp2_with fail
    go_ret
    have h0 : E = 0 := by
      have := HX.out.1
      rw [if_neg (by simp), if_neg (by simp), if_neg HH.out] at this; exact this
    have hM : M = S ++ [(s, N)] := by have := HX.out.2.1; rwa [if_pos h0] at this
    have hup : upd (snV P) s (.pointer p) = snV (P ++ [(s, p, t)]) := by
      have hl := snHas_lkp s P
      rw [HSS.out, HX.out.2.2.2] at hl
      rw [upd_new (by cases hh : lkp (snV P) s with | none => rfl | some y => rw [hh] at hl; cases hl)]
      simp [snV]
    have hc19 : Chg (fun x => x = gm) w1.drew w9 := Chg.of_ hgr (fun k _ e => by injection e with e; exact e.symm)
    have hb1d := HB1.out.drew
    have hTT : ∀ {q : Option Addr} {r : Tre}, TrAt w q r → TrAt w9 q r := fun hq => (hq.below hb1d).chg hc19 (fun g cs e => by rw [e, HME.out]; intro e2; cases e2)
    have hrow9 := (hc19.block gn HLN.out.1 HLN.out.2).trans ((hb1d.block gn (row_lt HR.out)).trans HR.out)
    refine ⟨by rw [h0]; rfl, ⟨p, t, hrow9, hTT HT.out.1, HT.out.2⟩, ?_, (Chg.belowAt hb1d).trans hc19⟩
    rw [hM]
    rw [hup] at hmp
    refine ⟨P ++ [(s, p, t)], hmp, fun y hy => ?_, ?_⟩
    · rcases List.mem_append.1 hy with hy | hy
      · exact hTT (HP.out y hy)
      · have : y = (s, p, t) := by simpa using hy
        rw [this]; exact hTT HT.out.1
    · rw [snL, List.map_append, ← HSS.out, snL, ← HT.out.2]; rfl
end Go.Proofs.YtcklcffepedklaaGreatDoor

namespace Go.Proofs.YtcklcffepedklaaGreatDoor
open Go.RowKit

/-- A key: its fingerprint, and the how-many-eth it is. -/
structure Ky where
  sum : List Int
  n : Nat
  deriving DecidableEq
instance : Inhabited Ky := ⟨⟨[], 0⟩⟩
def Ky.cells (k : Ky) : List Value := k.sum.map (Value.int .u8) ++ [.int .u32 k.n]
structure Ky.Ok (k : Ky) : Prop where
  len : k.sum.length = 32
  byt : Bytes k.sum
  lt : k.n < 4294967296
theorem Ky.cells_length {k : Ky} (h : k.Ok) : k.cells.length = 33 := by simp [Ky.cells, h.len]
theorem Ky.cells_one (k : Ky) : ∀ u ∈ k.cells, u.oneCell' = true := by
  intro u hu
  unfold Ky.cells at hu
  rw [List.mem_append] at hu
  rcases hu with hu | hu
  · exact ints_one .u8 _ u hu
  · simp at hu; subst hu; rfl
theorem Ky.cells_32 {k : Ky} (h : k.Ok) : k.cells[32]? = some (.int .u32 k.n) := by
  unfold Ky.cells
  rw [List.getElem?_append_right (by simp [h.len]), List.length_map, h.len]; rfl
theorem Ky.cells_sum {k : Ky} (h : k.Ok) : k.cells.take 32 = k.sum.map (Value.int .u8) := by
  unfold Ky.cells
  rw [List.take_append_of_le_length (by simp [h.len]), List.take_of_length_le (by simp [h.len])]
theorem sizeK {k : Ky} (h : k.Ok) : (Tryz.prog.info? 133).map (·.size) = some k.cells.length := by rw [Ky.cells_length h]; kernel_rfl

/-- The cells of no key. -/
def zK : Array Value := ((List.replicate 32 (Value.int .u8 0)) ++ [Value.int .u32 0]).toArray
theorem Tryz.infoK : (Tryz.prog.info? 133).map (fun i => (i.zero, i.size, i.bytes)) = some (some (.agg ((List.replicate 32 (Value.int .u8 0)) ++ [Value.int .u32 0]).toArray), 33, 36) := by kernel_rfl
theorem zeroK (w : World) : (zeroValue 133).run Tryz.prog w = .ok (.agg zK) w := by
  obtain ⟨i0, hi, hz0, _, _⟩ := info_parts Tryz.infoK
  simp [zeroValue, typeInfo, hi, hz0, zK]
theorem sizeKA {k : Ky} (h : k.Ok) : (Tryz.prog.info? 133).map (·.size) = some k.cells.toArray.size := by rw [List.size_toArray]; exact sizeK h
theorem zK_size {k : Ky} (h : k.Ok) : zK.size = k.cells.toArray.size := by
  have e : k.cells.toArray.size = 33 := by rw [List.size_toArray, Ky.cells_length h]
  rw [e]; rfl
theorem build_key (k : Ky) (h : k.Ok) (w : World) : (Instr.build 133 #[(0, .agg (k.sum.map (Value.int .u8)).toArray), (1, .int .u32 k.n)]).run Tryz.prog w = .ok (.agg k.cells.toArray) w := by
  obtain ⟨i0, hi, hz0, _, _⟩ := info_parts Tryz.infoK
  refine run_build w _ _ _ ?_
  have hk : (k.sum.map (Value.int .u8)).length = 32 := by rw [List.length_map, h.len]
  rw [built_struct hi hz0 Tryz.underlying133 (places := [(0, 32), (32, 1)]) (by decide +kernel)]
  rw [fill_cons (off := 0) (size := 32) (vs := k.sum.map (Value.int .u8)) rfl rfl hk (by decide)]
  rw [fill_cons (off := 32) (size := 1) (vs := [.int .u32 k.n]) rfl rfl rfl (by simp [h.len]; decide)]
  rw [Instr.fill]
  refine congrArg some (congrArg List.toArray ?_)
  exact splice2 (show zK.toList.length = 33 from rfl) hk _
end Go.Proofs.YtcklcffepedklaaGreatDoor
