/- Texts of the proof, one behind the other: store: hold, of a chunk that is not there. store: words for Put. -/
import Derived.Test.YtcklcffepedklaaGreatM29
namespace Go.Proofs.YtcklcffepedklaaGreat
open Go.RowKit Go.Maps

theorem build_rowP (p : Pc) (hk : p.key.Ok) (W : World) : (Instr.buildSlice 77 1 #[(0, .agg p.cells.toArray)]).run Tryz.prog W = .ok (.slice (some ⟨W.heap.size, 0, none⟩) 1 1) (W.alloc (.cells p.cells.toArray 105)) :=
  build_one (P := Tryz.prog) (z := .agg zP) (vs := p.cells) (s := 34) Tryz.underlying77 (fun _ => by kernel_rfl) zeroP (Pc.cells_length hk) (by decide) (by decide) (.agg p.cells.toArray) rfl W
theorem pcAt_one {w : World} {g : Nat} {p : Pc} (hr : w.heap[g]? = some (.cells p.cells.toArray 105 (0, 0))) (hp : p.Ok w) : PcAt w (some ⟨g, 0, none⟩) [p] := by
  refine ⟨fun i r hi => ?_, fun r hr' => by rw [List.mem_singleton.1 hr']; exact hp⟩
  match i, hi with
  | 0, hi =>
    simp at hi; subst hi
    exact ⟨g, rfl, by rw [Nat.zero_mul]; exact range_row hr⟩
theorem nowF_put {P : Nat → List KD} {q : Nat} (x : KD) (h : P q ≠ []) : nowF P q = nowF (updP P q (P q ++ [x])) q := by
  funext p
  unfold nowF
  rw [updP_same]
  have h2 : (P q).isEmpty = false := by cases hp : P q with | nil => exact absurd hp h | cons x l => rfl
  have h3 : (P q ++ [x]).isEmpty = false := by cases P q <;> rfl
  rw [h2, h3]
theorem own_form34 {w : World} {b : Nat} {v : Value} {n : Nat} {xs : List Value} (h : w.ownsRow b 105 34 v n xs) : ∃ A c, v = .slice A n c := by
  obtain ⟨_, h2⟩ := h
  rcases h2 with ⟨h2, h3⟩ | ⟨g, cap, cur, e, _⟩
  · exact ⟨none, 0, by rw [h2, h3]⟩
  · exact ⟨_, cap, e⟩
theorem nowF_take {P : Nat → List KD} {q : Nat} (x : KD) (h : P q = []) : Sp.turnF (nowF P q) q = nowF (updP P q (P q ++ [x])) q := by
  funext p
  unfold Sp.turnF nowF
  rw [updP_same, h]
  by_cases e : p = q
  · subst e; simp
  · simp [e]
theorem nowF_old {P : Nat → List KD} {q p : Nat} (h : p < q) : nowF P q p = true := by unfold nowF; simp [h]
theorem nowF_none {P : Nat → List KD} {q : Nat} (h : P q = []) : nowF P q q = false := by unfold nowF; simp [h]
theorem build_pl (a b : Nat) (w : World) : (Instr.build 82 #[(0, .int .i64 a), (1, .int .i64 b)]).run Tryz.prog w = .ok (.agg (plC (a, b)).toArray) w := by
  obtain ⟨i0, hi, hz0, _, _⟩ := info_parts Tryz.infoPl
  refine run_build w _ _ _ ?_
  rw [built_struct hi hz0 Tryz.underlying82 (places := [(0, 1), (1, 1)]) (by decide +kernel)]
  rfl
section
variable {w : World} {gs N : Nat} {B : Sb} {κ : Nat → Nat} {E : List KD} {L : List (Ky × (Nat × Nat))} {P : Nat → List KD} {q : Nat} {v : Value} {M : List Pc} {size at_ : Nat} {D : Nat → Option (List Int)} {c b : Nat}
/-- The held row gets one more piece. -/
theorem Sm.app {f : Nat → Bool} {vA A7 : Option Addr} {vc n c7 : Nat} {p : Pc} {ad : Addr} {W w7 : World} (h : Sm w gs N B κ L q f (.slice vA n vc) M size at_ D c) (hn : M.length = n) (hW : Below w.heap.size w W) (hg : W.grownBy w7 (Value.ownBlock (.slice vA n vc))) (hown : w7.ownsRow 0 105 34 (.slice A7 (n + 1) c7) (n + 1) (flatP M ++ p.cells))
    (hat : Value.ownBlock (.slice A7 (n + 1) c7) = Value.ownBlock (.slice vA n vc) ∨ Value.ownBlock (.slice A7 (n + 1) c7) = some W.heap.size) (hp : p.Ok w) (hpA : p.A = some ad) (hκ : κ ad.block = 0) (hl : ad.block < w.heap.size) :
    w7.cell? ⟨gs, 4, none⟩ = some (.slice vA n vc) ∧ w7.frozen? ⟨gs, 4, none⟩ = false ∧ Chg (fun y => κ y = 7 ∨ y = gs) w w7 ∧ Chg (fun y => κ y = 7 ∨ y = gs) w (w7.setCell ⟨gs, 4, none⟩ (.slice A7 (n + 1) c7)) ∧
      Sm (w7.setCell ⟨gs, 4, none⟩ (.slice A7 (n + 1) c7)) gs N B (cutP κ ad.block w.heap.size (w7.setCell ⟨gs, 4, none⟩ (.slice A7 (n + 1) c7)).heap.size) L q f (.slice A7 (n + 1) c7) (M ++ [p]) size at_ D c := by
  have hold : ∀ y, Value.ownBlock (.slice vA n vc) = some y → κ y = 7 := h.hown
  have hgl := row_lt h.row
  have hc7 : Chg (fun y => κ y = 7 ∨ y = gs) w w7 := (Chg.belowAt hW).trans2 (Chg.of hg) (fun y _ e => Or.inl (hold y e.symm))
  have hng : ¬ some gs = Value.ownBlock (.slice vA n vc) := fun e => absurd (hold gs e.symm) (by rw [h.ks]; decide)
  have hrow7 := (hg.block gs (Nat.lt_of_lt_of_le hgl hW.size) hng).trans ((hW.block gs hgl).trans h.row)
  have hgs := grown_setCell w7 gs 4 (.slice A7 (n + 1) c7)
  have hS7 : Chg (fun y => κ y = 7 ∨ y = gs) w (w7.setCell ⟨gs, 4, none⟩ (.slice A7 (n + 1) c7)) := hc7.trans2 (Chg.of hgs) (fun y _ e => Or.inr (by injection e))
  have hnew : ∀ y, Value.ownBlock (.slice A7 (n + 1) c7) = some y → Value.ownBlock (.slice vA n vc) = some y ∨ w.heap.size ≤ y := fun y hy => by
    rcases hat with e | e
    · exact .inl (e ▸ hy)
    · rw [e] at hy; injection hy with hy; exact .inr (hy ▸ hW.size)
  have hne7 : ∀ k, Value.ownBlock (.slice A7 (n + 1) c7) = some k → ¬ some k = some gs := fun k hk e => by
    injection e with e
    rcases hnew k hk with h1 | h1
    · exact hng (by rw [h1, e])
    · omega
  refine ⟨by rw [cell_of_row _ _ _ _ _ _ hrow7]; rfl, free_row hrow7 4, hc7, hS7, h.hch hS7 hκ hl (fun a ha => by rw [hpA] at ha; injection ha with ha; rw [ha]) hnew ⟨?_, fun r hr => ?_⟩ (by rw [setCell_row hrow7]; rfl)⟩
  · have := own_chg hown (Chg.of hgs) hne7
    rw [flatP, List.flatMap_append, List.length_append, List.length_singleton, hn]
    simpa [flatP] using this
  · rcases List.mem_append.1 hr with hr | hr
    · exact (h.held.ok r hr).chg hS7 (fun a ha _ e => by
        have := h.dat r hr a ha
        rcases e with e | e
        · omega
        · rw [e, h.ks] at this; omega)
    · rw [List.mem_singleton.1 hr]
      exact hp.chg hS7 (fun a ha _ e => by
        rw [hpA] at ha; injection ha with ha
        rw [← ha] at e
        rcases e with e | e
        · omega
        · rw [e, h.ks] at hκ; omega)
/-- What hold leaves. -/
def HoldP (w : World) (gs N : Nat) (B : Sb) (κ : Nat → Nat) (E : List KD) (x : KD) (ad : Addr) (b : Nat) (e : Ending) (w' : World) : Prop :=
  e = .returned (.int .i64 0) ∧ Chg (fun x => κ x ≠ 0) w w' ∧ ∃ κ' L' P' q' v' M' size' at' D' c', Fu w' gs N B κ' (E ++ [x]) L' P' q' v' M' size' at' D' c' b ∧ ∀ y, κ' y ≠ 0 → κ y ≠ 0 ∨ y = ad.block ∨ w.heap.size ≤ y
/-- What is so when there is room for one more piece of m bytes. -/
def HoldR (w1 : World) (gs N : Nat) (B : Sb) (κ : Nat → Nat) (E : List KD) (L : List (Ky × (Nat × Nat))) (P : Nat → List KD) (b m : Nat) (v6 : Value) (w' : World) : Prop :=
  ∃ κ' q v M size at_ D c, Fu w' gs N B κ' E L P q v M size at_ D c b ∧ 368 * q + szD (P q) + (38 + m) ≤ b ∧ 10 + szD (P q) + (38 + m) ≤ 508 ∧ v6 = .int .i64 (10 + szD (P q) + (38 + m) : Nat) ∧ Chg (fun x => κ x ≠ 0) w1 w' ∧ ∀ x, κ' x ≠ 0 → κ x ≠ 0 ∨ w1.heap.size ≤ x
set_option maxRecDepth 20000 in
set_option maxHeartbeats 1600000 in
theorem hold_fu (h : Fu w gs N B κ E L P q v M size at_ D c b) (x : KD) (hx : ChOk x) (p : Pc) (hkd : kd p = x) (hp : p.Ok w) (ad : Addr) (hpA : p.A = some ad) (hpb : κ ad.block = 0) (hn : x.1.n = cnt L x.1.sum) (hd : x.2 ∉ E.map (·.2))
    (hb : 368 * q + szD (P q) + (38 + x.2.length) ≤ b) (hE : E.length + 1 ≤ b) :
    Calls Tryz.prog 39 #[.pointer (some ⟨gs, 0, none⟩), .agg p.cells.toArray] w (HoldP w gs N B κ E x ad b) := by
  obtain ⟨g3, hg3⟩ : ∃ g, w.heap.size = g := ⟨_, rfl⟩
  have hb1 := (Below.refl w.heap.size w).alloc (Nat.le_refl _) (.cells p.cells.toArray 105)
  have hr1 := heap_alloc_last w (.cells p.cells.toArray 105)
  have hkey : p.key = x.1 := congrArg Prod.fst hkd
  have hdat : p.data = x.2 := congrArg Prod.snd hkd
  have HPK := Lib.hid hp.key
  have hlen : p.data.length = x.2.length := by rw [hdat]
  have hxl := hx.len
  have HX := Lib.hid (And.intro hx (And.intro hkd (And.intro hn (And.intro hd (And.intro hb hE)))))
  have HPA := Lib.hid (And.intro hpA hpb)
  rw [hg3] at hr1
  obtain ⟨w1, hw1⟩ : ∃ w1, w.alloc (.cells p.cells.toArray 105) = w1 := ⟨_, rfl⟩
  rw [hw1] at hb1 hr1
  have hp1 := hp.below hb1
  have hb2 := (Below.refl w1.heap.size w1).alloc (Nat.le_refl _) (.cells p.cells.toArray 105)
  have hr2 := heap_alloc_last w1 (.cells p.cells.toArray 105)
  have HZ := Lib.hid (Size_any (some ⟨w1.heap.size, 0, none⟩) 1 1 [p] (w1.alloc (.cells p.cells.toArray 105)) rfl (by decide) (by simp [lenP]; omega) (pcAt_one hr2 (hp1.below hb2)))
  rw [show 10 + 38 * 1 + lenP [p] = 48 + x.2.length by simp [lenP, hlen]] at HZ
  have HH := Lib.hid h
  have HP1 := Lib.hid hp1
  have HB1 := Lib.hid hb1
  have HB2 := Lib.hid hb2
  have HK1 := Lib.hid (show w1.rangeAt g3 0 p.cells from range_row hr1)
  have HG3 := Lib.hid (And.intro hg3 (row_lt hr1))
  have HBP := Lib.hid (fun W => build_rowP p hp.key W)
  obtain ⟨m, hm⟩ : ∃ m, x.2.length = m := ⟨_, rfl⟩
  have HM := Lib.hid hm
  rw [hm] at HZ hxl
  clear hb1 hr1 hp1 hb2 hr2 hg3 hkey hdat hlen hx hkd hn hd hb hE hp hpA hpb h hm
  go_enter Tryz.func39, Tryz.ntmps39
  go_upto_region 1 with (fail)
  have hg3 := HG3.out.1
  rw [hg3]
  clear hg3
  go_wp2_with (first | (with_reducible refine Go.wpList_load_mid rfl 105 _ rfl g3 0 rfl p.cells _ HK1.out Tryz.underlying105 rfl (sizeP HPK.out) ?_) | (with_reducible refine wpList_val rfl (exec_buildSlice _ _ _ rfl #[(0, .agg p.cells.toArray)] (by go_simp) (HBP.out _)) ?_))
  refine HZ.out.mono ?_
  rintro e w2 ⟨rfl, hb3⟩
  have HB12 := Lib.hid (show Below w1.heap.size w1 w2 from HB2.out.trans (hb3.mono HB2.out.size))
  have H2 := Lib.hid (HH.out.below (show Below w.heap.size w w2 from HB1.out.trans (HB12.out.mono HB1.out.size)))
  clear hb3 HZ HB2
  obtain ⟨vA, vc, rfl, hvc, _, _⟩ := H2.out.sm.held.form
  have c4 := H2.out.sm.ci 4 _ rfl
  obtain ⟨nM, hnM⟩ : ∃ z, M.length = z := ⟨_, rfl⟩
  rw [hnM] at c4
  have HNM := Lib.hid hnM
  obtain ⟨bb, hbb⟩ : ∃ bb : Bool, decide (0 < nM) = bb := ⟨_, rfl⟩
  clear hnM hvc
  go_upto_if 18 with (fail)
  have HBBL := Lib.hid hbb
  clear hbb c4
  go_cut [6, 7] from 9 to 44 (fun v6 v7 w' => HoldR w2 gs N B κ E L P b m v6 w')
  case first =>
    cases bb with
    | false =>
      have h0 : nM = 0 := by have := HBBL.out; simp at this; exact this
      have hP0 : P q = [] := by rw [← H2.out.hkd, List.map_eq_nil_iff]; exact List.length_eq_zero_iff.1 (HNM.out.trans h0)
      go_wp2_with fail
      go_meet
      case rel =>
        have hb := HX.out.2.2.2.2.1
        rw [HM.out, hP0] at hb
        exact ⟨κ, q, _, M, size, at_, D, c, H2.out, by rw [hP0]; exact hb, by rw [hP0]; simp [szD, lenD]; omega, by rw [hP0]; simp [szD, lenD]; omega, Chg.refl _ _, fun y hy => .inl hy⟩
    | true =>
      have h0 : 0 < nM := by have := HBBL.out; simp at this; exact this
      have hP0 : P q ≠ [] := by rw [← H2.out.hkd]; intro e; have := HNM.out; rw [List.map_eq_nil_iff.1 e] at this; simp at this; omega
      obtain ⟨sM, hsM⟩ : ∃ sM, szD (P q) = sM := ⟨_, rfl⟩
      have hsz := (H2.out.hsz hP0).1
      have hat := (H2.out.hsz hP0).2
      rw [hsM] at hsz
      have hsl : sM ≤ 498 := by have := H2.out.a.size q; unfold szD at hsM; omega
      have HSM := Lib.hid hsM
      subst hsz
      have HC5 := Lib.hid (H2.out.sm.ci 5 _ rfl)
      have HLS := Lib.hid (row_lt H2.out.sm.row)
      have HZN := Lib.hid (fun (W : World) => show Calls Tryz.prog 33 #[.slice none 0 0] W fun e w' => e = .returned (.int .i64 10) ∧ Below W.heap.size W w' from Size_any none 0 0 [] W rfl (by decide) (by decide) (PcAt.nil W none))
      obtain ⟨t1, ht1⟩ : ∃ t1 : Nat, t1 = 58 + sM + m := ⟨_, rfl⟩
      obtain ⟨t2, ht2⟩ : ∃ t2 : Nat, t2 = 10 + sM + (38 + m) := ⟨_, rfl⟩
      have hw1' : IntKind.i64.wrap (10 + (sM : Int) + (48 + (m : Int))) = (t1 : Int) := by simp [IntKind.wrap, IntKind.bits, IntKind.signed]; omega
      have hw2' : IntKind.i64.wrap ((t1 : Int) - 10) = (t2 : Int) := by simp [IntKind.wrap, IntKind.bits, IntKind.signed]; omega
      have HT := Lib.hid (And.intro ht1 ht2)
      clear ht1 ht2
      clear hsM
      go_upto_region 4 with (fail)
      --[4
      refine wp_region_held_drew (S := fun w' => Below w2.heap.size w2 w') (by kernel_rfl) ((Below.refl _ _).drew) (fun hHeld => ?_)
      refine held_take 0 (some 19) (v := ?_) rfl rfl (by kernel_rfl) (by kernel_rfl) (by kernel_rfl) (fun _ _ _ h => h) (Or.inl ⟨by rfl, ?_⟩) hHeld ?_
      rotate_left
      · (intro w' hSw; clear hSw; go_simp; try with_reducible rfl)
      try simp only [Act.put, List.setIfInBounds_toArray, List.set_cons_zero, List.set_cons_succ]
      refine held_take 1 (some 20) (v := ?_) rfl rfl (by kernel_rfl) (by kernel_rfl) (by kernel_rfl) (fun _ _ _ h => h) (Or.inl ⟨by rfl, ?_⟩) hHeld ?_
      rotate_left
      · (intro w' hSw; clear hSw; go_simp; try with_reducible rfl)
      try simp only [Act.put, List.setIfInBounds_toArray, List.set_cons_zero, List.set_cons_succ]
      refine held_take 2 (some 21) (v := ?_) rfl rfl (by kernel_rfl) (by kernel_rfl) (by kernel_rfl) (fun _ _ _ h => h) (Or.inl ⟨by rfl, ?_⟩) hHeld ?_
      rotate_left
      · (intro w' hSw; clear hSw; go_simp; try with_reducible rfl)
      try simp only [Act.put, List.setIfInBounds_toArray, List.set_cons_zero, List.set_cons_succ]
      refine held_take 3 (some 22) (v := ?_) rfl rfl (by kernel_rfl) (by kernel_rfl) (by kernel_rfl) (fun _ _ _ h => h) (Or.inl ⟨by rfl, ?_⟩) hHeld ?_
      rotate_left
      · (intro w' hSw; have pf := (hSw.cell (p := ⟨gs, 5, none⟩) HLS.out).trans HC5.out; clear hSw; go_simp; try with_reducible rfl)
      try simp only [Act.put, List.setIfInBounds_toArray, List.set_cons_zero, List.set_cons_succ]
      refine held_take 4 (some 23) (v := ?_) rfl rfl (by kernel_rfl) (by kernel_rfl) (by kernel_rfl) (fun _ _ _ h => h) (Or.inl ⟨by rfl, ?_⟩) hHeld ?_
      rotate_left
      · (intro w' hSw; clear hSw; go_simp; try with_reducible rfl)
      try simp only [Act.put, List.setIfInBounds_toArray, List.set_cons_zero, List.set_cons_succ]
      refine held_take 5 (some 24) (v := ?_) rfl rfl (by kernel_rfl) (by kernel_rfl) (by kernel_rfl) (fun _ _ _ h => h) (Or.inl ⟨by rfl, ?_⟩) hHeld ?_
      rotate_left
      · (intro w' hSw; clear hSw; go_simp; try with_reducible rfl)
      try simp only [Act.put, List.setIfInBounds_toArray, List.set_cons_zero, List.set_cons_succ]
      refine wpAnyH_ready (rs := [6]) (by kernel_rfl) (by simp) ?_
      refine AllReadyH.cons rfl (fun K hKK => ?_) AllReadyH.nil
      go_simp
      go_at_call 33
      refine (HZN.out _).mono ?_
      rintro e w3 ⟨rfl, hc5⟩
      have hS6 := (hHeld).trans ((hc5).mono (hHeld).size)
      refine hKK.out _ _ hS6 (fun hHeld => ?_)
      clear hKK K
      try simp only [Act.put, List.setIfInBounds_toArray, List.set_cons_zero, List.set_cons_succ]
      refine held_take 7 (some 26) (v := ?_) rfl rfl (by kernel_rfl) (by kernel_rfl) (by kernel_rfl) (fun _ _ _ h => h) (Or.inl ⟨by rfl, ?_⟩) hHeld ?_
      rotate_left
      · (intro w' hSw; clear hSw; go_simp; try with_reducible rfl)
      try simp only [Act.put, List.setIfInBounds_toArray, List.set_cons_zero, List.set_cons_succ]
      refine held_take 8 (some 6) (v := ?_) rfl rfl (by kernel_rfl) (by kernel_rfl) (by kernel_rfl) (fun _ _ _ h => h) (Or.inl ⟨by rfl, ?_⟩) hHeld ?_
      rotate_left
      · (intro w' hSw; clear hSw; go_simp; try with_reducible rfl)
      try simp only [Act.put, List.setIfInBounds_toArray, List.set_cons_zero, List.set_cons_succ]
      refine wpAnyH_done (by kernel_rfl) ?_ _
      --]4
      have H3 := Lib.hid (H2.out.below hHeld)
      have HB23 := Lib.hid hHeld
      have HLM := Lib.hid (limit_any H3.out.sm)
      have c4 := H3.out.sm.ci 4 _ rfl
      have hn := HNM.out
      rw [hn] at c4
      have hn1 : nM ≤ 13 := by have := H2.out.a.size q; have := len_kd H2.out.hkd; omega
      have hd1 : decide ((1000 : Int) ≤ (nM : Int)) = false := decide_eq_false (by omega)
      obtain ⟨cc, hcc⟩ : ∃ cc : Bool, decide ((508 : Int) < (t2 : Int)) = cc := ⟨_, rfl⟩
      clear hHeld hw1' hw2' hn HZN HC5 HLS
      have HT2 := Lib.hid hcc
      have HBX := Lib.hid (show 368 * q + sM + (38 + m) ≤ b from by
        have hb := HX.out.2.2.2.2.1
        rw [HM.out, HSM.out] at hb; exact hb)
      cases cc with
      | false =>
        go_wp2_with (go_at_call 34; refine HLM.out.mono ?_; rintro e w' ⟨rfl, rfl⟩)
        go_meet
        case rel =>
          have ht := HT.out.2
          have hl := of_decide_eq_false HT2.out
          have hS := HSM.out
          exact ⟨κ, q, _, M, _, at_, D, c, H3.out, by rw [hS]; exact HBX.out, by rw [hS]; omega, by rw [hS, ← ht], Chg.belowAt HB23.out, fun y hy => .inl hy⟩
      | true =>
        have hq := H3.out.qN
        have hM0 : M ≠ [] := fun e => by have := HNM.out; rw [e] at this; simp at this; omega
        have HSE := Lib.hid (Seal_sm H3.out.sm hM0 (H3.out.a.pcOk H3.out.hkd) H3.out.szM (by omega) (by omega) hq.2.1)
        clear hq hM0
        go_wp2_with (first | (go_at_call 34; refine HLM.out.mono ?_; rintro e w' ⟨rfl, rfl⟩) | (go_at_call 11; refine HSE.out.mono ?_; rintro e w4 ⟨rfl, hc4, κ4, hs4, hk4⟩))
        go_meet
        case rel =>
          have ht := HT.out.2
          have hl := of_decide_eq_true HT2.out
          have hS := HSM.out
          have hbx := HBX.out
          have hbl := H3.out.bud.lim
          have hcp := H3.out.cap
          have hP1 : P (q + 1) = [] := H3.out.a.free _ (by omega)
          have hfu := H3.out.sealed hP0 hs4 (b' := b) (by omega) (Nat.le_refl _) hbl hcp
          exact ⟨κ4, q + 1, _, [], _, _, _, _, hfu, by rw [hP1]; simp [szD, lenD]; omega, by rw [hP1]; simp [szD, lenD]; omega, by rw [hP1]; simp [szD, lenD]; omega, (Chg.belowAt HB23.out).trans hc4, fun y hy => (hk4 y hy).imp id (Nat.le_trans HB23.out.size)⟩
  case rest =>
    obtain ⟨κ1, q1, v1, M1, size1, at1, D1, c1, hf1, hb1, hs1, rfl, hc1, hk1⟩ := hcut
    have HF1 := Lib.hid hf1
    have HQ1 := Lib.hid (And.intro hb1 (And.intro hs1 hk1))
    have HC1 := Lib.hid (show Chg (fun x => κ x ≠ 0) w wc from (Chg.belowAt (HB1.out.trans (HB12.out.mono HB1.out.size))).trans hc1)
    have hk12 : ∀ y, κ y = 0 → y < w2.heap.size → κ1 y = 0 := fun y hy hl => by
      rcases Nat.eq_zero_or_pos (κ1 y) with e | e
      · exact e
      · rcases hk1 y (by omega) with h1 | h1
        · exact absurd hy h1
        · omega
    have HKG := Lib.hid (show κ1 g3 = 0 ∧ κ1 ad.block = 0 from ⟨hk12 g3 (HH.out.sm.zero (by rw [HG3.out.1]; exact Nat.le_refl _)) (Nat.lt_of_lt_of_le HG3.out.2 HB12.out.size), hk12 _ HPA.out.2 (by
      have h1 := HP1.out.ints.lt ad HPA.out.1 (by have h1 := congrArg Prod.snd HX.out.2.1; have h2 : p.data = x.2 := h1; rw [h2]; exact HX.out.1.pos)
      exact Nat.lt_of_lt_of_le h1 HB12.out.size)⟩)
    have HK2 := Lib.hid (range_chg (rangeAt_block HK1.out (HB12.out.block g3 HG3.out.2)) hc1 (Nat.lt_of_lt_of_le HG3.out.2 HB12.out.size) (by rw [HH.out.sm.zero (by rw [HG3.out.1]; exact Nat.le_refl _)]; simp))
    have HP2 := Lib.hid ((HP1.out.below HB12.out).chg hc1 (fun a ha _ => by rw [HPA.out.1] at ha; injection ha with ha; rw [← ha, HPA.out.2]; simp))
    have HL2 := Lib.hid (show g3 < wc.heap.size from Nat.lt_of_lt_of_le (Nat.lt_of_lt_of_le HG3.out.2 HB12.out.size) hc1.size)
    have hsum : 10 + szD (P q1) + (38 + m) ≤ 508 := hs1
    obtain ⟨more, hmore⟩ : ∃ z, 10 + szD (P q1) + (38 + m) = z := ⟨_, rfl⟩
    rw [hmore] at hsum ⊢
    have HMO := Lib.hid hmore
    have HS21 := Lib.hid hc1.size
    clear hf1 hb1 hs1 hc1 hk1 hk12 H2 HBBL HNM HBP HK1 hmore
    obtain ⟨vA1, vc1, rfl, hvc1, _, _⟩ := HF1.out.sm.held.form
    have c4 := HF1.out.sm.ci 4 _ rfl
    obtain ⟨n1, hn1⟩ : ∃ z, M1.length = z := ⟨_, rfl⟩
    rw [hn1] at c4
    have HN1 := Lib.hid hn1
    obtain ⟨b1, hb1⟩ : ∃ b1 : Bool, ((n1 : Int) == 0) = b1 := ⟨_, rfl⟩
    clear hn1 hvc1
    go_upto_if 50 with (fail)
    have HBL := Lib.hid hb1
    clear hb1 c4
    go_cut [8] from 45 to 55 (fun v8 w' => Sm w' gs N B κ1 L q1 (nowF (updP P q1 (P q1 ++ [x])) q1) (.slice vA1 M1.length vc1) M1 size1 q1 D1 c1 ∧ Chg (fun x => κ1 x ≠ 0) wc w')
    case first =>
      cases b1 with
      | false =>
        have h0 : n1 ≠ 0 := by have := HBL.out; intro e; rw [e] at this; simp at this
        have hP0 : P q1 ≠ [] := by rw [← HF1.out.hkd]; intro e; have := HN1.out; rw [List.map_eq_nil_iff.1 e] at this; simp at this; omega
        go_wp2_with fail
        go_meet
        case rel =>
          have h2 := HF1.out.sm
          rw [(HF1.out.hsz hP0).2, nowF_put x hP0] at h2
          exact ⟨h2, Chg.refl _ _⟩
      | true =>
        have h0 : n1 = 0 := by have := HBL.out; simp at this; exact this
        have hP0 : P q1 = [] := by rw [← HF1.out.hkd, List.map_eq_nil_iff]; exact List.length_eq_zero_iff.1 (HN1.out.trans h0)
        have HTK := Lib.hid (take_sm HF1.out.sm (fun p hp => nowF_old hp) (nowF_none hP0) HF1.out.qN.1)
        go_wp2_with (go_at_call 64; refine HTK.out.mono ?_; rintro e w4 ⟨rfl, hc4, hs4⟩)
        go_meet
        case rel =>
          rw [nowF_take x hP0] at hs4
          exact ⟨hs4, hc4⟩
    case rest =>
      obtain ⟨hs2, hc2⟩ := hcut
      have H5 := Lib.hid hs2
      have HS22 := Lib.hid (Nat.le_trans HS21.out hc2.size)
      have HK5 := Lib.hid (range_chg HK2.out hc2 HL2.out (by rw [HKG.out.1]; simp))
      have HP5 := Lib.hid (HP2.out.chg hc2 (fun a ha _ => by rw [HPA.out.1] at ha; injection ha with ha; rw [← ha, HKG.out.2]; simp))
      have HC5 := Lib.hid (HC1.out.trans2 hc2 (fun y hy hn => by
        rcases HQ1.out.2.2 y hn with h1 | h1
        · exact h1
        · have := HB1.out.size; have := HB12.out.size; omega))
      have HL5 := Lib.hid (show g3 < wc.heap.size ∧ gs < wc.heap.size from ⟨Nat.lt_of_lt_of_le HL2.out hc2.size, row_lt hs2.row⟩)
      have HN5 := Lib.hid (show ¬ κ1 g3 = 4 ∧ ¬ κ1 gs = 4 from by rw [HKG.out.1, hs2.ks]; decide)
      have HKS5 := Lib.hid (show wc.rangeAt g3 0 x.1.cells from by
        have := range_take HK5.out 33
        rw [Pc.cells_take HPK.out, show p.key = x.1 from congrArg Prod.fst HX.out.2.1] at this; exact this)
      have HXK := Lib.hid HX.out.1.key
      have hnq : n1 = (P q1).length := by rw [← HN1.out]; exact len_kd HF1.out.hkd
      have HNQ := Lib.hid hnq
      have hfr : lkp L x.1 = none := by
        have e : x.1 = ⟨x.1.sum, cnt L x.1.sum⟩ := by rw [← HX.out.2.2.1]
        rw [e]; exact HF1.out.a.fresh _
      have hok : IntOk q1 ∧ IntOk n1 := by have := HF1.out.qN; have := HF1.out.a.size q1; unfold IntOk; omega
      have hn9 : x.1.n < 1000000000 := by
        rw [HX.out.2.2.1]
        have h1 : cnt L x.1.sum ≤ L.length := List.length_filter_le _ _
        have h2 := HF1.out.a.len
        have h3 := HF1.out.bud.num
        have h4 := HF1.out.bud.lim
        omega
      have HFP := Lib.hid (FPut_any (w := wc.drew) (H5.out.fd.below (Below.refl _ _).drew) x.1 HXK.out hfr (q1, n1) hok HX.out.2.2.1 hn9)
      have HBL2 := Lib.hid (fun W => build_pl q1 n1 W)
      have HC4 := Lib.hid (show wc.cell? ⟨gs, 4, none⟩ = some (.slice vA1 n1 vc1) from by have := H5.out.ci 4 _ rfl; rw [HN1.out] at this; exact this)
      clear hs2 hc2 HK2 HP2 HC1 HL2 HBL hnq hfr hok hn9
      go_upto_region 14 with (fail)
      --[14
      refine wp_region_held_drew (S := fun w' => Chg (fun y => κ1 y = 4) wc w') (by kernel_rfl) (((Chg.refl _ _).drewN 1)) (fun hHeld => ?_)
      refine held_take 0 (some 56) (v := ?_) rfl rfl (by kernel_rfl) (by kernel_rfl) (by kernel_rfl) (fun _ _ _ h => h) (Or.inl ⟨by rfl, ?_⟩) hHeld ?_
      rotate_left
      · (intro w' hSw; clear hSw; go_simp; try with_reducible rfl)
      try simp only [Act.put, List.setIfInBounds_toArray, List.set_cons_zero, List.set_cons_succ]
      refine held_take 1 (some 57) (v := ?_) rfl rfl (by kernel_rfl) (by kernel_rfl) (by kernel_rfl) (fun _ _ _ h => h) (Or.inl ⟨by rfl, ?_⟩) hHeld ?_
      rotate_left
      · (intro w' hSw; clear hSw; go_simp; try with_reducible rfl)
      try simp only [Act.put, List.setIfInBounds_toArray, List.set_cons_zero, List.set_cons_succ]
      refine held_take 2 (some 58) (v := ?_) rfl rfl (by kernel_rfl) (by kernel_rfl) (by kernel_rfl) (fun _ _ _ h => h) (Or.inl ⟨by rfl, ?_⟩) hHeld ?_
      rotate_left
      · (intro w' hSw; clear hSw; go_simp; try with_reducible rfl)
      try simp only [Act.put, List.setIfInBounds_toArray, List.set_cons_zero, List.set_cons_succ]
      refine held_take 3 (some 59) (v := ?_) rfl rfl (by kernel_rfl) (by kernel_rfl) (by kernel_rfl) (fun _ _ _ h => h) (Or.inl ⟨by rfl, ?_⟩) hHeld ?_
      rotate_left
      · (intro w' hSw; have pf := (hSw.cell (p := ⟨gs, 1, none⟩) HL5.out.2 HN5.out.2).trans (H5.out.ci 1 _ rfl); clear hSw; go_simp; try with_reducible rfl)
      try simp only [Act.put, List.setIfInBounds_toArray, List.set_cons_zero, List.set_cons_succ]
      refine held_take 4 (some 60) (v := ?_) rfl rfl (by kernel_rfl) (by kernel_rfl) (by kernel_rfl) (fun _ _ _ h => h) (Or.inl ⟨by rfl, ?_⟩) hHeld ?_
      rotate_left
      · (intro w' hSw; clear hSw; go_simp; try with_reducible rfl)
      try simp only [Act.put, List.setIfInBounds_toArray, List.set_cons_zero, List.set_cons_succ]
      refine held_take 5 (some 61) (v := .agg (x.1.cells).toArray) rfl rfl (by kernel_rfl) (by kernel_rfl) (by kernel_rfl) (fun _ _ _ h => h) (yieldsIf_load_mid (by rfl) 64 _ rfl g3 (0) rfl (x.1.cells) _ (fun w' h => range_chg HKS5.out h HL5.out.1 HN5.out.1) Tryz.underlying64 rfl (sizeK HXK.out)) hHeld ?_
      try simp only [Act.put, List.setIfInBounds_toArray, List.set_cons_zero, List.set_cons_succ]
      refine held_take 6 (some 62) (v := ?_) rfl rfl (by kernel_rfl) (by kernel_rfl) (by kernel_rfl) (fun _ _ _ h => h) (Or.inl ⟨by rfl, ?_⟩) hHeld ?_
      rotate_left
      · (intro w' hSw; clear hSw; go_simp; try with_reducible rfl)
      try simp only [Act.put, List.setIfInBounds_toArray, List.set_cons_zero, List.set_cons_succ]
      refine held_take 7 (some 63) (v := ?_) rfl rfl (by kernel_rfl) (by kernel_rfl) (by kernel_rfl) (fun _ _ _ h => h) (Or.inl ⟨by rfl, ?_⟩) hHeld ?_
      rotate_left
      · (intro w' hSw; clear hSw; go_simp; try with_reducible rfl)
      try simp only [Act.put, List.setIfInBounds_toArray, List.set_cons_zero, List.set_cons_succ]
      refine held_take 8 (some 64) (v := ?_) rfl rfl (by kernel_rfl) (by kernel_rfl) (by kernel_rfl) (fun _ _ _ h => h) (Or.inl ⟨by rfl, ?_⟩) hHeld ?_
      rotate_left
      · (intro w' hSw; clear hSw; go_simp; try with_reducible rfl)
      try simp only [Act.put, List.setIfInBounds_toArray, List.set_cons_zero, List.set_cons_succ]
      refine held_take 9 (some 65) (v := ?_) rfl rfl (by kernel_rfl) (by kernel_rfl) (by kernel_rfl) (fun _ _ _ h => h) (Or.inl ⟨by rfl, ?_⟩) hHeld ?_
      rotate_left
      · (intro w' hSw; have pf := (hSw.cell (p := ⟨gs, 6, none⟩) HL5.out.2 HN5.out.2).trans (H5.out.ci 6 _ rfl); clear hSw; go_simp; try with_reducible rfl)
      try simp only [Act.put, List.setIfInBounds_toArray, List.set_cons_zero, List.set_cons_succ]
      refine held_take 10 (some 66) (v := ?_) rfl rfl (by kernel_rfl) (by kernel_rfl) (by kernel_rfl) (fun _ _ _ h => h) (Or.inl ⟨by rfl, ?_⟩) hHeld ?_
      rotate_left
      · (intro w' hSw; clear hSw; go_simp; try with_reducible rfl)
      try simp only [Act.put, List.setIfInBounds_toArray, List.set_cons_zero, List.set_cons_succ]
      refine held_take 11 (some 67) (v := ?_) rfl rfl (by kernel_rfl) (by kernel_rfl) (by kernel_rfl) (fun _ _ _ h => h) (Or.inl ⟨by rfl, ?_⟩) hHeld ?_
      rotate_left
      · (intro w' hSw; clear hSw; go_simp; try with_reducible rfl)
      try simp only [Act.put, List.setIfInBounds_toArray, List.set_cons_zero, List.set_cons_succ]
      refine held_take 12 (some 68) (v := ?_) rfl rfl (by kernel_rfl) (by kernel_rfl) (by kernel_rfl) (fun _ _ _ h => h) (Or.inl ⟨by rfl, ?_⟩) hHeld ?_
      rotate_left
      · (intro w' hSw; clear hSw; go_simp; try with_reducible rfl)
      try simp only [Act.put, List.setIfInBounds_toArray, List.set_cons_zero, List.set_cons_succ]
      refine held_take 13 (some 69) (v := ?_) rfl rfl (by kernel_rfl) (by kernel_rfl) (by kernel_rfl) (fun _ _ _ h => h) (Or.inl ⟨by rfl, ?_⟩) hHeld ?_
      rotate_left
      · (intro w' hSw; have pf := (hSw.cell (p := ⟨gs, 4, none⟩) HL5.out.2 HN5.out.2).trans HC4.out; clear hSw; go_simp; try with_reducible rfl)
      try simp only [Act.put, List.setIfInBounds_toArray, List.set_cons_zero, List.set_cons_succ]
      refine held_take 14 (some 70) (v := ?_) rfl rfl (by kernel_rfl) (by kernel_rfl) (by kernel_rfl) (fun _ _ _ h => h) (Or.inl ⟨by rfl, ?_⟩) hHeld ?_
      rotate_left
      · (intro w' hSw; clear hSw; go_simp; try with_reducible rfl)
      try simp only [Act.put, List.setIfInBounds_toArray, List.set_cons_zero, List.set_cons_succ]
      refine held_take 15 (some 71) (v := .agg (plC (q1, n1)).toArray) rfl rfl (by kernel_rfl) (by kernel_rfl) (by kernel_rfl) (fun _ _ _ h => h) (yields_val (by go_simp) (fun W _ => exec_build _ _ rfl #[(0, .int .i64 q1), (1, .int .i64 n1)] (by go_simp) (HBL2.out W))) hHeld ?_
      try simp only [Act.put, List.setIfInBounds_toArray, List.set_cons_zero, List.set_cons_succ]
      refine wpAnyH_ready (rs := [16]) (by kernel_rfl) (by simp) ?_
      refine AllReadyH.cons rfl (fun K hKK => ?_) AllReadyH.nil
      go_simp
      go_at_call 65
      refine (HFP.out).mono ?_
      rintro e w6 ⟨rfl, hc6, hf6⟩
      have hS8 := (hHeld).trans hc6
      refine hKK.out _ _ hS8 (fun hHeld => ?_)
      clear hKK K
      try simp only [Act.put, List.setIfInBounds_toArray, List.set_cons_zero, List.set_cons_succ]
      refine wpAnyH_done (by kernel_rfl) ?_ _
      --]14
      have H6 := Lib.hid ((H5.out.below (Below.refl _ _).drew).fch hc6 hf6)
      obtain ⟨κ3, hκ3⟩ : ∃ κ3, cut κ1 wc.drew.heap.size w6.heap.size 4 = κ3 := ⟨_, rfl⟩
      rw [hκ3] at H6
      have HKF3 := Lib.hid (show ∀ y, κ3 y ≠ 0 → κ1 y ≠ 0 ∨ wc.heap.size ≤ y from fun y hy => by rw [← hκ3] at hy; exact cut_from y hy)
      have hold3 : ∀ y, y < wc.heap.size → κ3 y = κ1 y := fun y hy => by rw [← hκ3]; exact cut_old hy
      have hadl : ad.block < wc.heap.size := HP5.out.ints.lt ad HPA.out.1 (by have h1 := congrArg Prod.snd HX.out.2.1; have h2 : p.data = x.2 := h1; rw [h2]; exact HX.out.1.pos)
      have HKG3 := Lib.hid (show κ3 g3 = 0 ∧ κ3 ad.block = 0 from ⟨(hold3 g3 HL5.out.1).trans HKG.out.1, (hold3 _ hadl).trans HKG.out.2⟩)
      have HADL := Lib.hid (show ad.block < w6.heap.size from Nat.lt_of_lt_of_le hadl hHeld.size)
      have HS6 := Lib.hid hHeld.size
      have HK6 := Lib.hid (range_chg HK5.out hHeld HL5.out.1 HN5.out.1)
      have HP6 := Lib.hid (HP5.out.chg hHeld (fun a ha _ => by rw [HPA.out.1] at ha; injection ha with ha; rw [← ha, HKG.out.2]; decide))
      have HC6 := Lib.hid (HC5.out.trans2 (hHeld.mono (fun y hy => show κ1 y ≠ 0 by omega)) (fun y hy hn => by
        rcases HQ1.out.2.2 y hn with h1 | h1
        · exact h1
        · have := HB1.out.size; have := HB12.out.size; omega))
      have HL6 := Lib.hid (show g3 < w6.heap.size ∧ gs < w6.heap.size ∧ w2.heap.size ≤ wc.heap.size ∧ w.heap.size ≤ w2.heap.size from ⟨Nat.lt_of_lt_of_le HL5.out.1 hHeld.size, row_lt H6.out.row, HS22.out, Nat.le_trans HB1.out.size HB12.out.size⟩)
      have HN6 := Lib.hid (show ¬ (κ3 g3 = 7 ∨ g3 = gs) from by rw [HKG3.out.1]; rintro (h | h); exact absurd h (by decide); have h1 := H6.out.ks; rw [← h, HKG3.out.1] at h1; exact absurd h1 (by decide))
      have HC46 := Lib.hid (show w6.drew.cell? ⟨gs, 4, none⟩ = some (.slice vA1 n1 vc1) from by have := H6.out.ci 4 _ rfl; rw [HN1.out] at this; exact this)
      have HC46' := Lib.hid (show w6.cell? ⟨gs, 4, none⟩ = some (.slice vA1 n1 vc1) from HC46.out)
      have HC46a := Lib.hid (show (w6.alloc (.cells p.cells.toArray 105)).cell? ⟨gs, 4, none⟩ = some (.slice vA1 n1 vc1) from (((Below.refl _ w6).alloc (Nat.le_refl _) _).cell (p := ⟨gs, 4, none⟩) HL6.out.2.1).trans HC46'.out)
      have HOW := Lib.hid (show w6.drew.ownsRow 0 105 34 (.slice vA1 n1 vc1) n1 (flatP M1) from by have := own_chg (R := fun _ => False) H6.out.held.own (Chg.belowAt (Below.refl _ _).drew) (fun _ _ h => h); rw [HN1.out] at this; exact this)
      have HBP := Lib.hid (fun W => build_rowP p HPK.out W)
      have HML := Lib.hid (show n1 + 1 ≤ maxLen ∧ (n1 + 1) * 64 ≤ 140737488355328 from by have h1 := HF1.out.a.size q1; have h2 := HNQ.out; unfold maxLen; omega)
      have HSA := Lib.hid (fun (A7 : Option Addr) (c7 : Nat) (w7 : World) h1 h2 h3 => (HN1.out ▸ H6.out).app (A7 := A7) (c7 := c7) (w7 := w7) HN1.out ((Below.refl _ w6).drew.alloc (Nat.le_refl _) (.cells p.cells.toArray 105)) h2 h1 h3 HP6.out HPA.out.1 HKG3.out.2 HADL.out)
      have HFI := Lib.hid (fun (A7 : Option Addr) (c7 : Nat) (w7 : World) (hS7 : Chg (fun y => κ3 y = 7 ∨ y = gs) w6 (w7.setCell ⟨gs, 4, none⟩ (.slice A7 (n1 + 1) c7))) (hsm7 : Sm (w7.setCell ⟨gs, 4, none⟩ (.slice A7 (n1 + 1) c7)) gs N B (cutP κ3 ad.block w6.heap.size (w7.setCell ⟨gs, 4, none⟩ (.slice A7 (n1 + 1) c7)).heap.size) (L ++ [(x.1, q1, n1)]) q1 (nowF (updP P q1 (P q1 ++ [x])) q1) (.slice A7 (n1 + 1) c7) (M1 ++ [p]) size1 q1 D1 c1) =>
        show (w7.setCell ⟨gs, 4, none⟩ (.slice A7 (n1 + 1) c7)).cell? ⟨gs, 5, none⟩ = some (.int .i64 (size1 : Nat)) ∧ (w7.setCell ⟨gs, 4, none⟩ (.slice A7 (n1 + 1) c7)).frozen? ⟨gs, 5, none⟩ = false ∧ HoldP w gs N B κ E x ad b (.returned (.int .i64 0)) ((w7.setCell ⟨gs, 4, none⟩ (.slice A7 (n1 + 1) c7)).setCell ⟨gs, 5, none⟩ (.int .i64 (more : Nat))) from by
        have hg8 := grown_setCell (w7.setCell ⟨gs, 4, none⟩ (.slice A7 (n1 + 1) c7)) gs 5 (.int .i64 more)
        have hr8 := setCell_row hsm7.row 5 (.int .i64 more)
        have hc8 : Chg (fun y => y = gs) _ _ := (Chg.of hg8).mono (fun y e => by injection e)
        have hs8 := hsm7.rch (size' := more) (at' := q1) (q' := q1) hc8 (by rw [hr8]; rfl)
        refine ⟨hsm7.ci 5 _ rfl, free_row hsm7.row 5, rfl, (HC6.out.trans2 hS7 (fun y hy hn => ?_)).trans2 hc8 (fun y hy hn => by rw [hn]; have := HH.out.sm.ks; omega), _, _, _, _, _, _, _, _, _, _, ⟨hs8, ?_, ?_, ?_, ?_, ?_, ?_, ?_⟩, fun y hy => ?_⟩
        · have hl6 := HL6.out
          rcases hn with h1 | h1
          · rcases HKF3.out y (by omega) with h2 | h2
            · rcases HQ1.out.2.2 y h2 with h3 | h3
              · exact h3
              · omega
            · omega
          · rw [h1, HH.out.sm.ks]; decide
        · have := HF1.out.a.put x HX.out.1 HX.out.2.2.1 HX.out.2.2.2.1 (by have h2 := HQ1.out.2.1; have h3 := HM.out; unfold szD at h2; omega)
          rw [← HNQ.out] at this; exact this
        · intro s hs
          rw [updP_other _ _ (by omega)]; exact HF1.out.laid s hs
        · exact HF1.out.cl
        · rw [updP_same, List.map_append, HF1.out.hkd, List.map_singleton, HX.out.2.1]
        · intro _
          rw [updP_same, szD_snoc, HM.out, ← HMO.out]
          exact ⟨by omega, rfl⟩
        · refine ⟨?_, ?_, HF1.out.bud.lim⟩
          · rw [updP_same, szD_snoc, HM.out]; have := HQ1.out.1; omega
          · rw [List.length_append, List.length_singleton]; exact HX.out.2.2.2.2.2
        · exact HF1.out.cap
        · have hl6 := HL6.out
          rcases cutP_from y hy with h1 | h1 | h1
          · rcases HKF3.out y h1 with h2 | h2
            · rcases HQ1.out.2.2 y h2 with h3 | h3
              · exact .inl h3
              · exact .inr (.inr (by omega))
            · exact .inr (.inr (by omega))
          · exact .inr (.inl h1)
          · exact .inr (.inr (by have := hs8.lim; have := HS6.out; omega)))
      clear hκ3 hold3 hadl hc6 hf6 hHeld HK5 HP5 HC5 HN5 HKS5 HFP HBL2 HC4 H5
      go_upto_region 15 with (fail)
      --[15
      refine wp_region_held_drew (S := fun w' => Chg (fun y => κ3 y = 7 ∨ y = gs) w6 w') (by kernel_rfl) (((Chg.refl _ _).drewN 1)) (fun hHeld => ?_)
      refine held_take 0 (some 73) (v := ?_) rfl rfl (by kernel_rfl) (by kernel_rfl) (by kernel_rfl) (fun _ _ _ h => h) (Or.inl ⟨by rfl, ?_⟩) hHeld ?_
      rotate_left
      · (intro w' hSw; clear hSw; go_simp; try with_reducible rfl)
      try simp only [Act.put, List.setIfInBounds_toArray, List.set_cons_zero, List.set_cons_succ]
      refine held_take 1 (some 74) (v := ?_) rfl rfl (by kernel_rfl) (by kernel_rfl) (by kernel_rfl) (fun _ _ _ h => h) (Or.inl ⟨by rfl, ?_⟩) hHeld ?_
      rotate_left
      · (intro w' hSw; clear hSw; go_simp; try with_reducible rfl)
      try simp only [Act.put, List.setIfInBounds_toArray, List.set_cons_zero, List.set_cons_succ]
      refine held_take 2 (some 75) (v := ?_) rfl rfl (by kernel_rfl) (by kernel_rfl) (by kernel_rfl) (fun _ _ _ h => h) (Or.inl ⟨by rfl, ?_⟩) hHeld ?_
      rotate_left
      · (intro w' hSw; clear hSw; go_simp; try with_reducible rfl)
      try simp only [Act.put, List.setIfInBounds_toArray, List.set_cons_zero, List.set_cons_succ]
      refine held_take 3 (some 76) (v := ?_) rfl rfl (by kernel_rfl) (by kernel_rfl) (by kernel_rfl) (fun _ _ _ h => h) (Or.inl ⟨by rfl, ?_⟩) hHeld ?_
      rotate_left
      · (intro w' hSw; clear hSw; go_simp; try with_reducible rfl)
      try simp only [Act.put, List.setIfInBounds_toArray, List.set_cons_zero, List.set_cons_succ]
      refine held_take 5 (some 78) (v := .agg (p.cells).toArray) rfl rfl (by kernel_rfl) (by kernel_rfl) (by kernel_rfl) (fun _ _ _ h => h) (yieldsIf_load_mid (by rfl) 105 _ rfl g3 (0) rfl (p.cells) _ (fun w' h => range_chg HK6.out h HL6.out.1 HN6.out) Tryz.underlying105 rfl (sizeP HPK.out)) hHeld ?_
      try simp only [Act.put, List.setIfInBounds_toArray, List.set_cons_zero, List.set_cons_succ]
      refine wpAnyH_ready (rs := [4, 6]) (by kernel_rfl) (by simp) ?_
      refine AllReadyH.cons rfl (fun K hKK => ?_) (AllReadyH.cons rfl (fun K hKK => ?_) AllReadyH.nil)
      · go_simp
        try simp only [HC46.out, HC46'.out, HC46a.out]
        go_simp
        refine hKK.out _ _ hHeld (fun hHeld => ?_)
        clear hKK K
        try simp only [Act.put, List.setIfInBounds_toArray, List.set_cons_zero, List.set_cons_succ]
        refine wpAnyH_ready (rs := [6]) (by kernel_rfl) (by simp) ?_
        refine AllReadyH.cons rfl (fun K hKK => ?_) AllReadyH.nil
        have hrB := heap_alloc_last w6.drew (.cells p.cells.toArray 105)
        have hbB := (Below.refl _ (w6.drew)).alloc (Nat.le_refl _) (.cells p.cells.toArray 105)
        have hOB := own_chg (R := fun _ => False) HOW.out (Chg.belowAt hbB) (fun _ _ h => h)
        have hcB := (hbB.cell (p := ⟨gs, 4, none⟩) HL6.out.2.1).trans HC46.out
        have hSB := (hHeld).alloc (.cells p.cells.toArray 105)
        have hsB := (hHeld).size
        refine step_val rfl (exec_buildSlice _ _ _ rfl #[(0, .agg p.cells.toArray)] (by go_simp; try rfl) (HBP.out _)) ?_
        refine hKK.out _ _ hSB (fun hHeld => ?_)
        clear hKK K
        try simp only [Act.put, List.setIfInBounds_toArray, List.set_cons_zero, List.set_cons_succ]
        refine wpAnyH_ready (rs := [7]) (by kernel_rfl) (by simp) ?_
        refine AllReadyH.cons rfl (fun K hKK => ?_) AllReadyH.nil
        refine step_app EP rfl (.tmp 77) (.tmp 79) rfl 0 (.slice vA1 n1 vc1) n1 (flatP M1) (by go_simp) hOB (some ⟨w6.drew.heap.size, 0, none⟩) 1 1 p.cells (by go_simp) (fun h => by cases h) (Pc.cells_length HPK.out) (fun j u hj => ⟨_, rfl, by rw [addr_add0, Nat.zero_add]; exact row_at hrB hj⟩) (Pc.cells_one _) HML.out.1 HML.out.2 (Nat.zero_le _) ?_
        intro v7 w7 hown7 hgrow7 hat7
        obtain ⟨A7, c7, rfl⟩ := own_form34 hown7
        obtain ⟨hcl7, hfr7, hc7, hS7, hsm7⟩ := HSA.out A7 c7 w7 hown7 hgrow7 hat7
        have HS7 := Lib.hid hS7
        have HSM7 := Lib.hid hsm7
        clear hown7 hgrow7 hat7 hsm7 hS7
        refine hKK.out _ _ hc7 (fun hHeld => ?_)
        clear hKK K
        try simp only [Act.put, List.setIfInBounds_toArray, List.set_cons_zero, List.set_cons_succ]
        refine held_take 8 (some 81) (v := ?_) rfl rfl (by kernel_rfl) (by kernel_rfl) (by kernel_rfl) (fun _ _ _ h => h) (Or.inl ⟨by rfl, ?_⟩) hHeld ?_
        rotate_left
        · (intro w' hSw; clear hSw; go_simp; try with_reducible rfl)
        try simp only [Act.put, List.setIfInBounds_toArray, List.set_cons_zero, List.set_cons_succ]
        refine held_take 9 (some 82) (v := ?_) rfl rfl (by kernel_rfl) (by kernel_rfl) (by kernel_rfl) (fun _ _ _ h => h) (Or.inl ⟨by rfl, ?_⟩) hHeld ?_
        rotate_left
        · (intro w' hSw; clear hSw; go_simp; try with_reducible rfl)
        try simp only [Act.put, List.setIfInBounds_toArray, List.set_cons_zero, List.set_cons_succ]
        refine wpAnyH_ready (rs := [10]) (by kernel_rfl) (by simp) ?_
        refine AllReadyH.cons rfl (fun K hKK => ?_) AllReadyH.nil
        go_simp
        try simp only [hcl7, hfr7]
        go_simp
        refine hKK.out _ _ HS7.out (fun hHeld => ?_)
        clear hKK K
        try simp only [Act.put, List.setIfInBounds_toArray, List.set_cons_zero, List.set_cons_succ]
        refine wpAnyH_done (by kernel_rfl) ?_ _
        clear hHeld hcl7 hfr7 hc7
        have HFIN := Lib.hid (HFI.out A7 c7 w7 HS7.out HSM7.out)
        clear HS7 HSM7
        have hc5 := HFIN.out.1
        have hf5 := HFIN.out.2.1
        go_simp
        go_wp2_with fail
        go_ret
        exact HFIN.out.2.2
      · have hrB := heap_alloc_last w6.drew (.cells p.cells.toArray 105)
        have hbB := (Below.refl _ (w6.drew)).alloc (Nat.le_refl _) (.cells p.cells.toArray 105)
        have hOB := own_chg (R := fun _ => False) HOW.out (Chg.belowAt hbB) (fun _ _ h => h)
        have hcB := (hbB.cell (p := ⟨gs, 4, none⟩) HL6.out.2.1).trans HC46.out
        have hSB := (hHeld).alloc (.cells p.cells.toArray 105)
        have hsB := (hHeld).size
        refine step_val rfl (exec_buildSlice _ _ _ rfl #[(0, .agg p.cells.toArray)] (by go_simp; try rfl) (HBP.out _)) ?_
        refine hKK.out _ _ hSB (fun hHeld => ?_)
        clear hKK K
        try simp only [Act.put, List.setIfInBounds_toArray, List.set_cons_zero, List.set_cons_succ]
        refine wpAnyH_ready (rs := [4]) (by kernel_rfl) (by simp) ?_
        refine AllReadyH.cons rfl (fun K hKK => ?_) AllReadyH.nil
        go_simp
        try simp only [hcB, HC46'.out, HC46a.out]
        go_simp
        refine hKK.out _ _ hHeld (fun hHeld => ?_)
        clear hKK K
        try simp only [Act.put, List.setIfInBounds_toArray, List.set_cons_zero, List.set_cons_succ]
        refine wpAnyH_ready (rs := [7]) (by kernel_rfl) (by simp) ?_
        refine AllReadyH.cons rfl (fun K hKK => ?_) AllReadyH.nil
        refine step_app EP rfl (.tmp 77) (.tmp 79) rfl 0 (.slice vA1 n1 vc1) n1 (flatP M1) (by go_simp) hOB (some ⟨w6.drew.heap.size, 0, none⟩) 1 1 p.cells (by go_simp) (fun h => by cases h) (Pc.cells_length HPK.out) (fun j u hj => ⟨_, rfl, by rw [addr_add0, Nat.zero_add]; exact row_at hrB hj⟩) (Pc.cells_one _) HML.out.1 HML.out.2 (Nat.zero_le _) ?_
        intro v7 w7 hown7 hgrow7 hat7
        obtain ⟨A7, c7, rfl⟩ := own_form34 hown7
        obtain ⟨hcl7, hfr7, hc7, hS7, hsm7⟩ := HSA.out A7 c7 w7 hown7 hgrow7 hat7
        have HS7 := Lib.hid hS7
        have HSM7 := Lib.hid hsm7
        clear hown7 hgrow7 hat7 hsm7 hS7
        refine hKK.out _ _ hc7 (fun hHeld => ?_)
        clear hKK K
        try simp only [Act.put, List.setIfInBounds_toArray, List.set_cons_zero, List.set_cons_succ]
        refine held_take 8 (some 81) (v := ?_) rfl rfl (by kernel_rfl) (by kernel_rfl) (by kernel_rfl) (fun _ _ _ h => h) (Or.inl ⟨by rfl, ?_⟩) hHeld ?_
        rotate_left
        · (intro w' hSw; clear hSw; go_simp; try with_reducible rfl)
        try simp only [Act.put, List.setIfInBounds_toArray, List.set_cons_zero, List.set_cons_succ]
        refine held_take 9 (some 82) (v := ?_) rfl rfl (by kernel_rfl) (by kernel_rfl) (by kernel_rfl) (fun _ _ _ h => h) (Or.inl ⟨by rfl, ?_⟩) hHeld ?_
        rotate_left
        · (intro w' hSw; clear hSw; go_simp; try with_reducible rfl)
        try simp only [Act.put, List.setIfInBounds_toArray, List.set_cons_zero, List.set_cons_succ]
        refine wpAnyH_ready (rs := [10]) (by kernel_rfl) (by simp) ?_
        refine AllReadyH.cons rfl (fun K hKK => ?_) AllReadyH.nil
        go_simp
        try simp only [hcl7, hfr7]
        go_simp
        refine hKK.out _ _ HS7.out (fun hHeld => ?_)
        clear hKK K
        try simp only [Act.put, List.setIfInBounds_toArray, List.set_cons_zero, List.set_cons_succ]
        refine wpAnyH_done (by kernel_rfl) ?_ _
        clear hHeld hcl7 hfr7 hc7
        have HFIN := Lib.hid (HFI.out A7 c7 w7 HS7.out HSM7.out)
        clear HS7 HSM7
        have hc5 := HFIN.out.1
        have hf5 := HFIN.out.2.1
        go_simp
        go_wp2_with fail
        go_ret
        exact HFIN.out.2.2
      --]15
end
end Go.Proofs.YtcklcffepedklaaGreat

namespace Go.Proofs.YtcklcffepedklaaGreat
open Go.RowKit Go.Maps

theorem digest_ok (d : List Int) : SumOk (Dg.digestF d) := by
  refine ⟨Dg.digestF_length _, ?_⟩
  intro i
  unfold Dg.digestF Dg.outF
  rw [List.getD_eq_getElem?_getD, List.getElem?_map]
  cases (List.range 32)[i]? with
  | none => simp
  | some j => simp only [Option.map_some, Option.getD_some]; omega
/-- The key that has nothing. -/
def k0 : Ky := ⟨List.replicate 32 0, 0⟩
theorem k0_ok : k0.Ok := ⟨by simp [k0], fun i => by
  show 0 ≤ (List.replicate 32 (0 : Int)).getD i 0 ∧ (List.replicate 32 (0 : Int)).getD i 0 < 256
  rw [List.getD_eq_getElem?_getD, List.getElem?_replicate]; split <;> simp, by decide⟩
theorem build_data (A : Option Addr) (n c : Nat) (w : World) : (Instr.build 105 #[(1, .slice A n c)]).run Tryz.prog w = .ok (.agg (k0.cells ++ [Value.slice A n c]).toArray) w := by
  obtain ⟨i0, hi, hz0, _, _⟩ := info_parts Tryz.infoP
  refine run_build w _ _ _ ?_
  rw [built_struct hi hz0 Tryz.underlying105 (places := [(0, 33), (33, 1)]) (by decide +kernel)]
  rw [fill_cons (off := 33) (size := 1) (vs := [.slice A n c]) rfl rfl rfl (by decide)]
  rw [Instr.fill]
  rfl
theorem build_sum (k : Ky) (h : k.Ok) (h0 : k.n = 0) (w : World) : (Instr.build 64 #[(0, .agg (k.sum.map (Value.int .u8)).toArray)]).run Tryz.prog w = .ok (.agg k.cells.toArray) w := by
  obtain ⟨i0, hi, hz0, _, _⟩ := info_parts Tryz.infoK
  refine run_build w _ _ _ ?_
  have hk : (k.sum.map (Value.int .u8)).length = 32 := by rw [List.length_map, h.len]
  rw [built_struct hi hz0 Tryz.underlying64 (places := [(0, 32), (32, 1)]) (by decide +kernel)]
  rw [fill_cons (off := 0) (size := 32) (vs := k.sum.map (Value.int .u8)) rfl rfl hk (by decide)]
  rw [Instr.fill]
  refine congrArg some (congrArg List.toArray ?_)
  unfold Ky.cells
  rw [h0]
  simp only [List.take_zero, List.nil_append, Nat.zero_add]
  congr 1
theorem build_key0 (w : World) : (Instr.build 64 #[]).run Tryz.prog w = .ok (.agg k0.cells.toArray) w := by
  obtain ⟨i0, hi, hz0, _, _⟩ := info_parts Tryz.infoK
  refine run_build w _ _ _ ?_
  rw [built_struct hi hz0 Tryz.underlying64 (places := [(0, 32), (32, 1)]) (by decide +kernel)]
  rfl
theorem results_cell_2 {P : Program} {fn : Func} {p u t : Tmp} {ty : TypeId} (h : fn.results = #[.cell p ty, .tmp u, .tmp t]) (tmps : Array Value) (w : World) (g : Nat) (tt : TypeId) (cs : Array Value) (fr : Nat × Nat) (d : TypeDesc) (v2 v3 : Value)
    (hp : tmps.getD p undef = .pointer (some ⟨g, 0, none⟩)) (hv : tmps.getD u undef = v2) (hv3 : tmps.getD t undef = v3) (hg : w.heap[g]? = some (.cells cs tt fr))
    (hu : P.underlying ty = some d) (hd : (match d with | .struct _ | .array _ _ => true | _ => false) = true) (hi : (P.info? ty).map (·.size) = some cs.size) :
    (results fn tmps).run P w = .ok (.tuple #[.agg cs, v2, v3]) w := by
  have hp' : tmps[p]?.getD undef = .pointer (some ⟨g, 0, none⟩) := by simpa using hp
  have hv' : tmps[u]?.getD undef = v2 := by simpa using hv
  have hv3' : tmps[t]?.getD undef = v3 := by simpa using hv3
  simp only [results, h]
  simp [Sem.run_bind, hp', hv', hv3', asAddr, run_loadVar_row w g tt ty cs fr d hg hu hd hi]
theorem build_rowB (A : Option Addr) (n c : Nat) (W : World) : (Instr.buildSlice 32 1 #[(0, .slice A n c)]).run Tryz.prog W = .ok (.slice (some ⟨W.heap.size, 0, none⟩) 1 1) (W.alloc (.cells #[.slice A n c] 22)) := by
  obtain ⟨i0, hi, hz0, hz1, _⟩ := info_parts (show (Tryz.prog.info? 22).map (fun i => (i.zero, i.size, i.bytes)) = some (some (.slice none 0 0), 1, 24) by kernel_rfl)
  exact build_one (P := Tryz.prog) (z := .slice none 0 0) (vs := [.slice A n c]) (s := 1) Tryz.underlying32 (fun W => by simp [sizeOf, typeInfo, hi, hz1]) (fun W => zero_run hi hz0 W) rfl (by decide) (by decide) (.slice A n c) rfl W
theorem inRows_one {w : World} {A : Option Addr} {n c : Nat} {d : List Int} (hn : d.length = n) (hnc : n ≤ c) (hI : Ints .u8 w A d) (hB : Bytes d) : Dg.InRows (w.alloc (.cells #[.slice A n c] 22)) (some ⟨w.heap.size, 0, none⟩) [d] := by
  intro i hi
  match i, hi with
  | 0, _ =>
    refine ⟨⟨w.heap.size, 0, none⟩, A, c, rfl, ?_, by simpa [hn] using hnc, hI.below ((Below.refl _ _).alloc (Nat.le_refl _) _), hB⟩
    simp [Addr.add, hn]
theorem own_form33 {w : World} {b : Nat} {v : Value} {n : Nat} {xs : List Value} (h : w.ownsRow b 64 33 v n xs) : ∃ A c, v = .slice A n c := by
  obtain ⟨_, h2⟩ := h
  rcases h2 with ⟨h2, h3⟩ | ⟨g, cap, cur, e, _⟩
  · exact ⟨none, 0, by rw [h2, h3]⟩
  · exact ⟨_, cap, e⟩
theorem own_cell {w : World} {b : Nat} {e : TypeId} {s n c n' : Nat} {A : Option Addr} {xs : List Value} (h : w.ownsRow b e s (.slice A n c) n' xs) {t : Nat} {u : Value} (ht : xs[t]? = some u) (h0 : n' = 0 → xs = []) : ∃ g, A = some ⟨g, 0, none⟩ ∧ w.cell? ⟨g, t, none⟩ = some u := by
  obtain ⟨_, h2⟩ := h
  rcases h2 with ⟨_, h3⟩ | ⟨g, cap, cur, e1, _, hg, hn, hm, hs, htk⟩
  · rw [h0 h3] at ht; simp at ht
  · injection e1 with e1
    refine ⟨g, e1, ?_⟩
    rw [cell_of_row _ _ _ _ _ _ hg]
    rw [← htk, List.getElem?_take] at ht
    split at ht
    · rw [← Array.getElem?_toList]; exact ht
    · cases ht
theorem ownK_range {w : World} {b n c i : Nat} {A : Option Addr} {l : List Ky} {k : Ky} (h : OwnK w b (.slice A n c) l) (hl : ∀ k ∈ l, k.Ok) (hi : l[i]? = some k) : ∃ g, A = some ⟨g, 0, none⟩ ∧ w.rangeAt g (i * 33) k.cells := by
  have hk := hl k (List.mem_of_getElem? hi)
  have h0 : l.length = 0 → flatK l = [] := fun e => by rw [List.length_eq_zero_iff.1 e]; rfl
  obtain ⟨g, hg, _⟩ := own_cell h (flat_at l (fun x hx => Ky.cells_length (hl x hx)) hi (Ky.cells_32 hk)) h0
  refine ⟨g, hg, fun j u hj => ?_⟩
  obtain ⟨g', hg', hc⟩ := own_cell h (flat_at l (fun x hx => Ky.cells_length (hl x hx)) hi hj) h0
  rw [hg] at hg'; injection hg' with hg'; injection hg' with hg'
  rw [hg']; exact hc
theorem key_set (sm : List Int) (i j : Nat) (h : sm.length = 32) : ((⟨sm, i⟩ : Ky).cells.toArray).setIfInBounds 32 (.int .u32 (j : Nat)) = (⟨sm, j⟩ : Ky).cells.toArray := by
  unfold Ky.cells
  rw [List.setIfInBounds_toArray]
  congr 1
  rw [List.set_append_right _ _ (by simp [h])]
  simp [h]
theorem wpList_val_w {P : Program} {ops : Array Oper} {rest : List Oper} {o : Oper} {a : Act} {w w' : World} {Q : Exit → Act → World → Prop} {v : Value} (hw : Region.wanted o (yielded ops a.tmps) = true) (hr : (execOp a.eval o).run P w = .ok (.value v) w') (h : wpList P ops Q rest (a.put o.dst v) w') : wpList P ops Q (o :: rest) a w :=
  BigFrame.wpList_want hw fun K hK => by unfold Oper.wp; rw [hr]; exact hK _ _ h
end Go.Proofs.YtcklcffepedklaaGreat
