/- The document's digest: mix. -/
import Derived.Test.YtehmnkkfoopanaaPressA
namespace Go.Proofs.Ytehmnkkfoopanaa
open Go.RowKit

theorem gd_ne {l : List Int} {i j : Nat} {x : Int} (h : i ≠ j) : (l.set i x).getD j 0 = l.getD j 0 := by
  rw [List.getD_eq_getElem?_getD, List.getElem?_set, if_neg h, List.getD_eq_getElem?_getD]
theorem gd_eq {l : List Int} {i : Nat} {x : Int} (h : i < l.length) : (l.set i x).getD i 0 = x := by
  rw [List.getD_eq_getElem?_getD, List.getElem?_set, if_pos rfl, if_pos h]; rfl
/-- The sixteen words, while four of them are mixed. -/
structure Mx (w0 w : World) (gv : Nat) (V : List Int) : Prop where
  row : w.heap[gv]? = some (.cells (cellsW V) 52 (0, 0))
  v16 : V.length = 16
  gr : w0.grownBy w (some gv)
theorem Mx.set {w0 w : World} {gv : Nat} {V : List Int} (P : Mx w0 w gv V) (k : Nat) (x : Int) : Mx w0 (w.setCell ⟨gv, k, none⟩ (.int .u32 x)) gv (V.set k x) :=
  ⟨by rw [setCell_row P.row, cellsW_set], by rw [List.length_set]; exact P.v16, grown_trans P.gr (grown_setCell _ _ _ _)⟩
theorem Mx.drew {w0 w : World} {gv : Nat} {V : List Int} (P : Mx w0 w gv V) : Mx w0 w.drew gv V := ⟨P.row, P.v16, grown_trans P.gr (grown_drewN (World.grownBy.refl _ _) 1)⟩
theorem Mx.c {w0 w : World} {gv : Nat} {V : List Int} (P : Mx w0 w gv V) (i : Nat) (hi : i < 16) {x : Int} (h : V.getD i 0 = x) : w.cell? ⟨gv, i, none⟩ = some (.int .u32 x) := by rw [cellW_of P.row i (by rw [P.v16]; exact hi), h]
theorem sets_eq (V : List Int) (a b c d : Nat) (h1 : a ≠ b) (h2 : a ≠ c) (h3 : a ≠ d) (h4 : b ≠ c) (h5 : b ≠ d) (h6 : c ≠ d) (a1 b1 c1 d1 a2 b2 c2 d2 : Int) :
    (((((((V.set a a1).set d d1).set c c1).set b b1).set a a2).set d d2).set c c2).set b b2 = (((V.set a a2).set b b2).set c c2).set d d2 := by
  apply List.ext_getElem?
  intro j
  simp only [List.getElem?_set, List.length_set]
  by_cases e1 : a = j
  · subst e1; simp [h1.symm, h2.symm, h3.symm]
  · by_cases e2 : b = j
    · subst e2; simp [h4.symm, h5.symm, h1]
    · by_cases e3 : c = j
      · subst e3; simp [h2, h4, h6.symm]
      · by_cases e4 : d = j
        · subst e4; simp [h3, h5, h6]
        · simp [e1, e2, e3, e4]

set_option maxRecDepth 20000 in
set_option maxHeartbeats 3200000 in
theorem mix_any (gv a b c d : Nat) (V : List Int) (x y : Int) (w : World) (hV : w.heap[gv]? = some (.cells (cellsW V) 52 (0, 0))) (h16 : V.length = 16) (ha : a < 16) (hb : b < 16) (hc : c < 16) (hd : d < 16)
    (h1 : a ≠ b) (h2 : a ≠ c) (h3 : a ≠ d) (h4 : b ≠ c) (h5 : b ≠ d) (h6 : c ≠ d) :
    Calls Try.prog 25 #[.pointer (some ⟨gv, 0, none⟩), .int .i64 a, .int .i64 b, .int .i64 c, .int .i64 d, .int .u32 x, .int .u32 y] w fun e w' => e = .returned (.tuple #[]) ∧ w.grownBy w' (some gv) ∧ w'.heap[gv]? = some (.cells (cellsW (mixL V a b c d x y)) 52 (0, 0)) := by
  have HM0 := Lib.hid (show Mx w w gv V from ⟨hV, h16, World.grownBy.refl _ _⟩)
  obtain ⟨va, hva⟩ : ∃ z, z = V.getD a 0 := ⟨_, rfl⟩
  obtain ⟨vb, hvb⟩ : ∃ z, z = V.getD b 0 := ⟨_, rfl⟩
  obtain ⟨vc, hvc⟩ : ∃ z, z = V.getD c 0 := ⟨_, rfl⟩
  obtain ⟨vd, hvd⟩ : ∃ z, z = V.getD d 0 := ⟨_, rfl⟩
  obtain ⟨a1, ha1⟩ : ∃ z, z = quA va vb x := ⟨_, rfl⟩
  obtain ⟨d1, hd1⟩ : ∃ z, z = quD vd a1 16 := ⟨_, rfl⟩
  obtain ⟨c1, hc1⟩ : ∃ z, z = quC vc d1 := ⟨_, rfl⟩
  obtain ⟨b1, hb1⟩ : ∃ z, z = quD vb c1 12 := ⟨_, rfl⟩
  obtain ⟨a2, ha2⟩ : ∃ z, z = quA a1 b1 y := ⟨_, rfl⟩
  obtain ⟨d2, hd2⟩ : ∃ z, z = quD d1 a2 8 := ⟨_, rfl⟩
  obtain ⟨c2, hc2⟩ : ∃ z, z = quC c1 d2 := ⟨_, rfl⟩
  obtain ⟨b2, hb2⟩ : ∃ z, z = quD b1 c2 7 := ⟨_, rfl⟩
  have HEND := Lib.hid (show mixL V a b c d x y = (((((((V.set a a1).set d d1).set c c1).set b b1).set a a2).set d d2).set c c2).set b b2 by
    rw [sets_eq V a b c d h1 h2 h3 h4 h5 h6]
    unfold mixL quarter
    simp only [← hva, ← hvb, ← hvc, ← hvd, ← ha1, ← hd1, ← hc1, ← hb1, ← ha2, ← hd2, ← hc2, ← hb2])
  have E1 := Lib.hid (show (va + vb + x) % 4294967296 = a1 from ha1.symm)
  have E2 := Lib.hid (show (vc + d1) % 4294967296 = c1 from hc1.symm)
  have E3 := Lib.hid (show (a1 + b1 + y) % 4294967296 = a2 from ha2.symm)
  have E4 := Lib.hid (show (c1 + d2) % 4294967296 = c2 from hc2.symm)
  have R1 := Lib.hid (fun w => right_16 (Go.bits .xor .u32 vd a1) w (U_bits _ _ _))
  rw [show rot (Go.bits .xor .u32 vd a1) 16 = d1 from hd1.symm] at R1
  have R2 := Lib.hid (fun w => right_12 (Go.bits .xor .u32 vb c1) w (U_bits _ _ _))
  rw [show rot (Go.bits .xor .u32 vb c1) 12 = b1 from hb1.symm] at R2
  have R3 := Lib.hid (fun w => right_8 (Go.bits .xor .u32 d1 a2) w (U_bits _ _ _))
  rw [show rot (Go.bits .xor .u32 d1 a2) 8 = d2 from hd2.symm] at R3
  have R4 := Lib.hid (fun w => right_7 (Go.bits .xor .u32 b1 c2) w (U_bits _ _ _))
  rw [show rot (Go.bits .xor .u32 b1 c2) 7 = b2 from hb2.symm] at R4
  have G := Lib.hid (⟨ha, hb, hc, hd⟩ : a < 16 ∧ b < 16 ∧ c < 16 ∧ d < 16)
  have HD := Lib.hid (⟨h1, h2, h3, h4, h5, h6⟩ : a ≠ b ∧ a ≠ c ∧ a ≠ d ∧ b ≠ c ∧ b ≠ d ∧ c ≠ d)
  have ia : (a : Int) < 16 := by omega
  have ib : (b : Int) < 16 := by omega
  have ic : (c : Int) < 16 := by omega
  have id' : (d : Int) < 16 := by omega
  have HVA := Lib.hid hva
  have HVB := Lib.hid hvb
  have HVC := Lib.hid hvc
  have HVD := Lib.hid hvd
  clear hva hvb hvc hvd ha1 hd1 hc1 hb1 ha2 hd2 hc2 hb2 hV h16 h1 h2 h3 h4 h5 h6 ha hb hc hd
  go_enter Try.func25, Try.ntmps25
  have hct : w.cell? ⟨gv, a, none⟩ = some (.int .u32 va) := HM0.out.c a G.out.1 (by obtain ⟨q1, q2, q3, q4⟩ := G.out; obtain ⟨p1, p2, p3, p4, p5, p6⟩ := HD.out; have p1' := p1.symm; have p2' := p2.symm; have p3' := p3.symm; have p4' := p4.symm; have p5' := p5.symm; have p6' := p6.symm; have e1 := HVA.out.symm; have e2 := HVB.out.symm; have e3 := HVC.out.symm; have e4 := HVD.out.symm; have v16 := HM0.out.v16; clear HEND; simp only [gd_eq, gd_ne, ne_eq, not_false_eq_true, List.length_set, *])
  have hco : w.cell? ⟨gv, b, none⟩ = some (.int .u32 vb) := HM0.out.c b G.out.2.1 (by obtain ⟨q1, q2, q3, q4⟩ := G.out; obtain ⟨p1, p2, p3, p4, p5, p6⟩ := HD.out; have p1' := p1.symm; have p2' := p2.symm; have p3' := p3.symm; have p4' := p4.symm; have p5' := p5.symm; have p6' := p6.symm; have e1 := HVA.out.symm; have e2 := HVB.out.symm; have e3 := HVC.out.symm; have e4 := HVD.out.symm; have v16 := HM0.out.v16; clear HEND; simp only [gd_eq, gd_ne, ne_eq, not_false_eq_true, List.length_set, *])
  have hfz := free_row HM0.out.row a
  go_upto_region 0 with (fail)
  have HE := E1.out
  go_upto_region 1 with (go_region)
  clear HE
  obtain ⟨w1, hw⟩ : ∃ z, z = (w.setCell ⟨gv, a, none⟩ (.int .u32 a1)).drew := ⟨_, rfl⟩
  have HM1 := Lib.hid (HM0.out.set a a1 |>.drew)
  rw [← hw] at HM1
  rw [← hw]
  clear hw hct hco hfz
  have hct : w1.cell? ⟨gv, d, none⟩ = some (.int .u32 vd) := HM1.out.c d G.out.2.2.2 (by obtain ⟨q1, q2, q3, q4⟩ := G.out; obtain ⟨p1, p2, p3, p4, p5, p6⟩ := HD.out; have p1' := p1.symm; have p2' := p2.symm; have p3' := p3.symm; have p4' := p4.symm; have p5' := p5.symm; have p6' := p6.symm; have e1 := HVA.out.symm; have e2 := HVB.out.symm; have e3 := HVC.out.symm; have e4 := HVD.out.symm; have v16 := HM0.out.v16; clear HEND; simp only [gd_eq, gd_ne, ne_eq, not_false_eq_true, List.length_set, *])
  have hco : w1.cell? ⟨gv, a, none⟩ = some (.int .u32 a1) := HM1.out.c a G.out.1 (by obtain ⟨q1, q2, q3, q4⟩ := G.out; obtain ⟨p1, p2, p3, p4, p5, p6⟩ := HD.out; have p1' := p1.symm; have p2' := p2.symm; have p3' := p3.symm; have p4' := p4.symm; have p5' := p5.symm; have p6' := p6.symm; have e1 := HVA.out.symm; have e2 := HVB.out.symm; have e3 := HVC.out.symm; have e4 := HVD.out.symm; have v16 := HM0.out.v16; clear HEND; simp only [gd_eq, gd_ne, ne_eq, not_false_eq_true, List.length_set, *])
  have hfz := free_row HM1.out.row d
  go_upto_region 1 with (fail)
  refine wp_region_held_drew (S := fun _ => True) (by kernel_rfl) trivial (fun hHeld => ?_)
  refine held_take 0 (some 31) (v := ?_) rfl rfl (by kernel_rfl) (by kernel_rfl) (by kernel_rfl) (fun _ _ _ h => h) (Or.inl ⟨by rfl, ?_⟩) hHeld ?_
  rotate_left
  · (intro w' hSw; clear hSw; go_simp; try with_reducible rfl)
  try simp only [Act.put, List.setIfInBounds_toArray, List.set_cons_zero, List.set_cons_succ]
  refine held_take 1 (some 32) (v := ?_) rfl rfl (by kernel_rfl) (by kernel_rfl) (by kernel_rfl) (fun _ _ _ h => h) (Or.inl ⟨by rfl, ?_⟩) hHeld ?_
  rotate_left
  · (intro w' hSw; clear hSw; go_simp; try with_reducible rfl)
  try simp only [Act.put, List.setIfInBounds_toArray, List.set_cons_zero, List.set_cons_succ]
  refine held_take 2 (some 33) (v := ?_) rfl rfl (by kernel_rfl) (by kernel_rfl) (by kernel_rfl) (fun _ _ _ h => h) (Or.inl ⟨by rfl, ?_⟩) hHeld ?_
  rotate_left
  · (intro w' hSw; clear hSw; go_simp; try with_reducible rfl)
  try simp only [Act.put, List.setIfInBounds_toArray, List.set_cons_zero, List.set_cons_succ]
  refine held_take 3 (some 34) (v := ?_) rfl rfl (by kernel_rfl) (by kernel_rfl) (by kernel_rfl) (fun _ _ _ h => h) (Or.inl ⟨by rfl, ?_⟩) hHeld ?_
  rotate_left
  · (intro w' hSw; clear hSw; go_simp; try with_reducible rfl)
  try simp only [Act.put, List.setIfInBounds_toArray, List.set_cons_zero, List.set_cons_succ]
  refine held_take 4 (some 35) (v := ?_) rfl rfl (by kernel_rfl) (by kernel_rfl) (by kernel_rfl) (fun _ _ _ h => h) (Or.inl ⟨by rfl, ?_⟩) hHeld ?_
  rotate_left
  · (intro w' hSw; clear hSw; go_simp; try with_reducible rfl)
  try simp only [Act.put, List.setIfInBounds_toArray, List.set_cons_zero, List.set_cons_succ]
  refine held_take 5 (some 36) (v := ?_) rfl rfl (by kernel_rfl) (by kernel_rfl) (by kernel_rfl) (fun _ _ _ h => h) (Or.inl ⟨by rfl, ?_⟩) hHeld ?_
  rotate_left
  · (intro w' hSw; clear hSw; go_simp; try with_reducible rfl)
  try simp only [Act.put, List.setIfInBounds_toArray, List.set_cons_zero, List.set_cons_succ]
  refine held_take 7 (some 38) (v := ?_) rfl rfl (by kernel_rfl) (by kernel_rfl) (by kernel_rfl) (fun _ _ _ h => h) (Or.inl ⟨by rfl, ?_⟩) hHeld ?_
  rotate_left
  · (intro w' hSw; clear hSw; go_simp; try with_reducible rfl)
  try simp only [Act.put, List.setIfInBounds_toArray, List.set_cons_zero, List.set_cons_succ]
  refine held_take 8 (some 39) (v := ?_) rfl rfl (by kernel_rfl) (by kernel_rfl) (by kernel_rfl) (fun _ _ _ h => h) (Or.inl ⟨by rfl, ?_⟩) hHeld ?_
  rotate_left
  · (intro w' hSw; clear hSw; go_simp; try with_reducible rfl)
  try simp only [Act.put, List.setIfInBounds_toArray, List.set_cons_zero, List.set_cons_succ]
  refine held_take 9 (some 40) (v := ?_) rfl rfl (by kernel_rfl) (by kernel_rfl) (by kernel_rfl) (fun _ _ _ h => h) (Or.inl ⟨by rfl, ?_⟩) hHeld ?_
  rotate_left
  · (intro w' hSw; clear hSw; go_simp; try with_reducible rfl)
  try simp only [Act.put, List.setIfInBounds_toArray, List.set_cons_zero, List.set_cons_succ]
  refine held_take 10 (some 41) (v := ?_) rfl rfl (by kernel_rfl) (by kernel_rfl) (by kernel_rfl) (fun _ _ _ h => h) (Or.inl ⟨by rfl, ?_⟩) hHeld ?_
  rotate_left
  · (intro w' hSw; clear hSw; go_simp; try with_reducible rfl)
  try simp only [Act.put, List.setIfInBounds_toArray, List.set_cons_zero, List.set_cons_succ]
  refine held_take 14 (some 45) (v := ?_) rfl rfl (by kernel_rfl) (by kernel_rfl) (by kernel_rfl) (fun _ _ _ h => h) (Or.inl ⟨by rfl, ?_⟩) hHeld ?_
  rotate_left
  · (intro w' hSw; clear hSw; go_simp; try with_reducible rfl)
  try simp only [Act.put, List.setIfInBounds_toArray, List.set_cons_zero, List.set_cons_succ]
  apply shared
  · intro final
    refine wpAnyH_ready (rs := [6, 11]) (by kernel_rfl) (by simp) ?_
    refine AllReadyH.cons rfl (fun K hKK => ?_) (AllReadyH.cons rfl (fun K hKK => ?_) AllReadyH.nil)
    · go_simp
      refine hKK.out _ _ trivial (fun _ => ?_)
      clear hKK K
      try simp only [Act.put, List.setIfInBounds_toArray, List.set_cons_zero, List.set_cons_succ]
      refine wpAnyH_ready (rs := [11]) (by kernel_rfl) (by simp) ?_
      refine AllReadyH.cons rfl (fun K hKK => ?_) AllReadyH.nil
      · go_simp
        refine hKK.out _ _ trivial (fun _ => ?_)
        clear hKK K
        try simp only [Act.put, List.setIfInBounds_toArray, List.set_cons_zero, List.set_cons_succ]
        exact final
    · go_simp
      refine hKK.out _ _ trivial (fun _ => ?_)
      clear hKK K
      try simp only [Act.put, List.setIfInBounds_toArray, List.set_cons_zero, List.set_cons_succ]
      refine wpAnyH_ready (rs := [6]) (by kernel_rfl) (by simp) ?_
      refine AllReadyH.cons rfl (fun K hKK => ?_) AllReadyH.nil
      · go_simp
        refine hKK.out _ _ trivial (fun _ => ?_)
        clear hKK K
        try simp only [Act.put, List.setIfInBounds_toArray, List.set_cons_zero, List.set_cons_succ]
        exact final
  refine held_take 12 (some 43) (v := ?_) rfl rfl (by kernel_rfl) (by kernel_rfl) (by kernel_rfl) (fun _ _ _ h => h) (Or.inl ⟨by rfl, ?_⟩) hHeld ?_
  rotate_left
  · (intro w' hSw; clear hSw; go_simp; try with_reducible rfl)
  try simp only [Act.put, List.setIfInBounds_toArray, List.set_cons_zero, List.set_cons_succ]
  refine wpAnyH_ready (rs := [13]) (by kernel_rfl) (by simp) ?_
  refine AllReadyH.cons rfl (fun K hKK => ?_) AllReadyH.nil
  go_simp
  go_at_call 29
  refine (R1.out _).mono ?_
  rintro e zq ⟨rfl, rfl⟩
  refine hKK.out _ _ trivial (fun hHeld => ?_)
  clear hKK K
  try simp only [Act.put, List.setIfInBounds_toArray, List.set_cons_zero, List.set_cons_succ]
  refine held_take 15 (some 46) (v := ?_) rfl rfl (by kernel_rfl) (by kernel_rfl) (by kernel_rfl) (fun _ _ _ h => h) (Or.inl ⟨by rfl, ?_⟩) hHeld ?_
  rotate_left
  · (intro w' hSw; clear hSw; go_simp; try with_reducible rfl)
  try simp only [Act.put, List.setIfInBounds_toArray, List.set_cons_zero, List.set_cons_succ]
  refine wpAnyH_ready (rs := [16]) (by kernel_rfl) (by simp) ?_
  refine AllReadyH.cons rfl (fun K hKK => ?_) AllReadyH.nil
  go_simp
  refine hKK.out _ _ trivial (fun hHeld => ?_)
  clear hKK K
  try simp only [Act.put, List.setIfInBounds_toArray, List.set_cons_zero, List.set_cons_succ]
  refine wpAnyH_done (by kernel_rfl) ?_ _
  obtain ⟨w2, hw⟩ : ∃ z, z = (w1.setCell ⟨gv, d, none⟩ (.int .u32 d1)).drew.drew := ⟨_, rfl⟩
  have HM2 := Lib.hid ((HM1.out.set d d1).drew.drew)
  rw [← hw] at HM2
  rw [← hw]
  clear hw hct hco hfz
  have hct : w2.cell? ⟨gv, c, none⟩ = some (.int .u32 vc) := HM2.out.c c G.out.2.2.1 (by obtain ⟨q1, q2, q3, q4⟩ := G.out; obtain ⟨p1, p2, p3, p4, p5, p6⟩ := HD.out; have p1' := p1.symm; have p2' := p2.symm; have p3' := p3.symm; have p4' := p4.symm; have p5' := p5.symm; have p6' := p6.symm; have e1 := HVA.out.symm; have e2 := HVB.out.symm; have e3 := HVC.out.symm; have e4 := HVD.out.symm; have v16 := HM0.out.v16; clear HEND; simp only [gd_eq, gd_ne, ne_eq, not_false_eq_true, List.length_set, *])
  have hco : w2.cell? ⟨gv, d, none⟩ = some (.int .u32 d1) := HM2.out.c d G.out.2.2.2 (by obtain ⟨q1, q2, q3, q4⟩ := G.out; obtain ⟨p1, p2, p3, p4, p5, p6⟩ := HD.out; have p1' := p1.symm; have p2' := p2.symm; have p3' := p3.symm; have p4' := p4.symm; have p5' := p5.symm; have p6' := p6.symm; have e1 := HVA.out.symm; have e2 := HVB.out.symm; have e3 := HVC.out.symm; have e4 := HVD.out.symm; have v16 := HM0.out.v16; clear HEND; simp only [gd_eq, gd_ne, ne_eq, not_false_eq_true, List.length_set, *])
  have hfz := free_row HM2.out.row c
  go_upto_region 2 with (fail)
  have HE := E2.out
  go_upto_region 3 with (go_region)
  clear HE
  obtain ⟨w3, hw⟩ : ∃ z, z = (w2.setCell ⟨gv, c, none⟩ (.int .u32 c1)).drew := ⟨_, rfl⟩
  have HM3 := Lib.hid (HM2.out.set c c1 |>.drew)
  rw [← hw] at HM3
  rw [← hw]
  clear hw hct hco hfz
  have hct : w3.cell? ⟨gv, b, none⟩ = some (.int .u32 vb) := HM3.out.c b G.out.2.1 (by obtain ⟨q1, q2, q3, q4⟩ := G.out; obtain ⟨p1, p2, p3, p4, p5, p6⟩ := HD.out; have p1' := p1.symm; have p2' := p2.symm; have p3' := p3.symm; have p4' := p4.symm; have p5' := p5.symm; have p6' := p6.symm; have e1 := HVA.out.symm; have e2 := HVB.out.symm; have e3 := HVC.out.symm; have e4 := HVD.out.symm; have v16 := HM0.out.v16; clear HEND; simp only [gd_eq, gd_ne, ne_eq, not_false_eq_true, List.length_set, *])
  have hco : w3.cell? ⟨gv, c, none⟩ = some (.int .u32 c1) := HM3.out.c c G.out.2.2.1 (by obtain ⟨q1, q2, q3, q4⟩ := G.out; obtain ⟨p1, p2, p3, p4, p5, p6⟩ := HD.out; have p1' := p1.symm; have p2' := p2.symm; have p3' := p3.symm; have p4' := p4.symm; have p5' := p5.symm; have p6' := p6.symm; have e1 := HVA.out.symm; have e2 := HVB.out.symm; have e3 := HVC.out.symm; have e4 := HVD.out.symm; have v16 := HM0.out.v16; clear HEND; simp only [gd_eq, gd_ne, ne_eq, not_false_eq_true, List.length_set, *])
  have hfz := free_row HM3.out.row b
  go_upto_region 3 with (fail)
  refine wp_region_held_drew (S := fun _ => True) (by kernel_rfl) trivial (fun hHeld => ?_)
  refine held_take 0 (some 62) (v := ?_) rfl rfl (by kernel_rfl) (by kernel_rfl) (by kernel_rfl) (fun _ _ _ h => h) (Or.inl ⟨by rfl, ?_⟩) hHeld ?_
  rotate_left
  · (intro w' hSw; clear hSw; go_simp; try with_reducible rfl)
  try simp only [Act.put, List.setIfInBounds_toArray, List.set_cons_zero, List.set_cons_succ]
  refine held_take 1 (some 63) (v := ?_) rfl rfl (by kernel_rfl) (by kernel_rfl) (by kernel_rfl) (fun _ _ _ h => h) (Or.inl ⟨by rfl, ?_⟩) hHeld ?_
  rotate_left
  · (intro w' hSw; clear hSw; go_simp; try with_reducible rfl)
  try simp only [Act.put, List.setIfInBounds_toArray, List.set_cons_zero, List.set_cons_succ]
  refine held_take 2 (some 64) (v := ?_) rfl rfl (by kernel_rfl) (by kernel_rfl) (by kernel_rfl) (fun _ _ _ h => h) (Or.inl ⟨by rfl, ?_⟩) hHeld ?_
  rotate_left
  · (intro w' hSw; clear hSw; go_simp; try with_reducible rfl)
  try simp only [Act.put, List.setIfInBounds_toArray, List.set_cons_zero, List.set_cons_succ]
  refine held_take 3 (some 65) (v := ?_) rfl rfl (by kernel_rfl) (by kernel_rfl) (by kernel_rfl) (fun _ _ _ h => h) (Or.inl ⟨by rfl, ?_⟩) hHeld ?_
  rotate_left
  · (intro w' hSw; clear hSw; go_simp; try with_reducible rfl)
  try simp only [Act.put, List.setIfInBounds_toArray, List.set_cons_zero, List.set_cons_succ]
  refine held_take 4 (some 66) (v := ?_) rfl rfl (by kernel_rfl) (by kernel_rfl) (by kernel_rfl) (fun _ _ _ h => h) (Or.inl ⟨by rfl, ?_⟩) hHeld ?_
  rotate_left
  · (intro w' hSw; clear hSw; go_simp; try with_reducible rfl)
  try simp only [Act.put, List.setIfInBounds_toArray, List.set_cons_zero, List.set_cons_succ]
  refine held_take 5 (some 67) (v := ?_) rfl rfl (by kernel_rfl) (by kernel_rfl) (by kernel_rfl) (fun _ _ _ h => h) (Or.inl ⟨by rfl, ?_⟩) hHeld ?_
  rotate_left
  · (intro w' hSw; clear hSw; go_simp; try with_reducible rfl)
  try simp only [Act.put, List.setIfInBounds_toArray, List.set_cons_zero, List.set_cons_succ]
  refine held_take 7 (some 69) (v := ?_) rfl rfl (by kernel_rfl) (by kernel_rfl) (by kernel_rfl) (fun _ _ _ h => h) (Or.inl ⟨by rfl, ?_⟩) hHeld ?_
  rotate_left
  · (intro w' hSw; clear hSw; go_simp; try with_reducible rfl)
  try simp only [Act.put, List.setIfInBounds_toArray, List.set_cons_zero, List.set_cons_succ]
  refine held_take 8 (some 70) (v := ?_) rfl rfl (by kernel_rfl) (by kernel_rfl) (by kernel_rfl) (fun _ _ _ h => h) (Or.inl ⟨by rfl, ?_⟩) hHeld ?_
  rotate_left
  · (intro w' hSw; clear hSw; go_simp; try with_reducible rfl)
  try simp only [Act.put, List.setIfInBounds_toArray, List.set_cons_zero, List.set_cons_succ]
  refine held_take 9 (some 71) (v := ?_) rfl rfl (by kernel_rfl) (by kernel_rfl) (by kernel_rfl) (fun _ _ _ h => h) (Or.inl ⟨by rfl, ?_⟩) hHeld ?_
  rotate_left
  · (intro w' hSw; clear hSw; go_simp; try with_reducible rfl)
  try simp only [Act.put, List.setIfInBounds_toArray, List.set_cons_zero, List.set_cons_succ]
  refine held_take 10 (some 72) (v := ?_) rfl rfl (by kernel_rfl) (by kernel_rfl) (by kernel_rfl) (fun _ _ _ h => h) (Or.inl ⟨by rfl, ?_⟩) hHeld ?_
  rotate_left
  · (intro w' hSw; clear hSw; go_simp; try with_reducible rfl)
  try simp only [Act.put, List.setIfInBounds_toArray, List.set_cons_zero, List.set_cons_succ]
  refine held_take 14 (some 76) (v := ?_) rfl rfl (by kernel_rfl) (by kernel_rfl) (by kernel_rfl) (fun _ _ _ h => h) (Or.inl ⟨by rfl, ?_⟩) hHeld ?_
  rotate_left
  · (intro w' hSw; clear hSw; go_simp; try with_reducible rfl)
  try simp only [Act.put, List.setIfInBounds_toArray, List.set_cons_zero, List.set_cons_succ]
  apply shared
  · intro final
    refine wpAnyH_ready (rs := [6, 11]) (by kernel_rfl) (by simp) ?_
    refine AllReadyH.cons rfl (fun K hKK => ?_) (AllReadyH.cons rfl (fun K hKK => ?_) AllReadyH.nil)
    · go_simp
      refine hKK.out _ _ trivial (fun _ => ?_)
      clear hKK K
      try simp only [Act.put, List.setIfInBounds_toArray, List.set_cons_zero, List.set_cons_succ]
      refine wpAnyH_ready (rs := [11]) (by kernel_rfl) (by simp) ?_
      refine AllReadyH.cons rfl (fun K hKK => ?_) AllReadyH.nil
      · go_simp
        refine hKK.out _ _ trivial (fun _ => ?_)
        clear hKK K
        try simp only [Act.put, List.setIfInBounds_toArray, List.set_cons_zero, List.set_cons_succ]
        exact final
    · go_simp
      refine hKK.out _ _ trivial (fun _ => ?_)
      clear hKK K
      try simp only [Act.put, List.setIfInBounds_toArray, List.set_cons_zero, List.set_cons_succ]
      refine wpAnyH_ready (rs := [6]) (by kernel_rfl) (by simp) ?_
      refine AllReadyH.cons rfl (fun K hKK => ?_) AllReadyH.nil
      · go_simp
        refine hKK.out _ _ trivial (fun _ => ?_)
        clear hKK K
        try simp only [Act.put, List.setIfInBounds_toArray, List.set_cons_zero, List.set_cons_succ]
        exact final
  refine held_take 12 (some 74) (v := ?_) rfl rfl (by kernel_rfl) (by kernel_rfl) (by kernel_rfl) (fun _ _ _ h => h) (Or.inl ⟨by rfl, ?_⟩) hHeld ?_
  rotate_left
  · (intro w' hSw; clear hSw; go_simp; try with_reducible rfl)
  try simp only [Act.put, List.setIfInBounds_toArray, List.set_cons_zero, List.set_cons_succ]
  refine wpAnyH_ready (rs := [13]) (by kernel_rfl) (by simp) ?_
  refine AllReadyH.cons rfl (fun K hKK => ?_) AllReadyH.nil
  go_simp
  go_at_call 29
  refine (R2.out _).mono ?_
  rintro e zq ⟨rfl, rfl⟩
  refine hKK.out _ _ trivial (fun hHeld => ?_)
  clear hKK K
  try simp only [Act.put, List.setIfInBounds_toArray, List.set_cons_zero, List.set_cons_succ]
  refine held_take 15 (some 77) (v := ?_) rfl rfl (by kernel_rfl) (by kernel_rfl) (by kernel_rfl) (fun _ _ _ h => h) (Or.inl ⟨by rfl, ?_⟩) hHeld ?_
  rotate_left
  · (intro w' hSw; clear hSw; go_simp; try with_reducible rfl)
  try simp only [Act.put, List.setIfInBounds_toArray, List.set_cons_zero, List.set_cons_succ]
  refine wpAnyH_ready (rs := [16]) (by kernel_rfl) (by simp) ?_
  refine AllReadyH.cons rfl (fun K hKK => ?_) AllReadyH.nil
  go_simp
  refine hKK.out _ _ trivial (fun hHeld => ?_)
  clear hKK K
  try simp only [Act.put, List.setIfInBounds_toArray, List.set_cons_zero, List.set_cons_succ]
  refine wpAnyH_done (by kernel_rfl) ?_ _
  obtain ⟨w4, hw⟩ : ∃ z, z = (w3.setCell ⟨gv, b, none⟩ (.int .u32 b1)).drew.drew := ⟨_, rfl⟩
  have HM4 := Lib.hid ((HM3.out.set b b1).drew.drew)
  rw [← hw] at HM4
  rw [← hw]
  clear hw hct hco hfz
  have hct : w4.cell? ⟨gv, a, none⟩ = some (.int .u32 a1) := HM4.out.c a G.out.1 (by obtain ⟨q1, q2, q3, q4⟩ := G.out; obtain ⟨p1, p2, p3, p4, p5, p6⟩ := HD.out; have p1' := p1.symm; have p2' := p2.symm; have p3' := p3.symm; have p4' := p4.symm; have p5' := p5.symm; have p6' := p6.symm; have e1 := HVA.out.symm; have e2 := HVB.out.symm; have e3 := HVC.out.symm; have e4 := HVD.out.symm; have v16 := HM0.out.v16; clear HEND; simp only [gd_eq, gd_ne, ne_eq, not_false_eq_true, List.length_set, *])
  have hco : w4.cell? ⟨gv, b, none⟩ = some (.int .u32 b1) := HM4.out.c b G.out.2.1 (by obtain ⟨q1, q2, q3, q4⟩ := G.out; obtain ⟨p1, p2, p3, p4, p5, p6⟩ := HD.out; have p1' := p1.symm; have p2' := p2.symm; have p3' := p3.symm; have p4' := p4.symm; have p5' := p5.symm; have p6' := p6.symm; have e1 := HVA.out.symm; have e2 := HVB.out.symm; have e3 := HVC.out.symm; have e4 := HVD.out.symm; have v16 := HM0.out.v16; clear HEND; simp only [gd_eq, gd_ne, ne_eq, not_false_eq_true, List.length_set, *])
  have hfz := free_row HM4.out.row a
  go_upto_region 4 with (fail)
  have HE := E3.out
  go_upto_region 5 with (go_region)
  clear HE
  obtain ⟨w5, hw⟩ : ∃ z, z = (w4.setCell ⟨gv, a, none⟩ (.int .u32 a2)).drew := ⟨_, rfl⟩
  have HM5 := Lib.hid (HM4.out.set a a2 |>.drew)
  rw [← hw] at HM5
  rw [← hw]
  clear hw hct hco hfz
  have hct : w5.cell? ⟨gv, d, none⟩ = some (.int .u32 d1) := HM5.out.c d G.out.2.2.2 (by obtain ⟨q1, q2, q3, q4⟩ := G.out; obtain ⟨p1, p2, p3, p4, p5, p6⟩ := HD.out; have p1' := p1.symm; have p2' := p2.symm; have p3' := p3.symm; have p4' := p4.symm; have p5' := p5.symm; have p6' := p6.symm; have e1 := HVA.out.symm; have e2 := HVB.out.symm; have e3 := HVC.out.symm; have e4 := HVD.out.symm; have v16 := HM0.out.v16; clear HEND; simp only [gd_eq, gd_ne, ne_eq, not_false_eq_true, List.length_set, *])
  have hco : w5.cell? ⟨gv, a, none⟩ = some (.int .u32 a2) := HM5.out.c a G.out.1 (by obtain ⟨q1, q2, q3, q4⟩ := G.out; obtain ⟨p1, p2, p3, p4, p5, p6⟩ := HD.out; have p1' := p1.symm; have p2' := p2.symm; have p3' := p3.symm; have p4' := p4.symm; have p5' := p5.symm; have p6' := p6.symm; have e1 := HVA.out.symm; have e2 := HVB.out.symm; have e3 := HVC.out.symm; have e4 := HVD.out.symm; have v16 := HM0.out.v16; clear HEND; simp only [gd_eq, gd_ne, ne_eq, not_false_eq_true, List.length_set, *])
  have hfz := free_row HM5.out.row d
  go_upto_region 5 with (fail)
  refine wp_region_held_drew (S := fun _ => True) (by kernel_rfl) trivial (fun hHeld => ?_)
  refine held_take 0 (some 95) (v := ?_) rfl rfl (by kernel_rfl) (by kernel_rfl) (by kernel_rfl) (fun _ _ _ h => h) (Or.inl ⟨by rfl, ?_⟩) hHeld ?_
  rotate_left
  · (intro w' hSw; clear hSw; go_simp; try with_reducible rfl)
  try simp only [Act.put, List.setIfInBounds_toArray, List.set_cons_zero, List.set_cons_succ]
  refine held_take 1 (some 96) (v := ?_) rfl rfl (by kernel_rfl) (by kernel_rfl) (by kernel_rfl) (fun _ _ _ h => h) (Or.inl ⟨by rfl, ?_⟩) hHeld ?_
  rotate_left
  · (intro w' hSw; clear hSw; go_simp; try with_reducible rfl)
  try simp only [Act.put, List.setIfInBounds_toArray, List.set_cons_zero, List.set_cons_succ]
  refine held_take 2 (some 97) (v := ?_) rfl rfl (by kernel_rfl) (by kernel_rfl) (by kernel_rfl) (fun _ _ _ h => h) (Or.inl ⟨by rfl, ?_⟩) hHeld ?_
  rotate_left
  · (intro w' hSw; clear hSw; go_simp; try with_reducible rfl)
  try simp only [Act.put, List.setIfInBounds_toArray, List.set_cons_zero, List.set_cons_succ]
  refine held_take 3 (some 98) (v := ?_) rfl rfl (by kernel_rfl) (by kernel_rfl) (by kernel_rfl) (fun _ _ _ h => h) (Or.inl ⟨by rfl, ?_⟩) hHeld ?_
  rotate_left
  · (intro w' hSw; clear hSw; go_simp; try with_reducible rfl)
  try simp only [Act.put, List.setIfInBounds_toArray, List.set_cons_zero, List.set_cons_succ]
  refine held_take 4 (some 99) (v := ?_) rfl rfl (by kernel_rfl) (by kernel_rfl) (by kernel_rfl) (fun _ _ _ h => h) (Or.inl ⟨by rfl, ?_⟩) hHeld ?_
  rotate_left
  · (intro w' hSw; clear hSw; go_simp; try with_reducible rfl)
  try simp only [Act.put, List.setIfInBounds_toArray, List.set_cons_zero, List.set_cons_succ]
  refine held_take 5 (some 100) (v := ?_) rfl rfl (by kernel_rfl) (by kernel_rfl) (by kernel_rfl) (fun _ _ _ h => h) (Or.inl ⟨by rfl, ?_⟩) hHeld ?_
  rotate_left
  · (intro w' hSw; clear hSw; go_simp; try with_reducible rfl)
  try simp only [Act.put, List.setIfInBounds_toArray, List.set_cons_zero, List.set_cons_succ]
  refine held_take 7 (some 102) (v := ?_) rfl rfl (by kernel_rfl) (by kernel_rfl) (by kernel_rfl) (fun _ _ _ h => h) (Or.inl ⟨by rfl, ?_⟩) hHeld ?_
  rotate_left
  · (intro w' hSw; clear hSw; go_simp; try with_reducible rfl)
  try simp only [Act.put, List.setIfInBounds_toArray, List.set_cons_zero, List.set_cons_succ]
  refine held_take 8 (some 103) (v := ?_) rfl rfl (by kernel_rfl) (by kernel_rfl) (by kernel_rfl) (fun _ _ _ h => h) (Or.inl ⟨by rfl, ?_⟩) hHeld ?_
  rotate_left
  · (intro w' hSw; clear hSw; go_simp; try with_reducible rfl)
  try simp only [Act.put, List.setIfInBounds_toArray, List.set_cons_zero, List.set_cons_succ]
  refine held_take 9 (some 104) (v := ?_) rfl rfl (by kernel_rfl) (by kernel_rfl) (by kernel_rfl) (fun _ _ _ h => h) (Or.inl ⟨by rfl, ?_⟩) hHeld ?_
  rotate_left
  · (intro w' hSw; clear hSw; go_simp; try with_reducible rfl)
  try simp only [Act.put, List.setIfInBounds_toArray, List.set_cons_zero, List.set_cons_succ]
  refine held_take 10 (some 105) (v := ?_) rfl rfl (by kernel_rfl) (by kernel_rfl) (by kernel_rfl) (fun _ _ _ h => h) (Or.inl ⟨by rfl, ?_⟩) hHeld ?_
  rotate_left
  · (intro w' hSw; clear hSw; go_simp; try with_reducible rfl)
  try simp only [Act.put, List.setIfInBounds_toArray, List.set_cons_zero, List.set_cons_succ]
  refine held_take 14 (some 109) (v := ?_) rfl rfl (by kernel_rfl) (by kernel_rfl) (by kernel_rfl) (fun _ _ _ h => h) (Or.inl ⟨by rfl, ?_⟩) hHeld ?_
  rotate_left
  · (intro w' hSw; clear hSw; go_simp; try with_reducible rfl)
  try simp only [Act.put, List.setIfInBounds_toArray, List.set_cons_zero, List.set_cons_succ]
  apply shared
  · intro final
    refine wpAnyH_ready (rs := [6, 11]) (by kernel_rfl) (by simp) ?_
    refine AllReadyH.cons rfl (fun K hKK => ?_) (AllReadyH.cons rfl (fun K hKK => ?_) AllReadyH.nil)
    · go_simp
      refine hKK.out _ _ trivial (fun _ => ?_)
      clear hKK K
      try simp only [Act.put, List.setIfInBounds_toArray, List.set_cons_zero, List.set_cons_succ]
      refine wpAnyH_ready (rs := [11]) (by kernel_rfl) (by simp) ?_
      refine AllReadyH.cons rfl (fun K hKK => ?_) AllReadyH.nil
      · go_simp
        refine hKK.out _ _ trivial (fun _ => ?_)
        clear hKK K
        try simp only [Act.put, List.setIfInBounds_toArray, List.set_cons_zero, List.set_cons_succ]
        exact final
    · go_simp
      refine hKK.out _ _ trivial (fun _ => ?_)
      clear hKK K
      try simp only [Act.put, List.setIfInBounds_toArray, List.set_cons_zero, List.set_cons_succ]
      refine wpAnyH_ready (rs := [6]) (by kernel_rfl) (by simp) ?_
      refine AllReadyH.cons rfl (fun K hKK => ?_) AllReadyH.nil
      · go_simp
        refine hKK.out _ _ trivial (fun _ => ?_)
        clear hKK K
        try simp only [Act.put, List.setIfInBounds_toArray, List.set_cons_zero, List.set_cons_succ]
        exact final
  refine held_take 12 (some 107) (v := ?_) rfl rfl (by kernel_rfl) (by kernel_rfl) (by kernel_rfl) (fun _ _ _ h => h) (Or.inl ⟨by rfl, ?_⟩) hHeld ?_
  rotate_left
  · (intro w' hSw; clear hSw; go_simp; try with_reducible rfl)
  try simp only [Act.put, List.setIfInBounds_toArray, List.set_cons_zero, List.set_cons_succ]
  refine wpAnyH_ready (rs := [13]) (by kernel_rfl) (by simp) ?_
  refine AllReadyH.cons rfl (fun K hKK => ?_) AllReadyH.nil
  go_simp
  go_at_call 29
  refine (R3.out _).mono ?_
  rintro e zq ⟨rfl, rfl⟩
  refine hKK.out _ _ trivial (fun hHeld => ?_)
  clear hKK K
  try simp only [Act.put, List.setIfInBounds_toArray, List.set_cons_zero, List.set_cons_succ]
  refine held_take 15 (some 110) (v := ?_) rfl rfl (by kernel_rfl) (by kernel_rfl) (by kernel_rfl) (fun _ _ _ h => h) (Or.inl ⟨by rfl, ?_⟩) hHeld ?_
  rotate_left
  · (intro w' hSw; clear hSw; go_simp; try with_reducible rfl)
  try simp only [Act.put, List.setIfInBounds_toArray, List.set_cons_zero, List.set_cons_succ]
  refine wpAnyH_ready (rs := [16]) (by kernel_rfl) (by simp) ?_
  refine AllReadyH.cons rfl (fun K hKK => ?_) AllReadyH.nil
  go_simp
  refine hKK.out _ _ trivial (fun hHeld => ?_)
  clear hKK K
  try simp only [Act.put, List.setIfInBounds_toArray, List.set_cons_zero, List.set_cons_succ]
  refine wpAnyH_done (by kernel_rfl) ?_ _
  obtain ⟨w6, hw⟩ : ∃ z, z = (w5.setCell ⟨gv, d, none⟩ (.int .u32 d2)).drew.drew := ⟨_, rfl⟩
  have HM6 := Lib.hid ((HM5.out.set d d2).drew.drew)
  rw [← hw] at HM6
  rw [← hw]
  clear hw hct hco hfz
  have hct : w6.cell? ⟨gv, c, none⟩ = some (.int .u32 c1) := HM6.out.c c G.out.2.2.1 (by obtain ⟨q1, q2, q3, q4⟩ := G.out; obtain ⟨p1, p2, p3, p4, p5, p6⟩ := HD.out; have p1' := p1.symm; have p2' := p2.symm; have p3' := p3.symm; have p4' := p4.symm; have p5' := p5.symm; have p6' := p6.symm; have e1 := HVA.out.symm; have e2 := HVB.out.symm; have e3 := HVC.out.symm; have e4 := HVD.out.symm; have v16 := HM0.out.v16; clear HEND; simp only [gd_eq, gd_ne, ne_eq, not_false_eq_true, List.length_set, *])
  have hco : w6.cell? ⟨gv, d, none⟩ = some (.int .u32 d2) := HM6.out.c d G.out.2.2.2 (by obtain ⟨q1, q2, q3, q4⟩ := G.out; obtain ⟨p1, p2, p3, p4, p5, p6⟩ := HD.out; have p1' := p1.symm; have p2' := p2.symm; have p3' := p3.symm; have p4' := p4.symm; have p5' := p5.symm; have p6' := p6.symm; have e1 := HVA.out.symm; have e2 := HVB.out.symm; have e3 := HVC.out.symm; have e4 := HVD.out.symm; have v16 := HM0.out.v16; clear HEND; simp only [gd_eq, gd_ne, ne_eq, not_false_eq_true, List.length_set, *])
  have hfz := free_row HM6.out.row c
  go_upto_region 6 with (fail)
  have HE := E4.out
  go_upto_region 7 with (go_region)
  clear HE
  obtain ⟨w7, hw⟩ : ∃ z, z = (w6.setCell ⟨gv, c, none⟩ (.int .u32 c2)).drew := ⟨_, rfl⟩
  have HM7 := Lib.hid (HM6.out.set c c2 |>.drew)
  rw [← hw] at HM7
  rw [← hw]
  clear hw hct hco hfz
  have hct : w7.cell? ⟨gv, b, none⟩ = some (.int .u32 b1) := HM7.out.c b G.out.2.1 (by obtain ⟨q1, q2, q3, q4⟩ := G.out; obtain ⟨p1, p2, p3, p4, p5, p6⟩ := HD.out; have p1' := p1.symm; have p2' := p2.symm; have p3' := p3.symm; have p4' := p4.symm; have p5' := p5.symm; have p6' := p6.symm; have e1 := HVA.out.symm; have e2 := HVB.out.symm; have e3 := HVC.out.symm; have e4 := HVD.out.symm; have v16 := HM0.out.v16; clear HEND; simp only [gd_eq, gd_ne, ne_eq, not_false_eq_true, List.length_set, *])
  have hco : w7.cell? ⟨gv, c, none⟩ = some (.int .u32 c2) := HM7.out.c c G.out.2.2.1 (by obtain ⟨q1, q2, q3, q4⟩ := G.out; obtain ⟨p1, p2, p3, p4, p5, p6⟩ := HD.out; have p1' := p1.symm; have p2' := p2.symm; have p3' := p3.symm; have p4' := p4.symm; have p5' := p5.symm; have p6' := p6.symm; have e1 := HVA.out.symm; have e2 := HVB.out.symm; have e3 := HVC.out.symm; have e4 := HVD.out.symm; have v16 := HM0.out.v16; clear HEND; simp only [gd_eq, gd_ne, ne_eq, not_false_eq_true, List.length_set, *])
  have hfz := free_row HM7.out.row b
  go_upto_region 7 with (fail)
  refine wp_region_held_drew (S := fun _ => True) (by kernel_rfl) trivial (fun hHeld => ?_)
  refine held_take 0 (some 126) (v := ?_) rfl rfl (by kernel_rfl) (by kernel_rfl) (by kernel_rfl) (fun _ _ _ h => h) (Or.inl ⟨by rfl, ?_⟩) hHeld ?_
  rotate_left
  · (intro w' hSw; clear hSw; go_simp; try with_reducible rfl)
  try simp only [Act.put, List.setIfInBounds_toArray, List.set_cons_zero, List.set_cons_succ]
  refine held_take 1 (some 127) (v := ?_) rfl rfl (by kernel_rfl) (by kernel_rfl) (by kernel_rfl) (fun _ _ _ h => h) (Or.inl ⟨by rfl, ?_⟩) hHeld ?_
  rotate_left
  · (intro w' hSw; clear hSw; go_simp; try with_reducible rfl)
  try simp only [Act.put, List.setIfInBounds_toArray, List.set_cons_zero, List.set_cons_succ]
  refine held_take 2 (some 128) (v := ?_) rfl rfl (by kernel_rfl) (by kernel_rfl) (by kernel_rfl) (fun _ _ _ h => h) (Or.inl ⟨by rfl, ?_⟩) hHeld ?_
  rotate_left
  · (intro w' hSw; clear hSw; go_simp; try with_reducible rfl)
  try simp only [Act.put, List.setIfInBounds_toArray, List.set_cons_zero, List.set_cons_succ]
  refine held_take 3 (some 129) (v := ?_) rfl rfl (by kernel_rfl) (by kernel_rfl) (by kernel_rfl) (fun _ _ _ h => h) (Or.inl ⟨by rfl, ?_⟩) hHeld ?_
  rotate_left
  · (intro w' hSw; clear hSw; go_simp; try with_reducible rfl)
  try simp only [Act.put, List.setIfInBounds_toArray, List.set_cons_zero, List.set_cons_succ]
  refine held_take 4 (some 130) (v := ?_) rfl rfl (by kernel_rfl) (by kernel_rfl) (by kernel_rfl) (fun _ _ _ h => h) (Or.inl ⟨by rfl, ?_⟩) hHeld ?_
  rotate_left
  · (intro w' hSw; clear hSw; go_simp; try with_reducible rfl)
  try simp only [Act.put, List.setIfInBounds_toArray, List.set_cons_zero, List.set_cons_succ]
  refine held_take 5 (some 131) (v := ?_) rfl rfl (by kernel_rfl) (by kernel_rfl) (by kernel_rfl) (fun _ _ _ h => h) (Or.inl ⟨by rfl, ?_⟩) hHeld ?_
  rotate_left
  · (intro w' hSw; clear hSw; go_simp; try with_reducible rfl)
  try simp only [Act.put, List.setIfInBounds_toArray, List.set_cons_zero, List.set_cons_succ]
  refine held_take 7 (some 133) (v := ?_) rfl rfl (by kernel_rfl) (by kernel_rfl) (by kernel_rfl) (fun _ _ _ h => h) (Or.inl ⟨by rfl, ?_⟩) hHeld ?_
  rotate_left
  · (intro w' hSw; clear hSw; go_simp; try with_reducible rfl)
  try simp only [Act.put, List.setIfInBounds_toArray, List.set_cons_zero, List.set_cons_succ]
  refine held_take 8 (some 134) (v := ?_) rfl rfl (by kernel_rfl) (by kernel_rfl) (by kernel_rfl) (fun _ _ _ h => h) (Or.inl ⟨by rfl, ?_⟩) hHeld ?_
  rotate_left
  · (intro w' hSw; clear hSw; go_simp; try with_reducible rfl)
  try simp only [Act.put, List.setIfInBounds_toArray, List.set_cons_zero, List.set_cons_succ]
  refine held_take 9 (some 135) (v := ?_) rfl rfl (by kernel_rfl) (by kernel_rfl) (by kernel_rfl) (fun _ _ _ h => h) (Or.inl ⟨by rfl, ?_⟩) hHeld ?_
  rotate_left
  · (intro w' hSw; clear hSw; go_simp; try with_reducible rfl)
  try simp only [Act.put, List.setIfInBounds_toArray, List.set_cons_zero, List.set_cons_succ]
  refine held_take 10 (some 136) (v := ?_) rfl rfl (by kernel_rfl) (by kernel_rfl) (by kernel_rfl) (fun _ _ _ h => h) (Or.inl ⟨by rfl, ?_⟩) hHeld ?_
  rotate_left
  · (intro w' hSw; clear hSw; go_simp; try with_reducible rfl)
  try simp only [Act.put, List.setIfInBounds_toArray, List.set_cons_zero, List.set_cons_succ]
  refine held_take 14 (some 140) (v := ?_) rfl rfl (by kernel_rfl) (by kernel_rfl) (by kernel_rfl) (fun _ _ _ h => h) (Or.inl ⟨by rfl, ?_⟩) hHeld ?_
  rotate_left
  · (intro w' hSw; clear hSw; go_simp; try with_reducible rfl)
  try simp only [Act.put, List.setIfInBounds_toArray, List.set_cons_zero, List.set_cons_succ]
  apply shared
  · intro final
    refine wpAnyH_ready (rs := [6, 11]) (by kernel_rfl) (by simp) ?_
    refine AllReadyH.cons rfl (fun K hKK => ?_) (AllReadyH.cons rfl (fun K hKK => ?_) AllReadyH.nil)
    · go_simp
      refine hKK.out _ _ trivial (fun _ => ?_)
      clear hKK K
      try simp only [Act.put, List.setIfInBounds_toArray, List.set_cons_zero, List.set_cons_succ]
      refine wpAnyH_ready (rs := [11]) (by kernel_rfl) (by simp) ?_
      refine AllReadyH.cons rfl (fun K hKK => ?_) AllReadyH.nil
      · go_simp
        refine hKK.out _ _ trivial (fun _ => ?_)
        clear hKK K
        try simp only [Act.put, List.setIfInBounds_toArray, List.set_cons_zero, List.set_cons_succ]
        exact final
    · go_simp
      refine hKK.out _ _ trivial (fun _ => ?_)
      clear hKK K
      try simp only [Act.put, List.setIfInBounds_toArray, List.set_cons_zero, List.set_cons_succ]
      refine wpAnyH_ready (rs := [6]) (by kernel_rfl) (by simp) ?_
      refine AllReadyH.cons rfl (fun K hKK => ?_) AllReadyH.nil
      · go_simp
        refine hKK.out _ _ trivial (fun _ => ?_)
        clear hKK K
        try simp only [Act.put, List.setIfInBounds_toArray, List.set_cons_zero, List.set_cons_succ]
        exact final
  refine held_take 12 (some 138) (v := ?_) rfl rfl (by kernel_rfl) (by kernel_rfl) (by kernel_rfl) (fun _ _ _ h => h) (Or.inl ⟨by rfl, ?_⟩) hHeld ?_
  rotate_left
  · (intro w' hSw; clear hSw; go_simp; try with_reducible rfl)
  try simp only [Act.put, List.setIfInBounds_toArray, List.set_cons_zero, List.set_cons_succ]
  refine wpAnyH_ready (rs := [13]) (by kernel_rfl) (by simp) ?_
  refine AllReadyH.cons rfl (fun K hKK => ?_) AllReadyH.nil
  go_simp
  go_at_call 29
  refine (R4.out _).mono ?_
  rintro e zq ⟨rfl, rfl⟩
  refine hKK.out _ _ trivial (fun hHeld => ?_)
  clear hKK K
  try simp only [Act.put, List.setIfInBounds_toArray, List.set_cons_zero, List.set_cons_succ]
  refine held_take 15 (some 141) (v := ?_) rfl rfl (by kernel_rfl) (by kernel_rfl) (by kernel_rfl) (fun _ _ _ h => h) (Or.inl ⟨by rfl, ?_⟩) hHeld ?_
  rotate_left
  · (intro w' hSw; clear hSw; go_simp; try with_reducible rfl)
  try simp only [Act.put, List.setIfInBounds_toArray, List.set_cons_zero, List.set_cons_succ]
  refine wpAnyH_ready (rs := [16]) (by kernel_rfl) (by simp) ?_
  refine AllReadyH.cons rfl (fun K hKK => ?_) AllReadyH.nil
  go_simp
  refine hKK.out _ _ trivial (fun hHeld => ?_)
  clear hKK K
  try simp only [Act.put, List.setIfInBounds_toArray, List.set_cons_zero, List.set_cons_succ]
  refine wpAnyH_done (by kernel_rfl) ?_ _
  obtain ⟨w8, hw⟩ : ∃ z, z = (w7.setCell ⟨gv, b, none⟩ (.int .u32 b2)).drew.drew := ⟨_, rfl⟩
  have HM8 := Lib.hid ((HM7.out.set b b2).drew.drew)
  rw [← HEND.out] at HM8
  rw [← hw] at HM8
  rw [← hw]
  clear hw hct hco hfz
  go_wp2_with fail
  go_end0
  exact ⟨rfl, HM8.out.gr, HM8.out.row⟩
end Go.Proofs.Ytehmnkkfoopanaa
