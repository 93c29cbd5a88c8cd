/- Texts of the proof, one behind the other: store: Get, of a chunk that is there; Seal. store: Seal. store: take. store: a store with all that it says; Get, Seal. -/
import Derived.Test.YtcklcffepedklaaGreatM28
namespace Go.Proofs.YtcklcffepedklaaGreat
open Go.RowKit Go.Maps

section
variable {w : World} {gs N : Nat} {B : Sb} {κ : Nat → Nat} {E : List KD} {L : List (Ky × (Nat × Nat))} {P : Nat → List KD} {q : Nat} {f : Nat → Bool} {v : Value} {M : List Pc} {size at_ : Nat} {D : Nat → Option (List Int)} {c b : Nat}
set_option maxRecDepth 20000 in
theorem Get_sm (h : Sm w gs N B κ L q (nowF P q) v M size at_ D c) (a : StA E L P q) (hb : Bud E P q b) (hD : LaidOn D P q) (hM : M.map kd = P q) (hat : P q ≠ [] → at_ = q) (k : Ky) (d : List Int) (hx : (k, d) ∈ E) :
    Calls Tryz.prog 28 #[.pointer (some ⟨gs, 0, none⟩), .agg k.cells.toArray] w fun e w' => ∃ v', e = .returned (.tuple #[v', .int .i64 0]) ∧ OwnB w' w.heap.size v' d ∧ Chg (fun x => κ x ≠ 0) w w' ∧ ∃ κ', Sm w' gs N B κ' L q (nowF P q) v M size at_ D c ∧ ∀ x, κ' x ≠ 0 → κ x ≠ 0 ∨ w.heap.size ≤ x := by
  have hok := a.ok _ hx
  have hb1 := (Below.refl w.heap.size w).alloc (Nat.le_refl _) (.cells k.cells.toArray 64)
  have hr1 := heap_alloc_last w (.cells k.cells.toArray 64)
  have HK3 := Lib.hid (show (w.alloc (.cells k.cells.toArray 64)).rangeAt w.heap.size 0 k.cells from range_row hr1)
  have cn : (w.alloc (.cells k.cells.toArray 64)).cell? ⟨w.heap.size, 32, none⟩ = some (.int .u32 k.n) := row_at hr1 (Ky.cells_32 hok.key)
  have hn : k.n < 4294967296 := hok.key.lt
  have HRD := Lib.hid (read_sm (h.below hb1) a hb hD hM hat k d hx k.n (by omega))
  have HKO := Lib.hid hok.key
  have HDP := Lib.hid (And.intro hok.pos hok.len)
  have HB1 := Lib.hid hb1
  have hwr : IntKind.u64.wrap (k.n : Int) = (k.n : Int) := by simp [IntKind.wrap, IntKind.bits, IntKind.signed]; omega
  clear hok hr1 hb1 h a hb hD hM hat hx
  go_enter Tryz.func28, Tryz.ntmps28
  go_wp2_with (with_reducible refine Go.wpList_load_mid rfl 64 _ rfl w.heap.size (0) rfl (k).cells _ HK3.out Tryz.underlying64 rfl (sizeK HKO.out) ?_)
  refine HRD.out.mono ?_
  rintro e w2 ⟨A2, c2, rfl, hI2, hc2, κ2, hsm2, hkf2⟩
  have hpos := HDP.out.1
  obtain ⟨ad, hA2, _⟩ := hI2 0 hpos
  subst hA2
  have HCL := Lib.hid (Clone_any ad d.length c2 d w2 rfl (by have := HDP.out.2; omega) hI2)
  have HC2 := Lib.hid (show Chg (fun x => κ x ≠ 0) w w2 from (Chg.belowAt HB1.out).trans hc2)
  have HSM := Lib.hid hsm2
  have HKF := Lib.hid (show ∀ x, κ2 x ≠ 0 → κ x ≠ 0 ∨ w.heap.size ≤ x from fun x hx => (hkf2 x hx).imp id (Nat.le_trans HB1.out.size))
  clear hI2 hc2 hsm2 hkf2 HRD cn hn hwr
  go_wp2_with fail
  refine HCL.out.mono ?_
  rintro e w3 ⟨v3, rfl, ho3, hb3⟩
  have HO3 := Lib.hid ho3
  have HB3 := Lib.hid hb3
  clear ho3 hb3 HCL
  go_wp2
  go_ret2
  exact ⟨v3, rfl, HO3.out.base HC2.out.size, HC2.out.trans (Chg.belowAt HB3.out), κ2, HSM.out.below HB3.out, HKF.out⟩
set_option maxRecDepth 20000 in
theorem Seal_nil (h : Sm w gs N B κ L q f v M size at_ D c) (hM : M = []) : Calls Tryz.prog 11 #[.pointer (some ⟨gs, 0, none⟩)] w fun e w' => e = .returned (.int .i64 0) ∧ w = w' := by
  obtain ⟨A, c', rfl, _⟩ := h.held.form
  have c4 := h.ci 4 _ rfl
  rw [hM, show ([] : List Pc).length = 0 from rfl] at c4
  clear h hM
  go_enter Tryz.func11, Tryz.ntmps11
  go_wp2
  go_ret
  exact ⟨rfl, rfl⟩
end
end Go.Proofs.YtcklcffepedklaaGreat

namespace Go.Proofs.YtcklcffepedklaaGreat
open Go.RowKit Go.Maps

theorem contL_bytes {id : Nat} {L : List Pc} (h : ∀ p ∈ L, p.key.Ok ∧ Bytes p.data) : Bytes (contL id L) := sealL_bytes (bodyL_bytes h)
section
variable {w : World} {gs N : Nat} {B : Sb} {κ : Nat → Nat} {E : List KD} {L : List (Ky × (Nat × Nat))} {q : Nat} {f : Nat → Bool} {v : Value} {M : List Pc} {size at_ : Nat} {D : Nat → Option (List Int)} {c b : Nat}
set_option maxRecDepth 20000 in
set_option maxHeartbeats 1600000 in
theorem Seal_sm (h : Sm w gs N B κ L q f v M size at_ D c) (hM : M ≠ []) (hO : PcOk M) (hsz : 10 + 38 * M.length + lenP M ≤ 508) (hat : at_ < N) (hc : c < 900000000) (hq : q < 1000000) : Calls Tryz.prog 11 #[.pointer (some ⟨gs, 0, none⟩)] w fun e w' => e = .returned (.int .i64 0) ∧ Chg (fun x => κ x ≠ 0) w w' ∧ ∃ κ', Sm w' gs N B κ' L (q + 1) f (.slice none 0 0) [] 0 at_ (putD D at_ (contL (q + 1) M)) (c + 8) ∧ ∀ x, κ' x ≠ 0 → κ x ≠ 0 ∨ w.heap.size ≤ x := by
  obtain ⟨A, c', rfl, _⟩ := h.held.form
  have hpc := h.held.pcAt
  have hk : ∀ p ∈ M, p.key.Ok := fun p hp => (h.held.ok p hp).key
  have hl := contL_length (id := q + 1) hk
  have HB := Lib.hid (contL_bytes (id := q + 1) (L := M) (fun p hp => ⟨(h.held.ok p hp).key, (h.held.ok p hp).byt⟩))
  have HLY := Lib.hid (Lay_any (q + 1) A M.length c' M w.drew (by omega) rfl (hpc.below (Below.refl _ _).drew) hO)
  have hM0 : ¬ (M.length : Int) = 0 := by cases M with | nil => exact absurd rfl hM | cons x M => simp; omega
  have HH := Lib.hid h
  have HL := Lib.hid (show (contL (q + 1) M).length ≤ 508 by omega)
  have c4 := h.ci 4 _ rfl
  have HC4 := Lib.hid c4
  have HC7 := Lib.hid (h.ci 7 _ rfl)
  have HGS := Lib.hid (row_lt h.row)
  have hq1 : IntKind.u32.wrap ((q : Int) + 1) = ((q + 1 : Nat) : Int) := by simp [IntKind.wrap, IntKind.bits, IntKind.signed]; omega
  have hq2 : ((q : Int) + 1) % 4294967296 = ((q + 1 : Nat) : Int) := by omega
  obtain ⟨cl, hcl⟩ : ∃ cl, contL (q + 1) M = cl := ⟨_, rfl⟩
  rw [hcl] at HB HLY HL ⊢
  have HVP := Lib.hid (fun (W : World) (hW : Sm W gs N B κ L q f (.slice A M.length c') M size at_ D c) (A2 : Option Addr) (c2 : Nat) (hI : Ints .u8 W A2 cl) (hA : A2 = none → cl.length = 0 ∧ c2 = 0) => VPut_any (w := W) hW.vt hc at_ hat A2 cl.length c2 cl rfl HL.out hI HB.out hA)
  obtain ⟨n, hn⟩ : ∃ n, M.length = n := ⟨_, rfl⟩
  rw [hn] at HLY HC4 hM0 c4
  clear hpc hk hl h hM hO hsz hat hcl hn
  go_enter Tryz.func11, Tryz.ntmps11
  go_upto_region 5 with (fail)
  --[5
  refine wp_region_held_drew (S := fun w' => Below w.heap.size w w') (by kernel_rfl) ((Below.refl _ _).drew) (fun hHeld => ?_)
  refine held_take 0 (some 15) (v := ?_) rfl rfl (by kernel_rfl) (by kernel_rfl) (by kernel_rfl) (fun _ _ _ h => h) (Or.inl ⟨by rfl, ?_⟩) hHeld ?_
  rotate_left
  · (intro w' hSw; clear hSw; go_simp; try with_reducible rfl)
  try simp only [Act.put, List.setIfInBounds_toArray, List.set_cons_zero, List.set_cons_succ]
  refine held_take 1 (some 16) (v := ?_) rfl rfl (by kernel_rfl) (by kernel_rfl) (by kernel_rfl) (fun _ _ _ h => h) (Or.inl ⟨by rfl, ?_⟩) hHeld ?_
  rotate_left
  · (intro w' hSw; clear hSw; go_simp; try with_reducible rfl)
  try simp only [Act.put, List.setIfInBounds_toArray, List.set_cons_zero, List.set_cons_succ]
  refine held_take 2 (some 17) (v := ?_) rfl rfl (by kernel_rfl) (by kernel_rfl) (by kernel_rfl) (fun _ _ _ h => h) (Or.inl ⟨by rfl, ?_⟩) hHeld ?_
  rotate_left
  · (intro w' hSw; clear hSw; go_simp; try with_reducible rfl)
  try simp only [Act.put, List.setIfInBounds_toArray, List.set_cons_zero, List.set_cons_succ]
  refine held_take 3 (some 18) (v := ?_) rfl rfl (by kernel_rfl) (by kernel_rfl) (by kernel_rfl) (fun _ _ _ h => h) (Or.inl ⟨by rfl, ?_⟩) hHeld ?_
  rotate_left
  · (intro w' hSw; have pf := (hSw.cell (p := ⟨gs, 7, none⟩) HGS.out).trans HC7.out; clear hSw; go_simp; try with_reducible rfl)
  try simp only [Act.put, List.setIfInBounds_toArray, List.set_cons_zero, List.set_cons_succ]
  refine held_take 4 (some 19) (v := ?_) rfl rfl (by kernel_rfl) (by kernel_rfl) (by kernel_rfl) (fun _ _ _ h => h) (Or.inl ⟨by rfl, ?_⟩) hHeld ?_
  rotate_left
  · (intro w' hSw; clear hSw; go_simp; try with_reducible rfl)
  try simp only [Act.put, List.setIfInBounds_toArray, List.set_cons_zero, List.set_cons_succ]
  refine held_take 5 (some 20) (v := ?_) rfl rfl (by kernel_rfl) (by kernel_rfl) (by kernel_rfl) (fun _ _ _ h => h) (Or.inl ⟨by rfl, ?_⟩) hHeld ?_
  rotate_left
  · (intro w' hSw; clear hSw; go_simp; try with_reducible rfl)
  try simp only [Act.put, List.setIfInBounds_toArray, List.set_cons_zero, List.set_cons_succ]
  refine held_take 6 (some 21) (v := ?_) rfl rfl (by kernel_rfl) (by kernel_rfl) (by kernel_rfl) (fun _ _ _ h => h) (Or.inl ⟨by rfl, ?_⟩) hHeld ?_
  rotate_left
  · (intro w' hSw; clear hSw; go_simp; try with_reducible rfl)
  try simp only [Act.put, List.setIfInBounds_toArray, List.set_cons_zero, List.set_cons_succ]
  refine held_take 7 (some 22) (v := ?_) rfl rfl (by kernel_rfl) (by kernel_rfl) (by kernel_rfl) (fun _ _ _ h => h) (Or.inl ⟨by rfl, ?_⟩) hHeld ?_
  rotate_left
  · (intro w' hSw; clear hSw; go_simp; try with_reducible rfl)
  try simp only [Act.put, List.setIfInBounds_toArray, List.set_cons_zero, List.set_cons_succ]
  refine held_take 8 (some 23) (v := ?_) rfl rfl (by kernel_rfl) (by kernel_rfl) (by kernel_rfl) (fun _ _ _ h => h) (Or.inl ⟨by rfl, ?_⟩) hHeld ?_
  rotate_left
  · (intro w' hSw; have pf := (hSw.cell (p := ⟨gs, 4, none⟩) HGS.out).trans HC4.out; clear hSw; go_simp; try with_reducible rfl)
  try simp only [Act.put, List.setIfInBounds_toArray, List.set_cons_zero, List.set_cons_succ]
  refine wpAnyH_ready (rs := [9]) (by kernel_rfl) (by simp) ?_
  refine AllReadyH.cons rfl (fun K hKK => ?_) AllReadyH.nil
  go_simp
  go_at_call 25
  refine (HLY.out).mono ?_
  rintro e w3 ⟨v3, rfl, ho3, hc1⟩
  have hS2 := (hHeld).trans (hc1)
  refine hKK.out _ _ hS2 (fun hHeld => ?_)
  clear hKK K
  try simp only [Act.put, List.setIfInBounds_toArray, List.set_cons_zero, List.set_cons_succ]
  refine held_take 10 (some 14) (v := ?_) rfl rfl (by kernel_rfl) (by kernel_rfl) (by kernel_rfl) (fun _ _ _ h => h) (Or.inl ⟨by rfl, ?_⟩) hHeld ?_
  rotate_left
  · (intro w' hSw; clear hSw; go_simp; try with_reducible rfl)
  try simp only [Act.put, List.setIfInBounds_toArray, List.set_cons_zero, List.set_cons_succ]
  refine held_take 11 (some 25) (v := ?_) rfl rfl (by kernel_rfl) (by kernel_rfl) (by kernel_rfl) (fun _ _ _ h => h) (Or.inl ⟨by rfl, ?_⟩) hHeld ?_
  rotate_left
  · (intro w' hSw; clear hSw; go_simp; try with_reducible rfl)
  try simp only [Act.put, List.setIfInBounds_toArray, List.set_cons_zero, List.set_cons_succ]
  refine held_take 12 (some 26) (v := ?_) rfl rfl (by kernel_rfl) (by kernel_rfl) (by kernel_rfl) (fun _ _ _ h => h) (Or.inl ⟨by rfl, ?_⟩) hHeld ?_
  rotate_left
  · (intro w' hSw; clear hSw; go_simp; try with_reducible rfl)
  try simp only [Act.put, List.setIfInBounds_toArray, List.set_cons_zero, List.set_cons_succ]
  refine held_take 13 (some 3) (v := ?_) rfl rfl (by kernel_rfl) (by kernel_rfl) (by kernel_rfl) (fun _ _ _ h => h) (Or.inl ⟨by rfl, ?_⟩) hHeld ?_
  rotate_left
  · (intro w' hSw; clear hSw; go_simp; try with_reducible rfl)
  try simp only [Act.put, List.setIfInBounds_toArray, List.set_cons_zero, List.set_cons_succ]
  refine held_take 14 (some 4) (v := ?_) rfl rfl (by kernel_rfl) (by kernel_rfl) (by kernel_rfl) (fun _ _ _ h => h) (Or.inl ⟨by rfl, ?_⟩) hHeld ?_
  rotate_left
  · (intro w' hSw; clear hSw; go_simp; try with_reducible rfl)
  try simp only [Act.put, List.setIfInBounds_toArray, List.set_cons_zero, List.set_cons_succ]
  refine wpAnyH_done (by kernel_rfl) ?_ _
  --]5
  obtain ⟨A3, c3, rfl, _, hI3, hf3⟩ := ho3.ints
  have HI3 := Lib.hid (And.intro hI3 ho3.nilA)
  have HB3 := Lib.hid hHeld
  have H3 := Lib.hid (HH.out.below hHeld)
  have HV8 := Lib.hid (HVP.out w3.drew (H3.out.below (Below.refl _ _).drew) A3 c3 (hI3.below (Below.refl _ _).drew) ho3.nilA)
  have HL3 := Lib.hid (row_lt H3.out.row)
  have HN3 := Lib.hid (show ¬ κ gs = 3 from by have := HH.out.ks; omega)
  clear ho3 hHeld hI3 hf3 HVP HLY c4 HC4 HC7
  go_upto_region 8 with (fail)
  --[8
  refine wp_region_held_drew (S := fun w' => Chg (fun x => κ x = 3) w3 w') (by kernel_rfl) (((Chg.refl _ _).drewN 1)) (fun hHeld => ?_)
  refine held_take 0 (some 30) (v := ?_) rfl rfl (by kernel_rfl) (by kernel_rfl) (by kernel_rfl) (fun _ _ _ h => h) (Or.inl ⟨by rfl, ?_⟩) hHeld ?_
  rotate_left
  · (intro w' hSw; clear hSw; go_simp; try with_reducible rfl)
  try simp only [Act.put, List.setIfInBounds_toArray, List.set_cons_zero, List.set_cons_succ]
  refine held_take 1 (some 31) (v := ?_) rfl rfl (by kernel_rfl) (by kernel_rfl) (by kernel_rfl) (fun _ _ _ h => h) (Or.inl ⟨by rfl, ?_⟩) hHeld ?_
  rotate_left
  · (intro w' hSw; clear hSw; go_simp; try with_reducible rfl)
  try simp only [Act.put, List.setIfInBounds_toArray, List.set_cons_zero, List.set_cons_succ]
  refine held_take 2 (some 32) (v := ?_) rfl rfl (by kernel_rfl) (by kernel_rfl) (by kernel_rfl) (fun _ _ _ h => h) (Or.inl ⟨by rfl, ?_⟩) hHeld ?_
  rotate_left
  · (intro w' hSw; clear hSw; go_simp; try with_reducible rfl)
  try simp only [Act.put, List.setIfInBounds_toArray, List.set_cons_zero, List.set_cons_succ]
  refine held_take 3 (some 33) (v := ?_) rfl rfl (by kernel_rfl) (by kernel_rfl) (by kernel_rfl) (fun _ _ _ h => h) (Or.inl ⟨by rfl, ?_⟩) hHeld ?_
  rotate_left
  · (intro w' hSw; have pf := (hSw.cell (p := ⟨gs, 0, none⟩) HL3.out HN3.out).trans (H3.out.ci 0 _ rfl); clear hSw; go_simp; try with_reducible rfl)
  try simp only [Act.put, List.setIfInBounds_toArray, List.set_cons_zero, List.set_cons_succ]
  refine held_take 4 (some 34) (v := ?_) rfl rfl (by kernel_rfl) (by kernel_rfl) (by kernel_rfl) (fun _ _ _ h => h) (Or.inl ⟨by rfl, ?_⟩) hHeld ?_
  rotate_left
  · (intro w' hSw; clear hSw; go_simp; try with_reducible rfl)
  try simp only [Act.put, List.setIfInBounds_toArray, List.set_cons_zero, List.set_cons_succ]
  refine held_take 5 (some 35) (v := ?_) rfl rfl (by kernel_rfl) (by kernel_rfl) (by kernel_rfl) (fun _ _ _ h => h) (Or.inl ⟨by rfl, ?_⟩) hHeld ?_
  rotate_left
  · (intro w' hSw; clear hSw; go_simp; try with_reducible rfl)
  try simp only [Act.put, List.setIfInBounds_toArray, List.set_cons_zero, List.set_cons_succ]
  refine held_take 6 (some 36) (v := ?_) rfl rfl (by kernel_rfl) (by kernel_rfl) (by kernel_rfl) (fun _ _ _ h => h) (Or.inl ⟨by rfl, ?_⟩) hHeld ?_
  rotate_left
  · (intro w' hSw; clear hSw; go_simp; try with_reducible rfl)
  try simp only [Act.put, List.setIfInBounds_toArray, List.set_cons_zero, List.set_cons_succ]
  refine held_take 7 (some 37) (v := ?_) rfl rfl (by kernel_rfl) (by kernel_rfl) (by kernel_rfl) (fun _ _ _ h => h) (Or.inl ⟨by rfl, ?_⟩) hHeld ?_
  rotate_left
  · (intro w' hSw; have pf := (hSw.cell (p := ⟨gs, 6, none⟩) HL3.out HN3.out).trans (H3.out.ci 6 _ rfl); clear hSw; go_simp; try with_reducible rfl)
  try simp only [Act.put, List.setIfInBounds_toArray, List.set_cons_zero, List.set_cons_succ]
  refine held_take 8 (some 38) (v := ?_) rfl rfl (by kernel_rfl) (by kernel_rfl) (by kernel_rfl) (fun _ _ _ h => h) (Or.inl ⟨by rfl, ?_⟩) hHeld ?_
  rotate_left
  · (intro w' hSw; clear hSw; go_simp; try with_reducible rfl)
  try simp only [Act.put, List.setIfInBounds_toArray, List.set_cons_zero, List.set_cons_succ]
  refine wpAnyH_ready (rs := [9]) (by kernel_rfl) (by simp) ?_
  refine AllReadyH.cons rfl (fun K hKK => ?_) AllReadyH.nil
  go_simp
  go_at_call 26
  refine (HV8.out).mono ?_
  rintro e w8 ⟨rfl, hc8, hv8⟩
  have hS4 := (hHeld).trans hc8
  refine hKK.out _ _ hS4 (fun hHeld => ?_)
  clear hKK K
  try simp only [Act.put, List.setIfInBounds_toArray, List.set_cons_zero, List.set_cons_succ]
  refine held_take 10 (some 5) (v := ?_) rfl rfl (by kernel_rfl) (by kernel_rfl) (by kernel_rfl) (fun _ _ _ h => h) (Or.inl ⟨by rfl, ?_⟩) hHeld ?_
  rotate_left
  · (intro w' hSw; clear hSw; go_simp; try with_reducible rfl)
  try simp only [Act.put, List.setIfInBounds_toArray, List.set_cons_zero, List.set_cons_succ]
  refine wpAnyH_done (by kernel_rfl) ?_ _
  --]8
  have H8 := Lib.hid ((H3.out.below (Below.refl _ _).drew).vch hc8 hv8)
  have HC8 := Lib.hid (show Chg (fun x => κ x ≠ 0) w w8 from (Chg.belowAt (HB3.out.drew)).trans (hc8.mono (fun x e => by omega)))
  have HS3 := Lib.hid HB3.out.size
  have c7 := H8.out.ci 7 _ rfl
  have c4 := H8.out.ci 4 _ rfl
  have c5 := H8.out.ci 5 _ rfl
  have f7 := free_row H8.out.row 7
  have f4 := free_row H8.out.row 4
  have f5 := free_row H8.out.row 5
  clear hHeld hc8 hv8 HV8 HL3 HN3
  go_wp2_with fail
  go_ret
  have g1 := grown_setCell w8 gs 7 (.int .u32 ((q : Int) + 1))
  have r1 := setCell_row H8.out.row 7 (.int .u32 ((q : Int) + 1))
  generalize w8.setCell ⟨gs, 7, none⟩ (.int .u32 ((q : Int) + 1)) = w9 at *
  have g2 := grown_setCell w9 gs 4 (.slice none 0 0)
  have r2 := setCell_row r1 4 (.slice none 0 0)
  generalize w9.setCell ⟨gs, 4, none⟩ (.slice none 0 0) = w10 at *
  have g3 := grown_setCell w10 gs 5 (.int .i64 0)
  have r3 := setCell_row r2 5 (.int .i64 0)
  generalize w10.setCell ⟨gs, 5, none⟩ (.int .i64 0) = w11 at *
  have hch : Chg (fun x => x = gs) w8 w11 := ((Chg.of g1).trans ((Chg.of g2).trans (Chg.of g3))).mono (fun x e => by injection e)
  refine ⟨rfl, HC8.out.trans2 hch (fun x _ e => by rw [e]; have := HH.out.ks; omega), _, H8.out.hnil hch (by rw [r3]; rfl), fun x hx => ?_⟩
  exact (cut_from x hx).imp id (fun h => Nat.le_trans HS3.out h)
end
end Go.Proofs.YtcklcffepedklaaGreat

namespace Go.Proofs.YtcklcffepedklaaGreat
open Go.RowKit Go.Maps

section
variable {w : World} {gs N : Nat} {B : Sb} {κ : Nat → Nat} {L : List (Ky × (Nat × Nat))} {q : Nat} {f : Nat → Bool} {v : Value} {M : List Pc} {size at_ : Nat} {D : Nat → Option (List Int)} {c : Nat}
set_option maxRecDepth 20000 in
set_option maxHeartbeats 1600000 in
theorem take_sm (h : Sm w gs N B κ L q f v M size at_ D c) (hf : ∀ p, p < q → f p = true) (hfq : f q = false) (hq : q < N) : Calls Tryz.prog 64 #[.pointer (some ⟨gs, 0, none⟩)] w fun e w' => e = .returned (.int .i64 0) ∧ Chg (fun x => κ x ≠ 0) w w' ∧ Sm w' gs N B κ L q (Sp.turnF f q) v M size q D c := by
  have HH := Lib.hid h
  have hNl := h.now.lim.1
  have HLN := Lib.hid (Sp.Len_any h.now)
  have c2 := h.ci 2 _ rfl
  have c3 := h.ci 3 _ rfl
  have HF := Lib.hid (And.intro hf hfq)
  clear h hf hfq
  go_enter Tryz.func64, Tryz.ntmps64
  go_wp2_with fail
  refine HLN.out.mono ?_
  rintro e w' ⟨rfl, rfl⟩
  clear HLN
  go_upto_region 2 with (fail)
  go_loopg [3, 9] q (fun kq v3 v9 w' => ∃ i : Nat, i + kq = q ∧ v9 = .int .i64 (i : Int) ∧ w = w')
  case atStart => exact ⟨0, by omega, rfl, rfl⟩
  case round =>
    obtain ⟨i, hi, rfl, rfl⟩ := hrel
    have hiN : (i : Int) < (N : Int) := by omega
    have HHN := Lib.hid (Sp.Has_yes HH.out.now i (by omega))
    by_cases hlt : i < q
    · rw [HF.out.1 i hlt] at HHN
      go_wp2_with (go_at_call 85; refine HHN.out.mono ?_; rintro e w' ⟨rfl, rfl⟩)
      go_roundg (q - (i + 1))
      case measure => omega
      case rel => exact ⟨i + 1, by omega, by go_num, rfl⟩
    · obtain rfl : i = q := by omega
      rw [HF.out.2] at HHN
      have HHK := Lib.hid (Sp.Has_yes HH.out.kept_ i (by omega))
      go_wp2_with fail
      refine HHN.out.mono ?_
      rintro e w' ⟨rfl, rfl⟩
      go_wp2_with fail
      refine HHK.out.mono ?_
      rintro e w' ⟨rfl, rfl⟩
      have c6 := HH.out.ci 6 _ rfl
      have f6 := free_row HH.out.row 6
      clear HHK HHN hlt
      have g1 := grown_setCell w gs 6 (.int .i64 i)
      have r1 := setCell_row HH.out.row 6 (.int .i64 i)
      have hc1 : Chg (fun x => x = gs) w (w.setCell ⟨gs, 6, none⟩ (.int .i64 i)) := (Chg.of g1).mono (fun x e => by injection e)
      have H1 := Lib.hid (HH.out.rch (at' := i) (size' := size) (q' := i) hc1 (by rw [r1]; rfl))
      have HC1 := Lib.hid hc1
      have HHD := Lib.hid (Sp.Hold_yes H1.out.now i hq HF.out.2)
      have c21 := H1.out.ci 2 _ rfl
      clear g1 r1 hc1
      go_wp2_with fail
      refine HHD.out.mono ?_
      rintro e w2 ⟨rfl, hc2, hs2⟩
      have HC2 := Lib.hid hc2
      have HS2 := Lib.hid hs2
      clear hc2 hs2 HHD
      go_wp2_with fail
      go_ret
      have h5 : Chg (fun x => κ x = 5) _ w2 := HC2.out.mono (fun x e => by have := HH.out.kn; rcases e with rfl | rfl <;> omega)
      exact ⟨rfl, (HC1.out.mono (fun x e => by rw [e]; have := HH.out.ks; omega)).trans2 h5 (fun x _ e => by omega), H1.out.nch h5 HS2.out⟩
end
end Go.Proofs.YtcklcffepedklaaGreat

namespace Go.Proofs.YtcklcffepedklaaGreat
open Go.RowKit Go.Maps

/-- A store, with all that it says. -/
structure Fu (w : World) (gs N : Nat) (B : Sb) (κ : Nat → Nat) (E : List KD) (L : List (Ky × (Nat × Nat))) (P : Nat → List KD) (q : Nat) (v : Value) (M : List Pc) (size at_ : Nat) (D : Nat → Option (List Int)) (c b : Nat) : Prop where
  sm : Sm w gs N B κ L q (nowF P q) v M size at_ D c
  a : StA E L P q
  laid : LaidOn D P q
  cl : c ≤ 8 * q
  hkd : M.map kd = P q
  hsz : P q ≠ [] → size = 10 + szD (P q) ∧ at_ = q
  bud : Bud E P q b
  cap : b < 368 * N
/-- A store of chunks E that has taken b bytes at most; its blocks meet F. -/
structure Sto (w : World) (gs N : Nat) (E : List KD) (b : Nat) (F : Nat → Prop) : Prop where
  ex : ∃ B κ L P q v M size at_ D c, Fu w gs N B κ E L P q v M size at_ D c b ∧ ∀ x, κ x ≠ 0 → F x
section
variable {w w' : World} {gs N : Nat} {B : Sb} {κ : Nat → Nat} {E : List KD} {L : List (Ky × (Nat × Nat))} {P : Nat → List KD} {q : Nat} {v : Value} {M : List Pc} {size at_ : Nat} {D : Nat → Option (List Int)} {c b : Nat} {F F' R : Nat → Prop}
theorem Fu.chg (h : Fu w gs N B κ E L P q v M size at_ D c b) (hc : Chg R w w') (hr : ∀ x, κ x ≠ 0 → ¬ R x) : Fu w' gs N B κ E L P q v M size at_ D c b :=
  ⟨h.sm.chg hc hr, h.a, h.laid, h.cl, h.hkd, h.hsz, h.bud, h.cap⟩
theorem Fu.below (h : Fu w gs N B κ E L P q v M size at_ D c b) (hb : Below w.heap.size w w') : Fu w' gs N B κ E L P q v M size at_ D c b :=
  ⟨h.sm.below hb, h.a, h.laid, h.cl, h.hkd, h.hsz, h.bud, h.cap⟩
theorem Fu.of {κ' : Nat → Nat} (h : Fu w gs N B κ E L P q v M size at_ D c b) (hs : Sm w' gs N B κ' L q (nowF P q) v M size at_ D c) : Fu w' gs N B κ' E L P q v M size at_ D c b :=
  ⟨hs, h.a, h.laid, h.cl, h.hkd, h.hsz, h.bud, h.cap⟩
theorem Fu.qN (h : Fu w gs N B κ E L P q v M size at_ D c b) : q < N ∧ q < 1000000 ∧ c < 9000000 := by
  have := h.bud.use; have := h.bud.lim; have := h.cap; have := h.cl; omega
theorem Sto.kept (h : Sto w gs N E b F) (hc : Chg R w w') (h1 : ∀ g, g < w.heap.size → F g → ¬ R g) (h2 : ∀ g, g < w.heap.size → F g → F' g) : Sto w' gs N E b F' := by
  obtain ⟨B, κ, L, P, q, v, M, size, at_, D, c, a, hf⟩ := h.ex
  exact ⟨B, κ, L, P, q, v, M, size, at_, D, c, a.chg hc (fun x hx => h1 x (a.sm.lim x hx) (hf x hx)), fun x hx => h2 x (a.sm.lim x hx) (hf x hx)⟩
theorem Sto.below (h : Sto w gs N E b F) (hb : Below w.heap.size w w') : Sto w' gs N E b F :=
  h.kept (R := fun _ => False) (Chg.belowAt hb) (fun _ _ _ h => h) (fun _ _ h => h)
theorem Sto.bound (h : Sto w gs N E b F) : Sto w gs N E b (fun k => F k ∧ k < w.heap.size) :=
  h.kept (R := fun _ => False) (Chg.refl _ _) (fun _ _ _ h => h) (fun k hk hF => ⟨hF, hk⟩)
theorem Sto.more {b' : Nat} (h : Sto w gs N E b F) (hb : b ≤ b') (hl : b' < 1000000) (hc : b' < 368 * N) : Sto w gs N E b' F := by
  obtain ⟨B, κ, L, P, q, v, M, size, at_, D, c, a, hf⟩ := h.ex
  exact ⟨B, κ, L, P, q, v, M, size, at_, D, c, ⟨a.sm, a.a, a.laid, a.cl, a.hkd, a.hsz, ⟨by have := a.bud.use; omega, by have := a.bud.num; omega, hl⟩, hc⟩, hf⟩
theorem Sto.ok (h : Sto w gs N E b F) {x : KD} (hx : x ∈ E) : ChOk x := by
  obtain ⟨B, κ, L, P, q, v, M, size, at_, D, c, a, hf⟩ := h.ex
  exact a.a.ok x hx
theorem SGet_any (h : Sto w gs N E b F) (k : Ky) (d : List Int) (hx : (k, d) ∈ E) :
    Calls Tryz.prog 28 #[.pointer (some ⟨gs, 0, none⟩), .agg k.cells.toArray] w fun e w' => ∃ v', e = .returned (.tuple #[v', .int .i64 0]) ∧ OwnB w' w.heap.size v' d ∧ Chg F w w' ∧ Sto w' gs N E b (fun x => F x ∨ w.heap.size ≤ x) := by
  obtain ⟨B, κ, L, P, q, v, M, size, at_, D, c, a, hf⟩ := h.ex
  refine (Get_sm a.sm a.a a.bud a.laid a.hkd (fun e => (a.hsz e).2) k d hx).mono ?_
  rintro e w' ⟨v', rfl, ho, hc, κ', hs, hk⟩
  exact ⟨v', rfl, ho, hc.mono hf, B, κ', L, P, q, v, M, size, at_, D, c, a.of hs, fun x hx => (hk x hx).imp (hf x) (fun h => h)⟩
theorem nowF_seal (h : P q ≠ []) (h1 : P (q + 1) = []) : nowF P q = nowF P (q + 1) := by
  funext p
  unfold nowF
  rw [h1]
  have h2 : (P q).isEmpty = false := by cases hp : P q with | nil => exact absurd hp h | cons x l => rfl
  rcases Nat.lt_trichotomy p q with h3 | h3 | h3
  · simp [h3, show p < q + 1 by omega]
  · subst h3; simp [h2]
  · simp [show ¬ p < q by omega, show ¬ p = q by omega, show ¬ p < q + 1 by omega]
/-- Behind a seal. -/
theorem Fu.sealed {κ' : Nat → Nat} {b' : Nat} (h : Fu w gs N B κ E L P q v M size at_ D c b) (hM : P q ≠ []) (hs : Sm w' gs N B κ' L (q + 1) (nowF P q) (.slice none 0 0) [] 0 at_ (putD D at_ (contL (q + 1) M)) (c + 8)) (hb : 368 * (q + 1) ≤ b') (hbb : b ≤ b') (hl : b' < 1000000) (hN : b' < 368 * N) :
    Fu w' gs N B κ' E L P (q + 1) (.slice none 0 0) [] 0 at_ (putD D at_ (contL (q + 1) M)) (c + 8) b' := by
  have hP : P (q + 1) = [] := h.a.free _ (by omega)
  have hat := (h.hsz hM).2
  refine ⟨nowF_seal hM hP ▸ hs, h.a.sealed hM, fun s hsq => ?_, by have := h.cl; omega, by rw [hP]; rfl, fun e => absurd hP e, ⟨by rw [hP]; simp [szD, lenD]; omega, by have := h.bud.num; omega, hl⟩, hN⟩
  unfold putD
  by_cases e : s = at_
  · rw [if_pos e]
    exact ⟨q + 1, M, by have := h.qN; omega, by rw [e, hat]; exact h.hkd, rfl⟩
  · rw [if_neg e]
    exact h.laid s (by omega)
theorem Fu.szM (h : Fu w gs N B κ E L P q v M size at_ D c b) : 10 + 38 * M.length + lenP M ≤ 508 := by
  rw [len_kd h.hkd, lenP_kd h.hkd]; exact h.a.size q
theorem SSeal_any (h : Sto w gs N E b F) (hl : b + 368 < 1000000) (hN : b + 368 < 368 * N) : Calls Tryz.prog 11 #[.pointer (some ⟨gs, 0, none⟩)] w fun e w' => e = .returned (.int .i64 0) ∧ Chg F w w' ∧ Sto w' gs N E (b + 368) (fun x => F x ∨ w.heap.size ≤ x) := by
  obtain ⟨B, κ, L, P, q, v, M, size, at_, D, c, a, hf⟩ := h.ex
  by_cases hM : M = []
  · refine (Seal_nil a.sm hM).mono ?_
    rintro e w' ⟨rfl, rfl⟩
    exact ⟨rfl, Chg.refl _ _, (h.more (by omega) hl hN).kept (R := fun _ => False) (Chg.refl _ _) (fun _ _ _ h => h) (fun _ _ h => .inl h)⟩
  · have hP : P q ≠ [] := by rw [← a.hkd]; intro e; exact hM (List.map_eq_nil_iff.1 e)
    have hq := a.qN
    have hat := (a.hsz hP).2
    refine (Seal_sm a.sm hM (a.a.pcOk a.hkd) a.szM (by omega) (by omega) hq.2.1).mono ?_
    rintro e w' ⟨rfl, hc, κ', hs, hk⟩
    exact ⟨rfl, hc.mono hf, B, κ', L, P, q + 1, _, _, _, _, _, _, a.sealed hP hs (by have := a.bud.use; omega) (by omega) hl hN, fun x hx => (hk x hx).imp (hf x) (fun h => h)⟩
end
end Go.Proofs.YtcklcffepedklaaGreat
