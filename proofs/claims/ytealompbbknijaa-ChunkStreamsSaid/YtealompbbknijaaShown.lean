/- chunk: the document's examples, at the head of each statement. -/
import Derived.Test.YtealompbbknijaaSame
import Derived.Deep.DeepCutAuto
namespace Go.Proofs.Ytealompbbknijaa
open Go.RowKit

def ctS : Ct := ⟨16, 20, 1, 1⟩
theorem NewRows.addr {P : Nat → Prop} {B : Nat} {L : List (List Int)} {w : World} {A : Option Addr} {n c : Nat} (h : NewRows P B L w (.slice A n c)) (ad : Addr) (e : A = some ad) : ∃ g, ad = ⟨g, 0, none⟩ := by
  obtain ⟨vals, ho, _⟩ := h
  obtain ⟨_, h2⟩ := ho
  rcases h2 with ⟨h2, _⟩ | ⟨g', cap', cur, h2, _⟩
  · injection h2 with h2; rw [h2] at e; cases e
  · injection h2 with h2; rw [h2] at e; injection e with e; exact ⟨g', e.symm⟩
theorem ctS_ok : ctS.Ok := ⟨by decide, by decide, by decide, by decide, by decide, by decide, by decide⟩
theorem pcs_S : pcsR ctS (List.replicate 40 0) = [List.replicate 16 0, List.replicate 16 0, List.replicate 8 0] := by decide +kernel

set_option maxRecDepth 20000 in
set_option maxHeartbeats 800000 in
theorem shown_any (w : World) : Calls Try.prog 10 #[] w fun e w' => e = .returned (.bool true) ∧ Below w.heap.size w w' := by
  obtain ⟨Z, hZ⟩ : ∃ Z, Z = List.replicate 40 (Value.int .u8 0) := ⟨_, rfl⟩
  have hmk : ∀ W : World, (Instr.makeSlice 25 (.int .i64 40) (.int .i64 40)).run Try.prog W = .ok (.slice (some ⟨W.heap.size, 0, none⟩) 40 40) (W.alloc (.cells Z.toArray 5)) := fun W => by rw [hZ]; exact make_bytes 40 (by decide) W
  have HZ := Lib.hid (show Z.toArray = cellsOf (List.replicate 40 0) by rw [hZ]; rfl)
  have HS24 := Lib.hid (show (Try.prog.info? 24).map (·.size) = some [Value.int .i64 16, .int .i64 20, .int .u32 1, .int .u32 1].length by kernel_rfl)
  have HR := Lib.hid (heap_alloc_last w (.cells #[Value.int .i64 16, .int .i64 20, .int .u32 1, .int .u32 1] 24))
  have HBW := Lib.hid ((Below.refl w.heap.size w).alloc (Nat.le_refl _) (.cells #[Value.int .i64 16, .int .i64 20, .int .u32 1, .int .u32 1] 24))
  have hlt : w.heap.size < (w.alloc (.cells #[Value.int .i64 16, .int .i64 20, .int .u32 1, .int .u32 1] 24)).heap.size := by simp
  have HPC := Lib.hid pcs_S
  clear hZ
  go_enter Try.func10, Try.ntmps10
  go_wp2_with fail
  generalize w.alloc (.cells #[Value.int .i64 16, .int .i64 20, .int .u32 1, .int .u32 1] 24) = W at *
  obtain ⟨K0, hK0⟩ : ∃ z, z = w.heap.size := ⟨_, rfl⟩
  rw [← hK0] at HR hlt ⊢
  have HK0 := Lib.hid hK0
  clear hK0
  have HQ := Lib.hid (show W.rangeAt K0 0 [Value.int .i64 16, .int .i64 20, .int .u32 1, .int .u32 1] from rangeAt_of_row HR.out 0 4)
  refine wp_region_held_drew (S := fun w' => Below W.heap.size W w') (by kernel_rfl) ((Below.refl _ _).drew) (fun hHeld => ?_)
  refine held_take 0 (some 4) (v := .agg ([Value.int .i64 16, .int .i64 20, .int .u32 1, .int .u32 1]).toArray) rfl rfl (by kernel_rfl) (by kernel_rfl) (by kernel_rfl) (fun _ _ _ h => h) (yieldsIf_load_mid (by rfl) 24 _ rfl K0 (0) rfl ([Value.int .i64 16, .int .i64 20, .int .u32 1, .int .u32 1]) _ (fun w' h => rangeAt_block HQ.out (h.block _ hlt)) Try.underlying24 rfl HS24.out) hHeld ?_
  try simp only [Act.put, List.setIfInBounds_toArray, List.set_cons_zero, List.set_cons_succ]
  refine wpAnyH_ready (rs := [1]) (by kernel_rfl) (by simp) ?_
  refine AllReadyH.cons rfl (fun K hKK => ?_) AllReadyH.nil
  go_simp
  try simp only [hmk]
  go_simp
  refine hKK.out _ _ ((Below.refl _ _).drew.alloc (Nat.le_refl _) _) (fun hHeld => ?_)
  clear hKK K
  try simp only [Act.put, List.setIfInBounds_toArray, List.set_cons_zero, List.set_cons_succ]
  have hIz : Ints .u8 (W.alloc (.cells Z.toArray 5)).drew (some ⟨W.heap.size, 0, none⟩) (List.replicate 40 0) := by
    rw [HZ.out]; exact ints_block (w := (W.alloc (.cells (cellsOf (List.replicate 40 0)) 5)).drew) (heap_alloc_last W (.cells (cellsOf (List.replicate 40 0)) 5))
  have HAL := Lib.hid (All_yes ctS ctS_ok (List.replicate 40 0) (some ⟨W.heap.size, 0, none⟩) 40 40 _ (by simp) (by decide) hIz (fun i => by rw [List.getD_eq_getElem?_getD, List.getElem?_replicate]; split <;> simp) (fun h => by cases h) (by decide))
  clear hIz
  refine wpAnyH_ready (rs := [2]) (by kernel_rfl) (by simp) ?_
  refine AllReadyH.cons rfl (fun K hKK => ?_) AllReadyH.nil
  go_simp
  go_at_call 12
  refine HAL.out.mono ?_
  rintro e w3 ⟨v3, rfl, hb3, hnr⟩
  have hB3 : Below W.heap.size W w3 := (Below.refl _ _).drew.alloc (Nat.le_refl _) _ |>.trans (hb3.mono (by show W.heap.size ≤ (W.alloc (.cells Z.toArray 5)).heap.size; simp))
  refine hKK.out _ _ hB3 (fun hHeld => ?_)
  clear hKK K
  try simp only [Act.put, List.setIfInBounds_toArray, List.set_cons_zero, List.set_cons_succ]
  refine held_take 3 (some 2) (v := ?_) rfl rfl (by kernel_rfl) (by kernel_rfl) (by kernel_rfl) (fun _ _ _ h => h) (Or.inl ⟨by rfl, ?_⟩) hHeld ?_
  rotate_left
  · (intro w' hSw; clear hSw; go_simp; try with_reducible rfl)
  try simp only [Act.put, List.setIfInBounds_toArray, List.set_cons_zero, List.set_cons_succ]
  refine wpAnyH_done (by kernel_rfl) ?_ _
  rw [HPC.out] at hnr
  obtain ⟨A3, c3, rfl, hc3, hrows, hA3, -⟩ := hnr.rows
  obtain ⟨a1, B1, x1, e1, hc1, -⟩ := hrows.at 0 (by decide)
  obtain ⟨a2, B2, x2, e2, hc2, -⟩ := hrows.at 1 (by decide)
  obtain ⟨a3, B3, x3, e3, hc3', -⟩ := hrows.at 2 (by decide)
  subst e1
  obtain rfl : a1 = a2 := by injection e2
  obtain rfl : a1 = a3 := by injection e3
  clear e2 e3
  obtain ⟨g1, rfl⟩ := hnr.addr a1 rfl
  have hk1 : w3.cell? ⟨g1, 0, none⟩ = some (.slice B1 16 x1) := hc1
  have hk2 : w3.cell? ⟨g1, 1, none⟩ = some (.slice B2 16 x2) := hc2
  have hk3 : w3.cell? ⟨g1, 2, none⟩ = some (.slice B3 8 x3) := hc3'
  have hr3 := (hB3.block K0 hlt).trans HR.out
  have d0 : w3.cell? ⟨K0, 0, none⟩ = some (.int .i64 16) := by rw [cell_of_row _ _ _ _ _ _ hr3]; rfl
  have d1 : w3.cell? ⟨K0, 1, none⟩ = some (.int .i64 20) := by rw [cell_of_row _ _ _ _ _ _ hr3]; rfl
  have d2 : w3.cell? ⟨K0, 2, none⟩ = some (.int .u32 1) := by rw [cell_of_row _ _ _ _ _ _ hr3]; rfl
  have d3 : w3.cell? ⟨K0, 3, none⟩ = some (.int .u32 1) := by rw [cell_of_row _ _ _ _ _ _ hr3]; rfl
  have x0 := free_row hr3 0
  have hne : K0 < g1 := by have h1 : _ ≤ g1 := (hA3 _ rfl).1; have h2 : W.heap.size ≤ ((W.alloc (.cells Z.toArray 5)).drew).heap.size := (by show W.heap.size ≤ (W.alloc (.cells Z.toArray 5)).heap.size; simp); omega
  have q1 : (w3.setCell ⟨K0, 0, none⟩ (.int .i64 15)).cell? ⟨g1, 0, none⟩ = some (.slice B1 16 x1) := (World.cell?_of_block (w := w3) (Below.heap_setCell _ _ _ _ (by show g1 ≠ K0; omega))).trans hk1
  have q2 : (w3.setCell ⟨K0, 0, none⟩ (.int .i64 15)).cell? ⟨g1, 1, none⟩ = some (.slice B2 16 x2) := (World.cell?_of_block (w := w3) (Below.heap_setCell _ _ _ _ (by show g1 ≠ K0; omega))).trans hk2
  have q3 : (w3.setCell ⟨K0, 0, none⟩ (.int .i64 15)).cell? ⟨g1, 2, none⟩ = some (.slice B3 8 x3) := (World.cell?_of_block (w := w3) (Below.heap_setCell _ _ _ _ (by show g1 ≠ K0; omega))).trans hk3
  have y0 : (w3.setCell ⟨K0, 0, none⟩ (.int .i64 15)).cell? ⟨K0, 0, none⟩ = some (.int .i64 15) := by rw [cell_of_row _ _ _ _ _ _ (setCell_row hr3 0 _)]; rfl
  have y1 : (w3.setCell ⟨K0, 0, none⟩ (.int .i64 15)).cell? ⟨K0, 1, none⟩ = some (.int .i64 20) := by rw [cell_of_row _ _ _ _ _ _ (setCell_row hr3 0 _)]; rfl
  have y2 : (w3.setCell ⟨K0, 0, none⟩ (.int .i64 15)).cell? ⟨K0, 2, none⟩ = some (.int .u32 1) := by rw [cell_of_row _ _ _ _ _ _ (setCell_row hr3 0 _)]; rfl
  have y3 : (w3.setCell ⟨K0, 0, none⟩ (.int .i64 15)).cell? ⟨K0, 3, none⟩ = some (.int .u32 1) := by rw [cell_of_row _ _ _ _ _ _ (setCell_row hr3 0 _)]; rfl
  have HRN := Lib.hid (Right_no 15 20 1 1 (w3.setCell ⟨K0, 0, none⟩ (.int .i64 15)) (by unfold RightI; omega))
  unfold cutC at HRN
  have HBF := Lib.hid (HBW.out.trans (hB3.mono (by rw [← HK0.out]; omega)))
  clear hk1 hk2 hk3 hc1 hc2 hc3' hrows hA3 hnr hr3 hB3 hb3 hHeld HR HQ HBW HAL
  go_upto_region 4 with (fail)
  have hsw := World.size_setCell w3 ⟨K0, 0, none⟩ (.int .i64 15)
  have HSW := Lib.hid hsw
  clear hsw
  have HBS := Lib.hid (Below.setCell (p := ⟨K0, 0, none⟩) HBF.out (by have := HK0.out; show w.heap.size ≤ K0; omega) (.int .i64 15))
  generalize w3.setCell ⟨K0, 0, none⟩ (.int .i64 15) = W3 at *
  have hlen3 : [List.replicate 16 (0 : Int), List.replicate 16 0, List.replicate 8 0].length = 3 := rfl
  rw [hlen3]
  clear hlen3
  go_wp2_with fail
  refine HRN.out.mono ?_
  rintro e w4 ⟨rfl, hg4⟩
  have HG4 := Lib.hid hg4
  clear hg4
  go_wp2_with fail
  go_ret
  exact ⟨rfl, HBS.out.trans ((below_refl_grown HG4.out).mono HBS.out.size)⟩
end Go.Proofs.Ytealompbbknijaa
