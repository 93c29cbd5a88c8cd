/- The document's digest: Sum. -/
import Derived.Test.YtehmnkkfoopanaaSum
import Derived.Test.YtehmnkkfoopanaaBlock
namespace Go.Proofs.Ytehmnkkfoopanaa
open Go.RowKit

theorem pad_full (l : List Int) (h : l.length = 64) : pad l = l := by
  unfold pad
  rw [h]; simp
theorem init_is : cellsW initL = #[.int .u32 1795745351, .int .u32 3144134277, .int .u32 1013904242, .int .u32 2773480762, .int .u32 1359893119, .int .u32 2600822924, .int .u32 528734635, .int .u32 1541459225] := rfl
theorem xor_init : Go.bits .xor .u32 1779033703 16842784 = 1795745351 := by decide +kernel
theorem AllU_chain (b : List Int) : ∀ k, AllU (chain b k)
  | 0 => init_U
  | k + 1 => AllU_blockF (AllU_chain b k) _ _ _
/-- Where a slice's rest begins. -/
def slA (A : Option Addr) (l c : Nat) : Option Addr := if c = l then A else A.map (·.add l)
theorem run_slice_lo (w : World) (A : Option Addr) (q c l : Nat) (h : l ≤ q) : (Instr.slice 22 (.slice A q c) (some (.int .i64 (l : Int))) none none).run Try.prog w = .ok (.slice (slA A l c) (q - l) (c - l)) w := by
  have hs : (sizeOf 5).run Try.prog w = .ok 1 w := by kernel_rfl
  simp [Instr.slice, Instr.sliceBounds, Instr.sliceBound, run_underlying Try.underlying22, asIntOf, h, hs, slA]
theorem run_slice_lohi (w : World) (A : Option Addr) (q c l m : Nat) (h : l ≤ m) (hm : m ≤ c) : (Instr.slice 22 (.slice A q c) (some (.int .i64 (l : Int))) (some (.int .i64 (m : Int))) none).run Try.prog w = .ok (.slice (slA A l c) (m - l) (c - l)) w := by
  have hs : (sizeOf 5).run Try.prog w = .ok 1 w := by kernel_rfl
  simp [Instr.slice, Instr.sliceBounds, Instr.sliceBound, run_underlying Try.underlying22, asIntOf, h, hm, hs, slA]
theorem Ints.sl {w : World} {A : Option Addr} {b : List Int} (h : Ints .u8 w A b) (l c : Nat) (hc : b.length ≤ c) : Ints .u8 w (slA A l c) (b.drop l) := by
  unfold slA
  split
  · rw [List.drop_of_length_le (by omega)]; exact Ints.nil _ _ _
  · exact h.dropA l
theorem slA_in {A : Option Addr} {l c : Nat} {ad : Addr} (h : slA A l c = some ad) : ∃ a0, A = some a0 ∧ ad.block = a0.block := by
  unfold slA at h
  split at h
  · exact ⟨ad, h, rfl⟩
  · cases A with
    | none => cases h
    | some a0 =>
      injection h with h
      exact ⟨a0, rfl, by rw [← h, add_block]⟩

set_option maxRecDepth 20000 in
set_option maxHeartbeats 3200000 in
theorem RSum_any (b : List Int) (A : Option Addr) (q c : Nat) (w : World) (hq : b.length = q) (hqc : q ≤ c) (hb : Bytes b) (hI : Ints .u8 w A b) (hl : q < 4611686018427387904) :
    Calls Try.prog 12 #[.slice A q c] w fun e w' => e = .returned (.agg (cellsOf (digestF b))) ∧ Below w.heap.size w w' := by
  have HQ := Lib.hid hq
  have HB := Lib.hid hb
  have HI := Lib.hid hI
  have R0 := Lib.hid (show Rws w (w.alloc (.cells (cellsOf (dS [] 0)) 24)) [(w.heap.size, cellsOf (dS [] 0), 24)] by simpa using (Rws.start w).alloc (cellsOf (dS [] 0)) 24)
  clear hq hb hI
  go_enter Try.func12, Try.ntmps12
  go_upto_region 1 with (fail)
  obtain ⟨w1, hw1⟩ : ∃ z, z = w.alloc (.cells (cellsOf (dS [] 0)) 24) := ⟨_, rfl⟩
  obtain ⟨g2, hg2⟩ : ∃ z, z = w.heap.size := ⟨_, rfl⟩
  change Code.wp _ _ _ _ (w.alloc (.cells (cellsOf (dS [] 0)) 24))
  rw [← hw1, ← hg2] at R0 ⊢
  clear hw1 hg2
  go_wp2_with fail
  refine (words_any w1).mono ?_
  rintro e w2 ⟨rfl, hg⟩
  have R1 := Lib.hid (R0.out.quiet (below_refl_grown hg))
  clear hg R0
  simp only [cellsW, ivL, List.map]
  have HX := xor_init
  go_upto_region 3 with (fail)
  clear HX
  rw [← init_is]
  have R2 := Lib.hid (show Rws w (w2.alloc (.cells (cellsW (chain b 0)) 44)) [(g2, cellsOf (dS [] 0), 24), (w2.heap.size, cellsW (chain b 0), 44)] from R1.out.alloc _ _)
  obtain ⟨w3, hw3⟩ : ∃ z, z = w2.alloc (.cells (cellsW initL) 44) := ⟨_, rfl⟩
  obtain ⟨g3, hg3⟩ : ∃ z, z = w2.heap.size := ⟨_, rfl⟩
  change Rws w (w2.alloc (.cells (cellsW initL) 44)) _ at R2
  rw [← hw3, ← hg3] at R2 ⊢
  have R2 := Lib.hid (show Rws w w3 _ from R2)
  clear hw3 hg3 R1
  go_wp2_with fail
  go_loopg [4] q (fun kq v4 w' => ∃ j p : Nat, v4 = .int .i64 (p : Int) ∧ p = 64 * j ∧ (j = 0 ∨ p < q) ∧ kq = q - p ∧ Rws w w' [(g2, cellsOf (dS [] 0), 24), (g3, cellsW (chain b j), 44)])
  case atStart => exact ⟨0, 0, rfl, rfl, Or.inl rfl, rfl, R2.out⟩
  case round =>
    obtain ⟨j, p, rfl, hp, hj, hkq, hR⟩ := hrel
    clear R2
    have R2 := Lib.hid hR
    have hrow := Lib.hid (hR.drew.at 1 rfl)
    have HCL := Lib.hid (chain_length b j)
    have HIF := Lib.hid (show (Try.prog.info? 44).map (·.size) = some (cellsW (chain b j)).size by rw [cellsW_size, HCL.out]; exact info44)
    have HIW := Lib.hid ((HI.out.below hR.bel).drewN 1)
    have HKQ := Lib.hid hkq
    clear hR
    by_cases hlt : p + 64 < q
    · obtain ⟨bj, hbj⟩ : ∃ z, z = (b.drop p).take 64 := ⟨_, rfl⟩
      have hbl : bj.length = 64 := by rw [hbj, List.length_take, List.length_drop, HQ.out]; omega
      obtain ⟨m, hm⟩ : ∃ m, m = p + 64 := ⟨_, rfl⟩
      have HMP := Lib.hid (show m - p = 64 by omega)
      have HBLK := Lib.hid (block_any (chain b j) bj (slA A p c) 64 (c - p) m false wr.drew HCL.out (by rw [hbj]; exact (HB.out.drop _).take _) hbl (by omega) (by rw [hbj]; exact (HIW.out.sl p c (by rw [HQ.out]; exact hqc)).take 64) (by omega))
      have HIN := Lib.hid (show (Try.prog.info? 44).map (·.size) = some (cellsW (blockF (chain b j) (pad bj) m false)).size by rw [cellsW_size, blockF_length, HCL.out]; exact info44)
      have HSZ := Lib.hid (show (cellsW (chain b j)).size = (cellsW (blockF (chain b j) (pad bj) m false)).size by rw [cellsW_size, cellsW_size, blockF_length])
      obtain ⟨Z, hZ⟩ : ∃ Z, Z = blockF (chain b j) (pad bj) m false := ⟨_, rfl⟩
      have HNX := Lib.hid (show Z = chain b (j + 1) by rw [hZ, pad_full _ hbl, hbj, hm, hp]; rfl)
      rw [← hZ] at HBLK HIN HSZ
      have HWI := Lib.hid (show IntKind.i64.wrap ((p : Int) + 64) = (m : Int) by rw [IntKind.wrap_i64]; omega)
      have HWR := Lib.hid (show IntKind.u64.wrap (m : Int) = (m : Int) by rw [IntKind.wrap_u64]; omega)
      have h1 : (q : Int) - (p : Int) > 64 := by omega
      have h2 : (0 : Int) ≤ (p : Int) := by omega
      have hqb : (q : Int) < 4611686018427387904 := by omega
      have hpm : p ≤ m := by omega
      have hmc : m ≤ c := by omega
      have HPJ := Lib.hid (show m = 64 * (j + 1) by omega)
      have HME := Lib.hid hm
      have HLT := Lib.hid (show m < q by omega)
      clear hbj hbl hp hj hlt hkq hm hZ
      go_upto_region 5 with (fail)
      refine wp_region_held_drew (S := fun _ => True) (by kernel_rfl) trivial (fun hHeld => ?_)
      refine held_take 1 (some 18) (v := ?_) rfl rfl (by kernel_rfl) (by kernel_rfl) (by kernel_rfl) (fun _ _ _ h => h) (Or.inl ⟨by rfl, ?_⟩) hHeld ?_
      rotate_left
      · (intro w' hSw; clear hSw; go_simp; try with_reducible rfl)
      try simp only [Act.put, List.setIfInBounds_toArray, List.set_cons_zero, List.set_cons_succ]
      refine held_take 2 (some 19) (v := ?_) rfl rfl (by kernel_rfl) (by kernel_rfl) (by kernel_rfl) (fun _ _ _ h => h) (Or.inl ⟨by rfl, ?_⟩) hHeld ?_
      rotate_left
      · (intro w' hSw; clear hSw; go_simp; try with_reducible rfl)
      try simp only [Act.put, List.setIfInBounds_toArray, List.set_cons_zero, List.set_cons_succ]
      refine held_take 3 (some 20) (v := ?_) rfl rfl (by kernel_rfl) (by kernel_rfl) (by kernel_rfl) (fun _ _ _ h => h) (Or.inl ⟨by rfl, ?_⟩) hHeld ?_
      rotate_left
      · (intro w' hSw; clear hSw; go_simp; try with_reducible rfl)
      try simp only [Act.put, List.setIfInBounds_toArray, List.set_cons_zero, List.set_cons_succ]
      refine held_take 4 (some 21) (v := ?_) rfl rfl (by kernel_rfl) (by kernel_rfl) (by kernel_rfl) (fun _ _ _ h => h) (Or.inl ⟨by rfl, ?_⟩) hHeld ?_
      rotate_left
      · (intro w' hSw; clear hSw; go_simp; rw [HWI.out])
      try simp only [Act.put, List.setIfInBounds_toArray, List.set_cons_zero, List.set_cons_succ]
      refine held_take 5 (some 22) (v := .slice (slA A p c) 64 (c - p)) rfl rfl (by kernel_rfl) (by kernel_rfl) (by kernel_rfl) (fun _ _ _ h => h) (Or.inl ⟨by rfl, by intro w' hSw; clear hSw; go_simp; rw [HMP.out]; exact ⟨rfl, rfl⟩⟩) hHeld ?_
      try simp only [Act.put, List.setIfInBounds_toArray, List.set_cons_zero, List.set_cons_succ]
      refine held_take 6 (some 23) (v := ?_) rfl rfl (by kernel_rfl) (by kernel_rfl) (by kernel_rfl) (fun _ _ _ h => h) (Or.inl ⟨by rfl, ?_⟩) hHeld ?_
      rotate_left
      · (intro w' hSw; clear hSw; go_simp; try with_reducible rfl)
      try simp only [Act.put, List.setIfInBounds_toArray, List.set_cons_zero, List.set_cons_succ]
      refine held_take 7 (some 24) (v := ?_) rfl rfl (by kernel_rfl) (by kernel_rfl) (by kernel_rfl) (fun _ _ _ h => h) (Or.inl ⟨by rfl, ?_⟩) hHeld ?_
      rotate_left
      · (intro w' hSw; clear hSw; go_simp; rw [HWI.out])
      try simp only [Act.put, List.setIfInBounds_toArray, List.set_cons_zero, List.set_cons_succ]
      refine held_take 8 (some 25) (v := ?_) rfl rfl (by kernel_rfl) (by kernel_rfl) (by kernel_rfl) (fun _ _ _ h => h) (Or.inl ⟨by rfl, ?_⟩) hHeld ?_
      rotate_left
      · (intro w' hSw; clear hSw; go_simp; rw [HWR.out])
      try simp only [Act.put, List.setIfInBounds_toArray, List.set_cons_zero, List.set_cons_succ]
      refine wpAnyH_ready (rs := [0]) (by kernel_rfl) (by simp) ?_
      refine AllReadyH.cons rfl (fun K hKK => ?_) AllReadyH.nil
      rw [if_pos (by kernel_rfl)]
      refine wp_load_row 44 _ rfl g3 rfl 44 _ (0, 0) _ hrow.out Try.underlying44 rfl HIF.out ?_
      refine hKK.out _ _ trivial (fun _ => ?_)
      clear hKK K
      try simp only [Act.put, List.setIfInBounds_toArray, List.set_cons_zero, List.set_cons_succ]
      refine wpAnyH_ready (rs := [9]) (by kernel_rfl) (by simp) ?_
      refine AllReadyH.cons rfl (fun K hKK => ?_) AllReadyH.nil
      go_simp
      go_at_call 20
      refine HBLK.out.mono ?_
      rintro e zq ⟨rfl, hgz⟩
      refine hKK.out _ _ trivial (fun hHeld => ?_)
      clear hKK K
      try simp only [Act.put, List.setIfInBounds_toArray, List.set_cons_zero, List.set_cons_succ]
      have R3 := Lib.hid (R2.out.drew.quiet (below_refl_grown hgz))
      have HRZ := Lib.hid (R3.out.at 1 rfl)
      have R4 := Lib.hid (R3.out.setRow 1 rfl (cellsW Z))
      clear hgz
      refine wpAnyH_ready (rs := [10]) (by kernel_rfl) (by simp) ?_
      refine AllReadyH.cons rfl (fun K hKK => ?_) AllReadyH.nil
      rw [if_pos (by kernel_rfl)]
      refine wp_store_row 44 _ _ rfl g3 (cellsW Z) rfl rfl 44 (cellsW (chain b j)) HRZ.out HIN.out HSZ.out (cellsW_one _) ?_
      refine hKK.out _ _ trivial (fun _ => ?_)
      clear hKK K
      try simp only [Act.put, List.setIfInBounds_toArray, List.set_cons_zero, List.set_cons_succ]
      refine wpAnyH_done (by kernel_rfl) ?_ _
      go_wp2_with fail
      go_roundg (q - m)
      case measure => have := HKQ.out; have := HLT.out; have := HME.out; omega
      case rel => exact ⟨j + 1, m, by rw [HME.out]; rfl, HPJ.out, Or.inr HLT.out, rfl, HNX.out ▸ R4.out⟩
    · have hjn : j = (q - 1) / 64 := by omega
      obtain ⟨bj, hbj⟩ : ∃ z, z = b.drop p := ⟨_, rfl⟩
      have hbl : bj.length = q - p := by rw [hbj, List.length_drop, HQ.out]
      have hpq : p ≤ q := by omega
      have HSL := Lib.hid (fun w' => run_slice_lo w' A q c p hpq)
      have HBLK := Lib.hid (block_any (chain b j) bj (slA A p c) (q - p) (c - p) q true wr.drew HCL.out (by rw [hbj]; exact HB.out.drop _) hbl (by omega) (by rw [hbj]; exact HIW.out.sl p c (by rw [HQ.out]; exact hqc)) hl)
      have HIN := Lib.hid (show (Try.prog.info? 44).map (·.size) = some (cellsW (blockF (chain b j) (pad bj) q true)).size by rw [cellsW_size, blockF_length, HCL.out]; exact info44)
      have HSZ := Lib.hid (show (cellsW (chain b j)).size = (cellsW (blockF (chain b j) (pad bj) q true)).size by rw [cellsW_size, cellsW_size, blockF_length])
      obtain ⟨ws, hws⟩ : ∃ z, z = blockF (chain b j) (pad bj) q true := ⟨_, rfl⟩
      have HDG := Lib.hid (show outF ws = digestF b by rw [hws, hbj, hp, hjn, ← HQ.out]; rfl)
      have HWL := Lib.hid (show ws.length = 8 by rw [hws, blockF_length]; exact HCL.out)
      have HWU := Lib.hid (show AllU ws by rw [hws]; exact AllU_blockF (AllU_chain b j) _ _ _)
      rw [← hws] at HBLK HIN HSZ
      have hwr : IntKind.u64.wrap ((q : Nat) : Int) = ((q : Nat) : Int) := by rw [IntKind.wrap_u64]; apply Int.emod_eq_of_lt <;> omega
      have HWR := Lib.hid hwr
      have h1 : ¬ (q : Int) - (p : Int) > 64 := by omega
      have hqb : (q : Int) < 4611686018427387904 := by omega
      have hpb : (p : Int) ≤ (q : Int) := by omega
      clear hbj hbl hp hj hlt hkq hwr hjn hws
      go_upto_region 7 with (fail)
      refine wp_region_held_drew (S := fun _ => True) (by kernel_rfl) trivial (fun hHeld => ?_)
      refine held_take 1 (some 30) (v := ?_) rfl rfl (by kernel_rfl) (by kernel_rfl) (by kernel_rfl) (fun _ _ _ h => h) (Or.inl ⟨by rfl, ?_⟩) hHeld ?_
      rotate_left
      · (intro w' hSw; clear hSw; go_simp; try with_reducible rfl)
      try simp only [Act.put, List.setIfInBounds_toArray, List.set_cons_zero, List.set_cons_succ]
      refine held_take 2 (some 31) (v := ?_) rfl rfl (by kernel_rfl) (by kernel_rfl) (by kernel_rfl) (fun _ _ _ h => h) (Or.inl ⟨by rfl, ?_⟩) hHeld ?_
      rotate_left
      · (intro w' hSw; clear hSw; go_simp; try with_reducible rfl)
      try simp only [Act.put, List.setIfInBounds_toArray, List.set_cons_zero, List.set_cons_succ]
      refine held_take 3 (some 32) (v := .slice (slA A p c) (q - p) (c - p)) rfl rfl (by kernel_rfl) (by kernel_rfl) (by kernel_rfl) (fun _ _ _ h => h) (Or.inl ⟨by rfl, by intro w' hSw; clear hSw; go_simp; first | rfl | exact ⟨rfl, rfl⟩⟩) hHeld ?_
      try simp only [Act.put, List.setIfInBounds_toArray, List.set_cons_zero, List.set_cons_succ]
      refine held_take 4 (some 33) (v := ?_) rfl rfl (by kernel_rfl) (by kernel_rfl) (by kernel_rfl) (fun _ _ _ h => h) (Or.inl ⟨by rfl, ?_⟩) hHeld ?_
      rotate_left
      · (intro w' hSw; clear hSw; go_simp; try with_reducible rfl)
      try simp only [Act.put, List.setIfInBounds_toArray, List.set_cons_zero, List.set_cons_succ]
      refine held_take 5 (some 34) (v := ?_) rfl rfl (by kernel_rfl) (by kernel_rfl) (by kernel_rfl) (fun _ _ _ h => h) (Or.inl ⟨by rfl, ?_⟩) hHeld ?_
      rotate_left
      · (intro w' hSw; clear hSw; go_simp; try with_reducible rfl)
      try simp only [Act.put, List.setIfInBounds_toArray, List.set_cons_zero, List.set_cons_succ]
      refine held_take 6 (some 35) (v := ?_) rfl rfl (by kernel_rfl) (by kernel_rfl) (by kernel_rfl) (fun _ _ _ h => h) (Or.inl ⟨by rfl, ?_⟩) hHeld ?_
      rotate_left
      · (intro w' hSw; clear hSw; go_simp; rw [HWR.out])
      try simp only [Act.put, List.setIfInBounds_toArray, List.set_cons_zero, List.set_cons_succ]
      refine wpAnyH_ready (rs := [0]) (by kernel_rfl) (by simp) ?_
      refine AllReadyH.cons rfl (fun K hKK => ?_) AllReadyH.nil
      rw [if_pos (by kernel_rfl)]
      refine wp_load_row 44 _ rfl g3 rfl 44 _ (0, 0) _ hrow.out Try.underlying44 rfl HIF.out ?_
      refine hKK.out _ _ trivial (fun _ => ?_)
      clear hKK K
      try simp only [Act.put, List.setIfInBounds_toArray, List.set_cons_zero, List.set_cons_succ]
      refine wpAnyH_ready (rs := [7]) (by kernel_rfl) (by simp) ?_
      refine AllReadyH.cons rfl (fun K hKK => ?_) AllReadyH.nil
      go_simp
      go_at_call 20
      refine HBLK.out.mono ?_
      rintro e zq ⟨rfl, hgz⟩
      refine hKK.out _ _ trivial (fun hHeld => ?_)
      clear hKK K
      try simp only [Act.put, List.setIfInBounds_toArray, List.set_cons_zero, List.set_cons_succ]
      have R3 := Lib.hid (R2.out.drew.quiet (below_refl_grown hgz))
      have HRZ := Lib.hid (R3.out.at 1 rfl)
      have R4 := Lib.hid (R3.out.setRow 1 rfl (cellsW ws))
      clear hgz
      refine wpAnyH_ready (rs := [8]) (by kernel_rfl) (by simp) ?_
      refine AllReadyH.cons rfl (fun K hKK => ?_) AllReadyH.nil
      rw [if_pos (by kernel_rfl)]
      refine wp_store_row 44 _ _ rfl g3 (cellsW ws) rfl rfl 44 (cellsW (chain b j)) HRZ.out HIN.out HSZ.out (cellsW_one _) ?_
      refine hKK.out _ _ trivial (fun _ => ?_)
      clear hKK K
      try simp only [Act.put, List.setIfInBounds_toArray, List.set_cons_zero, List.set_cons_succ]
      refine wpAnyH_done (by kernel_rfl) ?_ _
      have hsz : (zq.setRow g3 (cellsW ws)).heap.size = zq.heap.size := by simp [World.setRow]
      have R5 := Lib.hid (show Rws w ((zq.setRow g3 (cellsW ws)).alloc (.cells (cellsOf (dS ws 0)) 24)) [(g2, cellsOf (dS [] 0), 24), (g3, cellsW ws, 44), (zq.heap.size, cellsOf (dS ws 0), 24)] by rw [← hsz]; exact R4.out.alloc (cellsOf (dS ws 0)) 24)
      clear hsz
      clear HIN HSZ HBLK HSL HRZ R3 hrow HIF R2
      go_upto_region 9 with (fail)
      obtain ⟨w5, hw5⟩ : ∃ z, z = (zq.setRow g3 (cellsW ws)).alloc (.cells (cellsOf (dS ws 0)) 24) := ⟨_, rfl⟩
      obtain ⟨gd, hgd⟩ : ∃ z, z = zq.heap.size := ⟨_, rfl⟩
      change Code.wp _ _ _ _ ((zq.setRow g3 (cellsW ws)).alloc (.cells (cellsOf (dS ws 0)) 24))
      rw [← hw5, ← hgd] at R5 ⊢
      clear hw5 hgd R4
      go_wp2_with fail
      go_loopg [6] 32 (fun kq v6 w' => ∃ i : Nat, v6 = .int .i64 (i : Int) ∧ i + kq = 32 ∧ Rws w w' [(g2, cellsOf (dS [] 0), 24), (g3, cellsW ws, 44), (gd, cellsOf (dS ws i), 24)])
      case atStart => exact ⟨0, rfl, by omega, R5.out⟩
      case round =>
        obtain ⟨i, rfl, hi, hR⟩ := hrel
        have R6 := Lib.hid hR
        by_cases hlt : i < 32
        · have c1 := hR.c 1 rfl (i / 4) (by rw [HWL.out]; omega)
          have c2 : wr.cell? ⟨gd, i, none⟩ = some (.int .u8 ((dS ws i).getD i 0)) := by rw [cell_of_row _ _ _ _ _ _ (hR.at 2 rfl)]; exact cellsOf_get _ _ (by rw [dS_length]; exact hlt)
          have f1 := hR.f 2 rfl i
          have HN := Lib.hid (show Rws w (wr.setCell ⟨gd, i, none⟩ (.int .u8 ((ws.getD (i / 4) 0 / 2 ^ (8 * (i % 4))) % 256))) [(g2, cellsOf (dS [] 0), 24), (g3, cellsW ws, 44), (gd, cellsOf (dS ws (i + 1)), 24)] from hR.change 2 rfl (grown_setCell _ _ _ _) (by rw [setCell_row (hR.at 2 rfl), cellsOf_set]; rfl))
          obtain ⟨u0, u1⟩ := HWU.out (i / 4)
          have i1 : (i : Int) < 32 := by omega
          have i0 : (0 : Int) ≤ (i : Int) := by omega
          have i2 : (0 : Int) ≤ (i : Int) / 4 := by omega
          have i3 : (i : Int) / 4 < 8 := by omega
          have i4 : (0 : Int) ≤ (i : Int) % 4 := by omega
          have i5 : (i : Int) % 4 < 4 := by omega
          generalize ws.getD (i / 4) 0 = x at *
          clear hR hlt
          go_wp2_with fail
          go_roundg (32 - (i + 1))
          case measure => omega
          case rel => exact ⟨i + 1, by go_num, by omega, HN.out⟩
        · have hi32 : i = 32 := by omega
          subst hi32
          rw [dS_32] at R6
          have HIZ := Lib.hid (info24 (outF ws) (outF_length ws))
          have HZ8 := Lib.hid (show (cellsOf (dS [] 0)).size = (cellsOf (outF ws)).size by rw [cellsOf_size, cellsOf_size, outF_length]; rfl)
          have hrow := Lib.hid (R6.out.at 2 rfl)
          have hrow2 := Lib.hid (R6.out.at 0 rfl)
          have R7 := Lib.hid (R6.out.setRow 0 rfl (cellsOf (outF ws)))
          clear hR hlt hi
          go_wp2_with (first | (with_reducible refine wpList_load_row rfl 24 _ rfl gd rfl 24 (cellsOf (outF ws)) (0, 0) _ hrow.out Try.underlying24 rfl HIZ.out ?_) | (with_reducible refine wpList_store_row rfl 24 _ _ rfl g2 (cellsOf (outF ws)) rfl rfl 24 (cellsOf (dS [] 0)) hrow2.out HIZ.out HZ8.out (cellsOf_one _) ?_))
          refine bodyPost_ret (results_cell rfl _ _ g2 24 (cellsOf (outF ws)) (0, 0) _ rfl (R7.out.at 0 rfl) Try.underlying24 rfl HIZ.out) rfl ?_
          exact ⟨by rw [← HDG.out], R7.out.bel⟩
end Go.Proofs.Ytehmnkkfoopanaa
