/- DigestSums: the walk. -/
import Derived.Test.YtehmnkkfoopanaaFronts
namespace Go.Proofs.Ytehmnkkfoopanaa
open Go.RowKit

theorem rangeOf {w : World} {g : Nat} {d : List Int} {t : TypeId} (h : w.heap[g]? = some (.cells (cellsOf d) t (0, 0))) : w.rangeAt g 0 (d.map (Value.int .u8)) := by
  have := rangeAt_of_row h 0 d.length
  unfold cellsOf at this
  rwa [List.drop_zero, List.take_of_length_le (by simp)] at this
theorem info24' (d : List Int) (h : d.length = 32) : (Try.prog.info? 24).map (·.size) = some (d.map (Value.int .u8)).length := by rw [List.length_map, h]; kernel_rfl
theorem take_min (l : List Int) (n : Nat) : (l.take n).length = min l.length n := by rw [List.length_take, Nat.min_comm]
theorem digestF_B (b : List Int) : Bytes (digestF b) := by
  intro i
  unfold digestF outF
  rw [List.getD_eq_getElem?_getD, List.getElem?_map]
  cases (List.range 32)[i]? with
  | none => simp
  | some x =>
    simp only [Option.map_some, Option.getD_some]
    exact ⟨Int.emod_nonneg _ (by decide), Int.emod_lt_of_pos _ (by decide)⟩

set_option maxRecDepth 20000 in
set_option maxHeartbeats 1600000 in
theorem Sums_law (A : Option Addr) (c : Nat) (l : List Int) (w : World) (hI : Ints .u8 w A l) (hb : Bytes l) (hc : l.length ≤ c) : Calls Try.prog 3 #[.slice A l.length c] w fun e w' => e = .returned (.bool true) ∧ Below w.heap.size w w' := by
  obtain ⟨n, hn⟩ : ∃ z, z = l.length := ⟨_, rfl⟩
  have HFEW := Lib.hid (fun W => few_any A n c W (by omega))
  obtain ⟨b, hbb⟩ : ∃ z, z = l.take 100000 := ⟨_, rfl⟩
  have hbl : b.length = min n 100000 := by rw [hbb, hn]; exact take_min _ _
  have HB := Lib.hid (show Bytes b by rw [hbb]; exact hb.take _)
  have HI := Lib.hid (show Ints .u8 w A b by rw [hbb]; exact hI.take _)
  rw [← hn]
  obtain ⟨q, hq⟩ : ∃ z, z = min n 100000 := ⟨_, rfl⟩
  rw [← hq] at HFEW hbl
  have HQ := Lib.hid hbl
  have HQC := Lib.hid (show q ≤ c by omega)
  have HQM := Lib.hid (show q < 4611686018427387904 by omega)
  have HONE := Lib.hid (DSum_one HQ.out HQC.out HI.out HB.out 22 HQM.out)
  clear hI hb hc hn hbb hbl hq
  go_enter Try.func3, Try.ntmps3
  go_wp2_with fail
  refine (HFEW.out _).mono ?_
  rintro e w0 ⟨rfl, rfl⟩
  go_wp2_with fail
  refine HONE.out.mono ?_
  rintro e w1 ⟨rfl, hb1⟩
  obtain ⟨D, hD⟩ : ∃ z, z = digestF b := ⟨_, rfl⟩
  rw [← hD]
  have HD := Lib.hid hD
  have HDL := Lib.hid (show D.length = 32 by rw [hD]; exact digestF_length _)
  have HDB := Lib.hid (show Bytes D by rw [hD]; exact digestF_B _)
  obtain ⟨W, hst, hgW, hrW, _⟩ := store_new (P := Try.prog) w1 (cellsOf (dS [] 0)) (cellsOf D) 24 (by rw [cellsOf_size, cellsOf_size, HDL.out]; rfl) (cellsOf_one _)
  have HST := Lib.hid (show (storeCells ⟨w1.heap.size, 0, none⟩ (cellsOf D).toList).run Try.prog (w1.alloc (.cells #[.int .u8 0, .int .u8 0, .int .u8 0, .int .u8 0, .int .u8 0, .int .u8 0, .int .u8 0, .int .u8 0, .int .u8 0, .int .u8 0, .int .u8 0, .int .u8 0, .int .u8 0, .int .u8 0, .int .u8 0, .int .u8 0, .int .u8 0, .int .u8 0, .int .u8 0, .int .u8 0, .int .u8 0, .int .u8 0, .int .u8 0, .int .u8 0, .int .u8 0, .int .u8 0, .int .u8 0, .int .u8 0, .int .u8 0, .int .u8 0, .int .u8 0, .int .u8 0] 24)) = .ok () W from hst)
  have HBW := Lib.hid (hb1.trans ((below_refl_grown hgW).mono hb1.size))
  have HRW := Lib.hid hrW
  have hs : (cellsOf D).size = 32 := by rw [cellsOf_size, HDL.out]
  obtain ⟨g, hg⟩ : ∃ z, z = w1.heap.size := ⟨_, rfl⟩
  rw [← hg] at HRW
  have HGE := Lib.hid hg
  clear hst hgW hrW hD hb1 HONE
  go_upto_region 2 with (rw [HST.out]; simp only [Result.andThen_ok])
  rw [← HGE.out]
  clear HST hs hg
  have HLT := Lib.hid (row_lt HRW.out)
  have HRG := Lib.hid (rangeOf HRW.out)
  have HSZ := Lib.hid (info24' D HDL.out)
  have HEQ := Lib.hid (fun w => (show (Op.equalIn 10000 24 (.agg (D.map (Value.int .u8)).toArray) (.agg (cellsOf D))).run Try.prog w = .ok true w from run_in24 w D HDL.out))
  refine wp_region_held_drew (S := fun w' => Below W.heap.size W w') (by kernel_rfl) ((Below.refl _ _).drew) (fun hHeld => ?_)
  refine wpAnyH_ready (rs := [0]) (by kernel_rfl) (by simp) ?_
  refine AllReadyH.cons rfl (fun K hKK => ?_) AllReadyH.nil
  go_simp
  go_at_call 11
  refine (shown_any _).mono ?_
  rintro e w2 ⟨rfl, hb2⟩
  have HBw2 := Lib.hid (show Below W.heap.size W w2 from (Below.refl _ W).drew.trans hb2)
  clear hb2
  refine hKK.out _ _ HBw2.out (fun hHeld => ?_)
  clear hKK K
  try simp only [Act.put, List.setIfInBounds_toArray, List.set_cons_zero, List.set_cons_succ]
  refine held_take 1 (some 9) (v := ?_) rfl rfl (by kernel_rfl) (by kernel_rfl) (by kernel_rfl) (fun _ _ _ h => h) (Or.inl ⟨by rfl, ?_⟩) hHeld ?_
  rotate_left
  · (intro w' hSw; clear hSw; go_simp; try with_reducible rfl)
  try simp only [Act.put, List.setIfInBounds_toArray, List.set_cons_zero, List.set_cons_succ]
  refine held_take 2 (some 10) (v := .agg ((D.map (Value.int .u8))).toArray) rfl rfl (by kernel_rfl) (by kernel_rfl) (by kernel_rfl) (fun _ _ _ h => h) (yieldsIf_load_mid (by rfl) 24 _ rfl g (0) rfl ((D.map (Value.int .u8))) _ (fun w' h => rangeAt_block HRG.out (h.block g HLT.out)) Try.underlying24 rfl HSZ.out) hHeld ?_
  try simp only [Act.put, List.setIfInBounds_toArray, List.set_cons_zero, List.set_cons_succ]
  refine held_take 3 (some 11) (v := ?_) rfl rfl (by kernel_rfl) (by kernel_rfl) (by kernel_rfl) (fun _ _ _ h => h) (Or.inl ⟨by rfl, ?_⟩) hHeld ?_
  rotate_left
  · (intro w' hSw; clear hSw; go_simp; try with_reducible rfl)
  try simp only [Act.put, List.setIfInBounds_toArray, List.set_cons_zero, List.set_cons_succ]
  refine wpAnyH_ready (rs := [4]) (by kernel_rfl) (by simp) ?_
  refine AllReadyH.cons rfl (fun K hKK => ?_) AllReadyH.nil
  go_simp
  go_at_call 10
  refine (HFEW.out _).mono ?_
  rintro e w3 ⟨rfl, hb2⟩
  have HBw3 := Lib.hid (show Below W.heap.size W w3 from hb2 ▸ HBw2.out)
  clear hb2
  refine hKK.out _ _ HBw3.out (fun hHeld => ?_)
  clear hKK K
  try simp only [Act.put, List.setIfInBounds_toArray, List.set_cons_zero, List.set_cons_succ]
  refine wpAnyH_ready (rs := [5]) (by kernel_rfl) (by simp) ?_
  refine AllReadyH.cons rfl (fun K hKK => ?_) AllReadyH.nil
  go_simp
  go_at_call 12
  refine (RSum_any b A q c _ HQ.out HQC.out HB.out (HI.out.below (HBW.out.trans (HBw3.out.mono HBW.out.size))) HQM.out).mono ?_
  rintro e w4 ⟨rfl, hb2⟩
  have HBw4 := Lib.hid (show Below W.heap.size W w4 from (HBw3.out.trans (hb2.mono HBw3.out.size)))
  clear hb2
  refine hKK.out _ _ HBw4.out (fun hHeld => ?_)
  clear hKK K
  try simp only [Act.put, List.setIfInBounds_toArray, List.set_cons_zero, List.set_cons_succ]
  refine held_take 6 (some 14) (v := ?_) rfl rfl (by kernel_rfl) (by kernel_rfl) (by kernel_rfl) (fun _ _ _ h => h) (Or.inl ⟨by rfl, ?_⟩) hHeld ?_
  rotate_left
  · (intro w' hSw; clear hSw; go_simp; rw [← HD.out, HEQ.out]; go_simp; try with_reducible rfl)
  try simp only [Act.put, List.setIfInBounds_toArray, List.set_cons_zero, List.set_cons_succ]
  refine held_take 7 (some 15) (v := ?_) rfl rfl (by kernel_rfl) (by kernel_rfl) (by kernel_rfl) (fun _ _ _ h => h) (Or.inl ⟨by rfl, ?_⟩) hHeld ?_
  rotate_left
  · (intro w' hSw; clear hSw; go_simp; try with_reducible rfl)
  try simp only [Act.put, List.setIfInBounds_toArray, List.set_cons_zero, List.set_cons_succ]
  refine held_take 8 (some 16) (v := ?_) rfl rfl (by kernel_rfl) (by kernel_rfl) (by kernel_rfl) (fun _ _ _ h => h) (Or.inl ⟨by rfl, ?_⟩) hHeld ?_
  rotate_left
  · (intro w' hSw; clear hSw; go_simp; try with_reducible rfl)
  try simp only [Act.put, List.setIfInBounds_toArray, List.set_cons_zero, List.set_cons_succ]
  refine held_take 9 (some 17) (v := .agg ((D.map (Value.int .u8))).toArray) rfl rfl (by kernel_rfl) (by kernel_rfl) (by kernel_rfl) (fun _ _ _ h => h) (yieldsIf_load_mid (by rfl) 24 _ rfl g (0) rfl ((D.map (Value.int .u8))) _ (fun w' h => rangeAt_block HRG.out (h.block g HLT.out)) Try.underlying24 rfl HSZ.out) hHeld ?_
  try simp only [Act.put, List.setIfInBounds_toArray, List.set_cons_zero, List.set_cons_succ]
  refine held_take 11 (some 19) (v := .agg ((D.map (Value.int .u8))).toArray) rfl rfl (by kernel_rfl) (by kernel_rfl) (by kernel_rfl) (fun _ _ _ h => h) (yieldsIf_load_mid (by rfl) 24 _ rfl g (0) rfl ((D.map (Value.int .u8))) _ (fun w' h => rangeAt_block HRG.out (h.block g HLT.out)) Try.underlying24 rfl HSZ.out) hHeld ?_
  try simp only [Act.put, List.setIfInBounds_toArray, List.set_cons_zero, List.set_cons_succ]
  refine wpAnyH_ready (rs := [10]) (by kernel_rfl) (by simp) ?_
  refine AllReadyH.cons rfl (fun K hKK => ?_) AllReadyH.nil
  go_simp
  go_at_call 13
  refine (Front_any D _ HDL.out HDB.out).mono ?_
  rintro e w5 ⟨rfl, hb2⟩
  have HBw5 := Lib.hid (show Below W.heap.size W w5 from (HBw4.out.trans (hb2.mono HBw4.out.size)))
  clear hb2
  refine hKK.out _ _ HBw5.out (fun hHeld => ?_)
  clear hKK K
  try simp only [Act.put, List.setIfInBounds_toArray, List.set_cons_zero, List.set_cons_succ]
  refine wpAnyH_ready (rs := [12]) (by kernel_rfl) (by simp) ?_
  refine AllReadyH.cons rfl (fun K hKK => ?_) AllReadyH.nil
  go_simp
  go_at_call 14
  refine (RFront_any D _ HDL.out HDB.out).mono ?_
  rintro e w6 ⟨rfl, hb2⟩
  have HBw6 := Lib.hid (show Below W.heap.size W w6 from (HBw5.out.trans (hb2.mono HBw5.out.size)))
  clear hb2
  refine hKK.out _ _ HBw6.out (fun hHeld => ?_)
  clear hKK K
  try simp only [Act.put, List.setIfInBounds_toArray, List.set_cons_zero, List.set_cons_succ]
  refine held_take 13 (some 21) (v := ?_) rfl rfl (by kernel_rfl) (by kernel_rfl) (by kernel_rfl) (fun _ _ _ h => h) (Or.inl ⟨by rfl, ?_⟩) hHeld ?_
  rotate_left
  · (intro w' hSw; clear hSw; go_simp; try with_reducible rfl)
  try simp only [Act.put, List.setIfInBounds_toArray, List.set_cons_zero, List.set_cons_succ]
  refine held_take 14 (some 22) (v := ?_) rfl rfl (by kernel_rfl) (by kernel_rfl) (by kernel_rfl) (fun _ _ _ h => h) (Or.inl ⟨by rfl, ?_⟩) hHeld ?_
  rotate_left
  · (intro w' hSw; clear hSw; go_simp; try with_reducible rfl)
  try simp only [Act.put, List.setIfInBounds_toArray, List.set_cons_zero, List.set_cons_succ]
  refine wpAnyH_ready (rs := [15]) (by kernel_rfl) (by simp) ?_
  refine AllReadyH.cons rfl (fun K hKK => ?_) AllReadyH.nil
  go_simp
  refine hKK.out _ _ HBw6.out (fun hHeld => ?_)
  clear hKK K
  try simp only [Act.put, List.setIfInBounds_toArray, List.set_cons_zero, List.set_cons_succ]
  refine wpAnyH_done (by kernel_rfl) ?_ _
  go_wp2_with fail
  go_ret
  exact ⟨rfl, HBW.out.trans (HBw6.out.mono HBW.out.size)⟩
end Go.Proofs.Ytehmnkkfoopanaa
