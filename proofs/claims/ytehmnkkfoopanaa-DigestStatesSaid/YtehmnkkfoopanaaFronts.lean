/- DigestFronts: the walk. -/
import Derived.Test.YtehmnkkfoopanaaNilWalk
namespace Go.Proofs.Ytehmnkkfoopanaa
open Go.RowKit

set_option maxRecDepth 20000 in
set_option maxHeartbeats 1600000 in
theorem Fronts_law (l : List Int) (w : World) (h32 : l.length = 32) (hb : Bytes l) : Calls Try.prog 4 #[.agg (cellsOf l)] w fun e w' => e = .returned (.bool true) ∧ Below w.heap.size w w' := by
  have H32 := Lib.hid h32
  have HB := Lib.hid hb
  have HBW := Lib.hid (below_refl_grown (grown_alloc w (.cells (cellsOf l) 24) none))
  have HRW := Lib.hid (heap_alloc_last w (.cells (cellsOf l) 24))
  clear h32 hb
  go_enter Try.func4, Try.ntmps4
  go_upto_region 1 with (fail)
  change Code.wp _ _ _ _ (w.alloc (.cells (cellsOf l) 24))
  obtain ⟨w1, hw1⟩ : ∃ z, z = w.alloc (.cells (cellsOf l) 24) := ⟨_, rfl⟩
  obtain ⟨g, hg⟩ : ∃ z, z = w.heap.size := ⟨_, rfl⟩
  rw [← hw1] at HBW HRW ⊢
  rw [← hg] at HRW ⊢
  clear hw1 hg
  have hsz : (Try.prog.info? 24).map (·.size) = some (l.map (Value.int .u8)).length := by rw [List.length_map, H32.out]; kernel_rfl
  have HSZ := Lib.hid hsz
  have HLT := Lib.hid (row_lt HRW.out)
  have HRG := Lib.hid (show w1.rangeAt g 0 (l.map (Value.int .u8)) by
    have := rangeAt_of_row HRW.out 0 32
    unfold cellsOf at this
    rwa [List.drop_zero, List.take_of_length_le (by simp [H32.out])] at this)
  clear hsz
  refine wp_region_held_drew (S := fun w' => Below w1.heap.size w1 w') (by kernel_rfl) ((Below.refl _ _).drew) (fun hHeld => ?_)
  refine wpAnyH_ready (rs := [0]) (by kernel_rfl) (by simp) ?_
  refine AllReadyH.cons rfl (fun K hKK => ?_) AllReadyH.nil
  go_simp
  go_at_call 11
  refine (shown_any _).mono ?_
  rintro e w2 ⟨rfl, hb2⟩
  have HB2 := Lib.hid (show Below w1.heap.size w1 w2 from (Below.refl _ w1).drew.trans hb2)
  clear hb2
  refine hKK.out _ _ HB2.out (fun hHeld => ?_)
  clear hKK K
  try simp only [Act.put, List.setIfInBounds_toArray, List.set_cons_zero, List.set_cons_succ]
  refine held_take 1 (some 4) (v := ?_) rfl rfl (by kernel_rfl) (by kernel_rfl) (by kernel_rfl) (fun _ _ _ h => h) (Or.inl ⟨by rfl, ?_⟩) hHeld ?_
  rotate_left
  · (intro w' hSw; clear hSw; go_simp; try with_reducible rfl)
  try simp only [Act.put, List.setIfInBounds_toArray, List.set_cons_zero, List.set_cons_succ]
  refine held_take 2 (some 5) (v := .agg ((l.map (Value.int .u8))).toArray) rfl rfl (by kernel_rfl) (by kernel_rfl) (by kernel_rfl) (fun _ _ _ h => h) (yieldsIf_load_mid (by rfl) 24 _ rfl g (0) rfl ((l.map (Value.int .u8))) _ (fun w' h => rangeAt_block HRG.out (h.block g HLT.out)) Try.underlying24 rfl HSZ.out) hHeld ?_
  try simp only [Act.put, List.setIfInBounds_toArray, List.set_cons_zero, List.set_cons_succ]
  refine held_take 4 (some 7) (v := .agg ((l.map (Value.int .u8))).toArray) rfl rfl (by kernel_rfl) (by kernel_rfl) (by kernel_rfl) (fun _ _ _ h => h) (yieldsIf_load_mid (by rfl) 24 _ rfl g (0) rfl ((l.map (Value.int .u8))) _ (fun w' h => rangeAt_block HRG.out (h.block g HLT.out)) Try.underlying24 rfl HSZ.out) hHeld ?_
  try simp only [Act.put, List.setIfInBounds_toArray, List.set_cons_zero, List.set_cons_succ]
  refine wpAnyH_ready (rs := [3]) (by kernel_rfl) (by simp) ?_
  refine AllReadyH.cons rfl (fun K hKK => ?_) AllReadyH.nil
  go_simp
  go_at_call 13
  refine (Front_any l _ H32.out HB.out).mono ?_
  rintro e w3 ⟨rfl, hb3⟩
  have HB3 := Lib.hid (HB2.out.trans (hb3.mono HB2.out.size))
  clear hb3
  refine hKK.out _ _ HB3.out (fun hHeld => ?_)
  clear hKK K
  try simp only [Act.put, List.setIfInBounds_toArray, List.set_cons_zero, List.set_cons_succ]
  refine wpAnyH_ready (rs := [5]) (by kernel_rfl) (by simp) ?_
  refine AllReadyH.cons rfl (fun K hKK => ?_) AllReadyH.nil
  go_simp
  go_at_call 14
  refine (RFront_any l _ H32.out HB.out).mono ?_
  rintro e w4 ⟨rfl, hb4⟩
  have HB4 := Lib.hid (HB3.out.trans (hb4.mono HB3.out.size))
  clear hb4
  refine hKK.out _ _ HB4.out (fun hHeld => ?_)
  clear hKK K
  try simp only [Act.put, List.setIfInBounds_toArray, List.set_cons_zero, List.set_cons_succ]
  refine held_take 6 (some 9) (v := ?_) rfl rfl (by kernel_rfl) (by kernel_rfl) (by kernel_rfl) (fun _ _ _ h => h) (Or.inl ⟨by rfl, ?_⟩) hHeld ?_
  rotate_left
  · (intro w' hSw; clear hSw; go_simp; try with_reducible rfl)
  try simp only [Act.put, List.setIfInBounds_toArray, List.set_cons_zero, List.set_cons_succ]
  refine held_take 7 (some 10) (v := ?_) rfl rfl (by kernel_rfl) (by kernel_rfl) (by kernel_rfl) (fun _ _ _ h => h) (Or.inl ⟨by rfl, ?_⟩) hHeld ?_
  rotate_left
  · (intro w' hSw; clear hSw; go_simp; try with_reducible rfl)
  try simp only [Act.put, List.setIfInBounds_toArray, List.set_cons_zero, List.set_cons_succ]
  refine wpAnyH_ready (rs := [8]) (by kernel_rfl) (by simp) ?_
  refine AllReadyH.cons rfl (fun K hKK => ?_) AllReadyH.nil
  go_simp
  refine hKK.out _ _ HB4.out (fun hHeld => ?_)
  clear hKK K
  try simp only [Act.put, List.setIfInBounds_toArray, List.set_cons_zero, List.set_cons_succ]
  refine wpAnyH_done (by kernel_rfl) ?_ _
  go_wp2_with fail
  go_ret
  exact ⟨rfl, HBW.out.trans (HB4.out.mono HBW.out.size)⟩
end Go.Proofs.Ytehmnkkfoopanaa
