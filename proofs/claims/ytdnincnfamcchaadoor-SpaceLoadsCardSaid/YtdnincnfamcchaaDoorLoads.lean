/- space: the walk of SpaceLoads. -/
import Derived.Test.YtdnincnfamcchaaDoorShown
namespace Go.Proofs.YtdnincnfamcchaaDoor
open Go.RowKit

theorem Loads_long (x : Int) (q c : Nat) (A : Option Addr) (w : World) (hT : Tb w) (hq : 10000 < q) (hq2 : q ≤ 1000000000000000) : Calls Tryd.prog 4 #[.int .i64 x, .slice A q c] w fun e w' => e = .returned (.bool true) ∧ Below w.heap.size w w' := by
  have HS := Lib.hid (shown_any w hT)
  clear hT
  go_enter Tryd.func4, Tryd.ntmps4
  go_wp2_with fail
  refine HS.out.mono ?_
  rintro e w1 ⟨rfl, hb1⟩
  have HB1 := Lib.hid hb1
  clear hb1
  go_wp2_with fail
  go_ret
  exact ⟨rfl, HB1.out⟩
theorem Loads_bad (x : Int) (q c : Nat) (A : Option Addr) (w : World) (hT : Tb w) (hq : q ≤ 10000) (hx : x < 0 ∨ 16384 < x) : Calls Tryd.prog 4 #[.int .i64 x, .slice A q c] w fun e w' => e = .returned (.bool true) ∧ Below w.heap.size w w' := by
  have HL := Lib.hid (fun v W => Load_bad x v W hx)
  have HR := Lib.hid (fun v W => rLoad_bad x v W hx)
  clear hx
  have HS := Lib.hid (shown_any w hT)
  clear hT
  go_enter Tryd.func4, Tryd.ntmps4
  go_wp2_with fail
  refine HS.out.mono ?_
  rintro e w1 ⟨rfl, hb1⟩
  have HB1 := Lib.hid hb1
  clear hb1
  go_wp2_with fail
  refine (HL.out _ _).mono ?_
  rintro e w2 ⟨rfl, rfl⟩
  go_wp2_with fail
  refine (HR.out _ _).mono ?_
  rintro e w2 ⟨rfl, rfl⟩
  go_wp2_with fail
  go_ret
  exact ⟨rfl, HB1.out⟩
theorem Loads_len (n q c : Nat) (A : Option Addr) (w : World) (hT : Tb w) (hq : q ≤ 10000) (h1 : n ≤ 16384) (hl : q ≠ (n + 7) / 8) : Calls Tryd.prog 4 #[.int .i64 n, .slice A q c] w fun e w' => e = .returned (.bool true) ∧ Below w.heap.size w w' := by
  have HL := Lib.hid (fun W => Load_len n c q ((n + 63) / 64) A W h1 rfl hl (by omega))
  have HR := Lib.hid (fun W => rLoad_len n c q A W h1 hl (by omega))
  clear hl
  have HS := Lib.hid (shown_any w hT)
  clear hT
  go_enter Tryd.func4, Tryd.ntmps4
  go_wp2_with fail
  refine HS.out.mono ?_
  rintro e w1 ⟨rfl, hb1⟩
  have HB1 := Lib.hid hb1
  clear hb1
  go_wp2_with fail
  refine (HL.out _).mono ?_
  rintro e w2 ⟨rfl, hg2⟩
  have HB2 := Lib.hid (HB1.out.trans ((below_refl_grown hg2).mono HB1.out.size))
  clear hg2
  go_wp2_with fail
  refine (HR.out _).mono ?_
  rintro e w3 ⟨rfl, hg3⟩
  have HB3 := Lib.hid (HB2.out.trans ((below_refl_grown hg3).mono HB2.out.size))
  clear hg3
  go_wp2_with fail
  go_ret
  exact ⟨rfl, HB3.out⟩
theorem Loads_over (n q c : Nat) (l : List Int) (A : Option Addr) (w : World) (hT : Tb w) (hq : q ≤ 10000) (h1 : n ≤ 16384) (hb : Bytes l) (hn : l.length = q) (hl : q = (n + 7) / 8) (hI : Ints .u8 w A l) (ho : ¬ Ok n l) : Calls Tryd.prog 4 #[.int .i64 n, .slice A q c] w fun e w' => e = .returned (.bool true) ∧ Below w.heap.size w w' := by
  have HL := Lib.hid (fun W h => Load_over n c q ((n + 63) / 64) l A W h1 rfl hb hn hl h ho)
  have HR := Lib.hid (fun W h => rLoad_any n c q l A W h1 hb hn hl h)
  have HI := Lib.hid hI
  have HO := Lib.hid ho
  clear hl hI ho hn hb
  have HS := Lib.hid (shown_any w hT)
  clear hT
  go_enter Tryd.func4, Tryd.ntmps4
  go_wp2_with fail
  refine HS.out.mono ?_
  rintro e w1 ⟨rfl, hb1⟩
  have HB1 := Lib.hid hb1
  clear hb1
  go_wp2_with fail
  refine (HL.out _ (HI.out.below HB1.out)).mono ?_
  rintro e w2 ⟨rfl, hg2⟩
  have HB2 := Lib.hid (HB1.out.trans ((below_refl_grown hg2).mono HB1.out.size))
  clear hg2
  go_wp2_with fail
  refine (HR.out _ (HI.out.below HB2.out)).mono ?_
  rintro e w3 ⟨hb3, ⟨ho3, _⟩ | ⟨_, rfl⟩⟩
  · exact absurd ho3 HO.out
  have HB3 := Lib.hid (HB2.out.trans (hb3.mono HB2.out.size))
  clear hb3
  go_wp2_with fail
  go_ret
  exact ⟨rfl, HB3.out⟩
set_option maxRecDepth 20000 in
set_option maxHeartbeats 3200000 in
theorem Loads_ok (n q c : Nat) (l : List Int) (A : Option Addr) (w : World) (hT : Tb w) (hq : q ≤ 10000) (h1 : n ≤ 16384) (hb : Bytes l) (hn : l.length = q) (hl : q = (n + 7) / 8) (hI : Ints .u8 w A l) (ho : Ok n l) : Calls Tryd.prog 4 #[.int .i64 n, .slice A q c] w fun e w' => e = .returned (.bool true) ∧ Below w.heap.size w w' := by
  obtain ⟨m, hm⟩ : ∃ m, m = (n + 63) / 64 := ⟨_, rfl⟩
  have HL := Lib.hid (fun W h => Load_any n c q m l A W h1 hm hb hn hl h ho)
  have HR := Lib.hid (fun W h => rLoad_any n c q l A W h1 hb hn hl h)
  have HI := Lib.hid hI
  have HO := Lib.hid ho
  have HQ := Lib.hid hl
  have HTB := Lib.hid hT
  have HNL := Lib.hid hn
  have HPK := Lib.hid (show pack q (bitOf l) = l by rw [← hn]; exact pack_bitOf l hb)
  clear hl hI ho hn hb hm
  have HS := Lib.hid (shown_any w hT)
  clear hT
  go_enter Tryd.func4, Tryd.ntmps4
  go_wp2_with fail
  refine HS.out.mono ?_
  rintro e w1 ⟨rfl, hb1⟩
  have HB1 := Lib.hid hb1
  clear hb1
  go_wp2_with fail
  refine (HL.out _ (HI.out.below HB1.out)).mono ?_
  rintro e w2 ⟨rfl, hg2, hV2, hs2⟩
  obtain ⟨h, hh⟩ : ∃ z, z = w1.heap.size := ⟨_, rfl⟩
  rw [← hh] at hV2 ⊢
  have HB2 := Lib.hid (HB1.out.trans ((below_refl_grown hg2).mono HB1.out.size))
  have HV2 := Lib.hid hV2
  have HT2 := Lib.hid (Tb.below (w := w) HTB.out HB2.out)
  clear hg2 hh hs2 hV2
  go_wp2_with fail
  refine (HR.out _ (HI.out.below HB2.out)).mono ?_
  rintro e w3 ⟨hb3, ⟨_, rfl, hR3⟩ | ⟨ho3, _⟩⟩
  rotate_left
  · exact absurd HO.out ho3
  obtain ⟨k, hk⟩ : ∃ z, z = w2.heap.size := ⟨_, rfl⟩
  rw [← hk] at hR3 ⊢
  have HB3 := Lib.hid (HB2.out.trans (hb3.mono HB2.out.size))
  have HV3 := Lib.hid (HV2.out.kept (R := fun _ => False) (Chg.belowAt hb3) (fun h => h) (fun h => h))
  have HR3 := Lib.hid hR3
  have HT3 := Lib.hid (HT2.out.below hb3)
  have HI3 := Lib.hid (HI.out.below HB3.out)
  have HTL := Lib.hid (takenI_length (bitOf l) n)
  obtain ⟨TI, hTI⟩ : ∃ z, z = takenI (bitOf l) n := ⟨_, rfl⟩
  have HTI := Lib.hid hTI
  rw [← hTI] at HTL
  obtain ⟨tl, htl⟩ : ∃ z, z = (takenL (bitOf l) n).length := ⟨_, rfl⟩
  have HTLE := Lib.hid htl
  rw [← htl] at HTL
  clear hb3 hk hR3 hTI htl
  go_wp2_with fail
  refine wp_region_held_drew (S := fun w' => Below w3.heap.size w3 w') (by kernel_rfl) ((Below.refl _ _).drew) (fun hHeld => ?_)
  refine held_take 0 (some 39) (v := ?_) rfl rfl (by kernel_rfl) (by kernel_rfl) (by kernel_rfl) (fun _ _ _ h => h) (Or.inl ⟨by rfl, ?_⟩) hHeld ?_
  rotate_left
  · (intro w' hSw; clear hSw; go_simp; try with_reducible rfl)
  try simp only [Act.put, List.setIfInBounds_toArray, List.set_cons_zero, List.set_cons_succ]
  refine held_take 1 (some 40) (v := ?_) rfl rfl (by kernel_rfl) (by kernel_rfl) (by kernel_rfl) (fun _ _ _ h => h) (Or.inl ⟨by rfl, ?_⟩) hHeld ?_
  rotate_left
  · (intro w' hSw; clear hSw; go_simp; try with_reducible rfl)
  try simp only [Act.put, List.setIfInBounds_toArray, List.set_cons_zero, List.set_cons_succ]
  refine held_take 2 (some 41) (v := ?_) rfl rfl (by kernel_rfl) (by kernel_rfl) (by kernel_rfl) (fun _ _ _ h => h) (Or.inl ⟨by rfl, ?_⟩) hHeld ?_
  rotate_left
  · (intro w' hSw; clear hSw; go_simp; try with_reducible rfl)
  try simp only [Act.put, List.setIfInBounds_toArray, List.set_cons_zero, List.set_cons_succ]
  refine held_take 3 (some 42) (v := ?_) rfl rfl (by kernel_rfl) (by kernel_rfl) (by kernel_rfl) (fun _ _ _ h => h) (Or.inl ⟨by rfl, ?_⟩) hHeld ?_
  rotate_left
  · (intro w' hSw; clear hSw; go_simp; try with_reducible rfl)
  try simp only [Act.put, List.setIfInBounds_toArray, List.set_cons_zero, List.set_cons_succ]
  refine held_take 4 (some 43) (v := ?_) rfl rfl (by kernel_rfl) (by kernel_rfl) (by kernel_rfl) (fun _ _ _ h => h) (Or.inl ⟨by rfl, ?_⟩) hHeld ?_
  rotate_left
  · (intro w' hSw; clear hSw; go_simp; try with_reducible rfl)
  try simp only [Act.put, List.setIfInBounds_toArray, List.set_cons_zero, List.set_cons_succ]
  refine held_take 5 (some 44) (v := ?_) rfl rfl (by kernel_rfl) (by kernel_rfl) (by kernel_rfl) (fun _ _ _ h => h) (Or.inl ⟨by rfl, ?_⟩) hHeld ?_
  rotate_left
  · (intro w' hSw; clear hSw; go_simp; try with_reducible rfl)
  try simp only [Act.put, List.setIfInBounds_toArray, List.set_cons_zero, List.set_cons_succ]
  refine held_take 6 (some 45) (v := ?_) rfl rfl (by kernel_rfl) (by kernel_rfl) (by kernel_rfl) (fun _ _ _ h => h) (Or.inl ⟨by rfl, ?_⟩) hHeld ?_
  rotate_left
  · (intro w' hSw; clear hSw; go_simp; try with_reducible rfl)
  try simp only [Act.put, List.setIfInBounds_toArray, List.set_cons_zero, List.set_cons_succ]
  refine held_take 7 (some 46) (v := ?_) rfl rfl (by kernel_rfl) (by kernel_rfl) (by kernel_rfl) (fun _ _ _ h => h) (Or.inl ⟨by rfl, ?_⟩) hHeld ?_
  rotate_left
  · (intro w' hSw; clear hSw; go_simp; try with_reducible rfl)
  try simp only [Act.put, List.setIfInBounds_toArray, List.set_cons_zero, List.set_cons_succ]
  refine held_take 8 (some 47) (v := ?_) rfl rfl (by kernel_rfl) (by kernel_rfl) (by kernel_rfl) (fun _ _ _ h => h) (Or.inl ⟨by rfl, ?_⟩) hHeld ?_
  rotate_left
  · (intro w' hSw; clear hSw; go_simp; try with_reducible rfl)
  try simp only [Act.put, List.setIfInBounds_toArray, List.set_cons_zero, List.set_cons_succ]
  refine held_take 9 (some 48) (v := ?_) rfl rfl (by kernel_rfl) (by kernel_rfl) (by kernel_rfl) (fun _ _ _ h => h) (Or.inl ⟨by rfl, ?_⟩) hHeld ?_
  rotate_left
  · (intro w' hSw; clear hSw; go_simp; try with_reducible rfl)
  try simp only [Act.put, List.setIfInBounds_toArray, List.set_cons_zero, List.set_cons_succ]
  refine held_take 10 (some 49) (v := ?_) rfl rfl (by kernel_rfl) (by kernel_rfl) (by kernel_rfl) (fun _ _ _ h => h) (Or.inl ⟨by rfl, ?_⟩) hHeld ?_
  rotate_left
  · (intro w' hSw; clear hSw; go_simp; try with_reducible rfl)
  try simp only [Act.put, List.setIfInBounds_toArray, List.set_cons_zero, List.set_cons_succ]
  refine held_take 11 (some 50) (v := ?_) rfl rfl (by kernel_rfl) (by kernel_rfl) (by kernel_rfl) (fun _ _ _ h => h) (Or.inl ⟨by rfl, ?_⟩) hHeld ?_
  rotate_left
  · (intro w' hSw; clear hSw; go_simp; try with_reducible rfl)
  try simp only [Act.put, List.setIfInBounds_toArray, List.set_cons_zero, List.set_cons_succ]
  refine held_take 13 (some 52) (v := ?_) rfl rfl (by kernel_rfl) (by kernel_rfl) (by kernel_rfl) (fun _ _ _ h => h) (Or.inl ⟨by rfl, ?_⟩) hHeld ?_
  rotate_left
  · (intro w' hSw; clear hSw; go_simp; try with_reducible rfl)
  try simp only [Act.put, List.setIfInBounds_toArray, List.set_cons_zero, List.set_cons_succ]
  refine wpAnyH_ready (rs := [12]) (by kernel_rfl) (by simp) ?_
  refine AllReadyH.cons rfl (fun K hKK => ?_) AllReadyH.nil
  go_simp
  go_at_call 17
  ((with_reducible refine (Len_any (HV3.out.kept (R := fun _ => False) (Chg.belowAt (Below.refl _ _).drew) (fun h => h) (fun h => h))).mono ?_))
  rintro e zq ⟨rfl, rfl⟩
  refine hKK.out _ _ (Below.refl _ _).drew (fun hHeld => ?_)
  clear hKK K
  try simp only [Act.put, List.setIfInBounds_toArray, List.set_cons_zero, List.set_cons_succ]
  refine held_take 14 (some 53) (v := ?_) rfl rfl (by kernel_rfl) (by kernel_rfl) (by kernel_rfl) (fun _ _ _ h => h) (Or.inl ⟨by rfl, ?_⟩) hHeld ?_
  rotate_left
  · (intro w' hSw; clear hSw; go_simp; try with_reducible rfl)
  try simp only [Act.put, List.setIfInBounds_toArray, List.set_cons_zero, List.set_cons_succ]
  refine held_take 15 (some 54) (v := ?_) rfl rfl (by kernel_rfl) (by kernel_rfl) (by kernel_rfl) (fun _ _ _ h => h) (Or.inl ⟨by rfl, ?_⟩) hHeld ?_
  rotate_left
  · (intro w' hSw; clear hSw; go_simp; try with_reducible rfl)
  try simp only [Act.put, List.setIfInBounds_toArray, List.set_cons_zero, List.set_cons_succ]
  refine held_take 16 (some 55) (v := ?_) rfl rfl (by kernel_rfl) (by kernel_rfl) (by kernel_rfl) (fun _ _ _ h => h) (Or.inl ⟨by rfl, ?_⟩) hHeld ?_
  rotate_left
  · (intro w' hSw; clear hSw; go_simp; try with_reducible rfl)
  try simp only [Act.put, List.setIfInBounds_toArray, List.set_cons_zero, List.set_cons_succ]
  refine held_take 17 (some 56) (v := ?_) rfl rfl (by kernel_rfl) (by kernel_rfl) (by kernel_rfl) (fun _ _ _ h => h) (Or.inl ⟨by rfl, ?_⟩) hHeld ?_
  rotate_left
  · (intro w' hSw; clear hSw; go_simp; try with_reducible rfl)
  try simp only [Act.put, List.setIfInBounds_toArray, List.set_cons_zero, List.set_cons_succ]
  refine held_take 19 (some 58) (v := ?_) rfl rfl (by kernel_rfl) (by kernel_rfl) (by kernel_rfl) (fun _ _ _ h => h) (Or.inl ⟨by rfl, ?_⟩) hHeld ?_
  rotate_left
  · (intro w' hSw; clear hSw; go_simp; try with_reducible rfl)
  try simp only [Act.put, List.setIfInBounds_toArray, List.set_cons_zero, List.set_cons_succ]
  refine wpAnyH_ready (rs := [18]) (by kernel_rfl) (by simp) ?_
  refine AllReadyH.cons rfl (fun K hKK => ?_) AllReadyH.nil
  go_simp
  go_at_call 12
  ((with_reducible refine (Taken_any (HV3.out.kept (R := fun _ => False) (Chg.belowAt (Below.refl _ _).drew) (fun h => h) (fun h => h))).mono ?_))
  rw [← HTLE.out]
  rintro e zq ⟨rfl, rfl⟩
  refine hKK.out _ _ (Below.refl _ _).drew (fun hHeld => ?_)
  clear hKK K
  try simp only [Act.put, List.setIfInBounds_toArray, List.set_cons_zero, List.set_cons_succ]
  refine wpAnyH_ready (rs := [20]) (by kernel_rfl) (by simp) ?_
  refine AllReadyH.cons rfl (fun K hKK => ?_) AllReadyH.nil
  go_simp
  go_at_call 18
  ((with_reducible refine (rAll_any (HR3.out.kept (R := fun _ => False) (Chg.belowAt (Below.refl _ _).drew) (fun h => h) (fun h => h))).mono ?_))
  rw [← HTI.out]
  rintro e w5 ⟨A5, c5, rfl, hc5, hI5, hA5, hb5⟩
  rw [HTL.out]
  have hB5 : Below w3.heap.size w3 w5 := ((Below.refl _ _).drew).trans hb5
  refine hKK.out _ _ hB5 (fun hHeld => ?_)
  clear hKK K
  try simp only [Act.put, List.setIfInBounds_toArray, List.set_cons_zero, List.set_cons_succ]
  refine held_take 21 (some 60) (v := ?_) rfl rfl (by kernel_rfl) (by kernel_rfl) (by kernel_rfl) (fun _ _ _ h => h) (Or.inl ⟨by rfl, ?_⟩) hHeld ?_
  rotate_left
  · (intro w' hSw; clear hSw; go_simp; try with_reducible rfl)
  try simp only [Act.put, List.setIfInBounds_toArray, List.set_cons_zero, List.set_cons_succ]
  refine held_take 22 (some 61) (v := ?_) rfl rfl (by kernel_rfl) (by kernel_rfl) (by kernel_rfl) (fun _ _ _ h => h) (Or.inl ⟨by rfl, ?_⟩) hHeld ?_
  rotate_left
  · (intro w' hSw; clear hSw; go_simp; try with_reducible rfl)
  try simp only [Act.put, List.setIfInBounds_toArray, List.set_cons_zero, List.set_cons_succ]
  refine held_take 23 (some 62) (v := ?_) rfl rfl (by kernel_rfl) (by kernel_rfl) (by kernel_rfl) (fun _ _ _ h => h) (Or.inl ⟨by rfl, ?_⟩) hHeld ?_
  rotate_left
  · (intro w' hSw; clear hSw; go_simp; try with_reducible rfl)
  try simp only [Act.put, List.setIfInBounds_toArray, List.set_cons_zero, List.set_cons_succ]
  refine held_take 24 (some 63) (v := ?_) rfl rfl (by kernel_rfl) (by kernel_rfl) (by kernel_rfl) (fun _ _ _ h => h) (Or.inl ⟨by rfl, ?_⟩) hHeld ?_
  rotate_left
  · (intro w' hSw; clear hSw; go_simp; try with_reducible rfl)
  try simp only [Act.put, List.setIfInBounds_toArray, List.set_cons_zero, List.set_cons_succ]
  refine held_take 25 (some 64) (v := ?_) rfl rfl (by kernel_rfl) (by kernel_rfl) (by kernel_rfl) (fun _ _ _ h => h) (Or.inl ⟨by rfl, ?_⟩) hHeld ?_
  rotate_left
  · (intro w' hSw; clear hSw; go_simp; try with_reducible rfl)
  try simp only [Act.put, List.setIfInBounds_toArray, List.set_cons_zero, List.set_cons_succ]
  refine held_take 28 (some 67) (v := ?_) rfl rfl (by kernel_rfl) (by kernel_rfl) (by kernel_rfl) (fun _ _ _ h => h) (Or.inl ⟨by rfl, ?_⟩) hHeld ?_
  rotate_left
  · (intro w' hSw; clear hSw; go_simp; try with_reducible rfl)
  try simp only [Act.put, List.setIfInBounds_toArray, List.set_cons_zero, List.set_cons_succ]
  refine held_take 29 (some 68) (v := .string (strOfNums l)) rfl rfl (by kernel_rfl) (by kernel_rfl) (by kernel_rfl) (fun _ _ _ h => h) (yieldsIf_conv (by rfl) 34 9 5 _ rfl A q c _ rfl HNL.out (fun w' h => HI3.out.below h) Tryd.underlying34 Tryd.underlying5 Tryd.underlying9) hHeld ?_
  try simp only [Act.put, List.setIfInBounds_toArray, List.set_cons_zero, List.set_cons_succ]
  refine wpAnyH_ready (rs := [26]) (by kernel_rfl) (by simp) ?_
  refine AllReadyH.cons rfl (fun K hKK => ?_) AllReadyH.nil
  go_simp
  go_at_call 19
  ((with_reducible refine (Bytes_any (HV3.out.kept (R := fun _ => False) (Chg.belowAt hB5) (fun h => h) (fun h => h)) q HQ.out).mono ?_))
  rw [HPK.out]
  rintro e w6 ⟨A6, c6, rfl, hc6, hI6, hA6, hb6⟩
  rw [HNL.out]
  have hB6 : Below w3.heap.size w3 w6 := hB5.trans (hb6.mono hB5.size)
  have HI6 := Lib.hid hI6
  refine hKK.out _ _ hB6 (fun _ => held_more (S1 := fun w' => Below w6.heap.size w6 w') (fun w' h => hB6.trans (h.mono hB6.size)) _ _ _ _ ?_)
  have hHeld := Below.refl w6.heap.size w6
  clear hKK K hI6 hA6
  try simp only [Act.put, List.setIfInBounds_toArray, List.set_cons_zero, List.set_cons_succ]
  refine held_take 27 (some 66) (v := .string (strOfNums l)) rfl rfl (by kernel_rfl) (by kernel_rfl) (by kernel_rfl) (fun _ _ _ h => h) (yieldsIf_conv (by rfl) 34 9 5 _ rfl A6 q c6 _ rfl HNL.out (fun w' h => HI6.out.below h) Tryd.underlying34 Tryd.underlying5 Tryd.underlying9) hHeld ?_
  try simp only [Act.put, List.setIfInBounds_toArray, List.set_cons_zero, List.set_cons_succ]
  refine held_take 30 (some 69) (v := ?_) rfl rfl (by kernel_rfl) (by kernel_rfl) (by kernel_rfl) (fun _ _ _ h => h) (Or.inl ⟨by rfl, ?_⟩) hHeld ?_
  rotate_left
  · (intro w' hSw; clear hSw; go_simp; try with_reducible rfl)
  try simp only [Act.put, List.setIfInBounds_toArray, List.set_cons_zero, List.set_cons_succ]
  refine held_take 31 (some 70) (v := ?_) rfl rfl (by kernel_rfl) (by kernel_rfl) (by kernel_rfl) (fun _ _ _ h => h) (Or.inl ⟨by rfl, ?_⟩) hHeld ?_
  rotate_left
  · (intro w' hSw; clear hSw; go_simp; try with_reducible rfl)
  try simp only [Act.put, List.setIfInBounds_toArray, List.set_cons_zero, List.set_cons_succ]
  refine held_take 32 (some 4) (v := ?_) rfl rfl (by kernel_rfl) (by kernel_rfl) (by kernel_rfl) (fun _ _ _ h => h) (Or.inl ⟨by rfl, ?_⟩) hHeld ?_
  rotate_left
  · (intro w' hSw; clear hSw; go_simp; try with_reducible rfl)
  try simp only [Act.put, List.setIfInBounds_toArray, List.set_cons_zero, List.set_cons_succ]
  refine wpAnyH_done (by kernel_rfl) ?_ _
  have HB7 := Lib.hid (HB3.out.trans ((hB6.trans (hHeld.mono hB6.size)).mono HB3.out.size))
  clear hB5 hB6 hb5 hb6 hHeld
  go_wp2_with fail
  go_ret
  exact ⟨rfl, HB7.out⟩

theorem Loads_law (x : Int) (l : List Int) (c : Nat) (A : Option Addr) (w : World) (hT : Tb w) (hb : Bytes l) (hI : Ints .u8 w A l) (hz : l.length ≤ 1000000000000000) : Calls Tryd.prog 4 #[.int .i64 x, .slice A l.length c] w fun e w' => e = .returned (.bool true) ∧ Below w.heap.size w w' := by
  by_cases h1 : l.length ≤ 10000
  · by_cases hx : x < 0 ∨ 16384 < x
    · exact Loads_bad x _ c A w hT h1 hx
    · obtain ⟨n, rfl⟩ := Int.eq_ofNat_of_zero_le (show 0 ≤ x by omega)
      by_cases hl : l.length = (n + 7) / 8
      · by_cases ho : Ok n l
        · exact Loads_ok n _ c l A w hT h1 (by omega) hb rfl hl hI ho
        · exact Loads_over n _ c l A w hT h1 (by omega) hb rfl hl hI ho
      · exact Loads_len n _ c A w hT h1 (by omega) hl
  · exact Loads_long x _ c A w hT (by omega) hz
end Go.Proofs.YtdnincnfamcchaaDoor
