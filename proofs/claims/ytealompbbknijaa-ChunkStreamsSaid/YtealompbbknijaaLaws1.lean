/- chunk: the walks of ChunkNil, ChunkCuts, ChunkAlls. -/
import Derived.Test.YtealompbbknijaaShown
namespace Go.Proofs.Ytealompbbknijaa
open Go.RowKit

theorem Nil_law (v : Value) (w : World) : Calls Try.prog 8 #[v] w fun e w' => e = .returned (.bool true) ∧ Below w.heap.size w w' := by
  go_enter Try.func8, Try.ntmps8
  go_wp2_with fail
  refine (shown_any _).mono ?_
  rintro e w1 ⟨rfl, hb1⟩
  have HB1 := Lib.hid hb1
  clear hb1
  go_wp2_with fail
  refine (Write_nil _ _).mono ?_
  rintro e w2 ⟨rfl, rfl⟩
  go_wp2_with fail
  refine (Close_nil _).mono ?_
  rintro e w2 ⟨rfl, rfl⟩
  go_wp2_with fail
  refine (Held_nil _).mono ?_
  rintro e w2 ⟨rfl, rfl⟩
  go_wp2_with fail
  go_ret
  exact ⟨rfl, HB1.out⟩

/-- A cutter by numbers, that may be one by which streams are cut. -/
theorem ct_of (mn mx main back : Int) (h : RightI mn mx main back) (h1 : main < 4294967296) (h2 : back < 4294967296) : ∃ c : Ct, c.Ok ∧ mn = c.mn ∧ mx = c.mx ∧ main = c.main ∧ back = c.back := by
  obtain ⟨a, b, c, d, e⟩ := h
  exact ⟨⟨mn.toNat, mx.toNat, main.toNat, back.toNat⟩, ⟨(by omega : 16 ≤ mn.toNat), (by omega : mn.toNat ≤ mx.toNat), (by omega : mx.toNat ≤ 4096), (by omega : 1 ≤ main.toNat), (by omega : main.toNat < 4294967296), (by omega : 1 ≤ back.toNat), (by omega : back.toNat < 4294967296)⟩,
    (by omega : mn = (mn.toNat : Int)), (by omega : mx = (mx.toNat : Int)), (by omega : main = (main.toNat : Int)), (by omega : back = (back.toNat : Int))⟩

theorem Right_both (mn mx main back : Int) : ∃ r : Bool, (∀ w, Calls Try.prog 16 #[.agg (cutC mn mx main back)] w fun e w' => e = .returned (.bool r) ∧ Below w.heap.size w w') ∧ (∀ w, Calls Try.prog 19 #[.agg (cutC mn mx main back)] w fun e w' => e = .returned (.bool r) ∧ Below w.heap.size w w') := by
  by_cases h : RightI mn mx main back
  · exact ⟨true, fun w => (Right_yes mn mx main back w h).mono fun _ _ ⟨a, b⟩ => ⟨a, below_refl_grown b⟩, fun w => (rRight_yes mn mx main back w h).mono fun _ _ ⟨a, b⟩ => ⟨a, below_refl_grown b⟩⟩
  · exact ⟨false, fun w => (Right_no mn mx main back w h).mono fun _ _ ⟨a, b⟩ => ⟨a, below_refl_grown b⟩, fun w => (rRight_no mn mx main back w h).mono fun _ _ ⟨a, b⟩ => ⟨a, below_refl_grown b⟩⟩
theorem Cut_both (mn mx main back : Int) (h1 : main < 4294967296) (h2 : back < 4294967296) (l : List Int) (n cap : Nat) (A : Option Addr) (hn : l.length = n) (hl : n ≤ 1000000000) (hnc : n ≤ cap) (hB : Bytes l) :
    ∃ z : Nat, (∀ w, Ints .u8 w A l → Calls Try.prog 22 #[.agg (cutC mn mx main back), .slice A n cap] w fun e w' => e = .returned (.int .i64 z) ∧ Below w.heap.size w w') ∧
      (∀ w, Ints .u8 w A l → Calls Try.prog 23 #[.agg (cutC mn mx main back), .slice A n cap] w fun e w' => e = .returned (.int .i64 z) ∧ Below w.heap.size w w') := by
  by_cases h : RightI mn mx main back
  · obtain ⟨c, ok, rfl, rfl, rfl, rfl⟩ := ct_of mn mx main back h h1 h2
    exact ⟨cutR c l, fun w hI => Cut_yes c ok l n cap A w hn (by omega) hnc hI hB, fun w hI => rCut_yes c ok l n cap A w hn (by omega) hnc hI hB⟩
  · exact ⟨0, fun w _ => Cut_no mn mx main back _ w h, fun w _ => rCut_no mn mx main back _ w h⟩
theorem All_both (mn mx main back : Int) (h1 : main < 4294967296) (h2 : back < 4294967296) (l : List Int) (n cap : Nat) (A : Option Addr) (hn : l.length = n) (hl : n ≤ 1000000000) (hnc : n ≤ cap) (hB : Bytes l) (hA : A = none → n = 0 ∧ cap = 0) :
    ∃ L : List (List Int), L.length ≤ n + 1 ∧ (∀ w, Ints .u8 w A l → Calls Try.prog 12 #[.agg (cutC mn mx main back), .slice A n cap] w fun e w' => ∃ B d P, e = .returned (.slice B L.length d) ∧ Below w.heap.size w w' ∧ Rows P w' B L) ∧
      (∀ w, Ints .u8 w A l → Calls Try.prog 14 #[.agg (cutC mn mx main back), .slice A n cap] w fun e w' => ∃ B d P, e = .returned (.slice B L.length d) ∧ Below w.heap.size w w' ∧ Rows P w' B L) := by
  by_cases h : RightI mn mx main back
  · obtain ⟨c, ok, rfl, rfl, rfl, rfl⟩ := ct_of mn mx main back h h1 h2
    refine ⟨pcsR c l, ?_, fun w hI => (All_yes c ok l A n cap w hn hnc hI hB hA hl).mono ?_, fun w hI => (rAll_yes c ok l A n cap w hn hnc hI hB hA hl).mono ?_⟩
    · have h3 := endsR_num c ok l
      have h4 := restR_length (endsR c l).2
      unfold pcsR; rw [List.length_append]; omega
    · rintro e w' ⟨v, rfl, hb, hr⟩
      obtain ⟨B, d, rfl, _, h3, _⟩ := hr.rows
      exact ⟨B, d, _, rfl, hb, h3⟩
    · rintro e w' ⟨v, rfl, hb, hr⟩
      obtain ⟨B, d, rfl, _, h3, _⟩ := hr.rows
      exact ⟨B, d, _, rfl, hb, h3⟩
  · refine ⟨[], by simp, fun w _ => (All_no mn mx main back _ w h).mono ?_, fun w _ => (rAll_no mn mx main back _ w h).mono ?_⟩
    · rintro e w' ⟨v, rfl, hb, hr⟩
      obtain ⟨B, d, rfl, _, h3, _⟩ := hr.rows
      exact ⟨B, d, _, rfl, hb, h3⟩
    · rintro e w' ⟨rfl, hb⟩
      exact ⟨none, 0, fun _ => True, rfl, hb, [], RowsV.nil _ _, fun j u hj => by cases hj⟩

theorem few_min (l : List Int) (n : Nat) (h : l.length = n) : (l.take 20000).length = min n 20000 := by rw [List.length_take, h, Nat.min_comm]

set_option maxRecDepth 20000 in
set_option maxHeartbeats 1600000 in
theorem Cuts_law (mn mx main back : Int) (h1 : main < 4294967296) (h2 : back < 4294967296) (l : List Int) (n cap : Nat) (A : Option Addr) (w : World) (hn : l.length = n) (hl : n ≤ 1000000000000000) (hnc : n ≤ cap) (hI : Ints .u8 w A l) (hB : Bytes l) :
    Calls Try.prog 9 #[.agg (cutC mn mx main back), .slice A n cap] w fun e w' => e = .returned (.bool true) ∧ Below w.heap.size w w' := by
  have HS24 := Lib.hid (show (Try.prog.info? 24).map (·.size) = some [Value.int .i64 mn, .int .i64 mx, .int .u32 main, .int .u32 back].length by kernel_rfl)
  have HR := Lib.hid (heap_alloc_last w (.cells #[Value.int .i64 mn, .int .i64 mx, .int .u32 main, .int .u32 back] 24))
  have HBW := Lib.hid ((Below.refl w.heap.size w).alloc (Nat.le_refl _) (.cells #[Value.int .i64 mn, .int .i64 mx, .int .u32 main, .int .u32 back] 24))
  have hlt : w.heap.size < (w.alloc (.cells #[Value.int .i64 mn, .int .i64 mx, .int .u32 main, .int .u32 back] 24)).heap.size := by simp
  have HIW := Lib.hid (hI.grown (grown_alloc w (.cells #[Value.int .i64 mn, .int .i64 mx, .int .u32 main, .int .u32 back] 24) none) (fun _ _ _ h => by cases h))
  obtain ⟨r, hr1, hr2⟩ := Right_both mn mx main back
  obtain ⟨z, hz1, hz2⟩ := Cut_both mn mx main back h1 h2 (l.take 20000) (min n 20000) cap A (few_min l n hn) (by omega) (by omega) (hB.take _)
  have HR1 := Lib.hid hr1
  have HR2 := Lib.hid hr2
  have HZ1 := Lib.hid hz1
  have HZ2 := Lib.hid hz2
  unfold cutC at HR1 HR2 HZ1 HZ2 ⊢
  clear hr1 hr2 hz1 hz2 hI hB hn h1 h2
  go_enter Try.func9, Try.ntmps9
  go_wp2_with fail
  generalize w.alloc (.cells #[Value.int .i64 mn, .int .i64 mx, .int .u32 main, .int .u32 back] 24) = W at *
  obtain ⟨K0, hK0⟩ : ∃ z, z = w.heap.size := ⟨_, rfl⟩
  rw [← hK0] at HR hlt ⊢
  have HK0 := Lib.hid hK0
  clear hK0
  have HQ := Lib.hid (show W.rangeAt K0 0 [Value.int .i64 mn, .int .i64 mx, .int .u32 main, .int .u32 back] from rangeAt_of_row HR.out 0 4)
  have HFW := Lib.hid (few_any A n cap · hnc)
  obtain ⟨m, hm⟩ : ∃ m, min n 20000 = m := ⟨_, rfl⟩
  rw [hm] at HFW HZ1 HZ2
  clear hm
  refine wp_region_held_drew (S := fun w' => Below W.heap.size W w') (by kernel_rfl) ((Below.refl _ _).drew) (fun hHeld => ?_)
  refine wpAnyH_ready (rs := [0]) (by kernel_rfl) (by simp) ?_
  refine AllReadyH.cons rfl (fun K hKK => ?_) AllReadyH.nil
  go_simp
  go_at_call 10
  refine (shown_any _).mono ?_
  rintro e z1 ⟨rfl, hb1⟩
  have hB1 : Below W.heap.size W z1 := ((Below.refl W.heap.size W).drew).trans (hb1.mono (((Below.refl W.heap.size W).drew)).size)
  refine hKK.out _ _ hB1 (fun hHeld => ?_)
  clear hKK K
  try simp only [Act.put, List.setIfInBounds_toArray, List.set_cons_zero, List.set_cons_succ]
  refine held_take 1 (some 6) (v := ?_) rfl rfl (by kernel_rfl) (by kernel_rfl) (by kernel_rfl) (fun _ _ _ h => h) (Or.inl ⟨by rfl, ?_⟩) hHeld ?_
  rotate_left
  · (intro w' hSw; clear hSw; go_simp; try with_reducible rfl)
  try simp only [Act.put, List.setIfInBounds_toArray, List.set_cons_zero, List.set_cons_succ]
  refine held_take 2 (some 7) (v := .agg ([Value.int .i64 mn, .int .i64 mx, .int .u32 main, .int .u32 back]).toArray) rfl rfl (by kernel_rfl) (by kernel_rfl) (by kernel_rfl) (fun _ _ _ h => h) (yieldsIf_load_mid (by rfl) 24 _ rfl K0 (0) rfl ([Value.int .i64 mn, .int .i64 mx, .int .u32 main, .int .u32 back]) _ (fun w' h => rangeAt_block HQ.out (h.block _ hlt)) Try.underlying24 rfl HS24.out) hHeld ?_
  try simp only [Act.put, List.setIfInBounds_toArray, List.set_cons_zero, List.set_cons_succ]
  refine held_take 4 (some 9) (v := .agg ([Value.int .i64 mn, .int .i64 mx, .int .u32 main, .int .u32 back]).toArray) rfl rfl (by kernel_rfl) (by kernel_rfl) (by kernel_rfl) (fun _ _ _ h => h) (yieldsIf_load_mid (by rfl) 24 _ rfl K0 (0) rfl ([Value.int .i64 mn, .int .i64 mx, .int .u32 main, .int .u32 back]) _ (fun w' h => rangeAt_block HQ.out (h.block _ hlt)) Try.underlying24 rfl HS24.out) hHeld ?_
  try simp only [Act.put, List.setIfInBounds_toArray, List.set_cons_zero, List.set_cons_succ]
  refine wpAnyH_ready (rs := [3]) (by kernel_rfl) (by simp) ?_
  refine AllReadyH.cons rfl (fun K hKK => ?_) AllReadyH.nil
  go_simp
  go_at_call 16
  refine (HR1.out _).mono ?_
  rintro e z2 ⟨rfl, hb2⟩
  have hB2 : Below W.heap.size W z2 := hB1.trans (hb2.mono (hB1).size)
  refine hKK.out _ _ hB2 (fun hHeld => ?_)
  clear hKK K
  try simp only [Act.put, List.setIfInBounds_toArray, List.set_cons_zero, List.set_cons_succ]
  refine wpAnyH_ready (rs := [5]) (by kernel_rfl) (by simp) ?_
  refine AllReadyH.cons rfl (fun K hKK => ?_) AllReadyH.nil
  go_simp
  go_at_call 19
  refine (HR2.out _).mono ?_
  rintro e z3 ⟨rfl, hb3⟩
  have hB3 : Below W.heap.size W z3 := hB2.trans (hb3.mono (hB2).size)
  refine hKK.out _ _ hB3 (fun hHeld => ?_)
  clear hKK K
  try simp only [Act.put, List.setIfInBounds_toArray, List.set_cons_zero, List.set_cons_succ]
  refine held_take 6 (some 11) (v := ?_) rfl rfl (by kernel_rfl) (by kernel_rfl) (by kernel_rfl) (fun _ _ _ h => h) (Or.inl ⟨by rfl, ?_⟩) hHeld ?_
  rotate_left
  · (intro w' hSw; clear hSw; go_simp; try with_reducible rfl)
  try simp only [Act.put, List.setIfInBounds_toArray, List.set_cons_zero, List.set_cons_succ]
  refine held_take 7 (some 12) (v := ?_) rfl rfl (by kernel_rfl) (by kernel_rfl) (by kernel_rfl) (fun _ _ _ h => h) (Or.inl ⟨by rfl, ?_⟩) hHeld ?_
  rotate_left
  · (intro w' hSw; clear hSw; go_simp; try with_reducible rfl)
  try simp only [Act.put, List.setIfInBounds_toArray, List.set_cons_zero, List.set_cons_succ]
  refine held_take 8 (some 13) (v := ?_) rfl rfl (by kernel_rfl) (by kernel_rfl) (by kernel_rfl) (fun _ _ _ h => h) (Or.inl ⟨by rfl, ?_⟩) hHeld ?_
  rotate_left
  · (intro w' hSw; clear hSw; go_simp; try with_reducible rfl)
  try simp only [Act.put, List.setIfInBounds_toArray, List.set_cons_zero, List.set_cons_succ]
  refine held_take 9 (some 14) (v := .agg ([Value.int .i64 mn, .int .i64 mx, .int .u32 main, .int .u32 back]).toArray) rfl rfl (by kernel_rfl) (by kernel_rfl) (by kernel_rfl) (fun _ _ _ h => h) (yieldsIf_load_mid (by rfl) 24 _ rfl K0 (0) rfl ([Value.int .i64 mn, .int .i64 mx, .int .u32 main, .int .u32 back]) _ (fun w' h => rangeAt_block HQ.out (h.block _ hlt)) Try.underlying24 rfl HS24.out) hHeld ?_
  try simp only [Act.put, List.setIfInBounds_toArray, List.set_cons_zero, List.set_cons_succ]
  refine held_take 10 (some 15) (v := ?_) rfl rfl (by kernel_rfl) (by kernel_rfl) (by kernel_rfl) (fun _ _ _ h => h) (Or.inl ⟨by rfl, ?_⟩) hHeld ?_
  rotate_left
  · (intro w' hSw; clear hSw; go_simp; try with_reducible rfl)
  try simp only [Act.put, List.setIfInBounds_toArray, List.set_cons_zero, List.set_cons_succ]
  refine held_take 13 (some 18) (v := .agg ([Value.int .i64 mn, .int .i64 mx, .int .u32 main, .int .u32 back]).toArray) rfl rfl (by kernel_rfl) (by kernel_rfl) (by kernel_rfl) (fun _ _ _ h => h) (yieldsIf_load_mid (by rfl) 24 _ rfl K0 (0) rfl ([Value.int .i64 mn, .int .i64 mx, .int .u32 main, .int .u32 back]) _ (fun w' h => rangeAt_block HQ.out (h.block _ hlt)) Try.underlying24 rfl HS24.out) hHeld ?_
  try simp only [Act.put, List.setIfInBounds_toArray, List.set_cons_zero, List.set_cons_succ]
  refine held_take 14 (some 19) (v := ?_) rfl rfl (by kernel_rfl) (by kernel_rfl) (by kernel_rfl) (fun _ _ _ h => h) (Or.inl ⟨by rfl, ?_⟩) hHeld ?_
  rotate_left
  · (intro w' hSw; clear hSw; go_simp; try with_reducible rfl)
  try simp only [Act.put, List.setIfInBounds_toArray, List.set_cons_zero, List.set_cons_succ]
  refine wpAnyH_ready (rs := [11]) (by kernel_rfl) (by simp) ?_
  refine AllReadyH.cons rfl (fun K hKK => ?_) AllReadyH.nil
  go_simp
  go_at_call 13
  refine (HFW.out _).mono ?_
  rintro e zq ⟨rfl, rfl⟩
  refine hKK.out _ _ hB3 (fun hHeld => ?_)
  clear hKK K
  try simp only [Act.put, List.setIfInBounds_toArray, List.set_cons_zero, List.set_cons_succ]
  refine wpAnyH_ready (rs := [12]) (by kernel_rfl) (by simp) ?_
  refine AllReadyH.cons rfl (fun K hKK => ?_) AllReadyH.nil
  go_simp
  go_at_call 22
  refine (HZ1.out _ ((HIW.out.take _).below hB3)).mono ?_
  rintro e z4 ⟨rfl, hb4⟩
  have hB4 : Below W.heap.size W z4 := hB3.trans (hb4.mono (hB3).size)
  refine hKK.out _ _ hB4 (fun hHeld => ?_)
  clear hKK K
  try simp only [Act.put, List.setIfInBounds_toArray, List.set_cons_zero, List.set_cons_succ]
  refine wpAnyH_ready (rs := [15]) (by kernel_rfl) (by simp) ?_
  refine AllReadyH.cons rfl (fun K hKK => ?_) AllReadyH.nil
  go_simp
  go_at_call 13
  refine (HFW.out _).mono ?_
  rintro e zq ⟨rfl, rfl⟩
  refine hKK.out _ _ hB4 (fun hHeld => ?_)
  clear hKK K
  try simp only [Act.put, List.setIfInBounds_toArray, List.set_cons_zero, List.set_cons_succ]
  refine wpAnyH_ready (rs := [16]) (by kernel_rfl) (by simp) ?_
  refine AllReadyH.cons rfl (fun K hKK => ?_) AllReadyH.nil
  go_simp
  go_at_call 23
  refine (HZ2.out _ ((HIW.out.take _).below hB4)).mono ?_
  rintro e z5 ⟨rfl, hb5⟩
  have hB5 : Below W.heap.size W z5 := hB4.trans (hb5.mono (hB4).size)
  refine hKK.out _ _ hB5 (fun hHeld => ?_)
  clear hKK K
  try simp only [Act.put, List.setIfInBounds_toArray, List.set_cons_zero, List.set_cons_succ]
  refine held_take 17 (some 22) (v := ?_) rfl rfl (by kernel_rfl) (by kernel_rfl) (by kernel_rfl) (fun _ _ _ h => h) (Or.inl ⟨by rfl, ?_⟩) hHeld ?_
  rotate_left
  · (intro w' hSw; clear hSw; go_simp; try with_reducible rfl)
  try simp only [Act.put, List.setIfInBounds_toArray, List.set_cons_zero, List.set_cons_succ]
  refine held_take 18 (some 23) (v := ?_) rfl rfl (by kernel_rfl) (by kernel_rfl) (by kernel_rfl) (fun _ _ _ h => h) (Or.inl ⟨by rfl, ?_⟩) hHeld ?_
  rotate_left
  · (intro w' hSw; clear hSw; go_simp; try with_reducible rfl)
  try simp only [Act.put, List.setIfInBounds_toArray, List.set_cons_zero, List.set_cons_succ]
  refine held_take 19 (some 4) (v := ?_) rfl rfl (by kernel_rfl) (by kernel_rfl) (by kernel_rfl) (fun _ _ _ h => h) (Or.inl ⟨by rfl, ?_⟩) hHeld ?_
  rotate_left
  · (intro w' hSw; clear hSw; go_simp; try with_reducible rfl)
  try simp only [Act.put, List.setIfInBounds_toArray, List.set_cons_zero, List.set_cons_succ]
  refine wpAnyH_done (by kernel_rfl) ?_ _
  have HBF := Lib.hid (HBW.out.trans (hHeld.mono (HBW.out.size)))
  clear hHeld
  go_wp2_with fail
  go_ret
  exact ⟨rfl, HBF.out⟩

set_option maxRecDepth 20000 in
set_option maxHeartbeats 1600000 in
theorem Alls_law (mn mx main back : Int) (h1 : main < 4294967296) (h2 : back < 4294967296) (l : List Int) (n cap : Nat) (A : Option Addr) (w : World) (hn : l.length = n) (hl : n ≤ 1000000000000000) (hnc : n ≤ cap) (hA : A = none → n = 0 ∧ cap = 0) (hI : Ints .u8 w A l) (hB : Bytes l) :
    Calls Try.prog 3 #[.agg (cutC mn mx main back), .slice A n cap] w fun e w' => e = .returned (.bool true) ∧ Below w.heap.size w w' := by
  have HS24 := Lib.hid (show (Try.prog.info? 24).map (·.size) = some [Value.int .i64 mn, .int .i64 mx, .int .u32 main, .int .u32 back].length by kernel_rfl)
  have HR := Lib.hid (heap_alloc_last w (.cells #[Value.int .i64 mn, .int .i64 mx, .int .u32 main, .int .u32 back] 24))
  have HBW := Lib.hid ((Below.refl w.heap.size w).alloc (Nat.le_refl _) (.cells #[Value.int .i64 mn, .int .i64 mx, .int .u32 main, .int .u32 back] 24))
  have hlt : w.heap.size < (w.alloc (.cells #[Value.int .i64 mn, .int .i64 mx, .int .u32 main, .int .u32 back] 24)).heap.size := by simp
  have HIW := Lib.hid (hI.grown (grown_alloc w (.cells #[Value.int .i64 mn, .int .i64 mx, .int .u32 main, .int .u32 back] 24) none) (fun _ _ _ h => by cases h))
  obtain ⟨L, hLn, hz1, hz2⟩ := All_both mn mx main back h1 h2 (l.take 20000) (min n 20000) cap A (few_min l n hn) (by omega) (by omega) (hB.take _) (fun e => by have := hA e; omega)
  have HZ1 := Lib.hid hz1
  have HZ2 := Lib.hid hz2
  unfold cutC at HZ1 HZ2 ⊢
  clear hz1 hz2 hI hB hn h1 h2 hA
  go_enter Try.func3, Try.ntmps3
  go_wp2_with fail
  generalize w.alloc (.cells #[Value.int .i64 mn, .int .i64 mx, .int .u32 main, .int .u32 back] 24) = W at *
  obtain ⟨K0, hK0⟩ : ∃ z, z = w.heap.size := ⟨_, rfl⟩
  rw [← hK0] at HR hlt ⊢
  have HK0 := Lib.hid hK0
  clear hK0
  have HQ := Lib.hid (show W.rangeAt K0 0 [Value.int .i64 mn, .int .i64 mx, .int .u32 main, .int .u32 back] from rangeAt_of_row HR.out 0 4)
  have HFW := Lib.hid (few_any A n cap · hnc)
  obtain ⟨m, hm⟩ : ∃ m, min n 20000 = m := ⟨_, rfl⟩
  rw [hm] at HFW HZ1 HZ2 hLn
  have hm2 : m ≤ 20000 := by omega
  clear hm
  obtain ⟨q, hq⟩ : ∃ q, L.length = q := ⟨_, rfl⟩
  have HQL := Lib.hid hq
  rw [hq] at hLn HZ1 HZ2
  clear hq
  refine wp_region_held_drew (S := fun w' => Below W.heap.size W w') (by kernel_rfl) ((Below.refl _ _).drew) (fun hHeld => ?_)
  refine wpAnyH_ready (rs := [0]) (by kernel_rfl) (by simp) ?_
  refine AllReadyH.cons rfl (fun K hKK => ?_) AllReadyH.nil
  go_simp
  go_at_call 10
  refine (shown_any _).mono ?_
  rintro e z6 ⟨rfl, hb6⟩
  have hB6 : Below W.heap.size W z6 := ((Below.refl W.heap.size W).drew).trans (hb6.mono (((Below.refl W.heap.size W).drew)).size)
  refine hKK.out _ _ hB6 (fun hHeld => ?_)
  clear hKK K
  try simp only [Act.put, List.setIfInBounds_toArray, List.set_cons_zero, List.set_cons_succ]
  refine held_take 1 (some 6) (v := ?_) rfl rfl (by kernel_rfl) (by kernel_rfl) (by kernel_rfl) (fun _ _ _ h => h) (Or.inl ⟨by rfl, ?_⟩) hHeld ?_
  rotate_left
  · (intro w' hSw; clear hSw; go_simp; try with_reducible rfl)
  try simp only [Act.put, List.setIfInBounds_toArray, List.set_cons_zero, List.set_cons_succ]
  refine held_take 2 (some 7) (v := .agg ([Value.int .i64 mn, .int .i64 mx, .int .u32 main, .int .u32 back]).toArray) rfl rfl (by kernel_rfl) (by kernel_rfl) (by kernel_rfl) (fun _ _ _ h => h) (yieldsIf_load_mid (by rfl) 24 _ rfl K0 (0) rfl ([Value.int .i64 mn, .int .i64 mx, .int .u32 main, .int .u32 back]) _ (fun w' h => rangeAt_block HQ.out (h.block _ hlt)) Try.underlying24 rfl HS24.out) hHeld ?_
  try simp only [Act.put, List.setIfInBounds_toArray, List.set_cons_zero, List.set_cons_succ]
  refine held_take 3 (some 8) (v := ?_) rfl rfl (by kernel_rfl) (by kernel_rfl) (by kernel_rfl) (fun _ _ _ h => h) (Or.inl ⟨by rfl, ?_⟩) hHeld ?_
  rotate_left
  · (intro w' hSw; clear hSw; go_simp; try with_reducible rfl)
  try simp only [Act.put, List.setIfInBounds_toArray, List.set_cons_zero, List.set_cons_succ]
  refine held_take 6 (some 11) (v := .agg ([Value.int .i64 mn, .int .i64 mx, .int .u32 main, .int .u32 back]).toArray) rfl rfl (by kernel_rfl) (by kernel_rfl) (by kernel_rfl) (fun _ _ _ h => h) (yieldsIf_load_mid (by rfl) 24 _ rfl K0 (0) rfl ([Value.int .i64 mn, .int .i64 mx, .int .u32 main, .int .u32 back]) _ (fun w' h => rangeAt_block HQ.out (h.block _ hlt)) Try.underlying24 rfl HS24.out) hHeld ?_
  try simp only [Act.put, List.setIfInBounds_toArray, List.set_cons_zero, List.set_cons_succ]
  refine held_take 7 (some 12) (v := ?_) rfl rfl (by kernel_rfl) (by kernel_rfl) (by kernel_rfl) (fun _ _ _ h => h) (Or.inl ⟨by rfl, ?_⟩) hHeld ?_
  rotate_left
  · (intro w' hSw; clear hSw; go_simp; try with_reducible rfl)
  try simp only [Act.put, List.setIfInBounds_toArray, List.set_cons_zero, List.set_cons_succ]
  refine wpAnyH_ready (rs := [4]) (by kernel_rfl) (by simp) ?_
  refine AllReadyH.cons rfl (fun K hKK => ?_) AllReadyH.nil
  go_simp
  go_at_call 13
  refine (HFW.out _).mono ?_
  rintro e zq ⟨rfl, rfl⟩
  refine hKK.out _ _ hB6 (fun hHeld => ?_)
  clear hKK K
  try simp only [Act.put, List.setIfInBounds_toArray, List.set_cons_zero, List.set_cons_succ]
  refine wpAnyH_ready (rs := [5]) (by kernel_rfl) (by simp) ?_
  refine AllReadyH.cons rfl (fun K hKK => ?_) AllReadyH.nil
  go_simp
  go_at_call 12
  refine (HZ1.out _ ((HIW.out.take _).below hB6)).mono ?_
  rintro e y1 ⟨B1, e1, P1, rfl, hy1, hR1⟩
  have hY1 : Below W.heap.size W y1 := hB6.trans (hy1.mono (hB6).size)
  refine hKK.out _ _ hY1 (fun hHeld => ?_)
  clear hKK K
  try simp only [Act.put, List.setIfInBounds_toArray, List.set_cons_zero, List.set_cons_succ]
  refine wpAnyH_ready (rs := [8]) (by kernel_rfl) (by simp) ?_
  refine AllReadyH.cons rfl (fun K hKK => ?_) AllReadyH.nil
  go_simp
  go_at_call 13
  refine (HFW.out _).mono ?_
  rintro e zq ⟨rfl, rfl⟩
  refine hKK.out _ _ hY1 (fun hHeld => ?_)
  clear hKK K
  try simp only [Act.put, List.setIfInBounds_toArray, List.set_cons_zero, List.set_cons_succ]
  refine wpAnyH_ready (rs := [9]) (by kernel_rfl) (by simp) ?_
  refine AllReadyH.cons rfl (fun K hKK => ?_) AllReadyH.nil
  go_simp
  go_at_call 14
  refine (HZ2.out _ ((HIW.out.take _).below hY1)).mono ?_
  rintro e y2 ⟨B2, e2, P2, rfl, hy2, hR2⟩
  have hY2 : Below W.heap.size W y2 := hY1.trans (hy2.mono hY1.size)
  refine hKK.out _ _ hY2 (fun hHeld => ?_)
  clear hKK K
  try simp only [Act.put, List.setIfInBounds_toArray, List.set_cons_zero, List.set_cons_succ]
  refine wpAnyH_ready (rs := [10]) (by kernel_rfl) (by simp) ?_
  refine AllReadyH.cons rfl (fun K hKK => ?_) AllReadyH.nil
  go_simp
  go_at_call 11
  refine (Same_any P1 P2 B1 B2 q e1 e2 L _ HQL.out (by omega) (hR1.below hy2) hR2).mono ?_
  rintro e y3 ⟨rfl, q3, rfl⟩
  refine hKK.out _ _ (below_drewN hY2 _) (fun hHeld => ?_)
  clear hKK K
  try simp only [Act.put, List.setIfInBounds_toArray, List.set_cons_zero, List.set_cons_succ]
  refine held_take 11 (some 16) (v := ?_) rfl rfl (by kernel_rfl) (by kernel_rfl) (by kernel_rfl) (fun _ _ _ h => h) (Or.inl ⟨by rfl, ?_⟩) hHeld ?_
  rotate_left
  · (intro w' hSw; clear hSw; go_simp; try with_reducible rfl)
  try simp only [Act.put, List.setIfInBounds_toArray, List.set_cons_zero, List.set_cons_succ]
  refine held_take 12 (some 4) (v := ?_) rfl rfl (by kernel_rfl) (by kernel_rfl) (by kernel_rfl) (fun _ _ _ h => h) (Or.inl ⟨by rfl, ?_⟩) hHeld ?_
  rotate_left
  · (intro w' hSw; clear hSw; go_simp; try with_reducible rfl)
  try simp only [Act.put, List.setIfInBounds_toArray, List.set_cons_zero, List.set_cons_succ]
  refine wpAnyH_done (by kernel_rfl) ?_ _
  have HBF := Lib.hid (HBW.out.trans (hHeld.mono (HBW.out.size)))
  clear hHeld
  go_wp2_with fail
  go_ret
  exact ⟨rfl, HBF.out⟩

end Go.Proofs.Ytealompbbknijaa
