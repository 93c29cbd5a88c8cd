/- bloom's reference: Add, May. -/
import Derived.Test.YteodhbkhkecigaaPlaces
namespace Go.Proofs.Yteodhbkhkecigaa
open Go.RowKit

theorem placesI_length (bits probes : Nat) (b : Nat → Nat) (n : Nat) : (placesI bits probes b n).length = (placesK bits probes b n).length := by simp [placesI]
theorem placesI_get (bits probes : Nat) (b : Nat → Nat) (n i : Nat) : (placesI bits probes b n).getD i 0 = (((placesK bits probes b n).getD i 0 : Nat) : Int) := by
  unfold placesI
  rw [List.getD_eq_getElem?_getD, List.getD_eq_getElem?_getD, List.getElem?_map]
  cases (placesK bits probes b n)[i]? <;> simp
theorem places_lt (bits : Nat) (hb : 0 < bits) : ∀ n x s p, p ∈ places bits n x s → p < bits
  | 0, _, _, p, h => by simp [places] at h
  | n + 1, x, s, p, h => by
    simp only [places, List.mem_cons] at h
    rcases h with rfl | h
    · exact Nat.mod_lt _ hb
    · exact places_lt bits hb n _ _ p h
theorem placesK_lt (bits probes : Nat) (b : Nat → Nat) (n i : Nat) (h : i < (placesK bits probes b n).length) : (placesK bits probes b n).getD i 0 < bits := by
  rw [List.getD_eq_getElem?_getD, List.getElem?_eq_getElem h, Option.getD_some]
  have hm := List.getElem_mem h
  generalize (placesK bits probes b n)[i] = p at *
  unfold placesK at hm
  split at hm
  · simp at hm
  · exact places_lt bits (by omega) _ _ _ p hm
theorem placesK_len (bits probes : Nat) (b : Nat → Nat) (n : Nat) : (placesK bits probes b n).length ≤ probes := by
  unfold placesK
  split
  · simp
  · rw [places_length]; exact Nat.le_refl _
theorem take_getDN (l : List Nat) (i : Nat) (h : i < l.length) : l.take (i + 1) = l.take i ++ [l.getD i 0] := by
  rw [List.take_succ_eq_append_getElem h, List.getD_eq_getElem?_getD, List.getElem?_eq_getElem h]; rfl
theorem puts_snoc (f : Nat → Bool) (l : List Nat) (i : Nat) (h : i < l.length) : puts f (l.take (i + 1)) = put (puts f (l.take i)) (l.getD i 0) := by
  rw [take_getDN l i h]
  funext q
  simp only [puts, put, List.contains_append, List.contains_cons, List.contains_nil, Bool.or_false, Bool.or_assoc]
  congr 2

set_option maxRecDepth 20000 in
set_option maxHeartbeats 800000 in
theorem RAdd_any (g h n probes : Nat) (f : Nat → Bool) (k : Array Value) (b : Nat → Nat) (num : Nat) (w : World) (V : RV w g h n probes f) (hgh : g ≠ h) (K : KeyC k b num) :
    Calls Try.prog 16 #[.pointer (some ⟨g, 0, none⟩), .agg k] w fun e w' => e = .returned (.tuple #[]) ∧ w.grownBy w' (some h) ∧ RV w' g h n probes (puts f (placesK n probes b num)) := by
  have hV0 := V.kept (grown_alloc w (.cells k 35) none) (by simp) (by simp)
  have HC := Lib.hid (Places_any g h n probes f k b num (w.alloc (.cells k 35)) hV0 K)
  have HI := Lib.hid (info35 K)
  have HG := Lib.hid (grown_alloc w (.cells k 35) (some h))
  have hlim := V.lim.1
  have HV := Lib.hid hV0
  clear V hV0
  have HLn := Lib.hid (placesI_length n probes b num)
  have HLg := Lib.hid (placesI_get n probes b num)
  have HLt := Lib.hid (placesK_lt n probes b num)
  have hll := placesK_len n probes b num
  have hlim2 := HV.out.lim.2
  have HPS := Lib.hid (puts_snoc f (placesK n probes b num))
  have HT := Lib.hid (show (placesK n probes b num).take (placesK n probes b num).length = placesK n probes b num from List.take_length)
  generalize placesK n probes b num = L at *
  generalize placesI n probes b num = LI at *
  go_enter Try.func16, Try.ntmps16
  go_wp2_with (first | (with_reducible refine wpList_load_row rfl 35 _ rfl w.heap.size rfl 35 _ (0, 0) _ (heap_alloc_last _ _) Try.underlying35 rfl HI.out ?_) | (go_at_call 24; refine HC.out.mono ?_; rintro e w2 ⟨A, c, rfl, hc, hI, hA, hb2⟩))
  have hlt0 := HV.out.hlt
  have hg2 := grown_trans HG.out (below_grown hb2 (some h))
  have HV2 := Lib.hid (HV.out.kept (below_grown hb2 none) (by simp) (by simp))
  rw [HLn.out]
  have HII := Lib.hid hI
  have HGG := Lib.hid hg2
  have hA' : ∀ ad, A = some ad → ad.block ≠ h := fun ad e => by have := hA ad e; simp at hlt0 this; omega
  have HA := Lib.hid hA'
  clear hI hA hb2 hg2 hA' HC
  go_loopg [5] L.length (fun kq v5 w' => ∃ i : Nat, v5 = .int .i64 (i : Int) ∧ i + kq = L.length ∧ RV w' g h n probes (puts f (L.take i)) ∧ w2.grownBy w' (some h))
  case atStart => exact ⟨0, rfl, by omega, by rw [List.take_zero, puts_nil]; exact HV2.out, World.grownBy.refl _ _⟩
  case round =>
    obtain ⟨i, rfl, hi, VR, G⟩ := hrel
    by_cases hlt : i < L.length
    · obtain ⟨d0, d1⟩ := VR.cells
      obtain ⟨ad, e, hcl⟩ := HII.out i (by rw [HLn.out]; exact hlt)
      subst e
      have hcell : wr.cell? (ad.add i) = some (.int .i64 ((L.getD i 0 : Nat) : Int)) := by
        rw [← HLg.out i]
        exact (World.cell?_of_block (w := w2) (G.block _ (cell_lt hcl) (by rw [add_block]; have := HA.out ad rfl; simpa using this))).trans hcl
      have hp := HLt.out i hlt
      have HPS' := Lib.hid (HPS.out i hlt)
      generalize L.getD i 0 = p at *
      have hb0 := VR.bit p hp
      have hf0 := VR.free p
      have hst := VR.set hgh p true (f' := put (puts f (L.take i)) p) (by simp [put]) (fun q _ hq => by simp [put, hq])
      have HST := Lib.hid hst
      have HG' := Lib.hid G
      have i0 : (0 : Int) ≤ (i : Int) := by omega
      have i1 : (i : Int) < (L.length : Int) := by omega
      have p0 : (0 : Int) ≤ (p : Int) := by omega
      have p1 : (p : Int) < (n : Int) := by omega
      clear VR G hst hcl
      go_wp2_with fail
      go_region
      go_wp2
      go_roundg (L.length - (i + 1))
      case measure => omega
      case rel => exact ⟨i + 1, by go_num, by omega, by rw [HPS'.out]; exact ⟨HST.out.obj, HST.out.row, HST.out.lim⟩, grown_drewN (grown_trans HG'.out (grown_setCell _ _ _ _)) 1⟩
    · obtain rfl : i = L.length := by omega
      rw [HT.out] at VR
      have HVR := Lib.hid VR
      have HG' := Lib.hid G
      clear VR G
      go_wp2
      go_end0
      exact ⟨rfl, grown_trans HGG.out HG'.out, HVR.out⟩

set_option maxRecDepth 20000 in
set_option maxHeartbeats 800000 in
theorem RMay_any (g h n probes : Nat) (f : Nat → Bool) (k : Array Value) (b : Nat → Nat) (num : Nat) (w : World) (V : RV w g h n probes f) (K : KeyC k b num) :
    Calls Try.prog 19 #[.pointer (some ⟨g, 0, none⟩), .agg k] w fun e w' => e = .returned (.bool ((placesK n probes b num).all f)) ∧ w.grownBy w' none := by
  have hV0 := V.kept (grown_alloc w (.cells k 35) none) (by simp) (by simp)
  have HC := Lib.hid (Places_any g h n probes f k b num (w.alloc (.cells k 35)) hV0 K)
  have HI := Lib.hid (info35 K)
  have HG := Lib.hid (grown_alloc w (.cells k 35) none)
  have hlim := V.lim.1
  have HV := Lib.hid hV0
  clear V hV0
  have HLn := Lib.hid (placesI_length n probes b num)
  have HLg := Lib.hid (placesI_get n probes b num)
  have HLt := Lib.hid (placesK_lt n probes b num)
  have hll := placesK_len n probes b num
  have hlim2 := HV.out.lim.2
  generalize placesK n probes b num = L at *
  generalize placesI n probes b num = LI at *
  go_enter Try.func19, Try.ntmps19
  go_wp2_with (first | (with_reducible refine wpList_load_row rfl 35 _ rfl w.heap.size rfl 35 _ (0, 0) _ (heap_alloc_last _ _) Try.underlying35 rfl HI.out ?_) | (go_at_call 24; refine HC.out.mono ?_; rintro e w2 ⟨A, c, rfl, hc, hI, hA, hb2⟩))
  have hg2 := grown_trans HG.out (below_grown hb2 none)
  have HV2 := Lib.hid (HV.out.kept (below_grown hb2 none) (by simp) (by simp))
  rw [HLn.out]
  have HII := Lib.hid hI
  have HGG := Lib.hid hg2
  clear hI hA hb2 hg2 HC
  obtain ⟨c0, c1⟩ := HV2.out.cells
  go_loopg [6] L.length (fun kq v6 w' => ∃ i : Nat, v6 = .int .i64 (i : Int) ∧ i + kq = L.length ∧ (∃ q, w' = w2.drewN q) ∧ Hid (∀ j, j < i → f (L.getD j 0) = true))
  case atStart => exact ⟨0, rfl, by omega, ⟨0, rfl⟩, Lib.hid (fun j hj => absurd hj (by omega))⟩
  case round =>
    obtain ⟨i, rfl, hi, ⟨q, rfl⟩, HF⟩ := hrel
    by_cases hlt : i < L.length
    · obtain ⟨ad, e, hcl⟩ := HII.out i (by rw [HLn.out]; exact hlt)
      subst e
      have hcell : w2.cell? (ad.add i) = some (.int .i64 ((L.getD i 0 : Nat) : Int)) := by
        rw [← HLg.out i]; exact hcl
      have hp := HLt.out i hlt
      have hb0 := HV2.out.bit _ hp
      have hLi : L[i]? = some (L.getD i 0) := by rw [List.getD_eq_getElem?_getD, List.getElem?_eq_getElem hlt]; rfl
      have HLi := Lib.hid hLi
      have HFi := Lib.hid (show f (L.getD i 0) = f (L.getD i 0) from rfl)
      have hF' : ∀ v, f (L.getD i 0) = v → Hid (f (L.getD i 0) = v) := fun v h => Lib.hid h
      have i0 : (0 : Int) ≤ (i : Int) := by omega
      have i1 : (i : Int) < (L.length : Int) := by omega
      have p0 : (0 : Int) ≤ ((L.getD i 0 : Nat) : Int) := by omega
      have p1 : ((L.getD i 0 : Nat) : Int) < (n : Int) := by omega
      clear hcl hLi
      cases hv : f (L.getD i 0) with
      | true =>
        have HT := hF' _ hv
        rw [hv] at hb0
        clear hF' hv
        generalize L.getD i 0 = p at *
        go_wp2_with fail
        go_quiet (fail)
        go_wp2
        go_roundg (L.length - (i + 1))
        case measure => omega
        case rel =>
          refine ⟨i + 1, by go_num, by omega, ⟨_, rfl⟩, Lib.hid (fun j hj => ?_)⟩
          by_cases e : j = i
          · subst e
            have := HLi.out
            rw [List.getD_eq_getElem?_getD, this]; exact HT.out
          · exact HF.out j (by omega)
      | false =>
        have HT := hF' _ hv
        rw [hv] at hb0
        clear hF' hv
        generalize L.getD i 0 = p at *
        go_wp2_with fail
        go_quiet (fail)
        go_wp2
        go_ret
        refine ⟨ret_bool ?_, grown_drewN (grown_drewN HGG.out _) _⟩
        symm
        rw [List.all_eq_false]
        exact ⟨p, List.mem_of_getElem? HLi.out, by rw [HT.out]; simp⟩
    · obtain rfl : i = L.length := by omega
      go_wp2
      go_ret
      refine ⟨ret_bool ?_, grown_drewN HGG.out _⟩
      symm
      rw [List.all_eq_true]
      intro p hp
      obtain ⟨j, hj, rfl⟩ := List.getElem_of_mem hp
      have := HF.out j hj
      rwa [List.getD_eq_getElem?_getD, List.getElem?_eq_getElem hj] at this

end Go.Proofs.Yteodhbkhkecigaa
