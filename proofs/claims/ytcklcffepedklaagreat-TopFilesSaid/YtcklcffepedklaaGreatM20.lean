/- Texts of the proof, one behind the other: digest: press. -/
import Derived.Test.YtcklcffepedklaaGreatM19
namespace Go.Proofs.YtcklcffepedklaaGreat.Dg
open Go.RowKit

set_option maxRecDepth 20000 in
set_option maxHeartbeats 3200000 in
theorem press_any (g n : Nat) (hs rs : List Int) (last : Bool) (w : World) (V : Row w g hs rs n) :
    Calls Tryz.prog 76 #[.pointer (some ⟨g, 0, none⟩), .bool last] w fun e w' => e = .returned (.tuple #[]) ∧ w.grownBy w' (some g) ∧ Row w' g (blockF hs rs n last) rs n := by
  have hal := (Below.refl w.heap.size w).alloc (Nat.le_refl _) (.cells (cellsW (loadM rs 0)) 195)
  have HP := Lib.hid (show Pz w (w.alloc (.cells (cellsW (loadM rs 0)) 195)) g w.heap.size hs rs n (loadM rs 0) from ⟨V.of_block (hal.block g (row_lt V.row)), heap_alloc_last _ _, rfl, Nat.le_refl _, row_lt V.row, hal⟩)
  clear hal V
  go_enter Tryz.func76, Tryz.ntmps76
  go_upto_region 1 with (fail)
  obtain ⟨w1, hw1⟩ : ∃ w1, w1 = w.alloc (.cells (cellsW (loadM rs 0)) 195) := ⟨_, rfl⟩
  obtain ⟨gm, hgm⟩ : ∃ z, z = w.heap.size := ⟨_, rfl⟩
  rw [← hw1, ← hgm] at HP
  change Code.wp _ _ _ _ (w.alloc (.cells (cellsW (loadM rs 0)) 195))
  rw [← hw1, ← hgm]
  clear hw1 hgm
  have HR := Lib.hid HP.out.st.restR
  have HI := Lib.hid (info47 rs HP.out.st.r64)
  go_upto_region 2 with (with_reducible refine Go.wpList_load_mid rfl 173 _ rfl g 8 rfl (rs.map (Value.int .u8)) _ HR.out Tryz.underlying173 rfl HI.out ?_)
  clear HR HI
  go_loopg [26] 64 (fun kq v26 w' => ∃ i : Nat, v26 = .int .i64 (i : Int) ∧ i + kq = 64 ∧ Pz w w' g gm hs rs n (loadM rs i))
  case atStart => exact ⟨0, rfl, by omega, HP.out⟩
  case round =>
    obtain ⟨i, rfl, hi, hP⟩ := hrel
    have HP1 := Lib.hid hP
    by_cases hlt : i < 64
    · have hci : ((rs.map (Value.int .u8)).toArray)[i]? = some (.int .u8 (rs.getD i 0)) := by
        rw [List.getElem?_toArray, List.getElem?_map, List.getD_eq_getElem?_getD, List.getElem?_eq_getElem (by rw [hP.st.r64]; exact hlt)]; rfl
      have HIX := Lib.hid (fun W => run_index (P := Tryz.prog) W 173 5 64 .u8 Tryz.underlying173 Tryz.underlying5 (fun _ => by kernel_rfl) _ i _ hlt hci i rfl)
      have hcm := cellW_of hP.m (i / 4) (by rw [hP.m16]; omega)
      have hfz := free_row hP.m (i / 4)
      have HS := Lib.hid (hP.setM (i / 4) (Go.bits .or .u32 ((loadM rs i).getD (i / 4) 0) (rs.getD i 0 * 2 ^ (8 * (i % 4)) % 4294967296)))
      have HLS := Lib.hid (show (loadM rs i).set (i / 4) (Go.bits .or .u32 ((loadM rs i).getD (i / 4) 0) (rs.getD i 0 * 2 ^ (8 * (i % 4)) % 4294967296)) = loadM rs (i + 1) from rfl)
      have hb := hP.st.rB i
      have hand := and3 i (by omega)
      have i1 : (i : Int) < 64 := by omega
      have i2 : (0 : Int) ≤ (i : Int) / 4 := by omega
      have i3 : (i : Int) / 4 < 16 := by omega
      have i4 : (0 : Int) ≤ (i : Int) % 4 := by omega
      have i5 : (i : Int) % 4 < 4 := by omega
      generalize (loadM rs i).getD (i / 4) 0 = mx at *
      generalize rs.getD i 0 = x at *
      obtain ⟨b0, b1⟩ := hb
      clear hP hci hlt
      go_upto_region 4 with (rw [HIX.out]; simp only [Result.andThen_ok])
      go_region
      go_wp2_with fail
      go_roundg (64 - (i + 1))
      case measure => omega
      case rel => exact ⟨i + 1, by go_num, by omega, HLS.out ▸ HS.out⟩
    · have hi64 : i = 64 := by omega
      subst hi64
      obtain ⟨M, hM⟩ : ∃ M, M = loadM rs 64 := ⟨_, rfl⟩
      have HMM := Lib.hid hM
      rw [← hM] at HP1
      have HR := Lib.hid HP1.out.st.wordR
      have HI := Lib.hid (info44' hs HP1.out.st.h8)
      clear hP hlt hM hi
      go_upto_region 6 with (fail)
      go_cut [7, 8] (fun v7 v8 w' => ∃ gv gw : Nat, v7 = .pointer (some ⟨gv, 0, none⟩) ∧ v8 = .pointer (some ⟨gw, 0, none⟩) ∧ Below wr.heap.size wr w' ∧ wr.heap.size ≤ gv ∧ wr.heap.size ≤ gw ∧ gv ≠ gw ∧ w'.heap[gv]? = some (.cells (cellsW hs) 171 (0, 0)) ∧ w'.heap[gw]? = some (.cells (cellsW ivL) 171 (0, 0)))
      case first =>
        as_aux_lemma =>
          refine wp_region_held_drew (S := fun w' => Below wr.heap.size wr w') (by kernel_rfl) ((Below.refl _ _).drew) (fun hHeld => ?_)
          refine held_take 0 (some 43) (v := ?_) rfl rfl (by kernel_rfl) (by kernel_rfl) (by kernel_rfl) (fun _ _ _ h => h) (Or.inl ⟨by rfl, ?_⟩) hHeld ?_
          rotate_left
          · (intro w' hSw; clear hSw; go_simp; try with_reducible rfl)
          try simp only [Act.put, List.setIfInBounds_toArray, List.set_cons_zero, List.set_cons_succ]
          refine held_take 1 (some 44) (v := ?_) rfl rfl (by kernel_rfl) (by kernel_rfl) (by kernel_rfl) (fun _ _ _ h => h) (Or.inl ⟨by rfl, ?_⟩) hHeld ?_
          rotate_left
          · (intro w' hSw; clear hSw; go_simp; try with_reducible rfl)
          try simp only [Act.put, List.setIfInBounds_toArray, List.set_cons_zero, List.set_cons_succ]
          refine held_take 2 (some 45) (v := ?_) rfl rfl (by kernel_rfl) (by kernel_rfl) (by kernel_rfl) (fun _ _ _ h => h) (Or.inl ⟨by rfl, ?_⟩) hHeld ?_
          rotate_left
          · (intro w' hSw; clear hSw; go_simp; try with_reducible rfl)
          try simp only [Act.put, List.setIfInBounds_toArray, List.set_cons_zero, List.set_cons_succ]
          refine held_take 3 (some 46) (v := .agg ((hs.map (Value.int .u32))).toArray) rfl rfl (by kernel_rfl) (by kernel_rfl) (by kernel_rfl) (fun _ _ _ h => h) (yieldsIf_load_mid (by rfl) 171 _ rfl g (0) rfl ((hs.map (Value.int .u32))) _ (fun w' h => rangeAt_block HR.out (h.block g (row_lt HP1.out.st.row))) Tryz.underlying171 rfl HI.out) hHeld ?_
          try simp only [Act.put, List.setIfInBounds_toArray, List.set_cons_zero, List.set_cons_succ]
          have HB0 := hHeld
          obtain ⟨x0, hx0⟩ : ∃ z, z = wr.drew := ⟨_, rfl⟩
          rw [← hx0] at HB0 ⊢
          clear hx0 hHeld
          refine wpAnyH_ready (rs := [4, 5, 6]) (by kernel_rfl) (by simp) ?_
          refine AllReadyH.cons rfl (fun K hKK => ?_) (AllReadyH.cons rfl (fun K hKK => ?_) (AllReadyH.cons rfl (fun K hKK => ?_) AllReadyH.nil))
          · go_simp
            go_at_call 74
            refine (first_any _).mono ?_
            rintro e w4 ⟨rfl, hg2⟩
            have HB4 : Below wr.heap.size wr w4 := HB0.trans ((below_refl_grown hg2).mono HB0.size)
            refine hKK.out _ _ HB4 (fun hHeld => ?_)
            clear hKK K hg2
            try simp only [Act.put, List.setIfInBounds_toArray, List.set_cons_zero, List.set_cons_succ]
            refine wpAnyH_ready (rs := [5, 6]) (by kernel_rfl) (by simp) ?_
            refine AllReadyH.cons rfl (fun K hKK => ?_) (AllReadyH.cons rfl (fun K hKK => ?_) AllReadyH.nil)
            · go_simp
              have HB45 : Below wr.heap.size wr (w4.alloc (.cells (cellsW z8) 171)) := HB4.alloc HB4.size _
              refine hKK.out _ _ HB45 (fun hHeld => ?_)
              clear hKK K
              try simp only [Act.put, List.setIfInBounds_toArray, List.set_cons_zero, List.set_cons_succ]
              have hrow5 := heap_alloc_last w4 (.cells (cellsW z8) 171)
              have hge5 := HB4.size
              obtain ⟨w45, hqw45⟩ : ∃ z, z = (w4.alloc (.cells (cellsW z8) 171)) := ⟨_, rfl⟩
              obtain ⟨p45, hqp45⟩ : ∃ z, z = w4.heap.size := ⟨_, rfl⟩
              change wpAnyH _ _ _ _ _ _ _ _ (w4.alloc (.cells (cellsW z8) 171))
              rw [← hqw45] at HB45 hrow5 ⊢
              rw [← hqp45] at hrow5 hge5 ⊢
              clear hqw45 hqp45
              refine wpAnyH_ready (rs := [6]) (by kernel_rfl) (by simp) ?_
              refine AllReadyH.cons rfl (fun K hKK => ?_) AllReadyH.nil
              · have hold5 := row_lt hrow5
                go_simp
                have HB456 : Below wr.heap.size wr (w45.alloc (.cells (cellsW z8) 171)) := HB45.alloc HB45.size _
                refine hKK.out _ _ HB456 (fun hHeld => ?_)
                clear hKK K
                try simp only [Act.put, List.setIfInBounds_toArray, List.set_cons_zero, List.set_cons_succ]
                have hrow6 := heap_alloc_last w45 (.cells (cellsW z8) 171)
                have hge6 := HB45.size
                have hrow5 := (Below.heap_alloc w45 (.cells (cellsW z8) 171) p45 (row_lt hrow5)).trans hrow5
                obtain ⟨w456, hqw456⟩ : ∃ z, z = (w45.alloc (.cells (cellsW z8) 171)) := ⟨_, rfl⟩
                obtain ⟨p456, hqp456⟩ : ∃ z, z = w45.heap.size := ⟨_, rfl⟩
                have hpp : p45 ≠ p456 := by rw [hqp456]; exact Nat.ne_of_lt hold5
                change wpAnyH _ _ _ _ _ _ _ _ (w45.alloc (.cells (cellsW z8) 171))
                rw [← hqw456] at HB456 hrow6 hrow5 ⊢
                rw [← hqp456] at hrow6 hge6 ⊢
                clear hqw456 hqp456
                obtain ⟨y7, hst7, hg7, hr7, hs7⟩ := store_old (P := Tryz.prog) w456 p45 _ (cellsW hs) 171 hrow5 (by rw [cellsW_size, cellsW_size, HP1.out.st.h8]; rfl) (cellsW_one _)
                have hrw7 := (hg7.block p456 (row_lt hrow6) (by simp; omega)).trans hrow6
                obtain ⟨y8, hst8, hg8, hr8, hs8⟩ := store_old (P := Tryz.prog) y7 p456 _ (cellsW ivL) 171 hrw7 rfl (cellsW_one _)
                have hrv8 := (hg8.block p45 (row_lt hr7) (by simp; omega)).trans hr7
                have hB7 := HB456.trans (below_two hg7 (by omega) HB456.size)
                have hB8 := hB7.trans (below_two hg8 (by omega) hB7.size)
                simp only [cellsW] at hst7
                have hsz8 : (cellsW ivL).size = 8 := rfl
                refine wpAnyH_ready (rs := [7]) (by kernel_rfl) (by simp) ?_
                refine AllReadyH.cons rfl (fun K hKK => ?_) AllReadyH.nil
                have h8 := HP1.out.st.h8
                go_simp
                refine hKK.out _ _ hB7 (fun hHeld => ?_)
                clear hKK K
                try simp only [Act.put, List.setIfInBounds_toArray, List.set_cons_zero, List.set_cons_succ]
                refine wpAnyH_ready (rs := [8]) (by kernel_rfl) (by simp) ?_
                refine AllReadyH.cons rfl (fun K hKK => ?_) AllReadyH.nil
                go_simp
                refine hKK.out _ _ hB8 (fun hHeld => ?_)
                clear hKK K
                try simp only [Act.put, List.setIfInBounds_toArray, List.set_cons_zero, List.set_cons_succ]
                refine wpAnyH_done (by kernel_rfl) ?_ _
                go_wp2_with fail
                go_meet
                exact ⟨_, _, rfl, rfl, hB8, by omega, by omega, by omega, hrv8, hr8⟩
            · go_simp
              have HB46 : Below wr.heap.size wr (w4.alloc (.cells (cellsW z8) 171)) := HB4.alloc HB4.size _
              refine hKK.out _ _ HB46 (fun hHeld => ?_)
              clear hKK K
              try simp only [Act.put, List.setIfInBounds_toArray, List.set_cons_zero, List.set_cons_succ]
              have hrow6 := heap_alloc_last w4 (.cells (cellsW z8) 171)
              have hge6 := HB4.size
              obtain ⟨w46, hqw46⟩ : ∃ z, z = (w4.alloc (.cells (cellsW z8) 171)) := ⟨_, rfl⟩
              obtain ⟨p46, hqp46⟩ : ∃ z, z = w4.heap.size := ⟨_, rfl⟩
              change wpAnyH _ _ _ _ _ _ _ _ (w4.alloc (.cells (cellsW z8) 171))
              rw [← hqw46] at HB46 hrow6 ⊢
              rw [← hqp46] at hrow6 hge6 ⊢
              clear hqw46 hqp46
              refine wpAnyH_ready (rs := [5]) (by kernel_rfl) (by simp) ?_
              refine AllReadyH.cons rfl (fun K hKK => ?_) AllReadyH.nil
              · have hold6 := row_lt hrow6
                go_simp
                have HB465 : Below wr.heap.size wr (w46.alloc (.cells (cellsW z8) 171)) := HB46.alloc HB46.size _
                refine hKK.out _ _ HB465 (fun hHeld => ?_)
                clear hKK K
                try simp only [Act.put, List.setIfInBounds_toArray, List.set_cons_zero, List.set_cons_succ]
                have hrow5 := heap_alloc_last w46 (.cells (cellsW z8) 171)
                have hge5 := HB46.size
                have hrow6 := (Below.heap_alloc w46 (.cells (cellsW z8) 171) p46 (row_lt hrow6)).trans hrow6
                obtain ⟨w465, hqw465⟩ : ∃ z, z = (w46.alloc (.cells (cellsW z8) 171)) := ⟨_, rfl⟩
                obtain ⟨p465, hqp465⟩ : ∃ z, z = w46.heap.size := ⟨_, rfl⟩
                have hpp : p46 ≠ p465 := by rw [hqp465]; exact Nat.ne_of_lt hold6
                change wpAnyH _ _ _ _ _ _ _ _ (w46.alloc (.cells (cellsW z8) 171))
                rw [← hqw465] at HB465 hrow5 hrow6 ⊢
                rw [← hqp465] at hrow5 hge5 ⊢
                clear hqw465 hqp465
                obtain ⟨y7, hst7, hg7, hr7, hs7⟩ := store_old (P := Tryz.prog) w465 p465 _ (cellsW hs) 171 hrow5 (by rw [cellsW_size, cellsW_size, HP1.out.st.h8]; rfl) (cellsW_one _)
                have hrw7 := (hg7.block p46 (row_lt hrow6) (by simp; omega)).trans hrow6
                obtain ⟨y8, hst8, hg8, hr8, hs8⟩ := store_old (P := Tryz.prog) y7 p46 _ (cellsW ivL) 171 hrw7 rfl (cellsW_one _)
                have hrv8 := (hg8.block p465 (row_lt hr7) (by simp; omega)).trans hr7
                have hB7 := HB465.trans (below_two hg7 (by omega) HB465.size)
                have hB8 := hB7.trans (below_two hg8 (by omega) hB7.size)
                simp only [cellsW] at hst7
                have hsz8 : (cellsW ivL).size = 8 := rfl
                refine wpAnyH_ready (rs := [7]) (by kernel_rfl) (by simp) ?_
                refine AllReadyH.cons rfl (fun K hKK => ?_) AllReadyH.nil
                have h8 := HP1.out.st.h8
                go_simp
                refine hKK.out _ _ hB7 (fun hHeld => ?_)
                clear hKK K
                try simp only [Act.put, List.setIfInBounds_toArray, List.set_cons_zero, List.set_cons_succ]
                refine wpAnyH_ready (rs := [8]) (by kernel_rfl) (by simp) ?_
                refine AllReadyH.cons rfl (fun K hKK => ?_) AllReadyH.nil
                go_simp
                refine hKK.out _ _ hB8 (fun hHeld => ?_)
                clear hKK K
                try simp only [Act.put, List.setIfInBounds_toArray, List.set_cons_zero, List.set_cons_succ]
                refine wpAnyH_done (by kernel_rfl) ?_ _
                go_wp2_with fail
                go_meet
                exact ⟨_, _, rfl, rfl, hB8, by omega, by omega, by omega, hrv8, hr8⟩
          · go_simp
            have HB5 : Below wr.heap.size wr (x0.alloc (.cells (cellsW z8) 171)) := HB0.alloc HB0.size _
            refine hKK.out _ _ HB5 (fun hHeld => ?_)
            clear hKK K
            try simp only [Act.put, List.setIfInBounds_toArray, List.set_cons_zero, List.set_cons_succ]
            have hrow5 := heap_alloc_last x0 (.cells (cellsW z8) 171)
            have hge5 := HB0.size
            obtain ⟨w5, hqw5⟩ : ∃ z, z = (x0.alloc (.cells (cellsW z8) 171)) := ⟨_, rfl⟩
            obtain ⟨p5, hqp5⟩ : ∃ z, z = x0.heap.size := ⟨_, rfl⟩
            change wpAnyH _ _ _ _ _ _ _ _ (x0.alloc (.cells (cellsW z8) 171))
            rw [← hqw5] at HB5 hrow5 ⊢
            rw [← hqp5] at hrow5 hge5 ⊢
            clear hqw5 hqp5
            refine wpAnyH_ready (rs := [4, 6]) (by kernel_rfl) (by simp) ?_
            refine AllReadyH.cons rfl (fun K hKK => ?_) (AllReadyH.cons rfl (fun K hKK => ?_) AllReadyH.nil)
            · go_simp
              go_at_call 74
              refine (first_any _).mono ?_
              rintro e w54 ⟨rfl, hg2⟩
              have HB54 : Below wr.heap.size wr w54 := HB5.trans ((below_refl_grown hg2).mono HB5.size)
              have hrow5 := (hg2.block p5 (row_lt hrow5) (by simp)).trans hrow5
              refine hKK.out _ _ HB54 (fun hHeld => ?_)
              clear hKK K hg2
              try simp only [Act.put, List.setIfInBounds_toArray, List.set_cons_zero, List.set_cons_succ]
              refine wpAnyH_ready (rs := [6]) (by kernel_rfl) (by simp) ?_
              refine AllReadyH.cons rfl (fun K hKK => ?_) AllReadyH.nil
              · have hold5 := row_lt hrow5
                go_simp
                have HB546 : Below wr.heap.size wr (w54.alloc (.cells (cellsW z8) 171)) := HB54.alloc HB54.size _
                refine hKK.out _ _ HB546 (fun hHeld => ?_)
                clear hKK K
                try simp only [Act.put, List.setIfInBounds_toArray, List.set_cons_zero, List.set_cons_succ]
                have hrow6 := heap_alloc_last w54 (.cells (cellsW z8) 171)
                have hge6 := HB54.size
                have hrow5 := (Below.heap_alloc w54 (.cells (cellsW z8) 171) p5 (row_lt hrow5)).trans hrow5
                obtain ⟨w546, hqw546⟩ : ∃ z, z = (w54.alloc (.cells (cellsW z8) 171)) := ⟨_, rfl⟩
                obtain ⟨p546, hqp546⟩ : ∃ z, z = w54.heap.size := ⟨_, rfl⟩
                have hpp : p5 ≠ p546 := by rw [hqp546]; exact Nat.ne_of_lt hold5
                change wpAnyH _ _ _ _ _ _ _ _ (w54.alloc (.cells (cellsW z8) 171))
                rw [← hqw546] at HB546 hrow6 hrow5 ⊢
                rw [← hqp546] at hrow6 hge6 ⊢
                clear hqw546 hqp546
                obtain ⟨y7, hst7, hg7, hr7, hs7⟩ := store_old (P := Tryz.prog) w546 p5 _ (cellsW hs) 171 hrow5 (by rw [cellsW_size, cellsW_size, HP1.out.st.h8]; rfl) (cellsW_one _)
                have hrw7 := (hg7.block p546 (row_lt hrow6) (by simp; omega)).trans hrow6
                obtain ⟨y8, hst8, hg8, hr8, hs8⟩ := store_old (P := Tryz.prog) y7 p546 _ (cellsW ivL) 171 hrw7 rfl (cellsW_one _)
                have hrv8 := (hg8.block p5 (row_lt hr7) (by simp; omega)).trans hr7
                have hB7 := HB546.trans (below_two hg7 (by omega) HB546.size)
                have hB8 := hB7.trans (below_two hg8 (by omega) hB7.size)
                simp only [cellsW] at hst7
                have hsz8 : (cellsW ivL).size = 8 := rfl
                refine wpAnyH_ready (rs := [7]) (by kernel_rfl) (by simp) ?_
                refine AllReadyH.cons rfl (fun K hKK => ?_) AllReadyH.nil
                have h8 := HP1.out.st.h8
                go_simp
                refine hKK.out _ _ hB7 (fun hHeld => ?_)
                clear hKK K
                try simp only [Act.put, List.setIfInBounds_toArray, List.set_cons_zero, List.set_cons_succ]
                refine wpAnyH_ready (rs := [8]) (by kernel_rfl) (by simp) ?_
                refine AllReadyH.cons rfl (fun K hKK => ?_) AllReadyH.nil
                go_simp
                refine hKK.out _ _ hB8 (fun hHeld => ?_)
                clear hKK K
                try simp only [Act.put, List.setIfInBounds_toArray, List.set_cons_zero, List.set_cons_succ]
                refine wpAnyH_done (by kernel_rfl) ?_ _
                go_wp2_with fail
                go_meet
                exact ⟨_, _, rfl, rfl, hB8, by omega, by omega, by omega, hrv8, hr8⟩
            · have hold5 := row_lt hrow5
              go_simp
              have HB56 : Below wr.heap.size wr (w5.alloc (.cells (cellsW z8) 171)) := HB5.alloc HB5.size _
              refine hKK.out _ _ HB56 (fun hHeld => ?_)
              clear hKK K
              try simp only [Act.put, List.setIfInBounds_toArray, List.set_cons_zero, List.set_cons_succ]
              have hrow6 := heap_alloc_last w5 (.cells (cellsW z8) 171)
              have hge6 := HB5.size
              have hrow5 := (Below.heap_alloc w5 (.cells (cellsW z8) 171) p5 (row_lt hrow5)).trans hrow5
              obtain ⟨w56, hqw56⟩ : ∃ z, z = (w5.alloc (.cells (cellsW z8) 171)) := ⟨_, rfl⟩
              obtain ⟨p56, hqp56⟩ : ∃ z, z = w5.heap.size := ⟨_, rfl⟩
              have hpp : p5 ≠ p56 := by rw [hqp56]; exact Nat.ne_of_lt hold5
              change wpAnyH _ _ _ _ _ _ _ _ (w5.alloc (.cells (cellsW z8) 171))
              rw [← hqw56] at HB56 hrow6 hrow5 ⊢
              rw [← hqp56] at hrow6 hge6 ⊢
              clear hqw56 hqp56
              refine wpAnyH_ready (rs := [4]) (by kernel_rfl) (by simp) ?_
              refine AllReadyH.cons rfl (fun K hKK => ?_) AllReadyH.nil
              · go_simp
                go_at_call 74
                refine (first_any _).mono ?_
                rintro e w564 ⟨rfl, hg2⟩
                have HB564 : Below wr.heap.size wr w564 := HB56.trans ((below_refl_grown hg2).mono HB56.size)
                have hrow5 := (hg2.block p5 (row_lt hrow5) (by simp)).trans hrow5
                have hrow6 := (hg2.block p56 (row_lt hrow6) (by simp)).trans hrow6
                refine hKK.out _ _ HB564 (fun hHeld => ?_)
                clear hKK K hg2
                try simp only [Act.put, List.setIfInBounds_toArray, List.set_cons_zero, List.set_cons_succ]
                obtain ⟨y7, hst7, hg7, hr7, hs7⟩ := store_old (P := Tryz.prog) w564 p5 _ (cellsW hs) 171 hrow5 (by rw [cellsW_size, cellsW_size, HP1.out.st.h8]; rfl) (cellsW_one _)
                have hrw7 := (hg7.block p56 (row_lt hrow6) (by simp; omega)).trans hrow6
                obtain ⟨y8, hst8, hg8, hr8, hs8⟩ := store_old (P := Tryz.prog) y7 p56 _ (cellsW ivL) 171 hrw7 rfl (cellsW_one _)
                have hrv8 := (hg8.block p5 (row_lt hr7) (by simp; omega)).trans hr7
                have hB7 := HB564.trans (below_two hg7 (by omega) HB564.size)
                have hB8 := hB7.trans (below_two hg8 (by omega) hB7.size)
                simp only [cellsW] at hst7
                have hsz8 : (cellsW ivL).size = 8 := rfl
                refine wpAnyH_ready (rs := [7]) (by kernel_rfl) (by simp) ?_
                refine AllReadyH.cons rfl (fun K hKK => ?_) AllReadyH.nil
                have h8 := HP1.out.st.h8
                go_simp
                refine hKK.out _ _ hB7 (fun hHeld => ?_)
                clear hKK K
                try simp only [Act.put, List.setIfInBounds_toArray, List.set_cons_zero, List.set_cons_succ]
                refine wpAnyH_ready (rs := [8]) (by kernel_rfl) (by simp) ?_
                refine AllReadyH.cons rfl (fun K hKK => ?_) AllReadyH.nil
                go_simp
                refine hKK.out _ _ hB8 (fun hHeld => ?_)
                clear hKK K
                try simp only [Act.put, List.setIfInBounds_toArray, List.set_cons_zero, List.set_cons_succ]
                refine wpAnyH_done (by kernel_rfl) ?_ _
                go_wp2_with fail
                go_meet
                exact ⟨_, _, rfl, rfl, hB8, by omega, by omega, by omega, hrv8, hr8⟩
          · go_simp
            have HB6 : Below wr.heap.size wr (x0.alloc (.cells (cellsW z8) 171)) := HB0.alloc HB0.size _
            refine hKK.out _ _ HB6 (fun hHeld => ?_)
            clear hKK K
            try simp only [Act.put, List.setIfInBounds_toArray, List.set_cons_zero, List.set_cons_succ]
            have hrow6 := heap_alloc_last x0 (.cells (cellsW z8) 171)
            have hge6 := HB0.size
            obtain ⟨w6, hqw6⟩ : ∃ z, z = (x0.alloc (.cells (cellsW z8) 171)) := ⟨_, rfl⟩
            obtain ⟨p6, hqp6⟩ : ∃ z, z = x0.heap.size := ⟨_, rfl⟩
            change wpAnyH _ _ _ _ _ _ _ _ (x0.alloc (.cells (cellsW z8) 171))
            rw [← hqw6] at HB6 hrow6 ⊢
            rw [← hqp6] at hrow6 hge6 ⊢
            clear hqw6 hqp6
            refine wpAnyH_ready (rs := [4, 5]) (by kernel_rfl) (by simp) ?_
            refine AllReadyH.cons rfl (fun K hKK => ?_) (AllReadyH.cons rfl (fun K hKK => ?_) AllReadyH.nil)
            · go_simp
              go_at_call 74
              refine (first_any _).mono ?_
              rintro e w64 ⟨rfl, hg2⟩
              have HB64 : Below wr.heap.size wr w64 := HB6.trans ((below_refl_grown hg2).mono HB6.size)
              have hrow6 := (hg2.block p6 (row_lt hrow6) (by simp)).trans hrow6
              refine hKK.out _ _ HB64 (fun hHeld => ?_)
              clear hKK K hg2
              try simp only [Act.put, List.setIfInBounds_toArray, List.set_cons_zero, List.set_cons_succ]
              refine wpAnyH_ready (rs := [5]) (by kernel_rfl) (by simp) ?_
              refine AllReadyH.cons rfl (fun K hKK => ?_) AllReadyH.nil
              · have hold6 := row_lt hrow6
                go_simp
                have HB645 : Below wr.heap.size wr (w64.alloc (.cells (cellsW z8) 171)) := HB64.alloc HB64.size _
                refine hKK.out _ _ HB645 (fun hHeld => ?_)
                clear hKK K
                try simp only [Act.put, List.setIfInBounds_toArray, List.set_cons_zero, List.set_cons_succ]
                have hrow5 := heap_alloc_last w64 (.cells (cellsW z8) 171)
                have hge5 := HB64.size
                have hrow6 := (Below.heap_alloc w64 (.cells (cellsW z8) 171) p6 (row_lt hrow6)).trans hrow6
                obtain ⟨w645, hqw645⟩ : ∃ z, z = (w64.alloc (.cells (cellsW z8) 171)) := ⟨_, rfl⟩
                obtain ⟨p645, hqp645⟩ : ∃ z, z = w64.heap.size := ⟨_, rfl⟩
                have hpp : p6 ≠ p645 := by rw [hqp645]; exact Nat.ne_of_lt hold6
                change wpAnyH _ _ _ _ _ _ _ _ (w64.alloc (.cells (cellsW z8) 171))
                rw [← hqw645] at HB645 hrow5 hrow6 ⊢
                rw [← hqp645] at hrow5 hge5 ⊢
                clear hqw645 hqp645
                obtain ⟨y7, hst7, hg7, hr7, hs7⟩ := store_old (P := Tryz.prog) w645 p645 _ (cellsW hs) 171 hrow5 (by rw [cellsW_size, cellsW_size, HP1.out.st.h8]; rfl) (cellsW_one _)
                have hrw7 := (hg7.block p6 (row_lt hrow6) (by simp; omega)).trans hrow6
                obtain ⟨y8, hst8, hg8, hr8, hs8⟩ := store_old (P := Tryz.prog) y7 p6 _ (cellsW ivL) 171 hrw7 rfl (cellsW_one _)
                have hrv8 := (hg8.block p645 (row_lt hr7) (by simp; omega)).trans hr7
                have hB7 := HB645.trans (below_two hg7 (by omega) HB645.size)
                have hB8 := hB7.trans (below_two hg8 (by omega) hB7.size)
                simp only [cellsW] at hst7
                have hsz8 : (cellsW ivL).size = 8 := rfl
                refine wpAnyH_ready (rs := [7]) (by kernel_rfl) (by simp) ?_
                refine AllReadyH.cons rfl (fun K hKK => ?_) AllReadyH.nil
                have h8 := HP1.out.st.h8
                go_simp
                refine hKK.out _ _ hB7 (fun hHeld => ?_)
                clear hKK K
                try simp only [Act.put, List.setIfInBounds_toArray, List.set_cons_zero, List.set_cons_succ]
                refine wpAnyH_ready (rs := [8]) (by kernel_rfl) (by simp) ?_
                refine AllReadyH.cons rfl (fun K hKK => ?_) AllReadyH.nil
                go_simp
                refine hKK.out _ _ hB8 (fun hHeld => ?_)
                clear hKK K
                try simp only [Act.put, List.setIfInBounds_toArray, List.set_cons_zero, List.set_cons_succ]
                refine wpAnyH_done (by kernel_rfl) ?_ _
                go_wp2_with fail
                go_meet
                exact ⟨_, _, rfl, rfl, hB8, by omega, by omega, by omega, hrv8, hr8⟩
            · have hold6 := row_lt hrow6
              go_simp
              have HB65 : Below wr.heap.size wr (w6.alloc (.cells (cellsW z8) 171)) := HB6.alloc HB6.size _
              refine hKK.out _ _ HB65 (fun hHeld => ?_)
              clear hKK K
              try simp only [Act.put, List.setIfInBounds_toArray, List.set_cons_zero, List.set_cons_succ]
              have hrow5 := heap_alloc_last w6 (.cells (cellsW z8) 171)
              have hge5 := HB6.size
              have hrow6 := (Below.heap_alloc w6 (.cells (cellsW z8) 171) p6 (row_lt hrow6)).trans hrow6
              obtain ⟨w65, hqw65⟩ : ∃ z, z = (w6.alloc (.cells (cellsW z8) 171)) := ⟨_, rfl⟩
              obtain ⟨p65, hqp65⟩ : ∃ z, z = w6.heap.size := ⟨_, rfl⟩
              have hpp : p6 ≠ p65 := by rw [hqp65]; exact Nat.ne_of_lt hold6
              change wpAnyH _ _ _ _ _ _ _ _ (w6.alloc (.cells (cellsW z8) 171))
              rw [← hqw65] at HB65 hrow5 hrow6 ⊢
              rw [← hqp65] at hrow5 hge5 ⊢
              clear hqw65 hqp65
              refine wpAnyH_ready (rs := [4]) (by kernel_rfl) (by simp) ?_
              refine AllReadyH.cons rfl (fun K hKK => ?_) AllReadyH.nil
              · go_simp
                go_at_call 74
                refine (first_any _).mono ?_
                rintro e w654 ⟨rfl, hg2⟩
                have HB654 : Below wr.heap.size wr w654 := HB65.trans ((below_refl_grown hg2).mono HB65.size)
                have hrow6 := (hg2.block p6 (row_lt hrow6) (by simp)).trans hrow6
                have hrow5 := (hg2.block p65 (row_lt hrow5) (by simp)).trans hrow5
                refine hKK.out _ _ HB654 (fun hHeld => ?_)
                clear hKK K hg2
                try simp only [Act.put, List.setIfInBounds_toArray, List.set_cons_zero, List.set_cons_succ]
                obtain ⟨y7, hst7, hg7, hr7, hs7⟩ := store_old (P := Tryz.prog) w654 p65 _ (cellsW hs) 171 hrow5 (by rw [cellsW_size, cellsW_size, HP1.out.st.h8]; rfl) (cellsW_one _)
                have hrw7 := (hg7.block p6 (row_lt hrow6) (by simp; omega)).trans hrow6
                obtain ⟨y8, hst8, hg8, hr8, hs8⟩ := store_old (P := Tryz.prog) y7 p6 _ (cellsW ivL) 171 hrw7 rfl (cellsW_one _)
                have hrv8 := (hg8.block p65 (row_lt hr7) (by simp; omega)).trans hr7
                have hB7 := HB654.trans (below_two hg7 (by omega) HB654.size)
                have hB8 := hB7.trans (below_two hg8 (by omega) hB7.size)
                simp only [cellsW] at hst7
                have hsz8 : (cellsW ivL).size = 8 := rfl
                refine wpAnyH_ready (rs := [7]) (by kernel_rfl) (by simp) ?_
                refine AllReadyH.cons rfl (fun K hKK => ?_) AllReadyH.nil
                have h8 := HP1.out.st.h8
                go_simp
                refine hKK.out _ _ hB7 (fun hHeld => ?_)
                clear hKK K
                try simp only [Act.put, List.setIfInBounds_toArray, List.set_cons_zero, List.set_cons_succ]
                refine wpAnyH_ready (rs := [8]) (by kernel_rfl) (by simp) ?_
                refine AllReadyH.cons rfl (fun K hKK => ?_) AllReadyH.nil
                go_simp
                refine hKK.out _ _ hB8 (fun hHeld => ?_)
                clear hKK K
                try simp only [Act.put, List.setIfInBounds_toArray, List.set_cons_zero, List.set_cons_succ]
                refine wpAnyH_done (by kernel_rfl) ?_ _
                go_wp2_with fail
                go_meet
                exact ⟨_, _, rfl, rfl, hB8, by omega, by omega, by omega, hrv8, hr8⟩
      case rest =>
        obtain ⟨gv, gw, rfl, rfl, hB, hgv, hgw, hvw, hrv, hrw⟩ := hcut
        have HV0 := Lib.hid (show Pv w wc g gm gv gw hs rs n M hs ivL by
          have h1 := row_lt HP1.out.m
          have h2 := HP1.out.bel.size
          exact ⟨HP1.out.quiet hB, hrv, hrw, HP1.out.st.h8, rfl, ⟨by omega, by omega⟩, hvw, by omega, by omega⟩)
        clear hB hgv hgw hvw hrv hrw HR HI
        have hnum := HV0.out.z.st.num
        have hc4 : wc.cell? ⟨gw, 4, none⟩ = some (.int .u32 1359893119) := HV0.out.cw 4 (by decide)
        have hf4 := free_row HV0.out.w 4
        have hnl := HV0.out.z.st.lim
        have hm1 : ((n % 4294967296 : Nat) : Int) = (n : Int) % 4294967296 := by omega
        have HV1 := Lib.hid ((HV0.out.setW 4 (Go.bits .xor .u32 1359893119 ((n % 4294967296 : Nat) : Int))).drew)
        rw [hm1] at HV1
        clear hm1
        go_upto_region 7 with (fail)
        go_upto_region 8 with (go_region)
        obtain ⟨wd, hwd⟩ : ∃ z, z = (wc.setCell { block := gw, off := 4 } (Value.int IntKind.u32 (Go.bits BinOp.xor IntKind.u32 1359893119 ((n : Int) % 4294967296)))).drew := ⟨_, rfl⟩
        rw [← hwd] at HV1 ⊢
        clear hwd hc4 hf4 hnum HV0
        have hnum := HV1.out.z.st.num
        have hc5 : wd.cell? ⟨gw, 5, none⟩ = some (.int .u32 2600822924) := HV1.out.cw 5 (by decide)
        have hf5 := free_row HV1.out.w 5
        have hm1 : ((n / 4294967296 : Nat) : Int) = (n : Int) / 4294967296 := by omega
        have hm2 : (n : Int) / 4294967296 % 4294967296 = (n : Int) / 4294967296 := by omega
        have HV2 := Lib.hid ((HV1.out.setW 5 (Go.bits .xor .u32 2600822924 ((n / 4294967296 : Nat) : Int))).drew)
        rw [hm1] at HV2
        clear hm1
        go_upto_region 9 with (go_region)
        obtain ⟨we, hwe⟩ : ∃ z, z = (wd.setCell { block := gw, off := 5 } (Value.int IntKind.u32 (Go.bits BinOp.xor IntKind.u32 2600822924 ((n : Int) / 4294967296)))).drew := ⟨_, rfl⟩
        rw [← hwe] at HV2 ⊢
        clear hwe hc5 hf5 hnum HV1 hm2
        go_upto_if 67 with (fail)
        go_cut [] (fun w' => Pv w w' g gm gv gw hs rs n M hs (wV n last))
        case first =>
          have hW := HV2.out
          have hn1 : (n : Int) % 4294967296 = ((n % 4294967296 : Nat) : Int) := by omega
          have hn2 : (n : Int) / 4294967296 = ((n / 4294967296 : Nat) : Int) := by omega
          rw [hn1, hn2] at hW
          have HW := Lib.hid hW
          clear hW hn1 hn2 HV2 hnl
          cases last with
          | false =>
            go_wp2_with fail
            go_meet
            exact HW.out
          | true =>
            have hc6 : we.cell? ⟨gw, 6, none⟩ = some (.int .u32 528734635) := HW.out.cw 6 (by decide)
            have hf6 := free_row HW.out.w 6
            have hcm : Go.bits BinOp.xor IntKind.u32 IntKind.u32.max 528734635 = 3766232660 := by decide +kernel
            go_wp2_with fail
            go_meet
            exact HW.out.setW 6 3766232660
        case rest =>
          have HV3 := Lib.hid hcut
          clear hcut HV2 hnl
          have HV0 := Lib.hid (show (hs ++ wV n last).take 8 = hs by rw [List.take_left' HV3.out.v8])
          have HV00 := Lib.hid (show (hs ++ wV n last).drop 8 = wV n last by rw [List.drop_left' HV3.out.v8])
          have HV16 := Lib.hid (show (hs ++ wV n last).length = 16 by rw [List.length_append, HV3.out.v8]; rfl)
          have HVU := Lib.hid (show AllU (hs ++ wV n last) from AllU.append HV3.out.z.st.hU (AllU_wV n last))
          obtain ⟨V0, hV0⟩ : ∃ z, z = hs ++ wV n last := ⟨_, rfl⟩
          rw [← hV0] at HV0 HV00 HV16 HVU
          have HVE := Lib.hid hV0
          clear hV0
          have hmf : ∀ (fn : Fn) (first cap : Array Value) (w : World), (Instr.makeFunc fn first cap).run Tryz.prog w = .ok (.func fn first cap) w := fun _ _ _ _ => rfl
          go_wp2_with fail
          go_loopg [72] 10 (fun kq v72 w' => ∃ r : Nat, v72 = .int .i64 (r : Int) ∧ r + kq = 10 ∧ Pv w w' g gm gv gw hs rs n M ((roundsF M r V0).take 8) ((roundsF M r V0).drop 8))
          case atStart => exact ⟨0, rfl, by omega, by show Pv w _ g gm gv gw hs rs n M (V0.take 8) (V0.drop 8); rw [HV0.out, HV00.out]; exact HV3.out⟩
          case round =>
            obtain ⟨r, rfl, hr, hP⟩ := hrel
            have HP4 := Lib.hid hP
            have HL4 := Lib.hid ((roundsF_length M r V0).trans HV16.out)
            have HU4 := Lib.hid (HVU.out.rounds M r)
            clear hP
            by_cases hlt : r < 10
            · have r1 : (r : Int) < 10 := by omega
              have HO := Lib.hid (fun w => order_any r hlt w)
              have HO0 := Lib.hid (oS_zero r hlt)
              have HNX := Lib.hid (show stepsF M r 8 (roundsF M r V0) = roundsF M (r + 1) V0 from rfl)
              obtain ⟨V, hV⟩ : ∃ z, z = roundsF M r V0 := ⟨_, rfl⟩
              rw [← hV] at HP4 HL4 HU4 HNX
              clear hV
              go_upto_region 15 with (go_at_call 99; refine (HO.out _).mono ?_; rintro e w5 ⟨rfl, rfl⟩)
              obtain ⟨wo, hwo⟩ : ∃ z, z = wr.alloc (Obj.cells #[Value.int IntKind.u64 ((ordN r : Nat) : Int)] 67) := ⟨_, rfl⟩
              obtain ⟨go, hgo⟩ : ∃ z, z = wr.heap.size := ⟨_, rfl⟩
              have HPO := Lib.hid (show Po w wo g gm gv gw go hs rs n M V (oS r 0) by
                have h1 := row_lt HP4.out.z.m
                have h2 := row_lt HP4.out.v
                have h3 := row_lt HP4.out.w
                have h4 := HP4.out.z.bel.size
                rw [hwo, hgo, HO0.out]
                exact ⟨HP4.out.quiet ((Below.refl _ _).alloc (Nat.le_refl _) _), heap_alloc_last _ _, h4, ⟨by omega, by omega, by omega⟩, HL4.out, HU4.out⟩)
              rw [← hwo, ← hgo]
              clear hwo hgo HP4 HO HO0
              go_wp2_with fail
              go_loopg [78] 4 (fun kq v78 w' => ∃ t : Nat, v78 = .int .i64 (t : Int) ∧ t + kq = 4 ∧ Po w w' g gm gv gw go hs rs n M (stepsF M r t V) (oS r (2 * t)))
              case atStart => exact ⟨0, rfl, by omega, HPO.out⟩
              case round =>
                obtain ⟨t, rfl, ht, hP⟩ := hrel
                have HP5 := Lib.hid hP
                clear hP
                by_cases hlt2 : t < 4
                · have t1 : (t : Int) < 4 := by omega
                  have t0 : (0 : Int) ≤ (t : Int) := by omega
                  have HST := Lib.hid (show stepsF M r (t + 1) V = mixL (stepsF M r t V) t (t + 4) (8 + t) (8 + (t + 4)) (M.getD (nib r (2 * t)) 0) (M.getD (nib r (2 * t + 1)) 0) by
                    have e1 : ia t = t := by unfold ia; omega
                    have e2 : ib t = t + 4 := by unfold ib; omega
                    have e3 : ic t = 8 + t := by unfold ic; omega
                    have e4 : id4 t = 8 + (t + 4) := by unfold id4; omega
                    show mixL _ _ _ _ _ _ _ = _
                    rw [e1, e2, e3, e4])
                  have HN1 := Lib.hid (next_any gm go (oS r (2 * t)) M wr HP5.out.p.z.m HP5.out.p.z.m16 HP5.out.o (oS_lt _ _))
                  have HQ1 := Lib.hid (HP5.out.next (oS r (2 * t + 1)) ((oS r (2 * t) * 16 % 18446744073709551616 : Nat) : Int) (by rw [oS_next]))
                  obtain ⟨x1, hx1⟩ : ∃ z, z = M.getD (nib r (2 * t)) 0 := ⟨_, rfl⟩
                  obtain ⟨x2, hx2⟩ : ∃ z, z = M.getD (nib r (2 * t + 1)) 0 := ⟨_, rfl⟩
                  rw [← hx1, ← hx2] at HST
                  rw [show M.getD (oS r (2 * t) / 1152921504606846976) 0 = x1 from hx1.symm] at HN1
                  have HX2 := Lib.hid hx2
                  clear hx1 hx2
                  obtain ⟨W, hW⟩ : ∃ z, z = stepsF M r t V := ⟨_, rfl⟩
                  rw [← hW] at HST HQ1
                  clear hW HP5
                  go_wp2_with fail
                  refine HN1.out.mono ?_
                  rintro e w6 ⟨rfl, hw6⟩
                  rw [← hw6] at HQ1
                  have HN2 := Lib.hid (next_any gm go (oS r (2 * t + 1)) M w6 HQ1.out.p.z.m HQ1.out.p.z.m16 HQ1.out.o (oS_lt _ _))
                  have HQ2 := Lib.hid (HQ1.out.next (oS r (2 * (t + 1))) ((oS r (2 * t + 1) * 16 % 18446744073709551616 : Nat) : Int) (by rw [show 2 * (t + 1) = (2 * t + 1) + 1 from by omega]; exact congrArg (fun z : Nat => (z : Int)) (oS_next r (2 * t + 1)).symm))
                  rw [show M.getD (oS r (2 * t + 1) / 1152921504606846976) 0 = x2 from HX2.out.symm] at HN2
                  clear hw6 HN1
                  go_wp2_with fail
                  refine HN2.out.mono ?_
                  rintro e w7 ⟨rfl, hw7⟩
                  rw [← hw7] at HQ2
                  clear hw7 HN2
                  have c1 := HQ2.out.cv t (by omega)
                  have c2 := HQ2.out.cv (t + 4) (by omega)
                  have c3 := HQ2.out.cw t (by omega)
                  have c4 := HQ2.out.cw (t + 4) (by omega)
                  have f1 := free_row HQ2.out.p.v t
                  have f2 := free_row HQ2.out.p.v (t + 4)
                  have f3 := free_row HQ2.out.p.w t
                  have f4 := free_row HQ2.out.p.w (t + 4)
                  obtain ⟨Q, hQ⟩ : ∃ z, z = quarter (W.getD t 0) (W.getD (t + 4) 0) (W.getD (8 + t) 0) (W.getD (8 + (t + 4)) 0) x1 x2 := ⟨_, rfl⟩
                  have HQU := Lib.hid (fun w => quarter_any (W.getD t 0) (W.getD (t + 4) 0) (W.getD (8 + t) 0) (W.getD (8 + (t + 4)) 0) x1 x2 w (HQ2.out.vU _) (HQ2.out.vU _) (HQ2.out.vU _) (HQ2.out.vU _))
                  rw [← hQ] at HQU
                  have HM := Lib.hid (HQ2.out.mixed t (t + 4) t (t + 4) x1 x2 (by omega) (by omega) Q hQ)
                  rw [← HST.out] at HM
                  have hne := HQ2.out.p.ne.1
                  clear hQ
                  generalize W.getD t 0 = ya at *
                  generalize W.getD (t + 4) 0 = yb at *
                  generalize W.getD (8 + t) 0 = yc at *
                  generalize W.getD (8 + (t + 4)) 0 = yd at *
                  obtain ⟨qa, qb, qc, qd⟩ := Q
                  have t8 : (t : Int) < 8 := by omega
                  have t9 : (t : Int) + 4 < 8 := by omega
                  have t10 : (0 : Int) ≤ (t : Int) + 4 := by omega
                  have htn : ((t : Int) + 4).toNat = t + 4 := by omega
                  have hwr : IntKind.i64.wrap ((t : Int) + 4) = (t : Int) + 4 := IntWalk.i64_in _ (by omega)
                  go_upto_region 20 with (fail)
                  as_aux_lemma =>
                    refine wp_region_held_drew (S := fun _ => True) (by kernel_rfl) trivial (fun hHeld => ?_)
                    refine held_take 0 (some 86) (v := ?_) rfl rfl (by kernel_rfl) (by kernel_rfl) (by kernel_rfl) (fun _ _ _ h => h) (Or.inl ⟨by rfl, ?_⟩) hHeld ?_
                    rotate_left
                    · (intro w' hSw; clear hSw; go_simp; try with_reducible rfl)
                    try simp only [Act.put, List.setIfInBounds_toArray, List.set_cons_zero, List.set_cons_succ]
                    refine held_take 1 (some 87) (v := ?_) rfl rfl (by kernel_rfl) (by kernel_rfl) (by kernel_rfl) (fun _ _ _ h => h) (Or.inl ⟨by rfl, ?_⟩) hHeld ?_
                    rotate_left
                    · (intro w' hSw; clear hSw; go_simp; try with_reducible rfl)
                    try simp only [Act.put, List.setIfInBounds_toArray, List.set_cons_zero, List.set_cons_succ]
                    refine held_take 2 (some 88) (v := ?_) rfl rfl (by kernel_rfl) (by kernel_rfl) (by kernel_rfl) (fun _ _ _ h => h) (Or.inl ⟨by rfl, ?_⟩) hHeld ?_
                    rotate_left
                    · (intro w' hSw; clear hSw; go_simp; try with_reducible rfl)
                    try simp only [Act.put, List.setIfInBounds_toArray, List.set_cons_zero, List.set_cons_succ]
                    refine held_take 3 (some 89) (v := ?_) rfl rfl (by kernel_rfl) (by kernel_rfl) (by kernel_rfl) (fun _ _ _ h => h) (Or.inl ⟨by rfl, ?_⟩) hHeld ?_
                    rotate_left
                    · (intro w' hSw; clear hSw; go_simp; try with_reducible rfl)
                    try simp only [Act.put, List.setIfInBounds_toArray, List.set_cons_zero, List.set_cons_succ]
                    refine held_take 4 (some 90) (v := ?_) rfl rfl (by kernel_rfl) (by kernel_rfl) (by kernel_rfl) (fun _ _ _ h => h) (Or.inl ⟨by rfl, ?_⟩) hHeld ?_
                    rotate_left
                    · (intro w' hSw; clear hSw; go_simp; try with_reducible rfl)
                    try simp only [Act.put, List.setIfInBounds_toArray, List.set_cons_zero, List.set_cons_succ]
                    refine held_take 5 (some 91) (v := ?_) rfl rfl (by kernel_rfl) (by kernel_rfl) (by kernel_rfl) (fun _ _ _ h => h) (Or.inl ⟨by rfl, ?_⟩) hHeld ?_
                    rotate_left
                    · (intro w' hSw; clear hSw; go_simp; try with_reducible rfl)
                    try simp only [Act.put, List.setIfInBounds_toArray, List.set_cons_zero, List.set_cons_succ]
                    refine held_take 6 (some 92) (v := ?_) rfl rfl (by kernel_rfl) (by kernel_rfl) (by kernel_rfl) (fun _ _ _ h => h) (Or.inl ⟨by rfl, ?_⟩) hHeld ?_
                    rotate_left
                    · (intro w' hSw; clear hSw; go_simp; try with_reducible rfl)
                    try simp only [Act.put, List.setIfInBounds_toArray, List.set_cons_zero, List.set_cons_succ]
                    refine held_take 7 (some 93) (v := ?_) rfl rfl (by kernel_rfl) (by kernel_rfl) (by kernel_rfl) (fun _ _ _ h => h) (Or.inl ⟨by rfl, ?_⟩) hHeld ?_
                    rotate_left
                    · (intro w' hSw; clear hSw; go_simp; try with_reducible rfl)
                    try simp only [Act.put, List.setIfInBounds_toArray, List.set_cons_zero, List.set_cons_succ]
                    refine held_take 9 (some 95) (v := ?_) rfl rfl (by kernel_rfl) (by kernel_rfl) (by kernel_rfl) (fun _ _ _ h => h) (Or.inl ⟨by rfl, ?_⟩) hHeld ?_
                    rotate_left
                    · (intro w' hSw; clear hSw; go_simp; try with_reducible rfl)
                    try simp only [Act.put, List.setIfInBounds_toArray, List.set_cons_zero, List.set_cons_succ]
                    refine held_take 10 (some 96) (v := ?_) rfl rfl (by kernel_rfl) (by kernel_rfl) (by kernel_rfl) (fun _ _ _ h => h) (Or.inl ⟨by rfl, ?_⟩) hHeld ?_
                    rotate_left
                    · (intro w' hSw; clear hSw; go_simp; try with_reducible rfl)
                    try simp only [Act.put, List.setIfInBounds_toArray, List.set_cons_zero, List.set_cons_succ]
                    refine held_take 11 (some 97) (v := ?_) rfl rfl (by kernel_rfl) (by kernel_rfl) (by kernel_rfl) (fun _ _ _ h => h) (Or.inl ⟨by rfl, ?_⟩) hHeld ?_
                    rotate_left
                    · (intro w' hSw; clear hSw; go_simp; try with_reducible rfl)
                    try simp only [Act.put, List.setIfInBounds_toArray, List.set_cons_zero, List.set_cons_succ]
                    refine held_take 13 (some 99) (v := ?_) rfl rfl (by kernel_rfl) (by kernel_rfl) (by kernel_rfl) (fun _ _ _ h => h) (Or.inl ⟨by rfl, ?_⟩) hHeld ?_
                    rotate_left
                    · (intro w' hSw; clear hSw; go_simp; try with_reducible rfl)
                    try simp only [Act.put, List.setIfInBounds_toArray, List.set_cons_zero, List.set_cons_succ]
                    refine held_take 14 (some 100) (v := ?_) rfl rfl (by kernel_rfl) (by kernel_rfl) (by kernel_rfl) (fun _ _ _ h => h) (Or.inl ⟨by rfl, ?_⟩) hHeld ?_
                    rotate_left
                    · (intro w' hSw; clear hSw; go_simp; try with_reducible rfl)
                    try simp only [Act.put, List.setIfInBounds_toArray, List.set_cons_zero, List.set_cons_succ]
                    refine held_take 16 (some 102) (v := ?_) rfl rfl (by kernel_rfl) (by kernel_rfl) (by kernel_rfl) (fun _ _ _ h => h) (Or.inl ⟨by rfl, ?_⟩) hHeld ?_
                    rotate_left
                    · (intro w' hSw; clear hSw; go_simp; try with_reducible rfl)
                    try simp only [Act.put, List.setIfInBounds_toArray, List.set_cons_zero, List.set_cons_succ]
                    refine held_take 17 (some 103) (v := ?_) rfl rfl (by kernel_rfl) (by kernel_rfl) (by kernel_rfl) (fun _ _ _ h => h) (Or.inl ⟨by rfl, ?_⟩) hHeld ?_
                    rotate_left
                    · (intro w' hSw; clear hSw; go_simp; try with_reducible rfl)
                    try simp only [Act.put, List.setIfInBounds_toArray, List.set_cons_zero, List.set_cons_succ]
                    refine held_take 18 (some 104) (v := ?_) rfl rfl (by kernel_rfl) (by kernel_rfl) (by kernel_rfl) (fun _ _ _ h => h) (Or.inl ⟨by rfl, ?_⟩) hHeld ?_
                    rotate_left
                    · (intro w' hSw; clear hSw; go_simp; try with_reducible rfl)
                    try simp only [Act.put, List.setIfInBounds_toArray, List.set_cons_zero, List.set_cons_succ]
                    refine held_take 20 (some 106) (v := ?_) rfl rfl (by kernel_rfl) (by kernel_rfl) (by kernel_rfl) (fun _ _ _ h => h) (Or.inl ⟨by rfl, ?_⟩) hHeld ?_
                    rotate_left
                    · (intro w' hSw; clear hSw; go_simp; try with_reducible rfl)
                    try simp only [Act.put, List.setIfInBounds_toArray, List.set_cons_zero, List.set_cons_succ]
                    refine held_take 21 (some 107) (v := ?_) rfl rfl (by kernel_rfl) (by kernel_rfl) (by kernel_rfl) (fun _ _ _ h => h) (Or.inl ⟨by rfl, ?_⟩) hHeld ?_
                    rotate_left
                    · (intro w' hSw; clear hSw; go_simp; try with_reducible rfl)
                    try simp only [Act.put, List.setIfInBounds_toArray, List.set_cons_zero, List.set_cons_succ]
                    apply shared
                    · intro final
                      refine wpAnyH_ready (rs := [8, 12, 15, 19]) (by kernel_rfl) (by simp) ?_
                      refine AllReadyH.cons rfl (fun K hKK => ?_) (AllReadyH.cons rfl (fun K hKK => ?_) (AllReadyH.cons rfl (fun K hKK => ?_) (AllReadyH.cons rfl (fun K hKK => ?_) AllReadyH.nil)))
                      · go_simp
                        refine hKK.out _ _ trivial (fun _ => ?_)
                        clear hKK K
                        try simp only [Act.put, List.setIfInBounds_toArray, List.set_cons_zero, List.set_cons_succ]
                        refine wpAnyH_ready (rs := [12, 15, 19]) (by kernel_rfl) (by simp) ?_
                        refine AllReadyH.cons rfl (fun K hKK => ?_) (AllReadyH.cons rfl (fun K hKK => ?_) (AllReadyH.cons rfl (fun K hKK => ?_) AllReadyH.nil))
                        · go_simp
                          refine hKK.out _ _ trivial (fun _ => ?_)
                          clear hKK K
                          try simp only [Act.put, List.setIfInBounds_toArray, List.set_cons_zero, List.set_cons_succ]
                          refine wpAnyH_ready (rs := [15, 19]) (by kernel_rfl) (by simp) ?_
                          refine AllReadyH.cons rfl (fun K hKK => ?_) (AllReadyH.cons rfl (fun K hKK => ?_) AllReadyH.nil)
                          · go_simp
                            refine hKK.out _ _ trivial (fun _ => ?_)
                            clear hKK K
                            try simp only [Act.put, List.setIfInBounds_toArray, List.set_cons_zero, List.set_cons_succ]
                            refine wpAnyH_ready (rs := [19]) (by kernel_rfl) (by simp) ?_
                            refine AllReadyH.cons rfl (fun K hKK => ?_) AllReadyH.nil
                            · go_simp
                              refine hKK.out _ _ trivial (fun _ => ?_)
                              clear hKK K
                              try simp only [Act.put, List.setIfInBounds_toArray, List.set_cons_zero, List.set_cons_succ]
                              exact final
                          · go_simp
                            refine hKK.out _ _ trivial (fun _ => ?_)
                            clear hKK K
                            try simp only [Act.put, List.setIfInBounds_toArray, List.set_cons_zero, List.set_cons_succ]
                            refine wpAnyH_ready (rs := [15]) (by kernel_rfl) (by simp) ?_
                            refine AllReadyH.cons rfl (fun K hKK => ?_) AllReadyH.nil
                            · go_simp
                              refine hKK.out _ _ trivial (fun _ => ?_)
                              clear hKK K
                              try simp only [Act.put, List.setIfInBounds_toArray, List.set_cons_zero, List.set_cons_succ]
                              exact final
                        · go_simp
                          refine hKK.out _ _ trivial (fun _ => ?_)
                          clear hKK K
                          try simp only [Act.put, List.setIfInBounds_toArray, List.set_cons_zero, List.set_cons_succ]
                          refine wpAnyH_ready (rs := [12, 19]) (by kernel_rfl) (by simp) ?_
                          refine AllReadyH.cons rfl (fun K hKK => ?_) (AllReadyH.cons rfl (fun K hKK => ?_) AllReadyH.nil)
                          · go_simp
                            refine hKK.out _ _ trivial (fun _ => ?_)
                            clear hKK K
                            try simp only [Act.put, List.setIfInBounds_toArray, List.set_cons_zero, List.set_cons_succ]
                            refine wpAnyH_ready (rs := [19]) (by kernel_rfl) (by simp) ?_
                            refine AllReadyH.cons rfl (fun K hKK => ?_) AllReadyH.nil
                            · go_simp
                              refine hKK.out _ _ trivial (fun _ => ?_)
                              clear hKK K
                              try simp only [Act.put, List.setIfInBounds_toArray, List.set_cons_zero, List.set_cons_succ]
                              exact final
                          · go_simp
                            refine hKK.out _ _ trivial (fun _ => ?_)
                            clear hKK K
                            try simp only [Act.put, List.setIfInBounds_toArray, List.set_cons_zero, List.set_cons_succ]
                            refine wpAnyH_ready (rs := [12]) (by kernel_rfl) (by simp) ?_
                            refine AllReadyH.cons rfl (fun K hKK => ?_) AllReadyH.nil
                            · go_simp
                              refine hKK.out _ _ trivial (fun _ => ?_)
                              clear hKK K
                              try simp only [Act.put, List.setIfInBounds_toArray, List.set_cons_zero, List.set_cons_succ]
                              exact final
                        · go_simp
                          refine hKK.out _ _ trivial (fun _ => ?_)
                          clear hKK K
                          try simp only [Act.put, List.setIfInBounds_toArray, List.set_cons_zero, List.set_cons_succ]
                          refine wpAnyH_ready (rs := [12, 15]) (by kernel_rfl) (by simp) ?_
                          refine AllReadyH.cons rfl (fun K hKK => ?_) (AllReadyH.cons rfl (fun K hKK => ?_) AllReadyH.nil)
                          · go_simp
                            refine hKK.out _ _ trivial (fun _ => ?_)
                            clear hKK K
                            try simp only [Act.put, List.setIfInBounds_toArray, List.set_cons_zero, List.set_cons_succ]
                            refine wpAnyH_ready (rs := [15]) (by kernel_rfl) (by simp) ?_
                            refine AllReadyH.cons rfl (fun K hKK => ?_) AllReadyH.nil
                            · go_simp
                              refine hKK.out _ _ trivial (fun _ => ?_)
                              clear hKK K
                              try simp only [Act.put, List.setIfInBounds_toArray, List.set_cons_zero, List.set_cons_succ]
                              exact final
                          · go_simp
                            refine hKK.out _ _ trivial (fun _ => ?_)
                            clear hKK K
                            try simp only [Act.put, List.setIfInBounds_toArray, List.set_cons_zero, List.set_cons_succ]
                            refine wpAnyH_ready (rs := [12]) (by kernel_rfl) (by simp) ?_
                            refine AllReadyH.cons rfl (fun K hKK => ?_) AllReadyH.nil
                            · go_simp
                              refine hKK.out _ _ trivial (fun _ => ?_)
                              clear hKK K
                              try simp only [Act.put, List.setIfInBounds_toArray, List.set_cons_zero, List.set_cons_succ]
                              exact final
                      · go_simp
                        refine hKK.out _ _ trivial (fun _ => ?_)
                        clear hKK K
                        try simp only [Act.put, List.setIfInBounds_toArray, List.set_cons_zero, List.set_cons_succ]
                        refine wpAnyH_ready (rs := [8, 15, 19]) (by kernel_rfl) (by simp) ?_
                        refine AllReadyH.cons rfl (fun K hKK => ?_) (AllReadyH.cons rfl (fun K hKK => ?_) (AllReadyH.cons rfl (fun K hKK => ?_) AllReadyH.nil))
                        · go_simp
                          refine hKK.out _ _ trivial (fun _ => ?_)
                          clear hKK K
                          try simp only [Act.put, List.setIfInBounds_toArray, List.set_cons_zero, List.set_cons_succ]
                          refine wpAnyH_ready (rs := [15, 19]) (by kernel_rfl) (by simp) ?_
                          refine AllReadyH.cons rfl (fun K hKK => ?_) (AllReadyH.cons rfl (fun K hKK => ?_) AllReadyH.nil)
                          · go_simp
                            refine hKK.out _ _ trivial (fun _ => ?_)
                            clear hKK K
                            try simp only [Act.put, List.setIfInBounds_toArray, List.set_cons_zero, List.set_cons_succ]
                            refine wpAnyH_ready (rs := [19]) (by kernel_rfl) (by simp) ?_
                            refine AllReadyH.cons rfl (fun K hKK => ?_) AllReadyH.nil
                            · go_simp
                              refine hKK.out _ _ trivial (fun _ => ?_)
                              clear hKK K
                              try simp only [Act.put, List.setIfInBounds_toArray, List.set_cons_zero, List.set_cons_succ]
                              exact final
                          · go_simp
                            refine hKK.out _ _ trivial (fun _ => ?_)
                            clear hKK K
                            try simp only [Act.put, List.setIfInBounds_toArray, List.set_cons_zero, List.set_cons_succ]
                            refine wpAnyH_ready (rs := [15]) (by kernel_rfl) (by simp) ?_
                            refine AllReadyH.cons rfl (fun K hKK => ?_) AllReadyH.nil
                            · go_simp
                              refine hKK.out _ _ trivial (fun _ => ?_)
                              clear hKK K
                              try simp only [Act.put, List.setIfInBounds_toArray, List.set_cons_zero, List.set_cons_succ]
                              exact final
                        · go_simp
                          refine hKK.out _ _ trivial (fun _ => ?_)
                          clear hKK K
                          try simp only [Act.put, List.setIfInBounds_toArray, List.set_cons_zero, List.set_cons_succ]
                          refine wpAnyH_ready (rs := [8, 19]) (by kernel_rfl) (by simp) ?_
                          refine AllReadyH.cons rfl (fun K hKK => ?_) (AllReadyH.cons rfl (fun K hKK => ?_) AllReadyH.nil)
                          · go_simp
                            refine hKK.out _ _ trivial (fun _ => ?_)
                            clear hKK K
                            try simp only [Act.put, List.setIfInBounds_toArray, List.set_cons_zero, List.set_cons_succ]
                            refine wpAnyH_ready (rs := [19]) (by kernel_rfl) (by simp) ?_
                            refine AllReadyH.cons rfl (fun K hKK => ?_) AllReadyH.nil
                            · go_simp
                              refine hKK.out _ _ trivial (fun _ => ?_)
                              clear hKK K
                              try simp only [Act.put, List.setIfInBounds_toArray, List.set_cons_zero, List.set_cons_succ]
                              exact final
                          · go_simp
                            refine hKK.out _ _ trivial (fun _ => ?_)
                            clear hKK K
                            try simp only [Act.put, List.setIfInBounds_toArray, List.set_cons_zero, List.set_cons_succ]
                            refine wpAnyH_ready (rs := [8]) (by kernel_rfl) (by simp) ?_
                            refine AllReadyH.cons rfl (fun K hKK => ?_) AllReadyH.nil
                            · go_simp
                              refine hKK.out _ _ trivial (fun _ => ?_)
                              clear hKK K
                              try simp only [Act.put, List.setIfInBounds_toArray, List.set_cons_zero, List.set_cons_succ]
                              exact final
                        · go_simp
                          refine hKK.out _ _ trivial (fun _ => ?_)
                          clear hKK K
                          try simp only [Act.put, List.setIfInBounds_toArray, List.set_cons_zero, List.set_cons_succ]
                          refine wpAnyH_ready (rs := [8, 15]) (by kernel_rfl) (by simp) ?_
                          refine AllReadyH.cons rfl (fun K hKK => ?_) (AllReadyH.cons rfl (fun K hKK => ?_) AllReadyH.nil)
                          · go_simp
                            refine hKK.out _ _ trivial (fun _ => ?_)
                            clear hKK K
                            try simp only [Act.put, List.setIfInBounds_toArray, List.set_cons_zero, List.set_cons_succ]
                            refine wpAnyH_ready (rs := [15]) (by kernel_rfl) (by simp) ?_
                            refine AllReadyH.cons rfl (fun K hKK => ?_) AllReadyH.nil
                            · go_simp
                              refine hKK.out _ _ trivial (fun _ => ?_)
                              clear hKK K
                              try simp only [Act.put, List.setIfInBounds_toArray, List.set_cons_zero, List.set_cons_succ]
                              exact final
                          · go_simp
                            refine hKK.out _ _ trivial (fun _ => ?_)
                            clear hKK K
                            try simp only [Act.put, List.setIfInBounds_toArray, List.set_cons_zero, List.set_cons_succ]
                            refine wpAnyH_ready (rs := [8]) (by kernel_rfl) (by simp) ?_
                            refine AllReadyH.cons rfl (fun K hKK => ?_) AllReadyH.nil
                            · go_simp
                              refine hKK.out _ _ trivial (fun _ => ?_)
                              clear hKK K
                              try simp only [Act.put, List.setIfInBounds_toArray, List.set_cons_zero, List.set_cons_succ]
                              exact final
                      · go_simp
                        refine hKK.out _ _ trivial (fun _ => ?_)
                        clear hKK K
                        try simp only [Act.put, List.setIfInBounds_toArray, List.set_cons_zero, List.set_cons_succ]
                        refine wpAnyH_ready (rs := [8, 12, 19]) (by kernel_rfl) (by simp) ?_
                        refine AllReadyH.cons rfl (fun K hKK => ?_) (AllReadyH.cons rfl (fun K hKK => ?_) (AllReadyH.cons rfl (fun K hKK => ?_) AllReadyH.nil))
                        · go_simp
                          refine hKK.out _ _ trivial (fun _ => ?_)
                          clear hKK K
                          try simp only [Act.put, List.setIfInBounds_toArray, List.set_cons_zero, List.set_cons_succ]
                          refine wpAnyH_ready (rs := [12, 19]) (by kernel_rfl) (by simp) ?_
                          refine AllReadyH.cons rfl (fun K hKK => ?_) (AllReadyH.cons rfl (fun K hKK => ?_) AllReadyH.nil)
                          · go_simp
                            refine hKK.out _ _ trivial (fun _ => ?_)
                            clear hKK K
                            try simp only [Act.put, List.setIfInBounds_toArray, List.set_cons_zero, List.set_cons_succ]
                            refine wpAnyH_ready (rs := [19]) (by kernel_rfl) (by simp) ?_
                            refine AllReadyH.cons rfl (fun K hKK => ?_) AllReadyH.nil
                            · go_simp
                              refine hKK.out _ _ trivial (fun _ => ?_)
                              clear hKK K
                              try simp only [Act.put, List.setIfInBounds_toArray, List.set_cons_zero, List.set_cons_succ]
                              exact final
                          · go_simp
                            refine hKK.out _ _ trivial (fun _ => ?_)
                            clear hKK K
                            try simp only [Act.put, List.setIfInBounds_toArray, List.set_cons_zero, List.set_cons_succ]
                            refine wpAnyH_ready (rs := [12]) (by kernel_rfl) (by simp) ?_
                            refine AllReadyH.cons rfl (fun K hKK => ?_) AllReadyH.nil
                            · go_simp
                              refine hKK.out _ _ trivial (fun _ => ?_)
                              clear hKK K
                              try simp only [Act.put, List.setIfInBounds_toArray, List.set_cons_zero, List.set_cons_succ]
                              exact final
                        · go_simp
                          refine hKK.out _ _ trivial (fun _ => ?_)
                          clear hKK K
                          try simp only [Act.put, List.setIfInBounds_toArray, List.set_cons_zero, List.set_cons_succ]
                          refine wpAnyH_ready (rs := [8, 19]) (by kernel_rfl) (by simp) ?_
                          refine AllReadyH.cons rfl (fun K hKK => ?_) (AllReadyH.cons rfl (fun K hKK => ?_) AllReadyH.nil)
                          · go_simp
                            refine hKK.out _ _ trivial (fun _ => ?_)
                            clear hKK K
                            try simp only [Act.put, List.setIfInBounds_toArray, List.set_cons_zero, List.set_cons_succ]
                            refine wpAnyH_ready (rs := [19]) (by kernel_rfl) (by simp) ?_
                            refine AllReadyH.cons rfl (fun K hKK => ?_) AllReadyH.nil
                            · go_simp
                              refine hKK.out _ _ trivial (fun _ => ?_)
                              clear hKK K
                              try simp only [Act.put, List.setIfInBounds_toArray, List.set_cons_zero, List.set_cons_succ]
                              exact final
                          · go_simp
                            refine hKK.out _ _ trivial (fun _ => ?_)
                            clear hKK K
                            try simp only [Act.put, List.setIfInBounds_toArray, List.set_cons_zero, List.set_cons_succ]
                            refine wpAnyH_ready (rs := [8]) (by kernel_rfl) (by simp) ?_
                            refine AllReadyH.cons rfl (fun K hKK => ?_) AllReadyH.nil
                            · go_simp
                              refine hKK.out _ _ trivial (fun _ => ?_)
                              clear hKK K
                              try simp only [Act.put, List.setIfInBounds_toArray, List.set_cons_zero, List.set_cons_succ]
                              exact final
                        · go_simp
                          refine hKK.out _ _ trivial (fun _ => ?_)
                          clear hKK K
                          try simp only [Act.put, List.setIfInBounds_toArray, List.set_cons_zero, List.set_cons_succ]
                          refine wpAnyH_ready (rs := [8, 12]) (by kernel_rfl) (by simp) ?_
                          refine AllReadyH.cons rfl (fun K hKK => ?_) (AllReadyH.cons rfl (fun K hKK => ?_) AllReadyH.nil)
                          · go_simp
                            refine hKK.out _ _ trivial (fun _ => ?_)
                            clear hKK K
                            try simp only [Act.put, List.setIfInBounds_toArray, List.set_cons_zero, List.set_cons_succ]
                            refine wpAnyH_ready (rs := [12]) (by kernel_rfl) (by simp) ?_
                            refine AllReadyH.cons rfl (fun K hKK => ?_) AllReadyH.nil
                            · go_simp
                              refine hKK.out _ _ trivial (fun _ => ?_)
                              clear hKK K
                              try simp only [Act.put, List.setIfInBounds_toArray, List.set_cons_zero, List.set_cons_succ]
                              exact final
                          · go_simp
                            refine hKK.out _ _ trivial (fun _ => ?_)
                            clear hKK K
                            try simp only [Act.put, List.setIfInBounds_toArray, List.set_cons_zero, List.set_cons_succ]
                            refine wpAnyH_ready (rs := [8]) (by kernel_rfl) (by simp) ?_
                            refine AllReadyH.cons rfl (fun K hKK => ?_) AllReadyH.nil
                            · go_simp
                              refine hKK.out _ _ trivial (fun _ => ?_)
                              clear hKK K
                              try simp only [Act.put, List.setIfInBounds_toArray, List.set_cons_zero, List.set_cons_succ]
                              exact final
                      · go_simp
                        refine hKK.out _ _ trivial (fun _ => ?_)
                        clear hKK K
                        try simp only [Act.put, List.setIfInBounds_toArray, List.set_cons_zero, List.set_cons_succ]
                        refine wpAnyH_ready (rs := [8, 12, 15]) (by kernel_rfl) (by simp) ?_
                        refine AllReadyH.cons rfl (fun K hKK => ?_) (AllReadyH.cons rfl (fun K hKK => ?_) (AllReadyH.cons rfl (fun K hKK => ?_) AllReadyH.nil))
                        · go_simp
                          refine hKK.out _ _ trivial (fun _ => ?_)
                          clear hKK K
                          try simp only [Act.put, List.setIfInBounds_toArray, List.set_cons_zero, List.set_cons_succ]
                          refine wpAnyH_ready (rs := [12, 15]) (by kernel_rfl) (by simp) ?_
                          refine AllReadyH.cons rfl (fun K hKK => ?_) (AllReadyH.cons rfl (fun K hKK => ?_) AllReadyH.nil)
                          · go_simp
                            refine hKK.out _ _ trivial (fun _ => ?_)
                            clear hKK K
                            try simp only [Act.put, List.setIfInBounds_toArray, List.set_cons_zero, List.set_cons_succ]
                            refine wpAnyH_ready (rs := [15]) (by kernel_rfl) (by simp) ?_
                            refine AllReadyH.cons rfl (fun K hKK => ?_) AllReadyH.nil
                            · go_simp
                              refine hKK.out _ _ trivial (fun _ => ?_)
                              clear hKK K
                              try simp only [Act.put, List.setIfInBounds_toArray, List.set_cons_zero, List.set_cons_succ]
                              exact final
                          · go_simp
                            refine hKK.out _ _ trivial (fun _ => ?_)
                            clear hKK K
                            try simp only [Act.put, List.setIfInBounds_toArray, List.set_cons_zero, List.set_cons_succ]
                            refine wpAnyH_ready (rs := [12]) (by kernel_rfl) (by simp) ?_
                            refine AllReadyH.cons rfl (fun K hKK => ?_) AllReadyH.nil
                            · go_simp
                              refine hKK.out _ _ trivial (fun _ => ?_)
                              clear hKK K
                              try simp only [Act.put, List.setIfInBounds_toArray, List.set_cons_zero, List.set_cons_succ]
                              exact final
                        · go_simp
                          refine hKK.out _ _ trivial (fun _ => ?_)
                          clear hKK K
                          try simp only [Act.put, List.setIfInBounds_toArray, List.set_cons_zero, List.set_cons_succ]
                          refine wpAnyH_ready (rs := [8, 15]) (by kernel_rfl) (by simp) ?_
                          refine AllReadyH.cons rfl (fun K hKK => ?_) (AllReadyH.cons rfl (fun K hKK => ?_) AllReadyH.nil)
                          · go_simp
                            refine hKK.out _ _ trivial (fun _ => ?_)
                            clear hKK K
                            try simp only [Act.put, List.setIfInBounds_toArray, List.set_cons_zero, List.set_cons_succ]
                            refine wpAnyH_ready (rs := [15]) (by kernel_rfl) (by simp) ?_
                            refine AllReadyH.cons rfl (fun K hKK => ?_) AllReadyH.nil
                            · go_simp
                              refine hKK.out _ _ trivial (fun _ => ?_)
                              clear hKK K
                              try simp only [Act.put, List.setIfInBounds_toArray, List.set_cons_zero, List.set_cons_succ]
                              exact final
                          · go_simp
                            refine hKK.out _ _ trivial (fun _ => ?_)
                            clear hKK K
                            try simp only [Act.put, List.setIfInBounds_toArray, List.set_cons_zero, List.set_cons_succ]
                            refine wpAnyH_ready (rs := [8]) (by kernel_rfl) (by simp) ?_
                            refine AllReadyH.cons rfl (fun K hKK => ?_) AllReadyH.nil
                            · go_simp
                              refine hKK.out _ _ trivial (fun _ => ?_)
                              clear hKK K
                              try simp only [Act.put, List.setIfInBounds_toArray, List.set_cons_zero, List.set_cons_succ]
                              exact final
                        · go_simp
                          refine hKK.out _ _ trivial (fun _ => ?_)
                          clear hKK K
                          try simp only [Act.put, List.setIfInBounds_toArray, List.set_cons_zero, List.set_cons_succ]
                          refine wpAnyH_ready (rs := [8, 12]) (by kernel_rfl) (by simp) ?_
                          refine AllReadyH.cons rfl (fun K hKK => ?_) (AllReadyH.cons rfl (fun K hKK => ?_) AllReadyH.nil)
                          · go_simp
                            refine hKK.out _ _ trivial (fun _ => ?_)
                            clear hKK K
                            try simp only [Act.put, List.setIfInBounds_toArray, List.set_cons_zero, List.set_cons_succ]
                            refine wpAnyH_ready (rs := [12]) (by kernel_rfl) (by simp) ?_
                            refine AllReadyH.cons rfl (fun K hKK => ?_) AllReadyH.nil
                            · go_simp
                              refine hKK.out _ _ trivial (fun _ => ?_)
                              clear hKK K
                              try simp only [Act.put, List.setIfInBounds_toArray, List.set_cons_zero, List.set_cons_succ]
                              exact final
                          · go_simp
                            refine hKK.out _ _ trivial (fun _ => ?_)
                            clear hKK K
                            try simp only [Act.put, List.setIfInBounds_toArray, List.set_cons_zero, List.set_cons_succ]
                            refine wpAnyH_ready (rs := [8]) (by kernel_rfl) (by simp) ?_
                            refine AllReadyH.cons rfl (fun K hKK => ?_) AllReadyH.nil
                            · go_simp
                              refine hKK.out _ _ trivial (fun _ => ?_)
                              clear hKK K
                              try simp only [Act.put, List.setIfInBounds_toArray, List.set_cons_zero, List.set_cons_succ]
                              exact final
                    refine wpAnyH_ready (rs := [22]) (by kernel_rfl) (by simp) ?_
                    refine AllReadyH.cons rfl (fun K hKK => ?_) AllReadyH.nil
                    go_simp
                    go_at_call 101
                    refine (HQU.out _).mono ?_
                    rintro e zq ⟨rfl, rfl⟩
                    refine hKK.out _ _ trivial (fun hHeld => ?_)
                    clear hKK K
                    try simp only [Act.put, List.setIfInBounds_toArray, List.set_cons_zero, List.set_cons_succ]
                    refine held_take 23 (some 85) (v := ?_) rfl rfl (by kernel_rfl) (by kernel_rfl) (by kernel_rfl) (fun _ _ _ h => h) (Or.inl ⟨by rfl, ?_⟩) hHeld ?_
                    rotate_left
                    · (intro w' hSw; clear hSw; go_simp; try with_reducible rfl)
                    try simp only [Act.put, List.setIfInBounds_toArray, List.set_cons_zero, List.set_cons_succ]
                    refine held_take 24 (some 109) (v := ?_) rfl rfl (by kernel_rfl) (by kernel_rfl) (by kernel_rfl) (fun _ _ _ h => h) (Or.inl ⟨by rfl, ?_⟩) hHeld ?_
                    rotate_left
                    · (intro w' hSw; clear hSw; go_simp; try with_reducible rfl)
                    try simp only [Act.put, List.setIfInBounds_toArray, List.set_cons_zero, List.set_cons_succ]
                    refine held_take 25 (some 110) (v := ?_) rfl rfl (by kernel_rfl) (by kernel_rfl) (by kernel_rfl) (fun _ _ _ h => h) (Or.inl ⟨by rfl, ?_⟩) hHeld ?_
                    rotate_left
                    · (intro w' hSw; clear hSw; go_simp; try with_reducible rfl)
                    try simp only [Act.put, List.setIfInBounds_toArray, List.set_cons_zero, List.set_cons_succ]
                    refine held_take 26 (some 111) (v := ?_) rfl rfl (by kernel_rfl) (by kernel_rfl) (by kernel_rfl) (fun _ _ _ h => h) (Or.inl ⟨by rfl, ?_⟩) hHeld ?_
                    rotate_left
                    · (intro w' hSw; clear hSw; go_simp; try with_reducible rfl)
                    try simp only [Act.put, List.setIfInBounds_toArray, List.set_cons_zero, List.set_cons_succ]
                    refine held_take 27 (some 112) (v := ?_) rfl rfl (by kernel_rfl) (by kernel_rfl) (by kernel_rfl) (fun _ _ _ h => h) (Or.inl ⟨by rfl, ?_⟩) hHeld ?_
                    rotate_left
                    · (intro w' hSw; clear hSw; go_simp; try with_reducible rfl)
                    try simp only [Act.put, List.setIfInBounds_toArray, List.set_cons_zero, List.set_cons_succ]
                    refine held_take 28 (some 113) (v := ?_) rfl rfl (by kernel_rfl) (by kernel_rfl) (by kernel_rfl) (fun _ _ _ h => h) (Or.inl ⟨by rfl, ?_⟩) hHeld ?_
                    rotate_left
                    · (intro w' hSw; clear hSw; go_simp; try with_reducible rfl)
                    try simp only [Act.put, List.setIfInBounds_toArray, List.set_cons_zero, List.set_cons_succ]
                    refine wpAnyH_ready (rs := [29]) (by kernel_rfl) (by simp) ?_
                    refine AllReadyH.cons rfl (fun K hKK => ?_) AllReadyH.nil
                    go_simp
                    refine hKK.out _ _ trivial (fun hHeld => ?_)
                    clear hKK K
                    try simp only [Act.put, List.setIfInBounds_toArray, List.set_cons_zero, List.set_cons_succ]
                    refine held_take 30 (some 114) (v := ?_) rfl rfl (by kernel_rfl) (by kernel_rfl) (by kernel_rfl) (fun _ _ _ h => h) (Or.inl ⟨by rfl, ?_⟩) hHeld ?_
                    rotate_left
                    · (intro w' hSw; clear hSw; go_simp; try with_reducible rfl)
                    try simp only [Act.put, List.setIfInBounds_toArray, List.set_cons_zero, List.set_cons_succ]
                    refine wpAnyH_ready (rs := [31]) (by kernel_rfl) (by simp) ?_
                    refine AllReadyH.cons rfl (fun K hKK => ?_) AllReadyH.nil
                    go_simp
                    refine hKK.out _ _ trivial (fun hHeld => ?_)
                    clear hKK K
                    try simp only [Act.put, List.setIfInBounds_toArray, List.set_cons_zero, List.set_cons_succ]
                    refine held_take 32 (some 115) (v := ?_) rfl rfl (by kernel_rfl) (by kernel_rfl) (by kernel_rfl) (fun _ _ _ h => h) (Or.inl ⟨by rfl, ?_⟩) hHeld ?_
                    rotate_left
                    · (intro w' hSw; clear hSw; go_simp; try with_reducible rfl)
                    try simp only [Act.put, List.setIfInBounds_toArray, List.set_cons_zero, List.set_cons_succ]
                    refine wpAnyH_ready (rs := [33]) (by kernel_rfl) (by simp) ?_
                    refine AllReadyH.cons rfl (fun K hKK => ?_) AllReadyH.nil
                    go_simp
                    refine hKK.out _ _ trivial (fun hHeld => ?_)
                    clear hKK K
                    try simp only [Act.put, List.setIfInBounds_toArray, List.set_cons_zero, List.set_cons_succ]
                    refine held_take 34 (some 116) (v := ?_) rfl rfl (by kernel_rfl) (by kernel_rfl) (by kernel_rfl) (fun _ _ _ h => h) (Or.inl ⟨by rfl, ?_⟩) hHeld ?_
                    rotate_left
                    · (intro w' hSw; clear hSw; go_simp; try with_reducible rfl)
                    try simp only [Act.put, List.setIfInBounds_toArray, List.set_cons_zero, List.set_cons_succ]
                    refine wpAnyH_ready (rs := [35]) (by kernel_rfl) (by simp) ?_
                    refine AllReadyH.cons rfl (fun K hKK => ?_) AllReadyH.nil
                    go_simp
                    refine hKK.out _ _ trivial (fun hHeld => ?_)
                    clear hKK K
                    try simp only [Act.put, List.setIfInBounds_toArray, List.set_cons_zero, List.set_cons_succ]
                    refine wpAnyH_done (by kernel_rfl) ?_ _
                    clear hwr htn
                    go_wp2_with fail
                    go_roundg (4 - (t + 1))
                    case measure => omega
                    case rel => exact ⟨t + 1, by go_num, by omega, HM.out.drew⟩
                · have ht4 : t = 4 := by omega
                  subst ht4
                  clear hlt2 ht
                  go_wp2_with fail
                  go_loopg [118] 4 (fun kq v118 w' => ∃ t : Nat, v118 = .int .i64 (t : Int) ∧ t + kq = 4 ∧ Po w w' g gm gv gw go hs rs n M (stepsF M r (4 + t) V) (oS r (2 * (4 + t))))
                  case atStart => exact ⟨0, rfl, by omega, HP5.out⟩
                  case round =>
                    obtain ⟨t, rfl, ht, hP⟩ := hrel
                    have HP5 := Lib.hid hP
                    clear hP
                    by_cases hlt2 : t < 4
                    · have t1 : (t : Int) < 4 := by omega
                      have t0 : (0 : Int) ≤ (t : Int) := by omega
                      obtain ⟨bN, hbN⟩ : ∃ z, z = 4 + (t + 1) % 4 := ⟨_, rfl⟩
                      obtain ⟨cN, hcN⟩ : ∃ z, z = (t + 2) % 4 := ⟨_, rfl⟩
                      obtain ⟨dN, hdN⟩ : ∃ z, z = 4 + (t + 3) % 4 := ⟨_, rfl⟩
                      have HBN := Lib.hid (show (4 : Int) + ((t : Int) + 1) % 4 = (bN : Int) by omega)
                      have HCN := Lib.hid (show ((t : Int) + 2) % 4 = (cN : Int) by omega)
                      have HDN := Lib.hid (show (4 : Int) + ((t : Int) + 3) % 4 = (dN : Int) by omega)
                      have hb8 : bN < 8 := by omega
                      have hc8 : cN < 8 := by omega
                      have hd8 : dN < 8 := by omega
                      have htb : t ≠ bN := by omega
                      have hbt : bN ≠ t := by omega
                      have hcd : cN ≠ dN := by omega
                      have hdc : dN ≠ cN := by omega
                      have HST := Lib.hid (show stepsF M r (4 + (t + 1)) V = mixL (stepsF M r (4 + t) V) t bN (8 + cN) (8 + dN) (M.getD (nib r (2 * (4 + t))) 0) (M.getD (nib r (2 * (4 + t) + 1)) 0) by
                        have e1 : ia (4 + t) = t := by unfold ia; omega
                        have e2 : ib (4 + t) = bN := by unfold ib; omega
                        have e3 : ic (4 + t) = 8 + cN := by unfold ic; omega
                        have e4 : id4 (4 + t) = 8 + dN := by unfold id4; omega
                        show mixL (stepsF M r (4 + t) V) (ia (4 + t)) (ib (4 + t)) (ic (4 + t)) (id4 (4 + t)) (M.getD (nib r (2 * (4 + t))) 0) (M.getD (nib r (2 * (4 + t) + 1)) 0) = _
                        rw [e1, e2, e3, e4])
                      have HN1 := Lib.hid (next_any gm go (oS r (2 * (4 + t))) M wr HP5.out.p.z.m HP5.out.p.z.m16 HP5.out.o (oS_lt _ _))
                      have HQ1 := Lib.hid (HP5.out.next (oS r (2 * (4 + t) + 1)) ((oS r (2 * (4 + t)) * 16 % 18446744073709551616 : Nat) : Int) (by rw [oS_next]))
                      obtain ⟨x1, hx1⟩ : ∃ z, z = M.getD (nib r (2 * (4 + t))) 0 := ⟨_, rfl⟩
                      obtain ⟨x2, hx2⟩ : ∃ z, z = M.getD (nib r (2 * (4 + t) + 1)) 0 := ⟨_, rfl⟩
                      rw [← hx1, ← hx2] at HST
                      rw [show M.getD (oS r (2 * (4 + t)) / 1152921504606846976) 0 = x1 from hx1.symm] at HN1
                      have HX2 := Lib.hid hx2
                      clear hx1 hx2 hbN hcN hdN
                      obtain ⟨W, hW⟩ : ∃ z, z = stepsF M r (4 + t) V := ⟨_, rfl⟩
                      rw [← hW] at HST HQ1
                      clear hW HP5
                      go_upto_region 26 with (fail)
                      rw [HBN.out, HCN.out, HDN.out]
                      go_wp2_with fail
                      refine HN1.out.mono ?_
                      rintro e w6 ⟨rfl, hw6⟩
                      rw [← hw6] at HQ1
                      have HN2 := Lib.hid (next_any gm go (oS r (2 * (4 + t) + 1)) M w6 HQ1.out.p.z.m HQ1.out.p.z.m16 HQ1.out.o (oS_lt _ _))
                      have HQ2 := Lib.hid (HQ1.out.next (oS r (2 * (4 + (t + 1)))) ((oS r (2 * (4 + t) + 1) * 16 % 18446744073709551616 : Nat) : Int) (by rw [show 2 * (4 + (t + 1)) = (2 * (4 + t) + 1) + 1 from by omega]; exact congrArg (fun z : Nat => (z : Int)) (oS_next r (2 * (4 + t) + 1)).symm))
                      rw [show M.getD (oS r (2 * (4 + t) + 1) / 1152921504606846976) 0 = x2 from HX2.out.symm] at HN2
                      clear hw6 HN1
                      go_wp2_with fail
                      refine HN2.out.mono ?_
                      rintro e w7 ⟨rfl, hw7⟩
                      rw [← hw7] at HQ2
                      clear hw7 HN2
                      have c1 := HQ2.out.cv t (by omega)
                      have c2 := HQ2.out.cv bN hb8
                      have c3 := HQ2.out.cw cN hc8
                      have c4 := HQ2.out.cw dN hd8
                      have f1 := free_row HQ2.out.p.v t
                      have f2 := free_row HQ2.out.p.v bN
                      have f3 := free_row HQ2.out.p.w cN
                      have f4 := free_row HQ2.out.p.w dN
                      obtain ⟨Q, hQ⟩ : ∃ z, z = quarter (W.getD t 0) (W.getD bN 0) (W.getD (8 + cN) 0) (W.getD (8 + dN) 0) x1 x2 := ⟨_, rfl⟩
                      have HQU := Lib.hid (fun w => quarter_any (W.getD t 0) (W.getD bN 0) (W.getD (8 + cN) 0) (W.getD (8 + dN) 0) x1 x2 w (HQ2.out.vU _) (HQ2.out.vU _) (HQ2.out.vU _) (HQ2.out.vU _))
                      rw [← hQ] at HQU
                      have HM := Lib.hid (HQ2.out.mixed t bN cN dN x1 x2 (by omega) hb8 Q hQ)
                      rw [← HST.out] at HM
                      have hne := HQ2.out.p.ne.1
                      clear hQ
                      generalize W.getD t 0 = ya at *
                      generalize W.getD bN 0 = yb at *
                      generalize W.getD (8 + cN) 0 = yc at *
                      generalize W.getD (8 + dN) 0 = yd at *
                      obtain ⟨qa, qb, qc, qd⟩ := Q
                      have t8 : (t : Int) < 8 := by omega
                      have t9 : (bN : Int) < 8 := by omega
                      have t10 : (cN : Int) < 8 := by omega
                      have t11 : (dN : Int) < 8 := by omega
                      go_upto_region 27 with (fail)
                      as_aux_lemma =>
                        refine wp_region_held_drew (S := fun _ => True) (by kernel_rfl) trivial (fun hHeld => ?_)
                        refine held_take 0 (some 137) (v := ?_) rfl rfl (by kernel_rfl) (by kernel_rfl) (by kernel_rfl) (fun _ _ _ h => h) (Or.inl ⟨by rfl, ?_⟩) hHeld ?_
                        rotate_left
                        · (intro w' hSw; clear hSw; go_simp; try with_reducible rfl)
                        try simp only [Act.put, List.setIfInBounds_toArray, List.set_cons_zero, List.set_cons_succ]
                        refine held_take 1 (some 138) (v := ?_) rfl rfl (by kernel_rfl) (by kernel_rfl) (by kernel_rfl) (fun _ _ _ h => h) (Or.inl ⟨by rfl, ?_⟩) hHeld ?_
                        rotate_left
                        · (intro w' hSw; clear hSw; go_simp; try with_reducible rfl)
                        try simp only [Act.put, List.setIfInBounds_toArray, List.set_cons_zero, List.set_cons_succ]
                        refine held_take 2 (some 139) (v := ?_) rfl rfl (by kernel_rfl) (by kernel_rfl) (by kernel_rfl) (fun _ _ _ h => h) (Or.inl ⟨by rfl, ?_⟩) hHeld ?_
                        rotate_left
                        · (intro w' hSw; clear hSw; go_simp; try with_reducible rfl)
                        try simp only [Act.put, List.setIfInBounds_toArray, List.set_cons_zero, List.set_cons_succ]
                        refine held_take 3 (some 140) (v := ?_) rfl rfl (by kernel_rfl) (by kernel_rfl) (by kernel_rfl) (fun _ _ _ h => h) (Or.inl ⟨by rfl, ?_⟩) hHeld ?_
                        rotate_left
                        · (intro w' hSw; clear hSw; go_simp; try with_reducible rfl)
                        try simp only [Act.put, List.setIfInBounds_toArray, List.set_cons_zero, List.set_cons_succ]
                        refine held_take 4 (some 141) (v := ?_) rfl rfl (by kernel_rfl) (by kernel_rfl) (by kernel_rfl) (fun _ _ _ h => h) (Or.inl ⟨by rfl, ?_⟩) hHeld ?_
                        rotate_left
                        · (intro w' hSw; clear hSw; go_simp; try with_reducible rfl)
                        try simp only [Act.put, List.setIfInBounds_toArray, List.set_cons_zero, List.set_cons_succ]
                        refine held_take 5 (some 142) (v := ?_) rfl rfl (by kernel_rfl) (by kernel_rfl) (by kernel_rfl) (fun _ _ _ h => h) (Or.inl ⟨by rfl, ?_⟩) hHeld ?_
                        rotate_left
                        · (intro w' hSw; clear hSw; go_simp; try with_reducible rfl)
                        try simp only [Act.put, List.setIfInBounds_toArray, List.set_cons_zero, List.set_cons_succ]
                        refine held_take 7 (some 144) (v := ?_) rfl rfl (by kernel_rfl) (by kernel_rfl) (by kernel_rfl) (fun _ _ _ h => h) (Or.inl ⟨by rfl, ?_⟩) hHeld ?_
                        rotate_left
                        · (intro w' hSw; clear hSw; go_simp; try with_reducible rfl)
                        try simp only [Act.put, List.setIfInBounds_toArray, List.set_cons_zero, List.set_cons_succ]
                        refine held_take 8 (some 145) (v := ?_) rfl rfl (by kernel_rfl) (by kernel_rfl) (by kernel_rfl) (fun _ _ _ h => h) (Or.inl ⟨by rfl, ?_⟩) hHeld ?_
                        rotate_left
                        · (intro w' hSw; clear hSw; go_simp; try with_reducible rfl)
                        try simp only [Act.put, List.setIfInBounds_toArray, List.set_cons_zero, List.set_cons_succ]
                        refine held_take 10 (some 147) (v := ?_) rfl rfl (by kernel_rfl) (by kernel_rfl) (by kernel_rfl) (fun _ _ _ h => h) (Or.inl ⟨by rfl, ?_⟩) hHeld ?_
                        rotate_left
                        · (intro w' hSw; clear hSw; go_simp; try with_reducible rfl)
                        try simp only [Act.put, List.setIfInBounds_toArray, List.set_cons_zero, List.set_cons_succ]
                        refine held_take 11 (some 148) (v := ?_) rfl rfl (by kernel_rfl) (by kernel_rfl) (by kernel_rfl) (fun _ _ _ h => h) (Or.inl ⟨by rfl, ?_⟩) hHeld ?_
                        rotate_left
                        · (intro w' hSw; clear hSw; go_simp; try with_reducible rfl)
                        try simp only [Act.put, List.setIfInBounds_toArray, List.set_cons_zero, List.set_cons_succ]
                        refine held_take 13 (some 150) (v := ?_) rfl rfl (by kernel_rfl) (by kernel_rfl) (by kernel_rfl) (fun _ _ _ h => h) (Or.inl ⟨by rfl, ?_⟩) hHeld ?_
                        rotate_left
                        · (intro w' hSw; clear hSw; go_simp; try with_reducible rfl)
                        try simp only [Act.put, List.setIfInBounds_toArray, List.set_cons_zero, List.set_cons_succ]
                        refine held_take 14 (some 151) (v := ?_) rfl rfl (by kernel_rfl) (by kernel_rfl) (by kernel_rfl) (fun _ _ _ h => h) (Or.inl ⟨by rfl, ?_⟩) hHeld ?_
                        rotate_left
                        · (intro w' hSw; clear hSw; go_simp; try with_reducible rfl)
                        try simp only [Act.put, List.setIfInBounds_toArray, List.set_cons_zero, List.set_cons_succ]
                        refine held_take 16 (some 153) (v := ?_) rfl rfl (by kernel_rfl) (by kernel_rfl) (by kernel_rfl) (fun _ _ _ h => h) (Or.inl ⟨by rfl, ?_⟩) hHeld ?_
                        rotate_left
                        · (intro w' hSw; clear hSw; go_simp; try with_reducible rfl)
                        try simp only [Act.put, List.setIfInBounds_toArray, List.set_cons_zero, List.set_cons_succ]
                        refine held_take 17 (some 154) (v := ?_) rfl rfl (by kernel_rfl) (by kernel_rfl) (by kernel_rfl) (fun _ _ _ h => h) (Or.inl ⟨by rfl, ?_⟩) hHeld ?_
                        rotate_left
                        · (intro w' hSw; clear hSw; go_simp; try with_reducible rfl)
                        try simp only [Act.put, List.setIfInBounds_toArray, List.set_cons_zero, List.set_cons_succ]
                        apply shared
                        · intro final
                          refine wpAnyH_ready (rs := [6, 9, 12, 15]) (by kernel_rfl) (by simp) ?_
                          refine AllReadyH.cons rfl (fun K hKK => ?_) (AllReadyH.cons rfl (fun K hKK => ?_) (AllReadyH.cons rfl (fun K hKK => ?_) (AllReadyH.cons rfl (fun K hKK => ?_) AllReadyH.nil)))
                          · go_simp
                            refine hKK.out _ _ trivial (fun _ => ?_)
                            clear hKK K
                            try simp only [Act.put, List.setIfInBounds_toArray, List.set_cons_zero, List.set_cons_succ]
                            refine wpAnyH_ready (rs := [9, 12, 15]) (by kernel_rfl) (by simp) ?_
                            refine AllReadyH.cons rfl (fun K hKK => ?_) (AllReadyH.cons rfl (fun K hKK => ?_) (AllReadyH.cons rfl (fun K hKK => ?_) AllReadyH.nil))
                            · go_simp
                              refine hKK.out _ _ trivial (fun _ => ?_)
                              clear hKK K
                              try simp only [Act.put, List.setIfInBounds_toArray, List.set_cons_zero, List.set_cons_succ]
                              refine wpAnyH_ready (rs := [12, 15]) (by kernel_rfl) (by simp) ?_
                              refine AllReadyH.cons rfl (fun K hKK => ?_) (AllReadyH.cons rfl (fun K hKK => ?_) AllReadyH.nil)
                              · go_simp
                                refine hKK.out _ _ trivial (fun _ => ?_)
                                clear hKK K
                                try simp only [Act.put, List.setIfInBounds_toArray, List.set_cons_zero, List.set_cons_succ]
                                refine wpAnyH_ready (rs := [15]) (by kernel_rfl) (by simp) ?_
                                refine AllReadyH.cons rfl (fun K hKK => ?_) AllReadyH.nil
                                · go_simp
                                  refine hKK.out _ _ trivial (fun _ => ?_)
                                  clear hKK K
                                  try simp only [Act.put, List.setIfInBounds_toArray, List.set_cons_zero, List.set_cons_succ]
                                  exact final
                              · go_simp
                                refine hKK.out _ _ trivial (fun _ => ?_)
                                clear hKK K
                                try simp only [Act.put, List.setIfInBounds_toArray, List.set_cons_zero, List.set_cons_succ]
                                refine wpAnyH_ready (rs := [12]) (by kernel_rfl) (by simp) ?_
                                refine AllReadyH.cons rfl (fun K hKK => ?_) AllReadyH.nil
                                · go_simp
                                  refine hKK.out _ _ trivial (fun _ => ?_)
                                  clear hKK K
                                  try simp only [Act.put, List.setIfInBounds_toArray, List.set_cons_zero, List.set_cons_succ]
                                  exact final
                            · go_simp
                              refine hKK.out _ _ trivial (fun _ => ?_)
                              clear hKK K
                              try simp only [Act.put, List.setIfInBounds_toArray, List.set_cons_zero, List.set_cons_succ]
                              refine wpAnyH_ready (rs := [9, 15]) (by kernel_rfl) (by simp) ?_
                              refine AllReadyH.cons rfl (fun K hKK => ?_) (AllReadyH.cons rfl (fun K hKK => ?_) AllReadyH.nil)
                              · go_simp
                                refine hKK.out _ _ trivial (fun _ => ?_)
                                clear hKK K
                                try simp only [Act.put, List.setIfInBounds_toArray, List.set_cons_zero, List.set_cons_succ]
                                refine wpAnyH_ready (rs := [15]) (by kernel_rfl) (by simp) ?_
                                refine AllReadyH.cons rfl (fun K hKK => ?_) AllReadyH.nil
                                · go_simp
                                  refine hKK.out _ _ trivial (fun _ => ?_)
                                  clear hKK K
                                  try simp only [Act.put, List.setIfInBounds_toArray, List.set_cons_zero, List.set_cons_succ]
                                  exact final
                              · go_simp
                                refine hKK.out _ _ trivial (fun _ => ?_)
                                clear hKK K
                                try simp only [Act.put, List.setIfInBounds_toArray, List.set_cons_zero, List.set_cons_succ]
                                refine wpAnyH_ready (rs := [9]) (by kernel_rfl) (by simp) ?_
                                refine AllReadyH.cons rfl (fun K hKK => ?_) AllReadyH.nil
                                · go_simp
                                  refine hKK.out _ _ trivial (fun _ => ?_)
                                  clear hKK K
                                  try simp only [Act.put, List.setIfInBounds_toArray, List.set_cons_zero, List.set_cons_succ]
                                  exact final
                            · go_simp
                              refine hKK.out _ _ trivial (fun _ => ?_)
                              clear hKK K
                              try simp only [Act.put, List.setIfInBounds_toArray, List.set_cons_zero, List.set_cons_succ]
                              refine wpAnyH_ready (rs := [9, 12]) (by kernel_rfl) (by simp) ?_
                              refine AllReadyH.cons rfl (fun K hKK => ?_) (AllReadyH.cons rfl (fun K hKK => ?_) AllReadyH.nil)
                              · go_simp
                                refine hKK.out _ _ trivial (fun _ => ?_)
                                clear hKK K
                                try simp only [Act.put, List.setIfInBounds_toArray, List.set_cons_zero, List.set_cons_succ]
                                refine wpAnyH_ready (rs := [12]) (by kernel_rfl) (by simp) ?_
                                refine AllReadyH.cons rfl (fun K hKK => ?_) AllReadyH.nil
                                · go_simp
                                  refine hKK.out _ _ trivial (fun _ => ?_)
                                  clear hKK K
                                  try simp only [Act.put, List.setIfInBounds_toArray, List.set_cons_zero, List.set_cons_succ]
                                  exact final
                              · go_simp
                                refine hKK.out _ _ trivial (fun _ => ?_)
                                clear hKK K
                                try simp only [Act.put, List.setIfInBounds_toArray, List.set_cons_zero, List.set_cons_succ]
                                refine wpAnyH_ready (rs := [9]) (by kernel_rfl) (by simp) ?_
                                refine AllReadyH.cons rfl (fun K hKK => ?_) AllReadyH.nil
                                · go_simp
                                  refine hKK.out _ _ trivial (fun _ => ?_)
                                  clear hKK K
                                  try simp only [Act.put, List.setIfInBounds_toArray, List.set_cons_zero, List.set_cons_succ]
                                  exact final
                          · go_simp
                            refine hKK.out _ _ trivial (fun _ => ?_)
                            clear hKK K
                            try simp only [Act.put, List.setIfInBounds_toArray, List.set_cons_zero, List.set_cons_succ]
                            refine wpAnyH_ready (rs := [6, 12, 15]) (by kernel_rfl) (by simp) ?_
                            refine AllReadyH.cons rfl (fun K hKK => ?_) (AllReadyH.cons rfl (fun K hKK => ?_) (AllReadyH.cons rfl (fun K hKK => ?_) AllReadyH.nil))
                            · go_simp
                              refine hKK.out _ _ trivial (fun _ => ?_)
                              clear hKK K
                              try simp only [Act.put, List.setIfInBounds_toArray, List.set_cons_zero, List.set_cons_succ]
                              refine wpAnyH_ready (rs := [12, 15]) (by kernel_rfl) (by simp) ?_
                              refine AllReadyH.cons rfl (fun K hKK => ?_) (AllReadyH.cons rfl (fun K hKK => ?_) AllReadyH.nil)
                              · go_simp
                                refine hKK.out _ _ trivial (fun _ => ?_)
                                clear hKK K
                                try simp only [Act.put, List.setIfInBounds_toArray, List.set_cons_zero, List.set_cons_succ]
                                refine wpAnyH_ready (rs := [15]) (by kernel_rfl) (by simp) ?_
                                refine AllReadyH.cons rfl (fun K hKK => ?_) AllReadyH.nil
                                · go_simp
                                  refine hKK.out _ _ trivial (fun _ => ?_)
                                  clear hKK K
                                  try simp only [Act.put, List.setIfInBounds_toArray, List.set_cons_zero, List.set_cons_succ]
                                  exact final
                              · go_simp
                                refine hKK.out _ _ trivial (fun _ => ?_)
                                clear hKK K
                                try simp only [Act.put, List.setIfInBounds_toArray, List.set_cons_zero, List.set_cons_succ]
                                refine wpAnyH_ready (rs := [12]) (by kernel_rfl) (by simp) ?_
                                refine AllReadyH.cons rfl (fun K hKK => ?_) AllReadyH.nil
                                · go_simp
                                  refine hKK.out _ _ trivial (fun _ => ?_)
                                  clear hKK K
                                  try simp only [Act.put, List.setIfInBounds_toArray, List.set_cons_zero, List.set_cons_succ]
                                  exact final
                            · go_simp
                              refine hKK.out _ _ trivial (fun _ => ?_)
                              clear hKK K
                              try simp only [Act.put, List.setIfInBounds_toArray, List.set_cons_zero, List.set_cons_succ]
                              refine wpAnyH_ready (rs := [6, 15]) (by kernel_rfl) (by simp) ?_
                              refine AllReadyH.cons rfl (fun K hKK => ?_) (AllReadyH.cons rfl (fun K hKK => ?_) AllReadyH.nil)
                              · go_simp
                                refine hKK.out _ _ trivial (fun _ => ?_)
                                clear hKK K
                                try simp only [Act.put, List.setIfInBounds_toArray, List.set_cons_zero, List.set_cons_succ]
                                refine wpAnyH_ready (rs := [15]) (by kernel_rfl) (by simp) ?_
                                refine AllReadyH.cons rfl (fun K hKK => ?_) AllReadyH.nil
                                · go_simp
                                  refine hKK.out _ _ trivial (fun _ => ?_)
                                  clear hKK K
                                  try simp only [Act.put, List.setIfInBounds_toArray, List.set_cons_zero, List.set_cons_succ]
                                  exact final
                              · go_simp
                                refine hKK.out _ _ trivial (fun _ => ?_)
                                clear hKK K
                                try simp only [Act.put, List.setIfInBounds_toArray, List.set_cons_zero, List.set_cons_succ]
                                refine wpAnyH_ready (rs := [6]) (by kernel_rfl) (by simp) ?_
                                refine AllReadyH.cons rfl (fun K hKK => ?_) AllReadyH.nil
                                · go_simp
                                  refine hKK.out _ _ trivial (fun _ => ?_)
                                  clear hKK K
                                  try simp only [Act.put, List.setIfInBounds_toArray, List.set_cons_zero, List.set_cons_succ]
                                  exact final
                            · go_simp
                              refine hKK.out _ _ trivial (fun _ => ?_)
                              clear hKK K
                              try simp only [Act.put, List.setIfInBounds_toArray, List.set_cons_zero, List.set_cons_succ]
                              refine wpAnyH_ready (rs := [6, 12]) (by kernel_rfl) (by simp) ?_
                              refine AllReadyH.cons rfl (fun K hKK => ?_) (AllReadyH.cons rfl (fun K hKK => ?_) AllReadyH.nil)
                              · go_simp
                                refine hKK.out _ _ trivial (fun _ => ?_)
                                clear hKK K
                                try simp only [Act.put, List.setIfInBounds_toArray, List.set_cons_zero, List.set_cons_succ]
                                refine wpAnyH_ready (rs := [12]) (by kernel_rfl) (by simp) ?_
                                refine AllReadyH.cons rfl (fun K hKK => ?_) AllReadyH.nil
                                · go_simp
                                  refine hKK.out _ _ trivial (fun _ => ?_)
                                  clear hKK K
                                  try simp only [Act.put, List.setIfInBounds_toArray, List.set_cons_zero, List.set_cons_succ]
                                  exact final
                              · go_simp
                                refine hKK.out _ _ trivial (fun _ => ?_)
                                clear hKK K
                                try simp only [Act.put, List.setIfInBounds_toArray, List.set_cons_zero, List.set_cons_succ]
                                refine wpAnyH_ready (rs := [6]) (by kernel_rfl) (by simp) ?_
                                refine AllReadyH.cons rfl (fun K hKK => ?_) AllReadyH.nil
                                · go_simp
                                  refine hKK.out _ _ trivial (fun _ => ?_)
                                  clear hKK K
                                  try simp only [Act.put, List.setIfInBounds_toArray, List.set_cons_zero, List.set_cons_succ]
                                  exact final
                          · go_simp
                            refine hKK.out _ _ trivial (fun _ => ?_)
                            clear hKK K
                            try simp only [Act.put, List.setIfInBounds_toArray, List.set_cons_zero, List.set_cons_succ]
                            refine wpAnyH_ready (rs := [6, 9, 15]) (by kernel_rfl) (by simp) ?_
                            refine AllReadyH.cons rfl (fun K hKK => ?_) (AllReadyH.cons rfl (fun K hKK => ?_) (AllReadyH.cons rfl (fun K hKK => ?_) AllReadyH.nil))
                            · go_simp
                              refine hKK.out _ _ trivial (fun _ => ?_)
                              clear hKK K
                              try simp only [Act.put, List.setIfInBounds_toArray, List.set_cons_zero, List.set_cons_succ]
                              refine wpAnyH_ready (rs := [9, 15]) (by kernel_rfl) (by simp) ?_
                              refine AllReadyH.cons rfl (fun K hKK => ?_) (AllReadyH.cons rfl (fun K hKK => ?_) AllReadyH.nil)
                              · go_simp
                                refine hKK.out _ _ trivial (fun _ => ?_)
                                clear hKK K
                                try simp only [Act.put, List.setIfInBounds_toArray, List.set_cons_zero, List.set_cons_succ]
                                refine wpAnyH_ready (rs := [15]) (by kernel_rfl) (by simp) ?_
                                refine AllReadyH.cons rfl (fun K hKK => ?_) AllReadyH.nil
                                · go_simp
                                  refine hKK.out _ _ trivial (fun _ => ?_)
                                  clear hKK K
                                  try simp only [Act.put, List.setIfInBounds_toArray, List.set_cons_zero, List.set_cons_succ]
                                  exact final
                              · go_simp
                                refine hKK.out _ _ trivial (fun _ => ?_)
                                clear hKK K
                                try simp only [Act.put, List.setIfInBounds_toArray, List.set_cons_zero, List.set_cons_succ]
                                refine wpAnyH_ready (rs := [9]) (by kernel_rfl) (by simp) ?_
                                refine AllReadyH.cons rfl (fun K hKK => ?_) AllReadyH.nil
                                · go_simp
                                  refine hKK.out _ _ trivial (fun _ => ?_)
                                  clear hKK K
                                  try simp only [Act.put, List.setIfInBounds_toArray, List.set_cons_zero, List.set_cons_succ]
                                  exact final
                            · go_simp
                              refine hKK.out _ _ trivial (fun _ => ?_)
                              clear hKK K
                              try simp only [Act.put, List.setIfInBounds_toArray, List.set_cons_zero, List.set_cons_succ]
                              refine wpAnyH_ready (rs := [6, 15]) (by kernel_rfl) (by simp) ?_
                              refine AllReadyH.cons rfl (fun K hKK => ?_) (AllReadyH.cons rfl (fun K hKK => ?_) AllReadyH.nil)
                              · go_simp
                                refine hKK.out _ _ trivial (fun _ => ?_)
                                clear hKK K
                                try simp only [Act.put, List.setIfInBounds_toArray, List.set_cons_zero, List.set_cons_succ]
                                refine wpAnyH_ready (rs := [15]) (by kernel_rfl) (by simp) ?_
                                refine AllReadyH.cons rfl (fun K hKK => ?_) AllReadyH.nil
                                · go_simp
                                  refine hKK.out _ _ trivial (fun _ => ?_)
                                  clear hKK K
                                  try simp only [Act.put, List.setIfInBounds_toArray, List.set_cons_zero, List.set_cons_succ]
                                  exact final
                              · go_simp
                                refine hKK.out _ _ trivial (fun _ => ?_)
                                clear hKK K
                                try simp only [Act.put, List.setIfInBounds_toArray, List.set_cons_zero, List.set_cons_succ]
                                refine wpAnyH_ready (rs := [6]) (by kernel_rfl) (by simp) ?_
                                refine AllReadyH.cons rfl (fun K hKK => ?_) AllReadyH.nil
                                · go_simp
                                  refine hKK.out _ _ trivial (fun _ => ?_)
                                  clear hKK K
                                  try simp only [Act.put, List.setIfInBounds_toArray, List.set_cons_zero, List.set_cons_succ]
                                  exact final
                            · go_simp
                              refine hKK.out _ _ trivial (fun _ => ?_)
                              clear hKK K
                              try simp only [Act.put, List.setIfInBounds_toArray, List.set_cons_zero, List.set_cons_succ]
                              refine wpAnyH_ready (rs := [6, 9]) (by kernel_rfl) (by simp) ?_
                              refine AllReadyH.cons rfl (fun K hKK => ?_) (AllReadyH.cons rfl (fun K hKK => ?_) AllReadyH.nil)
                              · go_simp
                                refine hKK.out _ _ trivial (fun _ => ?_)
                                clear hKK K
                                try simp only [Act.put, List.setIfInBounds_toArray, List.set_cons_zero, List.set_cons_succ]
                                refine wpAnyH_ready (rs := [9]) (by kernel_rfl) (by simp) ?_
                                refine AllReadyH.cons rfl (fun K hKK => ?_) AllReadyH.nil
                                · go_simp
                                  refine hKK.out _ _ trivial (fun _ => ?_)
                                  clear hKK K
                                  try simp only [Act.put, List.setIfInBounds_toArray, List.set_cons_zero, List.set_cons_succ]
                                  exact final
                              · go_simp
                                refine hKK.out _ _ trivial (fun _ => ?_)
                                clear hKK K
                                try simp only [Act.put, List.setIfInBounds_toArray, List.set_cons_zero, List.set_cons_succ]
                                refine wpAnyH_ready (rs := [6]) (by kernel_rfl) (by simp) ?_
                                refine AllReadyH.cons rfl (fun K hKK => ?_) AllReadyH.nil
                                · go_simp
                                  refine hKK.out _ _ trivial (fun _ => ?_)
                                  clear hKK K
                                  try simp only [Act.put, List.setIfInBounds_toArray, List.set_cons_zero, List.set_cons_succ]
                                  exact final
                          · go_simp
                            refine hKK.out _ _ trivial (fun _ => ?_)
                            clear hKK K
                            try simp only [Act.put, List.setIfInBounds_toArray, List.set_cons_zero, List.set_cons_succ]
                            refine wpAnyH_ready (rs := [6, 9, 12]) (by kernel_rfl) (by simp) ?_
                            refine AllReadyH.cons rfl (fun K hKK => ?_) (AllReadyH.cons rfl (fun K hKK => ?_) (AllReadyH.cons rfl (fun K hKK => ?_) AllReadyH.nil))
                            · go_simp
                              refine hKK.out _ _ trivial (fun _ => ?_)
                              clear hKK K
                              try simp only [Act.put, List.setIfInBounds_toArray, List.set_cons_zero, List.set_cons_succ]
                              refine wpAnyH_ready (rs := [9, 12]) (by kernel_rfl) (by simp) ?_
                              refine AllReadyH.cons rfl (fun K hKK => ?_) (AllReadyH.cons rfl (fun K hKK => ?_) AllReadyH.nil)
                              · go_simp
                                refine hKK.out _ _ trivial (fun _ => ?_)
                                clear hKK K
                                try simp only [Act.put, List.setIfInBounds_toArray, List.set_cons_zero, List.set_cons_succ]
                                refine wpAnyH_ready (rs := [12]) (by kernel_rfl) (by simp) ?_
                                refine AllReadyH.cons rfl (fun K hKK => ?_) AllReadyH.nil
                                · go_simp
                                  refine hKK.out _ _ trivial (fun _ => ?_)
                                  clear hKK K
                                  try simp only [Act.put, List.setIfInBounds_toArray, List.set_cons_zero, List.set_cons_succ]
                                  exact final
                              · go_simp
                                refine hKK.out _ _ trivial (fun _ => ?_)
                                clear hKK K
                                try simp only [Act.put, List.setIfInBounds_toArray, List.set_cons_zero, List.set_cons_succ]
                                refine wpAnyH_ready (rs := [9]) (by kernel_rfl) (by simp) ?_
                                refine AllReadyH.cons rfl (fun K hKK => ?_) AllReadyH.nil
                                · go_simp
                                  refine hKK.out _ _ trivial (fun _ => ?_)
                                  clear hKK K
                                  try simp only [Act.put, List.setIfInBounds_toArray, List.set_cons_zero, List.set_cons_succ]
                                  exact final
                            · go_simp
                              refine hKK.out _ _ trivial (fun _ => ?_)
                              clear hKK K
                              try simp only [Act.put, List.setIfInBounds_toArray, List.set_cons_zero, List.set_cons_succ]
                              refine wpAnyH_ready (rs := [6, 12]) (by kernel_rfl) (by simp) ?_
                              refine AllReadyH.cons rfl (fun K hKK => ?_) (AllReadyH.cons rfl (fun K hKK => ?_) AllReadyH.nil)
                              · go_simp
                                refine hKK.out _ _ trivial (fun _ => ?_)
                                clear hKK K
                                try simp only [Act.put, List.setIfInBounds_toArray, List.set_cons_zero, List.set_cons_succ]
                                refine wpAnyH_ready (rs := [12]) (by kernel_rfl) (by simp) ?_
                                refine AllReadyH.cons rfl (fun K hKK => ?_) AllReadyH.nil
                                · go_simp
                                  refine hKK.out _ _ trivial (fun _ => ?_)
                                  clear hKK K
                                  try simp only [Act.put, List.setIfInBounds_toArray, List.set_cons_zero, List.set_cons_succ]
                                  exact final
                              · go_simp
                                refine hKK.out _ _ trivial (fun _ => ?_)
                                clear hKK K
                                try simp only [Act.put, List.setIfInBounds_toArray, List.set_cons_zero, List.set_cons_succ]
                                refine wpAnyH_ready (rs := [6]) (by kernel_rfl) (by simp) ?_
                                refine AllReadyH.cons rfl (fun K hKK => ?_) AllReadyH.nil
                                · go_simp
                                  refine hKK.out _ _ trivial (fun _ => ?_)
                                  clear hKK K
                                  try simp only [Act.put, List.setIfInBounds_toArray, List.set_cons_zero, List.set_cons_succ]
                                  exact final
                            · go_simp
                              refine hKK.out _ _ trivial (fun _ => ?_)
                              clear hKK K
                              try simp only [Act.put, List.setIfInBounds_toArray, List.set_cons_zero, List.set_cons_succ]
                              refine wpAnyH_ready (rs := [6, 9]) (by kernel_rfl) (by simp) ?_
                              refine AllReadyH.cons rfl (fun K hKK => ?_) (AllReadyH.cons rfl (fun K hKK => ?_) AllReadyH.nil)
                              · go_simp
                                refine hKK.out _ _ trivial (fun _ => ?_)
                                clear hKK K
                                try simp only [Act.put, List.setIfInBounds_toArray, List.set_cons_zero, List.set_cons_succ]
                                refine wpAnyH_ready (rs := [9]) (by kernel_rfl) (by simp) ?_
                                refine AllReadyH.cons rfl (fun K hKK => ?_) AllReadyH.nil
                                · go_simp
                                  refine hKK.out _ _ trivial (fun _ => ?_)
                                  clear hKK K
                                  try simp only [Act.put, List.setIfInBounds_toArray, List.set_cons_zero, List.set_cons_succ]
                                  exact final
                              · go_simp
                                refine hKK.out _ _ trivial (fun _ => ?_)
                                clear hKK K
                                try simp only [Act.put, List.setIfInBounds_toArray, List.set_cons_zero, List.set_cons_succ]
                                refine wpAnyH_ready (rs := [6]) (by kernel_rfl) (by simp) ?_
                                refine AllReadyH.cons rfl (fun K hKK => ?_) AllReadyH.nil
                                · go_simp
                                  refine hKK.out _ _ trivial (fun _ => ?_)
                                  clear hKK K
                                  try simp only [Act.put, List.setIfInBounds_toArray, List.set_cons_zero, List.set_cons_succ]
                                  exact final
                        refine wpAnyH_ready (rs := [18]) (by kernel_rfl) (by simp) ?_
                        refine AllReadyH.cons rfl (fun K hKK => ?_) AllReadyH.nil
                        go_simp
                        go_at_call 101
                        refine (HQU.out _).mono ?_
                        rintro e zq ⟨rfl, rfl⟩
                        refine hKK.out _ _ trivial (fun hHeld => ?_)
                        clear hKK K
                        try simp only [Act.put, List.setIfInBounds_toArray, List.set_cons_zero, List.set_cons_succ]
                        refine held_take 19 (some 136) (v := ?_) rfl rfl (by kernel_rfl) (by kernel_rfl) (by kernel_rfl) (fun _ _ _ h => h) (Or.inl ⟨by rfl, ?_⟩) hHeld ?_
                        rotate_left
                        · (intro w' hSw; clear hSw; go_simp; try with_reducible rfl)
                        try simp only [Act.put, List.setIfInBounds_toArray, List.set_cons_zero, List.set_cons_succ]
                        refine held_take 20 (some 156) (v := ?_) rfl rfl (by kernel_rfl) (by kernel_rfl) (by kernel_rfl) (fun _ _ _ h => h) (Or.inl ⟨by rfl, ?_⟩) hHeld ?_
                        rotate_left
                        · (intro w' hSw; clear hSw; go_simp; try with_reducible rfl)
                        try simp only [Act.put, List.setIfInBounds_toArray, List.set_cons_zero, List.set_cons_succ]
                        refine held_take 21 (some 157) (v := ?_) rfl rfl (by kernel_rfl) (by kernel_rfl) (by kernel_rfl) (fun _ _ _ h => h) (Or.inl ⟨by rfl, ?_⟩) hHeld ?_
                        rotate_left
                        · (intro w' hSw; clear hSw; go_simp; try with_reducible rfl)
                        try simp only [Act.put, List.setIfInBounds_toArray, List.set_cons_zero, List.set_cons_succ]
                        refine held_take 22 (some 158) (v := ?_) rfl rfl (by kernel_rfl) (by kernel_rfl) (by kernel_rfl) (fun _ _ _ h => h) (Or.inl ⟨by rfl, ?_⟩) hHeld ?_
                        rotate_left
                        · (intro w' hSw; clear hSw; go_simp; try with_reducible rfl)
                        try simp only [Act.put, List.setIfInBounds_toArray, List.set_cons_zero, List.set_cons_succ]
                        refine held_take 23 (some 159) (v := ?_) rfl rfl (by kernel_rfl) (by kernel_rfl) (by kernel_rfl) (fun _ _ _ h => h) (Or.inl ⟨by rfl, ?_⟩) hHeld ?_
                        rotate_left
                        · (intro w' hSw; clear hSw; go_simp; try with_reducible rfl)
                        try simp only [Act.put, List.setIfInBounds_toArray, List.set_cons_zero, List.set_cons_succ]
                        refine held_take 24 (some 160) (v := ?_) rfl rfl (by kernel_rfl) (by kernel_rfl) (by kernel_rfl) (fun _ _ _ h => h) (Or.inl ⟨by rfl, ?_⟩) hHeld ?_
                        rotate_left
                        · (intro w' hSw; clear hSw; go_simp; try with_reducible rfl)
                        try simp only [Act.put, List.setIfInBounds_toArray, List.set_cons_zero, List.set_cons_succ]
                        refine wpAnyH_ready (rs := [25]) (by kernel_rfl) (by simp) ?_
                        refine AllReadyH.cons rfl (fun K hKK => ?_) AllReadyH.nil
                        go_simp
                        refine hKK.out _ _ trivial (fun hHeld => ?_)
                        clear hKK K
                        try simp only [Act.put, List.setIfInBounds_toArray, List.set_cons_zero, List.set_cons_succ]
                        refine held_take 26 (some 161) (v := ?_) rfl rfl (by kernel_rfl) (by kernel_rfl) (by kernel_rfl) (fun _ _ _ h => h) (Or.inl ⟨by rfl, ?_⟩) hHeld ?_
                        rotate_left
                        · (intro w' hSw; clear hSw; go_simp; try with_reducible rfl)
                        try simp only [Act.put, List.setIfInBounds_toArray, List.set_cons_zero, List.set_cons_succ]
                        refine wpAnyH_ready (rs := [27]) (by kernel_rfl) (by simp) ?_
                        refine AllReadyH.cons rfl (fun K hKK => ?_) AllReadyH.nil
                        go_simp
                        refine hKK.out _ _ trivial (fun hHeld => ?_)
                        clear hKK K
                        try simp only [Act.put, List.setIfInBounds_toArray, List.set_cons_zero, List.set_cons_succ]
                        refine held_take 28 (some 162) (v := ?_) rfl rfl (by kernel_rfl) (by kernel_rfl) (by kernel_rfl) (fun _ _ _ h => h) (Or.inl ⟨by rfl, ?_⟩) hHeld ?_
                        rotate_left
                        · (intro w' hSw; clear hSw; go_simp; try with_reducible rfl)
                        try simp only [Act.put, List.setIfInBounds_toArray, List.set_cons_zero, List.set_cons_succ]
                        refine wpAnyH_ready (rs := [29]) (by kernel_rfl) (by simp) ?_
                        refine AllReadyH.cons rfl (fun K hKK => ?_) AllReadyH.nil
                        go_simp
                        refine hKK.out _ _ trivial (fun hHeld => ?_)
                        clear hKK K
                        try simp only [Act.put, List.setIfInBounds_toArray, List.set_cons_zero, List.set_cons_succ]
                        refine held_take 30 (some 163) (v := ?_) rfl rfl (by kernel_rfl) (by kernel_rfl) (by kernel_rfl) (fun _ _ _ h => h) (Or.inl ⟨by rfl, ?_⟩) hHeld ?_
                        rotate_left
                        · (intro w' hSw; clear hSw; go_simp; try with_reducible rfl)
                        try simp only [Act.put, List.setIfInBounds_toArray, List.set_cons_zero, List.set_cons_succ]
                        refine wpAnyH_ready (rs := [31]) (by kernel_rfl) (by simp) ?_
                        refine AllReadyH.cons rfl (fun K hKK => ?_) AllReadyH.nil
                        go_simp
                        refine hKK.out _ _ trivial (fun hHeld => ?_)
                        clear hKK K
                        try simp only [Act.put, List.setIfInBounds_toArray, List.set_cons_zero, List.set_cons_succ]
                        refine wpAnyH_done (by kernel_rfl) ?_ _
                        go_wp2_with fail
                        go_roundg (4 - (t + 1))
                        case measure => omega
                        case rel => exact ⟨t + 1, by go_num, by omega, HM.out.drew⟩
                    · have ht4 : t = 4 := by omega
                      subst ht4
                      have HEND := Lib.hid (show Pv w wr g gm gv gw hs rs n M ((roundsF M (r + 1) V0).take 8) ((roundsF M (r + 1) V0).drop 8) by rw [← HNX.out]; exact HP5.out.p)
                      clear hlt2 ht HP5
                      go_wp2_with fail
                      go_roundg (10 - (r + 1))
                      case measure => omega
                      case rel => exact ⟨r + 1, by go_num, by omega, HEND.out⟩
            · have hr10 : r = 10 := by omega
              subst hr10
              clear hlt hr
              obtain ⟨V, hV⟩ : ∃ z, z = roundsF M 10 V0 := ⟨_, rfl⟩
              rw [← hV] at HP4 HL4
              have HBF := Lib.hid (show blockF hs rs n last = xorS hs V 8 by rw [hV, HVE.out, HMM.out]; rfl)
              have HP6 := Lib.hid (show Pf w wr g gv gw hs rs n V from ⟨HP4.out.z.st, HP4.out.v, HP4.out.w, HL4.out, by have := HP4.out.z.glt; have := HP4.out.ge; omega, below_grown HP4.out.z.bel _⟩)
              have HG := Lib.hid HP4.out.z.glt
              clear hV HP4 HU4
              go_wp2_with fail
              go_loopg [166] 8 (fun kq v166 w' => ∃ i : Nat, v166 = .int .i64 (i : Int) ∧ i + kq = 8 ∧ Pf w w' g gv gw (xorS hs V i) rs n V)
              case atStart => exact ⟨0, rfl, by omega, HP6.out⟩
              case round =>
                obtain ⟨i, rfl, hi, hP⟩ := hrel
                have HP7 := Lib.hid hP
                by_cases hlt : i < 8
                · have c1 := hP.st.word i hlt
                  have c2 : wr.cell? ⟨gv, i, none⟩ = some (.int .u32 (V.getD i 0)) := by rw [cellW_of hP.v i (by rw [List.length_take, hP.v16]; omega), getD_take _ _ hlt]
                  have c3 : wr.cell? ⟨gw, i, none⟩ = some (.int .u32 (V.getD (8 + i) 0)) := by rw [cellW_of hP.vw i (by rw [List.length_drop, hP.v16]; omega), getD_drop]
                  have f1 := free_row hP.st.row i
                  have HN := Lib.hid (show Pf w _ g gv gw (xorS hs V (i + 1)) rs n V from hP.set i hlt (Go.bits .xor .u32 ((xorS hs V i).getD i 0) (Go.bits .xor .u32 (V.getD i 0) (V.getD (8 + i) 0))) (U_bits _ _ _))
                  have i0 : (0 : Int) ≤ (i : Int) := by omega
                  have i1 : (i : Int) < 8 := by omega
                  generalize (xorS hs V i).getD i 0 = x1 at *
                  generalize V.getD i 0 = x2 at *
                  generalize V.getD (8 + i) 0 = x3 at *
                  clear hP hlt
                  go_upto_region 33 with (fail)
                  go_region
                  go_wp2_with fail
                  go_roundg (8 - (i + 1))
                  case measure => omega
                  case rel => exact ⟨i + 1, by go_num, by omega, HN.out.drew⟩
                · have hi8 : i = 8 := by omega
                  subst hi8
                  clear hP hlt hi
                  go_wp2_with fail
                  go_end0
                  exact ⟨rfl, HP7.out.gr, by rw [HBF.out]; exact HP7.out.st⟩
end Go.Proofs.YtcklcffepedklaaGreat.Dg
