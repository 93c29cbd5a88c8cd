/- digest: the walk of a state's Sum. -/
import Derived.Test.YtehmnkkfoopanaaWrite
namespace Go.Proofs.Ytehmnkkfoopanaa
open Go.RowKit

theorem zeroCells_u8 (n : Nat) : (Builtin.zeroCells #[.int .u8 0] n).toList = (List.replicate n (0 : Int)).map (Value.int .u8) := by
  unfold Builtin.zeroCells
  rw [Array.toList_map]
  apply List.ext_getElem
  · simp
  · intro i h1 h2
    simp [Nat.mod_one]
theorem Try.info5 : (Try.prog.info? 5).map (fun i => (i.zero, i.size, i.bytes)) = some (some (.int .u8 0), 1, 1) := by kernel_rfl
theorem zero5 (w : World) : (zeroValue 5).run Try.prog w = .ok (.int .u8 0) w := by
  obtain ⟨i0, hi, hz0, _, _⟩ := info_parts Try.info5
  simp [zeroValue, typeInfo, hi, hz0]
/-- A row's end is cleared. -/
theorem run_clear (w : World) (ty : TypeId) (g o n c : Nat) (cur : Array Value) (t : TypeId) (hg : w.heap[g]? = some (.cells cur t (0, 0))) (hfit : o + n ≤ cur.size) :
    (Builtin.clear_ #[22] ty #[.slice (some ⟨g, o, none⟩) n c]).run Try.prog w = .ok (.tuple #[]) (w.setRow g (cur.toList.take o ++ (List.replicate n (0 : Int)).map (Value.int .u8) ++ cur.toList.drop (o + n)).toArray) := by
  cases n with
  | zero =>
    have e : (cur.toList.take o ++ (List.replicate 0 (0 : Int)).map (Value.int .u8) ++ cur.toList.drop (o + 0)).toArray = cur := by simp
    rw [e, setRow_self w g cur t (0, 0) hg]
    simp [Builtin.clear_, run_underlying Try.underlying22]
  | succ n =>
    have hst := run_storeCells_at Try.prog g o t ((List.replicate (n + 1) (0 : Int)).map (Value.int .u8)) 0 cur w hg (by simpa using hfit) (ints_one .u8 _)
    rw [← zeroCells_u8] at hst ⊢
    have hl : (Builtin.zeroCells #[Value.int .u8 0] (n + 1)).toList.length = n + 1 := by rw [zeroCells_u8]; simp
    rw [hl] at hst
    simp only [Nat.add_zero] at hst
    simp [Builtin.clear_, run_underlying Try.underlying22, Value.cells, hst]
theorem run_clear_none (w : World) (ty : TypeId) (A : Option Addr) (c : Nat) : (Builtin.clear_ #[22] ty #[.slice A 0 c]).run Try.prog w = .ok (.tuple #[]) w := by
  cases A <;> simp [Builtin.clear_, run_underlying Try.underlying22]
/-- The digest's bytes, laid one by one. -/
def dS (ws : List Int) : Nat → List Int
  | 0 => [0, 0, 0, 0, 0, 0, 0, 0, 0, 0, 0, 0, 0, 0, 0, 0, 0, 0, 0, 0, 0, 0, 0, 0, 0, 0, 0, 0, 0, 0, 0, 0]
  | i + 1 => (dS ws i).set i ((ws.getD (i / 4) 0 / 2 ^ (8 * (i % 4))) % 256)
theorem dS_length (ws : List Int) : ∀ i, (dS ws i).length = 32
  | 0 => rfl
  | i + 1 => by rw [dS, List.length_set]; exact dS_length ws i
theorem dS_get (ws : List Int) : ∀ i, i ≤ 32 → ∀ j, j < 32 → (dS ws i).getD j 0 = if j < i then (ws.getD (j / 4) 0 / 2 ^ (8 * (j % 4))) % 256 else 0
  | 0, _, j, hj => by
    have e : dS ws 0 = List.replicate 32 0 := rfl
    rw [e, List.getD_eq_getElem?_getD, List.getElem?_replicate, if_pos (by assumption)]
    simp
  | i + 1, hi, j, hj => by
    rw [dS, List.getD_eq_getElem?_getD, List.getElem?_set]
    by_cases e : i = j
    · subst e
      rw [if_pos rfl, if_pos (by rw [dS_length]; omega), if_pos (by omega)]; rfl
    · rw [if_neg e, ← List.getD_eq_getElem?_getD, dS_get ws i (by omega) j hj]
      by_cases h : j < i
      · rw [if_pos h, if_pos (by omega)]
      · rw [if_neg h, if_neg (by omega)]
theorem dS_32 (ws : List Int) : dS ws 32 = outF ws := by
  apply List.ext_getElem
  · rw [dS_length]; simp [outF]
  · intro j h1 h2
    rw [dS_length] at h1
    have := dS_get ws 32 (by omega) j h1
    rw [if_pos h1, List.getD_eq_getElem?_getD, List.getElem?_eq_getElem (by rw [dS_length]; exact h1)] at this
    simp only [Option.getD_some] at this
    rw [this]
    simp [outF]
theorem outF_length (ws : List Int) : (outF ws).length = 32 := by simp [outF]
theorem digestF_length (b : List Int) : (digestF b).length = 32 := outF_length _
theorem info24 (l : List Int) (h : l.length = 32) : (Try.prog.info? 24).map (·.size) = some (cellsOf l).size := by rw [cellsOf_size, h]; kernel_rfl
theorem Row.copy {w w' : World} {g gc n : Nat} {hs rs : List Int} (V : Row w g hs rs n) (h : w'.heap[gc]? = some (.cells (stC hs rs n) 49 (0, 0))) : Row w' gc hs rs n := ⟨h, V.h8, V.r64, V.hU, V.rB, V.lim⟩
theorem stC_one (hs rs : List Int) (z : Int) : (stC hs rs z).all (·.oneCell') = true := by
  simp [stC, Value.oneCell']
/-- What is left of rest when its end was cleared. -/
theorem Row.cleared {w : World} {g n k : Nat} {hs rs : List Int} (V : Row w g hs rs n) (hk : k ≤ 64) :
    Row (w.setRow g ((stC hs rs n).toList.take (8 + k) ++ (List.replicate (64 - k) (0 : Int)).map (Value.int .u8) ++ (stC hs rs n).toList.drop (8 + k + (64 - k))).toArray) g hs (rs.take k ++ List.replicate (64 - k) 0) n := by
  have e := stC_splice V.h8 V.r64 (List.replicate (64 - k) (0 : Int)) k (by simp; omega) n
  rw [List.length_map, List.length_replicate] at e
  have e2 : rs.drop (k + (64 - k)) = [] := List.drop_of_length_le (by rw [V.r64]; omega)
  rw [e2, List.append_nil] at e
  refine ⟨?_, V.h8, by simp [V.r64]; omega, V.hU, ?_, V.lim⟩
  · rw [← e]; exact setRow_heap _ _ _ _ _ _ V.row
  · exact (V.rB.take k).append (fun i => by rw [List.getD_eq_getElem?_getD, List.getElem?_replicate]; split <;> simp)

set_option maxRecDepth 20000 in
set_option maxHeartbeats 3200000 in
theorem Sum_any (g : Nat) (B : List Int) (w : World) (hS : St w g B) : Calls Try.prog 17 #[.pointer (some ⟨g, 0, none⟩)] w fun e w' => e = .returned (.agg (cellsOf (digestF B))) ∧ Below w.heap.size w w' := by
  obtain ⟨rs, R, er⟩ := hS.ex
  clear hS
  have hglt := row_lt R.row
  obtain ⟨N, hN⟩ : ∃ z, z = B.length := ⟨_, rfl⟩
  obtain ⟨hs, hhs⟩ : ∃ z, z = chain B (nb B.length) := ⟨_, rfl⟩
  have HDG := Lib.hid (show digestF B = outF (blockF hs (pad (B.drop (64 * nb N))) N true) by rw [hhs, hN]; rfl)
  rw [← hhs, ← hN] at R
  rw [← hN] at er
  have hk := heldN_le N
  have HPD := Lib.hid (show rs.take (heldN N) ++ List.replicate (64 - heldN N) 0 = pad (B.drop (64 * nb N)) by
    rw [er]
    unfold pad
    congr 2
    have := congrArg List.length er
    rw [List.length_take, R.r64] at this
    omega)
  clear hN hhs er
  have R0 := Lib.hid (show Rws w (w.alloc (.cells (cellsOf (dS hs 0)) 24)) [(w.heap.size, cellsOf (dS hs 0), 24)] by simpa using (Rws.start w).alloc (cellsOf (dS hs 0)) 24)
  have HR0 := Lib.hid (R.of_block (w' := w.alloc (.cells (cellsOf (dS hs 0)) 24)) (Below.heap_alloc _ _ _ hglt))
  have HGL := Lib.hid hglt
  go_enter Try.func17, Try.ntmps17
  go_upto_region 3 with (fail)
  obtain ⟨w1, hw1⟩ : ∃ z, z = w.alloc (.cells (cellsOf (dS hs 0)) 24) := ⟨_, rfl⟩
  obtain ⟨g2, hg2⟩ : ∃ z, z = w.heap.size := ⟨_, rfl⟩
  change Code.wp _ _ _ _ (w.alloc (.cells (cellsOf (dS hs 0)) 24))
  rw [← hw1, ← hg2] at R0 ⊢
  rw [← hw1] at HR0
  have HG2 := Lib.hid (show g < g2 by omega)
  clear hw1 hg2 hglt R
  have HI := Lib.hid (show (Try.prog.info? 49).map (·.size) = some (stC hs rs N).size by rw [stC_size HR0.out.h8 HR0.out.r64]; kernel_rfl)
  have HZS := Lib.hid (show (stC [0, 0, 0, 0, 0, 0, 0, 0] rep0 0).size = (stC hs rs N).size by rw [stC_size HR0.out.h8 HR0.out.r64]; rfl)
  obtain ⟨w2, hst, hgw2, hr2, _⟩ := store_new (P := Try.prog) w1 (stC [0, 0, 0, 0, 0, 0, 0, 0] rep0 0) (stC hs rs N) 49 HZS.out (stC_one _ _ _)
  have R1 := Lib.hid (show Rws w w2 [(g2, cellsOf (dS hs 0), 24), (w1.heap.size, stC hs rs N, 49)] from R0.out.alloced _ _ hgw2 hr2)
  obtain ⟨Z49, hZ⟩ : ∃ z, z = stC [0, 0, 0, 0, 0, 0, 0, 0] rep0 0 := ⟨_, rfl⟩
  have hz : ∀ W, (zeroValue 49).run Try.prog W = .ok (.agg Z49) W := fun W => by rw [hZ]; exact zero49 W
  have hzs : Z49.size = 73 := by rw [hZ]; rfl
  have hcs : (stC hs rs N).size = 73 := stC_size HR0.out.h8 HR0.out.r64 _
  rw [← hZ] at hst
  have HST := Lib.hid hst
  have HRC := Lib.hid (HR0.out.copy (w' := w2) hr2)
  clear hst hgw2 hr2 hZ
  go_upto_region 4 with (first | (with_reducible refine wpList_load_row rfl 49 _ rfl g rfl 49 (stC hs rs N) (0, 0) _ HR0.out.row Try.underlying49 rfl HI.out ?_) | (rw [HST.out]; simp only [Result.andThen_ok]))
  obtain ⟨gc, hgc⟩ : ∃ z, z = w1.heap.size := ⟨_, rfl⟩
  rw [← hgc] at R1 HRC ⊢
  have HH := Lib.hid (held_any HRC.out)
  have HCL := Lib.hid (fun (k : Nat) (hk : k ≤ 64) => run_clear w2 0 gc (8 + k) (64 - k) (64 - k) (stC hs rs N) 49 HRC.out.row (by rw [stC_size HRC.out.h8 HRC.out.r64]; omega))
  have HRD := Lib.hid (HRC.out.cleared hk)
  obtain ⟨k, hke⟩ : ∃ z, z = heldN N := ⟨_, rfl⟩
  rw [← hke] at HH HRD HPD hk
  rw [HPD.out] at HRD
  have HCK := Lib.hid (HCL.out k hk)
  have HSR := Lib.hid (fun (cs : Array Value) => R1.out.setRow 1 rfl cs)
  obtain ⟨w3, hw3⟩ : ∃ z, z = w2.setRow gc ((stC hs rs N).toList.take (8 + k) ++ (List.replicate (64 - k) (0 : Int)).map (Value.int .u8) ++ (stC hs rs N).toList.drop (8 + k + (64 - k))).toArray := ⟨_, rfl⟩
  rw [← hw3] at HRD HCK
  have R2 := Lib.hid (show Rws w w3 [(g2, cellsOf (dS hs 0), 24), (gc, ((stC hs rs N).toList.take (8 + k) ++ (List.replicate (64 - k) (0 : Int)).map (Value.int .u8) ++ (stC hs rs N).toList.drop (8 + k + (64 - k))).toArray, 49)] by rw [hw3]; exact HSR.out _)
  have hk3 : (k : Int) ≤ 64 := by omega
  clear hw3 hgc hke HCL HSR hz hzs hcs HST
  have HZZ := Lib.hid (run_clear_none w2 0 (some ⟨gc, 8, none⟩) 0)
  have HWW := Lib.hid (show k = 64 → w3 = w2 from fun e => by
    have h1 := HCK.out
    subst e
    have h2 := run_clear_none w2 0 (some ⟨gc, 8 + 64, none⟩) 0
    have h3 := h1.symm.trans h2
    injection h3)
  go_cut [] (fun w' => w' = w3)
  case first =>
    by_cases hk64 : k = 64
    · have hww := HWW.out hk64
      subst hk64
      have HH2 := Lib.hid (show Calls Try.prog 22 #[.pointer (some ⟨gc, 0, none⟩)] w2 fun e w' => e = .returned (.int .i64 64) ∧ w2 = w' from HH.out)
      clear hk3 HH HCK HWW
      go_wp2_with fail
      refine HH2.out.mono ?_
      rintro e w9 ⟨rfl, rfl⟩
      go_wp2_with (rw [HZZ.out]; simp only [Result.andThen_ok])
      go_meet
      exact hww.symm
    · have hk4 : ¬ (64 : Int) = (k : Int) := by omega
      have hk5 : ¬ (k : Int) = 64 := by omega
      have hk6 : ¬ 64 = k := by omega
      clear HWW HZZ
      go_wp2_with fail
      refine HH.out.mono ?_
      rintro e w9 ⟨rfl, rfl⟩
      go_wp2_with (rw [HCK.out]; simp only [Result.andThen_ok])
      go_meet
      rfl
  case rest =>
  subst hcut
  go_wp2_with fail
  refine (press_any gc N hs _ true wc HRD.out).mono ?_
  rintro e w4 ⟨rfl, hg4, hR4⟩
  obtain ⟨ws, hws⟩ : ∃ z, z = blockF hs (pad (B.drop (64 * nb N))) N true := ⟨_, rfl⟩
  have HWS := Lib.hid hws
  rw [← hws] at hR4
  have R3 := Lib.hid (show Rws w (w4.alloc (.cells (cellsOf (dS ws 0)) 24)) [(g2, cellsOf (dS hs 0), 24), (gc, stC ws (pad (B.drop (64 * nb N))) N, 49), (w4.heap.size, cellsOf (dS ws 0), 24)] from (R2.out.change 1 rfl hg4 hR4.row).alloc (cellsOf (dS ws 0)) 24)
  have HU4 := Lib.hid hR4.hU
  have H84 := Lib.hid hR4.h8
  clear hws hg4 hR4 HRD HCK
  go_upto_region 7 with (fail)
  obtain ⟨w5, hw5⟩ : ∃ z, z = w4.alloc (.cells (cellsOf (dS ws 0)) 24) := ⟨_, rfl⟩
  obtain ⟨gd, hgd⟩ : ∃ z, z = w4.heap.size := ⟨_, rfl⟩
  change Code.wp _ _ _ _ (w4.alloc (.cells (cellsOf (dS ws 0)) 24))
  rw [← hw5, ← hgd] at R3 ⊢
  clear hw5 hgd
  go_wp2_with fail
  go_loopg [17] 32 (fun kq v17 w' => ∃ i : Nat, v17 = .int .i64 (i : Int) ∧ i + kq = 32 ∧ Rws w w' [(g2, cellsOf (dS hs 0), 24), (gc, stC ws (pad (B.drop (64 * nb N))) N, 49), (gd, cellsOf (dS ws i), 24)])
  case atStart => exact ⟨0, rfl, by omega, R3.out⟩
  case round =>
    obtain ⟨i, rfl, hi, hR⟩ := hrel
    have R4 := Lib.hid hR
    by_cases hlt : i < 32
    · have c1 : wr.cell? ⟨gc, i / 4, none⟩ = some (.int .u32 (ws.getD (i / 4) 0)) := by rw [cell_of_row _ _ _ _ _ _ (hR.at 1 rfl)]; exact stC_word H84.out _ (by omega) _
      have c2 : wr.cell? ⟨gd, i, none⟩ = some (.int .u8 ((dS ws i).getD i 0)) := by rw [cell_of_row _ _ _ _ _ _ (hR.at 2 rfl)]; exact cellsOf_get _ _ (by rw [dS_length]; exact hlt)
      have f1 := hR.f 2 rfl i
      have HN := Lib.hid (show Rws w (wr.setCell ⟨gd, i, none⟩ (.int .u8 ((ws.getD (i / 4) 0 / 2 ^ (8 * (i % 4))) % 256))) [(g2, cellsOf (dS hs 0), 24), (gc, stC ws (pad (B.drop (64 * nb N))) N, 49), (gd, cellsOf (dS ws (i + 1)), 24)] from hR.change 2 rfl (grown_setCell _ _ _ _) (by rw [setCell_row (hR.at 2 rfl), cellsOf_set]; rfl))
      obtain ⟨u0, u1⟩ := HU4.out (i / 4)
      have hand := and3 i (by omega)
      have i1 : (i : Int) < 32 := by omega
      have i0 : (0 : Int) ≤ (i : Int) := by omega
      have i2 : (0 : Int) ≤ (i : Int) / 4 := by omega
      have i3 : (i : Int) / 4 < 8 := by omega
      have i4 : (0 : Int) ≤ (i : Int) % 4 := by omega
      have i5 : (i : Int) % 4 < 4 := by omega
      generalize ws.getD (i / 4) 0 = x at *
      clear hR hlt
      go_wp2_with fail
      go_roundg (32 - (i + 1))
      case measure => omega
      case rel => exact ⟨i + 1, by go_num, by omega, HN.out⟩
    · have hi32 : i = 32 := by omega
      subst hi32
      rw [dS_32] at R4
      have HIZ := Lib.hid (info24 (outF ws) (outF_length ws))
      have HZ8 := Lib.hid (show (cellsOf (dS hs 0)).size = (cellsOf (outF ws)).size by rw [cellsOf_size, cellsOf_size, outF_length]; rfl)
      have hrow := Lib.hid (R4.out.at 2 rfl)
      have hrow2 := Lib.hid (R4.out.at 0 rfl)
      have R5 := Lib.hid (R4.out.setRow 0 rfl (cellsOf (outF ws)))
      have HDE := Lib.hid (show outF ws = digestF B by rw [HDG.out, HWS.out])
      clear hR hlt hi
      go_wp2_with (first | (with_reducible refine wpList_load_row rfl 24 _ rfl gd rfl 24 (cellsOf (outF ws)) (0, 0) _ hrow.out Try.underlying24 rfl HIZ.out ?_) | (with_reducible refine wpList_store_row rfl 24 _ _ rfl g2 (cellsOf (outF ws)) rfl rfl 24 (cellsOf (dS hs 0)) hrow2.out HIZ.out HZ8.out (cellsOf_one _) ?_))
      refine bodyPost_ret (results_cell rfl _ _ g2 24 (cellsOf (outF ws)) (0, 0) _ rfl (R5.out.at 0 rfl) Try.underlying24 rfl HIZ.out) rfl ?_
      exact ⟨by rw [← HDE.out], R5.out.bel⟩
end Go.Proofs.Ytehmnkkfoopanaa
