/- DigestParts: the walk. -/
import Derived.Test.YtehmnkkfoopanaaApart
namespace Go.Proofs.Ytehmnkkfoopanaa
open Go.RowKit

theorem below_tr {a b c : World} (h1 : Below a.heap.size a b) (h2 : Below b.heap.size b c) : Below a.heap.size a c := h1.trans (h2.mono h1.size)
theorem below_alloc (w : World) (o : Obj) : Below w.heap.size w (w.alloc o) := below_refl_grown (grown_alloc w o none)
theorem in_four {w : World} {b1 b2 b3 b4 : List Int} {q1 q2 q3 q4 c1 c2 c3 c4 : Nat} {A1 A2 A3 A4 : Option Addr} (h1 : b1.length = q1) (h2 : b2.length = q2) (h3 : b3.length = q3) (h4 : b4.length = q4) (k1 : q1 ≤ c1) (k2 : q2 ≤ c2) (k3 : q3 ≤ c3) (k4 : q4 ≤ c4)
    (hI1 : Ints .u8 w A1 b1) (hI2 : Ints .u8 w A2 b2) (hI3 : Ints .u8 w A3 b3) (hI4 : Ints .u8 w A4 b4) (e1 : Bytes b1) (e2 : Bytes b2) (e3 : Bytes b3) (e4 : Bytes b4) (t : TypeId) :
    InRows (w.alloc (.cells #[.slice A1 q1 c1, .slice A2 q2 c2, .slice A3 q3 c3, .slice A4 q4 c4] t)) (some ⟨w.heap.size, 0, none⟩) [b1, b2, b3, b4] := by
  have hc : ∀ i, (w.alloc (.cells #[.slice A1 q1 c1, .slice A2 q2 c2, .slice A3 q3 c3, .slice A4 q4 c4] t)).cell? ((⟨w.heap.size, 0, none⟩ : Addr).add i) = (#[.slice A1 q1 c1, .slice A2 q2 c2, .slice A3 q3 c3, .slice A4 q4 c4] : Array Value)[i]? := by
    intro i
    rw [show ((⟨w.heap.size, 0, none⟩ : Addr).add i) = ⟨w.heap.size, i, none⟩ by simp [Addr.add] <;> intro e <;> exact e.symm, cell_of_row _ _ _ _ _ _ (heap_alloc_last w _)]
  have hB := below_alloc w (.cells #[.slice A1 q1 c1, .slice A2 q2 c2, .slice A3 q3 c3, .slice A4 q4 c4] t)
  subst h1; subst h2; subst h3; subst h4
  intro i hi
  match i, hi with
  | 0, _ => exact ⟨_, A1, c1, rfl, by rw [hc]; rfl, k1, hI1.below hB, e1⟩
  | 1, _ => exact ⟨_, A2, c2, rfl, by rw [hc]; rfl, k2, hI2.below hB, e2⟩
  | 2, _ => exact ⟨_, A3, c3, rfl, by rw [hc]; rfl, k3, hI3.below hB, e3⟩
  | 3, _ => exact ⟨_, A4, c4, rfl, by rw [hc]; rfl, k4, hI4.below hB, e4⟩
theorem three_parts (b : List Int) (lo hi : Nat) (h : lo ≤ hi) : b.take lo ++ (b.drop lo).take (hi - lo) ++ b.drop hi = b := by
  have e : b.take lo ++ (b.drop lo).take (hi - lo) = b.take hi := by
    rw [← List.take_add]; congr 1; omega
  rw [e, List.take_append_drop]
/-- Sum of parts that were laid before. -/
theorem DSum_in {W W' : World} {A : Option Addr} {n c : Nat} {L : List (List Int)} {b D : List Int} (hI : InRows W A L) (hB : Below W.heap.size W W') (hn : L.length = n) (hnm : n < 4611686018427387904) (hnc : n ≤ c) (hf : L.flatten = b) (hl : b.length < 4611686018427387904) (hD : D = digestF b) :
    Calls Try.prog 9 #[.slice A n c] W' fun e w' => e = .returned (.agg (cellsOf D)) ∧ Below W'.heap.size W' w' := by
  subst hD
  rw [← hf] at hl ⊢
  exact DSum_any A n c L W' hn hnm hnc (hI.below hB) hl
theorem Sum_in {W W' : World} {g : Nat} {b D : List Int} (hS : St W g b) (hB : Below W.heap.size W W') (hD : D = digestF b) :
    Calls Try.prog 17 #[.pointer (some ⟨g, 0, none⟩)] W' fun e w' => e = .returned (.agg (cellsOf D)) ∧ Below W'.heap.size W' w' := by
  subst hD
  exact Sum_any g b W' (hS.of_block (hB.block g hS.lt))
/-- One state, and a row beside it. -/
structure Own (w0 w : World) (g : Nat) (B : List Int) : Prop where
  bel : Below w0.heap.size w0 w
  st : St w g B
  ge : w0.heap.size ≤ g
theorem Own.quiet {w0 w w' : World} {g : Nat} {B : List Int} (T : Own w0 w g B) (hb : Below w.heap.size w w') : Own w0 w' g B := ⟨below_tr T.bel hb, T.st.of_block (hb.block g T.st.lt), T.ge⟩
theorem Own.step {w0 w w' : World} {g : Nat} {B B' : List Int} (T : Own w0 w g B) (hg : w.grownBy w' (some g)) (hs : St w' g B') : Own w0 w' g B' := ⟨T.bel.grown hg T.bel.size (fun k hk => by injection hk with hk; rw [← hk]; exact T.ge), hs, T.ge⟩
theorem Own.tell {w0 w : World} {g q c : Nat} {B b : List Int} {A : Option Addr} (T : Own w0 w g B) (hq : b.length = q) (hqc : q ≤ c) (hb : Bytes b) (hI : Ints .u8 w0 A b) (hl : B.length + q < 4611686018427387904) :
    Calls Try.prog 16 #[.pointer (some ⟨g, 0, none⟩), .slice A q c] w fun e w' => e = .returned (.tuple #[]) ∧ w.grownBy w' (some g) ∧ Own w0 w' g (B ++ b) := by
  refine (Write_part T.st T.ge T.bel hq hqc hb hI hl).mono ?_
  rintro e w' ⟨rfl, hg, hs⟩
  exact ⟨rfl, hg, T.step hg hs⟩

set_option maxRecDepth 20000 in
set_option maxHeartbeats 3200000 in
theorem Parts_law (A : Option Addr) (c : Nat) (l : List Int) (x y : Int) (w : World) (hI : Ints .u8 w A l) (hb : Bytes l) (hc : l.length ≤ c) (hx0 : 0 ≤ x) (hx1 : x ≤ 18446744073709551615) (hy0 : 0 ≤ y) (hy1 : y ≤ 18446744073709551615) :
    Calls Try.prog 5 #[.slice A l.length c, .int .u64 x, .int .u64 y] w fun e w' => e = .returned (.bool true) ∧ Below w.heap.size w w' := by
  obtain ⟨n, hn⟩ : ∃ z, z = l.length := ⟨_, rfl⟩
  have HFEW := Lib.hid (fun W => few_any A n c W (by omega))
  obtain ⟨b, hbb⟩ : ∃ z, z = l.take 100000 := ⟨_, rfl⟩
  have hbl : b.length = min n 100000 := by rw [hbb, hn]; exact take_min _ _
  have HB := Lib.hid (show Bytes b by rw [hbb]; exact hb.take _)
  have HI := Lib.hid (show Ints .u8 w A b by rw [hbb]; exact hI.take _)
  rw [← hn]
  obtain ⟨q, hq⟩ : ∃ z, z = min n 100000 := ⟨_, rfl⟩
  rw [← hq] at HFEW hbl
  have HQ := Lib.hid hbl
  have HQC := Lib.hid (show q ≤ c by omega)
  have HQM := Lib.hid (show q ≤ 100000 by omega)
  have hxq : 0 ≤ x % ((q : Int) + 1) ∧ x % ((q : Int) + 1) < (q : Int) + 1 := ⟨Int.emod_nonneg _ (by omega), Int.emod_lt_of_pos _ (by omega)⟩
  have hyq : 0 ≤ y % ((q : Int) + 1) ∧ y % ((q : Int) + 1) < (q : Int) + 1 := ⟨Int.emod_nonneg _ (by omega), Int.emod_lt_of_pos _ (by omega)⟩
  obtain ⟨i, hi⟩ := Int.eq_ofNat_of_zero_le hxq.1
  obtain ⟨j, hj⟩ := Int.eq_ofNat_of_zero_le hyq.1
  obtain ⟨lo, hlo⟩ : ∃ z, z = min i j := ⟨_, rfl⟩
  obtain ⟨hh, hhi⟩ : ∃ z, z = max i j := ⟨_, rfl⟩
  have HXI := Lib.hid hi
  have HYJ := Lib.hid hj
  have HLO := Lib.hid (show min (i : Int) (j : Int) = (lo : Int) by omega)
  have HHI := Lib.hid (show max (i : Int) (j : Int) = (hh : Int) by omega)
  have HIJ := Lib.hid (show i ≤ q ∧ j ≤ q ∧ lo ≤ hh ∧ hh ≤ q by omega)
  clear hI hb hc hn hbb hbl hq hxq hyq hi hj hlo hhi
  go_enter Try.func5, Try.ntmps5
  go_wp2_with fail
  refine (shown_any w).mono ?_
  rintro e w1 ⟨rfl, hb1⟩
  go_wp2_with fail
  refine (HFEW.out _).mono ?_
  rintro e w1a ⟨rfl, rfl⟩
  have hqm := HQM.out
  have hxi := HXI.out
  have hyj := HYJ.out
  have hij := HIJ.out
  have hi1 : (i : Int) ≤ 100000 := by omega
  have hj1 : (j : Int) ≤ 100000 := by omega
  have hq1 : (q : Int) ≤ 100000 := by omega
  clear hij
  go_upto_region 3 with (fail)
  go_upto_region 4 with (go_region)
  have hl := HLO.out
  have hm := HHI.out
  clear hxi hyj hi1 hj1 hx0 hx1 hy0 hy1
  go_upto_region 5 with (fail)
  clear hl hm
  go_wp2_with fail
  refine (New_st _).mono ?_
  rintro e w2 ⟨g, rfl, hg2, hge2, hS2⟩
  have T2 := Lib.hid (show Own w w2 g [] from ⟨below_tr hb1.drew (below_refl_grown hg2), hS2, by have := hb1.size; have h2 : w1.heap.size ≤ g := hge2; omega⟩)
  clear hb1 hg2 hge2 hS2
  have hij := HIJ.out
  have hqc := HQC.out
  have k1 : lo ≤ c := by omega
  have k2 : hh ≤ c := by omega
  have k3 := hij.2.2.1
  have k4 := hij.2.2.2
  clear hij
  go_wp2_with fail
  refine (T2.out.tell (b := b.take lo) (by rw [List.length_take, HQ.out]; omega) k1 (HB.out.take lo) (HI.out.take lo) (by simp; omega)).mono ?_
  rintro e w3 ⟨rfl, -, T3'⟩
  have T3 := Lib.hid T3'
  rw [List.nil_append] at T3
  clear T3' T2
  go_wp2_with fail
  refine (Sum_any g _ _ T3.out.st).mono ?_
  rintro e w4 ⟨rfl, hb4⟩
  have T4 := Lib.hid (T3.out.quiet hb4)
  obtain ⟨D1, hD1⟩ : ∃ z, z = digestF (b.take lo) := ⟨_, rfl⟩
  obtain ⟨D2, hD2⟩ : ∃ z, z = digestF b := ⟨_, rfl⟩
  rw [← hD1]
  have HD1 := Lib.hid hD1
  have HD2 := Lib.hid hD2
  have HDL1 := Lib.hid (show D1.length = 32 by rw [hD1]; exact digestF_length _)
  have HDL2 := Lib.hid (show D2.length = 32 by rw [hD2]; exact digestF_length _)
  obtain ⟨w5, hst, hg5, hr5, _⟩ := store_new (P := Try.prog) w4 (cellsOf (dS [] 0)) (cellsOf D1) 24 (by rw [cellsOf_size, cellsOf_size, HDL1.out]; rfl) (cellsOf_one _)
  have HST := Lib.hid (show (storeCells ⟨w4.heap.size, 0, none⟩ (cellsOf D1).toList).run Try.prog (w4.alloc (.cells #[.int .u8 0, .int .u8 0, .int .u8 0, .int .u8 0, .int .u8 0, .int .u8 0, .int .u8 0, .int .u8 0, .int .u8 0, .int .u8 0, .int .u8 0, .int .u8 0, .int .u8 0, .int .u8 0, .int .u8 0, .int .u8 0, .int .u8 0, .int .u8 0, .int .u8 0, .int .u8 0, .int .u8 0, .int .u8 0, .int .u8 0, .int .u8 0, .int .u8 0, .int .u8 0, .int .u8 0, .int .u8 0, .int .u8 0, .int .u8 0, .int .u8 0, .int .u8 0] 24)) = .ok () w5 from hst)
  have T5 := Lib.hid (T4.out.quiet (below_refl_grown hg5))
  have hs : (cellsOf D1).size = 32 := by rw [cellsOf_size, HDL1.out]
  obtain ⟨g5, hg⟩ : ∃ z, z = w4.heap.size := ⟨_, rfl⟩
  rw [← hg] at hr5
  have HR5 := Lib.hid hr5
  have HNE := Lib.hid (show g5 ≠ g by have := T4.out.st.lt; omega)
  have HGE := Lib.hid hg
  clear hst hg5 hr5 hD1 hD2 hb4 T3 T4 hg
  go_upto_region 10 with (rw [HST.out]; simp only [Result.andThen_ok])
  rw [← HGE.out]
  clear HST hs HGE
  have HW := Lib.hid (fun A' c' (e : A' = slA A lo c) (e2 : c' = c - lo) => T5.out.tell (A := A') (b := (b.drop lo).take (hh - lo)) (q := hh - lo) (c := c') (by rw [List.length_take, List.length_drop, HQ.out]; omega) (by omega) ((HB.out.drop lo).take _) (by rw [e]; exact (HI.out.sl lo c (by rw [HQ.out]; exact hqc)).take _) (by rw [List.length_take]; omega))
  have hif : (if c = lo then A else Option.map (fun x => x.add lo) A) = slA A lo c := rfl
  go_cut [] (fun w' => Own w w' g (b.take lo ++ (b.drop lo).take (hh - lo)) ∧ w'.heap[g5]? = some (.cells (cellsOf D1) 24 (0, 0)))
  case first =>
    go_wp2_with fail
    all_goals
      refine (HW.out _ _ rfl rfl).mono ?_
      rintro e w6 ⟨rfl, hg6, T6⟩
      have T6 := Lib.hid (show Own w w6 g (b.take lo ++ (b.drop lo).take (hh - lo)) ∧ w6.heap[g5]? = some (.cells (cellsOf D1) 24 (0, 0)) from ⟨T6, (hg6.block g5 (row_lt HR5.out) (fun e => HNE.out (by injection e))).trans HR5.out⟩)
      clear hg6
      go_wp2_with fail
      go_meet
      exact T6.out
  case rest =>
  obtain ⟨T6', hr6⟩ := hcut
  have T6 := Lib.hid T6'
  have HR6 := Lib.hid hr6
  clear hif T6' hr6 HW T5 HR5
  go_upto_region 11 with (fail)
  have HW := Lib.hid (fun A' c' (e : A' = slA A hh c) (e2 : c' = c - hh) => T6.out.tell (A := A') (b := b.drop hh) (q := q - hh) (c := c') (by rw [List.length_drop, HQ.out]) (by omega) (HB.out.drop hh) (by rw [e]; exact HI.out.sl hh c (by rw [HQ.out]; exact hqc)) (by rw [List.length_append, List.length_take, List.length_take, List.length_drop]; omega))
  have hif : (if c = hh then A else Option.map (fun x => x.add hh) A) = slA A hh c := rfl
  go_cut [] (fun w' => Own w w' g b ∧ w'.heap[g5]? = some (.cells (cellsOf D1) 24 (0, 0)))
  case first =>
    go_wp2_with fail
    all_goals
      refine (HW.out _ _ rfl rfl).mono ?_
      rintro e w7 ⟨rfl, hg7, T7⟩
      rw [three_parts b lo hh k3] at T7
      have T7 := Lib.hid (show Own w w7 g b ∧ w7.heap[g5]? = some (.cells (cellsOf D1) 24 (0, 0)) from ⟨T7, (hg7.block g5 (row_lt HR6.out) (fun e => HNE.out (by injection e))).trans HR6.out⟩)
      clear hg7
      go_wp2_with fail
      go_meet
      exact T7.out
  case rest =>
  obtain ⟨T7', hr7⟩ := hcut
  obtain ⟨W, hW⟩ : ∃ z, z = wc := ⟨_, rfl⟩
  rw [← hW] at T7' hr7
  rw [← hW]
  clear hW
  have T7 := Lib.hid T7'
  have HR7 := Lib.hid hr7
  clear hif T7' hr7 HW T6 HR6
  go_upto_region 12 with (fail)
  have HS0L := Lib.hid (T7.out.st.lt)
  have HG5 := Lib.hid (row_lt HR7.out)
  have HRG := Lib.hid (rangeOf HR7.out)
  have HSZ := Lib.hid (info24' D1 HDL1.out)
  have HEQ1 := Lib.hid (fun w => (show (Op.equalIn 10000 24 (.agg (D1.map (Value.int .u8)).toArray) (.agg (cellsOf D1))).run Try.prog w = .ok true w from run_in24 w D1 HDL1.out))
  have HEQ2 := Lib.hid (fun w => run_in24 w D2 HDL2.out)
  have HF4 := Lib.hid (show [b.take lo, (b.drop lo).take (hh - lo), [], b.drop hh].flatten = b by
    simp only [List.flatten_cons, List.flatten_nil, List.nil_append, List.append_nil]
    rw [← List.append_assoc]; exact three_parts b lo hh k3)
  have HF1 := Lib.hid (show [b].flatten = b by simp)
  have HFL := Lib.hid (show [b.take lo].flatten = b.take lo by simp)
  have HIW := Lib.hid (HI.out.below T7.out.bel)
  have HBL := Lib.hid (show b.length < 4611686018427387904 by have := HQM.out; rw [HQ.out]; omega)
  have HBL1 := Lib.hid (show (b.take lo).length < 4611686018427387904 by have := HBL.out; rw [List.length_take]; omega)
  refine wp_region_held_drew (S := fun w' => Below W.heap.size W w') (by kernel_rfl) ((Below.refl _ _).drew) (fun hHeld => ?_)
  obtain ⟨V0, hV0⟩ : ∃ z, z = W.drew := ⟨_, rfl⟩
  have HSV0 := Lib.hid (show Below W.heap.size W V0 by rw [hV0]; exact (Below.refl _ _).drew)
  rw [← hV0] at hHeld ⊢
  clear hV0
  refine held_take 0 (some 59) (v := ?_) rfl rfl (by kernel_rfl) (by kernel_rfl) (by kernel_rfl) (fun _ _ _ h => h) (Or.inl ⟨by rfl, ?_⟩) hHeld ?_
  rotate_left
  · (intro w' hSw; clear hSw; go_simp; try with_reducible rfl)
  try simp only [Act.put, List.setIfInBounds_toArray, List.set_cons_zero, List.set_cons_succ]
  refine held_take 1 (some 60) (v := ?_) rfl rfl (by kernel_rfl) (by kernel_rfl) (by kernel_rfl) (fun _ _ _ h => h) (Or.inl ⟨by rfl, ?_⟩) hHeld ?_
  rotate_left
  · (intro w' hSw; clear hSw; go_simp; try with_reducible rfl)
  try simp only [Act.put, List.setIfInBounds_toArray, List.set_cons_zero, List.set_cons_succ]
  refine held_take 2 (some 61) (v := ?_) rfl rfl (by kernel_rfl) (by kernel_rfl) (by kernel_rfl) (fun _ _ _ h => h) (Or.inl ⟨by rfl, ?_⟩) hHeld ?_
  rotate_left
  · (intro w' hSw; clear hSw; go_simp; try with_reducible rfl)
  try simp only [Act.put, List.setIfInBounds_toArray, List.set_cons_zero, List.set_cons_succ]
  refine held_take 3 (some 62) (v := ?_) rfl rfl (by kernel_rfl) (by kernel_rfl) (by kernel_rfl) (fun _ _ _ h => h) (Or.inl ⟨by rfl, ?_⟩) hHeld ?_
  rotate_left
  · (intro w' hSw; clear hSw; go_simp; try with_reducible rfl)
  try simp only [Act.put, List.setIfInBounds_toArray, List.set_cons_zero, List.set_cons_succ]
  refine held_take 5 (some 64) (v := ?_) rfl rfl (by kernel_rfl) (by kernel_rfl) (by kernel_rfl) (fun _ _ _ h => h) (Or.inl ⟨by rfl, ?_⟩) hHeld ?_
  rotate_left
  · (intro w' hSw; clear hSw; go_simp; try with_reducible rfl)
  try simp only [Act.put, List.setIfInBounds_toArray, List.set_cons_zero, List.set_cons_succ]
  refine held_take 6 (some 65) (v := ?_) rfl rfl (by kernel_rfl) (by kernel_rfl) (by kernel_rfl) (fun _ _ _ h => h) (Or.inl ⟨by rfl, ?_⟩) hHeld ?_
  rotate_left
  · (intro w' hSw; clear hSw; go_simp; try with_reducible rfl)
  try simp only [Act.put, List.setIfInBounds_toArray, List.set_cons_zero, List.set_cons_succ]
  refine held_take 7 (some 66) (v := ?_) rfl rfl (by kernel_rfl) (by kernel_rfl) (by kernel_rfl) (fun _ _ _ h => h) (Or.inl ⟨by rfl, ?_⟩) hHeld ?_
  rotate_left
  · (intro w' hSw; clear hSw; go_simp; try with_reducible rfl)
  try simp only [Act.put, List.setIfInBounds_toArray, List.set_cons_zero, List.set_cons_succ]
  refine held_take 9 (some 68) (v := ?_) rfl rfl (by kernel_rfl) (by kernel_rfl) (by kernel_rfl) (fun _ _ _ h => h) (Or.inl ⟨by rfl, ?_⟩) hHeld ?_
  rotate_left
  · (intro w' hSw; clear hSw; go_simp; try with_reducible rfl)
  try simp only [Act.put, List.setIfInBounds_toArray, List.set_cons_zero, List.set_cons_succ]
  refine held_take 10 (some 69) (v := ?_) rfl rfl (by kernel_rfl) (by kernel_rfl) (by kernel_rfl) (fun _ _ _ h => h) (Or.inl ⟨by rfl, ?_⟩) hHeld ?_
  rotate_left
  · (intro w' hSw; clear hSw; go_simp; try with_reducible rfl)
  try simp only [Act.put, List.setIfInBounds_toArray, List.set_cons_zero, List.set_cons_succ]
  refine held_take 14 (some 73) (v := ?_) rfl rfl (by kernel_rfl) (by kernel_rfl) (by kernel_rfl) (fun _ _ _ h => h) (Or.inl ⟨by rfl, ?_⟩) hHeld ?_
  rotate_left
  · (intro w' hSw; clear hSw; go_simp; try with_reducible rfl)
  try simp only [Act.put, List.setIfInBounds_toArray, List.set_cons_zero, List.set_cons_succ]
  refine held_take 4 (some 63) (v := .slice A lo c) rfl rfl (by kernel_rfl) (by kernel_rfl) (by kernel_rfl) (fun _ _ _ h => h) (Or.inl ⟨by rfl, by intro w' hSw; clear hSw; go_simp; first | done | exact ⟨rfl, rfl⟩ | rfl⟩) hHeld ?_
  try simp only [Act.put, List.setIfInBounds_toArray, List.set_cons_zero, List.set_cons_succ]
  refine held_take 8 (some 67) (v := .slice (slA A lo c) (hh - lo) (c - lo)) rfl rfl (by kernel_rfl) (by kernel_rfl) (by kernel_rfl) (fun _ _ _ h => h) (Or.inl ⟨by rfl, by intro w' hSw; clear hSw; go_simp; first | done | exact ⟨rfl, rfl⟩ | rfl⟩) hHeld ?_
  try simp only [Act.put, List.setIfInBounds_toArray, List.set_cons_zero, List.set_cons_succ]
  refine held_take 11 (some 70) (v := .slice (slA A hh c) (q - hh) (c - hh)) rfl rfl (by kernel_rfl) (by kernel_rfl) (by kernel_rfl) (fun _ _ _ h => h) (Or.inl ⟨by rfl, by intro w' hSw; clear hSw; go_simp; first | done | exact ⟨rfl, rfl⟩ | rfl⟩) hHeld ?_
  try simp only [Act.put, List.setIfInBounds_toArray, List.set_cons_zero, List.set_cons_succ]
  refine wpAnyH_ready (rs := [12, 15]) (by kernel_rfl) (by simp) ?_
  refine AllReadyH.cons rfl (fun K hKK => ?_) (AllReadyH.cons rfl (fun K hKK => ?_) AllReadyH.nil)
  · go_simp
    obtain ⟨V1, hV1⟩ : ∃ z, z = V0.alloc (.cells #[.slice A lo c, .slice (slA A lo c) (hh - lo) (c - lo), .slice none 0 0, .slice (slA A hh c) (q - hh) (c - hh)] 22) := ⟨_, rfl⟩
    have HIN12 := Lib.hid (show InRows V1 (some ⟨V0.heap.size, 0, none⟩) [b.take lo, (b.drop lo).take (hh - lo), [], b.drop hh] by rw [hV1]; exact in_four (by rw [List.length_take, HQ.out]; omega) (by rw [List.length_take, List.length_drop, HQ.out]; omega) rfl (by rw [List.length_drop, HQ.out]) k1 (by omega) (Nat.le_refl _) (by omega) ((HIW.out.below HSV0.out).take lo) (((HIW.out.below HSV0.out).sl lo c (by rw [HQ.out]; exact hqc)).take _) (Ints.nil _ _ _) ((HIW.out.below HSV0.out).sl hh c (by rw [HQ.out]; exact hqc)) (HB.out.take _) ((HB.out.drop _).take _) (fun i => by simp) (HB.out.drop _) 22)
    have HBV1 := Lib.hid (show Below V0.heap.size V0 V1 by rw [hV1]; exact below_alloc _ _)
    rw [← hV1]
    clear hV1
    have HSV1 := Lib.hid (below_tr HSV0.out HBV1.out)
    refine hKK.out _ _ HSV1.out (fun hHeld => ?_)
    clear hKK K
    try simp only [Act.put, List.setIfInBounds_toArray, List.set_cons_zero, List.set_cons_succ]
    refine wpAnyH_ready (rs := [13, 15]) (by kernel_rfl) (by simp) ?_
    refine AllReadyH.cons rfl (fun K hKK => ?_) (AllReadyH.cons rfl (fun K hKK => ?_) AllReadyH.nil)
    · go_simp
      go_at_call 9
      refine (DSum_in HIN12.out (Below.refl _ _) (n := 4) (c := 4) rfl (by decide) (by decide) HF4.out HBL.out HD2.out).mono ?_
      rintro e V2 ⟨rfl, hbV2⟩
      have HBV2 := Lib.hid hbV2
      clear hbV2
      have HSV2 := Lib.hid (below_tr HSV1.out HBV2.out)
      refine hKK.out _ _ HSV2.out (fun hHeld => ?_)
      clear hKK K
      try simp only [Act.put, List.setIfInBounds_toArray, List.set_cons_zero, List.set_cons_succ]
      refine wpAnyH_ready (rs := [15]) (by kernel_rfl) (by simp) ?_
      refine AllReadyH.cons rfl (fun K hKK => ?_) AllReadyH.nil
      go_simp
      obtain ⟨V3, hV3⟩ : ∃ z, z = V2.alloc (.cells #[.slice A q c] 22) := ⟨_, rfl⟩
      have HIN15 := Lib.hid (show InRows V3 (some ⟨V2.heap.size, 0, none⟩) [b] by rw [hV3]; exact in_one HQ.out hqc (HIW.out.below HSV2.out) HB.out 22)
      have HBV3 := Lib.hid (show Below V2.heap.size V2 V3 by rw [hV3]; exact below_alloc _ _)
      rw [← hV3]
      clear hV3
      have HSV3 := Lib.hid (below_tr HSV2.out HBV3.out)
      refine hKK.out _ _ HSV3.out (fun hHeld => ?_)
      clear hKK K
      try simp only [Act.put, List.setIfInBounds_toArray, List.set_cons_zero, List.set_cons_succ]
      refine wpAnyH_ready (rs := [16]) (by kernel_rfl) (by simp) ?_
      refine AllReadyH.cons rfl (fun K hKK => ?_) AllReadyH.nil
      go_simp
      go_at_call 9
      refine (DSum_in HIN15.out (Below.refl _ _) (n := 1) (c := 1) rfl (by decide) (by decide) HF1.out HBL.out HD2.out).mono ?_
      rintro e V4 ⟨rfl, hbV4⟩
      have HBV4 := Lib.hid hbV4
      clear hbV4
      have HSV4 := Lib.hid (below_tr HSV3.out HBV4.out)
      refine hKK.out _ _ HSV4.out (fun hHeld => ?_)
      clear hKK K
      try simp only [Act.put, List.setIfInBounds_toArray, List.set_cons_zero, List.set_cons_succ]
      refine held_take 17 (some 76) (v := ?_) rfl rfl (by kernel_rfl) (by kernel_rfl) (by kernel_rfl) (fun _ _ _ h => h) (Or.inl ⟨by rfl, ?_⟩) hHeld ?_
      rotate_left
      · (intro w' hSw; clear hSw; go_simp; rw [HEQ2.out]; go_simp; try with_reducible rfl)
      try simp only [Act.put, List.setIfInBounds_toArray, List.set_cons_zero, List.set_cons_succ]
      refine held_take 18 (some 77) (v := ?_) rfl rfl (by kernel_rfl) (by kernel_rfl) (by kernel_rfl) (fun _ _ _ h => h) (Or.inl ⟨by rfl, ?_⟩) hHeld ?_
      rotate_left
      · (intro w' hSw; clear hSw; go_simp; try with_reducible rfl)
      try simp only [Act.put, List.setIfInBounds_toArray, List.set_cons_zero, List.set_cons_succ]
      refine held_take 19 (some 78) (v := ?_) rfl rfl (by kernel_rfl) (by kernel_rfl) (by kernel_rfl) (fun _ _ _ h => h) (Or.inl ⟨by rfl, ?_⟩) hHeld ?_
      rotate_left
      · (intro w' hSw; clear hSw; go_simp; try with_reducible rfl)
      try simp only [Act.put, List.setIfInBounds_toArray, List.set_cons_zero, List.set_cons_succ]
      refine held_take 20 (some 79) (v := ?_) rfl rfl (by kernel_rfl) (by kernel_rfl) (by kernel_rfl) (fun _ _ _ h => h) (Or.inl ⟨by rfl, ?_⟩) hHeld ?_
      rotate_left
      · (intro w' hSw; clear hSw; go_simp; try with_reducible rfl)
      try simp only [Act.put, List.setIfInBounds_toArray, List.set_cons_zero, List.set_cons_succ]
      refine held_take 22 (some 81) (v := ?_) rfl rfl (by kernel_rfl) (by kernel_rfl) (by kernel_rfl) (fun _ _ _ h => h) (Or.inl ⟨by rfl, ?_⟩) hHeld ?_
      rotate_left
      · (intro w' hSw; clear hSw; go_simp; try with_reducible rfl)
      try simp only [Act.put, List.setIfInBounds_toArray, List.set_cons_zero, List.set_cons_succ]
      refine wpAnyH_ready (rs := [21, 23]) (by kernel_rfl) (by simp) ?_
      refine AllReadyH.cons rfl (fun K hKK => ?_) (AllReadyH.cons rfl (fun K hKK => ?_) AllReadyH.nil)
      · go_simp
        go_at_call 17
        refine (Sum_in (g := g) (b := b) T7.out.st HSV4.out HD2.out).mono ?_
        rintro e V5 ⟨rfl, hbV5⟩
        have HBV5 := Lib.hid hbV5
        clear hbV5
        have HSV5 := Lib.hid (below_tr HSV4.out HBV5.out)
        refine hKK.out _ _ HSV5.out (fun hHeld => ?_)
        clear hKK K
        try simp only [Act.put, List.setIfInBounds_toArray, List.set_cons_zero, List.set_cons_succ]
        refine wpAnyH_ready (rs := [23]) (by kernel_rfl) (by simp) ?_
        refine AllReadyH.cons rfl (fun K hKK => ?_) AllReadyH.nil
        go_simp
        obtain ⟨V6, hV6⟩ : ∃ z, z = V5.alloc (.cells #[.slice A q c] 22) := ⟨_, rfl⟩
        have HIN23 := Lib.hid (show InRows V6 (some ⟨V5.heap.size, 0, none⟩) [b] by rw [hV6]; exact in_one HQ.out hqc (HIW.out.below HSV5.out) HB.out 22)
        have HBV6 := Lib.hid (show Below V5.heap.size V5 V6 by rw [hV6]; exact below_alloc _ _)
        rw [← hV6]
        clear hV6
        have HSV6 := Lib.hid (below_tr HSV5.out HBV6.out)
        refine hKK.out _ _ HSV6.out (fun hHeld => ?_)
        clear hKK K
        try simp only [Act.put, List.setIfInBounds_toArray, List.set_cons_zero, List.set_cons_succ]
        refine wpAnyH_ready (rs := [24]) (by kernel_rfl) (by simp) ?_
        refine AllReadyH.cons rfl (fun K hKK => ?_) AllReadyH.nil
        go_simp
        go_at_call 9
        refine (DSum_in HIN23.out (Below.refl _ _) (n := 1) (c := 1) rfl (by decide) (by decide) HF1.out HBL.out HD2.out).mono ?_
        rintro e V7 ⟨rfl, hbV7⟩
        have HBV7 := Lib.hid hbV7
        clear hbV7
        have HSV7 := Lib.hid (below_tr HSV6.out HBV7.out)
        refine hKK.out _ _ HSV7.out (fun hHeld => ?_)
        clear hKK K
        try simp only [Act.put, List.setIfInBounds_toArray, List.set_cons_zero, List.set_cons_succ]
        refine held_take 25 (some 84) (v := ?_) rfl rfl (by kernel_rfl) (by kernel_rfl) (by kernel_rfl) (fun _ _ _ h => h) (Or.inl ⟨by rfl, ?_⟩) hHeld ?_
        rotate_left
        · (intro w' hSw; clear hSw; go_simp; rw [HEQ2.out]; go_simp; try with_reducible rfl)
        try simp only [Act.put, List.setIfInBounds_toArray, List.set_cons_zero, List.set_cons_succ]
        refine held_take 26 (some 85) (v := ?_) rfl rfl (by kernel_rfl) (by kernel_rfl) (by kernel_rfl) (fun _ _ _ h => h) (Or.inl ⟨by rfl, ?_⟩) hHeld ?_
        rotate_left
        · (intro w' hSw; clear hSw; go_simp; try with_reducible rfl)
        try simp only [Act.put, List.setIfInBounds_toArray, List.set_cons_zero, List.set_cons_succ]
        refine held_take 27 (some 86) (v := ?_) rfl rfl (by kernel_rfl) (by kernel_rfl) (by kernel_rfl) (fun _ _ _ h => h) (Or.inl ⟨by rfl, ?_⟩) hHeld ?_
        rotate_left
        · (intro w' hSw; clear hSw; go_simp; try with_reducible rfl)
        try simp only [Act.put, List.setIfInBounds_toArray, List.set_cons_zero, List.set_cons_succ]
        refine held_take 28 (some 87) (v := .agg ((D1.map (Value.int .u8))).toArray) rfl rfl (by kernel_rfl) (by kernel_rfl) (by kernel_rfl) (fun _ _ _ h => h) (yieldsIf_load_mid (by rfl) 24 _ rfl g5 (0) rfl ((D1.map (Value.int .u8))) _ (fun w' h => rangeAt_block HRG.out (h.block g5 HG5.out)) Try.underlying24 rfl HSZ.out) hHeld ?_
        try simp only [Act.put, List.setIfInBounds_toArray, List.set_cons_zero, List.set_cons_succ]
        refine held_take 29 (some 88) (v := ?_) rfl rfl (by kernel_rfl) (by kernel_rfl) (by kernel_rfl) (fun _ _ _ h => h) (Or.inl ⟨by rfl, ?_⟩) hHeld ?_
        rotate_left
        · (intro w' hSw; clear hSw; go_simp; try with_reducible rfl)
        try simp only [Act.put, List.setIfInBounds_toArray, List.set_cons_zero, List.set_cons_succ]
        refine held_take 30 (some 89) (v := ?_) rfl rfl (by kernel_rfl) (by kernel_rfl) (by kernel_rfl) (fun _ _ _ h => h) (Or.inl ⟨by rfl, ?_⟩) hHeld ?_
        rotate_left
        · (intro w' hSw; clear hSw; go_simp; try with_reducible rfl)
        try simp only [Act.put, List.setIfInBounds_toArray, List.set_cons_zero, List.set_cons_succ]
        refine held_take 31 (some 90) (v := .slice A lo c) rfl rfl (by kernel_rfl) (by kernel_rfl) (by kernel_rfl) (fun _ _ _ h => h) (Or.inl ⟨by rfl, by intro w' hSw; clear hSw; go_simp; first | done | exact ⟨rfl, rfl⟩ | rfl⟩) hHeld ?_
        try simp only [Act.put, List.setIfInBounds_toArray, List.set_cons_zero, List.set_cons_succ]
        refine wpAnyH_ready (rs := [32]) (by kernel_rfl) (by simp) ?_
        refine AllReadyH.cons rfl (fun K hKK => ?_) AllReadyH.nil
        go_simp
        obtain ⟨V8, hV8⟩ : ∃ z, z = V7.alloc (.cells #[.slice A lo c] 22) := ⟨_, rfl⟩
        have HIN32 := Lib.hid (show InRows V8 (some ⟨V7.heap.size, 0, none⟩) [b.take lo] by rw [hV8]; exact in_one (by rw [List.length_take, HQ.out]; omega) k1 ((HIW.out.below HSV7.out).take lo) (HB.out.take lo) 22)
        have HBV8 := Lib.hid (show Below V7.heap.size V7 V8 by rw [hV8]; exact below_alloc _ _)
        rw [← hV8]
        clear hV8
        have HSV8 := Lib.hid (below_tr HSV7.out HBV8.out)
        refine hKK.out _ _ HSV8.out (fun hHeld => ?_)
        clear hKK K
        try simp only [Act.put, List.setIfInBounds_toArray, List.set_cons_zero, List.set_cons_succ]
        refine wpAnyH_ready (rs := [33]) (by kernel_rfl) (by simp) ?_
        refine AllReadyH.cons rfl (fun K hKK => ?_) AllReadyH.nil
        go_simp
        go_at_call 9
        refine (DSum_in HIN32.out (Below.refl _ _) (n := 1) (c := 1) rfl (by decide) (by decide) HFL.out HBL1.out HD1.out).mono ?_
        rintro e V9 ⟨rfl, hbV9⟩
        have HBV9 := Lib.hid hbV9
        clear hbV9
        have HSV9 := Lib.hid (below_tr HSV8.out HBV9.out)
        refine hKK.out _ _ HSV9.out (fun hHeld => ?_)
        clear hKK K
        try simp only [Act.put, List.setIfInBounds_toArray, List.set_cons_zero, List.set_cons_succ]
        refine held_take 34 (some 93) (v := ?_) rfl rfl (by kernel_rfl) (by kernel_rfl) (by kernel_rfl) (fun _ _ _ h => h) (Or.inl ⟨by rfl, ?_⟩) hHeld ?_
        rotate_left
        · (intro w' hSw; clear hSw; go_simp; rw [HEQ1.out]; go_simp; try with_reducible rfl)
        try simp only [Act.put, List.setIfInBounds_toArray, List.set_cons_zero, List.set_cons_succ]
        refine held_take 35 (some 94) (v := ?_) rfl rfl (by kernel_rfl) (by kernel_rfl) (by kernel_rfl) (fun _ _ _ h => h) (Or.inl ⟨by rfl, ?_⟩) hHeld ?_
        rotate_left
        · (intro w' hSw; clear hSw; go_simp; try with_reducible rfl)
        try simp only [Act.put, List.setIfInBounds_toArray, List.set_cons_zero, List.set_cons_succ]
        refine wpAnyH_ready (rs := [36]) (by kernel_rfl) (by simp) ?_
        refine AllReadyH.cons rfl (fun K hKK => ?_) AllReadyH.nil
        go_simp
        refine hKK.out _ _ HSV9.out (fun hHeld => ?_)
        clear hKK K
        try simp only [Act.put, List.setIfInBounds_toArray, List.set_cons_zero, List.set_cons_succ]
        refine wpAnyH_done (by kernel_rfl) ?_ _
        go_wp2_with fail
        go_ret
        exact ⟨rfl, below_tr T7.out.bel HSV9.out⟩
      · go_simp
        obtain ⟨V10, hV10⟩ : ∃ z, z = V4.alloc (.cells #[.slice A q c] 22) := ⟨_, rfl⟩
        have HIN23 := Lib.hid (show InRows V10 (some ⟨V4.heap.size, 0, none⟩) [b] by rw [hV10]; exact in_one HQ.out hqc (HIW.out.below HSV4.out) HB.out 22)
        have HBV10 := Lib.hid (show Below V4.heap.size V4 V10 by rw [hV10]; exact below_alloc _ _)
        rw [← hV10]
        clear hV10
        have HSV10 := Lib.hid (below_tr HSV4.out HBV10.out)
        refine hKK.out _ _ HSV10.out (fun hHeld => ?_)
        clear hKK K
        try simp only [Act.put, List.setIfInBounds_toArray, List.set_cons_zero, List.set_cons_succ]
        refine wpAnyH_ready (rs := [21]) (by kernel_rfl) (by simp) ?_
        refine AllReadyH.cons rfl (fun K hKK => ?_) AllReadyH.nil
        go_simp
        go_at_call 17
        refine (Sum_in (g := g) (b := b) T7.out.st HSV10.out HD2.out).mono ?_
        rintro e V11 ⟨rfl, hbV11⟩
        have HBV11 := Lib.hid hbV11
        clear hbV11
        have HSV11 := Lib.hid (below_tr HSV10.out HBV11.out)
        refine hKK.out _ _ HSV11.out (fun hHeld => ?_)
        clear hKK K
        try simp only [Act.put, List.setIfInBounds_toArray, List.set_cons_zero, List.set_cons_succ]
        refine wpAnyH_ready (rs := [24]) (by kernel_rfl) (by simp) ?_
        refine AllReadyH.cons rfl (fun K hKK => ?_) AllReadyH.nil
        go_simp
        go_at_call 9
        refine (DSum_in HIN23.out HBV11.out (n := 1) (c := 1) rfl (by decide) (by decide) HF1.out HBL.out HD2.out).mono ?_
        rintro e V12 ⟨rfl, hbV12⟩
        have HBV12 := Lib.hid hbV12
        clear hbV12
        have HSV12 := Lib.hid (below_tr HSV11.out HBV12.out)
        refine hKK.out _ _ HSV12.out (fun hHeld => ?_)
        clear hKK K
        try simp only [Act.put, List.setIfInBounds_toArray, List.set_cons_zero, List.set_cons_succ]
        refine held_take 25 (some 84) (v := ?_) rfl rfl (by kernel_rfl) (by kernel_rfl) (by kernel_rfl) (fun _ _ _ h => h) (Or.inl ⟨by rfl, ?_⟩) hHeld ?_
        rotate_left
        · (intro w' hSw; clear hSw; go_simp; rw [HEQ2.out]; go_simp; try with_reducible rfl)
        try simp only [Act.put, List.setIfInBounds_toArray, List.set_cons_zero, List.set_cons_succ]
        refine held_take 26 (some 85) (v := ?_) rfl rfl (by kernel_rfl) (by kernel_rfl) (by kernel_rfl) (fun _ _ _ h => h) (Or.inl ⟨by rfl, ?_⟩) hHeld ?_
        rotate_left
        · (intro w' hSw; clear hSw; go_simp; try with_reducible rfl)
        try simp only [Act.put, List.setIfInBounds_toArray, List.set_cons_zero, List.set_cons_succ]
        refine held_take 27 (some 86) (v := ?_) rfl rfl (by kernel_rfl) (by kernel_rfl) (by kernel_rfl) (fun _ _ _ h => h) (Or.inl ⟨by rfl, ?_⟩) hHeld ?_
        rotate_left
        · (intro w' hSw; clear hSw; go_simp; try with_reducible rfl)
        try simp only [Act.put, List.setIfInBounds_toArray, List.set_cons_zero, List.set_cons_succ]
        refine held_take 28 (some 87) (v := .agg ((D1.map (Value.int .u8))).toArray) rfl rfl (by kernel_rfl) (by kernel_rfl) (by kernel_rfl) (fun _ _ _ h => h) (yieldsIf_load_mid (by rfl) 24 _ rfl g5 (0) rfl ((D1.map (Value.int .u8))) _ (fun w' h => rangeAt_block HRG.out (h.block g5 HG5.out)) Try.underlying24 rfl HSZ.out) hHeld ?_
        try simp only [Act.put, List.setIfInBounds_toArray, List.set_cons_zero, List.set_cons_succ]
        refine held_take 29 (some 88) (v := ?_) rfl rfl (by kernel_rfl) (by kernel_rfl) (by kernel_rfl) (fun _ _ _ h => h) (Or.inl ⟨by rfl, ?_⟩) hHeld ?_
        rotate_left
        · (intro w' hSw; clear hSw; go_simp; try with_reducible rfl)
        try simp only [Act.put, List.setIfInBounds_toArray, List.set_cons_zero, List.set_cons_succ]
        refine held_take 30 (some 89) (v := ?_) rfl rfl (by kernel_rfl) (by kernel_rfl) (by kernel_rfl) (fun _ _ _ h => h) (Or.inl ⟨by rfl, ?_⟩) hHeld ?_
        rotate_left
        · (intro w' hSw; clear hSw; go_simp; try with_reducible rfl)
        try simp only [Act.put, List.setIfInBounds_toArray, List.set_cons_zero, List.set_cons_succ]
        refine held_take 31 (some 90) (v := .slice A lo c) rfl rfl (by kernel_rfl) (by kernel_rfl) (by kernel_rfl) (fun _ _ _ h => h) (Or.inl ⟨by rfl, by intro w' hSw; clear hSw; go_simp; first | done | exact ⟨rfl, rfl⟩ | rfl⟩) hHeld ?_
        try simp only [Act.put, List.setIfInBounds_toArray, List.set_cons_zero, List.set_cons_succ]
        refine wpAnyH_ready (rs := [32]) (by kernel_rfl) (by simp) ?_
        refine AllReadyH.cons rfl (fun K hKK => ?_) AllReadyH.nil
        go_simp
        obtain ⟨V13, hV13⟩ : ∃ z, z = V12.alloc (.cells #[.slice A lo c] 22) := ⟨_, rfl⟩
        have HIN32 := Lib.hid (show InRows V13 (some ⟨V12.heap.size, 0, none⟩) [b.take lo] by rw [hV13]; exact in_one (by rw [List.length_take, HQ.out]; omega) k1 ((HIW.out.below HSV12.out).take lo) (HB.out.take lo) 22)
        have HBV13 := Lib.hid (show Below V12.heap.size V12 V13 by rw [hV13]; exact below_alloc _ _)
        rw [← hV13]
        clear hV13
        have HSV13 := Lib.hid (below_tr HSV12.out HBV13.out)
        refine hKK.out _ _ HSV13.out (fun hHeld => ?_)
        clear hKK K
        try simp only [Act.put, List.setIfInBounds_toArray, List.set_cons_zero, List.set_cons_succ]
        refine wpAnyH_ready (rs := [33]) (by kernel_rfl) (by simp) ?_
        refine AllReadyH.cons rfl (fun K hKK => ?_) AllReadyH.nil
        go_simp
        go_at_call 9
        refine (DSum_in HIN32.out (Below.refl _ _) (n := 1) (c := 1) rfl (by decide) (by decide) HFL.out HBL1.out HD1.out).mono ?_
        rintro e V14 ⟨rfl, hbV14⟩
        have HBV14 := Lib.hid hbV14
        clear hbV14
        have HSV14 := Lib.hid (below_tr HSV13.out HBV14.out)
        refine hKK.out _ _ HSV14.out (fun hHeld => ?_)
        clear hKK K
        try simp only [Act.put, List.setIfInBounds_toArray, List.set_cons_zero, List.set_cons_succ]
        refine held_take 34 (some 93) (v := ?_) rfl rfl (by kernel_rfl) (by kernel_rfl) (by kernel_rfl) (fun _ _ _ h => h) (Or.inl ⟨by rfl, ?_⟩) hHeld ?_
        rotate_left
        · (intro w' hSw; clear hSw; go_simp; rw [HEQ1.out]; go_simp; try with_reducible rfl)
        try simp only [Act.put, List.setIfInBounds_toArray, List.set_cons_zero, List.set_cons_succ]
        refine held_take 35 (some 94) (v := ?_) rfl rfl (by kernel_rfl) (by kernel_rfl) (by kernel_rfl) (fun _ _ _ h => h) (Or.inl ⟨by rfl, ?_⟩) hHeld ?_
        rotate_left
        · (intro w' hSw; clear hSw; go_simp; try with_reducible rfl)
        try simp only [Act.put, List.setIfInBounds_toArray, List.set_cons_zero, List.set_cons_succ]
        refine wpAnyH_ready (rs := [36]) (by kernel_rfl) (by simp) ?_
        refine AllReadyH.cons rfl (fun K hKK => ?_) AllReadyH.nil
        go_simp
        refine hKK.out _ _ HSV14.out (fun hHeld => ?_)
        clear hKK K
        try simp only [Act.put, List.setIfInBounds_toArray, List.set_cons_zero, List.set_cons_succ]
        refine wpAnyH_done (by kernel_rfl) ?_ _
        go_wp2_with fail
        go_ret
        exact ⟨rfl, below_tr T7.out.bel HSV14.out⟩
    · go_simp
      obtain ⟨V15, hV15⟩ : ∃ z, z = V1.alloc (.cells #[.slice A q c] 22) := ⟨_, rfl⟩
      have HIN15 := Lib.hid (show InRows V15 (some ⟨V1.heap.size, 0, none⟩) [b] by rw [hV15]; exact in_one HQ.out hqc (HIW.out.below HSV1.out) HB.out 22)
      have HBV15 := Lib.hid (show Below V1.heap.size V1 V15 by rw [hV15]; exact below_alloc _ _)
      rw [← hV15]
      clear hV15
      have HSV15 := Lib.hid (below_tr HSV1.out HBV15.out)
      refine hKK.out _ _ HSV15.out (fun hHeld => ?_)
      clear hKK K
      try simp only [Act.put, List.setIfInBounds_toArray, List.set_cons_zero, List.set_cons_succ]
      refine wpAnyH_ready (rs := [13]) (by kernel_rfl) (by simp) ?_
      refine AllReadyH.cons rfl (fun K hKK => ?_) AllReadyH.nil
      go_simp
      go_at_call 9
      refine (DSum_in HIN12.out HBV15.out (n := 4) (c := 4) rfl (by decide) (by decide) HF4.out HBL.out HD2.out).mono ?_
      rintro e V16 ⟨rfl, hbV16⟩
      have HBV16 := Lib.hid hbV16
      clear hbV16
      have HSV16 := Lib.hid (below_tr HSV15.out HBV16.out)
      refine hKK.out _ _ HSV16.out (fun hHeld => ?_)
      clear hKK K
      try simp only [Act.put, List.setIfInBounds_toArray, List.set_cons_zero, List.set_cons_succ]
      refine wpAnyH_ready (rs := [16]) (by kernel_rfl) (by simp) ?_
      refine AllReadyH.cons rfl (fun K hKK => ?_) AllReadyH.nil
      go_simp
      go_at_call 9
      refine (DSum_in HIN15.out HBV16.out (n := 1) (c := 1) rfl (by decide) (by decide) HF1.out HBL.out HD2.out).mono ?_
      rintro e V17 ⟨rfl, hbV17⟩
      have HBV17 := Lib.hid hbV17
      clear hbV17
      have HSV17 := Lib.hid (below_tr HSV16.out HBV17.out)
      refine hKK.out _ _ HSV17.out (fun hHeld => ?_)
      clear hKK K
      try simp only [Act.put, List.setIfInBounds_toArray, List.set_cons_zero, List.set_cons_succ]
      refine held_take 17 (some 76) (v := ?_) rfl rfl (by kernel_rfl) (by kernel_rfl) (by kernel_rfl) (fun _ _ _ h => h) (Or.inl ⟨by rfl, ?_⟩) hHeld ?_
      rotate_left
      · (intro w' hSw; clear hSw; go_simp; rw [HEQ2.out]; go_simp; try with_reducible rfl)
      try simp only [Act.put, List.setIfInBounds_toArray, List.set_cons_zero, List.set_cons_succ]
      refine held_take 18 (some 77) (v := ?_) rfl rfl (by kernel_rfl) (by kernel_rfl) (by kernel_rfl) (fun _ _ _ h => h) (Or.inl ⟨by rfl, ?_⟩) hHeld ?_
      rotate_left
      · (intro w' hSw; clear hSw; go_simp; try with_reducible rfl)
      try simp only [Act.put, List.setIfInBounds_toArray, List.set_cons_zero, List.set_cons_succ]
      refine held_take 19 (some 78) (v := ?_) rfl rfl (by kernel_rfl) (by kernel_rfl) (by kernel_rfl) (fun _ _ _ h => h) (Or.inl ⟨by rfl, ?_⟩) hHeld ?_
      rotate_left
      · (intro w' hSw; clear hSw; go_simp; try with_reducible rfl)
      try simp only [Act.put, List.setIfInBounds_toArray, List.set_cons_zero, List.set_cons_succ]
      refine held_take 20 (some 79) (v := ?_) rfl rfl (by kernel_rfl) (by kernel_rfl) (by kernel_rfl) (fun _ _ _ h => h) (Or.inl ⟨by rfl, ?_⟩) hHeld ?_
      rotate_left
      · (intro w' hSw; clear hSw; go_simp; try with_reducible rfl)
      try simp only [Act.put, List.setIfInBounds_toArray, List.set_cons_zero, List.set_cons_succ]
      refine held_take 22 (some 81) (v := ?_) rfl rfl (by kernel_rfl) (by kernel_rfl) (by kernel_rfl) (fun _ _ _ h => h) (Or.inl ⟨by rfl, ?_⟩) hHeld ?_
      rotate_left
      · (intro w' hSw; clear hSw; go_simp; try with_reducible rfl)
      try simp only [Act.put, List.setIfInBounds_toArray, List.set_cons_zero, List.set_cons_succ]
      refine wpAnyH_ready (rs := [21, 23]) (by kernel_rfl) (by simp) ?_
      refine AllReadyH.cons rfl (fun K hKK => ?_) (AllReadyH.cons rfl (fun K hKK => ?_) AllReadyH.nil)
      · go_simp
        go_at_call 17
        refine (Sum_in (g := g) (b := b) T7.out.st HSV17.out HD2.out).mono ?_
        rintro e V18 ⟨rfl, hbV18⟩
        have HBV18 := Lib.hid hbV18
        clear hbV18
        have HSV18 := Lib.hid (below_tr HSV17.out HBV18.out)
        refine hKK.out _ _ HSV18.out (fun hHeld => ?_)
        clear hKK K
        try simp only [Act.put, List.setIfInBounds_toArray, List.set_cons_zero, List.set_cons_succ]
        refine wpAnyH_ready (rs := [23]) (by kernel_rfl) (by simp) ?_
        refine AllReadyH.cons rfl (fun K hKK => ?_) AllReadyH.nil
        go_simp
        obtain ⟨V19, hV19⟩ : ∃ z, z = V18.alloc (.cells #[.slice A q c] 22) := ⟨_, rfl⟩
        have HIN23 := Lib.hid (show InRows V19 (some ⟨V18.heap.size, 0, none⟩) [b] by rw [hV19]; exact in_one HQ.out hqc (HIW.out.below HSV18.out) HB.out 22)
        have HBV19 := Lib.hid (show Below V18.heap.size V18 V19 by rw [hV19]; exact below_alloc _ _)
        rw [← hV19]
        clear hV19
        have HSV19 := Lib.hid (below_tr HSV18.out HBV19.out)
        refine hKK.out _ _ HSV19.out (fun hHeld => ?_)
        clear hKK K
        try simp only [Act.put, List.setIfInBounds_toArray, List.set_cons_zero, List.set_cons_succ]
        refine wpAnyH_ready (rs := [24]) (by kernel_rfl) (by simp) ?_
        refine AllReadyH.cons rfl (fun K hKK => ?_) AllReadyH.nil
        go_simp
        go_at_call 9
        refine (DSum_in HIN23.out (Below.refl _ _) (n := 1) (c := 1) rfl (by decide) (by decide) HF1.out HBL.out HD2.out).mono ?_
        rintro e V20 ⟨rfl, hbV20⟩
        have HBV20 := Lib.hid hbV20
        clear hbV20
        have HSV20 := Lib.hid (below_tr HSV19.out HBV20.out)
        refine hKK.out _ _ HSV20.out (fun hHeld => ?_)
        clear hKK K
        try simp only [Act.put, List.setIfInBounds_toArray, List.set_cons_zero, List.set_cons_succ]
        refine held_take 25 (some 84) (v := ?_) rfl rfl (by kernel_rfl) (by kernel_rfl) (by kernel_rfl) (fun _ _ _ h => h) (Or.inl ⟨by rfl, ?_⟩) hHeld ?_
        rotate_left
        · (intro w' hSw; clear hSw; go_simp; rw [HEQ2.out]; go_simp; try with_reducible rfl)
        try simp only [Act.put, List.setIfInBounds_toArray, List.set_cons_zero, List.set_cons_succ]
        refine held_take 26 (some 85) (v := ?_) rfl rfl (by kernel_rfl) (by kernel_rfl) (by kernel_rfl) (fun _ _ _ h => h) (Or.inl ⟨by rfl, ?_⟩) hHeld ?_
        rotate_left
        · (intro w' hSw; clear hSw; go_simp; try with_reducible rfl)
        try simp only [Act.put, List.setIfInBounds_toArray, List.set_cons_zero, List.set_cons_succ]
        refine held_take 27 (some 86) (v := ?_) rfl rfl (by kernel_rfl) (by kernel_rfl) (by kernel_rfl) (fun _ _ _ h => h) (Or.inl ⟨by rfl, ?_⟩) hHeld ?_
        rotate_left
        · (intro w' hSw; clear hSw; go_simp; try with_reducible rfl)
        try simp only [Act.put, List.setIfInBounds_toArray, List.set_cons_zero, List.set_cons_succ]
        refine held_take 28 (some 87) (v := .agg ((D1.map (Value.int .u8))).toArray) rfl rfl (by kernel_rfl) (by kernel_rfl) (by kernel_rfl) (fun _ _ _ h => h) (yieldsIf_load_mid (by rfl) 24 _ rfl g5 (0) rfl ((D1.map (Value.int .u8))) _ (fun w' h => rangeAt_block HRG.out (h.block g5 HG5.out)) Try.underlying24 rfl HSZ.out) hHeld ?_
        try simp only [Act.put, List.setIfInBounds_toArray, List.set_cons_zero, List.set_cons_succ]
        refine held_take 29 (some 88) (v := ?_) rfl rfl (by kernel_rfl) (by kernel_rfl) (by kernel_rfl) (fun _ _ _ h => h) (Or.inl ⟨by rfl, ?_⟩) hHeld ?_
        rotate_left
        · (intro w' hSw; clear hSw; go_simp; try with_reducible rfl)
        try simp only [Act.put, List.setIfInBounds_toArray, List.set_cons_zero, List.set_cons_succ]
        refine held_take 30 (some 89) (v := ?_) rfl rfl (by kernel_rfl) (by kernel_rfl) (by kernel_rfl) (fun _ _ _ h => h) (Or.inl ⟨by rfl, ?_⟩) hHeld ?_
        rotate_left
        · (intro w' hSw; clear hSw; go_simp; try with_reducible rfl)
        try simp only [Act.put, List.setIfInBounds_toArray, List.set_cons_zero, List.set_cons_succ]
        refine held_take 31 (some 90) (v := .slice A lo c) rfl rfl (by kernel_rfl) (by kernel_rfl) (by kernel_rfl) (fun _ _ _ h => h) (Or.inl ⟨by rfl, by intro w' hSw; clear hSw; go_simp; first | done | exact ⟨rfl, rfl⟩ | rfl⟩) hHeld ?_
        try simp only [Act.put, List.setIfInBounds_toArray, List.set_cons_zero, List.set_cons_succ]
        refine wpAnyH_ready (rs := [32]) (by kernel_rfl) (by simp) ?_
        refine AllReadyH.cons rfl (fun K hKK => ?_) AllReadyH.nil
        go_simp
        obtain ⟨V21, hV21⟩ : ∃ z, z = V20.alloc (.cells #[.slice A lo c] 22) := ⟨_, rfl⟩
        have HIN32 := Lib.hid (show InRows V21 (some ⟨V20.heap.size, 0, none⟩) [b.take lo] by rw [hV21]; exact in_one (by rw [List.length_take, HQ.out]; omega) k1 ((HIW.out.below HSV20.out).take lo) (HB.out.take lo) 22)
        have HBV21 := Lib.hid (show Below V20.heap.size V20 V21 by rw [hV21]; exact below_alloc _ _)
        rw [← hV21]
        clear hV21
        have HSV21 := Lib.hid (below_tr HSV20.out HBV21.out)
        refine hKK.out _ _ HSV21.out (fun hHeld => ?_)
        clear hKK K
        try simp only [Act.put, List.setIfInBounds_toArray, List.set_cons_zero, List.set_cons_succ]
        refine wpAnyH_ready (rs := [33]) (by kernel_rfl) (by simp) ?_
        refine AllReadyH.cons rfl (fun K hKK => ?_) AllReadyH.nil
        go_simp
        go_at_call 9
        refine (DSum_in HIN32.out (Below.refl _ _) (n := 1) (c := 1) rfl (by decide) (by decide) HFL.out HBL1.out HD1.out).mono ?_
        rintro e V22 ⟨rfl, hbV22⟩
        have HBV22 := Lib.hid hbV22
        clear hbV22
        have HSV22 := Lib.hid (below_tr HSV21.out HBV22.out)
        refine hKK.out _ _ HSV22.out (fun hHeld => ?_)
        clear hKK K
        try simp only [Act.put, List.setIfInBounds_toArray, List.set_cons_zero, List.set_cons_succ]
        refine held_take 34 (some 93) (v := ?_) rfl rfl (by kernel_rfl) (by kernel_rfl) (by kernel_rfl) (fun _ _ _ h => h) (Or.inl ⟨by rfl, ?_⟩) hHeld ?_
        rotate_left
        · (intro w' hSw; clear hSw; go_simp; rw [HEQ1.out]; go_simp; try with_reducible rfl)
        try simp only [Act.put, List.setIfInBounds_toArray, List.set_cons_zero, List.set_cons_succ]
        refine held_take 35 (some 94) (v := ?_) rfl rfl (by kernel_rfl) (by kernel_rfl) (by kernel_rfl) (fun _ _ _ h => h) (Or.inl ⟨by rfl, ?_⟩) hHeld ?_
        rotate_left
        · (intro w' hSw; clear hSw; go_simp; try with_reducible rfl)
        try simp only [Act.put, List.setIfInBounds_toArray, List.set_cons_zero, List.set_cons_succ]
        refine wpAnyH_ready (rs := [36]) (by kernel_rfl) (by simp) ?_
        refine AllReadyH.cons rfl (fun K hKK => ?_) AllReadyH.nil
        go_simp
        refine hKK.out _ _ HSV22.out (fun hHeld => ?_)
        clear hKK K
        try simp only [Act.put, List.setIfInBounds_toArray, List.set_cons_zero, List.set_cons_succ]
        refine wpAnyH_done (by kernel_rfl) ?_ _
        go_wp2_with fail
        go_ret
        exact ⟨rfl, below_tr T7.out.bel HSV22.out⟩
      · go_simp
        obtain ⟨V23, hV23⟩ : ∃ z, z = V17.alloc (.cells #[.slice A q c] 22) := ⟨_, rfl⟩
        have HIN23 := Lib.hid (show InRows V23 (some ⟨V17.heap.size, 0, none⟩) [b] by rw [hV23]; exact in_one HQ.out hqc (HIW.out.below HSV17.out) HB.out 22)
        have HBV23 := Lib.hid (show Below V17.heap.size V17 V23 by rw [hV23]; exact below_alloc _ _)
        rw [← hV23]
        clear hV23
        have HSV23 := Lib.hid (below_tr HSV17.out HBV23.out)
        refine hKK.out _ _ HSV23.out (fun hHeld => ?_)
        clear hKK K
        try simp only [Act.put, List.setIfInBounds_toArray, List.set_cons_zero, List.set_cons_succ]
        refine wpAnyH_ready (rs := [21]) (by kernel_rfl) (by simp) ?_
        refine AllReadyH.cons rfl (fun K hKK => ?_) AllReadyH.nil
        go_simp
        go_at_call 17
        refine (Sum_in (g := g) (b := b) T7.out.st HSV23.out HD2.out).mono ?_
        rintro e V24 ⟨rfl, hbV24⟩
        have HBV24 := Lib.hid hbV24
        clear hbV24
        have HSV24 := Lib.hid (below_tr HSV23.out HBV24.out)
        refine hKK.out _ _ HSV24.out (fun hHeld => ?_)
        clear hKK K
        try simp only [Act.put, List.setIfInBounds_toArray, List.set_cons_zero, List.set_cons_succ]
        refine wpAnyH_ready (rs := [24]) (by kernel_rfl) (by simp) ?_
        refine AllReadyH.cons rfl (fun K hKK => ?_) AllReadyH.nil
        go_simp
        go_at_call 9
        refine (DSum_in HIN23.out HBV24.out (n := 1) (c := 1) rfl (by decide) (by decide) HF1.out HBL.out HD2.out).mono ?_
        rintro e V25 ⟨rfl, hbV25⟩
        have HBV25 := Lib.hid hbV25
        clear hbV25
        have HSV25 := Lib.hid (below_tr HSV24.out HBV25.out)
        refine hKK.out _ _ HSV25.out (fun hHeld => ?_)
        clear hKK K
        try simp only [Act.put, List.setIfInBounds_toArray, List.set_cons_zero, List.set_cons_succ]
        refine held_take 25 (some 84) (v := ?_) rfl rfl (by kernel_rfl) (by kernel_rfl) (by kernel_rfl) (fun _ _ _ h => h) (Or.inl ⟨by rfl, ?_⟩) hHeld ?_
        rotate_left
        · (intro w' hSw; clear hSw; go_simp; rw [HEQ2.out]; go_simp; try with_reducible rfl)
        try simp only [Act.put, List.setIfInBounds_toArray, List.set_cons_zero, List.set_cons_succ]
        refine held_take 26 (some 85) (v := ?_) rfl rfl (by kernel_rfl) (by kernel_rfl) (by kernel_rfl) (fun _ _ _ h => h) (Or.inl ⟨by rfl, ?_⟩) hHeld ?_
        rotate_left
        · (intro w' hSw; clear hSw; go_simp; try with_reducible rfl)
        try simp only [Act.put, List.setIfInBounds_toArray, List.set_cons_zero, List.set_cons_succ]
        refine held_take 27 (some 86) (v := ?_) rfl rfl (by kernel_rfl) (by kernel_rfl) (by kernel_rfl) (fun _ _ _ h => h) (Or.inl ⟨by rfl, ?_⟩) hHeld ?_
        rotate_left
        · (intro w' hSw; clear hSw; go_simp; try with_reducible rfl)
        try simp only [Act.put, List.setIfInBounds_toArray, List.set_cons_zero, List.set_cons_succ]
        refine held_take 28 (some 87) (v := .agg ((D1.map (Value.int .u8))).toArray) rfl rfl (by kernel_rfl) (by kernel_rfl) (by kernel_rfl) (fun _ _ _ h => h) (yieldsIf_load_mid (by rfl) 24 _ rfl g5 (0) rfl ((D1.map (Value.int .u8))) _ (fun w' h => rangeAt_block HRG.out (h.block g5 HG5.out)) Try.underlying24 rfl HSZ.out) hHeld ?_
        try simp only [Act.put, List.setIfInBounds_toArray, List.set_cons_zero, List.set_cons_succ]
        refine held_take 29 (some 88) (v := ?_) rfl rfl (by kernel_rfl) (by kernel_rfl) (by kernel_rfl) (fun _ _ _ h => h) (Or.inl ⟨by rfl, ?_⟩) hHeld ?_
        rotate_left
        · (intro w' hSw; clear hSw; go_simp; try with_reducible rfl)
        try simp only [Act.put, List.setIfInBounds_toArray, List.set_cons_zero, List.set_cons_succ]
        refine held_take 30 (some 89) (v := ?_) rfl rfl (by kernel_rfl) (by kernel_rfl) (by kernel_rfl) (fun _ _ _ h => h) (Or.inl ⟨by rfl, ?_⟩) hHeld ?_
        rotate_left
        · (intro w' hSw; clear hSw; go_simp; try with_reducible rfl)
        try simp only [Act.put, List.setIfInBounds_toArray, List.set_cons_zero, List.set_cons_succ]
        refine held_take 31 (some 90) (v := .slice A lo c) rfl rfl (by kernel_rfl) (by kernel_rfl) (by kernel_rfl) (fun _ _ _ h => h) (Or.inl ⟨by rfl, by intro w' hSw; clear hSw; go_simp; first | done | exact ⟨rfl, rfl⟩ | rfl⟩) hHeld ?_
        try simp only [Act.put, List.setIfInBounds_toArray, List.set_cons_zero, List.set_cons_succ]
        refine wpAnyH_ready (rs := [32]) (by kernel_rfl) (by simp) ?_
        refine AllReadyH.cons rfl (fun K hKK => ?_) AllReadyH.nil
        go_simp
        obtain ⟨V26, hV26⟩ : ∃ z, z = V25.alloc (.cells #[.slice A lo c] 22) := ⟨_, rfl⟩
        have HIN32 := Lib.hid (show InRows V26 (some ⟨V25.heap.size, 0, none⟩) [b.take lo] by rw [hV26]; exact in_one (by rw [List.length_take, HQ.out]; omega) k1 ((HIW.out.below HSV25.out).take lo) (HB.out.take lo) 22)
        have HBV26 := Lib.hid (show Below V25.heap.size V25 V26 by rw [hV26]; exact below_alloc _ _)
        rw [← hV26]
        clear hV26
        have HSV26 := Lib.hid (below_tr HSV25.out HBV26.out)
        refine hKK.out _ _ HSV26.out (fun hHeld => ?_)
        clear hKK K
        try simp only [Act.put, List.setIfInBounds_toArray, List.set_cons_zero, List.set_cons_succ]
        refine wpAnyH_ready (rs := [33]) (by kernel_rfl) (by simp) ?_
        refine AllReadyH.cons rfl (fun K hKK => ?_) AllReadyH.nil
        go_simp
        go_at_call 9
        refine (DSum_in HIN32.out (Below.refl _ _) (n := 1) (c := 1) rfl (by decide) (by decide) HFL.out HBL1.out HD1.out).mono ?_
        rintro e V27 ⟨rfl, hbV27⟩
        have HBV27 := Lib.hid hbV27
        clear hbV27
        have HSV27 := Lib.hid (below_tr HSV26.out HBV27.out)
        refine hKK.out _ _ HSV27.out (fun hHeld => ?_)
        clear hKK K
        try simp only [Act.put, List.setIfInBounds_toArray, List.set_cons_zero, List.set_cons_succ]
        refine held_take 34 (some 93) (v := ?_) rfl rfl (by kernel_rfl) (by kernel_rfl) (by kernel_rfl) (fun _ _ _ h => h) (Or.inl ⟨by rfl, ?_⟩) hHeld ?_
        rotate_left
        · (intro w' hSw; clear hSw; go_simp; rw [HEQ1.out]; go_simp; try with_reducible rfl)
        try simp only [Act.put, List.setIfInBounds_toArray, List.set_cons_zero, List.set_cons_succ]
        refine held_take 35 (some 94) (v := ?_) rfl rfl (by kernel_rfl) (by kernel_rfl) (by kernel_rfl) (fun _ _ _ h => h) (Or.inl ⟨by rfl, ?_⟩) hHeld ?_
        rotate_left
        · (intro w' hSw; clear hSw; go_simp; try with_reducible rfl)
        try simp only [Act.put, List.setIfInBounds_toArray, List.set_cons_zero, List.set_cons_succ]
        refine wpAnyH_ready (rs := [36]) (by kernel_rfl) (by simp) ?_
        refine AllReadyH.cons rfl (fun K hKK => ?_) AllReadyH.nil
        go_simp
        refine hKK.out _ _ HSV27.out (fun hHeld => ?_)
        clear hKK K
        try simp only [Act.put, List.setIfInBounds_toArray, List.set_cons_zero, List.set_cons_succ]
        refine wpAnyH_done (by kernel_rfl) ?_ _
        go_wp2_with fail
        go_ret
        exact ⟨rfl, below_tr T7.out.bel HSV27.out⟩
  · go_simp
    obtain ⟨V28, hV28⟩ : ∃ z, z = V0.alloc (.cells #[.slice A q c] 22) := ⟨_, rfl⟩
    have HIN15 := Lib.hid (show InRows V28 (some ⟨V0.heap.size, 0, none⟩) [b] by rw [hV28]; exact in_one HQ.out hqc (HIW.out.below HSV0.out) HB.out 22)
    have HBV28 := Lib.hid (show Below V0.heap.size V0 V28 by rw [hV28]; exact below_alloc _ _)
    rw [← hV28]
    clear hV28
    have HSV28 := Lib.hid (below_tr HSV0.out HBV28.out)
    refine hKK.out _ _ HSV28.out (fun hHeld => ?_)
    clear hKK K
    try simp only [Act.put, List.setIfInBounds_toArray, List.set_cons_zero, List.set_cons_succ]
    refine wpAnyH_ready (rs := [12]) (by kernel_rfl) (by simp) ?_
    refine AllReadyH.cons rfl (fun K hKK => ?_) AllReadyH.nil
    go_simp
    obtain ⟨V29, hV29⟩ : ∃ z, z = V28.alloc (.cells #[.slice A lo c, .slice (slA A lo c) (hh - lo) (c - lo), .slice none 0 0, .slice (slA A hh c) (q - hh) (c - hh)] 22) := ⟨_, rfl⟩
    have HIN12 := Lib.hid (show InRows V29 (some ⟨V28.heap.size, 0, none⟩) [b.take lo, (b.drop lo).take (hh - lo), [], b.drop hh] by rw [hV29]; exact in_four (by rw [List.length_take, HQ.out]; omega) (by rw [List.length_take, List.length_drop, HQ.out]; omega) rfl (by rw [List.length_drop, HQ.out]) k1 (by omega) (Nat.le_refl _) (by omega) ((HIW.out.below HSV28.out).take lo) (((HIW.out.below HSV28.out).sl lo c (by rw [HQ.out]; exact hqc)).take _) (Ints.nil _ _ _) ((HIW.out.below HSV28.out).sl hh c (by rw [HQ.out]; exact hqc)) (HB.out.take _) ((HB.out.drop _).take _) (fun i => by simp) (HB.out.drop _) 22)
    have HBV29 := Lib.hid (show Below V28.heap.size V28 V29 by rw [hV29]; exact below_alloc _ _)
    rw [← hV29]
    clear hV29
    have HSV29 := Lib.hid (below_tr HSV28.out HBV29.out)
    refine hKK.out _ _ HSV29.out (fun hHeld => ?_)
    clear hKK K
    try simp only [Act.put, List.setIfInBounds_toArray, List.set_cons_zero, List.set_cons_succ]
    refine wpAnyH_ready (rs := [13]) (by kernel_rfl) (by simp) ?_
    refine AllReadyH.cons rfl (fun K hKK => ?_) AllReadyH.nil
    go_simp
    go_at_call 9
    refine (DSum_in HIN12.out (Below.refl _ _) (n := 4) (c := 4) rfl (by decide) (by decide) HF4.out HBL.out HD2.out).mono ?_
    rintro e V30 ⟨rfl, hbV30⟩
    have HBV30 := Lib.hid hbV30
    clear hbV30
    have HSV30 := Lib.hid (below_tr HSV29.out HBV30.out)
    refine hKK.out _ _ HSV30.out (fun hHeld => ?_)
    clear hKK K
    try simp only [Act.put, List.setIfInBounds_toArray, List.set_cons_zero, List.set_cons_succ]
    refine wpAnyH_ready (rs := [16]) (by kernel_rfl) (by simp) ?_
    refine AllReadyH.cons rfl (fun K hKK => ?_) AllReadyH.nil
    go_simp
    go_at_call 9
    refine (DSum_in HIN15.out (below_tr HBV29.out HBV30.out) (n := 1) (c := 1) rfl (by decide) (by decide) HF1.out HBL.out HD2.out).mono ?_
    rintro e V31 ⟨rfl, hbV31⟩
    have HBV31 := Lib.hid hbV31
    clear hbV31
    have HSV31 := Lib.hid (below_tr HSV30.out HBV31.out)
    refine hKK.out _ _ HSV31.out (fun hHeld => ?_)
    clear hKK K
    try simp only [Act.put, List.setIfInBounds_toArray, List.set_cons_zero, List.set_cons_succ]
    refine held_take 17 (some 76) (v := ?_) rfl rfl (by kernel_rfl) (by kernel_rfl) (by kernel_rfl) (fun _ _ _ h => h) (Or.inl ⟨by rfl, ?_⟩) hHeld ?_
    rotate_left
    · (intro w' hSw; clear hSw; go_simp; rw [HEQ2.out]; go_simp; try with_reducible rfl)
    try simp only [Act.put, List.setIfInBounds_toArray, List.set_cons_zero, List.set_cons_succ]
    refine held_take 18 (some 77) (v := ?_) rfl rfl (by kernel_rfl) (by kernel_rfl) (by kernel_rfl) (fun _ _ _ h => h) (Or.inl ⟨by rfl, ?_⟩) hHeld ?_
    rotate_left
    · (intro w' hSw; clear hSw; go_simp; try with_reducible rfl)
    try simp only [Act.put, List.setIfInBounds_toArray, List.set_cons_zero, List.set_cons_succ]
    refine held_take 19 (some 78) (v := ?_) rfl rfl (by kernel_rfl) (by kernel_rfl) (by kernel_rfl) (fun _ _ _ h => h) (Or.inl ⟨by rfl, ?_⟩) hHeld ?_
    rotate_left
    · (intro w' hSw; clear hSw; go_simp; try with_reducible rfl)
    try simp only [Act.put, List.setIfInBounds_toArray, List.set_cons_zero, List.set_cons_succ]
    refine held_take 20 (some 79) (v := ?_) rfl rfl (by kernel_rfl) (by kernel_rfl) (by kernel_rfl) (fun _ _ _ h => h) (Or.inl ⟨by rfl, ?_⟩) hHeld ?_
    rotate_left
    · (intro w' hSw; clear hSw; go_simp; try with_reducible rfl)
    try simp only [Act.put, List.setIfInBounds_toArray, List.set_cons_zero, List.set_cons_succ]
    refine held_take 22 (some 81) (v := ?_) rfl rfl (by kernel_rfl) (by kernel_rfl) (by kernel_rfl) (fun _ _ _ h => h) (Or.inl ⟨by rfl, ?_⟩) hHeld ?_
    rotate_left
    · (intro w' hSw; clear hSw; go_simp; try with_reducible rfl)
    try simp only [Act.put, List.setIfInBounds_toArray, List.set_cons_zero, List.set_cons_succ]
    refine wpAnyH_ready (rs := [21, 23]) (by kernel_rfl) (by simp) ?_
    refine AllReadyH.cons rfl (fun K hKK => ?_) (AllReadyH.cons rfl (fun K hKK => ?_) AllReadyH.nil)
    · go_simp
      go_at_call 17
      refine (Sum_in (g := g) (b := b) T7.out.st HSV31.out HD2.out).mono ?_
      rintro e V32 ⟨rfl, hbV32⟩
      have HBV32 := Lib.hid hbV32
      clear hbV32
      have HSV32 := Lib.hid (below_tr HSV31.out HBV32.out)
      refine hKK.out _ _ HSV32.out (fun hHeld => ?_)
      clear hKK K
      try simp only [Act.put, List.setIfInBounds_toArray, List.set_cons_zero, List.set_cons_succ]
      refine wpAnyH_ready (rs := [23]) (by kernel_rfl) (by simp) ?_
      refine AllReadyH.cons rfl (fun K hKK => ?_) AllReadyH.nil
      go_simp
      obtain ⟨V33, hV33⟩ : ∃ z, z = V32.alloc (.cells #[.slice A q c] 22) := ⟨_, rfl⟩
      have HIN23 := Lib.hid (show InRows V33 (some ⟨V32.heap.size, 0, none⟩) [b] by rw [hV33]; exact in_one HQ.out hqc (HIW.out.below HSV32.out) HB.out 22)
      have HBV33 := Lib.hid (show Below V32.heap.size V32 V33 by rw [hV33]; exact below_alloc _ _)
      rw [← hV33]
      clear hV33
      have HSV33 := Lib.hid (below_tr HSV32.out HBV33.out)
      refine hKK.out _ _ HSV33.out (fun hHeld => ?_)
      clear hKK K
      try simp only [Act.put, List.setIfInBounds_toArray, List.set_cons_zero, List.set_cons_succ]
      refine wpAnyH_ready (rs := [24]) (by kernel_rfl) (by simp) ?_
      refine AllReadyH.cons rfl (fun K hKK => ?_) AllReadyH.nil
      go_simp
      go_at_call 9
      refine (DSum_in HIN23.out (Below.refl _ _) (n := 1) (c := 1) rfl (by decide) (by decide) HF1.out HBL.out HD2.out).mono ?_
      rintro e V34 ⟨rfl, hbV34⟩
      have HBV34 := Lib.hid hbV34
      clear hbV34
      have HSV34 := Lib.hid (below_tr HSV33.out HBV34.out)
      refine hKK.out _ _ HSV34.out (fun hHeld => ?_)
      clear hKK K
      try simp only [Act.put, List.setIfInBounds_toArray, List.set_cons_zero, List.set_cons_succ]
      refine held_take 25 (some 84) (v := ?_) rfl rfl (by kernel_rfl) (by kernel_rfl) (by kernel_rfl) (fun _ _ _ h => h) (Or.inl ⟨by rfl, ?_⟩) hHeld ?_
      rotate_left
      · (intro w' hSw; clear hSw; go_simp; rw [HEQ2.out]; go_simp; try with_reducible rfl)
      try simp only [Act.put, List.setIfInBounds_toArray, List.set_cons_zero, List.set_cons_succ]
      refine held_take 26 (some 85) (v := ?_) rfl rfl (by kernel_rfl) (by kernel_rfl) (by kernel_rfl) (fun _ _ _ h => h) (Or.inl ⟨by rfl, ?_⟩) hHeld ?_
      rotate_left
      · (intro w' hSw; clear hSw; go_simp; try with_reducible rfl)
      try simp only [Act.put, List.setIfInBounds_toArray, List.set_cons_zero, List.set_cons_succ]
      refine held_take 27 (some 86) (v := ?_) rfl rfl (by kernel_rfl) (by kernel_rfl) (by kernel_rfl) (fun _ _ _ h => h) (Or.inl ⟨by rfl, ?_⟩) hHeld ?_
      rotate_left
      · (intro w' hSw; clear hSw; go_simp; try with_reducible rfl)
      try simp only [Act.put, List.setIfInBounds_toArray, List.set_cons_zero, List.set_cons_succ]
      refine held_take 28 (some 87) (v := .agg ((D1.map (Value.int .u8))).toArray) rfl rfl (by kernel_rfl) (by kernel_rfl) (by kernel_rfl) (fun _ _ _ h => h) (yieldsIf_load_mid (by rfl) 24 _ rfl g5 (0) rfl ((D1.map (Value.int .u8))) _ (fun w' h => rangeAt_block HRG.out (h.block g5 HG5.out)) Try.underlying24 rfl HSZ.out) hHeld ?_
      try simp only [Act.put, List.setIfInBounds_toArray, List.set_cons_zero, List.set_cons_succ]
      refine held_take 29 (some 88) (v := ?_) rfl rfl (by kernel_rfl) (by kernel_rfl) (by kernel_rfl) (fun _ _ _ h => h) (Or.inl ⟨by rfl, ?_⟩) hHeld ?_
      rotate_left
      · (intro w' hSw; clear hSw; go_simp; try with_reducible rfl)
      try simp only [Act.put, List.setIfInBounds_toArray, List.set_cons_zero, List.set_cons_succ]
      refine held_take 30 (some 89) (v := ?_) rfl rfl (by kernel_rfl) (by kernel_rfl) (by kernel_rfl) (fun _ _ _ h => h) (Or.inl ⟨by rfl, ?_⟩) hHeld ?_
      rotate_left
      · (intro w' hSw; clear hSw; go_simp; try with_reducible rfl)
      try simp only [Act.put, List.setIfInBounds_toArray, List.set_cons_zero, List.set_cons_succ]
      refine held_take 31 (some 90) (v := .slice A lo c) rfl rfl (by kernel_rfl) (by kernel_rfl) (by kernel_rfl) (fun _ _ _ h => h) (Or.inl ⟨by rfl, by intro w' hSw; clear hSw; go_simp; first | done | exact ⟨rfl, rfl⟩ | rfl⟩) hHeld ?_
      try simp only [Act.put, List.setIfInBounds_toArray, List.set_cons_zero, List.set_cons_succ]
      refine wpAnyH_ready (rs := [32]) (by kernel_rfl) (by simp) ?_
      refine AllReadyH.cons rfl (fun K hKK => ?_) AllReadyH.nil
      go_simp
      obtain ⟨V35, hV35⟩ : ∃ z, z = V34.alloc (.cells #[.slice A lo c] 22) := ⟨_, rfl⟩
      have HIN32 := Lib.hid (show InRows V35 (some ⟨V34.heap.size, 0, none⟩) [b.take lo] by rw [hV35]; exact in_one (by rw [List.length_take, HQ.out]; omega) k1 ((HIW.out.below HSV34.out).take lo) (HB.out.take lo) 22)
      have HBV35 := Lib.hid (show Below V34.heap.size V34 V35 by rw [hV35]; exact below_alloc _ _)
      rw [← hV35]
      clear hV35
      have HSV35 := Lib.hid (below_tr HSV34.out HBV35.out)
      refine hKK.out _ _ HSV35.out (fun hHeld => ?_)
      clear hKK K
      try simp only [Act.put, List.setIfInBounds_toArray, List.set_cons_zero, List.set_cons_succ]
      refine wpAnyH_ready (rs := [33]) (by kernel_rfl) (by simp) ?_
      refine AllReadyH.cons rfl (fun K hKK => ?_) AllReadyH.nil
      go_simp
      go_at_call 9
      refine (DSum_in HIN32.out (Below.refl _ _) (n := 1) (c := 1) rfl (by decide) (by decide) HFL.out HBL1.out HD1.out).mono ?_
      rintro e V36 ⟨rfl, hbV36⟩
      have HBV36 := Lib.hid hbV36
      clear hbV36
      have HSV36 := Lib.hid (below_tr HSV35.out HBV36.out)
      refine hKK.out _ _ HSV36.out (fun hHeld => ?_)
      clear hKK K
      try simp only [Act.put, List.setIfInBounds_toArray, List.set_cons_zero, List.set_cons_succ]
      refine held_take 34 (some 93) (v := ?_) rfl rfl (by kernel_rfl) (by kernel_rfl) (by kernel_rfl) (fun _ _ _ h => h) (Or.inl ⟨by rfl, ?_⟩) hHeld ?_
      rotate_left
      · (intro w' hSw; clear hSw; go_simp; rw [HEQ1.out]; go_simp; try with_reducible rfl)
      try simp only [Act.put, List.setIfInBounds_toArray, List.set_cons_zero, List.set_cons_succ]
      refine held_take 35 (some 94) (v := ?_) rfl rfl (by kernel_rfl) (by kernel_rfl) (by kernel_rfl) (fun _ _ _ h => h) (Or.inl ⟨by rfl, ?_⟩) hHeld ?_
      rotate_left
      · (intro w' hSw; clear hSw; go_simp; try with_reducible rfl)
      try simp only [Act.put, List.setIfInBounds_toArray, List.set_cons_zero, List.set_cons_succ]
      refine wpAnyH_ready (rs := [36]) (by kernel_rfl) (by simp) ?_
      refine AllReadyH.cons rfl (fun K hKK => ?_) AllReadyH.nil
      go_simp
      refine hKK.out _ _ HSV36.out (fun hHeld => ?_)
      clear hKK K
      try simp only [Act.put, List.setIfInBounds_toArray, List.set_cons_zero, List.set_cons_succ]
      refine wpAnyH_done (by kernel_rfl) ?_ _
      go_wp2_with fail
      go_ret
      exact ⟨rfl, below_tr T7.out.bel HSV36.out⟩
    · go_simp
      obtain ⟨V37, hV37⟩ : ∃ z, z = V31.alloc (.cells #[.slice A q c] 22) := ⟨_, rfl⟩
      have HIN23 := Lib.hid (show InRows V37 (some ⟨V31.heap.size, 0, none⟩) [b] by rw [hV37]; exact in_one HQ.out hqc (HIW.out.below HSV31.out) HB.out 22)
      have HBV37 := Lib.hid (show Below V31.heap.size V31 V37 by rw [hV37]; exact below_alloc _ _)
      rw [← hV37]
      clear hV37
      have HSV37 := Lib.hid (below_tr HSV31.out HBV37.out)
      refine hKK.out _ _ HSV37.out (fun hHeld => ?_)
      clear hKK K
      try simp only [Act.put, List.setIfInBounds_toArray, List.set_cons_zero, List.set_cons_succ]
      refine wpAnyH_ready (rs := [21]) (by kernel_rfl) (by simp) ?_
      refine AllReadyH.cons rfl (fun K hKK => ?_) AllReadyH.nil
      go_simp
      go_at_call 17
      refine (Sum_in (g := g) (b := b) T7.out.st HSV37.out HD2.out).mono ?_
      rintro e V38 ⟨rfl, hbV38⟩
      have HBV38 := Lib.hid hbV38
      clear hbV38
      have HSV38 := Lib.hid (below_tr HSV37.out HBV38.out)
      refine hKK.out _ _ HSV38.out (fun hHeld => ?_)
      clear hKK K
      try simp only [Act.put, List.setIfInBounds_toArray, List.set_cons_zero, List.set_cons_succ]
      refine wpAnyH_ready (rs := [24]) (by kernel_rfl) (by simp) ?_
      refine AllReadyH.cons rfl (fun K hKK => ?_) AllReadyH.nil
      go_simp
      go_at_call 9
      refine (DSum_in HIN23.out HBV38.out (n := 1) (c := 1) rfl (by decide) (by decide) HF1.out HBL.out HD2.out).mono ?_
      rintro e V39 ⟨rfl, hbV39⟩
      have HBV39 := Lib.hid hbV39
      clear hbV39
      have HSV39 := Lib.hid (below_tr HSV38.out HBV39.out)
      refine hKK.out _ _ HSV39.out (fun hHeld => ?_)
      clear hKK K
      try simp only [Act.put, List.setIfInBounds_toArray, List.set_cons_zero, List.set_cons_succ]
      refine held_take 25 (some 84) (v := ?_) rfl rfl (by kernel_rfl) (by kernel_rfl) (by kernel_rfl) (fun _ _ _ h => h) (Or.inl ⟨by rfl, ?_⟩) hHeld ?_
      rotate_left
      · (intro w' hSw; clear hSw; go_simp; rw [HEQ2.out]; go_simp; try with_reducible rfl)
      try simp only [Act.put, List.setIfInBounds_toArray, List.set_cons_zero, List.set_cons_succ]
      refine held_take 26 (some 85) (v := ?_) rfl rfl (by kernel_rfl) (by kernel_rfl) (by kernel_rfl) (fun _ _ _ h => h) (Or.inl ⟨by rfl, ?_⟩) hHeld ?_
      rotate_left
      · (intro w' hSw; clear hSw; go_simp; try with_reducible rfl)
      try simp only [Act.put, List.setIfInBounds_toArray, List.set_cons_zero, List.set_cons_succ]
      refine held_take 27 (some 86) (v := ?_) rfl rfl (by kernel_rfl) (by kernel_rfl) (by kernel_rfl) (fun _ _ _ h => h) (Or.inl ⟨by rfl, ?_⟩) hHeld ?_
      rotate_left
      · (intro w' hSw; clear hSw; go_simp; try with_reducible rfl)
      try simp only [Act.put, List.setIfInBounds_toArray, List.set_cons_zero, List.set_cons_succ]
      refine held_take 28 (some 87) (v := .agg ((D1.map (Value.int .u8))).toArray) rfl rfl (by kernel_rfl) (by kernel_rfl) (by kernel_rfl) (fun _ _ _ h => h) (yieldsIf_load_mid (by rfl) 24 _ rfl g5 (0) rfl ((D1.map (Value.int .u8))) _ (fun w' h => rangeAt_block HRG.out (h.block g5 HG5.out)) Try.underlying24 rfl HSZ.out) hHeld ?_
      try simp only [Act.put, List.setIfInBounds_toArray, List.set_cons_zero, List.set_cons_succ]
      refine held_take 29 (some 88) (v := ?_) rfl rfl (by kernel_rfl) (by kernel_rfl) (by kernel_rfl) (fun _ _ _ h => h) (Or.inl ⟨by rfl, ?_⟩) hHeld ?_
      rotate_left
      · (intro w' hSw; clear hSw; go_simp; try with_reducible rfl)
      try simp only [Act.put, List.setIfInBounds_toArray, List.set_cons_zero, List.set_cons_succ]
      refine held_take 30 (some 89) (v := ?_) rfl rfl (by kernel_rfl) (by kernel_rfl) (by kernel_rfl) (fun _ _ _ h => h) (Or.inl ⟨by rfl, ?_⟩) hHeld ?_
      rotate_left
      · (intro w' hSw; clear hSw; go_simp; try with_reducible rfl)
      try simp only [Act.put, List.setIfInBounds_toArray, List.set_cons_zero, List.set_cons_succ]
      refine held_take 31 (some 90) (v := .slice A lo c) rfl rfl (by kernel_rfl) (by kernel_rfl) (by kernel_rfl) (fun _ _ _ h => h) (Or.inl ⟨by rfl, by intro w' hSw; clear hSw; go_simp; first | done | exact ⟨rfl, rfl⟩ | rfl⟩) hHeld ?_
      try simp only [Act.put, List.setIfInBounds_toArray, List.set_cons_zero, List.set_cons_succ]
      refine wpAnyH_ready (rs := [32]) (by kernel_rfl) (by simp) ?_
      refine AllReadyH.cons rfl (fun K hKK => ?_) AllReadyH.nil
      go_simp
      obtain ⟨V40, hV40⟩ : ∃ z, z = V39.alloc (.cells #[.slice A lo c] 22) := ⟨_, rfl⟩
      have HIN32 := Lib.hid (show InRows V40 (some ⟨V39.heap.size, 0, none⟩) [b.take lo] by rw [hV40]; exact in_one (by rw [List.length_take, HQ.out]; omega) k1 ((HIW.out.below HSV39.out).take lo) (HB.out.take lo) 22)
      have HBV40 := Lib.hid (show Below V39.heap.size V39 V40 by rw [hV40]; exact below_alloc _ _)
      rw [← hV40]
      clear hV40
      have HSV40 := Lib.hid (below_tr HSV39.out HBV40.out)
      refine hKK.out _ _ HSV40.out (fun hHeld => ?_)
      clear hKK K
      try simp only [Act.put, List.setIfInBounds_toArray, List.set_cons_zero, List.set_cons_succ]
      refine wpAnyH_ready (rs := [33]) (by kernel_rfl) (by simp) ?_
      refine AllReadyH.cons rfl (fun K hKK => ?_) AllReadyH.nil
      go_simp
      go_at_call 9
      refine (DSum_in HIN32.out (Below.refl _ _) (n := 1) (c := 1) rfl (by decide) (by decide) HFL.out HBL1.out HD1.out).mono ?_
      rintro e V41 ⟨rfl, hbV41⟩
      have HBV41 := Lib.hid hbV41
      clear hbV41
      have HSV41 := Lib.hid (below_tr HSV40.out HBV41.out)
      refine hKK.out _ _ HSV41.out (fun hHeld => ?_)
      clear hKK K
      try simp only [Act.put, List.setIfInBounds_toArray, List.set_cons_zero, List.set_cons_succ]
      refine held_take 34 (some 93) (v := ?_) rfl rfl (by kernel_rfl) (by kernel_rfl) (by kernel_rfl) (fun _ _ _ h => h) (Or.inl ⟨by rfl, ?_⟩) hHeld ?_
      rotate_left
      · (intro w' hSw; clear hSw; go_simp; rw [HEQ1.out]; go_simp; try with_reducible rfl)
      try simp only [Act.put, List.setIfInBounds_toArray, List.set_cons_zero, List.set_cons_succ]
      refine held_take 35 (some 94) (v := ?_) rfl rfl (by kernel_rfl) (by kernel_rfl) (by kernel_rfl) (fun _ _ _ h => h) (Or.inl ⟨by rfl, ?_⟩) hHeld ?_
      rotate_left
      · (intro w' hSw; clear hSw; go_simp; try with_reducible rfl)
      try simp only [Act.put, List.setIfInBounds_toArray, List.set_cons_zero, List.set_cons_succ]
      refine wpAnyH_ready (rs := [36]) (by kernel_rfl) (by simp) ?_
      refine AllReadyH.cons rfl (fun K hKK => ?_) AllReadyH.nil
      go_simp
      refine hKK.out _ _ HSV41.out (fun hHeld => ?_)
      clear hKK K
      try simp only [Act.put, List.setIfInBounds_toArray, List.set_cons_zero, List.set_cons_succ]
      refine wpAnyH_done (by kernel_rfl) ?_ _
      go_wp2_with fail
      go_ret
      exact ⟨rfl, below_tr T7.out.bel HSV41.out⟩
end Go.Proofs.Ytehmnkkfoopanaa
