/- digest: what is at the head of all statements. -/
import Derived.Test.YtehmnkkfoopanaaDsum
import Derived.Lib.SlBytesConst
namespace Go.Proofs.Ytehmnkkfoopanaa
open Go.RowKit

theorem in_one {w : World} {b : List Int} {q c : Nat} {B : Option Addr} (hq : b.length = q) (hqc : q ≤ c) (hI : Ints .u8 w B b) (hb : Bytes b) (t : TypeId) : InRows (w.alloc (.cells #[.slice B q c] t)) (some ⟨w.heap.size, 0, none⟩) [b] := by
  intro i hi
  have : i = 0 := by simpa using hi
  subst this
  subst hq
  refine ⟨_, B, c, rfl, ?_, hqc, hI.below (below_refl_grown (grown_alloc _ _ none)), hb⟩
  rw [show ((⟨w.heap.size, 0, none⟩ : Addr).add 0) = ⟨w.heap.size, 0, none⟩ from rfl, cell_of_row _ _ _ _ _ _ (heap_alloc_last w _)]
  rfl
theorem DSum_nil (w : World) : Calls Try.prog 9 #[.slice none 0 0] w fun e w' => e = .returned (.agg (cellsOf (digestF []))) ∧ Below w.heap.size w w' :=
  DSum_any none 0 0 [] w rfl (by decide) (by decide) (InRows.nil _ _) (by decide)
theorem DSum_one {w : World} {b : List Int} {q c : Nat} {B : Option Addr} (hq : b.length = q) (hqc : q ≤ c) (hI : Ints .u8 w B b) (hb : Bytes b) (t : TypeId) (hl : q < 4611686018427387904) :
    Calls Try.prog 9 #[.slice (some ⟨w.heap.size, 0, none⟩) 1 1] (w.alloc (.cells #[.slice B q c] t)) fun e w' => e = .returned (.agg (cellsOf (digestF b))) ∧ Below w.heap.size w w' := by
  have h := DSum_any (some ⟨w.heap.size, 0, none⟩) 1 1 [b] (w.alloc (.cells #[.slice B q c] t)) rfl (by decide) (by decide) (in_one hq hqc hI hb t) (by simpa [hq] using hl)
  have e : [b].flatten = b := by simp
  rw [e] at h
  refine h.mono ?_
  rintro e w' ⟨rfl, hb⟩
  have h2 := below_refl_grown (grown_alloc w (.cells #[.slice B q c] t) none)
  exact ⟨rfl, h2.trans (hb.mono h2.size)⟩

theorem abc_ints (w : World) : Ints .u8 (w.alloc (.cells #[.int .u8 97, .int .u8 98, .int .u8 99] 5 (3, 4))) (some ⟨w.heap.size, 0, none⟩) [97, 98, 99] := by
  intro i hi
  refine ⟨_, rfl, ?_⟩
  match i, hi with
  | 0, _ => exact World.cell?_alloc_mark w _ 5 (3, 4) 0
  | 1, _ => exact World.cell?_alloc_mark w _ 5 (3, 4) 1
  | 2, _ => exact World.cell?_alloc_mark w _ 5 (3, 4) 2
def frL : List Int := [0, 0, 0, 0, 0, 0, 1, 2, 0, 0, 0, 0, 0, 0, 0, 0, 0, 0, 0, 0, 0, 0, 0, 0, 0, 0, 0, 0, 0, 0, 0, 0]
theorem frL_bytes : Bytes frL := by
  have h : ∀ x ∈ frL, 0 ≤ x ∧ x < 256 := by decide
  intro i
  rw [List.getD_eq_getElem?_getD]
  cases e : frL[i]? with
  | none => simp
  | some x => exact h x (List.mem_of_getElem? e)
theorem fr_shown (w : World) : Calls Try.prog 13 #[.agg #[.int .u8 0, .int .u8 0, .int .u8 0, .int .u8 0, .int .u8 0, .int .u8 0, .int .u8 1, .int .u8 2, .int .u8 0, .int .u8 0, .int .u8 0, .int .u8 0, .int .u8 0, .int .u8 0, .int .u8 0, .int .u8 0, .int .u8 0, .int .u8 0, .int .u8 0, .int .u8 0, .int .u8 0, .int .u8 0, .int .u8 0, .int .u8 0, .int .u8 0, .int .u8 0, .int .u8 0, .int .u8 0, .int .u8 0, .int .u8 0, .int .u8 0, .int .u8 0]] w fun e w' => e = .returned (.int .u64 258) ∧ Below w.heap.size w w' := Front_any frL w rfl frL_bytes
theorem abc_bytes : Bytes [97, 98, 99] := by
  intro i
  match i with
  | 0 => decide
  | 1 => decide
  | 2 => decide
  | i + 3 => exact (show (0 : Int) ≤ 0 ∧ (0 : Int) < 256 by decide)
set_option maxRecDepth 20000 in
set_option maxHeartbeats 1600000 in
theorem shown_any (w : World) : Calls Try.prog 11 #[] w fun e w' => e = .returned (.bool true) ∧ Below w.heap.size w w' := by
  go_enter Try.func11, Try.ntmps11
  go_wp2_with fail
  refine (DSum_nil w).mono ?_
  rintro e w1 ⟨rfl, hb1⟩
  obtain ⟨W2, hW2⟩ : ∃ z, z = w1.alloc (.cells #[.int .u8 97, .int .u8 98, .int .u8 99] 5 (3, 4)) := ⟨_, rfl⟩
  have HB1 := Lib.hid (show Below w.heap.size w W2 by rw [hW2]; exact hb1.trans ((below_refl_grown (grown_alloc w1 (.cells #[.int .u8 97, .int .u8 98, .int .u8 99] 5 (3, 4)) none)).mono hb1.size))
  have HCV := Lib.hid (show (convert 22 22 (.slice (some ⟨w1.heap.size, 0, none⟩) 3 3)).run Try.prog (w1.alloc (.cells #[.int .u8 97, .int .u8 98, .int .u8 99] 5)) = .ok (.slice (some ⟨w1.heap.size, 0, none⟩) 3 3) W2 by rw [hW2]; exact Lib.run_convert_bytes_const (P := Try.prog) w1 22 5 #[.int .u8 97, .int .u8 98, .int .u8 99] 3 3 Try.underlying22 Try.underlying5)
  have HIN := Lib.hid (show Ints .u8 W2 (some ⟨w1.heap.size, 0, none⟩) [97, 98, 99] by rw [hW2]; exact abc_ints w1)
  have HONE := Lib.hid (DSum_one (w := W2) (q := 3) (c := 3) rfl (by decide) HIN.out abc_bytes 22 (by decide))
  clear hb1 hW2
  go_wp2_with (rw [HCV.out]; simp only [Result.andThen_ok])
  refine HONE.out.mono ?_
  rintro e w4 ⟨rfl, hb4⟩
  have HB4 := Lib.hid (HB1.out.trans (hb4.mono HB1.out.size))
  obtain ⟨D0, hD0⟩ : ∃ z, z = digestF [] := ⟨_, rfl⟩
  obtain ⟨D1, hD1⟩ : ∃ z, z = digestF [97, 98, 99] := ⟨_, rfl⟩
  have HD0 := Lib.hid hD0
  have HD1 := Lib.hid hD1
  have HZ0 := Lib.hid (show (cellsOf (dS [] 0)).size = (cellsOf D0).size by rw [cellsOf_size, cellsOf_size, hD0, digestF_length]; rfl)
  have HZ1 := Lib.hid (show (cellsOf (dS [] 0)).size = (cellsOf D1).size by rw [cellsOf_size, cellsOf_size, hD1, digestF_length]; rfl)
  have HI0 := Lib.hid (info24 D0 (by rw [hD0]; exact digestF_length _))
  have HI1 := Lib.hid (info24 D1 (by rw [hD1]; exact digestF_length _))
  have R0 := Lib.hid (show Rws w4 ((w4.alloc (.cells (cellsOf (dS [] 0)) 24)).alloc (.cells (cellsOf (dS [] 0)) 24)) [(w4.heap.size, cellsOf (dS [] 0), 24), (w4.heap.size + 1, cellsOf (dS [] 0), 24)] by
    have h := ((Rws.start w4).alloc (cellsOf (dS [] 0)) 24).alloc (cellsOf (dS [] 0)) 24
    simpa using h)
  obtain ⟨w5, hst5, hg5, hr5, _⟩ := store_old (P := Try.prog) _ w4.heap.size (cellsOf (dS [] 0)) (cellsOf D0) 24 (R0.out.at 0 rfl) HZ0.out (cellsOf_one _)
  have R1 := Lib.hid (R0.out.change 0 rfl hg5 hr5)
  obtain ⟨w6, hst6, hg6, hr6, _⟩ := store_old (P := Try.prog) _ (w4.heap.size + 1) (cellsOf (dS [] 0)) (cellsOf D1) 24 (R1.out.at 1 rfl) HZ1.out (cellsOf_one _)
  have R2 := Lib.hid (show Rws w4 w6 [(w4.heap.size, cellsOf D0, 24), (w4.heap.size + 1, cellsOf D1, 24)] from R1.out.change 1 rfl hg6 hr6)
  have HST5 := Lib.hid (show (storeCells ⟨w4.heap.size, 0, none⟩ (cellsOf D0).toList).run Try.prog ((w4.alloc (.cells #[.int .u8 0, .int .u8 0, .int .u8 0, .int .u8 0, .int .u8 0, .int .u8 0, .int .u8 0, .int .u8 0, .int .u8 0, .int .u8 0, .int .u8 0, .int .u8 0, .int .u8 0, .int .u8 0, .int .u8 0, .int .u8 0, .int .u8 0, .int .u8 0, .int .u8 0, .int .u8 0, .int .u8 0, .int .u8 0, .int .u8 0, .int .u8 0, .int .u8 0, .int .u8 0, .int .u8 0, .int .u8 0, .int .u8 0, .int .u8 0, .int .u8 0, .int .u8 0] 24)).alloc (.cells #[.int .u8 0, .int .u8 0, .int .u8 0, .int .u8 0, .int .u8 0, .int .u8 0, .int .u8 0, .int .u8 0, .int .u8 0, .int .u8 0, .int .u8 0, .int .u8 0, .int .u8 0, .int .u8 0, .int .u8 0, .int .u8 0, .int .u8 0, .int .u8 0, .int .u8 0, .int .u8 0, .int .u8 0, .int .u8 0, .int .u8 0, .int .u8 0, .int .u8 0, .int .u8 0, .int .u8 0, .int .u8 0, .int .u8 0, .int .u8 0, .int .u8 0, .int .u8 0] 24)) = .ok () w5 from hst5)
  have HST6 := Lib.hid hst6
  have hs0 : (cellsOf D0).size = 32 := HZ0.out.symm
  have hs1 : (cellsOf D1).size = 32 := HZ1.out.symm
  rw [← hD0, ← hD1]
  clear hD0 hD1 hb4 HONE HCV HB1 HIN hst5 hg5 hr5 hst6 hg6 hr6 R0 R1 HZ0 HZ1
  go_upto_region 2 with (first | (rw [HST5.out]; simp only [Result.andThen_ok]) | (rw [HST6.out]; simp only [Result.andThen_ok]))
  clear HST5 HST6 hs0 hs1
  obtain ⟨a1, ha1⟩ : ∃ z, z = w4.heap.size := ⟨_, rfl⟩
  obtain ⟨a2, ha2⟩ : ∃ z, z = w4.heap.size + 1 := ⟨_, rfl⟩
  rw [← ha2, ← ha1] at R2
  rw [← ha2, ← ha1]
  clear ha1 ha2
  have HC0 := Lib.hid (show (convert 22 9 (.slice (some ⟨a1, 0, none⟩) 4 32)).run Try.prog w6 = .ok (.string { data := #[105, 33, 122, 48] }) w6 from by
    have h := (ints_block (R2.out.at 0 rfl)).take 4
    rw [HD0.out, digest_none] at h
    exact run_conv_ints h 22 9 5 4 32 rfl Try.underlying22 Try.underlying5 Try.underlying9)
  have HC1 := Lib.hid (show (convert 22 9 (.slice (some ⟨a2, 0, none⟩) 4 32)).run Try.prog w6 = .ok (.string { data := #[80, 140, 94, 140] }) w6 from by
    have h := (ints_block (R2.out.at 1 rfl)).take 4
    rw [HD1.out, digest_abc] at h
    exact run_conv_ints h 22 9 5 4 32 rfl Try.underlying22 Try.underlying5 Try.underlying9)
  have HBE := Lib.hid (HB4.out.trans (R2.out.bel.mono HB4.out.size))
  go_wp2_with (first | (rw [HC0.out]; simp only [Result.andThen_ok]) | (rw [HC1.out]; simp only [Result.andThen_ok]))
  refine (fr_shown w6).mono ?_
  rintro e w7 ⟨rfl, hb7⟩
  go_wp2_with fail
  go_ret
  exact ⟨rfl, HBE.out.trans (hb7.mono HBE.out.size)⟩
end Go.Proofs.Ytehmnkkfoopanaa
