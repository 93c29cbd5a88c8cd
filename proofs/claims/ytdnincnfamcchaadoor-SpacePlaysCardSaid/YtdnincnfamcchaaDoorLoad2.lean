/- space: Load, where the bytes fit. -/
import Derived.Test.YtdnincnfamcchaaDoorLoad
import Derived.Test.YtdnincnfamcchaaDoorRef2
import Derived.Deep.DeepCutAuto
namespace Go.Proofs.YtdnincnfamcchaaDoor
open Go.RowKit

/-- A new space with places f. -/
def NewF (n m : Nat) (f : Nat → Bool) (w : World) (e : Ending) (w' : World) : Prop :=
  e = .returned (.tuple #[.pointer (some ⟨w.heap.size + 1, 0, none⟩), .int .i64 0]) ∧ w.grownBy w' none ∧ Sp w' (w.heap.size + 1) w.heap.size n m f ∧ w'.heap.size = w.heap.size + 2
theorem Mid.set {w : World} {g h n m : Nat} {l : List Int} {i : Nat} (M : Mid w g h n m l i) (hne : g ≠ h) (hi : i / 8 < m) :
    Mid ((w.setCell ⟨h, i / 8, none⟩ (.int .u64 (wordN (upF (bitOf l) (8 * (i + 1))) (i / 8)))).setCell ⟨g, 2, none⟩ (.int .i64 ((takenL (bitOf l) (8 * (i + 1))).length : Nat))) g h n m l (i + 1) := by
  have h1 : (w.setCell ⟨h, i / 8, none⟩ (.int .u64 (wordN (upF (bitOf l) (8 * (i + 1))) (i / 8)))).heap[g]? = w.heap[g]? := Below.heap_setCell _ _ _ _ (fun e => hne e)
  refine ⟨?_, ?_⟩
  · rw [setCell_row (h1.trans M.obj)]; rfl
  · rw [Below.heap_setCell _ _ _ _ (fun e => hne e.symm), setCell_row M.row, wcells_set, wpack_set _ _ _ _ hi]
    intro k _ hk
    exact upF_farw _ _ _ hk

theorem grown_new {a b : World} (h : a.grownBy b none) {k i : Nat} {v : Value} (hk : a.heap.size ≤ k) : a.grownBy (b.setCell ⟨k, i, none⟩ v) none :=
  ⟨h.os, h.tape, h.output, by simpa [World.setCell] using h.size, fun j hj hn => (Below.heap_setCell _ _ _ _ (fun e => by subst e; exact absurd hj (Nat.not_lt.2 hk))).trans (h.block j hj hn)⟩
theorem grown_drew1 {a b : World} {r : Option Nat} (h : a.grownBy b r) : a.grownBy b.drew r := ⟨h.os, h.tape, h.output, h.size, h.block⟩
theorem free_block {w w' : World} {a : Addr} (h : w'.heap[a.block]? = w.heap[a.block]?) (hf : w.frozen? a = false) : w'.frozen? a = false := by
  unfold World.frozen? at hf ⊢
  rw [h]; exact hf
theorem Mid.of_new {w : World} {g h n m : Nat} (V : Sp w g h n m (fun _ => false)) (l : List Int) : Mid w g h n m l 0 := by
  refine ⟨?_, ?_⟩
  · have h0 : (takenL (fun _ => false) n).length = 0 := by unfold takenL; rw [List.filter_eq_nil_iff.2 (fun a _ => by simp)]; rfl
    have := V.obj
    rw [h0] at this
    exact this
  · rw [Nat.mul_zero, upF_zero]; exact V.row
theorem Mid.word {w : World} {g h n m : Nat} {l : List Int} {i : Nat} (M : Mid w g h n m l i) {j : Nat} (hj : j < m) : w.cell? ⟨h, j, none⟩ = some (.int .u64 (wordN (upF (bitOf l) (8 * i)) j)) := by
  rw [cell_of_row _ _ _ _ _ _ M.row, wcells_get _ _ (by rw [wpack_length]; exact hj), wpack_get _ _ _ hj]
theorem Mid.done {w : World} {g h n m q : Nat} {l : List Int} (M : Mid w g h n m l q) (hl : l.length = q) (hq : q = (n + 7) / 8) (hm : m = (n + 63) / 64) (ho : Ok n l) (h1 : n ≤ 16384) (hne : g ≠ h) : Sp w g h n m (bitOf l) := by
  have h2 : upF (bitOf l) (8 * q) = bitOf l := upF_out _ _ fun p hp => bitOf_out l p (by omega)
  have h3 := takenL_out (bitOf l) n ho (8 * q - n)
  rw [show n + (8 * q - n) = 8 * q from by omega] at h3
  refine ⟨by have := M.obj; rwa [h3] at this, by have := M.row; rwa [h2] at this, ⟨h1, by omega, by omega⟩, ho, hne⟩

set_option maxRecDepth 20000 in
set_option maxHeartbeats 800000 in
theorem Load_any (n c q m : Nat) (l : List Int) (A : Option Addr) (w : World) (h1 : n ≤ 16384) (hm : m = (n + 63) / 64) (hb : Bytes l) (hl : l.length = q) (hq : q = (n + 7) / 8) (hI : Ints .u8 w A l) (ho : Ok n l) :
    Calls Tryd.prog 15 #[.int .i64 n, .slice A q c] w (NewF n m (bitOf l) w) := by
  have HN := Lib.hid (New_any n m w h1 hm)
  have HB := Lib.hid hb
  have HI := Lib.hid hI
  have HL := Lib.hid hl
  have HO := Lib.hid ho
  have HQ := Lib.hid hq
  have HM := Lib.hid hm
  have hand := and7b n (by omega)
  have hqI : ((n : Int) + 7) / 8 = (q : Int) := by omega
  have hqs : q ≤ 2049 := by omega
  by_cases h8 : 0 < n % 8
  · obtain ⟨ad, rfl, hcell⟩ := hI (l.length - 1) (by omega)
    have hz := (ok_last n l hb (hl.trans hq) h8).1 ho
    obtain ⟨e1, hc⟩ := byte_nat hb (l.length - 1)
    rw [hl] at hcell hz e1 hc
    have hq1 : (q : Int) - 1 = ((q - 1 : Nat) : Int) := by omega
    have hdiv : (l.getD (q - 1) 0 / 2 ^ (n % 8) : Int) = 0 := by
      rw [e1, cast_pow, ← Int.natCast_ediv, hz]; rfl
    have n8 : (0 : Int) < (n : Int) % 8 := by omega
    have hq0 : 0 ≤ (q : Int) - 1 := by omega
    have HC := Lib.hid hcell
    generalize l.getD (q - 1) 0 = x at *
    clear hm hl hq ho hz e1 hc hI hcell hb
    go_enter Tryd.func15, Tryd.ntmps15
    go_wp2_with (go_at_call 10; refine HN.out.mono ?_; rintro e w1 ⟨rfl, hg, hV, hs⟩; have hcell := (World.cell?_of_block (w := w) (hg.block _ (cell_lt HC.out) (by simp))).trans HC.out)
    clear hdiv hcell
    go_loopg [43] q (fun kq v43 w' => ∃ i : Nat, v43 = .int .i64 (i : Int) ∧ i + kq = q ∧ w.grownBy w' none ∧ Mid w' (w.heap.size + 1) w.heap.size n m l i ∧ w'.heap.size = w.heap.size + 2)
    case atStart => exact ⟨0, rfl, by omega, hg, Mid.of_new hV l, hs⟩
    case round =>
      obtain ⟨i, rfl, hi, hg2, hM, hs2⟩ := hrel
      by_cases hlt : i < q
      · obtain ⟨ad2, e2, hci⟩ := HI.out i (by rw [HL.out]; exact hlt)
        obtain rfl : ad = ad2 := by injection e2
        clear e2
        have hq9 := HQ.out
        have hm9 := HM.out
        have him : i / 8 < m := by omega
        have HM2 := Lib.hid (hM.set (Nat.succ_ne_self _) him)
        have c0 : wr.cell? ⟨w.heap.size + 1, 0, none⟩ = some (.slice (some ⟨w.heap.size, 0, none⟩) m m) := by rw [cell_of_row _ _ _ _ _ _ hM.obj]; rfl
        have c2 : wr.cell? ⟨w.heap.size + 1, 2, none⟩ = some (.int .i64 ((takenL (bitOf l) (8 * i)).length : Nat)) := by rw [cell_of_row _ _ _ _ _ _ hM.obj]; rfl
        have hw := hM.word him
        have f1 := free_row hM.row (i / 8)
        have f2 := free_row hM.obj 2
        have HW := Lib.hid (word_putI l HB.out i)
        have hwl := wordN_lt (upF (bitOf l) (8 * i)) (i / 8)
        have hci2 := (World.cell?_of_block (w := w) (hg2.block _ (cell_lt hci) (by simp))).trans hci
        have hx := HB.out i
        have hcn := count_byte l i
        have htl := takenL_le (bitOf l) (8 * i)
        have HON := Lib.hid (fun W => ones_any (l.getD i 0).toNat W (byte_nat HB.out i).2)
        rw [← (byte_nat HB.out i).1] at HON
        have hc8 := count8_le (l.getD i 0).toNat
        have HCN := Lib.hid hcn
        clear hcn hci hM hg hV hs
        have HG2 := Lib.hid hg2
        have hand2 := and7b i (by omega)
        have HSZ := Lib.hid hs2
        generalize (takenL (bitOf l) (8 * i)).length = cn at *
        generalize (takenL (bitOf l) (8 * (i + 1))).length = cn2 at *
        generalize count8 (l.getD i 0).toNat = c8 at *
        generalize wordN (upF (bitOf l) (8 * i)) (i / 8) = wd at *
        generalize wordN (upF (bitOf l) (8 * (i + 1))) (i / 8) = wd2 at *
        generalize l.getD i 0 = x at *
        generalize hgh : w.heap.size = gh at *
        have HGH := Lib.hid hgh
        clear hgh
        obtain ⟨hx0, hx1⟩ := hx
        have i0 : (0 : Int) ≤ (i : Int) % 8 := by omega
        have i1 : (i : Int) < (q : Int) := by omega
        have i2 : (0 : Int) ≤ (i : Int) / 8 := by omega
        have i3 : (i : Int) / 8 < (m : Int) := by omega
        have i4 : (i : Int) % 8 < 8 := by omega
        have i5 : (0 : Int) ≤ (i : Int) := by omega
        clear hg2 hq9 hm9 hs2 him hlt
        go_upto_region 9 with (fail)
        go_region
        rw [HW.out]
        obtain ⟨w2, hw2⟩ : ∃ w2, w2 = (wr.setCell { block := gh, off := i / 8 } (Value.int IntKind.u64 ↑wd2)).drew := ⟨_, rfl⟩
        have d2 : w2.cell? ⟨gh + 1, 2, none⟩ = some (.int .i64 (cn : Int)) := by
          rw [hw2]; exact (World.cell?_of_block (w := wr) (Below.heap_setCell _ _ _ _ (by simp))).trans c2
        have f3 : w2.frozen? ⟨gh + 1, 2, none⟩ = false := by
          rw [hw2]; exact free_block (Below.heap_setCell _ _ _ _ (by simp)) f2
        rw [← hw2]
        have HW2 := Lib.hid hw2
        clear hw2 c2 f2 c0 f1 hw hand
        have hin : IntKind.i64.wrap ((cn : Int) + (c8 : Int)) = (cn : Int) + (c8 : Int) := IntWalk.i64_in _ (by omega)
        go_upto_region 10 with (fail)
        refine wp_region_still_tail 9 (by kernel_rfl) (by kernel_rfl) ?_
        simp only [List.take_succ_cons, List.take_zero, List.drop_succ_cons, List.drop_zero]
        iterate 5 still_step
        still_call ((HON.out _).mono (fun _ _ h => ⟨h.1, h.2.symm⟩))
        repeat still_step
        refine wpStill_nil ?_
        change wpList _ _ _ _ _ w2.drew
        have d3 : w2.drew.cell? ⟨gh + 1, 2, none⟩ = some (.int .i64 (cn : Int)) := d2
        have f4 : w2.drew.frozen? ⟨gh + 1, 2, none⟩ = false := f3
        clear d2 f3
        go_wp2_with fail
        have e9 : (cn : Int) + (c8 : Int) = (cn2 : Int) := by have := HCN.out; omega
        rw [e9, HW2.out]
        go_roundg (q - (i + 1))
        case measure => omega
        case rel => exact ⟨i + 1, by go_num, by omega, grown_drew1 (grown_new (grown_drew1 (grown_new HG2.out (by rw [HGH.out]; exact Nat.le_refl _))) (by rw [HGH.out]; omega)), ⟨HM2.out.obj, HM2.out.row⟩, (by simpa using HSZ.out)⟩
      · obtain rfl : i = q := by omega
        have HS := Lib.hid (hM.done HL.out HQ.out HM.out HO.out h1 (Nat.succ_ne_self _))
        have HG2 := Lib.hid hg2
        have HSZ := Lib.hid hs2
        clear hg2 hM hg hV hs hs2
        go_wp2
        go_ret2
        exact ⟨rfl, HG2.out, HS.out, HSZ.out⟩
  · have n8 : (n : Int) % 8 = 0 := by omega
    clear hm hl hq ho hI hb
    go_enter Tryd.func15, Tryd.ntmps15
    go_wp2_with (go_at_call 10; refine HN.out.mono ?_; rintro e w1 ⟨rfl, hg, hV, hs⟩)
    go_loopg [43] q (fun kq v43 w' => ∃ i : Nat, v43 = .int .i64 (i : Int) ∧ i + kq = q ∧ w.grownBy w' none ∧ Mid w' (w.heap.size + 1) w.heap.size n m l i ∧ w'.heap.size = w.heap.size + 2)
    case atStart => exact ⟨0, rfl, by omega, hg, Mid.of_new hV l, hs⟩
    case round =>
      obtain ⟨i, rfl, hi, hg2, hM, hs2⟩ := hrel
      by_cases hlt : i < q
      · obtain ⟨ad, rfl, hci⟩ := HI.out i (by rw [HL.out]; exact hlt)
        have hq9 := HQ.out
        have hm9 := HM.out
        have him : i / 8 < m := by omega
        have HM2 := Lib.hid (hM.set (Nat.succ_ne_self _) him)
        have c0 : wr.cell? ⟨w.heap.size + 1, 0, none⟩ = some (.slice (some ⟨w.heap.size, 0, none⟩) m m) := by rw [cell_of_row _ _ _ _ _ _ hM.obj]; rfl
        have c2 : wr.cell? ⟨w.heap.size + 1, 2, none⟩ = some (.int .i64 ((takenL (bitOf l) (8 * i)).length : Nat)) := by rw [cell_of_row _ _ _ _ _ _ hM.obj]; rfl
        have hw := hM.word him
        have f1 := free_row hM.row (i / 8)
        have f2 := free_row hM.obj 2
        have HW := Lib.hid (word_putI l HB.out i)
        have hwl := wordN_lt (upF (bitOf l) (8 * i)) (i / 8)
        have hci2 := (World.cell?_of_block (w := w) (hg2.block _ (cell_lt hci) (by simp))).trans hci
        have hx := HB.out i
        have hcn := count_byte l i
        have htl := takenL_le (bitOf l) (8 * i)
        have HON := Lib.hid (fun W => ones_any (l.getD i 0).toNat W (byte_nat HB.out i).2)
        rw [← (byte_nat HB.out i).1] at HON
        have hc8 := count8_le (l.getD i 0).toNat
        have HCN := Lib.hid hcn
        clear hcn hci hM hg hV hs
        have HG2 := Lib.hid hg2
        have hand2 := and7b i (by omega)
        have HSZ := Lib.hid hs2
        generalize (takenL (bitOf l) (8 * i)).length = cn at *
        generalize (takenL (bitOf l) (8 * (i + 1))).length = cn2 at *
        generalize count8 (l.getD i 0).toNat = c8 at *
        generalize wordN (upF (bitOf l) (8 * i)) (i / 8) = wd at *
        generalize wordN (upF (bitOf l) (8 * (i + 1))) (i / 8) = wd2 at *
        generalize l.getD i 0 = x at *
        generalize hgh : w.heap.size = gh at *
        have HGH := Lib.hid hgh
        clear hgh
        obtain ⟨hx0, hx1⟩ := hx
        have i0 : (0 : Int) ≤ (i : Int) % 8 := by omega
        have i1 : (i : Int) < (q : Int) := by omega
        have i2 : (0 : Int) ≤ (i : Int) / 8 := by omega
        have i3 : (i : Int) / 8 < (m : Int) := by omega
        have i4 : (i : Int) % 8 < 8 := by omega
        have i5 : (0 : Int) ≤ (i : Int) := by omega
        clear hg2 hq9 hm9 hs2 him hlt
        go_upto_region 9 with (fail)
        go_region
        rw [HW.out]
        obtain ⟨w2, hw2⟩ : ∃ w2, w2 = (wr.setCell { block := gh, off := i / 8 } (Value.int IntKind.u64 ↑wd2)).drew := ⟨_, rfl⟩
        have d2 : w2.cell? ⟨gh + 1, 2, none⟩ = some (.int .i64 (cn : Int)) := by
          rw [hw2]; exact (World.cell?_of_block (w := wr) (Below.heap_setCell _ _ _ _ (by simp))).trans c2
        have f3 : w2.frozen? ⟨gh + 1, 2, none⟩ = false := by
          rw [hw2]; exact free_block (Below.heap_setCell _ _ _ _ (by simp)) f2
        rw [← hw2]
        have HW2 := Lib.hid hw2
        clear hw2 c2 f2 c0 f1 hw hand
        have hin : IntKind.i64.wrap ((cn : Int) + (c8 : Int)) = (cn : Int) + (c8 : Int) := IntWalk.i64_in _ (by omega)
        go_upto_region 10 with (fail)
        refine wp_region_still_tail 9 (by kernel_rfl) (by kernel_rfl) ?_
        simp only [List.take_succ_cons, List.take_zero, List.drop_succ_cons, List.drop_zero]
        iterate 5 still_step
        still_call ((HON.out _).mono (fun _ _ h => ⟨h.1, h.2.symm⟩))
        repeat still_step
        refine wpStill_nil ?_
        change wpList _ _ _ _ _ w2.drew
        have d3 : w2.drew.cell? ⟨gh + 1, 2, none⟩ = some (.int .i64 (cn : Int)) := d2
        have f4 : w2.drew.frozen? ⟨gh + 1, 2, none⟩ = false := f3
        clear d2 f3
        go_wp2_with fail
        have e9 : (cn : Int) + (c8 : Int) = (cn2 : Int) := by have := HCN.out; omega
        rw [e9, HW2.out]
        go_roundg (q - (i + 1))
        case measure => omega
        case rel => exact ⟨i + 1, by go_num, by omega, grown_drew1 (grown_new (grown_drew1 (grown_new HG2.out (by rw [HGH.out]; exact Nat.le_refl _))) (by rw [HGH.out]; omega)), ⟨HM2.out.obj, HM2.out.row⟩, (by simpa using HSZ.out)⟩
      · obtain rfl : i = q := by omega
        have HS := Lib.hid (hM.done HL.out HQ.out HM.out HO.out h1 (Nat.succ_ne_self _))
        have HG2 := Lib.hid hg2
        have HSZ := Lib.hid hs2
        clear hg2 hM hg hV hs hs2
        go_wp2
        go_ret2
        exact ⟨rfl, HG2.out, HS.out, HSZ.out⟩
end Go.Proofs.YtdnincnfamcchaaDoor
