/- space: Bytes, OnesCount8. -/
import Derived.Test.YtdnincnfamcchaaDoorAll
import Derived.Lib.BitFns
namespace Go.Proofs.YtdnincnfamcchaaDoor
open Go.RowKit

set_option maxRecDepth 100000 in
set_option maxHeartbeats 800000 in
theorem ones_core (x : Int) (w : World) (h0 : 0 ≤ x) (h1 : x ≤ 255) : Calls Tryd.prog 31 #[.int .u8 x] w fun e w' => e = .returned (.int .i64 (wrap64 (Lib.pop8 x))) ∧ w = w' := by
  go_enter Tryd.func31, Tryd.ntmps31
  go_wp2
  go_ret
  exact ⟨rfl, rfl⟩
/-- How many of the first eight are 1. -/
def count8 (x : Nat) : Nat := ((List.range 8).filter x.testBit).length
theorem ones_is : ∀ x, x < 256 → Lib.onesCount x = count8 x := by decide +kernel
theorem ones_any (x : Nat) (w : World) (h : x < 256) : Calls Tryd.prog 31 #[.int .u8 x] w fun e w' => e = .returned (.int .i64 (count8 x)) ∧ w = w' := by
  have := ones_core x w (by omega) (by omega)
  have e := Lib.pop8_eq ⟨x, h⟩
  have l := Lib.onesCount_le8 ⟨x, h⟩
  simp only at e l
  rw [e, IntWalk.wrap64_in _ ⟨by omega, by omega⟩, ones_is x h] at this
  exact this
theorem count8_le (x : Nat) : count8 x ≤ 8 := by
  have := List.length_filter_le x.testBit (List.range 8)
  simpa [count8] using this

theorem Tryd.info5 : (Tryd.prog.info? 5).map (fun i => (i.zero, i.size, i.bytes)) = some (some (.int .u8 0), 1, 1) := by kernel_rfl
theorem made_zero (m : Nat) : madeCells #[.int .u8 0] m = cellsOf (pack m (fun _ => false)) := by
  rw [madeCells_rep, pack_zero, cellsOf, List.map_replicate]
theorem make_zero (m : Nat) (hm : m ≤ 1000000) (z : Int) (hz : z = m) (W : World) : (Instr.makeSlice 34 (.int .i64 z) (.int .i64 z)).run Tryd.prog W = .ok (.slice (some ⟨W.heap.size, 0, none⟩) m m) (W.alloc (.cells (cellsOf (pack m (fun _ => false))) 5)) := by
  subst hz
  obtain ⟨i0, hi, hz0, hz1, hz2⟩ := info_parts Tryd.info5
  have := run_make (P := Tryd.prog) W 34 5 i0 (.int .u8 0) Tryd.underlying34 hi hz0 .i64 .i64 (m : Int) (m : Int) (by omega) (Int.le_refl _) (by rw [hz2]; omega) (by omega)
  rw [Int.toNat_natCast, hz1, Nat.mul_one] at this
  rw [this, ← made_zero]
  rfl
theorem and7 (p : Nat) (hp : p < 16384) : Go.bits BinOp.and IntKind.i64 (p : Int) 7 = (p : Int) % 8 := by
  have hx : p &&& 7 < 2 ^ 63 := Nat.and_lt_two_pow _ (by omega)
  have ofI : ∀ a : Nat, a < 9223372036854775808 → (BitVec.ofInt 64 (a : Int)).toNat = a := fun a ha => by
    rw [BitVec.ofInt_natCast, BitVec.toNat_ofNat]; exact Nat.mod_eq_of_lt (by omega)
  have h6 : p &&& 7 = p % 8 := Nat.and_two_pow_sub_one_eq_mod p 3
  show IntKind.i64.wrap ((BitVec.ofInt 64 (p : Int) &&& BitVec.ofInt 64 (7 : Int)).toNat : Int) = _
  rw [BitVec.toNat_and, ofI p (by omega), show (7 : Int) = ((7 : Nat) : Int) from rfl, ofI 7 (by omega), h6, IntKind.wrap_i64]
  omega
theorem byteN_upto (f : Nat → Bool) (i : Nat) : byteN (upF f (8 * (i + 1))) i = byteN f i := by
  unfold byteN
  apply bitsN_ext
  intro k hk
  unfold upF
  simp; omega
theorem upF_far8 (f : Nat → Bool) (i k : Nat) (h : k / 8 ≠ i) : upF f (8 * (i + 1)) k = upF f (8 * i) k := by
  unfold upF
  have : decide (k < 8 * (i + 1)) = decide (k < 8 * i) := by rw [decide_eq_decide]; omega
  rw [this]
theorem word_byteI (f : Nat → Bool) (i : Nat) : ((wordN f (i / 8) : Nat) : Int) / 2 ^ (8 * (i % 8)) % 256 = ((byteN f i : Nat) : Int) := by
  rw [cast_pow, ← word_byte f i]
  omega

section
variable {w : World} {g h n m : Nat} {f : Nat → Bool}
set_option maxRecDepth 20000 in
set_option maxHeartbeats 800000 in
theorem Bytes_any (V : Sp w g h n m f) (q : Nat) (hq : q = (n + 7) / 8) : Calls Tryd.prog 19 #[.pointer (some ⟨g, 0, none⟩)] w (NewInts .u8 w.heap.size (pack q f) w) := by
  have HV := Lib.hid V
  obtain ⟨c0, c1, c2⟩ := V.cells
  have hl := V.lim
  have hqI : ((n : Int) + 7) / 8 = (q : Int) := by omega
  have hq1 : n ≤ 8 * q ∧ 8 * q < n + 8 := by omega
  have hq2 : q ≤ 2049 := by omega
  have hmk := fun W => make_zero q (by omega) (((n : Int) + 7) / 8) hqI W
  have HQ := Lib.hid hq1
  clear V hq hqI
  have hu0 : pack q (fun _ => false) = pack q (upF f (8 * 0)) := by
    congr 1
    funext k
    simp [upF]
  have HR0 := Lib.hid (show (w.alloc (.cells (cellsOf (pack q (upF f (8 * 0)))) 5)).heap[w.heap.size]? = some (.cells (cellsOf (pack q (upF f (8 * 0)))) 5 (0, 0)) from heap_alloc_last _ _)
  have HG0 := Lib.hid (show Below w.heap.size w (w.alloc (.cells (cellsOf (pack q (upF f (8 * 0)))) 5)) from (Below.refl _ _).alloc (Nat.le_refl _) _)
  have HU0 := Lib.hid hu0
  clear hu0 hq1
  go_enter Tryd.func19, Tryd.ntmps19
  go_wp2_with fail
  rw [HU0.out]
  go_loopg [16] q (fun kq v16 w' => ∃ i : Nat, v16 = .int .i64 (i : Int) ∧ i + kq = q ∧ w'.heap[w.heap.size]? = some (.cells (cellsOf (pack q (upF f (8 * i)))) 5 (0, 0)) ∧ Below w.heap.size w w')
  case atStart => exact ⟨0, rfl, by omega, HR0.out, HG0.out⟩
  case round =>
    obtain ⟨i, rfl, hi, hrow, G⟩ := hrel
    have V := HV.out.kept (R := fun _ => False) (Chg.belowAt G) (fun h => h) (fun h => h)
    obtain ⟨d0, d1, d2⟩ := V.cells
    have HG := Lib.hid G
    have HRW := Lib.hid hrow
    by_cases hlt : i < q
    · have hq3 := HQ.out
      have hw := V.word (i / 8) (by omega)
      have hand := and7 i (by omega)
      have HWB := Lib.hid (word_byteI f i)
      have hwl := wordN_lt f (i / 8)
      have i0 : (0 : Int) ≤ (i : Int) % 8 := by omega
      have i1 : (i : Int) < (q : Int) := by omega
      have i2 : (0 : Int) ≤ (i : Int) / 8 := by omega
      have i3 : (i : Int) / 8 < (m : Int) := by omega
      have i4 : (i : Int) % 8 < 8 := by omega
      have hfz := free_row hrow i
      have hby : wr.cell? ⟨w.heap.size, i, none⟩ = some (.int .u8 (byteN (upF f (8 * i)) i)) := by rw [cell_of_row _ _ _ _ _ _ hrow, cellsOf_get _ _ (by rw [pack_length]; exact hlt), pack_get _ _ _ hlt]
      have hset := setCell_row hrow i (.int .u8 ((byteN (upF f (8 * (i + 1))) i : Nat) : Int))
      rw [cellsOf_set, pack_set _ _ _ _ hlt (fun k _ hk => upF_far8 f i k hk), byteN_upto] at hset
      have HSET := Lib.hid hset
      generalize wordN f (i / 8) = x at *
      clear V hrow G hset hq3
      go_wp2_with fail
      go_roundg (q - (i + 1))
      case measure => omega
      case rel => exact ⟨i + 1, by go_num, by omega, by rw [HWB.out]; exact HSET.out, HG.out.setCell (by simp) _⟩
    · obtain rfl : i = q := by omega
      have HP := Lib.hid (pack_ext i (upF f (8 * i)) f (fun k hk => by simp [upF, hk]))
      rw [HP.out] at HRW
      have HPL := Lib.hid (pack_length i f)
      clear V hrow G
      go_wp2
      go_ret
      refine ⟨some ⟨w.heap.size, 0, none⟩, i, by rw [HPL.out]; rfl, by rw [HPL.out]; exact Nat.le_refl _, ints_block HRW.out, ?_, HG.out⟩
      intro ad e
      cases e
      exact ⟨Nat.le_refl _, row_lt HRW.out⟩
end
end Go.Proofs.YtdnincnfamcchaaDoor
