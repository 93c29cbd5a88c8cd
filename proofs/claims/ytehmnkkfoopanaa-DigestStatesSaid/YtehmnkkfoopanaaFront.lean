/- digest: few, Front; the document's Front. -/
import Derived.Test.YtehmnkkfoopanaaRsum
namespace Go.Proofs.Ytehmnkkfoopanaa
open Go.RowKit

theorem few_any (A : Option Addr) (n c : Nat) (w : World) (hc : n ≤ c) : Calls Try.prog 10 #[.slice A n c] w fun e w' => e = .returned (.slice A (min n 100000) c) ∧ w = w' := by
  have e : (min (n : Int) 100000).toNat = min n 100000 := by omega
  have HE := Lib.hid e
  clear e
  go_enter Try.func10, Try.ntmps10
  go_wp2_with fail
  go_ret
  refine ⟨?_, rfl⟩
  show Ending.returned (Value.slice A (min (n : Int) 100000).toNat c) = _
  rw [HE.out]

/-- The first bytes as a number. -/
def frF (l : List Int) : Nat → Nat
  | 0 => 0
  | i + 1 => frF l i * 256 + (l.getD i 0).toNat
theorem frF_lt {l : List Int} (h : Bytes l) : ∀ i, frF l i < 256 ^ i
  | 0 => Nat.one_pos
  | i + 1 => by
    have := frF_lt h i
    obtain ⟨b0, b1⟩ := h i
    show frF l i * 256 + (l.getD i 0).toNat < 256 ^ (i + 1)
    rw [Nat.pow_succ]
    omega
theorem frF_le {l : List Int} (h : Bytes l) (i : Nat) (hi : i < 8) : frF l i < 72057594037927936 := by
  have := frF_lt h i
  have : 256 ^ i ≤ 256 ^ 7 := Nat.pow_le_pow_right (by decide) (by omega)
  omega
theorem or_byte (a x : Nat) (ha : a < 72057594037927936) (hx : x < 256) : Go.bits .or .u64 ((a : Int) * 256) (x : Int) = ((a * 256 + x : Nat) : Int) := by
  have ofN : ∀ z : Nat, z < 18446744073709551616 → (BitVec.ofInt 64 (z : Int)).toNat = z := fun z hz => by
    rw [BitVec.ofInt_natCast, BitVec.toNat_ofNat]; exact Nat.mod_eq_of_lt (by omega)
  have h1 : (256 * a) ||| x = 256 * a + x := (Nat.two_pow_add_eq_or_of_lt (i := 8) hx a).symm
  show IntKind.u64.wrap ((BitVec.ofInt 64 ((a : Int) * 256) ||| BitVec.ofInt 64 (x : Int)).toNat : Int) = _
  rw [BitVec.toNat_or, show (a : Int) * 256 = ((256 * a : Nat) : Int) by rw [Int.mul_comm]; rfl, ofN _ (by omega), ofN _ (by omega), h1, IntKind.wrap_u64]
  omega
set_option maxRecDepth 20000 in
set_option maxHeartbeats 1600000 in
theorem Front_any (l : List Int) (w : World) (h32 : l.length = 32) (hb : Bytes l) : Calls Try.prog 13 #[.agg (cellsOf l)] w fun e w' => e = .returned (.int .u64 (frF l 8)) ∧ Below w.heap.size w w' := by
  have H32 := Lib.hid h32
  have HB := Lib.hid hb
  have HBW := Lib.hid (below_refl_grown (grown_alloc w (.cells (cellsOf l) 24) none))
  have HRW := Lib.hid (heap_alloc_last w (.cells (cellsOf l) 24))
  clear h32 hb
  go_enter Try.func13, Try.ntmps13
  go_upto_region 2 with (fail)
  change Code.wp _ _ _ _ (w.alloc (.cells (cellsOf l) 24))
  obtain ⟨w1, hw1⟩ : ∃ z, z = w.alloc (.cells (cellsOf l) 24) := ⟨_, rfl⟩
  obtain ⟨g, hg⟩ : ∃ z, z = w.heap.size := ⟨_, rfl⟩
  rw [← hw1] at HBW HRW ⊢
  rw [← hg] at HRW ⊢
  clear hw1 hg
  go_wp2_with fail
  go_loopg [3, 8] 8 (fun kq v3 v8 w' => ∃ i : Nat, v3 = .int .u64 (frF l i : Nat) ∧ v8 = .int .i64 (i : Int) ∧ i + kq = 8 ∧ w' = w1)
  case atStart => exact ⟨0, rfl, rfl, by omega, rfl⟩
  case round =>
    obtain ⟨i, rfl, rfl, hi, rfl⟩ := hrel
    by_cases hlt : i < 8
    · have c1 : wr.cell? ⟨g, i, none⟩ = some (.int .u8 (l.getD i 0)) := by rw [cell_of_row _ _ _ _ _ _ HRW.out]; exact cellsOf_get _ _ (by rw [H32.out]; omega)
      have hx := frF_le HB.out i hlt
      have HS := Lib.hid (show frF l (i + 1) = frF l i * 256 + (l.getD i 0).toNat from rfl)
      obtain ⟨b0, b1⟩ := HB.out i
      obtain ⟨x, hxx⟩ := Int.eq_ofNat_of_zero_le b0
      rw [hxx] at HS c1 b1
      rw [Int.toNat_natCast] at HS
      have i1 : (i : Int) < 8 := by omega
      generalize hf : frF l i = f at *
      have HO := Lib.hid (or_byte f x hx (by omega))
      have hm : IntKind.u64.wrap ((f : Int) * 256) = (f : Int) * 256 := by rw [IntKind.wrap_u64]; omega
      have b2 : (x : Int) < 256 := by omega
      clear hxx b0 b1 hlt hf hx
      go_upto_region 5 with (fail)
      have hm2 : IntKind.u64.wrap ((f : Int) * 2 ^ 8) = (f : Int) * 256 := hm
      have ho := HO.out
      go_upto_region 6 with (fail)
      clear hm hm2 ho
      go_wp2_with fail
      go_roundg (8 - (i + 1))
      case measure => omega
      case rel => exact ⟨i + 1, by rw [HS.out]; rfl, by go_num, by omega, rfl⟩
    · have hi8 : i = 8 := by omega
      subst hi8
      clear hlt hi
      go_wp2_with fail
      go_ret
      exact ⟨rfl, HBW.out⟩

set_option maxRecDepth 20000 in
set_option maxHeartbeats 1600000 in
theorem RFront_any (l : List Int) (w : World) (h32 : l.length = 32) (hb : Bytes l) : Calls Try.prog 14 #[.agg (cellsOf l)] w fun e w' => e = .returned (.int .u64 (frF l 8)) ∧ Below w.heap.size w w' := by
  have H32 := Lib.hid h32
  have HB := Lib.hid hb
  have HBW := Lib.hid (below_refl_grown (grown_alloc w (.cells (cellsOf l) 24) none))
  have HRW := Lib.hid (heap_alloc_last w (.cells (cellsOf l) 24))
  clear h32 hb
  go_enter Try.func14, Try.ntmps14
  go_upto_region 2 with (fail)
  change Code.wp _ _ _ _ (w.alloc (.cells (cellsOf l) 24))
  obtain ⟨w1, hw1⟩ : ∃ z, z = w.alloc (.cells (cellsOf l) 24) := ⟨_, rfl⟩
  obtain ⟨g, hg⟩ : ∃ z, z = w.heap.size := ⟨_, rfl⟩
  rw [← hw1] at HBW HRW ⊢
  rw [← hg] at HRW ⊢
  clear hw1 hg
  go_wp2_with fail
  go_loopg [3, 4] 8 (fun kq v3 v4 w' => ∃ i : Nat, v3 = .int .u64 (frF l i : Nat) ∧ v4 = .int .i64 (i : Int) ∧ i + kq = 8 ∧ w' = w1)
  case atStart => exact ⟨0, rfl, rfl, by omega, rfl⟩
  case round =>
    obtain ⟨i, rfl, rfl, hi, rfl⟩ := hrel
    by_cases hlt : i < 8
    · have c1 : wr.cell? ⟨g, i, none⟩ = some (.int .u8 (l.getD i 0)) := by rw [cell_of_row _ _ _ _ _ _ HRW.out]; exact cellsOf_get _ _ (by rw [H32.out]; omega)
      have hx := frF_le HB.out i hlt
      have HS := Lib.hid (show frF l (i + 1) = frF l i * 256 + (l.getD i 0).toNat from rfl)
      obtain ⟨b0, b1⟩ := HB.out i
      obtain ⟨x, hxx⟩ := Int.eq_ofNat_of_zero_le b0
      rw [hxx] at HS c1 b1
      rw [Int.toNat_natCast] at HS
      have i1 : (i : Int) < 8 := by omega
      have i2 : (i : Int) < 32 := by omega
      generalize hf : frF l i = f at *
      have hm : IntKind.u64.wrap ((f : Int) * 256) = (f : Int) * 256 := by rw [IntKind.wrap_u64]; omega
      have ha : IntKind.u64.wrap ((f : Int) * 256 + (x : Int)) = ((f * 256 + x : Nat) : Int) := by rw [IntKind.wrap_u64]; omega
      have b2 : (x : Int) < 256 := by omega
      clear hxx b0 b1 hlt hf hx
      go_upto_region 4 with (fail)
      clear hm ha
      go_wp2_with fail
      go_roundg (8 - (i + 1))
      case measure => omega
      case rel => exact ⟨i + 1, by rw [HS.out]; rfl, by go_num, by omega, rfl⟩
    · have hi8 : i = 8 := by omega
      subst hi8
      clear hlt hi
      go_wp2_with fail
      go_ret
      exact ⟨rfl, HBW.out⟩
end Go.Proofs.Ytehmnkkfoopanaa
