/- space: Load. -/
import Derived.Test.YtdnincnfamcchaaDoorMath2
import Derived.Laws.Bits64b
import Derived.StillTailTactics
namespace Go.Proofs.YtdnincnfamcchaaDoor
open Go.RowKit

theorem word_putI (l : List Int) (h : Bytes l) (i : Nat) : Go.bits BinOp.or IntKind.u64 ((wordN (upF (bitOf l) (8 * i)) (i / 8) : Nat) : Int) (IntKind.u64.wrap (l.getD i 0 * 2 ^ (8 * (i % 8)))) = ((wordN (upF (bitOf l) (8 * (i + 1))) (i / 8) : Nat) : Int) := by
  obtain ⟨e, hc⟩ := byte_nat h i
  have hs := shl_lt _ i hc
  have h1 := wordN_lt (upF (bitOf l) (8 * i)) (i / 8)
  rw [e, cast_pow, ← Int.natCast_mul, IntKind.wrap_u64, Int.emod_eq_of_lt (by omega) (by omega), bits_or_u64_nat _ _ h1 hs, word_put l h i]

/-- A space that is being laid: the first i bytes are in. -/
structure Mid (w : World) (g h n m : Nat) (l : List Int) (i : Nat) : Prop where
  obj : w.heap[g]? = some (.cells #[.slice (some ⟨h, 0, none⟩) m m, .int .i64 n, .int .i64 ((takenL (bitOf l) (8 * i)).length : Nat)] 60 (0, 0))
  row : w.heap[h]? = some (.cells (wcells (wpack m (upF (bitOf l) (8 * i)))) 62 (0, 0))

theorem Load_bad (x : Int) (v : Value) (w : World) (h : x < 0 ∨ 16384 < x) : Calls Tryd.prog 15 #[.int .i64 x, v] w fun e w' => e = .returned (.tuple #[.pointer none, .int .i64 1]) ∧ w = w' := by
  have HN := Lib.hid (New_bad x w h)
  clear h
  go_enter Tryd.func15, Tryd.ntmps15
  go_wp2_with (go_at_call 10; refine HN.out.mono ?_; rintro e w' ⟨rfl, rfl⟩)
  go_ret2
  exact ⟨rfl, rfl⟩
theorem and7b (p : Nat) (hp : p < 1000000) : Go.bits BinOp.and IntKind.i64 (p : Int) 7 = (p : Int) % 8 := by
  have hx : p &&& 7 < 2 ^ 63 := Nat.and_lt_two_pow _ (by omega)
  have ofI : ∀ a : Nat, a < 9223372036854775808 → (BitVec.ofInt 64 (a : Int)).toNat = a := fun a ha => by
    rw [BitVec.ofInt_natCast, BitVec.toNat_ofNat]; exact Nat.mod_eq_of_lt (by omega)
  have h6 : p &&& 7 = p % 8 := Nat.and_two_pow_sub_one_eq_mod p 3
  show IntKind.i64.wrap ((BitVec.ofInt 64 (p : Int) &&& BitVec.ofInt 64 (7 : Int)).toNat : Int) = _
  rw [BitVec.toNat_and, ofI p (by omega), show (7 : Int) = ((7 : Nat) : Int) from rfl, ofI 7 (by omega), h6, IntKind.wrap_i64]
  omega
set_option maxRecDepth 20000 in
set_option maxHeartbeats 400000 in
theorem Load_len (n c q m : Nat) (A : Option Addr) (w : World) (h1 : n ≤ 16384) (hm : m = (n + 63) / 64) (hl : q ≠ (n + 7) / 8) (hq : q ≤ 1000000000000000) : Calls Tryd.prog 15 #[.int .i64 n, .slice A q c] w fun e w' => e = .returned (.tuple #[.pointer none, .int .i64 1]) ∧ w.grownBy w' none := by
  have HN := Lib.hid (New_any n m w h1 hm)
  obtain ⟨z, hz⟩ : ∃ z, z = (n + 7) / 8 := ⟨_, rfl⟩
  have hzI : ((n : Int) + 7) / 8 = (z : Int) := by omega
  have hne : ((q : Int) != (z : Int)) = true := by simp; omega
  clear hl hm hz
  go_enter Tryd.func15, Tryd.ntmps15
  go_wp2_with (go_at_call 10; refine HN.out.mono ?_; rintro e w' ⟨rfl, hg, hV, hs⟩)
  go_ret2
  exact ⟨rfl, hg⟩

set_option maxRecDepth 20000 in
set_option maxHeartbeats 400000 in
/-- A bit beyond the last place. -/
theorem Load_over (n c q m : Nat) (l : List Int) (A : Option Addr) (w : World) (h1 : n ≤ 16384) (hm : m = (n + 63) / 64) (hb : Bytes l) (hl : l.length = q) (hq : q = (n + 7) / 8) (hI : Ints .u8 w A l) (ho : ¬ Ok n l) :
    Calls Tryd.prog 15 #[.int .i64 n, .slice A q c] w fun e w' => e = .returned (.tuple #[.pointer none, .int .i64 1]) ∧ w.grownBy w' none := by
  have h8 : 0 < n % 8 := by
    rcases Nat.eq_zero_or_pos (n % 8) with h | h
    · exact absurd (ok_whole n l (hl.trans hq) h) ho
    · exact h
  have hz : ¬ (l.getD (l.length - 1) 0).toNat / 2 ^ (n % 8) = 0 := fun h => ho ((ok_last n l hb (hl.trans hq) h8).2 h)
  obtain ⟨e1, hc⟩ := byte_nat hb (l.length - 1)
  obtain ⟨ad, rfl, hcell⟩ := hI (l.length - 1) (by omega)
  have HN := Lib.hid (New_any n m w h1 hm)
  have hand := and7b n (by omega)
  have hqI : ((n : Int) + 7) / 8 = (q : Int) := by omega
  rw [hl] at hcell
  have hq1 : (q : Int) - 1 = ((q - 1 : Nat) : Int) := by omega
  have hdiv : ((l.getD (q - 1) 0 / 2 ^ (n % 8) : Int) > 0) := by
    rw [← hl, e1, cast_pow, ← Int.natCast_ediv]
    exact Int.natCast_pos.2 (Nat.pos_of_ne_zero hz)
  have n8 : (0 : Int) < (n : Int) % 8 := by omega
  have hq0 : 0 ≤ (q : Int) - 1 := by omega
  have hqs : q ≤ 2049 := by omega
  have hx0 : 0 ≤ l.getD (q - 1) 0 ∧ l.getD (q - 1) 0 < 256 := hb _
  obtain ⟨hx1, hx2⟩ := hx0
  have HC := Lib.hid hcell
  generalize l.getD (q - 1) 0 = x at *
  clear hm hl hq ho hz e1 hc hI hcell
  go_enter Tryd.func15, Tryd.ntmps15
  go_wp2_with (go_at_call 10; refine HN.out.mono ?_; rintro e w' ⟨rfl, hg, hV, hs⟩; have hcell := (World.cell?_of_block (w := w) (hg.block _ (cell_lt HC.out) (by simp))).trans HC.out)
  go_ret2
  exact ⟨rfl, hg⟩
end Go.Proofs.YtdnincnfamcchaaDoor
