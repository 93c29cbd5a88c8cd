/- bloom's summary: its bits, set and read. -/
import Derived.Test.YteodhbkhkecigaaProg
import Derived.Test.YteodhbkhkecigaaMath
namespace Go.Proofs.Yteodhbkhkecigaa
open Go.RowKit

/-- A summary at block g, its bytes in block h: its bits are f. -/
structure Vec (w : World) (g h bits probes : Nat) (f : Nat → Bool) : Prop where
  obj : w.heap[g]? = some (.cells #[.slice (some ⟨h, 0, none⟩) ((bits + 7) / 8) ((bits + 7) / 8), .int .i64 bits, .int .i64 probes] 58 (0, 0))
  row : w.heap[h]? = some (.cells (cellsOf (pack ((bits + 7) / 8) f)) 5 (0, 0))
  lim : bits ≤ 1048576 ∧ probes ≤ 30
  out : ∀ p, bits ≤ p → f p = false

theorem Vec.cells {w : World} {g h bits probes : Nat} {f : Nat → Bool} (V : Vec w g h bits probes f) :
    w.cell? ⟨g, 0, none⟩ = some (.slice (some ⟨h, 0, none⟩) ((bits + 7) / 8) ((bits + 7) / 8)) ∧ w.cell? ⟨g, 1, none⟩ = some (.int .i64 bits) ∧ w.cell? ⟨g, 2, none⟩ = some (.int .i64 probes) := by
  refine ⟨?_, ?_, ?_⟩ <;> rw [cell_of_row _ _ _ _ _ _ V.obj] <;> rfl
theorem Vec.byte {w : World} {g h bits probes : Nat} {f : Nat → Bool} (V : Vec w g h bits probes f) (i : Nat) (hi : i < (bits + 7) / 8) : w.cell? ⟨h, i, none⟩ = some (.int .u8 (byteN f i)) := by
  rw [cell_of_row _ _ _ _ _ _ V.row, cellsOf_get _ _ (by rw [pack_length]; exact hi), pack_get _ _ _ hi]
theorem Vec.free {w : World} {g h bits probes : Nat} {f : Nat → Bool} (V : Vec w g h bits probes f) (i : Nat) : w.frozen? ⟨h, i, none⟩ = false := by
  unfold World.frozen?
  rw [V.row]
  simp

theorem Vec.glt {w : World} {g h bits probes : Nat} {f : Nat → Bool} (V : Vec w g h bits probes f) : g < w.heap.size := by
  rcases Nat.lt_or_ge g w.heap.size with h | h
  · exact h
  · have := V.obj; rw [Array.getElem?_eq_none h] at this; cases this
theorem Vec.hlt {w : World} {g h bits probes : Nat} {f : Nat → Bool} (V : Vec w g h bits probes f) : h < w.heap.size := by
  rcases Nat.lt_or_ge h w.heap.size with hh | hh
  · exact hh
  · have := V.row; rw [Array.getElem?_eq_none hh] at this; cases this
theorem Vec.kept {w w' : World} {g h bits probes : Nat} {f : Nat → Bool} {r : Option Nat} (V : Vec w g h bits probes f) (hg : w.grownBy w' r) (h1 : some g ≠ r) (h2 : some h ≠ r) : Vec w' g h bits probes f :=
  ⟨(hg.block g V.glt h1).trans V.obj, (hg.block h V.hlt h2).trans V.row, V.lim, V.out⟩
theorem Vec.put {w : World} {g h bits probes : Nat} {f : Nat → Bool} (V : Vec w g h bits probes f) (hgh : g ≠ h) {p : Nat} (hp : p < bits) :
    Vec (w.setCell ⟨h, p / 8, none⟩ (.int .u8 (byteN (Yteodhbkhkecigaa.put f p) (p / 8)))) g h bits probes (Yteodhbkhkecigaa.put f p) := by
  refine ⟨?_, ?_, V.lim, ?_⟩
  · rw [Below.heap_setCell _ _ _ _ hgh]; exact V.obj
  · rw [setCell_row V.row, cellsOf_set, pack_set _ _ _ _ (by omega)]
    intro k _ hk
    simp only [Yteodhbkhkecigaa.put]
    have : ¬ k = p := fun e => hk (by rw [e])
    simp [this]
  · intro q hq
    simp only [Yteodhbkhkecigaa.put, V.out q hq]
    have : ¬ q = p := by omega
    simp [this]

theorem pow8 (p : Nat) : (2 : Nat) ^ (p % 8) < 256 := by
  have h : p % 8 < 8 := Nat.mod_lt _ (by decide)
  exact Nat.lt_of_lt_of_le (Nat.pow_lt_pow_right (a := 2) (by decide) h) (Nat.le_refl _)
theorem cast_pow (j : Nat) : (2 : Int) ^ j = ((2 ^ j : Nat) : Int) := by rw [Int.natCast_pow]; rfl
theorem byte_is (f : Nat → Bool) (p : Nat) : (Go.bits BinOp.and IntKind.u8 ((byteN f (p / 8) : Nat) / 2 ^ (p % 8) : Int) 1 == 1) = f p := by
  have h1 := byteN_lt f (p / 8)
  have h4 := byteN_is f p
  generalize byteN f (p / 8) = B at *
  generalize p % 8 = j at *
  have h2 := u8_and_nat (B / 2 ^ j) 1 (Nat.lt_of_le_of_lt (Nat.div_le_self _ _) h1) (by decide)
  rw [nat_mask1] at h2
  rw [cast_pow, ← Int.natCast_ediv]
  have h3 : Go.bits BinOp.and IntKind.u8 ((B / 2 ^ j : Nat) : Int) 1 = ((B / 2 ^ j % 2 : Nat) : Int) := h2
  rw [h3, ← h4, Bool.eq_iff_iff, beq_iff_eq, decide_eq_true_eq]
  omega
theorem byte_set (f : Nat → Bool) (p : Nat) : Go.bits BinOp.or IntKind.u8 ((byteN f (p / 8) : Nat) : Int) (2 ^ (p % 8) % 256) = ((byteN (put f p) (p / 8) : Nat) : Int) := by
  have h1 := byteN_lt f (p / 8)
  have h2 := pow8 p
  have h3 := u8_or_nat (byteN f (p / 8)) (2 ^ (p % 8)) h1 h2
  rw [byteN_put] at h3
  have e : (2 : Int) ^ (p % 8) % 256 = ((2 ^ (p % 8) : Nat) : Int) := by
    rw [cast_pow]
    generalize 2 ^ (p % 8) = z at *
    omega
  rw [e]; exact h3

theorem is_any (g h bits probes : Nat) (f : Nat → Bool) (p : Nat) (w : World) (V : Vec w g h bits probes f) (hp : p < bits) :
    Calls Try.prog 25 #[.pointer (some ⟨g, 0, none⟩), .int .u32 p] w fun e w' => e = .returned (.bool (f p)) ∧ w = w' := by
  obtain ⟨c0, c1, c2⟩ := V.cells
  have hl := V.lim
  have cb := V.byte (p / 8) (by omega)
  have hb := byteN_lt f (p / 8)
  have hand : Go.bits BinOp.and IntKind.u32 (p : Int) 7 = (p : Int) % 8 := by
    have := u32_and_nat p 7 (by omega) (by omega)
    rw [nat_mask3] at this
    exact this
  have h0 : (0 : Int) ≤ (p : Int) % 8 := by omega
  go_enter Try.func25, Try.ntmps25
  go_wp2
  go_ret
  exact ⟨ret_bool (byte_is f p), rfl⟩

theorem set_any (g h bits probes : Nat) (f : Nat → Bool) (p : Nat) (w : World) (V : Vec w g h bits probes f) (hgh : g ≠ h) (hp : p < bits) :
    Calls Try.prog 22 #[.pointer (some ⟨g, 0, none⟩), .int .u32 p] w fun e w' => e = .returned (.bool true) ∧ w.grownBy w' (some h) ∧ Vec w' g h bits probes (put f p) := by
  obtain ⟨c0, c1, c2⟩ := V.cells
  have hl := V.lim
  have cb := V.byte (p / 8) (by omega)
  have cf := V.free (p / 8)
  have hb := byteN_lt f (p / 8)
  have hand : Go.bits BinOp.and IntKind.u32 (p : Int) 7 = (p : Int) % 8 := by
    have := u32_and_nat p 7 (by omega) (by omega)
    rw [nat_mask3] at this
    exact this
  have h0 : (0 : Int) ≤ (p : Int) % 8 := by omega
  go_enter Try.func22, Try.ntmps22
  go_wp2
  go_ret
  refine ⟨rfl, grown_setCell _ _ _ _, ?_⟩
  rw [byte_set]
  exact V.put hgh hp

end Go.Proofs.Yteodhbkhkecigaa
