/- Texts of the proof, one behind the other: bloom: New, Add, May, Or, Bytes, Clear. -/
import Derived.Test.YtcklcffepedklaaGreatM15
import Derived.BigRegion
import Derived.StillTailTactics
namespace Go.Proofs.YtcklcffepedklaaGreat.Bl
open Go.RowKit

theorem info35 {k : Array Value} {b : Nat → Nat} {n : Nat} (K : KeyC k b n) : (Tryz.prog.info? 64).map (·.size) = some k.size := by rw [K.size]; kernel_rfl

set_option maxRecDepth 20000 in
set_option maxHeartbeats 400000 in
theorem Add_any (g h bits probes : Nat) (f : Nat → Bool) (k : Array Value) (b : Nat → Nat) (n : Nat) (w : World) (V : Vec w g h bits probes f) (hgh : g ≠ h) (K : KeyC k b n) :
    Calls Tryz.prog 89 #[.pointer (some ⟨g, 0, none⟩), .agg k] w fun e w' => e = .returned (.tuple #[]) ∧ w.grownBy w' (some h) ∧ Vec w' g h bits probes (puts f (placesK bits probes b n)) := by
  have HC := Lib.hid (each_set g h bits probes f k b n (w.alloc (.cells k 64)) (V.kept (grown_alloc w _ none) (by simp) (by simp)) hgh K)
  have HI := Lib.hid (info35 K)
  have HG := Lib.hid (grown_alloc w (.cells k 64) (some h))
  go_enter Tryz.func89, Tryz.ntmps89
  go_wp2_with (first | (with_reducible refine wpList_load_row rfl 64 _ rfl w.heap.size rfl 64 _ (0, 0) _ (heap_alloc_last _ _) Tryz.underlying64 rfl HI.out ?_) | (go_at_call 103; refine HC.out.mono ?_; rintro e w2 ⟨rfl, hg2, hv2⟩))
  go_end0
  exact ⟨rfl, grown_trans HG.out hg2, hv2⟩

set_option maxRecDepth 20000 in
set_option maxHeartbeats 400000 in
theorem May_any (g h bits probes : Nat) (f : Nat → Bool) (k : Array Value) (b : Nat → Nat) (n : Nat) (w : World) (V : Vec w g h bits probes f) (K : KeyC k b n) :
    Calls Tryz.prog 77 #[.pointer (some ⟨g, 0, none⟩), .agg k] w fun e w' => e = .returned (.bool ((placesK bits probes b n).all f)) ∧ w.grownBy w' none := by
  have HC := Lib.hid (each_is g h bits probes f k b n (w.alloc (.cells k 64)) (V.kept (grown_alloc w _ none) (by simp) (by simp)) K)
  have HI := Lib.hid (info35 K)
  have HG := Lib.hid (grown_alloc w (.cells k 64) none)
  generalize (placesK bits probes b n).all f = r at *
  go_enter Tryz.func77, Tryz.ntmps77
  go_wp2_with (first | (with_reducible refine wpList_load_row rfl 64 _ rfl w.heap.size rfl 64 _ (0, 0) _ (heap_alloc_last _ _) Tryz.underlying64 rfl HI.out ?_) | (go_at_call 103; refine HC.out.mono ?_; rintro e w2 ⟨rfl, hg2⟩))
  go_ret
  exact ⟨rfl, grown_trans HG.out hg2⟩

theorem Tryz.info5 : (Tryz.prog.info? 5).map (fun i => (i.zero, i.size, i.bytes)) = some (some (.int .u8 0), 1, 1) := by kernel_rfl
theorem E22 : Elem Tryz.prog 22 5 1 1 := by
  obtain ⟨i0, hi, hz0, hz1, hz2⟩ := info_parts Tryz.info5
  exact ⟨Tryz.underlying22, ⟨i0, _, hi, hz0, hz1, hz2, rfl⟩, by decide⟩
theorem zero5 (w : World) : (zeroValue 5).run Tryz.prog w = .ok (.int .u8 0) w := by kernel_rfl
theorem made_zero (m : Nat) : madeCells #[.int .u8 0] m = cellsOf (pack m (fun _ => false)) := by
  rw [madeCells_rep, pack_zero, cellsOf, List.map_replicate]

/-- A new summary. -/
def NewVec (bits probes : Nat) (w : World) (e : Ending) (w' : World) : Prop :=
  e = .returned (.tuple #[.pointer (some ⟨w.heap.size + 1, 0, none⟩), .int .i64 0]) ∧ w.grownBy w' none ∧ Vec w' (w.heap.size + 1) w.heap.size bits probes (fun _ => false) ∧ w'.heap.size = w.heap.size + 2

set_option maxRecDepth 20000 in
theorem New_bad (bits probes : Int) (w : World) (h : bits < 0 ∨ 1048576 < bits ∨ probes < 0 ∨ 30 < probes) :
    Calls Tryz.prog 54 #[.int .i64 bits, .int .i64 probes] w fun e w' => e = .returned (.tuple #[.pointer none, .int .i64 1]) ∧ w = w' := by
  by_cases h1 : bits < 0
  · go_enter Tryz.func54, Tryz.ntmps54
    go_wp2
    go_ret2
    exact ⟨rfl, rfl⟩
  · by_cases h2 : 1048576 < bits
    · go_enter Tryz.func54, Tryz.ntmps54
      go_wp2
      go_ret2
      exact ⟨rfl, rfl⟩
    · by_cases h3 : probes < 0
      · go_enter Tryz.func54, Tryz.ntmps54
        go_wp2
        go_ret2
        exact ⟨rfl, rfl⟩
      · have h4 : 30 < probes := by omega
        go_enter Tryz.func54, Tryz.ntmps54
        go_wp2
        go_ret2
        exact ⟨rfl, rfl⟩

set_option maxRecDepth 20000 in
theorem New_any (bits probes : Nat) (w : World) (h1 : bits ≤ 1048576) (h2 : probes ≤ 30) :
    Calls Tryz.prog 54 #[.int .i64 bits, .int .i64 probes] w (NewVec bits probes w) := by
  obtain ⟨i0, hi, hz0, hz1, hz2⟩ := info_parts Tryz.info5
  have hmk : ∀ W : World, (Instr.makeSlice 22 (.int .i64 (((bits : Int) + 7) / 8)) (.int .i64 (((bits : Int) + 7) / 8))).run Tryz.prog W = .ok (.slice (some ⟨W.heap.size, 0, none⟩) ((bits + 7) / 8) ((bits + 7) / 8)) (W.alloc (.cells (cellsOf (pack ((bits + 7) / 8) (fun _ => false))) 5)) := by
    intro W
    have := run_make (P := Tryz.prog) W 22 5 i0 (.int .u8 0) Tryz.underlying22 hi hz0 .i64 .i64 (((bits : Int) + 7) / 8) (((bits : Int) + 7) / 8) (by omega) (Int.le_refl _) (by rw [hz2]; omega) (by omega)
    rw [show (((bits : Int) + 7) / 8).toNat = (bits + 7) / 8 from by omega, hz1, Nat.mul_one] at this
    rw [this, ← made_zero]
    rfl
  go_enter Tryz.func54, Tryz.ntmps54
  go_wp2
  go_ret2
  refine ⟨rfl, ?_, ?_, by simp⟩
  · exact grown_trans (grown_alloc _ _ _) (grown_alloc _ _ _)
  · refine ⟨?_, ?_, ⟨h1, h2⟩, fun _ _ => rfl⟩
    · have := heap_alloc_last (w.alloc (.cells (cellsOf (pack ((bits + 7) / 8) (fun _ => false))) 5)) (.cells #[.slice (some ⟨w.heap.size, 0, none⟩) ((bits + 7) / 8) ((bits + 7) / 8), .int .i64 bits, .int .i64 probes] 166)
      rw [World.size_alloc] at this
      exact this
    · rw [Below.heap_alloc _ _ _ (by simp)]; exact heap_alloc_last _ _

/-- A new row of bytes. -/
def NewOwn (n : Nat) (l : List Int) (w : World) (e : Ending) (w' : World) : Prop :=
  ∃ v, e = .returned v ∧ w'.ownsRow w.heap.size 5 1 v n (l.map (Value.int .u8)) ∧ Below w.heap.size w w'

/-- A summary of m bytes whose bits may lie beyond its bound: within Or. -/
structure VecR (w : World) (g rb m bits probes : Nat) (f : Nat → Bool) : Prop where
  obj : w.heap[g]? = some (.cells #[.slice (some ⟨rb, 0, none⟩) m m, .int .i64 bits, .int .i64 probes] 166 (0, 0))
  row : w.heap[rb]? = some (.cells (cellsOf (pack m f)) 5 (0, 0))
theorem VecR.cells {w : World} {g rb m bits probes : Nat} {f : Nat → Bool} (V : VecR w g rb m bits probes f) :
    w.cell? ⟨g, 0, none⟩ = some (.slice (some ⟨rb, 0, none⟩) m m) ∧ w.cell? ⟨g, 1, none⟩ = some (.int .i64 bits) ∧ w.cell? ⟨g, 2, none⟩ = some (.int .i64 probes) := by
  refine ⟨?_, ?_, ?_⟩ <;> rw [cell_of_row _ _ _ _ _ _ V.obj] <;> rfl
theorem VecR.byte {w : World} {g rb m bits probes : Nat} {f : Nat → Bool} (V : VecR w g rb m bits probes f) (i : Nat) (hi : i < m) : w.cell? ⟨rb, i, none⟩ = some (.int .u8 (byteN f i)) := by
  rw [cell_of_row _ _ _ _ _ _ V.row, cellsOf_get _ _ (by rw [pack_length]; exact hi), pack_get _ _ _ hi]
theorem VecR.set {w : World} {g rb m bits probes : Nat} {f f' : Nat → Bool} (V : VecR w g rb m bits probes f) (hgh : g ≠ rb) (i : Nat) (hi : i < m) (hf : ∀ k, k < 8 * m → k / 8 ≠ i → f' k = f k) (v : Value) (hv : v = .int .u8 (byteN f' i)) :
    VecR (w.setCell ⟨rb, i, none⟩ v) g rb m bits probes f' := by
  subst hv
  refine ⟨?_, ?_⟩
  · rw [Below.heap_setCell _ _ _ _ hgh]; exact V.obj
  · rw [setCell_row V.row, cellsOf_set, pack_set _ _ _ _ hi hf]
theorem VecR.congr {w : World} {g rb m bits probes : Nat} {f f' : Nat → Bool} (V : VecR w g rb m bits probes f) (h : ∀ k, k < 8 * m → f k = f' k) : VecR w g rb m bits probes f' := ⟨V.obj, by rw [← pack_ext m f f' h]; exact V.row⟩
theorem VecR.drewN {w : World} {g rb m bits probes : Nat} {f : Nat → Bool} (V : VecR w g rb m bits probes f) (n : Nat) : VecR (w.drewN n) g rb m bits probes f := ⟨V.obj, V.row⟩

/-- What the bits of bytes do. -/
def orAll (bits : Nat) (f : Nat → Bool) (b : List Int) : Nat → Bool := fun q => f q || (decide (q < bits) && bitOf b q)

/-- One round of Or's loop, at bytes x and y. -/
theorem or_byte {x y : Nat} (hx : x < 256) (hy : y < 256) : Go.bits BinOp.or IntKind.u8 (x : Int) (y : Int) = ((x ||| y : Nat) : Int) := u8_or_nat x y hx hy

theorem and_i64 (a b : Nat) (ha : a < 9223372036854775808) (hb : b < 9223372036854775808) : Go.bits BinOp.and IntKind.i64 (a : Int) (b : Int) = ((a &&& b : Nat) : Int) := by
  have hx : a &&& b < 2 ^ 63 := Nat.and_lt_two_pow _ (by omega)
  have ofI : ∀ a : Nat, a < 9223372036854775808 → (BitVec.ofInt 64 (a : Int)).toNat = a := fun a ha => by
    rw [BitVec.ofInt_natCast, BitVec.toNat_ofNat]; exact Nat.mod_eq_of_lt (by omega)
  show IntKind.i64.wrap ((BitVec.ofInt 64 (a : Int) &&& BitVec.ofInt 64 (b : Int)).toNat : Int) = _
  rw [BitVec.toNat_and, ofI a ha, ofI b hb, IntKind.wrap_i64]
  omega

theorem mask_byte (f : Nat → Bool) (bits : Nat) : Go.bits BinOp.and IntKind.u8 ((byteN f (bits / 8) : Nat) : Int) ((2 ^ (bits % 8) - 1) % 256) = ((byteN (upF f bits) (bits / 8) : Nat) : Int) := by
  have h1 := byteN_lt f (bits / 8)
  have h2 := pow8 bits
  have h3 := u8_and_nat (byteN f (bits / 8)) (2 ^ (bits % 8) - 1) h1 (by omega)
  rw [byteN_up] at h3
  have h0 : 0 < 2 ^ (bits % 8) := Nat.pow_pos (by decide)
  have e : ((2 : Int) ^ (bits % 8) - 1) % 256 = ((2 ^ (bits % 8) - 1 : Nat) : Int) := by
    rw [cast_pow]
    generalize 2 ^ (bits % 8) = z at *
    omega
  rw [e]; exact h3

end Go.Proofs.YtcklcffepedklaaGreat.Bl
