/- digest: words of 32 bits: turned, mixed by four. -/
import Derived.Test.YtehmnkkfoopanaaProg
import Derived.Test.YtehmnkkfoopanaaStore
import Derived.StillTailTactics
import Derived.Deep.DeepCutAuto
import Derived.Laws.BitsAllLaws
namespace Go.Proofs.Ytehmnkkfoopanaa
open Go.RowKit

/-- A word of 32 bits. -/
def U (x : Int) : Prop := 0 ≤ x ∧ x < 4294967296
theorem U_mod (x : Int) : U (x % 4294967296) := ⟨by omega, by omega⟩
theorem bits32 (op : BinOp) (x y : Int) : ∃ z, Go.bits op .u32 x y = IntKind.u32.wrap z := by
  unfold Go.bits
  split <;> exact ⟨_, rfl⟩
theorem U_bits (op : BinOp) (x y : Int) : U (Go.bits op .u32 x y) := by
  obtain ⟨z, hz⟩ := bits32 op x y
  rw [hz, IntKind.wrap_u32']
  exact U_mod _
theorem or_comm32 (x y : Int) : Go.bits .or .u32 x y = Go.bits .or .u32 y x := by
  show IntKind.u32.wrap (((BitVec.ofInt 32 x ||| BitVec.ofInt 32 y).toNat : Nat) : Int) = IntKind.u32.wrap (((BitVec.ofInt 32 y ||| BitVec.ofInt 32 x).toNat : Nat) : Int)
  rw [BitVec.or_comm]
/-- Turned right. -/
def rot (x : Int) (n : Nat) : Int := Go.bits .or .u32 (x / ((2 ^ n : Nat) : Int)) (x * ((2 ^ (32 - n) : Nat) : Int) % 4294967296)
theorem U_rot (x : Int) (n : Nat) : U (rot x n) := U_bits _ _ _
/-- Four words, mixed with two. -/
def quA (a b x : Int) : Int := (a + b + x) % 4294967296
def quD (d a : Int) (n : Nat) : Int := rot (Go.bits .xor .u32 d a) n
def quC (c d : Int) : Int := (c + d) % 4294967296
structure Q4 where
  a : Int
  b : Int
  c : Int
  d : Int
def quarter (a b c d x y : Int) : Q4 :=
  let a1 := quA a b x
  let d1 := quD d a1 16
  let c1 := quC c d1
  let b1 := quD b c1 12
  let a2 := quA a1 b1 y
  let d2 := quD d1 a2 8
  let c2 := quC c1 d2
  let b2 := quD b1 c2 7
  ⟨a2, b2, c2, d2⟩

theorem right_16 (x : Int) (w : World) (hx : U x) : Calls Try.prog 29 #[.int .u32 x, .int .i64 16] w fun e w' => e = .returned (.int .u32 (rot x 16)) ∧ w' = w.drew := by
  obtain ⟨h0, h1⟩ := hx
  go_enter Try.func29, Try.ntmps29
  go_wp2_with fail
  go_region
  go_wp2_with fail
  go_ret
  exact ⟨rfl, rfl⟩
theorem rotl_16 (x : Int) (w : World) (hx : U x) : Calls Try.prog 30 #[.int .u32 x, .int .i64 (-16)] w fun e w' => e = .returned (.int .u32 (rot x 16)) ∧ w = w' := by
  obtain ⟨h0, h1⟩ := hx
  have hk : Go.bits .and .u64 (IntKind.u64.wrap (-16)) 31 = 16 := by decide +kernel
  unfold rot
  rw [or_comm32]
  go_enter Try.func30, Try.ntmps30
  go_wp2_with fail
  go_ret
  exact ⟨rfl, rfl⟩
theorem right_12 (x : Int) (w : World) (hx : U x) : Calls Try.prog 29 #[.int .u32 x, .int .i64 12] w fun e w' => e = .returned (.int .u32 (rot x 12)) ∧ w' = w.drew := by
  obtain ⟨h0, h1⟩ := hx
  go_enter Try.func29, Try.ntmps29
  go_wp2_with fail
  go_region
  go_wp2_with fail
  go_ret
  exact ⟨rfl, rfl⟩
theorem rotl_12 (x : Int) (w : World) (hx : U x) : Calls Try.prog 30 #[.int .u32 x, .int .i64 (-12)] w fun e w' => e = .returned (.int .u32 (rot x 12)) ∧ w = w' := by
  obtain ⟨h0, h1⟩ := hx
  have hk : Go.bits .and .u64 (IntKind.u64.wrap (-12)) 31 = 20 := by decide +kernel
  unfold rot
  rw [or_comm32]
  go_enter Try.func30, Try.ntmps30
  go_wp2_with fail
  go_ret
  exact ⟨rfl, rfl⟩
theorem right_8 (x : Int) (w : World) (hx : U x) : Calls Try.prog 29 #[.int .u32 x, .int .i64 8] w fun e w' => e = .returned (.int .u32 (rot x 8)) ∧ w' = w.drew := by
  obtain ⟨h0, h1⟩ := hx
  go_enter Try.func29, Try.ntmps29
  go_wp2_with fail
  go_region
  go_wp2_with fail
  go_ret
  exact ⟨rfl, rfl⟩
theorem rotl_8 (x : Int) (w : World) (hx : U x) : Calls Try.prog 30 #[.int .u32 x, .int .i64 (-8)] w fun e w' => e = .returned (.int .u32 (rot x 8)) ∧ w = w' := by
  obtain ⟨h0, h1⟩ := hx
  have hk : Go.bits .and .u64 (IntKind.u64.wrap (-8)) 31 = 24 := by decide +kernel
  unfold rot
  rw [or_comm32]
  go_enter Try.func30, Try.ntmps30
  go_wp2_with fail
  go_ret
  exact ⟨rfl, rfl⟩
theorem right_7 (x : Int) (w : World) (hx : U x) : Calls Try.prog 29 #[.int .u32 x, .int .i64 7] w fun e w' => e = .returned (.int .u32 (rot x 7)) ∧ w' = w.drew := by
  obtain ⟨h0, h1⟩ := hx
  go_enter Try.func29, Try.ntmps29
  go_wp2_with fail
  go_region
  go_wp2_with fail
  go_ret
  exact ⟨rfl, rfl⟩
theorem rotl_7 (x : Int) (w : World) (hx : U x) : Calls Try.prog 30 #[.int .u32 x, .int .i64 (-7)] w fun e w' => e = .returned (.int .u32 (rot x 7)) ∧ w = w' := by
  obtain ⟨h0, h1⟩ := hx
  have hk : Go.bits .and .u64 (IntKind.u64.wrap (-7)) 31 = 25 := by decide +kernel
  unfold rot
  rw [or_comm32]
  go_enter Try.func30, Try.ntmps30
  go_wp2_with fail
  go_ret
  exact ⟨rfl, rfl⟩

theorem results_tmp4 {fn : Func} {t u v x : Tmp} (h : fn.results = #[.tmp t, .tmp u, .tmp v, .tmp x]) (tmps : Array Value) (P : Program) (w : World) :
    (results fn tmps).run P w = .ok (.tuple #[tmps.getD t undef, tmps.getD u undef, tmps.getD v undef, tmps.getD x undef]) w := by
  simp [results, h]
set_option maxHeartbeats 400000 in
theorem quarter_any (a b c d x y : Int) (w : World) (ha : U a) (hb : U b) (hc : U c) (hd : U d) : Calls Try.prog 28 #[.int .u32 a, .int .u32 b, .int .u32 c, .int .u32 d, .int .u32 x, .int .u32 y] w fun e w' => e = .returned (.tuple #[.int .u32 (quarter a b c d x y).a, .int .u32 (quarter a b c d x y).b, .int .u32 (quarter a b c d x y).c, .int .u32 (quarter a b c d x y).d]) ∧ w = w' := by
  unfold quarter
  obtain ⟨a1, ha1⟩ : ∃ z, z = quA a b x := ⟨_, rfl⟩
  obtain ⟨d1, hd1⟩ : ∃ z, z = quD d a1 16 := ⟨_, rfl⟩
  obtain ⟨c1, hc1⟩ : ∃ z, z = quC c d1 := ⟨_, rfl⟩
  obtain ⟨b1, hb1⟩ : ∃ z, z = quD b c1 12 := ⟨_, rfl⟩
  obtain ⟨a2, ha2⟩ : ∃ z, z = quA a1 b1 y := ⟨_, rfl⟩
  obtain ⟨d2, hd2⟩ : ∃ z, z = quD d1 a2 8 := ⟨_, rfl⟩
  obtain ⟨c2, hc2⟩ : ∃ z, z = quC c1 d2 := ⟨_, rfl⟩
  obtain ⟨b2, hb2⟩ : ∃ z, z = quD b1 c2 7 := ⟨_, rfl⟩
  simp only [← ha1, ← hd1, ← hc1, ← hb1, ← ha2, ← hd2, ← hc2, ← hb2]
  have E1 := Lib.hid (show (a + (b + x) % 4294967296) % 4294967296 = a1 by rw [ha1]; unfold quA; omega)
  have E2 := Lib.hid (show (c + d1) % 4294967296 = c1 from hc1.symm)
  have E3 := Lib.hid (show (a1 + (b1 + y) % 4294967296) % 4294967296 = a2 by rw [ha2]; unfold quA; omega)
  have E4 := Lib.hid (show (c1 + d2) % 4294967296 = c2 from hc2.symm)
  have R1 := Lib.hid (rotl_16 (Go.bits .xor .u32 d a1) w (U_bits _ _ _))
  rw [show rot (Go.bits .xor .u32 d a1) 16 = d1 from hd1.symm] at R1
  have R2 := Lib.hid (rotl_12 (Go.bits .xor .u32 b c1) w (U_bits _ _ _))
  rw [show rot (Go.bits .xor .u32 b c1) 12 = b1 from hb1.symm] at R2
  have R3 := Lib.hid (rotl_8 (Go.bits .xor .u32 d1 a2) w (U_bits _ _ _))
  rw [show rot (Go.bits .xor .u32 d1 a2) 8 = d2 from hd2.symm] at R3
  have R4 := Lib.hid (rotl_7 (Go.bits .xor .u32 b1 c2) w (U_bits _ _ _))
  rw [show rot (Go.bits .xor .u32 b1 c2) 7 = b2 from hb2.symm] at R4
  clear ha1 hd1 hc1 hb1 ha2 hd2 hc2 hb2 ha hb hc hd
  go_enter Try.func28, Try.ntmps28
  go_upto_region 2 with (fail)
  rw [E1.out]
  go_upto_region 3 with (go_at_call 30; refine R1.out.mono ?_; rintro e w' ⟨rfl, rfl⟩)
  go_upto_region 4 with (fail)
  rw [E2.out]
  go_upto_region 5 with (go_at_call 30; refine R2.out.mono ?_; rintro e w' ⟨rfl, rfl⟩)
  go_upto_region 6 with (fail)
  rw [E3.out]
  go_upto_region 7 with (go_at_call 30; refine R3.out.mono ?_; rintro e w' ⟨rfl, rfl⟩)
  go_upto_region 8 with (fail)
  rw [E4.out]
  go_upto_region 9 with (go_at_call 30; refine R4.out.mono ?_; rintro e w' ⟨rfl, rfl⟩)
  go_wp2_with fail
  refine bodyPost_ret (results_tmp4 rfl _ _ _) rfl ?_
  exact ⟨rfl, rfl⟩
end Go.Proofs.Ytehmnkkfoopanaa
