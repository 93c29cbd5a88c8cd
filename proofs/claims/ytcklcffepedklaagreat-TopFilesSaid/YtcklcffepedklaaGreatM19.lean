/- Texts of the proof, one behind the other: digest: words of 32 bits: turned, mixed by four. digest: small functions. digest: the closure next. digest: what a block does to the words; the fingerprint. No walk. digest: what a state and the arrays hold while a block is taken. New blocks, each a row of cells, kept side by side. No program in sight. -/
import Derived.Test.YtcklcffepedklaaGreatProg
import Derived.Test.YtcklcffepedklaaGreatM01
import Derived.StillTailTactics
import Derived.Deep.DeepCutAuto
import Derived.Laws.BitsAllLaws
import Derived.Deep.WholeRow
namespace Go.Proofs.YtcklcffepedklaaGreat.Dg
open Go.RowKit

/-- A word of 32 bits. -/
def U (x : Int) : Prop := 0 ≤ x ∧ x < 4294967296
theorem U_mod (x : Int) : U (x % 4294967296) := ⟨by omega, by omega⟩
theorem bits32 (op : BinOp) (x y : Int) : ∃ z, Go.bits op .u32 x y = IntKind.u32.wrap z := by
  unfold Go.bits
  split <;> exact ⟨_, rfl⟩
theorem U_bits (op : BinOp) (x y : Int) : U (Go.bits op .u32 x y) := by
  obtain ⟨z, hz⟩ := bits32 op x y
  rw [hz, IntKind.wrap_u32']
  exact U_mod _
theorem or_comm32 (x y : Int) : Go.bits .or .u32 x y = Go.bits .or .u32 y x := by
  show IntKind.u32.wrap (((BitVec.ofInt 32 x ||| BitVec.ofInt 32 y).toNat : Nat) : Int) = IntKind.u32.wrap (((BitVec.ofInt 32 y ||| BitVec.ofInt 32 x).toNat : Nat) : Int)
  rw [BitVec.or_comm]
/-- Turned right. -/
def rot (x : Int) (n : Nat) : Int := Go.bits .or .u32 (x / ((2 ^ n : Nat) : Int)) (x * ((2 ^ (32 - n) : Nat) : Int) % 4294967296)
theorem U_rot (x : Int) (n : Nat) : U (rot x n) := U_bits _ _ _
/-- Four words, mixed with two. -/
def quA (a b x : Int) : Int := (a + b + x) % 4294967296
def quD (d a : Int) (n : Nat) : Int := rot (Go.bits .xor .u32 d a) n
def quC (c d : Int) : Int := (c + d) % 4294967296
structure Q4 where
  a : Int
  b : Int
  c : Int
  d : Int
def quarter (a b c d x y : Int) : Q4 :=
  let a1 := quA a b x
  let d1 := quD d a1 16
  let c1 := quC c d1
  let b1 := quD b c1 12
  let a2 := quA a1 b1 y
  let d2 := quD d1 a2 8
  let c2 := quC c1 d2
  let b2 := quD b1 c2 7
  ⟨a2, b2, c2, d2⟩

set_option maxRecDepth 20000 in
theorem rotl_16 (x : Int) (w : World) (hx : U x) : Calls Tryz.prog 133 #[.int .u32 x, .int .i64 (-16)] w fun e w' => e = .returned (.int .u32 (rot x 16)) ∧ w = w' := by
  obtain ⟨h0, h1⟩ := hx
  have hk : Go.bits .and .u64 (IntKind.u64.wrap (-16)) 31 = 16 := by decide +kernel
  unfold rot
  rw [or_comm32]
  go_enter Tryz.func133, Tryz.ntmps133
  go_wp2_with fail
  go_ret
  exact ⟨rfl, rfl⟩
set_option maxRecDepth 20000 in
theorem rotl_12 (x : Int) (w : World) (hx : U x) : Calls Tryz.prog 133 #[.int .u32 x, .int .i64 (-12)] w fun e w' => e = .returned (.int .u32 (rot x 12)) ∧ w = w' := by
  obtain ⟨h0, h1⟩ := hx
  have hk : Go.bits .and .u64 (IntKind.u64.wrap (-12)) 31 = 20 := by decide +kernel
  unfold rot
  rw [or_comm32]
  go_enter Tryz.func133, Tryz.ntmps133
  go_wp2_with fail
  go_ret
  exact ⟨rfl, rfl⟩
set_option maxRecDepth 20000 in
theorem rotl_8 (x : Int) (w : World) (hx : U x) : Calls Tryz.prog 133 #[.int .u32 x, .int .i64 (-8)] w fun e w' => e = .returned (.int .u32 (rot x 8)) ∧ w = w' := by
  obtain ⟨h0, h1⟩ := hx
  have hk : Go.bits .and .u64 (IntKind.u64.wrap (-8)) 31 = 24 := by decide +kernel
  unfold rot
  rw [or_comm32]
  go_enter Tryz.func133, Tryz.ntmps133
  go_wp2_with fail
  go_ret
  exact ⟨rfl, rfl⟩
set_option maxRecDepth 20000 in
theorem rotl_7 (x : Int) (w : World) (hx : U x) : Calls Tryz.prog 133 #[.int .u32 x, .int .i64 (-7)] w fun e w' => e = .returned (.int .u32 (rot x 7)) ∧ w = w' := by
  obtain ⟨h0, h1⟩ := hx
  have hk : Go.bits .and .u64 (IntKind.u64.wrap (-7)) 31 = 25 := by decide +kernel
  unfold rot
  rw [or_comm32]
  go_enter Tryz.func133, Tryz.ntmps133
  go_wp2_with fail
  go_ret
  exact ⟨rfl, rfl⟩

theorem results_tmp4 {fn : Func} {t u v x : Tmp} (h : fn.results = #[.tmp t, .tmp u, .tmp v, .tmp x]) (tmps : Array Value) (P : Program) (w : World) :
    (results fn tmps).run P w = .ok (.tuple #[tmps.getD t undef, tmps.getD u undef, tmps.getD v undef, tmps.getD x undef]) w := by
  simp [results, h]
set_option maxRecDepth 20000 in
set_option maxHeartbeats 400000 in
theorem quarter_any (a b c d x y : Int) (w : World) (ha : U a) (hb : U b) (hc : U c) (hd : U d) : Calls Tryz.prog 101 #[.int .u32 a, .int .u32 b, .int .u32 c, .int .u32 d, .int .u32 x, .int .u32 y] w fun e w' => e = .returned (.tuple #[.int .u32 (quarter a b c d x y).a, .int .u32 (quarter a b c d x y).b, .int .u32 (quarter a b c d x y).c, .int .u32 (quarter a b c d x y).d]) ∧ w = w' := by
  unfold quarter
  obtain ⟨a1, ha1⟩ : ∃ z, z = quA a b x := ⟨_, rfl⟩
  obtain ⟨d1, hd1⟩ : ∃ z, z = quD d a1 16 := ⟨_, rfl⟩
  obtain ⟨c1, hc1⟩ : ∃ z, z = quC c d1 := ⟨_, rfl⟩
  obtain ⟨b1, hb1⟩ : ∃ z, z = quD b c1 12 := ⟨_, rfl⟩
  obtain ⟨a2, ha2⟩ : ∃ z, z = quA a1 b1 y := ⟨_, rfl⟩
  obtain ⟨d2, hd2⟩ : ∃ z, z = quD d1 a2 8 := ⟨_, rfl⟩
  obtain ⟨c2, hc2⟩ : ∃ z, z = quC c1 d2 := ⟨_, rfl⟩
  obtain ⟨b2, hb2⟩ : ∃ z, z = quD b1 c2 7 := ⟨_, rfl⟩
  simp only [← ha1, ← hd1, ← hc1, ← hb1, ← ha2, ← hd2, ← hc2, ← hb2]
  have E1 := Lib.hid (show (a + (b + x) % 4294967296) % 4294967296 = a1 by rw [ha1]; unfold quA; omega)
  have E2 := Lib.hid (show (c + d1) % 4294967296 = c1 from hc1.symm)
  have E3 := Lib.hid (show (a1 + (b1 + y) % 4294967296) % 4294967296 = a2 by rw [ha2]; unfold quA; omega)
  have E4 := Lib.hid (show (c1 + d2) % 4294967296 = c2 from hc2.symm)
  have R1 := Lib.hid (rotl_16 (Go.bits .xor .u32 d a1) w (U_bits _ _ _))
  rw [show rot (Go.bits .xor .u32 d a1) 16 = d1 from hd1.symm] at R1
  have R2 := Lib.hid (rotl_12 (Go.bits .xor .u32 b c1) w (U_bits _ _ _))
  rw [show rot (Go.bits .xor .u32 b c1) 12 = b1 from hb1.symm] at R2
  have R3 := Lib.hid (rotl_8 (Go.bits .xor .u32 d1 a2) w (U_bits _ _ _))
  rw [show rot (Go.bits .xor .u32 d1 a2) 8 = d2 from hd2.symm] at R3
  have R4 := Lib.hid (rotl_7 (Go.bits .xor .u32 b1 c2) w (U_bits _ _ _))
  rw [show rot (Go.bits .xor .u32 b1 c2) 7 = b2 from hb2.symm] at R4
  clear ha1 hd1 hc1 hb1 ha2 hd2 hc2 hb2 ha hb hc hd
  go_enter Tryz.func101, Tryz.ntmps101
  go_upto_region 2 with (fail)
  rw [E1.out]
  go_upto_region 3 with (go_at_call 133; refine R1.out.mono ?_; rintro e w' ⟨rfl, rfl⟩)
  go_upto_region 4 with (fail)
  rw [E2.out]
  go_upto_region 5 with (go_at_call 133; refine R2.out.mono ?_; rintro e w' ⟨rfl, rfl⟩)
  go_upto_region 6 with (fail)
  rw [E3.out]
  go_upto_region 7 with (go_at_call 133; refine R3.out.mono ?_; rintro e w' ⟨rfl, rfl⟩)
  go_upto_region 8 with (fail)
  rw [E4.out]
  go_upto_region 9 with (go_at_call 133; refine R4.out.mono ?_; rintro e w' ⟨rfl, rfl⟩)
  go_wp2_with fail
  refine bodyPost_ret (results_tmp4 rfl _ _ _) rfl ?_
  exact ⟨rfl, rfl⟩
end Go.Proofs.YtcklcffepedklaaGreat.Dg

namespace Go.Proofs.YtcklcffepedklaaGreat.Dg
open Go.RowKit

/-- Words as cells. -/
def cellsW (l : List Int) : Array Value := (l.map (Value.int .u32)).toArray
theorem cellsW_size (l : List Int) : (cellsW l).size = l.length := by simp [cellsW]
theorem cellsW_get (l : List Int) (k : Nat) (h : k < l.length) : (cellsW l)[k]? = some (.int .u32 (l.getD k 0)) := by
  unfold cellsW
  rw [List.getElem?_toArray, List.getElem?_map, List.getD_eq_getElem?_getD, List.getElem?_eq_getElem h]; rfl
theorem cellsW_set (l : List Int) (k : Nat) (x : Int) : (cellsW l).setIfInBounds k (.int .u32 x) = cellsW (l.set k x) := by
  unfold cellsW
  rw [List.setIfInBounds_toArray, List.map_set]

theorem results_cell {P : Program} {fn : Func} {a : Tmp} {t : TypeId} (h : fn.results = #[.cell a t]) (tmps : Array Value) (w : World) (g : Nat) (ty : TypeId) (cs : Array Value) (fr : Nat × Nat) (d : TypeDesc) (ht : tmps.getD a undef = .pointer (some ⟨g, 0, none⟩)) (hg : w.heap[g]? = some (.cells cs ty fr))
    (hu : P.underlying t = some d) (hd : (match d with | .struct _ | .array _ _ => true | _ => false) = true) (hi : (P.info? t).map (·.size) = some cs.size) :
    (results fn tmps).run P w = .ok (.agg cs) w := by
  have hl := run_loadVar_row (P := P) w g ty t cs fr d hg hu hd hi
  have ht' : tmps[a]?.getD undef = .pointer (some ⟨g, 0, none⟩) := by simpa using ht
  simp [results, h, ht', asAddr, hl]

theorem run_index {P : Program} (w : World) (t e : TypeId) (n : Nat) (k : IntKind) (ht : P.underlying t = some (.array n e)) (he : P.underlying e = some (.int k)) (hsz : ∀ w, (sizeOf e).run P w = .ok 1 w) (cs : Array Value) (i : Nat) (v : Value) (hi : i < n) (hc : cs[i]? = some v) (z : Int) (hz : z = i) :
    (Instr.index t (.agg cs) (.int .i64 z)).run P w = .ok v w := by
  subst hz
  simp [Instr.index, asIntOf, run_underlying ht, hi, part, isAgg, run_underlying he, hc, hsz]

/-- The eight words. -/
def ivL : List Int := [1779033703, 3144134277, 1013904242, 2773480762, 1359893119, 2600822924, 528734635, 1541459225]
theorem info44 : (Tryz.prog.info? 171).map (·.size) = some 8 := by kernel_rfl
set_option maxRecDepth 20000 in
theorem first_any (w : World) : Calls Tryz.prog 74 #[] w fun e w' => e = .returned (.agg (cellsW ivL)) ∧ w.grownBy w' none := by
  go_enter Tryz.func74, Tryz.ntmps74
  go_wp2_with fail
  refine bodyPost_ret (results_cell rfl _ _ w.heap.size 171 (cellsW ivL) (0, 0) _ rfl (heap_alloc_last _ _) Tryz.underlying171 rfl info44) rfl ?_
  exact ⟨rfl, grown_alloc _ _ _⟩
/-- The orders, four bits each. -/
def ordL : List Nat := [81985529216486895, 16881918945140062035, 13312731748010193300, 8733003861693448440, 10400822202260547645, 3200383143768358425, 14204332651957162635, 15816291393287259690, 8064173457993569445, 11710614767857974480]
def ordN (r : Nat) : Nat := ordL.getD r 0
set_option maxRecDepth 20000 in
theorem order_any (r : Nat) (hr : r < 10) (w : World) : Calls Tryz.prog 99 #[.int .i64 r] w fun e w' => e = .returned (.int .u64 (ordN r)) ∧ w = w' := by
  have hc : (#[Value.int .u64 81985529216486895, Value.int .u64 16881918945140062035, Value.int .u64 13312731748010193300, Value.int .u64 8733003861693448440, Value.int .u64 10400822202260547645, Value.int .u64 3200383143768358425, Value.int .u64 14204332651957162635, Value.int .u64 15816291393287259690, Value.int .u64 8064173457993569445, Value.int .u64 11710614767857974480] : Array Value)[r]? = some (Value.int .u64 (ordN r)) := by
    match r, hr with
    | 0, _ => rfl
    | 1, _ => rfl
    | 2, _ => rfl
    | 3, _ => rfl
    | 4, _ => rfl
    | 5, _ => rfl
    | 6, _ => rfl
    | 7, _ => rfl
    | 8, _ => rfl
    | 9, _ => rfl
    | n + 10, h => exact absurd h (by omega)
  have HR := Lib.hid (fun w => run_index (P := Tryz.prog) w 223 67 10 .u64 Tryz.underlying223 Tryz.underlying67 (fun _ => by kernel_rfl) _ r _ hr hc r rfl)
  clear hc
  go_enter Tryz.func99, Tryz.ntmps99
  go_wp2_with (rw [HR.out]; simp only [Result.andThen_ok])
  go_ret
  exact ⟨rfl, rfl⟩

/-- The cells of a state. -/
def stC (hs rs : List Int) (n : Int) : Array Value := (hs.map (Value.int .u32) ++ rs.map (Value.int .u8) ++ [Value.int .u64 n]).toArray
/-- The words with which all begins. -/
def initL : List Int := [1795745351, 3144134277, 1013904242, 2773480762, 1359893119, 2600822924, 528734635, 1541459225]
def rep0 : List Int := [0, 0, 0, 0, 0, 0, 0, 0, 0, 0, 0, 0, 0, 0, 0, 0, 0, 0, 0, 0, 0, 0, 0, 0, 0, 0, 0, 0, 0, 0, 0, 0, 0, 0, 0, 0, 0, 0, 0, 0, 0, 0, 0, 0, 0, 0, 0, 0, 0, 0, 0, 0, 0, 0, 0, 0, 0, 0, 0, 0, 0, 0, 0, 0]
theorem Tryz.info175 : (Tryz.prog.info? 175).map (fun i => (i.zero, i.size, i.bytes)) = some (some (.agg (stC [0, 0, 0, 0, 0, 0, 0, 0] rep0 0)), 73, 104) := by kernel_rfl
theorem zero49 (w : World) : (zeroValue 175).run Tryz.prog w = .ok (.agg (stC [0, 0, 0, 0, 0, 0, 0, 0] rep0 0)) w := by
  obtain ⟨i0, hi, hz0, _, _⟩ := info_parts Tryz.info175
  simp [zeroValue, typeInfo, hi, hz0]
set_option maxRecDepth 20000 in
set_option maxHeartbeats 800000 in
theorem New_any (w : World) : Calls Tryz.prog 57 #[] w fun e w' => ∃ g, e = .returned (.pointer (some ⟨g, 0, none⟩)) ∧ w.grownBy w' none ∧ w.heap.size ≤ g ∧ w'.heap[g]? = some (.cells (stC initL rep0 0) 175 (0, 0)) := by
  go_enter Tryz.func57, Tryz.ntmps57
  go_wp2_with fail
  refine (first_any w).mono ?_
  rintro e w1 ⟨rfl, hg1⟩
  simp only [cellsW, ivL, List.map]
  have hz := zero49
  have hx : Go.bits .xor .u32 1779033703 16842784 = 1795745351 := by decide +kernel
  simp only [stC, rep0, List.map, List.cons_append, List.nil_append] at hz
  go_upto_region 2 with (fail)
  go_region
  go_wp2_with fail
  go_ret
  refine ⟨w1.heap.size, rfl, ?_, hg1.size, ?_⟩
  · exact grown_trans (grown_trans hg1 (grown_alloc _ _ _)) (grown_drewN (World.grownBy.refl _ _) 1)
  · exact heap_alloc_last _ _

/-- A state at block g: its words, what rests, how many bytes came. -/
structure Row (w : World) (g : Nat) (hs rs : List Int) (n : Nat) : Prop where
  row : w.heap[g]? = some (.cells (stC hs rs n) 175 (0, 0))
  h8 : hs.length = 8
  r64 : rs.length = 64
  hU : ∀ i, U (hs.getD i 0)
  rB : Bytes rs
  lim : n < 4611686018427387904
section
variable {w w' : World} {g n : Nat} {hs rs : List Int}
theorem stC_word (h8 : hs.length = 8) (i : Nat) (hi : i < 8) (z : Int) : (stC hs rs z)[i]? = some (.int .u32 (hs.getD i 0)) := by
  unfold stC
  rw [List.getElem?_toArray, List.append_assoc, List.getElem?_append_left (by simp; omega), List.getElem?_map, List.getD_eq_getElem?_getD, List.getElem?_eq_getElem (by omega)]; rfl
theorem stC_rest (h8 : hs.length = 8) (r64 : rs.length = 64) (i : Nat) (hi : i < 64) (z : Int) : (stC hs rs z)[8 + i]? = some (.int .u8 (rs.getD i 0)) := by
  unfold stC
  rw [List.getElem?_toArray, List.append_assoc, List.getElem?_append_right (by simp; omega), List.getElem?_append_left (by simp; omega), List.length_map, h8, show 8 + i - 8 = i from by omega, List.getElem?_map, List.getD_eq_getElem?_getD, List.getElem?_eq_getElem (by omega)]; rfl
theorem stC_n (h8 : hs.length = 8) (r64 : rs.length = 64) (z : Int) : (stC hs rs z)[72]? = some (.int .u64 z) := by
  unfold stC
  rw [List.getElem?_toArray, List.getElem?_append_right (by simp; omega)]
  simp [h8, r64]
theorem stC_size (h8 : hs.length = 8) (r64 : rs.length = 64) (z : Int) : (stC hs rs z).size = 73 := by simp [stC, h8, r64]
theorem Row.word (V : Row w g hs rs n) (i : Nat) (hi : i < 8) : w.cell? ⟨g, i, none⟩ = some (.int .u32 (hs.getD i 0)) := by rw [cell_of_row _ _ _ _ _ _ V.row]; exact stC_word V.h8 i hi _
theorem Row.rest (V : Row w g hs rs n) (i : Nat) (hi : i < 64) : w.cell? ⟨g, 8 + i, none⟩ = some (.int .u8 (rs.getD i 0)) := by rw [cell_of_row _ _ _ _ _ _ V.row]; exact stC_rest V.h8 V.r64 i hi _
theorem Row.num (V : Row w g hs rs n) : w.cell? ⟨g, 72, none⟩ = some (.int .u64 n) := by rw [cell_of_row _ _ _ _ _ _ V.row]; exact stC_n V.h8 V.r64 _
theorem Row.of_block (V : Row w g hs rs n) (hb : w'.heap[g]? = w.heap[g]?) : Row w' g hs rs n := ⟨hb.trans V.row, V.h8, V.r64, V.hU, V.rB, V.lim⟩

/-- How many bytes stand in rest. -/
def heldN (n : Nat) : Nat := if n = 0 then 0 else (n - 1) % 64 + 1
theorem heldN_le (n : Nat) : heldN n ≤ 64 := by unfold heldN; split <;> omega
set_option maxRecDepth 20000 in
theorem held_any (V : Row w g hs rs n) : Calls Tryz.prog 75 #[.pointer (some ⟨g, 0, none⟩)] w fun e w' => e = .returned (.int .i64 (heldN n)) ∧ w = w' := by
  have c := V.num
  have hl := V.lim
  clear V
  unfold heldN
  by_cases h : n = 0
  · subst h
    go_enter Tryz.func75, Tryz.ntmps75
    go_wp2
    go_ret
    exact ⟨rfl, rfl⟩
  · have h1 : ((n : Int) == 0) = false := by simp [h]
    have h2 : 0 < n := by omega
    have h3 : (((n - 1) % 64 + 1 : Nat) : Int) = ((n : Int) - 1) % 64 + 1 := by omega
    rw [if_neg h, h3]
    clear h h3
    go_enter Tryz.func75, Tryz.ntmps75
    go_wp2
    go_ret
    exact ⟨rfl, rfl⟩
end
end Go.Proofs.YtcklcffepedklaaGreat.Dg

namespace Go.Proofs.YtcklcffepedklaaGreat.Dg
open Go.RowKit

theorem cellW_of {w : World} {g : Nat} {l : List Int} {t : TypeId} (h : w.heap[g]? = some (.cells (cellsW l) t (0, 0))) (i : Nat) (hi : i < l.length) : w.cell? ⟨g, i, none⟩ = some (.int .u32 (l.getD i 0)) := by
  rw [cell_of_row _ _ _ _ _ _ h]; exact cellsW_get l i hi
set_option maxRecDepth 20000 in
theorem next_any (gm go o : Nat) (M : List Int) (w : World) (hM : w.heap[gm]? = some (.cells (cellsW M) 195 (0, 0))) (hM16 : M.length = 16) (ho : w.heap[go]? = some (.cells #[.int .u64 o] 67 (0, 0))) (ho64 : o < 18446744073709551616) :
    Calls Tryz.prog 100 #[.pointer (some ⟨gm, 0, none⟩), .pointer (some ⟨go, 0, none⟩)] w fun e w' => e = .returned (.int .u32 (M.getD (o / 1152921504606846976) 0)) ∧ w' = w.setCell ⟨go, 0, none⟩ (.int .u64 ((o * 16 % 18446744073709551616 : Nat) : Int)) := by
  have c1 : w.cell? ⟨go, 0, none⟩ = some (.int .u64 o) := by rw [cell_of_row _ _ _ _ _ _ ho]; rfl
  have c2 := cellW_of hM (o / 1152921504606846976) (by rw [hM16]; omega)
  have f1 := free_row ho 0
  have h1 : (o : Int) / 1152921504606846976 < 16 := by omega
  have h2 : (0 : Int) ≤ (o : Int) / 1152921504606846976 := by omega
  have h3 : ((o * 16 % 18446744073709551616 : Nat) : Int) = (o : Int) * 16 % 18446744073709551616 := by omega
  rw [h3]
  generalize M.getD (o / 1152921504606846976) 0 = x at *
  clear hM hM16 ho h3
  go_enter Tryz.func100, Tryz.ntmps100
  go_wp2_with fail
  go_ret
  exact ⟨rfl, rfl⟩
end Go.Proofs.YtcklcffepedklaaGreat.Dg

namespace Go.Proofs.YtcklcffepedklaaGreat.Dg
open Go.RowKit

/-- Four of sixteen words, mixed. -/
def mixL (V : List Int) (a b c d : Nat) (x y : Int) : List Int :=
  let q := quarter (V.getD a 0) (V.getD b 0) (V.getD c 0) (V.getD d 0) x y
  (((V.set a q.a).set b q.b).set c q.c).set d q.d
theorem mixL_length (V : List Int) (a b c d : Nat) (x y : Int) : (mixL V a b c d x y).length = V.length := by simp [mixL]
def AllU (V : List Int) : Prop := ∀ i, U (V.getD i 0)
theorem AllU.set {V : List Int} (h : AllU V) (a : Nat) (x : Int) (hx : U x) : AllU (V.set a x) := by
  intro i
  rw [List.getD_eq_getElem?_getD, List.getElem?_set]
  split
  · split
    · exact hx
    · exact ⟨by decide, by decide⟩
  · rw [← List.getD_eq_getElem?_getD]; exact h i
theorem U_quA (a b x : Int) : U (quA a b x) := U_mod _
theorem U_quC (c d : Int) : U (quC c d) := U_mod _
theorem U_quD (d a : Int) (n : Nat) : U (quD d a n) := U_rot _ _
theorem AllU.mixL {V : List Int} (h : AllU V) (a b c d : Nat) (x y : Int) : AllU (mixL V a b c d x y) :=
  (((h.set a _ (U_quA _ _ _)).set b _ (U_quD _ _ _)).set c _ (U_quC _ _)).set d _ (U_quD _ _ _)
def ia (t : Nat) : Nat := t % 4
def ib (t : Nat) : Nat := 4 + (t + t / 4) % 4
def ic (t : Nat) : Nat := 8 + (t + 2 * (t / 4)) % 4
def id4 (t : Nat) : Nat := 12 + (t + 3 * (t / 4)) % 4
/-- What is left of an order behind j words. -/
def oS (r j : Nat) : Nat := ordN r * 16 ^ j % 18446744073709551616
def nib (r j : Nat) : Nat := oS r j / 1152921504606846976
theorem oS_next (r j : Nat) : oS r (j + 1) = oS r j * 16 % 18446744073709551616 := by
  unfold oS
  rw [Nat.pow_succ, ← Nat.mul_assoc, Nat.mod_mul_mod]
theorem oS_lt (r j : Nat) : oS r j < 18446744073709551616 := Nat.mod_lt _ (by decide)
theorem oS_zero (r : Nat) (h : r < 10) : oS r 0 = ordN r := by
  match r, h with
  | 0, _ => rfl
  | 1, _ => rfl
  | 2, _ => rfl
  | 3, _ => rfl
  | 4, _ => rfl
  | 5, _ => rfl
  | 6, _ => rfl
  | 7, _ => rfl
  | 8, _ => rfl
  | 9, _ => rfl
  | n + 10, h => exact absurd h (by omega)
def stepF (M : List Int) (r t : Nat) (V : List Int) : List Int := mixL V (ia t) (ib t) (ic t) (id4 t) (M.getD (nib r (2 * t)) 0) (M.getD (nib r (2 * t + 1)) 0)
def stepsF (M : List Int) (r : Nat) : Nat → List Int → List Int
  | 0, V => V
  | t + 1, V => stepF M r t (stepsF M r t V)
def roundsF (M : List Int) : Nat → List Int → List Int
  | 0, V => V
  | r + 1, V => stepsF M r 8 (roundsF M r V)
theorem stepsF_length (M : List Int) (r : Nat) : ∀ (t : Nat) (V : List Int), (stepsF M r t V).length = V.length
  | 0, _ => rfl
  | t + 1, V => (mixL_length _ _ _ _ _ _ _).trans (stepsF_length M r t V)
theorem roundsF_length (M : List Int) : ∀ (r : Nat) (V : List Int), (roundsF M r V).length = V.length
  | 0, _ => rfl
  | r + 1, V => (stepsF_length M r 8 _).trans (roundsF_length M r V)
theorem AllU.steps {V : List Int} (h : AllU V) (M : List Int) (r : Nat) : ∀ t, AllU (stepsF M r t V)
  | 0 => h
  | t + 1 => (AllU.steps h M r t).mixL _ _ _ _ _ _
theorem AllU.rounds {V : List Int} (h : AllU V) (M : List Int) : ∀ r, AllU (roundsF M r V)
  | 0 => h
  | r + 1 => (AllU.rounds h M r).steps M r 8
/-- Sixteen words out of bytes. -/
def loadM (b : List Int) : Nat → List Int
  | 0 => [0, 0, 0, 0, 0, 0, 0, 0, 0, 0, 0, 0, 0, 0, 0, 0]
  | i + 1 => (loadM b i).set (i / 4) (Go.bits .or .u32 ((loadM b i).getD (i / 4) 0) (b.getD i 0 * 2 ^ (8 * (i % 4)) % 4294967296))
theorem loadM_length (b : List Int) : ∀ i, (loadM b i).length = 16
  | 0 => rfl
  | i + 1 => by rw [loadM, List.length_set]; exact loadM_length b i
/-- The eight words that stand beside those of a state. -/
def wV (n : Nat) (last : Bool) : List Int := [1779033703, 3144134277, 1013904242, 2773480762, Go.bits .xor .u32 1359893119 ((n % 4294967296 : Nat) : Int), Go.bits .xor .u32 2600822924 ((n / 4294967296 : Nat) : Int), (if last then 3766232660 else 528734635), 1541459225]
theorem wV_length (n : Nat) (last : Bool) : (wV n last).length = 8 := rfl
theorem AllU_wV (n : Nat) (last : Bool) : AllU (wV n last) := by
  intro i
  match i with
  | 0 => exact (show U 1779033703 from ⟨by decide, by decide⟩)
  | 1 => exact (show U 3144134277 from ⟨by decide, by decide⟩)
  | 2 => exact (show U 1013904242 from ⟨by decide, by decide⟩)
  | 3 => exact (show U 2773480762 from ⟨by decide, by decide⟩)
  | 4 => exact (show U (Go.bits .xor .u32 1359893119 ((n % 4294967296 : Nat) : Int)) from U_bits _ _ _)
  | 5 => exact (show U (Go.bits .xor .u32 2600822924 ((n / 4294967296 : Nat) : Int)) from U_bits _ _ _)
  | 6 => cases last <;> first | exact (show U 3766232660 from ⟨by decide, by decide⟩) | exact (show U 528734635 from ⟨by decide, by decide⟩)
  | 7 => exact (show U 1541459225 from ⟨by decide, by decide⟩)
  | i + 8 => exact (show U 0 from ⟨by decide, by decide⟩)
theorem AllU.append {a b : List Int} (h : AllU a) (k : AllU b) : AllU (a ++ b) := by
  intro i
  rw [List.getD_eq_getElem?_getD, List.getElem?_append]
  split
  · rw [← List.getD_eq_getElem?_getD]; exact h i
  · rw [← List.getD_eq_getElem?_getD]; exact k _
def xorS (hs V : List Int) : Nat → List Int
  | 0 => hs
  | i + 1 => (xorS hs V i).set i (Go.bits .xor .u32 ((xorS hs V i).getD i 0) (Go.bits .xor .u32 (V.getD i 0) (V.getD (8 + i) 0)))
theorem xorS_length (hs V : List Int) : ∀ i, (xorS hs V i).length = hs.length
  | 0 => rfl
  | i + 1 => by rw [xorS, List.length_set]; exact xorS_length hs V i
theorem AllU_xorS {hs : List Int} (V : List Int) (h : AllU hs) : ∀ i, AllU (xorS hs V i)
  | 0 => h
  | i + 1 => (AllU_xorS V h i).set _ _ (U_bits _ _ _)
/-- What a block does to the words. -/
def blockF (hs rs : List Int) (n : Nat) (last : Bool) : List Int := xorS hs (roundsF (loadM rs 64) 10 (hs ++ wV n last)) 8
theorem blockF_length (hs rs : List Int) (n : Nat) (last : Bool) : (blockF hs rs n last).length = hs.length := xorS_length _ _ _
theorem AllU_blockF {hs : List Int} (h : AllU hs) (rs : List Int) (n : Nat) (last : Bool) : AllU (blockF hs rs n last) := AllU_xorS _ h _
/-- The bytes of words. -/
def outF (hs : List Int) : List Int := (List.range 32).map fun i => (hs.getD (i / 4) 0 / 2 ^ (8 * (i % 4))) % 256
/-- The words behind the first k blocks. -/
def chain (b : List Int) : Nat → List Int
  | 0 => initL
  | k + 1 => blockF (chain b k) ((b.drop (64 * k)).take 64) (64 * (k + 1)) false
def pad (b : List Int) : List Int := b ++ List.replicate (64 - b.length) 0
/-- The fingerprint of bytes. -/
def digestF (b : List Int) : List Int := outF (blockF (chain b ((b.length - 1) / 64)) (pad (b.drop (64 * ((b.length - 1) / 64)))) b.length true)
theorem digest_none : (digestF []).take 4 = [105, 33, 122, 48] := by decide +kernel
theorem digest_abc : (digestF [97, 98, 99]).take 4 = [80, 140, 94, 140] := by decide +kernel
end Go.Proofs.YtcklcffepedklaaGreat.Dg

namespace Go.Proofs.YtcklcffepedklaaGreat.Dg
open Go.RowKit

theorem row_lt {w : World} {g : Nat} {o : Obj} (h : w.heap[g]? = some o) : g < w.heap.size := by
  rcases Nat.lt_or_ge g w.heap.size with h1 | h1
  · exact h1
  · rw [Array.getElem?_eq_none h1] at h; cases h
theorem and3 (p : Nat) (hp : p < 1000000) : Go.bits BinOp.and IntKind.i64 (p : Int) 3 = (p : Int) % 4 := by
  have hx : p &&& 3 < 2 ^ 63 := Nat.and_lt_two_pow _ (by omega)
  have ofI : ∀ a : Nat, a < 9223372036854775808 → (BitVec.ofInt 64 (a : Int)).toNat = a := fun a ha => by
    rw [BitVec.ofInt_natCast, BitVec.toNat_ofNat]; exact Nat.mod_eq_of_lt (by omega)
  have h6 : p &&& 3 = p % 4 := Nat.and_two_pow_sub_one_eq_mod p 2
  show IntKind.i64.wrap ((BitVec.ofInt 64 (p : Int) &&& BitVec.ofInt 64 (3 : Int)).toNat : Int) = _
  rw [BitVec.toNat_and, ofI p (by omega), show (3 : Int) = ((3 : Nat) : Int) from rfl, ofI 3 (by omega), h6, IntKind.wrap_i64]
  omega
theorem info47 (rs : List Int) (h : rs.length = 64) : (Tryz.prog.info? 173).map (·.size) = some (rs.map (Value.int .u8)).length := by
  rw [List.length_map, h]; kernel_rfl
theorem info44' (hs : List Int) (h : hs.length = 8) : (Tryz.prog.info? 171).map (·.size) = some (hs.map (Value.int .u32)).length := by
  rw [List.length_map, h]; kernel_rfl
theorem Row.restR {w : World} {g n : Nat} {hs rs : List Int} (V : Row w g hs rs n) : w.rangeAt g 8 (rs.map (Value.int .u8)) := by
  have := rangeAt_of_row V.row 8 64
  unfold stC at this
  rwa [List.append_assoc, List.drop_append_of_le_length (by simp [V.h8]), List.drop_of_length_le (by simp [V.h8]), List.nil_append, List.take_append_of_le_length (by simp [V.r64]), List.take_of_length_le (by simp [V.r64])] at this
theorem Row.wordR {w : World} {g n : Nat} {hs rs : List Int} (V : Row w g hs rs n) : w.rangeAt g 0 (hs.map (Value.int .u32)) := by
  have := rangeAt_of_row V.row 0 8
  unfold stC at this
  rwa [List.append_assoc, List.drop_zero, List.take_append_of_le_length (by simp [V.h8]), List.take_of_length_le (by simp [V.h8])] at this

/-- Eight words are laid into an array. -/
theorem store_old {P : Program} (w : World) (g : Nat) (cs0 cs : Array Value) (t : TypeId) (h : w.heap[g]? = some (.cells cs0 t (0, 0))) (hl : cs0.size = cs.size) (h1 : cs.all (·.oneCell') = true) :
    ∃ w', (storeCells ⟨g, 0, none⟩ cs.toList).run P w = .ok () w' ∧ w.grownBy w' (some g) ∧ w'.heap[g]? = some (.cells cs t (0, 0)) ∧ w'.heap.size = w.heap.size := by
  have hc : ∀ j, j < cs.size → (w.cell? ⟨g, 0 + j, none⟩).isSome = true := fun j hj => by
    rw [cell_of_row _ _ _ _ _ _ h, Nat.zero_add, Array.getElem?_eq_getElem (by omega)]; rfl
  have := run_storeCells_cells (P := P) g 0 cs.toList 0 w (fun j hj => by rw [Nat.add_zero]; exact hc j (by simpa using hj)) (fun j hj => by rw [Nat.add_zero]; exact free_row h _)
    (fun v hv => (Array.all_eq_true_iff_forall_mem.1 h1) v (Array.mem_toList_iff.1 hv))
  exact ⟨_, this, grown_setCells _ _ _ _, by rw [setCells_whole h (by simp [hl])], size_setCells _ _ _ _⟩
theorem cellsW_one (l : List Int) : (cellsW l).all (·.oneCell') = true := by simp [cellsW, Value.oneCell']
def z8 : List Int := [0, 0, 0, 0, 0, 0, 0, 0]
theorem below_two {w w' : World} {a B : Nat} (h : w.grownBy w' (some a)) (hB : B ≤ a) (hs : B ≤ w.heap.size) : Below B w w' := (Below.refl _ _).grown h hs (fun k hk => by injection hk; omega)
/-- While a block is taken: the state, the message's words, and the sixteen words in two arrays, in new blocks. -/
structure Pz (w0 w : World) (g gm : Nat) (hs rs : List Int) (n : Nat) (M : List Int) : Prop where
  st : Row w g hs rs n
  m : w.heap[gm]? = some (.cells (cellsW M) 195 (0, 0))
  m16 : M.length = 16
  mge : w0.heap.size ≤ gm
  glt : g < w0.heap.size
  bel : Below w0.heap.size w0 w
theorem Pz.quiet {w0 w w' : World} {g gm n : Nat} {hs rs M : List Int} (V : Pz w0 w g gm hs rs n M) (h : Below w.heap.size w w') : Pz w0 w' g gm hs rs n M :=
  ⟨V.st.of_block (h.block g (row_lt V.st.row)), (h.block gm (row_lt V.m)).trans V.m, V.m16, V.mge, V.glt, V.bel.trans (h.mono V.bel.size)⟩
theorem Pz.setM {w0 w : World} {g gm n : Nat} {hs rs M : List Int} (V : Pz w0 w g gm hs rs n M) (k : Nat) (x : Int) : Pz w0 (w.setCell ⟨gm, k, none⟩ (.int .u32 x)).drew g gm hs rs n (M.set k x) := by
  have hne : gm ≠ g := by have := V.mge; have := V.glt; omega
  refine ⟨V.st.of_block (Below.heap_setCell _ _ _ _ hne.symm), ?_, by rw [List.length_set]; exact V.m16, V.mge, V.glt, ?_⟩
  · show (w.setCell ⟨gm, k, none⟩ (.int .u32 x)).heap[gm]? = _
    rw [setCell_row V.m, cellsW_set]
  · exact (V.bel.setCell (by simpa using V.mge) _).drew

/-- And the sixteen words, in two arrays. -/
structure Pv (w0 w : World) (g gm gv gw : Nat) (hs rs : List Int) (n : Nat) (M Lv Lw : List Int) : Prop where
  z : Pz w0 w g gm hs rs n M
  v : w.heap[gv]? = some (.cells (cellsW Lv) 171 (0, 0))
  w : w.heap[gw]? = some (.cells (cellsW Lw) 171 (0, 0))
  v8 : Lv.length = 8
  w8 : Lw.length = 8
  ge : w0.heap.size ≤ gv ∧ w0.heap.size ≤ gw
  ne : gv ≠ gw ∧ gv ≠ gm ∧ gw ≠ gm
section
variable {w0 w w' : World} {g gm gv gw n : Nat} {hs rs M Lv Lw : List Int}
theorem Pz.old {k i : Nat} {x : Value} (V : Pz w0 w g gm hs rs n M) (h1 : w0.heap.size ≤ k) (h2 : k ≠ gm) : Pz w0 (w.setCell ⟨k, i, none⟩ x) g gm hs rs n M :=
  ⟨V.st.of_block (Below.heap_setCell _ _ _ _ (by have := V.glt; show g ≠ k; omega)), (Below.heap_setCell _ _ _ _ h2.symm).trans V.m, V.m16, V.mge, V.glt, V.bel.setCell (by simpa using h1) _⟩
theorem Pv.quiet (V : Pv w0 w g gm gv gw hs rs n M Lv Lw) (h : Below w.heap.size w w') : Pv w0 w' g gm gv gw hs rs n M Lv Lw :=
  ⟨V.z.quiet h, (h.block gv (row_lt V.v)).trans V.v, (h.block gw (row_lt V.w)).trans V.w, V.v8, V.w8, V.ge, V.ne⟩
theorem Pv.drew (V : Pv w0 w g gm gv gw hs rs n M Lv Lw) : Pv w0 w.drew g gm gv gw hs rs n M Lv Lw := V.quiet (Below.refl _ _).drew
theorem Pv.setW (V : Pv w0 w g gm gv gw hs rs n M Lv Lw) (k : Nat) (x : Int) : Pv w0 (w.setCell ⟨gw, k, none⟩ (.int .u32 x)) g gm gv gw hs rs n M Lv (Lw.set k x) :=
  ⟨V.z.old V.ge.2 V.ne.2.2, (Below.heap_setCell _ _ _ _ V.ne.1).trans V.v, by rw [setCell_row V.w, cellsW_set], V.v8, by rw [List.length_set]; exact V.w8, V.ge, V.ne⟩
theorem Pv.setV (V : Pv w0 w g gm gv gw hs rs n M Lv Lw) (k : Nat) (x : Int) : Pv w0 (w.setCell ⟨gv, k, none⟩ (.int .u32 x)) g gm gv gw hs rs n M (Lv.set k x) Lw :=
  ⟨V.z.old V.ge.1 V.ne.2.1, by rw [setCell_row V.v, cellsW_set], (Below.heap_setCell _ _ _ _ V.ne.1.symm).trans V.w, by rw [List.length_set]; exact V.v8, V.w8, V.ge, V.ne⟩
/-- Another block, new, is changed. -/
theorem Pv.setO {k i : Nat} {x : Value} (V : Pv w0 w g gm gv gw hs rs n M Lv Lw) (h1 : w0.heap.size ≤ k) (h2 : k ≠ gm ∧ k ≠ gv ∧ k ≠ gw) : Pv w0 (w.setCell ⟨k, i, none⟩ x) g gm gv gw hs rs n M Lv Lw :=
  ⟨V.z.old h1 h2.1, (Below.heap_setCell _ _ _ _ h2.2.1.symm).trans V.v, (Below.heap_setCell _ _ _ _ h2.2.2.symm).trans V.w, V.v8, V.w8, V.ge, V.ne⟩
theorem Pv.cv (V : Pv w0 w g gm gv gw hs rs n M Lv Lw) (i : Nat) (hi : i < 8) : w.cell? ⟨gv, i, none⟩ = some (.int .u32 (Lv.getD i 0)) := cellW_of V.v i (by rw [V.v8]; exact hi)
theorem Pv.cw (V : Pv w0 w g gm gv gw hs rs n M Lv Lw) (i : Nat) (hi : i < 8) : w.cell? ⟨gw, i, none⟩ = some (.int .u32 (Lw.getD i 0)) := cellW_of V.w i (by rw [V.w8]; exact hi)
end

theorem getD_take (V : List Int) (a : Nat) (h : a < 8) : (V.take 8).getD a 0 = V.getD a 0 := by
  rw [List.getD_eq_getElem?_getD, List.getD_eq_getElem?_getD, List.getElem?_take, if_pos h]
theorem getD_drop (V : List Int) (c : Nat) : (V.drop 8).getD c 0 = V.getD (8 + c) 0 := by
  rw [List.getD_eq_getElem?_getD, List.getD_eq_getElem?_getD, List.getElem?_drop]
theorem mix_take (V : List Int) (hV : V.length = 16) (a b c d : Nat) (x y : Int) :
    (mixL V a b (8 + c) (8 + d) x y).take 8 = ((V.take 8).set a (quarter (V.getD a 0) (V.getD b 0) (V.getD (8 + c) 0) (V.getD (8 + d) 0) x y).a).set b (quarter (V.getD a 0) (V.getD b 0) (V.getD (8 + c) 0) (V.getD (8 + d) 0) x y).b := by
  unfold mixL
  simp only [List.take_set]
  rw [List.set_eq_of_length_le (by simp; omega), List.set_eq_of_length_le (by simp; omega)]
theorem mix_drop (V : List Int) (a b c d : Nat) (ha : a < 8) (hb : b < 8) (x y : Int) :
    (mixL V a b (8 + c) (8 + d) x y).drop 8 = ((V.drop 8).set c (quarter (V.getD a 0) (V.getD b 0) (V.getD (8 + c) 0) (V.getD (8 + d) 0) x y).c).set d (quarter (V.getD a 0) (V.getD b 0) (V.getD (8 + c) 0) (V.getD (8 + d) 0) x y).d := by
  unfold mixL
  simp only [List.drop_set, ha, hb, if_true, show ¬ 8 + c < 8 from by omega, show ¬ 8 + d < 8 from by omega, if_false, show 8 + c - 8 = c from by omega, show 8 + d - 8 = d from by omega]
/-- And what is left of an order. -/
structure Po (w0 w : World) (g gm gv gw go : Nat) (hs rs : List Int) (n : Nat) (M V : List Int) (o : Nat) : Prop where
  p : Pv w0 w g gm gv gw hs rs n M (V.take 8) (V.drop 8)
  o : w.heap[go]? = some (.cells #[.int .u64 o] 67 (0, 0))
  oge : w0.heap.size ≤ go
  one : go ≠ gm ∧ go ≠ gv ∧ go ≠ gw
  v16 : V.length = 16
  vU : AllU V
section
variable {w0 w w' : World} {g gm gv gw go n o : Nat} {hs rs M V : List Int}
theorem Po.next (P : Po w0 w g gm gv gw go hs rs n M V o) (o' : Nat) (x : Int) (hx : x = o') : Po w0 (w.setCell ⟨go, 0, none⟩ (.int .u64 x)) g gm gv gw go hs rs n M V o' :=
  ⟨P.p.setO P.oge P.one, by rw [setCell_row P.o, hx]; rfl, P.oge, P.one, P.v16, P.vU⟩
theorem Po.drew (P : Po w0 w g gm gv gw go hs rs n M V o) : Po w0 w.drew g gm gv gw go hs rs n M V o := ⟨P.p.drew, P.o, P.oge, P.one, P.v16, P.vU⟩
/-- Four words are mixed. -/
theorem Po.mixed (P : Po w0 w g gm gv gw go hs rs n M V o) (a b c d : Nat) (x y : Int) (ha : a < 8) (hb : b < 8) (q : Q4) (hq : q = quarter (V.getD a 0) (V.getD b 0) (V.getD (8 + c) 0) (V.getD (8 + d) 0) x y) :
    Po w0 ((((w.setCell ⟨gv, a, none⟩ (.int .u32 q.a)).setCell ⟨gv, b, none⟩ (.int .u32 q.b)).setCell ⟨gw, c, none⟩ (.int .u32 q.c)).setCell ⟨gw, d, none⟩ (.int .u32 q.d)) g gm gv gw go hs rs n M (mixL V a b (8 + c) (8 + d) x y) o := by
  subst hq
  have h := (((P.p.setV a (quarter (V.getD a 0) (V.getD b 0) (V.getD (8 + c) 0) (V.getD (8 + d) 0) x y).a).setV b (quarter (V.getD a 0) (V.getD b 0) (V.getD (8 + c) 0) (V.getD (8 + d) 0) x y).b).setW c (quarter (V.getD a 0) (V.getD b 0) (V.getD (8 + c) 0) (V.getD (8 + d) 0) x y).c).setW d (quarter (V.getD a 0) (V.getD b 0) (V.getD (8 + c) 0) (V.getD (8 + d) 0) x y).d
  rw [← mix_take V P.v16, ← mix_drop V a b c d ha hb] at h
  refine ⟨h, ?_, P.oge, P.one, (mixL_length _ _ _ _ _ _ _).trans P.v16, P.vU.mixL _ _ _ _ _ _⟩
  rw [Below.heap_setCell _ _ _ _ P.one.2.2, Below.heap_setCell _ _ _ _ P.one.2.2, Below.heap_setCell _ _ _ _ P.one.2.1, Below.heap_setCell _ _ _ _ P.one.2.1]
  exact P.o
theorem Po.cv (P : Po w0 w g gm gv gw go hs rs n M V o) (i : Nat) (hi : i < 8) : w.cell? ⟨gv, i, none⟩ = some (.int .u32 (V.getD i 0)) := by rw [P.p.cv i hi, getD_take _ _ hi]
theorem Po.cw (P : Po w0 w g gm gv gw go hs rs n M V o) (i : Nat) (hi : i < 8) : w.cell? ⟨gw, i, none⟩ = some (.int .u32 (V.getD (8 + i) 0)) := by rw [P.p.cw i hi, getD_drop]
end

theorem stC_set {hs rs : List Int} (h8 : hs.length = 8) (i : Nat) (hi : i < 8) (z x : Int) : (stC hs rs z).setIfInBounds i (.int .u32 x) = stC (hs.set i x) rs z := by
  unfold stC
  rw [List.setIfInBounds_toArray, List.append_assoc, List.append_assoc, List.set_append_left _ _ (by simp; omega), List.map_set]
/-- While the words are put back. -/
structure Pf (w0 w : World) (g gv gw : Nat) (hs rs : List Int) (n : Nat) (V : List Int) : Prop where
  st : Row w g hs rs n
  v : w.heap[gv]? = some (.cells (cellsW (V.take 8)) 171 (0, 0))
  vw : w.heap[gw]? = some (.cells (cellsW (V.drop 8)) 171 (0, 0))
  v16 : V.length = 16
  ne : gv ≠ g ∧ gw ≠ g
  gr : w0.grownBy w (some g)
theorem Pf.set {w0 w : World} {g gv gw n : Nat} {hs rs V : List Int} (P : Pf w0 w g gv gw hs rs n V) (i : Nat) (hi : i < 8) (x : Int) (hx : U x) : Pf w0 (w.setCell ⟨g, i, none⟩ (.int .u32 x)) g gv gw (hs.set i x) rs n V :=
  ⟨⟨by rw [setCell_row P.st.row, stC_set P.st.h8 i hi], by rw [List.length_set]; exact P.st.h8, P.st.r64, AllU.set P.st.hU i x hx, P.st.rB, P.st.lim⟩, (Below.heap_setCell _ _ _ _ P.ne.1).trans P.v, (Below.heap_setCell _ _ _ _ P.ne.2).trans P.vw, P.v16, P.ne, grown_trans P.gr (grown_setCell _ _ _ _)⟩
theorem Pf.drew {w0 w : World} {g gv gw n : Nat} {hs rs V : List Int} (P : Pf w0 w g gv gw hs rs n V) : Pf w0 w.drew g gv gw hs rs n V :=
  ⟨P.st.of_block rfl, P.v, P.vw, P.v16, P.ne, grown_trans P.gr (grown_drewN (World.grownBy.refl _ _) 1)⟩
/-- What several orders come to is proved once. -/
theorem shared {T G : Prop} (k : T → G) (h : T) : G := k h
end Go.Proofs.YtcklcffepedklaaGreat.Dg

namespace Go.Proofs.YtcklcffepedklaaGreat.Dg
open Go.RowKit

/-- Blocks that came new behind w0, with their cells: each apart from the others. -/
structure Rws (w0 w : World) (L : List (Nat × Array Value × TypeId)) : Prop where
  bel : Below w0.heap.size w0 w
  rows : ∀ (i g : Nat) (cs : Array Value) (t : TypeId), L[i]? = some (g, cs, t) → w0.heap.size ≤ g ∧ w.heap[g]? = some (.cells cs t (0, 0))
  apart : ∀ (i j g : Nat) (cs : Array Value) (t : TypeId) (g' : Nat) (cs' : Array Value) (t' : TypeId), L[i]? = some (g, cs, t) → L[j]? = some (g', cs', t') → i ≠ j → g ≠ g'
section
variable {w0 w w' : World} {L : List (Nat × Array Value × TypeId)}
theorem Rws.at (R : Rws w0 w L) (i : Nat) {g : Nat} {cs : Array Value} {t : TypeId} (h : L[i]? = some (g, cs, t)) : w.heap[g]? = some (.cells cs t (0, 0)) := (R.rows i g cs t h).2
theorem Rws.start (w : World) : Rws w w [] := ⟨Below.refl _ _, fun i g cs t h => by simp at h, fun i j g cs t g' cs' t' h => by simp at h⟩
theorem Rws.quiet (R : Rws w0 w L) (h : Below w.heap.size w w') : Rws w0 w' L :=
  ⟨R.bel.trans (h.mono R.bel.size), fun i g cs t hi => ⟨(R.rows i g cs t hi).1, (h.block g (row_lt (R.rows i g cs t hi).2)).trans (R.rows i g cs t hi).2⟩, R.apart⟩
theorem Rws.drew (R : Rws w0 w L) : Rws w0 w.drew L := R.quiet (Below.refl _ _).drew
theorem Rws.alloced (R : Rws w0 w L) (cs : Array Value) (t : TypeId) (hg : w.grownBy w' none) (hr : w'.heap[w.heap.size]? = some (.cells cs t (0, 0))) : Rws w0 w' (L ++ [(w.heap.size, cs, t)]) := by
  have hq := R.quiet (below_refl_grown hg)
  refine ⟨hq.bel, fun i g c ty hi => ?_, fun i j g c ty g' c' ty' hi hj hij => ?_⟩
  · rw [List.getElem?_append] at hi
    split at hi
    · exact hq.rows i g c ty hi
    · rename_i hl
      have h0 : i - L.length = 0 := by
        rcases Nat.eq_zero_or_pos (i - L.length) with h | h
        · exact h
        · rw [List.getElem?_eq_none (by simp; omega)] at hi; cases hi
      rw [h0] at hi
      simp only [List.getElem?_cons_zero, Option.some.injEq, Prod.mk.injEq] at hi
      obtain ⟨rfl, rfl, rfl⟩ := hi
      exact ⟨R.bel.size, hr⟩
  · have old : ∀ (k a : Nat) (b : Array Value) (d : TypeId), L[k]? = some (a, b, d) → a < w.heap.size := fun k a b d h => row_lt (R.rows k a b d h).2
    have new : ∀ (k a : Nat) (b : Array Value) (d : TypeId), (L ++ [(w.heap.size, cs, t)])[k]? = some (a, b, d) → (k < L.length ∧ L[k]? = some (a, b, d)) ∨ (k = L.length ∧ a = w.heap.size) := by
      intro k a b d h
      rw [List.getElem?_append] at h
      split at h
      · exact Or.inl ⟨by assumption, h⟩
      · rcases Nat.eq_zero_or_pos (k - L.length) with h0 | h0
        · rw [h0] at h
          simp only [List.getElem?_cons_zero, Option.some.injEq, Prod.mk.injEq] at h
          exact Or.inr ⟨by omega, h.1.symm⟩
        · rw [List.getElem?_eq_none (by simp; omega)] at h; cases h
    rcases new i g c ty hi with ⟨h1, h2⟩ | ⟨h1, h2⟩ <;> rcases new j g' c' ty' hj with ⟨k1, k2⟩ | ⟨k1, k2⟩
    · exact R.apart i j _ _ _ _ _ _ h2 k2 hij
    · have := old _ _ _ _ h2; omega
    · have := old _ _ _ _ k2; omega
    · omega
theorem Rws.alloc (R : Rws w0 w L) (cs : Array Value) (t : TypeId) : Rws w0 (w.alloc (.cells cs t)) (L ++ [(w.heap.size, cs, t)]) := R.alloced cs t (grown_alloc _ _ _) (heap_alloc_last _ _)
/-- One of them is changed. -/
theorem Rws.change (R : Rws w0 w L) (i : Nat) {g : Nat} {cs cs' : Array Value} {t : TypeId} (h : L[i]? = some (g, cs, t)) (hg : w.grownBy w' (some g)) (hr : w'.heap[g]? = some (.cells cs' t (0, 0))) : Rws w0 w' (L.set i (g, cs', t)) := by
  have hge := (R.rows i g cs t h).1
  have hil : i < L.length := by
    rcases Nat.lt_or_ge i L.length with k | k
    · exact k
    · rw [List.getElem?_eq_none k] at h; cases h
  have look : ∀ (k a : Nat) (b : Array Value) (d : TypeId), (L.set i (g, cs', t))[k]? = some (a, b, d) → (k = i ∧ a = g ∧ b = cs' ∧ d = t) ∨ (k ≠ i ∧ L[k]? = some (a, b, d)) := by
    intro k a b d hk
    rw [List.getElem?_set] at hk
    by_cases e : i = k
    · subst e
      rw [if_pos rfl, if_pos hil] at hk
      simp only [Option.some.injEq, Prod.mk.injEq] at hk
      exact Or.inl ⟨rfl, hk.1.symm, hk.2.1.symm, hk.2.2.symm⟩
    · rw [if_neg e] at hk
      exact Or.inr ⟨fun e' => e e'.symm, hk⟩
  refine ⟨R.bel.grown hg R.bel.size (fun k hk => by injection hk with hk; omega), fun k a b d hk => ?_, fun k j a b d a' b' d' hk hj hkj => ?_⟩
  · rcases look k a b d hk with ⟨_, rfl, rfl, rfl⟩ | ⟨h1, h2⟩
    · exact ⟨hge, hr⟩
    · have hr2 := R.rows k a b d h2
      exact ⟨hr2.1, (hg.block a (row_lt hr2.2) (fun e => R.apart k i _ _ _ _ _ _ h2 h h1 (by injection e))).trans hr2.2⟩
  · rcases look k a b d hk with ⟨h1, rfl, rfl, rfl⟩ | ⟨h1, h2⟩ <;> rcases look j a' b' d' hj with ⟨k1, rfl, rfl, rfl⟩ | ⟨k1, k2⟩
    · omega
    · exact R.apart i j _ _ _ _ _ _ h k2 (by omega)
    · exact R.apart k i _ _ _ _ _ _ h2 h h1
    · exact R.apart k j _ _ _ _ _ _ h2 k2 hkj
theorem Rws.setW (R : Rws w0 w L) (i : Nat) {g : Nat} {V : List Int} {t : TypeId} (h : L[i]? = some (g, cellsW V, t)) (k : Nat) (x : Int) : Rws w0 (w.setCell ⟨g, k, none⟩ (.int .u32 x)) (L.set i (g, cellsW (V.set k x), t)) :=
  R.change i h (grown_setCell _ _ _ _) (by rw [setCell_row (R.at i h), cellsW_set])
theorem Rws.setRow (R : Rws w0 w L) (i : Nat) {g : Nat} {cs : Array Value} {t : TypeId} (h : L[i]? = some (g, cs, t)) (cs' : Array Value) : Rws w0 (w.setRow g cs') (L.set i (g, cs', t)) :=
  R.change i h ⟨rfl, rfl, rfl, by simp, fun k _ hne => setRow_other _ _ _ _ (fun e => hne (by rw [e]))⟩ (setRow_heap _ _ _ _ _ _ (R.at i h))
theorem Rws.c (R : Rws w0 w L) (i : Nat) {g : Nat} {V : List Int} {t : TypeId} (h : L[i]? = some (g, cellsW V, t)) (k : Nat) (hk : k < V.length) : w.cell? ⟨g, k, none⟩ = some (.int .u32 (V.getD k 0)) := cellW_of (R.at i h) k hk
theorem Rws.f (R : Rws w0 w L) (i : Nat) {g : Nat} {cs : Array Value} {t : TypeId} (h : L[i]? = some (g, cs, t)) (k : Nat) : w.frozen? ⟨g, k, none⟩ = false := free_row (R.at i h) k
end
theorem xor_assoc32 (a b c : Int) : Go.bits .xor .u32 (Go.bits .xor .u32 a b) c = Go.bits .xor .u32 a (Go.bits .xor .u32 b c) := by
  have hw : ∀ z : BitVec 32, BitVec.ofInt 32 (IntKind.u32.wrap ((z.toNat : Nat) : Int)) = z := by
    intro z
    rw [IntKind.wrap_u32', Int.emod_eq_of_lt (by omega) (by have := z.isLt; omega), BitVec.ofInt_natCast, BitVec.ofNat_toNat, BitVec.setWidth_eq]
  show IntKind.u32.wrap (((BitVec.ofInt 32 (IntKind.u32.wrap (((BitVec.ofInt 32 a ^^^ BitVec.ofInt 32 b).toNat : Nat) : Int)) ^^^ BitVec.ofInt 32 c).toNat : Nat) : Int) = IntKind.u32.wrap (((BitVec.ofInt 32 a ^^^ BitVec.ofInt 32 (IntKind.u32.wrap (((BitVec.ofInt 32 b ^^^ BitVec.ofInt 32 c).toNat : Nat) : Int))).toNat : Nat) : Int)
  rw [hw, hw, BitVec.xor_assoc]
theorem pad_get (b : List Int) (i : Nat) : (pad b).getD i 0 = if i < b.length then b.getD i 0 else 0 := by
  unfold pad
  rw [List.getD_eq_getElem?_getD, List.getElem?_append]
  split
  · rw [List.getD_eq_getElem?_getD]
  · rw [List.getElem?_replicate]; split <;> rfl
end Go.Proofs.YtcklcffepedklaaGreat.Dg
