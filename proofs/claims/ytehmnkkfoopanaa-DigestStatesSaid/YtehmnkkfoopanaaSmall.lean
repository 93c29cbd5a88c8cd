/- digest: small functions. -/
import Derived.Test.YtehmnkkfoopanaaOps
namespace Go.Proofs.Ytehmnkkfoopanaa
open Go.RowKit

/-- Words as cells. -/
def cellsW (l : List Int) : Array Value := (l.map (Value.int .u32)).toArray
theorem cellsW_size (l : List Int) : (cellsW l).size = l.length := by simp [cellsW]
theorem cellsW_get (l : List Int) (k : Nat) (h : k < l.length) : (cellsW l)[k]? = some (.int .u32 (l.getD k 0)) := by
  unfold cellsW
  rw [List.getElem?_toArray, List.getElem?_map, List.getD_eq_getElem?_getD, List.getElem?_eq_getElem h]; rfl
theorem cellsW_set (l : List Int) (k : Nat) (x : Int) : (cellsW l).setIfInBounds k (.int .u32 x) = cellsW (l.set k x) := by
  unfold cellsW
  rw [List.setIfInBounds_toArray, List.map_set]

theorem results_cell {P : Program} {fn : Func} {a : Tmp} {t : TypeId} (h : fn.results = #[.cell a t]) (tmps : Array Value) (w : World) (g : Nat) (ty : TypeId) (cs : Array Value) (fr : Nat × Nat) (d : TypeDesc) (ht : tmps.getD a undef = .pointer (some ⟨g, 0, none⟩)) (hg : w.heap[g]? = some (.cells cs ty fr))
    (hu : P.underlying t = some d) (hd : (match d with | .struct _ | .array _ _ => true | _ => false) = true) (hi : (P.info? t).map (·.size) = some cs.size) :
    (results fn tmps).run P w = .ok (.agg cs) w := by
  have hl := run_loadVar_row (P := P) w g ty t cs fr d hg hu hd hi
  have ht' : tmps[a]?.getD undef = .pointer (some ⟨g, 0, none⟩) := by simpa using ht
  simp [results, h, ht', asAddr, hl]

theorem run_index {P : Program} (w : World) (t e : TypeId) (n : Nat) (k : IntKind) (ht : P.underlying t = some (.array n e)) (he : P.underlying e = some (.int k)) (hsz : ∀ w, (sizeOf e).run P w = .ok 1 w) (cs : Array Value) (i : Nat) (v : Value) (hi : i < n) (hc : cs[i]? = some v) (z : Int) (hz : z = i) :
    (Instr.index t (.agg cs) (.int .i64 z)).run P w = .ok v w := by
  subst hz
  simp [Instr.index, asIntOf, run_underlying ht, hi, part, isAgg, run_underlying he, hc, hsz]

/-- The eight words. -/
def ivL : List Int := [1779033703, 3144134277, 1013904242, 2773480762, 1359893119, 2600822924, 528734635, 1541459225]
theorem info44 : (Try.prog.info? 44).map (·.size) = some 8 := by kernel_rfl
theorem first_any (w : World) : Calls Try.prog 21 #[] w fun e w' => e = .returned (.agg (cellsW ivL)) ∧ w.grownBy w' none := by
  go_enter Try.func21, Try.ntmps21
  go_wp2_with fail
  refine bodyPost_ret (results_cell rfl _ _ w.heap.size 44 (cellsW ivL) (0, 0) _ rfl (heap_alloc_last _ _) Try.underlying44 rfl info44) rfl ?_
  exact ⟨rfl, grown_alloc _ _ _⟩
theorem words_any (w : World) : Calls Try.prog 19 #[] w fun e w' => e = .returned (.agg (cellsW ivL)) ∧ w.grownBy w' none := by
  go_enter Try.func19, Try.ntmps19
  go_wp2_with fail
  refine bodyPost_ret (results_cell rfl _ _ w.heap.size 44 (cellsW ivL) (0, 0) _ rfl (heap_alloc_last _ _) Try.underlying44 rfl info44) rfl ?_
  exact ⟨rfl, grown_alloc _ _ _⟩
/-- The orders, four bits each. -/
def ordL : List Nat := [81985529216486895, 16881918945140062035, 13312731748010193300, 8733003861693448440, 10400822202260547645, 3200383143768358425, 14204332651957162635, 15816291393287259690, 8064173457993569445, 11710614767857974480]
def ordN (r : Nat) : Nat := ordL.getD r 0
theorem order_any (r : Nat) (hr : r < 10) (w : World) : Calls Try.prog 26 #[.int .i64 r] w fun e w' => e = .returned (.int .u64 (ordN r)) ∧ w = w' := by
  have hc : (#[Value.int .u64 81985529216486895, Value.int .u64 16881918945140062035, Value.int .u64 13312731748010193300, Value.int .u64 8733003861693448440, Value.int .u64 10400822202260547645, Value.int .u64 3200383143768358425, Value.int .u64 14204332651957162635, Value.int .u64 15816291393287259690, Value.int .u64 8064173457993569445, Value.int .u64 11710614767857974480] : Array Value)[r]? = some (Value.int .u64 (ordN r)) := by
    match r, hr with
    | 0, _ => rfl
    | 1, _ => rfl
    | 2, _ => rfl
    | 3, _ => rfl
    | 4, _ => rfl
    | 5, _ => rfl
    | 6, _ => rfl
    | 7, _ => rfl
    | 8, _ => rfl
    | 9, _ => rfl
    | n + 10, h => exact absurd h (by omega)
  have HR := Lib.hid (fun w => run_index (P := Try.prog) w 63 29 10 .u64 Try.underlying63 Try.underlying29 (fun _ => by kernel_rfl) _ r _ hr hc r rfl)
  clear hc
  go_enter Try.func26, Try.ntmps26
  go_wp2_with (rw [HR.out]; simp only [Result.andThen_ok])
  go_ret
  exact ⟨rfl, rfl⟩

/-- The cells of a state. -/
def stC (hs rs : List Int) (n : Int) : Array Value := (hs.map (Value.int .u32) ++ rs.map (Value.int .u8) ++ [Value.int .u64 n]).toArray
/-- The words with which all begins. -/
def initL : List Int := [1795745351, 3144134277, 1013904242, 2773480762, 1359893119, 2600822924, 528734635, 1541459225]
def rep0 : List Int := [0, 0, 0, 0, 0, 0, 0, 0, 0, 0, 0, 0, 0, 0, 0, 0, 0, 0, 0, 0, 0, 0, 0, 0, 0, 0, 0, 0, 0, 0, 0, 0, 0, 0, 0, 0, 0, 0, 0, 0, 0, 0, 0, 0, 0, 0, 0, 0, 0, 0, 0, 0, 0, 0, 0, 0, 0, 0, 0, 0, 0, 0, 0, 0]
theorem Try.info49 : (Try.prog.info? 49).map (fun i => (i.zero, i.size, i.bytes)) = some (some (.agg (stC [0, 0, 0, 0, 0, 0, 0, 0] rep0 0)), 73, 104) := by kernel_rfl
theorem zero49 (w : World) : (zeroValue 49).run Try.prog w = .ok (.agg (stC [0, 0, 0, 0, 0, 0, 0, 0] rep0 0)) w := by
  obtain ⟨i0, hi, hz0, _, _⟩ := info_parts Try.info49
  simp [zeroValue, typeInfo, hi, hz0]
set_option maxRecDepth 20000 in
set_option maxHeartbeats 800000 in
theorem New_any (w : World) : Calls Try.prog 15 #[] w fun e w' => ∃ g, e = .returned (.pointer (some ⟨g, 0, none⟩)) ∧ w.grownBy w' none ∧ w.heap.size ≤ g ∧ w'.heap[g]? = some (.cells (stC initL rep0 0) 49 (0, 0)) := by
  go_enter Try.func15, Try.ntmps15
  go_wp2_with fail
  refine (first_any w).mono ?_
  rintro e w1 ⟨rfl, hg1⟩
  simp only [cellsW, ivL, List.map]
  have hz := zero49
  have hx : Go.bits .xor .u32 1779033703 16842784 = 1795745351 := by decide +kernel
  simp only [stC, rep0, List.map, List.cons_append, List.nil_append] at hz
  go_upto_region 2 with (fail)
  go_region
  go_wp2_with fail
  go_ret
  refine ⟨w1.heap.size, rfl, ?_, hg1.size, ?_⟩
  · exact grown_trans (grown_trans hg1 (grown_alloc _ _ _)) (grown_drewN (World.grownBy.refl _ _) 1)
  · exact heap_alloc_last _ _

/-- A state at block g: its words, what rests, how many bytes came. -/
structure Row (w : World) (g : Nat) (hs rs : List Int) (n : Nat) : Prop where
  row : w.heap[g]? = some (.cells (stC hs rs n) 49 (0, 0))
  h8 : hs.length = 8
  r64 : rs.length = 64
  hU : ∀ i, U (hs.getD i 0)
  rB : Bytes rs
  lim : n < 4611686018427387904
section
variable {w w' : World} {g n : Nat} {hs rs : List Int}
theorem stC_word (h8 : hs.length = 8) (i : Nat) (hi : i < 8) (z : Int) : (stC hs rs z)[i]? = some (.int .u32 (hs.getD i 0)) := by
  unfold stC
  rw [List.getElem?_toArray, List.append_assoc, List.getElem?_append_left (by simp; omega), List.getElem?_map, List.getD_eq_getElem?_getD, List.getElem?_eq_getElem (by omega)]; rfl
theorem stC_rest (h8 : hs.length = 8) (r64 : rs.length = 64) (i : Nat) (hi : i < 64) (z : Int) : (stC hs rs z)[8 + i]? = some (.int .u8 (rs.getD i 0)) := by
  unfold stC
  rw [List.getElem?_toArray, List.append_assoc, List.getElem?_append_right (by simp; omega), List.getElem?_append_left (by simp; omega), List.length_map, h8, show 8 + i - 8 = i from by omega, List.getElem?_map, List.getD_eq_getElem?_getD, List.getElem?_eq_getElem (by omega)]; rfl
theorem stC_n (h8 : hs.length = 8) (r64 : rs.length = 64) (z : Int) : (stC hs rs z)[72]? = some (.int .u64 z) := by
  unfold stC
  rw [List.getElem?_toArray, List.getElem?_append_right (by simp; omega)]
  simp [h8, r64]
theorem stC_size (h8 : hs.length = 8) (r64 : rs.length = 64) (z : Int) : (stC hs rs z).size = 73 := by simp [stC, h8, r64]
theorem Row.word (V : Row w g hs rs n) (i : Nat) (hi : i < 8) : w.cell? ⟨g, i, none⟩ = some (.int .u32 (hs.getD i 0)) := by rw [cell_of_row _ _ _ _ _ _ V.row]; exact stC_word V.h8 i hi _
theorem Row.rest (V : Row w g hs rs n) (i : Nat) (hi : i < 64) : w.cell? ⟨g, 8 + i, none⟩ = some (.int .u8 (rs.getD i 0)) := by rw [cell_of_row _ _ _ _ _ _ V.row]; exact stC_rest V.h8 V.r64 i hi _
theorem Row.num (V : Row w g hs rs n) : w.cell? ⟨g, 72, none⟩ = some (.int .u64 n) := by rw [cell_of_row _ _ _ _ _ _ V.row]; exact stC_n V.h8 V.r64 _
theorem Row.of_block (V : Row w g hs rs n) (hb : w'.heap[g]? = w.heap[g]?) : Row w' g hs rs n := ⟨hb.trans V.row, V.h8, V.r64, V.hU, V.rB, V.lim⟩

/-- How many bytes stand in rest. -/
def heldN (n : Nat) : Nat := if n = 0 then 0 else (n - 1) % 64 + 1
theorem heldN_le (n : Nat) : heldN n ≤ 64 := by unfold heldN; split <;> omega
theorem held_any (V : Row w g hs rs n) : Calls Try.prog 22 #[.pointer (some ⟨g, 0, none⟩)] w fun e w' => e = .returned (.int .i64 (heldN n)) ∧ w = w' := by
  have c := V.num
  have hl := V.lim
  clear V
  unfold heldN
  by_cases h : n = 0
  · subst h
    go_enter Try.func22, Try.ntmps22
    go_wp2
    go_ret
    exact ⟨rfl, rfl⟩
  · have h1 : ((n : Int) == 0) = false := by simp [h]
    have h2 : 0 < n := by omega
    have h3 : (((n - 1) % 64 + 1 : Nat) : Int) = ((n : Int) - 1) % 64 + 1 := by omega
    rw [if_neg h, h3]
    clear h h3
    go_enter Try.func22, Try.ntmps22
    go_wp2
    go_ret
    exact ⟨rfl, rfl⟩
theorem Len_any (V : Row w g hs rs n) : Calls Try.prog 18 #[.pointer (some ⟨g, 0, none⟩)] w fun e w' => e = .returned (.int .u64 n) ∧ w = w' := by
  have c := V.num
  clear V
  go_enter Try.func18, Try.ntmps18
  go_wp2
  go_ret
  exact ⟨rfl, rfl⟩
theorem Len_nil (w : World) : Calls Try.prog 18 #[.pointer none] w fun e w' => e = .returned (.int .u64 0) ∧ w = w' := by
  go_enter Try.func18, Try.ntmps18
  go_wp2
  go_ret
  exact ⟨rfl, rfl⟩
end
end Go.Proofs.Ytehmnkkfoopanaa
