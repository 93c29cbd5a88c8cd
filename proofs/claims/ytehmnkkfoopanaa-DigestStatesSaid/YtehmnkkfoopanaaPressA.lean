/- digest: what a state and the arrays hold while a block is taken. -/
import Derived.Test.YtehmnkkfoopanaaSpec
namespace Go.Proofs.Ytehmnkkfoopanaa
open Go.RowKit

theorem row_lt {w : World} {g : Nat} {o : Obj} (h : w.heap[g]? = some o) : g < w.heap.size := by
  rcases Nat.lt_or_ge g w.heap.size with h1 | h1
  · exact h1
  · rw [Array.getElem?_eq_none h1] at h; cases h
theorem and3 (p : Nat) (hp : p < 1000000) : Go.bits BinOp.and IntKind.i64 (p : Int) 3 = (p : Int) % 4 := by
  have hx : p &&& 3 < 2 ^ 63 := Nat.and_lt_two_pow _ (by omega)
  have ofI : ∀ a : Nat, a < 9223372036854775808 → (BitVec.ofInt 64 (a : Int)).toNat = a := fun a ha => by
    rw [BitVec.ofInt_natCast, BitVec.toNat_ofNat]; exact Nat.mod_eq_of_lt (by omega)
  have h6 : p &&& 3 = p % 4 := Nat.and_two_pow_sub_one_eq_mod p 2
  show IntKind.i64.wrap ((BitVec.ofInt 64 (p : Int) &&& BitVec.ofInt 64 (3 : Int)).toNat : Int) = _
  rw [BitVec.toNat_and, ofI p (by omega), show (3 : Int) = ((3 : Nat) : Int) from rfl, ofI 3 (by omega), h6, IntKind.wrap_i64]
  omega
theorem info47 (rs : List Int) (h : rs.length = 64) : (Try.prog.info? 47).map (·.size) = some (rs.map (Value.int .u8)).length := by
  rw [List.length_map, h]; kernel_rfl
theorem info44' (hs : List Int) (h : hs.length = 8) : (Try.prog.info? 44).map (·.size) = some (hs.map (Value.int .u32)).length := by
  rw [List.length_map, h]; kernel_rfl
theorem Row.restR {w : World} {g n : Nat} {hs rs : List Int} (V : Row w g hs rs n) : w.rangeAt g 8 (rs.map (Value.int .u8)) := by
  have := rangeAt_of_row V.row 8 64
  unfold stC at this
  rwa [List.append_assoc, List.drop_append_of_le_length (by simp [V.h8]), List.drop_of_length_le (by simp [V.h8]), List.nil_append, List.take_append_of_le_length (by simp [V.r64]), List.take_of_length_le (by simp [V.r64])] at this
theorem Row.wordR {w : World} {g n : Nat} {hs rs : List Int} (V : Row w g hs rs n) : w.rangeAt g 0 (hs.map (Value.int .u32)) := by
  have := rangeAt_of_row V.row 0 8
  unfold stC at this
  rwa [List.append_assoc, List.drop_zero, List.take_append_of_le_length (by simp [V.h8]), List.take_of_length_le (by simp [V.h8])] at this

/-- Eight words are laid into an array. -/
theorem store_old {P : Program} (w : World) (g : Nat) (cs0 cs : Array Value) (t : TypeId) (h : w.heap[g]? = some (.cells cs0 t (0, 0))) (hl : cs0.size = cs.size) (h1 : cs.all (·.oneCell') = true) :
    ∃ w', (storeCells ⟨g, 0, none⟩ cs.toList).run P w = .ok () w' ∧ w.grownBy w' (some g) ∧ w'.heap[g]? = some (.cells cs t (0, 0)) ∧ w'.heap.size = w.heap.size := by
  have hc : ∀ j, j < cs.size → (w.cell? ⟨g, 0 + j, none⟩).isSome = true := fun j hj => by
    rw [cell_of_row _ _ _ _ _ _ h, Nat.zero_add, Array.getElem?_eq_getElem (by omega)]; rfl
  have := run_storeCells_cells (P := P) g 0 cs.toList 0 w (fun j hj => by rw [Nat.add_zero]; exact hc j (by simpa using hj)) (fun j hj => by rw [Nat.add_zero]; exact free_row h _)
    (fun v hv => (Array.all_eq_true_iff_forall_mem.1 h1) v (Array.mem_toList_iff.1 hv))
  exact ⟨_, this, grown_setCells _ _ _ _, by rw [setCells_whole h (by simp [hl])], size_setCells _ _ _ _⟩
theorem cellsW_one (l : List Int) : (cellsW l).all (·.oneCell') = true := by simp [cellsW, Value.oneCell']
def z8 : List Int := [0, 0, 0, 0, 0, 0, 0, 0]
theorem below_two {w w' : World} {a B : Nat} (h : w.grownBy w' (some a)) (hB : B ≤ a) (hs : B ≤ w.heap.size) : Below B w w' := (Below.refl _ _).grown h hs (fun k hk => by injection hk; omega)
/-- While a block is taken: the state, the message's words, and the sixteen words in two arrays, in new blocks. -/
structure Pz (w0 w : World) (g gm : Nat) (hs rs : List Int) (n : Nat) (M : List Int) : Prop where
  st : Row w g hs rs n
  m : w.heap[gm]? = some (.cells (cellsW M) 52 (0, 0))
  m16 : M.length = 16
  mge : w0.heap.size ≤ gm
  glt : g < w0.heap.size
  bel : Below w0.heap.size w0 w
theorem Pz.quiet {w0 w w' : World} {g gm n : Nat} {hs rs M : List Int} (V : Pz w0 w g gm hs rs n M) (h : Below w.heap.size w w') : Pz w0 w' g gm hs rs n M :=
  ⟨V.st.of_block (h.block g (row_lt V.st.row)), (h.block gm (row_lt V.m)).trans V.m, V.m16, V.mge, V.glt, V.bel.trans (h.mono V.bel.size)⟩
theorem Pz.setM {w0 w : World} {g gm n : Nat} {hs rs M : List Int} (V : Pz w0 w g gm hs rs n M) (k : Nat) (x : Int) : Pz w0 (w.setCell ⟨gm, k, none⟩ (.int .u32 x)).drew g gm hs rs n (M.set k x) := by
  have hne : gm ≠ g := by have := V.mge; have := V.glt; omega
  refine ⟨V.st.of_block (Below.heap_setCell _ _ _ _ hne.symm), ?_, by rw [List.length_set]; exact V.m16, V.mge, V.glt, ?_⟩
  · show (w.setCell ⟨gm, k, none⟩ (.int .u32 x)).heap[gm]? = _
    rw [setCell_row V.m, cellsW_set]
  · exact (V.bel.setCell (by simpa using V.mge) _).drew

/-- And the sixteen words, in two arrays. -/
structure Pv (w0 w : World) (g gm gv gw : Nat) (hs rs : List Int) (n : Nat) (M Lv Lw : List Int) : Prop where
  z : Pz w0 w g gm hs rs n M
  v : w.heap[gv]? = some (.cells (cellsW Lv) 44 (0, 0))
  w : w.heap[gw]? = some (.cells (cellsW Lw) 44 (0, 0))
  v8 : Lv.length = 8
  w8 : Lw.length = 8
  ge : w0.heap.size ≤ gv ∧ w0.heap.size ≤ gw
  ne : gv ≠ gw ∧ gv ≠ gm ∧ gw ≠ gm
section
variable {w0 w w' : World} {g gm gv gw n : Nat} {hs rs M Lv Lw : List Int}
theorem Pz.old {k i : Nat} {x : Value} (V : Pz w0 w g gm hs rs n M) (h1 : w0.heap.size ≤ k) (h2 : k ≠ gm) : Pz w0 (w.setCell ⟨k, i, none⟩ x) g gm hs rs n M :=
  ⟨V.st.of_block (Below.heap_setCell _ _ _ _ (by have := V.glt; show g ≠ k; omega)), (Below.heap_setCell _ _ _ _ h2.symm).trans V.m, V.m16, V.mge, V.glt, V.bel.setCell (by simpa using h1) _⟩
theorem Pv.quiet (V : Pv w0 w g gm gv gw hs rs n M Lv Lw) (h : Below w.heap.size w w') : Pv w0 w' g gm gv gw hs rs n M Lv Lw :=
  ⟨V.z.quiet h, (h.block gv (row_lt V.v)).trans V.v, (h.block gw (row_lt V.w)).trans V.w, V.v8, V.w8, V.ge, V.ne⟩
theorem Pv.drew (V : Pv w0 w g gm gv gw hs rs n M Lv Lw) : Pv w0 w.drew g gm gv gw hs rs n M Lv Lw := V.quiet (Below.refl _ _).drew
theorem Pv.setW (V : Pv w0 w g gm gv gw hs rs n M Lv Lw) (k : Nat) (x : Int) : Pv w0 (w.setCell ⟨gw, k, none⟩ (.int .u32 x)) g gm gv gw hs rs n M Lv (Lw.set k x) :=
  ⟨V.z.old V.ge.2 V.ne.2.2, (Below.heap_setCell _ _ _ _ V.ne.1).trans V.v, by rw [setCell_row V.w, cellsW_set], V.v8, by rw [List.length_set]; exact V.w8, V.ge, V.ne⟩
theorem Pv.setV (V : Pv w0 w g gm gv gw hs rs n M Lv Lw) (k : Nat) (x : Int) : Pv w0 (w.setCell ⟨gv, k, none⟩ (.int .u32 x)) g gm gv gw hs rs n M (Lv.set k x) Lw :=
  ⟨V.z.old V.ge.1 V.ne.2.1, by rw [setCell_row V.v, cellsW_set], (Below.heap_setCell _ _ _ _ V.ne.1.symm).trans V.w, by rw [List.length_set]; exact V.v8, V.w8, V.ge, V.ne⟩
/-- Another block, new, is changed. -/
theorem Pv.setO {k i : Nat} {x : Value} (V : Pv w0 w g gm gv gw hs rs n M Lv Lw) (h1 : w0.heap.size ≤ k) (h2 : k ≠ gm ∧ k ≠ gv ∧ k ≠ gw) : Pv w0 (w.setCell ⟨k, i, none⟩ x) g gm gv gw hs rs n M Lv Lw :=
  ⟨V.z.old h1 h2.1, (Below.heap_setCell _ _ _ _ h2.2.1.symm).trans V.v, (Below.heap_setCell _ _ _ _ h2.2.2.symm).trans V.w, V.v8, V.w8, V.ge, V.ne⟩
theorem Pv.cv (V : Pv w0 w g gm gv gw hs rs n M Lv Lw) (i : Nat) (hi : i < 8) : w.cell? ⟨gv, i, none⟩ = some (.int .u32 (Lv.getD i 0)) := cellW_of V.v i (by rw [V.v8]; exact hi)
theorem Pv.cw (V : Pv w0 w g gm gv gw hs rs n M Lv Lw) (i : Nat) (hi : i < 8) : w.cell? ⟨gw, i, none⟩ = some (.int .u32 (Lw.getD i 0)) := cellW_of V.w i (by rw [V.w8]; exact hi)
end

theorem getD_take (V : List Int) (a : Nat) (h : a < 8) : (V.take 8).getD a 0 = V.getD a 0 := by
  rw [List.getD_eq_getElem?_getD, List.getD_eq_getElem?_getD, List.getElem?_take, if_pos h]
theorem getD_drop (V : List Int) (c : Nat) : (V.drop 8).getD c 0 = V.getD (8 + c) 0 := by
  rw [List.getD_eq_getElem?_getD, List.getD_eq_getElem?_getD, List.getElem?_drop]
theorem mix_take (V : List Int) (hV : V.length = 16) (a b c d : Nat) (x y : Int) :
    (mixL V a b (8 + c) (8 + d) x y).take 8 = ((V.take 8).set a (quarter (V.getD a 0) (V.getD b 0) (V.getD (8 + c) 0) (V.getD (8 + d) 0) x y).a).set b (quarter (V.getD a 0) (V.getD b 0) (V.getD (8 + c) 0) (V.getD (8 + d) 0) x y).b := by
  unfold mixL
  simp only [List.take_set]
  rw [List.set_eq_of_length_le (by simp; omega), List.set_eq_of_length_le (by simp; omega)]
theorem mix_drop (V : List Int) (a b c d : Nat) (ha : a < 8) (hb : b < 8) (x y : Int) :
    (mixL V a b (8 + c) (8 + d) x y).drop 8 = ((V.drop 8).set c (quarter (V.getD a 0) (V.getD b 0) (V.getD (8 + c) 0) (V.getD (8 + d) 0) x y).c).set d (quarter (V.getD a 0) (V.getD b 0) (V.getD (8 + c) 0) (V.getD (8 + d) 0) x y).d := by
  unfold mixL
  simp only [List.drop_set, ha, hb, if_true, show ¬ 8 + c < 8 from by omega, show ¬ 8 + d < 8 from by omega, if_false, show 8 + c - 8 = c from by omega, show 8 + d - 8 = d from by omega]
/-- And what is left of an order. -/
structure Po (w0 w : World) (g gm gv gw go : Nat) (hs rs : List Int) (n : Nat) (M V : List Int) (o : Nat) : Prop where
  p : Pv w0 w g gm gv gw hs rs n M (V.take 8) (V.drop 8)
  o : w.heap[go]? = some (.cells #[.int .u64 o] 29 (0, 0))
  oge : w0.heap.size ≤ go
  one : go ≠ gm ∧ go ≠ gv ∧ go ≠ gw
  v16 : V.length = 16
  vU : AllU V
section
variable {w0 w w' : World} {g gm gv gw go n o : Nat} {hs rs M V : List Int}
theorem Po.next (P : Po w0 w g gm gv gw go hs rs n M V o) (o' : Nat) (x : Int) (hx : x = o') : Po w0 (w.setCell ⟨go, 0, none⟩ (.int .u64 x)) g gm gv gw go hs rs n M V o' :=
  ⟨P.p.setO P.oge P.one, by rw [setCell_row P.o, hx]; rfl, P.oge, P.one, P.v16, P.vU⟩
theorem Po.drew (P : Po w0 w g gm gv gw go hs rs n M V o) : Po w0 w.drew g gm gv gw go hs rs n M V o := ⟨P.p.drew, P.o, P.oge, P.one, P.v16, P.vU⟩
/-- Four words are mixed. -/
theorem Po.mixed (P : Po w0 w g gm gv gw go hs rs n M V o) (a b c d : Nat) (x y : Int) (ha : a < 8) (hb : b < 8) (q : Q4) (hq : q = quarter (V.getD a 0) (V.getD b 0) (V.getD (8 + c) 0) (V.getD (8 + d) 0) x y) :
    Po w0 ((((w.setCell ⟨gv, a, none⟩ (.int .u32 q.a)).setCell ⟨gv, b, none⟩ (.int .u32 q.b)).setCell ⟨gw, c, none⟩ (.int .u32 q.c)).setCell ⟨gw, d, none⟩ (.int .u32 q.d)) g gm gv gw go hs rs n M (mixL V a b (8 + c) (8 + d) x y) o := by
  subst hq
  have h := (((P.p.setV a (quarter (V.getD a 0) (V.getD b 0) (V.getD (8 + c) 0) (V.getD (8 + d) 0) x y).a).setV b (quarter (V.getD a 0) (V.getD b 0) (V.getD (8 + c) 0) (V.getD (8 + d) 0) x y).b).setW c (quarter (V.getD a 0) (V.getD b 0) (V.getD (8 + c) 0) (V.getD (8 + d) 0) x y).c).setW d (quarter (V.getD a 0) (V.getD b 0) (V.getD (8 + c) 0) (V.getD (8 + d) 0) x y).d
  rw [← mix_take V P.v16, ← mix_drop V a b c d ha hb] at h
  refine ⟨h, ?_, P.oge, P.one, (mixL_length _ _ _ _ _ _ _).trans P.v16, P.vU.mixL _ _ _ _ _ _⟩
  rw [Below.heap_setCell _ _ _ _ P.one.2.2, Below.heap_setCell _ _ _ _ P.one.2.2, Below.heap_setCell _ _ _ _ P.one.2.1, Below.heap_setCell _ _ _ _ P.one.2.1]
  exact P.o
theorem Po.cv (P : Po w0 w g gm gv gw go hs rs n M V o) (i : Nat) (hi : i < 8) : w.cell? ⟨gv, i, none⟩ = some (.int .u32 (V.getD i 0)) := by rw [P.p.cv i hi, getD_take _ _ hi]
theorem Po.cw (P : Po w0 w g gm gv gw go hs rs n M V o) (i : Nat) (hi : i < 8) : w.cell? ⟨gw, i, none⟩ = some (.int .u32 (V.getD (8 + i) 0)) := by rw [P.p.cw i hi, getD_drop]
end

theorem stC_set {hs rs : List Int} (h8 : hs.length = 8) (i : Nat) (hi : i < 8) (z x : Int) : (stC hs rs z).setIfInBounds i (.int .u32 x) = stC (hs.set i x) rs z := by
  unfold stC
  rw [List.setIfInBounds_toArray, List.append_assoc, List.append_assoc, List.set_append_left _ _ (by simp; omega), List.map_set]
/-- While the words are put back. -/
structure Pf (w0 w : World) (g gv gw : Nat) (hs rs : List Int) (n : Nat) (V : List Int) : Prop where
  st : Row w g hs rs n
  v : w.heap[gv]? = some (.cells (cellsW (V.take 8)) 44 (0, 0))
  vw : w.heap[gw]? = some (.cells (cellsW (V.drop 8)) 44 (0, 0))
  v16 : V.length = 16
  ne : gv ≠ g ∧ gw ≠ g
  gr : w0.grownBy w (some g)
theorem Pf.set {w0 w : World} {g gv gw n : Nat} {hs rs V : List Int} (P : Pf w0 w g gv gw hs rs n V) (i : Nat) (hi : i < 8) (x : Int) (hx : U x) : Pf w0 (w.setCell ⟨g, i, none⟩ (.int .u32 x)) g gv gw (hs.set i x) rs n V :=
  ⟨⟨by rw [setCell_row P.st.row, stC_set P.st.h8 i hi], by rw [List.length_set]; exact P.st.h8, P.st.r64, AllU.set P.st.hU i x hx, P.st.rB, P.st.lim⟩, (Below.heap_setCell _ _ _ _ P.ne.1).trans P.v, (Below.heap_setCell _ _ _ _ P.ne.2).trans P.vw, P.v16, P.ne, grown_trans P.gr (grown_setCell _ _ _ _)⟩
theorem Pf.drew {w0 w : World} {g gv gw n : Nat} {hs rs V : List Int} (P : Pf w0 w g gv gw hs rs n V) : Pf w0 w.drew g gv gw hs rs n V :=
  ⟨P.st.of_block rfl, P.v, P.vw, P.v16, P.ne, grown_trans P.gr (grown_drewN (World.grownBy.refl _ _) 1)⟩
/-- What several orders come to is proved once. -/
theorem shared {T G : Prop} (k : T → G) (h : T) : G := k h
end Go.Proofs.Ytehmnkkfoopanaa
