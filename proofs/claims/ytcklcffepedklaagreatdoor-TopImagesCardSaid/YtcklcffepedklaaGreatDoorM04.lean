/- Texts of the proof, one behind the other: path: texts cut into names. No program in sight. A new variable that gets a whole value. What regions, rows and slices want: of no type. tree: what a tree lies as; Len, Height, node. -/
import Derived.Test.YtcklcffepedklaaGreatDoorM03
import Derived.Lib.SplitLaws
import Derived.Laws.RangeAny
import Derived.Lib.ValidU
import Derived.Test.YtcklcffepedklaaGreatDoorM02
import Derived.Test.YtcklcffepedklaaGreatDoorM01
import Derived.Deep.MidRow
import Derived.Deep.DeepCutAuto
namespace Go.Proofs.YtcklcffepedklaaGreatDoor
open Go.RowKit

abbrev L8 := List UInt8
/-- The text of names. -/
def joinP : List L8 → L8
  | [] => []
  | n :: l => 47 :: (n ++ joinP l)
theorem joinP_app : ∀ a b : List L8, joinP (a ++ b) = joinP a ++ joinP b
  | [], _ => rfl
  | n :: a, b => by simp only [List.cons_append, joinP, joinP_app a b, List.append_assoc]
/-- A text cut at each slash. -/
def cutP : L8 → List L8
  | [] => [[]]
  | c :: s => if c = 47 then [] :: cutP s else match cutP s with
    | [] => [[c]]
    | x :: r => (c :: x) :: r
theorem cutP_ne : ∀ s, cutP s ≠ []
  | [] => by simp [cutP]
  | c :: s => by
    unfold cutP
    split
    · simp
    · split <;> simp
theorem joinP_cut : ∀ s, joinP (cutP s) = 47 :: s
  | [] => rfl
  | c :: s => by
    have ih := joinP_cut s
    unfold cutP
    split
    · rename_i h; subst h
      simp only [joinP, List.nil_append, ih]
    · split
      · rename_i h; exact absurd h (cutP_ne s)
      · rename_i x r h
        rw [h] at ih
        simp only [joinP, List.cons_append, List.cons.injEq, true_and] at ih ⊢
        exact ih
theorem cutP_mem : ∀ s, ∀ n ∈ cutP s, (47 : UInt8) ∉ n
  | [], n, h => by simp [cutP] at h; subst h; simp
  | c :: s, n, h => by
    have ih := cutP_mem s
    unfold cutP at h
    split at h
    · rcases List.mem_cons.1 h with rfl | h
      · simp
      · exact ih n h
    · rename_i hc
      split at h
      · rename_i h'; exact absurd h' (cutP_ne s)
      · rename_i x r h'
        rw [h'] at ih
        rcases List.mem_cons.1 h with rfl | h
        · have := ih x (by simp)
          simp only [List.mem_cons, not_or]
          exact ⟨fun e => hc e.symm, this⟩
        · exact ih n (by simp [h])
theorem cutP_app : ∀ x y : L8, cutP (x ++ 47 :: y) = cutP x ++ cutP y
  | [], y => by simp [cutP]
  | c :: x, y => by
    have ih := cutP_app x y
    simp only [List.cons_append]
    rw [cutP, cutP, ih]
    split
    · rfl
    · cases h : cutP x with
      | nil => exact absurd h (cutP_ne x)
      | cons a r => rfl
theorem cutP_one : ∀ n : L8, (47 : UInt8) ∉ n → cutP n = [n]
  | [], _ => rfl
  | c :: n, h => by
    simp only [List.mem_cons, not_or] at h
    rw [cutP, if_neg (fun e => h.1 e.symm), cutP_one n h.2]
theorem cutP_join : ∀ (l : List L8) (n : L8), (∀ m ∈ n :: l, (47 : UInt8) ∉ m) → cutP (n ++ joinP l) = n :: l
  | [], n, h => by rw [joinP, List.append_nil]; exact cutP_one n (h n (by simp))
  | m :: l, n, h => by
    rw [joinP, cutP_app, cutP_one n (h n (by simp)), cutP_join l m (fun x hx => h x (by simp [List.mem_cons.1 hx]))]
    rfl
theorem split_cut : ∀ s : L8, Lib.splitK [47] 0 (s.count 47) s = cutP s
  | [] => rfl
  | c :: s => by
    have ih := split_cut s
    by_cases hc : c = 47
    · subst hc
      have hix : Lib.index (47 :: s) [47] = ((0 : Nat) : Int) := by rw [Lib.index]; simp [List.isPrefixOf]
      rw [List.count_cons_self, Lib.splitK, hix, cutP, if_pos rfl]
      simp [ih]
    · have hix : Lib.index (c :: s) [47] = if Lib.index s [47] == -1 then -1 else Lib.index s [47] + 1 := by
        rw [Lib.index]; simp [List.isPrefixOf, Ne.symm hc]
      rw [List.count_cons_of_ne (fun e => hc (by simpa using e)), cutP, if_neg hc]
      cases hk : s.count 47 with
      | zero =>
        rw [hk, Lib.splitK] at ih
        rw [Lib.splitK, ← ih]
      | succ k =>
        rw [hk, Lib.splitK] at ih
        have hge := Lib.index_ge s [47]
        rw [Lib.splitK, hix]
        by_cases hm : Lib.index s [47] = -1
        · rw [if_pos (by simp [hm])] at ih
          rw [if_pos (by simp [hm]), ← ih]
        · obtain ⟨j, hj⟩ : ∃ j : Nat, Lib.index s [47] = j := ⟨(Lib.index s [47]).toNat, by omega⟩
          have hj1 : ¬ ((j : Int) == -1) = true := fun e => by have := beq_iff_eq.1 e; omega
          have hj2 : ¬ ((j : Int) + 1 == -1) = true := fun e => by have := beq_iff_eq.1 e; omega
          rw [hj, if_neg hj1] at ih
          rw [hj, if_neg hj1, if_neg hj2, ← ih]
          have e1 : ((j : Int) + 1).toNat = j + 1 := by omega
          have e2 : ((j : Int)).toNat = j := by omega
          rw [e1, e2]
          simp

/-- A sign that may not stand in a name, from a place on. -/
def badAt (s : BA) : Nat → Nat → Bool
  | 0, _ => false
  | f + 1, p => if p < s.size then (decide ((Utf8.decode s p).1 < 32) || decide ((Utf8.decode s p).1 = 127) || decide ((Utf8.decode s p).1 = 47)) || badAt s f (p + (Utf8.decode s p).2) else false
/-- A text may be a name. -/
def nmOk (s : BA) : Bool := decide (s ≠ ⟨#[]⟩) && decide (s ≠ ⟨#[46]⟩) && decide (s ≠ ⟨#[46, 46]⟩) && decide (s.size ≤ 100) && Lib.validD s.data.toList && !(badAt s (s.size + 1) 0)
def ba (l : L8) : BA := ⟨l.toArray⟩
theorem ba_data (l : L8) : (ba l).data.toList = l := rfl
theorem ba_of (s : BA) : ba s.data.toList = s := rfl
theorem ba_inj {a b : L8} (h : ba a = ba b) : a = b := by rw [← ba_data a, h, ba_data]
def nmL (l : L8) : Bool := nmOk (ba l)
theorem nmL_nil : nmL [] = false := by
  unfold nmL nmOk; simp [ba]
theorem nmL_len {l : L8} (h : nmL l = true) : l.length ≤ 100 := by
  unfold nmL nmOk at h
  simp only [Bool.and_eq_true, decide_eq_true_eq] at h
  exact h.1.1.2
/-- A path's names. -/
def pNames (p : L8) : Option (List L8) :=
  match p with
  | [] => none
  | c :: s => if c = 47 then (if s = [] then some [] else if (cutP s).length ≤ 16 ∧ (cutP s).all nmL = true then some (cutP s) else none) else none
/-- The path of names. -/
def pOf (l : List L8) : L8 := if l = [] then [47] else joinP l
/-- Names that a path may have. -/
def PN (l : List L8) : Prop := l.length ≤ 16 ∧ (∀ n ∈ l, nmL n = true) ∧ ∀ n ∈ l, (47 : UInt8) ∉ n
theorem pNames_some {p : L8} {l : List L8} (h : pNames p = some l) : p = pOf l ∧ PN l := by
  unfold pNames at h
  split at h
  · cases h
  · split at h
    · rename_i c s hc; subst hc
      split at h
      · rename_i hs; subst hs; injection h with h; subst h
        exact ⟨rfl, by simp, by simp, by simp⟩
      · split at h
        · rename_i hl
          injection h with h; subst h
          refine ⟨?_, hl.1, fun n hn => List.all_eq_true.1 hl.2 n hn, cutP_mem s⟩
          rw [pOf, if_neg (cutP_ne s), joinP_cut]
        · cases h
    · cases h
theorem joinP_ne {n : L8} {l : List L8} : joinP (n :: l) ≠ [] := by simp [joinP]
theorem pNames_of {l : List L8} (h : PN l) : pNames (pOf l) = some l := by
  cases l with
  | nil => rfl
  | cons n l =>
    have hn : n ≠ [] := fun e => by have := h.2.1 n (by simp); rw [e, nmL_nil] at this; cases this
    rw [pOf, if_neg (by simp), joinP, pNames, if_pos rfl, if_neg (by simp [hn]), cutP_join l n h.2.2, if_pos ⟨h.1, List.all_eq_true.2 h.2.1⟩]
theorem pOf_inj {a b : List L8} (ha : PN a) (hb : PN b) (h : pOf a = pOf b) : a = b := by
  have := pNames_of ha
  rw [h, pNames_of hb] at this
  injection this with this; exact this.symm
theorem joinP_len {l : List L8} (h : PN l) : (joinP l).length ≤ 101 * l.length := by
  have := h.2.1
  clear h
  induction l with
  | nil => simp [joinP]
  | cons n l ih =>
    have h1 := nmL_len (this n (by simp))
    have h2 := ih (fun m hm => this m (by simp [hm]))
    simp only [joinP, List.length_cons, List.length_append]; omega
theorem pOf_len {l : List L8} (h : PN l) : (pOf l).length ≤ 1617 := by
  unfold pOf
  split
  · simp
  · have := joinP_len h; have := h.1; omega
theorem PN.init {l m : List L8} (h : PN (l ++ m)) : PN l :=
  ⟨by have := h.1; simp at this; omega, fun n hn => h.2.1 n (by simp [hn]), fun n hn => h.2.2 n (by simp [hn])⟩
theorem PN.take {l : List L8} (h : PN l) (k : Nat) : PN (l.take k) := by
  have := h; rw [← List.take_append_drop k l] at this; exact this.init
/-- A path within a directory: its names begin with the directory's. -/
theorem pfx_iff {a l : List L8} (ha : PN a) (hl : PN l) (hn : a ≠ []) (hn' : l ≠ []) : (joinP a ++ [47]) <+: joinP l ↔ ∃ m, m ≠ [] ∧ l = a ++ m := by
  constructor
  · rintro ⟨t, ht⟩
    cases a with
    | nil => exact absurd rfl hn
    | cons x a =>
    cases l with
    | nil => exact absurd rfl hn'
    | cons y l =>
      have e1 := cutP_join a x ha.2.2
      have e2 := cutP_join l y hl.2.2
      simp only [joinP, List.cons_append, List.cons.injEq, true_and] at ht
      rw [← ht] at e2
      rw [show x ++ joinP a ++ [47] ++ t = (x ++ joinP a) ++ 47 :: t by simp, cutP_app, e1] at e2
      exact ⟨cutP t, cutP_ne t, e2.symm⟩
  · rintro ⟨m, hm, rfl⟩
    cases m with
    | nil => exact absurd rfl hm
    | cons x m =>
      rw [joinP_app]
      exact ⟨x ++ joinP m, by simp [joinP]⟩
theorem joinP_drop {a m : List L8} : (joinP (a ++ m)).drop (joinP a).length = joinP m := by
  rw [joinP_app]; simp
end Go.Proofs.YtcklcffepedklaaGreatDoor

namespace Go.Proofs.YtcklcffepedklaaGreatDoor
open Go.RowKit

/-- A new variable gets a whole value. -/
theorem wpList_fresh {P : Program} {ops : Array Oper} {rest : List Oper} {o1 o2 : Oper} {a : Act} {w : World} {Q : Exit → Act → World → Prop} (g1 : o1.guard = none) (g2 : o2.guard = none) (T : TypeId) (ho1 : o1.op = .alloc T) (d x : Operand) (ho2 : o2.op = .store T d x)
    (cs Z : Array Value) (hd : ∀ v, (a.put o1.dst v).eval d = v) (hx : ∀ v, (a.put o1.dst v).eval x = .agg cs) (hz : ∀ W, (zeroValue T).run P W = .ok (.agg Z) W) (hi : (P.info? T).map (·.size) = some cs.size) (hzs : Z.size = cs.size) (h1 : cs.all (·.oneCell') = true)
    (h : ∀ g w1, Hid (g = w.heap.size) → Hid (w1.heap[g]? = some (.cells cs T (0, 0))) → Hid (Below w.heap.size w w1) → wpList P ops Q rest ((a.put o1.dst (.pointer (some ⟨g, 0, none⟩))).put o2.dst undef) w1) : wpList P ops Q (o1 :: o2 :: rest) a w := by
  refine wpList_plain g1 fun K hK => ?_
  unfold Oper.wp execOp
  simp only [ho1, Instr.alloc, Sem.run_bind, hz, Result.andThen_ok, Sem.run_pure]
  have hnv : (newVar T (.agg Z)).run P w = .ok ⟨w.heap.size, 0, none⟩ (w.alloc (.cells Z T)) := by
    simp [newVar, newRow, Value.cells]
  simp only [hnv, Result.andThen_ok]
  refine hK _ _ (wpList_store_row g2 T d x ho2 w.heap.size cs (hd _) (hx _) T Z (heap_alloc_last _ _) hi hzs h1 ?_)
  rw [World.setRow_alloc_new]
  exact h _ _ rfl (heap_alloc_last _ _) ((Below.refl _ _).alloc (Nat.le_refl _) _)

theorem results_cell_tmp_row {P : Program} {fn : Func} {p u : Tmp} {ty : TypeId} (h : fn.results = #[.cell p ty, .tmp u]) (tmps : Array Value) (w : World) (g : Nat) (t : TypeId) (cs : Array Value) (fr : Nat × Nat) (d : TypeDesc) (v2 : Value)
    (hp : tmps.getD p undef = .pointer (some ⟨g, 0, none⟩)) (hv : tmps.getD u undef = v2) (hg : w.heap[g]? = some (.cells cs t fr))
    (hu : P.underlying ty = some d) (hd : (match d with | .struct _ | .array _ _ => true | _ => false) = true) (hi : (P.info? ty).map (·.size) = some cs.size) :
    (results fn tmps).run P w = .ok (.tuple #[.agg cs, v2]) w := by
  rw [results_cell_tmp h, hp, hv]
  simp [asAddr, run_loadVar_row w g t ty cs fr d hg hu hd hi]
end Go.Proofs.YtcklcffepedklaaGreatDoor

namespace Go.Proofs.YtcklcffepedklaaGreatDoor
open Go.RowKit

theorem all_one {l : List Value} (h : ∀ u ∈ l, u.oneCell' = true) : l.toArray.all (·.oneCell') = true := by
  simpa using h
theorem range_lt {w : World} {g o : Nat} {cs : List Value} (h : w.rangeAt g o cs) (h0 : 0 < cs.length) : g < w.heap.size := by
  obtain ⟨v, hv⟩ : ∃ v, cs[0]? = some v := ⟨cs[0], List.getElem?_eq_getElem h0⟩
  exact cell_lt (a := ⟨g, o + 0, none⟩) (h 0 v hv)
theorem range_take {w : World} {g o : Nat} {cs : List Value} (h : w.rangeAt g o cs) (n : Nat) : w.rangeAt g o (cs.take n) := by
  intro j v hj
  rw [List.getElem?_take] at hj
  split at hj
  · exact h j v hj
  · cases hj
theorem range_cell {w : World} {g o : Nat} {cs : List Value} (h : w.rangeAt g o cs) {j : Nat} {v : Value} (hj : cs[j]? = some v) : w.cell? ⟨g, o + j, none⟩ = some v := h j v hj
theorem range_row {w : World} {g : Nat} {cs : List Value} {t : TypeId} (h : w.heap[g]? = some (.cells cs.toArray t (0, 0))) : w.rangeAt g 0 cs := by
  intro j v hj
  rw [cell_of_row _ _ _ _ _ _ h, Nat.zero_add, List.getElem?_toArray]; exact hj
theorem row_at {w : World} {g : Nat} {cs : List Value} {t : TypeId} (h : w.heap[g]? = some (.cells cs.toArray t (0, 0))) {j : Nat} {v : Value} (hj : cs[j]? = some v) : w.cell? ⟨g, j, none⟩ = some v := by
  rw [cell_of_row _ _ _ _ _ _ h, List.getElem?_toArray]; exact hj
theorem grown_setRow (w : World) (g : Nat) (cs : Array Value) : w.grownBy (w.setRow g cs) (some g) := ⟨rfl, rfl, rfl, by simp, fun j _ hne => setRow_other _ _ _ _ (fun e => hne (by rw [e]))⟩
theorem zip_set (off : Nat) : ∀ (vs : List Value) (n : Nat) (cells : Array Value), off + n + vs.length ≤ cells.size →
    (vs.zipIdx n).foldl (fun cs x => cs.setIfInBounds (off + x.2) x.1) cells = (cells.toList.take (off + n) ++ vs ++ cells.toList.drop (off + n + vs.length)).toArray
  | [], n, cells, h => by simp
  | v :: vs, n, cells, h => by
    rw [List.zipIdx_cons, List.foldl_cons, zip_set off vs (n + 1) _ (by simp at h ⊢; omega)]
    simp only [List.length_cons] at h
    congr 1
    simp only [Array.toList_setIfInBounds]
    have h1 : (cells.toList.set (off + n) v).take (off + (n + 1)) = cells.toList.take (off + n) ++ [v] := by
      rw [show off + (n + 1) = (off + n) + 1 from by omega, List.take_add_one, List.take_set_of_le (Nat.le_refl _), List.getElem?_set_self (by simp; omega)]
      rfl
    have h2 : (cells.toList.set (off + n) v).drop (off + (n + 1) + vs.length) = cells.toList.drop (off + n + (v :: vs).length) := by
      rw [List.drop_set_of_lt (by omega)]
      congr 1
      simp; omega
    rw [h1, h2]
    simp
theorem arr_zip (off : Nat) (vs : List Value) (cells : Array Value) (h : off + vs.length ≤ cells.size) :
    vs.toArray.zipIdx.foldl (fun cs (c, j) => cs.setIfInBounds (off + j) c) cells = (cells.toList.take off ++ vs ++ cells.toList.drop (off + vs.length)).toArray := by
  have := zip_set off vs 0 cells (by simpa using h)
  rw [Nat.add_zero] at this
  rw [← this, ← Array.foldl_toList]
  simp
theorem fill_cons {place : Nat → Option (Nat × Nat)} {cells : Array Value} {i off size : Nat} {v : Value} {rest : List (Nat × Value)} {vs : List Value} (hp : place i = some (off, size)) (hv : v.cells = vs.toArray) (hs : vs.length = size) (hf : off + size ≤ cells.size) :
    Instr.fill place cells ((i, v) :: rest) = Instr.fill place (cells.toList.take off ++ vs ++ cells.toList.drop (off + size)).toArray rest := by
  rw [Instr.fill, hp]
  have h1 : v.cells.size = size := by rw [hv, List.size_toArray, hs]
  simp only [h1]
  rw [if_neg (by simp; omega), hv, arr_zip off vs cells (by omega), hs]
theorem built_struct {P : Program} {t : TypeId} {fields : Array Field} {i : TypeInfo} {z : Value} {places : List (Nat × Nat)} {parts : List (Nat × Value)} (hi : P.info? t = some i) (hz : i.zero = some z) (hu : P.underlying t = some (.struct fields))
    (hp : fields.toList.mapM (fun f => (P.info? f.type).map fun i => (f.offset, i.size)) = some places) : P.built t parts = Instr.fill (places.toArray[·]?) z.cells parts := by
  simp only [Program.built, hi, hu, hz, hp]

theorem splice2 {Z cs : List Value} {n : Nat} (hZ : Z.length = n + 1) (hk : cs.length = n) (s : Value) :
    (Z.take 0 ++ cs ++ Z.drop (0 + n)).toArray.toList.take n ++ [s] ++ (Z.take 0 ++ cs ++ Z.drop (0 + n)).toArray.toList.drop (n + 1) = cs ++ [s] := by
  simp only [List.take_zero, List.nil_append, Nat.zero_add]
  rw [List.take_append_of_le_length (by omega), List.take_of_length_le (by omega), List.drop_of_length_le (by simp [hk, hZ]), List.append_nil]
/-- A slice of one element. -/
theorem build_one {P : Program} {t e : TypeId} {s : Nat} {z : Value} {vs : List Value} (ht : P.underlying t = some (.slice e)) (hsz : ∀ W, (sizeOf e).run P W = .ok s W) (hz : ∀ W, (zeroValue e).run P W = .ok z W) (hs : vs.length = s) (h0 : 0 < s) (hl : s ≤ 1000000) (v : Value) (hv : v.cells = vs.toArray) (W : World) :
    (Instr.buildSlice t 1 #[(0, v)]).run P W = .ok (.slice (some ⟨W.heap.size, 0, none⟩) 1 1) (W.alloc (.cells vs.toArray e)) := by
  have hf : Instr.fill (fun i => some (i * s, s)) ((Array.range (1 * s)).map (z.cells[· % z.cells.size]!)) [(0, v)] = some vs.toArray := by
    rw [fill_cons (off := 0) (size := s) (vs := vs) (by simp) hv hs (by simp), Instr.fill]
    congr 1
    simp
  simp only [Instr.buildSlice, Sem.run_bind, run_underlying ht, Result.andThen_ok, hsz, Nat.one_mul]
  rw [if_neg (by omega), if_neg (by omega)]
  simp only [Sem.run_bind, Sem.run_pure, Result.andThen_ok, hz]
  rw [Nat.one_mul] at hf
  simp only [hf]
  simp [newRow]

section
variable {P : Program} {ops : Array Oper} {o : Oper} {a : Act} {w w' : World} {K : Act → World → Prop} {Q : Exit → Act → World → Prop} {G : Prop}
/-- A step of a region that draws its order, by what the operation gives. -/
theorem step_val {v : Value} (hgd : o.guard = none) (hr : (execOp a.eval o).run P w = .ok (.value v) w') (h : K (a.put o.dst v) w') : if Region.wanted o (yielded ops a.tmps) = true then Oper.wp P o a w K Q else G := by
  rw [if_pos (by simp [Region.wanted, hgd])]
  unfold Oper.wp
  rw [hr]; exact h
theorem step_skip (hgd : o.guard = none) (hr : (execOp a.eval o).run P w = .ok .skip w') (h : K (a.put o.dst undef) w') : if Region.wanted o (yielded ops a.tmps) = true then Oper.wp P o a w K Q else G := by
  rw [if_pos (by simp [Region.wanted, hgd])]
  unfold Oper.wp
  rw [hr]; exact h
theorem wpList_val {rest : List Oper} {v : Value} (hgd : o.guard = none) (hr : (execOp a.eval o).run P w = .ok (.value v) w') (h : wpList P ops Q rest (a.put o.dst v) w') : wpList P ops Q (o :: rest) a w :=
  wpList_plain hgd fun K hK => by unfold Oper.wp; rw [hr]; exact hK _ _ h
theorem wpList_skip {rest : List Oper} (hgd : o.guard = none) (hr : (execOp a.eval o).run P w = .ok .skip w') (h : wpList P ops Q rest (a.put o.dst undef) w') : wpList P ops Q (o :: rest) a w :=
  wpList_plain hgd fun K hK => by unfold Oper.wp; rw [hr]; exact hK _ _ h
theorem yields_val {S : World → Prop} {v : Value} (hw : Region.wanted o (yielded ops a.tmps) = true) (hr : ∀ w, S w → (execOp a.eval o).run P w = .ok (.value v) w) : YieldsIf P ops S o v a := .inl ⟨hw, hr⟩
theorem exec_build {ρ : Operand → Value} (t : TypeId) (parts : Array (Nat × Operand)) (ho : o.op = .build t parts) (vs : Array (Nat × Value)) (hx : (parts.map fun p => (p.1, ρ p.2)) = vs) {v : Value} (hr : (Instr.build t vs).run P w = .ok v w') : (execOp ρ o).run P w = .ok (.value v) w' := by
  subst hx
  unfold execOp
  simp only [ho, Sem.run_bind, hr, Result.andThen_ok, Sem.run_pure]
theorem exec_buildSlice {ρ : Operand → Value} (t : TypeId) (n : Nat) (parts : Array (Nat × Operand)) (ho : o.op = .buildSlice t n parts) (vs : Array (Nat × Value)) (hx : (parts.map fun p => (p.1, ρ p.2)) = vs) {v : Value} (hr : (Instr.buildSlice t n vs).run P w = .ok v w') : (execOp ρ o).run P w = .ok (.value v) w' := by
  subst hx
  unfold execOp
  simp only [ho, Sem.run_bind, hr, Result.andThen_ok, Sem.run_pure]
end
theorem step_wp {P : Program} {ops : Array Oper} {o : Oper} {a : Act} {w : World} {K : Act → World → Prop} {Q : Exit → Act → World → Prop} {G : Prop} (hgd : o.guard = none) (h : o.wp P a w K Q) : if Region.wanted o (yielded ops a.tmps) = true then Oper.wp P o a w K Q else G := by
  rw [if_pos (by simp [Region.wanted, hgd])]; exact h
theorem exec_alloc {P : Program} {o : Oper} {w : World} {ρ : Operand → Value} {Z : Array Value} (T : TypeId) (ho : o.op = .alloc T) (hz : (zeroValue T).run P w = .ok (.agg Z) w) : (execOp ρ o).run P w = .ok (.value (.pointer (some ⟨w.heap.size, 0, none⟩))) (w.alloc (.cells Z T)) := by
  unfold execOp
  have hnv : (newVar T (.agg Z)).run P w = .ok ⟨w.heap.size, 0, none⟩ (w.alloc (.cells Z T)) := by
    simp [newVar, newRow, Value.cells]
  simp only [ho, Instr.alloc, Sem.run_bind, hz, Result.andThen_ok, hnv, Sem.run_pure]
theorem shared {T G : Prop} (k : T → G) (h : T) : G := k h
theorem addr_add0 (g o m : Nat) : (⟨g, o, none⟩ : Addr).add m = ⟨g, o + m, none⟩ := by unfold Addr.add; split <;> simp_all
theorem ints_row {w : World} {g : Nat} {l : List Int} {t : TypeId} (h : w.heap[g]? = some (.cells (cellsOf l) t (0, 0))) (o n : Nat) : Ints .u8 w (some ⟨g, o, none⟩) ((l.drop o).take n) := by
  have h1 := ((ints_block h).drop o).take n
  rwa [addr_add0, Nat.zero_add] at h1
theorem zero_run {P : Program} {T : TypeId} {i : TypeInfo} {z : Value} (hi : P.info? T = some i) (hz : i.zero = some z) (w : World) : (zeroValue T).run P w = .ok z w := by simp [zeroValue, typeInfo, hi, hz]
/-- A row's middle is laid. -/
theorem exec_store_mid {P : Program} {o : Oper} {w : World} {ρ : Operand → Value} (T : TypeId) (x y : Operand) (ho : o.op = .store T x y) (g off : Nat) (vs : List Value) (hx : ρ x = .pointer (some ⟨g, off, none⟩)) (hy : ρ y = .agg vs.toArray) (t : TypeId) (cur : Array Value) (hg : w.heap[g]? = some (.cells cur t (0, 0)))
    (hi : (P.info? T).map (·.size) = some vs.length) (hf : off + vs.length ≤ cur.size) (h1 : ∀ v ∈ vs, v.oneCell' = true) : (execOp ρ o).run P w = .ok .skip (w.setRow g (cur.toList.take off ++ vs ++ cur.toList.drop (off + vs.length)).toArray) := by
  have hst := run_storeCells_at P g off t vs 0 cur w hg (by omega) h1
  rw [Nat.add_zero] at hst
  cases hq : P.info? T with
  | none => simp [hq] at hi
  | some i =>
    simp only [hq, Option.map_some, Option.some.injEq] at hi
    have hs : (sizeOf T).run P w = .ok vs.length w := by simp [sizeOf, typeInfo, hq, hi]
    unfold execOp
    simp only [ho, hx, hy, Instr.storeAt, Instr.sureAddr, Sem.run_bind, Sem.run_pure, Result.andThen_ok, storeVar, hs, Value.cells, List.size_toArray]
    simp [hst]

theorem own_chg {R : Nat → Prop} {w w' : World} {b : Nat} {e : TypeId} {size n : Nat} {v : Value} {xs : List Value} (h : w.ownsRow b e size v n xs) (hc : Chg R w w') (hr : ∀ k, v.ownBlock = some k → ¬ R k) : w'.ownsRow b e size v n xs := by
  obtain ⟨h1, h2⟩ := h
  refine ⟨h1, ?_⟩
  rcases h2 with h2 | ⟨g, cap, cur, e, a, b, c⟩
  · exact .inl h2
  · exact .inr ⟨g, cap, cur, e, a, (hc.block g (row_lt b) (hr g (by rw [e]; rfl))).trans b, c⟩
theorem ownsRow_base {w : World} {b b' : Nat} {e : TypeId} {size : Nat} {v : Value} {n : Nat} {xs : List Value} (h : w.ownsRow b e size v n xs) (hb : b' ≤ b) : w.ownsRow b' e size v n xs := by
  obtain ⟨h1, h2⟩ := h
  refine ⟨h1, ?_⟩
  rcases h2 with h2 | ⟨g, cap, cur, a, b, c⟩
  · exact .inl h2
  · exact .inr ⟨g, cap, cur, a, by omega, c⟩
theorem flat_at {α : Type} {f : α → List Value} {k : Nat} : ∀ (l : List α), (∀ x ∈ l, (f x).length = k) → ∀ {i j : Nat} {x : α} {v : Value}, l[i]? = some x → (f x)[j]? = some v → (l.flatMap f)[i * k + j]? = some v
  | [], _, i, j, x, v, h, _ => by simp at h
  | y :: l, hk, i, j, x, v, h, hv => by
    rw [List.flatMap_cons]
    have hy := hk y List.mem_cons_self
    have hj : j < (f x).length := by rcases Nat.lt_or_ge j (f x).length with h1 | h1; exact h1; rw [List.getElem?_eq_none h1] at hv; cases hv
    cases i with
    | zero =>
      simp only [List.getElem?_cons_zero, Option.some.injEq] at h
      subst h
      rw [Nat.zero_mul, Nat.zero_add, List.getElem?_append_left hj]; exact hv
    | succ i =>
      rw [List.getElem?_cons_succ] at h
      rw [List.getElem?_append_right (by rw [hy, Nat.succ_mul]; omega), hy, show (i + 1) * k + j - k = i * k + j from by rw [Nat.succ_mul]; omega]
      exact flat_at l (fun z hz => hk z (List.mem_cons_of_mem _ hz)) h hv
theorem own_cell {w : World} {b : Nat} {e : TypeId} {s n c n' : Nat} {A : Option Addr} {xs : List Value} (h : w.ownsRow b e s (.slice A n c) n' xs) {t : Nat} {u : Value} (ht : xs[t]? = some u) (h0 : n' = 0 → xs = []) : ∃ g, A = some ⟨g, 0, none⟩ ∧ w.cell? ⟨g, t, none⟩ = some u := by
  obtain ⟨_, h2⟩ := h
  rcases h2 with ⟨_, h3⟩ | ⟨g, cap, cur, e1, _, hg, hn, hm, hs, htk⟩
  · rw [h0 h3] at ht; simp at ht
  · injection e1 with e1
    refine ⟨g, e1, ?_⟩
    rw [cell_of_row _ _ _ _ _ _ hg]
    rw [← htk, List.getElem?_take] at ht
    split at ht
    · rw [← Array.getElem?_toList]; exact ht
    · cases ht
end Go.Proofs.YtcklcffepedklaaGreatDoor

namespace Go.Proofs.YtcklcffepedklaaGreatDoor
open Go.RowKit

/-- A tree at an address. -/
def TrAt (w : World) : Option Addr → Tre → Prop
  | p, .nil => p = none
  | p, .node k v l r => ∃ g a b, p = some ⟨g, 0, none⟩ ∧ w.heap[g]? = some (.cells #[.string k, .string v, .pointer a, .pointer b, .int .i64 (Tre.node k v l r).len, .int .i64 (Tre.node k v l r).ht] 125 (0, 0)) ∧ TrAt w a l ∧ TrAt w b r
theorem TrAt.below {w w' : World} (hb : Below w.heap.size w w') : ∀ {t : Tre} {p : Option Addr}, TrAt w p t → TrAt w' p t
  | .nil, _, h => h
  | .node _ _ _ _, _, ⟨g, a, b, e, hr, hl, hr'⟩ => ⟨g, a, b, e, (hb.block g (row_lt hr)).trans hr, hl.below hb, hr'.below hb⟩
theorem TrAt.some_ {w : World} {g : Nat} {t : Tre} (h : TrAt w (some ⟨g, 0, none⟩) t) : ∃ k v l r, t = .node k v l r := by
  cases t with
  | nil => cases h
  | node k v l r => exact ⟨k, v, l, r, rfl⟩
section
variable {w : World}
theorem TLen_any {p : Option Addr} {t : Tre} (h : TrAt w p t) : Calls Tryz.prog 44 #[.pointer p] w fun e w' => e = .returned (.int .i64 t.len) ∧ w = w' := by
  cases t with
  | nil =>
    have h' : p = none := h
    subst h'
    go_enter Tryz.func44, Tryz.ntmps44
    go_wp2
    go_ret
    exact ⟨rfl, rfl⟩
  | node k v l r =>
    obtain ⟨g, a, b, rfl, hr, _, _⟩ := h
    have c4 := cell_of_row _ _ 4 _ _ _ hr
    clear hr
    go_enter Tryz.func44, Tryz.ntmps44
    go_wp2
    go_ret
    exact ⟨rfl, rfl⟩
theorem THeight_any {p : Option Addr} {t : Tre} (h : TrAt w p t) : Calls Tryz.prog 90 #[.pointer p] w fun e w' => e = .returned (.int .i64 t.ht) ∧ w = w' := by
  cases t with
  | nil =>
    have h' : p = none := h
    subst h'
    go_enter Tryz.func90, Tryz.ntmps90
    go_wp2
    go_ret
    exact ⟨rfl, rfl⟩
  | node k v l r =>
    obtain ⟨g, a, b, rfl, hr, _, _⟩ := h
    have c5 := cell_of_row _ _ 5 _ _ _ hr
    clear hr
    go_enter Tryz.func90, Tryz.ntmps90
    go_wp2
    go_ret
    exact ⟨rfl, rfl⟩
set_option maxRecDepth 20000 in
theorem node_any {a b : Option Addr} {k v : BA} {l r : Tre} (hl : TrAt w a l) (hr : TrAt w b r) (hz : l.len + r.len < 1000000) :
    Calls Tryz.prog 68 #[.agg #[.string k, .string v], .pointer a, .pointer b] w fun e w' => ∃ p, e = .returned (.pointer p) ∧ TrAt w' p (.node k v l r) ∧ Below w.heap.size w w' := by
  have hh1 := l.ht_le
  have hh2 := r.ht_le
  obtain ⟨nl, hnl⟩ : ∃ n, l.len = n := ⟨_, rfl⟩
  obtain ⟨nr, hnr⟩ : ∃ n, r.len = n := ⟨_, rfl⟩
  obtain ⟨tl, htl⟩ : ∃ n, l.ht = n := ⟨_, rfl⟩
  obtain ⟨tr, htr⟩ : ∃ n, r.ht = n := ⟨_, rfl⟩
  rw [hnl] at hz hh1
  rw [hnr] at hz hh2
  rw [htl] at hh1
  rw [htr] at hh2
  have HE := Lib.hid (And.intro hnl (And.intro hnr (And.intro htl htr)))
  have hb0 := (Below.refl w.heap.size w).alloc (Nat.le_refl _) (.cells #[.string k, .string v] 97)
  have hr0 := heap_alloc_last w (.cells #[.string k, .string v] 97)
  obtain ⟨w0, hw0⟩ : ∃ w0, w.alloc (.cells #[.string k, .string v] 97) = w0 := ⟨_, rfl⟩
  rw [hw0] at hb0 hr0
  have HL := Lib.hid (hl.below hb0)
  have HR := Lib.hid (hr.below hb0)
  have HG := Lib.hid (show w0.rangeAt w.heap.size 0 [.string k, .string v] from rangeAt_of_row hr0 0 2)
  have HGL := Lib.hid (row_lt hr0)
  have HB0 := Lib.hid hb0
  have H1 := Lib.hid (fun (W : World) (h : Below w0.heap.size w0 W) => hnl ▸ TLen_any (HL.out.below h))
  have H2 := Lib.hid (fun (W : World) (h : Below w0.heap.size w0 W) => hnr ▸ TLen_any (HR.out.below h))
  have H3 := Lib.hid (fun (W : World) (h : Below w0.heap.size w0 W) => htl ▸ THeight_any (HL.out.below h))
  have H4 := Lib.hid (fun (W : World) (h : Below w0.heap.size w0 W) => htr ▸ THeight_any (HR.out.below h))
  obtain ⟨n1, hn1⟩ : ∃ n, nl + nr = n := ⟨_, rfl⟩
  obtain ⟨n2, hn2⟩ : ∃ n, n1 + 1 = n := ⟨_, rfl⟩
  obtain ⟨m1, hm1⟩ : ∃ n, max tl tr = n := ⟨_, rfl⟩
  obtain ⟨m2, hm2⟩ : ∃ n, m1 + 1 = n := ⟨_, rfl⟩
  have hw1 : IntKind.i64.wrap ((nl : Int) + (nr : Int)) = (n1 : Int) := by rw [IntKind.wrap_i64]; omega
  have hw2 : IntKind.i64.wrap ((n1 : Int) + 1) = (n2 : Int) := by rw [IntKind.wrap_i64]; omega
  have hw3 : max (tl : Int) (tr : Int) = (m1 : Int) := by omega
  have hw4 : IntKind.i64.wrap ((m1 : Int) + 1) = (m2 : Int) := by rw [IntKind.wrap_i64]; omega
  have HX := Lib.hid (show (Tre.node k v l r).len = n2 ∧ (Tre.node k v l r).ht = m2 by rw [Tre.len, Tre.ht, hnl, hnr, htl, htr]; omega)
  clear hl hr hnl hnr htl htr hb0 hr0 hn1 hn2 hm1 hm2 hh1 hh2 hz
  go_enter Tryz.func68, Tryz.ntmps68
  go_upto_region 1 with (fail)
  try rw [hw0]
  clear hw0
  --[1
  refine wp_region_held_drew (S := fun w' => Below w0.heap.size w0 w') (by kernel_rfl) ((Below.refl _ _).drew) (fun hHeld => ?_)
  refine held_take 0 (some 7) (v := .agg ([.string k, .string v]).toArray) rfl rfl (by kernel_rfl) (by kernel_rfl) (by kernel_rfl) (fun _ _ _ h => h) (yieldsIf_load_mid (by rfl) 97 _ rfl w.heap.size (0) rfl ([.string k, .string v]) _ (fun w' h => rangeAt_block HG.out (h.block _ HGL.out)) Tryz.underlying97 rfl rfl) hHeld ?_
  try simp only [Act.put, List.setIfInBounds_toArray, List.set_cons_zero, List.set_cons_succ]
  refine held_take 1 (some 8) (v := ?_) rfl rfl (by kernel_rfl) (by kernel_rfl) (by kernel_rfl) (fun _ _ _ h => h) (Or.inl ⟨by rfl, ?_⟩) hHeld ?_
  rotate_left
  · (intro w' hSw; clear hSw; go_simp; try with_reducible rfl)
  try simp only [Act.put, List.setIfInBounds_toArray, List.set_cons_zero, List.set_cons_succ]
  refine held_take 2 (some 9) (v := ?_) rfl rfl (by kernel_rfl) (by kernel_rfl) (by kernel_rfl) (fun _ _ _ h => h) (Or.inl ⟨by rfl, ?_⟩) hHeld ?_
  rotate_left
  · (intro w' hSw; clear hSw; go_simp; try with_reducible rfl)
  try simp only [Act.put, List.setIfInBounds_toArray, List.set_cons_zero, List.set_cons_succ]
  refine held_take 3 (some 10) (v := ?_) rfl rfl (by kernel_rfl) (by kernel_rfl) (by kernel_rfl) (fun _ _ _ h => h) (Or.inl ⟨by rfl, ?_⟩) hHeld ?_
  rotate_left
  · (intro w' hSw; clear hSw; go_simp; try with_reducible rfl)
  try simp only [Act.put, List.setIfInBounds_toArray, List.set_cons_zero, List.set_cons_succ]
  refine held_take 5 (some 12) (v := ?_) rfl rfl (by kernel_rfl) (by kernel_rfl) (by kernel_rfl) (fun _ _ _ h => h) (Or.inl ⟨by rfl, ?_⟩) hHeld ?_
  rotate_left
  · (intro w' hSw; clear hSw; go_simp; try with_reducible rfl)
  try simp only [Act.put, List.setIfInBounds_toArray, List.set_cons_zero, List.set_cons_succ]
  refine held_take 9 (some 16) (v := ?_) rfl rfl (by kernel_rfl) (by kernel_rfl) (by kernel_rfl) (fun _ _ _ h => h) (Or.inl ⟨by rfl, ?_⟩) hHeld ?_
  rotate_left
  · (intro w' hSw; clear hSw; go_simp; try with_reducible rfl)
  try simp only [Act.put, List.setIfInBounds_toArray, List.set_cons_zero, List.set_cons_succ]
  refine held_take 11 (some 18) (v := ?_) rfl rfl (by kernel_rfl) (by kernel_rfl) (by kernel_rfl) (fun _ _ _ h => h) (Or.inl ⟨by rfl, ?_⟩) hHeld ?_
  rotate_left
  · (intro w' hSw; clear hSw; go_simp; try with_reducible rfl)
  try simp only [Act.put, List.setIfInBounds_toArray, List.set_cons_zero, List.set_cons_succ]
  refine wpAnyH_ready (rs := [4]) (by kernel_rfl) (by simp) ?_
  refine AllReadyH.cons rfl (fun K hKK => ?_) AllReadyH.nil
  go_simp
  go_at_call 44
  refine (H1.out _ hHeld).mono ?_
  rintro e w' ⟨rfl, rfl⟩
  refine hKK.out _ _ hHeld (fun hHeld => ?_)
  clear hKK K
  try simp only [Act.put, List.setIfInBounds_toArray, List.set_cons_zero, List.set_cons_succ]
  refine wpAnyH_ready (rs := [6]) (by kernel_rfl) (by simp) ?_
  refine AllReadyH.cons rfl (fun K hKK => ?_) AllReadyH.nil
  go_simp
  go_at_call 44
  refine (H2.out _ hHeld).mono ?_
  rintro e w' ⟨rfl, rfl⟩
  refine hKK.out _ _ hHeld (fun hHeld => ?_)
  clear hKK K
  try simp only [Act.put, List.setIfInBounds_toArray, List.set_cons_zero, List.set_cons_succ]
  refine held_take 7 (some 14) (v := ?_) rfl rfl (by kernel_rfl) (by kernel_rfl) (by kernel_rfl) (fun _ _ _ h => h) (Or.inl ⟨by rfl, ?_⟩) hHeld ?_
  rotate_left
  · (intro w' hSw; clear hSw; go_simp; try with_reducible rfl)
  try simp only [Act.put, List.setIfInBounds_toArray, List.set_cons_zero, List.set_cons_succ]
  refine held_take 8 (some 15) (v := ?_) rfl rfl (by kernel_rfl) (by kernel_rfl) (by kernel_rfl) (fun _ _ _ h => h) (Or.inl ⟨by rfl, ?_⟩) hHeld ?_
  rotate_left
  · (intro w' hSw; clear hSw; go_simp; try with_reducible rfl)
  try simp only [Act.put, List.setIfInBounds_toArray, List.set_cons_zero, List.set_cons_succ]
  refine wpAnyH_ready (rs := [10]) (by kernel_rfl) (by simp) ?_
  refine AllReadyH.cons rfl (fun K hKK => ?_) AllReadyH.nil
  go_simp
  go_at_call 90
  refine (H3.out _ hHeld).mono ?_
  rintro e w' ⟨rfl, rfl⟩
  refine hKK.out _ _ hHeld (fun hHeld => ?_)
  clear hKK K
  try simp only [Act.put, List.setIfInBounds_toArray, List.set_cons_zero, List.set_cons_succ]
  refine wpAnyH_ready (rs := [12]) (by kernel_rfl) (by simp) ?_
  refine AllReadyH.cons rfl (fun K hKK => ?_) AllReadyH.nil
  go_simp
  go_at_call 90
  refine (H4.out _ hHeld).mono ?_
  rintro e w' ⟨rfl, rfl⟩
  refine hKK.out _ _ hHeld (fun hHeld => ?_)
  clear hKK K
  try simp only [Act.put, List.setIfInBounds_toArray, List.set_cons_zero, List.set_cons_succ]
  refine held_take 13 (some 20) (v := ?_) rfl rfl (by kernel_rfl) (by kernel_rfl) (by kernel_rfl) (fun _ _ _ h => h) (Or.inl ⟨by rfl, ?_⟩) hHeld ?_
  rotate_left
  · (intro w' hSw; clear hSw; go_simp; try with_reducible rfl)
  try simp only [Act.put, List.setIfInBounds_toArray, List.set_cons_zero, List.set_cons_succ]
  refine held_take 14 (some 21) (v := ?_) rfl rfl (by kernel_rfl) (by kernel_rfl) (by kernel_rfl) (fun _ _ _ h => h) (Or.inl ⟨by rfl, ?_⟩) hHeld ?_
  rotate_left
  · (intro w' hSw; clear hSw; go_simp; try with_reducible rfl)
  try simp only [Act.put, List.setIfInBounds_toArray, List.set_cons_zero, List.set_cons_succ]
  refine held_take 15 (some 22) (v := ?_) rfl rfl (by kernel_rfl) (by kernel_rfl) (by kernel_rfl) (fun _ _ _ h => h) (Or.inl ⟨by rfl, ?_⟩) hHeld ?_
  rotate_left
  · (intro w' hSw; clear hSw; go_simp; try with_reducible rfl)
  try simp only [Act.put, List.setIfInBounds_toArray, List.set_cons_zero, List.set_cons_succ]
  refine wpAnyH_ready (rs := [16]) (by kernel_rfl) (by simp) ?_
  refine AllReadyH.cons rfl (fun K hKK => ?_) AllReadyH.nil
  go_simp
  refine hKK.out _ _ ((hHeld).alloc (hHeld).size _) (fun hHeld => ?_)
  clear hKK K
  try simp only [Act.put, List.setIfInBounds_toArray, List.set_cons_zero, List.set_cons_succ]
  refine held_take 17 (some 6) (v := ?_) rfl rfl (by kernel_rfl) (by kernel_rfl) (by kernel_rfl) (fun _ _ _ h => h) (Or.inl ⟨by rfl, ?_⟩) hHeld ?_
  rotate_left
  · (intro w' hSw; clear hSw; go_simp; try with_reducible rfl)
  try simp only [Act.put, List.setIfInBounds_toArray, List.set_cons_zero, List.set_cons_succ]
  refine wpAnyH_done (by kernel_rfl) ?_ _
  --]1
  go_simp
  go_wp2_with fail
  go_ret
  have hrow := heap_alloc_last w0 (.cells #[.string k, .string v, .pointer a, .pointer b, .int .i64 n2, .int .i64 m2] 125)
  exact ⟨_, rfl, ⟨w0.heap.size, a, b, rfl, by rw [HX.out.1, HX.out.2]; exact hrow, HL.out.below hHeld, HR.out.below hHeld⟩, HB0.out.trans (hHeld.mono HB0.out.size)⟩
end
end Go.Proofs.YtcklcffepedklaaGreatDoor
