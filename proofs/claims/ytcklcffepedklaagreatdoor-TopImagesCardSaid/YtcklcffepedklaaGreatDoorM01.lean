/- Texts of the proof, one behind the other: Words for the walks: slices and blocks of numbers, what is appended, arrays held against each other, steps of quiet regions. No program in sight. Rows and stores, for the walks. No program in sight. -/
import Derived.WalkKit
import Derived.Lib.Hide
import Derived.Deep.LoopGhost
import Derived.Deep.QuietTactic
import Derived.BigQuiet
import Derived.Deep.RegionHeld3
import Derived.Deep.RegionLaw
import Derived.Deep.RegionLawGrows
import Derived.Deep.WholeRow
import Derived.Deep.MidRow
import Derived.Maps.AppendAt
import Derived.Laws.AppendOwnNone
import Derived.Laws.StructEq
import Derived.Laws.BytesArg
import Derived.Lib.SliceRun
import Derived.Laws.MakeOwn
import Derived.RegionTactic
namespace Go.Proofs.YtcklcffepedklaaGreatDoor
open Go.RowKit

/-- Each number of l is a byte. -/
def Bytes (l : List Int) : Prop := ∀ i, 0 ≤ l.getD i 0 ∧ l.getD i 0 < 256
theorem Bytes.take {l : List Int} (h : Bytes l) (n : Nat) : Bytes (l.take n) := by
  intro i
  rw [List.getD_eq_getElem?_getD, List.getElem?_take]
  split
  · rw [← List.getD_eq_getElem?_getD]; exact h i
  · simp
theorem Bytes.drop {l : List Int} (h : Bytes l) (n : Nat) : Bytes (l.drop n) := by
  intro i
  rw [List.getD_eq_getElem?_getD, List.getElem?_drop, ← List.getD_eq_getElem?_getD]
  exact h _

theorem Bytes.append {l m : List Int} (h : Bytes l) (k : Bytes m) : Bytes (l ++ m) := by
  intro i
  rw [List.getD_eq_getElem?_getD, List.getElem?_append]
  split
  · rw [← List.getD_eq_getElem?_getD]; exact h i
  · rw [← List.getD_eq_getElem?_getD]; exact k _
theorem Bytes.set {l : List Int} (h : Bytes l) (k : Nat) (x : Int) (h0 : 0 ≤ x) (h1 : x < 256) : Bytes (l.set k x) := by
  intro i
  rw [List.getD_eq_getElem?_getD, List.getElem?_set]
  split
  · split
    · simp only [Option.getD_some]; omega
    · simp
  · rw [← List.getD_eq_getElem?_getD]; exact h i

theorem drop_getD (l : List Int) (i : Nat) (h : i < l.length) : l.drop i = l.getD i 0 :: l.drop (i + 1) := by
  rw [List.drop_eq_getElem_cons h, List.getD_eq_getElem?_getD, List.getElem?_eq_getElem h]; rfl
theorem take_getD (l : List Int) (i : Nat) (h : i < l.length) : l.take (i + 1) = l.take i ++ [l.getD i 0] := by
  rw [List.take_succ_eq_append_getElem h, List.getD_eq_getElem?_getD, List.getElem?_eq_getElem h]; rfl

/-- The slice at A holds the numbers l, of kind k. -/
def Ints (k : IntKind) (w : World) (A : Option Addr) (l : List Int) : Prop :=
  ∀ i, i < l.length → ∃ ad, A = some ad ∧ w.cell? (ad.add i) = some (.int k (l.getD i 0))

theorem Ints.keep {k : IntKind} {w w' : World} {A : Option Addr} {l : List Int} (h : Ints k w A l) (hk : ∀ ad, A = some ad → ∀ i, w'.cell? (ad.add i) = w.cell? (ad.add i)) : Ints k w' A l := by
  intro i hi
  obtain ⟨ad, e, hc⟩ := h i hi
  exact ⟨ad, e, by rw [hk ad e, hc]⟩

theorem Ints.take {k : IntKind} {w : World} {A : Option Addr} {l : List Int} (h : Ints k w A l) (n : Nat) : Ints k w A (l.take n) := by
  intro i hi
  rw [List.length_take] at hi
  obtain ⟨ad, e, hc⟩ := h i (by omega)
  refine ⟨ad, e, ?_⟩
  rw [hc, List.getD_eq_getElem?_getD, List.getD_eq_getElem?_getD, List.getElem?_take, if_pos (by omega)]

theorem Ints.drewN {k : IntKind} {w : World} {A : Option Addr} {l : List Int} (h : Ints k w A l) (n : Nat) : Ints k (w.drewN n) A l := h
theorem add_block (a : Addr) (n : Nat) : (a.add n).block = a.block := by unfold Addr.add; split <;> rfl
theorem cell_lt {w : World} {a : Addr} {v : Value} (h : w.cell? a = some v) : a.block < w.heap.size := by
  unfold World.cell? at h
  by_cases hlt : a.block < w.heap.size
  · exact hlt
  · rw [Array.getElem?_eq_none (by omega)] at h
    simp at h
theorem cell_block {w : World} {a : Addr} {n : Nat} {v : Value} (h : w.cell? (a.add n) = some v) : a.block < w.heap.size := by
  have := cell_lt h
  rwa [add_block] at this
theorem Ints.below {k : IntKind} {w w' : World} {A : Option Addr} {l : List Int} (h : Ints k w A l) (hb : Below w.heap.size w w') : Ints k w' A l := by
  intro i hi
  obtain ⟨ad, e, hc⟩ := h i hi
  exact ⟨ad, e, (hb.cell (cell_lt hc)).trans hc⟩

theorem below_drewN {B : Nat} {a w : World} (h : Below B a w) (n : Nat) : Below B a (w.drewN n) := ⟨h.os, h.tape, h.output, h.size, h.block⟩

/-- A new slice of numbers. -/
def NewInts (k : IntKind) (B : Nat) (l : List Int) (w : World) (e : Ending) (w' : World) : Prop :=
  ∃ (A : Option Addr) (c : Nat), e = .returned (.slice A l.length c) ∧ l.length ≤ c ∧ Ints k w' A l ∧ (∀ ad, A = some ad → B ≤ ad.block ∧ ad.block < w'.heap.size) ∧ Below B w w'

theorem ints_lit (k : IntKind) (w : World) (l : List Int) (e : TypeId) : Ints k (w.alloc (.cells (l.map (Value.int k)).toArray e)) (some ⟨w.heap.size, 0, none⟩) l := by
  intro i hi
  refine ⟨_, rfl, ?_⟩
  have e1 : (⟨w.heap.size, 0, none⟩ : Addr).add i = ⟨w.heap.size, i, none⟩ := by unfold Addr.add; split <;> simp_all
  rw [e1, World.cell?_alloc_new, List.getElem?_toArray, List.getElem?_map, List.getD_eq_getElem?_getD, List.getElem?_eq_getElem hi]; rfl

theorem ints_at (k : IntKind) (w : World) (l : List Int) (e : TypeId) (n : Nat) (hn : n = w.heap.size) : Ints k (w.alloc (.cells (l.map (Value.int k)).toArray e)) (some ⟨n, 0, none⟩) l := by
  subst hn; exact ints_lit k w l e

theorem add_add (a : Addr) (i j : Nat) : (a.add i).add j = a.add (i + j) := by
  unfold Addr.add
  by_cases hi : i = 0 <;> by_cases hj : j = 0 <;> simp [hi, hj, Nat.add_assoc]
theorem Ints.drop {k : IntKind} {w : World} {ad : Addr} {l : List Int} (h : Ints k w (some ad) l) (m : Nat) : Ints k w (some (ad.add m)) (l.drop m) := by
  intro i hi
  rw [List.length_drop] at hi
  obtain ⟨ad', e, hc⟩ := h (m + i) (by omega)
  obtain rfl : ad = ad' := by injection e
  refine ⟨_, rfl, ?_⟩
  rw [add_add, hc, List.getD_eq_getElem?_getD, List.getD_eq_getElem?_getD, List.getElem?_drop]

theorem new_of_own {k : IntKind} {B e : Nat} {w : World} {v : Value} {l : List Int} (h : w.ownsRow B e 1 v l.length (l.map (Value.int k))) :
    ∃ (A : Option Addr) (c : Nat), v = .slice A l.length c ∧ l.length ≤ c ∧ Ints k w A l ∧ (∀ ad, A = some ad → B ≤ ad.block ∧ ad.block < w.heap.size) := by
  have hlt := h.lt
  have hcl : ∀ {g : Nat}, v.ownBlock = some g → _ := fun hg => h.cells hg
  obtain ⟨_, h2⟩ := h
  rcases h2 with ⟨rfl, h0⟩ | ⟨g, cap, cur, rfl, hb, hg, hn, _⟩
  · exact ⟨none, 0, by rw [h0], by omega, fun i hi => absurd hi (by omega), fun ad e => by cases e⟩
  · refine ⟨some ⟨g, 0, none⟩, cap, rfl, hn, fun i hi => ⟨_, rfl, ?_⟩, fun ad e => by cases e; exact hlt g rfl⟩
    refine hcl rfl i _ ?_
    rw [List.getElem?_map, List.getD_eq_getElem?_getD, List.getElem?_eq_getElem hi]; rfl

/-- The bytes as cells. -/
def cellsOf (l : List Int) : Array Value := (l.map (Value.int .u8)).toArray

theorem cellsOf_size (l : List Int) : (cellsOf l).size = l.length := by simp [cellsOf]
theorem cellsOf_one (l : List Int) : (cellsOf l).all (·.oneCell') = true := by
  simp [cellsOf, Value.oneCell']

theorem cellsOf_get (l : List Int) (k : Nat) (h : k < l.length) : (cellsOf l)[k]? = some (.int .u8 (l.getD k 0)) := by
  unfold cellsOf
  rw [List.getElem?_toArray, List.getElem?_map, List.getD_eq_getElem?_getD, List.getElem?_eq_getElem h]; rfl
theorem cellsOf_set (l : List Int) (k : Nat) (x : Int) : (cellsOf l).setIfInBounds k (.int .u8 x) = cellsOf (l.set k x) := by
  unfold cellsOf
  rw [List.setIfInBounds_toArray, List.map_set]
theorem ints_block {w : World} {g : Nat} {l : List Int} {t : TypeId} (h : w.heap[g]? = some (.cells (cellsOf l) t (0, 0))) : Ints .u8 w (some ⟨g, 0, none⟩) l := by
  intro i hi
  refine ⟨_, rfl, ?_⟩
  have e1 : (⟨g, 0, none⟩ : Addr).add i = ⟨g, i, none⟩ := by unfold Addr.add; split <;> simp_all
  rw [e1, cell_of_row _ _ _ _ _ _ h, cellsOf_get l i hi]
theorem Ints.news {k : IntKind} {w : World} {A : Option Addr} {l : List Int} (h : Ints k w A l) : ∀ j u, (l.map (Value.int k))[j]? = some u → ∃ ad, A = some ad ∧ w.cell? (ad.add j) = some u := by
  intro j u hj
  have hl : j < l.length := by
    rcases Nat.lt_or_ge j l.length with h | h
    · exact h
    · rw [List.getElem?_eq_none (by simpa using h)] at hj; cases hj
  obtain ⟨ad, e, hc⟩ := h j hl
  refine ⟨ad, e, hc.trans ?_⟩
  rw [← hj, List.getElem?_map, List.getD_eq_getElem?_getD, List.getElem?_eq_getElem hl]; rfl
theorem ints_one (k : IntKind) (l : List Int) : ∀ u ∈ l.map (Value.int k), u.oneCell' = true := by
  intro u hu
  obtain ⟨x, _, rfl⟩ := List.mem_map.1 hu
  rfl

/-- What the laws ask of a slice's type t over elements of type e. -/
structure Elem (P : Program) (t e : TypeId) (size bytes : Nat) : Prop where
  ht : P.underlying t = some (.slice e)
  hi : ∃ i z, P.info? e = some i ∧ i.zero = some z ∧ i.size = size ∧ i.bytes = bytes ∧ z.cells.size = size
  hsz : 0 < size

section
variable {P : Program} {t e : TypeId} {size bytes : Nat} (E : Elem P t e size bytes) {w : World}
include E

theorem run_app (ty : TypeId) (base : Nat) (v : Value) (n : Nat) (xs : List Value) (hown : w.ownsRow base e size v n xs) (A : Option Addr) (m c : Nat) (news : List Value) (hA : A = none → m = 0 ∧ c = 0) (hl : news.length = m * size)
    (hnews : ∀ j u, news[j]? = some u → ∃ ad, A = some ad ∧ w.cell? (ad.add j) = some u) (h1 : ∀ u ∈ news, u.oneCell' = true) (h63 : n + m ≤ maxLen) (hbytes : (n + m) * bytes ≤ 140737488355328) (hbase : base ≤ w.heap.size) :
    ∃ v' w', (Builtin.append_ #[t, t] ty #[v, .slice A m c]).run P w = .ok v' w' ∧ w'.ownsRow base e size v' (n + m) (xs ++ news) ∧ w.grownBy w' v.ownBlock ∧ (v'.ownBlock = v.ownBlock ∨ v'.ownBlock = some w.heap.size) := by
  obtain ⟨i, z, hi, hz, hs, hb, hzs⟩ := E.hi
  cases A with
  | none =>
    obtain ⟨rfl, rfl⟩ := hA rfl
    obtain rfl : news = [] := List.length_eq_zero_iff.1 (by rw [hl, Nat.zero_mul])
    have hr := run_append_owned_none (P := P) (w := w) base t ty e i size E.ht hi v n xs hown
    exact ⟨v, w, hr, by simpa using hown, World.grownBy.refl _ _, .inl rfl⟩
  | some ad =>
    obtain ⟨v', w', hr, ho, hg, _, hat⟩ := run_append_own_at (P := P) w base t ty e i z size bytes E.ht hi hz hs hb hzs E.hsz v n xs hown ad m c news hl (fun j u hj => by
      obtain ⟨ad', e1, hc⟩ := hnews j u hj
      cases e1; exact hc) h1 h63 hbytes hbase
    exact ⟨v', w', hr, ho, hg, hat⟩

theorem wp_app {o : Oper} {a : Act} {K : Act → World → Prop} {Q : Exit → Act → World → Prop} (s x : Operand) (ho : o.op = .call { callee := .builtin .append, args := #[s, x], argTypes := #[t, t] })
    (base : Nat) (v : Value) (n : Nat) (xs : List Value) (hs : a.eval s = v) (hown : w.ownsRow base e size v n xs) (A : Option Addr) (m c : Nat) (news : List Value) (hx : a.eval x = .slice A m c) (hA : A = none → m = 0 ∧ c = 0) (hl : news.length = m * size)
    (hnews : ∀ j u, news[j]? = some u → ∃ ad, A = some ad ∧ w.cell? (ad.add j) = some u) (h1 : ∀ u ∈ news, u.oneCell' = true) (h63 : n + m ≤ maxLen) (hbytes : (n + m) * bytes ≤ 140737488355328) (hbase : base ≤ w.heap.size)
    (h : ∀ v' w', w'.ownsRow base e size v' (n + m) (xs ++ news) → w.grownBy w' v.ownBlock → (v'.ownBlock = v.ownBlock ∨ v'.ownBlock = some w.heap.size) → K (a.put o.dst v') w') : o.wp P a w K Q := by
  obtain ⟨v', w', hr, h2, h3, h4⟩ := run_app E o.type base v n xs hown A m c news hA hl hnews h1 h63 hbytes hbase
  unfold Oper.wp execOp
  simp only [ho, resolve, invoke, builtin, Sem.run_bind, Sem.run_pure, Result.andThen_ok, List.map_toArray, List.map_cons, List.map_nil, hs, hx, hr]
  exact h v' w' h2 h3 h4

theorem wpList_app {ops : Array Oper} {rest : List Oper} {o : Oper} {a : Act} {Q : Exit → Act → World → Prop} (hgd : o.guard = none) (s x : Operand) (ho : o.op = .call { callee := .builtin .append, args := #[s, x], argTypes := #[t, t] })
    (base : Nat) (v : Value) (n : Nat) (xs : List Value) (hs : a.eval s = v) (hown : w.ownsRow base e size v n xs) (A : Option Addr) (m c : Nat) (news : List Value) (hx : a.eval x = .slice A m c) (hA : A = none → m = 0 ∧ c = 0) (hl : news.length = m * size)
    (hnews : ∀ j u, news[j]? = some u → ∃ ad, A = some ad ∧ w.cell? (ad.add j) = some u) (h1 : ∀ u ∈ news, u.oneCell' = true) (h63 : n + m ≤ maxLen) (hbytes : (n + m) * bytes ≤ 140737488355328) (hbase : base ≤ w.heap.size)
    (h : ∀ v' w', w'.ownsRow base e size v' (n + m) (xs ++ news) → w.grownBy w' v.ownBlock → (v'.ownBlock = v.ownBlock ∨ v'.ownBlock = some w.heap.size) → wpList P ops Q rest (a.put o.dst v') w') : wpList P ops Q (o :: rest) a w :=
  wpList_plain hgd fun _ hK => wp_app E s x ho base v n xs hs hown A m c news hx hA hl hnews h1 h63 hbytes hbase fun v' w' h2 h3 h4 => hK _ _ (h v' w' h2 h3 h4)

/-- At a step of a region that draws its order. -/
theorem step_app {ops : Array Oper} {o : Oper} {a : Act} {K : Act → World → Prop} {Q : Exit → Act → World → Prop} {G : Prop} (hgd : o.guard = none) (s x : Operand) (ho : o.op = .call { callee := .builtin .append, args := #[s, x], argTypes := #[t, t] })
    (base : Nat) (v : Value) (n : Nat) (xs : List Value) (hs : a.eval s = v) (hown : w.ownsRow base e size v n xs) (A : Option Addr) (m c : Nat) (news : List Value) (hx : a.eval x = .slice A m c) (hA : A = none → m = 0 ∧ c = 0) (hl : news.length = m * size)
    (hnews : ∀ j u, news[j]? = some u → ∃ ad, A = some ad ∧ w.cell? (ad.add j) = some u) (h1 : ∀ u ∈ news, u.oneCell' = true) (h63 : n + m ≤ maxLen) (hbytes : (n + m) * bytes ≤ 140737488355328) (hbase : base ≤ w.heap.size)
    (h : ∀ v' w', w'.ownsRow base e size v' (n + m) (xs ++ news) → w.grownBy w' v.ownBlock → (v'.ownBlock = v.ownBlock ∨ v'.ownBlock = some w.heap.size) → K (a.put o.dst v') w') :
    if Region.wanted o (yielded ops a.tmps) = true then Oper.wp P o a w K Q else G := by
  rw [if_pos (by simp [Region.wanted, hgd])]
  exact wp_app E s x ho base v n xs hs hown A m c news hx hA hl hnews h1 h63 hbytes hbase h
end

theorem all_range_eq : ∀ (xs ys : List Int), xs.length = ys.length → ((List.range xs.length).all fun i => xs.getD i 0 == ys.getD i 0) = (xs == ys)
  | [], [], _ => rfl
  | x :: xs, y :: ys, h => by
    have ih := all_range_eq xs ys (by simpa using h)
    rw [List.length_cons, List.range_succ_eq_map, List.all_cons, List.all_map]
    simp only [List.getD_cons_zero, Function.comp_def, List.getD_cons_succ, ih]
    simp [List.cons_beq_cons]
  | [], _ :: _, h => by simp at h
  | _ :: _, [], h => by simp at h

section
variable {P : Program} (w : World)

theorem run_equalIn_ints (d : Nat) (t e : TypeId) (n : Nat) (k : IntKind) (ht : P.underlying t = some (.array n e)) (he : P.underlying e = some (.int k)) (hsz : ∀ w, (sizeOf e).run P w = .ok 1 w)
    (xs ys : List Int) (hx : xs.length = n) (hy : ys.length = n) :
    (Op.equalIn (d + 2) t (.agg (xs.map (Value.int k)).toArray) (.agg (ys.map (Value.int k)).toArray)).run P w = .ok (xs == ys) w := by
  rw [← all_range_eq xs ys (hx.trans hy.symm), hx, List.range_eq_range', Op.equalIn]
  simp only [Sem.run_bind, run_underlying ht, Result.andThen_ok, hsz, Std.Legacy.Range.forIn_eq_forIn_range', Std.Legacy.Range.size, Nat.sub_zero, Nat.add_sub_cancel, Nat.div_one]
  have hl : ∀ i ∈ List.range' 0 n 1, i < n := fun i hi => by simpa using (List.mem_range'_1.1 hi).2
  generalize List.range' 0 n 1 = l at hl ⊢
  induction l with
  | nil => simp
  | cons i l ih =>
    have hi : i < n := hl i (by simp)
    have px : (part e (xs.map (Value.int k)).toArray (i * 1)).run P w = .ok (.int k (xs.getD i 0)) w := by
      simp [part, isAgg, run_underlying he, List.getD, List.getElem?_eq_getElem (show i < xs.length by omega)]
    have py : (part e (ys.map (Value.int k)).toArray (i * 1)).run P w = .ok (.int k (ys.getD i 0)) w := by
      simp [part, isAgg, run_underlying he, List.getD, List.getElem?_eq_getElem (show i < ys.length by omega)]
    have pe : (Op.equalIn (d + 1) e (.int k (xs.getD i 0)) (.int k (ys.getD i 0))).run P w = .ok (xs.getD i 0 == ys.getD i 0) w := run_equalIn_int w d e k k _ _ he
    simp only [List.forIn_cons, Sem.run_bind, px, py, pe, Result.andThen_ok, List.all_cons]
    cases hb : (xs.getD i 0 == ys.getD i 0)
    · simp
    · simp only [Bool.not_true, Bool.false_eq_true, if_false, Sem.run_pure, Result.andThen_ok, Bool.true_and]
      exact ih fun j hj => hl j (by simp [hj])

theorem run_eql_ints (t e : TypeId) (n : Nat) (k : IntKind) (ht : P.underlying t = some (.array n e)) (he : P.underlying e = some (.int k)) (hsz : ∀ w, (sizeOf e).run P w = .ok 1 w)
    (xs ys : List Int) (hx : xs.length = n) (hy : ys.length = n) :
    (binOp .eql t (.agg (xs.map (Value.int k)).toArray) (.agg (ys.map (Value.int k)).toArray)).run P w = .ok (.bool (xs == ys)) w := by
  rw [run_eql_struct, run_equalIn_ints w 9998 t e n k ht he hsz xs ys hx hy]
  rfl
theorem run_neq_ints (t e : TypeId) (n : Nat) (k : IntKind) (ht : P.underlying t = some (.array n e)) (he : P.underlying e = some (.int k)) (hsz : ∀ w, (sizeOf e).run P w = .ok 1 w)
    (xs ys : List Int) (hx : xs.length = n) (hy : ys.length = n) :
    (binOp .neq t (.agg (xs.map (Value.int k)).toArray) (.agg (ys.map (Value.int k)).toArray)).run P w = .ok (.bool (!(xs == ys))) w := by
  rw [run_neq_struct, run_equalIn_ints w 9998 t e n k ht he hsz xs ys hx hy]
  rfl
end

theorem quiet_load_step {P : Program} {ops : Array Oper} {C : World → Prop} {Q : Act → Prop} {a : Act} {o : Oper} {rest : List Oper} (ty : TypeId) (x : Operand) (ho : o.op = .load ty x) (hw : Region.wanted o (yielded ops a.tmps) = true)
    (g : Nat) (hx : a.eval x = .pointer (some ⟨g, 0, none⟩)) (t : TypeId) (cs : Array Value) (fr : Nat × Nat) (d : TypeDesc) (hg : ∀ w, C w → w.heap[g]? = some (.cells cs t fr))
    (hu : P.underlying ty = some d) (hd : (match d with | .struct _ | .array _ _ => true | _ => false) = true) (hi : (P.info? ty).map (·.size) = some cs.size)
    (h : wpQuiet P ops C Q rest (a.put o.dst (.agg cs))) : wpQuiet P ops C Q (o :: rest) a := by
  refine wpQuiet_step fun K hK => ?_
  rw [if_pos hw]
  refine ⟨.agg cs, fun w hw => ?_, hK _ h⟩
  unfold Oper.quietAt execOp
  simp only [ho, hx, Instr.loadAt, Instr.sureAddr, Sem.run_bind, Sem.run_pure, Result.andThen_ok, run_loadVar_row w g t ty cs fr d (hg w hw) hu hd hi]
  exact ⟨rfl, rfl⟩

theorem quiet_eql_step {P : Program} {ops : Array Oper} {C : World → Prop} {Q : Act → Prop} {a : Act} {o : Oper} {rest : List Oper} (ty t2 : TypeId) (x y : Operand) (ho : o.op = .binOp .eql ty x y t2) (hw : Region.wanted o (yielded ops a.tmps) = true)
    (u v : Value) (hx : a.eval x = u) (hy : a.eval y = v) (r : Value) (hgd : ∀ w, (eqGuard .eql ty x y u v).run P w = .ok () w) (hr : ∀ w, (binOp .eql ty u v).run P w = .ok r w)
    (h : wpQuiet P ops C Q rest (a.put o.dst r)) : wpQuiet P ops C Q (o :: rest) a := by
  refine wpQuiet_step fun K hK => ?_
  rw [if_pos hw]
  refine ⟨r, fun w hw => ?_, hK _ h⟩
  unfold Oper.quietAt execOp
  simp only [ho, hx, hy, Sem.run_bind, hgd, hr, Result.andThen_ok, Sem.run_pure]
  exact ⟨rfl, rfl⟩

theorem setCell_row {w : World} {g : Nat} {cs : Array Value} {t : TypeId} (h : w.heap[g]? = some (.cells cs t (0, 0))) (i : Nat) (v : Value) :
    (w.setCell ⟨g, i, none⟩ v).heap[g]? = some (.cells (cs.setIfInBounds i v) t (0, 0)) := by
  simp only [World.setCell, Array.getElem?_modify, h]
  simp
theorem grown_setCell (w : World) (g i : Nat) (v : Value) : w.grownBy (w.setCell ⟨g, i, none⟩ v) (some g) :=
  ⟨rfl, rfl, rfl, by simp [World.setCell], fun k _ hne => Below.heap_setCell _ _ _ _ (fun e => hne (by rw [e]))⟩
theorem grown_alloc (w : World) (o : Obj) (r : Option Nat) : w.grownBy (w.alloc o) r := ⟨rfl, rfl, rfl, by simp, fun k hk _ => Below.heap_alloc _ _ _ hk⟩
theorem grown_drewN {a w : World} {r : Option Nat} (h : a.grownBy w r) (n : Nat) : a.grownBy (w.drewN n) r := ⟨h.os, h.tape, h.output, h.size, h.block⟩
theorem grown_none {a w : World} (h : a.grownBy w none) (r : Option Nat) : a.grownBy w r := ⟨h.os, h.tape, h.output, h.size, fun k hk _ => h.block k hk (by simp)⟩
theorem grown_trans {a b c : World} {r : Option Nat} (h : a.grownBy b r) (k : b.grownBy c r) : a.grownBy c r :=
  ⟨k.os.trans h.os, k.tape.trans h.tape, k.output.trans h.output, Nat.le_trans h.size k.size, fun i hi hn => (k.block i (Nat.lt_of_lt_of_le hi h.size) hn).trans (h.block i hi hn)⟩
theorem grown_below {a w : World} {r : Option Nat} (h : a.grownBy w r) {B : Nat} (hB : B ≤ a.heap.size) (hr : ∀ k, r = some k → B ≤ k) : Below B a w := (Below.refl _ _).grown h hB hr
theorem below_grown {a w : World} (h : Below a.heap.size a w) (r : Option Nat) : a.grownBy w r := ⟨h.os, h.tape, h.output, h.size, fun i hi _ => h.block i hi⟩
theorem setCells_row (g : Nat) (t : TypeId) : ∀ (vs : List Value) (o : Nat) (w : World) (cs : Array Value), w.heap[g]? = some (.cells cs t (0, 0)) → o + vs.length ≤ cs.size →
    ∃ cs' : Array Value, (w.setCells g o vs).heap[g]? = some (.cells cs' t (0, 0)) ∧ cs'.size = cs.size ∧ ∀ i, cs'[i]? = if o ≤ i ∧ i < o + vs.length then vs[i - o]? else cs[i]?
  | [], o, w, cs, h, _ => ⟨cs, h, rfl, fun i => by rw [if_neg (by simp)]⟩
  | v :: vs, o, w, cs, h, hl => by
    simp only [List.length_cons] at hl
    obtain ⟨cs', h1, h2, h3⟩ := setCells_row g t vs (o + 1) (w.setCell ⟨g, o, none⟩ v) _ (setCell_row h o v) (by simp; omega)
    refine ⟨cs', h1, by simpa using h2, fun i => ?_⟩
    rw [h3 i, Array.getElem?_setIfInBounds]
    simp only [List.length_cons]
    by_cases e : o = i
    · subst e
      simp only [show o < cs.size from by omega, if_true]
      rw [if_neg (by omega), if_pos (by omega), Nat.sub_self, List.getElem?_cons_zero]
    · rw [if_neg e]
      by_cases e2 : o + 1 ≤ i ∧ i < o + 1 + vs.length
      · rw [if_pos e2, if_pos (by omega), show i - o = (i - (o + 1)) + 1 from by omega, List.getElem?_cons_succ]
      · rw [if_neg e2, if_neg (by omega)]
theorem setCells_whole {g : Nat} {t : TypeId} {vs : List Value} {w : World} {cs : Array Value} (h : w.heap[g]? = some (.cells cs t (0, 0))) (hl : vs.length = cs.size) :
    (w.setCells g 0 vs).heap[g]? = some (.cells vs.toArray t (0, 0)) := by
  obtain ⟨cs', h1, h2, h3⟩ := setCells_row g t vs 0 w cs h (by omega)
  rw [h1]
  congr 2
  apply Array.ext_getElem?
  intro i
  rw [h3 i]
  by_cases e : i < vs.length
  · rw [if_pos (by omega), Nat.sub_zero, List.getElem?_toArray]
  · rw [if_neg (by omega), Array.getElem?_eq_none (by omega), List.getElem?_toArray, List.getElem?_eq_none (by omega)]
theorem grown_setCells (g : Nat) : ∀ (vs : List Value) (o : Nat) (w : World), w.grownBy (w.setCells g o vs) (some g)
  | [], _, w => World.grownBy.refl w _
  | v :: vs, o, w => grown_trans (grown_setCell w g o v) (grown_setCells g vs (o + 1) _)
theorem free_row {w : World} {g : Nat} {cs : Array Value} {t : TypeId} (h : w.heap[g]? = some (.cells cs t (0, 0))) (i : Nat) : w.frozen? ⟨g, i, none⟩ = false := by
  unfold World.frozen?
  rw [h]
  simp
theorem madeCells_rep (v : Value) (n : Nat) : madeCells #[v] n = (List.replicate n v).toArray := by
  apply Array.ext_getElem?
  intro i
  simp only [madeCells, Array.getElem?_map, List.getElem?_toArray, List.getElem?_replicate]
  by_cases h : i < n
  · simp [h, Nat.mod_one]
  · simp [h]

theorem run_conv_ints {P : Program} {w : World} {A : Option Addr} {l : List Int} (h : Ints .u8 w A l) (src dst e : TypeId) (n c : Nat) (hn : l.length = n) (hs : P.underlying src = some (.slice e)) (he : P.underlying e = some (.int .u8)) (hd : P.underlying dst = some .string) :
    (convert src dst (.slice A n c)).run P w = .ok (.string (strOfNums l)) w := by
  subst hn
  rw [run_convert_bytes_string w src dst e _ _ c hs he hd]
  cases A with
  | none =>
    have : l = [] := by
      cases l with
      | nil => rfl
      | cons x l => obtain ⟨ad, e, _⟩ := h 0 (by simp); cases e
    subst this
    simp [Conv.bytesToString]
    rfl
  | some ad =>
    have hl : (loadCells ad l.length).run P w = .ok (l.map (Value.int .u8)).toArray w := by
      have := run_loadCells_list (P := P) w ad (l.map (Value.int .u8)) (fun j v hj => by
        obtain ⟨ad', e1, hc⟩ := h.news j v hj
        cases e1; exact hc)
      simpa using this
    rw [run_bytesToString w _ _ c l hl, foldl_push_bytes]
    simp [strOfNums, ByteArray.empty, ByteArray.emptyWithCapacity]
    rfl

theorem wpList_load_row_w {P : Program} {ops : Array Oper} {rest : List Oper} {o : Oper} {a : Act} {w : World} {Q : Exit → Act → World → Prop} (hw : Region.wanted o (yielded ops a.tmps) = true) (ty : TypeId) (x : Operand) (ho : o.op = .load ty x)
    (g : Nat) (hx : a.eval x = .pointer (some ⟨g, 0, none⟩)) (t : TypeId) (cs : Array Value) (fr : Nat × Nat) (d : TypeDesc) (hg : w.heap[g]? = some (.cells cs t fr))
    (hu : P.underlying ty = some d) (hd : (match d with | .struct _ | .array _ _ => true | _ => false) = true) (hi : (P.info? ty).map (·.size) = some cs.size)
    (h : wpList P ops Q rest (a.put o.dst (.agg cs)) w) : wpList P ops Q (o :: rest) a w :=
  BigFrame.wpList_want hw fun _ hK => wp_load_row ty x ho g hx t cs fr d hg hu hd hi (hK _ _ h)

/-- A step of a region that draws its order: an operation that yields v in every world that meets S is taken first; its slot is d. -/
theorem held_take {P : Program} {ops : Array Oper} {Q : Exit → Act → World → Prop} {S : World → Prop} {md : Region.Mode} (i : Nat) (d : Option Tmp) {oi : Oper} {v : Value} {fuel : Nat} {listed : Array Bool} {a : Act} {w : World} (hi : ops[i]? = some oi) (hd : oi.dst = d)
    (hs : Region.noSelect ops = true) (hf : Region.free md ops listed i = true) (hr : (Region.ready md ops listed).contains i = true)
    (hQ : ∀ c a w, Q (.panic c) (a.put d v) w → Q (.panic c) a w) (hy : YieldsIf P ops S oi v a) (hS : S w)
    (h : wpAnyH P md ops Q S fuel (listed.setIfInBounds i true) (a.put d v) w) : wpAnyH P md ops Q S (fuel + 1) listed a w := by
  subst hd
  exact wpAnyH_take hi hs hf hr hQ hy hS h

/-- Behind a step S may say more. -/
theorem held_more {P : Program} {ops : Array Oper} {Q : Exit → Act → World → Prop} {S0 S1 : World → Prop} {md : Region.Mode} (hs : ∀ w, S1 w → S0 w) :
    ∀ (fuel : Nat) (listed : Array Bool) (a : Act) (w : World), wpAnyH P md ops Q S1 fuel listed a w → wpAnyH P md ops Q S0 fuel listed a w
  | 0, _, _, _, h => h
  | fuel + 1, _, _, _, h => ⟨h.1, fun i hi => wpOp_mono (fun a' w' h' => ⟨hs _ h'.1, held_more hs fuel _ a' w' h'.2⟩) (h.2 i hi)⟩
/-- 'string(bytes)' in a region that draws its order. -/
theorem yieldsIf_conv {P : Program} {ops : Array Oper} {S : World → Prop} {o : Oper} {a : Act} (hw : Region.wanted o (yielded ops a.tmps) = true) (src dst e : TypeId) (x : Operand) (ho : o.op = .convert src dst x) (A : Option Addr) (n c : Nat) (l : List Int) (hx : a.eval x = .slice A n c) (hn : l.length = n)
    (hS : ∀ w, S w → Ints .u8 w A l) (hs : P.underlying src = some (.slice e)) (he : P.underlying e = some (.int .u8)) (hd : P.underlying dst = some .string) : YieldsIf P ops S o (.string (strOfNums l)) a :=
  .inl ⟨hw, fun w hw' => by
    unfold execOp
    simp only [ho, hx, Sem.run_bind, run_conv_ints (hS w hw') src dst e n c hn hs he hd, Result.andThen_ok, Sem.run_pure]⟩

theorem one_new (w : World) (v : Value) (e : TypeId) : ∀ (j : Nat) (u : Value), [v][j]? = some u → (w.alloc (.cells #[v] e)).cell? ((⟨w.heap.size, 0, none⟩ : Addr).add j) = some u := by
  intro j u hj
  match j, hj with
  | 0, hj => simp at hj; subst hj; simp [Addr.add]
theorem ret_int {k : IntKind} {a b : Int} (h : a = b) : Ending.returned (.int k a) = .returned (.int k b) := by rw [h]
theorem ret_bool {a b : Bool} (h : a = b) : Ending.returned (.bool a) = .returned (.bool b) := by rw [h]

end Go.Proofs.YtcklcffepedklaaGreatDoor

namespace Go.Proofs.YtcklcffepedklaaGreatDoor
open Go.RowKit

theorem rangeAt_block {w w' : World} {b o : Nat} {cs : List Value} (h : w.rangeAt b o cs) (hb : w'.heap[b]? = w.heap[b]?) : w'.rangeAt b o cs :=
  fun j v hj => (World.cell?_of_block (w := w) hb).trans (h j v hj)
theorem size_setCells (g : Nat) : ∀ (vs : List Value) (o : Nat) (w : World), (w.setCells g o vs).heap.size = w.heap.size
  | [], _, _ => rfl
  | v :: r, o, w => by rw [World.setCells, size_setCells g r]; simp [World.setCell]
theorem there_alloc (w : World) (cs : Array Value) (t : TypeId) (n : Nat) (h : n ≤ cs.size) : (w.alloc (.cells cs t)).there w.heap.size 0 n := by
  intro j hj
  refine ⟨?_, free_row (heap_alloc_last w (.cells cs t)) _⟩
  rw [cell_of_row _ _ _ _ _ _ (heap_alloc_last w (.cells cs t)), Nat.zero_add, Array.getElem?_eq_getElem (by omega)]
  rfl
/-- A new variable is laid, whole. -/
theorem store_new {P : Program} (w : World) (cs0 cs : Array Value) (t : TypeId) (hl : cs0.size = cs.size) (h1 : cs.all (·.oneCell') = true) :
    ∃ w', (storeCells ⟨w.heap.size, 0, none⟩ cs.toList).run P (w.alloc (.cells cs0 t)) = .ok () w' ∧ w.grownBy w' none ∧ w'.heap[w.heap.size]? = some (.cells cs t (0, 0)) ∧ w'.heap.size = w.heap.size + 1 := by
  have ht := there_alloc w cs0 t cs.size (by omega)
  have := run_storeCells_cells (P := P) w.heap.size 0 cs.toList 0 (w.alloc (.cells cs0 t)) (fun j hj => by rw [Nat.add_zero]; exact (ht j hj).1) (fun j hj => by rw [Nat.add_zero]; exact (ht j hj).2)
    (fun v hv => (Array.all_eq_true_iff_forall_mem.1 h1) v (Array.mem_toList_iff.1 hv))
  refine ⟨_, this, ?_, ?_, ?_⟩
  · have hg := grown_setCells w.heap.size cs.toList 0 (w.alloc (.cells cs0 t))
    have ha := grown_alloc w (.cells cs0 t) none
    exact ⟨by rw [hg.os, ha.os], by rw [hg.tape, ha.tape], by rw [hg.output, ha.output], Nat.le_trans ha.size hg.size, fun i hi _ => (hg.block i (by simp; omega) (by simp; omega)).trans (ha.block i hi (by simp))⟩
  · rw [setCells_whole (heap_alloc_last w (.cells cs0 t)) (by simp [hl])]
  · rw [size_setCells]; simp
theorem rangeAt_of_row {w : World} {g : Nat} {cs : Array Value} {t : TypeId} (h : w.heap[g]? = some (.cells cs t (0, 0))) (o n : Nat) : w.rangeAt g o ((cs.toList.drop o).take n) := by
  intro j v hj
  rw [cell_of_row _ _ _ _ _ _ h]
  rw [List.getElem?_take] at hj
  split at hj
  · rw [List.getElem?_drop] at hj; simpa using hj
  · cases hj

theorem Ints.grown {k : IntKind} {w w' : World} {A : Option Addr} {l : List Int} {r : Option Nat} (h : Ints k w A l) (hg : w.grownBy w' r) (hr : ∀ ad, A = some ad → 0 < l.length → some ad.block ≠ r) : Ints k w' A l := by
  intro i hi
  obtain ⟨ad, e, hc⟩ := h i hi
  exact ⟨ad, e, (World.cell?_of_block (w := w) (by rw [add_block]; exact hg.block _ (cell_block hc) (hr ad e (by omega)))).trans hc⟩
theorem Ints.nil (k : IntKind) (w : World) (A : Option Addr) : Ints k w A [] := fun i hi => absurd hi (by simp)
theorem Ints.dropA {k : IntKind} {w : World} {A : Option Addr} {l : List Int} (h : Ints k w A l) (m : Nat) : Ints k w (A.map (·.add m)) (l.drop m) := by
  intro i hi
  rw [List.length_drop] at hi
  obtain ⟨ad, e, hc⟩ := h (m + i) (by omega)
  subst e
  refine ⟨_, rfl, ?_⟩
  rw [add_add, hc, List.getD_eq_getElem?_getD, List.getD_eq_getElem?_getD, List.getElem?_drop]
/-- A slice's address is that of its cells; its bytes are l, and it lies in block X. -/
def InBlock (A : Option Addr) (X : Nat) : Prop := ∀ ad, A = some ad → ad.block = X
theorem below_refl_grown {w w' : World} (h : w.grownBy w' none) : Below w.heap.size w w' := grown_below h (Nat.le_refl _) (fun _ h => by cases h)

end Go.Proofs.YtcklcffepedklaaGreatDoor
