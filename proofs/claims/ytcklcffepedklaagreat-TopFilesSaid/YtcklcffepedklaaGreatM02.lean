/- Texts of the proof, one behind the other: Words for the walks over the store: what a call may change, rows of numbers that a call owns, what is appended to them. Keys, pieces: their cells; what is laid whole into a new variable. -/
import Derived.Test.YtcklcffepedklaaGreatProg
import Derived.Test.YtcklcffepedklaaGreatM01
import Derived.Deep.DeepCutAuto
import Derived.StillTailTactics
import Derived.Laws.CopyOwn
import Derived.Laws.CopyRow
import Derived.BigRegion
import Derived.Deep.MidRow
namespace Go.Proofs.YtcklcffepedklaaGreat
open Go.RowKit

/-- Only blocks that meet R are changed; new ones may have come. -/
structure Chg (R : Nat → Prop) (w w' : World) : Prop where
  os : w'.os = w.os
  tape : w'.tape = w.tape
  output : w'.output = w.output
  size : w.heap.size ≤ w'.heap.size
  block : ∀ k, k < w.heap.size → ¬ R k → w'.heap[k]? = w.heap[k]?
theorem Chg.refl (R : Nat → Prop) (w : World) : Chg R w w := ⟨rfl, rfl, rfl, Nat.le_refl _, fun _ _ _ => rfl⟩
theorem Chg.trans {R : Nat → Prop} {a b c : World} (h : Chg R a b) (k : Chg R b c) : Chg R a c :=
  ⟨k.os.trans h.os, k.tape.trans h.tape, k.output.trans h.output, Nat.le_trans h.size k.size, fun i hi hn => (k.block i (Nat.lt_of_lt_of_le hi h.size) hn).trans (h.block i hi hn)⟩
theorem Chg.trans2 {R Q : Nat → Prop} {a b c : World} (h : Chg R a b) (k : Chg Q b c) (hq : ∀ i, i < a.heap.size → Q i → R i) : Chg R a c :=
  ⟨k.os.trans h.os, k.tape.trans h.tape, k.output.trans h.output, Nat.le_trans h.size k.size, fun i hi hn => (k.block i (Nat.lt_of_lt_of_le hi h.size) (fun e => hn (hq i hi e))).trans (h.block i hi hn)⟩
theorem Chg.mono {R Q : Nat → Prop} {a b : World} (h : Chg R a b) (hr : ∀ k, R k → Q k) : Chg Q a b := ⟨h.os, h.tape, h.output, h.size, fun i hi hn => h.block i hi (fun hR => hn (hr i hR))⟩
theorem Chg.monoLt {R Q : Nat → Prop} {a b : World} (h : Chg R a b) (hr : ∀ k, k < a.heap.size → R k → Q k) : Chg Q a b := ⟨h.os, h.tape, h.output, h.size, fun i hi hn => h.block i hi (fun hR => hn (hr i hi hR))⟩
theorem Chg.of {a b : World} {r : Option Nat} (h : a.grownBy b r) : Chg (fun k => some k = r) a b := ⟨h.os, h.tape, h.output, h.size, fun i hi hn => h.block i hi hn⟩
theorem Chg.of_ {R : Nat → Prop} {a b : World} {r : Option Nat} (h : a.grownBy b r) (hr : ∀ k, k < a.heap.size → r = some k → R k) : Chg R a b := ⟨h.os, h.tape, h.output, h.size, fun i hi hn => h.block i hi (fun e => hn (hr i hi e.symm))⟩
theorem Chg.none_ {R : Nat → Prop} {a b : World} (h : a.grownBy b none) : Chg R a b := ⟨h.os, h.tape, h.output, h.size, fun i hi _ => h.block i hi (by simp)⟩
theorem Chg.belowAt {R : Nat → Prop} {a b : World} (h : Below a.heap.size a b) : Chg R a b := Chg.none_ (below_grown h none)
theorem Chg.below {R : Nat → Prop} {a b : World} {B : Nat} (h : Chg R a b) (hB : B ≤ a.heap.size) (hr : ∀ k, R k → B ≤ k) : Below B a b :=
  ⟨h.os, h.tape, h.output, h.size, fun k hk => h.block k (Nat.lt_of_lt_of_le hk hB) (fun hR => by have := hr k hR; omega)⟩
theorem Chg.drewN {R : Nat → Prop} {a b : World} (h : Chg R a b) (n : Nat) : Chg R a (b.drewN n) := ⟨h.os, h.tape, h.output, h.size, h.block⟩
theorem Chg.cell {R : Nat → Prop} {a b : World} (h : Chg R a b) {p : Addr} (hp : p.block < a.heap.size) (hr : ¬ R p.block) : b.cell? p = a.cell? p := World.cell?_of_block (w := a) (h.block _ hp hr)
theorem Chg.alloc {R : Nat → Prop} {a b : World} (h : Chg R a b) (o : Obj) : Chg R a (b.alloc o) := h.trans (Chg.none_ (grown_alloc _ _ _))
theorem Chg.below0 {R : Nat → Prop} {a b : World} (h : Chg R a b) {c : World} (hb : Below b.heap.size b c) : Chg R a c := h.trans (Chg.belowAt hb)
theorem Chg.new {a b c : World} {R Q : Nat → Prop} (h : Chg R a b) (k : Chg Q b c) (hq : ∀ i, Q i → R i ∨ a.heap.size ≤ i) : Chg R a c :=
  h.trans2 k (fun i hi hQ => (hq i hQ).resolve_right (by omega))

theorem row_lt {w : World} {g : Nat} {o : Obj} (h : w.heap[g]? = some o) : g < w.heap.size := by
  rcases Nat.lt_or_ge g w.heap.size with h1 | h1
  · exact h1
  · rw [Array.getElem?_eq_none h1] at h; cases h
theorem Ints.chg {k : IntKind} {w w' : World} {A : Option Addr} {l : List Int} {R : Nat → Prop} (h : Ints k w A l) (hc : Chg R w w') (hr : ∀ ad, A = some ad → 0 < l.length → ¬ R ad.block) : Ints k w' A l := by
  intro i hi
  obtain ⟨ad, e, hcell⟩ := h i hi
  exact ⟨ad, e, (World.cell?_of_block (w := w) (by rw [add_block]; exact hc.block _ (cell_block hcell) (hr ad e (by omega)))).trans hcell⟩
theorem Ints.lt {k : IntKind} {w : World} {A : Option Addr} {l : List Int} (h : Ints k w A l) : ∀ ad, A = some ad → 0 < l.length → ad.block < w.heap.size := by
  intro ad e h0
  obtain ⟨ad', e', hc⟩ := h 0 h0
  rw [e] at e'; injection e' with e'; subst e'
  exact cell_block hc

theorem below_trans {B : Nat} {a b c : World} (h : Below B a b) (k : Below b.heap.size b c) (hB : B ≤ b.heap.size) : Below B a c := h.trans (k.mono hB)

/-- The value at v is a row of bytes l, that was made since base. -/
abbrev OwnB (w : World) (base : Nat) (v : Value) (l : List Int) : Prop := w.ownsRow base 5 1 v l.length (l.map (Value.int .u8))
theorem OwnB.ints {w : World} {base : Nat} {v : Value} {l : List Int} (h : OwnB w base v l) :
    ∃ (A : Option Addr) (c : Nat), v = .slice A l.length c ∧ l.length ≤ c ∧ Ints .u8 w A l ∧ (∀ ad, A = some ad → base ≤ ad.block ∧ ad.block < w.heap.size) := new_of_own h
theorem OwnB.nilA {w : World} {base : Nat} {A : Option Addr} {n c : Nat} {l : List Int} (h : OwnB w base (.slice A n c) l) : A = none → n = 0 ∧ c = 0 := by
  intro e
  subst e
  obtain ⟨_, h2⟩ := h
  rcases h2 with ⟨h2, _⟩ | ⟨g, cap, cur, h2, _⟩
  · injection h2 with _ h3 h4; exact ⟨h3, h4⟩
  · injection h2 with h3; cases h3
theorem OwnB.kept {w w' : World} {base : Nat} {v : Value} {l : List Int} (h : OwnB w base v l) (hg : w.grownBy w' none) : OwnB w' base v l :=
  World.ownsRow.kept h hg (by cases v.ownBlock <;> simp)
theorem OwnB.below {w w' : World} {base : Nat} {v : Value} {l : List Int} (h : OwnB w base v l) (hb : Below w.heap.size w w') : OwnB w' base v l := h.kept (below_grown hb none)
theorem OwnB.base {w : World} {b b' : Nat} {v : Value} {l : List Int} (h : OwnB w b v l) (hb : b' ≤ b) : OwnB w b' v l := by
  obtain ⟨h1, h2⟩ := h
  refine ⟨h1, ?_⟩
  rcases h2 with h2 | ⟨g, cap, cur, a, b, c⟩
  · exact .inl h2
  · exact .inr ⟨g, cap, cur, a, by omega, c⟩
/-- A whole row is owned. -/
theorem OwnB.whole {w : World} {g base : Nat} {l : List Int} (h : w.heap[g]? = some (.cells (cellsOf l) 5 (0, 0))) (hb : base ≤ g) (hl : l.length ≤ 1000000000000) : OwnB w base (.slice (some ⟨g, 0, none⟩) l.length l.length) l :=
  ⟨by simp, .inr ⟨g, l.length, cellsOf l, rfl, hb, h, Nat.le_refl _, by unfold maxLen; omega, by simp [cellsOf_size], by simp [cellsOf, List.take_of_length_le]⟩⟩
theorem Tryz.info5 : (Tryz.prog.info? 5).map (fun i => (i.zero, i.size, i.bytes)) = some (some (.int .u8 0), 1, 1) := by kernel_rfl
theorem EB : Elem Tryz.prog 22 5 1 1 := by
  obtain ⟨i0, hi, hz0, hz1, hz2⟩ := info_parts Tryz.info5
  exact ⟨Tryz.underlying22, ⟨i0, _, hi, hz0, hz1, hz2, rfl⟩, by decide⟩

/-- One number is appended to a row of the call's own: the number stands in a new block of one cell. -/
theorem wpList_app1 {P : Program} {t e : TypeId} {bytes : Nat} (E : Elem P t e 1 bytes) {w : World} {ops : Array Oper} {rest : List Oper} {o : Oper} {a : Act} {Q : Exit → Act → World → Prop} (hgd : o.guard = none) (s x : Operand) (ho : o.op = .call { callee := .builtin .append, args := #[s, x], argTypes := #[t, t] })
    (base : Nat) (v : Value) (k : IntKind) (acc : List Int) (hs : a.eval s = v) (hown : w.ownsRow base e 1 v acc.length (acc.map (Value.int k))) (y : Int) (hx : a.eval x = .slice (some ⟨w.heap.size, 0, none⟩) 1 1) (h63 : acc.length ≤ 1000000000000) (hby : bytes ≤ 100) (hbase : base ≤ w.heap.size)
    (h : ∀ v' w', w'.ownsRow base e 1 v' (acc ++ [y]).length ((acc ++ [y]).map (Value.int k)) → (∀ B w0, Below B w0 w → B ≤ base → Below B w0 w') → w.grownBy w' v.ownBlock → wpList P ops Q rest (a.put o.dst v') w') : wpList P ops Q (o :: rest) a (w.alloc (.cells #[.int k y] e)) := by
  have hlt := hown.lt
  refine wpList_app E hgd s x ho base v acc.length (acc.map (Value.int k)) hs (hown.alloc _) (some ⟨w.heap.size, 0, none⟩) 1 1 [.int k y] hx (fun h => by cases h) rfl (fun j u hj => ⟨_, rfl, one_new _ _ _ j u hj⟩) (fun u hu => by simp at hu; subst hu; rfl) (by unfold maxLen; omega) ?_ (by simp; omega) ?_
  · calc (acc.length + 1) * bytes ≤ (acc.length + 1) * 100 := Nat.mul_le_mul_left _ hby
      _ ≤ 140737488355328 := by omega
  · intro v' w' h1 h2 h3
    refine h v' w' (by rw [List.length_append, List.map_append]; exact h1) (fun B w0 hb hB => (hb.alloc (Nat.le_trans hB hbase) _).grown h2 (by simp; omega) (fun k hk => by have := hlt k hk; omega)) (grown_trans (grown_alloc w _ _) h2)

/-- The lowest bytes of a number, the highest of them first. -/
def beL (n : Nat) : Nat → List Int
  | 0 => []
  | k + 1 => ((n / 256 ^ k % 256 : Nat) : Int) :: beL n k
theorem beL_length (n : Nat) : ∀ k, (beL n k).length = k
  | 0 => rfl
  | k + 1 => by rw [beL, List.length_cons, beL_length n k]
theorem beL_bytes (n : Nat) : ∀ k, Bytes (beL n k)
  | 0 => fun i => by simp [beL]
  | k + 1 => fun i => by
    cases i with
    | zero => simp only [beL, List.getD_cons_zero]; omega
    | succ i => simp only [beL, List.getD_cons_succ]; exact beL_bytes n k i
/-- Bytes as a number. -/
def numL (l : List Int) : Int := l.foldl (fun n c => n * 256 + c) 0
theorem numL_snoc (l : List Int) (c : Int) : numL (l ++ [c]) = numL l * 256 + c := by simp [numL]
theorem foldl_be (n : Nat) : ∀ (k : Nat) (z : Int), (beL n k).foldl (fun n c => n * 256 + c) z = z * (256 ^ k : Nat) + ((n % 256 ^ k : Nat) : Int)
  | 0, z => by simp [beL, Nat.mod_one]
  | k + 1, z => by
    rw [beL, List.foldl_cons, foldl_be n k]
    have e : n % 256 ^ (k + 1) = n / 256 ^ k % 256 * 256 ^ k + n % 256 ^ k := by
      rw [Nat.pow_succ, Nat.mod_mul]
      rw [Nat.add_comm, Nat.mul_comm]
    rw [e, Nat.pow_succ]
    generalize n / 256 ^ k % 256 = a
    generalize n % 256 ^ k = b
    generalize 256 ^ k = p
    rw [Int.natCast_add, Int.natCast_mul, Int.natCast_mul, show ((256 : Nat) : Int) = 256 from rfl, Int.add_mul, Int.mul_assoc, Int.mul_comm (256 : Int) (p : Int), Int.add_assoc]
theorem numL_be (n k : Nat) (h : n < 256 ^ k) : numL (beL n k) = n := by
  unfold numL
  rw [foldl_be, Nat.mod_eq_of_lt h]; simp

end Go.Proofs.YtcklcffepedklaaGreat

namespace Go.Proofs.YtcklcffepedklaaGreat
open Go.RowKit

/-- A new variable gets a whole value. -/
theorem wpList_fresh {P : Program} {ops : Array Oper} {rest : List Oper} {o1 o2 : Oper} {a : Act} {w : World} {Q : Exit → Act → World → Prop} (g1 : o1.guard = none) (g2 : o2.guard = none) (T : TypeId) (ho1 : o1.op = .alloc T) (d x : Operand) (ho2 : o2.op = .store T d x)
    (cs Z : Array Value) (hd : ∀ v, (a.put o1.dst v).eval d = v) (hx : ∀ v, (a.put o1.dst v).eval x = .agg cs) (hz : ∀ W, (zeroValue T).run P W = .ok (.agg Z) W) (hi : (P.info? T).map (·.size) = some cs.size) (hzs : Z.size = cs.size) (h1 : cs.all (·.oneCell') = true)
    (h : ∀ g w1, Hid (g = w.heap.size) → Hid (w1.heap[g]? = some (.cells cs T (0, 0))) → Hid (Below w.heap.size w w1) → wpList P ops Q rest ((a.put o1.dst (.pointer (some ⟨g, 0, none⟩))).put o2.dst undef) w1) : wpList P ops Q (o1 :: o2 :: rest) a w := by
  refine wpList_plain g1 fun K hK => ?_
  unfold Oper.wp execOp
  simp only [ho1, Instr.alloc, Sem.run_bind, hz, Result.andThen_ok, Sem.run_pure]
  have hnv : (newVar T (.agg Z)).run P w = .ok ⟨w.heap.size, 0, none⟩ (w.alloc (.cells Z T)) := by
    simp [newVar, newRow, Value.cells]
  simp only [hnv, Result.andThen_ok]
  refine hK _ _ (wpList_store_row g2 T d x ho2 w.heap.size cs (hd _) (hx _) T Z (heap_alloc_last _ _) hi hzs h1 ?_)
  rw [World.setRow_alloc_new]
  exact h _ _ rfl (heap_alloc_last _ _) ((Below.refl _ _).alloc (Nat.le_refl _) _)

/-- A key: its fingerprint, and the how-many-eth it is. -/
structure Ky where
  sum : List Int
  n : Nat
  deriving DecidableEq
instance : Inhabited Ky := ⟨⟨[], 0⟩⟩
def Ky.cells (k : Ky) : List Value := k.sum.map (Value.int .u8) ++ [.int .u32 k.n]
structure Ky.Ok (k : Ky) : Prop where
  len : k.sum.length = 32
  byt : Bytes k.sum
  lt : k.n < 4294967296
theorem Ky.cells_length {k : Ky} (h : k.Ok) : k.cells.length = 33 := by simp [Ky.cells, h.len]
theorem Ky.cells_one (k : Ky) : ∀ u ∈ k.cells, u.oneCell' = true := by
  intro u hu
  unfold Ky.cells at hu
  rw [List.mem_append] at hu
  rcases hu with hu | hu
  · exact ints_one .u8 _ u hu
  · simp at hu; subst hu; rfl
/-- A piece: its key, and where its bytes lie. -/
structure Pc where
  key : Ky
  A : Option Addr
  c : Nat
  data : List Int
instance : Inhabited Pc := ⟨⟨default, none, 0, []⟩⟩
def Pc.cells (p : Pc) : List Value := p.key.cells ++ [.slice p.A p.data.length p.c]
structure Pc.Ok (w : World) (p : Pc) : Prop where
  key : p.key.Ok
  ints : Ints .u8 w p.A p.data
  byt : Bytes p.data
  cap : p.data.length ≤ p.c
  nil : p.A = none → p.data.length = 0 ∧ p.c = 0
theorem Pc.cells_length {p : Pc} (h : p.key.Ok) : p.cells.length = 34 := by simp [Pc.cells, Ky.cells_length h]
theorem Pc.cells_one (p : Pc) : ∀ u ∈ p.cells, u.oneCell' = true := by
  intro u hu
  unfold Pc.cells at hu
  rw [List.mem_append] at hu
  rcases hu with hu | hu
  · exact Ky.cells_one _ u hu
  · simp at hu; subst hu; rfl
theorem all_one {l : List Value} (h : ∀ u ∈ l, u.oneCell' = true) : l.toArray.all (·.oneCell') = true := by
  simpa using h
theorem Pc.cells_33 {p : Pc} (h : p.key.Ok) : p.cells[33]? = some (.slice p.A p.data.length p.c) := by
  unfold Pc.cells
  rw [List.getElem?_append_right (by rw [Ky.cells_length h]; exact Nat.le_refl _), Ky.cells_length h]; rfl
theorem Ky.cells_32 {k : Ky} (h : k.Ok) : k.cells[32]? = some (.int .u32 k.n) := by
  unfold Ky.cells
  rw [List.getElem?_append_right (by simp [h.len]), List.length_map, h.len]; rfl
theorem Pc.cells_32 {p : Pc} (h : p.key.Ok) : p.cells[32]? = some (.int .u32 p.key.n) := by
  unfold Pc.cells
  rw [List.getElem?_append_left (by rw [Ky.cells_length h]; omega)]; exact Ky.cells_32 h
theorem Pc.cells_take {p : Pc} (h : p.key.Ok) : p.cells.take 33 = p.key.cells := by
  unfold Pc.cells
  rw [List.take_append_of_le_length (by rw [Ky.cells_length h]; exact Nat.le_refl _), List.take_of_length_le (by rw [Ky.cells_length h]; exact Nat.le_refl _)]
theorem Pc.cells_sum {p : Pc} (h : p.key.Ok) : p.cells.take 32 = p.key.sum.map (Value.int .u8) := by
  unfold Pc.cells Ky.cells
  rw [List.append_assoc, List.take_append_of_le_length (by simp [h.len]), List.take_of_length_le (by simp [h.len])]
theorem Ky.cells_sum {k : Ky} (h : k.Ok) : k.cells.take 32 = k.sum.map (Value.int .u8) := by
  unfold Ky.cells
  rw [List.take_append_of_le_length (by simp [h.len]), List.take_of_length_le (by simp [h.len])]
theorem Pc.Ok.below {w w' : World} {p : Pc} (h : p.Ok w) (hb : Below w.heap.size w w') : p.Ok w' := ⟨h.key, h.ints.below hb, h.byt, h.cap, h.nil⟩
theorem Pc.Ok.chg {w w' : World} {p : Pc} {R : Nat → Prop} (h : p.Ok w) (hc : Chg R w w') (hr : ∀ ad, p.A = some ad → 0 < p.data.length → ¬ R ad.block) : p.Ok w' := ⟨h.key, h.ints.chg hc hr, h.byt, h.cap, h.nil⟩

/-- Pieces in a slice that begins at A. -/
structure PcAt (w : World) (A : Option Addr) (L : List Pc) : Prop where
  at_ : ∀ i p, L[i]? = some p → ∃ g, A = some ⟨g, 0, none⟩ ∧ w.rangeAt g (i * 34) p.cells
  ok : ∀ p ∈ L, p.Ok w
theorem range_lt {w : World} {g o : Nat} {cs : List Value} (h : w.rangeAt g o cs) (h0 : 0 < cs.length) : g < w.heap.size := by
  obtain ⟨v, hv⟩ : ∃ v, cs[0]? = some v := ⟨cs[0], List.getElem?_eq_getElem h0⟩
  exact cell_lt (a := ⟨g, o + 0, none⟩) (h 0 v hv)
theorem range_take {w : World} {g o : Nat} {cs : List Value} (h : w.rangeAt g o cs) (n : Nat) : w.rangeAt g o (cs.take n) := by
  intro j v hj
  rw [List.getElem?_take] at hj
  split at hj
  · exact h j v hj
  · cases hj
theorem range_cell {w : World} {g o : Nat} {cs : List Value} (h : w.rangeAt g o cs) {j : Nat} {v : Value} (hj : cs[j]? = some v) : w.cell? ⟨g, o + j, none⟩ = some v := h j v hj
theorem range_row {w : World} {g : Nat} {cs : List Value} {t : TypeId} (h : w.heap[g]? = some (.cells cs.toArray t (0, 0))) : w.rangeAt g 0 cs := by
  intro j v hj
  rw [cell_of_row _ _ _ _ _ _ h, Nat.zero_add, List.getElem?_toArray]; exact hj
theorem row_at {w : World} {g : Nat} {cs : List Value} {t : TypeId} (h : w.heap[g]? = some (.cells cs.toArray t (0, 0))) {j : Nat} {v : Value} (hj : cs[j]? = some v) : w.cell? ⟨g, j, none⟩ = some v := by
  rw [cell_of_row _ _ _ _ _ _ h, List.getElem?_toArray]; exact hj
theorem PcAt.below {w w' : World} {A : Option Addr} {L : List Pc} (h : PcAt w A L) (hb : Below w.heap.size w w') : PcAt w' A L := by
  refine ⟨fun i p hp => ?_, fun p hp => (h.ok p hp).below hb⟩
  obtain ⟨g, e, hr⟩ := h.at_ i p hp
  have hok := h.ok p (List.mem_of_getElem? hp)
  exact ⟨g, e, rangeAt_block hr (hb.block g (range_lt hr (by rw [Pc.cells_length hok.key]; omega)))⟩
theorem PcAt.get {w : World} {A : Option Addr} {L : List Pc} (h : PcAt w A L) {i : Nat} (hi : i < L.length) : ∃ p g, L[i]? = some p ∧ A = some ⟨g, 0, none⟩ ∧ w.rangeAt g (i * 34) p.cells ∧ p.Ok w := by
  obtain ⟨g, e, hr⟩ := h.at_ i L[i] (List.getElem?_eq_getElem hi)
  exact ⟨L[i], g, List.getElem?_eq_getElem hi, e, hr, h.ok _ (List.getElem_mem hi)⟩
theorem PcAt.nil (w : World) (A : Option Addr) : PcAt w A [] := ⟨fun i p h => by simp at h, fun p h => by simp at h⟩

theorem Tryz.infoP : (Tryz.prog.info? 105).map (fun i => (i.zero, i.size, i.bytes)) = some (some (.agg ((List.replicate 32 (Value.int .u8 0)) ++ [Value.int .u32 0, Value.slice none 0 0]).toArray), 34, 64) := by kernel_rfl
/-- The cells of no piece. -/
def zP : Array Value := ((List.replicate 32 (Value.int .u8 0)) ++ [Value.int .u32 0, Value.slice none 0 0]).toArray
theorem zeroP (w : World) : (zeroValue 105).run Tryz.prog w = .ok (.agg zP) w := by
  obtain ⟨i0, hi, hz0, _, _⟩ := info_parts Tryz.infoP
  simp [zeroValue, typeInfo, hi, hz0, zP]
theorem sizeP {p : Pc} (h : p.key.Ok) : (Tryz.prog.info? 105).map (·.size) = some p.cells.length := by
  rw [Pc.cells_length h]
  obtain ⟨i0, hi, _, hz1, _⟩ := info_parts Tryz.infoP
  rw [hi]; simp [hz1]
theorem sizePA {p : Pc} (h : p.key.Ok) : (Tryz.prog.info? 105).map (·.size) = some p.cells.toArray.size := by rw [List.size_toArray]; exact sizeP h
theorem zP_size {p : Pc} (h : p.key.Ok) : zP.size = p.cells.toArray.size := by
  have e : p.cells.toArray.size = 34 := by rw [List.size_toArray, Pc.cells_length h]
  rw [e]; rfl
theorem sizeK {k : Ky} (h : k.Ok) : (Tryz.prog.info? 64).map (·.size) = some k.cells.length := by rw [Ky.cells_length h]; kernel_rfl

/-- How many bytes pieces have. -/
def lenP (L : List Pc) : Nat := (L.map (·.data.length)).sum
theorem lenP_take {L : List Pc} {i : Nat} {p : Pc} (h : L[i]? = some p) : lenP (L.take (i + 1)) = lenP (L.take i) + p.data.length := by
  unfold lenP
  rw [List.take_add_one, h]
  simp
theorem lenP_append (a b : List Pc) : lenP (a ++ b) = lenP a + lenP b := by simp [lenP]
theorem lenP_le (L : List Pc) (i : Nat) : lenP (L.take i) ≤ lenP L := by
  have := lenP_append (L.take i) (L.drop i)
  rw [List.take_append_drop] at this
  omega

end Go.Proofs.YtcklcffepedklaaGreat
