/- Texts of the proof, one behind the other: Words for the walks over the store: what a call may change, rows of numbers that a call owns, what is appended to them. -/
import Derived.Test.YtcklcffepedklaaGreatDoorProg
import Derived.Test.YtcklcffepedklaaGreatDoorM01
import Derived.Deep.DeepCutAuto
import Derived.StillTailTactics
import Derived.Laws.CopyOwn
import Derived.Laws.CopyRow
import Derived.BigRegion
namespace Go.Proofs.YtcklcffepedklaaGreatDoor
open Go.RowKit

/-- Only blocks that meet R are changed; new ones may have come. -/
structure Chg (R : Nat → Prop) (w w' : World) : Prop where
  os : w'.os = w.os
  tape : w'.tape = w.tape
  output : w'.output = w.output
  size : w.heap.size ≤ w'.heap.size
  block : ∀ k, k < w.heap.size → ¬ R k → w'.heap[k]? = w.heap[k]?
theorem Chg.refl (R : Nat → Prop) (w : World) : Chg R w w := ⟨rfl, rfl, rfl, Nat.le_refl _, fun _ _ _ => rfl⟩
theorem Chg.trans {R : Nat → Prop} {a b c : World} (h : Chg R a b) (k : Chg R b c) : Chg R a c :=
  ⟨k.os.trans h.os, k.tape.trans h.tape, k.output.trans h.output, Nat.le_trans h.size k.size, fun i hi hn => (k.block i (Nat.lt_of_lt_of_le hi h.size) hn).trans (h.block i hi hn)⟩
theorem Chg.trans2 {R Q : Nat → Prop} {a b c : World} (h : Chg R a b) (k : Chg Q b c) (hq : ∀ i, i < a.heap.size → Q i → R i) : Chg R a c :=
  ⟨k.os.trans h.os, k.tape.trans h.tape, k.output.trans h.output, Nat.le_trans h.size k.size, fun i hi hn => (k.block i (Nat.lt_of_lt_of_le hi h.size) (fun e => hn (hq i hi e))).trans (h.block i hi hn)⟩
theorem Chg.mono {R Q : Nat → Prop} {a b : World} (h : Chg R a b) (hr : ∀ k, R k → Q k) : Chg Q a b := ⟨h.os, h.tape, h.output, h.size, fun i hi hn => h.block i hi (fun hR => hn (hr i hR))⟩
theorem Chg.monoLt {R Q : Nat → Prop} {a b : World} (h : Chg R a b) (hr : ∀ k, k < a.heap.size → R k → Q k) : Chg Q a b := ⟨h.os, h.tape, h.output, h.size, fun i hi hn => h.block i hi (fun hR => hn (hr i hi hR))⟩
theorem Chg.of {a b : World} {r : Option Nat} (h : a.grownBy b r) : Chg (fun k => some k = r) a b := ⟨h.os, h.tape, h.output, h.size, fun i hi hn => h.block i hi hn⟩
theorem Chg.of_ {R : Nat → Prop} {a b : World} {r : Option Nat} (h : a.grownBy b r) (hr : ∀ k, k < a.heap.size → r = some k → R k) : Chg R a b := ⟨h.os, h.tape, h.output, h.size, fun i hi hn => h.block i hi (fun e => hn (hr i hi e.symm))⟩
theorem Chg.none_ {R : Nat → Prop} {a b : World} (h : a.grownBy b none) : Chg R a b := ⟨h.os, h.tape, h.output, h.size, fun i hi _ => h.block i hi (by simp)⟩
theorem Chg.belowAt {R : Nat → Prop} {a b : World} (h : Below a.heap.size a b) : Chg R a b := Chg.none_ (below_grown h none)
theorem Chg.below {R : Nat → Prop} {a b : World} {B : Nat} (h : Chg R a b) (hB : B ≤ a.heap.size) (hr : ∀ k, R k → B ≤ k) : Below B a b :=
  ⟨h.os, h.tape, h.output, h.size, fun k hk => h.block k (Nat.lt_of_lt_of_le hk hB) (fun hR => by have := hr k hR; omega)⟩
theorem Chg.drewN {R : Nat → Prop} {a b : World} (h : Chg R a b) (n : Nat) : Chg R a (b.drewN n) := ⟨h.os, h.tape, h.output, h.size, h.block⟩
theorem Chg.cell {R : Nat → Prop} {a b : World} (h : Chg R a b) {p : Addr} (hp : p.block < a.heap.size) (hr : ¬ R p.block) : b.cell? p = a.cell? p := World.cell?_of_block (w := a) (h.block _ hp hr)
theorem Chg.alloc {R : Nat → Prop} {a b : World} (h : Chg R a b) (o : Obj) : Chg R a (b.alloc o) := h.trans (Chg.none_ (grown_alloc _ _ _))
theorem Chg.below0 {R : Nat → Prop} {a b : World} (h : Chg R a b) {c : World} (hb : Below b.heap.size b c) : Chg R a c := h.trans (Chg.belowAt hb)
theorem Chg.new {a b c : World} {R Q : Nat → Prop} (h : Chg R a b) (k : Chg Q b c) (hq : ∀ i, Q i → R i ∨ a.heap.size ≤ i) : Chg R a c :=
  h.trans2 k (fun i hi hQ => (hq i hQ).resolve_right (by omega))

theorem row_lt {w : World} {g : Nat} {o : Obj} (h : w.heap[g]? = some o) : g < w.heap.size := by
  rcases Nat.lt_or_ge g w.heap.size with h1 | h1
  · exact h1
  · rw [Array.getElem?_eq_none h1] at h; cases h
theorem Ints.chg {k : IntKind} {w w' : World} {A : Option Addr} {l : List Int} {R : Nat → Prop} (h : Ints k w A l) (hc : Chg R w w') (hr : ∀ ad, A = some ad → 0 < l.length → ¬ R ad.block) : Ints k w' A l := by
  intro i hi
  obtain ⟨ad, e, hcell⟩ := h i hi
  exact ⟨ad, e, (World.cell?_of_block (w := w) (by rw [add_block]; exact hc.block _ (cell_block hcell) (hr ad e (by omega)))).trans hcell⟩
theorem Ints.lt {k : IntKind} {w : World} {A : Option Addr} {l : List Int} (h : Ints k w A l) : ∀ ad, A = some ad → 0 < l.length → ad.block < w.heap.size := by
  intro ad e h0
  obtain ⟨ad', e', hc⟩ := h 0 h0
  rw [e] at e'; injection e' with e'; subst e'
  exact cell_block hc

theorem below_trans {B : Nat} {a b c : World} (h : Below B a b) (k : Below b.heap.size b c) (hB : B ≤ b.heap.size) : Below B a c := h.trans (k.mono hB)

/-- The value at v is a row of bytes l, that was made since base. -/
abbrev OwnB (w : World) (base : Nat) (v : Value) (l : List Int) : Prop := w.ownsRow base 5 1 v l.length (l.map (Value.int .u8))
theorem OwnB.ints {w : World} {base : Nat} {v : Value} {l : List Int} (h : OwnB w base v l) :
    ∃ (A : Option Addr) (c : Nat), v = .slice A l.length c ∧ l.length ≤ c ∧ Ints .u8 w A l ∧ (∀ ad, A = some ad → base ≤ ad.block ∧ ad.block < w.heap.size) := new_of_own h
theorem OwnB.nilA {w : World} {base : Nat} {A : Option Addr} {n c : Nat} {l : List Int} (h : OwnB w base (.slice A n c) l) : A = none → n = 0 ∧ c = 0 := by
  intro e
  subst e
  obtain ⟨_, h2⟩ := h
  rcases h2 with ⟨h2, _⟩ | ⟨g, cap, cur, h2, _⟩
  · injection h2 with _ h3 h4; exact ⟨h3, h4⟩
  · injection h2 with h3; cases h3
theorem OwnB.kept {w w' : World} {base : Nat} {v : Value} {l : List Int} (h : OwnB w base v l) (hg : w.grownBy w' none) : OwnB w' base v l :=
  World.ownsRow.kept h hg (by cases v.ownBlock <;> simp)
theorem OwnB.below {w w' : World} {base : Nat} {v : Value} {l : List Int} (h : OwnB w base v l) (hb : Below w.heap.size w w') : OwnB w' base v l := h.kept (below_grown hb none)
theorem OwnB.base {w : World} {b b' : Nat} {v : Value} {l : List Int} (h : OwnB w b v l) (hb : b' ≤ b) : OwnB w b' v l := by
  obtain ⟨h1, h2⟩ := h
  refine ⟨h1, ?_⟩
  rcases h2 with h2 | ⟨g, cap, cur, a, b, c⟩
  · exact .inl h2
  · exact .inr ⟨g, cap, cur, a, by omega, c⟩
/-- A whole row is owned. -/
theorem OwnB.whole {w : World} {g base : Nat} {l : List Int} (h : w.heap[g]? = some (.cells (cellsOf l) 5 (0, 0))) (hb : base ≤ g) (hl : l.length ≤ 1000000000000) : OwnB w base (.slice (some ⟨g, 0, none⟩) l.length l.length) l :=
  ⟨by simp, .inr ⟨g, l.length, cellsOf l, rfl, hb, h, Nat.le_refl _, by unfold maxLen; omega, by simp [cellsOf_size], by simp [cellsOf, List.take_of_length_le]⟩⟩
theorem Tryz.info5 : (Tryz.prog.info? 5).map (fun i => (i.zero, i.size, i.bytes)) = some (some (.int .u8 0), 1, 1) := by kernel_rfl
theorem EB : Elem Tryz.prog 33 5 1 1 := by
  obtain ⟨i0, hi, hz0, hz1, hz2⟩ := info_parts Tryz.info5
  exact ⟨Tryz.underlying33, ⟨i0, _, hi, hz0, hz1, hz2, rfl⟩, by decide⟩

/-- One number is appended to a row of the call's own: the number stands in a new block of one cell. -/
theorem wpList_app1 {P : Program} {t e : TypeId} {bytes : Nat} (E : Elem P t e 1 bytes) {w : World} {ops : Array Oper} {rest : List Oper} {o : Oper} {a : Act} {Q : Exit → Act → World → Prop} (hgd : o.guard = none) (s x : Operand) (ho : o.op = .call { callee := .builtin .append, args := #[s, x], argTypes := #[t, t] })
    (base : Nat) (v : Value) (k : IntKind) (acc : List Int) (hs : a.eval s = v) (hown : w.ownsRow base e 1 v acc.length (acc.map (Value.int k))) (y : Int) (hx : a.eval x = .slice (some ⟨w.heap.size, 0, none⟩) 1 1) (h63 : acc.length ≤ 1000000000000) (hby : bytes ≤ 100) (hbase : base ≤ w.heap.size)
    (h : ∀ v' w', w'.ownsRow base e 1 v' (acc ++ [y]).length ((acc ++ [y]).map (Value.int k)) → (∀ B w0, Below B w0 w → B ≤ base → Below B w0 w') → w.grownBy w' v.ownBlock → wpList P ops Q rest (a.put o.dst v') w') : wpList P ops Q (o :: rest) a (w.alloc (.cells #[.int k y] e)) := by
  have hlt := hown.lt
  refine wpList_app E hgd s x ho base v acc.length (acc.map (Value.int k)) hs (hown.alloc _) (some ⟨w.heap.size, 0, none⟩) 1 1 [.int k y] hx (fun h => by cases h) rfl (fun j u hj => ⟨_, rfl, one_new _ _ _ j u hj⟩) (fun u hu => by simp at hu; subst hu; rfl) (by unfold maxLen; omega) ?_ (by simp; omega) ?_
  · calc (acc.length + 1) * bytes ≤ (acc.length + 1) * 100 := Nat.mul_le_mul_left _ hby
      _ ≤ 140737488355328 := by omega
  · intro v' w' h1 h2 h3
    refine h v' w' (by rw [List.length_append, List.map_append]; exact h1) (fun B w0 hb hB => (hb.alloc (Nat.le_trans hB hbase) _).grown h2 (by simp; omega) (fun k hk => by have := hlt k hk; omega)) (grown_trans (grown_alloc w _ _) h2)

/-- The lowest bytes of a number, the highest of them first. -/
def beL (n : Nat) : Nat → List Int
  | 0 => []
  | k + 1 => ((n / 256 ^ k % 256 : Nat) : Int) :: beL n k
theorem beL_length (n : Nat) : ∀ k, (beL n k).length = k
  | 0 => rfl
  | k + 1 => by rw [beL, List.length_cons, beL_length n k]
theorem beL_bytes (n : Nat) : ∀ k, Bytes (beL n k)
  | 0 => fun i => by simp [beL]
  | k + 1 => fun i => by
    cases i with
    | zero => simp only [beL, List.getD_cons_zero]; omega
    | succ i => simp only [beL, List.getD_cons_succ]; exact beL_bytes n k i
/-- Bytes as a number. -/
def numL (l : List Int) : Int := l.foldl (fun n c => n * 256 + c) 0
theorem numL_snoc (l : List Int) (c : Int) : numL (l ++ [c]) = numL l * 256 + c := by simp [numL]
theorem foldl_be (n : Nat) : ∀ (k : Nat) (z : Int), (beL n k).foldl (fun n c => n * 256 + c) z = z * (256 ^ k : Nat) + ((n % 256 ^ k : Nat) : Int)
  | 0, z => by simp [beL, Nat.mod_one]
  | k + 1, z => by
    rw [beL, List.foldl_cons, foldl_be n k]
    have e : n % 256 ^ (k + 1) = n / 256 ^ k % 256 * 256 ^ k + n % 256 ^ k := by
      rw [Nat.pow_succ, Nat.mod_mul]
      rw [Nat.add_comm, Nat.mul_comm]
    rw [e, Nat.pow_succ]
    generalize n / 256 ^ k % 256 = a
    generalize n % 256 ^ k = b
    generalize 256 ^ k = p
    rw [Int.natCast_add, Int.natCast_mul, Int.natCast_mul, show ((256 : Nat) : Int) = 256 from rfl, Int.add_mul, Int.mul_assoc, Int.mul_comm (256 : Int) (p : Int), Int.add_assoc]
theorem numL_be (n k : Nat) (h : n < 256 ^ k) : numL (beL n k) = n := by
  unfold numL
  rw [foldl_be, Nat.mod_eq_of_lt h]; simp

end Go.Proofs.YtcklcffepedklaaGreatDoor
