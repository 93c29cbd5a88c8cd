/- Texts of the proof, one behind the other: Maps: a block of entries, read as a list of keys and values. Keys of maps: chunks' keys, fingerprints, numbers. What is built of parts whose cells are not written out. codec: numbers laid and read. disk: its sectors; New, powered, Read. codec: a reader of bytes. -/
import Derived.Test.YtcklcffepedklaaGreatM02
import Derived.Maps.OwnOps
import Derived.Maps.OwnSet
import Derived.Maps.RangeWalk
import Derived.DeepKeys4
namespace Go.Proofs.YtcklcffepedklaaGreat
open Go.RowKit Go.Maps
open Go.ChangeMaps (setBlock)

section
variable {α β : Type} [DecidableEq α]
/-- What stands at a key. -/
def lkp : List (α × β) → α → Option β
  | [], _ => none
  | (k, v) :: L, a => if k = a then some v else lkp L a
theorem lkp_none : ∀ {L : List (α × β)} {a : α}, (∀ x ∈ L, x.1 ≠ a) → lkp L a = none
  | [], _, _ => rfl
  | (k, v) :: L, a, h => by
    rw [lkp, if_neg (h (k, v) List.mem_cons_self)]
    exact lkp_none (fun x hx => h x (List.mem_cons_of_mem _ hx))
theorem lkp_some_mem : ∀ {L : List (α × β)} {a : α} {v : β}, lkp L a = some v → (a, v) ∈ L
  | [], _, _, h => by cases h
  | (k, v') :: L, a, v, h => by
    rw [lkp] at h
    split at h
    · rename_i e; subst e; cases h; exact List.mem_cons_self
    · exact List.mem_cons_of_mem _ (lkp_some_mem h)
theorem lkp_none_mem {L : List (α × β)} {a : α} (h : lkp L a = none) : ∀ x ∈ L, x.1 ≠ a := by
  induction L with
  | nil => intro x hx; cases hx
  | cons y L ih =>
    obtain ⟨k, v⟩ := y
    rw [lkp] at h
    split at h
    · cases h
    · rename_i e
      intro x hx
      rcases List.mem_cons.1 hx with rfl | hx
      · exact e
      · exact ih h x hx
theorem lkp_of_mem : ∀ {L : List (α × β)} {a : α} {v : β}, (L.map (·.1)).Nodup → (a, v) ∈ L → lkp L a = some v
  | [], _, _, _, h => by cases h
  | (k, v') :: L, a, v, hn, h => by
    rw [List.map_cons, List.nodup_cons] at hn
    rw [lkp]
    rcases List.mem_cons.1 h with h | h
    · cases h; rw [if_pos rfl]
    · rw [if_neg (fun e => hn.1 (by show k ∈ _; rw [e]; exact List.mem_map_of_mem (f := (·.1)) h)), lkp_of_mem hn.2 h]
/-- A key's value is laid. -/
def upd (L : List (α × β)) (a : α) (v : β) : List (α × β) := match lkp L a with
  | none => L ++ [(a, v)]
  | some _ => L.map fun x => if x.1 = a then (a, v) else x
theorem upd_new {L : List (α × β)} {a : α} (h : lkp L a = none) (v : β) : upd L a v = L ++ [(a, v)] := by unfold upd; rw [h]
theorem upd_old {L : List (α × β)} {a : α} {u : β} (h : lkp L a = some u) (v : β) : upd L a v = L.map fun x => if x.1 = a then (a, v) else x := by unfold upd; rw [h]
theorem lkp_append (L M : List (α × β)) (a : α) : lkp (L ++ M) a = (lkp L a).or (lkp M a) := by
  induction L with
  | nil => rfl
  | cons y L ih =>
    obtain ⟨k, v⟩ := y
    rw [List.cons_append, lkp, lkp]
    split <;> simp [ih]
theorem lkp_map_other (L : List (α × β)) (a b : α) (v : β) (h : a ≠ b) : lkp (L.map fun x => if x.1 = a then (a, v) else x) b = lkp L b := by
  induction L with
  | nil => rfl
  | cons y L ih =>
    obtain ⟨k, u⟩ := y
    rw [List.map_cons, lkp]
    by_cases e : k = a
    · simp only [e, if_true]
      rw [lkp, if_neg h, ih]
      simp [h]
    · simp only [e, if_false]
      rw [lkp, ih]
theorem lkp_map_same (L : List (α × β)) (a : α) (u v : β) (h : lkp L a = some u) : lkp (L.map fun x => if x.1 = a then (a, v) else x) a = some v := by
  induction L with
  | nil => cases h
  | cons y L ih =>
    obtain ⟨k, u'⟩ := y
    rw [lkp] at h
    rw [List.map_cons]
    by_cases e : k = a
    · simp only [e, if_true]
      rw [lkp, if_pos rfl]
    · simp only [e, if_false] at h ⊢
      rw [lkp, if_neg e, ih h]
theorem lkp_upd_same (L : List (α × β)) (a : α) (v : β) : lkp (upd L a v) a = some v := by
  cases h : lkp L a with
  | none => rw [upd_new h, lkp_append, h]; simp [lkp]
  | some u => rw [upd_old h]; exact lkp_map_same L a u v h
theorem lkp_upd_other (L : List (α × β)) (a b : α) (v : β) (h : a ≠ b) : lkp (upd L a v) b = lkp L b := by
  cases hl : lkp L a with
  | none => rw [upd_new hl, lkp_append]; simp [lkp, h]
  | some u => rw [upd_old hl]; exact lkp_map_other L a b v h
theorem map_keys_same (L : List (α × β)) (a : α) (v : β) : (L.map fun x => if x.1 = a then (a, v) else x).map (·.1) = L.map (·.1) := by
  rw [List.map_map]
  apply List.map_congr_left
  intro x _
  simp only [Function.comp]
  split
  · rename_i e; exact e.symm
  · rfl
theorem upd_nodup {L : List (α × β)} (h : (L.map (·.1)).Nodup) (a : α) (v : β) : ((upd L a v).map (·.1)).Nodup := by
  cases hl : lkp L a with
  | none =>
    rw [upd_new hl, List.map_append]
    have := lkp_none_mem hl
    rw [List.nodup_append]
    refine ⟨h, by simp, ?_⟩
    intro x hx y hy
    obtain ⟨z, hz, rfl⟩ := List.mem_map.1 hx
    simp only [List.map_cons, List.map_nil, List.mem_singleton] at hy
    subst hy
    exact this z hz
  | some u => rw [upd_old hl, map_keys_same]; exact h
theorem upd_mem {L : List (α × β)} {a : α} {v : β} {x : α × β} (h : x ∈ upd L a v) : x = (a, v) ∨ x ∈ L := by
  cases hl : lkp L a with
  | none =>
    rw [upd_new hl] at h
    rcases List.mem_append.1 h with h | h
    · exact .inr h
    · exact .inl (by simpa using h)
  | some u =>
    rw [upd_old hl] at h
    obtain ⟨y, hy, e⟩ := List.mem_map.1 h
    split at e
    · exact .inl e.symm
    · exact .inr (e ▸ hy)
end

/-- What the laws on a map ask of its keys' type. -/
structure KeyOk {α : Type} (P : Program) (kt : TypeId) (enc : α → Value) (V : α → Prop) : Prop where
  keyed : Keyed P kt
  reads : ∀ a, V a → ∃ l, keyOf P kt (enc a) = some l
  inj : ∀ a b, V a → V b → enc a = enc b → a = b

/-- The map at block m has the keys and values L. -/
structure MapAt {α : Type} (enc : α → Value) (V : α → Prop) (w : World) (m : Nat) (L : List (α × Value)) : Prop where
  ex : ∃ es clock, w.heap[m]? = some (.map es clock) ∧ es.toList.map (fun e => (e.key, e.val)) = L.map (fun x => (enc x.1, x.2)) ∧ (∀ e ∈ es.toList, e.born < clock) ∧ (es.toList.map (·.born)).Nodup
  nodup : (L.map (·.1)).Nodup
  val : ∀ x ∈ L, V x.1
section
variable {α : Type} [DecidableEq α] {P : Program} {kt mt et : TypeId} {enc : α → Value} {V : α → Prop} {w : World} {m : Nat} {L : List (α × Value)}
omit [DecidableEq α] in
theorem MapAt.lt (h : MapAt enc V w m L) : m < w.heap.size := by obtain ⟨es, c, h1, _⟩ := h.ex; exact row_lt h1
omit [DecidableEq α] in
theorem MapAt.of_block {w' : World} (h : MapAt enc V w m L) (hb : w'.heap[m]? = w.heap[m]?) : MapAt enc V w' m L := by
  obtain ⟨es, c, h1, h2⟩ := h.ex
  exact ⟨⟨es, c, hb.trans h1, h2⟩, h.nodup, h.val⟩
omit [DecidableEq α] in
theorem MapAt.below {w' : World} (h : MapAt enc V w m L) (hb : Below w.heap.size w w') : MapAt enc V w' m L := h.of_block (hb.block m h.lt)
omit [DecidableEq α] in
theorem MapAt.chg {w' : World} {R : Nat → Prop} (h : MapAt enc V w m L) (hc : Chg R w w') (hr : ¬ R m) : MapAt enc V w' m L := h.of_block (hc.block m h.lt hr)
omit [DecidableEq α] in
theorem MapAt.made (w : World) : MapAt enc V (w.alloc (.map #[] 0)) w.heap.size ([] : List (α × Value)) :=
  ⟨⟨#[], 0, heap_alloc_last _ _, rfl, (fun e h => by simp at h), by simp⟩, by simp, (fun x h => by simp at h)⟩

/-- What the search for a key tells. -/
theorem find_key (K : KeyOk P kt enc V) (hL : ∀ x ∈ L, V x.1) (hn : (L.map (·.1)).Nodup) {es : List MapEntry} (he : es.map (fun e => (e.key, e.val)) = L.map (fun x => (enc x.1, x.2))) (a : α) (ha : V a) :
    ((Instr.findKey kt (enc a) es).run P w = .ok none w ∧ lkp L a = none) ∨ ∃ j v e, (Instr.findKey kt (enc a) es).run P w = .ok (some (j, v)) w ∧ lkp L a = some v ∧ es[j]? = some e ∧ e.key = enc a ∧ L[j]? = some (a, v) := by
  obtain ⟨la, hla⟩ := K.reads a ha
  have hel : es.length = L.length := by have := congrArg List.length he; simpa using this
  have hat : ∀ (j : Nat) (e : MapEntry), es[j]? = some e → ∃ x : α × Value, L[j]? = some x ∧ e.key = enc x.1 ∧ e.val = x.2 := by
    intro j e hj
    have h1 := congrArg (·[j]?) he
    simp only [List.getElem?_map, hj, Option.map_some] at h1
    cases hx : L[j]? with
    | none => rw [hx] at h1; cases h1
    | some x =>
      rw [hx] at h1
      simp only [Option.map_some, Option.some.injEq, Prod.mk.injEq] at h1
      exact ⟨x, rfl, h1.1, h1.2⟩
  have hall : ∀ e ∈ es, ∃ l, keyOf P kt e.key = some l := by
    intro e hm
    obtain ⟨j, hj⟩ := List.mem_iff_getElem?.1 hm
    obtain ⟨x, hx, hk, _⟩ := hat j e hj
    rw [hk]; exact K.reads _ (hL x (List.mem_of_getElem? hx))
  rcases K.keyed.find w hla es hall with ⟨h1, h2⟩ | ⟨j, e, h1, h2, h3⟩
  · left
    refine ⟨h1, lkp_none fun x hx hxa => ?_⟩
    obtain ⟨j, hj⟩ := List.mem_iff_getElem?.1 hx
    have hjl : j < es.length := by
      rw [hel]
      rcases Nat.lt_or_ge j L.length with h | h
      · exact h
      · rw [List.getElem?_eq_none h] at hj; cases hj
    obtain ⟨x', hx', hk, _⟩ := hat j es[j] (List.getElem?_eq_getElem hjl)
    rw [hj] at hx'; cases hx'
    exact h2 _ (List.getElem_mem hjl) (by rw [hk, hxa])
  · right
    obtain ⟨x, hx, hk, hv⟩ := hat j e h2
    have hxm := List.mem_of_getElem? hx
    have : x.1 = a := K.inj _ _ (hL x hxm) ha (hk.symm.trans h3)
    obtain ⟨k, v⟩ := x
    subst this
    simp only at hv
    refine ⟨j, v, e, by rw [h1, hv], lkp_of_mem hn hxm, h2, h3, hx⟩

theorem run_lkp (K : KeyOk P kt enc V) (ht : P.underlying mt = some (.map kt et)) (h : MapAt enc V w m L) (a : α) (ha : V a) (z : Value) (hz : (zeroValue et).run P w = .ok z w) (ok : Bool) :
    (Instr.lookup mt (.map (some m)) (enc a) ok).run P w = .ok (if ok then .tuple #[(lkp L a).getD z, .bool (lkp L a).isSome] else (lkp L a).getD z) w := by
  obtain ⟨es, c, h1, h2, _⟩ := h.ex
  obtain ⟨la, hla⟩ := K.reads a ha
  simp only [Instr.lookup, Sem.run_bind, run_underlying ht, Result.andThen_ok, Go.MapKept.run_getObj_map h1, Sem.run_pure, K.keyed.check w es.isEmpty hla]
  rcases find_key (w := w) K h.val h.nodup h2 a ha with ⟨h3, h4⟩ | ⟨j, v, e, h3, h4, _⟩
  · rw [h3]
    simp only [Result.andThen_ok, Sem.run_bind, hz, Sem.run_pure, h4]
    cases ok <;> rfl
  · rw [h3]
    simp only [Result.andThen_ok, Sem.run_pure, h4]
    cases ok <;> rfl
omit [DecidableEq α] in
theorem setBlock_grown (w : World) (m : Nat) (o : Obj) : w.grownBy (setBlock w m o) (some m) :=
  ⟨rfl, rfl, rfl, by simp [setBlock], fun k _ hk => by
    simp only [setBlock]
    rw [Array.getElem?_setIfInBounds, if_neg (fun e => hk (by rw [e]))]⟩
omit [DecidableEq α] in
theorem setBlock_at {w : World} {m : Nat} (o : Obj) (h : m < w.heap.size) : (setBlock w m o).heap[m]? = some o := by
  simp only [setBlock]
  rw [Array.getElem?_setIfInBounds, if_pos rfl, if_pos h]

theorem run_upd (K : KeyOk P kt enc V) (ht : P.underlying mt = some (.map kt et)) (h : MapAt enc V w m L) (a : α) (ha : V a) (v : Value) :
    ∃ w', (Instr.mapUpdate mt (.map (some m)) (enc a) v).run P w = .ok () w' ∧ w.grownBy w' (some m) ∧ MapAt enc V w' m (upd L a v) ∧ w'.heap.size = w.heap.size := by
  obtain ⟨es, c, h1, h2, h5, h6⟩ := h.ex
  obtain ⟨la, hla⟩ := K.reads a ha
  have hV : ∀ x ∈ upd L a v, V x.1 := fun x hx => by
    rcases upd_mem hx with rfl | hx
    · exact ha
    · exact h.val x hx
  simp only [Instr.mapUpdate, Sem.run_bind, run_underlying ht, Result.andThen_ok, Go.MapKept.run_getObj_map h1, K.keyed.check w false hla]
  rcases find_key (w := w) K h.val h.nodup h2 a ha with ⟨h3, h4⟩ | ⟨j, u, e, h3, h4, h7, h8, h9⟩
  · rw [h3]
    simp only [Result.andThen_ok]
    refine ⟨_, Go.MapKept.run_setObj_map _ h1, setBlock_grown w m _, ⟨⟨_, _, setBlock_at _ (row_lt h1), ?_, ?_, ?_⟩, upd_nodup h.nodup a v, hV⟩, by simp⟩
    · rw [upd_new h4, Array.toList_push, List.map_append, List.map_append, h2]; rfl
    · intro e he
      rw [Array.toList_push] at he
      rcases List.mem_append.1 he with he | he
      · have := h5 e he; omega
      · simp at he; subst he; simp
    · rw [Array.toList_push, List.map_append, List.nodup_append]
      refine ⟨h6, by simp, ?_⟩
      intro x hx y hy
      obtain ⟨z, hz, rfl⟩ := List.mem_map.1 hx
      simp only [List.map_cons, List.map_nil, List.mem_singleton] at hy
      subst hy
      have := h5 z hz; omega
  · have hej : es[j]? = some e := by rw [← Array.getElem?_toList]; exact h7
    have hks : (Instr.keyThatStays (((es[j]?).map (·.key)).getD (enc a)) (enc a)).run P w = .ok (enc a) w := by
      rw [hej]; simp only [Option.map_some, Option.getD_some, h8]; exact K.keyed.stays w hla
    rw [h3]
    simp only [Result.andThen_ok, Sem.run_bind, hks]
    have hjl : j < es.toList.length := by
      rcases Nat.lt_or_ge j es.toList.length with h | h
      · exact h
      · rw [List.getElem?_eq_none h] at h7; cases h7
    refine ⟨_, Go.MapKept.run_setObj_map _ h1, setBlock_grown w m _, ⟨⟨_, _, setBlock_at _ (row_lt h1), ?_, ?_, ?_⟩, upd_nodup h.nodup a v, hV⟩, by simp⟩
    · rw [upd_old h4]
      apply List.ext_getElem?
      intro i
      have hi := congrArg (·[i]?) h2
      simp only [List.getElem?_map] at hi
      simp only [List.getElem?_map, Array.getElem?_toList, Array.getElem?_modify] at hi ⊢
      by_cases e1 : j = i
      · subst e1
        rw [if_pos rfl, hej, h9]
        simp
      · rw [if_neg e1, hi]
        cases hx : L[i]? with
        | none => rfl
        | some x =>
          simp only [Option.map_some]
          have hne : x.1 ≠ a := by
            intro hxa
            have hnd := h.nodup
            have hi1 : (L.map (·.1))[i]? = some a := by rw [List.getElem?_map, hx]; simp [hxa]
            have hj1 : (L.map (·.1))[j]? = some a := by rw [List.getElem?_map, h9]; simp
            exact e1 ((List.getElem?_inj (by rcases Nat.lt_or_ge j (L.map (·.1)).length with h | h; exact h; rw [List.getElem?_eq_none h] at hj1; cases hj1) hnd).1 (hj1.trans hi1.symm))
          rw [if_neg hne]
    · intro x hx
      obtain ⟨i, hi⟩ := List.mem_iff_getElem?.1 hx
      rw [Array.getElem?_toList, Array.getElem?_modify] at hi
      split at hi
      · rw [← ‹j = i›, hej] at hi
        simp at hi; subst hi
        exact h5 e (List.mem_of_getElem? h7)
      · exact h5 x (List.mem_of_getElem? (by rw [Array.getElem?_toList]; exact hi))
    · have : (es.modify j fun e => { e with key := enc a, val := v }).toList.map (·.born) = es.toList.map (·.born) := by
        apply List.ext_getElem?
        intro i
        simp only [List.getElem?_map, Array.getElem?_toList, Array.getElem?_modify]
        split
        · rename_i e1; subst e1; rw [hej]; rfl
        · rfl
      rw [this]; exact h6
end

theorem run_make_hint {P : Program} {mt k e : TypeId} (ht : P.underlying mt = some (.map k e)) (q : IntKind) (z : Int) (W : World) : (Instr.makeMap mt (some (.int q z))).run P W = .ok (.map (some W.heap.size)) (W.alloc (.map #[] 0)) := by
  simp [Instr.makeMap, run_underlying ht, asInt, asIntOf]

theorem wpList_lkp {P : Program} {ops : Array Oper} {rest : List Oper} {o : Oper} {a : Act} {w : World} {Q : Exit → Act → World → Prop} (hg : o.guard = none) (t : TypeId) (x k : Operand) (ok : Bool) (ho : o.op = .lookup t x k ok) (mv kv v : Value) (hx : a.eval x = mv) (hk : a.eval k = kv)
    (hr : (Instr.lookup t mv kv ok).run P w = .ok v w) (h : wpList P ops Q rest (a.put o.dst v) w) : wpList P ops Q (o :: rest) a w := by
  refine wpList_plain hg fun K hK => ?_
  unfold Oper.wp execOp
  simp only [ho, hx, hk, Sem.run_bind, hr, Result.andThen_ok, Sem.run_pure]
  exact hK _ _ h
theorem wpList_upd {P : Program} {ops : Array Oper} {rest : List Oper} {o : Oper} {a : Act} {w w' : World} {Q : Exit → Act → World → Prop} (hg : o.guard = none) (t : TypeId) (x k y : Operand) (ho : o.op = .mapUpdate t x k y) (mv kv v : Value) (hx : a.eval x = mv) (hk : a.eval k = kv) (hy : a.eval y = v)
    (hr : (Instr.mapUpdate t mv kv v).run P w = .ok () w') (h : wpList P ops Q rest (a.put o.dst undef) w') : wpList P ops Q (o :: rest) a w := by
  refine wpList_plain hg fun K hK => ?_
  unfold Oper.wp execOp
  simp only [ho, hx, hk, hy, Sem.run_bind, hr, Result.andThen_ok, Sem.run_pure]
  exact hK _ _ h

end Go.Proofs.YtcklcffepedklaaGreat

namespace Go.Proofs.YtcklcffepedklaaGreat
open Go.RowKit Go.Maps

theorem mapM_opt {α β : Type} (f : α → Option β) : ∀ (l : List α), (∀ x ∈ l, ∃ y, f x = some y) → ∃ ys, l.mapM f = some ys
  | [], _ => ⟨[], rfl⟩
  | x :: l, h => by
    obtain ⟨y, hy⟩ := h x List.mem_cons_self
    obtain ⟨ys, hys⟩ := mapM_opt f l (fun z hz => h z (List.mem_cons_of_mem _ hz))
    exact ⟨y :: ys, by rw [List.mapM_cons, hy, hys]; rfl⟩
theorem laidOutZ : laidOutB Tryz.prog = true := by kernel_rfl
theorem cells5 : Tryz.prog.cellsOf 5 = 1 := by kernel_rfl
theorem cellsS : Tryz.prog.cellsOf 62 = 32 := by kernel_rfl
theorem cells27 : Tryz.prog.cellsOf 27 = 1 := by kernel_rfl
theorem cellsK : Tryz.prog.cellsOf 64 = 33 := by kernel_rfl
theorem wf_u8 {x : Int} (h0 : 0 ≤ x) (h1 : x < 256) : (Lit.int .u8 x).wf = true := by
  have h2 : IntKind.u8.min = 0 := by decide
  have h3 : IntKind.u8.max = 255 := by decide
  simp [Lit.wf, h2, h3]; omega
theorem wf_u32 {x : Int} (h0 : 0 ≤ x) (h1 : x < 4294967296) : (Lit.int .u32 x).wf = true := by
  have h2 : IntKind.u32.min = 0 := by decide
  have h3 : IntKind.u32.max = 4294967295 := by decide
  simp [Lit.wf, h2, h3]; omega

theorem lits_sum (d : Nat) (l : List Int) (hl : l.length = 32) (hB : Bytes l) : ∃ ls, Tryz.prog.keyLits (d + 2) 62 (l.map (Value.int .u8)) = some ls := by
  have hu := Tryz.underlying62
  unfold Program.keyLits
  rw [hu]
  simp only [List.length_map, hl, cellsS, if_true, cells5]
  obtain ⟨ys, hys⟩ := mapM_opt (fun i => Tryz.prog.keyLits (d + 1) 5 (((l.map (Value.int .u8)).drop (i * 1)).take 1)) (List.range 32) (fun i hi => by
    have hi' : i < 32 := List.mem_range.1 hi
    have h1 : ((l.map (Value.int .u8)).drop (i * 1)).take 1 = [.int .u8 (l.getD i 0)] := by
      rw [Nat.mul_one, ← List.map_drop, drop_getD l i (by omega)]; rfl
    have hw := wf_u8 (hB i).1 (hB i).2
    rw [h1]
    refine ⟨[.int .u8 (l.getD i 0)], ?_⟩
    unfold Program.keyLits
    rw [Tryz.underlying5]
    simp only [hw, and_self, if_true])
  rw [hys]
  exact ⟨_, rfl⟩
theorem lits_key (d : Nat) (k : Ky) (h : k.Ok) : ∃ ls, Tryz.prog.keyLits (d + 3) 64 k.cells = some ls := by
  have hu := Tryz.underlying64
  obtain ⟨l1, h1⟩ := lits_sum d k.sum h.len h.byt
  have h2 : Tryz.prog.keyLits (d + 2) 27 [.int .u32 k.n] = some [.int .u32 k.n] := by
    unfold Program.keyLits
    rw [Tryz.underlying27]
    have := wf_u32 (x := (k.n : Int)) (by omega) (by have := h.lt; omega)
    simp only [this, and_self, if_true]
  have e1 : (k.cells.drop 0).take 32 = k.sum.map (Value.int .u8) := by rw [List.drop_zero, Ky.cells_sum h]
  have e2 : (k.cells.drop 32).take 1 = [.int .u32 k.n] := by
    unfold Ky.cells
    rw [List.drop_append_of_le_length (by simp [h.len]), List.drop_of_length_le (by simp [h.len])]; rfl
  unfold Program.keyLits
  rw [hu]
  simp only [Ky.cells_length h, cellsK, true_and]
  rw [if_pos (by decide +kernel)]
  simp only [List.mapM_cons, List.mapM_nil, cellsS, cells27, e1, e2, h1, h2]
  exact ⟨_, rfl⟩

/-- A key as a value. -/
def Ky.val (k : Ky) : Value := .agg k.cells.toArray
theorem list_int_inj (q : IntKind) : ∀ {a b : List Int}, a.map (Value.int q) = b.map (Value.int q) → a = b
  | [], [], _ => rfl
  | [], _ :: _, h => by cases h
  | _ :: _, [], h => by cases h
  | x :: a, y :: b, h => by
    rw [List.map_cons, List.map_cons] at h
    injection h with h1 h2
    injection h1 with _ h1
    rw [h1, list_int_inj q h2]
theorem Ky.val_inj {a b : Ky} (ha : a.Ok) (hb : b.Ok) (h : a.val = b.val) : a = b := by
  unfold Ky.val at h
  injection h with h
  have h' : a.cells = b.cells := by have := congrArg Array.toList h; simpa using this
  have h1 := congrArg (List.take 32) h'
  rw [Ky.cells_sum ha, Ky.cells_sum hb] at h1
  have h2 := congrArg (·[32]?) h'
  simp only [Ky.cells_32 ha, Ky.cells_32 hb] at h2
  have e1 := list_int_inj .u8 h1
  have e2 : a.n = b.n := by
    injection h2 with h2; injection h2 with _ h2; omega
  cases a; cases b; simp_all
theorem size3 : ∃ m, Tryz.prog.types.size + 1 = m + 3 := by
  have : 2 ≤ Tryz.prog.types.size := by decide +kernel
  exact ⟨Tryz.prog.types.size - 2, by omega⟩
theorem keyK : KeyOk Tryz.prog 64 Ky.val Ky.Ok where
  keyed := Keyed.of_law (deep_law_laid laidOutZ (m := 3) (by decide) (by decide +kernel) (by decide +kernel) (by rw [Tryz.underlying64]))
  reads k h := by
    obtain ⟨m, hm⟩ := size3
    obtain ⟨ls, hls⟩ := lits_key m k h
    refine ⟨.string (keyBytes ls), ?_⟩
    have hkt : Tryz.prog.keyType 64 = true := by decide +kernel
    have hfo : k.val.formed Tryz.prog 64 = true := by
      unfold Value.formed Ky.val
      simp only [Tryz.underlying64, cellsK, List.size_toArray, Ky.cells_length h]
      rfl
    have hcs : k.val.cells.toList = k.cells := by simp [Ky.val, Value.cells]
    unfold keyOf
    simp only [Tryz.underlying64, hkt, hfo, Bool.and_self, if_true, hm, hcs, hls]
    rfl
  inj _ _ ha hb h := Ky.val_inj ha hb h

/-- A fingerprint as a value. -/
def sumV (l : List Int) : Value := .agg (cellsOf l)
structure SumOk (l : List Int) : Prop where
  len : l.length = 32
  byt : Bytes l
theorem keyS : KeyOk Tryz.prog 62 sumV SumOk where
  keyed := Keyed.of_law (deep_law_laid laidOutZ (m := 2) (by decide) (by decide +kernel) (by decide +kernel) (by rw [Tryz.underlying62]))
  reads l h := by
    obtain ⟨m, hm⟩ := size3
    obtain ⟨ls, hls⟩ := lits_sum (m + 1) l h.len h.byt
    refine ⟨.string (keyBytes ls), ?_⟩
    have hkt : Tryz.prog.keyType 62 = true := by decide +kernel
    have hfo : (sumV l).formed Tryz.prog 62 = true := by
      unfold Value.formed sumV
      simp only [Tryz.underlying62, cellsS, cellsOf_size, h.len]
      rfl
    have hcs : (sumV l).cells.toList = l.map (Value.int .u8) := by simp [sumV, Value.cells, cellsOf]
    unfold keyOf
    simp only [Tryz.underlying62, hkt, hfo, Bool.and_self, if_true, hm, hcs]
    rw [show m + 3 = m + 1 + 2 from rfl, hls]
    rfl
  inj a b _ _ h := by
    unfold sumV cellsOf at h
    injection h with h
    have h' := congrArg Array.toList h
    exact list_int_inj .u8 (by simpa using h')

/-- A number as a value. -/
def intV (z : Nat) : Value := .int .i64 z
theorem keyI : KeyOk Tryz.prog 3 intV (fun z => z < 9223372036854775808) where
  keyed := int_keyed Tryz.underlying3
  reads z h := ⟨_, keyOf_int_mk Tryz.underlying3 (by
    have h2 : IntKind.i64.min = -9223372036854775808 := by decide
    have h3 : IntKind.i64.max = 9223372036854775807 := by decide
    simp [Lit.wf, h2, h3]; omega)⟩
  inj a b _ _ h := by unfold intV at h; injection h with _ h; omega
end Go.Proofs.YtcklcffepedklaaGreat

namespace Go.Proofs.YtcklcffepedklaaGreat
open Go.RowKit

theorem grown_setRow (w : World) (g : Nat) (cs : Array Value) : w.grownBy (w.setRow g cs) (some g) := ⟨rfl, rfl, rfl, by simp, fun j _ hne => setRow_other _ _ _ _ (fun e => hne (by rw [e]))⟩
theorem zip_set (off : Nat) : ∀ (vs : List Value) (n : Nat) (cells : Array Value), off + n + vs.length ≤ cells.size →
    (vs.zipIdx n).foldl (fun cs x => cs.setIfInBounds (off + x.2) x.1) cells = (cells.toList.take (off + n) ++ vs ++ cells.toList.drop (off + n + vs.length)).toArray
  | [], n, cells, h => by simp
  | v :: vs, n, cells, h => by
    rw [List.zipIdx_cons, List.foldl_cons, zip_set off vs (n + 1) _ (by simp at h ⊢; omega)]
    simp only [List.length_cons] at h
    congr 1
    simp only [Array.toList_setIfInBounds]
    have h1 : (cells.toList.set (off + n) v).take (off + (n + 1)) = cells.toList.take (off + n) ++ [v] := by
      rw [show off + (n + 1) = (off + n) + 1 from by omega, List.take_add_one, List.take_set_of_le (Nat.le_refl _), List.getElem?_set_self (by simp; omega)]
      rfl
    have h2 : (cells.toList.set (off + n) v).drop (off + (n + 1) + vs.length) = cells.toList.drop (off + n + (v :: vs).length) := by
      rw [List.drop_set_of_lt (by omega)]
      congr 1
      simp; omega
    rw [h1, h2]
    simp
theorem arr_zip (off : Nat) (vs : List Value) (cells : Array Value) (h : off + vs.length ≤ cells.size) :
    vs.toArray.zipIdx.foldl (fun cs (c, j) => cs.setIfInBounds (off + j) c) cells = (cells.toList.take off ++ vs ++ cells.toList.drop (off + vs.length)).toArray := by
  have := zip_set off vs 0 cells (by simpa using h)
  rw [Nat.add_zero] at this
  rw [← this, ← Array.foldl_toList]
  simp
theorem fill_cons {place : Nat → Option (Nat × Nat)} {cells : Array Value} {i off size : Nat} {v : Value} {rest : List (Nat × Value)} {vs : List Value} (hp : place i = some (off, size)) (hv : v.cells = vs.toArray) (hs : vs.length = size) (hf : off + size ≤ cells.size) :
    Instr.fill place cells ((i, v) :: rest) = Instr.fill place (cells.toList.take off ++ vs ++ cells.toList.drop (off + size)).toArray rest := by
  rw [Instr.fill, hp]
  have h1 : v.cells.size = size := by rw [hv, List.size_toArray, hs]
  simp only [h1]
  rw [if_neg (by simp; omega), hv, arr_zip off vs cells (by omega), hs]
theorem built_struct {P : Program} {t : TypeId} {fields : Array Field} {i : TypeInfo} {z : Value} {places : List (Nat × Nat)} {parts : List (Nat × Value)} (hi : P.info? t = some i) (hz : i.zero = some z) (hu : P.underlying t = some (.struct fields))
    (hp : fields.toList.mapM (fun f => (P.info? f.type).map fun i => (f.offset, i.size)) = some places) : P.built t parts = Instr.fill (places.toArray[·]?) z.cells parts := by
  simp only [Program.built, hi, hu, hz, hp]

theorem splice2 {Z cs : List Value} {n : Nat} (hZ : Z.length = n + 1) (hk : cs.length = n) (s : Value) :
    (Z.take 0 ++ cs ++ Z.drop (0 + n)).toArray.toList.take n ++ [s] ++ (Z.take 0 ++ cs ++ Z.drop (0 + n)).toArray.toList.drop (n + 1) = cs ++ [s] := by
  simp only [List.take_zero, List.nil_append, Nat.zero_add]
  rw [List.take_append_of_le_length (by omega), List.take_of_length_le (by omega), List.drop_of_length_le (by simp [hk, hZ]), List.append_nil]
theorem build_piece (k : Ky) (h : k.Ok) (A : Option Addr) (n c : Nat) (w : World) : (Instr.build 105 #[(0, .agg k.cells.toArray), (1, .slice A n c)]).run Tryz.prog w = .ok (.agg (k.cells ++ [Value.slice A n c]).toArray) w := by
  obtain ⟨i0, hi, hz0, _, _⟩ := info_parts Tryz.infoP
  refine run_build w _ _ _ ?_
  rw [built_struct hi hz0 Tryz.underlying105 (places := [(0, 33), (33, 1)]) (by decide +kernel)]
  have hk := Ky.cells_length h
  rw [fill_cons (off := 0) (size := 33) (vs := k.cells) rfl rfl hk (by decide)]
  rw [fill_cons (off := 33) (size := 1) (vs := [.slice A n c]) rfl rfl rfl (by simp [hk]; decide)]
  rw [Instr.fill]
  refine congrArg some (congrArg List.toArray ?_)
  exact splice2 (show zP.toList.length = 34 from rfl) hk _
/-- A slice of one element. -/
theorem build_one {P : Program} {t e : TypeId} {s : Nat} {z : Value} {vs : List Value} (ht : P.underlying t = some (.slice e)) (hsz : ∀ W, (sizeOf e).run P W = .ok s W) (hz : ∀ W, (zeroValue e).run P W = .ok z W) (hs : vs.length = s) (h0 : 0 < s) (hl : s ≤ 1000000) (v : Value) (hv : v.cells = vs.toArray) (W : World) :
    (Instr.buildSlice t 1 #[(0, v)]).run P W = .ok (.slice (some ⟨W.heap.size, 0, none⟩) 1 1) (W.alloc (.cells vs.toArray e)) := by
  have hf : Instr.fill (fun i => some (i * s, s)) ((Array.range (1 * s)).map (z.cells[· % z.cells.size]!)) [(0, v)] = some vs.toArray := by
    rw [fill_cons (off := 0) (size := s) (vs := vs) (by simp) hv hs (by simp), Instr.fill]
    congr 1
    simp
  simp only [Instr.buildSlice, Sem.run_bind, run_underlying ht, Result.andThen_ok, hsz, Nat.one_mul]
  rw [if_neg (by omega), if_neg (by omega)]
  simp only [Sem.run_bind, Sem.run_pure, Result.andThen_ok, hz]
  rw [Nat.one_mul] at hf
  simp only [hf]
  simp [newRow]

section
variable {P : Program} {ops : Array Oper} {o : Oper} {a : Act} {w w' : World} {K : Act → World → Prop} {Q : Exit → Act → World → Prop} {G : Prop}
/-- A step of a region that draws its order, by what the operation gives. -/
theorem step_val {v : Value} (hgd : o.guard = none) (hr : (execOp a.eval o).run P w = .ok (.value v) w') (h : K (a.put o.dst v) w') : if Region.wanted o (yielded ops a.tmps) = true then Oper.wp P o a w K Q else G := by
  rw [if_pos (by simp [Region.wanted, hgd])]
  unfold Oper.wp
  rw [hr]; exact h
theorem step_skip (hgd : o.guard = none) (hr : (execOp a.eval o).run P w = .ok .skip w') (h : K (a.put o.dst undef) w') : if Region.wanted o (yielded ops a.tmps) = true then Oper.wp P o a w K Q else G := by
  rw [if_pos (by simp [Region.wanted, hgd])]
  unfold Oper.wp
  rw [hr]; exact h
theorem wpList_val {rest : List Oper} {v : Value} (hgd : o.guard = none) (hr : (execOp a.eval o).run P w = .ok (.value v) w') (h : wpList P ops Q rest (a.put o.dst v) w') : wpList P ops Q (o :: rest) a w :=
  wpList_plain hgd fun K hK => by unfold Oper.wp; rw [hr]; exact hK _ _ h
theorem wpList_skip {rest : List Oper} (hgd : o.guard = none) (hr : (execOp a.eval o).run P w = .ok .skip w') (h : wpList P ops Q rest (a.put o.dst undef) w') : wpList P ops Q (o :: rest) a w :=
  wpList_plain hgd fun K hK => by unfold Oper.wp; rw [hr]; exact hK _ _ h
theorem yields_val {S : World → Prop} {v : Value} (hw : Region.wanted o (yielded ops a.tmps) = true) (hr : ∀ w, S w → (execOp a.eval o).run P w = .ok (.value v) w) : YieldsIf P ops S o v a := .inl ⟨hw, hr⟩
theorem exec_build {ρ : Operand → Value} (t : TypeId) (parts : Array (Nat × Operand)) (ho : o.op = .build t parts) (vs : Array (Nat × Value)) (hx : (parts.map fun p => (p.1, ρ p.2)) = vs) {v : Value} (hr : (Instr.build t vs).run P w = .ok v w') : (execOp ρ o).run P w = .ok (.value v) w' := by
  subst hx
  unfold execOp
  simp only [ho, Sem.run_bind, hr, Result.andThen_ok, Sem.run_pure]
theorem exec_buildSlice {ρ : Operand → Value} (t : TypeId) (n : Nat) (parts : Array (Nat × Operand)) (ho : o.op = .buildSlice t n parts) (vs : Array (Nat × Value)) (hx : (parts.map fun p => (p.1, ρ p.2)) = vs) {v : Value} (hr : (Instr.buildSlice t n vs).run P w = .ok v w') : (execOp ρ o).run P w = .ok (.value v) w' := by
  subst hx
  unfold execOp
  simp only [ho, Sem.run_bind, hr, Result.andThen_ok, Sem.run_pure]
end
/-- The cells of no key. -/
def zK : Array Value := ((List.replicate 32 (Value.int .u8 0)) ++ [Value.int .u32 0]).toArray
theorem Tryz.infoK : (Tryz.prog.info? 64).map (fun i => (i.zero, i.size, i.bytes)) = some (some (.agg ((List.replicate 32 (Value.int .u8 0)) ++ [Value.int .u32 0]).toArray), 33, 36) := by kernel_rfl
theorem zeroK (w : World) : (zeroValue 64).run Tryz.prog w = .ok (.agg zK) w := by
  obtain ⟨i0, hi, hz0, _, _⟩ := info_parts Tryz.infoK
  simp [zeroValue, typeInfo, hi, hz0, zK]
theorem sizeKA {k : Ky} (h : k.Ok) : (Tryz.prog.info? 64).map (·.size) = some k.cells.toArray.size := by rw [List.size_toArray]; exact sizeK h
theorem zK_size {k : Ky} (h : k.Ok) : zK.size = k.cells.toArray.size := by
  have e : k.cells.toArray.size = 33 := by rw [List.size_toArray, Ky.cells_length h]
  rw [e]; rfl
theorem build_key (k : Ky) (h : k.Ok) (w : World) : (Instr.build 64 #[(0, .agg (k.sum.map (Value.int .u8)).toArray), (1, .int .u32 k.n)]).run Tryz.prog w = .ok (.agg k.cells.toArray) w := by
  obtain ⟨i0, hi, hz0, _, _⟩ := info_parts Tryz.infoK
  refine run_build w _ _ _ ?_
  have hk : (k.sum.map (Value.int .u8)).length = 32 := by rw [List.length_map, h.len]
  rw [built_struct hi hz0 Tryz.underlying64 (places := [(0, 32), (32, 1)]) (by decide +kernel)]
  rw [fill_cons (off := 0) (size := 32) (vs := k.sum.map (Value.int .u8)) rfl rfl hk (by decide)]
  rw [fill_cons (off := 32) (size := 1) (vs := [.int .u32 k.n]) rfl rfl rfl (by simp [h.len]; decide)]
  rw [Instr.fill]
  refine congrArg some (congrArg List.toArray ?_)
  exact splice2 (show zK.toList.length = 33 from rfl) hk _
theorem step_wp {P : Program} {ops : Array Oper} {o : Oper} {a : Act} {w : World} {K : Act → World → Prop} {Q : Exit → Act → World → Prop} {G : Prop} (hgd : o.guard = none) (h : o.wp P a w K Q) : if Region.wanted o (yielded ops a.tmps) = true then Oper.wp P o a w K Q else G := by
  rw [if_pos (by simp [Region.wanted, hgd])]; exact h
theorem exec_alloc {P : Program} {o : Oper} {w : World} {ρ : Operand → Value} {Z : Array Value} (T : TypeId) (ho : o.op = .alloc T) (hz : (zeroValue T).run P w = .ok (.agg Z) w) : (execOp ρ o).run P w = .ok (.value (.pointer (some ⟨w.heap.size, 0, none⟩))) (w.alloc (.cells Z T)) := by
  unfold execOp
  have hnv : (newVar T (.agg Z)).run P w = .ok ⟨w.heap.size, 0, none⟩ (w.alloc (.cells Z T)) := by
    simp [newVar, newRow, Value.cells]
  simp only [ho, Instr.alloc, Sem.run_bind, hz, Result.andThen_ok, hnv, Sem.run_pure]
theorem shared {T G : Prop} (k : T → G) (h : T) : G := k h
end Go.Proofs.YtcklcffepedklaaGreat

namespace Go.Proofs.YtcklcffepedklaaGreat
open Go.RowKit

/-- What Put does: a new row. -/
def NewRow (l : List Int) (w : World) (e : Ending) (w' : World) : Prop := ∃ v, e = .returned v ∧ OwnB w' w.heap.size v l ∧ Below w.heap.size w w'

theorem make_cap (n m : Nat) (hn : n ≤ m) (hm : m ≤ 1000000000000) (W : World) : (Instr.makeSlice 22 (.int .i64 (n : Int)) (.int .i64 (m : Int))).run Tryz.prog W = .ok (.slice (some ⟨W.heap.size, 0, none⟩) n m) (W.alloc (.cells (List.replicate m (Value.int .u8 0)).toArray 5)) := by
  obtain ⟨i0, hi, hz0, hz1, hz2⟩ := info_parts Tryz.info5
  have := run_make (P := Tryz.prog) W 22 5 i0 (.int .u8 0) Tryz.underlying22 hi hz0 .i64 .i64 (n : Int) (m : Int) (by omega) (by omega) (by rw [hz2]; omega) (by omega)
  rw [Int.toNat_natCast, Int.toNat_natCast, hz1, Nat.mul_one] at this
  rw [this, ← madeCells_rep]
  rfl

theorem be_byte (x k : Nat) : (x : Int) / 2 ^ ((k + 1) * 8 - 8) % 256 = ((x / 256 ^ k % 256 : Nat) : Int) := by
  rw [show (k + 1) * 8 - 8 = 8 * k from by omega, Int.pow_mul, show (2 : Int) ^ 8 = ((256 : Nat) : Int) from rfl, ← Int.natCast_pow, ← Int.natCast_ediv, show (256 : Int) = ((256 : Nat) : Int) from rfl, ← Int.natCast_emod]

set_option maxRecDepth 20000 in
set_option maxHeartbeats 800000 in
theorem Put_any (A : Option Addr) (n c : Nat) (l : List Int) (x many : Nat) (w : World) (hn : l.length = n) (hl : n ≤ 500000000000) (hI : Ints .u8 w A l) (hx : x < 18446744073709551616) (hm0 : 0 < many) (hm : many ≤ 8) :
    Calls Tryz.prog 47 #[.slice A n c, .int .u64 x, .int .i64 many] w (NewRow (l ++ beL x many) w) := by
  have hmk := make_cap n (n + many) (by omega) (by omega)
  obtain ⟨Z, hZ⟩ : ∃ Z, Z = List.replicate (n + many) (Value.int .u8 0) := ⟨_, rfl⟩
  have HZ := Lib.hid (show Z.length = n + many by rw [hZ, List.length_replicate])
  rw [← hZ] at hmk
  clear hZ
  have hcast : ((n : Int) + (many : Int)) = ((n + many : Nat) : Int) := by omega
  have HN := Lib.hid hn
  have HI := Lib.hid hI
  have HI2 := Lib.hid (hI.grown (grown_alloc w (.cells Z.toArray 5) none) (fun _ _ _ h => by cases h))
  have HR := Lib.hid (heap_alloc_last w (.cells Z.toArray 5))
  have HB := Lib.hid ((Below.refl w.heap.size w).alloc (Nat.le_refl _) (.cells Z.toArray 5))
  have HU := Lib.hid Tryz.underlying22
  have HS := Lib.hid (show (Tryz.prog.info? 5).map (·.size) = some 1 by kernel_rfl)
  rw [← hcast] at hmk
  have hm1 : min (many : Int) 8 = (many : Int) := by omega
  have hm2 : max 0 (many : Int) = (many : Int) := by omega
  clear hn hI hcast
  go_enter Tryz.func47, Tryz.ntmps47
  go_wp2_with (with_reducible refine wpList_copy_splice rfl _ _ 22 22 rfl 5 HU.out HS.out (some ⟨w.heap.size, 0, none⟩) A n (n + many) n c rfl rfl w.heap.size 0 Z 5 HR.out (l.map (Value.int .u8)) ?c1 ?c2 ?c3 (ints_one _ _) w.heap.size w HB.out (Nat.le_refl _) ?_)
  case c1 => rw [List.length_map, HN.out]; exact (Nat.min_eq_left (Nat.le_refl n)).symm
  case c2 =>
    intro h0
    obtain ⟨ad, e, _⟩ := HI2.out 0 h0
    refine ⟨ad, e, fun j v hj => ?_⟩
    have hjl : j < l.length := by
      rcases Nat.lt_or_ge j l.length with h | h
      · exact h
      · rw [List.getElem?_eq_none h] at hj; cases hj
    obtain ⟨ad', e', hc⟩ := HI2.out j hjl
    rw [e] at e'; injection e' with e'; subst e'
    rw [hc, List.getD_eq_getElem?_getD, hj]; rfl
  case c3 => rw [List.length_map, HN.out, HZ.out]; omega
  intro w2 HR2 hb2
  have HO := Lib.hid (show OwnB w2 w.heap.size (.slice (some ⟨w.heap.size, 0, none⟩) n (n + many)) l from by
    refine ⟨by simp, .inr ⟨w.heap.size, n + many, _, by rw [HN.out], Nat.le_refl _, HR2.out, by rw [HN.out]; omega, by unfold maxLen; omega, ?_, ?_⟩⟩
    · rw [List.size_toArray, length_splice _ _ _ (by rw [List.length_map, HN.out, HZ.out]; omega), HZ.out, Nat.mul_one]
    · show (splice Z 0 (l.map (Value.int .u8))).take (l.length * 1) = _
      unfold splice
      rw [List.take_zero, List.nil_append, List.take_append_of_le_length (by simp), List.take_of_length_le (by simp)])
  have HB2 := Lib.hid hb2
  have hws := hb2.size
  clear hb2 HR2
  go_wp2_with fail
  go_loopg [7, 8] many (fun kq v7 v8 w' => v8 = .int .i64 ((kq : Int) * 8 - 8) ∧ kq ≤ many ∧ ∃ acc, acc.length + kq ≤ n + many ∧ OwnB w' w.heap.size v7 acc ∧ Below w.heap.size w w' ∧ Hid (acc ++ beL x kq = l ++ beL x many))
  case atStart => exact ⟨by go_num, Nat.le_refl _, l, by rw [HN.out]; omega, HO.out, HB2.out, Lib.hid rfl⟩
  case round =>
    obtain ⟨rfl, hkm, acc, hal, hown, hb, HE⟩ := hrel
    cases gk with
    | zero =>
      have HOW := Lib.hid hown
      have HBB := Lib.hid hb
      have HEE := Lib.hid (show acc = l ++ beL x many by rw [← HE.out]; simp [beL])
      clear hown hb HE
      go_wp2
      go_ret
      exact ⟨_, rfl, by rw [← HEE.out]; exact HOW.out, HBB.out⟩
    | succ k =>
      have HOW := Lib.hid hown
      have HBB := Lib.hid hb
      have hsz := hb.size
      have HEE := Lib.hid (show (acc ++ [((x / 256 ^ k % 256 : Nat) : Int)]) ++ beL x k = l ++ beL x many by rw [← HE.out]; simp [beL])
      have HSH := Lib.hid (be_byte x k)
      clear hown hb HE
      go_wp2_with (at_builtin; refine wpList_app1 EB rfl _ _ rfl w.heap.size _ .u8 acc rfl HOW.out ((x : Int) / 2 ^ ((k + 1) * 8 - 8) % 256) rfl (by omega) (by decide) hsz ?_)
      intro v' w' hown' hbel _
      rw [HSH.out] at hown'
      have HO' := Lib.hid hown'
      have HB' := Lib.hid (hbel _ _ HBB.out (Nat.le_refl _))
      clear hown' hbel
      go_wp2_with fail
      go_roundg k
      case measure => omega
      case rel => exact ⟨by go_num, by omega, acc ++ [((x / 256 ^ k % 256 : Nat) : Int)], by rw [List.length_append, List.length_singleton]; omega, by rw [OwnB, List.length_append, List.map_append]; exact HO'.out, HB'.out, HEE⟩
end Go.Proofs.YtcklcffepedklaaGreat

namespace Go.Proofs.YtcklcffepedklaaGreat
open Go.RowKit

theorem Tryz.infoSec : (Tryz.prog.info? 161).map (fun i => (i.zero, i.size, i.bytes)) = some (some (.agg (List.replicate 128 (Value.int .u8 0)).toArray), 128, 128) := by kernel_rfl
theorem Tryz.infoWr : (Tryz.prog.info? 163).map (fun i => (i.zero, i.size, i.bytes)) = some (some (.agg (Value.int .i64 0 :: List.replicate 128 (Value.int .u8 0)).toArray), 129, 136) := by kernel_rfl
theorem EW : Elem Tryz.prog 93 163 129 136 := by
  obtain ⟨i0, hi, hz0, hz1, hz2⟩ := info_parts Tryz.infoWr
  exact ⟨Tryz.underlying93, ⟨i0, _, hi, hz0, hz1, hz2, rfl⟩, by decide⟩

/-- A disk of S sectors, of bytes B, whose power stays on; at most c operations were done. Its blocks meet F. -/
structure Dk (w : World) (gd S : Nat) (B : List Int) (c : Nat) (F : Nat → Prop) : Prop where
  ex : ∃ gn gs wv dn nw xs, w.heap[gd]? = some (.cells #[.slice (some ⟨gn, 0, none⟩) S S, .slice (some ⟨gs, 0, none⟩) S S, wv, .bool false, .int .i64 (-1), .int .i64 (dn : Nat)] 95 (0, 0)) ∧
    w.heap[gn]? = some (.cells (cellsOf B) 161 (0, 0)) ∧ w.ownsRow 0 163 129 wv nw xs ∧ dn ≤ c ∧ nw ≤ c ∧ gd ≠ gn ∧ wv.ownBlock ≠ some gd ∧ wv.ownBlock ≠ some gn ∧ F gn ∧ (∀ k, wv.ownBlock = some k → F k)
  own : F gd
  len : B.length = 128 * S
  byt : Bytes B
  lim : S ≤ 16384
theorem Dk.kept {w w' : World} {gd S : Nat} {B : List Int} {c : Nat} {F F' R : Nat → Prop} (h : Dk w gd S B c F) (hc : Chg R w w') (h1 : ∀ k, k < w.heap.size → F k → ¬ R k) (h2 : ∀ k, k < w.heap.size → F k → F' k) : Dk w' gd S B c F' := by
  obtain ⟨gn, gs, wv, dn, nw, xs, a1, a2, a3, a4, a5, a6, a7, a8, a9, a10⟩ := h.ex
  have k1 := row_lt a1
  have k2 := row_lt a2
  refine ⟨⟨gn, gs, wv, dn, nw, xs, (hc.block gd k1 (h1 gd k1 h.own)).trans a1, (hc.block gn k2 (h1 gn k2 a9)).trans a2, ?_, a4, a5, a6, a7, a8, h2 gn k2 a9, fun k hk => h2 k (a3.lt k hk).2 (a10 k hk)⟩, h2 gd k1 h.own, h.len, h.byt, h.lim⟩
  obtain ⟨b1, b2⟩ := a3
  refine ⟨b1, ?_⟩
  rcases b2 with b2 | ⟨g, cap, cur, e, b3, b4, b5⟩
  · exact .inl b2
  · have k3 := row_lt b4
    exact .inr ⟨g, cap, cur, e, b3, (hc.block g k3 (h1 g k3 (a10 g (by rw [e]; rfl)))).trans b4, b5⟩
theorem Dk.glt {w : World} {gd S : Nat} {B : List Int} {c : Nat} {F : Nat → Prop} (h : Dk w gd S B c F) : gd < w.heap.size := by obtain ⟨gn, gs, wv, dn, nw, xs, a1, _⟩ := h.ex; exact row_lt a1
theorem Dk.below {w w' : World} {gd S : Nat} {B : List Int} {c : Nat} {F : Nat → Prop} (h : Dk w gd S B c F) (hb : Below w.heap.size w w') : Dk w' gd S B c F := h.kept (R := fun _ => False) (Chg.belowAt hb) (fun _ _ _ h => h) (fun _ _ h => h)

theorem madeCells_rep2 (v : Value) (n m : Nat) (hn : 0 < n) : madeCells (List.replicate n v).toArray m = (List.replicate m v).toArray := by
  apply Array.ext_getElem?
  intro i
  simp only [madeCells, Array.getElem?_map, List.getElem?_toArray, List.getElem?_replicate]
  by_cases h : i < m
  · rw [if_pos h]
    simp [h, Nat.mod_lt _ hn]
  · rw [if_neg h]
    simp [h]
theorem make_sec (S : Nat) (hS : S ≤ 16384) (W : World) : (Instr.makeSlice 92 (.int .i64 (S : Int)) (.int .i64 (S : Int))).run Tryz.prog W = .ok (.slice (some ⟨W.heap.size, 0, none⟩) S S) (W.alloc (.cells (cellsOf (List.replicate (128 * S) 0)) 161)) := by
  obtain ⟨i0, hi, hz0, hz1, hz2⟩ := info_parts Tryz.infoSec
  have := run_make (P := Tryz.prog) (w := W) 92 161 i0 _ Tryz.underlying92 hi hz0 .i64 .i64 (S : Int) (S : Int) (by omega) (Int.le_refl _) (by rw [hz2]; omega) (by omega)
  rw [Int.toNat_natCast, hz1] at this
  rw [this]
  have e : madeCells (Value.cells (.agg (List.replicate 128 (Value.int .u8 0)).toArray)) (S * 128) = cellsOf (List.replicate (128 * S) 0) :=
    (madeCells_rep2 (.int .u8 0) 128 (S * 128) (by decide)).trans (by rw [cellsOf, List.map_replicate, Nat.mul_comm])
  rw [e]

/-- What a disk's New does. -/
def NewDk (S : Nat) (w : World) (e : Ending) (w' : World) : Prop := ∃ gd, e = .returned (.tuple #[.pointer (some ⟨gd, 0, none⟩), .int .i64 0]) ∧ Below w.heap.size w w' ∧ Dk w' gd S (List.replicate (128 * S) 0) 0 (fun k => w.heap.size ≤ k)
theorem NewDk.leaf {w w4 : World} {S gn gs : Nat} (hS : S ≤ 16384) (hb : Below w.heap.size w w4) (hn : w4.heap[gn]? = some (.cells (cellsOf (List.replicate (128 * S) 0)) 161 (0, 0))) (h1 : w.heap.size ≤ gn) :
    Dk (w4.alloc (.cells #[.slice (some ⟨gn, 0, none⟩) S S, .slice (some ⟨gs, 0, none⟩) S S, .slice none 0 0, .bool false, .int .i64 (-1), .int .i64 0] 95)) w4.heap.size S (List.replicate (128 * S) 0) 0 (fun k => w.heap.size ≤ k) := by
  have hl := row_lt hn
  refine ⟨⟨gn, gs, .slice none 0 0, 0, 0, [], heap_alloc_last _ _, (Below.heap_alloc _ _ _ hl).trans hn, World.ownsRow_nil _ _ _ _, Nat.le_refl _, Nat.le_refl _, by omega, by simp [Value.ownBlock], by simp [Value.ownBlock], h1, fun k hk => by simp [Value.ownBlock] at hk⟩, hb.size, by simp, ?_, hS⟩
  intro i
  rw [List.getD_eq_getElem?_getD, List.getElem?_replicate]
  split <;> simp

set_option maxRecDepth 20000 in
set_option maxHeartbeats 800000 in
theorem DNew_any (S : Nat) (w : World) (hS : S ≤ 16384) : Calls Tryz.prog 16 #[.int .i64 S] w (NewDk S w) := by
  have hmk := make_sec S hS
  obtain ⟨Z, hZ⟩ : ∃ Z, Z = cellsOf (List.replicate (128 * S) 0) := ⟨_, rfl⟩
  rw [← hZ] at hmk
  have HZ := Lib.hid hZ
  clear hZ
  have h1 : ¬ (S : Int) < 0 := by omega
  have h2 : ¬ 16384 < (S : Int) := by omega
  go_enter Tryz.func16, Tryz.ntmps16
  go_upto_region 3 with (fail)
  go_region
  · go_wp2
    go_ret2
    have hb : Below w.heap.size w ((w.alloc (.cells Z 161)).alloc (.cells Z 161)) := ((Below.refl _ _).alloc (Nat.le_refl _) _).alloc (by simp) _
    have hn : ((w.alloc (.cells Z 161)).alloc (.cells Z 161)).heap[w.heap.size]? = some (.cells (cellsOf (List.replicate (128 * S) 0)) 161 (0, 0)) := by
      rw [Below.heap_alloc _ _ _ (by simp), ← HZ.out]; exact heap_alloc_last _ _
    have hL := NewDk.leaf (gs := w.heap.size + 1) hS hb hn (Nat.le_refl _)
    simp only [World.size_alloc] at hL
    exact ⟨_, rfl, (hb.alloc (by simp; omega) _).drew, hL.below (Below.refl _ _).drew⟩
  · go_wp2
    go_ret2
    have hb : Below w.heap.size w ((w.alloc (.cells Z 161)).alloc (.cells Z 161)) := ((Below.refl _ _).alloc (Nat.le_refl _) _).alloc (by simp) _
    have hn : ((w.alloc (.cells Z 161)).alloc (.cells Z 161)).heap[w.heap.size + 1]? = some (.cells (cellsOf (List.replicate (128 * S) 0)) 161 (0, 0)) := by
      rw [← HZ.out]; have := heap_alloc_last (w.alloc (.cells Z 161)) (.cells Z 161); rwa [World.size_alloc] at this
    have hL := NewDk.leaf (gs := w.heap.size) hS hb hn (by omega)
    simp only [World.size_alloc] at hL
    exact ⟨_, rfl, (hb.alloc (by simp; omega) _).drew, hL.below (Below.refl _ _).drew⟩

section
variable {w : World} {gd S c : Nat} {B : List Int} {F : Nat → Prop}
theorem DSize_any (h : Dk w gd S B c F) : Calls Tryz.prog 29 #[.pointer (some ⟨gd, 0, none⟩)] w fun e w' => e = .returned (.int .i64 S) ∧ w = w' := by
  obtain ⟨gn, gs, wv, dn, nw, xs, a1, _⟩ := h.ex
  have c0 : w.cell? ⟨gd, 0, none⟩ = some (.slice (some ⟨gn, 0, none⟩) S S) := by rw [cell_of_row _ _ _ _ _ _ a1]; rfl
  clear h a1
  go_enter Tryz.func29, Tryz.ntmps29
  go_wp2
  go_ret
  exact ⟨rfl, rfl⟩
theorem powered_any (h : Dk w gd S B c F) (hc : c < 1000000000) : Calls Tryz.prog 72 #[.pointer (some ⟨gd, 0, none⟩)] w fun e w' => e = .returned (.int .i64 0) ∧ w.grownBy w' (some gd) ∧ Dk w' gd S B (c + 1) F ∧ w'.heap.size = w.heap.size := by
  obtain ⟨gn, gs, wv, dn, nw, xs, a1, a2, a3, a4, a5, a6, a7, a8, a9, a10⟩ := h.ex
  have c3 : w.cell? ⟨gd, 3, none⟩ = some (.bool false) := by rw [cell_of_row _ _ _ _ _ _ a1]; rfl
  have c4 : w.cell? ⟨gd, 4, none⟩ = some (.int .i64 (-1)) := by rw [cell_of_row _ _ _ _ _ _ a1]; rfl
  have c5 : w.cell? ⟨gd, 5, none⟩ = some (.int .i64 (dn : Nat)) := by rw [cell_of_row _ _ _ _ _ _ a1]; rfl
  have f5 := free_row a1 5
  have HG := Lib.hid (grown_setCell w gd 5 (.int .i64 ((dn : Int) + 1)))
  have HD := Lib.hid (show Dk (w.setCell ⟨gd, 5, none⟩ (.int .i64 ((dn : Int) + 1))) gd S B (c + 1) F from by
    have hg := grown_setCell w gd 5 (.int .i64 ((dn : Int) + 1))
    refine ⟨⟨gn, gs, wv, dn + 1, nw, xs, ?_, (hg.block gn (row_lt a2) (fun e => by injection e with e; exact a6 e.symm)).trans a2, World.ownsRow.kept a3 hg (.inr a7), by omega, by omega, a6, a7, a8, a9, a10⟩, h.own, h.len, h.byt, h.lim⟩
    rw [setCell_row a1]; rfl)
  have hdn : (dn : Int) ≤ 1000000000 := by omega
  clear h a1 a2 a3 a4 a5 a6 a7 a8 a9 a10 hc
  go_enter Tryz.func72, Tryz.ntmps72
  go_wp2
  go_ret
  exact ⟨rfl, HG.out, HD.out, by simp [World.setCell]⟩
end
end Go.Proofs.YtcklcffepedklaaGreat

namespace Go.Proofs.YtcklcffepedklaaGreat
open Go.RowKit

theorem or_byte64 (a x : Nat) (ha : a < 72057594037927936) (hx : x < 256) : Go.bits BinOp.or IntKind.u64 ((a : Int) * 256) (x : Int) = ((a * 256 + x : Nat) : Int) := by
  have h := Nat.two_pow_add_eq_or_of_lt (i := 8) (b := x) (by omega) a
  have hlt : a * 256 ||| x < 2 ^ 64 := Nat.or_lt_two_pow (by omega) (by omega)
  have ofN : ∀ z : Nat, z < 18446744073709551616 → (BitVec.ofInt 64 (z : Int)).toNat = z := fun z hz => by
    rw [BitVec.ofInt_natCast, BitVec.toNat_ofNat]; exact Nat.mod_eq_of_lt (by omega)
  have e : 2 ^ 8 * a = a * 256 := by rw [Nat.mul_comm]
  rw [e] at h
  show IntKind.u64.wrap ((BitVec.ofInt 64 ((a : Int) * 256) ||| BitVec.ofInt 64 (x : Int)).toNat : Int) = _
  rw [BitVec.toNat_or, show ((a : Int) * 256) = ((a * 256 : Nat) : Int) from by omega, ofN _ (by omega), ofN _ (by omega), ← h, IntKind.wrap_u64]
  omega
/-- Bytes as a natural number. -/
theorem foldl_nat : ∀ (l : List Int), Bytes l → ∀ z : Nat, ∃ y : Nat, l.foldl (fun n c => n * 256 + c) (z : Int) = y ∧ y < (z + 1) * 256 ^ l.length
  | [], _, z => ⟨z, rfl, by simp⟩
  | c :: l, h, z => by
    have hc := h 0
    simp only [List.getD_cons_zero] at hc
    have hl : Bytes l := fun i => by have := h (i + 1); simpa using this
    obtain ⟨y, h1, h2⟩ := foldl_nat l hl (z * 256 + c.toNat)
    refine ⟨y, ?_, ?_⟩
    · rw [List.foldl_cons, ← h1]
      congr 1
      omega
    · refine Nat.lt_of_lt_of_le h2 ?_
      rw [List.length_cons, Nat.pow_succ, Nat.mul_comm (256 ^ l.length) 256, ← Nat.mul_assoc]
      exact Nat.mul_le_mul_right _ (by omega)
theorem numL_nat (l : List Int) (h : Bytes l) : ∃ z : Nat, numL l = z ∧ z < 256 ^ l.length := by
  obtain ⟨y, h1, h2⟩ := foldl_nat l h 0
  exact ⟨y, h1, by simpa using h2⟩

set_option maxRecDepth 20000 in
theorem number_any (A : Option Addr) (n c : Nat) (l : List Int) (w : World) (hn : l.length = n) (hl : n ≤ 8) (hI : Ints .u8 w A l) (hB : Bytes l) :
    Calls Tryz.prog 138 #[.slice A n c] w fun e w' => e = .returned (.int .u64 (numL l)) ∧ w = w' := by
  have HN := Lib.hid hn
  have HI := Lib.hid hI
  have HB := Lib.hid hB
  clear hn hI hB
  go_enter Tryz.func138, Tryz.ntmps138
  go_wp2_with fail
  go_loopg [3, 8] n (fun kq v3 v8 w' => ∃ i z : Nat, v8 = .int .i64 (i : Int) ∧ i + kq = n ∧ v3 = .int .u64 (z : Int) ∧ Hid (numL (l.take i) = z) ∧ z < 256 ^ i ∧ w = w')
  case atStart => exact ⟨0, 0, rfl, by omega, rfl, Lib.hid rfl, by decide, rfl⟩
  case round =>
    obtain ⟨i, z, rfl, hi, rfl, HZ, hz, rfl⟩ := hrel
    by_cases hlt : i < n
    · obtain ⟨ad, rfl, hc⟩ := HI.out i (by rw [HN.out]; exact hlt)
      have hb := HB.out i
      obtain ⟨x, hx⟩ : ∃ x : Nat, l.getD i 0 = x := ⟨(l.getD i 0).toNat, by omega⟩
      have hz8 : z < 72057594037927936 := Nat.lt_of_lt_of_le hz (show 256 ^ i ≤ 256 ^ 7 from Nat.pow_le_pow_right (by decide) (by omega))
      rw [hx] at hc hb
      have HO := Lib.hid (or_byte64 z x hz8 (by omega))
      have HZ' := Lib.hid (show numL (l.take (i + 1)) = ((z * 256 + x : Nat) : Int) by rw [take_getD l i (by rw [HN.out]; exact hlt), numL_snoc, HZ.out, hx]; omega)
      have HLT := Lib.hid (show z * 256 + x < 256 ^ (i + 1) by rw [Nat.pow_succ]; omega)
      have i1 : (i : Int) < (n : Int) := by omega
      have hx2 : x < 256 := by omega
      clear hb hx hz hlt
      go_wp2_with fail
      go_roundg (n - (i + 1))
      case measure => omega
      case rel => exact ⟨i + 1, z * 256 + x, by go_num, by omega, by rw [HO.out], HZ', HLT.out, rfl⟩
    · have hin : i = n := by omega
      subst hin
      have HE := Lib.hid (show (z : Int) = numL l by rw [← HZ.out, List.take_of_length_le (by rw [HN.out]; exact Nat.le_refl _)])
      clear hlt
      go_wp2_with fail
      go_ret
      exact ⟨by rw [HE.out]; rfl, rfl⟩

/-- A reader at block r of the bytes l. -/
structure Rd (w : World) (r : Nat) (l : List Int) : Prop where
  ex : ∃ A c, w.heap[r]? = some (.cells #[.slice A l.length c, .int .i64 0] 228 (0, 0)) ∧ Ints .u8 w A l ∧ l.length ≤ c ∧ (∀ ad, A = some ad → ad.block < r)
  byt : Bytes l
theorem Rd.lt {w : World} {r : Nat} {l : List Int} (h : Rd w r l) : r < w.heap.size := by obtain ⟨A, c, h1, _⟩ := h.ex; exact row_lt h1
theorem Rd.below {w w' : World} {r : Nat} {l : List Int} (h : Rd w r l) (hb : Below w.heap.size w w') : Rd w' r l := by
  obtain ⟨A, c, h1, h2, h3, h4⟩ := h.ex
  exact ⟨⟨A, c, (hb.block r (row_lt h1)).trans h1, h2.below hb, h3, h4⟩, h.byt⟩

set_option maxRecDepth 20000 in
theorem RNew_any (A : Option Addr) (n c : Nat) (l : List Int) (w : World) (hn : l.length = n) (hl : n ≤ 500000000000) (hI : Ints .u8 w A l) (hB : Bytes l) (hA : A = none → n = 0 ∧ c = 0) :
    Calls Tryz.prog 107 #[.slice A n c] w fun e w' => ∃ r, e = .returned (.pointer (some ⟨r, 0, none⟩)) ∧ w.heap.size ≤ r ∧ Rd w' r l ∧ Below w.heap.size w w' := by
  have HN := Lib.hid hn
  have HI := Lib.hid hI
  have HB := Lib.hid hB
  have HL := Lib.hid (show (l.map (Value.int .u8)).length = n * 1 by rw [List.length_map, hn, Nat.mul_one])
  clear hn hI hB
  go_enter Tryz.func107, Tryz.ntmps107
  go_wp2_with (at_builtin; refine wpList_app EB rfl _ _ rfl w.heap.size (.slice none 0 0) 0 [] rfl (World.ownsRow_nil _ _ _ _) A n c (l.map (Value.int .u8)) rfl hA HL.out HI.out.news (ints_one _ _) ?c1 ?c2 (Nat.le_refl _) ?_)
  case c1 => unfold maxLen; omega
  case c2 => omega
  intro v1 w1 hown hgrow _
  have HO := Lib.hid (show OwnB w1 w.heap.size v1 l from by rw [OwnB, HN.out]; simpa using hown)
  have HW := Lib.hid (show Below w.heap.size w w1 from (Below.refl _ _).grown hgrow (Nat.le_refl _) (fun k hk => by cases hk))
  clear hown hgrow
  obtain ⟨A', c', hv, hcc, hI', hA'⟩ := HO.out.ints
  have HI' := Lib.hid hI'
  have HA' := Lib.hid hA'
  clear HO hI' hA'
  subst hv
  go_wp2
  go_ret
  have hs := HW.out.size
  refine ⟨w1.heap.size, rfl, hs, ⟨⟨A', c', ?_, HI'.out.grown (grown_alloc _ _ none) (fun _ _ _ h => by cases h), hcc, fun ad e => (HA'.out ad e).2⟩, HB.out⟩, HW.out.alloc hs _⟩
  exact heap_alloc_last _ _

theorem ready_any (r : Nat) (l : List Int) (w : World) (h : Rd w r l) : Calls Tryz.prog 137 #[.pointer (some ⟨r, 0, none⟩)] w fun e w' => e = .returned (.bool true) ∧ w = w' := by
  obtain ⟨A, c, h1, _⟩ := h.ex
  have c1 : w.cell? ⟨r, 1, none⟩ = some (.int .i64 0) := by rw [cell_of_row _ _ _ _ _ _ h1]; rfl
  clear h h1
  go_enter Tryz.func137, Tryz.ntmps137
  go_wp2
  go_ret
  exact ⟨rfl, rfl⟩

set_option maxRecDepth 20000 in
theorem Get_any (r : Nat) (l : List Int) (many : Nat) (w : World) (h : Rd w r l) (hm0 : 0 < many) (hm : many ≤ 8) (hl : many ≤ l.length) :
    Calls Tryz.prog 108 #[.pointer (some ⟨r, 0, none⟩), .int .i64 many] w fun e w' => e = .returned (.int .u64 (numL (l.take many))) ∧ w.grownBy w' (some r) ∧ Rd w' r (l.drop many) := by
  obtain ⟨A, c, h1, h2, h3, h4⟩ := h.ex
  obtain ⟨ad, rfl, _⟩ := h2 0 (by omega)
  have c0 : w.cell? ⟨r, 0, none⟩ = some (.slice (some ad) l.length c) := by rw [cell_of_row _ _ _ _ _ _ h1]; rfl
  have c1 : w.cell? ⟨r, 1, none⟩ = some (.int .i64 0) := by rw [cell_of_row _ _ _ _ _ _ h1]; rfl
  have f0 := free_row h1 0
  have HRY := Lib.hid (ready_any r l w h)
  have HNM := Lib.hid (number_any (some ad) many c (l.take many) w (by rw [List.length_take]; omega) hm (h2.take _) (h.byt.take _))
  have hgrow := grown_setCell w r 0
  have hrow := fun v => setCell_row h1 0 v
  have HD := Lib.hid (fun (A' : Option Addr) (c' : Nat) (hA : l.length - many = 0 ∨ A' = some (ad.add many)) (hc : l.length - many ≤ c') (hb : ∀ b, A' = some b → b.block < r) => (show Rd (w.setCell ⟨r, 0, none⟩ (.slice A' (l.length - many) c')) r (l.drop many) from by
    refine ⟨⟨A', c', ?_, ?_, by rw [List.length_drop]; exact hc, hb⟩, h.byt.drop _⟩
    · rw [hrow, List.length_drop]; rfl
    · rcases hA with hA | rfl
      · rw [List.drop_of_length_le (by omega)]; exact Ints.nil _ _ _
      · exact (h2.drop many).grown (hgrow _) (fun b e _ h => by have := hb b e; injection h with h; omega)))
  have hab : ad.block < r := h4 ad rfl
  clear h h2 hrow
  go_enter Tryz.func108, Tryz.ntmps108
  go_wp2_with (first | (go_at_call 137; refine HRY.out.mono ?_; rintro e w' ⟨rfl, rfl⟩) | (go_at_call 138; refine HNM.out.mono ?_; rintro e w' ⟨rfl, rfl⟩))
  · go_ret
    exact ⟨rfl, hgrow _, HD.out _ _ (.inl (by omega)) (by omega) (fun b e => by injection e with e; subst e; exact hab)⟩
  · go_ret
    exact ⟨rfl, hgrow _, HD.out _ _ (.inr rfl) (by omega) (fun b e => by injection e with e; subst e; rw [add_block]; exact hab)⟩

end Go.Proofs.YtcklcffepedklaaGreat
