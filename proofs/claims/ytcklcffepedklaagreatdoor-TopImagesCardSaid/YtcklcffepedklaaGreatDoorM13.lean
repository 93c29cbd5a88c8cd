/- Texts of the proof, one behind the other: Maps: a block of entries, read as a list of keys and values. -/
import Derived.Test.YtcklcffepedklaaGreatDoorM04
import Derived.Maps.OwnOps
import Derived.Maps.OwnSet
import Derived.Maps.RangeWalk
import Derived.DeepKeys4
namespace Go.Proofs.YtcklcffepedklaaGreatDoor
open Go.RowKit Go.Maps
open Go.ChangeMaps (setBlock)

section
variable {α β : Type} [DecidableEq α]
/-- What stands at a key. -/
def lkp : List (α × β) → α → Option β
  | [], _ => none
  | (k, v) :: L, a => if k = a then some v else lkp L a
theorem lkp_none : ∀ {L : List (α × β)} {a : α}, (∀ x ∈ L, x.1 ≠ a) → lkp L a = none
  | [], _, _ => rfl
  | (k, v) :: L, a, h => by
    rw [lkp, if_neg (h (k, v) List.mem_cons_self)]
    exact lkp_none (fun x hx => h x (List.mem_cons_of_mem _ hx))
theorem lkp_some_mem : ∀ {L : List (α × β)} {a : α} {v : β}, lkp L a = some v → (a, v) ∈ L
  | [], _, _, h => by cases h
  | (k, v') :: L, a, v, h => by
    rw [lkp] at h
    split at h
    · rename_i e; subst e; cases h; exact List.mem_cons_self
    · exact List.mem_cons_of_mem _ (lkp_some_mem h)
theorem lkp_none_mem {L : List (α × β)} {a : α} (h : lkp L a = none) : ∀ x ∈ L, x.1 ≠ a := by
  induction L with
  | nil => intro x hx; cases hx
  | cons y L ih =>
    obtain ⟨k, v⟩ := y
    rw [lkp] at h
    split at h
    · cases h
    · rename_i e
      intro x hx
      rcases List.mem_cons.1 hx with rfl | hx
      · exact e
      · exact ih h x hx
theorem lkp_of_mem : ∀ {L : List (α × β)} {a : α} {v : β}, (L.map (·.1)).Nodup → (a, v) ∈ L → lkp L a = some v
  | [], _, _, _, h => by cases h
  | (k, v') :: L, a, v, hn, h => by
    rw [List.map_cons, List.nodup_cons] at hn
    rw [lkp]
    rcases List.mem_cons.1 h with h | h
    · cases h; rw [if_pos rfl]
    · rw [if_neg (fun e => hn.1 (by show k ∈ _; rw [e]; exact List.mem_map_of_mem (f := (·.1)) h)), lkp_of_mem hn.2 h]
/-- A key's value is laid. -/
def upd (L : List (α × β)) (a : α) (v : β) : List (α × β) := match lkp L a with
  | none => L ++ [(a, v)]
  | some _ => L.map fun x => if x.1 = a then (a, v) else x
theorem upd_new {L : List (α × β)} {a : α} (h : lkp L a = none) (v : β) : upd L a v = L ++ [(a, v)] := by unfold upd; rw [h]
theorem upd_old {L : List (α × β)} {a : α} {u : β} (h : lkp L a = some u) (v : β) : upd L a v = L.map fun x => if x.1 = a then (a, v) else x := by unfold upd; rw [h]
theorem lkp_append (L M : List (α × β)) (a : α) : lkp (L ++ M) a = (lkp L a).or (lkp M a) := by
  induction L with
  | nil => rfl
  | cons y L ih =>
    obtain ⟨k, v⟩ := y
    rw [List.cons_append, lkp, lkp]
    split <;> simp [ih]
theorem lkp_map_other (L : List (α × β)) (a b : α) (v : β) (h : a ≠ b) : lkp (L.map fun x => if x.1 = a then (a, v) else x) b = lkp L b := by
  induction L with
  | nil => rfl
  | cons y L ih =>
    obtain ⟨k, u⟩ := y
    rw [List.map_cons, lkp]
    by_cases e : k = a
    · simp only [e, if_true]
      rw [lkp, if_neg h, ih]
      simp [h]
    · simp only [e, if_false]
      rw [lkp, ih]
theorem lkp_map_same (L : List (α × β)) (a : α) (u v : β) (h : lkp L a = some u) : lkp (L.map fun x => if x.1 = a then (a, v) else x) a = some v := by
  induction L with
  | nil => cases h
  | cons y L ih =>
    obtain ⟨k, u'⟩ := y
    rw [lkp] at h
    rw [List.map_cons]
    by_cases e : k = a
    · simp only [e, if_true]
      rw [lkp, if_pos rfl]
    · simp only [e, if_false] at h ⊢
      rw [lkp, if_neg e, ih h]
theorem lkp_upd_same (L : List (α × β)) (a : α) (v : β) : lkp (upd L a v) a = some v := by
  cases h : lkp L a with
  | none => rw [upd_new h, lkp_append, h]; simp [lkp]
  | some u => rw [upd_old h]; exact lkp_map_same L a u v h
theorem lkp_upd_other (L : List (α × β)) (a b : α) (v : β) (h : a ≠ b) : lkp (upd L a v) b = lkp L b := by
  cases hl : lkp L a with
  | none => rw [upd_new hl, lkp_append]; simp [lkp, h]
  | some u => rw [upd_old hl]; exact lkp_map_other L a b v h
theorem map_keys_same (L : List (α × β)) (a : α) (v : β) : (L.map fun x => if x.1 = a then (a, v) else x).map (·.1) = L.map (·.1) := by
  rw [List.map_map]
  apply List.map_congr_left
  intro x _
  simp only [Function.comp]
  split
  · rename_i e; exact e.symm
  · rfl
theorem upd_nodup {L : List (α × β)} (h : (L.map (·.1)).Nodup) (a : α) (v : β) : ((upd L a v).map (·.1)).Nodup := by
  cases hl : lkp L a with
  | none =>
    rw [upd_new hl, List.map_append]
    have := lkp_none_mem hl
    rw [List.nodup_append]
    refine ⟨h, by simp, ?_⟩
    intro x hx y hy
    obtain ⟨z, hz, rfl⟩ := List.mem_map.1 hx
    simp only [List.map_cons, List.map_nil, List.mem_singleton] at hy
    subst hy
    exact this z hz
  | some u => rw [upd_old hl, map_keys_same]; exact h
theorem upd_mem {L : List (α × β)} {a : α} {v : β} {x : α × β} (h : x ∈ upd L a v) : x = (a, v) ∨ x ∈ L := by
  cases hl : lkp L a with
  | none =>
    rw [upd_new hl] at h
    rcases List.mem_append.1 h with h | h
    · exact .inr h
    · exact .inl (by simpa using h)
  | some u =>
    rw [upd_old hl] at h
    obtain ⟨y, hy, e⟩ := List.mem_map.1 h
    split at e
    · exact .inl e.symm
    · exact .inr (e ▸ hy)
end

/-- What the laws on a map ask of its keys' type. -/
structure KeyOk {α : Type} (P : Program) (kt : TypeId) (enc : α → Value) (V : α → Prop) : Prop where
  keyed : Keyed P kt
  reads : ∀ a, V a → ∃ l, keyOf P kt (enc a) = some l
  inj : ∀ a b, V a → V b → enc a = enc b → a = b

/-- The map at block m has the keys and values L. -/
structure MapAt {α : Type} (enc : α → Value) (V : α → Prop) (w : World) (m : Nat) (L : List (α × Value)) : Prop where
  ex : ∃ es clock, w.heap[m]? = some (.map es clock) ∧ es.toList.map (fun e => (e.key, e.val)) = L.map (fun x => (enc x.1, x.2)) ∧ (∀ e ∈ es.toList, e.born < clock) ∧ (es.toList.map (·.born)).Nodup
  nodup : (L.map (·.1)).Nodup
  val : ∀ x ∈ L, V x.1
section
variable {α : Type} [DecidableEq α] {P : Program} {kt mt et : TypeId} {enc : α → Value} {V : α → Prop} {w : World} {m : Nat} {L : List (α × Value)}
omit [DecidableEq α] in
theorem MapAt.lt (h : MapAt enc V w m L) : m < w.heap.size := by obtain ⟨es, c, h1, _⟩ := h.ex; exact row_lt h1
omit [DecidableEq α] in
theorem MapAt.of_block {w' : World} (h : MapAt enc V w m L) (hb : w'.heap[m]? = w.heap[m]?) : MapAt enc V w' m L := by
  obtain ⟨es, c, h1, h2⟩ := h.ex
  exact ⟨⟨es, c, hb.trans h1, h2⟩, h.nodup, h.val⟩
omit [DecidableEq α] in
theorem MapAt.below {w' : World} (h : MapAt enc V w m L) (hb : Below w.heap.size w w') : MapAt enc V w' m L := h.of_block (hb.block m h.lt)
omit [DecidableEq α] in
theorem MapAt.chg {w' : World} {R : Nat → Prop} (h : MapAt enc V w m L) (hc : Chg R w w') (hr : ¬ R m) : MapAt enc V w' m L := h.of_block (hc.block m h.lt hr)
omit [DecidableEq α] in
theorem MapAt.made (w : World) : MapAt enc V (w.alloc (.map #[] 0)) w.heap.size ([] : List (α × Value)) :=
  ⟨⟨#[], 0, heap_alloc_last _ _, rfl, (fun e h => by simp at h), by simp⟩, by simp, (fun x h => by simp at h)⟩

/-- What the search for a key tells. -/
theorem find_key (K : KeyOk P kt enc V) (hL : ∀ x ∈ L, V x.1) (hn : (L.map (·.1)).Nodup) {es : List MapEntry} (he : es.map (fun e => (e.key, e.val)) = L.map (fun x => (enc x.1, x.2))) (a : α) (ha : V a) :
    ((Instr.findKey kt (enc a) es).run P w = .ok none w ∧ lkp L a = none) ∨ ∃ j v e, (Instr.findKey kt (enc a) es).run P w = .ok (some (j, v)) w ∧ lkp L a = some v ∧ es[j]? = some e ∧ e.key = enc a ∧ L[j]? = some (a, v) := by
  obtain ⟨la, hla⟩ := K.reads a ha
  have hel : es.length = L.length := by have := congrArg List.length he; simpa using this
  have hat : ∀ (j : Nat) (e : MapEntry), es[j]? = some e → ∃ x : α × Value, L[j]? = some x ∧ e.key = enc x.1 ∧ e.val = x.2 := by
    intro j e hj
    have h1 := congrArg (·[j]?) he
    simp only [List.getElem?_map, hj, Option.map_some] at h1
    cases hx : L[j]? with
    | none => rw [hx] at h1; cases h1
    | some x =>
      rw [hx] at h1
      simp only [Option.map_some, Option.some.injEq, Prod.mk.injEq] at h1
      exact ⟨x, rfl, h1.1, h1.2⟩
  have hall : ∀ e ∈ es, ∃ l, keyOf P kt e.key = some l := by
    intro e hm
    obtain ⟨j, hj⟩ := List.mem_iff_getElem?.1 hm
    obtain ⟨x, hx, hk, _⟩ := hat j e hj
    rw [hk]; exact K.reads _ (hL x (List.mem_of_getElem? hx))
  rcases K.keyed.find w hla es hall with ⟨h1, h2⟩ | ⟨j, e, h1, h2, h3⟩
  · left
    refine ⟨h1, lkp_none fun x hx hxa => ?_⟩
    obtain ⟨j, hj⟩ := List.mem_iff_getElem?.1 hx
    have hjl : j < es.length := by
      rw [hel]
      rcases Nat.lt_or_ge j L.length with h | h
      · exact h
      · rw [List.getElem?_eq_none h] at hj; cases hj
    obtain ⟨x', hx', hk, _⟩ := hat j es[j] (List.getElem?_eq_getElem hjl)
    rw [hj] at hx'; cases hx'
    exact h2 _ (List.getElem_mem hjl) (by rw [hk, hxa])
  · right
    obtain ⟨x, hx, hk, hv⟩ := hat j e h2
    have hxm := List.mem_of_getElem? hx
    have : x.1 = a := K.inj _ _ (hL x hxm) ha (hk.symm.trans h3)
    obtain ⟨k, v⟩ := x
    subst this
    simp only at hv
    refine ⟨j, v, e, by rw [h1, hv], lkp_of_mem hn hxm, h2, h3, hx⟩

theorem run_lkp (K : KeyOk P kt enc V) (ht : P.underlying mt = some (.map kt et)) (h : MapAt enc V w m L) (a : α) (ha : V a) (z : Value) (hz : (zeroValue et).run P w = .ok z w) (ok : Bool) :
    (Instr.lookup mt (.map (some m)) (enc a) ok).run P w = .ok (if ok then .tuple #[(lkp L a).getD z, .bool (lkp L a).isSome] else (lkp L a).getD z) w := by
  obtain ⟨es, c, h1, h2, _⟩ := h.ex
  obtain ⟨la, hla⟩ := K.reads a ha
  simp only [Instr.lookup, Sem.run_bind, run_underlying ht, Result.andThen_ok, Go.MapKept.run_getObj_map h1, Sem.run_pure, K.keyed.check w es.isEmpty hla]
  rcases find_key (w := w) K h.val h.nodup h2 a ha with ⟨h3, h4⟩ | ⟨j, v, e, h3, h4, _⟩
  · rw [h3]
    simp only [Result.andThen_ok, Sem.run_bind, hz, Sem.run_pure, h4]
    cases ok <;> rfl
  · rw [h3]
    simp only [Result.andThen_ok, Sem.run_pure, h4]
    cases ok <;> rfl
omit [DecidableEq α] in
theorem setBlock_grown (w : World) (m : Nat) (o : Obj) : w.grownBy (setBlock w m o) (some m) :=
  ⟨rfl, rfl, rfl, by simp [setBlock], fun k _ hk => by
    simp only [setBlock]
    rw [Array.getElem?_setIfInBounds, if_neg (fun e => hk (by rw [e]))]⟩
omit [DecidableEq α] in
theorem setBlock_at {w : World} {m : Nat} (o : Obj) (h : m < w.heap.size) : (setBlock w m o).heap[m]? = some o := by
  simp only [setBlock]
  rw [Array.getElem?_setIfInBounds, if_pos rfl, if_pos h]

theorem run_upd (K : KeyOk P kt enc V) (ht : P.underlying mt = some (.map kt et)) (h : MapAt enc V w m L) (a : α) (ha : V a) (v : Value) :
    ∃ w', (Instr.mapUpdate mt (.map (some m)) (enc a) v).run P w = .ok () w' ∧ w.grownBy w' (some m) ∧ MapAt enc V w' m (upd L a v) ∧ w'.heap.size = w.heap.size := by
  obtain ⟨es, c, h1, h2, h5, h6⟩ := h.ex
  obtain ⟨la, hla⟩ := K.reads a ha
  have hV : ∀ x ∈ upd L a v, V x.1 := fun x hx => by
    rcases upd_mem hx with rfl | hx
    · exact ha
    · exact h.val x hx
  simp only [Instr.mapUpdate, Sem.run_bind, run_underlying ht, Result.andThen_ok, Go.MapKept.run_getObj_map h1, K.keyed.check w false hla]
  rcases find_key (w := w) K h.val h.nodup h2 a ha with ⟨h3, h4⟩ | ⟨j, u, e, h3, h4, h7, h8, h9⟩
  · rw [h3]
    simp only [Result.andThen_ok]
    refine ⟨_, Go.MapKept.run_setObj_map _ h1, setBlock_grown w m _, ⟨⟨_, _, setBlock_at _ (row_lt h1), ?_, ?_, ?_⟩, upd_nodup h.nodup a v, hV⟩, by simp⟩
    · rw [upd_new h4, Array.toList_push, List.map_append, List.map_append, h2]; rfl
    · intro e he
      rw [Array.toList_push] at he
      rcases List.mem_append.1 he with he | he
      · have := h5 e he; omega
      · simp at he; subst he; simp
    · rw [Array.toList_push, List.map_append, List.nodup_append]
      refine ⟨h6, by simp, ?_⟩
      intro x hx y hy
      obtain ⟨z, hz, rfl⟩ := List.mem_map.1 hx
      simp only [List.map_cons, List.map_nil, List.mem_singleton] at hy
      subst hy
      have := h5 z hz; omega
  · have hej : es[j]? = some e := by rw [← Array.getElem?_toList]; exact h7
    have hks : (Instr.keyThatStays (((es[j]?).map (·.key)).getD (enc a)) (enc a)).run P w = .ok (enc a) w := by
      rw [hej]; simp only [Option.map_some, Option.getD_some, h8]; exact K.keyed.stays w hla
    rw [h3]
    simp only [Result.andThen_ok, Sem.run_bind, hks]
    have hjl : j < es.toList.length := by
      rcases Nat.lt_or_ge j es.toList.length with h | h
      · exact h
      · rw [List.getElem?_eq_none h] at h7; cases h7
    refine ⟨_, Go.MapKept.run_setObj_map _ h1, setBlock_grown w m _, ⟨⟨_, _, setBlock_at _ (row_lt h1), ?_, ?_, ?_⟩, upd_nodup h.nodup a v, hV⟩, by simp⟩
    · rw [upd_old h4]
      apply List.ext_getElem?
      intro i
      have hi := congrArg (·[i]?) h2
      simp only [List.getElem?_map] at hi
      simp only [List.getElem?_map, Array.getElem?_toList, Array.getElem?_modify] at hi ⊢
      by_cases e1 : j = i
      · subst e1
        rw [if_pos rfl, hej, h9]
        simp
      · rw [if_neg e1, hi]
        cases hx : L[i]? with
        | none => rfl
        | some x =>
          simp only [Option.map_some]
          have hne : x.1 ≠ a := by
            intro hxa
            have hnd := h.nodup
            have hi1 : (L.map (·.1))[i]? = some a := by rw [List.getElem?_map, hx]; simp [hxa]
            have hj1 : (L.map (·.1))[j]? = some a := by rw [List.getElem?_map, h9]; simp
            exact e1 ((List.getElem?_inj (by rcases Nat.lt_or_ge j (L.map (·.1)).length with h | h; exact h; rw [List.getElem?_eq_none h] at hj1; cases hj1) hnd).1 (hj1.trans hi1.symm))
          rw [if_neg hne]
    · intro x hx
      obtain ⟨i, hi⟩ := List.mem_iff_getElem?.1 hx
      rw [Array.getElem?_toList, Array.getElem?_modify] at hi
      split at hi
      · rw [← ‹j = i›, hej] at hi
        simp at hi; subst hi
        exact h5 e (List.mem_of_getElem? h7)
      · exact h5 x (List.mem_of_getElem? (by rw [Array.getElem?_toList]; exact hi))
    · have : (es.modify j fun e => { e with key := enc a, val := v }).toList.map (·.born) = es.toList.map (·.born) := by
        apply List.ext_getElem?
        intro i
        simp only [List.getElem?_map, Array.getElem?_toList, Array.getElem?_modify]
        split
        · rename_i e1; subst e1; rw [hej]; rfl
        · rfl
      rw [this]; exact h6
end

theorem run_make_hint {P : Program} {mt k e : TypeId} (ht : P.underlying mt = some (.map k e)) (q : IntKind) (z : Int) (W : World) : (Instr.makeMap mt (some (.int q z))).run P W = .ok (.map (some W.heap.size)) (W.alloc (.map #[] 0)) := by
  simp [Instr.makeMap, run_underlying ht, asInt, asIntOf]

theorem wpList_lkp {P : Program} {ops : Array Oper} {rest : List Oper} {o : Oper} {a : Act} {w : World} {Q : Exit → Act → World → Prop} (hg : o.guard = none) (t : TypeId) (x k : Operand) (ok : Bool) (ho : o.op = .lookup t x k ok) (mv kv v : Value) (hx : a.eval x = mv) (hk : a.eval k = kv)
    (hr : (Instr.lookup t mv kv ok).run P w = .ok v w) (h : wpList P ops Q rest (a.put o.dst v) w) : wpList P ops Q (o :: rest) a w := by
  refine wpList_plain hg fun K hK => ?_
  unfold Oper.wp execOp
  simp only [ho, hx, hk, Sem.run_bind, hr, Result.andThen_ok, Sem.run_pure]
  exact hK _ _ h
theorem wpList_upd {P : Program} {ops : Array Oper} {rest : List Oper} {o : Oper} {a : Act} {w w' : World} {Q : Exit → Act → World → Prop} (hg : o.guard = none) (t : TypeId) (x k y : Operand) (ho : o.op = .mapUpdate t x k y) (mv kv v : Value) (hx : a.eval x = mv) (hk : a.eval k = kv) (hy : a.eval y = v)
    (hr : (Instr.mapUpdate t mv kv v).run P w = .ok () w') (h : wpList P ops Q rest (a.put o.dst undef) w') : wpList P ops Q (o :: rest) a w := by
  refine wpList_plain hg fun K hK => ?_
  unfold Oper.wp execOp
  simp only [ho, hx, hk, hy, Sem.run_bind, hr, Result.andThen_ok, Sem.run_pure]
  exact hK _ _ h

end Go.Proofs.YtcklcffepedklaaGreatDoor
