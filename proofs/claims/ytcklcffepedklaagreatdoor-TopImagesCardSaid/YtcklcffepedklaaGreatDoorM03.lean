/- Texts of the proof, one behind the other: tree: maps of texts, in order. No program in sight. -/
import Derived.Test.YtcklcffepedklaaGreatDoorM02
import Derived.Sort.Walk0
namespace Go.Proofs.YtcklcffepedklaaGreatDoor
open Go.RowKit

abbrev BA := ByteArray
/-- The order of texts. -/
def bl (a b : BA) : Bool := Op.bytesLess a.toList b.toList
theorem bl_iff {a b : BA} : bl a b = true ↔ a.data.toList < b.data.toList := by
  unfold bl; rw [bytesLess_eq, Lib.toList_data, Lib.toList_data]; simp
theorem bl_irrefl (a : BA) : bl a a = false := by
  rw [← Bool.not_eq_true, bl_iff]; exact List.lt_irrefl _
theorem bl_trans {a b c : BA} (h : bl a b = true) (k : bl b c = true) : bl a c = true :=
  bl_iff.2 (List.lt_trans (bl_iff.1 h) (bl_iff.1 k))
theorem bl_eq {a b : BA} (h : bl a b = false) (k : bl b a = false) : a = b := by
  apply Go.WideShapes.bytes_inj
  rw [← Bool.not_eq_true, bl_iff] at h k
  exact List.le_antisymm k h
theorem bl_asymm {a b : BA} (h : bl a b = true) : bl b a = false := by
  rw [← Bool.not_eq_true]; intro k
  have := bl_trans h k
  rw [bl_irrefl] at this; cases this
theorem bl_ne {a b : BA} (h : bl a b = true) : a ≠ b := fun e => by rw [e, bl_irrefl] at h; cases h

abbrev PR := BA × BA
/-- A tree. -/
inductive Tre where
  | nil : Tre
  | node (k v : BA) (l r : Tre) : Tre
namespace Tre
def len : Tre → Nat
  | nil => 0
  | node _ _ l r => l.len + r.len + 1
def ht : Tre → Nat
  | nil => 0
  | node _ _ l r => max l.ht r.ht + 1
/-- The pairs, in order. -/
def prs : Tre → List PR
  | nil => []
  | node k v l r => l.prs ++ (k, v) :: r.prs
theorem prs_len : ∀ t : Tre, t.prs.length = t.len
  | nil => rfl
  | node k v l r => by simp [prs, len, prs_len l, prs_len r]; omega
theorem ht_le : ∀ t : Tre, t.ht ≤ t.len
  | nil => Nat.le_refl _
  | node k v l r => by have := ht_le l; have := ht_le r; simp only [ht, len]; omega
/-- A node above two trees, brought into balance. -/
def join (k v : BA) (l r : Tre) : Tre :=
  if l.ht = r.ht + 2 then
    match l with
    | nil => node k v l r
    | node k1 v1 a b => if b.ht ≤ a.ht then node k1 v1 a (node k v b r) else
      match b with
      | nil => node k v l r
      | node k2 v2 c d => node k2 v2 (node k1 v1 a c) (node k v d r)
  else if r.ht = l.ht + 2 then
    match r with
    | nil => node k v l r
    | node k1 v1 a b => if a.ht ≤ b.ht then node k1 v1 (node k v l a) b else
      match a with
      | nil => node k v l r
      | node k2 v2 c d => node k2 v2 (node k v l c) (node k1 v1 d b)
  else node k v l r
theorem prs_join (k v : BA) (l r : Tre) : (join k v l r).prs = l.prs ++ (k, v) :: r.prs := by
  unfold join
  split
  · split
    · rfl
    · split
      · simp [prs]
      · split
        · rfl
        · simp [prs]
  · split
    · split
      · rfl
      · split
        · simp [prs]
        · split
          · rfl
          · simp [prs]
    · rfl
def put (k v : BA) : Tre → Tre
  | nil => node k v nil nil
  | node k1 v1 l r => if bl k k1 then join k1 v1 (l.put k v) r else if bl k1 k then join k1 v1 l (r.put k v) else node k v l r
def first : Tre → PR × Tre
  | nil => ((.empty, .empty), nil)
  | node k v nil r => ((k, v), r)
  | node k v (node k1 v1 a b) r => ((first (node k1 v1 a b)).1, join k v (first (node k1 v1 a b)).2 r)
def drop (k : BA) : Tre → Tre
  | nil => nil
  | node k1 v1 l r => if bl k k1 then join k1 v1 (l.drop k) r else if bl k1 k then join k1 v1 l (r.drop k) else
    match r with
    | nil => l
    | node k2 v2 a b => join (first (node k2 v2 a b)).1.1 (first (node k2 v2 a b)).1.2 l (first (node k2 v2 a b)).2
def get (k : BA) : Tre → Option BA
  | nil => none
  | node k1 v1 l r => if k1 = k then some v1 else if bl k k1 then l.get k else r.get k
theorem prs_first : ∀ (k v : BA) (l r : Tre), (first (node k v l r)).1 :: (first (node k v l r)).2.prs = l.prs ++ (k, v) :: r.prs
  | k, v, nil, r => by simp [first, prs]
  | k, v, node k1 v1 a b, r => by
    rw [first]
    simp only
    rw [prs_join, ← List.cons_append, prs_first k1 v1 a b]
    rfl
end Tre

/-- Pairs whose keys stand in order. -/
def Srtd (l : List PR) : Prop := l.Pairwise fun a b => bl a.1 b.1 = true
/-- A pair put into a list in order. -/
def insP (k v : BA) : List PR → List PR
  | [] => [(k, v)]
  | x :: l => if bl k x.1 then (k, v) :: x :: l else if bl x.1 k then x :: insP k v l else (k, v) :: l
theorem insP_mid (k v k1 v1 : BA) (r : List PR) : ∀ (l : List PR), Srtd (l ++ (k1, v1) :: r) →
    insP k v (l ++ (k1, v1) :: r) = if bl k k1 then insP k v l ++ (k1, v1) :: r else if bl k1 k then l ++ (k1, v1) :: insP k v r else l ++ (k, v) :: r
  | [], _ => by
    simp only [List.nil_append, insP]
    split
    · rfl
    · split <;> rfl
  | x :: l, h => by
    have h' := List.pairwise_cons.1 h
    have ih := insP_mid k v k1 v1 r l h'.2
    have hx : bl x.1 k1 = true := h'.1 (k1, v1) (by simp)
    simp only [List.cons_append, insP]
    by_cases h1 : bl k x.1 = true
    · have := bl_trans h1 hx
      rw [if_pos h1, if_pos h1, if_pos this]; rfl
    · by_cases h2 : bl x.1 k = true
      · rw [if_neg h1, if_neg h1, if_pos h2, if_pos h2, ih]
        split
        · rfl
        · split <;> rfl
      · have e : k = x.1 := bl_eq (by simpa using h1) (by simpa using h2)
        rw [if_neg h1, if_neg h1, if_neg h2, if_neg h2, if_pos (e ▸ hx)]; rfl
theorem Srtd.left {l r : List PR} (h : Srtd (l ++ r)) : Srtd l := (List.pairwise_append.1 h).1
theorem Srtd.right {l r : List PR} (h : Srtd (l ++ r)) : Srtd r := (List.pairwise_append.1 h).2.1
theorem Srtd.tail {x : PR} {l : List PR} (h : Srtd (x :: l)) : Srtd l := (List.pairwise_cons.1 h).2
theorem prs_put (k v : BA) : ∀ t : Tre, Srtd t.prs → (t.put k v).prs = insP k v t.prs
  | .nil, _ => rfl
  | .node k1 v1 l r, h => by
    have hl := prs_put k v l h.left
    have hr := prs_put k v r h.right.tail
    rw [Tre.put]
    show _ = insP k v (l.prs ++ (k1, v1) :: r.prs)
    rw [insP_mid k v k1 v1 r.prs l.prs h]
    by_cases h1 : bl k k1 = true
    · rw [if_pos h1, if_pos h1, Tre.prs_join, hl]
    · by_cases h2 : bl k1 k = true
      · rw [if_neg h1, if_neg h1, if_pos h2, if_pos h2, Tre.prs_join, hr]
      · rw [if_neg h1, if_neg h1, if_neg h2, if_neg h2]; rfl
theorem insP_mem {k v : BA} : ∀ {l : List PR}, Srtd l → ∀ x, x ∈ insP k v l ↔ x = (k, v) ∨ (x ∈ l ∧ x.1 ≠ k)
  | [], _, x => by simp [insP]
  | y :: l, h, x => by
    have h' := List.pairwise_cons.1 h
    rw [insP]
    by_cases h1 : bl k y.1 = true
    · rw [if_pos h1, List.mem_cons]
      constructor
      · rintro (h2 | h2)
        · exact .inl h2
        · refine .inr ⟨h2, fun e => ?_⟩
          rcases List.mem_cons.1 h2 with rfl | h3
          · rw [e, bl_irrefl] at h1; cases h1
          · have := bl_trans h1 (h'.1 x h3); rw [e, bl_irrefl] at this; cases this
      · rintro (h2 | h2)
        · exact .inl h2
        · exact .inr h2.1
    · by_cases h2 : bl y.1 k = true
      · rw [if_neg h1, if_pos h2, List.mem_cons, insP_mem h'.2 x, List.mem_cons]
        constructor
        · rintro (rfl | rfl | h3)
          · exact .inr ⟨.inl rfl, bl_ne h2⟩
          · exact .inl rfl
          · exact .inr ⟨.inr h3.1, h3.2⟩
        · rintro (rfl | ⟨rfl | h3, h4⟩)
          · exact .inr (.inl rfl)
          · exact .inl rfl
          · exact .inr (.inr ⟨h3, h4⟩)
      · have e : k = y.1 := bl_eq (by simpa using h1) (by simpa using h2)
        rw [if_neg h1, if_neg h2, List.mem_cons, List.mem_cons]
        constructor
        · rintro (h3 | h3)
          · exact .inl h3
          · exact .inr ⟨.inr h3, fun e2 => by have := h'.1 x h3; rw [e2, e, bl_irrefl] at this; cases this⟩
        · rintro (h3 | ⟨rfl | h3, h4⟩)
          · exact .inl h3
          · exact absurd e.symm h4
          · exact .inr h3
theorem insP_srtd {k v : BA} : ∀ {l : List PR}, Srtd l → Srtd (insP k v l)
  | [], _ => by simp [insP, Srtd]
  | y :: l, h => by
    have h' := List.pairwise_cons.1 h
    rw [insP]
    by_cases h1 : bl k y.1 = true
    · rw [if_pos h1]
      refine List.pairwise_cons.2 ⟨fun x hx => ?_, h⟩
      rcases List.mem_cons.1 hx with rfl | hx
      · exact h1
      · exact bl_trans h1 (h'.1 x hx)
    · by_cases h2 : bl y.1 k = true
      · rw [if_neg h1, if_pos h2]
        refine List.pairwise_cons.2 ⟨fun x hx => ?_, insP_srtd h'.2⟩
        rcases (insP_mem h'.2 x).1 hx with rfl | hx
        · exact h2
        · exact h'.1 x hx.1
      · have e : k = y.1 := bl_eq (by simpa using h1) (by simpa using h2)
        rw [if_neg h1, if_neg h2]
        exact List.pairwise_cons.2 ⟨fun x hx => by show bl k x.1 = true; rw [e]; exact h'.1 x hx, h'.2⟩
theorem insP_len {k v : BA} : ∀ {l : List PR}, (insP k v l).length ≤ l.length + 1
  | [] => by simp [insP]
  | y :: l => by
    have := insP_len (k := k) (v := v) (l := l)
    rw [insP]; split
    · simp
    · split <;> simp <;> omega
/-- The pairs without a key's. -/
def delP (k : BA) (l : List PR) : List PR := l.filter fun x => decide (x.1 ≠ k)
theorem delP_none {k : BA} {l : List PR} (h : ∀ x ∈ l, x.1 ≠ k) : delP k l = l :=
  List.filter_eq_self.2 fun x hx => by simpa using h x hx
theorem delP_srtd {k : BA} {l : List PR} (h : Srtd l) : Srtd (delP k l) := List.Pairwise.sublist List.filter_sublist h
theorem delP_mid {k k1 v1 : BA} {l r : List PR} (h : Srtd (l ++ (k1, v1) :: r)) :
    delP k (l ++ (k1, v1) :: r) = if bl k k1 then delP k l ++ (k1, v1) :: r else if bl k1 k then l ++ (k1, v1) :: delP k r else l ++ r := by
  obtain ⟨_, hr, hc⟩ := List.pairwise_append.1 h
  have hr' := List.pairwise_cons.1 hr
  have hf : delP k (l ++ (k1, v1) :: r) = delP k l ++ delP k ((k1, v1) :: r) := List.filter_append ..
  rw [hf]
  by_cases h1 : bl k k1 = true
  · rw [if_pos h1]
    congr 1
    refine delP_none fun x hx => ?_
    rcases List.mem_cons.1 hx with rfl | hx
    · exact (bl_ne h1).symm
    · exact (bl_ne (bl_trans h1 (hr'.1 x hx))).symm
  · by_cases h2 : bl k1 k = true
    · rw [if_neg h1, if_pos h2]
      rw [delP_none (l := l) fun x hx => bl_ne (bl_trans (hc x hx _ List.mem_cons_self) h2)]
      congr 1
      exact List.filter_cons_of_pos (by simpa using bl_ne h2)
    · have e : k = k1 := bl_eq (by simpa using h1) (by simpa using h2)
      subst e
      rw [if_neg h1, if_neg h2]
      rw [delP_none (l := l) fun x hx => bl_ne (hc x hx _ List.mem_cons_self)]
      congr 1
      have : delP k ((k, v1) :: r) = delP k r := List.filter_cons_of_neg (by simp)
      rw [this]
      exact delP_none fun x hx => (bl_ne (hr'.1 x hx)).symm
theorem prs_drop (k : BA) : ∀ t : Tre, Srtd t.prs → (t.drop k).prs = delP k t.prs
  | .nil, _ => rfl
  | .node k1 v1 l r, h => by
    have hl := prs_drop k l h.left
    have hr := prs_drop k r h.right.tail
    rw [Tre.drop.eq_def]
    simp only
    show _ = delP k (l.prs ++ (k1, v1) :: r.prs)
    rw [delP_mid h]
    by_cases h1 : bl k k1 = true
    · rw [if_pos h1, if_pos h1, Tre.prs_join, hl]
    · by_cases h2 : bl k1 k = true
      · rw [if_neg h1, if_neg h1, if_pos h2, if_pos h2, Tre.prs_join, hr]
      · rw [if_neg h1, if_neg h1, if_neg h2, if_neg h2]
        cases r with
        | nil => simp [Tre.prs]
        | node k2 v2 a b =>
          simp only
          rw [Tre.prs_join]
          congr 1
          exact Tre.prs_first k2 v2 a b
/-- What a key has among pairs. -/
def getP (k : BA) (l : List PR) : Option BA := (l.find? fun x => decide (x.1 = k)).map (·.2)
theorem getP_none {k : BA} {l : List PR} (h : ∀ x ∈ l, x.1 ≠ k) : getP k l = none := by
  unfold getP
  rw [List.find?_eq_none.2 fun x hx => by simpa using h x hx]; rfl
theorem getP_append {k : BA} {l r : List PR} : getP k (l ++ r) = (getP k l).or (getP k r) := by
  unfold getP; rw [List.find?_append]; cases List.find? (fun x : PR => decide (x.1 = k)) l <;> rfl
theorem prs_get (k : BA) : ∀ t : Tre, Srtd t.prs → t.get k = getP k t.prs
  | .nil, _ => rfl
  | .node k1 v1 l r, h => by
    obtain ⟨_, hr, hc⟩ := List.pairwise_append.1 (show Srtd (l.prs ++ (k1, v1) :: r.prs) from h)
    have hr' := List.pairwise_cons.1 hr
    rw [Tre.get, Tre.prs, getP_append]
    have e1 : getP k ((k1, v1) :: r.prs) = if k1 = k then some v1 else getP k r.prs := by
      unfold getP; rw [List.find?_cons]; by_cases h : k1 = k <;> simp [h]
    rw [e1]
    by_cases h1 : k1 = k
    · rw [if_pos h1, if_pos h1, getP_none fun x hx => h1 ▸ bl_ne (hc x hx _ List.mem_cons_self)]; rfl
    · rw [if_neg h1, if_neg h1]
      by_cases h2 : bl k k1 = true
      · rw [if_pos h2, prs_get k l h.left, getP_none (l := r.prs) fun x hx => (bl_ne (bl_trans h2 (hr'.1 x hx))).symm]
        simp
      · have h3 : bl k1 k = true := by
          by_cases h3 : bl k1 k = true
          · exact h3
          · exact absurd (bl_eq (by simpa using h3) (by simpa using h2)) h1
        rw [if_neg h2, prs_get k r h.right.tail, getP_none (l := l.prs) fun x hx => bl_ne (bl_trans (hc x hx _ List.mem_cons_self) h3)]
        rfl
theorem getP_some {k v : BA} {l : List PR} (h : getP k l = some v) : (k, v) ∈ l := by
  unfold getP at h
  obtain ⟨x, hx, rfl⟩ := Option.map_eq_some_iff.1 h
  have h1 := List.find?_some hx
  have h2 := List.mem_of_find?_eq_some hx
  have h3 : x.1 = k := by simpa using h1
  subst h3; exact h2
theorem Srtd.uniq {l : List PR} (hs : Srtd l) {x y : PR} (hx : x ∈ l) (hy : y ∈ l) (e : x.1 = y.1) : x = y := by
  induction l with
  | nil => cases hx
  | cons z l ih =>
    have h' := List.pairwise_cons.1 hs
    rcases List.mem_cons.1 hx with h1 | h1 <;> rcases List.mem_cons.1 hy with h2 | h2
    · rw [h1, h2]
    · exact absurd e (by rw [h1]; exact bl_ne (h'.1 y h2))
    · exact absurd e.symm (by rw [h2]; exact bl_ne (h'.1 x h1))
    · exact ih h'.2 h1 h2
theorem getP_mem {k v : BA} {l : List PR} (hs : Srtd l) (h : (k, v) ∈ l) : getP k l = some v := by
  cases e : getP k l with
  | none =>
    unfold getP at e
    rw [Option.map_eq_none_iff, List.find?_eq_none] at e
    have := e _ h; simp at this
  | some v' =>
    have h2 := getP_some e
    have h3 := hs.uniq h h2 rfl
    injection h3 with _ h4; rw [h4]
end Go.Proofs.YtcklcffepedklaaGreatDoor
