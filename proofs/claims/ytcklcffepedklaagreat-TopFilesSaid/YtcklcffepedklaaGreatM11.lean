/- Texts of the proof, one behind the other: Rows sorted. -/
import Derived.Test.YtcklcffepedklaaGreatM09
import Derived.Test.YtcklcffepedklaaGreatM10
import Derived.Shelf.SlSortCmp.NoneTotal
namespace Go.Proofs.YtcklcffepedklaaGreat
open Go.RowKit Go.Maps

theorem flat_at {α : Type} {f : α → List Value} {k : Nat} : ∀ (l : List α), (∀ x ∈ l, (f x).length = k) → ∀ {i j : Nat} {x : α} {v : Value}, l[i]? = some x → (f x)[j]? = some v → (l.flatMap f)[i * k + j]? = some v
  | [], _, i, j, x, v, h, _ => by simp at h
  | y :: l, hk, i, j, x, v, h, hv => by
    rw [List.flatMap_cons]
    have hy := hk y List.mem_cons_self
    have hj : j < (f x).length := by rcases Nat.lt_or_ge j (f x).length with h1 | h1; exact h1; rw [List.getElem?_eq_none h1] at hv; cases hv
    cases i with
    | zero =>
      simp only [List.getElem?_cons_zero, Option.some.injEq] at h
      subst h
      rw [Nat.zero_mul, Nat.zero_add, List.getElem?_append_left hj]; exact hv
    | succ i =>
      rw [List.getElem?_cons_succ] at h
      rw [List.getElem?_append_right (by rw [hy, Nat.succ_mul]; omega), hy, show (i + 1) * k + j - k = i * k + j from by rw [Nat.succ_mul]; omega]
      exact flat_at l (fun z hz => hk z (List.mem_cons_of_mem _ hz)) h hv
theorem flat_length {α : Type} {f : α → List Value} {k : Nat} : ∀ (l : List α), (∀ x ∈ l, (f x).length = k) → (l.flatMap f).length = l.length * k
  | [], _ => by simp
  | y :: l, hk => by
    rw [List.flatMap_cons, List.length_append, hk y List.mem_cons_self, flat_length l (fun z hz => hk z (List.mem_cons_of_mem _ hz)), List.length_cons, Nat.succ_mul, Nat.add_comm]
abbrev flatR (l : List Rw) : List Value := l.flatMap encR
theorem flatR_at {l : List Rw} {t : Nat} (h : t < l.length * 35) : (flatR l)[t]? = (encR l[t / 35]!)[t % 35]? := by
  have hi : t / 35 < l.length := by omega
  have hm : t % 35 < 35 := Nat.mod_lt _ (by decide)
  have hx : l[t / 35]? = some l[t / 35]! := by rw [List.getElem?_eq_getElem hi, getElem!_pos l _ hi]
  obtain ⟨v, hv⟩ : ∃ v, (encR l[t / 35]!)[t % 35]? = some v := ⟨_, List.getElem?_eq_getElem (by rw [encR_length]; exact hm)⟩
  have := flat_at l (fun x _ => encR_length x) hx hv
  rw [hv, ← this]
  congr 1; omega
/-- Rows that a call owns. -/
abbrev OwnR (w : World) (base : Nat) (v : Value) (l : List Rw) : Prop := w.ownsRow base 84 35 v l.length (flatR l)

theorem swo_of {α : Type} {cf : α → α → Int} (code : α → Nat) (h : ∀ x y, cf x y = cmpN (code x) (code y)) : Go.Sort.SWO (ltOf cf) := by
  have hl : ∀ x y, ltOf cf x y = decide (code x < code y) := by
    intro x y
    unfold ltOf
    rw [h, Bool.eq_iff_iff, decide_eq_true_iff, decide_eq_true_iff]
    unfold cmpN
    split
    · simp [*]
    · split <;> simp [*]
  refine ⟨fun x => by rw [hl]; simp, fun x y z h1 h2 => ?_, fun x y z h1 h2 => ?_⟩
  · rw [hl, decide_eq_true_iff] at *; omega
  · rw [hl, decide_eq_false_iff_not] at *; omega
theorem swoA : Go.Sort.SWO (ltOf cfA) := swo_of (fun x => codeK x.val.1) (fun x y => cfK_eq x.property y.property)
theorem codeK_lt {k : Ky} (h : k.Ok) : codeK k < 256 ^ 36 := by
  have h1 := codeB_lt (Lib.bytesOf k.sum)
  have h2 : (Lib.bytesOf k.sum).length = 32 := by simp [Lib.bytesOf, h.len]
  rw [h2] at h1
  have h3 := h.lt
  unfold codeK
  have : (256 : Nat) ^ 36 = 256 ^ 32 * 4294967296 := by decide
  rw [this]
  generalize (256 : Nat) ^ 32 = M at *
  omega
theorem cmpN_mul {a b x y M : Nat} (hx : x < M) (hy : y < M) : (if cmpN a b = 0 then cmpN x y else cmpN a b) = cmpN (a * M + x) (b * M + y) := by
  rcases Nat.lt_trichotomy a b with h | h | h
  · have e : cmpN a b = -1 := if_pos h
    have h3 := Nat.mul_le_mul_right M (show a + 1 ≤ b from h)
    rw [Nat.succ_mul] at h3
    rw [e, if_neg (by decide)]
    exact (if_pos (by omega)).symm
  · subst h
    have e : cmpN a a = 0 := (if_neg (Nat.lt_irrefl a)).trans (if_neg (Nat.lt_irrefl a))
    rw [e, if_pos rfl, cmpN_add]
  · have e : cmpN a b = 1 := (if_neg (by omega)).trans (if_pos h)
    have h3 := Nat.mul_le_mul_right M (show b + 1 ≤ a from h)
    rw [Nat.succ_mul] at h3
    rw [e, if_neg (by decide)]
    exact ((if_neg (by omega)).trans (if_pos (by omega))).symm
theorem cmpI_nat (x y : Nat) : cmpI (x : Int) (y : Int) = cmpN x y := by unfold cmpI cmpN; simp only [Int.ofNat_lt]
theorem swoS : Go.Sort.SWO (ltOf cfS) := swo_of (fun x => x.val.2.2 * 256 ^ 36 + codeK x.val.1) (fun x y => by
  unfold cfS
  rw [cfK_eq x.property y.property, cmpI_nat]
  exact cmpN_mul (codeK_lt x.property) (codeK_lt y.property))

theorem holds_own {w : World} {base g n c : Nat} {l : List Rw} (h : OwnR w base (.slice (some ⟨g, 0, none⟩) n c) l) : Go.Sort.HoldsK encR 35 w g 0 l.toArray := by
  obtain ⟨h1, h2⟩ := h
  rcases h2 with ⟨h2, _⟩ | ⟨g', cap, cur, e, hb, hg, hn, hm, hs, ht⟩
  · cases h2
  · injection e with e; injection e with e; injection e with e; subst e
    intro t ht1
    rw [Go.Sort.size_flatK, List.size_toArray] at ht1
    have h35 : t % 35 < 35 := Nat.mod_lt _ (by decide)
    refine ⟨?_, free_row hg _⟩
    have e5 : (Go.Sort.flatK encR 35 l.toArray)[t]! = _ := Go.Sort.get_flatK encR 35 l.toArray t (by rw [List.size_toArray]; exact ht1)
    have h3 := flatR_at ht1
    have h4 : cur[t]? = (flatR l)[t]? := by rw [← ht, List.getElem?_take_of_lt ht1, Array.getElem?_toList]
    have h6 : t % 35 < (encR l[t / 35]!).length := by rw [encR_length]; exact h35
    rw [Nat.zero_add, cell_of_row _ _ _ _ _ _ hg]
    show cur[t]? = some ((Go.Sort.flatK encR 35 l.toArray)[t]!)
    rw [e5, h4, h3, List.getElem?_eq_getElem h6]
    simp only [List.getElem!_toArray]
    rw [getElem!_pos (encR l[t / 35]!) (t % 35) h6]
theorem putRow_heap {w : World} {g : Nat} {d cur : Array Value} {t : TypeId} {fr : Nat × Nat} (hg : w.heap[g]? = some (.cells cur t fr)) : (Go.Sort.putRow id w g 0 d).heap[g]? = some (.cells (Go.Sort.putCells id 0 d cur) t fr) := by
  unfold Go.Sort.putRow Go.Sort.mapBlock
  simp only [Array.getElem?_modify, if_true, hg, Option.map_some, Go.Sort.onCells]
theorem putRow_grown (w : World) (g : Nat) (d : Array Value) : w.grownBy (Go.Sort.putRow id w g 0 d) (some g) := by
  refine ⟨rfl, rfl, rfl, by simp [Go.Sort.putRow, Go.Sort.mapBlock], fun k _ hk => ?_⟩
  unfold Go.Sort.putRow Go.Sort.mapBlock
  rw [Array.getElem?_modify, if_neg (fun e => hk (by rw [e]))]
theorem sort_world {w : World} {base g n c m : Nat} {l l' : List Rw} {os : Array Obj} (h : OwnR w base (.slice (some ⟨g, 0, none⟩) n c) l) (hl : l'.length = l.length) :
    OwnR (sortWorldK encR 35 w g 0 m l'.toArray os) base (.slice (some ⟨g, 0, none⟩) n c) l' ∧ w.grownBy (sortWorldK encR 35 w g 0 m l'.toArray os) (some g) := by
  have hgr : w.grownBy (sortWorldK encR 35 w g 0 m l'.toArray os) (some g) := by
    have h1 : w.grownBy (Go.Sort.ahead w m) (some g) := ⟨rfl, rfl, rfl, Nat.le_refl _, fun _ _ _ => rfl⟩
    have h2 := putRow_grown (Go.Sort.ahead w m) g (Go.Sort.flatK encR 35 l'.toArray)
    have h3 : (Go.Sort.putRow id (Go.Sort.ahead w m) g 0 (Go.Sort.flatK encR 35 l'.toArray)).grownBy (sortWorldK encR 35 w g 0 m l'.toArray os) (some g) :=
      ⟨rfl, rfl, rfl, by simp [sortWorldK, Go.Sort.putRowK, Go.Sort.size_grow], fun k hk _ => by
        unfold sortWorldK Go.Sort.grow Go.Sort.putRowK
        exact Array.getElem?_append_left hk⟩
    exact grown_trans (grown_trans h1 h2) h3
  refine ⟨?_, hgr⟩
  obtain ⟨h1, h2⟩ := h
  rcases h2 with ⟨h2, _⟩ | ⟨g', cap, cur, e, hb, hg, hn, hm, hs, ht⟩
  · cases h2
  · injection e with e1 e2 e3; injection e1 with e1; injection e1 with e1; subst e1 e3
    have hp := putRow_heap (w := Go.Sort.ahead w m) (d := Go.Sort.flatK encR 35 l'.toArray) (show (Go.Sort.ahead w m).heap[g]? = _ from hg)
    refine ⟨flat_length l' (fun x _ => encR_length x), .inr ⟨g, c, _, by rw [e2, hl], hb, ?_, by rw [hl]; exact hn, hm, (show (Go.Sort.putCells id 0 (Go.Sort.flatK encR 35 l'.toArray) cur).size = _ by unfold Go.Sort.putCells; rw [Array.size_mapIdx]; exact hs), ?_⟩⟩
    · unfold sortWorldK Go.Sort.grow Go.Sort.putRowK
      rw [← hp]
      exact Array.getElem?_append_left (row_lt hp)
    · apply List.ext_getElem?
      intro t
      by_cases ht1 : t < l'.length * 35
      · rw [List.getElem?_take_of_lt ht1, Array.getElem?_toList, flatR_at ht1]
        have e5 : (Go.Sort.flatK encR 35 l'.toArray)[t]! = _ := Go.Sort.get_flatK encR 35 l'.toArray t (by rw [List.size_toArray]; exact ht1)
        have h6 : t % 35 < (encR l'[t / 35]!).length := by rw [encR_length]; exact Nat.mod_lt _ (by decide)
        have h7 : t < cur.size := by rw [hs]; have := Nat.mul_le_mul_right 35 hn; omega
        unfold Go.Sort.putCells
        rw [Array.getElem?_mapIdx, Array.getElem?_eq_getElem h7, Option.map_some, if_pos ⟨Nat.zero_le _, by rw [Go.Sort.size_flatK, List.size_toArray]; omega⟩, Nat.sub_zero, List.getElem?_eq_getElem h6]
        show some ((Go.Sort.flatK encR 35 l'.toArray)[t]!) = _
        rw [e5]
        simp only [List.getElem!_toArray]
        rw [getElem!_pos (encR l'[t / 35]!) (t % 35) h6]
      · rw [List.getElem?_eq_none (by simp; omega), List.getElem?_eq_none (by rw [flat_length l' (fun x _ => encR_length x)]; omega)]
/-- slices.SortFunc at rows. -/
theorem RSort_any (f : Nat) (cf : Rw → Rw → Int) (eg : ∀ args w, (callFunc f args).run Tryz.prog w = .ok (.enter f args) w) (hcmp : ∀ x y w, Calls Tryz.prog f #[.agg (encR x).toArray, .agg (encR y).toArray] w fun e w' => e = .returned (.int .i64 (cf x y)) ∧ Gr w w') (hO : Go.Sort.SWO (ltOf cf))
    {w : World} {base : Nat} {A : Option Addr} {c : Nat} {l : List Rw} (h : OwnR w base (.slice A l.length c) l) (hlen : l.length < 1000000000) :
    Calls Tryz.prog 68 #[.slice A l.length c, .func (.func f) #[] #[]] w fun e w' => e = .returned (.tuple #[]) ∧ ∃ l', l'.Perm l ∧ OwnR w' base (.slice A l.length c) l' ∧ w.grownBy w' (Value.ownBlock (.slice A l.length c)) := by
  have hform : (A = none ∧ l.length = 0) ∨ ∃ g, A = some ⟨g, 0, none⟩ ∧ g < w.heap.size := by
    obtain ⟨h1, h2⟩ := h
    rcases h2 with ⟨h2, h3⟩ | ⟨g', cap, cur, e, hb, hg, _⟩
    · injection h2 with h2; exact .inl ⟨h2, h3⟩
    · injection e with e; exact .inr ⟨g', e, row_lt hg⟩
  rcases hform with ⟨rfl, h0⟩ | ⟨g, rfl, hg⟩
  · have hs := AnyF.slices_SortFunc_none (P := Tryz.prog) Tryz.laysSort none c (.func (.func f) #[] #[]) w
    obtain rfl := List.length_eq_zero_iff.1 h0
    refine Calls.mono (show Calls Tryz.prog 68 _ w _ from hs) ?_
    rintro e w' ⟨rfl, rfl⟩
    exact ⟨rfl, [], List.Perm.refl _, h, World.grownBy.refl _ _⟩
  · have hs := AnyQ.slices_SortFunc (P := Tryz.prog) Tryz.laysSort 35 Tryz.isAgg84 (fun W => by kernel_rfl) encR encR_length encR_one cf hO f #[] g 0 c l.toArray w eg (fun m os dk _ x y => (hcmp x y _).mono (fun e w' hw => hw)) (holds_own h) hg (by rw [List.size_toArray]; omega)
    rw [List.size_toArray] at hs
    refine Calls.mono (show Calls Tryz.prog 68 _ w _ from hs) ?_
    rintro e w' ⟨rfl, d', m, os, hp, _, rfl⟩
    obtain ⟨hp1, _, hp3⟩ := hp
    replace hp1 : d'.size = l.length := hp1.trans List.size_toArray
    have hd : d' = d'.toList.toArray := by simp
    rw [hd]
    have hperm : d'.toList.Perm l := by
      have e1 : (d'.extract 0 l.length).toList = d'.toList := by rw [← hp1]; simp
      rw [e1] at hp3
      simpa using hp3
    have hw := sort_world (m := m) (os := os) h hperm.length_eq
    exact ⟨rfl, d'.toList, hperm, hw.1, hw.2⟩
end Go.Proofs.YtcklcffepedklaaGreat
