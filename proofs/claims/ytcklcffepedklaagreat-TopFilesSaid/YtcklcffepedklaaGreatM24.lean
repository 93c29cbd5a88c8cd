/- Texts of the proof, one behind the other: cont: what Take's function does with a piece. cont: each. -/
import Derived.Test.YtcklcffepedklaaGreatM23
import Derived.Test.YtcklcffepedklaaGreatM03
namespace Go.Proofs.YtcklcffepedklaaGreat
open Go.RowKit Go.Maps

theorem EP : Elem Tryz.prog 77 105 34 64 := by
  obtain ⟨i0, hi, hz0, hz1, hz2⟩ := info_parts Tryz.infoP
  exact ⟨Tryz.underlying77, ⟨i0, _, hi, hz0, hz1, hz2, rfl⟩, by decide⟩
/-- The cells of pieces, one behind the other. -/
def flatP (L : List Pc) : List Value := L.flatMap Pc.cells
theorem flatP_length : ∀ {L : List Pc}, (∀ p ∈ L, p.key.Ok) → (flatP L).length = L.length * 34
  | [], _ => rfl
  | p :: L, h => by
    have := flatP_length (L := L) (fun q hq => h q (List.mem_cons_of_mem _ hq))
    unfold flatP at this ⊢
    rw [List.flatMap_cons, List.length_append, this, Pc.cells_length (h p List.mem_cons_self), List.length_cons]; omega
theorem flatP_at : ∀ {L : List Pc}, (∀ p ∈ L, p.key.Ok) → ∀ {i : Nat} {p : Pc}, L[i]? = some p → ∀ {j : Nat} {v : Value}, p.cells[j]? = some v → (flatP L)[i * 34 + j]? = some v
  | [], _, _, _, h, _, _, _ => by simp at h
  | q :: L, h, i, p, hi, j, v, hj => by
    unfold flatP
    rw [List.flatMap_cons]
    have hq := Pc.cells_length (h q List.mem_cons_self)
    cases i with
    | zero =>
      simp only [List.getElem?_cons_zero, Option.some.injEq] at hi
      subst hi
      have hjl : j < q.cells.length := by
        rcases Nat.lt_or_ge j q.cells.length with h | h
        · exact h
        · rw [List.getElem?_eq_none h] at hj; cases hj
      rw [List.getElem?_append_left (by omega), Nat.zero_mul, Nat.zero_add]; exact hj
    | succ i =>
      rw [List.getElem?_append_right (by omega), hq, show (i + 1) * 34 + j - 34 = i * 34 + j from by omega]
      exact flatP_at (fun x hx => h x (List.mem_cons_of_mem _ hx)) (by simpa using hi) hj
/-- Pieces in a row of the call's own. -/
structure OwnP (w : World) (base : Nat) (v : Value) (L : List Pc) : Prop where
  own : w.ownsRow base 105 34 v L.length (flatP L)
  ok : ∀ p ∈ L, p.Ok w
theorem OwnP.pcAt {w : World} {base n c : Nat} {A : Option Addr} {L : List Pc} (h : OwnP w base (.slice A n c) L) : PcAt w A L := by
  refine ⟨fun i p hp => ?_, h.ok⟩
  have hp0 : 0 < L.length := List.length_pos_of_mem (List.mem_of_getElem? hp)
  obtain ⟨h1, h2⟩ := h.own
  rcases h2 with ⟨_, h0⟩ | ⟨g, cap, cur, e, hb, hg, hn, hm, hs, ht⟩
  · omega
  · injection e with e
    refine ⟨g, e, fun j v hj => ?_⟩
    rw [cell_of_row _ _ _ _ _ _ hg]
    have := flatP_at (fun q hq => (h.ok q hq).key) hp hj
    rw [← ht] at this
    rw [List.getElem?_take] at this
    split at this
    · rw [← Array.getElem?_toList]; exact this
    · cases this
theorem OwnP.form {w : World} {base : Nat} {v : Value} {L : List Pc} (h : OwnP w base v L) : ∃ A c, v = .slice A L.length c ∧ L.length ≤ c ∧ (A = none → L.length = 0 ∧ c = 0) ∧ (∀ ad, A = some ad → ∃ g, ad = ⟨g, 0, none⟩ ∧ base ≤ g ∧ g < w.heap.size) := by
  obtain ⟨h1, h2⟩ := h.own
  rcases h2 with ⟨rfl, h0⟩ | ⟨g, cap, cur, rfl, hb, hg, hn, _⟩
  · exact ⟨none, 0, by rw [h0], by omega, (fun _ => ⟨h0, rfl⟩), (fun ad e => by cases e)⟩
  · exact ⟨_, cap, rfl, hn, (fun e => by cases e), (fun ad e => by cases e; exact ⟨g, rfl, hb, row_lt hg⟩)⟩

/-- Pieces that come one by one into the variable at block gl. -/
structure Acc (w0 w : World) (gl : Nat) (L : List Pc) (X : Nat → Prop) : Prop where
  ex : ∃ v, (∀ k, v.ownBlock = some k → X k) ∧ w.heap[gl]? = some (.cells #[v] 77 (0, 0)) ∧ OwnP w w0.heap.size v L ∧ v.ownBlock ≠ some gl ∧ ∀ p ∈ L, ∀ ad, p.A = some ad → w0.heap.size ≤ ad.block ∧ ad.block < w.heap.size ∧ ad.block ≠ gl ∧ v.ownBlock ≠ some ad.block
  ge : w0.heap.size ≤ gl
  bel : Below w0.heap.size w0 w
theorem Acc.below {w0 w w' : World} {gl : Nat} {L : List Pc} {X : Nat → Prop} (h : Acc w0 w gl L X) (hb : Below w.heap.size w w') : Acc w0 w' gl L X := by
  obtain ⟨v, h0, h1, ⟨h2, h3⟩, h4, h5⟩ := h.ex
  exact ⟨⟨v, h0, (hb.block gl (row_lt h1)).trans h1, ⟨World.ownsRow.kept h2 (below_grown hb none) (by cases v.ownBlock <;> simp), fun p hp => (h3 p hp).below hb⟩, h4, fun p hp ad e => ⟨(h5 p hp ad e).1, Nat.lt_of_lt_of_le (h5 p hp ad e).2.1 hb.size, (h5 p hp ad e).2.2⟩⟩, h.ge, h.bel.trans (hb.mono h.bel.size)⟩

theorem Acc.bound {w0 w : World} {gl : Nat} {L : List Pc} {X : Nat → Prop} (h : Acc w0 w gl L X) : Acc w0 w gl L (fun x => X x ∧ x < w.heap.size) := by
  obtain ⟨v, h0, h1, h2, h3⟩ := h.ex
  exact ⟨⟨v, fun k hk => ⟨h0 k hk, (h2.own.lt k hk).2⟩, h1, h2, h3⟩, h.ge, h.bel⟩
set_option maxRecDepth 20000 in
set_option maxHeartbeats 3200000 in
theorem Take1_any (w0 w : World) (gl : Nat) (L : List Pc) (k : Ky) (hk : k.Ok) (A : Option Addr) (n c : Nat) (d : List Int) (hn : d.length = n) (hl : n ≤ 1000000) (hL : L.length ≤ 1000000) (hI : Ints .u8 w A d) (hB : Bytes d) (hA : A = none → n = 0 ∧ c = 0) (X : Nat → Prop) (hAcc : Acc w0 w gl L X) :
    Calls Tryz.prog 110 #[.agg k.cells.toArray, .slice A n c, .pointer (some ⟨gl, 0, none⟩)] w fun e w' => e = .returned (.tuple #[]) ∧ Chg (fun x => x = gl ∨ X x) w w' ∧ ∃ p, Acc w0 w' gl (L ++ [p]) (fun x => X x ∨ w.heap.size ≤ x) ∧ p.key = k ∧ p.data = d := by
  obtain ⟨v, h0, h1, ⟨h2, h3⟩, h4, h5⟩ := hAcc.ex
  have cl : w.cell? ⟨gl, 0, none⟩ = some v := by rw [cell_of_row _ _ _ _ _ _ h1]; rfl
  go_enter Tryz.func110, Tryz.ntmps110
  go_upto_region 1 with (fail)
  have hr3 := heap_alloc_last w (.cells k.cells.toArray 64)
  have hbw := (Below.refl w.heap.size w).alloc (Nat.le_refl _) (.cells k.cells.toArray 64)
  obtain ⟨g3, hg3⟩ : ∃ z, z = w.heap.size := ⟨_, rfl⟩
  obtain ⟨w1, hw1⟩ : ∃ z, z = w.alloc (.cells k.cells.toArray 64) := ⟨_, rfl⟩
  change Code.wp _ _ _ _ (w.alloc (.cells k.cells.toArray 64))
  rw [← hw1, ← hg3] at hr3
  rw [← hw1] at hbw ⊢
  rw [← hg3]
  have HG3 := Lib.hid hg3
  have hgl := row_lt h1
  have hvl := h2.lt
  obtain ⟨RR, hRR⟩ : ∃ R : Nat → Prop, R = fun x => x = gl ∨ v.ownBlock = some x := ⟨_, rfl⟩
  have HG3R := Lib.hid (show ¬ RR g3 by
    rw [hRR]; intro h; rcases h with h | h
    · omega
    · have := (hvl _ h).2; omega)
  have HRR := Lib.hid hRR
  have HG3L := Lib.hid (row_lt hr3)
  have HK1 := Lib.hid (show w1.rangeAt g3 0 k.cells from range_row hr3)
  have HCL := Lib.hid (show w1.cell? ⟨gl, 0, none⟩ = some v from (hbw.cell (p := ⟨gl, 0, none⟩) hgl).trans cl)
  have HI1 := Lib.hid (hI.below hbw)
  have HL := Lib.hid (show (d.map (Value.int .u8)).length = n * 1 by rw [List.length_map, hn, Nat.mul_one])
  have HAC := Lib.hid hAcc
  have HBW := Lib.hid hbw
  have HB := Lib.hid hB
  have HN := Lib.hid hn
  have H0 := Lib.hid h0
  have HH := Lib.hid (And.intro h2 (And.intro h3 (And.intro h4 h5)))
  have HRW := Lib.hid (show w1.heap[gl]? = some (.cells #[v] 77 (0, 0)) from (hbw.block gl hgl).trans h1)
  have HA2 := Lib.hid (show ∀ (v2 : Value) (w2 : World), w2.ownsRow w1.heap.size 5 1 v2 (0 + n) ([] ++ d.map (Value.int .u8)) → w1.drew.grownBy w2 (Value.ownBlock (.slice none 0 0)) →
      ∃ A2 c2, v2 = .slice A2 d.length c2 ∧ Hid (OwnB w2 w1.heap.size (.slice A2 d.length c2) d) ∧ Hid (Below w1.heap.size w1 w2) ∧ Hid (Chg RR w1 w2) ∧ Hid (w2.cell? ⟨gl, 0, none⟩ = some v) ∧ Hid (w2.heap[gl]? = some (.cells #[v] 77 (0, 0))) from by
    intro v2 w2 e1 e2
    have hb2 : Below w1.heap.size w1 w2 := (Below.refl _ _).drew.grown e2 (Nat.le_refl _) (fun k hk => by simp [Value.ownBlock] at hk)
    have ho : OwnB w2 w1.heap.size v2 d := by rw [Nat.zero_add, List.nil_append] at e1; show World.ownsRow _ _ _ _ _ _ _; rw [HN.out]; exact e1
    obtain ⟨A2, c2, rfl, _, _, _⟩ := ho.ints
    have hg1 : gl < w1.heap.size := by have := HBW.out.size; omega
    exact ⟨A2, c2, rfl, ho, hb2, Chg.belowAt hb2, (hb2.cell (p := ⟨gl, 0, none⟩) hg1).trans HCL.out, (hb2.block gl hg1).trans HRW.out⟩)
  have HBS := Lib.hid (fun (A2 : Option Addr) (n2 c2 : Nat) (W : World) => build_one (P := Tryz.prog) (z := .agg zP) (vs := k.cells ++ [Value.slice A2 n2 c2]) (s := 34) Tryz.underlying77 (fun _ => by kernel_rfl) zeroP (by simp [Ky.cells_length hk]) (by decide) (by decide) (.agg (k.cells ++ [Value.slice A2 n2 c2]).toArray) rfl W)
  have HPU := Lib.hid (show ∀ (A2 : Option Addr) (c2 : Nat) (w2 : World), Hid (OwnB w2 w1.heap.size (.slice A2 d.length c2) d) → Hid (Below w1.heap.size w1 w2) →
      (w2.alloc (.cells (k.cells ++ [Value.slice A2 d.length c2]).toArray 105)).ownsRow w0.heap.size 105 34 v L.length (flatP L) ∧
      (∀ j u, (Pc.cells ⟨k, A2, c2, d⟩)[j]? = some u → (w2.alloc (.cells (k.cells ++ [Value.slice A2 d.length c2]).toArray 105)).cell? ((⟨w2.heap.size, 0, none⟩ : Addr).add j) = some u) ∧
      w0.heap.size ≤ (w2.alloc (.cells (k.cells ++ [Value.slice A2 d.length c2]).toArray 105)).heap.size ∧
      (w2.alloc (.cells (k.cells ++ [Value.slice A2 d.length c2]).toArray 105)).cell? ⟨gl, 0, none⟩ = some v ∧
      ∀ (v5 : Value) (w5 : World), w5.ownsRow w0.heap.size 105 34 v5 (L.length + 1) (flatP L ++ Pc.cells ⟨k, A2, c2, d⟩) → (w2.alloc (.cells (k.cells ++ [Value.slice A2 d.length c2]).toArray 105)).grownBy w5 v.ownBlock →
        (v5.ownBlock = v.ownBlock ∨ v5.ownBlock = some (w2.alloc (.cells (k.cells ++ [Value.slice A2 d.length c2]).toArray 105)).heap.size) →
        ∃ A5 n5 c5, v5 = .slice A5 n5 c5 ∧ Chg RR w1 w5 ∧ w5.cell? ⟨gl, 0, none⟩ = some v ∧ w5.frozen? ⟨gl, 0, none⟩ = false ∧ Hid (Acc w0 (w5.setCell ⟨gl, 0, none⟩ v5) gl (L ++ [⟨k, A2, c2, d⟩]) (fun x => X x ∨ w.heap.size ≤ x) ∧ Chg RR w1 (w5.setCell ⟨gl, 0, none⟩ v5) ∧ Chg (fun x => x = gl ∨ X x) w (w5.setCell ⟨gl, 0, none⟩ v5)) from by
    intro A2 c2 w2 ho hb
    obtain ⟨h2, h3, h4, h5⟩ := HH.out
    have hB2 : Below w.heap.size w w2 := HBW.out.trans (hb.out.mono HBW.out.size)
    obtain ⟨w4, hw4⟩ : ∃ z, z = w2.alloc (.cells (k.cells ++ [Value.slice A2 d.length c2]).toArray 105) := ⟨_, rfl⟩
    have hB4 : Below w.heap.size w w4 := by rw [hw4]; exact hB2.alloc hB2.size _
    have hB24 : Below w2.heap.size w2 w4 := by rw [hw4]; exact (Below.refl _ _).alloc (Nat.le_refl _) _
    have hB14 : Below w1.heap.size w1 w4 := hb.out.trans (hB24.mono hb.out.size)
    have hs4 : w4.heap.size = w2.heap.size + 1 := by rw [hw4]; simp
    have hrow : w4.heap[w2.heap.size]? = some (.cells (Pc.cells ⟨k, A2, c2, d⟩).toArray 105 (0, 0)) := by rw [hw4]; exact heap_alloc_last _ _
    rw [← hw4]
    have hws := HBW.out.size
    have hws2 := hB2.size
    have hbl := HAC.out.bel.size
    refine ⟨World.ownsRow.kept h2 (below_grown hB4 none) (by cases v.ownBlock <;> simp), fun j u hj => ?_, by omega, (hB14.cell (p := ⟨gl, 0, none⟩) (by show gl < _; omega)).trans HCL.out, fun v5 w5 e1 e2 e3 => ?_⟩
    · have ea : (⟨w2.heap.size, 0, none⟩ : Addr).add j = ⟨w2.heap.size, j, none⟩ := by unfold Addr.add; split <;> simp_all
      rw [ea]; exact row_at hrow hj
    · have hg4 : gl < w4.heap.size := by omega
      have hr5 : w5.heap[gl]? = some (.cells #[v] 77 (0, 0)) := (e2.block gl hg4 (fun e => h4 e.symm)).trans ((hB14.block gl (by omega)).trans HRW.out)
      have hch : Chg RR w1 w5 := (Chg.belowAt hB14).trans2 (Chg.of e2) (fun i _ hi => by rw [HRR.out]; exact .inr hi.symm)
      have hv5 : ∃ A5 n5 c5, v5 = .slice A5 n5 c5 := by
        obtain ⟨_, h⟩ := e1
        rcases h with ⟨h, _⟩ | ⟨g, cap, cur, h, _⟩
        · exact ⟨_, _, _, h⟩
        · exact ⟨_, _, _, h⟩
      obtain ⟨A5, n5, c5, rfl⟩ := hv5
      have hat5 : ∀ x, Value.ownBlock (.slice A5 n5 c5) = some x → v.ownBlock = some x ∨ x = w4.heap.size := fun x hx => by
        rcases e3 with h | h
        · left; rw [← h]; exact hx
        · right; rw [h] at hx; injection hx with hx; exact hx.symm
      have hne5 : Value.ownBlock (.slice A5 n5 c5) ≠ some gl := fun e => by
        rcases hat5 gl e with h | h
        · exact h4 h
        · omega
      have hgs := grown_setCell w5 gl 0 (.slice A5 n5 c5)
      have hG : Chg RR w1 (w5.setCell ⟨gl, 0, none⟩ (.slice A5 n5 c5)) := hch.trans2 (Chg.of hgs) (fun i _ hi => by rw [HRR.out]; injection hi with hi; exact .inl hi)
      refine ⟨A5, n5, c5, rfl, hch, by rw [cell_of_row _ _ _ _ _ _ hr5]; rfl, free_row hr5 0, ⟨⟨⟨.slice A5 n5 c5, fun x hx => (hat5 x hx).elim (fun h => .inl (H0.out x h)) (fun h => .inr (by omega)), ?_, ⟨?_, ?_⟩, hne5, ?_⟩, HAC.out.ge, ?_⟩, hG, (Chg.belowAt HBW.out).trans2 hG (fun x _ hx => by rw [HRR.out] at hx; exact hx.imp (fun h => h) (fun h => H0.out x h))⟩⟩
      · rw [setCell_row hr5]; rfl
      · refine World.ownsRow.kept (w := w5) ?_ hgs (.inr hne5)
        rw [List.length_append, List.length_singleton, flatP, List.flatMap_append]
        simpa [flatP] using e1
      · intro p hp
        have hold : ∀ {B : Option Addr} {l : List Int}, Ints .u8 w2 B l → (∀ ad, B = some ad → ad.block ≠ gl ∧ v.ownBlock ≠ some ad.block) → Ints .u8 (w5.setCell ⟨gl, 0, none⟩ (.slice A5 n5 c5)) B l := by
          intro B l hi hb'
          refine ((hi.below hB24).grown e2 (fun ad e _ h => (hb' ad e).2 h.symm)).grown hgs (fun ad e _ h => (hb' ad e).1 (by injection h))
        rcases List.mem_append.1 hp with hp | hp
        · have hk := h3 p hp
          exact ⟨hk.key, hold (hk.ints.below hB2) (fun ad e => (h5 p hp ad e).2.2), hk.byt, hk.cap, hk.nil⟩
        · simp at hp; subst hp
          obtain ⟨A', c', e', hc', hi', hA'⟩ := ho.out.ints
          injection e' with ea eb ec
          subst ea ec
          refine ⟨hk, hold hi' (fun ad e => ?_), HB.out, hc', OwnB.nilA ho.out⟩
          have := (hA' ad e).1
          refine ⟨by omega, fun h => ?_⟩
          have := (hvl _ h).2; omega
      · intro p hp ad e
        rcases List.mem_append.1 hp with hp | hp
        · have h := h5 p hp ad e
          refine ⟨h.1, by have := e2.size; have := hgs.size; omega, h.2.2.1, fun e5 => ?_⟩
          rcases hat5 _ e5 with h6 | h6
          · exact h.2.2.2 h6
          · omega
        · simp at hp; subst hp
          obtain ⟨A', c', e', hc', hi', hA'⟩ := ho.out.ints
          injection e' with ea eb ec
          subst ea ec
          have h7 := hA' ad e
          refine ⟨by omega, by have := e2.size; have := hgs.size; omega, by omega, fun e5 => ?_⟩
          rcases hat5 _ e5 with h6 | h6
          · have := (hvl _ h6).2; omega
          · omega
      · exact (HAC.out.bel.trans (hB4.mono hbl)).grown e2 (by omega) (fun x hx => (h2.lt x hx).1) |>.grown hgs (by have := e2.size; omega) (fun x hx => by injection hx with hx; rw [← hx]; exact HAC.out.ge))
  clear h0 h1 h2 h3 h4 h5 hAcc hI hB hn cl hr3 hbw hw1 hRR hg3
  --[
  refine wp_region_held_drew (S := fun w' => Chg RR w1 w') (by kernel_rfl) ((Chg.refl _ _).drewN 1) (fun hHeld => ?_)
  refine held_take 1 (some 6) (v := .agg (k.cells).toArray) rfl rfl (by kernel_rfl) (by kernel_rfl) (by kernel_rfl) (fun _ _ _ h => h) (yieldsIf_load_mid (by rfl) 64 _ rfl g3 (0) rfl (k.cells) _ (fun w' h => rangeAt_block HK1.out (h.block g3 HG3L.out HG3R.out)) Tryz.underlying64 rfl (sizeK hk)) hHeld ?_
  try simp only [Act.put, List.setIfInBounds_toArray, List.set_cons_zero, List.set_cons_succ]
  refine held_take 2 (some 7) (v := ?_) rfl rfl (by kernel_rfl) (by kernel_rfl) (by kernel_rfl) (fun _ _ _ h => h) (Or.inl ⟨by rfl, ?_⟩) hHeld ?_
  rotate_left
  · (intro w' hSw; clear hSw; go_simp; try with_reducible rfl)
  try simp only [Act.put, List.setIfInBounds_toArray, List.set_cons_zero, List.set_cons_succ]
  refine wpAnyH_ready (rs := [0, 3]) (by kernel_rfl) (by simp) ?_
  refine AllReadyH.cons rfl (fun K hKK => ?_) (AllReadyH.cons rfl (fun K hKK => ?_) AllReadyH.nil)
  · go_simp
    try simp only [HCL.out]
    go_simp
    refine hKK.out _ _ ((Chg.refl _ _).drewN 1) (fun hHeld => ?_)
    clear hKK K
    try simp only [Act.put, List.setIfInBounds_toArray, List.set_cons_zero, List.set_cons_succ]
    refine wpAnyH_ready (rs := [3]) (by kernel_rfl) (by simp) ?_
    refine AllReadyH.cons rfl (fun K hKK => ?_) AllReadyH.nil
    refine step_app EB rfl (.const (.slice none 0 0)) (.tmp 7) rfl w1.heap.size (.slice none 0 0) 0 [] (by go_simp) (World.ownsRow_nil _ _ _ _) A n c (d.map (Value.int .u8)) (by go_simp) hA HL.out HI1.out.news (ints_one _ _) (by unfold maxLen; omega) (by omega) (Nat.le_refl _) ?_
    intro v2 w2 hown2 hgrow2 _
    obtain ⟨A2, c2, rfl, ho2, hb2, hc2, hcl2, hrow2⟩ := HA2.out v2 w2 hown2 hgrow2
    clear hown2 hgrow2
    refine hKK.out _ _ hc2.out (fun hHeld => ?_)
    clear hKK K
    try simp only [Act.put, List.setIfInBounds_toArray, List.set_cons_zero, List.set_cons_succ]
    have HBLD := Lib.hid (build_piece k hk A2 d.length c2)
    refine held_take 4 (some 9) (v := .agg (Pc.cells ⟨k, A2, c2, d⟩).toArray) rfl rfl (by kernel_rfl) (by kernel_rfl) (by kernel_rfl) (fun _ _ _ h => h) (yields_val (by go_simp) (fun W _ => exec_build _ _ rfl #[(0, .agg k.cells.toArray), (1, .slice A2 d.length c2)] (by go_simp) (HBLD.out W))) hHeld ?_
    try simp only [Act.put, List.setIfInBounds_toArray, List.set_cons_zero, List.set_cons_succ]
    have HP2 := Lib.hid (HPU.out A2 c2 w2 ho2 hb2)
    refine wpAnyH_ready (rs := [5]) (by kernel_rfl) (by simp) ?_
    refine AllReadyH.cons rfl (fun K hKK => ?_) AllReadyH.nil
    refine step_val rfl (exec_buildSlice _ _ _ rfl #[(0, .agg (k.cells ++ [Value.slice A2 d.length c2]).toArray)] (by go_simp; try rfl) (HBS.out A2 d.length c2 w2)) ?_
    refine hKK.out _ _ (hc2.out.alloc _) (fun hHeld => ?_)
    clear hKK K
    try simp only [Act.put, List.setIfInBounds_toArray, List.set_cons_zero, List.set_cons_succ]
    refine wpAnyH_ready (rs := [6]) (by kernel_rfl) (by simp) ?_
    refine AllReadyH.cons rfl (fun K hKK => ?_) AllReadyH.nil
    refine step_app EP rfl (.tmp 5) (.tmp 10) rfl w0.heap.size v L.length (flatP L) (by go_simp) HP2.out.1 (some ⟨w2.heap.size, 0, none⟩) 1 1 (Pc.cells ⟨k, A2, c2, d⟩) (by go_simp) (fun h => by cases h) (Pc.cells_length (p := ⟨k, A2, c2, d⟩) hk) (fun j u hj => ⟨_, rfl, HP2.out.2.1 j u hj⟩) (Pc.cells_one _) (by unfold maxLen; omega) (by omega) HP2.out.2.2.1 ?_
    intro v5 w5 hown5 hgrow5 hat5
    obtain ⟨A5, n5, c5, hv5, hch5, hcl5, hfr5, hfin⟩ := HP2.out.2.2.2.2 v5 w5 hown5 hgrow5 hat5
    subst hv5
    clear hown5 hgrow5 hat5
    refine hKK.out _ _ hch5 (fun hHeld => ?_)
    clear hKK K
    try simp only [Act.put, List.setIfInBounds_toArray, List.set_cons_zero, List.set_cons_succ]
    refine wpAnyH_ready (rs := [7]) (by kernel_rfl) (by simp) ?_
    refine AllReadyH.cons rfl (fun K hKK => ?_) AllReadyH.nil
    go_simp
    try simp only [hcl5, hfr5]
    go_simp
    refine hKK.out _ _ (hfin.out.2.1) (fun hHeld => ?_)
    clear hKK K
    try simp only [Act.put, List.setIfInBounds_toArray, List.set_cons_zero, List.set_cons_succ]
    refine wpAnyH_done (by kernel_rfl) ?_ _
    go_wp2
    go_end0
    exact ⟨rfl, hfin.out.2.2, ⟨k, A2, c2, d⟩, hfin.out.1, rfl, rfl⟩
  · refine step_app EB rfl (.const (.slice none 0 0)) (.tmp 7) rfl w1.heap.size (.slice none 0 0) 0 [] (by go_simp) (World.ownsRow_nil _ _ _ _) A n c (d.map (Value.int .u8)) (by go_simp) hA HL.out HI1.out.news (ints_one _ _) (by unfold maxLen; omega) (by omega) (Nat.le_refl _) ?_
    intro v2 w2 hown2 hgrow2 _
    obtain ⟨A2, c2, rfl, ho2, hb2, hc2, hcl2, hrow2⟩ := HA2.out v2 w2 hown2 hgrow2
    clear hown2 hgrow2
    refine hKK.out _ _ hc2.out (fun hHeld => ?_)
    clear hKK K
    try simp only [Act.put, List.setIfInBounds_toArray, List.set_cons_zero, List.set_cons_succ]
    have HBLD := Lib.hid (build_piece k hk A2 d.length c2)
    refine held_take 4 (some 9) (v := .agg (Pc.cells ⟨k, A2, c2, d⟩).toArray) rfl rfl (by kernel_rfl) (by kernel_rfl) (by kernel_rfl) (fun _ _ _ h => h) (yields_val (by go_simp) (fun W _ => exec_build _ _ rfl #[(0, .agg k.cells.toArray), (1, .slice A2 d.length c2)] (by go_simp) (HBLD.out W))) hHeld ?_
    try simp only [Act.put, List.setIfInBounds_toArray, List.set_cons_zero, List.set_cons_succ]
    have HP2 := Lib.hid (HPU.out A2 c2 w2 ho2 hb2)
    refine wpAnyH_ready (rs := [0, 5]) (by kernel_rfl) (by simp) ?_
    refine AllReadyH.cons rfl (fun K hKK => ?_) (AllReadyH.cons rfl (fun K hKK => ?_) AllReadyH.nil)
    · go_simp
      try simp only [hcl2.out]
      go_simp
      refine hKK.out _ _ hc2.out (fun hHeld => ?_)
      clear hKK K
      try simp only [Act.put, List.setIfInBounds_toArray, List.set_cons_zero, List.set_cons_succ]
      refine wpAnyH_ready (rs := [5]) (by kernel_rfl) (by simp) ?_
      refine AllReadyH.cons rfl (fun K hKK => ?_) AllReadyH.nil
      refine step_val rfl (exec_buildSlice _ _ _ rfl #[(0, .agg (k.cells ++ [Value.slice A2 d.length c2]).toArray)] (by go_simp; try rfl) (HBS.out A2 d.length c2 w2)) ?_
      refine hKK.out _ _ (hc2.out.alloc _) (fun hHeld => ?_)
      clear hKK K
      try simp only [Act.put, List.setIfInBounds_toArray, List.set_cons_zero, List.set_cons_succ]
      refine wpAnyH_ready (rs := [6]) (by kernel_rfl) (by simp) ?_
      refine AllReadyH.cons rfl (fun K hKK => ?_) AllReadyH.nil
      refine step_app EP rfl (.tmp 5) (.tmp 10) rfl w0.heap.size v L.length (flatP L) (by go_simp) HP2.out.1 (some ⟨w2.heap.size, 0, none⟩) 1 1 (Pc.cells ⟨k, A2, c2, d⟩) (by go_simp) (fun h => by cases h) (Pc.cells_length (p := ⟨k, A2, c2, d⟩) hk) (fun j u hj => ⟨_, rfl, HP2.out.2.1 j u hj⟩) (Pc.cells_one _) (by unfold maxLen; omega) (by omega) HP2.out.2.2.1 ?_
      intro v5 w5 hown5 hgrow5 hat5
      obtain ⟨A5, n5, c5, hv5, hch5, hcl5, hfr5, hfin⟩ := HP2.out.2.2.2.2 v5 w5 hown5 hgrow5 hat5
      subst hv5
      clear hown5 hgrow5 hat5
      refine hKK.out _ _ hch5 (fun hHeld => ?_)
      clear hKK K
      try simp only [Act.put, List.setIfInBounds_toArray, List.set_cons_zero, List.set_cons_succ]
      refine wpAnyH_ready (rs := [7]) (by kernel_rfl) (by simp) ?_
      refine AllReadyH.cons rfl (fun K hKK => ?_) AllReadyH.nil
      go_simp
      try simp only [hcl5, hfr5]
      go_simp
      refine hKK.out _ _ (hfin.out.2.1) (fun hHeld => ?_)
      clear hKK K
      try simp only [Act.put, List.setIfInBounds_toArray, List.set_cons_zero, List.set_cons_succ]
      refine wpAnyH_done (by kernel_rfl) ?_ _
      go_wp2
      go_end0
      exact ⟨rfl, hfin.out.2.2, ⟨k, A2, c2, d⟩, hfin.out.1, rfl, rfl⟩
    · refine step_val rfl (exec_buildSlice _ _ _ rfl #[(0, .agg (k.cells ++ [Value.slice A2 d.length c2]).toArray)] (by go_simp; try rfl) (HBS.out A2 d.length c2 w2)) ?_
      refine hKK.out _ _ (hc2.out.alloc _) (fun hHeld => ?_)
      clear hKK K
      try simp only [Act.put, List.setIfInBounds_toArray, List.set_cons_zero, List.set_cons_succ]
      refine wpAnyH_ready (rs := [0]) (by kernel_rfl) (by simp) ?_
      refine AllReadyH.cons rfl (fun K hKK => ?_) AllReadyH.nil
      go_simp
      have hcl4 := HP2.out.2.2.2.1
      try simp only [hcl4]
      go_simp
      refine hKK.out _ _ (hc2.out.alloc _) (fun hHeld => ?_)
      clear hKK K
      try simp only [Act.put, List.setIfInBounds_toArray, List.set_cons_zero, List.set_cons_succ]
      refine wpAnyH_ready (rs := [6]) (by kernel_rfl) (by simp) ?_
      refine AllReadyH.cons rfl (fun K hKK => ?_) AllReadyH.nil
      refine step_app EP rfl (.tmp 5) (.tmp 10) rfl w0.heap.size v L.length (flatP L) (by go_simp) HP2.out.1 (some ⟨w2.heap.size, 0, none⟩) 1 1 (Pc.cells ⟨k, A2, c2, d⟩) (by go_simp) (fun h => by cases h) (Pc.cells_length (p := ⟨k, A2, c2, d⟩) hk) (fun j u hj => ⟨_, rfl, HP2.out.2.1 j u hj⟩) (Pc.cells_one _) (by unfold maxLen; omega) (by omega) HP2.out.2.2.1 ?_
      intro v5 w5 hown5 hgrow5 hat5
      obtain ⟨A5, n5, c5, hv5, hch5, hcl5, hfr5, hfin⟩ := HP2.out.2.2.2.2 v5 w5 hown5 hgrow5 hat5
      subst hv5
      clear hown5 hgrow5 hat5
      refine hKK.out _ _ hch5 (fun hHeld => ?_)
      clear hKK K
      try simp only [Act.put, List.setIfInBounds_toArray, List.set_cons_zero, List.set_cons_succ]
      refine wpAnyH_ready (rs := [7]) (by kernel_rfl) (by simp) ?_
      refine AllReadyH.cons rfl (fun K hKK => ?_) AllReadyH.nil
      go_simp
      try simp only [hcl5, hfr5]
      go_simp
      refine hKK.out _ _ (hfin.out.2.1) (fun hHeld => ?_)
      clear hKK K
      try simp only [Act.put, List.setIfInBounds_toArray, List.set_cons_zero, List.set_cons_succ]
      refine wpAnyH_done (by kernel_rfl) ?_ _
      go_wp2
      go_end0
      exact ⟨rfl, hfin.out.2.2, ⟨k, A2, c2, d⟩, hfin.out.1, rfl, rfl⟩
  --]
end Go.Proofs.YtcklcffepedklaaGreat

namespace Go.Proofs.YtcklcffepedklaaGreat
open Go.RowKit Go.Maps

theorem lenP_drop {L : List Pc} {i : Nat} {p : Pc} (h : L[i]? = some p) : lenP (L.drop i) = p.data.length + lenP (L.drop (i + 1)) := by
  have h1 := lenP_append (L.take i) (L.drop i)
  have h2 := lenP_append (L.take (i + 1)) (L.drop (i + 1))
  rw [List.take_append_drop] at h1 h2
  have := lenP_take h
  omega
theorem lenP_split (L : List Pc) (i : Nat) : lenP L = lenP (L.take i) + lenP (L.drop i) := by
  have h1 := lenP_append (L.take i) (L.drop i)
  rwa [List.take_append_drop] at h1
/-- The key and the bytes of a piece. -/
def kd (p : Pc) : Ky × List Int := (p.key, p.data)

theorem addr_add (g o m : Nat) : (⟨g, o, none⟩ : Addr).add m = ⟨g, o + m, none⟩ := by unfold Addr.add; split <;> simp_all
theorem list_split {L : List Pc} {i : Nat} {p : Pc} (h : L[i]? = some p) : L = L.take i ++ p :: L.drop (i + 1) := by
  have hi : i < L.length := by
    rcases Nat.lt_or_ge i L.length with h1 | h1
    · exact h1
    · rw [List.getElem?_eq_none h1] at h; cases h
  have hp : L[i] = p := by rw [List.getElem?_eq_getElem hi] at h; injection h
  conv => lhs; rw [← List.take_append_drop i L]
  rw [List.drop_eq_getElem_cons hi, hp]
theorem body_row {id : Nat} {L : List Pc} {i : Nat} {p : Pc} (hk : ∀ p ∈ L, p.key.Ok) (h : L[i]? = some p) : ((bodyL id L).drop (6 + 38 * i)).take 38 = rowL p := by
  have hi : i ≤ L.length := by
    rcases Nat.lt_or_ge i L.length with h1 | h1
    · omega
    · rw [List.getElem?_eq_none h1] at h; cases h
  have e : bodyL id L = (headL id L.length ++ rowsL (L.take i)) ++ (rowL p ++ (rowsL (L.drop (i + 1)) ++ dataL L)) := by
    unfold bodyL
    conv => lhs; rw [show rowsL L = rowsL (L.take i ++ p :: L.drop (i + 1)) from by rw [← list_split h]]
    simp [rowsL, List.flatMap_append, List.flatMap_cons]
  have hl : (headL id L.length ++ rowsL (L.take i)).length = 6 + 38 * i := by
    rw [List.length_append, headL_length, rowsL_length (fun q hq => hk q (List.mem_of_mem_take hq)), List.length_take, Nat.min_eq_left hi]
  rw [e, List.drop_append_of_le_length (by omega), List.drop_of_length_le (by omega), List.nil_append, List.take_append_of_le_length (by rw [rowL_length (hk p (List.mem_of_getElem? h))]; omega), List.take_of_length_le (by rw [rowL_length (hk p (List.mem_of_getElem? h))]; omega)]
theorem body_data {id : Nat} {L : List Pc} {i : Nat} {p : Pc} (hk : ∀ p ∈ L, p.key.Ok) (h : L[i]? = some p) : ((bodyL id L).drop (6 + L.length * 38 + lenP (L.take i))).take p.data.length = p.data := by
  have e : bodyL id L = (headL id L.length ++ rowsL L ++ dataL (L.take i)) ++ (p.data ++ dataL (L.drop (i + 1))) := by
    unfold bodyL
    conv => lhs; rw [show dataL L = dataL (L.take i ++ p :: L.drop (i + 1)) from by rw [← list_split h]]
    simp [dataL, List.flatMap_append, List.flatMap_cons]
  have hl : (headL id L.length ++ rowsL L ++ dataL (L.take i)).length = 6 + L.length * 38 + lenP (L.take i) := by
    rw [List.length_append, List.length_append, headL_length, rowsL_length hk, dataL_length]; omega
  rw [e, List.drop_append_of_le_length (by omega), List.drop_of_length_le (by omega), List.nil_append, List.take_append_of_le_length (Nat.le_refl _), List.take_of_length_le (Nat.le_refl _)]

/-- At each round of each. -/
structure EaR (w0 w1 : World) (gl g cx id : Nat) (L : List Pc) (i : Nat) (v12 : Value) (w' : World) : Prop where
  dat : ∃ o c, v12 = .slice (some ⟨g, o, none⟩) (lenP (L.drop i)) c ∧ (lenP (L.drop i) = 0 ∨ (o = 6 + L.length * 38 + lenP (L.take i) ∧ c = cx - o))
  acc : ∃ Q X, Acc w0 w' gl Q X ∧ (∀ x, X x → x < w'.heap.size) ∧ ¬ X g ∧ Q.map kd = (L.take i).map kd
  row : Ints .u8 w' (some ⟨g, 0, none⟩) (bodyL id L)
  glt : g < w'.heap.size
  ne : g ≠ gl
/-- Behind the key's being read. -/
structure Fin9 (w5 : World) (r5 q : Nat) (k : Ky) (G : Nat) (w9 : World) : Prop where
  row : w9.heap[G]? = some (.cells k.cells.toArray 64 (0, 0))
  chg : Chg (fun x => x = r5) w5 w9
  rd : Rd w9 r5 (beL q 2)
  ge : w5.heap.size ≤ G
theorem Fin9.mk1 {w5 w6 : World} {r5 q G : Nat} {k : Ky} {old : Array Value} (hr : w6.heap[G]? = some (.cells old 64 (0, 0))) (hc : Chg (fun x => x = r5) w5 w6) (hd : Rd w6 r5 (beL q 2)) (hG : w5.heap.size ≤ G) (hr5 : r5 < w5.heap.size) : Fin9 w5 r5 q k G (w6.setRow G k.cells.toArray) := by
  have hg := grown_setRow w6 G k.cells.toArray
  refine ⟨setRow_heap _ _ _ _ _ _ hr, hc.trans2 (Chg.of hg) (fun x hx e => by injection e with e; omega), ?_, hG⟩
  obtain ⟨A, c, h1, h2, h3, h4⟩ := hd.ex
  exact ⟨⟨A, c, (hg.block r5 (row_lt h1) (fun e => by injection e with e; omega)).trans h1, h2.grown hg (fun ad e _ h => by have := h4 ad e; injection h with h; omega), h3, h4⟩, hd.byt⟩

set_option maxRecDepth 20000 in
set_option maxHeartbeats 3200000 in
theorem each_take (w0 w : World) (gl id : Nat) (L : List Pc) (A : Option Addr) (n c N : Nat) (hid : id < 4294967296) (hN : L.length = N) (hN0 : 0 < N) (hO : PcOk L) (hK : ∀ p ∈ L, p.key.Ok ∧ Bytes p.data) (hn : (contL id L).length = n) (hnc : n ≤ c)
    (hI : Ints .u8 w A (contL id L)) (hAcc : Acc w0 w gl [] (fun _ => False)) :
    Calls Tryz.prog 109 #[.slice A n c, .func (.func 110) #[] #[.pointer (some ⟨gl, 0, none⟩)]] w fun e w' => e = .returned (.tuple #[.int .u32 id, .bool true]) ∧ ∃ Q X, Acc w0 w' gl Q X ∧ Q.map kd = L.map kd := by
  have hkk : ∀ p ∈ L, p.key.Ok := fun p hp => (hK p hp).1
  have hBY := bodyL_bytes (id := id) hK
  have hbl := bodyL_length (id := id) hkk
  obtain ⟨D, hD⟩ : ∃ D, lenP L = D := ⟨_, rfl⟩
  rw [hN, hD] at hbl
  have hcl := contL_length (id := id) hkk
  rw [hn, hN, hD] at hcl
  have hsz := hO.size
  have hnum := hO.num
  rw [hN, hD] at hsz
  rw [hN] at hnum
  have hD0 : 0 < D := by
    obtain ⟨p, hp⟩ : ∃ p, L[0]? = some p := ⟨L[0], List.getElem?_eq_getElem (by omega)⟩
    have h1 := lenP_drop hp
    have h2 := (hO.some_ p (List.mem_of_getElem? hp)).1
    rw [List.drop_zero, hD] at h1; omega
  have HOP := Lib.hid (Open_yes A n c (bodyL id L) w (by rw [hbl]; omega) hnc (by omega) hI hBY)
  have HK := Lib.hid hK
  have HN := Lib.hid hN
  have HO := Lib.hid hO
  have HD := Lib.hid hD
  have HAC := Lib.hid hAcc
  have HBL := Lib.hid hbl
  have HBY := Lib.hid hBY
  clear hN hO hK hn hI hAcc hkk hBY hbl hD hcl hnc
  go_enter Tryz.func109, Tryz.ntmps109
  go_wp2_with fail
  refine HOP.out.mono ?_
  rintro e w1 ⟨v1, rfl, ho1, hb1⟩
  obtain ⟨A1, cx, rfl, hcx, hI1, hA1⟩ := ho1.ints
  have hform : ∃ g, A1 = some ⟨g, 0, none⟩ := by
    obtain ⟨_, h⟩ := ho1
    rcases h with ⟨h, h0⟩ | ⟨g, cap, cur, h, _⟩
    · have := HBL.out; omega
    · injection h with h; exact ⟨g, h⟩
  obtain ⟨g, rfl⟩ := hform
  rw [HBL.out] at hcx ⊢
  have HI1 := Lib.hid hI1
  have hg := (hA1 _ rfl).2
  have hge := Lib.hid (hA1 _ rfl).1
  have HAC1 := Lib.hid (HAC.out.below hb1)
  have HIH := Lib.hid (show Ints .u8 w1 (some ⟨g, 0, none⟩) (headL id N) by
    have h := hI1.take 6
    rw [bodyL, List.append_assoc, List.take_append_of_le_length (by rw [headL_length]; omega), List.take_of_length_le (by rw [headL_length]; omega), HN.out] at h
    exact h)
  have HRN := Lib.hid (RNew_any (some ⟨g, 0, none⟩) 6 cx (headL id N) w1 (headL_length _ _) (by omega) HIH.out (headL_bytes _ _) (fun h => by cases h))
  clear ho1 hI1 hA1 hb1
  have h6 : ¬ (6 + 38 * N + D < 6) := by omega
  have h6' : 6 ≤ cx := by omega
  go_wp2_with fail
  refine HRN.out.mono ?_
  rintro e w2 ⟨r, rfl, hr, hrd, hb2⟩
  have HB2 := Lib.hid hb2
  have hrlt := hrd.lt
  have HG1 := Lib.hid (Get_any r (headL id N) 4 w2 hrd (by decide) (by decide) (by rw [headL_length]; omega))
  have ht4 : (headL id N).take 4 = beL id 4 := by rw [headL, List.take_append_of_le_length (by rw [beL_length]; omega), List.take_of_length_le (by rw [beL_length]; omega)]
  have hd4 : (headL id N).drop 4 = beL N 2 := by rw [headL, List.drop_append_of_le_length (by rw [beL_length]; omega), List.drop_of_length_le (by rw [beL_length]; omega), List.nil_append]
  rw [ht4, numL_be id 4 (by omega), hd4] at HG1
  clear ht4 hd4 hrd hb2 HRN h6 h6'
  go_wp2_with fail
  refine HG1.out.mono ?_
  rintro e w3 ⟨rfl, hg3, hrd3⟩
  have HB3 := Lib.hid (HB2.out.grown hg3 HB2.out.size (fun k hk => by injection hk with hk; rw [← hk]; exact hr))
  have HG2 := Lib.hid (Get_any r (beL N 2) 2 w3 hrd3 (by decide) (by decide) (by rw [beL_length]; omega))
  rw [List.take_of_length_le (by rw [beL_length]; omega), numL_be N 2 (by omega)] at HG2
  have hwi : IntKind.u32.wrap (id : Int) = (id : Int) := by rw [IntKind.wrap_u32]; omega
  have hwn : IntKind.i64.wrap (N : Int) = (N : Int) := by rw [IntKind.wrap_i64]; omega
  clear hg3 hrd3 HG1
  go_wp2_with fail
  refine HG2.out.mono ?_
  rintro e w4 ⟨rfl, hg4, _⟩
  have HB4 := Lib.hid (HB3.out.grown hg4 HB3.out.size (fun k hk => by injection hk with hk; rw [← hk]; exact hr))
  clear hg4 HG2
  have hq : (N : Int) ≤ (6 + 38 * (N : Int) + (D : Int) - 6) / 38 := by omega
  have h81 : 6 ≤ 6 + N * 38 := by omega
  have h82 : 6 + N * 38 ≤ cx := by omega
  have h83 : 6 + N * 38 ≤ 6 + 38 * N + D := by omega
  have h84 : ¬ cx = 6 + N * 38 := by omega
  have h85 : ¬ cx = 6 := by omega
  go_upto_region 8 with (fail)
  go_quiet (fail)
  have HE := Lib.hid (show EaR w0 w1 gl g cx id L 0 (.slice (some ⟨g, 6 + N * 38, none⟩) D (cx - (6 + N * 38))) (w4.drewN nq) from by
    have hb : Below w1.heap.size w1 (w4.drewN nq) := below_drewN HB4.out nq
    refine ⟨⟨_, _, by rw [List.drop_zero, HD.out], .inr ⟨by rw [HN.out, List.take_zero]; rfl, rfl⟩⟩, ⟨[], _, HAC1.out.below hb, fun x hx => hx.elim, fun hx => hx, rfl⟩, HI1.out.below hb, ?_, ?_⟩
    · have := hb.size; omega
    · intro e
      obtain ⟨v, _, h1, _⟩ := HAC.out.ex
      have h3 := row_lt h1
      have h4 := hge.out
      omega)
  go_wp2_with fail
  rw [show 6 + 38 * N + D - (6 + N * 38) = D from by omega, show 6 + N * 38 - 6 = N * 38 from by omega]
  go_loopg [11, 12] N (fun kq v11 v12 w' => ∃ i o l cc, i + kq = N ∧ v11 = .slice (some ⟨g, o, none⟩) l cc ∧ Hid (o = 6 + 38 * i ∧ l = 38 * kq ∧ cc = cx - (6 + 38 * i)) ∧ EaR w0 w1 gl g cx id L i v12 w')
  case atStart => exact ⟨0, 6, _, _, by omega, rfl, Lib.hid ⟨rfl, by omega, by omega⟩, HE.out⟩
  case round =>
    obtain ⟨i, o, l, cc, hi, rfl, heq, hE⟩ := hrel
    have HEE := Lib.hid hE
    cases gk with
    | zero =>
      obtain ⟨Q, X, hA, _, _, hQ⟩ := hE.acc
      obtain ⟨od, cd, hdv, _⟩ := hE.dat
      obtain rfl : i = N := by omega
      have hdl : lenP (L.drop i) = 0 := by rw [List.drop_of_length_le (by rw [HN.out]; exact Nat.le_refl _)]; rfl
      rw [hdl] at hdv
      subst hdv
      have hl0 : l = 0 := by have := heq.out; omega
      subst hl0
      have HA := Lib.hid hA
      have HQ := Lib.hid (show Q.map kd = L.map kd by rw [hQ, List.take_of_length_le (by rw [HN.out]; exact Nat.le_refl _)])
      clear hE hA hQ hdl HE HEE
      go_wp2_with fail
      go_ret2
      exact ⟨rfl, Q, ⟨X, HA.out⟩, HQ.out⟩
    | succ k =>
      obtain ⟨p, hp⟩ : ∃ p, L[i]? = some p := ⟨L[i]'(by rw [HN.out]; omega), List.getElem?_eq_getElem _⟩
      have hpm := List.mem_of_getElem? hp
      obtain ⟨hkp, hbp⟩ := HK.out p hpm
      obtain ⟨hd0, hd1⟩ := HO.out.some_ p hpm
      obtain ⟨Q, X, hA, hX, hXg, hQ⟩ := hE.acc
      obtain ⟨od, cd, hdv, hod⟩ := hE.dat
      have hld := lenP_drop hp
      have hls := lenP_split L i
      rw [HD.out] at hls
      obtain ⟨ho, hl, hcc⟩ := heq.out
      have hod2 := hod.resolve_left (by omega)
      obtain ⟨hod3, hcd⟩ := hod2
      rw [HN.out] at hod3
      subst ho hl hcc
      have hrow : Ints .u8 wr (some ⟨g, 6 + 38 * i, none⟩) (rowL p) := by
        have h := (hE.row.drop (6 + 38 * i)).take 38
        rw [body_row (fun q hq => (HK.out q hq).1) hp, addr_add, Nat.zero_add] at h; exact h
      have hdat : Ints .u8 wr (some ⟨g, od, none⟩) p.data := by
        have h := (hE.row.drop (6 + L.length * 38 + lenP (L.take i))).take p.data.length
        rw [body_data (fun q hq => (HK.out q hq).1) hp, addr_add, Nat.zero_add, HN.out, ← hod3] at h; exact h
      have hrst : Ints .u8 wr (some ⟨g, 6 + 38 * i + 32, none⟩) (restL p) := by
        have h := hrow.drop 32
        rw [rowL, List.drop_append_of_le_length (by rw [hkp.len]; omega), List.drop_of_length_le (by rw [hkp.len]; omega), List.nil_append, addr_add] at h; exact h
      have HRW := Lib.hid hrow
      have HDA := Lib.hid hdat
      obtain ⟨cq, hcq⟩ : ∃ cq, cx - (6 + 38 * i) = cq := ⟨_, rfl⟩
      have HCQ := Lib.hid hcq
      rw [hcq]
      have HRN := Lib.hid (RNew_any (some ⟨g, 6 + 38 * i + 32, none⟩) 6 (cq - 32) (restL p) wr (restL_length p) (by omega) hrst (restL_bytes p) (fun h => by cases h))
      have hpos : (0 : Int) < 38 * ((k : Int) + 1) := by omega
      have h38 : 38 < cq := by omega
      have h32 : ¬ cq = 32 := by omega
      have h38' : ¬ cq = 38 := by omega
      have h32i : (32 : Int) ≤ (cq : Int) := by omega
      have h38i : (38 : Int) ≤ (cq : Int) := by omega
      clear hcq
      subst hdv
      clear hrow hdat hrst heq HE
      have HLD := Lib.hid hld
      have HLS := Lib.hid hls
      have HOD := Lib.hid (And.intro hod3 hcd)
      have HEW := Lib.hid hE
      have HAX := Lib.hid (And.intro hA (And.intro hX (And.intro hXg hQ)))
      obtain ⟨q, hq2⟩ : ∃ q, p.data.length = q := ⟨_, rfl⟩
      obtain ⟨R1, hR1⟩ : ∃ R1, lenP (L.drop (i + 1)) = R1 := ⟨_, rfl⟩
      have hcd1 : q + R1 ≤ cd := by omega
      have HR1 := Lib.hid hR1
      have HQ2 := Lib.hid hq2
      rw [show lenP (L.drop i) = q + R1 from by omega]
      rw [hq2] at hd0 hd1
      have hwk : IntKind.u32.wrap (p.key.n : Int) = (p.key.n : Int) := by have := hkp.lt; rw [IntKind.wrap_u32]; omega
      have hwq : IntKind.i64.wrap (q : Int) = (q : Int) := by rw [IntKind.wrap_i64]; omega
      clear hld hls hod3 hcd hod hE hA hX hXg hQ hq2 hR1
      go_wp2_with fail
      refine HRN.out.mono ?_
      rintro e w5 ⟨r5, rfl, hr5, hrd5, hb5⟩
      have HB5 := Lib.hid hb5
      have hr5l := hrd5.lt
      have hg5 : g < w5.heap.size := by have := HEW.out.glt; have := hb5.size; omega
      have hgr : g ≠ r5 := by have := HEW.out.glt; omega
      have ht4 : (restL p).take 4 = beL p.key.n 4 := by rw [restL, List.take_append_of_le_length (by rw [beL_length]; omega), List.take_of_length_le (by rw [beL_length]; omega)]
      have hd4 : (restL p).drop 4 = beL q 2 := by rw [restL, HQ2.out, List.drop_append_of_le_length (by rw [beL_length]; omega), List.drop_of_length_le (by rw [beL_length]; omega), List.nil_append]
      have HGT := Lib.hid (fun (W : World) (hb : Below w5.heap.size w5 W) => Get_any r5 (restL p) 4 W (hrd5.below hb) (by decide) (by decide) (by rw [restL_length]; omega))
      rw [ht4, numL_be p.key.n 4 (by have := hkp.lt; omega), hd4] at HGT
      have HSM := Lib.hid (show w5.rangeAt g (6 + 38 * i) (p.key.sum.map (Value.int .u8)) from fun j v hj => by
        have hjl : j < p.key.sum.length := by
          rcases Nat.lt_or_ge j p.key.sum.length with h | h
          · exact h
          · rw [List.getElem?_eq_none (by simpa using h)] at hj; cases hj
        obtain ⟨ad, e1, hc⟩ := (HRW.out.below hb5) j (by rw [rowL_length hkp]; have := hkp.len; omega)
        injection e1 with e1; subst e1
        rw [addr_add] at hc
        rw [hc, rowL, List.getD_eq_getElem?_getD, List.getElem?_append_left hjl, List.getElem?_eq_getElem hjl]
        rw [List.getElem?_map, List.getElem?_eq_getElem hjl] at hj
        exact hj)
      have hszS : (Tryz.prog.info? 62).map (·.size) = some (p.key.sum.map (Value.int .u8)).length := by rw [List.length_map, hkp.len]; kernel_rfl
      have HSS := Lib.hid hszS
      have HHK := Lib.hid hkp
      have hat : ∀ W, (Instr.arrayAt 62 (.slice (some ⟨g, 6 + 38 * i, none⟩) 32 cq)).run Tryz.prog W = .ok (.pointer (some ⟨g, 6 + 38 * i, none⟩)) W := fun W => by
        simp [Instr.arrayAt, run_underlying Tryz.underlying62]
      clear ht4 hd4 hrd5 hb5 hszS HRN
      go_upto_region 12 with (fail)
      apply shared
      · intro final
        --[
        refine wp_region_held_drew (S := fun w' => Chg (fun x => x = r5) w5 w') (by kernel_rfl) ((Chg.refl _ _).drewN 1) (fun hHeld => ?_)
        refine held_take 0 (some 61) (v := ?_) rfl rfl (by kernel_rfl) (by kernel_rfl) (by kernel_rfl) (fun _ _ _ h => h) (Or.inl ⟨by rfl, ?_⟩) hHeld ?_
        rotate_left
        · (intro w' hSw; clear hSw; go_simp; try with_reducible rfl)
        try simp only [Act.put, List.setIfInBounds_toArray, List.set_cons_zero, List.set_cons_succ]
        refine held_take 1 (some 62) (v := ?_) rfl rfl (by kernel_rfl) (by kernel_rfl) (by kernel_rfl) (fun _ _ _ h => h) (Or.inl ⟨by rfl, ?_⟩) hHeld ?_
        rotate_left
        · (intro w' hSw; clear hSw; go_simp; try with_reducible rfl)
        try simp only [Act.put, List.setIfInBounds_toArray, List.set_cons_zero, List.set_cons_succ]
        refine held_take 2 (some 63) (v := ?_) rfl rfl (by kernel_rfl) (by kernel_rfl) (by kernel_rfl) (fun _ _ _ h => h) (Or.inl ⟨by rfl, ?_⟩) hHeld ?_
        rotate_left
        · (intro w' hSw; clear hSw; go_simp; try with_reducible rfl)
        try simp only [Act.put, List.setIfInBounds_toArray, List.set_cons_zero, List.set_cons_succ]
        refine held_take 3 (some 64) (v := .agg (p.key.sum.map (Value.int .u8)).toArray) rfl rfl (by kernel_rfl) (by kernel_rfl) (by kernel_rfl) (fun _ _ _ h => h) (yieldsIf_load_mid (by rfl) 62 _ rfl g ((6 + 38 * i)) rfl (p.key.sum.map (Value.int .u8)) _ (fun w' h => rangeAt_block HSM.out (h.block g hg5 hgr)) Tryz.underlying62 rfl HSS.out) hHeld ?_
        try simp only [Act.put, List.setIfInBounds_toArray, List.set_cons_zero, List.set_cons_succ]
        refine held_take 4 (some 65) (v := ?_) rfl rfl (by kernel_rfl) (by kernel_rfl) (by kernel_rfl) (fun _ _ _ h => h) (Or.inl ⟨by rfl, ?_⟩) hHeld ?_
        rotate_left
        · (intro w' hSw; clear hSw; go_simp; try with_reducible rfl)
        try simp only [Act.put, List.setIfInBounds_toArray, List.set_cons_zero, List.set_cons_succ]
        refine wpAnyH_ready (rs := [5, 8]) (by kernel_rfl) (by simp) ?_
        refine AllReadyH.cons rfl (fun K hKK => ?_) (AllReadyH.cons rfl (fun K hKK => ?_) AllReadyH.nil)
        · go_simp
          go_at_call 108
          refine (HGT.out _ ((Below.refl _ _).drew)).mono ?_
          rintro e w6 ⟨rfl, hg6, hrd6⟩
          have hc6 : Chg (fun x => x = r5) w5 w6 := (Chg.belowAt ((Below.refl _ _).drew)).trans2 (Chg.of hg6) (fun x _ e => by injection e)
          refine hKK.out _ _ hc6 (fun hHeld => ?_)
          clear hKK K
          try simp only [Act.put, List.setIfInBounds_toArray, List.set_cons_zero, List.set_cons_succ]
          refine held_take 6 (some 67) (v := ?_) rfl rfl (by kernel_rfl) (by kernel_rfl) (by kernel_rfl) (fun _ _ _ h => h) (Or.inl ⟨by rfl, ?_⟩) hHeld ?_
          rotate_left
          · (intro w' hSw; clear hSw; go_simp; try with_reducible rfl)
          try simp only [Act.put, List.setIfInBounds_toArray, List.set_cons_zero, List.set_cons_succ]
          refine held_take 7 (some 68) (v := .agg p.key.cells.toArray) rfl rfl (by kernel_rfl) (by kernel_rfl) (by kernel_rfl) (fun _ _ _ h => h) (yields_val (by go_simp) (fun W _ => exec_build _ _ rfl #[(0, .agg (p.key.sum.map (Value.int .u8)).toArray), (1, .int .u32 p.key.n)] (by go_simp) (build_key p.key HHK.out W))) hHeld ?_
          try simp only [Act.put, List.setIfInBounds_toArray, List.set_cons_zero, List.set_cons_succ]
          refine wpAnyH_ready (rs := [8]) (by kernel_rfl) (by simp) ?_
          refine AllReadyH.cons rfl (fun K hKK => ?_) AllReadyH.nil
          refine step_val rfl (exec_alloc _ rfl (zeroK _)) ?_
          refine hKK.out _ _ (hc6.alloc _) (fun hHeld => ?_)
          clear hKK K
          try simp only [Act.put, List.setIfInBounds_toArray, List.set_cons_zero, List.set_cons_succ]
          have hrowG := heap_alloc_last w6 (.cells zK 64)
          have hcG := hc6.alloc (.cells zK 64)
          have hrdG := hrd6.below ((Below.refl _ _).alloc (Nat.le_refl _) (.cells zK 64))
          have hgeG : w5.heap.size ≤ w6.heap.size := hc6.size
          have hfin := Fin9.mk1 (q := q) (k := p.key) hrowG hcG hrdG hgeG hr5l
          refine wpAnyH_ready (rs := [9]) (by kernel_rfl) (by simp) ?_
          refine AllReadyH.cons rfl (fun K hKK => ?_) AllReadyH.nil
          refine step_wp rfl (wp_store_row 64 _ _ rfl (w6.heap.size) p.key.cells.toArray rfl rfl 64 zK hrowG (sizeKA HHK.out) (zK_size HHK.out) (all_one (Ky.cells_one _)) ?_)
          refine hKK.out _ _ hfin.chg (fun hHeld => ?_)
          clear hKK K
          try simp only [Act.put, List.setIfInBounds_toArray, List.set_cons_zero, List.set_cons_succ]
          refine wpAnyH_done (by kernel_rfl) ?_ _
          have HFIN := Lib.hid hfin
          clear hfin hrowG hcG hrdG hgeG hHeld
          generalize (w6.alloc (.cells zK 64)).setRow (w6.heap.size) p.key.cells.toArray = w9 at HFIN ⊢
          generalize w6.heap.size = G at HFIN ⊢
          go_simp
          all_goals (revert HFIN w9 G; exact final)
        · refine step_val rfl (exec_alloc _ rfl (zeroK _)) ?_
          refine hKK.out _ _ (((Chg.refl _ _).drewN 1).alloc _) (fun hHeld => ?_)
          clear hKK K
          try simp only [Act.put, List.setIfInBounds_toArray, List.set_cons_zero, List.set_cons_succ]
          refine wpAnyH_ready (rs := [5]) (by kernel_rfl) (by simp) ?_
          refine AllReadyH.cons rfl (fun K hKK => ?_) AllReadyH.nil
          go_simp
          go_at_call 108
          refine (HGT.out _ (((Below.refl _ _).drew.alloc (Nat.le_refl _) _))).mono ?_
          rintro e w6 ⟨rfl, hg6, hrd6⟩
          have hc6 : Chg (fun x => x = r5) w5 w6 := (Chg.belowAt (((Below.refl _ _).drew.alloc (Nat.le_refl _) _))).trans2 (Chg.of hg6) (fun x _ e => by injection e)
          refine hKK.out _ _ hc6 (fun hHeld => ?_)
          clear hKK K
          try simp only [Act.put, List.setIfInBounds_toArray, List.set_cons_zero, List.set_cons_succ]
          refine held_take 6 (some 67) (v := ?_) rfl rfl (by kernel_rfl) (by kernel_rfl) (by kernel_rfl) (fun _ _ _ h => h) (Or.inl ⟨by rfl, ?_⟩) hHeld ?_
          rotate_left
          · (intro w' hSw; clear hSw; go_simp; try with_reducible rfl)
          try simp only [Act.put, List.setIfInBounds_toArray, List.set_cons_zero, List.set_cons_succ]
          refine held_take 7 (some 68) (v := .agg p.key.cells.toArray) rfl rfl (by kernel_rfl) (by kernel_rfl) (by kernel_rfl) (fun _ _ _ h => h) (yields_val (by go_simp) (fun W _ => exec_build _ _ rfl #[(0, .agg (p.key.sum.map (Value.int .u8)).toArray), (1, .int .u32 p.key.n)] (by go_simp) (build_key p.key HHK.out W))) hHeld ?_
          try simp only [Act.put, List.setIfInBounds_toArray, List.set_cons_zero, List.set_cons_succ]
          have hrowG : w6.heap[w5.heap.size]? = some (.cells zK 64 (0, 0)) := (hg6.block _ (row_lt (heap_alloc_last w5.drew (.cells zK 64))) (fun e => by injection e with e; exact absurd e (Nat.ne_of_gt hr5l))).trans (heap_alloc_last w5.drew (.cells zK 64))
          have hcG := hc6
          have hrdG := hrd6
          have hgeG : w5.heap.size ≤ w5.heap.size := Nat.le_refl _
          have hfin := Fin9.mk1 (q := q) (k := p.key) hrowG hcG hrdG hgeG hr5l
          refine wpAnyH_ready (rs := [9]) (by kernel_rfl) (by simp) ?_
          refine AllReadyH.cons rfl (fun K hKK => ?_) AllReadyH.nil
          refine step_wp rfl (wp_store_row 64 _ _ rfl (w5.heap.size) p.key.cells.toArray rfl rfl 64 zK hrowG (sizeKA HHK.out) (zK_size HHK.out) (all_one (Ky.cells_one _)) ?_)
          refine hKK.out _ _ hfin.chg (fun hHeld => ?_)
          clear hKK K
          try simp only [Act.put, List.setIfInBounds_toArray, List.set_cons_zero, List.set_cons_succ]
          refine wpAnyH_done (by kernel_rfl) ?_ _
          have HFIN := Lib.hid hfin
          clear hfin hrowG hcG hrdG hgeG hHeld
          generalize (w6).setRow (w5.heap.size) p.key.cells.toArray = w9 at HFIN ⊢
          generalize w5.heap.size = G at HFIN ⊢
          go_simp
          all_goals (revert HFIN w9 G; exact final)
        --]
      intro w9 G HFIN
      have hg9 : g < w9.heap.size := by have := HFIN.out.chg.size; omega
      have hr9 : r5 < w9.heap.size := by have := HFIN.out.chg.size; omega
      have HG2 := Lib.hid (Get_any r5 (beL q 2) 2 w9 HFIN.out.rd (by decide) (by decide) (by rw [beL_length]; omega))
      rw [List.take_of_length_le (by rw [beL_length]; omega), numL_be q 2 (by omega)] at HG2
      have hqd : ¬ (q : Int) + (R1 : Int) < (q : Int) := by omega
      clear hat
      go_wp2_with fail
      refine HG2.out.mono ?_
      rintro e w10 ⟨rfl, hg10, _⟩
      have hb10 : Below wr.heap.size wr w10 := by
        have h1 : Chg (fun x => x = r5) w5 w10 := HFIN.out.chg.trans2 (Chg.of hg10) (fun x _ e => by injection e)
        exact HB5.out.trans (h1.below (by have := HB5.out.size; omega) (fun x e => by rw [e]; exact hr5))
      have HB10 := Lib.hid hb10
      obtain ⟨hA, hX, hXg, hQ⟩ := HAX.out
      have hgl : gl < wr.heap.size := by obtain ⟨v, _, h1, _⟩ := hA.ex; exact row_lt h1
      have hG5 := HFIN.out.ge
      have hs5 := HB5.out.size
      have hG10 : w10.heap[G]? = some (.cells p.key.cells.toArray 64 (0, 0)) := (hg10.block G (row_lt HFIN.out.row) (fun e => by injection e with e; omega)).trans HFIN.out.row
      have HKR := Lib.hid (show w10.rangeAt G 0 p.key.cells from range_row hG10)
      have HGL := Lib.hid (row_lt hG10)
      have HGN := Lib.hid (show ¬ (G = gl ∨ X G) from fun h => by
        rcases h with h | h
        · omega
        · have := hX G h; omega)
      have HQL := Lib.hid (show Q.length = i by
        have := congrArg List.length hQ
        rw [List.length_map, List.length_map, List.length_take, HN.out] at this; omega)
      have HTK := Lib.hid (Take1_any w0 w10.drew gl Q p.key HHK.out (some ⟨g, od, none⟩) q q p.data HQ2.out (by omega) (by rw [HQL.out]; omega) ((HDA.out.below hb10).below (Below.refl _ _).drew) (HK.out p hpm).2 (fun h => by cases h) X ((hA.below hb10).below (Below.refl _ _).drew))
      have hs10 := hb10.size
      have HX2 := Lib.hid (And.intro hX (And.intro hXg (And.intro hQ hgl)))
      have hqq : (q : Int) ≤ (cd : Int) := by omega
      have hqc : q ≤ cd := by omega
      clear hg10 HFIN HG2 hb10 hA hX hXg hQ hG10 hG5 HAX
      go_upto_region 16 with (fail)
      --<
      refine wp_region_held_drew (S := fun w' => Chg (fun x => x = gl ∨ X x) w10 w') (by kernel_rfl) ((Chg.refl _ _).drewN 1) (fun hHeld => ?_)
      refine held_take 0 (some 76) (v := ?_) rfl rfl (by kernel_rfl) (by kernel_rfl) (by kernel_rfl) (fun _ _ _ h => h) (Or.inl ⟨by rfl, ?_⟩) hHeld ?_
      rotate_left
      · (intro w' hSw; clear hSw; go_simp; try with_reducible rfl)
      try simp only [Act.put, List.setIfInBounds_toArray, List.set_cons_zero, List.set_cons_succ]
      refine held_take 1 (some 77) (v := .agg (p.key.cells).toArray) rfl rfl (by kernel_rfl) (by kernel_rfl) (by kernel_rfl) (fun _ _ _ h => h) (yieldsIf_load_mid (by rfl) 64 _ rfl G (0) rfl (p.key.cells) _ (fun w' h => rangeAt_block HKR.out (h.block G HGL.out HGN.out)) Tryz.underlying64 rfl (sizeK HHK.out)) hHeld ?_
      try simp only [Act.put, List.setIfInBounds_toArray, List.set_cons_zero, List.set_cons_succ]
      refine held_take 2 (some 78) (v := ?_) rfl rfl (by kernel_rfl) (by kernel_rfl) (by kernel_rfl) (fun _ _ _ h => h) (Or.inl ⟨by rfl, ?_⟩) hHeld ?_
      rotate_left
      · (intro w' hSw; clear hSw; go_simp; try with_reducible rfl)
      try simp only [Act.put, List.setIfInBounds_toArray, List.set_cons_zero, List.set_cons_succ]
      refine held_take 3 (some 79) (v := ?_) rfl rfl (by kernel_rfl) (by kernel_rfl) (by kernel_rfl) (fun _ _ _ h => h) (Or.inl ⟨by rfl, ?_⟩) hHeld ?_
      rotate_left
      · (intro w' hSw; clear hSw; go_simp; try with_reducible rfl)
      try simp only [Act.put, List.setIfInBounds_toArray, List.set_cons_zero, List.set_cons_succ]
      refine held_take 4 (some 80) (v := ?_) rfl rfl (by kernel_rfl) (by kernel_rfl) (by kernel_rfl) (fun _ _ _ h => h) (Or.inl ⟨by rfl, ?_⟩) hHeld ?_
      rotate_left
      · (intro w' hSw; clear hSw; go_simp; try with_reducible rfl)
      try simp only [Act.put, List.setIfInBounds_toArray, List.set_cons_zero, List.set_cons_succ]
      refine held_take 5 (some 81) (v := ?_) rfl rfl (by kernel_rfl) (by kernel_rfl) (by kernel_rfl) (fun _ _ _ h => h) (Or.inl ⟨by rfl, ?_⟩) hHeld ?_
      rotate_left
      · (intro w' hSw; clear hSw; go_simp; try with_reducible rfl)
      try simp only [Act.put, List.setIfInBounds_toArray, List.set_cons_zero, List.set_cons_succ]
      refine wpAnyH_ready (rs := [6]) (by kernel_rfl) (by simp) ?_
      refine AllReadyH.cons rfl (fun K hKK => ?_) AllReadyH.nil
      go_simp
      go_at_call 110
      refine HTK.out.mono ?_
      rintro e w11 ⟨rfl, hch, pc, hacc, hpk, hpd⟩
      have hch2 : Chg (fun x => x = gl ∨ X x) w10 w11 := ((Chg.refl _ _).drewN 1).trans hch
      refine hKK.out _ _ hch2 (fun hHeld => ?_)
      clear hKK K
      try simp only [Act.put, List.setIfInBounds_toArray, List.set_cons_zero, List.set_cons_succ]
      refine wpAnyH_done (by kernel_rfl) ?_ _
      -->
      have HEN := Lib.hid (show ∀ o c, (R1 = 0 ∨ (o = od + q ∧ c = cd - q)) → EaR w0 w1 gl g cx id L (i + 1) (.slice (some ⟨g, o, none⟩) R1 c) w11 from by
        intro o c hoc
        obtain ⟨hX, hXg, hQ, _⟩ := HX2.out
        have hg10 : g < w10.heap.size := by have := HEW.out.glt; omega
        have hgX : ¬ (g = gl ∨ X g) := fun h => h.elim HEW.out.ne hXg
        have ht := lenP_take hp
        rw [HQ2.out] at ht
        refine ⟨⟨o, c, by rw [HR1.out], ?_⟩, ⟨Q ++ [pc], fun x => (X x ∨ w10.heap.size ≤ x) ∧ x < w11.heap.size, hacc.bound, fun x hx => hx.2, fun hx => hx.1.elim hXg (fun h => by omega), ?_⟩, ?_, Nat.lt_of_lt_of_le hg10 hch2.size, HEW.out.ne⟩
        · rw [HR1.out]
          obtain ⟨h1, h2⟩ := HOD.out
          rcases hoc with h | ⟨h3, h4⟩
          · exact .inl h
          · exact .inr ⟨by rw [ht, HN.out]; omega, by omega⟩
        · rw [List.map_append, hQ, List.take_add_one, hp]
          simp [kd, hpk, hpd]
        · exact (HEW.out.row.below HB10.out).chg hch2 (fun ad e _ => by injection e with e; subst e; exact hgX))
      have hq0 : q ≤ q + R1 := by omega
      have hR : q + R1 - q = R1 := by omega
      have hk38 : 38 ≤ 38 * (k + 1) := by omega
      have hk38' : (38 : Int) ≤ 38 * ((k : Int) + 1) := by omega
      have HCC := Lib.hid (show 6 + 38 * i + 38 = 6 + 38 * (i + 1) ∧ 38 * (k + 1) - 38 = 38 * k ∧ cq - 38 = cx - (6 + 38 * (i + 1)) from by have := HCQ.out; omega)
      clear hch hch2 hacc hpk hpd hHeld
      by_cases hcq2 : cd = q
      · subst hcq2
        have hR0 : R1 = 0 := by omega
        go_wp2_with fail
        go_roundg k
        case measure => omega
        case rel => exact ⟨i + 1, 6 + 38 * i + 38, 38 * (k + 1) - 38, cq - 38, by omega, rfl, HCC, by have h := HEN.out od 0 (.inl hR0); rw [hR0] at h; exact h⟩
      · go_wp2_with fail
        go_roundg k
        case measure => omega
        case rel => exact ⟨i + 1, 6 + 38 * i + 38, 38 * (k + 1) - 38, cq - 38, by omega, rfl, HCC, HEN.out (od + q) (cd - q) (.inr ⟨rfl, rfl⟩)⟩
end Go.Proofs.YtcklcffepedklaaGreat
