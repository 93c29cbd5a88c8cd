/- RollTells: the walk of the law. -/
import Derived.Test.YteaifjkocclomaaRollsWalk
import Derived.Deep.RegionLaw
import Derived.Deep.AppendLies
import Derived.Deep.RegionLawGrows
import Derived.Deep.WholeRow
import Derived.Deep.MidRow
import Derived.Test.YteaifjkocclomaaAppend
import Derived.Test.YteaifjkocclomaaEql
namespace Go.Proofs.Yteaifjkocclomaa
open Go.RowKit

theorem cellsOf_size (l : List Int) : (cellsOf l).size = l.length := by simp [cellsOf]
theorem cellsOf_one (l : List Int) : (cellsOf l).all (·.oneCell') = true := by
  simp [cellsOf, Value.oneCell']

theorem Try.info5 : (Try.prog.info? 5).map (fun i => (i.zero, i.size, i.bytes)) = some (some (.int .u8 0), 1, 1) := by kernel_rfl
theorem E22 : Elem Try.prog 22 5 1 1 := by
  obtain ⟨i0, hi, hz0, hz1, hz2⟩ := info_parts Try.info5
  exact ⟨Try.underlying22, ⟨i0, _, hi, hz0, hz1, hz2, rfl⟩, by decide⟩

theorem cellsOf_get (l : List Int) (k : Nat) (h : k < l.length) : (cellsOf l)[k]? = some (.int .u8 (l.getD k 0)) := by
  unfold cellsOf
  rw [List.getElem?_toArray, List.getElem?_map, List.getD_eq_getElem?_getD, List.getElem?_eq_getElem h]; rfl
theorem cellsOf_set (l : List Int) (k : Nat) (x : Int) : (cellsOf l).setIfInBounds k (.int .u8 x) = cellsOf (l.set k x) := by
  unfold cellsOf
  rw [List.setIfInBounds_toArray, List.map_set]
theorem ints_block {w : World} {g : Nat} {l : List Int} {t : TypeId} (h : w.heap[g]? = some (.cells (cellsOf l) t (0, 0))) : Ints .u8 w (some ⟨g, 0, none⟩) l := by
  intro i hi
  refine ⟨_, rfl, ?_⟩
  have e1 : (⟨g, 0, none⟩ : Addr).add i = ⟨g, i, none⟩ := by unfold Addr.add; split <;> simp_all
  rw [e1, cell_of_row _ _ _ _ _ _ h, cellsOf_get l i hi]
theorem Ints.news {k : IntKind} {w : World} {A : Option Addr} {l : List Int} (h : Ints k w A l) : ∀ j u, (l.map (Value.int k))[j]? = some u → ∃ ad, A = some ad ∧ w.cell? (ad.add j) = some u := by
  intro j u hj
  have hl : j < l.length := by
    rcases Nat.lt_or_ge j l.length with h | h
    · exact h
    · rw [List.getElem?_eq_none (by simpa using h)] at hj; cases hj
  obtain ⟨ad, e, hc⟩ := h j hl
  refine ⟨ad, e, hc.trans ?_⟩
  rw [← hj, List.getElem?_map, List.getD_eq_getElem?_getD, List.getElem?_eq_getElem hl]; rfl
theorem ints_one (k : IntKind) (l : List Int) : ∀ u ∈ l.map (Value.int k), u.oneCell' = true := by
  intro u hu
  obtain ⟨x, _, rfl⟩ := List.mem_map.1 hu
  rfl

theorem quiet_load_step {P : Program} {ops : Array Oper} {C : World → Prop} {Q : Act → Prop} {a : Act} {o : Oper} {rest : List Oper} (ty : TypeId) (x : Operand) (ho : o.op = .load ty x) (hw : Region.wanted o (yielded ops a.tmps) = true)
    (g : Nat) (hx : a.eval x = .pointer (some ⟨g, 0, none⟩)) (t : TypeId) (cs : Array Value) (fr : Nat × Nat) (d : TypeDesc) (hg : ∀ w, C w → w.heap[g]? = some (.cells cs t fr))
    (hu : P.underlying ty = some d) (hd : (match d with | .struct _ | .array _ _ => true | _ => false) = true) (hi : (P.info? ty).map (·.size) = some cs.size)
    (h : wpQuiet P ops C Q rest (a.put o.dst (.agg cs))) : wpQuiet P ops C Q (o :: rest) a := by
  refine wpQuiet_step fun K hK => ?_
  rw [if_pos hw]
  refine ⟨.agg cs, fun w hw => ?_, hK _ h⟩
  unfold Oper.quietAt execOp
  simp only [ho, hx, Instr.loadAt, Instr.sureAddr, Sem.run_bind, Sem.run_pure, Result.andThen_ok, run_loadVar_row w g t ty cs fr d (hg w hw) hu hd hi]
  exact ⟨rfl, rfl⟩

theorem quiet_eql_step {P : Program} {ops : Array Oper} {C : World → Prop} {Q : Act → Prop} {a : Act} {o : Oper} {rest : List Oper} (ty t2 : TypeId) (x y : Operand) (ho : o.op = .binOp .eql ty x y t2) (hw : Region.wanted o (yielded ops a.tmps) = true)
    (u v : Value) (hx : a.eval x = u) (hy : a.eval y = v) (r : Value) (hgd : ∀ w, (eqGuard .eql ty x y u v).run P w = .ok () w) (hr : ∀ w, (binOp .eql ty u v).run P w = .ok r w)
    (h : wpQuiet P ops C Q rest (a.put o.dst r)) : wpQuiet P ops C Q (o :: rest) a := by
  refine wpQuiet_step fun K hK => ?_
  rw [if_pos hw]
  refine ⟨r, fun w hw => ?_, hK _ h⟩
  unfold Oper.quietAt execOp
  simp only [ho, hx, hy, Sem.run_bind, hgd, hr, Result.andThen_ok, Sem.run_pure]
  exact ⟨rfl, rfl⟩

theorem Of_own (r : Int) (B n : Nat) (v : Value) (xs : List Value) (l : List Int) (w : World) (hown : w.ownsRow B 5 1 v n xs) (hxs : xs = l.map (Value.int .u8)) (hn : l.length = n) (hb : Bytes l) (hl : l.length ≤ 1000000000000000) (h : sumR l = r) :
    Calls Try.prog 9 #[v] w fun e w' => e = .returned (.int .u32 r) ∧ w = w' := by
  subst hxs; subst hn; subst h
  obtain ⟨A', c', hv, _, hI, _⟩ := new_of_own hown
  subst hv
  exact Of_any A' c' l w hI hb hl

set_option maxHeartbeats 800000 in
theorem Tells_law (b : List Int) (A : Option Addr) (c : Nat) (l : List Int) (q x : Int) (w : World) (hn : b.length = 16) (hb : Bytes b) (hr : Ints .u8 w A l) (hbl : Bytes l) (hc : l.length ≤ c) (hA : A = none → l.length = 0 ∧ c = 0) (hz : l.length ≤ 140737488351232) (hq0 : 0 ≤ q) (hq1 : q < 256) (hx0 : 0 ≤ x) (hx1 : x < 256) :
    Calls Try.prog 5 #[.agg (cellsOf b), .slice A l.length c, .int .u8 q, .int .u8 x] w fun e w' => e = .returned (.bool true) ∧ Below w.heap.size w w' := by
  have HB0 : Below w.heap.size w (w.alloc (.cells (cellsOf b) 29)) := (Below.refl _ _).alloc (Nat.le_refl _) _
  have hg0 : (w.alloc (.cells (cellsOf b) 29)).heap[w.heap.size]? = some (.cells (cellsOf b) 29 (0, 0)) := heap_alloc_last _ _
  have hs0 : (w.alloc (.cells (cellsOf b) 29)).heap.size = w.heap.size + 1 := by simp
  have HS := Lib.hid (show (Try.prog.info? 29).map (·.size) = some (cellsOf b).size by rw [cellsOf_size, hn]; kernel_rfl)
  have HSZ := Lib.hid (show (cellsOf b).size = 16 by rw [cellsOf_size, hn])
  have H0 := Lib.hid hg0
  have HN := Lib.hid hn
  have HS0 := Lib.hid hs0
  clear hn hg0 hs0
  go_enter Try.func5, Try.ntmps5
  go_wp2_with fail
  refine (shown_any _).mono ?_
  rintro e w1 ⟨rfl, hb1⟩
  have H1 := Lib.hid ((hb1.block w.heap.size (by rw [HS0.out]; omega)).trans H0.out)
  have hs1 : w.heap.size + 1 ≤ w1.heap.size := by have := hb1.size; rw [HS0.out] at this; exact this
  have hst := run_storeCells_new (P := Try.prog) w1 29 #[.int .u8 0, .int .u8 0, .int .u8 0, .int .u8 0, .int .u8 0, .int .u8 0, .int .u8 0, .int .u8 0, .int .u8 0, .int .u8 0, .int .u8 0, .int .u8 0, .int .u8 0, .int .u8 0, .int .u8 0, .int .u8 0] (cellsOf b) HS.out (by rw [HSZ.out]; rfl) (cellsOf_one b)
  have hlo : (cellsOf b)[(q % 16).toNat]? = some (.int .u8 (b.getD (q % 16).toNat 0)) := cellsOf_get b _ (by rw [HN.out]; omega)
  go_wp2_with (with_reducible refine wpList_load_row rfl 29 _ rfl w.heap.size rfl 29 _ (0, 0) _ H1.out Try.underlying29 rfl HS.out ?_)
  obtain ⟨W, hW⟩ : ∃ W, W = w1.alloc (.cells ((cellsOf b).setIfInBounds (q % 16).toNat (.int .u8 x)) 29) := ⟨_, rfl⟩
  have hB : Below w.heap.size w W := by rw [hW]; exact ((HB0.trans (hb1.mono (by rw [HS0.out]; omega))).alloc (by omega) _)
  have hGB : W.heap[w.heap.size]? = some (.cells (cellsOf b) 29 (0, 0)) := by rw [hW, Below.heap_alloc _ _ _ (by omega)]; exact H1.out
  have hGO : W.heap[w1.heap.size]? = some (.cells (cellsOf (b.set (q % 16).toNat x)) 29 (0, 0)) := by rw [hW, heap_alloc_last, cellsOf_set]
  have hlt : w1.heap.size < W.heap.size := by rw [hW]; simp
  rw [← hW]
  clear hW hst hlo
  have HGB := Lib.hid hGB
  have HGO := Lib.hid hGO
  have HR := Lib.hid (hr.below ((HB0.trans (hb1.mono (by rw [HS0.out]; omega)))))
  have HRW := Lib.hid (hr.below hB)
  clear hGB hGO hb1 H1 H0 HR hr
  have hsW : w.heap.size < W.heap.size := by omega
  have own0 : ∀ (X : World), (X.alloc (.cells #[] 5)).ownsRow X.heap.size 5 1 (.slice (some ⟨X.heap.size, 0, none⟩) 0 0) 0 [] := fun X => World.ownsRow_lit X #[] 0 (Nat.le_refl _) (by unfold maxLen; omega) rfl
  have OWN0 := Lib.hid own0
  clear own0
  have HN1 := Lib.hid (show (l.map (Value.int .u8)).length = l.length * 1 by simp)
  have HN2 := Lib.hid (show (b.map (Value.int .u8)).length = 16 * 1 by rw [List.length_map, HN.out])
  have HB2 := Lib.hid (show ∀ X, (W.alloc (.cells #[] 5)).drew.grownBy X (Value.ownBlock (.slice (some ⟨W.heap.size, 0, none⟩) 0 0)) → Below W.heap.size W X from fun X hg =>
    ((Below.refl _ _).alloc (Nat.le_refl _) _).drew.grown hg (by simp) (fun k hk => by simp only [Value.ownBlock, Option.some.injEq] at hk; omega))
  have HIB := Lib.hid (show ∀ X, Below W.heap.size W X → Ints .u8 X (some ⟨w.heap.size, 0, none⟩) b from fun X h => ints_block ((h.block _ hsW).trans HGB.out))
  have HIO := Lib.hid (show ∀ X, Below W.heap.size W X → Ints .u8 X (some ⟨w1.heap.size, 0, none⟩) (b.set (q % 16).toNat x) from fun X h => ints_block ((h.block _ hlt).trans HGO.out))
  have HLB := Lib.hid (show (l ++ b).length = l.length + 16 by rw [List.length_append, HN.out])
  have HMB := Lib.hid (show l.map (Value.int .u8) ++ b.map (Value.int .u8) = (l ++ b).map (Value.int .u8) from List.map_append.symm)
  have HBB := Lib.hid (hbl.append hb)
  have HBS := Lib.hid (show Bytes (b.set (q % 16).toNat x) from hb.set _ _ hx0 hx1)
  have HSB := Lib.hid (sumR_last l b (by rw [HN.out]; omega))
  go_region_law (first
    | (refine step_app E22 rfl (.tmp 18) (.tmp 19) rfl W.heap.size (.slice (some ⟨W.heap.size, 0, none⟩) 0 0) 0 [] rfl (OWN0.out W) A l.length c (l.map (Value.int .u8)) rfl hA HN1.out (HRW.out.below ((Below.refl _ _).alloc (Nat.le_refl _) _)).news (ints_one _ _) (by unfold maxLen; omega) (by omega) (by simp) ?_; intro v1 w1' hown1 hg1 _; have hB1 := HB2.out _ hg1; simp only [Nat.zero_add, List.nil_append] at hown1)
    | (refine step_app E22 rfl (.tmp 20) (.tmp 21) rfl W.heap.size v1 l.length _ rfl hown1 (some ⟨w.heap.size, 0, none⟩) 16 16 (b.map (Value.int .u8)) rfl (fun h => by cases h) HN2.out (HIB.out _ hB1).news (ints_one _ _) (by unfold maxLen; omega) (by omega) hB1.size ?_; intro v2 w2' hown2 hg2 _; have hB2 := hB1.grown hg2 hB1.size (fun k hk => (hown1.lt k hk).1); have HO2 := Lib.hid hown2; clear hown2 hg2)
    | (go_simp; go_at_call 9; refine (Of_own (sumR b) W.heap.size (l.length + 16) v2 _ (l ++ b) w2' HO2.out HMB.out HLB.out HBB.out (by rw [HLB.out]; omega) HSB.out).mono ?_; rintro e w3 ⟨rfl, rfl⟩))
  have HC1 := Lib.hid (show ∀ n, Calls Try.prog 9 #[.slice (some ⟨w.heap.size, 0, none⟩) 16 16] (w2'.drewN n) fun e w'' => e = .returned (.int .u32 (sumR b)) ∧ w'' = w2'.drewN n from fun n => Of_q _ _ _ 16 b _ HN.out (HIB.out _ (below_drewN hB2 n)) hb (by rw [HN.out]; omega) rfl)
  have HC2 := Lib.hid (show ∀ n, Calls Try.prog 9 #[.slice (some ⟨w1.heap.size, 0, none⟩) 16 16] (w2'.drewN n) fun e w'' => e = .returned (.int .u32 (sumR (b.set (q % 16).toNat x))) ∧ w'' = w2'.drewN n from fun n => Of_q _ _ _ 16 _ _ (by rw [List.length_set]; exact HN.out) (HIO.out _ (below_drewN hB2 n)) HBS.out (by rw [List.length_set, HN.out]; omega) rfl)
  have HQB := Lib.hid (show ∀ X : World, (∃ n, X = w2'.drewN n) → X.heap[w.heap.size]? = some (.cells (cellsOf b) 29 (0, 0)) from fun X ⟨n, e⟩ => by rw [e]; exact ((below_drewN hB2 n).block _ hsW).trans HGB.out)
  have HQO := Lib.hid (show ∀ X : World, (∃ n, X = w2'.drewN n) → X.heap[w1.heap.size]? = some (.cells (cellsOf (b.set (q % 16).toNat x)) 29 (0, 0)) from fun X ⟨n, e⟩ => by rw [e]; exact ((below_drewN hB2 n).block _ hlt).trans HGO.out)
  have HSO := Lib.hid (show (Try.prog.info? 29).map (·.size) = some (cellsOf (b.set (q % 16).toNat x)).size by rw [cellsOf_size, List.length_set, HN.out]; kernel_rfl)
  go_wp2_with fail
  refine wp_region_quiet_lit (by kernel_rfl) (by kernel_rfl) ?_
  repeat (quiet_step ((go_at_call 9; first | (with_reducible exact Calls.quiet_of_same (HC1.out _)) | (with_reducible exact Calls.quiet_of_same (HC2.out _)))))
  refine quiet_load_step 29 _ rfl (by go_simp) w1.heap.size rfl 29 _ (0, 0) _ HQO.out Try.underlying29 rfl HSO.out ?_
  refine quiet_load_step 29 _ rfl (by go_simp) w.heap.size rfl 29 _ (0, 0) _ HQB.out Try.underlying29 rfl HS.out ?_
  have heq := fun X => run_eql_ints (P := Try.prog) X 29 5 16 .u8 Try.underlying29 Try.underlying5 (fun _ => by kernel_rfl) (b.set (q % 16).toNat x) b (by rw [List.length_set]; exact HN.out) HN.out
  refine quiet_eql_step 29 _ _ _ rfl (by go_simp) (.agg (cellsOf (b.set (q % 16).toNat x))) (.agg (cellsOf b)) rfl rfl _ (fun _ => by kernel_rfl) heq ?_
  have HF := Lib.hid (show (sumR (b.set (q % 16).toNat x) == sumR b) = (b.set (q % 16).toNat x == b) by
    rw [Bool.eq_iff_iff, beq_iff_eq, beq_iff_eq]
    exact sumR_set b _ x HN.out (by omega) hb hx0 hx1)
  repeat (quiet_step (fail))
  refine wpQuiet_nil ?_
  intro _ hw'
  obtain ⟨nq, hw''⟩ := hw'
  subst hw''
  go_wp2_with fail
  go_ret
  refine ⟨?_, hB.trans ((below_drewN hB2 _).mono (by omega))⟩
  show Ending.returned (.bool ((sumR (b.set (q % 16).toNat x) == sumR b) == (b.set (q % 16).toNat x == b))) = _
  rw [HF.out]
  simp

end Go.Proofs.Yteaifjkocclomaa
