/- Texts of the proof, one behind the other: A map walked through: its entries come one by one, each once. index: All. index: Shelf. What the cache calls of the library: delete, slices.Index, slices.Delete at numbers. -/
import Derived.Test.YtcklcffepedklaaGreatM11
import Derived.Maps.RangeRun
namespace Go.Proofs.YtcklcffepedklaaGreat
open Go.RowKit Go.Maps
open Go.ChangeMaps (setBlock)

/-- A walk at block r through the map at m: of the entries L n are left. -/
structure It {α : Type} (enc : α → Value) (w : World) (r m : Nat) (L : List (α × Value)) (n : Nat) : Prop where
  ex : ∃ es clock since seen c0, w.heap[m]? = some (.map es clock) ∧ es.toList.map (fun e => (e.key, e.val)) = L.map (fun x => (enc x.1, x.2)) ∧ (es.toList.map (·.born)).Nodup ∧ (∀ e ∈ es.toList, e.born < since) ∧ since ≤ c0 ∧ since ≤ clock ∧ w.heap[r]? = some (.mapIter (some m) since seen c0) ∧ (leftOf es seen).size = n
section
variable {α : Type} {P : Program} {enc : α → Value} {V : α → Prop} {w w' : World} {r m n : Nat} {L : List (α × Value)}
theorem It.lt (h : It enc w r m L n) : r < w.heap.size ∧ m < w.heap.size := by
  obtain ⟨es, c, s, seen, c0, h1, _, _, _, _, _, h2, _⟩ := h.ex
  exact ⟨row_lt h2, row_lt h1⟩
theorem It.chg {R : Nat → Prop} (h : It enc w r m L n) (hc : Chg R w w') (h1 : ¬ R r) (h2 : ¬ R m) : It enc w' r m L n := by
  have hl := h.lt
  obtain ⟨es, c, s, seen, c0, a1, a2, a3, a4, a5, a6, a7, a8⟩ := h.ex
  exact ⟨es, c, s, seen, c0, (hc.block m hl.2 h2).trans a1, a2, a3, a4, a5, a6, (hc.block r hl.1 h1).trans a7, a8⟩
theorem It.below (h : It enc w r m L n) (hb : Below w.heap.size w w') : It enc w' r m L n := h.chg (R := fun _ => False) (Chg.belowAt hb) (fun h => h) (fun h => h)
theorem It.start {mt kt et : TypeId} (ht : P.underlying mt = some (.map kt et)) (h : MapAt enc V w m L) :
    ∃ o, (Instr.range mt (.map (some m))).run P w = .ok (.pointer (some ⟨w.heap.size, 0, none⟩)) (w.alloc o) ∧ It enc (w.alloc o) w.heap.size m L L.length := by
  have hlt := h.lt
  obtain ⟨es, clock, h1, h2, h3, h4⟩ := h.ex
  refine ⟨_, run_range_map w mt kt et m es clock ht h1, es, clock, clock, #[], clock, (Below.heap_alloc _ _ _ hlt).trans h1, h2, h4, h3, Nat.le_refl _, Nat.le_refl _, heap_alloc_last _ _, ?_⟩
  have : es.toList.length = L.length := by have := congrArg List.length h2; simpa using this
  have e1 : leftOf es #[] = es := by unfold leftOf; exact Array.filter_eq_self.2 (fun x _ => by simp)
  rw [e1, ← Array.length_toList]; exact this
theorem filter_one : ∀ {l : List MapEntry}, (l.map (·.born)).Nodup → ∀ {e : MapEntry}, e ∈ l → (l.filter fun x => x.born != e.born).length + 1 = l.length
  | [], _, e, h => by cases h
  | y :: l, hn, e, h => by
    rw [List.map_cons, List.nodup_cons] at hn
    by_cases hy : y.born = e.born
    · rw [List.filter_cons_of_neg (by simp [hy]), List.filter_eq_self.2 (fun x hx => ?_), List.length_cons]
      rw [bne_iff_ne, ← hy]
      exact fun e1 => hn.1 (e1 ▸ List.mem_map_of_mem (f := fun x : MapEntry => x.born) hx)
    · rcases List.mem_cons.1 h with h1 | h1
      · exact absurd (congrArg MapEntry.born h1.symm) hy
      · rw [List.filter_cons_of_pos (by simp [hy]), List.length_cons, List.length_cons, filter_one hn.2 h1]
theorem It.next (h : It enc w r m L n) (hrm : r ≠ m) (ty : TypeId) :
    (n = 0 ∧ (Instr.next (.pointer (some ⟨r, 0, none⟩)) false ty).run P w = .ok (.tuple #[.bool false]) w) ∨
    ∃ x w', x ∈ L ∧ (Instr.next (.pointer (some ⟨r, 0, none⟩)) false ty).run P w = .ok (.tuple #[.bool true, enc x.1, x.2]) w' ∧ It enc w' r m L (n - 1) ∧ 0 < n ∧ w.grownBy w' (some r) ∧ w'.heap.size = w.heap.size ∧ (Instr.entry (.pointer (some ⟨r, 0, none⟩))).run P w' = .ok (.tuple #[enc x.1, x.2]) w' := by
  obtain ⟨es, clock, since, seen, c0, hb, he, hnd, hold, hsc, hsk, hr, rfl⟩ := h.ex
  rcases run_next_at (P := P) w ty r m since c0 seen es clock hr hb hold hsc with ⟨h0, hrun⟩ | ⟨e, hel, w1, hal, hrun⟩
  · exact .inl ⟨h0, hrun⟩
  · right
    have hem : e ∈ es.toList ∧ seen.contains e.born = false := by
      unfold leftOf at hel
      rw [Array.toList_filter, List.mem_filter] at hel
      exact ⟨hel.1, by simpa using hel.2⟩
    obtain ⟨j, hj⟩ := List.mem_iff_getElem?.1 hem.1
    have h1 := congrArg (·[j]?) he
    simp only [List.getElem?_map, hj, Option.map_some] at h1
    cases hx : L[j]? with
    | none => rw [hx] at h1; cases h1
    | some x =>
      rw [hx] at h1
      simp only [Option.map_some, Option.some.injEq, Prod.mk.injEq] at h1
      have hr1 : r < w1.heap.size := by rcases hal with rfl | rfl <;> exact row_lt hr
      have hb1 : w1.heap[m]? = some (.map es clock) := by rcases hal with rfl | rfl <;> exact hb
      have hg1 : w.grownBy (setBlock w1 r (.mapIter (some m) since (seen.push e.born) clock)) (some r) := by
        have := setBlock_grown w1 r (.mapIter (some m) since (seen.push e.born) clock)
        rcases hal with rfl | rfl
        · exact this
        · exact ⟨this.os, this.tape, this.output, this.size, this.block⟩
      have hset := setBlock_at (w := w1) (.mapIter (some m) since (seen.push e.born) clock) hr1
      have hmb := ((setBlock_grown w1 r (.mapIter (some m) since (seen.push e.born) clock)).block m (row_lt hb1) (fun e1 => hrm (by injection e1 with e1; exact e1.symm))).trans hb1
      have hpos : 0 < (leftOf es seen).size := by
        rw [← Array.length_toList]; exact List.length_pos_of_mem hel
      refine ⟨x, _, List.mem_of_getElem? hx, by rw [hrun, h1.1, h1.2], ⟨es, clock, since, seen.push e.born, clock, hmb, he, hnd, hold, hsk, hsk, hset, ?_⟩, hpos, hg1, by rcases hal with rfl | rfl <;> simp [setBlock], by rw [run_entry_at _ r m since seen es clock e hset hmb hem.1 hnd, h1.1, h1.2]⟩
      have hs : (leftOf es seen).toList = es.toList.filter fun e => !seen.contains e.born := by unfold leftOf; rw [Array.toList_filter]
      have hs2 : (leftOf es (seen.push e.born)).toList = (leftOf es seen).toList.filter fun x => x.born != e.born := by
        rw [hs]; unfold leftOf; rw [Array.toList_filter, List.filter_filter]
        apply List.filter_congr
        intro y _
        simp only [Array.contains_push]
        cases seen.contains y.born <;> cases hyb : (y.born == e.born) <;> simp_all [bne]
      have hnl : ((leftOf es seen).toList.map (·.born)).Nodup := by
        rw [hs]
        exact hnd.sublist (List.filter_sublist.map _)
      have := filter_one hnl hel
      rw [← hs2] at this
      simp only [Array.length_toList] at this
      omega
end
section
variable {P : Program} {ops : Array Oper} {rest : List Oper} {o : Oper} {a : Act} {w w' : World} {Q : Exit → Act → World → Prop}
theorem wpList_range (hg : o.guard = none) (t : TypeId) (x : Operand) (ho : o.op = .range t x) (mv v : Value) (hx : a.eval x = mv) (hr : (Instr.range t mv).run P w = .ok v w') (h : wpList P ops Q rest (a.put o.dst v) w') : wpList P ops Q (o :: rest) a w := by
  refine wpList_plain hg fun K hK => ?_
  unfold Oper.wp execOp
  simp only [ho, hx, Sem.run_bind, hr, Result.andThen_ok, Sem.run_pure]
  exact hK _ _ h
theorem wpList_next (hg : o.guard = none) (x : Operand) (ho : o.op = .next x false) (mv v : Value) (hx : a.eval x = mv) (hr : (Instr.next mv false o.type).run P w = .ok v w') (h : wpList P ops Q rest (a.put o.dst v) w') : wpList P ops Q (o :: rest) a w := by
  refine wpList_plain hg fun K hK => ?_
  unfold Oper.wp execOp
  simp only [ho, hx, Sem.run_bind, hr, Result.andThen_ok, Sem.run_pure]
  exact hK _ _ h
theorem wpList_entry (hg : o.guard = none) (x : Operand) (ho : o.op = .entry x) (mv v : Value) (hx : a.eval x = mv) (hr : (Instr.entry mv).run P w = .ok v w') (h : wpList P ops Q rest (a.put o.dst v) w') : wpList P ops Q (o :: rest) a w := by
  refine wpList_plain hg fun K hK => ?_
  unfold Oper.wp execOp
  simp only [ho, hx, Sem.run_bind, hr, Result.andThen_ok, Sem.run_pure]
  exact hK _ _ h
end
end Go.Proofs.YtcklcffepedklaaGreat

namespace Go.Proofs.YtcklcffepedklaaGreat
open Go.RowKit Go.Maps

theorem Tryz.infoR : (Tryz.prog.info? 84).map (fun i => (i.zero, i.size, i.bytes)) = some (some (.agg (((List.replicate 32 (Value.int .u8 0)) ++ [Value.int .u32 0]) ++ [Value.int .i64 0, Value.int .i64 0]).toArray), 35, 56) := by kernel_rfl
def zR : Array Value := (((List.replicate 32 (Value.int .u8 0)) ++ [Value.int .u32 0]) ++ [Value.int .i64 0, Value.int .i64 0]).toArray
theorem zeroR (w : World) : (zeroValue 84).run Tryz.prog w = .ok (.agg zR) w := by
  obtain ⟨i0, hi, hz0, _, _⟩ := info_parts Tryz.infoR
  exact zero_run hi hz0 w
theorem ER : Elem Tryz.prog 74 84 35 56 := by
  obtain ⟨i0, hi, hz0, hz1, hz2⟩ := info_parts Tryz.infoR
  exact ⟨Tryz.underlying74, ⟨i0, _, hi, hz0, hz1, hz2, rfl⟩, by decide⟩
theorem build_rowR (r : Rw) (w : World) : (Instr.build 84 #[(0, .agg r.val.1.cells.toArray), (1, .agg (plC r.val.2).toArray)]).run Tryz.prog w = .ok (.agg (encR r).toArray) w := by
  obtain ⟨i0, hi, hz0, _, _⟩ := info_parts Tryz.infoR
  refine run_build w _ _ _ ?_
  rw [built_struct hi hz0 Tryz.underlying84 (places := [(0, 33), (33, 2)]) (by decide +kernel)]
  have hk := Ky.cells_length r.property
  have hz : (Value.agg zR).cells.size = 35 := by decide +kernel
  show Instr.fill _ (Value.agg zR).cells _ = _
  rw [fill_cons (off := 0) (size := 33) (vs := r.val.1.cells) rfl rfl hk (by rw [hz]; decide)]
  rw [fill_cons (off := 33) (size := 2) (vs := plC r.val.2) rfl rfl rfl (by simp [hk, hz])]
  rw [Instr.fill]
  refine congrArg some (congrArg List.toArray ?_)
  simp only [List.take_zero, List.nil_append, Nat.zero_add]
  rw [List.take_append_of_le_length (by omega), List.take_of_length_le (by omega), List.drop_of_length_le (by simp [hk, hz]), List.append_nil]
  rfl
theorem flatR_snoc (l : List Rw) (r : Rw) : flatR (l ++ [r]) = flatR l ++ encR r := by simp [flatR]

/-- Two new variables get whole values. -/
theorem wpList_fresh2 {P : Program} {ops : Array Oper} {rest : List Oper} {o1 o2 o3 o4 : Oper} {a : Act} {w : World} {Q : Exit → Act → World → Prop} (k1 : o1.guard = none) (k2 : o2.guard = none) (k3 : o3.guard = none) (k4 : o4.guard = none) (T1 T2 : TypeId) (ho1 : o1.op = .alloc T1) (ho2 : o2.op = .alloc T2) (d1 x1 d2 x2 : Operand) (ho3 : o3.op = .store T1 d1 x1) (ho4 : o4.op = .store T2 d2 x2)
    (cs1 Z1 cs2 Z2 : Array Value) (hd1 : ∀ v1 v2, ((a.put o1.dst v1).put o2.dst v2).eval d1 = v1) (hx1 : ∀ v1 v2, ((a.put o1.dst v1).put o2.dst v2).eval x1 = .agg cs1) (hd2 : ∀ v1 v2, (((a.put o1.dst v1).put o2.dst v2).put o3.dst undef).eval d2 = v2) (hx2 : ∀ v1 v2, (((a.put o1.dst v1).put o2.dst v2).put o3.dst undef).eval x2 = .agg cs2)
    (hz1 : ∀ W, (zeroValue T1).run P W = .ok (.agg Z1) W) (hz2 : ∀ W, (zeroValue T2).run P W = .ok (.agg Z2) W) (hi1 : (P.info? T1).map (·.size) = some cs1.size) (hi2 : (P.info? T2).map (·.size) = some cs2.size) (hs1 : Z1.size = cs1.size) (hs2 : Z2.size = cs2.size) (h1 : cs1.all (·.oneCell') = true) (h2 : cs2.all (·.oneCell') = true)
    (h : ∀ g1 g2 w1, Hid (w1.heap[g1]? = some (.cells cs1 T1 (0, 0))) → Hid (w1.heap[g2]? = some (.cells cs2 T2 (0, 0))) → Hid (Below w.heap.size w w1) → wpList P ops Q rest ((((a.put o1.dst (.pointer (some ⟨g1, 0, none⟩))).put o2.dst (.pointer (some ⟨g2, 0, none⟩))).put o3.dst undef).put o4.dst undef) w1) : wpList P ops Q (o1 :: o2 :: o3 :: o4 :: rest) a w := by
  refine wpList_val k1 (exec_alloc T1 ho1 (hz1 _)) ?_
  refine wpList_val k2 (exec_alloc T2 ho2 (hz2 _)) ?_
  have r1 := heap_alloc_last w (.cells Z1 T1)
  have b1 := (Below.refl w.heap.size w).alloc (Nat.le_refl _) (.cells Z1 T1)
  have b2 := (Below.refl (w.alloc (.cells Z1 T1)).heap.size (w.alloc (.cells Z1 T1))).alloc (Nat.le_refl _) (.cells Z2 T2)
  have r2 := heap_alloc_last (w.alloc (.cells Z1 T1)) (.cells Z2 T2)
  have r1' := (b2.block w.heap.size (row_lt r1)).trans r1
  have hne : w.heap.size ≠ (w.alloc (.cells Z1 T1)).heap.size := by rw [World.size_alloc]; omega
  refine wpList_store_row k3 T1 d1 x1 ho3 w.heap.size cs1 (hd1 _ _) (hx1 _ _) T1 Z1 r1' hi1 hs1 h1 ?_
  have g1 := grown_setRow ((w.alloc (.cells Z1 T1)).alloc (.cells Z2 T2)) w.heap.size cs1
  have r2' := (g1.block _ (row_lt r2) (fun e => by injection e with e; exact hne e.symm)).trans r2
  refine wpList_store_row k4 T2 d2 x2 ho4 (w.alloc (.cells Z1 T1)).heap.size cs2 (hd2 _ _) (hx2 _ _) T2 Z2 r2' hi2 hs2 h2 ?_
  have r3 := setRow_heap _ _ _ cs1 _ _ r1'
  have g2 := grown_setRow (((w.alloc (.cells Z1 T1)).alloc (.cells Z2 T2)).setRow w.heap.size cs1) (w.alloc (.cells Z1 T1)).heap.size cs2
  have hb := below_trans b1 b2 b1.size
  refine h _ _ _ ((g2.block _ (row_lt r3) (fun e => hne (by injection e))).trans r3) (setRow_heap _ _ _ cs2 _ _ r2') ?_
  exact (hb.grown g1 hb.size (fun k hk => by injection hk with hk; omega)).grown g2 (Nat.le_trans hb.size g1.size) (fun k hk => by injection hk with hk; have := b1.size; omega)
theorem ownR_form {w : World} {b : Nat} {v : Value} {n : Nat} {xs : List Value} (h : w.ownsRow b 84 35 v n xs) : ∃ A c, v = .slice A n c := by
  obtain ⟨_, h2⟩ := h
  rcases h2 with ⟨h2, h3⟩ | ⟨g, cap, cur, e, _⟩
  · exact ⟨none, 0, by rw [h2, h3]⟩
  · exact ⟨_, cap, e⟩
set_option maxRecDepth 20000 in
set_option maxHeartbeats 1600000 in
theorem IAll_any {w : World} {gi : Nat} {L : List (Ky × (Nat × Nat))} {F : Nat → Prop} (h : Ix w gi L F) (hm1 : L.length < 1000000000) :
    Calls Tryz.prog 45 #[.pointer (some ⟨gi, 0, none⟩)] w fun e w' => ∃ v l, e = .returned v ∧ OwnR w' w.heap.size v l ∧ l.length = L.length ∧ Below w.heap.size w w' := by
  obtain ⟨gp, gt, gs, T, S, a, b, _⟩ := h.ex
  have hgi := row_lt a.row
  have c0 : w.cell? ⟨gi, 0, none⟩ = some (.map (some gp)) := by rw [cell_of_row _ _ _ _ _ _ a.row]; rfl
  have HI := Lib.hid a
  have HZK := Lib.hid zeroK
  have HZP := Lib.hid zeroPl
  obtain ⟨o, hro, hit⟩ := It.start (P := Tryz.prog) Tryz.underlying151 a.pl
  have HRO := Lib.hid hro
  have HIT := Lib.hid hit
  have HB1 := Lib.hid ((Below.refl w.heap.size w).alloc (Nat.le_refl _) o)
  clear h a b hro hit
  go_enter Tryz.func45, Tryz.ntmps45
  go_wp2_with (at_range; refine wpList_range rfl _ _ rfl _ _ rfl HRO.out ?_)
  obtain ⟨r, hr⟩ : ∃ r, w.heap.size = r := ⟨_, rfl⟩
  rw [hr] at HIT ⊢
  generalize w.alloc o = w1 at *
  have hlr := HIT.out.lt
  have hrm : r ≠ gp := fun e => by have := HI.out.pl.lt; omega
  go_upto_region 5 with (fail)
  go_frame
  go_loopg [3] L.length (fun kq v3 w' => ∃ (A3 : Option Addr) (c3 : Nat) (l : List Rw), v3 = .slice A3 l.length c3 ∧ l.length + kq = L.length ∧ OwnR w' w1.heap.size (.slice A3 l.length c3) l ∧ It Ky.val w' r gp (plRows L) kq ∧ Chg (fun x => x = r) w1 w')
  case atStart => exact ⟨none, 0, [], rfl, by simp, World.ownsRow_nil _ _ _ _, by have := HIT.out; rwa [show (plRows L).length = L.length from by simp [plRows]] at this, Chg.refl _ _⟩
  case round =>
    obtain ⟨A3, c3, l, rfl, hl, ho, hi, hc⟩ := hrel
    rcases hi.next (P := Tryz.prog) hrm 0 with ⟨h0, hrun⟩ | ⟨x, w2, hx, hrun, hi2, hpos, hg2, hs2, hen⟩
    · have HRUN := Lib.hid hrun
      have HC := Lib.hid hc
      have HS := Lib.hid (RSort_any 69 cfA (enters_of Tryz.func69 (by kernel_rfl) rfl) All1_any swoA ho (by omega))
      have HLT := Lib.hid ho.lt
      have HLN := Lib.hid (show l.length = L.length by omega)
      clear hrun hc ho hi hl
      go_wp2_with (at_next; refine wpList_next rfl _ rfl _ _ rfl HRUN.out ?_)
      refine HS.out.mono ?_
      rintro e w' ⟨rfl, l', hperm, ho', hg'⟩
      have hsr := HC.out.size
      have hs1 := HB1.out.size
      have HO' := Lib.hid (show OwnR w' w.heap.size (.slice A3 l.length c3) l' from ownsRow_base ho' hs1)
      have HBF := Lib.hid (show Below w.heap.size w w' from (HB1.out.trans (HC.out.below hs1 (fun k hk => by omega))).grown hg' (by omega) (fun k hk => by have := (HLT.out k hk).1; omega))
      have HLN' := Lib.hid (hperm.length_eq.trans HLN.out)
      clear ho' hg' hperm HS
      go_wp2_with fail
      go_ret
      exact ⟨_, l', rfl, HO'.out, HLN'.out, HBF.out⟩
    · unfold plRows at hx
      obtain ⟨y, hy, rfl⟩ := List.mem_map.1 hx
      have hko : y.1.Ok := HI.out.pl.val _ (List.mem_map_of_mem (f := fun x : Ky × (Nat × Nat) => (x.1, plV x.2)) hy)
      obtain ⟨k, p⟩ := y
      have HKO := Lib.hid hko
      have HRUN := Lib.hid hrun
      have HC2 := Lib.hid (show Chg (fun x => x = r) w1 w2 from hc.trans2 (Chg.of hg2) (fun x _ e => by injection e))
      have hsr := hc.size
      have HI2 := Lib.hid hi2
      have HO2 := Lib.hid (show OwnR w2 w1.heap.size (.slice A3 l.length c3) l from World.ownsRow.kept ho hg2 (.inr (fun e => by have := (ho.lt _ e).1; omega)))
      clear hx hy hrun hc hg2 ho hi hi2 hko hs2
      simp only [plV, Ky.val] at hen HRUN
      have HEN := Lib.hid hen
      go_upto_region 6 with (at_next; refine wpList_next rfl _ rfl _ _ rfl HRUN.out ?_)
      go_upto_region 7 with (with_reducible refine wpList_fresh2 rfl rfl rfl rfl 64 82 rfl rfl _ _ _ _ rfl rfl k.cells.toArray zK (plC p).toArray (plC (0, 0)).toArray (fun _ _ => rfl) (fun _ _ => rfl) (fun _ _ => rfl) (fun _ _ => rfl) HZK.out HZP.out (sizeKA HKO.out) (sizePlA p) (zK_size HKO.out) rfl (all_one (Ky.cells_one k)) (all_one (plC_one p)) ?_; intro g1 g2 w5 hr1 hr2 hb5)
      have HB5 := hb5
      have hs5 := hb5.out.size
      have hs2 := HC2.out.size
      have HK5 := Lib.hid (show w5.rangeAt g1 0 k.cells from range_row hr1.out)
      have HP5 := Lib.hid (show w5.rangeAt g2 0 (plC p) from range_row hr2.out)
      obtain ⟨row, hrow⟩ : ∃ row : Rw, row.val = (k, p) := ⟨⟨(k, p), HKO.out⟩, rfl⟩
      have HBR := Lib.hid (fun W => build_rowR row W)
      rw [hrow] at HBR
      have HBS := Lib.hid (fun (W : World) => build_one (P := Tryz.prog) (z := .agg zR) (vs := encR row) (s := 35) Tryz.underlying74 (fun _ => by kernel_rfl) zeroR (encR_length row) (by decide) (by decide) (.agg (encR row).toArray) rfl W)
      have HO5 := Lib.hid (HO2.out.kept (below_grown hb5.out none) (by cases (Value.ownBlock (.slice A3 l.length c3)) <;> simp) |>.alloc (.cells (encR row).toArray 84))
      have HNW := Lib.hid (show ∀ j u, (encR row)[j]? = some u → ∃ ad, some (⟨w5.heap.size, 0, none⟩ : Addr) = some ad ∧ (w5.alloc (.cells (encR row).toArray 84)).cell? (ad.add j) = some u from fun j u hj => ⟨_, rfl, by rw [addr_add0, Nat.zero_add]; exact row_at (heap_alloc_last w5 _) hj⟩)
      have HCL := Lib.hid (show (encR row).length = 1 * 35 from encR_length row)
      have HML := Lib.hid (show (l.length + 1 ≤ maxLen ∧ (l.length + 1) * 56 ≤ 140737488355328) ∧ w1.heap.size ≤ (w5.alloc (.cells (encR row).toArray 84)).heap.size by rw [World.size_alloc]; unfold maxLen; constructor <;> omega)
      have HNN := Lib.hid (show some (⟨w5.heap.size, 0, none⟩ : Addr) = none → 1 = 0 ∧ 1 = 0 from fun h => by cases h)
      have HHL := Lib.hid (And.intro hl (And.intro hpos (And.intro hs5 hs2)))
      clear hl hpos hs5 hs2 hb5 hr1 hr2 hrow
      go_wp2_with (first | (with_reducible refine Go.wpList_load_mid rfl 64 _ rfl g1 (0) rfl (k).cells _ HK5.out Tryz.underlying64 rfl (sizeK HKO.out) ?_) | (with_reducible refine Go.wpList_load_mid rfl 82 _ rfl g2 0 rfl (plC p) _ HP5.out Tryz.underlying82 rfl (sizePl p) ?_) | (with_reducible refine wpList_val rfl (exec_build _ _ rfl #[(0, .agg k.cells.toArray), (1, .agg (plC p).toArray)] (by go_simp) (HBR.out _)) ?_) | (with_reducible refine wpList_val rfl (exec_buildSlice _ _ _ rfl #[(0, .agg (encR row).toArray)] (by go_simp) (HBS.out _)) ?_) | (at_builtin; refine wpList_app ER rfl _ _ rfl w1.heap.size (.slice A3 l.length c3) l.length (flatR l) rfl HO5.out (some ⟨w5.heap.size, 0, none⟩) 1 1 (encR row) rfl HNN.out HCL.out HNW.out (encR_one _) HML.out.1.1 HML.out.1.2 HML.out.2 ?_; intro v9 w9 hown hgrow hat))
      obtain ⟨A9, c9, rfl⟩ := ownR_form hown
      have hbl : ∀ x, Value.ownBlock (.slice A3 l.length c3) = some x → w1.heap.size ≤ x := fun x hx => (HO5.out.lt x hx).1
      have hc26 : Below w2.heap.size w2 (w5.alloc (.cells (encR row).toArray 84)) := HB5.out.alloc HB5.out.size _
      have HC9 := Lib.hid (show Chg (fun x => x = r) w1 w9 from (HC2.out.below0 hc26).trans2 (Chg.of hgrow) (fun x hx e => by have := hbl x e.symm; omega))
      have HI9 := Lib.hid ((HI2.out.below hc26).chg (Chg.of hgrow) (fun e => by have := hbl _ e.symm; omega) (fun e => by have := hbl _ e.symm; omega))
      have HO9 := Lib.hid (show OwnR w9 w1.heap.size (.slice A9 (l.length + 1) c9) (l ++ [row]) from by rw [OwnR, flatR_snoc, List.length_append, List.length_singleton]; exact hown)
      clear hown hgrow hat hbl hc26
      have hh := HHL.out
      have hll : (l ++ [row]).length = l.length + 1 := by simp
      go_roundg (gk - 1)
      case measure => omega
      case rel => exact ⟨A9, c9, l ++ [row], by rw [hll], by rw [hll]; omega, by rw [hll]; exact HO9.out, HI9.out, HC9.out⟩
end Go.Proofs.YtcklcffepedklaaGreat

namespace Go.Proofs.YtcklcffepedklaaGreat
open Go.RowKit Go.Maps

set_option maxRecDepth 20000 in
set_option maxHeartbeats 3200000 in
theorem IShelf_any {w : World} {gi : Nat} {L : List (Ky × (Nat × Nat))} {F : Nat → Prop} (h : Ix w gi L F) (hm1 : L.length < 1000000000) (s : Nat) (hs : IntOk s) (hS : ∃ k p, lkp L k = some p ∧ p.1 = s) :
    Calls Tryz.prog 105 #[.pointer (some ⟨gi, 0, none⟩), .int .i64 s] w fun e w' => ∃ v l, e = .returned v ∧ OwnR w' w.heap.size v l ∧ (∀ x ∈ l, lkp L x.val.1 = some x.val.2) ∧ l.length < 1000000000 ∧ Below w.heap.size w w' := by
  obtain ⟨gp, gt, gs, T, S, a, b, _⟩ := h.ex
  have hgi := row_lt a.row
  have c2 : w.cell? ⟨gi, 2, none⟩ = some (.map (some gs)) := by rw [cell_of_row _ _ _ _ _ _ a.row]; rfl
  obtain ⟨k0, p0, hk0, rfl⟩ := hS
  obtain ⟨⟨gm, ks⟩, hx⟩ := b.all k0 p0 hk0
  have hmem := lkp_some_mem hx
  have hkl : ks.length ≤ L.length := b.len _ _ hx
  have HSUB := Lib.hid (b.sub _ _ hx)
  have HI := Lib.hid a
  have HZK := Lib.hid zeroK
  have hlk := a.lkpS hs
  rw [hx] at hlk
  have HLK := Lib.hid (show (Instr.lookup 153 (.map (some gs)) (.int .i64 p0.1) false).run Tryz.prog w = .ok (.map (some gm)) w from hlk)
  obtain ⟨o, hro, hit⟩ := It.start (P := Tryz.prog) Tryz.underlying159 (a.shr _ hmem)
  have HRO := Lib.hid hro
  have HIT := Lib.hid (show It Ky.val (w.alloc o) w.heap.size gm (kyRows ks) ks.length from by have := hit; rwa [show (kyRows ks).length = ks.length from by simp [kyRows]] at this)
  have HVAL := Lib.hid (fun x hx => (a.shr _ hmem).val x hx)
  have HB1 := Lib.hid ((Below.refl w.heap.size w).alloc (Nat.le_refl _) o)
  have hgm := (a.shr _ hmem).lt
  have hgmi := (a.ne.s4 _ hmem).1
  have hgp := a.pl.lt
  clear h a b hro hit hlk hk0 hx hmem hs
  go_enter Tryz.func105, Tryz.ntmps105
  go_wp2_with (first | (at_lookup; refine wpList_lkp rfl _ _ _ _ rfl _ _ _ rfl rfl HLK.out ?_) | (at_range; refine wpList_range rfl _ _ rfl _ _ rfl HRO.out ?_))
  obtain ⟨r, hr⟩ : ∃ r, w.heap.size = r := ⟨_, rfl⟩
  rw [hr] at HIT ⊢
  generalize w.alloc o = w1 at *
  have hlr := HIT.out.lt
  have hrm : r ≠ gm := fun e => by omega
  go_upto_region 5 with (fail)
  try go_frame
  go_loopg [5] ks.length (fun kq v5 w' => ∃ (A3 : Option Addr) (c3 : Nat) (l : List Rw), v5 = .slice A3 l.length c3 ∧ l.length + kq = ks.length ∧ OwnR w' w1.heap.size (.slice A3 l.length c3) l ∧ It Ky.val w' r gm (kyRows ks) kq ∧ Chg (fun x => x = r) w1 w' ∧ ∀ x ∈ l, lkp L x.val.1 = some x.val.2)
  case atStart => exact ⟨none, 0, [], rfl, by simp, World.ownsRow_nil _ _ _ _, HIT.out, Chg.refl _ _, fun x hx => by cases hx⟩
  case round =>
    obtain ⟨A3, c3, l, rfl, hl, ho, hi, hc, hlk⟩ := hrel
    have HLL := Lib.hid hlk
    clear hlk
    rcases hi.next (P := Tryz.prog) hrm 0 with ⟨h0, hrun⟩ | ⟨x, w2, hx, hrun, hi2, hpos, hg2, hs2, hen⟩
    · have HRUN := Lib.hid hrun
      have HC := Lib.hid hc
      have HS := Lib.hid (RSort_any 135 cfS (enters_of Tryz.func135 (by kernel_rfl) rfl) Shelf1_any swoS ho (by omega))
      have HLT := Lib.hid ho.lt
      have HLN := Lib.hid (show l.length < 1000000000 by omega)
      clear hrun hc ho hi hl
      go_wp2_with (at_next; refine wpList_next rfl _ rfl _ _ rfl HRUN.out ?_)
      refine HS.out.mono ?_
      rintro e w' ⟨rfl, l', hperm, ho', hg'⟩
      have hsr := HC.out.size
      have hs1 := HB1.out.size
      have HO' := Lib.hid (show OwnR w' w.heap.size (.slice A3 l.length c3) l' from ownsRow_base ho' hs1)
      have HBF := Lib.hid (show Below w.heap.size w w' from (HB1.out.trans (HC.out.below hs1 (fun k hk => by omega))).grown hg' (by omega) (fun k hk => by have := (HLT.out k hk).1; omega))
      have HLN' := Lib.hid (show l'.length < 1000000000 by rw [hperm.length_eq]; exact HLN.out)
      have HLF := Lib.hid (show ∀ x ∈ l', lkp L x.val.1 = some x.val.2 from fun x hx => HLL.out x (hperm.mem_iff.1 hx))
      clear ho' hg' hperm HS
      go_wp2_with fail
      go_ret
      exact ⟨_, l', rfl, HO'.out, HLF.out, HLN'.out, HBF.out⟩
    · have hko : x.1.Ok := HVAL.out _ hx
      unfold kyRows at hx
      obtain ⟨k, hk, rfl⟩ := List.mem_map.1 hx
      have HKO := Lib.hid hko
      have HRUN := Lib.hid hrun
      have HC2 := Lib.hid (show Chg (fun x => x = r) w1 w2 from hc.trans2 (Chg.of hg2) (fun x _ e => by injection e))
      have hsr := hc.size
      have HI2 := Lib.hid hi2
      have HO2 := Lib.hid (show OwnR w2 w1.heap.size (.slice A3 l.length c3) l from World.ownsRow.kept ho hg2 (.inr (fun e => by have := (ho.lt _ e).1; omega)))
      obtain ⟨p, hp⟩ : ∃ p, lkp L k = some p := by
        have := HSUB.out k hk
        cases hl : lkp L k with
        | none => rw [hl] at this; cases this
        | some p => exact ⟨p, rfl⟩
      have HPL := Lib.hid hp
      clear hx hk hrun hc hg2 ho hi hi2 hko hs2 hp
      simp only [Ky.val] at hen HRUN
      go_upto_region 6 with (at_next; refine wpList_next rfl _ rfl _ _ rfl HRUN.out ?_)
      go_upto_region 7 with (with_reducible refine wpList_fresh rfl rfl 64 rfl _ _ rfl k.cells.toArray zK (fun _ => rfl) (fun _ => rfl) HZK.out (sizeKA HKO.out) (zK_size HKO.out) (all_one (Ky.cells_one k)) ?_; intro g1 w5 hg1 hr1 hb5)
      have HB5 := hb5
      have hs5 := hb5.out.size
      have hs2 := HC2.out.size
      have HK5 := Lib.hid (show w5.rangeAt g1 0 k.cells from range_row hr1.out)
      obtain ⟨row, hrow⟩ : ∃ row : Rw, row.val = (k, p) := ⟨⟨(k, p), HKO.out⟩, rfl⟩
      have HRW := Lib.hid hrow
      have HBR := Lib.hid (fun W => build_rowR row W)
      rw [hrow] at HBR
      have HBS := Lib.hid (fun (W : World) => build_one (P := Tryz.prog) (z := .agg zR) (vs := encR row) (s := 35) Tryz.underlying74 (fun _ => by kernel_rfl) zeroR (encR_length row) (by decide) (by decide) (.agg (encR row).toArray) rfl W)
      have HO5 := Lib.hid (show OwnR (w5.drew.alloc (.cells (encR row).toArray 84)) w1.heap.size (.slice A3 l.length c3) l from (HO2.out.kept (below_grown hb5.out none) (by cases (Value.ownBlock (.slice A3 l.length c3)) <;> simp)).kept (below_grown ((Below.refl w5.heap.size w5).drew.alloc (Nat.le_refl _) _) none) (by cases (Value.ownBlock (.slice A3 l.length c3)) <;> simp))
      have HNW := Lib.hid (show ∀ j u, (encR row)[j]? = some u → ∃ ad, some (⟨w5.drew.heap.size, 0, none⟩ : Addr) = some ad ∧ (w5.drew.alloc (.cells (encR row).toArray 84)).cell? (ad.add j) = some u from fun j u hj => ⟨_, rfl, by rw [addr_add0, Nat.zero_add]; exact row_at (heap_alloc_last w5.drew _) hj⟩)
      have HCL := Lib.hid (show (encR row).length = 1 * 35 from encR_length row)
      have HML := Lib.hid (show (l.length + 1 ≤ maxLen ∧ (l.length + 1) * 56 ≤ 140737488355328) ∧ w1.heap.size ≤ (w5.drew.alloc (.cells (encR row).toArray 84)).heap.size by rw [World.size_alloc]; show _ ∧ _ ≤ w5.heap.size + 1; unfold maxLen; constructor <;> omega)
      have HNN := Lib.hid (show some (⟨w5.drew.heap.size, 0, none⟩ : Addr) = none → 1 = 0 ∧ 1 = 0 from fun h => by cases h)
      have HHL := Lib.hid (And.intro hl (And.intro hpos (And.intro hs5 hs2)))
      have hc15 : Chg (fun x => x = r) w1 w5 := HC2.out.below0 hb5.out
      have HBO := Lib.hid (show ∀ x, Value.ownBlock (.slice A3 l.length c3) = some x → w1.heap.size ≤ x from fun x hx => (HO2.out.lt x hx).1)
      have hlg : gi < w1.heap.size ∧ gp < w1.heap.size := by have := HB1.out.size; omega
      have HL1 := Lib.hid (show g1 < w5.heap.size from row_lt hr1.out)
      have HN1 := Lib.hid (show ¬ Value.ownBlock (.slice A3 l.length c3) = some g1 from fun e => by
        have h1 := (HO2.out.lt g1 e).2
        have h2 := hg1.out
        omega)
      have HLI := Lib.hid (show gi < w5.heap.size by omega)
      have HNI := Lib.hid (show ¬ Value.ownBlock (.slice A3 l.length c3) = some gi from fun e => by have := HBO.out _ e; omega)
      have HC0 := Lib.hid (show w5.cell? ⟨gi, 0, none⟩ = some (.map (some gp)) from by
        rw [hc15.cell (p := ⟨gi, 0, none⟩) hlg.1 (show ¬ gi = r by omega), HB1.out.cell (p := ⟨gi, 0, none⟩) hgi, cell_of_row _ _ _ _ _ _ HI.out.row]; rfl)
      have HPM := Lib.hid (show MapAt Ky.val Ky.Ok w5 gp (plRows L) from ((HI.out.pl.below HB1.out).chg hc15 (show ¬ gp = r by omega)))
      have HLP := Lib.hid (show ∀ W, Chg (fun x => Value.ownBlock (.slice A3 l.length c3) = some x) w5 W → (Instr.lookup 151 (.map (some gp)) (.agg k.cells.toArray) false).run Tryz.prog W = .ok (.agg (plC p).toArray) W from fun W hW => by
        have := run_lkp keyK Tryz.underlying151 (HPM.out.chg hW (fun e => by have := HBO.out _ e; omega)) k HKO.out (plV (0, 0)) (zeroPl W) false
        rw [plRows_lkp, HPL.out] at this
        exact this)
      clear hl hpos hs5 hs2 hb5 hr1 hrow hc15 hg1
      go_simp
      --[
      refine wp_region_held_drew (S := fun w' => Chg (fun x => Value.ownBlock (.slice A3 l.length c3) = some x) w5 w') (by kernel_rfl) ((Chg.refl _ _).drewN 1) (fun hHeld => ?_)
      refine held_take 0 (some 20) (v := ?_) rfl rfl (by kernel_rfl) (by kernel_rfl) (by kernel_rfl) (fun _ _ _ h => h) (Or.inl ⟨by rfl, ?_⟩) hHeld ?_
      rotate_left
      · (intro w' hSw; clear hSw; go_simp; try with_reducible rfl)
      try simp only [Act.put, List.setIfInBounds_toArray, List.set_cons_zero, List.set_cons_succ]
      refine held_take 1 (some 21) (v := .agg (k.cells).toArray) rfl rfl (by kernel_rfl) (by kernel_rfl) (by kernel_rfl) (fun _ _ _ h => h) (yieldsIf_load_mid (by rfl) 64 _ rfl g1 (0) rfl (k.cells) _ (fun w' h => rangeAt_block HK5.out (h.block g1 HL1.out HN1.out)) Tryz.underlying64 rfl (sizeK HKO.out)) hHeld ?_
      try simp only [Act.put, List.setIfInBounds_toArray, List.set_cons_zero, List.set_cons_succ]
      refine held_take 2 (some 22) (v := ?_) rfl rfl (by kernel_rfl) (by kernel_rfl) (by kernel_rfl) (fun _ _ _ h => h) (Or.inl ⟨by rfl, ?_⟩) hHeld ?_
      rotate_left
      · (intro w' hSw; clear hSw; go_simp; try with_reducible rfl)
      try simp only [Act.put, List.setIfInBounds_toArray, List.set_cons_zero, List.set_cons_succ]
      refine held_take 3 (some 23) (v := ?_) rfl rfl (by kernel_rfl) (by kernel_rfl) (by kernel_rfl) (fun _ _ _ h => h) (Or.inl ⟨by rfl, ?_⟩) hHeld ?_
      rotate_left
      · (intro w' hSw; clear hSw; go_simp; try with_reducible rfl)
      try simp only [Act.put, List.setIfInBounds_toArray, List.set_cons_zero, List.set_cons_succ]
      refine held_take 4 (some 24) (v := ?_) rfl rfl (by kernel_rfl) (by kernel_rfl) (by kernel_rfl) (fun _ _ _ h => h) (Or.inl ⟨by rfl, ?_⟩) hHeld ?_
      rotate_left
      · (intro w' hSw; clear hSw; go_simp; try with_reducible rfl)
      try simp only [Act.put, List.setIfInBounds_toArray, List.set_cons_zero, List.set_cons_succ]
      refine held_take 5 (some 25) (v := ?_) rfl rfl (by kernel_rfl) (by kernel_rfl) (by kernel_rfl) (fun _ _ _ h => h) (Or.inl ⟨by rfl, ?_⟩) hHeld ?_
      rotate_left
      · (intro w' hSw; have pf := (hSw.cell (p := ⟨gi, 0, none⟩) HLI.out HNI.out).trans HC0.out; clear hSw; go_simp; try with_reducible rfl)
      try simp only [Act.put, List.setIfInBounds_toArray, List.set_cons_zero, List.set_cons_succ]
      refine held_take 6 (some 26) (v := .agg (k.cells).toArray) rfl rfl (by kernel_rfl) (by kernel_rfl) (by kernel_rfl) (fun _ _ _ h => h) (yieldsIf_load_mid (by rfl) 64 _ rfl g1 (0) rfl (k.cells) _ (fun w' h => rangeAt_block HK5.out (h.block g1 HL1.out HN1.out)) Tryz.underlying64 rfl (sizeK HKO.out)) hHeld ?_
      try simp only [Act.put, List.setIfInBounds_toArray, List.set_cons_zero, List.set_cons_succ]
      refine held_take 7 (some 27) (v := .agg (plC p).toArray) rfl rfl (by kernel_rfl) (by kernel_rfl) (by kernel_rfl) (fun _ _ _ h => h) (yields_val (by go_simp) (fun W h => exec_lkp _ _ _ _ rfl (.map (some gp)) (.agg k.cells.toArray) (by go_simp) (by go_simp; try rfl) (HLP.out W h))) hHeld ?_
      try simp only [Act.put, List.setIfInBounds_toArray, List.set_cons_zero, List.set_cons_succ]
      refine held_take 8 (some 28) (v := .agg (encR row).toArray) rfl rfl (by kernel_rfl) (by kernel_rfl) (by kernel_rfl) (fun _ _ _ h => h) (yields_val (by go_simp) (fun W _ => exec_build _ _ rfl #[(0, .agg k.cells.toArray), (1, .agg (plC p).toArray)] (by go_simp) (HBR.out W))) hHeld ?_
      try simp only [Act.put, List.setIfInBounds_toArray, List.set_cons_zero, List.set_cons_succ]
      refine wpAnyH_ready (rs := [9]) (by kernel_rfl) (by simp) ?_
      refine AllReadyH.cons rfl (fun K hKK => ?_) AllReadyH.nil
      refine step_val rfl (exec_buildSlice _ _ _ rfl #[(0, .agg (encR row).toArray)] (by go_simp) (HBS.out w5.drew)) ?_
      refine hKK.out _ _ (((Chg.refl _ _).drewN 1).alloc _) (fun hHeld => ?_)
      clear hKK K
      try simp only [Act.put, List.setIfInBounds_toArray, List.set_cons_zero, List.set_cons_succ]
      refine wpAnyH_ready (rs := [10]) (by kernel_rfl) (by simp) ?_
      refine AllReadyH.cons rfl (fun K hKK => ?_) AllReadyH.nil
      refine step_app ER rfl (.tmp 20) (.tmp 29) rfl w1.heap.size (.slice A3 l.length c3) l.length (flatR l) (by go_simp) HO5.out (some ⟨w5.drew.heap.size, 0, none⟩) 1 1 (encR row) (by go_simp) HNN.out HCL.out HNW.out (encR_one _) HML.out.1.1 HML.out.1.2 HML.out.2 ?_
      intro v9 w9 hown hgrow hat
      refine hKK.out _ _ ((((Chg.refl _ _).drewN 1).alloc _).trans2 (Chg.of hgrow) (fun x _ e => e.symm)) (fun hHeld => ?_)
      clear hKK K
      try simp only [Act.put, List.setIfInBounds_toArray, List.set_cons_zero, List.set_cons_succ]
      refine held_take 11 (some 5) (v := ?_) rfl rfl (by kernel_rfl) (by kernel_rfl) (by kernel_rfl) (fun _ _ _ h => h) (Or.inl ⟨by rfl, ?_⟩) hHeld ?_
      rotate_left
      · (intro w' hSw; clear hSw; go_simp; try with_reducible rfl)
      try simp only [Act.put, List.setIfInBounds_toArray, List.set_cons_zero, List.set_cons_succ]
      refine wpAnyH_done (by kernel_rfl) ?_ _
      --]
      obtain ⟨A9, c9, rfl⟩ := ownR_form hown
      have hb5 := HB5.out
      have hc25 : Below w2.heap.size w2 w5 := hb5
      have HC9 := Lib.hid (show Chg (fun x => x = r) w1 w9 from (HC2.out.below0 hc25).trans2 hHeld (fun x hx e => by have := HBO.out x e; omega))
      have HI9 := Lib.hid ((HI2.out.below hc25).chg hHeld (fun e => by have := HBO.out _ e; omega) (fun e => by have := HBO.out _ e; omega))
      have HO9 := Lib.hid (show OwnR w9 w1.heap.size (.slice A9 (l.length + 1) c9) (l ++ [row]) from by rw [OwnR, flatR_snoc, List.length_append, List.length_singleton]; exact hown)
      have HL9 := Lib.hid (show ∀ x ∈ l ++ [row], lkp L x.val.1 = some x.val.2 from fun x hx => by
        rcases List.mem_append.1 hx with hx | hx
        · exact HLL.out x hx
        · simp only [List.mem_singleton] at hx
          rw [hx, HRW.out]; exact HPL.out)
      clear hown hgrow hat hb5 hc25 hHeld
      have hh := HHL.out
      have hll : (l ++ [row]).length = l.length + 1 := by simp
      go_simp
      go_wp2_with fail
      go_roundg (gk - 1)
      case measure => omega
      case rel => exact ⟨A9, c9, l ++ [row], by rw [hll], by rw [hll]; omega, by rw [hll]; exact HO9.out, HI9.out, HC9.out, HL9.out⟩
end Go.Proofs.YtcklcffepedklaaGreat

namespace Go.Proofs.YtcklcffepedklaaGreat
open Go.RowKit Go.Maps
open Go.ChangeMaps (setBlock)

section
variable {α β : Type} [DecidableEq α]
/-- Without a key. -/
def del (L : List (α × β)) (a : α) : List (α × β) := L.filter fun x => decide (x.1 ≠ a)
theorem del_none {L : List (α × β)} {a : α} (h : lkp L a = none) : del L a = L := List.filter_eq_self.2 (fun x hx => by simpa using lkp_none_mem h x hx)
theorem map_erase {γ δ : Type} (f : γ → δ) : ∀ (l : List γ) (j : Nat), (l.eraseIdx j).map f = (l.map f).eraseIdx j
  | [], _ => by simp
  | _ :: _, 0 => rfl
  | x :: l, j + 1 => by rw [List.eraseIdx_cons_succ, List.map_cons, List.map_cons, List.eraseIdx_cons_succ, map_erase f l j]
theorem del_erase : ∀ {L : List (α × β)} {a : α} {j : Nat} {v : β}, (L.map (·.1)).Nodup → L[j]? = some (a, v) → L.eraseIdx j = del L a
  | [], _, _, _, _, h => by simp at h
  | y :: L, a, j, v, hn, h => by
    rw [List.map_cons, List.nodup_cons] at hn
    cases j with
    | zero =>
      simp only [List.getElem?_cons_zero, Option.some.injEq] at h
      subst h
      rw [List.eraseIdx_cons_zero]
      unfold del
      rw [List.filter_cons_of_neg (by simp)]
      refine (List.filter_eq_self.2 (fun x hx => ?_)).symm
      simp only [decide_eq_true_eq]
      exact fun e => hn.1 (by show a ∈ _; rw [← e]; exact List.mem_map_of_mem (f := (·.1)) hx)
    | succ j =>
      rw [List.getElem?_cons_succ] at h
      rw [List.eraseIdx_cons_succ, del_erase hn.2 h]
      unfold del
      rw [List.filter_cons_of_pos]
      simp only [decide_eq_true_eq]
      intro e
      exact hn.1 (by rw [e]; exact List.mem_map_of_mem (f := (·.1)) (List.mem_of_getElem? h))
theorem del_map {γ : Type} (f : β → γ) (L : List (α × β)) (a : α) : (del L a).map (fun x => (x.1, f x.2)) = del (L.map fun x => (x.1, f x.2)) a := by
  unfold del
  rw [List.filter_map]
  rfl
theorem lkp_del_other {L : List (α × β)} {a b : α} (h : b ≠ a) : lkp (del L a) b = lkp L b := by
  induction L with
  | nil => rfl
  | cons y L ih =>
    obtain ⟨k, v⟩ := y
    unfold del at ih ⊢
    by_cases hk : k = a
    · subst hk
      rw [List.filter_cons_of_neg (by simp), ih, lkp, if_neg (fun e => h e.symm)]
    · rw [List.filter_cons_of_pos (by simp [hk]), lkp, lkp, ih]
theorem mem_del {L : List (α × β)} {a : α} {x : α × β} : x ∈ del L a ↔ x ∈ L ∧ x.1 ≠ a := by unfold del; rw [List.mem_filter]; simp
end

section
variable {α : Type} [DecidableEq α] {P : Program} {kt mt et : TypeId} {enc : α → Value} {V : α → Prop} {w : World} {m : Nat} {L : List (α × Value)}
theorem run_del (K : KeyOk P kt enc V) (ht : P.underlying mt = some (.map kt et)) (h : MapAt enc V w m L) (a : α) (ha : V a) (ty : TypeId) :
    ∃ w', (Builtin.delete_ #[mt, kt] ty #[.map (some m), enc a]).run P w = .ok (.tuple #[]) w' ∧ w.grownBy w' (some m) ∧ MapAt enc V w' m (del L a) ∧ w'.heap.size = w.heap.size := by
  obtain ⟨es, c, h1, h2, h5, h6⟩ := h.ex
  obtain ⟨la, hla⟩ := K.reads a ha
  rcases find_key (w := w) K h.val h.nodup h2 a ha with ⟨h3, h4⟩ | ⟨j, u, e, h3, h4, h7, h8, h9⟩
  · refine ⟨setBlock w m (.map es c), ?_, setBlock_grown w m _, ?_, by simp [setBlock]⟩
    · simp [Builtin.delete_, run_underlying ht, Go.MapKept.run_getObj_map h1, K.keyed.check w es.isEmpty hla, h3, Go.MapKept.run_setObj_map _ h1]; try rfl
    · rw [del_none h4]
      exact ⟨⟨es, c, setBlock_at _ (row_lt h1), h2, h5, h6⟩, h.nodup, h.val⟩
  · refine ⟨setBlock w m (.map (es.eraseIdxIfInBounds j) c), ?_, setBlock_grown w m _, ?_, by simp [setBlock]⟩
    · simp [Builtin.delete_, run_underlying ht, Go.MapKept.run_getObj_map h1, K.keyed.check w es.isEmpty hla, h3, Go.MapKept.run_setObj_map _ h1]; try rfl
    · have hte : (es.eraseIdxIfInBounds j).toList = es.toList.eraseIdx j := by simp
      refine ⟨⟨_, c, setBlock_at _ (row_lt h1), ?_, ?_, ?_⟩, ?_, ?_⟩
      · rw [hte, ← del_erase h.nodup h9, map_erase, map_erase, h2]
      · intro x hx
        rw [hte] at hx
        exact h5 x (List.mem_of_mem_eraseIdx hx)
      · rw [hte]
        exact h6.sublist ((List.eraseIdx_sublist _ _).map _)
      · exact h.nodup.sublist ((List.filter_sublist).map _)
      · exact fun x hx => h.val x (mem_del.1 hx).1
end
theorem wpList_del {P : Program} {ops : Array Oper} {rest : List Oper} {o : Oper} {a : Act} {w w' : World} {Q : Exit → Act → World → Prop} (hg : o.guard = none) (m x : Operand) (t k : TypeId) (hop : o.op = Op.call { callee := Callee.builtin Builtin.delete, args := #[m, x], argTypes := #[t, k] })
    (mv kv : Value) (hm : a.eval m = mv) (hx : a.eval x = kv) (hrun : ∀ ty, (Builtin.delete_ #[t, k] ty #[mv, kv]).run P w = .ok (.tuple #[]) w') (hK : wpList P ops Q rest (a.put o.dst (.tuple #[])) w') : wpList P ops Q (o :: rest) a w := by
  refine wpList_plain hg fun K' hK' => ?_
  unfold Oper.wp
  simp [execOp, hop, resolve, invoke, builtin, hm, hx, hrun, Result.andThen]
  exact hK' _ _ hK

/-- A row of numbers that a call owns. -/
abbrev OwnI (w : World) (base : Nat) (v : Value) (O : List Nat) : Prop := w.ownsRow base 3 1 v O.length (O.map intV)
theorem Tryz.infoI : (Tryz.prog.info? 3).map (fun i => (i.zero, i.size, i.bytes)) = some (some (.int .i64 0), 1, 8) := by kernel_rfl
theorem EI : Elem Tryz.prog 168 3 1 8 := by
  obtain ⟨i0, hi, hz0, hz1, hz2⟩ := info_parts Tryz.infoI
  exact ⟨Tryz.underlying168, ⟨i0, _, hi, hz0, hz1, hz2, rfl⟩, by decide⟩
theorem OwnI.form {w : World} {b : Nat} {v : Value} {O : List Nat} (h : OwnI w b v O) : (v = .slice none 0 0 ∧ O = []) ∨ ∃ g c cur, v = .slice (some ⟨g, 0, none⟩) O.length c ∧ b ≤ g ∧ w.heap[g]? = some (.cells cur 3 (0, 0)) ∧ O.length ≤ c ∧ c ≤ maxLen ∧ cur.size = c ∧ (∀ (j x : Nat), O[j]? = some x → cur[j]? = some (intV x)) ∧ cur.toList.take O.length = O.map intV := by
  obtain ⟨h1, h2⟩ := h
  rcases h2 with ⟨h2, h3⟩ | ⟨g, cap, cur, e, hb, hg, hn, hm, hs, ht⟩
  · exact .inl ⟨h2, List.length_eq_zero_iff.1 h3⟩
  · rw [Nat.mul_one] at ht hs
    refine .inr ⟨g, cap, cur, e, hb, hg, hn, hm, hs, fun j x hj => ?_, ht⟩
    have hl : j < O.length := by rcases Nat.lt_or_ge j O.length with h | h; exact h; rw [List.getElem?_eq_none h] at hj; cases hj
    have : (cur.toList.take O.length)[j]? = some (intV x) := by rw [ht, List.getElem?_map, hj]; rfl
    rw [List.getElem?_take_of_lt hl, Array.getElem?_toList] at this
    exact this
set_option maxRecDepth 20000 in
theorem SIndex_any {w : World} {b : Nat} {A : Option Addr} {n c : Nat} {O : List Nat} (h : OwnI w b (.slice A n c) O) (hn : n = O.length) (hn1 : n ≤ 1000000000) (x : Nat) (hx : x ∈ O) :
    Calls Tryz.prog 113 #[.slice A n c, .int .i64 x] w fun e w' => ∃ j : Nat, e = .returned (.int .i64 j) ∧ O[j]? = some x ∧ w = w' := by
  rcases h.form with ⟨_, h0⟩ | ⟨g, c', cur, e, _, hg, _, _, _, hat, _⟩
  · rw [h0] at hx; cases hx
  · injection e with e1 e2 e3
    subst e1
    have HG := Lib.hid hg
    have HAT := Lib.hid hat
    have HN := Lib.hid hn
    have HX := Lib.hid hx

    clear h hg hat hn hx e2 e3
    go_enter Tryz.func113, Tryz.ntmps113
    go_upto_region 2 with (fail)
    go_loopg [8] n (fun kq v8 w' => ∃ i : Nat, v8 = .int .i64 (i : Int) ∧ i + kq = n ∧ x ∈ O.drop i ∧ w = w')
    case atStart => exact ⟨0, rfl, by omega, HX.out, rfl⟩
    case round =>
      obtain ⟨i, rfl, hi, hxi, rfl⟩ := hrel
      have hlt : i < n := by
        rcases Nat.lt_or_ge i n with h | h
        · exact h
        · rw [List.drop_of_length_le (by rw [← HN.out]; exact h)] at hxi; cases hxi
      obtain ⟨y, hy⟩ : ∃ y, O[i]? = some y := ⟨_, List.getElem?_eq_getElem (show i < O.length by rw [← HN.out]; exact hlt)⟩
      have c1 : w.cell? ⟨g, i, none⟩ = some (.int .i64 y) := row_at HG.out (by have := HAT.out i y hy; simpa [intV] using this)
      have i1 : (i : Int) < (n : Int) := by omega
      have HY := Lib.hid hy
      have HXI := Lib.hid hxi
      by_cases hxy : x = y
      · subst hxy
        clear hy hxi hlt
        go_wp2_with fail
        go_ret
        exact ⟨i, rfl, HY.out, rfl⟩
      · have hne : ¬ (x : Int) = (y : Int) := by omega
        have HXN := Lib.hid (show x ∈ O.drop (i + 1) from by
          rw [HN.out] at hlt
          rw [List.drop_eq_getElem_cons hlt] at hxi
          rcases List.mem_cons.1 hxi with h | h
          · rw [List.getElem?_eq_getElem hlt] at hy
            injection hy with hy
            exact absurd (h.trans hy) hxy
          · exact h)
        clear hy hxi hxy
        go_wp2_with fail
        go_roundg (n - (i + 1))
        case measure => omega
        case rel => exact ⟨i + 1, by go_num, Nat.add_sub_cancel' hlt, HXN.out, rfl⟩
end Go.Proofs.YtcklcffepedklaaGreat
