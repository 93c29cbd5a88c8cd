/- Texts of the proof, one behind the other: slices.Delete of one number. cache: what it holds; New, Has, Drop. cache: Drop. cache: Get. -/
import Derived.Test.YtcklcffepedklaaGreatM12
namespace Go.Proofs.YtcklcffepedklaaGreat
open Go.RowKit Go.Maps

theorem ints_nat (l : List Nat) : ∀ u ∈ l.map intV, u.oneCell' = true := by
  intro u hu
  obtain ⟨x, _, rfl⟩ := List.mem_map.1 hu
  rfl
/-- append where there is room. -/
theorem exec_app {P : Program} {t e : TypeId} {bytes : Nat} (E : Elem P t e 1 bytes) {o : Oper} {w : World} {ρ : Operand → Value} (x y : Operand) (ho : o.op = .call { callee := .builtin .append, args := #[x, y], argTypes := #[t, t] })
    (g n cap : Nat) (cur : Array Value) (hg : w.heap[g]? = some (.cells cur e (0, 0))) (a : Addr) (m c : Nat) (news : List Value) (hx : ρ x = .slice (some ⟨g, 0, none⟩) n cap) (hy : ρ y = .slice (some a) m c) (hl : news.length = m) (hnews : ∀ j u, news[j]? = some u → w.cell? (a.add j) = some u) (h1 : ∀ u ∈ news, u.oneCell' = true)
    (hroom : n + m ≤ cap) (hfit : n + m ≤ cur.size) : (execOp ρ o).run P w = .ok (.value (.slice (some ⟨g, 0, none⟩) (n + m) cap)) (w.setRow g (cur.toList.take n ++ news ++ cur.toList.drop (n + m)).toArray) := by
  obtain ⟨i, z, hi, hz, hs, _, _⟩ := E.hi
  have hr := run_append_room (P := P) w t o.type e i E.ht hi g n cap cur hg a m c news (by rw [hs, hl, Nat.mul_one]) hnews h1 hroom (by rw [hs, hl, Nat.mul_one]; exact hfit)
  rw [hs, Nat.mul_one, hl] at hr
  unfold execOp
  simp only [ho, resolve, invoke, builtin, Sem.run_bind, Sem.run_pure, Result.andThen_ok, List.map_toArray, List.map_cons, List.map_nil, hx, hy, hr]
theorem run_clearI (w : World) (ty : TypeId) (g o n c : Nat) (cur : Array Value) (t : TypeId) (hg : w.heap[g]? = some (.cells cur t (0, 0))) (hn : 0 < n) (hfit : o + n ≤ cur.size) :
    (Builtin.clear_ #[168] ty #[.slice (some ⟨g, o, none⟩) n c]).run Tryz.prog w = .ok (.tuple #[]) (w.setRow g (cur.toList.take o ++ (List.replicate n (0 : Nat)).map intV ++ cur.toList.drop (o + n)).toArray) := by
  cases n with
  | zero => omega
  | succ n =>
    have hst := run_storeCells_at Tryz.prog g o t ((List.replicate (n + 1) (0 : Nat)).map intV) 0 cur w hg (by simpa using hfit) (ints_nat _)
    have hz : (Builtin.zeroCells #[Value.int .i64 0] (n + 1)).toList = (List.replicate (n + 1) (0 : Nat)).map intV := by
      apply List.ext_getElem?
      intro i
      simp only [Builtin.zeroCells, List.getElem?_map, List.getElem?_replicate, Array.getElem?_toList]
      by_cases h : i < n + 1
      · rw [if_pos h]
        simp [h, intV, Nat.mod_one]
      · rw [if_neg h]
        simp [h]
    rw [← hz] at hst ⊢
    have hl : (Builtin.zeroCells #[Value.int .i64 0] (n + 1)).toList.length = n + 1 := by rw [hz]; simp
    rw [hl] at hst
    simp only [Nat.add_zero] at hst
    have hz3 := zero3 w
    simp [Builtin.clear_, run_underlying Tryz.underlying168, zero3, Value.cells, hst]

theorem del_row {w w1 : World} {b g c j n m9 q : Nat} {cur : Array Value} {O : List Nat} (htk : cur.toList.take n = O.map intV) (hn : n = O.length) (hj : j < n) (hm : n - (j + 1) = m9) (hq : j + m9 = q) (hnc : n ≤ c) (hcs : cur.size = c) (hcm : c ≤ maxLen) (hbg : b ≤ g)
    (h1 : w1.heap[g]? = some (.cells (cur.toList.take j ++ (O.drop (j + 1)).map intV ++ cur.toList.drop (j + m9)).toArray 3 (0, 0))) (hB : w.grownBy w1 (some g)) (ty : TypeId) (cq : Nat) :
    ∃ w2, (Builtin.clear_ #[168] ty #[.slice (some ⟨g, q, none⟩) 1 cq]).run Tryz.prog w1 = .ok (.tuple #[]) w2 ∧ OwnI w2 b (.slice (some ⟨g, 0, none⟩) q c) (O.eraseIdx j) ∧ w.grownBy w2 (some g) := by
  have hcl : cur.toList.length = c := by rw [Array.length_toList]; exact hcs
  have hl1 : (cur.toList.take j ++ (O.drop (j + 1)).map intV).length = q := by simp; omega
  have hR : (cur.toList.take j ++ (O.drop (j + 1)).map intV ++ cur.toList.drop (j + m9)).length = c := by rw [List.length_append, hl1, List.length_drop, hcl]; omega
  have hfit : q + 1 ≤ (cur.toList.take j ++ (O.drop (j + 1)).map intV ++ cur.toList.drop (j + m9)).toArray.size := by rw [List.size_toArray, hR]; omega
  refine ⟨_, run_clearI w1 ty g q 1 cq _ 3 h1 (by decide) hfit, ⟨by simp, .inr ⟨g, c, _, ?_, hbg, setRow_heap _ _ _ _ _ _ h1, ?_, hcm, ?_, ?_⟩⟩, grown_trans hB (grown_setRow _ _ _)⟩
  · rw [List.length_eraseIdx_of_lt (by omega)]
    congr 1; omega
  · rw [List.length_eraseIdx_of_lt (by omega)]; omega
  · rw [List.size_toArray, List.length_append, List.length_append, List.length_take, List.length_drop, hR]
    simp; omega
  · have he : (O.eraseIdx j).length = q := by rw [List.length_eraseIdx_of_lt (by omega)]; omega
    rw [Nat.mul_one, he]
    simp only [List.toList_toArray]
    rw [List.append_assoc, List.take_append_of_le_length (by rw [List.length_take, hR]; omega), List.take_take, Nat.min_self, List.take_append_of_le_length (by rw [hl1]; exact Nat.le_refl _), List.take_of_length_le (by rw [hl1]; exact Nat.le_refl _), List.eraseIdx_eq_take_drop_succ, List.map_append]
    congr 1
    have := congrArg (List.take j) htk
    rw [List.take_take, Nat.min_eq_left (by omega)] at this
    rw [this, List.map_take]
set_option maxRecDepth 20000 in
set_option maxHeartbeats 1600000 in
theorem SDelete_any {w : World} {b : Nat} {A : Option Addr} {n c : Nat} {O : List Nat} (h : OwnI w b (.slice A n c) O) (hn : n = O.length) (hn1 : n ≤ 1000000000) (j : Nat) (hj : j < n) :
    Calls Tryz.prog 114 #[.slice A n c, .int .i64 j, .int .i64 ((j : Int) + 1)] w fun e w' => ∃ v, e = .returned v ∧ OwnI w' b v (O.eraseIdx j) ∧ w.grownBy w' (Value.ownBlock (.slice A n c)) ∧ v.ownBlock = Value.ownBlock (.slice A n c) := by
  rcases h.form with ⟨_, h0⟩ | ⟨g, c', cur, e, hbg, hg, hnc, hcm, hcs, hat, htk⟩
  · rw [h0] at hn; simp at hn; omega
  · injection e with e1 e2 e3
    subst e1 e3
    rw [← hn] at hnc htk
    obtain ⟨m9, hm9⟩ : ∃ m, n - (j + 1) = m := ⟨_, rfl⟩
    obtain ⟨c9, hc9⟩ : ∃ m, c - (j + 1) = m := ⟨_, rfl⟩
    have HG := Lib.hid hg
    have HGD := Lib.hid (show w.drew.heap[g]? = some (.cells cur 3 (0, 0)) from hg)
    have HNL := Lib.hid (show ((O.drop (j + 1)).map intV).length = m9 by rw [List.length_map, List.length_drop, ← hn, hm9])
    have HRM := Lib.hid (show j + m9 ≤ c ∧ j + m9 ≤ cur.size by omega)
    have hd : ∀ (p x : Nat), (O.drop (j + 1))[p]? = some x → cur[j + 1 + p]? = some (intV x) := fun p x hp => hat _ _ (by rw [List.getElem?_drop] at hp; exact hp)
    have HD := Lib.hid hd
    have HR1 := Lib.hid (show ∀ W, Below w.heap.size w W → (W.setRow g (cur.toList.take j ++ (O.drop (j + 1)).map intV ++ cur.toList.drop (j + m9)).toArray).heap[g]? = some (.cells (cur.toList.take j ++ (O.drop (j + 1)).map intV ++ cur.toList.drop (j + m9)).toArray 3 (0, 0)) from fun W hW => setRow_heap _ _ _ _ _ _ ((hW.block g (row_lt hg)).trans hg))
    have i1 : (j : Int) + 1 ≤ (n : Int) := by omega
    have i2 : ¬ (j : Int) = (j : Int) + 1 := by omega
    have i3 : (n : Int) ≤ (c : Int) := by omega
    have HTK := Lib.hid htk
    have HC := Lib.hid (And.intro hcm (And.intro hcs hbg))
    have HN := Lib.hid hn
    have i4 : (j : Int) ≤ (c : Int) := by omega
    have i5 : (j : Int) + 1 ≤ (c : Int) := by omega
    have i6 : (0 : Int) ≤ (j : Int) + 1 := by omega
    have i7 : (j : Int) ≤ (j : Int) + 1 := by omega
    clear h hg hat htk hcm hcs hbg hd e2 hn
    by_cases hcj : c = j + 1
    · have HNW := Lib.hid (show ∀ p u, ((O.drop (j + 1)).map intV)[p]? = some u → w.drew.cell? ((⟨g, 0, none⟩ : Addr).add p) = some u from fun p u hp => by
        rw [List.drop_of_length_le (by have := HN.out; omega)] at hp; simp at hp)
      subst hcj
      obtain rfl : n = j + 1 := by omega
      obtain rfl : m9 = 0 := by omega
      obtain rfl : c9 = 0 := by omega
      clear hm9 hc9 hnc hj i1 i3 i5
      go_enter Tryz.func114, Tryz.ntmps114
      go_upto_region 5 with (fail)
      --[a
      refine wp_region_held_drew (S := fun w' => Chg (fun x => x = g) w w') (by kernel_rfl) ((Chg.refl _ _).drewN 1) (fun hHeld => ?_)
      refine held_take 0 (some 20) (v := ?_) rfl rfl (by kernel_rfl) (by kernel_rfl) (by kernel_rfl) (fun _ _ _ h => h) (Or.inl ⟨by rfl, ?_⟩) hHeld ?_
      rotate_left
      · (intro w' hSw; clear hSw; go_simp; try with_reducible rfl)
      try simp only [Act.put, List.setIfInBounds_toArray, List.set_cons_zero, List.set_cons_succ]
      refine held_take 1 (some 21) (v := ?_) rfl rfl (by kernel_rfl) (by kernel_rfl) (by kernel_rfl) (fun _ _ _ h => h) (Or.inl ⟨by rfl, ?_⟩) hHeld ?_
      rotate_left
      · (intro w' hSw; clear hSw; go_simp; try with_reducible rfl)
      try simp only [Act.put, List.setIfInBounds_toArray, List.set_cons_zero, List.set_cons_succ]
      refine held_take 2 (some 22) (v := ?_) rfl rfl (by kernel_rfl) (by kernel_rfl) (by kernel_rfl) (fun _ _ _ h => h) (Or.inl ⟨by rfl, ?_⟩) hHeld ?_
      rotate_left
      · (intro w' hSw; clear hSw; go_simp; try with_reducible rfl)
      try simp only [Act.put, List.setIfInBounds_toArray, List.set_cons_zero, List.set_cons_succ]
      refine held_take 3 (some 23) (v := ?_) rfl rfl (by kernel_rfl) (by kernel_rfl) (by kernel_rfl) (fun _ _ _ h => h) (Or.inl ⟨by rfl, ?_⟩) hHeld ?_
      rotate_left
      · (intro w' hSw; clear hSw; go_simp; try with_reducible rfl)
      try simp only [Act.put, List.setIfInBounds_toArray, List.set_cons_zero, List.set_cons_succ]
      refine held_take 4 (some 24) (v := ?_) rfl rfl (by kernel_rfl) (by kernel_rfl) (by kernel_rfl) (fun _ _ _ h => h) (Or.inl ⟨by rfl, ?_⟩) hHeld ?_
      rotate_left
      · (intro w' hSw; clear hSw; go_simp; try with_reducible rfl)
      try simp only [Act.put, List.setIfInBounds_toArray, List.set_cons_zero, List.set_cons_succ]
      refine held_take 5 (some 25) (v := ?_) rfl rfl (by kernel_rfl) (by kernel_rfl) (by kernel_rfl) (fun _ _ _ h => h) (Or.inl ⟨by rfl, ?_⟩) hHeld ?_
      rotate_left
      · (intro w' hSw; clear hSw; go_simp; try with_reducible rfl)
      try simp only [Act.put, List.setIfInBounds_toArray, List.set_cons_zero, List.set_cons_succ]
      refine wpAnyH_ready (rs := [6]) (by kernel_rfl) (by simp) ?_
      refine AllReadyH.cons rfl (fun K hKK => ?_) AllReadyH.nil
      refine step_val rfl (exec_app EI (.tmp 22) (.tmp 25) rfl g j (j + 1) cur HGD.out (⟨g, 0, none⟩) (0) (0) ((O.drop (j + 1)).map intV) (by go_simp) (by go_simp) HNL.out HNW.out (ints_nat _) HRM.out.1 HRM.out.2) ?_
      refine hKK.out _ _ (((Chg.refl _ _).drewN 1).trans2 (Chg.of (grown_setRow _ _ _)) (fun x _ e => by injection e)) (fun hHeld => ?_)
      clear hKK K
      try simp only [Act.put, List.setIfInBounds_toArray, List.set_cons_zero, List.set_cons_succ]
      refine held_take 7 (some 0) (v := ?_) rfl rfl (by kernel_rfl) (by kernel_rfl) (by kernel_rfl) (fun _ _ _ h => h) (Or.inl ⟨by rfl, ?_⟩) hHeld ?_
      rotate_left
      · (intro w' hSw; clear hSw; go_simp; try with_reducible rfl)
      try simp only [Act.put, List.setIfInBounds_toArray, List.set_cons_zero, List.set_cons_succ]
      refine wpAnyH_done (by kernel_rfl) ?_ _
      --]a
      clear hHeld
      have hr1 := HR1.out (w.drew) (Below.refl _ _).drew
      have HB1 := Lib.hid (show w.grownBy (w.drew.setRow g (cur.toList.take j ++ (O.drop (j + 1)).map intV ++ cur.toList.drop (j + 0)).toArray) (some g) from ⟨rfl, rfl, rfl, (grown_setRow w.drew g _).size, fun k hk hne => (grown_setRow w.drew g _).block k hk hne⟩)
      have HRR := Lib.hid hr1
      clear hr1
      generalize w.drew.setRow g (cur.toList.take j ++ (O.drop (j + 1)).map intV ++ cur.toList.drop (j + 0)).toArray = w1 at *
      go_simp
      go_upto_region 6 with (fail)
      obtain ⟨w2, hclr, hown, hgr⟩ := del_row (q := j) HTK.out HN.out (Nat.lt_succ_self j) (by omega) (by omega) (Nat.le_refl _) HC.out.2.1 HC.out.1 HC.out.2.2 HRR.out HB1.out 0 1
      have HOW := Lib.hid hown
      have HGR := Lib.hid hgr
      have j1 : j + 1 - j = 1 := by omega
      have j2 : ¬ j + 1 = j := by omega
      clear hown hgr
      go_wp2_with fail
      go_ret
      exact ⟨_, rfl, HOW.out, HGR.out, rfl⟩
    · have HNW := Lib.hid (show ∀ p u, ((O.drop (j + 1)).map intV)[p]? = some u → w.drew.cell? ((⟨g, j + 1, none⟩ : Addr).add p) = some u from fun p u hp => by
        rw [List.getElem?_map] at hp
        cases hq : (O.drop (j + 1))[p]? with
        | none => rw [hq] at hp; cases hp
        | some x =>
          rw [hq] at hp; injection hp with hp
          rw [addr_add0, ← hp]
          exact row_at (w := w.drew) HGD.out (by have := HD.out p x hq; simpa using this))
      go_enter Tryz.func114, Tryz.ntmps114
      go_upto_region 5 with (fail)
      --[b
      refine wp_region_held_drew (S := fun w' => Chg (fun x => x = g) w w') (by kernel_rfl) ((Chg.refl _ _).drewN 1) (fun hHeld => ?_)
      refine held_take 0 (some 20) (v := ?_) rfl rfl (by kernel_rfl) (by kernel_rfl) (by kernel_rfl) (fun _ _ _ h => h) (Or.inl ⟨by rfl, ?_⟩) hHeld ?_
      rotate_left
      · (intro w' hSw; clear hSw; go_simp; try with_reducible rfl)
      try simp only [Act.put, List.setIfInBounds_toArray, List.set_cons_zero, List.set_cons_succ]
      refine held_take 1 (some 21) (v := ?_) rfl rfl (by kernel_rfl) (by kernel_rfl) (by kernel_rfl) (fun _ _ _ h => h) (Or.inl ⟨by rfl, ?_⟩) hHeld ?_
      rotate_left
      · (intro w' hSw; clear hSw; go_simp; try with_reducible rfl)
      try simp only [Act.put, List.setIfInBounds_toArray, List.set_cons_zero, List.set_cons_succ]
      refine held_take 2 (some 22) (v := ?_) rfl rfl (by kernel_rfl) (by kernel_rfl) (by kernel_rfl) (fun _ _ _ h => h) (Or.inl ⟨by rfl, ?_⟩) hHeld ?_
      rotate_left
      · (intro w' hSw; clear hSw; go_simp; try with_reducible rfl)
      try simp only [Act.put, List.setIfInBounds_toArray, List.set_cons_zero, List.set_cons_succ]
      refine held_take 3 (some 23) (v := ?_) rfl rfl (by kernel_rfl) (by kernel_rfl) (by kernel_rfl) (fun _ _ _ h => h) (Or.inl ⟨by rfl, ?_⟩) hHeld ?_
      rotate_left
      · (intro w' hSw; clear hSw; go_simp; try with_reducible rfl)
      try simp only [Act.put, List.setIfInBounds_toArray, List.set_cons_zero, List.set_cons_succ]
      refine held_take 4 (some 24) (v := ?_) rfl rfl (by kernel_rfl) (by kernel_rfl) (by kernel_rfl) (fun _ _ _ h => h) (Or.inl ⟨by rfl, ?_⟩) hHeld ?_
      rotate_left
      · (intro w' hSw; clear hSw; go_simp; try with_reducible rfl)
      try simp only [Act.put, List.setIfInBounds_toArray, List.set_cons_zero, List.set_cons_succ]
      refine held_take 5 (some 25) (v := ?_) rfl rfl (by kernel_rfl) (by kernel_rfl) (by kernel_rfl) (fun _ _ _ h => h) (Or.inl ⟨by rfl, ?_⟩) hHeld ?_
      rotate_left
      · (intro w' hSw; clear hSw; go_simp; try with_reducible rfl)
      try simp only [Act.put, List.setIfInBounds_toArray, List.set_cons_zero, List.set_cons_succ]
      refine wpAnyH_ready (rs := [6]) (by kernel_rfl) (by simp) ?_
      refine AllReadyH.cons rfl (fun K hKK => ?_) AllReadyH.nil
      refine step_val rfl (exec_app EI (.tmp 22) (.tmp 25) rfl g j (c) cur HGD.out (⟨g, j + 1, none⟩) (m9) (c9) ((O.drop (j + 1)).map intV) (by go_simp) (by go_simp) HNL.out HNW.out (ints_nat _) HRM.out.1 HRM.out.2) ?_
      refine hKK.out _ _ (((Chg.refl _ _).drewN 1).trans2 (Chg.of (grown_setRow _ _ _)) (fun x _ e => by injection e)) (fun hHeld => ?_)
      clear hKK K
      try simp only [Act.put, List.setIfInBounds_toArray, List.set_cons_zero, List.set_cons_succ]
      refine held_take 7 (some 0) (v := ?_) rfl rfl (by kernel_rfl) (by kernel_rfl) (by kernel_rfl) (fun _ _ _ h => h) (Or.inl ⟨by rfl, ?_⟩) hHeld ?_
      rotate_left
      · (intro w' hSw; clear hSw; go_simp; try with_reducible rfl)
      try simp only [Act.put, List.setIfInBounds_toArray, List.set_cons_zero, List.set_cons_succ]
      refine wpAnyH_done (by kernel_rfl) ?_ _
      --]b
      clear hHeld
      have hr1 := HR1.out (w.drew) (Below.refl _ _).drew
      have HB1 := Lib.hid (show w.grownBy (w.drew.setRow g (cur.toList.take j ++ (O.drop (j + 1)).map intV ++ cur.toList.drop (j + m9)).toArray) (some g) from ⟨rfl, rfl, rfl, (grown_setRow w.drew g _).size, fun k hk hne => (grown_setRow w.drew g _).block k hk hne⟩)
      have HRR := Lib.hid hr1
      clear hr1
      generalize w.drew.setRow g (cur.toList.take j ++ (O.drop (j + 1)).map intV ++ cur.toList.drop (j + m9)).toArray = w1 at *
      go_simp
      go_upto_region 6 with (fail)
      obtain ⟨q, hq⟩ : ∃ q, j + m9 = q := ⟨_, rfl⟩
      obtain ⟨cq, hcq⟩ : ∃ m, c - q = m := ⟨_, rfl⟩
      obtain ⟨w2, hclr, hown, hgr⟩ := del_row HTK.out HN.out hj hm9 hq hnc HC.out.2.1 HC.out.1 HC.out.2.2 HRR.out HB1.out 0 cq
      have HOW := Lib.hid hown
      have HGR := Lib.hid hgr
      have j1 : n - q = 1 := by omega
      have j2 : ¬ c = q := by omega
      have j3 : (q : Int) ≤ (n : Int) := by omega
      rw [hq]
      clear hown hgr hm9 hq hnc hj i1 i5 i4
      go_wp2_with fail
      go_ret
      exact ⟨_, rfl, HOW.out, HGR.out, rfl⟩
end Go.Proofs.YtcklcffepedklaaGreat

namespace Go.Proofs.YtcklcffepedklaaGreat
open Go.RowKit Go.Maps

/-- A table: its block, its rows. -/
abbrev Ct := Nat × List (Ky × (Nat × Nat))
def ctV (t : Ct) : Value := .map (some t.1)
def caRows (T : List (Nat × Ct)) : List (Nat × Value) := T.map fun x => (x.1, ctV x.2)
/-- A cache in memory: the order's row, the tables. -/
structure Cm (w : World) (gc room gt : Nat) (vO : Value) (O : List Nat) (T : List (Nat × Ct)) : Prop where
  row : w.heap[gc]? = some (.cells #[.int .i64 room, vO, .map (some gt)] 170 (0, 0))
  ord : OwnI w 0 vO O
  tab : MapAt intV IntOk w gt (caRows T)
  tabr : ∀ x ∈ T, MapAt Ky.val Ky.Ok w x.2.1 (plRows x.2.2)
  keys : ∀ s, s ∈ O ↔ s ∈ T.map (·.1)
  nod : O.Nodup
  ogc : vO.ownBlock ≠ some gc
  tne : ∀ x ∈ T, x.2.1 ≠ gt
  len : O.length ≤ room
  rm : room ≤ 4096
/-- A cache whose tables' rows are rows of L. -/
structure Ca (w : World) (gc room : Nat) (L : List (Ky × (Nat × Nat))) (F : Nat → Prop) : Prop where
  ex : ∃ gt vO O T, Cm w gc room gt vO O T ∧ (∀ x ∈ T, ∀ y ∈ x.2.2, lkp L y.1 = some y.2) ∧ F gt ∧ (∀ k, vO.ownBlock = some k → F k) ∧ ∀ x ∈ T, F x.2.1
  own : F gc
section
variable {w w' : World} {gc room gt : Nat} {vO : Value} {O : List Nat} {T : List (Nat × Ct)}
theorem Cm.gtc (h : Cm w gc room gt vO O T) : gt ≠ gc := fun e => by
  obtain ⟨es, c, h1, _⟩ := h.tab.ex
  rw [e, h.row] at h1; injection h1 with h1; cases h1
theorem Cm.ogt (h : Cm w gc room gt vO O T) : vO.ownBlock ≠ some gt := fun e => by
  obtain ⟨es, c, h1, _⟩ := h.tab.ex
  rcases h.ord.form with ⟨h2, _⟩ | ⟨g, c, cur, h2, _, h3, _⟩
  · rw [h2] at e; cases e
  · rw [h2] at e
    injection e with e
    rw [← e] at h1
    rw [show (⟨g, 0, none⟩ : Addr).block = g from rfl, h3] at h1
    injection h1 with h1; cases h1
theorem Cm.otb (h : Cm w gc room gt vO O T) : ∀ x ∈ T, vO.ownBlock ≠ some x.2.1 := fun x hx e => by
  obtain ⟨es, c, h1, _⟩ := (h.tabr x hx).ex
  rcases h.ord.form with ⟨h2, _⟩ | ⟨g, c, cur, h2, _, h3, _⟩
  · rw [h2] at e; cases e
  · rw [h2] at e
    injection e with e
    rw [← e] at h1
    rw [show (⟨g, 0, none⟩ : Addr).block = g from rfl, h3] at h1
    injection h1 with h1; cases h1
theorem Cm.tgc (h : Cm w gc room gt vO O T) : ∀ x ∈ T, x.2.1 ≠ gc := fun x hx e => by
  obtain ⟨es, c, h1, _⟩ := (h.tabr x hx).ex
  rw [e, h.row] at h1; injection h1 with h1; cases h1
theorem Cm.kept {R : Nat → Prop} (h : Cm w gc room gt vO O T) (hc : Chg R w w') (h1 : ¬ R gc) (h2 : ¬ R gt) (h3 : ∀ k, vO.ownBlock = some k → ¬ R k) (h4 : ∀ x ∈ T, ¬ R x.2.1) : Cm w' gc room gt vO O T := by
  refine ⟨(hc.block gc (row_lt h.row) h1).trans h.row, ?_, h.tab.chg hc h2, fun x hx => (h.tabr x hx).chg hc (h4 x hx), h.keys, h.nod, h.ogc, h.tne, h.len, h.rm⟩
  obtain ⟨a, b⟩ := h.ord
  refine ⟨a, ?_⟩
  rcases b with b | ⟨g, cap, cur, e, b1, b2, b3⟩
  · exact .inl b
  · exact .inr ⟨g, cap, cur, e, b1, (hc.block g (row_lt b2) (h3 g (by rw [e]; rfl))).trans b2, b3⟩
theorem Cm.lt (h : Cm w gc room gt vO O T) : gc < w.heap.size ∧ gt < w.heap.size ∧ (∀ k, vO.ownBlock = some k → k < w.heap.size) ∧ ∀ x ∈ T, x.2.1 < w.heap.size :=
  ⟨row_lt h.row, h.tab.lt, fun k hk => (h.ord.lt k hk).2, fun x hx => (h.tabr x hx).lt⟩
theorem Cm.below (h : Cm w gc room gt vO O T) (hb : Below w.heap.size w w') : Cm w' gc room gt vO O T :=
  h.kept (R := fun _ => False) (Chg.belowAt hb) (fun h => h) (fun h => h) (fun _ _ h => h) (fun _ _ h => h)
theorem Cm.c0 (h : Cm w gc room gt vO O T) : w.cell? ⟨gc, 0, none⟩ = some (.int .i64 room) := by rw [cell_of_row _ _ _ _ _ _ h.row]; rfl
theorem Cm.c1 (h : Cm w gc room gt vO O T) : w.cell? ⟨gc, 1, none⟩ = some vO := by rw [cell_of_row _ _ _ _ _ _ h.row]; rfl
theorem Cm.c2 (h : Cm w gc room gt vO O T) : w.cell? ⟨gc, 2, none⟩ = some (.map (some gt)) := by rw [cell_of_row _ _ _ _ _ _ h.row]; rfl
end
theorem Ca.kept {w w' : World} {gc room : Nat} {L : List (Ky × (Nat × Nat))} {F F' R : Nat → Prop} (h : Ca w gc room L F) (hc : Chg R w w') (h1 : ∀ g, g < w.heap.size → F g → ¬ R g) (h2 : ∀ g, g < w.heap.size → F g → F' g) : Ca w' gc room L F' := by
  obtain ⟨gt, vO, O, T, a, b, c, d, e⟩ := h.ex
  have hl := a.lt
  exact ⟨⟨gt, vO, O, T, a.kept hc (h1 _ hl.1 h.own) (h1 _ hl.2.1 c) (fun k hk => h1 k (hl.2.2.1 k hk) (d k hk)) (fun x hx => h1 _ (hl.2.2.2 x hx) (e x hx)), b, h2 _ hl.2.1 c, fun k hk => h2 k (hl.2.2.1 k hk) (d k hk), fun x hx => h2 _ (hl.2.2.2 x hx) (e x hx)⟩, h2 _ hl.1 h.own⟩
theorem Ca.below {w w' : World} {gc room : Nat} {L : List (Ky × (Nat × Nat))} {F : Nat → Prop} (h : Ca w gc room L F) (hb : Below w.heap.size w w') : Ca w' gc room L F :=
  h.kept (R := fun _ => False) (Chg.belowAt hb) (fun _ _ _ h => h) (fun _ _ h => h)
theorem Ca.bound {w : World} {gc room : Nat} {L : List (Ky × (Nat × Nat))} {F : Nat → Prop} (h : Ca w gc room L F) : Ca w gc room L (fun k => F k ∧ k < w.heap.size) :=
  h.kept (R := fun _ => False) (Chg.refl _ _) (fun _ _ _ h => h) (fun k hk hF => ⟨hF, hk⟩)
theorem Ca.more {w : World} {gc room : Nat} {L L' : List (Ky × (Nat × Nat))} {F : Nat → Prop} (h : Ca w gc room L F) (hL : ∀ k p, lkp L k = some p → lkp L' k = some p) : Ca w gc room L' F := by
  obtain ⟨gt, vO, O, T, a, b, c⟩ := h.ex
  exact ⟨⟨gt, vO, O, T, a, fun x hx y hy => hL _ _ (b x hx y hy), c⟩, h.own⟩
theorem zeroCt (w : World) : (zeroValue 151).run Tryz.prog w = .ok (.map none) w := by
  obtain ⟨i0, hi, hz0, _, _⟩ := info_parts (show (Tryz.prog.info? 151).map (fun i => (i.zero, i.size, i.bytes)) = some (some (.map none), 1, 8) by kernel_rfl)
  exact zero_run hi hz0 w

theorem CNew_any (w : World) (room : Nat) (hr : room ≤ 4096) : Calls Tryz.prog 55 #[.int .i64 room] w fun e w' => ∃ gc, e = .returned (.tuple #[.pointer (some ⟨gc, 0, none⟩), .int .i64 0]) ∧ Ca w' gc room [] (fun k => w.heap.size ≤ k) ∧ Below w.heap.size w w' := by
  have h1 := run_make0 (P := Tryz.prog) Tryz.underlying167
  have h2 : ¬ (room : Int) < 0 := by omega
  have h3 : ¬ 4096 < (room : Int) := by omega
  go_enter Tryz.func55, Tryz.ntmps55
  go_wp2
  go_ret2
  have m1 := MapAt.made (α := Nat) (enc := intV) (V := IntOk) w
  have b1 := (Below.refl w.heap.size w).alloc (Nat.le_refl _) (.map #[] 0)
  have e1 : (w.alloc (.map #[] 0)).heap.size = w.heap.size + 1 := World.size_alloc _ _
  generalize w.alloc (.map #[] 0) = w1 at *
  have hr1 := heap_alloc_last w1 (.cells #[.int .i64 room, .slice none 0 0, .map (some w.heap.size)] 170)
  have b2 := (Below.refl w1.heap.size w1).alloc (Nat.le_refl _) (.cells #[.int .i64 room, .slice none 0 0, .map (some w.heap.size)] 170)
  rw [e1] at hr1
  refine ⟨_, rfl, ⟨⟨w.heap.size, .slice none 0 0, [], [], ⟨hr1, World.ownsRow_nil _ _ _ _, m1.below b2, fun x h => (by cases h), fun s => by simp, List.nodup_nil, by simp [Value.ownBlock], fun x h => (by cases h), Nat.zero_le _, hr⟩, fun x h => (by cases h), Nat.le_refl _, fun k hk => by simp [Value.ownBlock] at hk, fun x h => (by cases h)⟩, by omega⟩, below_trans b1 b2 b1.size⟩
theorem Has_any {w : World} {gc room gt : Nat} {vO : Value} {O : List Nat} {T : List (Nat × Ct)} (h : Cm w gc room gt vO O T) (s : Nat) (hs : IntOk s) : Calls Tryz.prog 104 #[.pointer (some ⟨gc, 0, none⟩), .int .i64 s] w fun e w' => e = .returned (.bool (lkp T s).isSome) ∧ Below w.heap.size w w' := by
  have c2 := h.c2
  have hl := run_lkp keyI Tryz.underlying167 h.tab s hs (.map none) (zeroCt w) true
  unfold caRows at hl
  rw [lkp_map] at hl
  have HL := Lib.hid (show (Instr.lookup 167 (.map (some gt)) (.int .i64 s) true).run Tryz.prog w = .ok (.tuple #[((lkp T s).map ctV).getD (.map none), .bool (lkp T s).isSome]) w from by rw [← Option.isSome_map (f := ctV)]; exact hl)
  obtain ⟨u, hu⟩ : ∃ u, ((lkp T s).map ctV).getD (.map none) = u := ⟨_, rfl⟩
  obtain ⟨ok, hok⟩ : ∃ ok, (lkp T s).isSome = ok := ⟨_, rfl⟩
  rw [hu, hok] at HL
  rw [hok]
  clear h hl hu hok
  go_enter Tryz.func104, Tryz.ntmps104
  go_wp2_with (at_lookup; refine wpList_lkp rfl _ _ _ _ rfl _ _ _ rfl rfl HL.out ?_)
  go_ret
  exact ⟨rfl, Below.refl _ _⟩
end Go.Proofs.YtcklcffepedklaaGreat

namespace Go.Proofs.YtcklcffepedklaaGreat
open Go.RowKit Go.Maps

theorem erase_mem {O : List Nat} (hn : O.Nodup) {j s : Nat} (hj : O[j]? = some s) (x : Nat) : x ∈ O.eraseIdx j ↔ x ∈ O ∧ x ≠ s := by
  have h1 := del_erase (L := O.map fun x => (x, ())) (a := s) (j := j) (v := ()) (by rw [List.map_map]; show (O.map id).Nodup; rw [List.map_id]; exact hn) (by rw [List.getElem?_map, hj]; rfl)
  have h2 : (O.eraseIdx j).map (fun x => (x, ())) = del (O.map fun x => (x, ())) s := by rw [map_erase, h1]
  have h3 : x ∈ O.eraseIdx j ↔ (x, ()) ∈ (O.eraseIdx j).map (fun x => (x, ())) := by simp
  rw [h3, h2, mem_del]
  simp
theorem ownI_form {w : World} {b : Nat} {v : Value} {O : List Nat} (h : OwnI w b v O) : ∃ A c, v = .slice A O.length c := by
  obtain ⟨_, h2⟩ := h
  rcases h2 with ⟨h2, h3⟩ | ⟨g, cap, cur, e, _⟩
  · exact ⟨none, 0, by rw [h2, h3]⟩
  · exact ⟨_, cap, e⟩
set_option maxRecDepth 20000 in
set_option maxHeartbeats 1600000 in
theorem CDrop_cm {w : World} {gc room gt : Nat} {vO : Value} {O : List Nat} {T : List (Nat × Ct)} (a : Cm w gc room gt vO O T) (s : Nat) (hs : IntOk s) :
    Calls Tryz.prog 88 #[.pointer (some ⟨gc, 0, none⟩), .int .i64 s] w fun e w' => e = .returned (.bool (lkp T s).isSome) ∧ Chg (fun x => x = gc ∨ x = gt ∨ vO.ownBlock = some x) w w' ∧ ∃ v' O', Cm w' gc room gt v' O' (del T s) ∧ v'.ownBlock = vO.ownBlock ∧ O'.length + (if (lkp T s).isSome then 1 else 0) = O.length := by
  have HA := Lib.hid a
  have HHS := Lib.hid (Has_any a s hs)
  cases hl : lkp T s with
  | none =>
    rw [hl] at HHS
    have HD := Lib.hid (del_none hl)
    clear a
    go_enter Tryz.func88, Tryz.ntmps88
    go_wp2_with fail
    refine HHS.out.mono ?_
    rintro e w1 ⟨rfl, hb1⟩
    have HB1 := Lib.hid hb1
    clear hb1 HHS
    go_wp2_with fail
    go_ret
    exact ⟨rfl, Chg.belowAt HB1.out, vO, O, by rw [HD.out]; exact HA.out.below HB1.out, rfl, rfl⟩
  | some t =>
    rw [hl] at HHS
    have hsO : s ∈ O := (a.keys s).2 (List.mem_map_of_mem (f := (·.1)) (lkp_some_mem hl))
    have hlen : O.length ≤ 1000000000 := by have := a.len; have := a.rm; omega
    have HSO := Lib.hid hsO
    obtain ⟨A, c, rfl⟩ := ownI_form a.ord
    clear hsO
    go_enter Tryz.func88, Tryz.ntmps88
    go_wp2_with fail
    refine HHS.out.mono ?_
    rintro e w1 ⟨rfl, hb1⟩
    have a1 := a.below hb1
    have HA1 := Lib.hid a1
    have HB1 := Lib.hid hb1
    have c2 := a1.c2
    obtain ⟨w2, hdel, hg2, htab2, hs2⟩ := run_del keyI Tryz.underlying167 a1.tab s hs 0
    have hc2 : Chg (fun x => some x = some gt) w1 w2 := Chg.of hg2
    have ngt : ∀ {x : Nat}, x ≠ gt → ¬ some x = some gt := fun hx e => hx (by injection e)
    have hord2 : OwnI w2 0 (.slice A O.length c) O := World.ownsRow.kept a1.ord hg2 (.inr a1.ogt)
    have hrow2 := (hc2.block gc (row_lt a1.row) (ngt a1.gtc.symm)).trans a1.row
    have HDL := Lib.hid (show ∀ ty, (Builtin.delete_ #[167, 3] ty #[.map (some gt), .int .i64 s]).run Tryz.prog w1 = .ok (.tuple #[]) w2 from fun ty => hdel)
    have HO2 := Lib.hid hord2
    have HR2 := Lib.hid hrow2
    have HT2 := Lib.hid htab2
    have HC2 := Lib.hid hc2
    have c1 : w2.cell? ⟨gc, 1, none⟩ = some (.slice A O.length c) := by rw [cell_of_row _ _ _ _ _ _ hrow2]; rfl
    have HIX := Lib.hid (SIndex_any hord2 rfl hlen s HSO.out)
    clear a a1 hb1 hdel hg2 htab2 hs2 hc2 ngt hord2 hrow2 HHS
    go_wp2_with (at_delete; refine wpList_del rfl _ _ _ _ rfl _ _ rfl rfl HDL.out ?_)
    refine HIX.out.mono ?_
    rintro e w2' ⟨j, rfl, hj, rfl⟩
    have hjl : j < O.length := by rcases Nat.lt_or_ge j O.length with h | h; exact h; rw [List.getElem?_eq_none h] at hj; cases hj
    have HJ := Lib.hid hj
    have HDE := Lib.hid (SDelete_any HO2.out rfl hlen j hjl)
    have hj1 : (j : Int) + 1 ≤ 1000000001 := by omega
    clear hj HIX
    go_wp2_with fail
    refine HDE.out.mono ?_
    rintro e w3 ⟨v3, rfl, ho3, hg3, hv3⟩
    obtain ⟨A3, c3, hv⟩ := ownI_form ho3
    obtain ⟨n3, hn3⟩ : ∃ n, (O.eraseIdx j).length = n := ⟨_, rfl⟩
    rw [hn3] at hv
    subst hv
    clear hn3
    have a0 := HA.out
    have hl1 := HB1.out.size
    have hs2 : w1.heap.size ≤ w2.heap.size := HC2.out.size
    have hr3 : w3.heap[gc]? = some (.cells #[.int .i64 room, .slice A O.length c, .map (some gt)] 170 (0, 0)) := (hg3.block gc (row_lt HR2.out) (fun e => a0.ogc e.symm)).trans HR2.out
    have c13 : w3.cell? ⟨gc, 1, none⟩ = some (.slice A O.length c) := by rw [cell_of_row _ _ _ _ _ _ hr3]; rfl
    have fr3 := free_row hr3 1
    have hgs := grown_setCell w3 gc 1 (.slice A3 n3 c3)
    have ngc : ∀ {x : Nat}, x ≠ gc → ¬ some x = some gc := fun hx e => hx (by injection e)
    have hc13 : Chg (fun x => x = gt ∨ Value.ownBlock (.slice A O.length c) = some x) w1 w3 := HC2.out.mono (fun x e => .inl (by injection e)) |>.trans2 (Chg.of hg3) (fun x _ e => .inr e.symm)
    have HCH := Lib.hid (show Chg (fun x => x = gc ∨ x = gt ∨ Value.ownBlock (.slice A O.length c) = some x) w (w3.setCell ⟨gc, 1, none⟩ (.slice A3 n3 c3)) from
      ((Chg.belowAt HB1.out).trans2 hc13 (fun x _ e => .inr e)).trans2 (Chg.of hgs) (fun x _ e => .inl (by injection e)))
    have hlj : (O.eraseIdx j).length + 1 = O.length := by rw [List.length_eraseIdx_of_lt hjl]; omega
    have HFN := Lib.hid (show Cm (w3.setCell ⟨gc, 1, none⟩ (.slice A3 n3 c3)) gc room gt (.slice A3 n3 c3) (O.eraseIdx j) (del T s) from by
      have htab3 := (HT2.out.of_block (hg3.block gt HT2.out.lt (fun e => a0.ogt e.symm))).of_block (hgs.block gt (by have := HT2.out.lt; have := hg3.size; omega) (ngc a0.gtc))
      refine ⟨by rw [setCell_row hr3]; rfl, World.ownsRow.kept ho3 hgs (.inr (by rw [hv3]; exact a0.ogc)), ?_, fun x hx => ?_, fun x => ?_, a0.nod.sublist (List.eraseIdx_sublist _ _), by rw [hv3]; exact a0.ogc, fun x hx => a0.tne x (mem_del.1 hx).1, by have := a0.len; omega, a0.rm⟩
      · unfold caRows at htab3 ⊢
        rw [del_map ctV]; exact htab3
      · have hxT := (mem_del.1 hx).1
        exact ((HA1.out.tabr x hxT).chg hc13 (fun e => by
          rcases e with e | e
          · exact a0.tne x hxT e
          · exact a0.otb x hxT e)).chg (Chg.of hgs) (ngc (a0.tgc x hxT))
      · rw [erase_mem a0.nod HJ.out, a0.keys]
        constructor
        · rintro ⟨h1, h2⟩
          obtain ⟨y, hy, rfl⟩ := List.mem_map.1 h1
          exact List.mem_map_of_mem (f := (·.1)) (mem_del.2 ⟨hy, h2⟩)
        · intro h1
          obtain ⟨y, hy, rfl⟩ := List.mem_map.1 h1
          have := mem_del.1 hy
          exact ⟨List.mem_map_of_mem (f := (·.1)) this.1, this.2⟩)
    have HV3 := Lib.hid hv3
    have HLJ := Lib.hid hlj
    clear ho3 hg3 hv3 a0 hr3 hgs ngc hc13 hlj HDE c2 c1 hl1 hs2 hj1 hl hlen hs
    go_upto_region 6 with (fail)
    go_wp2_with fail
    go_ret
    exact ⟨rfl, HCH.out, _, _, HFN.out, HV3.out, HLJ.out⟩
/-- cache.Drop, of a cache. -/
theorem CDrop_any {w : World} {gc room : Nat} {L : List (Ky × (Nat × Nat))} {F : Nat → Prop} (h : Ca w gc room L F) (s : Nat) (hs : IntOk s) :
    Calls Tryz.prog 88 #[.pointer (some ⟨gc, 0, none⟩), .int .i64 s] w fun e w' => ∃ ok, e = .returned (.bool ok) ∧ Chg F w w' ∧ Ca w' gc room L F := by
  obtain ⟨gt, vO, O, T, a, b, f1, f2, f3⟩ := h.ex
  refine (CDrop_cm a s hs).mono ?_
  rintro e w' ⟨rfl, hc, v', O', a', hv', _⟩
  exact ⟨_, rfl, hc.mono (fun x hx => by
    rcases hx with rfl | rfl | hx
    · exact h.own
    · exact f1
    · exact f2 x hx), ⟨⟨gt, v', O', _, a', fun x hx => b x (mem_del.1 hx).1, f1, fun k hk => f2 k (hv' ▸ hk), fun x hx => f3 x (mem_del.1 hx).1⟩, h.own⟩⟩
end Go.Proofs.YtcklcffepedklaaGreat

namespace Go.Proofs.YtcklcffepedklaaGreat
open Go.RowKit Go.Maps

theorem plRows_lkp' (L : List (Ky × (Nat × Nat))) (k : Ky) : lkp (plRows L) k = (lkp L k).map plV := lkp_map _ _ _
theorem build_pl0 (w : World) : (Instr.build 82 #[]).run Tryz.prog w = .ok (.agg (plC (0, 0)).toArray) w := by
  obtain ⟨i0, hi, hz0, _, _⟩ := info_parts Tryz.infoPl
  refine run_build w _ _ _ ?_
  rw [built_struct hi hz0 Tryz.underlying82 (places := [(0, 1), (1, 1)]) (by decide +kernel)]
  rfl
set_option maxRecDepth 20000 in
set_option maxHeartbeats 1600000 in
theorem CGet_any {w : World} {gc room : Nat} {L : List (Ky × (Nat × Nat))} {F : Nat → Prop} (h : Ca w gc room L F) (k : Ky) (hk : k.Ok) :
    Calls Tryz.prog 78 #[.pointer (some ⟨gc, 0, none⟩), k.val] w fun e w' => ∃ r : Option (Nat × Nat), e = .returned (.tuple #[plV (r.getD (0, 0)), .bool r.isSome]) ∧ (∀ p, r = some p → lkp L k = some p) ∧ Below w.heap.size w w' := by
  obtain ⟨gt, vO, O, T, a, b, _⟩ := h.ex
  have HB := Lib.hid b
  have HKO := Lib.hid hk
  have hlen : O.length ≤ 4096 := by have := a.len; have := a.rm; omega
  obtain ⟨A, c, rfl⟩ := ownI_form a.ord
  have hgi := row_lt a.row
  have c1 := a.c1
  have HA := Lib.hid a
  clear h a b hk
  unfold Ky.val
  go_enter Tryz.func78, Tryz.ntmps78
  go_upto_region 4 with (fail)
  obtain ⟨g3, hg3⟩ : ∃ g, g = w.heap.size := ⟨_, rfl⟩
  have hb1 := (Below.refl w.heap.size w).alloc (Nat.le_refl _) (.cells k.cells.toArray 64)
  have hr1 := heap_alloc_last w (.cells k.cells.toArray 64)
  have hs1 : (w.alloc (.cells k.cells.toArray 64)).heap.size = w.heap.size + 1 := World.size_alloc _ _
  rw [← hg3] at hr1 hs1 ⊢
  generalize w.alloc (.cells k.cells.toArray 64) = w1 at *
  obtain ⟨g4, hg4⟩ : ∃ g, g = g3 + 1 := ⟨_, rfl⟩
  have hb2 := (Below.refl w1.heap.size w1).alloc (Nat.le_refl _) (.cells #[.int .i64 0, .int .i64 0] 82)
  have hr2 := heap_alloc_last w1 (.cells #[.int .i64 0, .int .i64 0] 82)
  rw [← hg4] at hs1 ⊢
  rw [hs1] at hr2
  generalize w1.alloc (.cells #[.int .i64 0, .int .i64 0] 82) = w2 at *
  have HR3 := Lib.hid ((hb2.block g3 (row_lt hr1)).trans hr1)
  have HB2 := Lib.hid (show Below w.heap.size w w2 from below_trans hb1 hb2 hb1.size)
  have HR4 := Lib.hid hr2
  have HG34 := Lib.hid (And.intro hg3 (And.intro hg4 hs1))
  have HA2 := Lib.hid (HA.out.below HB2.out)
  have hl4 : g4 < w2.heap.size := row_lt hr2
  have hl3 : g3 < w2.heap.size := row_lt HR3.out
  clear hb1 hr1 hs1 hb2 hr2 hg3 hg4
  try go_frame
  go_loopg [18] O.length (fun kq v18 w' => ∃ i : Nat, v18 = .int .i64 (i : Int) ∧ i + kq = O.length ∧ Below w2.heap.size w2 w')
  case atStart => exact ⟨0, rfl, by omega, Below.refl _ _⟩
  case round =>
    obtain ⟨i, rfl, hi, hb⟩ := hrel
    have HBR := Lib.hid hb
    have hsr := hb.size
    by_cases hlt : i < O.length
    · obtain ⟨s, hs⟩ : ∃ s, O[i]? = some s := ⟨_, List.getElem?_eq_getElem hlt⟩
      have aw := HA2.out.below hb
      have hsT := (aw.keys s).1 (List.mem_of_getElem? hs)
      obtain ⟨y, hy, rfl⟩ := List.mem_map.1 hsT
      obtain ⟨s, gx, rows⟩ := y
      have hsok : IntOk s := by
        have := aw.tab.val (s, ctV (gx, rows)) (List.mem_map_of_mem (f := fun x : Nat × Ct => (x.1, ctV x.2)) hy)
        exact this
      have hord := aw.ord.form
      rcases hord with ⟨_, h0⟩ | ⟨go, c', cur, e, _, hgo, _, _, _, hat, _⟩
      · rw [h0] at hlt; exact absurd hlt (Nat.not_lt_zero _)
      injection e with e1 e2 e3
      subst e1
      have c7 : wr.cell? ⟨go, i, none⟩ = some (.int .i64 s) := row_at hgo (by have := hat i s hs; simpa [intV] using this)
      have i1 : (i : Int) < (O.length : Int) := by omega
      obtain ⟨pq, hpq⟩ : ∃ pq, (lkp rows k).getD (0, 0) = pq := ⟨_, rfl⟩
      obtain ⟨ok, hok⟩ : ∃ ok, (lkp rows k).isSome = ok := ⟨_, rfl⟩
      have HSND := Lib.hid (show ∀ p, lkp rows k = some p → lkp L k = some p from fun p hp => HB.out _ hy (k, p) (lkp_some_mem hp))
      have HLS := Lib.hid (show ∀ W, Below wr.heap.size wr W → (Instr.lookup 167 (.map (some gt)) (intV s) false).run Tryz.prog W = .ok (.map (some gx)) W from fun W hW => by
        have h1 := run_lkp keyI Tryz.underlying167 (aw.below hW).tab s hsok (.map none) (zeroCt W) false
        unfold caRows at h1
        rw [lkp_map, lkp_of_mem (by have := aw.tab.nodup; unfold caRows at this; rwa [List.map_map] at this) hy] at h1
        exact h1)
      have HLK := Lib.hid (show ∀ W, Below wr.heap.size wr W → (Instr.lookup 151 (.map (some gx)) (.agg k.cells.toArray) true).run Tryz.prog W = .ok (.tuple #[.agg (plC pq).toArray, .bool ok]) W from fun W hW => by
        have h1 := run_lkp keyK Tryz.underlying151 ((aw.below hW).tabr _ hy) k HKO.out (plV (0, 0)) (zeroPl W) true
        rw [plRows_lkp'] at h1
        rw [← hpq, ← hok]
        cases hq : lkp rows k with
        | none => rw [hq] at h1; exact h1
        | some p => rw [hq] at h1; exact h1)
      have HR := Lib.hid (And.intro hpq hok)
      have HLI := Lib.hid (row_lt aw.row)
      have HC2 := Lib.hid aw.c2
      have hr3 := (hb.block g3 hl3).trans HR3.out
      have hr4 := (hb.block g4 hl4).trans HR4.out
      have HL3 := Lib.hid (row_lt hr3)
      have HK3 := Lib.hid (show wr.rangeAt g3 0 k.cells from range_row hr3)
      have HR4W := Lib.hid hr4
      clear hb hs aw hsT hy hsok hgo hat hpq hok hr3 hr4 e2 e3 hlt
      go_upto_region 6 with (fail)
      --[
      refine wp_region_held_drew (S := fun w' => Below wr.heap.size wr w') (by kernel_rfl) ((Below.refl _ _).drew) (fun hHeld => ?_)
      refine held_take 0 (some 23) (v := ?_) rfl rfl (by kernel_rfl) (by kernel_rfl) (by kernel_rfl) (fun _ _ _ h => h) (Or.inl ⟨by rfl, ?_⟩) hHeld ?_
      rotate_left
      · (intro w' hSw; clear hSw; go_simp; try with_reducible rfl)
      try simp only [Act.put, List.setIfInBounds_toArray, List.set_cons_zero, List.set_cons_succ]
      refine held_take 1 (some 24) (v := ?_) rfl rfl (by kernel_rfl) (by kernel_rfl) (by kernel_rfl) (fun _ _ _ h => h) (Or.inl ⟨by rfl, ?_⟩) hHeld ?_
      rotate_left
      · (intro w' hSw; clear hSw; go_simp; try with_reducible rfl)
      try simp only [Act.put, List.setIfInBounds_toArray, List.set_cons_zero, List.set_cons_succ]
      refine held_take 2 (some 25) (v := ?_) rfl rfl (by kernel_rfl) (by kernel_rfl) (by kernel_rfl) (fun _ _ _ h => h) (Or.inl ⟨by rfl, ?_⟩) hHeld ?_
      rotate_left
      · (intro w' hSw; clear hSw; go_simp; try with_reducible rfl)
      try simp only [Act.put, List.setIfInBounds_toArray, List.set_cons_zero, List.set_cons_succ]
      refine held_take 3 (some 26) (v := ?_) rfl rfl (by kernel_rfl) (by kernel_rfl) (by kernel_rfl) (fun _ _ _ h => h) (Or.inl ⟨by rfl, ?_⟩) hHeld ?_
      rotate_left
      · (intro w' hSw; have pf := (hSw.cell (p := ⟨gc, 2, none⟩) HLI.out).trans HC2.out; clear hSw; go_simp; try with_reducible rfl)
      try simp only [Act.put, List.setIfInBounds_toArray, List.set_cons_zero, List.set_cons_succ]
      refine held_take 4 (some 27) (v := ?_) rfl rfl (by kernel_rfl) (by kernel_rfl) (by kernel_rfl) (fun _ _ _ h => h) (Or.inl ⟨by rfl, ?_⟩) hHeld ?_
      rotate_left
      · (intro w' hSw; clear hSw; go_simp; try with_reducible rfl)
      try simp only [Act.put, List.setIfInBounds_toArray, List.set_cons_zero, List.set_cons_succ]
      refine held_take 5 (some 28) (v := .map (some gx)) rfl rfl (by kernel_rfl) (by kernel_rfl) (by kernel_rfl) (fun _ _ _ h => h) (yields_val (by go_simp) (fun W h => exec_lkp _ _ _ _ rfl (.map (some gt)) (intV s) (by go_simp) (by go_simp; try rfl) (HLS.out W h))) hHeld ?_
      try simp only [Act.put, List.setIfInBounds_toArray, List.set_cons_zero, List.set_cons_succ]
      refine held_take 6 (some 29) (v := .agg (k.cells).toArray) rfl rfl (by kernel_rfl) (by kernel_rfl) (by kernel_rfl) (fun _ _ _ h => h) (yieldsIf_load_mid (by rfl) 64 _ rfl g3 (0) rfl (k.cells) _ (fun w' h => rangeAt_block HK3.out (h.block g3 HL3.out)) Tryz.underlying64 rfl (sizeK HKO.out)) hHeld ?_
      try simp only [Act.put, List.setIfInBounds_toArray, List.set_cons_zero, List.set_cons_succ]
      refine held_take 7 (some 30) (v := .tuple #[.agg (plC pq).toArray, .bool ok]) rfl rfl (by kernel_rfl) (by kernel_rfl) (by kernel_rfl) (fun _ _ _ h => h) (yields_val (by go_simp) (fun W h => exec_lkp _ _ _ _ rfl (.map (some gx)) (.agg k.cells.toArray) (by go_simp) (by go_simp; try rfl) (HLK.out W h))) hHeld ?_
      try simp only [Act.put, List.setIfInBounds_toArray, List.set_cons_zero, List.set_cons_succ]
      refine held_take 8 (some 22) (v := ?_) rfl rfl (by kernel_rfl) (by kernel_rfl) (by kernel_rfl) (fun _ _ _ h => h) (Or.inl ⟨by rfl, ?_⟩) hHeld ?_
      rotate_left
      · (intro w' hSw; clear hSw; go_simp; try with_reducible rfl)
      try simp only [Act.put, List.setIfInBounds_toArray, List.set_cons_zero, List.set_cons_succ]
      refine held_take 9 (some 31) (v := ?_) rfl rfl (by kernel_rfl) (by kernel_rfl) (by kernel_rfl) (fun _ _ _ h => h) (Or.inl ⟨by rfl, ?_⟩) hHeld ?_
      rotate_left
      · (intro w' hSw; clear hSw; go_simp; try with_reducible rfl)
      try simp only [Act.put, List.setIfInBounds_toArray, List.set_cons_zero, List.set_cons_succ]
      refine held_take 10 (some 32) (v := ?_) rfl rfl (by kernel_rfl) (by kernel_rfl) (by kernel_rfl) (fun _ _ _ h => h) (Or.inl ⟨by rfl, ?_⟩) hHeld ?_
      rotate_left
      · (intro w' hSw; clear hSw; go_simp; try with_reducible rfl)
      try simp only [Act.put, List.setIfInBounds_toArray, List.set_cons_zero, List.set_cons_succ]
      refine wpAnyH_ready (rs := [11]) (by kernel_rfl) (by simp) ?_
      refine AllReadyH.cons rfl (fun K hKK => ?_) AllReadyH.nil
      refine step_val rfl (exec_alloc _ rfl (zeroPl _)) ?_
      refine hKK.out _ _ ((Below.refl _ _).drew.alloc (Nat.le_refl _) _) (fun hHeld => ?_)
      clear hKK K
      try simp only [Act.put, List.setIfInBounds_toArray, List.set_cons_zero, List.set_cons_succ]
      have hrowG := heap_alloc_last wr.drew (.cells (plC (0, 0)).toArray 82)
      have hbG := ((Below.refl wr.heap.size wr).drew.alloc (Nat.le_refl _) (.cells (plC (0, 0)).toArray 82))
      refine wpAnyH_ready (rs := [12]) (by kernel_rfl) (by simp) ?_
      refine AllReadyH.cons rfl (fun K hKK => ?_) AllReadyH.nil
      refine step_wp rfl (wp_store_row 82 _ _ rfl wr.drew.heap.size (plC pq).toArray rfl rfl 82 (plC (0, 0)).toArray hrowG (sizePlA _) rfl (all_one (plC_one _)) ?_)
      refine hKK.out _ _ (hbG.grown (grown_setRow _ _ _) hbG.size (fun k hk => by injection hk with hk; rw [← hk]; exact Nat.le_refl _)) (fun hHeld => ?_)
      clear hKK K
      try simp only [Act.put, List.setIfInBounds_toArray, List.set_cons_zero, List.set_cons_succ]
      refine held_take 13 (some 9) (v := ?_) rfl rfl (by kernel_rfl) (by kernel_rfl) (by kernel_rfl) (fun _ _ _ h => h) (Or.inl ⟨by rfl, ?_⟩) hHeld ?_
      rotate_left
      · (intro w' hSw; clear hSw; go_simp; try with_reducible rfl)
      try simp only [Act.put, List.setIfInBounds_toArray, List.set_cons_zero, List.set_cons_succ]
      refine wpAnyH_done (by kernel_rfl) ?_ _
      --]
      have HR6 := Lib.hid (show ((wr.drew.alloc (.cells (plC (0, 0)).toArray 82)).setRow wr.drew.heap.size (plC pq).toArray).heap[wr.drew.heap.size]? = some (.cells (plC pq).toArray 82 (0, 0)) from setRow_heap _ _ _ _ _ _ hrowG)
      have HB6 := Lib.hid hHeld
      clear hHeld hbG hrowG
      generalize (wr.drew.alloc (.cells (plC (0, 0)).toArray 82)).setRow wr.drew.heap.size (plC pq).toArray = w6 at *
      generalize wr.drew.heap.size = g6 at *
      have HK6 := Lib.hid (show w6.rangeAt g6 0 (plC pq) from range_row HR6.out)
      have HR46 := Lib.hid ((HB6.out.block g4 (row_lt HR4W.out)).trans HR4W.out)
      have HBF := Lib.hid (HBR.out.trans (HB6.out.mono hsr))
      go_simp
      cases ok with
      | false =>
        go_wp2_with fail
        go_roundg (O.length - (i + 1))
        case measure => omega
        case rel => exact ⟨i + 1, by go_num, by omega, HBF.out⟩
      | true =>
        go_wp2_with (first | (with_reducible refine Go.wpList_load_mid rfl 82 _ rfl g6 0 rfl (plC pq) _ HK6.out Tryz.underlying82 rfl (sizePl pq) ?_) | (with_reducible refine wpList_store_row rfl 82 _ _ rfl g4 (plC pq).toArray rfl rfl 82 #[.int .i64 0, .int .i64 0] HR46.out (sizePlA pq) rfl (all_one (plC_one _)) ?_))
        refine bodyPost_ret (v := .tuple #[plV pq, .bool true]) ?_ rfl ?_
        · exact results_cell_tmp_row rfl _ _ g4 82 (plC pq).toArray (0, 0) _ _ rfl rfl (setRow_heap _ _ _ _ _ _ HR46.out) Tryz.underlying82 rfl (sizePlA pq)
        · have hl : lkp rows k = some pq := by
            have h1 := HR.out
            cases hq : lkp rows k with
            | none => rw [hq] at h1; exact absurd h1.2 (by simp)
            | some p => rw [hq] at h1; exact congrArg some h1.1
          have h26 := HB2.out.trans (HBF.out.mono HB2.out.size)
          exact ⟨some pq, rfl, fun p hp => by injection hp with hp; rw [← hp]; exact HSND.out pq hl, h26.grown (grown_setRow _ _ _) h26.size (fun k hk => by injection hk with hk; have := HG34.out; omega)⟩
    · obtain rfl : i = O.length := by omega
      have HR46 := Lib.hid ((hb.block g4 hl4).trans HR4.out)
      have HBZ := Lib.hid build_pl0
      clear hb hlt
      go_wp2_with (first | (with_reducible refine wpList_val rfl (exec_build _ _ rfl #[] (by go_simp) (HBZ.out _)) ?_) | (with_reducible refine wpList_store_row rfl 82 _ _ rfl g4 (plC (0, 0)).toArray rfl rfl 82 #[.int .i64 0, .int .i64 0] HR46.out (sizePlA _) rfl (all_one (plC_one _)) ?_))
      refine bodyPost_ret (v := .tuple #[plV (0, 0), .bool false]) ?_ rfl ?_
      · exact results_cell_tmp_row rfl _ _ g4 82 (plC (0, 0)).toArray (0, 0) _ _ rfl rfl (setRow_heap _ _ _ _ _ _ HR46.out) Tryz.underlying82 rfl (sizePlA _)
      · have h26 := HB2.out.trans (HBR.out.mono HB2.out.size)
        exact ⟨none, rfl, fun p hp => (by cases hp), h26.grown (grown_setRow _ _ _) h26.size (fun k hk => by injection hk with hk; have := HG34.out; omega)⟩
end Go.Proofs.YtcklcffepedklaaGreat
