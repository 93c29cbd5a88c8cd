/- Texts of the proof, one behind the other: cont: Lay. -/
import Derived.Test.YtcklcffepedklaaGreatM22
namespace Go.Proofs.YtcklcffepedklaaGreat
open Go.RowKit Go.Maps

/-- What stands ahead of a container's rows. -/
def headL (id n : Nat) : List Int := beL id 4 ++ beL n 2
/-- A piece's row. -/
def restL (p : Pc) : List Int := beL p.key.n 4 ++ beL p.data.length 2
def rowL (p : Pc) : List Int := p.key.sum ++ restL p
def rowsL (L : List Pc) : List Int := L.flatMap rowL
def dataL (L : List Pc) : List Int := L.flatMap (·.data)
def bodyL (id : Nat) (L : List Pc) : List Int := headL id L.length ++ rowsL L ++ dataL L
/-- A container's bytes. -/
def contL (id : Nat) (L : List Pc) : List Int := sealL (bodyL id L)
theorem headL_length (id n : Nat) : (headL id n).length = 6 := by simp [headL, beL_length]
theorem restL_length (p : Pc) : (restL p).length = 6 := by simp [restL, beL_length]
theorem rowL_length {p : Pc} (h : p.key.Ok) : (rowL p).length = 38 := by simp [rowL, restL_length, h.len]
theorem rowsL_snoc {L : List Pc} {i : Nat} {p : Pc} (h : L[i]? = some p) : rowsL (L.take (i + 1)) = rowsL (L.take i) ++ rowL p := by
  unfold rowsL; rw [List.take_add_one, h]; simp
theorem dataL_snoc {L : List Pc} {i : Nat} {p : Pc} (h : L[i]? = some p) : dataL (L.take (i + 1)) = dataL (L.take i) ++ p.data := by
  unfold dataL; rw [List.take_add_one, h]; simp
theorem rowsL_length : ∀ {L : List Pc}, (∀ p ∈ L, p.key.Ok) → (rowsL L).length = 38 * L.length
  | [], _ => rfl
  | p :: L, h => by
    have := rowsL_length (L := L) (fun q hq => h q (List.mem_cons_of_mem _ hq))
    unfold rowsL at this ⊢
    rw [List.flatMap_cons, List.length_append, this, rowL_length (h p List.mem_cons_self), List.length_cons]; omega
theorem dataL_length (L : List Pc) : (dataL L).length = lenP L := by
  unfold dataL lenP; rw [List.length_flatMap]
theorem bodyL_length {id : Nat} {L : List Pc} (h : ∀ p ∈ L, p.key.Ok) : (bodyL id L).length = 6 + 38 * L.length + lenP L := by
  simp [bodyL, headL_length, rowsL_length h, dataL_length, Nat.add_assoc]
theorem contL_length {id : Nat} {L : List Pc} (h : ∀ p ∈ L, p.key.Ok) : (contL id L).length = 10 + 38 * L.length + lenP L := by
  rw [contL, sealL_length, bodyL_length h]; omega
theorem Bytes.nil : Bytes [] := fun i => by simp
theorem Bytes.flatMap {α : Type} {f : α → List Int} : ∀ {L : List α}, (∀ x ∈ L, Bytes (f x)) → Bytes (L.flatMap f)
  | [], _ => Bytes.nil
  | x :: L, h => by
    rw [List.flatMap_cons]
    exact (h x List.mem_cons_self).append (Bytes.flatMap (fun y hy => h y (List.mem_cons_of_mem _ hy)))
theorem headL_bytes (id n : Nat) : Bytes (headL id n) := (beL_bytes _ _).append (beL_bytes _ _)
theorem restL_bytes (p : Pc) : Bytes (restL p) := (beL_bytes _ _).append (beL_bytes _ _)
theorem bodyL_bytes {id : Nat} {L : List Pc} (h : ∀ p ∈ L, p.key.Ok ∧ Bytes p.data) : Bytes (bodyL id L) :=
  ((headL_bytes _ _).append (Bytes.flatMap (fun p hp => (h p hp).1.byt.append (restL_bytes p)))).append (Bytes.flatMap (fun p hp => (h p hp).2))

theorem OwnB.mk2 {w : World} {base : Nat} {v : Value} {a b : List Int} {m : Nat} (hm : b.length = m) (h : w.ownsRow base 5 1 v (a.length + m) (a.map (Value.int .u8) ++ b.map (Value.int .u8))) : OwnB w base v (a ++ b) := by
  rw [OwnB, List.length_append, List.map_append, hm]; exact h
/-- Two rows of the call's own, apart. -/
structure Two7 (w wr : World) (u v : Value) (a b : List Int) : Prop where
  one : OwnB wr w.heap.size u a
  two : OwnB wr w.heap.size v b
  ne : ∀ k, u.ownBlock = some k → v.ownBlock ≠ some k
  bel : Below w.heap.size w wr
theorem Two7.below {w wr w' : World} {u v : Value} {a b : List Int} (T : Two7 w wr u v a b) (h : Below wr.heap.size wr w') : Two7 w w' u v a b :=
  ⟨T.one.below h, T.two.below h, T.ne, T.bel.trans (h.mono T.bel.size)⟩
theorem Two7.symm {w wr : World} {u v : Value} {a b : List Int} (T : Two7 w wr u v a b) : Two7 w wr v u b a := ⟨T.two, T.one, fun k h e => T.ne k e h, T.bel⟩
theorem Two7.app {w wr w' : World} {u u' v : Value} {a a' b : List Int} (T : Two7 w wr u v a b) (h1 : OwnB w' w.heap.size u' a') (hg : wr.grownBy w' u.ownBlock) (hat : u'.ownBlock = u.ownBlock ∨ u'.ownBlock = some wr.heap.size) : Two7 w w' u' v a' b := by
  have hlt := T.two.lt
  have hlt1 := T.one.lt
  refine ⟨h1, World.ownsRow.kept T.two hg ?_, ?_, T.bel.grown hg T.bel.size (fun k hk => (hlt1 k hk).1)⟩
  · cases hv : v.ownBlock with
    | none => exact Or.inl rfl
    | some k => exact Or.inr (fun e => T.ne k e.symm hv)
  · intro k hk hv
    rcases hat with e | e
    · exact T.ne k (e ▸ hk) hv
    · rw [e] at hk; injection hk with hk
      have := (hlt k hv).2; omega
set_option maxRecDepth 20000 in
set_option maxHeartbeats 3200000 in
theorem Lay_any (id : Nat) (A : Option Addr) (n c : Nat) (L : List Pc) (w : World) (hid : id < 4294967296) (hn : L.length = n) (hP : PcAt w A L) (hO : PcOk L) :
    Calls Tryz.prog 25 #[.int .u32 id, .slice A n c] w fun e w' => ∃ v, e = .returned (.tuple #[v, .int .i64 0]) ∧ OwnB w' w.heap.size v (contL id L) ∧ Below w.heap.size w w' := by
  have HN := Lib.hid hn
  have HP := Lib.hid hP
  have HO := Lib.hid hO
  have hnum := hO.num
  rw [hn] at hnum
  have HZ := Lib.hid (show ∀ W, (zeroValue 105).run Tryz.prog W = .ok (.agg zP) W from zeroP)
  have HCK := Lib.hid (check_any A n c L w hn hP hO)
  have hw1 : IntKind.u64.wrap (id : Int) = (id : Int) := by rw [IntKind.wrap_u64]; omega
  have hw2 : IntKind.u64.wrap (n : Int) = (n : Int) := by rw [IntKind.wrap_u64]; omega
  have HP1 := Lib.hid (fun W => Put_any none 0 0 [] id 4 W rfl (by omega) (Ints.nil _ _ _) (by omega) (by decide) (by decide))
  have HSZ := Lib.hid (show 10 + 38 * n + lenP L ≤ 65536 from by have := hO.size; omega)
  clear hn hP hO
  go_enter Tryz.func25, Tryz.ntmps25
  go_wp2_with fail
  refine HCK.out.mono ?_
  rintro e w1 ⟨rfl, hb1⟩
  go_wp2_with fail
  refine (HP1.out _).mono ?_
  rintro e w2 ⟨v1, rfl, ho1, hb2⟩
  rw [List.nil_append] at ho1
  obtain ⟨A1, c1, rfl, hc1, hI1, hA1⟩ := ho1.ints
  rw [beL_length] at hc1 ⊢
  have HP2 := Lib.hid (Put_any A1 4 c1 (beL id 4) n 2 w2 (beL_length _ _) (by omega) hI1 (by omega) (by decide) (by decide))
  have HB2 := Lib.hid ((hb1.trans (hb2.mono hb1.size)))
  clear ho1 hI1 hA1 hb1 hb2
  go_wp2_with fail
  refine HP2.out.mono ?_
  rintro e w3 ⟨v2, rfl, ho2, hb3⟩
  have HB3 := Lib.hid (HB2.out.trans (hb3.mono HB2.out.size))
  have HT := Lib.hid (show Two7 w w3 v2 (.slice none 0 0) (headL id n ++ rowsL (L.take 0)) (dataL (L.take 0)) from
    ⟨by simpa [rowsL, headL] using ho2.base HB2.out.size, by show World.ownsRow _ _ _ _ _ _ _; simpa [dataL] using World.ownsRow_nil _ _ _ _, fun k _ e => by simp [Value.ownBlock] at e, HB3.out⟩)
  clear ho2 hb3 HB2 HB3
  go_wp2_with fail
  go_loopg [7, 8, 26] n (fun kq v7 v8 v26 w' => ∃ i : Nat, v26 = .int .i64 (i : Int) ∧ i + kq = n ∧ Two7 w w' v7 v8 (headL id n ++ rowsL (L.take i)) (dataL (L.take i)))
  case atStart => exact ⟨0, rfl, by omega, HT.out⟩
  case round =>
    obtain ⟨i, rfl, hi, hT⟩ := hrel
    have HTT := Lib.hid hT
    by_cases hlt : i < n
    · obtain ⟨p, g, hp, rfl, hr, hok⟩ := (HP.out.below hT.bel).get (i := i) (by rw [HN.out]; exact hlt)
      obtain ⟨hd0, hd1⟩ := HO.out.some_ p (List.mem_of_getElem? hp)
      have HOK := Lib.hid hok
      have HR := Lib.hid hr
      have i1 : (i : Int) < (n : Int) := by omega
      have HRS := Lib.hid (rowsL_snoc hp)
      have HDS := Lib.hid (dataL_snoc hp)
      clear hr hok hlt hT
      go_upto_region 9 with (first | (with_reducible refine Go.wpList_load_mid rfl 105 _ rfl g (i * 34) rfl (p).cells _ HR.out Tryz.underlying105 rfl (sizeP HOK.out.key) ?_) | (with_reducible refine wpList_fresh rfl rfl 105 rfl _ _ rfl (p).cells.toArray zP (fun _ => rfl) (fun _ => rfl) HZ.out (sizePA HOK.out.key) (zP_size HOK.out.key) (all_one (Pc.cells_one p)) ?_; intro g1 w4 hg4 hr4 hb4))
      have hB4 := Lib.hid (show Below wr.heap.size wr w4 from hb4.out)
      have HLT := Lib.hid (row_lt hr4.out)
      have HC32 := Lib.hid (row_at hr4.out (Pc.cells_32 HOK.out.key))
      obtain ⟨q, hq⟩ : ∃ q, p.data.length = q := ⟨_, rfl⟩
      have HQ := Lib.hid hq
      have hc33 := row_at hr4.out (Pc.cells_33 HOK.out.key)
      rw [hq] at hc33 hd0 hd1
      have HC33 := Lib.hid hc33
      have hkn := HOK.out.key.lt
      have hwn : IntKind.u64.wrap (p.key.n : Int) = (p.key.n : Int) := by rw [IntKind.wrap_u64]; omega
      have hwq : IntKind.u64.wrap (q : Int) = (q : Int) := by rw [IntKind.wrap_u64]; omega
      have HPN := Lib.hid (fun W => Put_any none 0 0 [] p.key.n 4 W rfl (by omega) (Ints.nil _ _ _) (by omega) (by decide) (by decide))
      clear hq hc33
      --[
      refine wp_region_held_drew (S := fun w' => Below w4.heap.size w4 w') (by kernel_rfl) ((Below.refl _ _).drew) (fun hHeld => ?_)
      refine held_take 0 (some 30) (v := ?_) rfl rfl (by kernel_rfl) (by kernel_rfl) (by kernel_rfl) (fun _ _ _ h => h) (Or.inl ⟨by rfl, ?_⟩) hHeld ?_
      rotate_left
      · (intro w' hSw; clear hSw; go_simp; try with_reducible rfl)
      try simp only [Act.put, List.setIfInBounds_toArray, List.set_cons_zero, List.set_cons_succ]
      refine held_take 1 (some 31) (v := ?_) rfl rfl (by kernel_rfl) (by kernel_rfl) (by kernel_rfl) (fun _ _ _ h => h) (Or.inl ⟨by rfl, ?_⟩) hHeld ?_
      rotate_left
      · (intro w' hSw; clear hSw; go_simp; try with_reducible rfl)
      try simp only [Act.put, List.setIfInBounds_toArray, List.set_cons_zero, List.set_cons_succ]
      refine held_take 2 (some 32) (v := ?_) rfl rfl (by kernel_rfl) (by kernel_rfl) (by kernel_rfl) (fun _ _ _ h => h) (Or.inl ⟨by rfl, ?_⟩) hHeld ?_
      rotate_left
      · (intro w' hSw; have pf := (hSw.cell HLT.out).trans HC32.out; clear hSw; go_simp; try with_reducible rfl)
      try simp only [Act.put, List.setIfInBounds_toArray, List.set_cons_zero, List.set_cons_succ]
      refine held_take 3 (some 33) (v := ?_) rfl rfl (by kernel_rfl) (by kernel_rfl) (by kernel_rfl) (fun _ _ _ h => h) (Or.inl ⟨by rfl, ?_⟩) hHeld ?_
      rotate_left
      · (intro w' hSw; clear hSw; go_simp; try with_reducible rfl)
      try simp only [Act.put, List.setIfInBounds_toArray, List.set_cons_zero, List.set_cons_succ]
      refine held_take 5 (some 35) (v := ?_) rfl rfl (by kernel_rfl) (by kernel_rfl) (by kernel_rfl) (fun _ _ _ h => h) (Or.inl ⟨by rfl, ?_⟩) hHeld ?_
      rotate_left
      · (intro w' hSw; clear hSw; go_simp; try with_reducible rfl)
      try simp only [Act.put, List.setIfInBounds_toArray, List.set_cons_zero, List.set_cons_succ]
      refine held_take 6 (some 36) (v := ?_) rfl rfl (by kernel_rfl) (by kernel_rfl) (by kernel_rfl) (fun _ _ _ h => h) (Or.inl ⟨by rfl, ?_⟩) hHeld ?_
      rotate_left
      · (intro w' hSw; have pf := (hSw.cell HLT.out).trans HC33.out; clear hSw; go_simp; try with_reducible rfl)
      try simp only [Act.put, List.setIfInBounds_toArray, List.set_cons_zero, List.set_cons_succ]
      refine held_take 7 (some 37) (v := ?_) rfl rfl (by kernel_rfl) (by kernel_rfl) (by kernel_rfl) (fun _ _ _ h => h) (Or.inl ⟨by rfl, ?_⟩) hHeld ?_
      rotate_left
      · (intro w' hSw; clear hSw; go_simp; try with_reducible rfl)
      try simp only [Act.put, List.setIfInBounds_toArray, List.set_cons_zero, List.set_cons_succ]
      refine held_take 8 (some 38) (v := ?_) rfl rfl (by kernel_rfl) (by kernel_rfl) (by kernel_rfl) (fun _ _ _ h => h) (Or.inl ⟨by rfl, ?_⟩) hHeld ?_
      rotate_left
      · (intro w' hSw; clear hSw; go_simp; try with_reducible rfl)
      try simp only [Act.put, List.setIfInBounds_toArray, List.set_cons_zero, List.set_cons_succ]
      refine wpAnyH_ready (rs := [4]) (by kernel_rfl) (by simp) ?_
      refine AllReadyH.cons rfl (fun K hKK => ?_) AllReadyH.nil
      go_simp
      go_at_call 47
      refine (HPN.out _).mono ?_
      rintro e w5 ⟨v5, rfl, ho5, hb5⟩
      have hB5 := Lib.hid ((Below.refl w4.heap.size w4).drew.trans hb5)
      rw [List.nil_append] at ho5
      obtain ⟨A5, c5, rfl, hc5, hI5, hA5⟩ := ho5.ints
      rw [beL_length] at hc5 ⊢
      refine hKK.out _ _ hB5.out (fun hHeld => ?_)
      clear hKK K
      try simp only [Act.put, List.setIfInBounds_toArray, List.set_cons_zero, List.set_cons_succ]
      have HPD := Lib.hid (Put_any A5 4 c5 (beL p.key.n 4) q 2 w5 (beL_length _ _) (by omega) hI5 (by omega) (by decide) (by decide))
      refine wpAnyH_ready (rs := [9]) (by kernel_rfl) (by simp) ?_
      refine AllReadyH.cons rfl (fun K hKK => ?_) AllReadyH.nil
      go_simp
      go_at_call 47
      refine HPD.out.mono ?_
      rintro e w6 ⟨v6, rfl, ho6, hb6⟩
      have hB6 := Lib.hid (hB5.out.trans (hb6.mono hB5.out.size))
      refine hKK.out _ _ hB6.out (fun hHeld => ?_)
      clear hKK K
      try simp only [Act.put, List.setIfInBounds_toArray, List.set_cons_zero, List.set_cons_succ]
      refine held_take 10 (some 11) (v := ?_) rfl rfl (by kernel_rfl) (by kernel_rfl) (by kernel_rfl) (fun _ _ _ h => h) (Or.inl ⟨by rfl, ?_⟩) hHeld ?_
      rotate_left
      · (intro w' hSw; clear hSw; go_simp; try with_reducible rfl)
      try simp only [Act.put, List.setIfInBounds_toArray, List.set_cons_zero, List.set_cons_succ]
      refine wpAnyH_done (by kernel_rfl) ?_ _
      --]
      have hBw6 := hB4.trans (hB6.out.mono hB4.size)
      have T6 := HTT.out.below hBw6
      have hlt6 := HTT.out.one.lt
      have hs6 := hBw6.size
      have hsw := HTT.out.bel.size
      have hg1 := hg4.out
      have hr6 : w6.heap[g1]? = some (.cells p.cells.toArray 105 (0, 0)) := (hB6.out.block g1 HLT.out).trans hr4.out
      obtain ⟨A6, c6, rfl, hc6, hI6, hA6⟩ := ho6.ints
      have hnil6 := OwnB.nilA ho6
      have hl6 : (beL p.key.n 4 ++ beL q 2).length = 6 := by simp [beL_length]
      rw [hl6] at hc6 hnil6 ⊢
      have HI6 := Lib.hid hI6
      have HA6 := Lib.hid hA6
      have HNIL6 := Lib.hid hnil6
      have HRL := Lib.hid (show restL p = beL p.key.n 4 ++ beL q 2 by rw [restL, HQ.out])
      obtain ⟨lA, hlA⟩ : ∃ l, l = headL id n ++ rowsL (L.take i) := ⟨_, rfl⟩
      obtain ⟨lB, hlB⟩ : ∃ l, l = dataL (L.take i) := ⟨_, rfl⟩
      have hla : lA.length ≤ 65536 := by
        rw [hlA, List.length_append, headL_length, rowsL_length (fun q hq => (HP.out.ok q (List.mem_of_mem_take hq)).key), List.length_take]
        have := HSZ.out; omega
      have hlb : lB.length ≤ 65536 := by
        rw [hlB, dataL_length]
        have := HSZ.out; have := lenP_le L i; omega
      rw [← hlA, ← hlB] at T6
      have HLA := Lib.hid hlA
      have HLB := Lib.hid hlB
      have HT6 := Lib.hid T6
      have HS32 := Lib.hid (show (p.key.sum.map (Value.int .u8)).length = 32 * 1 by rw [List.length_map, HOK.out.key.len])
      have HN32 := Lib.hid (show ∀ j u, (p.key.sum.map (Value.int .u8))[j]? = some u → w6.cell? ((⟨g1, 0, none⟩ : Addr).add j) = some u from fun j u hj => by
        have e1 : (⟨g1, 0, none⟩ : Addr).add j = ⟨g1, j, none⟩ := by unfold Addr.add; split <;> simp_all
        rw [e1]
        refine row_at hr6 ?_
        rw [← Pc.cells_sum HOK.out.key] at hj
        rw [List.getElem?_take] at hj
        split at hj
        · exact hj
        · cases hj)
      have HLN6 := Lib.hid (show ((beL p.key.n 4 ++ beL q 2).map (Value.int .u8)).length = 6 * 1 by rw [List.length_map, hl6])
      have hb67 : w.heap.size ≤ w6.heap.size := by omega
      have HR6 := Lib.hid hr6
      have HOW := Lib.hid (HP.out.ok p (List.mem_of_getElem? hp))
      have HLT6 := Lib.hid hlt6
      have HG1 := Lib.hid (show g1 = wr.heap.size from hg1)
      have hg6 : g1 < w6.heap.size := row_lt hr6
      clear T6 hlA hlB hBw6 hs6 hsw hg1 hr6 ho6 hI6 hA6 hnil6 hl6 hlt6 HC32 HC33 ho5 hI5 hA5 hb5 hb6 HPN HPD hwn hwq
      have hb45 : wr.heap.size ≤ w5.heap.size := by have := hB4.out.size; have := hB5.out.size; omega
      have HA7 := Lib.hid (show ∀ (v7 : Value) (w7 : World), w7.ownsRow w.heap.size 5 1 v7 (lA.length + 32) (lA.map (Value.int .u8) ++ p.key.sum.map (Value.int .u8)) → w6.grownBy w7 u7.ownBlock → (v7.ownBlock = u7.ownBlock ∨ v7.ownBlock = some w6.heap.size) →
          Hid (Two7 w w7 v7 u8 (lA ++ p.key.sum) lB) ∧ Hid (Ints .u8 w7 A6 (beL p.key.n 4 ++ beL q 2)) ∧ Hid (w7.heap[g1]? = w6.heap[g1]?) ∧ w.heap.size ≤ w7.heap.size ∧ g1 < w7.heap.size ∧ Hid (∀ k, v7.ownBlock = some k → k ≠ g1) from by
        intro v7 w7 h1 h2 h3
        have hs := h2.size
        refine ⟨HT6.out.app (by rw [OwnB, List.length_append, List.map_append, HOK.out.key.len]; exact h1) h2 h3, HI6.out.grown h2 (fun ad e _ h => ?_), h2.block g1 hg6 (fun e => ?_), by omega, by omega, fun k hk e => ?_⟩
        · have := (HA6.out ad e).1; have := (HLT6.out _ h.symm).2; omega
        · have := (HLT6.out _ e.symm).2; have := HG1.out; omega
        · rcases h3 with h | h
          · rw [h] at hk; have := (HLT6.out _ hk).2; have := HG1.out; omega
          · rw [h] at hk; injection hk with hk; omega)
      have hla7 : (lA ++ p.key.sum).length ≤ 65568 := by rw [List.length_append, HOK.out.key.len]; omega
      go_upto_region 11 with (first | (at_builtin; refine wpList_app EB rfl _ _ rfl w.heap.size u7 lA.length (lA.map (.int .u8)) rfl HT6.out.one (some ⟨g1, 0, none⟩) 32 32 (p.key.sum.map (.int .u8)) rfl (fun h => by cases h) HS32.out (fun j u hj => ⟨_, rfl, HN32.out j u hj⟩) (ints_one _ _) (by unfold maxLen; omega) (by omega) hb67 ?_; intro v7 w7 hown7 hgrow7 hat7; obtain ⟨HT7, HI7, HR7, hbs7, hg7, HAT7⟩ := HA7.out v7 w7 hown7 hgrow7 hat7; clear hown7 hgrow7 hat7) | (at_builtin; refine wpList_app EB rfl _ _ rfl w.heap.size v7 (lA ++ p.key.sum).length ((lA ++ p.key.sum).map (.int .u8)) rfl HT7.out.one A6 6 c6 ((beL p.key.n 4 ++ beL q 2).map (.int .u8)) rfl HNIL6.out HLN6.out HI7.out.news (ints_one _ _) (by unfold maxLen; omega) (by omega) hbs7 ?_; intro v8 w8 hown8 hgrow8 hat8))
      have HT8 := Lib.hid (HT7.out.app (u' := v8) (a' := headL id n ++ rowsL (L.take (i + 1))) (by
        rw [HRS.out, rowL, HRL.out, ← List.append_assoc, ← List.append_assoc, ← HLA.out, OwnB, List.length_append, List.map_append]
        have e6 : (beL p.key.n 4 ++ beL q 2).length = 6 := by simp [beL_length]
        rw [e6]; exact hown8) hgrow8 hat8)
      have hr8 : w8.heap[g1]? = some (.cells p.cells.toArray 105 (0, 0)) := ((hgrow8.block g1 hg7 (fun e => HAT7.out _ e.symm rfl)).trans HR7.out).trans HR6.out
      have c33 := row_at hr8 (Pc.cells_33 HOK.out.key)
      rw [HQ.out] at c33
      have HD8 := Lib.hid (HOW.out.ints.below HT8.out.bel)
      have HDL := Lib.hid (show (p.data.map (Value.int .u8)).length = q * 1 by rw [List.length_map, HQ.out, Nat.mul_one])
      have HDN := Lib.hid (show p.A = none → q = 0 ∧ p.c = 0 by rw [← HQ.out]; exact HOW.out.nil)
      have hbs8 := HT8.out.bel.size
      have HA9 := Lib.hid (show ∀ (v9 : Value) (w9 : World), w9.ownsRow w.heap.size 5 1 v9 (lB.length + q) (lB.map (Value.int .u8) ++ p.data.map (Value.int .u8)) → w8.grownBy w9 u8.ownBlock → (v9.ownBlock = u8.ownBlock ∨ v9.ownBlock = some w8.heap.size) →
          Hid (Two7 w w9 v8 v9 (headL id n ++ rowsL (L.take (i + 1))) (dataL (L.take (i + 1)))) from by
        intro v9 w9 h1 h2 h3
        refine (HT8.out.symm.app (a' := dataL (L.take (i + 1))) ?_ h2 h3).symm
        rw [HDS.out, ← HLB.out, OwnB, List.length_append, List.map_append, HQ.out]; exact h1)
      clear hown8 hgrow8 hat8 hr8 HA7 HT6 HT7 HI7
      go_wp2_with (at_builtin; refine wpList_app EB rfl _ _ rfl w.heap.size u8 lB.length (lB.map (.int .u8)) rfl HT8.out.two p.A q p.c (p.data.map (.int .u8)) rfl HDN.out HDL.out HD8.out.news (ints_one _ _) (by unfold maxLen; omega) (by omega) hbs8 ?_; intro v9 w9 hown9 hgrow9 hat9; have HT9 := HA9.out v9 w9 hown9 hgrow9 hat9; clear hown9 hgrow9 hat9)
      go_roundg (n - (i + 1))
      case measure => omega
      case rel => exact ⟨i + 1, by go_num, by omega, HT9.out⟩
    · obtain rfl : i = n := by omega
      have hTL : L.take i = L := List.take_of_length_le (by rw [HN.out]; exact Nat.le_refl _)
      rw [hTL] at HTT
      obtain ⟨A8, c8, rfl, hc8, hI8, hA8⟩ := HTT.out.two.ints
      have hk : ∀ p ∈ L, p.key.Ok ∧ Bytes p.data := fun p hp => ⟨(HP.out.ok p hp).key, (HP.out.ok p hp).byt⟩
      have hla : (headL id i ++ rowsL L).length ≤ 65536 := by
        rw [List.length_append, headL_length, rowsL_length (fun p hp => (hk p hp).1), HN.out]; have := HSZ.out; omega
      have hlb : (dataL L).length ≤ 65536 := by rw [dataL_length]; have := HSZ.out; omega
      have hbb := hT.bel.size
      have HI8 := Lib.hid hI8
      have HNL := Lib.hid (OwnB.nilA HTT.out.two)
      have HBD := Lib.hid (show headL id i ++ rowsL L ++ dataL L = bodyL id L by rw [bodyL, HN.out])
      have HBY := Lib.hid (bodyL_bytes (id := id) hk)
      have HLD := Lib.hid (show ((dataL L).map (Value.int .u8)).length = (dataL L).length * 1 by simp)
      have HAA := Lib.hid (show ∀ (v9 : Value) (w9 : World), w9.ownsRow w.heap.size 5 1 v9 ((headL id i ++ rowsL L).length + (dataL L).length) ((headL id i ++ rowsL L).map (Value.int .u8) ++ (dataL L).map (Value.int .u8)) → wr.grownBy w9 u7.ownBlock →
          OwnB w9 w.heap.size v9 (bodyL id L) ∧ Below w.heap.size w w9 from by
        intro v9 w9 h1 h2
        refine ⟨?_, HTT.out.bel.grown h2 hbb (fun k hk => (HTT.out.one.lt k hk).1)⟩
        rw [← HBD.out]; exact OwnB.mk2 rfl h1)
      clear hT hlt hI8 hA8 hTL hk
      go_wp2_with (at_builtin; refine wpList_app EB rfl _ _ rfl w.heap.size u7 (headL id i ++ rowsL L).length ((headL id i ++ rowsL L).map (.int .u8)) rfl HTT.out.one A8 (dataL L).length c8 ((dataL L).map (.int .u8)) rfl HNL.out HLD.out HI8.out.news (ints_one _ _) (by unfold maxLen; omega) (by omega) hbb ?_; intro v9 w9 hown9 hgrow9 hat9; obtain ⟨ho9, hb9⟩ := HAA.out v9 w9 hown9 hgrow9; clear hown9 hgrow9 hat9)
      obtain ⟨AB, cB, rfl, hcB, hIB, hAB⟩ := ho9.ints
      have hbl : (bodyL id L).length ≤ 131072 := by rw [← HBD.out, List.length_append (bs := dataL L)]; omega
      have HSE := Lib.hid (Seal_any AB _ cB (bodyL id L) w9 rfl (by omega) hIB HBY.out)
      have HB9 := Lib.hid hb9
      clear ho9 hIB hAB hb9
      go_wp2_with fail
      refine HSE.out.mono ?_
      rintro e w10 ⟨v10, rfl, ho10, hb10⟩
      have HO10 := Lib.hid (ho10.base HB9.out.size)
      have HB10 := Lib.hid (HB9.out.trans (hb10.mono HB9.out.size))
      clear ho10 hb10
      go_wp2_with fail
      go_ret2
      exact ⟨v10, rfl, HO10.out, HB10.out⟩
end Go.Proofs.YtcklcffepedklaaGreat
