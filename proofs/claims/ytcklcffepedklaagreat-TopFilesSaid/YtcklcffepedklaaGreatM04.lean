/- Texts of the proof, one behind the other: disk: Read; a slice cloned. vault: shelves of a disk; New, Room, Len, shelf. vault: Put. -/
import Derived.Test.YtcklcffepedklaaGreatM03
namespace Go.Proofs.YtcklcffepedklaaGreat
open Go.RowKit

theorem own_empty5 (X : World) : (X.alloc (.cells #[] 5)).ownsRow X.heap.size 5 1 (.slice (some ⟨X.heap.size, 0, none⟩) 0 0) 0 [] := World.ownsRow_lit X #[] 0 (Nat.le_refl _) (by unfold maxLen; omega) rfl
set_option maxRecDepth 20000 in
theorem Clone_any (ad : Addr) (n c : Nat) (l : List Int) (w : World) (hn : l.length = n) (hl : n ≤ 500000000000) (hI : Ints .u8 w (some ad) l) :
    Calls Tryz.prog 40 #[.slice (some ad) n c] w (NewRow l w) := by
  have HN := Lib.hid hn
  have HI := Lib.hid (hI.below ((Below.refl w.heap.size w).alloc (Nat.le_refl _) (.cells #[] 5)))
  have HL := Lib.hid (show (l.map (Value.int .u8)).length = n * 1 by rw [List.length_map, hn, Nat.mul_one])
  have hne : ∀ W, (binOp .eql 22 (.slice (some ad) n c) (.slice none 0 0)).run Tryz.prog W = .ok (.bool false) W := fun W => Lib.run_eql_slice_nil W _ _ (some ad) n c 0 0 Tryz.underlying22
  clear hn hI
  go_enter Tryz.func40, Tryz.ntmps40
  go_wp2_with (at_builtin; refine wpList_app EB rfl _ _ rfl w.heap.size (.slice (some ⟨w.heap.size, 0, none⟩) 0 0) 0 [] rfl (own_empty5 w) (some ad) n c (l.map (Value.int .u8)) rfl (fun h => by cases h) HL.out HI.out.news (ints_one _ _) ?c1 ?c2 ?c3 ?_)
  case c1 => unfold maxLen; omega
  case c2 => omega
  case c3 => simp
  intro v1 w1 hown hgrow _
  have HO := Lib.hid (show OwnB w1 w.heap.size v1 l from by rw [OwnB, HN.out]; simpa using hown)
  have HW := Lib.hid (show Below w.heap.size w w1 from ((Below.refl _ _).alloc (Nat.le_refl _) _).grown hgrow (by simp) (fun k hk => by simp only [Value.ownBlock, Option.some.injEq] at hk; omega))
  clear hown hgrow
  go_wp2
  go_ret
  exact ⟨v1, rfl, HO.out, HW.out⟩

/-- A sector's bytes. -/
def secL (B : List Int) (i : Nat) : List Int := (B.drop (128 * i)).take 128
theorem secL_length {B : List Int} {S i : Nat} (h : B.length = 128 * S) (hi : i < S) : (secL B i).length = 128 := by
  rw [secL, List.length_take, List.length_drop]; omega
theorem addr_add0 (g o m : Nat) : (⟨g, o, none⟩ : Addr).add m = ⟨g, o + m, none⟩ := by unfold Addr.add; split <;> simp_all
theorem ints_row {w : World} {g : Nat} {l : List Int} {t : TypeId} (h : w.heap[g]? = some (.cells (cellsOf l) t (0, 0))) (o n : Nat) : Ints .u8 w (some ⟨g, o, none⟩) ((l.drop o).take n) := by
  have h1 := ((ints_block h).drop o).take n
  rwa [addr_add0, Nat.zero_add] at h1
section
variable {w : World} {gd S c : Nat} {B : List Int} {F : Nat → Prop}
set_option maxRecDepth 20000 in
theorem Read_any (h : Dk w gd S B c F) (i : Nat) (hi : i < S) : Calls Tryz.prog 106 #[.pointer (some ⟨gd, 0, none⟩), .int .i64 i] w fun e w' => ∃ v, e = .returned (.tuple #[v, .int .i64 0]) ∧ OwnB w' w.heap.size v (secL B i) ∧ Below w.heap.size w w' := by
  obtain ⟨gn, gs, wv, dn, nw, xs, a1, a2, _⟩ := h.ex
  have c0 : w.cell? ⟨gd, 0, none⟩ = some (.slice (some ⟨gn, 0, none⟩) S S) := by rw [cell_of_row _ _ _ _ _ _ a1]; rfl
  have c3 : w.cell? ⟨gd, 3, none⟩ = some (.bool false) := by rw [cell_of_row _ _ _ _ _ _ a1]; rfl
  have HC := Lib.hid (Clone_any ⟨gn, i * 128, none⟩ 128 128 (secL B i) w (secL_length h.len hi) (by decide) (by rw [secL, Nat.mul_comm 128 i]; exact ints_row a2 (i * 128) 128))
  have h0 : ¬ (i : Int) < 0 := by omega
  have h1 : ¬ (S : Int) ≤ (i : Int) := by omega
  have h2 : (i : Int) < (S : Int) := by omega
  clear h a1 a2 hi
  go_enter Tryz.func106, Tryz.ntmps106
  go_wp2_with (go_at_call 40; refine HC.out.mono ?_; rintro e w' ⟨v, rfl, ho, hb⟩)
  go_ret2
  exact ⟨v, rfl, ho, hb⟩

/-- A disk's bytes behind a write. -/
def secS (B : List Int) (i : Nat) (b : List Int) : List Int := B.take (i * 128) ++ (b ++ List.replicate (128 - b.length) 0) ++ B.drop (i * 128 + 128)
theorem secS_length {B b : List Int} {i : Nat} (h : B.length = 128 * S) (hi : i < S) (hb : b.length ≤ 128) : (secS B i b).length = 128 * S := by
  simp [secS]; omega
theorem secS_bytes {B b : List Int} {i : Nat} (h : Bytes B) (hb : Bytes b) : Bytes (secS B i b) :=
  ((h.take _).append (hb.append (fun j => by rw [List.getD_eq_getElem?_getD, List.getElem?_replicate]; split <;> simp))).append (h.drop _)
/-- The cells of a write. -/
def wrC (i : Nat) (b : List Int) : List Value := .int .i64 i :: (b ++ List.replicate (128 - b.length) 0).map (Value.int .u8)
theorem wrC_length {i : Nat} {b : List Int} (h : b.length ≤ 128) : (wrC i b).length = 129 := by simp [wrC]; omega
theorem wrC_one (i : Nat) (b : List Int) : ∀ u ∈ wrC i b, u.oneCell' = true := by
  intro u hu
  rcases List.mem_cons.1 hu with rfl | hu
  · rfl
  · exact ints_one .u8 _ u hu
theorem zero_run {P : Program} {T : TypeId} {i : TypeInfo} {z : Value} (hi : P.info? T = some i) (hz : i.zero = some z) (w : World) : (zeroValue T).run P w = .ok z w := by simp [zeroValue, typeInfo, hi, hz]
/-- The cells of no write. -/
def zW : Array Value := (Value.int .i64 0 :: List.replicate 128 (Value.int .u8 0)).toArray
theorem zeroW (w : World) : (zeroValue 163).run Tryz.prog w = .ok (.agg zW) w := by
  obtain ⟨i0, hi, hz0, _, _⟩ := info_parts Tryz.infoWr
  exact zero_run hi hz0 w
theorem build_write (i : Nat) (w : World) : (Instr.build 163 #[(0, .int .i64 i)]).run Tryz.prog w = .ok (.agg (wrC i []).toArray) w := by
  obtain ⟨i0, hi, hz0, _, _⟩ := info_parts Tryz.infoWr
  refine run_build w _ _ _ ?_
  rw [built_struct hi hz0 Tryz.underlying163 (places := [(0, 1), (1, 128)]) (by decide +kernel)]
  show Instr.fill _ zW [(0, Value.int .i64 i)] = _
  rw [fill_cons (off := 0) (size := 1) (vs := [.int .i64 i]) rfl rfl rfl (show 0 + 1 ≤ zW.size by decide +kernel)]
  rw [Instr.fill]
  have e : wrC i [] = .int .i64 i :: List.replicate 128 (.int .u8 0) := by
    unfold wrC; rw [List.nil_append, List.map_replicate]; rfl
  rw [e]; rfl
theorem sizeW {i : Nat} {b : List Int} (h : b.length ≤ 128) : (Tryz.prog.info? 163).map (·.size) = some (wrC i b).length := by rw [wrC_length h]; kernel_rfl
theorem sizeWA {i : Nat} {b : List Int} (h : b.length ≤ 128) : (Tryz.prog.info? 163).map (·.size) = some (wrC i b).toArray.size := by rw [List.size_toArray]; exact sizeW h
theorem zW_size {i : Nat} {b : List Int} (h : b.length ≤ 128) : zW.size = (wrC i b).toArray.size := by
  have e : (wrC i b).toArray.size = 129 := by rw [List.size_toArray, wrC_length h]
  rw [e]; rfl
theorem wr_splice (i : Nat) (b : List Int) (h : b.length ≤ 128) : splice (wrC i []) 1 (b.map (Value.int .u8)) = wrC i b := by
  unfold splice wrC
  simp only [List.take_succ_cons, List.take_zero, List.nil_append, List.length_map, List.length_nil, Nat.sub_zero, List.map_append, List.map_replicate, List.singleton_append, List.cons_append, List.cons.injEq, true_and]
  rw [Nat.add_comm, List.drop_succ_cons, List.drop_replicate]
/-- A row's middle is laid. -/
theorem exec_store_mid {P : Program} {o : Oper} {w : World} {ρ : Operand → Value} (T : TypeId) (x y : Operand) (ho : o.op = .store T x y) (g off : Nat) (vs : List Value) (hx : ρ x = .pointer (some ⟨g, off, none⟩)) (hy : ρ y = .agg vs.toArray) (t : TypeId) (cur : Array Value) (hg : w.heap[g]? = some (.cells cur t (0, 0)))
    (hi : (P.info? T).map (·.size) = some vs.length) (hf : off + vs.length ≤ cur.size) (h1 : ∀ v ∈ vs, v.oneCell' = true) : (execOp ρ o).run P w = .ok .skip (w.setRow g (cur.toList.take off ++ vs ++ cur.toList.drop (off + vs.length)).toArray) := by
  have hst := run_storeCells_at P g off t vs 0 cur w hg (by omega) h1
  rw [Nat.add_zero] at hst
  cases hq : P.info? T with
  | none => simp [hq] at hi
  | some i =>
    simp only [hq, Option.map_some, Option.some.injEq] at hi
    have hs : (sizeOf T).run P w = .ok vs.length w := by simp [sizeOf, typeInfo, hq, hi]
    unfold execOp
    simp only [ho, hx, hy, Instr.storeAt, Instr.sureAddr, Sem.run_bind, Sem.run_pure, Result.andThen_ok, storeVar, hs, Value.cells, List.size_toArray]
    simp [hst]

omit w gd S c B F in
theorem Dk.bound {w : World} {gd S : Nat} {B : List Int} {c : Nat} {F : Nat → Prop} (h : Dk w gd S B c F) : Dk w gd S B c (fun k => F k ∧ k < w.heap.size) :=
  h.kept (R := fun _ => False) (Chg.refl _ _) (fun _ _ _ h => h) (fun k hk hF => ⟨hF, hk⟩)
/-- The write is among the disk's writes. -/
theorem Dk.wrote {w1 w4 w5 : World} {A5 : Option Addr} {n5 c5 gn gs : Nat} {wv : Value} {dn nw : Nat} {xs ys : List Value} (h : Dk w1 gd S B c F)
    (a1 : w1.heap[gd]? = some (.cells #[.slice (some ⟨gn, 0, none⟩) S S, .slice (some ⟨gs, 0, none⟩) S S, wv, .bool false, .int .i64 (-1), .int .i64 (dn : Nat)] 95 (0, 0)))
    (a2 : w1.heap[gn]? = some (.cells (cellsOf B) 161 (0, 0))) (a4 : dn ≤ c) (a5 : nw ≤ c) (a6 : gd ≠ gn) (a7 : wv.ownBlock ≠ some gd) (a8 : wv.ownBlock ≠ some gn) (a9 : F gn) (a10 : ∀ k, wv.ownBlock = some k → F k)
    (hb : Below w1.heap.size w1 w4) (e1 : w5.ownsRow 0 163 129 (.slice A5 n5 c5) (nw + 1) (xs ++ ys)) (e2 : w4.grownBy w5 wv.ownBlock) (e3 : Value.ownBlock (.slice A5 n5 c5) = wv.ownBlock ∨ Value.ownBlock (.slice A5 n5 c5) = some w4.heap.size) :
    w5.cell? ⟨gd, 2, none⟩ = some wv ∧ w5.frozen? ⟨gd, 2, none⟩ = false ∧ Hid (Chg (fun k => k = gd ∨ wv.ownBlock = some k) w1 w5) ∧ Hid (Chg (fun k => k = gd ∨ wv.ownBlock = some k) w1 (w5.setCell ⟨gd, 2, none⟩ (.slice A5 n5 c5))) ∧
    Hid (Dk (w5.setCell ⟨gd, 2, none⟩ (.slice A5 n5 c5)) gd S B (c + 1) (fun k => F k ∨ w1.heap.size ≤ k)) ∧ Hid ((w5.setCell ⟨gd, 2, none⟩ (.slice A5 n5 c5)).heap[gd]? = some (.cells #[.slice (some ⟨gn, 0, none⟩) S S, .slice (some ⟨gs, 0, none⟩) S S, .slice A5 n5 c5, .bool false, .int .i64 (-1), .int .i64 (dn : Nat)] 95 (0, 0))) ∧
    Hid ((w5.setCell ⟨gd, 2, none⟩ (.slice A5 n5 c5)).heap[gn]? = some (.cells (cellsOf B) 161 (0, 0))) ∧ Hid (Value.ownBlock (.slice A5 n5 c5) ≠ some gd ∧ Value.ownBlock (.slice A5 n5 c5) ≠ some gn) := by
  have k1 := row_lt a1
  have k2 := row_lt a2
  have hs := hb.size
  have hr5 := (e2.block gd (by omega) (fun e => a7 e.symm)).trans ((hb.block gd k1).trans a1)
  have hn5 := (e2.block gn (by omega) (fun e => a8 e.symm)).trans ((hb.block gn k2).trans a2)
  have hgs := grown_setCell w5 gd 2 (.slice A5 n5 c5)
  have hne5 : ∀ x, x < w1.heap.size → wv.ownBlock ≠ some x → Value.ownBlock (.slice A5 n5 c5) ≠ some x := fun x hx hw e => by
    rcases e3 with h3 | h3
    · exact hw (h3 ▸ e)
    · rw [h3] at e; injection e with e; omega
  have hc5 : Chg (fun k => k = gd ∨ wv.ownBlock = some k) w1 w5 := (Chg.belowAt hb).trans2 (Chg.of e2) (fun x _ hx => .inr hx.symm)
  have hr6 : (w5.setCell ⟨gd, 2, none⟩ (.slice A5 n5 c5)).heap[gd]? = some (.cells #[.slice (some ⟨gn, 0, none⟩) S S, .slice (some ⟨gs, 0, none⟩) S S, .slice A5 n5 c5, .bool false, .int .i64 (-1), .int .i64 (dn : Nat)] 95 (0, 0)) := by rw [setCell_row hr5]; rfl
  have hn6 := (hgs.block gn (by have := row_lt hn5; omega) (fun e => by injection e with e; exact a6 e.symm)).trans hn5
  refine ⟨by rw [cell_of_row _ _ _ _ _ _ hr5]; rfl, free_row hr5 2, hc5, hc5.trans2 (Chg.of hgs) (fun x _ hx => by injection hx with hx; exact .inl hx), ⟨⟨gn, gs, _, dn, nw + 1, _, hr6, hn6, World.ownsRow.kept e1 hgs (.inr (hne5 gd k1 a7)), by omega, by omega, a6, hne5 gd k1 a7, hne5 gn k2 a8, .inl a9, fun k hk => ?_⟩, .inl h.own, h.len, h.byt, h.lim⟩, hr6, hn6, hne5 gd k1 a7, hne5 gn k2 a8⟩
  rcases e3 with h3 | h3
  · exact .inl (a10 k (h3 ▸ hk))
  · rw [h3] at hk; injection hk with hk; exact .inr (by omega)
/-- The sectors' row is laid anew. -/
theorem Dk.filled {w6 : World} {F' : Nat → Prop} {gn gs dn i : Nat} {wv : Value} {b : List Int} (h : Dk w6 gd S B c (fun k => F k ∨ F' k)) (a1 : w6.heap[gd]? = some (.cells #[.slice (some ⟨gn, 0, none⟩) S S, .slice (some ⟨gs, 0, none⟩) S S, wv, .bool false, .int .i64 (-1), .int .i64 (dn : Nat)] 95 (0, 0)))
    (a2 : w6.heap[gn]? = some (.cells (cellsOf B) 161 (0, 0))) (a8 : wv.ownBlock ≠ some gn) (hi : i < S) (hb : b.length ≤ 128) (hB : Bytes b) (hF : F gn) (W : World) (hW : Below w6.heap.size w6 W) :
    Chg (fun k => k = gn) w6 (W.setRow gn (cellsOf (secS B i b))) ∧ Dk (W.setRow gn (cellsOf (secS B i b))) gd S (secS B i b) c (fun k => F k ∨ F' k) := by
  obtain ⟨gn', gs', wv', dn', nw, xs, b1, b2, b3, b4, b5, b6, b7, b8, b9, b10⟩ := h.ex
  have e := a1.symm.trans b1
  simp only [Option.some.injEq, Obj.cells.injEq, Array.mk.injEq, List.cons.injEq, Value.slice.injEq, Addr.mk.injEq, Value.int.injEq, and_true, true_and] at e
  obtain ⟨e1, e2, e3, e4⟩ := e
  subst e1 e2 e3
  have k1 := row_lt b1
  have k2 := row_lt b2
  have hg := grown_setRow W gn (cellsOf (secS B i b))
  have hs := hW.size
  refine ⟨(Chg.belowAt hW).trans2 (Chg.of hg) (fun x _ e => by injection e), ⟨gn, gs, wv, dn', nw, xs, (hg.block gd (by omega) (fun e => by injection e with e; exact b6 e)).trans ((hW.block gd k1).trans b1), ?_, World.ownsRow.kept (World.ownsRow.kept b3 (below_grown hW none) (by cases wv.ownBlock <;> simp)) hg (.inr b8), b4, b5, b6, b7, b8, b9, b10⟩, h.own, secS_length h.len hi hb, secS_bytes h.byt hB, h.lim⟩
  exact setRow_heap W gn _ _ _ _ ((hW.block gn k2).trans b2)
theorem secS_cells {i : Nat} {b : List Int} : cellsOf (secS B i b) = ((cellsOf B).toList.take (i * 128) ++ (b ++ List.replicate (128 - b.length) 0).map (Value.int .u8) ++ (cellsOf B).toList.drop (i * 128 + 128)).toArray := by
  unfold cellsOf secS
  simp only [List.map_append, List.map_take, List.map_drop]

set_option maxRecDepth 20000 in
set_option maxHeartbeats 3200000 in
theorem DWrite_any (h : Dk w gd S B c F) (hc : c < 1000000000) (i : Nat) (hi : i < S) (A : Option Addr) (n cb : Nat) (b : List Int) (hn : b.length = n) (hn1 : n ≤ 128) (hI : Ints .u8 w A b) (hB : Bytes b) (hAF : ∀ ad, A = some ad → 0 < n → ¬ F ad.block) :
    Calls Tryz.prog 51 #[.pointer (some ⟨gd, 0, none⟩), .int .i64 i, .slice A n cb] w fun e w' => e = .returned (.int .i64 0) ∧ Chg F w w' ∧ Dk w' gd S (secS B i b) (c + 2) (fun k => F k ∨ w.heap.size ≤ k) := by
  have HPW := Lib.hid (powered_any h hc)
  have hglt := h.glt
  obtain ⟨gn0, gs0, wv0, dn0, nw0, xs0, a1, _⟩ := h.ex
  have c0 : w.cell? ⟨gd, 0, none⟩ = some (.slice (some ⟨gn0, 0, none⟩) S S) := by rw [cell_of_row _ _ _ _ _ _ a1]; rfl
  have h0 : ¬ (i : Int) < 0 := by omega
  have h1 : ¬ (S : Int) ≤ (i : Int) := by omega
  have h2 : ¬ 128 < (n : Int) := by omega
  have hi2 : (i : Int) < (S : Int) := by omega
  have HO := Lib.hid h.own
  have HI := Lib.hid hI
  have HB := Lib.hid hB
  have HN := Lib.hid hn
  have HL := Lib.hid (And.intro h.len (And.intro h.byt h.lim))
  have HCL := Lib.hid hc
  clear h a1 hn hI hB hc
  go_enter Tryz.func51, Tryz.ntmps51
  go_wp2_with fail
  refine HPW.out.mono ?_
  rintro e w1 ⟨rfl, hg1, hD1, hs1⟩
  have hC1 : Chg F w w1 := Chg.of_ hg1 (fun k _ e => by injection e with e; subst e; exact HO.out)
  have HC1 := Lib.hid hC1
  have HI1 := Lib.hid (HI.out.chg HC1.out (fun ad e h0 => hAF ad e (by rw [← HN.out]; exact h0)))
  have HD1 := Lib.hid hD1
  have HS1 := Lib.hid hs1
  have HBL := Lib.hid (build_write i)
  have HZ := Lib.hid zeroW
  have HU := Lib.hid Tryz.underlying22
  have HS5 := Lib.hid (show (Tryz.prog.info? 5).map (·.size) = some 1 by kernel_rfl)
  clear hg1 hD1 HPW c0 hC1 hs1
  go_upto_region 9 with (first | (with_reducible refine wpList_val rfl (exec_build _ _ rfl #[(0, .int .i64 i)] (by go_simp) (HBL.out _)) ?_) | (with_reducible refine wpList_fresh rfl rfl 163 rfl _ _ rfl (wrC i []).toArray zW (fun _ => rfl) (fun _ => rfl) HZ.out (sizeWA (by decide)) (zW_size (by decide)) (all_one (wrC_one i [])) ?_; intro g8 w2 hg8 hr8 hb8))
  have HI2 := Lib.hid (HI1.out.below hb8.out)
  have hg8' : w1.heap.size ≤ g8 := by have := hg8.out; omega
  have HX1 := Lib.hid (show (b.map (Value.int .u8)).length = Nat.min n 128 by rw [List.length_map, HN.out]; exact (Nat.min_eq_left hn1).symm)
  have HX2 := Lib.hid (show 0 < (b.map (Value.int .u8)).length → some (⟨g8, 1, none⟩ : Addr) = some ⟨g8, 1, none⟩ ∧ ∃ ad, A = some ad ∧ ∀ j v, (b.map (Value.int .u8))[j]? = some v → w2.cell? (ad.add j) = some v from by
    intro h0
    have h0' : 0 < b.length := by simpa using h0
    obtain ⟨ad, e, _⟩ := HI2.out 0 h0'
    refine ⟨rfl, ad, e, fun j v hj => ?_⟩
    obtain ⟨ad', e', hc⟩ := HI2.out.news j v hj
    rw [e] at e'; injection e' with e'; subst e'
    exact hc)
  have HX3 := Lib.hid (show 1 + (b.map (Value.int .u8)).length ≤ (wrC i []).length by rw [List.length_map, HN.out, wrC_length (by decide)]; omega)
  go_upto_region 10 with (with_reducible refine wpList_copy_splice rfl _ _ 22 22 rfl 5 HU.out HS5.out (some ⟨g8, 1, none⟩) A 128 128 n cb rfl rfl g8 1 (wrC i []) 163 hr8.out (b.map (Value.int .u8)) HX1.out HX2.out HX3.out (ints_one _ _) w1.heap.size w1 hb8.out hg8' ?_; intro w3 hr3 hb3)
  have hr3' := hr3.out
  rw [wr_splice i b (by rw [HN.out]; exact hn1)] at hr3'
  have HB3 := Lib.hid hb3
  obtain ⟨gn, gs, wv, dn, nw, xs, a1, a2, a3, a4, a5, a6, a7, a8, a9, a10⟩ := HD1.out.ex
  have k1 := row_lt a1
  have k2 := row_lt a2
  have c2 : w3.cell? ⟨gd, 2, none⟩ = some wv := (hb3.cell (p := ⟨gd, 2, none⟩) k1).trans (by rw [cell_of_row _ _ _ _ _ _ a1]; rfl)
  have HCW := Lib.hid c2
  obtain ⟨RR, hRR⟩ : ∃ R : Nat → Prop, R = fun k => k = gd ∨ wv.ownBlock = some k := ⟨_, rfl⟩
  have HRR := Lib.hid hRR
  have HG8R := Lib.hid (show ¬ RR g8 from by
    rw [hRR]; intro h; rcases h with h | h
    · omega
    · have := (a3.lt _ h).2; omega)
  have HG8L := Lib.hid (row_lt hr3')
  have HW8 := Lib.hid (show w3.rangeAt g8 0 (wrC i b) from range_row hr3')
  have HR8 := Lib.hid hr3'
  have hnb : b.length ≤ 128 := by rw [HN.out]; exact hn1
  have HBS := Lib.hid (fun (W : World) => build_one (P := Tryz.prog) (z := .agg zW) (vs := wrC i b) (s := 129) Tryz.underlying93 (fun _ => by kernel_rfl) zeroW (wrC_length hnb) (by decide) (by decide) (.agg (wrC i b).toArray) rfl W)
  have HAW := Lib.hid (show ∀ W : World, Below w3.heap.size w3 W → W.ownsRow 0 163 129 wv nw xs from fun W hb => World.ownsRow.kept (World.ownsRow.kept a3 (below_grown hb3 none) (by cases wv.ownBlock <;> simp)) (below_grown hb none) (by cases wv.ownBlock <;> simp))
  have HA1 := Lib.hid a1
  have HA2 := Lib.hid a2
  have HAR := Lib.hid (And.intro a4 (And.intro a5 (And.intro a6 (And.intro a7 (And.intro a8 (And.intro a9 a10))))))
  have HWD := Lib.hid (wrC_length (i := i) hnb)
  have HML := Lib.hid (show nw + 1 ≤ maxLen ∧ (nw + 1) * 136 ≤ 140737488355328 by have := HCL.out; unfold maxLen; constructor <;> omega)
  have HSF := Lib.hid (show ∀ (W4 w5 : World) (v5 : Value), Below w3.heap.size w3 W4 → w5.ownsRow 0 163 129 v5 (nw + 1) (xs ++ wrC i b) → W4.grownBy w5 wv.ownBlock → (v5.ownBlock = wv.ownBlock ∨ v5.ownBlock = some W4.heap.size) →
      ∃ A5 n5 c5, v5 = .slice A5 n5 c5 ∧ Chg RR w3 w5 ∧ w5.cell? ⟨gd, 2, none⟩ = some wv ∧ w5.frozen? ⟨gd, 2, none⟩ = false ∧ Hid (Chg RR w3 (w5.setCell ⟨gd, 2, none⟩ (.slice A5 n5 c5)) ∧ Chg F w (w5.setCell ⟨gd, 2, none⟩ (.slice A5 n5 c5)) ∧ Dk (w5.setCell ⟨gd, 2, none⟩ (.slice A5 n5 c5)) gd S B (c + 2) (fun k => F k ∨ w.heap.size ≤ k) ∧
        (w5.setCell ⟨gd, 2, none⟩ (.slice A5 n5 c5)).heap[gd]? = some (.cells #[.slice (some ⟨gn, 0, none⟩) S S, .slice (some ⟨gs, 0, none⟩) S S, .slice A5 n5 c5, .bool false, .int .i64 (-1), .int .i64 (dn : Nat)] 95 (0, 0)) ∧
        (w5.setCell ⟨gd, 2, none⟩ (.slice A5 n5 c5)).heap[gn]? = some (.cells (cellsOf B) 161 (0, 0)) ∧ Value.ownBlock (.slice A5 n5 c5) ≠ some gn) from by
    intro W4 w5 v5 e0 e1 e2 e3
    obtain ⟨a4, a5, a6, a7, a8, a9, a10⟩ := HAR.out
    have hv5 : ∃ A5 n5 c5, v5 = .slice A5 n5 c5 := by
      obtain ⟨_, h⟩ := e1
      rcases h with ⟨h, _⟩ | ⟨g, cap, cur, h, _⟩
      · exact ⟨_, _, _, h⟩
      · exact ⟨_, _, _, h⟩
    obtain ⟨A5, n5, c5, rfl⟩ := hv5
    have hb4 : Below w1.heap.size w1 W4 := HB3.out.trans (e0.mono HB3.out.size)
    obtain ⟨b1, b2, b3, b4, b5, b6, b7, b8⟩ := Dk.wrote HD1.out HA1.out HA2.out a4 a5 a6 a7 a8 a9 a10 hb4 e1 e2 e3
    have hup : ∀ {W : World}, Chg (fun k => k = gd ∨ wv.ownBlock = some k) w1 W → w3.heap.size ≤ W.heap.size → (∀ k, k < w3.heap.size → ¬ (k = gd ∨ wv.ownBlock = some k) → W.heap[k]? = w3.heap[k]?) → Chg RR w3 W := fun hc hs hk =>
      ⟨by rw [hc.os, HB3.out.os], by rw [hc.tape, HB3.out.tape], by rw [hc.output, HB3.out.output], hs, fun k hk1 hk2 => hk k hk1 (by rw [HRR.out] at hk2; exact hk2)⟩
    have hc5 : Chg (fun k => k = gd ∨ wv.ownBlock = some k) w3 w5 := (Chg.belowAt e0).trans2 (Chg.of e2) (fun x _ hx => .inr hx.symm)
    have hc6 : Chg (fun k => k = gd ∨ wv.ownBlock = some k) w3 (w5.setCell ⟨gd, 2, none⟩ (.slice A5 n5 c5)) := hc5.trans2 (Chg.of (grown_setCell _ _ _ _)) (fun x _ hx => by injection hx with hx; exact .inl hx)
    have hRR' : ∀ k, (k = gd ∨ wv.ownBlock = some k) → RR k := fun k hk => by rw [HRR.out]; exact hk
    refine ⟨A5, n5, c5, rfl, hc5.mono hRR', b1, b2, hc6.mono hRR', HC1.out.trans2 b4.out (fun k _ hk => hk.elim (fun e => by rw [e]; exact HD1.out.own) (fun e => a10 k e)), ?_, b6.out, b7.out, b8.out.2⟩
    have := b5.out
    rw [HS1.out] at this
    exact this)
  clear c2 hRR hr3 hr3' hb3 a1 a2 a3 a4 a5 a6 a7 a8 a9 a10
  --[
  apply shared
  · intro final
    refine wp_region_held_drew (S := fun w' => Chg RR w3 w') (by kernel_rfl) ((Chg.refl _ _).drewN 1) (fun hHeld => ?_)
    refine held_take 0 (some 40) (v := ?_) rfl rfl (by kernel_rfl) (by kernel_rfl) (by kernel_rfl) (fun _ _ _ h => h) (Or.inl ⟨by rfl, ?_⟩) hHeld ?_
    rotate_left
    · (intro w' hSw; clear hSw; go_simp; try with_reducible rfl)
    try simp only [Act.put, List.setIfInBounds_toArray, List.set_cons_zero, List.set_cons_succ]
    refine held_take 1 (some 41) (v := ?_) rfl rfl (by kernel_rfl) (by kernel_rfl) (by kernel_rfl) (fun _ _ _ h => h) (Or.inl ⟨by rfl, ?_⟩) hHeld ?_
    rotate_left
    · (intro w' hSw; clear hSw; go_simp; try with_reducible rfl)
    try simp only [Act.put, List.setIfInBounds_toArray, List.set_cons_zero, List.set_cons_succ]
    refine held_take 2 (some 42) (v := ?_) rfl rfl (by kernel_rfl) (by kernel_rfl) (by kernel_rfl) (fun _ _ _ h => h) (Or.inl ⟨by rfl, ?_⟩) hHeld ?_
    rotate_left
    · (intro w' hSw; clear hSw; go_simp; try with_reducible rfl)
    try simp only [Act.put, List.setIfInBounds_toArray, List.set_cons_zero, List.set_cons_succ]
    refine held_take 3 (some 43) (v := ?_) rfl rfl (by kernel_rfl) (by kernel_rfl) (by kernel_rfl) (fun _ _ _ h => h) (Or.inl ⟨by rfl, ?_⟩) hHeld ?_
    rotate_left
    · (intro w' hSw; clear hSw; go_simp; try with_reducible rfl)
    try simp only [Act.put, List.setIfInBounds_toArray, List.set_cons_zero, List.set_cons_succ]
    refine held_take 5 (some 45) (v := .agg (wrC i b).toArray) rfl rfl (by kernel_rfl) (by kernel_rfl) (by kernel_rfl) (fun _ _ _ h => h) (yieldsIf_load_mid (by rfl) 163 _ rfl g8 (0) rfl (wrC i b) _ (fun w' h => rangeAt_block HW8.out (h.block g8 HG8L.out HG8R.out)) Tryz.underlying163 rfl (sizeW hnb)) hHeld ?_
    try simp only [Act.put, List.setIfInBounds_toArray, List.set_cons_zero, List.set_cons_succ]
    refine wpAnyH_ready (rs := [4, 6]) (by kernel_rfl) (by simp) ?_
    refine AllReadyH.cons rfl (fun K hKK => ?_) (AllReadyH.cons rfl (fun K hKK => ?_) AllReadyH.nil)
    · go_simp
      try simp only [HCW.out]
      go_simp
      refine hKK.out _ _ ((Chg.refl _ _).drewN 1) (fun hHeld => ?_)
      clear hKK K
      try simp only [Act.put, List.setIfInBounds_toArray, List.set_cons_zero, List.set_cons_succ]
      refine wpAnyH_ready (rs := [6]) (by kernel_rfl) (by simp) ?_
      refine AllReadyH.cons rfl (fun K hKK => ?_) AllReadyH.nil
      refine step_val rfl (exec_buildSlice _ _ _ rfl #[(0, .agg (wrC i b).toArray)] (by go_simp) (HBS.out w3.drew)) ?_
      refine hKK.out _ _ (((Chg.refl _ _).drewN 1).alloc _) (fun hHeld => ?_)
      clear hKK K
      try simp only [Act.put, List.setIfInBounds_toArray, List.set_cons_zero, List.set_cons_succ]
      refine wpAnyH_ready (rs := [7]) (by kernel_rfl) (by simp) ?_
      refine AllReadyH.cons rfl (fun K hKK => ?_) AllReadyH.nil
      refine step_app EW rfl (.tmp 44) (.tmp 46) rfl 0 wv nw xs (by go_simp) (HAW.out _ ((Below.refl w3.heap.size w3).drew.alloc (Nat.le_refl _) (.cells (wrC i b).toArray 163))) (some ⟨w3.drew.heap.size, 0, none⟩) 1 1 (wrC i b) (by go_simp) (fun h => by cases h) HWD.out (fun j u hj => ⟨_, rfl, by rw [addr_add0, Nat.zero_add]; exact row_at (heap_alloc_last w3.drew _) hj⟩) (wrC_one _ _) HML.out.1 HML.out.2 (Nat.zero_le _) ?_
      intro v5 w5 hown5 hgrow5 hat5
      obtain ⟨A5, n5, c5, hv5, hch5, hcl5, hfr5, hfin⟩ := HSF.out _ w5 v5 ((Below.refl w3.heap.size w3).drew.alloc (Nat.le_refl _) (.cells (wrC i b).toArray 163)) hown5 hgrow5 hat5
      subst hv5
      clear hown5 hgrow5 hat5
      refine hKK.out _ _ hch5 (fun hHeld => ?_)
      clear hKK K
      try simp only [Act.put, List.setIfInBounds_toArray, List.set_cons_zero, List.set_cons_succ]
      refine held_take 8 (some 48) (v := ?_) rfl rfl (by kernel_rfl) (by kernel_rfl) (by kernel_rfl) (fun _ _ _ h => h) (Or.inl ⟨by rfl, ?_⟩) hHeld ?_
      rotate_left
      · (intro w' hSw; clear hSw; go_simp; try with_reducible rfl)
      try simp only [Act.put, List.setIfInBounds_toArray, List.set_cons_zero, List.set_cons_succ]
      refine held_take 9 (some 49) (v := ?_) rfl rfl (by kernel_rfl) (by kernel_rfl) (by kernel_rfl) (fun _ _ _ h => h) (Or.inl ⟨by rfl, ?_⟩) hHeld ?_
      rotate_left
      · (intro w' hSw; clear hSw; go_simp; try with_reducible rfl)
      try simp only [Act.put, List.setIfInBounds_toArray, List.set_cons_zero, List.set_cons_succ]
      refine wpAnyH_ready (rs := [10]) (by kernel_rfl) (by simp) ?_
      refine AllReadyH.cons rfl (fun K hKK => ?_) AllReadyH.nil
      go_simp
      try simp only [hcl5, hfr5]
      go_simp
      refine hKK.out _ _ hfin.out.1 (fun hHeld => ?_)
      clear hKK K
      try simp only [Act.put, List.setIfInBounds_toArray, List.set_cons_zero, List.set_cons_succ]
      refine wpAnyH_done (by kernel_rfl) ?_ _
      clear hHeld hch5 hcl5 hfr5
      generalize w5.setCell ⟨gd, 2, none⟩ (.slice A5 n5 c5) = w6 at hfin ⊢
      go_simp
      all_goals (revert hfin w6 c5 n5 A5; exact final)
    · refine step_val rfl (exec_buildSlice _ _ _ rfl #[(0, .agg (wrC i b).toArray)] (by go_simp) (HBS.out w3.drew)) ?_
      refine hKK.out _ _ (((Chg.refl _ _).drewN 1).alloc _) (fun hHeld => ?_)
      clear hKK K
      try simp only [Act.put, List.setIfInBounds_toArray, List.set_cons_zero, List.set_cons_succ]
      refine wpAnyH_ready (rs := [4]) (by kernel_rfl) (by simp) ?_
      refine AllReadyH.cons rfl (fun K hKK => ?_) AllReadyH.nil
      go_simp
      have hcw4 := ((Below.refl w3.heap.size w3).alloc (Nat.le_refl _) (.cells (wrC i b).toArray 163)).cell (p := ⟨gd, 2, none⟩) (cell_lt HCW.out)
      rw [HCW.out] at hcw4
      try simp only [hcw4]
      go_simp
      refine hKK.out _ _ (((Chg.refl _ _).drewN 1).alloc _) (fun hHeld => ?_)
      clear hKK K
      try simp only [Act.put, List.setIfInBounds_toArray, List.set_cons_zero, List.set_cons_succ]
      refine wpAnyH_ready (rs := [7]) (by kernel_rfl) (by simp) ?_
      refine AllReadyH.cons rfl (fun K hKK => ?_) AllReadyH.nil
      refine step_app EW rfl (.tmp 44) (.tmp 46) rfl 0 wv nw xs (by go_simp) (HAW.out _ ((Below.refl w3.heap.size w3).drew.alloc (Nat.le_refl _) (.cells (wrC i b).toArray 163))) (some ⟨w3.drew.heap.size, 0, none⟩) 1 1 (wrC i b) (by go_simp) (fun h => by cases h) HWD.out (fun j u hj => ⟨_, rfl, by rw [addr_add0, Nat.zero_add]; exact row_at (heap_alloc_last w3.drew _) hj⟩) (wrC_one _ _) HML.out.1 HML.out.2 (Nat.zero_le _) ?_
      intro v5 w5 hown5 hgrow5 hat5
      obtain ⟨A5, n5, c5, hv5, hch5, hcl5, hfr5, hfin⟩ := HSF.out _ w5 v5 ((Below.refl w3.heap.size w3).drew.alloc (Nat.le_refl _) (.cells (wrC i b).toArray 163)) hown5 hgrow5 hat5
      subst hv5
      clear hown5 hgrow5 hat5
      refine hKK.out _ _ hch5 (fun hHeld => ?_)
      clear hKK K
      try simp only [Act.put, List.setIfInBounds_toArray, List.set_cons_zero, List.set_cons_succ]
      refine held_take 8 (some 48) (v := ?_) rfl rfl (by kernel_rfl) (by kernel_rfl) (by kernel_rfl) (fun _ _ _ h => h) (Or.inl ⟨by rfl, ?_⟩) hHeld ?_
      rotate_left
      · (intro w' hSw; clear hSw; go_simp; try with_reducible rfl)
      try simp only [Act.put, List.setIfInBounds_toArray, List.set_cons_zero, List.set_cons_succ]
      refine held_take 9 (some 49) (v := ?_) rfl rfl (by kernel_rfl) (by kernel_rfl) (by kernel_rfl) (fun _ _ _ h => h) (Or.inl ⟨by rfl, ?_⟩) hHeld ?_
      rotate_left
      · (intro w' hSw; clear hSw; go_simp; try with_reducible rfl)
      try simp only [Act.put, List.setIfInBounds_toArray, List.set_cons_zero, List.set_cons_succ]
      refine wpAnyH_ready (rs := [10]) (by kernel_rfl) (by simp) ?_
      refine AllReadyH.cons rfl (fun K hKK => ?_) AllReadyH.nil
      go_simp
      try simp only [hcl5, hfr5]
      go_simp
      refine hKK.out _ _ hfin.out.1 (fun hHeld => ?_)
      clear hKK K
      try simp only [Act.put, List.setIfInBounds_toArray, List.set_cons_zero, List.set_cons_succ]
      refine wpAnyH_done (by kernel_rfl) ?_ _
      clear hHeld hch5 hcl5 hfr5
      generalize w5.setCell ⟨gd, 2, none⟩ (.slice A5 n5 c5) = w6 at hfin ⊢
      go_simp
      all_goals (revert hfin w6 c5 n5 A5; exact final)
  intro A5 n5 c5 w6 hfin
  obtain ⟨f1, f2, f3, f4, f5, f6⟩ := hfin.out
  have hr6 : w6.heap[g8]? = some (.cells (wrC i b).toArray 163 (0, 0)) := (f1.block g8 HG8L.out HG8R.out).trans HR8.out
  have cn6 : w6.cell? ⟨gd, 0, none⟩ = some (.slice (some ⟨gn, 0, none⟩) S S) := by rw [cell_of_row _ _ _ _ _ _ f4]; rfl
  have HW6 := Lib.hid (show w6.rangeAt g8 1 ((b ++ List.replicate (128 - b.length) 0).map (Value.int .u8)) from fun j v hj => by rw [Nat.add_comm]; exact row_at hr6 (by rw [wrC, List.getElem?_cons_succ]; exact hj))
  have hgn6 := row_lt f5
  have hgd6 := row_lt f4
  have hg86 := row_lt hr6
  have hdn := HAR.out.2.2.1
  have hne8 : ¬ g8 = gn := fun e => by have := HD1.out.glt; omega
  have HSL := Lib.hid (show ((b ++ List.replicate (128 - b.length) 0).map (Value.int .u8)).length = 128 by simp; omega)
  have HSS := Lib.hid (show (Tryz.prog.info? 161).map (·.size) = some ((b ++ List.replicate (128 - b.length) 0).map (Value.int .u8)).length by rw [HSL.out]; kernel_rfl)
  have HFT := Lib.hid (show i * 128 + ((b ++ List.replicate (128 - b.length) 0).map (Value.int .u8)).length ≤ (cellsOf B).size by rw [HSL.out, cellsOf_size, HL.out.1]; omega)
  have HF5 := Lib.hid f5
  have HCN := Lib.hid cn6
  have HFF := Lib.hid (And.intro f2 (And.intro f3 (And.intro f4 f6)))
  have HEND := Lib.hid (Dk.filled (gs := gs) (wv := .slice A5 n5 c5) (dn := dn) f3 f4 f5 f6 hi hnb HB.out HAR.out.2.2.2.2.2.1)
  clear hfin f1 f2 f3 f4 f5 f6 hr6 cn6
  go_upto_region 11 with (fail)
  refine wp_region_held_drew (S := fun w' => Chg (fun k => k = gn) w6 w') (by kernel_rfl) ((Chg.refl _ _).drewN 1) (fun hHeld => ?_)
  refine held_take 0 (some 50) (v := ?_) rfl rfl (by kernel_rfl) (by kernel_rfl) (by kernel_rfl) (fun _ _ _ h => h) (Or.inl ⟨by rfl, ?_⟩) hHeld ?_
  rotate_left
  · (intro w' hSw; clear hSw; go_simp; try with_reducible rfl)
  try simp only [Act.put, List.setIfInBounds_toArray, List.set_cons_zero, List.set_cons_succ]
  refine held_take 1 (some 51) (v := ?_) rfl rfl (by kernel_rfl) (by kernel_rfl) (by kernel_rfl) (fun _ _ _ h => h) (Or.inl ⟨by rfl, ?_⟩) hHeld ?_
  rotate_left
  · (intro w' hSw; clear hSw; go_simp; try with_reducible rfl)
  try simp only [Act.put, List.setIfInBounds_toArray, List.set_cons_zero, List.set_cons_succ]
  refine held_take 2 (some 52) (v := ?_) rfl rfl (by kernel_rfl) (by kernel_rfl) (by kernel_rfl) (fun _ _ _ h => h) (Or.inl ⟨by rfl, ?_⟩) hHeld ?_
  rotate_left
  · (intro w' hSw; clear hSw; go_simp; try with_reducible rfl)
  try simp only [Act.put, List.setIfInBounds_toArray, List.set_cons_zero, List.set_cons_succ]
  refine held_take 3 (some 53) (v := ?_) rfl rfl (by kernel_rfl) (by kernel_rfl) (by kernel_rfl) (fun _ _ _ h => h) (Or.inl ⟨by rfl, ?_⟩) hHeld ?_
  rotate_left
  · (intro w' hSw; have pf := (hSw.cell (p := ⟨gd, 0, none⟩) hgd6 (show ¬ gd = gn from hdn)).trans HCN.out; clear hSw; go_simp; try with_reducible rfl)
  try simp only [Act.put, List.setIfInBounds_toArray, List.set_cons_zero, List.set_cons_succ]
  refine held_take 4 (some 54) (v := ?_) rfl rfl (by kernel_rfl) (by kernel_rfl) (by kernel_rfl) (fun _ _ _ h => h) (Or.inl ⟨by rfl, ?_⟩) hHeld ?_
  rotate_left
  · (intro w' hSw; clear hSw; go_simp; try with_reducible rfl)
  try simp only [Act.put, List.setIfInBounds_toArray, List.set_cons_zero, List.set_cons_succ]
  refine held_take 5 (some 55) (v := ?_) rfl rfl (by kernel_rfl) (by kernel_rfl) (by kernel_rfl) (fun _ _ _ h => h) (Or.inl ⟨by rfl, ?_⟩) hHeld ?_
  rotate_left
  · (intro w' hSw; clear hSw; go_simp; try with_reducible rfl)
  try simp only [Act.put, List.setIfInBounds_toArray, List.set_cons_zero, List.set_cons_succ]
  refine held_take 6 (some 56) (v := .agg ((b ++ List.replicate (128 - b.length) 0).map (Value.int .u8)).toArray) rfl rfl (by kernel_rfl) (by kernel_rfl) (by kernel_rfl) (fun _ _ _ h => h) (yieldsIf_load_mid (by rfl) 161 _ rfl g8 (1) rfl ((b ++ List.replicate (128 - b.length) 0).map (Value.int .u8)) _ (fun w' h => rangeAt_block HW6.out (h.block g8 hg86 hne8)) Tryz.underlying161 rfl HSS.out) hHeld ?_
  try simp only [Act.put, List.setIfInBounds_toArray, List.set_cons_zero, List.set_cons_succ]
  refine held_take 7 (some 57) (v := ?_) rfl rfl (by kernel_rfl) (by kernel_rfl) (by kernel_rfl) (fun _ _ _ h => h) (Or.inl ⟨by rfl, ?_⟩) hHeld ?_
  rotate_left
  · (intro w' hSw; clear hSw; go_simp; try with_reducible rfl)
  try simp only [Act.put, List.setIfInBounds_toArray, List.set_cons_zero, List.set_cons_succ]
  refine wpAnyH_ready (rs := [8]) (by kernel_rfl) (by simp) ?_
  refine AllReadyH.cons rfl (fun K hKK => ?_) AllReadyH.nil
  refine step_skip rfl (exec_store_mid 161 (.tmp 57) (.tmp 56) rfl gn (i * 128) ((b ++ List.replicate (128 - b.length) 0).map (Value.int .u8)) (by go_simp) (by go_simp) 161 (cellsOf B) HF5.out HSS.out HFT.out (ints_one _ _)) ?_
  refine hKK.out _ _ (((Chg.refl _ _).drewN 1).trans2 (Chg.of (grown_setRow _ _ _)) (fun x _ e => by injection e)) (fun hHeld => ?_)
  clear hKK K
  try simp only [Act.put, List.setIfInBounds_toArray, List.set_cons_zero, List.set_cons_succ]
  refine wpAnyH_done (by kernel_rfl) ?_ _
  rw [HSL.out, ← secS_cells]
  go_wp2
  go_ret
  exact ⟨rfl, HFF.out.1.trans2 (HEND.out _ (Below.refl _ _).drew).1 (fun k _ hk => by rw [hk]; exact HAR.out.2.2.2.2.2.1), (HEND.out _ (Below.refl _ _).drew).2⟩
  --]
end
end Go.Proofs.YtcklcffepedklaaGreat

namespace Go.Proofs.YtcklcffepedklaaGreat
open Go.RowKit

/-- A shelf's bytes: a number of four bytes, the bytes. -/
def shL (b : List Int) : List Int := beL b.length 4 ++ b
theorem shL_length (b : List Int) : (shL b).length = 4 + b.length := by simp [shL, beL_length]
/-- Bytes lie on a shelf of a disk. -/
def OnSh (B : List Int) (i : Nat) (b : List Int) : Prop := ∀ p, p < 4 + b.length → B[512 * i + p]? = (shL b)[p]?
/-- A vault of n shelves of four sectors; what was laid onto them: D; its disk's blocks meet F. -/
structure Vt (w : World) (gv gd n : Nat) (D : Nat → Option (List Int)) (c : Nat) (F : Nat → Prop) : Prop where
  row : w.heap[gv]? = some (.cells #[.pointer (some ⟨gd, 0, none⟩), .int .i64 0, .int .i64 4, .int .i64 (n : Nat)] 98 (0, 0))
  out : ¬ F gv
  ex : ∃ B, Dk w gd (4 * n) B c F ∧ ∀ i b, i < n → D i = some b → OnSh B i b
  sz : ∀ i b, D i = some b → b.length ≤ 508
theorem Vt.lt {w : World} {gv gd n c : Nat} {D : Nat → Option (List Int)} {F : Nat → Prop} (h : Vt w gv gd n D c F) : gv < w.heap.size := row_lt h.row
theorem Vt.num {w : World} {gv gd n c : Nat} {D : Nat → Option (List Int)} {F : Nat → Prop} (h : Vt w gv gd n D c F) : n ≤ 4096 := by obtain ⟨B, hB, _⟩ := h.ex; have := hB.lim; omega
theorem Vt.kept {w w' : World} {gv gd n c : Nat} {D : Nat → Option (List Int)} {F F' R : Nat → Prop} (h : Vt w gv gd n D c F) (hc : Chg R w w') (hv : ¬ R gv) (h1 : ∀ k, k < w.heap.size → F k → ¬ R k) (h2 : ∀ k, k < w.heap.size → F k → F' k) (h3 : ¬ F' gv) : Vt w' gv gd n D c F' := by
  obtain ⟨B, hB, hD⟩ := h.ex
  exact ⟨(hc.block gv h.lt hv).trans h.row, h3, ⟨B, hB.kept hc h1 h2, hD⟩, h.sz⟩
theorem Vt.below {w w' : World} {gv gd n c : Nat} {D : Nat → Option (List Int)} {F : Nat → Prop} (h : Vt w gv gd n D c F) (hb : Below w.heap.size w w') : Vt w' gv gd n D c F :=
  h.kept (R := fun _ => False) (Chg.belowAt hb) (fun h => h) (fun _ _ _ h => h) (fun _ _ h => h) h.out
theorem Vt.bound {w : World} {gv gd n c : Nat} {D : Nat → Option (List Int)} {F : Nat → Prop} (h : Vt w gv gd n D c F) : Vt w gv gd n D c (fun k => F k ∧ k < w.heap.size) :=
  h.kept (R := fun _ => False) (Chg.refl _ _) (fun h => h) (fun _ _ _ h => h) (fun k hk hF => ⟨hF, hk⟩) (fun hk => h.out hk.1)
theorem Vt.c0 {w : World} {gv gd n c : Nat} {D : Nat → Option (List Int)} {F : Nat → Prop} (h : Vt w gv gd n D c F) : w.cell? ⟨gv, 0, none⟩ = some (.pointer (some ⟨gd, 0, none⟩)) := by rw [cell_of_row _ _ _ _ _ _ h.row]; rfl
theorem Vt.c1 {w : World} {gv gd n c : Nat} {D : Nat → Option (List Int)} {F : Nat → Prop} (h : Vt w gv gd n D c F) : w.cell? ⟨gv, 1, none⟩ = some (.int .i64 0) := by rw [cell_of_row _ _ _ _ _ _ h.row]; rfl
theorem Vt.c2 {w : World} {gv gd n c : Nat} {D : Nat → Option (List Int)} {F : Nat → Prop} (h : Vt w gv gd n D c F) : w.cell? ⟨gv, 2, none⟩ = some (.int .i64 4) := by rw [cell_of_row _ _ _ _ _ _ h.row]; rfl
theorem Vt.c3 {w : World} {gv gd n c : Nat} {D : Nat → Option (List Int)} {F : Nat → Prop} (h : Vt w gv gd n D c F) : w.cell? ⟨gv, 3, none⟩ = some (.int .i64 (n : Nat)) := by rw [cell_of_row _ _ _ _ _ _ h.row]; rfl

section
variable {w : World} {gv gd n c : Nat} {D : Nat → Option (List Int)} {F : Nat → Prop}
theorem Len_any (h : Vt w gv gd n D c F) : Calls Tryz.prog 32 #[.pointer (some ⟨gv, 0, none⟩)] w fun e w' => e = .returned (.int .i64 n) ∧ w = w' := by
  have c3 := h.c3
  clear h
  go_enter Tryz.func32, Tryz.ntmps32
  go_wp2
  go_ret
  exact ⟨rfl, rfl⟩
theorem Room_any (h : Vt w gv gd n D c F) : Calls Tryz.prog 50 #[.pointer (some ⟨gv, 0, none⟩)] w fun e w' => e = .returned (.int .i64 508) ∧ w = w' := by
  have c2 := h.c2
  clear h
  go_enter Tryz.func50, Tryz.ntmps50
  go_wp2
  go_ret
  exact ⟨rfl, rfl⟩
theorem shelf_any (h : Vt w gv gd n D c F) (i : Nat) (hi : i < n) : Calls Tryz.prog 49 #[.pointer (some ⟨gv, 0, none⟩), .int .i64 i] w fun e w' => e = .returned (.tuple #[.int .i64 (4 * i : Nat), .int .i64 0]) ∧ Below w.heap.size w w' := by
  have c1 := h.c1
  have c2 := h.c2
  have c3 := h.c3
  have hn := h.num
  have h1 : ¬ (i : Int) < 0 := by omega
  have h2 : ¬ (n : Int) ≤ (i : Int) := by omega
  have h3 : (i : Int) ≤ 4096 := by omega
  clear h
  go_enter Tryz.func49, Tryz.ntmps49
  go_upto_region 5 with (fail)
  go_region
  · go_wp2
    go_ret2
    exact ⟨by go_num, (Below.refl _ _).drew⟩
end

set_option maxRecDepth 20000 in
theorem VNew_any (w : World) (gd n c : Nat) (B : List Int) (F : Nat → Prop) (h : Dk w gd (4 * n) B c F) (hF : ∀ k, F k → k < w.heap.size) : Calls Tryz.prog 17 #[.pointer (some ⟨gd, 0, none⟩), .int .i64 0, .int .i64 4, .int .i64 n] w fun e w' => ∃ gv, e = .returned (.tuple #[.pointer (some ⟨gv, 0, none⟩), .int .i64 0]) ∧ w.heap.size ≤ gv ∧ Vt w' gv gd n (fun _ => none) c F ∧ Below w.heap.size w w' := by
  have HS := Lib.hid (DSize_any h)
  have HD := Lib.hid h
  have HF := Lib.hid hF
  have hl := h.lim
  have h1 : ¬ (n : Int) < 0 := by omega
  have h2 : ¬ (4 * n : Int) < 0 := by omega
  have h4 : (4 * (n : Int)).tdiv 4 = n := by rw [Int.mul_tdiv_cancel_left _ (by decide)]
  have h5 : (n : Int) ≤ 4096 := by omega
  clear h hF
  go_enter Tryz.func17, Tryz.ntmps17
  go_upto_region 3 with (fail)
  have h6 : ¬ ((4 * n : Nat) : Int) < 0 := by omega
  have h7 : (((4 * n : Nat) : Int) - 0).tdiv 4 = n := by rw [show ((4 * n : Nat) : Int) - 0 = 4 * (n : Int) from by omega]; exact h4
  go_wp2_with fail
  refine HS.out.mono ?_
  rintro e w' ⟨rfl, rfl⟩
  go_wp2_with fail
  refine HS.out.mono ?_
  rintro e w' ⟨rfl, rfl⟩
  go_wp2_with fail
  go_ret2
  refine ⟨_, rfl, Nat.le_refl _, ⟨heap_alloc_last _ _, fun hk => absurd (HF.out _ hk) (Nat.lt_irrefl _), ⟨B, HD.out.below ((Below.refl _ _).alloc (Nat.le_refl _) _), fun i b _ h => (by cases h)⟩, fun i b h => (by cases h)⟩, (Below.refl _ _).alloc (Nat.le_refl _) _⟩
end Go.Proofs.YtcklcffepedklaaGreat

namespace Go.Proofs.YtcklcffepedklaaGreat
open Go.RowKit

theorem secS_get {B b : List Int} {S s p : Nat} (h : B.length = 128 * S) (hs : s < S) (hb : b.length ≤ 128) :
    (secS B s b)[p]? = if p < 128 * s then B[p]? else if p < 128 * s + b.length then b[p - 128 * s]? else if p < 128 * s + 128 then some 0 else B[p]? := by
  unfold secS
  rw [Nat.mul_comm s 128, List.append_assoc]
  by_cases h1 : p < 128 * s
  · rw [if_pos h1, List.getElem?_append_left (by simp; omega), List.getElem?_take_of_lt h1]
  · rw [if_neg h1, List.getElem?_append_right (by simp; omega), show (B.take (128 * s)).length = 128 * s from by simp; omega, List.append_assoc]
    by_cases h2 : p < 128 * s + b.length
    · rw [if_pos h2, List.getElem?_append_left (by omega)]
    · rw [if_neg h2, List.getElem?_append_right (by omega)]
      by_cases h3 : p < 128 * s + 128
      · rw [if_pos h3, List.getElem?_append_left (by simp; omega), List.getElem?_replicate, if_pos (by omega)]
      · rw [if_neg h3, List.getElem?_append_right (by simp; omega), List.getElem?_drop, List.length_replicate]
        congr 1; omega
/-- j sectors of a shelf are laid. -/
structure Laid (i j : Nat) (X B0 B : List Int) : Prop where
  here : ∀ p, p < 128 * j → p < X.length → B[512 * i + p]? = X[p]?
  else_ : ∀ p, (p < 512 * i ∨ 512 * i + 512 ≤ p) → B[p]? = B0[p]?
theorem Laid.step {i j n : Nat} {X B0 B : List Int} (h : Laid i j X B0 B) (hB : B.length = 128 * (4 * n)) (hi : i < n) (hj : j < 4) : Laid i (j + 1) X B0 (secS B (4 * i + j) ((X.drop (128 * j)).take 128)) := by
  have hl : ((X.drop (128 * j)).take 128).length = min 128 (X.length - 128 * j) := by simp
  have hle : ((X.drop (128 * j)).take 128).length ≤ 128 := by omega
  refine ⟨fun p hp hX => ?_, fun p hp => ?_⟩
  · rw [secS_get hB (by omega) hle]
    by_cases h1 : p < 128 * j
    · rw [if_pos (by omega)]; exact h.here p h1 hX
    · rw [if_neg (by omega), if_pos (by omega), List.getElem?_take_of_lt (by omega), List.getElem?_drop]
      congr 1; omega
  · rw [secS_get hB (by omega) hle]
    rcases hp with hp | hp
    · rw [if_pos (by omega)]; exact h.else_ p (.inl hp)
    · rw [if_neg (by omega), if_neg (by omega), if_neg (by omega)]; exact h.else_ p (.inr hp)
/-- What lies on the shelves behind a Put. -/
def putD (D : Nat → Option (List Int)) (i : Nat) (b : List Int) : Nat → Option (List Int) := fun k => if k = i then some b else D k
theorem Laid.done {i j n : Nat} {b B0 B : List Int} {D : Nat → Option (List Int)} (h : Laid i j (shL b) B0 B) (hj : (shL b).length ≤ 128 * j) (hD : ∀ k x, k < n → D k = some x → OnSh B0 k x) (hs : ∀ k x, D k = some x → x.length ≤ 508) :
    ∀ k x, k < n → putD D i b k = some x → OnSh B k x := by
  intro k x hk hx
  unfold putD at hx
  split at hx
  · rename_i e
    subst e
    injection hx with hx; subst hx
    intro p hp
    rw [← shL_length] at hp
    exact h.here p (by omega) hp
  · intro p hp
    have := hs k x hx
    rw [← hD k x hk hx p hp]
    exact h.else_ _ (by omega)
theorem Dk.more {w : World} {gd S : Nat} {B : List Int} {c c' : Nat} {F : Nat → Prop} (h : Dk w gd S B c F) (hc : c ≤ c') : Dk w gd S B c' F := by
  obtain ⟨gn, gs, wv, dn, nw, xs, a1, a2, a3, a4, a5, a6⟩ := h.ex
  exact ⟨⟨gn, gs, wv, dn, nw, xs, a1, a2, a3, by omega, by omega, a6⟩, h.own, h.len, h.byt, h.lim⟩

/-- The loop's head: j sectors are laid. -/
structure PutH (w0 w1 w : World) (gv gd n i j g9 c : Nat) (X B0 : List Int) (F : Nat → Prop) (A : Option Addr) (r cr : Nat) : Prop where
  ex : ∃ B, Dk w gd (4 * n) B (c + 2 * j) (fun k => F k ∨ w1.heap.size ≤ k) ∧ Laid i j X B0 B
  chg : Chg F w0 w
  chg1 : Chg (fun k => F k ∨ w1.heap.size ≤ k) w1 w
  len : r = X.length - 128 * j
  cap : r ≤ cr
  ints : Ints .u8 w A (X.drop (128 * j))
  blk : ∀ ad, A = some ad → ad.block = g9
  some_ : 0 < r → ∃ ad, A = some ad

theorem PutH.write {w0 w1 wr : World} {gv gd n i j g9 c r cr q : Nat} {X B0 : List Int} {F : Nat → Prop} {ad : Addr} (h : PutH w0 w1 wr gv gd n i j g9 c X B0 F (some ad) r cr) (hj : j < 4) (hi : i < n) (hc : c < 900000000) (hX : Bytes X) (h9 : ¬ F g9) (h91 : g9 < w1.heap.size) (h01 : w0.heap.size ≤ w1.heap.size) (hF : ∀ k, F k → k < w0.heap.size) (hq : q = min r 128) (W : World) (hW : Below wr.heap.size wr W) :
    Calls Tryz.prog 51 #[.pointer (some ⟨gd, 0, none⟩), .int .i64 ((4 * i + j : Nat) : Int), .slice (some ad) q cr] W fun e w5 => e = .returned (.int .i64 0) ∧ Chg (fun k => F k ∨ w1.heap.size ≤ k) wr w5 ∧
      Hid (∀ A' r' cr', r' = r - q → (r' = 0 ∨ A' = some (ad.add q)) → (∀ b, A' = some b → b.block = g9) → r' ≤ cr' → PutH w0 w1 w5 gv gd n i (j + 1) g9 c X B0 F A' r' cr') := by
  obtain ⟨B, hB, hL⟩ := h.ex
  have hlen := h.len
  have hab := h.blk ad rfl
  have hsW := hW.size
  have hs1 := h.chg1.size
  have hXd : Bytes ((X.drop (128 * j)).take 128) := (hX.drop _).take _
  refine (DWrite_any (hB.below hW) (by omega) (4 * i + j) (by omega) (some ad) q cr ((X.drop (128 * j)).take 128) (by rw [List.length_take, List.length_drop, ← hlen, hq]; exact Nat.min_comm _ _) (by omega) ((h.ints.take 128).below hW) hXd (fun a e _ => by
    injection e with e; rw [← e, hab]; intro hk; rcases hk with hk | hk
    · exact h9 hk
    · omega)).mono ?_
  rintro e w5 ⟨rfl, hch, hD⟩
  have hch1 : Chg (fun k => F k ∨ w1.heap.size ≤ k) wr w5 := (Chg.belowAt hW).trans hch
  refine ⟨rfl, hch1, Lib.hid fun A' r' cr' hr' hA hb hcr => ⟨⟨_, (hD.kept (R := fun _ => False) (Chg.refl _ _) (fun _ _ _ h => h) (fun k _ hk => hk.elim id (fun h => .inr (by omega)))).more (by omega), hL.step hB.len hi hj⟩, h.chg.trans2 hch1 (fun k hk hF => hF.resolve_right (by omega)), h.chg1.trans hch1, by omega, hcr, ?_, hb, fun h0 => ⟨_, hA.resolve_left (by omega)⟩⟩⟩
  rcases hA with hA | hA
  · rw [List.drop_of_length_le (by omega)]; exact Ints.nil _ _ _
  · rcases Nat.lt_or_ge r 128 with h1 | h1
    · rw [List.drop_of_length_le (by omega)]; exact Ints.nil _ _ _
    · have e128 : q = 128 := by omega
      rw [hA, e128, show X.drop (128 * (j + 1)) = (X.drop (128 * j)).drop 128 from by rw [List.drop_drop, Nat.mul_add]]
      refine (h.ints.drop 128).chg hch1 (fun a e _ => ?_)
      injection e with e
      rw [← e, add_block, hab]
      intro hk; rcases hk with hk | hk
      · exact h9 hk
      · omega
set_option maxRecDepth 20000 in
set_option maxHeartbeats 1600000 in
theorem VPut_any {w : World} {gv gd n c : Nat} {D : Nat → Option (List Int)} {F : Nat → Prop} (h : Vt w gv gd n D c F) (hc : c < 900000000) (i : Nat) (hi : i < n) (A : Option Addr) (nb cb : Nat) (b : List Int) (hn : b.length = nb) (hn1 : nb ≤ 508) (hI : Ints .u8 w A b) (hB : Bytes b) (hA : A = none → nb = 0 ∧ cb = 0) :
    Calls Tryz.prog 26 #[.pointer (some ⟨gv, 0, none⟩), .int .i64 i, .slice A nb cb] w fun e w' => e = .returned (.int .i64 0) ∧ Chg F w w' ∧ Vt w' gv gd n (putD D i b) (c + 8) (fun k => F k ∨ w.heap.size ≤ k) := by
  have HV := Lib.hid h.bound
  have HC := Lib.hid hc
  have HI := Lib.hid hI
  have HB := Lib.hid hB
  have HN := Lib.hid hn
  have HA := Lib.hid hA
  have HSH := Lib.hid (shelf_any h i hi)
  have hn4 := h.num
  have h1 : ¬ 508 < (nb : Int) := by omega
  have hg := h.lt
  clear h hc hI hB hn hA
  go_enter Tryz.func26, Tryz.ntmps26
  go_wp2_with fail
  refine HSH.out.mono ?_
  rintro e w1 ⟨rfl, hb1⟩
  have HB1 := Lib.hid hb1
  have HRM := Lib.hid (Room_any (HV.out.below hb1))
  clear hb1 HSH
  go_wp2_with fail
  refine HRM.out.mono ?_
  rintro e w2 ⟨rfl, rfl⟩
  have HPT := Lib.hid (Put_any none 0 0 [] nb 4 w1 rfl (by decide) (Ints.nil _ _ _) (by omega) (by decide) (by decide))
  go_wp2_with fail
  refine HPT.out.mono ?_
  rintro e w2 ⟨v2, rfl, ho2, hb2⟩
  rw [List.nil_append] at ho2
  have HO2 := Lib.hid ho2
  have HB2 := Lib.hid hb2
  have HX1 := Lib.hid (show (b.map (Value.int .u8)).length = nb * 1 by rw [List.length_map, HN.out, Nat.mul_one])
  have HI2 := Lib.hid ((HI.out.below HB1.out).below hb2)
  clear ho2 hb2 HPT HRM
  go_wp2_with (at_builtin; refine wpList_app EB rfl _ _ rfl w1.heap.size v2 _ _ rfl HO2.out A nb cb (b.map (Value.int .u8)) rfl HA.out HX1.out HI2.out.news (ints_one _ _) ?c1 ?c2 ?c3 ?_)
  case c1 => rw [beL_length]; unfold maxLen; omega
  case c2 => rw [beL_length]; omega
  case c3 => exact HB2.out.size
  intro v3 w3 hown hgrow _
  have HE3 := Lib.hid (show OwnB w3 w1.heap.size v3 (shL b) from by
    rw [OwnB, shL_length, shL, HN.out, List.map_append]; rw [beL_length] at hown; exact hown)
  have HB3 := Lib.hid (show Below w1.heap.size w1 w3 from HB2.out.grown hgrow HB2.out.size (fun k hk => (HO2.out.lt k hk).1))
  clear hown hgrow
  obtain ⟨A3, c3, rfl, hc3, hI3, hA3⟩ := HE3.out.ints
  obtain ⟨ad3, rfl, _⟩ := hI3 0 (by rw [shL_length]; omega)
  obtain ⟨g9, hg9⟩ : ∃ g9, ad3.block = g9 := ⟨_, rfl⟩
  obtain ⟨hge9, hlt9⟩ := hA3 ad3 rfl
  rw [hg9] at hge9 hlt9
  obtain ⟨B0, hD0, hS0⟩ := (HV.out.below HB1.out).ex
  have HS0 := Lib.hid hS0
  obtain ⟨X, hX⟩ : ∃ X, X = shL b := ⟨_, rfl⟩
  have HXB := Lib.hid (show Bytes X from by rw [hX]; exact (beL_bytes _ _).append HB.out)
  have HXL := Lib.hid (show X.length ≤ 512 from by rw [hX, shL_length, HN.out]; omega)
  rw [← hX] at hc3 hI3 ⊢
  have HX := Lib.hid hX
  have hs1 := HB1.out.size
  have hs3 := HB3.out.size
  have HP0 := Lib.hid (show PutH w w3 w3 gv gd n i 0 g9 c X B0 (fun k => F k ∧ k < w.heap.size) (some ad3) X.length c3 from
    ⟨⟨B0, (hD0.below HB3.out).kept (R := fun _ => False) (Chg.refl _ _) (fun _ _ _ h => h) (fun k _ hk => .inl hk), ⟨fun p hp => by omega, fun _ _ => rfl⟩⟩, (Chg.belowAt HB1.out).below0 HB3.out, Chg.refl _ _, rfl, hc3, hI3, fun ad e => by injection e with e; rw [← e]; exact hg9, fun _ => ⟨_, rfl⟩⟩)
  have hge9' : ¬ (F g9 ∧ g9 < w.heap.size) := fun h => by omega
  clear hX hc3 hI3 hA3 hD0 hS0 HE3 HO2 HB2 HI2 HX1
  generalize X.length = xl at HP0 ⊢
  go_upto_region 7 with (fail)
  go_loopg [7, 9] 4 (fun kq v7 v9 w' => ∃ (j : Nat) (A9 : Option Addr) (r cr : Nat), j + kq = 4 ∧ v7 = .int .i64 ((4 * i + j : Nat) : Int) ∧ v9 = .slice A9 r cr ∧ PutH w w3 w' gv gd n i j g9 c X B0 (fun k => F k ∧ k < w.heap.size) A9 r cr)
  case atStart => exact ⟨0, _, _, _, rfl, by go_num, rfl, HP0.out⟩
  case round =>
    obtain ⟨j, A9, r, cr, hj, rfl, rfl, hP⟩ := hrel
    by_cases hr : 0 < r
    · obtain ⟨ad, rfl⟩ := hP.some_ hr
      have hlen := hP.len
      have hXle := HXL.out
      have hj4 : j < 4 := by omega
      obtain ⟨q, hq⟩ : ∃ q, q = min r 128 := ⟨_, rfl⟩
      have hmin : (if (128 : Int) < (r : Int) then (128 : Int) else (r : Int)) = (q : Int) := by split <;> omega
      have HDW := Lib.hid (fun W hW => hP.write hj4 hi HC.out HXB.out hge9' hlt9 (by omega) (fun k hk => hk.2) hq W hW)
      have hgr : gv < wr.heap.size := by have := hP.chg1.size; omega
      have hgvF : ¬ ((F gv ∧ gv < w.heap.size) ∨ w3.heap.size ≤ gv) := fun hk => by
        rcases hk with hk | hk
        · exact HV.out.out hk
        · omega
      have HC0 := Lib.hid ((hP.chg.cell (p := ⟨gv, 0, none⟩) hg HV.out.out).trans HV.out.c0)
      have HBK := Lib.hid (hP.blk ad rfl)
      have hrc := hP.cap
      have hqr : q ≤ r := by omega
      have hqc : q ≤ cr := by omega
      have hrp : (0 : Int) < (r : Int) := by omega
      have hij : ((4 * i + j : Nat) : Int) ≤ 16384 := by omega
      clear hP hlen hXle
      obtain ⟨s, hs⟩ : ∃ s, 4 * i + j = s := ⟨_, rfl⟩
      rw [hs] at HDW hij ⊢
      have HS := Lib.hid hs
      have HQ := Lib.hid hq
      clear hs hq
      go_upto_region 10 with (fail)
      --[
      refine wp_region_held_drew (S := fun w' => Chg (fun k => (F k ∧ k < w.heap.size) ∨ w3.heap.size ≤ k) wr w') (by kernel_rfl) ((Chg.refl _ _).drewN 1) (fun hHeld => ?_)
      refine held_take 0 (some 40) (v := ?_) rfl rfl (by kernel_rfl) (by kernel_rfl) (by kernel_rfl) (fun _ _ _ h => h) (Or.inl ⟨by rfl, ?_⟩) hHeld ?_
      rotate_left
      · (intro w' hSw; clear hSw; go_simp; try with_reducible rfl)
      try simp only [Act.put, List.setIfInBounds_toArray, List.set_cons_zero, List.set_cons_succ]
      refine held_take 1 (some 41) (v := ?_) rfl rfl (by kernel_rfl) (by kernel_rfl) (by kernel_rfl) (fun _ _ _ h => h) (Or.inl ⟨by rfl, ?_⟩) hHeld ?_
      rotate_left
      · (intro w' hSw; clear hSw; go_simp; try with_reducible rfl)
      try simp only [Act.put, List.setIfInBounds_toArray, List.set_cons_zero, List.set_cons_succ]
      refine held_take 2 (some 42) (v := ?_) rfl rfl (by kernel_rfl) (by kernel_rfl) (by kernel_rfl) (fun _ _ _ h => h) (Or.inl ⟨by rfl, ?_⟩) hHeld ?_
      rotate_left
      · (intro w' hSw; clear hSw; go_simp; try with_reducible rfl)
      try simp only [Act.put, List.setIfInBounds_toArray, List.set_cons_zero, List.set_cons_succ]
      refine held_take 3 (some 43) (v := ?_) rfl rfl (by kernel_rfl) (by kernel_rfl) (by kernel_rfl) (fun _ _ _ h => h) (Or.inl ⟨by rfl, ?_⟩) hHeld ?_
      rotate_left
      · (intro w' hSw; have pf := (hSw.cell (p := ⟨gv, 0, none⟩) hgr hgvF).trans HC0.out; clear hSw; go_simp; try with_reducible rfl)
      try simp only [Act.put, List.setIfInBounds_toArray, List.set_cons_zero, List.set_cons_succ]
      refine held_take 4 (some 44) (v := ?_) rfl rfl (by kernel_rfl) (by kernel_rfl) (by kernel_rfl) (fun _ _ _ h => h) (Or.inl ⟨by rfl, ?_⟩) hHeld ?_
      rotate_left
      · (intro w' hSw; clear hSw; go_simp; try with_reducible rfl)
      try simp only [Act.put, List.setIfInBounds_toArray, List.set_cons_zero, List.set_cons_succ]
      refine held_take 5 (some 45) (v := ?_) rfl rfl (by kernel_rfl) (by kernel_rfl) (by kernel_rfl) (fun _ _ _ h => h) (Or.inl ⟨by rfl, ?_⟩) hHeld ?_
      rotate_left
      · (intro w' hSw; clear hSw; go_simp; try with_reducible rfl)
      try simp only [Act.put, List.setIfInBounds_toArray, List.set_cons_zero, List.set_cons_succ]
      refine held_take 6 (some 46) (v := ?_) rfl rfl (by kernel_rfl) (by kernel_rfl) (by kernel_rfl) (fun _ _ _ h => h) (Or.inl ⟨by rfl, ?_⟩) hHeld ?_
      rotate_left
      · (intro w' hSw; clear hSw; go_simp; try with_reducible rfl)
      try simp only [Act.put, List.setIfInBounds_toArray, List.set_cons_zero, List.set_cons_succ]
      refine held_take 7 (some 47) (v := ?_) rfl rfl (by kernel_rfl) (by kernel_rfl) (by kernel_rfl) (fun _ _ _ h => h) (Or.inl ⟨by rfl, ?_⟩) hHeld ?_
      rotate_left
      · (intro w' hSw; clear hSw; go_simp; try with_reducible rfl)
      try simp only [Act.put, List.setIfInBounds_toArray, List.set_cons_zero, List.set_cons_succ]
      refine wpAnyH_ready (rs := [8]) (by kernel_rfl) (by simp) ?_
      refine AllReadyH.cons rfl (fun K hKK => ?_) AllReadyH.nil
      go_simp
      go_at_call 51
      refine (HDW.out _ (Below.refl _ _).drew).mono ?_
      rintro e w5 ⟨rfl, hch5, hP5⟩
      refine hKK.out _ _ hch5 (fun hHeld => ?_)
      clear hKK K
      try simp only [Act.put, List.setIfInBounds_toArray, List.set_cons_zero, List.set_cons_succ]
      refine held_take 9 (some 11) (v := ?_) rfl rfl (by kernel_rfl) (by kernel_rfl) (by kernel_rfl) (fun _ _ _ h => h) (Or.inl ⟨by rfl, ?_⟩) hHeld ?_
      rotate_left
      · (intro w' hSw; clear hSw; go_simp; try with_reducible rfl)
      try simp only [Act.put, List.setIfInBounds_toArray, List.set_cons_zero, List.set_cons_succ]
      refine wpAnyH_done (by kernel_rfl) ?_ _
      --]
      clear hHeld hch5
      go_wp2_with fail
      · go_roundg (gk - 1)
        case measure => omega
        case rel => exact ⟨j + 1, _, _, _, by omega, by rw [← Nat.add_assoc, HS.out]; go_num, rfl, hP5.out _ _ _ rfl (.inl (by omega)) (fun b e => by injection e with e; rw [← e]; exact HBK.out) (by omega)⟩
      · go_roundg (gk - 1)
        case measure => omega
        case rel => exact ⟨j + 1, _, _, _, by omega, by rw [← Nat.add_assoc, HS.out]; go_num, rfl, hP5.out _ _ _ rfl (.inr rfl) (fun b e => by injection e with e; rw [← e, add_block]; exact HBK.out) (by omega)⟩
    · have hr0 : r = 0 := by omega
      subst hr0
      have hlen := hP.len
      obtain ⟨B, hB, hL⟩ := hP.ex
      have HVF := Lib.hid (show Vt wr gv gd n (putD D i b) (c + 8) (fun k => F k ∨ w.heap.size ≤ k) from by
        refine ⟨(hP.chg.block gv hg HV.out.out).trans HV.out.row, fun hk => ?_, ⟨B, (hB.kept (R := fun _ => False) (Chg.refl _ _) (fun _ _ _ h => h) (fun k _ hk => hk.elim (fun h => .inl h.1) (fun h => .inr (by omega)))).more (by omega), ?_⟩, ?_⟩
        · rcases hk with hk | hk
          · exact HV.out.out ⟨hk, hg⟩
          · omega
        · rw [HX.out] at hL hlen
          exact hL.done (by omega) HS0.out HV.out.sz
        · intro k x hx
          unfold putD at hx
          split at hx
          · injection hx with hx; rw [← hx, HN.out]; exact hn1
          · exact HV.out.sz k x hx)
      have HCF := Lib.hid (show Chg F w wr from hP.chg.mono (fun k hk => hk.1))
      clear hP hlen hB hL
      go_wp2_with fail
      go_ret
      exact ⟨rfl, HCF.out, HVF.out⟩
end Go.Proofs.YtcklcffepedklaaGreat
