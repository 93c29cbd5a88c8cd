/- Texts of the proof, one behind the other: disk, with power that may fail: Read, Write. disk, with power that may fail: Flush, Cut. -/
import Derived.Test.YtcklcffepedklaaGreatDoorM22
namespace Go.Proofs.YtcklcffepedklaaGreatDoor
open Go.RowKit

theorem own_empty5 (X : World) : (X.alloc (.cells #[] 5)).ownsRow X.heap.size 5 1 (.slice (some ⟨X.heap.size, 0, none⟩) 0 0) 0 [] := World.ownsRow_lit X #[] 0 (Nat.le_refl _) (by unfold maxLen; omega) rfl
set_option maxRecDepth 20000 in
theorem Clone_any (ad : Addr) (n c : Nat) (l : List Int) (w : World) (hn : l.length = n) (hl : n ≤ 500000000000) (hI : Ints .u8 w (some ad) l) :
    Calls Tryz.prog 107 #[.slice (some ad) n c] w (NewRow l w) := by
  have HN := Lib.hid hn
  have HI := Lib.hid (hI.below ((Below.refl w.heap.size w).alloc (Nat.le_refl _) (.cells #[] 5)))
  have HL := Lib.hid (show (l.map (Value.int .u8)).length = n * 1 by rw [List.length_map, hn, Nat.mul_one])
  have hne : ∀ W, (binOp .eql 33 (.slice (some ad) n c) (.slice none 0 0)).run Tryz.prog W = .ok (.bool false) W := fun W => Lib.run_eql_slice_nil W _ _ (some ad) n c 0 0 Tryz.underlying33
  clear hn hI
  go_enter Tryz.func107, Tryz.ntmps107
  go_wp2_with (at_builtin; refine wpList_app EB rfl _ _ rfl w.heap.size (.slice (some ⟨w.heap.size, 0, none⟩) 0 0) 0 [] rfl (own_empty5 w) (some ad) n c (l.map (Value.int .u8)) rfl (fun h => by cases h) HL.out HI.out.news (ints_one _ _) ?c1 ?c2 ?c3 ?_)
  case c1 => unfold maxLen; omega
  case c2 => omega
  case c3 => simp
  intro v1 w1 hown hgrow _
  have HO := Lib.hid (show OwnB w1 w.heap.size v1 l from by rw [OwnB, HN.out]; simpa using hown)
  have HW := Lib.hid (show Below w.heap.size w w1 from ((Below.refl _ _).alloc (Nat.le_refl _) _).grown hgrow (by simp) (fun k hk => by simp only [Value.ownBlock, Option.some.injEq] at hk; omega))
  clear hown hgrow
  go_wp2
  go_ret
  exact ⟨v1, rfl, HO.out, HW.out⟩

/-- A sector's bytes. -/
def secL (B : List Int) (i : Nat) : List Int := (B.drop (128 * i)).take 128
theorem secL_length {B : List Int} {S i : Nat} (h : B.length = 128 * S) (hi : i < S) : (secL B i).length = 128 := by
  rw [secL, List.length_take, List.length_drop]; omega
section
variable {w : World} {gd S : Nat} {d : Ds} {F : Nat → Prop}
set_option maxRecDepth 20000 in
theorem Read_any (h : Dk w gd S d F) (hd : d.dead = false) (i : Nat) (hi : i < S) : Calls Tryz.prog 84 #[.pointer (some ⟨gd, 0, none⟩), .int .i64 i] w fun e w' => ∃ v, e = .returned (.tuple #[v, .int .i64 0]) ∧ OwnB w' w.heap.size v (secL d.now i) ∧ Below w.heap.size w w' := by
  obtain ⟨gn, gs, wv, dn, a1, a2, _⟩ := h.ex
  have c0 : w.cell? ⟨gd, 0, none⟩ = some (.slice (some ⟨gn, 0, none⟩) S S) := by rw [cell_of_row _ _ _ _ _ _ a1]; rfl
  have c3 : w.cell? ⟨gd, 3, none⟩ = some (.bool false) := by rw [cell_of_row _ _ _ _ _ _ a1, ← hd]; rfl
  have HC := Lib.hid (Clone_any ⟨gn, i * 128, none⟩ 128 128 (secL d.now i) w (secL_length h.len hi) (by decide) (by rw [secL, Nat.mul_comm 128 i]; exact ints_row a2 (i * 128) 128))
  have h0 : ¬ (i : Int) < 0 := by omega
  have h1 : ¬ (S : Int) ≤ (i : Int) := by omega
  have h2 : (i : Int) < (S : Int) := by omega
  clear h a1 a2 hi hd
  go_enter Tryz.func84, Tryz.ntmps84
  go_wp2_with (go_at_call 107; refine HC.out.mono ?_; rintro e w' ⟨v, rfl, ho, hb⟩)
  go_ret2
  exact ⟨v, rfl, ho, hb⟩

/-- A disk's bytes behind a write. -/
def secS (B : List Int) (i : Nat) (b : List Int) : List Int := B.take (i * 128) ++ (b ++ List.replicate (128 - b.length) 0) ++ B.drop (i * 128 + 128)
theorem secS_length {B b : List Int} {i : Nat} (h : B.length = 128 * S) (hi : i < S) (hb : b.length ≤ 128) : (secS B i b).length = 128 * S := by
  simp [secS]; omega
theorem secS_bytes {B b : List Int} {i : Nat} (h : Bytes B) (hb : Bytes b) : Bytes (secS B i b) :=
  ((h.take _).append (hb.append (fun j => by rw [List.getD_eq_getElem?_getD, List.getElem?_replicate]; split <;> simp))).append (h.drop _)
/-- The cells of no write. -/
def zW : Array Value := (Value.int .i64 0 :: List.replicate 128 (Value.int .u8 0)).toArray
theorem zeroW (w : World) : (zeroValue 81).run Tryz.prog w = .ok (.agg zW) w := by
  obtain ⟨i0, hi, hz0, _, _⟩ := info_parts Tryz.infoWr
  exact zero_run hi hz0 w
theorem build_write (i : Nat) (w : World) : (Instr.build 81 #[(0, .int .i64 i)]).run Tryz.prog w = .ok (.agg (wrC i []).toArray) w := by
  obtain ⟨i0, hi, hz0, _, _⟩ := info_parts Tryz.infoWr
  refine run_build w _ _ _ ?_
  rw [built_struct hi hz0 Tryz.underlying81 (places := [(0, 1), (1, 128)]) (by decide +kernel)]
  show Instr.fill _ zW [(0, Value.int .i64 i)] = _
  rw [fill_cons (off := 0) (size := 1) (vs := [.int .i64 i]) rfl rfl rfl (show 0 + 1 ≤ zW.size by decide +kernel)]
  rw [Instr.fill]
  have e : wrC i [] = .int .i64 i :: List.replicate 128 (.int .u8 0) := by
    unfold wrC; rw [List.nil_append, List.map_replicate]; rfl
  rw [e]; rfl
theorem sizeW {i : Nat} {b : List Int} (h : b.length ≤ 128) : (Tryz.prog.info? 81).map (·.size) = some (wrC i b).length := by rw [wrC_length h]; kernel_rfl
theorem sizeWA {i : Nat} {b : List Int} (h : b.length ≤ 128) : (Tryz.prog.info? 81).map (·.size) = some (wrC i b).toArray.size := by rw [List.size_toArray]; exact sizeW h
theorem zW_size {i : Nat} {b : List Int} (h : b.length ≤ 128) : zW.size = (wrC i b).toArray.size := by
  have e : (wrC i b).toArray.size = 129 := by rw [List.size_toArray, wrC_length h]
  rw [e]; rfl
theorem wr_splice (i : Nat) (b : List Int) (h : b.length ≤ 128) : splice (wrC i []) 1 (b.map (Value.int .u8)) = wrC i b := by
  unfold splice wrC
  simp only [List.take_succ_cons, List.take_zero, List.nil_append, List.length_map, List.length_nil, Nat.sub_zero, List.map_append, List.map_replicate, List.singleton_append, List.cons_append, List.cons.injEq, true_and]
  rw [Nat.add_comm, List.drop_succ_cons, List.drop_replicate]
theorem pwD_now (d : Ds) : (pwD d).now = d.now := by unfold pwD; split; rfl; split <;> rfl
theorem pwD_safe (d : Ds) : (pwD d).safe = d.safe := by unfold pwD; split; rfl; split <;> rfl
theorem pwD_ws (d : Ds) : (pwD d).ws = d.ws := by unfold pwD; split; rfl; split <;> rfl
theorem pwE_or (d : Ds) : pwE d = 0 ∨ pwE d = 6 := by unfold pwE; split; exact .inr rfl; split; exact .inr rfl; exact .inl rfl
/-- A disk behind a write. -/
def wrD (d : Ds) (i : Nat) (b : List Int) : Ds := if pwE d = 0 then { pwD d with now := secS d.now i b, ws := d.ws ++ [(i, b)] } else pwD d
/-- The write is among the disk's writes. -/
theorem Dk.wrote {w1 w4 w5 : World} {A5 : Option Addr} {n5 c5 gn gs : Nat} {wv : Value} {dn : Int} (h : Dk w1 gd S d F) (i : Nat) (b : List Int) (hib : i < S ∧ b.length ≤ 128 ∧ Bytes b)
    (a1 : w1.heap[gd]? = some (.cells #[.slice (some ⟨gn, 0, none⟩) S S, .slice (some ⟨gs, 0, none⟩) S S, wv, .bool d.dead, .int .i64 d.fuse, .int .i64 dn] 55 (0, 0)))
    (a2 : w1.heap[gn]? = some (.cells (cellsOf d.now) 79 (0, 0))) (a3 : w1.heap[gs]? = some (.cells (cellsOf d.safe) 79 (0, 0))) (a5 : gd ≠ gn) (a6 : gd ≠ gs) (a7 : gn ≠ gs) (a8 : wv.ownBlock ≠ some gd) (a9 : wv.ownBlock ≠ some gn) (b1 : wv.ownBlock ≠ some gs) (b2 : F gn) (b3 : F gs) (b4 : ∀ k, wv.ownBlock = some k → F k)
    (hb : Below w1.heap.size w1 w4) (e1 : w5.ownsRow 0 81 129 (.slice A5 n5 c5) (d.ws.length + 1) (wsC d.ws ++ wrC i b)) (e2 : w4.grownBy w5 wv.ownBlock) (e3 : Value.ownBlock (.slice A5 n5 c5) = wv.ownBlock ∨ Value.ownBlock (.slice A5 n5 c5) = some w4.heap.size) :
    w5.cell? ⟨gd, 2, none⟩ = some wv ∧ w5.frozen? ⟨gd, 2, none⟩ = false ∧ Hid (Chg (fun k => k = gd ∨ wv.ownBlock = some k) w1 w5) ∧ Hid (Chg (fun k => k = gd ∨ wv.ownBlock = some k) w1 (w5.setCell ⟨gd, 2, none⟩ (.slice A5 n5 c5))) ∧
    Hid (Dk (w5.setCell ⟨gd, 2, none⟩ (.slice A5 n5 c5)) gd S { d with ws := d.ws ++ [(i, b)] } (fun k => F k ∨ w1.heap.size ≤ k)) ∧ Hid ((w5.setCell ⟨gd, 2, none⟩ (.slice A5 n5 c5)).heap[gd]? = some (.cells #[.slice (some ⟨gn, 0, none⟩) S S, .slice (some ⟨gs, 0, none⟩) S S, .slice A5 n5 c5, .bool d.dead, .int .i64 d.fuse, .int .i64 dn] 55 (0, 0))) ∧
    Hid ((w5.setCell ⟨gd, 2, none⟩ (.slice A5 n5 c5)).heap[gn]? = some (.cells (cellsOf d.now) 79 (0, 0))) ∧ Hid (Value.ownBlock (.slice A5 n5 c5) ≠ some gd ∧ Value.ownBlock (.slice A5 n5 c5) ≠ some gn) := by
  have k1 := row_lt a1
  have k2 := row_lt a2
  have k3 := row_lt a3
  have hs := hb.size
  have hr5 := (e2.block gd (by omega) (fun e => a8 e.symm)).trans ((hb.block gd k1).trans a1)
  have hn5 := (e2.block gn (by omega) (fun e => a9 e.symm)).trans ((hb.block gn k2).trans a2)
  have hs5 := (e2.block gs (by omega) (fun e => b1 e.symm)).trans ((hb.block gs k3).trans a3)
  have hgs := grown_setCell w5 gd 2 (.slice A5 n5 c5)
  have hne5 : ∀ x, x < w1.heap.size → wv.ownBlock ≠ some x → Value.ownBlock (.slice A5 n5 c5) ≠ some x := fun x hx hw e => by
    rcases e3 with h3 | h3
    · exact hw (h3 ▸ e)
    · rw [h3] at e; injection e with e; omega
  have hc5 : Chg (fun k => k = gd ∨ wv.ownBlock = some k) w1 w5 := (Chg.belowAt hb).trans2 (Chg.of e2) (fun x _ hx => .inr hx.symm)
  have hr6 : (w5.setCell ⟨gd, 2, none⟩ (.slice A5 n5 c5)).heap[gd]? = some (.cells #[.slice (some ⟨gn, 0, none⟩) S S, .slice (some ⟨gs, 0, none⟩) S S, .slice A5 n5 c5, .bool d.dead, .int .i64 d.fuse, .int .i64 dn] 55 (0, 0)) := by rw [setCell_row hr5]; rfl
  have hn6 := (hgs.block gn (by have := row_lt hn5; omega) (fun e => by injection e with e; exact a5 e.symm)).trans hn5
  have hs6 := (hgs.block gs (by have := row_lt hs5; omega) (fun e => by injection e with e; exact a6 e.symm)).trans hs5
  have hws : wsC (d.ws ++ [(i, b)]) = wsC d.ws ++ wrC i b := by simp [wsC]
  refine ⟨by rw [cell_of_row _ _ _ _ _ _ hr5]; rfl, free_row hr5 2, hc5, hc5.trans2 (Chg.of hgs) (fun x _ hx => by injection hx with hx; exact .inl hx), ⟨⟨gn, gs, _, dn, hr6, hn6, hs6, ?_, a5, a6, a7, hne5 gd k1 a8, hne5 gn k2 a9, hne5 gs k3 b1, .inl b2, .inl b3, fun k hk => ?_⟩, .inl h.own, h.len, h.len2, h.byt, h.byt2, fun x hx => ?_, h.lim, h.fus⟩, hr6, hn6, hne5 gd k1 a8, hne5 gn k2 a9⟩
  · rw [hws, List.length_append]; exact World.ownsRow.kept e1 hgs (.inr (hne5 gd k1 a8))
  · rcases e3 with h3 | h3
    · exact .inl (b4 k (h3 ▸ hk))
    · rw [h3] at hk; injection hk with hk; exact .inr (by omega)
  · rcases List.mem_append.1 hx with hx | hx
    · exact h.wok x hx
    · rw [List.mem_singleton.1 hx]; exact hib
/-- The sectors' row is laid anew. -/
theorem Dk.filled {w6 : World} {F' : Nat → Prop} {gn gs i : Nat} {dn : Int} {wv : Value} {b : List Int} (h : Dk w6 gd S d (fun k => F k ∨ F' k)) (a1 : w6.heap[gd]? = some (.cells #[.slice (some ⟨gn, 0, none⟩) S S, .slice (some ⟨gs, 0, none⟩) S S, wv, .bool d.dead, .int .i64 d.fuse, .int .i64 dn] 55 (0, 0)))
    (hi : i < S) (hb : b.length ≤ 128) (hB : Bytes b) (W : World) (hW : Below w6.heap.size w6 W) :
    Chg (fun k => k = gn) w6 (W.setRow gn (cellsOf (secS d.now i b))) ∧ Dk (W.setRow gn (cellsOf (secS d.now i b))) gd S { d with now := secS d.now i b } (fun k => F k ∨ F' k) := by
  obtain ⟨gn', gs', wv', dn', c1, c2, c3, c4, c5, c6, c7, c8, c9, d1, d2, d3, d4⟩ := h.ex
  have e := a1.symm.trans c1
  simp only [Option.some.injEq, Obj.cells.injEq, Array.mk.injEq, List.cons.injEq, Value.slice.injEq, Addr.mk.injEq, Value.int.injEq, and_true, true_and] at e
  obtain ⟨e1, e2, e3, e4⟩ := e
  subst e1 e2 e3
  have k1 := row_lt c1
  have k2 := row_lt c2
  have k3 := row_lt c3
  have hg := grown_setRow W gn (cellsOf (secS d.now i b))
  have hs := hW.size
  refine ⟨(Chg.belowAt hW).trans2 (Chg.of hg) (fun x _ e => by injection e), ⟨gn, gs, wv, dn', (hg.block gd (by omega) (fun e => by injection e with e; exact c5 e)).trans ((hW.block gd k1).trans c1), ?_, (hg.block gs (by omega) (fun e => by injection e with e; exact c7 e.symm)).trans ((hW.block gs k3).trans c3), World.ownsRow.kept (World.ownsRow.kept c4 (below_grown hW none) (by cases wv.ownBlock <;> simp)) hg (.inr c9), c5, c6, c7, c8, c9, d1, d2, d3, d4⟩, h.own, secS_length h.len hi hb, h.len2, secS_bytes h.byt hB, h.byt2, h.wok, h.lim, h.fus⟩
  exact setRow_heap W gn _ _ _ _ ((hW.block gn k2).trans c2)
theorem secS_cells {B : List Int} {i : Nat} {b : List Int} : cellsOf (secS B i b) = ((cellsOf B).toList.take (i * 128) ++ (b ++ List.replicate (128 - b.length) 0).map (Value.int .u8) ++ (cellsOf B).toList.drop (i * 128 + 128)).toArray := by
  unfold cellsOf secS
  simp only [List.map_append, List.map_take, List.map_drop]

set_option maxRecDepth 20000 in
set_option maxHeartbeats 3200000 in
theorem DWrite_any (h : Dk w gd S d F) (hws : d.ws.length ≤ 1000000) (i : Nat) (hi : i < S) (A : Option Addr) (n cb : Nat) (b : List Int) (hn : b.length = n) (hn1 : n ≤ 128) (hI : Ints .u8 w A b) (hB : Bytes b) (hAF : ∀ ad, A = some ad → 0 < n → ¬ F ad.block) :
    Calls Tryz.prog 60 #[.pointer (some ⟨gd, 0, none⟩), .int .i64 i, .slice A n cb] w fun e w' => e = .returned (.int .i64 (pwE d)) ∧ Chg F w w' ∧ Dk w' gd S (wrD d i b) (fun k => F k ∨ w.heap.size ≤ k) := by
  have HPW := Lib.hid (powered_any h)
  have hglt := h.glt
  obtain ⟨gn0, gs0, wv0, dn0, a1, _⟩ := h.ex
  have c0 : w.cell? ⟨gd, 0, none⟩ = some (.slice (some ⟨gn0, 0, none⟩) S S) := by rw [cell_of_row _ _ _ _ _ _ a1]; rfl
  have h0 : ¬ (i : Int) < 0 := by omega
  have h1 : ¬ (S : Int) ≤ (i : Int) := by omega
  have h2 : ¬ 128 < (n : Int) := by omega
  have hi2 : (i : Int) < (S : Int) := by omega
  have HO := Lib.hid h.own
  have HI := Lib.hid hI
  have HB := Lib.hid hB
  have HN := Lib.hid hn
  have HL := Lib.hid (And.intro (pwD_now d ▸ h.len) h.lim)
  have HCL := Lib.hid (show (pwD d).ws.length ≤ 1000000 from pwD_ws d ▸ hws)
  have HIB := Lib.hid (show i < S ∧ b.length ≤ 128 ∧ Bytes b from ⟨hi, by omega, hB⟩)
  obtain ⟨E, hE⟩ : ∃ E, pwE d = E := ⟨_, rfl⟩
  obtain ⟨d1, hd1⟩ : ∃ d1, pwD d = d1 := ⟨_, rfl⟩
  rw [hE, hd1] at HPW
  rw [hd1] at HL HCL
  rw [wrD, hE, hd1]
  have HE0 := Lib.hid (show E = 0 ∨ E = 6 from hE ▸ pwE_or d)
  rw [show d.now = d1.now from hd1 ▸ (pwD_now d).symm, show d.ws = d1.ws from hd1 ▸ (pwD_ws d).symm]
  clear h a1 hn hI hB hws hE hd1
  go_enter Tryz.func60, Tryz.ntmps60
  go_wp2_with fail
  refine HPW.out.mono ?_
  rintro e w1 ⟨rfl, hg1, hD1, hs1⟩
  have hC1 : Chg F w w1 := Chg.of_ hg1 (fun k _ e => by injection e with e; subst e; exact HO.out)
  have HC1 := Lib.hid hC1
  have HI1 := Lib.hid (HI.out.chg HC1.out (fun ad e h0 => hAF ad e (by rw [← HN.out]; exact h0)))
  have HD1 := Lib.hid hD1
  have HS1 := Lib.hid hs1
  have HBL := Lib.hid (build_write i)
  have HZ := Lib.hid zeroW
  have HU := Lib.hid Tryz.underlying33
  have HS5 := Lib.hid (show (Tryz.prog.info? 5).map (·.size) = some 1 by kernel_rfl)
  clear hg1 hD1 HPW c0 hC1 hs1
  rcases HE0.out with rfl | rfl
  case inr =>
    go_wp2_with fail
    go_ret
    exact ⟨rfl, HC1.out, HD1.out.kept (R := fun _ => False) (Chg.refl _ _) (fun _ _ _ h => h) (fun k _ h => .inl h)⟩
  go_upto_region 9 with (first | (with_reducible refine wpList_val rfl (exec_build _ _ rfl #[(0, .int .i64 i)] (by go_simp) (HBL.out _)) ?_) | (with_reducible refine wpList_fresh rfl rfl 81 rfl _ _ rfl (wrC i []).toArray zW (fun _ => rfl) (fun _ => rfl) HZ.out (sizeWA (by decide)) (zW_size (by decide)) (all_one (wrC_one i [])) ?_; intro g8 w2 hg8 hr8 hb8))
  have HI2 := Lib.hid (HI1.out.below hb8.out)
  have hg8' : w1.heap.size ≤ g8 := by have := hg8.out; omega
  have HX1 := Lib.hid (show (b.map (Value.int .u8)).length = Nat.min n 128 by rw [List.length_map, HN.out]; exact (Nat.min_eq_left hn1).symm)
  have HX2 := Lib.hid (show 0 < (b.map (Value.int .u8)).length → some (⟨g8, 1, none⟩ : Addr) = some ⟨g8, 1, none⟩ ∧ ∃ ad, A = some ad ∧ ∀ j v, (b.map (Value.int .u8))[j]? = some v → w2.cell? (ad.add j) = some v from by
    intro h0
    have h0' : 0 < b.length := by simpa using h0
    obtain ⟨ad, e, _⟩ := HI2.out 0 h0'
    refine ⟨rfl, ad, e, fun j v hj => ?_⟩
    obtain ⟨ad', e', hc⟩ := HI2.out.news j v hj
    rw [e] at e'; injection e' with e'; subst e'
    exact hc)
  have HX3 := Lib.hid (show 1 + (b.map (Value.int .u8)).length ≤ (wrC i []).length by rw [List.length_map, HN.out, wrC_length (by decide)]; omega)
  go_upto_region 10 with (with_reducible refine wpList_copy_splice rfl _ _ 33 33 rfl 5 HU.out HS5.out (some ⟨g8, 1, none⟩) A 128 128 n cb rfl rfl g8 1 (wrC i []) 81 hr8.out (b.map (Value.int .u8)) HX1.out HX2.out HX3.out (ints_one _ _) w1.heap.size w1 hb8.out hg8' ?_; intro w3 hr3 hb3)
  have hr3' := hr3.out
  rw [wr_splice i b (by rw [HN.out]; exact hn1)] at hr3'
  have HB3 := Lib.hid hb3
  obtain ⟨gn, gs, wv, dn, a1, a2, a4, a3, a5, a6, a7, a8, a9, b1, b2, b3, b4⟩ := HD1.out.ex
  obtain ⟨nw, hnw⟩ : ∃ nw, d1.ws.length = nw := ⟨_, rfl⟩
  obtain ⟨xs, hxs⟩ : ∃ xs, wsC d1.ws = xs := ⟨_, rfl⟩
  have HNX := Lib.hid (And.intro hnw hxs)
  rw [hnw, hxs] at a3
  have k1 := row_lt a1
  have k2 := row_lt a2
  have c2 : w3.cell? ⟨gd, 2, none⟩ = some wv := (hb3.cell (p := ⟨gd, 2, none⟩) k1).trans (by rw [cell_of_row _ _ _ _ _ _ a1]; rfl)
  have HCW := Lib.hid c2
  obtain ⟨RR, hRR⟩ : ∃ R : Nat → Prop, R = fun k => k = gd ∨ wv.ownBlock = some k := ⟨_, rfl⟩
  have HRR := Lib.hid hRR
  have HG8R := Lib.hid (show ¬ RR g8 from by
    rw [hRR]; intro h; rcases h with h | h
    · omega
    · have := (a3.lt _ h).2; omega)
  have HG8L := Lib.hid (row_lt hr3')
  have HW8 := Lib.hid (show w3.rangeAt g8 0 (wrC i b) from range_row hr3')
  have HR8 := Lib.hid hr3'
  have hnb : b.length ≤ 128 := by rw [HN.out]; exact hn1
  have HBS := Lib.hid (fun (W : World) => build_one (P := Tryz.prog) (z := .agg zW) (vs := wrC i b) (s := 129) Tryz.underlying53 (fun _ => by kernel_rfl) zeroW (wrC_length hnb) (by decide) (by decide) (.agg (wrC i b).toArray) rfl W)
  have HAW := Lib.hid (show ∀ W : World, Below w3.heap.size w3 W → W.ownsRow 0 81 129 wv nw xs from fun W hb => World.ownsRow.kept (World.ownsRow.kept a3 (below_grown hb3 none) (by cases wv.ownBlock <;> simp)) (below_grown hb none) (by cases wv.ownBlock <;> simp))
  have HA1 := Lib.hid a1
  have HA2 := Lib.hid a2
  have HAR := Lib.hid (And.intro a5 (And.intro a6 (And.intro a7 (And.intro a8 (And.intro a9 (And.intro b1 (And.intro b2 (And.intro b3 (And.intro b4 a4)))))))))
  have HWD := Lib.hid (wrC_length (i := i) hnb)
  have HML := Lib.hid (show nw + 1 ≤ maxLen ∧ (nw + 1) * 136 ≤ 140737488355328 by have := HCL.out; rw [HNX.out.1] at this; unfold maxLen; constructor <;> omega)
  have HSF := Lib.hid (show ∀ (W4 w5 : World) (v5 : Value), Below w3.heap.size w3 W4 → w5.ownsRow 0 81 129 v5 (nw + 1) (xs ++ wrC i b) → W4.grownBy w5 wv.ownBlock → (v5.ownBlock = wv.ownBlock ∨ v5.ownBlock = some W4.heap.size) →
      ∃ A5 n5 c5, v5 = .slice A5 n5 c5 ∧ Chg RR w3 w5 ∧ w5.cell? ⟨gd, 2, none⟩ = some wv ∧ w5.frozen? ⟨gd, 2, none⟩ = false ∧ Hid (Chg RR w3 (w5.setCell ⟨gd, 2, none⟩ (.slice A5 n5 c5)) ∧ Chg F w (w5.setCell ⟨gd, 2, none⟩ (.slice A5 n5 c5)) ∧ Dk (w5.setCell ⟨gd, 2, none⟩ (.slice A5 n5 c5)) gd S { d1 with ws := d1.ws ++ [(i, b)] } (fun k => F k ∨ w.heap.size ≤ k) ∧
        (w5.setCell ⟨gd, 2, none⟩ (.slice A5 n5 c5)).heap[gd]? = some (.cells #[.slice (some ⟨gn, 0, none⟩) S S, .slice (some ⟨gs, 0, none⟩) S S, .slice A5 n5 c5, .bool d1.dead, .int .i64 d1.fuse, .int .i64 dn] 55 (0, 0)) ∧
        (w5.setCell ⟨gd, 2, none⟩ (.slice A5 n5 c5)).heap[gn]? = some (.cells (cellsOf d1.now) 79 (0, 0)) ∧ Value.ownBlock (.slice A5 n5 c5) ≠ some gn) from by
    intro W4 w5 v5 e0 e1 e2 e3
    obtain ⟨a5, a6, a7, a8, a9, b1, b2, b3, b4, a4⟩ := HAR.out
    have hv5 : ∃ A5 n5 c5, v5 = .slice A5 n5 c5 := by
      obtain ⟨_, h⟩ := e1
      rcases h with ⟨h, _⟩ | ⟨g, cap, cur, h, _⟩
      · exact ⟨_, _, _, h⟩
      · exact ⟨_, _, _, h⟩
    obtain ⟨A5, n5, c5, rfl⟩ := hv5
    have hb4 : Below w1.heap.size w1 W4 := HB3.out.trans (e0.mono HB3.out.size)
    rw [← HNX.out.1, ← HNX.out.2] at e1
    obtain ⟨p1, p2, p3, p4, p5, p6, p7, p8⟩ := Dk.wrote HD1.out i b HIB.out HA1.out HA2.out a4 a5 a6 a7 a8 a9 b1 b2 b3 b4 hb4 e1 e2 e3
    have hup : ∀ {W : World}, Chg (fun k => k = gd ∨ wv.ownBlock = some k) w1 W → w3.heap.size ≤ W.heap.size → (∀ k, k < w3.heap.size → ¬ (k = gd ∨ wv.ownBlock = some k) → W.heap[k]? = w3.heap[k]?) → Chg RR w3 W := fun hc hs hk =>
      ⟨by rw [hc.os, HB3.out.os], by rw [hc.tape, HB3.out.tape], by rw [hc.output, HB3.out.output], hs, fun k hk1 hk2 => hk k hk1 (by rw [HRR.out] at hk2; exact hk2)⟩
    have hc5 : Chg (fun k => k = gd ∨ wv.ownBlock = some k) w3 w5 := (Chg.belowAt e0).trans2 (Chg.of e2) (fun x _ hx => .inr hx.symm)
    have hc6 : Chg (fun k => k = gd ∨ wv.ownBlock = some k) w3 (w5.setCell ⟨gd, 2, none⟩ (.slice A5 n5 c5)) := hc5.trans2 (Chg.of (grown_setCell _ _ _ _)) (fun x _ hx => by injection hx with hx; exact .inl hx)
    have hRR' : ∀ k, (k = gd ∨ wv.ownBlock = some k) → RR k := fun k hk => by rw [HRR.out]; exact hk
    refine ⟨A5, n5, c5, rfl, hc5.mono hRR', p1, p2, hc6.mono hRR', HC1.out.trans2 p4.out (fun k _ hk => hk.elim (fun e => by rw [e]; exact HD1.out.own) (fun e => b4 k e)), ?_, p6.out, p7.out, p8.out.2⟩
    have := p5.out
    rw [HS1.out] at this
    exact this)
  clear c2 hRR hr3 hr3' hb3 a1 a2 a4 a3 a5 a6 a7 a8 a9 b1 b2 b3 b4 hnw hxs
  --[
  apply shared
  · intro final
    refine wp_region_held_drew (S := fun w' => Chg RR w3 w') (by kernel_rfl) ((Chg.refl _ _).drewN 1) (fun hHeld => ?_)
    refine held_take 0 (some 40) (v := ?_) rfl rfl (by kernel_rfl) (by kernel_rfl) (by kernel_rfl) (fun _ _ _ h => h) (Or.inl ⟨by rfl, ?_⟩) hHeld ?_
    rotate_left
    · (intro w' hSw; clear hSw; go_simp; try with_reducible rfl)
    try simp only [Act.put, List.setIfInBounds_toArray, List.set_cons_zero, List.set_cons_succ]
    refine held_take 1 (some 41) (v := ?_) rfl rfl (by kernel_rfl) (by kernel_rfl) (by kernel_rfl) (fun _ _ _ h => h) (Or.inl ⟨by rfl, ?_⟩) hHeld ?_
    rotate_left
    · (intro w' hSw; clear hSw; go_simp; try with_reducible rfl)
    try simp only [Act.put, List.setIfInBounds_toArray, List.set_cons_zero, List.set_cons_succ]
    refine held_take 2 (some 42) (v := ?_) rfl rfl (by kernel_rfl) (by kernel_rfl) (by kernel_rfl) (fun _ _ _ h => h) (Or.inl ⟨by rfl, ?_⟩) hHeld ?_
    rotate_left
    · (intro w' hSw; clear hSw; go_simp; try with_reducible rfl)
    try simp only [Act.put, List.setIfInBounds_toArray, List.set_cons_zero, List.set_cons_succ]
    refine held_take 3 (some 43) (v := ?_) rfl rfl (by kernel_rfl) (by kernel_rfl) (by kernel_rfl) (fun _ _ _ h => h) (Or.inl ⟨by rfl, ?_⟩) hHeld ?_
    rotate_left
    · (intro w' hSw; clear hSw; go_simp; try with_reducible rfl)
    try simp only [Act.put, List.setIfInBounds_toArray, List.set_cons_zero, List.set_cons_succ]
    refine held_take 5 (some 45) (v := .agg (wrC i b).toArray) rfl rfl (by kernel_rfl) (by kernel_rfl) (by kernel_rfl) (fun _ _ _ h => h) (yieldsIf_load_mid (by rfl) 81 _ rfl g8 (0) rfl (wrC i b) _ (fun w' h => rangeAt_block HW8.out (h.block g8 HG8L.out HG8R.out)) Tryz.underlying81 rfl (sizeW hnb)) hHeld ?_
    try simp only [Act.put, List.setIfInBounds_toArray, List.set_cons_zero, List.set_cons_succ]
    refine wpAnyH_ready (rs := [4, 6]) (by kernel_rfl) (by simp) ?_
    refine AllReadyH.cons rfl (fun K hKK => ?_) (AllReadyH.cons rfl (fun K hKK => ?_) AllReadyH.nil)
    · go_simp
      try simp only [HCW.out]
      go_simp
      refine hKK.out _ _ ((Chg.refl _ _).drewN 1) (fun hHeld => ?_)
      clear hKK K
      try simp only [Act.put, List.setIfInBounds_toArray, List.set_cons_zero, List.set_cons_succ]
      refine wpAnyH_ready (rs := [6]) (by kernel_rfl) (by simp) ?_
      refine AllReadyH.cons rfl (fun K hKK => ?_) AllReadyH.nil
      refine step_val rfl (exec_buildSlice _ _ _ rfl #[(0, .agg (wrC i b).toArray)] (by go_simp) (HBS.out w3.drew)) ?_
      refine hKK.out _ _ (((Chg.refl _ _).drewN 1).alloc _) (fun hHeld => ?_)
      clear hKK K
      try simp only [Act.put, List.setIfInBounds_toArray, List.set_cons_zero, List.set_cons_succ]
      refine wpAnyH_ready (rs := [7]) (by kernel_rfl) (by simp) ?_
      refine AllReadyH.cons rfl (fun K hKK => ?_) AllReadyH.nil
      refine step_app EW rfl (.tmp 44) (.tmp 46) rfl 0 wv nw xs (by go_simp) (HAW.out _ ((Below.refl w3.heap.size w3).drew.alloc (Nat.le_refl _) (.cells (wrC i b).toArray 81))) (some ⟨w3.drew.heap.size, 0, none⟩) 1 1 (wrC i b) (by go_simp) (fun h => by cases h) HWD.out (fun j u hj => ⟨_, rfl, by rw [addr_add0, Nat.zero_add]; exact row_at (heap_alloc_last w3.drew _) hj⟩) (wrC_one _ _) HML.out.1 HML.out.2 (Nat.zero_le _) ?_
      intro v5 w5 hown5 hgrow5 hat5
      obtain ⟨A5, n5, c5, hv5, hch5, hcl5, hfr5, hfin⟩ := HSF.out _ w5 v5 ((Below.refl w3.heap.size w3).drew.alloc (Nat.le_refl _) (.cells (wrC i b).toArray 81)) hown5 hgrow5 hat5
      subst hv5
      clear hown5 hgrow5 hat5
      refine hKK.out _ _ hch5 (fun hHeld => ?_)
      clear hKK K
      try simp only [Act.put, List.setIfInBounds_toArray, List.set_cons_zero, List.set_cons_succ]
      refine held_take 8 (some 48) (v := ?_) rfl rfl (by kernel_rfl) (by kernel_rfl) (by kernel_rfl) (fun _ _ _ h => h) (Or.inl ⟨by rfl, ?_⟩) hHeld ?_
      rotate_left
      · (intro w' hSw; clear hSw; go_simp; try with_reducible rfl)
      try simp only [Act.put, List.setIfInBounds_toArray, List.set_cons_zero, List.set_cons_succ]
      refine held_take 9 (some 49) (v := ?_) rfl rfl (by kernel_rfl) (by kernel_rfl) (by kernel_rfl) (fun _ _ _ h => h) (Or.inl ⟨by rfl, ?_⟩) hHeld ?_
      rotate_left
      · (intro w' hSw; clear hSw; go_simp; try with_reducible rfl)
      try simp only [Act.put, List.setIfInBounds_toArray, List.set_cons_zero, List.set_cons_succ]
      refine wpAnyH_ready (rs := [10]) (by kernel_rfl) (by simp) ?_
      refine AllReadyH.cons rfl (fun K hKK => ?_) AllReadyH.nil
      go_simp
      try simp only [hcl5, hfr5]
      go_simp
      refine hKK.out _ _ hfin.out.1 (fun hHeld => ?_)
      clear hKK K
      try simp only [Act.put, List.setIfInBounds_toArray, List.set_cons_zero, List.set_cons_succ]
      refine wpAnyH_done (by kernel_rfl) ?_ _
      clear hHeld hch5 hcl5 hfr5
      generalize w5.setCell ⟨gd, 2, none⟩ (.slice A5 n5 c5) = w6 at hfin ⊢
      go_simp
      all_goals (revert hfin w6 c5 n5 A5; exact final)
    · refine step_val rfl (exec_buildSlice _ _ _ rfl #[(0, .agg (wrC i b).toArray)] (by go_simp) (HBS.out w3.drew)) ?_
      refine hKK.out _ _ (((Chg.refl _ _).drewN 1).alloc _) (fun hHeld => ?_)
      clear hKK K
      try simp only [Act.put, List.setIfInBounds_toArray, List.set_cons_zero, List.set_cons_succ]
      refine wpAnyH_ready (rs := [4]) (by kernel_rfl) (by simp) ?_
      refine AllReadyH.cons rfl (fun K hKK => ?_) AllReadyH.nil
      go_simp
      have hcw4 := ((Below.refl w3.heap.size w3).alloc (Nat.le_refl _) (.cells (wrC i b).toArray 81)).cell (p := ⟨gd, 2, none⟩) (cell_lt HCW.out)
      rw [HCW.out] at hcw4
      try simp only [hcw4]
      go_simp
      refine hKK.out _ _ (((Chg.refl _ _).drewN 1).alloc _) (fun hHeld => ?_)
      clear hKK K
      try simp only [Act.put, List.setIfInBounds_toArray, List.set_cons_zero, List.set_cons_succ]
      refine wpAnyH_ready (rs := [7]) (by kernel_rfl) (by simp) ?_
      refine AllReadyH.cons rfl (fun K hKK => ?_) AllReadyH.nil
      refine step_app EW rfl (.tmp 44) (.tmp 46) rfl 0 wv nw xs (by go_simp) (HAW.out _ ((Below.refl w3.heap.size w3).drew.alloc (Nat.le_refl _) (.cells (wrC i b).toArray 81))) (some ⟨w3.drew.heap.size, 0, none⟩) 1 1 (wrC i b) (by go_simp) (fun h => by cases h) HWD.out (fun j u hj => ⟨_, rfl, by rw [addr_add0, Nat.zero_add]; exact row_at (heap_alloc_last w3.drew _) hj⟩) (wrC_one _ _) HML.out.1 HML.out.2 (Nat.zero_le _) ?_
      intro v5 w5 hown5 hgrow5 hat5
      obtain ⟨A5, n5, c5, hv5, hch5, hcl5, hfr5, hfin⟩ := HSF.out _ w5 v5 ((Below.refl w3.heap.size w3).drew.alloc (Nat.le_refl _) (.cells (wrC i b).toArray 81)) hown5 hgrow5 hat5
      subst hv5
      clear hown5 hgrow5 hat5
      refine hKK.out _ _ hch5 (fun hHeld => ?_)
      clear hKK K
      try simp only [Act.put, List.setIfInBounds_toArray, List.set_cons_zero, List.set_cons_succ]
      refine held_take 8 (some 48) (v := ?_) rfl rfl (by kernel_rfl) (by kernel_rfl) (by kernel_rfl) (fun _ _ _ h => h) (Or.inl ⟨by rfl, ?_⟩) hHeld ?_
      rotate_left
      · (intro w' hSw; clear hSw; go_simp; try with_reducible rfl)
      try simp only [Act.put, List.setIfInBounds_toArray, List.set_cons_zero, List.set_cons_succ]
      refine held_take 9 (some 49) (v := ?_) rfl rfl (by kernel_rfl) (by kernel_rfl) (by kernel_rfl) (fun _ _ _ h => h) (Or.inl ⟨by rfl, ?_⟩) hHeld ?_
      rotate_left
      · (intro w' hSw; clear hSw; go_simp; try with_reducible rfl)
      try simp only [Act.put, List.setIfInBounds_toArray, List.set_cons_zero, List.set_cons_succ]
      refine wpAnyH_ready (rs := [10]) (by kernel_rfl) (by simp) ?_
      refine AllReadyH.cons rfl (fun K hKK => ?_) AllReadyH.nil
      go_simp
      try simp only [hcl5, hfr5]
      go_simp
      refine hKK.out _ _ hfin.out.1 (fun hHeld => ?_)
      clear hKK K
      try simp only [Act.put, List.setIfInBounds_toArray, List.set_cons_zero, List.set_cons_succ]
      refine wpAnyH_done (by kernel_rfl) ?_ _
      clear hHeld hch5 hcl5 hfr5
      generalize w5.setCell ⟨gd, 2, none⟩ (.slice A5 n5 c5) = w6 at hfin ⊢
      go_simp
      all_goals (revert hfin w6 c5 n5 A5; exact final)
  intro A5 n5 c5 w6 hfin
  obtain ⟨f1, f2, f3, f4, f5, f6⟩ := hfin.out
  have hr6 : w6.heap[g8]? = some (.cells (wrC i b).toArray 81 (0, 0)) := (f1.block g8 HG8L.out HG8R.out).trans HR8.out
  have cn6 : w6.cell? ⟨gd, 0, none⟩ = some (.slice (some ⟨gn, 0, none⟩) S S) := by rw [cell_of_row _ _ _ _ _ _ f4]; rfl
  have HW6 := Lib.hid (show w6.rangeAt g8 1 ((b ++ List.replicate (128 - b.length) 0).map (Value.int .u8)) from fun j v hj => by rw [Nat.add_comm]; exact row_at hr6 (by rw [wrC, List.getElem?_cons_succ]; exact hj))
  have hgn6 := row_lt f5
  have hgd6 := row_lt f4
  have hg86 := row_lt hr6
  have hdn := HAR.out.1
  have hne8 : ¬ g8 = gn := fun e => by have := HD1.out.glt; omega
  have HSL := Lib.hid (show ((b ++ List.replicate (128 - b.length) 0).map (Value.int .u8)).length = 128 by simp; omega)
  have HSS := Lib.hid (show (Tryz.prog.info? 79).map (·.size) = some ((b ++ List.replicate (128 - b.length) 0).map (Value.int .u8)).length by rw [HSL.out]; kernel_rfl)
  have HFT := Lib.hid (show i * 128 + ((b ++ List.replicate (128 - b.length) 0).map (Value.int .u8)).length ≤ (cellsOf d1.now).size by rw [HSL.out, cellsOf_size, HL.out.1]; omega)
  have HF5 := Lib.hid f5
  have HCN := Lib.hid cn6
  have HFF := Lib.hid (And.intro f2 (And.intro f3 (And.intro f4 f6)))
  have HEND := Lib.hid (Dk.filled (gs := gs) (wv := .slice A5 n5 c5) (dn := dn) f3 f4 hi hnb HB.out)
  clear hfin f1 f2 f3 f4 f5 f6 hr6 cn6
  go_upto_region 11 with (fail)
  refine wp_region_held_drew (S := fun w' => Chg (fun k => k = gn) w6 w') (by kernel_rfl) ((Chg.refl _ _).drewN 1) (fun hHeld => ?_)
  refine held_take 0 (some 50) (v := ?_) rfl rfl (by kernel_rfl) (by kernel_rfl) (by kernel_rfl) (fun _ _ _ h => h) (Or.inl ⟨by rfl, ?_⟩) hHeld ?_
  rotate_left
  · (intro w' hSw; clear hSw; go_simp; try with_reducible rfl)
  try simp only [Act.put, List.setIfInBounds_toArray, List.set_cons_zero, List.set_cons_succ]
  refine held_take 1 (some 51) (v := ?_) rfl rfl (by kernel_rfl) (by kernel_rfl) (by kernel_rfl) (fun _ _ _ h => h) (Or.inl ⟨by rfl, ?_⟩) hHeld ?_
  rotate_left
  · (intro w' hSw; clear hSw; go_simp; try with_reducible rfl)
  try simp only [Act.put, List.setIfInBounds_toArray, List.set_cons_zero, List.set_cons_succ]
  refine held_take 2 (some 52) (v := ?_) rfl rfl (by kernel_rfl) (by kernel_rfl) (by kernel_rfl) (fun _ _ _ h => h) (Or.inl ⟨by rfl, ?_⟩) hHeld ?_
  rotate_left
  · (intro w' hSw; clear hSw; go_simp; try with_reducible rfl)
  try simp only [Act.put, List.setIfInBounds_toArray, List.set_cons_zero, List.set_cons_succ]
  refine held_take 3 (some 53) (v := ?_) rfl rfl (by kernel_rfl) (by kernel_rfl) (by kernel_rfl) (fun _ _ _ h => h) (Or.inl ⟨by rfl, ?_⟩) hHeld ?_
  rotate_left
  · (intro w' hSw; have pf := (hSw.cell (p := ⟨gd, 0, none⟩) hgd6 (show ¬ gd = gn from hdn)).trans HCN.out; clear hSw; go_simp; try with_reducible rfl)
  try simp only [Act.put, List.setIfInBounds_toArray, List.set_cons_zero, List.set_cons_succ]
  refine held_take 4 (some 54) (v := ?_) rfl rfl (by kernel_rfl) (by kernel_rfl) (by kernel_rfl) (fun _ _ _ h => h) (Or.inl ⟨by rfl, ?_⟩) hHeld ?_
  rotate_left
  · (intro w' hSw; clear hSw; go_simp; try with_reducible rfl)
  try simp only [Act.put, List.setIfInBounds_toArray, List.set_cons_zero, List.set_cons_succ]
  refine held_take 5 (some 55) (v := ?_) rfl rfl (by kernel_rfl) (by kernel_rfl) (by kernel_rfl) (fun _ _ _ h => h) (Or.inl ⟨by rfl, ?_⟩) hHeld ?_
  rotate_left
  · (intro w' hSw; clear hSw; go_simp; try with_reducible rfl)
  try simp only [Act.put, List.setIfInBounds_toArray, List.set_cons_zero, List.set_cons_succ]
  refine held_take 6 (some 56) (v := .agg ((b ++ List.replicate (128 - b.length) 0).map (Value.int .u8)).toArray) rfl rfl (by kernel_rfl) (by kernel_rfl) (by kernel_rfl) (fun _ _ _ h => h) (yieldsIf_load_mid (by rfl) 79 _ rfl g8 (1) rfl ((b ++ List.replicate (128 - b.length) 0).map (Value.int .u8)) _ (fun w' h => rangeAt_block HW6.out (h.block g8 hg86 hne8)) Tryz.underlying79 rfl HSS.out) hHeld ?_
  try simp only [Act.put, List.setIfInBounds_toArray, List.set_cons_zero, List.set_cons_succ]
  refine held_take 7 (some 57) (v := ?_) rfl rfl (by kernel_rfl) (by kernel_rfl) (by kernel_rfl) (fun _ _ _ h => h) (Or.inl ⟨by rfl, ?_⟩) hHeld ?_
  rotate_left
  · (intro w' hSw; clear hSw; go_simp; try with_reducible rfl)
  try simp only [Act.put, List.setIfInBounds_toArray, List.set_cons_zero, List.set_cons_succ]
  refine wpAnyH_ready (rs := [8]) (by kernel_rfl) (by simp) ?_
  refine AllReadyH.cons rfl (fun K hKK => ?_) AllReadyH.nil
  refine step_skip rfl (exec_store_mid 79 (.tmp 57) (.tmp 56) rfl gn (i * 128) ((b ++ List.replicate (128 - b.length) 0).map (Value.int .u8)) (by go_simp) (by go_simp) 79 (cellsOf d1.now) HF5.out HSS.out HFT.out (ints_one _ _)) ?_
  refine hKK.out _ _ (((Chg.refl _ _).drewN 1).trans2 (Chg.of (grown_setRow _ _ _)) (fun x _ e => by injection e)) (fun hHeld => ?_)
  clear hKK K
  try simp only [Act.put, List.setIfInBounds_toArray, List.set_cons_zero, List.set_cons_succ]
  refine wpAnyH_done (by kernel_rfl) ?_ _
  rw [HSL.out, ← secS_cells]
  go_wp2
  go_ret
  exact ⟨rfl, HFF.out.1.trans2 (HEND.out _ (Below.refl _ _).drew).1 (fun k _ hk => by rw [hk]; exact HAR.out.2.2.2.2.2.2.1), (HEND.out _ (Below.refl _ _).drew).2⟩
  --]
end
end Go.Proofs.YtcklcffepedklaaGreatDoor

namespace Go.Proofs.YtcklcffepedklaaGreatDoor
open Go.RowKit

theorem wsC_at : ∀ (l : List (Nat × List Int)) (i : Nat) (x : Nat × List Int), (∀ y ∈ l, y.2.length ≤ 128) → l[i]? = some x → ∀ j v, (wrC x.1 x.2)[j]? = some v → (wsC l)[i * 129 + j]? = some v
  | [], _, _, _, h => by simp at h
  | y :: l, 0, x, hl, h => fun j v hj => by
    injection h with h; subst h
    rw [wsC, List.flatMap_cons, Nat.zero_mul, Nat.zero_add, List.getElem?_append_left (List.getElem?_eq_some_iff.1 hj).1]; exact hj
  | y :: l, i + 1, x, hl, h => fun j v hj => by
    have := wsC_at l i x (fun z hz => hl z (by simp [hz])) h j v hj
    rw [wsC, List.flatMap_cons, List.getElem?_append_right (by rw [wrC_length (hl y (by simp))]; omega), wrC_length (hl y (by simp))]
    rw [show (i + 1) * 129 + j - 129 = i * 129 + j by omega]; exact this
theorem wsC_length : ∀ l : List (Nat × List Int), (∀ y ∈ l, y.2.length ≤ 128) → (wsC l).length = l.length * 129
  | [], _ => rfl
  | y :: l, hl => by rw [wsC, List.flatMap_cons, List.length_append, wrC_length (hl y (by simp))]; have := wsC_length l (fun z hz => hl z (by simp [hz])); rw [wsC] at this; rw [this, List.length_cons]; omega
theorem own_ws {w : World} {b n c i : Nat} {A : Option Addr} {l : List (Nat × List Int)} {x : Nat × List Int} (h : w.ownsRow b 81 129 (.slice A n c) l.length (wsC l)) (hl : ∀ y ∈ l, y.2.length ≤ 128) (hi : l[i]? = some x) : ∃ g, A = some ⟨g, 0, none⟩ ∧ w.rangeAt g (i * 129) (wrC x.1 x.2) := by
  have hil := (List.getElem?_eq_some_iff.1 hi).1
  have h0 := wrC_length (i := x.1) (hl x (List.mem_of_getElem? hi))
  obtain ⟨g, hA⟩ : ∃ g, A = some ⟨g, 0, none⟩ := by
    obtain ⟨_, h⟩ := h
    rcases h with ⟨_, h⟩ | ⟨g, cap, cur, h, _⟩
    · omega
    · injection h with h; exact ⟨g, h⟩
  refine ⟨g, hA, fun j v hj => ?_⟩
  have := h.cells (g := g) (by rw [hA]; rfl) (i * 129 + j) v (wsC_at l i x hl hi j v hj)
  rwa [addr_add0, Nat.zero_add] at this
theorem own_formW {w : World} {b : Nat} {v : Value} {n : Nat} {xs : List Value} (h : w.ownsRow b 81 129 v n xs) : ∃ A c, v = .slice A n c := by
  obtain ⟨_, h⟩ := h
  rcases h with ⟨h, h0⟩ | ⟨g, cap, cur, h, _⟩
  · exact ⟨none, 0, by rw [h, h0]⟩
  · exact ⟨_, _, h⟩
/-- Writes, made safe. -/
def flW (B : List Int) (l : List (Nat × List Int)) : List Int := l.foldl (fun B x => secS B x.1 x.2) B
theorem flW_ok {S : Nat} : ∀ (l : List (Nat × List Int)) (B : List Int), B.length = 128 * S → Bytes B → (∀ x ∈ l, x.1 < S ∧ x.2.length ≤ 128 ∧ Bytes x.2) → (flW B l).length = 128 * S ∧ Bytes (flW B l)
  | [], B, h1, h2, _ => ⟨h1, h2⟩
  | x :: l, B, h1, h2, h3 => flW_ok l _ (secS_length h1 (h3 x (by simp)).1 (h3 x (by simp)).2.1) (secS_bytes h2 (h3 x (by simp)).2.2) (fun y hy => h3 y (by simp [hy]))
theorem flW_snoc (B : List Int) (l : List (Nat × List Int)) (x : Nat × List Int) : flW B (l ++ [x]) = secS (flW B l) x.1 x.2 := by simp [flW]
section
variable {w : World} {gd S : Nat} {d : Ds} {F : Nat → Prop}
theorem Dk.safed {w' : World} {gn gs : Nat} {wv : Value} {dn : Int} (h : Dk w gd S d F) (a1 : w.heap[gd]? = some (.cells #[.slice (some ⟨gn, 0, none⟩) S S, .slice (some ⟨gs, 0, none⟩) S S, wv, .bool d.dead, .int .i64 d.fuse, .int .i64 dn] 55 (0, 0)))
    {B' : List Int} (hl : B'.length = 128 * S) (hB : Bytes B') (hc : Chg (fun k => k = gs) w w') (hr : w'.heap[gs]? = some (.cells (cellsOf B') 79 (0, 0))) : Dk w' gd S { d with safe := B' } F := by
  obtain ⟨gn', gs', wv', dn', c1, c2, c3, c4, c5, c6, c7, c8, c9, d1, d2, d3, d4⟩ := h.ex
  have e := a1.symm.trans c1
  simp only [Option.some.injEq, Obj.cells.injEq, Array.mk.injEq, List.cons.injEq, Value.slice.injEq, Addr.mk.injEq, Value.int.injEq, and_true, true_and] at e
  obtain ⟨e1, e2, e3, e4⟩ := e
  subst e1 e2 e3
  exact ⟨⟨gn, gs, wv, dn', (hc.block gd (row_lt c1) c6).trans c1, (hc.block gn (row_lt c2) c7).trans c2, hr, ownsRow_chg c4 hc (fun k hk e => d1 (by rw [hk, e])), c5, c6, c7, c8, c9, d1, d2, d3, d4⟩, h.own, h.len, hl, h.byt, hB, h.wok, h.lim, h.fus⟩
theorem Dk.nowed {w' : World} {gn gs : Nat} {wv : Value} {dn : Int} (h : Dk w gd S d F) (a1 : w.heap[gd]? = some (.cells #[.slice (some ⟨gn, 0, none⟩) S S, .slice (some ⟨gs, 0, none⟩) S S, wv, .bool d.dead, .int .i64 d.fuse, .int .i64 dn] 55 (0, 0)))
    {B' : List Int} (hl : B'.length = 128 * S) (hB : Bytes B') (hc : Chg (fun k => k = gn) w w') (hr : w'.heap[gn]? = some (.cells (cellsOf B') 79 (0, 0))) : Dk w' gd S { d with now := B' } F := by
  obtain ⟨gn', gs', wv', dn', c1, c2, c3, c4, c5, c6, c7, c8, c9, d1, d2, d3, d4⟩ := h.ex
  have e := a1.symm.trans c1
  simp only [Option.some.injEq, Obj.cells.injEq, Array.mk.injEq, List.cons.injEq, Value.slice.injEq, Addr.mk.injEq, Value.int.injEq, and_true, true_and] at e
  obtain ⟨e1, e2, e3, e4⟩ := e
  subst e1 e2 e3
  exact ⟨⟨gn, gs, wv, dn', (hc.block gd (row_lt c1) c5).trans c1, hr, (hc.block gs (row_lt c3) (fun e => c7 e.symm)).trans c3, ownsRow_chg c4 hc (fun k hk e => c9 (by rw [hk, e])), c5, c6, c7, c8, c9, d1, d2, d3, d4⟩, h.own, hl, h.len2, hB, h.byt2, h.wok, h.lim, h.fus⟩
/-- No writes any more. -/
theorem Dk.cleared (h : Dk w gd S d F) : Dk (w.setCell ⟨gd, 2, none⟩ (.slice none 0 0)) gd S { d with ws := [] } F := by
  obtain ⟨gn, gs, wv, dn, c1, c2, c3, c4, c5, c6, c7, c8, c9, d1, d2, d3, d4⟩ := h.ex
  have hg := grown_setCell w gd 2 (.slice none 0 0)
  exact ⟨⟨gn, gs, .slice none 0 0, dn, by rw [setCell_row c1]; rfl, (hg.block gn (row_lt c2) (fun e => by injection e with e; exact c5 e.symm)).trans c2, (hg.block gs (row_lt c3) (fun e => by injection e with e; exact c6 e.symm)).trans c3, World.ownsRow_nil _ _ _ _, c5, c6, c7, by simp [Value.ownBlock], by simp [Value.ownBlock], by simp [Value.ownBlock], d2, d3, fun k hk => by simp [Value.ownBlock] at hk⟩, h.own, h.len, h.len2, h.byt, h.byt2, by simp, h.lim, h.fus⟩
/-- A disk behind a Flush. -/
def flD (d : Ds) : Ds := if pwE d = 0 then { pwD d with safe := flW d.safe d.ws, ws := [] } else pwD d
set_option maxRecDepth 20000 in
set_option maxHeartbeats 1600000 in
theorem Flush_any (h : Dk w gd S d F) (hws : d.ws.length ≤ 1000000) :
    Calls Tryz.prog 61 #[.pointer (some ⟨gd, 0, none⟩)] w fun e w' => e = .returned (.int .i64 (pwE d)) ∧ Chg F w w' ∧ Dk w' gd S (flD d) F := by
  have HPW := Lib.hid (powered_any h)
  have HO := Lib.hid h.own
  have HCL := Lib.hid (show (pwD d).ws.length ≤ 1000000 from pwD_ws d ▸ hws)
  obtain ⟨E, hE⟩ : ∃ E, pwE d = E := ⟨_, rfl⟩
  obtain ⟨d1, hd1⟩ : ∃ d1, pwD d = d1 := ⟨_, rfl⟩
  rw [hE, hd1] at HPW
  rw [hd1] at HCL
  rw [flD, hE, hd1, show d.safe = d1.safe from hd1 ▸ (pwD_safe d).symm, show d.ws = d1.ws from hd1 ▸ (pwD_ws d).symm]
  have HE0 := Lib.hid (show E = 0 ∨ E = 6 from hE ▸ pwE_or d)
  clear h hws hE hd1
  go_enter Tryz.func61, Tryz.ntmps61
  go_wp2_with fail
  refine HPW.out.mono ?_
  rintro e w1 ⟨rfl, hg1, hD1, hs1⟩
  have HC1 := Lib.hid (show Chg F w w1 from Chg.of_ hg1 (fun k _ e => by injection e with e; subst e; exact HO.out))
  have HD1 := Lib.hid hD1
  clear hg1 hD1 HPW hs1
  rcases HE0.out with rfl | rfl
  case inr =>
    go_wp2_with fail
    go_ret
    exact ⟨rfl, HC1.out, HD1.out⟩
  obtain ⟨gn, gs, wv, dn, a1, a2, a3, a4, a5, a6, a7, a8, a9, b1, b2, b3, b4⟩ := HD1.out.ex
  have HL := Lib.hid (show ∀ y ∈ d1.ws, y.2.length ≤ 128 from fun y hy => (HD1.out.wok y hy).2.1)
  obtain ⟨Aw, cw, rfl⟩ := own_formW a4
  obtain ⟨n, hn⟩ : ∃ n, d1.ws.length = n := ⟨_, rfl⟩
  have HN := Lib.hid hn
  have HA1 := Lib.hid a1
  have HA4 := Lib.hid a4
  have HAR := Lib.hid (And.intro a6 (And.intro b1 b3))
  have c2 : w1.cell? ⟨gd, 2, none⟩ = some (.slice Aw n cw) := by rw [cell_of_row _ _ _ _ _ _ a1, ← hn]; rfl
  have hn1 : n ≤ 1000000 := by rw [← hn]; exact HCL.out
  have HST := Lib.hid (And.intro (Chg.refl (fun k => k = gs) w1) a3)
  have hgdl := row_lt a1
  have hgsl := row_lt a3
  have HLT := Lib.hid (And.intro hgdl hgsl)
  clear a1 a2 a3 a4 a5 a6 a7 a8 a9 b1 b2 b3 b4 hn hgdl hgsl
  go_upto_region 7 with (fail)
  go_loopg [18] n (fun kq v18 w' => ∃ (i : Nat), v18 = .int .i64 (i : Int) ∧ i + kq = n ∧ Hid (Chg (fun k => k = gs) w1 w') ∧ Hid (w'.heap[gs]? = some (.cells (cellsOf (flW d1.safe (d1.ws.take i))) 79 (0, 0))))
  case atStart => exact ⟨0, rfl, by omega, Lib.hid HST.out.1, Lib.hid (by rw [List.take_zero]; exact HST.out.2)⟩
  case round =>
    obtain ⟨i, rfl, hi, HCR, HSR⟩ := hrel
    have hdw : wr.heap[gd]? = _ := (HCR.out.block gd HLT.out.1 HAR.out.1).trans HA1.out
    by_cases hlt : i < n
    · have hil : i < d1.ws.length := by rw [HN.out]; exact hlt
      obtain ⟨x, hx⟩ : ∃ x, d1.ws[i]? = some x := ⟨_, List.getElem?_eq_getElem hil⟩
      have hw4 := ownsRow_chg HA4.out HCR.out (fun k hk e => HAR.out.2.1 (by rw [hk, e]))
      obtain ⟨g, rfl, hrg⟩ := own_ws hw4 HL.out hx
      have HRG := Lib.hid hrg
      obtain ⟨xi, xb⟩ := x
      have hwk := HD1.out.wok (xi, xb) (List.mem_of_getElem? hx)
      have hxi : xi < S := hwk.1
      have hxl : xb.length ≤ 128 := hwk.2.1
      have hfl := flW_ok (d1.ws.take i) d1.safe HD1.out.len2 HD1.out.byt2 (fun y hy => HD1.out.wok y (List.mem_of_mem_take hy))
      have HTK := Lib.hid (show flW d1.safe (d1.ws.take (i + 1)) = secS (flW d1.safe (d1.ws.take i)) xi xb by rw [List.take_add_one, hx]; exact flW_snoc _ _ _)
      obtain ⟨B, hB⟩ : ∃ B, flW d1.safe (d1.ws.take i) = B := ⟨_, rfl⟩
      rw [hB] at HTK HSR hfl
      have HFL := Lib.hid hfl.1
      have hi0 : (0 : Int) ≤ (i : Int) := by omega
      have hi1 : (i : Int) < (n : Int) := by omega
      have hxi0 : (0 : Int) ≤ (xi : Int) := by omega
      have hxi1 : (xi : Int) < (S : Int) := by omega
      have u1 : IntKind.i64.wrap ((i : Int) + 1) = ((i + 1 : Nat) : Int) := by rw [IntKind.wrap_i64]; omega
      obtain ⟨i', hi'⟩ : ∃ i', i + 1 = i' := ⟨_, rfl⟩
      rw [hi'] at u1 HTK
      have HI := Lib.hid (And.intro hi' hi)
      have HZ := Lib.hid zeroW
      have HDW := Lib.hid hdw
      have HGSL := Lib.hid (row_lt HSR.out)
      clear hil hx hw4 hrg hwk hB hfl hi' hdw hi
      go_wp2_with (first | (with_reducible refine Go.wpList_load_mid rfl 81 _ rfl g (i * 129) rfl (wrC xi xb) _ HRG.out Tryz.underlying81 rfl (sizeW hxl) ?_) | (with_reducible refine Go.wpList_load_mid rfl 81 _ rfl g (0 + i * 129) rfl (wrC xi xb) _ (by rw [Nat.zero_add]; exact HRG.out) Tryz.underlying81 rfl (sizeW hxl) ?_) | (with_reducible refine wpList_fresh rfl rfl 81 rfl _ _ rfl (wrC xi xb).toArray zW (fun _ => rfl) (fun _ => rfl) HZ.out (sizeWA hxl) (zW_size hxl) (all_one (wrC_one xi xb)) ?_; intro g5 w5 hg5 hr5 hb5) | fail)
      have HB5 := Lib.hid (show Chg (fun k => k = gs) w1 w5 from HCR.out.below0 hb5.out)
      have hs5 := (hb5.out.block gs HGSL.out).trans HSR.out
      have hd5 := (hb5.out.block gd (row_lt HDW.out)).trans HDW.out
      have HS5 := Lib.hid hs5
      have HC1' := Lib.hid (show w5.cell? ⟨gd, 1, none⟩ = some (.slice (some ⟨gs, 0, none⟩) S S) from by rw [cell_of_row _ _ _ _ _ _ hd5]; rfl)
      have HC5 := Lib.hid (show w5.cell? ⟨g5, 0, none⟩ = some (.int .i64 (xi : Int)) from by rw [cell_of_row _ _ _ _ _ _ hr5.out]; rfl)
      have HLX := Lib.hid (show gd < w5.heap.size ∧ ¬ gd = gs ∧ g5 < w5.heap.size ∧ ¬ g5 = gs from ⟨row_lt hd5, HAR.out.1, row_lt hr5.out, fun e => by have := HGSL.out; have := hg5.out; omega⟩)
      have HW5 := Lib.hid (show w5.rangeAt g5 1 ((xb ++ List.replicate (128 - xb.length) 0).map (Value.int .u8)) from fun j v hj => by rw [Nat.add_comm]; exact row_at hr5.out (by rw [wrC, List.getElem?_cons_succ]; exact hj))
      have HSL := Lib.hid (show ((xb ++ List.replicate (128 - xb.length) 0).map (Value.int .u8)).length = 128 by simp; omega)
      have HSS := Lib.hid (show (Tryz.prog.info? 79).map (·.size) = some ((xb ++ List.replicate (128 - xb.length) 0).map (Value.int .u8)).length by rw [HSL.out]; kernel_rfl)
      have HFT := Lib.hid (show xi * 128 + ((xb ++ List.replicate (128 - xb.length) 0).map (Value.int .u8)).length ≤ (cellsOf B).size by rw [HSL.out, cellsOf_size, HFL.out]; omega)
      clear hs5 hd5
      --[9
      refine wp_region_held_drew (S := fun w' => Chg (fun k => k = gs) w5 w') (by kernel_rfl) (((Chg.refl _ _).drewN 1)) (fun hHeld => ?_)
      refine held_take 0 (some 22) (v := ?_) rfl rfl (by kernel_rfl) (by kernel_rfl) (by kernel_rfl) (fun _ _ _ h => h) (Or.inl ⟨by rfl, ?_⟩) hHeld ?_
      rotate_left
      · (intro w' hSw; clear hSw; go_simp; try with_reducible rfl)
      try simp only [Act.put, List.setIfInBounds_toArray, List.set_cons_zero, List.set_cons_succ]
      refine held_take 1 (some 23) (v := ?_) rfl rfl (by kernel_rfl) (by kernel_rfl) (by kernel_rfl) (fun _ _ _ h => h) (Or.inl ⟨by rfl, ?_⟩) hHeld ?_
      rotate_left
      · (intro w' hSw; clear hSw; go_simp; try with_reducible rfl)
      try simp only [Act.put, List.setIfInBounds_toArray, List.set_cons_zero, List.set_cons_succ]
      refine held_take 2 (some 24) (v := ?_) rfl rfl (by kernel_rfl) (by kernel_rfl) (by kernel_rfl) (fun _ _ _ h => h) (Or.inl ⟨by rfl, ?_⟩) hHeld ?_
      rotate_left
      · (intro w' hSw; clear hSw; go_simp; try with_reducible rfl)
      try simp only [Act.put, List.setIfInBounds_toArray, List.set_cons_zero, List.set_cons_succ]
      refine held_take 3 (some 25) (v := ?_) rfl rfl (by kernel_rfl) (by kernel_rfl) (by kernel_rfl) (fun _ _ _ h => h) (Or.inl ⟨by rfl, ?_⟩) hHeld ?_
      rotate_left
      · (intro w' hSw; have pf := (hSw.cell (p := ⟨gd, 1, none⟩) HLX.out.1 HLX.out.2.1).trans HC1'.out; clear hSw; go_simp; try with_reducible rfl)
      try simp only [Act.put, List.setIfInBounds_toArray, List.set_cons_zero, List.set_cons_succ]
      refine held_take 4 (some 26) (v := ?_) rfl rfl (by kernel_rfl) (by kernel_rfl) (by kernel_rfl) (fun _ _ _ h => h) (Or.inl ⟨by rfl, ?_⟩) hHeld ?_
      rotate_left
      · (intro w' hSw; clear hSw; go_simp; try with_reducible rfl)
      try simp only [Act.put, List.setIfInBounds_toArray, List.set_cons_zero, List.set_cons_succ]
      refine held_take 5 (some 27) (v := ?_) rfl rfl (by kernel_rfl) (by kernel_rfl) (by kernel_rfl) (fun _ _ _ h => h) (Or.inl ⟨by rfl, ?_⟩) hHeld ?_
      rotate_left
      · (intro w' hSw; have pf := (hSw.cell (p := ⟨g5, 0, none⟩) HLX.out.2.2.1 HLX.out.2.2.2).trans HC5.out; clear hSw; go_simp; try with_reducible rfl)
      try simp only [Act.put, List.setIfInBounds_toArray, List.set_cons_zero, List.set_cons_succ]
      refine held_take 6 (some 28) (v := ?_) rfl rfl (by kernel_rfl) (by kernel_rfl) (by kernel_rfl) (fun _ _ _ h => h) (Or.inl ⟨by rfl, ?_⟩) hHeld ?_
      rotate_left
      · (intro w' hSw; clear hSw; go_simp; try with_reducible rfl)
      try simp only [Act.put, List.setIfInBounds_toArray, List.set_cons_zero, List.set_cons_succ]
      refine held_take 7 (some 29) (v := .agg (((xb ++ List.replicate (128 - xb.length) 0).map (Value.int .u8))).toArray) rfl rfl (by kernel_rfl) (by kernel_rfl) (by kernel_rfl) (fun _ _ _ h => h) (yieldsIf_load_mid (by rfl) 79 _ rfl g5 (1) rfl (((xb ++ List.replicate (128 - xb.length) 0).map (Value.int .u8))) _ (fun w' h => rangeAt_block HW5.out (h.block g5 HLX.out.2.2.1 HLX.out.2.2.2)) Tryz.underlying79 rfl HSS.out) hHeld ?_
      try simp only [Act.put, List.setIfInBounds_toArray, List.set_cons_zero, List.set_cons_succ]
      refine held_take 8 (some 30) (v := ?_) rfl rfl (by kernel_rfl) (by kernel_rfl) (by kernel_rfl) (fun _ _ _ h => h) (Or.inl ⟨by rfl, ?_⟩) hHeld ?_
      rotate_left
      · (intro w' hSw; clear hSw; go_simp; try with_reducible rfl)
      try simp only [Act.put, List.setIfInBounds_toArray, List.set_cons_zero, List.set_cons_succ]
      refine wpAnyH_ready (rs := [9]) (by kernel_rfl) (by simp) ?_
      refine AllReadyH.cons rfl (fun K hKK => ?_) AllReadyH.nil
      refine step_skip rfl (exec_store_mid 79 (.tmp 30) (.tmp 29) rfl gs (xi * 128) ((xb ++ List.replicate (128 - xb.length) 0).map (Value.int .u8)) (by go_simp) (by go_simp) 79 (cellsOf B) HS5.out HSS.out HFT.out (ints_one _ _)) ?_
      refine hKK.out _ _ (((Chg.refl _ _).drewN 1).trans2 (Chg.of (grown_setRow _ _ _)) (fun x _ e => by injection e)) (fun hHeld => ?_)
      clear hKK K
      try simp only [Act.put, List.setIfInBounds_toArray, List.set_cons_zero, List.set_cons_succ]
      refine wpAnyH_done (by kernel_rfl) ?_ _
      --]9
      rw [HSL.out, ← secS_cells]
      have hst := setRow_heap w5.drew gs _ (cellsOf (secS B xi xb)) _ _ HS5.out
      have HE := Lib.hid (And.intro (HB5.out.drewN 1 |>.trans2 (Chg.of (grown_setRow w5.drew gs (cellsOf (secS B xi xb)))) (fun x _ e => by injection e)) hst)
      clear hst hHeld
      generalize w5.drew.setRow gs (cellsOf (secS B xi xb)) = w7 at HE ⊢
      go_wp2_with fail
      go_roundg (n - i')
      case measure => have := HI.out; omega
      case rel => exact ⟨i', rfl, by have := HI.out; omega, Lib.hid HE.out.1, Lib.hid (by rw [HTK.out]; exact HE.out.2)⟩
    · obtain rfl : gk = 0 := by omega
      obtain rfl : i = n := by omega
      have hall : d1.ws.take i = d1.ws := List.take_of_length_le (by rw [HN.out]; exact Nat.le_refl _)
      have hsr := HSR.out
      rw [hall] at hsr
      have hok := flW_ok d1.ws d1.safe HD1.out.len2 HD1.out.byt2 HD1.out.wok
      have HDF := Lib.hid ((HD1.out.safed HA1.out hok.1 hok.2 HCR.out hsr).cleared)
      have HCF := Lib.hid (show Chg F w (wr.setCell ⟨gd, 2, none⟩ (.slice none 0 0)) from (HC1.out.trans2 HCR.out (fun k _ e => by rw [e]; exact HAR.out.2.2)).trans2 (Chg.of (grown_setCell wr gd 2 (.slice none 0 0))) (fun k _ e => by injection e with e; rw [e]; exact HO.out))
      have f2 := free_row hdw 2
      have c20 : wr.cell? ⟨gd, 2, none⟩ = some (.slice Aw i cw) := by rw [cell_of_row _ _ _ _ _ _ hdw, ← HN.out]; rfl
      clear hall hsr hok hdw hlt
      go_wp2_with fail
      go_ret
      exact ⟨rfl, HCF.out, HDF.out⟩
/-- The power is to fail. -/
def cutD (d : Ds) (n : Int) : Ds := if d.dead = true then d else { d with fuse := max n (-1) }
theorem Cut_any (h : Dk w gd S d F) (n : Int) (hn : -9223372036854775808 ≤ n ∧ n ≤ 9223372036854775807) :
    Calls Tryz.prog 11 #[.pointer (some ⟨gd, 0, none⟩), .int .i64 n] w fun e w' => e = .returned (.tuple #[]) ∧ Chg F w w' ∧ Dk w' gd S (cutD d n) F := by
  obtain ⟨gn, gs, wv, dn, a1, _⟩ := h.ex
  obtain ⟨dead, hdead⟩ : ∃ b, d.dead = b := ⟨_, rfl⟩
  have c3 : w.cell? ⟨gd, 3, none⟩ = some (.bool dead) := by rw [cell_of_row _ _ _ _ _ _ a1, ← hdead]; rfl
  have c4 : w.cell? ⟨gd, 4, none⟩ = some (.int .i64 d.fuse) := by rw [cell_of_row _ _ _ _ _ _ a1]; rfl
  have f4 := free_row a1 4
  have HD := Lib.hid h
  have HDD := Lib.hid hdead
  obtain ⟨m, hm⟩ : ∃ m : Int, max n (-1) = m := ⟨_, rfl⟩
  have hm' : (if (-1 : Int) < n then n else -1) = m := by rw [← hm]; omega
  have HF := Lib.hid (show dead = false → Dk (w.setCell ⟨gd, 4, none⟩ (.int .i64 m)) gd S { d with fuse := m } F from fun h0 => by
    have hg : w.grownBy (w.setCell ⟨gd, 4, none⟩ (.int .i64 m)) (some gd) := grown_setCell w gd 4 _
    have := h.turn d.dead m dn (by omega) hg (fun n s wv' f e g t hr => by
      rw [setCell_row hr]
      rw [hr] at a1
      injection a1 with a1
      simp only [Obj.cells.injEq, Array.mk.injEq, List.cons.injEq] at a1
      rw [a1.1.2.2.2.1, a1.1.2.2.2.2.2.1]; rfl)
    exact this)
  have HCF := Lib.hid (show Chg F w (w.setCell ⟨gd, 4, none⟩ (.int .i64 m)) from Chg.of_ (grown_setCell w gd 4 (.int .i64 m)) (fun k _ e => by injection e with e; rw [← e]; exact h.own))
  have HX := Lib.hid (show cutD d n = if d.dead = true then d else { d with fuse := m } from by rw [cutD, hm])
  obtain ⟨D', hD'⟩ : ∃ D', cutD d n = D' := ⟨_, rfl⟩
  rw [hD'] at HX ⊢
  clear h a1 hdead hD'
  cases dead with
  | true =>
    go_enter Tryz.func11, Tryz.ntmps11
    go_wp2_with fail
    go_end0
    exact ⟨rfl, Chg.refl _ _, by rw [HX.out, if_pos HDD.out]; exact HD.out⟩
  | false =>
    go_enter Tryz.func11, Tryz.ntmps11
    go_wp2_with fail
    go_end0
    exact ⟨rfl, HCF.out, by rw [HX.out, if_neg (by rw [HDD.out]; simp)]; exact HF.out trivial⟩
end
end Go.Proofs.YtcklcffepedklaaGreatDoor
