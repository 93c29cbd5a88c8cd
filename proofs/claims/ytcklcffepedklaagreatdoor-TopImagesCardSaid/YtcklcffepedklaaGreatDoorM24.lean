/- Texts of the proof, one behind the other: disk, with power that may fail: Crash. slot: lay, Lay. -/
import Derived.Test.YtcklcffepedklaaGreatDoorM23
import Derived.Laws.StructEq
namespace Go.Proofs.YtcklcffepedklaaGreatDoor
open Go.RowKit

/-- A sector that is written in part. -/
def torn (B : List Int) (i : Nat) (b : List Int) (n : Nat) : List Int := B.take (i * 128) ++ (b ++ List.replicate (128 - b.length) 0).take n ++ B.drop (i * 128 + n)
theorem torn_length {B b : List Int} {S i n : Nat} (h : B.length = 128 * S) (hi : i < S) (hb : b.length ≤ 128) (hn : n ≤ 128) : (torn B i b n).length = 128 * S := by
  simp [torn]; omega
theorem torn_bytes {B b : List Int} {i n : Nat} (h : Bytes B) (hb : Bytes b) : Bytes (torn B i b n) :=
  ((h.take _).append ((hb.append (rep_bytes _)).take _)).append (h.drop _)
def fate (f : Int) : Nat := (max 0 (min f 128)).toNat
theorem fate_le (f : Int) : fate f ≤ 128 := by unfold fate; omega
/-- Writes that are there in part. -/
def crW (B : List Int) (l : List ((Nat × List Int) × Int)) : List Int := l.foldl (fun B x => torn B x.1.1 x.1.2 (fate x.2)) B
theorem crW_ok {S : Nat} : ∀ (l : List ((Nat × List Int) × Int)) (B : List Int), B.length = 128 * S → Bytes B → (∀ x ∈ l, x.1.1 < S ∧ x.1.2.length ≤ 128 ∧ Bytes x.1.2) → (crW B l).length = 128 * S ∧ Bytes (crW B l)
  | [], B, h1, h2, _ => ⟨h1, h2⟩
  | x :: l, B, h1, h2, h3 => crW_ok l _ (torn_length h1 (h3 x (by simp)).1 (h3 x (by simp)).2.1 (fate_le _)) (torn_bytes h2 (h3 x (by simp)).2.2) (fun y hy => h3 y (by simp [hy]))
theorem crW_snoc (B : List Int) (l : List ((Nat × List Int) × Int)) (x : (Nat × List Int) × Int) : crW B (l ++ [x]) = torn (crW B l) x.1.1 x.1.2 (fate x.2) := by simp [crW]
/-- A disk behind a Crash. -/
def crD (d : Ds) (fs : List Int) : Ds := ⟨crW d.safe (d.ws.zip fs), crW d.safe (d.ws.zip fs), [], false, -1⟩
theorem torn_cells {B : List Int} {i n : Nat} {b : List Int} : cellsOf (torn B i b n) = ((cellsOf B).toList.take (i * 128) ++ ((b ++ List.replicate (128 - b.length) 0).map (Value.int .u8)).take n ++ (cellsOf B).toList.drop (i * 128 + n)).toArray := by
  unfold cellsOf torn
  simp only [List.map_append, List.map_take, List.map_drop]
section
variable {P : Program} {o : Oper} {w w' : World} {ρ : Operand → Value}
theorem exec_copy (t t' : TypeId) (x y : Operand) (ho : o.op = .call { callee := .builtin .copy, args := #[x, y], argTypes := #[t, t'] }) (u v : Value) (hx : ρ x = u) (hy : ρ y = v) {r : Value} (hr : (Builtin.copy_ #[t, t'] o.type #[u, v]).run P w = .ok r w') : (execOp ρ o).run P w = .ok (.value r) w' := by
  unfold execOp
  simp only [ho, resolve, invoke, builtin, Sem.run_bind, Sem.run_pure, Result.andThen_ok, List.map_toArray, List.map_cons, List.map_nil, hx, hy, hr]
end
theorem wpList_store_new {P : Program} {ops : Array Oper} {o : Oper} {rest : List Oper} {a : Act} {w : World} {Q : Exit → Act → World → Prop} (hgd : o.guard = none) (T : TypeId) (x y : Operand) (ho : o.op = .store T x y) (g : Nat) (vs : List Value) (hx : a.eval x = .pointer (some ⟨g, 0, none⟩)) (hy : a.eval y = .agg vs.toArray) (t : TypeId) (cur : Array Value) (hg : w.heap[g]? = some (.cells cur t (0, 0)))
    (hi : (P.info? T).map (·.size) = some vs.length) (hs : cur.size = vs.length) (h1 : ∀ v ∈ vs, v.oneCell' = true) (B : Nat) (w0 : World) (hb : Below B w0 w) (hB : B ≤ g) (h : ∀ w', Hid (w'.heap[g]? = some (.cells vs.toArray t (0, 0))) → Hid (Below B w0 w') → wpList P ops Q rest (a.put o.dst undef) w') : wpList P ops Q (o :: rest) a w := by
  refine wpList_skip hgd (exec_store_mid T x y ho g 0 vs hx hy t cur hg hi (by omega) h1) (h _ (Lib.hid ?_) (Lib.hid ?_))
  · have : (cur.toList.take 0 ++ vs ++ cur.toList.drop (0 + vs.length)).toArray = vs.toArray := by
      rw [List.drop_of_length_le (by simp [hs])]; simp
    rw [this]; exact setRow_heap _ _ _ _ _ _ hg
  · exact hb.grown (grown_setRow _ _ _) (by have := row_lt hg; omega) (fun k hk => by injection hk with hk; omega)
/-- Sectors are copied whole. -/
theorem run_copy_secs {w : World} {gn gs S : Nat} {X Y : List Int} (hX : X.length = 128 * S) (hY : Y.length = 128 * S) (h1 : w.heap[gn]? = some (.cells (cellsOf X) 79 (0, 0))) (h2 : w.heap[gs]? = some (.cells (cellsOf Y) 79 (0, 0))) (ty : TypeId) :
    (Builtin.copy_ #[52, 52] ty #[.slice (some ⟨gn, 0, none⟩) S S, .slice (some ⟨gs, 0, none⟩) S S]).run Tryz.prog w = .ok (goInt S) (w.setRow gn (cellsOf Y)) := by
  obtain ⟨i0, hi, hz0, hz1, hz2⟩ := info_parts Tryz.infoSec
  have hl := run_loadCells_list (P := Tryz.prog) w ⟨gs, 0, none⟩ (Y.map (Value.int .u8)) (fun j v hj => by rw [addr_add0, Nat.zero_add]; exact row_at h2 hj)
  have hst := run_storeCells_at Tryz.prog gn 0 79 (Y.map (Value.int .u8)) 0 (cellsOf X) w h1 (by simp [cellsOf, hX, hY]) (ints_one _ _)
  rw [List.length_map, hY, Nat.mul_comm] at hl
  simp only [Nat.add_zero, Nat.zero_add] at hst
  simp [Builtin.copy_, run_underlying Tryz.underlying52, Builtin.lenOf, Builtin.firstCells, sizeOf, typeInfo, hi, hz1, hl, hst]
  rw [List.drop_of_length_le (by simp [cellsOf, hX, hY]), List.append_nil]; rfl
section
variable {w : World} {gd S : Nat} {d : Ds} {F : Nat → Prop}
theorem Dk.alive (h : Dk w gd S d F) : Dk ((w.setCell ⟨gd, 3, none⟩ (.bool false)).setCell ⟨gd, 4, none⟩ (.int .i64 (-1))) gd S { d with dead := false, fuse := -1 } F := by
  obtain ⟨gn, gs, wv, dn, a1, _⟩ := h.ex
  refine h.turn false (-1) dn (by decide) ((grown_setCell w gd 3 _).trans (grown_setCell _ gd 4 _)) (fun n s wv' f e g t hr => ?_)
  rw [row_turn false (-1) hr]
  rw [hr] at a1
  injection a1 with a1
  simp only [Obj.cells.injEq, Array.mk.injEq, List.cons.injEq] at a1
  rw [a1.1.2.2.2.2.2.1]
set_option maxRecDepth 20000 in
set_option maxHeartbeats 1600000 in
theorem Crash_any (h : Dk w gd S d F) (hws : d.ws.length ≤ 1000000) (A : Option Addr) (nf cf : Nat) (fs : List Int) (hf : fs.length = nf) (hnf : nf ≤ 9223372036854775807) (hF : Ints .i64 w A fs) (hAF : ∀ ad, A = some ad → 0 < nf → ¬ F ad.block) :
    Calls Tryz.prog 15 #[.pointer (some ⟨gd, 0, none⟩), .slice A nf cf] w fun e w' => e = .returned (.tuple #[]) ∧ Chg F w w' ∧ Dk w' gd S (crD d fs) F := by
  have HO := Lib.hid h.own
  have HD1 := Lib.hid h
  obtain ⟨gn, gs, wv, dn, a1, a2, a3, a4, a5, a6, a7, a8, a9, b1, b2, b3, b4⟩ := h.ex
  have HL := Lib.hid (show ∀ y ∈ d.ws, y.2.length ≤ 128 from fun y hy => (h.wok y hy).2.1)
  obtain ⟨Aw, cw, rfl⟩ := own_formW a4
  obtain ⟨n, hn⟩ : ∃ n, d.ws.length = n := ⟨_, rfl⟩
  have HN := Lib.hid hn
  have HA1 := Lib.hid a1
  have HA2 := Lib.hid a2
  have HA4 := Lib.hid a4
  have HAR := Lib.hid (And.intro a6 (And.intro b1 (And.intro b3 (And.intro a7 (And.intro a5 b2)))))
  have c2 : w.cell? ⟨gd, 2, none⟩ = some (.slice Aw n cw) := by rw [cell_of_row _ _ _ _ _ _ a1, ← hn]; rfl
  have hn1 : n ≤ 1000000 := by rw [← hn]; exact hws
  have HST := Lib.hid (And.intro (Chg.refl (fun k => k = gs) w) a3)
  have HLT := Lib.hid (And.intro (row_lt a1) (And.intro (row_lt a3) (row_lt a2)))
  have HFS := Lib.hid (And.intro hf (And.intro hF hAF))
  clear h a1 a2 a3 a4 a5 a6 a7 a8 a9 b1 b2 b3 b4 hn hf hF hAF hws
  go_enter Tryz.func15, Tryz.ntmps15
  go_upto_region 2 with (fail)
  go_loopg [14] n (fun kq v14 w' => ∃ (i : Nat), v14 = .int .i64 (i : Int) ∧ i + kq = n ∧ Hid (Chg (fun k => k = gs) w w') ∧ Hid (w'.heap[gs]? = some (.cells (cellsOf (crW d.safe ((d.ws.zip fs).take i))) 79 (0, 0))))
  case atStart => exact ⟨0, rfl, by omega, Lib.hid HST.out.1, Lib.hid (by rw [List.take_zero]; exact HST.out.2)⟩
  case round =>
    obtain ⟨i, rfl, hi, HCR, HSR⟩ := hrel
    have hdw : wr.heap[gd]? = _ := (HCR.out.block gd HLT.out.1 HAR.out.1).trans HA1.out
    by_cases hlt : i < n
    · have hil : i < d.ws.length := by rw [HN.out]; exact hlt
      obtain ⟨x, hx⟩ : ∃ x, d.ws[i]? = some x := ⟨_, List.getElem?_eq_getElem hil⟩
      have hw4 := ownsRow_chg HA4.out HCR.out (fun k hk e => HAR.out.2.1 (by rw [hk, e]))
      obtain ⟨g, rfl, hrg⟩ := own_ws hw4 HL.out hx
      have HRG := Lib.hid hrg
      obtain ⟨xi, xb⟩ := x
      have hwk := HD1.out.wok (xi, xb) (List.mem_of_getElem? hx)
      have hxi : xi < S := hwk.1
      have hxl : xb.length ≤ 128 := hwk.2.1
      have hfl := crW_ok ((d.ws.zip fs).take i) d.safe HD1.out.len2 HD1.out.byt2 (fun y hy => HD1.out.wok y.1 (List.of_mem_zip (List.mem_of_mem_take hy)).1)
      have HX := Lib.hid hx
      obtain ⟨B, hB⟩ : ∃ B, crW d.safe ((d.ws.zip fs).take i) = B := ⟨_, rfl⟩
      rw [hB] at HSR hfl
      have HBB := Lib.hid hB
      have HFL := Lib.hid hfl.1
      have hi0 : (0 : Int) ≤ (i : Int) := by omega
      have hi1 : (i : Int) < (n : Int) := by omega
      have hxi0 : (0 : Int) ≤ (xi : Int) := by omega
      have hxi1 : (xi : Int) < (S : Int) := by omega
      have u1 : IntKind.i64.wrap ((i : Int) + 1) = ((i + 1 : Nat) : Int) := by rw [IntKind.wrap_i64]; omega
      obtain ⟨i', hi'⟩ : ∃ i', i + 1 = i' := ⟨_, rfl⟩
      rw [hi'] at u1
      have HI := Lib.hid (And.intro hi' hi)
      have HZ := Lib.hid zeroW
      have HDW := Lib.hid hdw
      have HZR := Lib.hid (show (wr.alloc (.cells Tryz.zeroCells81 81)).heap[wr.heap.size]? = some (.cells zW 81 (0, 0)) from heap_alloc_last _ _)
      have HZS := Lib.hid (show zW.size = (wrC xi xb).length from by rw [zW_size hxl, List.size_toArray])
      have HZB := Lib.hid (show Below wr.heap.size wr (wr.alloc (.cells Tryz.zeroCells81 81)) from (Below.refl _ _).alloc (Nat.le_refl _) _)
      have HGSL := Lib.hid (row_lt HSR.out)
      clear hil hx hw4 hrg hwk hB hfl hi' hdw hi
      by_cases hif : i < nf
      · have hif1 : (i : Int) < (nf : Int) := by omega
        obtain ⟨f, hfi⟩ : ∃ f, fs.getD i 0 = f := ⟨_, rfl⟩
        obtain ⟨ad, hAd, hcf⟩ := HFS.out.2.1 i (by rw [HFS.out.1]; exact hif)
        subst hAd
        rw [hfi] at hcf
        have hadF : ¬ ad.block = gs := fun e => HFS.out.2.2 ad rfl (by omega) (by rw [e]; exact HAR.out.2.2.1)
        have hadb : (ad.add i).block = ad.block := by unfold Addr.add; split <;> rfl
        have HCFI := Lib.hid (And.intro hcf (And.intro hadF hadb))
        have hcr := (HCR.out.cell (p := ad.add i) (cell_lt hcf) (by rw [hadb]; exact hadF)).trans hcf
        have HCR2 := Lib.hid hcr
        obtain ⟨m1, hm1⟩ : ∃ m : Int, (if (128 : Int) < f then 128 else f) = m := ⟨_, rfl⟩
        obtain ⟨m, hm⟩ : ∃ m : Nat, (if (0 : Int) < m1 then m1 else 0) = (m : Int) := ⟨(if (0 : Int) < m1 then m1 else 0).toNat, by split <;> omega⟩
        have hm1' : min f 128 = m1 := by rw [← hm1]; omega
        have hm' : max 0 m1 = (m : Int) := by rw [← hm]; omega
        have hfm : fate f = m := by unfold fate; omega
        have hm128 : m ≤ 128 := by rw [← hfm]; exact fate_le f
        have hm2 : (m : Int) ≤ 128 := by omega
        have hm3 : (0 : Int) ≤ (m : Int) := by omega
        have HFM := Lib.hid (And.intro hfi hfm)
        clear hfi hfm hcf hadF hadb
        go_wp2_with (first | (with_reducible refine Go.wpList_load_mid rfl 81 _ rfl g (i * 129) rfl (wrC xi xb) _ HRG.out Tryz.underlying81 rfl (sizeW hxl) ?_) | (with_reducible refine wpList_store_new rfl 81 _ _ rfl wr.heap.size (wrC xi xb) rfl rfl 81 zW HZR.out (sizeW hxl) HZS.out (wrC_one xi xb) wr.heap.size wr HZB.out (Nat.le_refl _) ?_; intro w5 hr5 hb5; have hc5 := ((hb5.out.cell (p := ad.add i) (cell_lt HCR2.out)).trans HCR2.out)) | fail)
        have HB5 := Lib.hid (show Chg (fun k => k = gs) w w5 from HCR.out.below0 hb5.out)
        have hs5 := (hb5.out.block gs HGSL.out).trans HSR.out
        have hd5 := (hb5.out.block gd (row_lt HDW.out)).trans HDW.out
        have HC1' := Lib.hid (show w5.cell? ⟨gd, 1, none⟩ = some (.slice (some ⟨gs, 0, none⟩) S S) from by rw [cell_of_row _ _ _ _ _ _ hd5]; rfl)
        have HC5 := Lib.hid (show w5.cell? ⟨wr.heap.size, 0, none⟩ = some (.int .i64 (xi : Int)) from by rw [cell_of_row _ _ _ _ _ _ hr5.out]; rfl)
        have HLX := Lib.hid (show gd < w5.heap.size ∧ ¬ gd = gs ∧ wr.heap.size < w5.heap.size ∧ ¬ wr.heap.size = gs from ⟨row_lt hd5, HAR.out.1, row_lt hr5.out, fun e => by have := HGSL.out; omega⟩)
        have hlen : (((xb ++ List.replicate (128 - xb.length) 0).map (Value.int .u8)).take m).length = m := by simp; omega
        have hcp := fun ty => run_copy_row (P := Tryz.prog) w5.drew 33 33 ty 5 gs (xi * 128) m 128 ⟨wr.heap.size, 1, none⟩ m 128 (cellsOf B) 79 (((xb ++ List.replicate (128 - xb.length) 0).map (Value.int .u8)).take m) Tryz.underlying33 (by kernel_rfl) hs5 (by rw [hlen]; exact (Nat.min_self m).symm)
          (fun j v hj => by
            rw [addr_add0, Nat.add_comm]
            refine row_at hr5.out ?_
            rw [wrC, List.getElem?_cons_succ]
            rw [List.getElem?_take] at hj
            split at hj
            · exact hj
            · cases hj) (by rw [hlen, cellsOf_size, HFL.out]; omega) (fun v hv => ints_one .u8 _ v (List.mem_of_mem_take hv))
        rw [hlen, ← torn_cells] at hcp
        have HCP := Lib.hid hcp
        have hst := setRow_heap w5.drew gs _ (cellsOf (torn B xi xb m)) _ _ hs5
        have HE := Lib.hid (And.intro (HB5.out.drewN 1 |>.trans2 (Chg.of (grown_setRow w5.drew gs (cellsOf (torn B xi xb m)))) (fun x _ e => by injection e)) hst)
        clear hs5 hd5 hlen hcp hst
        --[6
        refine wp_region_held_drew (S := fun w' => Chg (fun k => k = gs) w5 w') (by kernel_rfl) (((Chg.refl _ _).drewN 1)) (fun hHeld => ?_)
        refine held_take 0 (some 29) (v := ?_) rfl rfl (by kernel_rfl) (by kernel_rfl) (by kernel_rfl) (fun _ _ _ h => h) (Or.inl ⟨by rfl, ?_⟩) hHeld ?_
        rotate_left
        · (intro w' hSw; clear hSw; go_simp; try with_reducible rfl)
        try simp only [Act.put, List.setIfInBounds_toArray, List.set_cons_zero, List.set_cons_succ]
        refine held_take 1 (some 30) (v := ?_) rfl rfl (by kernel_rfl) (by kernel_rfl) (by kernel_rfl) (fun _ _ _ h => h) (Or.inl ⟨by rfl, ?_⟩) hHeld ?_
        rotate_left
        · (intro w' hSw; clear hSw; go_simp; try with_reducible rfl)
        try simp only [Act.put, List.setIfInBounds_toArray, List.set_cons_zero, List.set_cons_succ]
        refine held_take 2 (some 31) (v := ?_) rfl rfl (by kernel_rfl) (by kernel_rfl) (by kernel_rfl) (fun _ _ _ h => h) (Or.inl ⟨by rfl, ?_⟩) hHeld ?_
        rotate_left
        · (intro w' hSw; clear hSw; go_simp; try with_reducible rfl)
        try simp only [Act.put, List.setIfInBounds_toArray, List.set_cons_zero, List.set_cons_succ]
        refine held_take 3 (some 32) (v := ?_) rfl rfl (by kernel_rfl) (by kernel_rfl) (by kernel_rfl) (fun _ _ _ h => h) (Or.inl ⟨by rfl, ?_⟩) hHeld ?_
        rotate_left
        · (intro w' hSw; have pf := (hSw.cell (p := ⟨gd, 1, none⟩) HLX.out.1 HLX.out.2.1).trans HC1'.out; clear hSw; go_simp; try with_reducible rfl)
        try simp only [Act.put, List.setIfInBounds_toArray, List.set_cons_zero, List.set_cons_succ]
        refine held_take 4 (some 33) (v := ?_) rfl rfl (by kernel_rfl) (by kernel_rfl) (by kernel_rfl) (fun _ _ _ h => h) (Or.inl ⟨by rfl, ?_⟩) hHeld ?_
        rotate_left
        · (intro w' hSw; clear hSw; go_simp; try with_reducible rfl)
        try simp only [Act.put, List.setIfInBounds_toArray, List.set_cons_zero, List.set_cons_succ]
        refine held_take 5 (some 34) (v := ?_) rfl rfl (by kernel_rfl) (by kernel_rfl) (by kernel_rfl) (fun _ _ _ h => h) (Or.inl ⟨by rfl, ?_⟩) hHeld ?_
        rotate_left
        · (intro w' hSw; have pf := (hSw.cell (p := ⟨wr.heap.size, 0, none⟩) HLX.out.2.2.1 HLX.out.2.2.2).trans HC5.out; clear hSw; go_simp; try with_reducible rfl)
        try simp only [Act.put, List.setIfInBounds_toArray, List.set_cons_zero, List.set_cons_succ]
        refine held_take 6 (some 35) (v := ?_) rfl rfl (by kernel_rfl) (by kernel_rfl) (by kernel_rfl) (fun _ _ _ h => h) (Or.inl ⟨by rfl, ?_⟩) hHeld ?_
        rotate_left
        · (intro w' hSw; clear hSw; go_simp; try with_reducible rfl)
        try simp only [Act.put, List.setIfInBounds_toArray, List.set_cons_zero, List.set_cons_succ]
        refine held_take 7 (some 36) (v := ?_) rfl rfl (by kernel_rfl) (by kernel_rfl) (by kernel_rfl) (fun _ _ _ h => h) (Or.inl ⟨by rfl, ?_⟩) hHeld ?_
        rotate_left
        · (intro w' hSw; clear hSw; go_simp; try with_reducible rfl)
        try simp only [Act.put, List.setIfInBounds_toArray, List.set_cons_zero, List.set_cons_succ]
        refine held_take 8 (some 37) (v := ?_) rfl rfl (by kernel_rfl) (by kernel_rfl) (by kernel_rfl) (fun _ _ _ h => h) (Or.inl ⟨by rfl, ?_⟩) hHeld ?_
        rotate_left
        · (intro w' hSw; clear hSw; go_simp; try with_reducible rfl)
        try simp only [Act.put, List.setIfInBounds_toArray, List.set_cons_zero, List.set_cons_succ]
        refine held_take 9 (some 38) (v := ?_) rfl rfl (by kernel_rfl) (by kernel_rfl) (by kernel_rfl) (fun _ _ _ h => h) (Or.inl ⟨by rfl, ?_⟩) hHeld ?_
        rotate_left
        · (intro w' hSw; clear hSw; go_simp; try with_reducible rfl)
        try simp only [Act.put, List.setIfInBounds_toArray, List.set_cons_zero, List.set_cons_succ]
        refine held_take 10 (some 39) (v := ?_) rfl rfl (by kernel_rfl) (by kernel_rfl) (by kernel_rfl) (fun _ _ _ h => h) (Or.inl ⟨by rfl, ?_⟩) hHeld ?_
        rotate_left
        · (intro w' hSw; clear hSw; go_simp; try with_reducible rfl)
        try simp only [Act.put, List.setIfInBounds_toArray, List.set_cons_zero, List.set_cons_succ]
        refine held_take 11 (some 40) (v := ?_) rfl rfl (by kernel_rfl) (by kernel_rfl) (by kernel_rfl) (fun _ _ _ h => h) (Or.inl ⟨by rfl, ?_⟩) hHeld ?_
        rotate_left
        · (intro w' hSw; clear hSw; go_simp; try with_reducible rfl)
        try simp only [Act.put, List.setIfInBounds_toArray, List.set_cons_zero, List.set_cons_succ]
        refine wpAnyH_ready (rs := [12]) (by kernel_rfl) (by simp) ?_
        refine AllReadyH.cons rfl (fun K hKK => ?_) AllReadyH.nil
        refine step_val rfl (exec_copy _ _ (.tmp 37) (.tmp 40) rfl (.slice (some ⟨gs, xi * 128, none⟩) m 128) (.slice (some ⟨wr.heap.size, 1, none⟩) m 128) (by go_simp) (by go_simp) (HCP.out _)) ?_
        refine hKK.out _ _ (((Chg.refl _ _).drewN 1).trans2 (Chg.of (grown_setRow _ _ _)) (fun x _ e => by injection e)) (fun hHeld => ?_)
        clear hKK K
        try simp only [Act.put, List.setIfInBounds_toArray, List.set_cons_zero, List.set_cons_succ]
        refine wpAnyH_done (by kernel_rfl) ?_ _
        --]6
        generalize w5.drew.setRow gs (cellsOf (torn B xi xb m)) = w7 at HE ⊢
        go_wp2_with fail
        go_roundg (n - i')
        case measure => have := HI.out; omega
        case rel =>
          refine ⟨i', rfl, by have := HI.out; omega, Lib.hid HE.out.1, Lib.hid ?_⟩
          have hzi : (d.ws.zip fs)[i]? = some ((xi, xb), f) := by
            rw [List.getElem?_zip_eq_some]
            refine ⟨HX.out, ?_⟩
            rw [← HFM.out.1, List.getD_eq_getElem?_getD, List.getElem?_eq_getElem (by rw [HFS.out.1]; exact hif)]; rfl
          rw [← HI.out.1, List.take_add_one, hzi]
          show w7.heap[gs]? = some (.cells (cellsOf (crW d.safe ((d.ws.zip fs).take i ++ [((xi, xb), f)]))) _ _)
          rw [crW_snoc, HBB.out, HFM.out.2]
          exact HE.out.2
      · have hif1 : ¬ (i : Int) < (nf : Int) := by omega
        go_wp2_with (first | (with_reducible refine Go.wpList_load_mid rfl 81 _ rfl g (i * 129) rfl (wrC xi xb) _ HRG.out Tryz.underlying81 rfl (sizeW hxl) ?_) | (with_reducible refine wpList_store_new rfl 81 _ _ rfl wr.heap.size (wrC xi xb) rfl rfl 81 zW HZR.out (sizeW hxl) HZS.out (wrC_one xi xb) wr.heap.size wr HZB.out (Nat.le_refl _) ?_; intro w5 hr5 hb5) | fail)
        go_roundg (n - i')
        case measure => have := HI.out; omega
        case rel =>
          refine ⟨i', rfl, by have := HI.out; omega, Lib.hid (HCR.out.below0 hb5.out), Lib.hid ?_⟩
          have hle : (d.ws.zip fs).length ≤ i := by rw [List.length_zip, HFS.out.1]; omega
          rw [List.take_of_length_le (by have := HI.out; omega), ← List.take_of_length_le hle, HBB.out]
          exact (hb5.out.block gs HGSL.out).trans HSR.out
    · obtain rfl : gk = 0 := by omega
      obtain rfl : i = n := by omega
      have hall : (d.ws.zip fs).take i = d.ws.zip fs := List.take_of_length_le (by rw [List.length_zip, HN.out]; omega)
      have hsr := HSR.out
      rw [hall] at hsr
      have hok := crW_ok (d.ws.zip fs) d.safe HD1.out.len2 HD1.out.byt2 (fun y hy => HD1.out.wok y.1 (List.of_mem_zip hy).1)
      have hnr := (HCR.out.block gn HLT.out.2.2 HAR.out.2.2.2.1).trans HA2.out
      obtain ⟨Y, hY⟩ : ∃ Y, crW d.safe (d.ws.zip fs) = Y := ⟨_, rfl⟩
      rw [hY] at hsr hok
      have hsd := HD1.out.safed HA1.out hok.1 hok.2 HCR.out hsr
      have HCP := Lib.hid (fun ty => run_copy_secs (w := wr.drew) HD1.out.len hok.1 hnr hsr ty)
      have hst := setRow_heap wr.drew gn _ (cellsOf Y) _ _ hnr
      have hcn : Chg (fun k => k = gn) wr (wr.drew.setRow gn (cellsOf Y)) := ((Chg.refl _ _).drewN 1).trans2 (Chg.of (grown_setRow _ _ _)) (fun x _ e => by injection e)
      have hnd := hsd.nowed (hdw) hok.1 hok.2 hcn hst
      have hd7 := (hcn.block gd (row_lt hdw) HAR.out.2.2.2.2.1).trans hdw
      have HE := Lib.hid (And.intro (show Chg (fun k => k = gs ∨ k = gn) w (wr.drew.setRow gn (cellsOf Y)) from (HCR.out.mono (fun x h => .inl h)).trans (hcn.mono (fun x h => .inr h))) (And.intro hnd hd7))
      have HC0' := Lib.hid (show wr.cell? ⟨gd, 0, none⟩ = some (.slice (some ⟨gn, 0, none⟩) S S) from by rw [cell_of_row _ _ _ _ _ _ hdw]; rfl)
      have HC1' := Lib.hid (show wr.cell? ⟨gd, 1, none⟩ = some (.slice (some ⟨gs, 0, none⟩) S S) from by rw [cell_of_row _ _ _ _ _ _ hdw]; rfl)
      have HLX := Lib.hid (show gd < wr.heap.size ∧ ¬ gd = gn from ⟨row_lt hdw, HAR.out.2.2.2.2.1⟩)
      have HCRD := Lib.hid (show crD d fs = ⟨Y, Y, [], false, -1⟩ from by rw [crD, hY])
      clear hall hsr hok hnr hsd hst hcn hnd hd7 hdw hlt hY
      go_upto_region 8 with (fail)
      --[8
      refine wp_region_held_drew (S := fun w' => Chg (fun k => k = gn) wr w') (by kernel_rfl) (((Chg.refl _ _).drewN 1)) (fun hHeld => ?_)
      refine held_take 0 (some 43) (v := ?_) rfl rfl (by kernel_rfl) (by kernel_rfl) (by kernel_rfl) (fun _ _ _ h => h) (Or.inl ⟨by rfl, ?_⟩) hHeld ?_
      rotate_left
      · (intro w' hSw; clear hSw; go_simp; try with_reducible rfl)
      try simp only [Act.put, List.setIfInBounds_toArray, List.set_cons_zero, List.set_cons_succ]
      refine held_take 1 (some 44) (v := ?_) rfl rfl (by kernel_rfl) (by kernel_rfl) (by kernel_rfl) (fun _ _ _ h => h) (Or.inl ⟨by rfl, ?_⟩) hHeld ?_
      rotate_left
      · (intro w' hSw; clear hSw; go_simp; try with_reducible rfl)
      try simp only [Act.put, List.setIfInBounds_toArray, List.set_cons_zero, List.set_cons_succ]
      refine held_take 2 (some 45) (v := ?_) rfl rfl (by kernel_rfl) (by kernel_rfl) (by kernel_rfl) (fun _ _ _ h => h) (Or.inl ⟨by rfl, ?_⟩) hHeld ?_
      rotate_left
      · (intro w' hSw; clear hSw; go_simp; try with_reducible rfl)
      try simp only [Act.put, List.setIfInBounds_toArray, List.set_cons_zero, List.set_cons_succ]
      refine held_take 3 (some 46) (v := ?_) rfl rfl (by kernel_rfl) (by kernel_rfl) (by kernel_rfl) (fun _ _ _ h => h) (Or.inl ⟨by rfl, ?_⟩) hHeld ?_
      rotate_left
      · (intro w' hSw; have pf := (hSw.cell (p := ⟨gd, 0, none⟩) HLX.out.1 HLX.out.2).trans HC0'.out; clear hSw; go_simp; try with_reducible rfl)
      try simp only [Act.put, List.setIfInBounds_toArray, List.set_cons_zero, List.set_cons_succ]
      refine held_take 4 (some 47) (v := ?_) rfl rfl (by kernel_rfl) (by kernel_rfl) (by kernel_rfl) (fun _ _ _ h => h) (Or.inl ⟨by rfl, ?_⟩) hHeld ?_
      rotate_left
      · (intro w' hSw; clear hSw; go_simp; try with_reducible rfl)
      try simp only [Act.put, List.setIfInBounds_toArray, List.set_cons_zero, List.set_cons_succ]
      refine held_take 5 (some 48) (v := ?_) rfl rfl (by kernel_rfl) (by kernel_rfl) (by kernel_rfl) (fun _ _ _ h => h) (Or.inl ⟨by rfl, ?_⟩) hHeld ?_
      rotate_left
      · (intro w' hSw; clear hSw; go_simp; try with_reducible rfl)
      try simp only [Act.put, List.setIfInBounds_toArray, List.set_cons_zero, List.set_cons_succ]
      refine held_take 6 (some 49) (v := ?_) rfl rfl (by kernel_rfl) (by kernel_rfl) (by kernel_rfl) (fun _ _ _ h => h) (Or.inl ⟨by rfl, ?_⟩) hHeld ?_
      rotate_left
      · (intro w' hSw; clear hSw; go_simp; try with_reducible rfl)
      try simp only [Act.put, List.setIfInBounds_toArray, List.set_cons_zero, List.set_cons_succ]
      refine held_take 7 (some 50) (v := ?_) rfl rfl (by kernel_rfl) (by kernel_rfl) (by kernel_rfl) (fun _ _ _ h => h) (Or.inl ⟨by rfl, ?_⟩) hHeld ?_
      rotate_left
      · (intro w' hSw; have pf := (hSw.cell (p := ⟨gd, 1, none⟩) HLX.out.1 HLX.out.2).trans HC1'.out; clear hSw; go_simp; try with_reducible rfl)
      try simp only [Act.put, List.setIfInBounds_toArray, List.set_cons_zero, List.set_cons_succ]
      refine wpAnyH_ready (rs := [8]) (by kernel_rfl) (by simp) ?_
      refine AllReadyH.cons rfl (fun K hKK => ?_) AllReadyH.nil
      refine step_val rfl (exec_copy _ _ (.tmp 46) (.tmp 50) rfl (.slice (some ⟨gn, 0, none⟩) S S) (.slice (some ⟨gs, 0, none⟩) S S) (by go_simp) (by go_simp) (HCP.out _)) ?_
      refine hKK.out _ _ (((Chg.refl _ _).drewN 1).trans2 (Chg.of (grown_setRow _ _ _)) (fun x _ e => by injection e)) (fun hHeld => ?_)
      clear hKK K
      try simp only [Act.put, List.setIfInBounds_toArray, List.set_cons_zero, List.set_cons_succ]
      refine wpAnyH_done (by kernel_rfl) ?_ _
      --]8
      generalize wr.drew.setRow gn (cellsOf Y) = w7 at HE ⊢
      have hd7 := HE.out.2.2
      have hfin := HE.out.2.1.cleared.alive
      have HF := Lib.hid (And.intro hfin (((HE.out.1.mono (Q := F) (fun k hk => hk.elim (fun e => by rw [e]; exact HAR.out.2.2.1) (fun e => by rw [e]; exact HAR.out.2.2.2.2.2))).trans2 (Chg.of (grown_setCell w7 gd 2 (.slice none 0 0))) (fun k _ e => by injection e with e; rw [e]; exact HO.out)).trans2 (Chg.of ((grown_setCell _ gd 3 (.bool false)).trans (grown_setCell _ gd 4 (.int .i64 (-1))))) (fun k _ e => by injection e with e; rw [e]; exact HO.out)))
      have c20 : w7.cell? ⟨gd, 2, none⟩ = some (.slice Aw d.ws.length cw) := by rw [cell_of_row _ _ _ _ _ _ hd7]; rfl
      have c30 : w7.cell? ⟨gd, 3, none⟩ = some (.bool d.dead) := by rw [cell_of_row _ _ _ _ _ _ hd7]; rfl
      have c40 : w7.cell? ⟨gd, 4, none⟩ = some (.int .i64 d.fuse) := by rw [cell_of_row _ _ _ _ _ _ hd7]; rfl
      have f2 := free_row hd7 2
      have f3 := free_row hd7 3
      have f4 := free_row hd7 4
      clear hd7 hfin
      go_wp2_with fail
      go_end0
      exact ⟨rfl, HF.out.2, by rw [HCRD.out]; exact HF.out.1⟩
end
end Go.Proofs.YtcklcffepedklaaGreatDoor

namespace Go.Proofs.YtcklcffepedklaaGreatDoor
open Go.RowKit

/-- A slot. -/
structure Slt where
  gen : Nat
  area : Nat
  size : Nat
  sum : Nat
structure Slt.Ok (s : Slt) : Prop where
  g : s.gen < 18446744073709551616
  a : s.area < 256
  z : s.size < 4294967296
  m : s.sum < 4294967296
def slC (s : Slt) : List Value := [.int .u64 s.gen, .int .u8 s.area, .int .u32 s.size, .int .u32 s.sum]
/-- A slot's head. -/
def headS (s : Slt) : List Int := beL s.gen 8 ++ beL s.area 1 ++ beL s.size 4 ++ beL s.sum 4
theorem headS_length (s : Slt) : (headS s).length = 17 := by simp [headS, beL_length]
/-- A slot's sector. -/
def layS (s : Slt) : List Int := headS s ++ List.replicate 103 0 ++ beL s.gen 8
theorem layS_length (s : Slt) : (layS s).length = 128 := by simp [layS, headS_length, beL_length]
theorem layS_bytes (s : Slt) : Bytes (layS s) := (((((beL_bytes _ _).append (beL_bytes _ _)).append (beL_bytes _ _)).append (beL_bytes _ _)).append (rep_bytes _)).append (beL_bytes _ _)
def zSec : List Value := List.replicate 128 (Value.int .u8 0)
theorem Tryz.infoSS : (Tryz.prog.info? 115).map (fun i => (i.zero, i.size, i.bytes)) = some (some (.agg (List.replicate 128 (Value.int .u8 0)).toArray), 128, 128) := by kernel_rfl
theorem zeroSS (w : World) : (zeroValue 115).run Tryz.prog w = .ok (.agg zSec.toArray) w := by
  obtain ⟨i0, hi, hz0, _, _⟩ := info_parts Tryz.infoSS
  exact zero_run hi hz0 w
theorem sizeSS {l : List Value} (h : l.length = 128) : (Tryz.prog.info? 115).map (·.size) = some l.length := by rw [h]; kernel_rfl
theorem wpList_new {P : Program} {ops : Array Oper} {rest : List Oper} {o1 : Oper} {a : Act} {w : World} {Q : Exit → Act → World → Prop} (g1 : o1.guard = none) (T : TypeId) (ho1 : o1.op = .alloc T) (Z : Array Value) (hz : ∀ W, (zeroValue T).run P W = .ok (.agg Z) W) (B : Nat) (w0 : World) (hb : Below B w0 w)
    (hB : B ≤ w.heap.size) (h : ∀ g w1, Hid (g = w.heap.size) → Hid (w1.heap[g]? = some (.cells Z T (0, 0))) → Hid (Below B w0 w1) → Hid (Below w.heap.size w w1) → wpList P ops Q rest (a.put o1.dst (.pointer (some ⟨g, 0, none⟩))) w1) : wpList P ops Q (o1 :: rest) a w := by
  refine wpList_val g1 (exec_alloc T ho1 (hz w)) ?_
  exact h _ _ rfl (heap_alloc_last _ _) (hb.alloc hB _) ((Below.refl _ _).alloc (Nat.le_refl _) _)
set_option maxRecDepth 20000 in
set_option maxHeartbeats 1600000 in
theorem lay_any (s : Slt) (hs : s.Ok) (w : World) : Calls Tryz.prog 62 #[.agg (slC s).toArray] w fun e w' => e = .returned (.agg ((layS s).map (Value.int .u8)).toArray) ∧ Below w.heap.size w w' := by
  obtain ⟨gen, area, size, sum⟩ := s
  obtain ⟨hg, ha, hz, hm⟩ := hs
  simp only at hg ha hz hm
  have HP1 := Lib.hid (fun W => Put_any none 0 0 [] gen 8 W rfl (by omega) (Ints.nil _ _ _) (by omega) (by decide) (by decide))
  have HZ := Lib.hid zeroSS
  have HG := Lib.hid (And.intro hg (And.intro ha (And.intro hz hm)))
  have u1 : IntKind.u64.wrap (area : Int) = (area : Int) := by rw [IntKind.wrap_u64]; omega
  have u2 : IntKind.u64.wrap (size : Int) = (size : Int) := by rw [IntKind.wrap_u64]; omega
  have u3 : IntKind.u64.wrap (sum : Int) = (sum : Int) := by rw [IntKind.wrap_u64]; omega
  clear hg ha hz hm
  unfold slC
  obtain ⟨g1, hg1⟩ : ∃ g, w.heap.size = g := ⟨_, rfl⟩
  go_enter Tryz.func62, Tryz.ntmps62
  go_upto_region 2 with (fail)
  have hb2 : Below g1 w (((w.alloc (.cells #[.int .u64 gen, .int .u8 area, .int .u32 size, .int .u32 sum] 71)).alloc (.cells Tryz.zeroCells115 115)).alloc (.cells Tryz.zeroCells115 115)) := by
    rw [← hg1]; exact (((Below.refl _ _).alloc (Nat.le_refl _) _).alloc (by simp) _).alloc (by simp; omega) _
  have hr1 : (((w.alloc (.cells #[.int .u64 gen, .int .u8 area, .int .u32 size, .int .u32 sum] 71)).alloc (.cells Tryz.zeroCells115 115)).alloc (.cells Tryz.zeroCells115 115)).heap[g1]? = some (.cells #[.int .u64 gen, .int .u8 area, .int .u32 size, .int .u32 sum] 71 (0, 0)) := by
    rw [← hg1, Below.heap_alloc _ _ _ (by simp; omega), Below.heap_alloc _ _ _ (by simp)]; exact heap_alloc_last _ _
  have hr2 : (((w.alloc (.cells #[.int .u64 gen, .int .u8 area, .int .u32 size, .int .u32 sum] 71)).alloc (.cells Tryz.zeroCells115 115)).alloc (.cells Tryz.zeroCells115 115)).heap[g1 + 1]? = some (.cells zSec.toArray 115 (0, 0)) := by
    rw [← hg1, Below.heap_alloc _ _ _ (by simp)]
    have := heap_alloc_last (w.alloc (.cells #[.int .u64 gen, .int .u8 area, .int .u32 size, .int .u32 sum] 71)) (.cells Tryz.zeroCells115 115)
    rw [World.size_alloc] at this; exact this
  have hr3 : (((w.alloc (.cells #[.int .u64 gen, .int .u8 area, .int .u32 size, .int .u32 sum] 71)).alloc (.cells Tryz.zeroCells115 115)).alloc (.cells Tryz.zeroCells115 115)).heap[g1 + 1 + 1]? = some (.cells zSec.toArray 115 (0, 0)) := by
    rw [← hg1]
    have := heap_alloc_last ((w.alloc (.cells #[.int .u64 gen, .int .u8 area, .int .u32 size, .int .u32 sum] 71)).alloc (.cells Tryz.zeroCells115 115)) (.cells Tryz.zeroCells115 115)
    rw [World.size_alloc, World.size_alloc] at this; exact this
  generalize (((w.alloc (.cells #[.int .u64 gen, .int .u8 area, .int .u32 size, .int .u32 sum] 71)).alloc (.cells Tryz.zeroCells115 115)).alloc (.cells Tryz.zeroCells115 115)) = w2 at hb2 hr1 hr2 hr3 ⊢
  have HB2 := Lib.hid hb2
  have HR2 := Lib.hid hr2
  have HR3 := Lib.hid hr3
  have HC0 := Lib.hid (show w2.cell? ⟨g1, 0, none⟩ = some (.int .u64 (gen : Int)) from cell_row' hr1)
  have HC1 := Lib.hid (show w2.cell? ⟨g1, 1, none⟩ = some (.int .u8 (area : Int)) from cell_row' hr1)
  have HC2 := Lib.hid (show w2.cell? ⟨g1, 2, none⟩ = some (.int .u32 (size : Int)) from cell_row' hr1)
  have HC3 := Lib.hid (show w2.cell? ⟨g1, 3, none⟩ = some (.int .u32 (sum : Int)) from cell_row' hr1)
  have HLT := Lib.hid (show (⟨g1, 0, none⟩ : Addr).block < w2.heap.size from row_lt hr1)
  have HG1 := Lib.hid hg1
  clear hb2 hr1 hr2 hr3 hg1
  --[2
  refine wp_region_held_drew (S := fun w' => Below w2.heap.size w2 w') (by kernel_rfl) (((Below.refl _ _).drew)) (fun hHeld => ?_)
  refine held_take 0 (some 5) (v := ?_) rfl rfl (by kernel_rfl) (by kernel_rfl) (by kernel_rfl) (fun _ _ _ h => h) (Or.inl ⟨by rfl, ?_⟩) hHeld ?_
  rotate_left
  · (intro w' hSw; clear hSw; go_simp; try with_reducible rfl)
  try simp only [Act.put, List.setIfInBounds_toArray, List.set_cons_zero, List.set_cons_succ]
  refine held_take 1 (some 6) (v := ?_) rfl rfl (by kernel_rfl) (by kernel_rfl) (by kernel_rfl) (fun _ _ _ h => h) (Or.inl ⟨by rfl, ?_⟩) hHeld ?_
  rotate_left
  · (intro w' hSw; have pf := (hSw.cell (p := ⟨g1, 0, none⟩) HLT.out).trans HC0.out; clear hSw; go_simp; try with_reducible rfl)
  try simp only [Act.put, List.setIfInBounds_toArray, List.set_cons_zero, List.set_cons_succ]
  refine held_take 3 (some 8) (v := ?_) rfl rfl (by kernel_rfl) (by kernel_rfl) (by kernel_rfl) (fun _ _ _ h => h) (Or.inl ⟨by rfl, ?_⟩) hHeld ?_
  rotate_left
  · (intro w' hSw; clear hSw; go_simp; try with_reducible rfl)
  try simp only [Act.put, List.setIfInBounds_toArray, List.set_cons_zero, List.set_cons_succ]
  refine held_take 4 (some 9) (v := ?_) rfl rfl (by kernel_rfl) (by kernel_rfl) (by kernel_rfl) (fun _ _ _ h => h) (Or.inl ⟨by rfl, ?_⟩) hHeld ?_
  rotate_left
  · (intro w' hSw; have pf := (hSw.cell (p := ⟨g1, 1, none⟩) HLT.out).trans HC1.out; clear hSw; go_simp; try with_reducible rfl)
  try simp only [Act.put, List.setIfInBounds_toArray, List.set_cons_zero, List.set_cons_succ]
  refine held_take 5 (some 10) (v := ?_) rfl rfl (by kernel_rfl) (by kernel_rfl) (by kernel_rfl) (fun _ _ _ h => h) (Or.inl ⟨by rfl, ?_⟩) hHeld ?_
  rotate_left
  · (intro w' hSw; clear hSw; go_simp; try with_reducible rfl)
  try simp only [Act.put, List.setIfInBounds_toArray, List.set_cons_zero, List.set_cons_succ]
  refine held_take 7 (some 12) (v := ?_) rfl rfl (by kernel_rfl) (by kernel_rfl) (by kernel_rfl) (fun _ _ _ h => h) (Or.inl ⟨by rfl, ?_⟩) hHeld ?_
  rotate_left
  · (intro w' hSw; clear hSw; go_simp; try with_reducible rfl)
  try simp only [Act.put, List.setIfInBounds_toArray, List.set_cons_zero, List.set_cons_succ]
  refine held_take 8 (some 13) (v := ?_) rfl rfl (by kernel_rfl) (by kernel_rfl) (by kernel_rfl) (fun _ _ _ h => h) (Or.inl ⟨by rfl, ?_⟩) hHeld ?_
  rotate_left
  · (intro w' hSw; have pf := (hSw.cell (p := ⟨g1, 2, none⟩) HLT.out).trans HC2.out; clear hSw; go_simp; try with_reducible rfl)
  try simp only [Act.put, List.setIfInBounds_toArray, List.set_cons_zero, List.set_cons_succ]
  refine held_take 9 (some 14) (v := ?_) rfl rfl (by kernel_rfl) (by kernel_rfl) (by kernel_rfl) (fun _ _ _ h => h) (Or.inl ⟨by rfl, ?_⟩) hHeld ?_
  rotate_left
  · (intro w' hSw; clear hSw; go_simp; try with_reducible rfl)
  try simp only [Act.put, List.setIfInBounds_toArray, List.set_cons_zero, List.set_cons_succ]
  refine held_take 11 (some 16) (v := ?_) rfl rfl (by kernel_rfl) (by kernel_rfl) (by kernel_rfl) (fun _ _ _ h => h) (Or.inl ⟨by rfl, ?_⟩) hHeld ?_
  rotate_left
  · (intro w' hSw; clear hSw; go_simp; try with_reducible rfl)
  try simp only [Act.put, List.setIfInBounds_toArray, List.set_cons_zero, List.set_cons_succ]
  refine held_take 12 (some 17) (v := ?_) rfl rfl (by kernel_rfl) (by kernel_rfl) (by kernel_rfl) (fun _ _ _ h => h) (Or.inl ⟨by rfl, ?_⟩) hHeld ?_
  rotate_left
  · (intro w' hSw; have pf := (hSw.cell (p := ⟨g1, 3, none⟩) HLT.out).trans HC3.out; clear hSw; go_simp; try with_reducible rfl)
  try simp only [Act.put, List.setIfInBounds_toArray, List.set_cons_zero, List.set_cons_succ]
  refine held_take 13 (some 18) (v := ?_) rfl rfl (by kernel_rfl) (by kernel_rfl) (by kernel_rfl) (fun _ _ _ h => h) (Or.inl ⟨by rfl, ?_⟩) hHeld ?_
  rotate_left
  · (intro w' hSw; clear hSw; go_simp; try with_reducible rfl)
  try simp only [Act.put, List.setIfInBounds_toArray, List.set_cons_zero, List.set_cons_succ]
  refine wpAnyH_ready (rs := [2]) (by kernel_rfl) (by simp) ?_
  refine AllReadyH.cons rfl (fun K hKK => ?_) AllReadyH.nil
  go_simp
  go_at_call 21
  refine (HP1.out _).mono ?_
  rintro e wa ⟨vwa, rfl, howa, hbwa⟩
  rw [List.nil_append] at howa
  obtain ⟨Awa, cwa, rfl, hcwa, hIwa, hAwa⟩ := howa.ints
  have hlwa : (beL gen 8).length = 8 := by simp [beL_length]
  rw [hlwa] at hcwa ⊢
  have hHwa := (hHeld).trans (hbwa.mono (hHeld).size)
  have HP2 := Lib.hid (Put_any Awa 8 cwa (beL gen 8) area 1 wa hlwa (by omega) hIwa (by have := HG.out; omega) (by decide) (by decide))
  clear howa hIwa hAwa hcwa hlwa hbwa
  refine hKK.out _ _ hHwa (fun hHeld => ?_)
  clear hKK K
  try simp only [Act.put, List.setIfInBounds_toArray, List.set_cons_zero, List.set_cons_succ]
  refine wpAnyH_ready (rs := [6]) (by kernel_rfl) (by simp) ?_
  refine AllReadyH.cons rfl (fun K hKK => ?_) AllReadyH.nil
  go_simp
  go_at_call 21
  refine (HP2.out).mono ?_
  rintro e wb ⟨vwb, rfl, howb, hbwb⟩
  obtain ⟨Awb, cwb, rfl, hcwb, hIwb, hAwb⟩ := howb.ints
  have hlwb : (beL gen 8 ++ beL area 1).length = 9 := by simp [beL_length]
  rw [hlwb] at hcwb ⊢
  have hHwb := (hHeld).trans (hbwb.mono (hHeld).size)
  have HP3 := Lib.hid (Put_any Awb 9 cwb (beL gen 8 ++ beL area 1) size 4 wb hlwb (by omega) hIwb (by have := HG.out; omega) (by decide) (by decide))
  clear howb hIwb hAwb hcwb hlwb hbwb
  refine hKK.out _ _ hHwb (fun hHeld => ?_)
  clear hKK K
  try simp only [Act.put, List.setIfInBounds_toArray, List.set_cons_zero, List.set_cons_succ]
  refine wpAnyH_ready (rs := [10]) (by kernel_rfl) (by simp) ?_
  refine AllReadyH.cons rfl (fun K hKK => ?_) AllReadyH.nil
  go_simp
  go_at_call 21
  refine (HP3.out).mono ?_
  rintro e wc ⟨vwc, rfl, howc, hbwc⟩
  obtain ⟨Awc, cwc, rfl, hcwc, hIwc, hAwc⟩ := howc.ints
  have hlwc : (beL gen 8 ++ beL area 1 ++ beL size 4).length = 13 := by simp [beL_length]
  rw [hlwc] at hcwc ⊢
  have hHwc := (hHeld).trans (hbwc.mono (hHeld).size)
  have HP4 := Lib.hid (Put_any Awc 13 cwc (beL gen 8 ++ beL area 1 ++ beL size 4) sum 4 wc hlwc (by omega) hIwc (by have := HG.out; omega) (by decide) (by decide))
  clear howc hIwc hAwc hcwc hlwc hbwc
  refine hKK.out _ _ hHwc (fun hHeld => ?_)
  clear hKK K
  try simp only [Act.put, List.setIfInBounds_toArray, List.set_cons_zero, List.set_cons_succ]
  refine wpAnyH_ready (rs := [14]) (by kernel_rfl) (by simp) ?_
  refine AllReadyH.cons rfl (fun K hKK => ?_) AllReadyH.nil
  go_simp
  go_at_call 21
  refine (HP4.out).mono ?_
  rintro e wd ⟨vwd, rfl, howd, hbwd⟩
  obtain ⟨Awd, cwd, rfl, hcwd, hIwd, hAwd⟩ := howd.ints
  have hlwd : (beL gen 8 ++ beL area 1 ++ beL size 4 ++ beL sum 4).length = 17 := by simp [beL_length]
  rw [hlwd] at hcwd ⊢
  have hHwd := (hHeld).trans (hbwd.mono (hHeld).size)
  have HID := Lib.hid hIwd
  have HOD := Lib.hid howd
  have HHD := Lib.hid hHwd
  clear howd hIwd hAwd hcwd hlwd hbwd
  refine hKK.out _ _ hHwd (fun hHeld => ?_)
  clear hKK K
  try simp only [Act.put, List.setIfInBounds_toArray, List.set_cons_zero, List.set_cons_succ]
  refine held_take 15 (some 4) (v := ?_) rfl rfl (by kernel_rfl) (by kernel_rfl) (by kernel_rfl) (fun _ _ _ h => h) (Or.inl ⟨by rfl, ?_⟩) hHeld ?_
  rotate_left
  · (intro w' hSw; clear hSw; go_simp; try with_reducible rfl)
  try simp only [Act.put, List.setIfInBounds_toArray, List.set_cons_zero, List.set_cons_succ]
  refine wpAnyH_done (by kernel_rfl) ?_ _
  --]2
  obtain ⟨L, hL⟩ : ∃ L, beL gen 8 ++ beL area 1 ++ beL size 4 ++ beL sum 4 = L := ⟨_, rfl⟩
  rw [hL] at HID HOD
  have hLl : L.length = 17 := by rw [← hL]; simp [beL_length]
  have HLL := Lib.hid hLl
  have HL := Lib.hid hL
  obtain ⟨Ad, cd, hvd, hcd, hId, hAd⟩ := HOD.out.ints
  rw [hLl] at hvd hcd
  injection hvd with hvd1 hvd2 hvd3
  subst hvd1 hvd3
  obtain ⟨ad, hads, _⟩ := hId 0 (by omega)
  subst hads
  have hadl := hAd ad rfl
  have hr3d := ((HHD.out.block (g1 + 1 + 1) (row_lt HR3.out)).trans HR3.out)
  have hr2d := ((HHD.out.block (g1 + 1) (row_lt HR2.out)).trans HR2.out)
  have hnews : ∀ j v, (L.map (Value.int .u8))[j]? = some v → wd.cell? (ad.add j) = some v := fun j v hj => by
    obtain ⟨ad', e', hc⟩ := hId.news j v hj
    injection e' with e'; subst e'; exact hc
  have e1 : (zSec.toArray.toList.take 0 ++ L.map (Value.int .u8) ++ zSec.toArray.toList.drop (0 + (L.map (Value.int .u8)).length)).toArray = cellsOf (L ++ List.replicate 111 0) := by
    simp [zSec, cellsOf, hLl]
  have hcp1 := fun ty => run_copy_row (P := Tryz.prog) wd 33 33 ty 5 (g1 + 1 + 1) 0 128 128 ad 17 cwd zSec.toArray 115 (L.map (Value.int .u8)) Tryz.underlying33 (by kernel_rfl) hr3d (by rw [List.length_map, hLl]; rfl) hnews (by simp [zSec, hLl]) (ints_one _ _)
  rw [e1, List.length_map, hLl] at hcp1
  have HCP1 := Lib.hid hcp1
  have hx4 := setRow_heap wd (g1 + 1 + 1) _ (cellsOf (L ++ List.replicate 111 0)) _ _ hr3d
  have hc4 : Chg (fun k => k = g1 + 1 + 1) wd (wd.setRow (g1 + 1 + 1) (cellsOf (L ++ List.replicate 111 0))) := Chg.of_ (grown_setRow _ _ _) (fun k _ e => by injection e with e; exact e.symm)
  have hHL := row_lt HR3.out
  have hgs := row_lt HR2.out
  have hsc := hHwc.size
  have hadd : ∀ j, (ad.add j).block = ad.block := fun j => by unfold Addr.add; split <;> rfl
  have hadne : ¬ ad.block = g1 + 1 + 1 := by omega
  have hn4 : ∀ j v, (L.map (Value.int .u8))[j]? = some v → (wd.setRow (g1 + 1 + 1) (cellsOf (L ++ List.replicate 111 0))).cell? (ad.add j) = some v := fun j v hj =>
    (hc4.cell (p := ad.add j) (by rw [hadd]; exact hadl.2) (by rw [hadd]; exact hadne)).trans (hnews j v hj)
  have e2 : ((cellsOf (L ++ List.replicate 111 0)).toList.take 120 ++ (L.map (Value.int .u8)).take 8 ++ (cellsOf (L ++ List.replicate 111 0)).toList.drop (120 + ((L.map (Value.int .u8)).take 8).length)).toArray = cellsOf (layS ⟨gen, area, size, sum⟩) := by
    have hl8 : ((L.map (Value.int .u8)).take 8).length = 8 := by rw [List.length_take, List.length_map, hLl]; rfl
    have ht8 : L.take 8 = beL gen 8 := by rw [← hL, List.append_assoc, List.append_assoc, List.take_left' (beL_length _ _)]
    have hh : headS ⟨gen, area, size, sum⟩ = L := hL
    have ht : (L ++ List.replicate 111 (0 : Int)).take 120 = L ++ List.replicate 103 0 := by
      rw [List.take_append, hLl, List.take_of_length_le (by omega), List.take_replicate]; rfl
    have hd : (L ++ List.replicate 111 (0 : Int)).drop 128 = [] := List.drop_of_length_le (by simp [hLl])
    rw [hl8]
    show ((List.map _ _).take 120 ++ (L.map _).take 8 ++ (List.map _ _).drop (120 + 8)).toArray = _
    rw [← List.map_take, ← List.map_take, ← List.map_drop, ht, ht8, hd, layS, hh, cellsOf]
    simp only [List.map_append, List.map_nil, List.append_nil]
  have hcp2 := fun ty => run_copy_row (P := Tryz.prog) (wd.setRow (g1 + 1 + 1) (cellsOf (L ++ List.replicate 111 0))).drew 33 33 ty 5 (g1 + 1 + 1) 120 8 8 ad 8 cwd (cellsOf (L ++ List.replicate 111 0)) 115 ((L.map (Value.int .u8)).take 8) Tryz.underlying33 (by kernel_rfl) hx4 (by rw [List.length_take, List.length_map, hLl]; rfl)
    (fun j v hj => by
      rw [List.getElem?_take] at hj
      split at hj
      · exact hn4 j v hj
      · cases hj) (by simp [cellsOf, hLl]) (fun v hv => ints_one .u8 _ v (List.mem_of_mem_take hv))
  rw [e2] at hcp2
  have hl8 : ((L.map (Value.int .u8)).take 8).length = 8 := by rw [List.length_take, List.length_map, hLl]; rfl
  rw [hl8] at hcp2
  have HCP := Lib.hid hcp2
  have HX4 := Lib.hid hx4
  have HC4 := Lib.hid hc4
  have HR2D := Lib.hid hr2d
  have HADL := Lib.hid (And.intro hHL (And.intro hgs hadne))
  have hc8 : 8 ≤ cwd := by omega
  have hc8i : (8 : Int) ≤ (cwd : Int) := by omega
  clear hsc hL hLl hcd hId hAd hadl hr3d hr2d hnews e1 hcp1 hx4 hc4 hHL hgs hadd hadne hn4 e2 hcp2 hl8
  clear hHeld hHwa hHwb hHwc hHwd HP1 HP2 HP3 HP4 HID HOD hvd2
  obtain ⟨X4, hX4⟩ : ∃ X4, cellsOf (L ++ List.replicate 111 0) = X4 := ⟨_, rfl⟩
  rw [hX4] at HCP1 HCP HX4 HC4
  clear hX4
  have hcp1 := HCP1.out 3
  go_upto_region 4 with (fail)
  clear hcp1
  obtain ⟨w4, hw4⟩ : ∃ w4, wd.setRow (g1 + 1 + 1) X4 = w4 := ⟨_, rfl⟩
  rw [hw4] at HCP HX4 HC4 ⊢
  clear hw4
  --[4
  refine wp_region_held_drew (S := fun w' => Chg (fun k => k = g1 + 1 + 1) w4 w') (by kernel_rfl) (((Chg.refl _ _).drewN 1)) (fun hHeld => ?_)
  refine held_take 0 (some 23) (v := ?_) rfl rfl (by kernel_rfl) (by kernel_rfl) (by kernel_rfl) (fun _ _ _ h => h) (Or.inl ⟨by rfl, ?_⟩) hHeld ?_
  rotate_left
  · (intro w' hSw; clear hSw; go_simp; try with_reducible rfl)
  try simp only [Act.put, List.setIfInBounds_toArray, List.set_cons_zero, List.set_cons_succ]
  refine held_take 1 (some 24) (v := ?_) rfl rfl (by kernel_rfl) (by kernel_rfl) (by kernel_rfl) (fun _ _ _ h => h) (Or.inl ⟨by rfl, ?_⟩) hHeld ?_
  rotate_left
  · (intro w' hSw; clear hSw; go_simp; try with_reducible rfl)
  try simp only [Act.put, List.setIfInBounds_toArray, List.set_cons_zero, List.set_cons_succ]
  refine held_take 2 (some 25) (v := ?_) rfl rfl (by kernel_rfl) (by kernel_rfl) (by kernel_rfl) (fun _ _ _ h => h) (Or.inl ⟨by rfl, ?_⟩) hHeld ?_
  rotate_left
  · (intro w' hSw; clear hSw; go_simp; try with_reducible rfl)
  try simp only [Act.put, List.setIfInBounds_toArray, List.set_cons_zero, List.set_cons_succ]
  refine wpAnyH_ready (rs := [3]) (by kernel_rfl) (by simp) ?_
  refine AllReadyH.cons rfl (fun K hKK => ?_) AllReadyH.nil
  refine step_val rfl (exec_copy _ _ (.tmp 23) (.tmp 25) rfl (.slice (some ⟨g1 + 1 + 1, 120, none⟩) 8 8) (.slice (some ad) 8 cwd) (by go_simp) (by go_simp) (HCP.out _)) ?_
  refine hKK.out _ _ (((Chg.refl _ _).drewN 1).trans2 (Chg.of (grown_setRow _ _ _)) (fun x _ e => by injection e)) (fun hHeld => ?_)
  clear hKK K
  try simp only [Act.put, List.setIfInBounds_toArray, List.set_cons_zero, List.set_cons_succ]
  refine wpAnyH_done (by kernel_rfl) ?_ _
  --]4
  have hHX := setRow_heap w4.drew (g1 + 1 + 1) _ (cellsOf (layS ⟨gen, area, size, sum⟩)) _ _ HX4.out
  have hb5 : Below g1 w (w4.drew.setRow (g1 + 1 + 1) (cellsOf (layS ⟨gen, area, size, sum⟩))) := by
    have h1 : Below g1 w wd := HB2.out.trans (HHD.out.mono (by have := HADL.out; omega))
    have h2 := h1.trans (HC4.out.below (B := g1) (by have := HG1.out; have := h1.size; omega) (fun k hk => by omega))
    exact h2.drew.grown (grown_setRow _ _ _) (by have := HG1.out; have := h2.size; show g1 ≤ w4.heap.size; omega) (fun k hk => by injection hk with hk; omega)
  have hg5 : (w4.drew.setRow (g1 + 1 + 1) (cellsOf (layS ⟨gen, area, size, sum⟩))).heap[g1 + 1]? = some (.cells zSec.toArray 115 (0, 0)) := by
    have h1 := (HC4.out.block (g1 + 1) (row_lt HR2D.out) (by omega)).trans HR2D.out
    exact ((grown_setRow w4.drew (g1 + 1 + 1) _).block (g1 + 1) (row_lt h1) (fun e => by injection e with e; omega)).trans h1
  generalize w4.drew.setRow (g1 + 1 + 1) (cellsOf (layS ⟨gen, area, size, sum⟩)) = w5 at hHX hb5 hg5 ⊢
  have hs128 : ((layS ⟨gen, area, size, sum⟩).map (Value.int .u8)).length = 128 := by rw [List.length_map, layS_length]
  have HRG := Lib.hid (show w5.rangeAt (g1 + 1 + 1) 0 ((layS ⟨gen, area, size, sum⟩).map (Value.int .u8)) from range_row hHX)
  have HG5 := Lib.hid hg5
  have HB5 := Lib.hid hb5
  have HSZ := Lib.hid (sizeSS hs128)
  have HZS := Lib.hid (show zSec.toArray.size = ((layS ⟨gen, area, size, sum⟩).map (Value.int .u8)).length by rw [hs128]; rfl)
  obtain ⟨X, hX⟩ : ∃ X, (layS ⟨gen, area, size, sum⟩).map (Value.int .u8) = X := ⟨_, rfl⟩
  rw [hX] at HRG HSZ HZS
  have HXX := Lib.hid hX
  have HX1 := Lib.hid (show ∀ v ∈ X, v.oneCell' = true from hX ▸ ints_one _ _)
  clear hHX hb5 hg5 hs128 hX
  clear hHeld
  go_wp2_with (first | (with_reducible refine Go.wpList_load_mid rfl 115 _ rfl (g1 + 1 + 1) 0 rfl X _ HRG.out Tryz.underlying115 rfl HSZ.out ?_) | (with_reducible refine wpList_store_new rfl 115 _ _ rfl (g1 + 1) X rfl rfl 115 zSec.toArray HG5.out HSZ.out HZS.out HX1.out g1 w HB5.out (Nat.le_succ _) ?_; intro w6 hr6 hb6))
  refine bodyPost_ret (results_cell_row rfl _ w6 (g1 + 1) 115 X.toArray (0, 0) _ rfl hr6.out Tryz.underlying115 rfl (by rw [List.size_toArray]; exact HSZ.out)) rfl ?_
  exact ⟨by rw [HXX.out], by rw [HG1.out]; exact hb6.out⟩
end Go.Proofs.YtcklcffepedklaaGreatDoor
