/- Texts of the proof, one behind the other: digest: Write. digest: the walk of Write. digest: the walk of a state's Sum. digest: Sum. -/
import Derived.Test.YtcklcffepedklaaGreatM20
import Derived.Test.YtcklcffepedklaaGreatM19
import Derived.Laws.CopyRow
import Derived.Lib.SlBuf
namespace Go.Proofs.YtcklcffepedklaaGreat.Dg
open Go.RowKit

/-- How many blocks were taken, of n bytes. -/
def nb (n : Nat) : Nat := (n - 1) / 64
theorem chain_ext (a b : List Int) : ∀ k, a.take (64 * k) = b.take (64 * k) → chain a k = chain b k
  | 0, _ => rfl
  | k + 1, h => by
    have h1 : a.take (64 * k) = b.take (64 * k) := by
      have := congrArg (List.take (64 * k)) h
      rwa [List.take_take, List.take_take, Nat.min_eq_left (by omega)] at this
    have h2 : (a.drop (64 * k)).take 64 = (b.drop (64 * k)).take 64 := by
      have := congrArg (List.drop (64 * k)) h
      rwa [List.drop_take, List.drop_take, show 64 * (k + 1) - 64 * k = 64 from by omega] at this
    show blockF (chain a k) ((a.drop (64 * k)).take 64) (64 * (k + 1)) false = blockF (chain b k) ((b.drop (64 * k)).take 64) (64 * (k + 1)) false
    rw [chain_ext a b k h1, h2]
theorem chain_length (b : List Int) : ∀ k, (chain b k).length = 8
  | 0 => rfl
  | k + 1 => (blockF_length _ _ _ _).trans (chain_length b k)
/-- A state that bytes B came to. -/
structure St (w : World) (g : Nat) (B : List Int) : Prop where
  ex : ∃ rs, Row w g (chain B (nb B.length)) rs B.length ∧ rs.take (heldN B.length) = B.drop (64 * nb B.length)
theorem St.of_block {w w' : World} {g : Nat} {B : List Int} (h : St w g B) (hb : w'.heap[g]? = w.heap[g]?) : St w' g B := by
  obtain ⟨rs, R, e⟩ := h.ex
  exact ⟨rs, R.of_block hb, e⟩
theorem St.lt {w : World} {g : Nat} {B : List Int} (h : St w g B) : g < w.heap.size := by
  obtain ⟨rs, R, e⟩ := h.ex
  exact row_lt R.row
theorem St.lim {w : World} {g : Nat} {B : List Int} (h : St w g B) : B.length < 4611686018427387904 := by
  obtain ⟨rs, R, e⟩ := h.ex
  exact R.lim
theorem init_U : AllU initL := by
  intro i
  match i with
  | 0 => exact (show U 1795745351 from ⟨by decide, by decide⟩)
  | 1 => exact (show U 3144134277 from ⟨by decide, by decide⟩)
  | 2 => exact (show U 1013904242 from ⟨by decide, by decide⟩)
  | 3 => exact (show U 2773480762 from ⟨by decide, by decide⟩)
  | 4 => exact (show U 1359893119 from ⟨by decide, by decide⟩)
  | 5 => exact (show U 2600822924 from ⟨by decide, by decide⟩)
  | 6 => exact (show U 528734635 from ⟨by decide, by decide⟩)
  | 7 => exact (show U 1541459225 from ⟨by decide, by decide⟩)
  | i + 8 => exact (show U 0 from ⟨by decide, by decide⟩)
theorem rep0_B : Bytes rep0 := by
  intro i
  have e : rep0 = List.replicate 64 0 := by decide
  rw [e, List.getD_eq_getElem?_getD, List.getElem?_replicate]
  split <;> simp
theorem St.new {w : World} {g : Nat} (h : w.heap[g]? = some (.cells (stC initL rep0 0) 175 (0, 0))) : St w g [] :=
  ⟨rep0, ⟨h, rfl, rfl, init_U, rep0_B, by decide⟩, by decide⟩
theorem New_st (w : World) : Calls Tryz.prog 57 #[] w fun e w' => ∃ g, e = .returned (.pointer (some ⟨g, 0, none⟩)) ∧ w.grownBy w' none ∧ w.heap.size ≤ g ∧ St w' g [] := by
  refine (New_any w).mono ?_
  rintro e w' ⟨g, rfl, hg, hge, hr⟩
  exact ⟨g, rfl, hg, hge, St.new hr⟩

/-- The cells behind bytes that are laid into rest at k, and a new count. -/
theorem stC_splice {hs rs : List Int} (h8 : hs.length = 8) (r64 : rs.length = 64) (x : List Int) (k : Nat) (hk : k + x.length ≤ 64) (z : Int) :
    ((stC hs rs z).toList.take (8 + k) ++ x.map (Value.int .u8) ++ (stC hs rs z).toList.drop (8 + k + (x.map (Value.int .u8)).length)).toArray = stC hs (rs.take k ++ x ++ rs.drop (k + x.length)) z := by
  have e1 : (stC hs rs z).toList = hs.map (Value.int .u32) ++ (rs.map (Value.int .u8) ++ [Value.int .u64 z]) := by simp [stC]
  rw [e1, List.length_map]
  have t1 : (hs.map (Value.int .u32) ++ (rs.map (Value.int .u8) ++ [Value.int .u64 z])).take (8 + k) = hs.map (Value.int .u32) ++ (rs.take k).map (Value.int .u8) := by
    rw [List.take_append, List.take_of_length_le (by simp [h8]), List.length_map, h8, show 8 + k - 8 = k from by omega, List.take_append_of_le_length (by simp; omega), List.map_take]
  have t2 : (hs.map (Value.int .u32) ++ (rs.map (Value.int .u8) ++ [Value.int .u64 z])).drop (8 + k + x.length) = (rs.drop (k + x.length)).map (Value.int .u8) ++ [Value.int .u64 z] := by
    rw [List.drop_append, List.drop_of_length_le (by simp [h8]; omega), List.nil_append, List.length_map, h8, show 8 + k + x.length - 8 = k + x.length from by omega, List.drop_append_of_le_length (by simp; omega), List.map_drop]
  rw [t1, t2]
  unfold stC
  simp [List.map_append, List.append_assoc]
theorem stC_num {hs rs : List Int} (h8 : hs.length = 8) (r64 : rs.length = 64) (z y : Int) : (stC hs rs z).setIfInBounds 72 (.int .u64 y) = stC hs rs y := by
  unfold stC
  rw [List.setIfInBounds_toArray, List.set_append_right _ _ (by simp; omega)]
  simp [h8, r64]
theorem splice_length {rs x : List Int} {k : Nat} (r64 : rs.length = 64) (hk : k + x.length ≤ 64) : (rs.take k ++ x ++ rs.drop (k + x.length)).length = 64 := by simp; omega
theorem splice_B {rs x : List Int} {k : Nat} (h : Bytes rs) (hx : Bytes x) : Bytes (rs.take k ++ x ++ rs.drop (k + x.length)) := ((h.take k).append hx).append (h.drop _)

/-- Bytes x come to a state whose rest holds k bytes: the state is that of all. -/
theorem St.more {w : World} {g : Nat} {B x hs rs : List Int} {k : Nat} (hx0 : 0 < x.length) (hB : Bytes rs) (hxB : Bytes x) (h8 : hs.length = 8) (hU : AllU hs) (r64 : rs.length = 64) (hk : k + x.length ≤ 64)
    (hl : (B ++ x).length < 4611686018427387904) (hb : 64 * nb (B ++ x).length + k = B.length) (hh : hs = chain B (nb (B ++ x).length)) (hr : rs.take k = B.drop (64 * nb (B ++ x).length))
    (h : w.heap[g]? = some (.cells (stC hs (rs.take k ++ x ++ rs.drop (k + x.length)) ((B ++ x).length : Nat)) 175 (0, 0))) : St w g (B ++ x) := by
  have hc : hs = chain (B ++ x) (nb (B ++ x).length) := by
    rw [hh]
    apply chain_ext
    rw [List.take_append_of_le_length (by omega)]
  refine ⟨rs.take k ++ x ++ rs.drop (k + x.length), ⟨by rw [← hc]; exact h, by rw [← hc]; exact h8, splice_length r64 hk, by rw [← hc]; exact hU, splice_B hB hxB, hl⟩, ?_⟩
  have hhe : heldN (B ++ x).length = k + x.length := by
    have e : (B ++ x).length = B.length + x.length := List.length_append
    unfold nb at hb
    unfold heldN
    rw [if_neg (by omega)]
    omega
  rw [hhe, List.append_assoc, List.take_append, List.take_of_length_le (by simp; omega), List.length_take, Nat.min_eq_left (by omega), show k + x.length - k = x.length from by omega, List.take_append_of_le_length (Nat.le_refl _), List.take_of_length_le (Nat.le_refl _), hr, List.drop_append_of_le_length (by omega)]
end Go.Proofs.YtcklcffepedklaaGreat.Dg

namespace Go.Proofs.YtcklcffepedklaaGreat.Dg
open Go.RowKit

set_option maxRecDepth 20000 in
theorem Write_nil (v : Value) (w : World) : Calls Tryz.prog 58 #[.pointer none, v] w fun e w' => e = .returned (.tuple #[]) ∧ w = w' := by
  go_enter Tryz.func58, Tryz.ntmps58
  go_wp2
  first | (refine bodyPost_ret (results_none rfl _ _ _) rfl ?_; exact ⟨rfl, rfl⟩) | trace_state
theorem grown_setRow (w : World) (g : Nat) (cs : Array Value) : w.grownBy (w.setRow g cs) (some g) := ⟨rfl, rfl, rfl, by simp, fun j _ hne => setRow_other _ _ _ _ (fun e => hne (by rw [e]))⟩
theorem map_add_zero (A : Option Addr) : A.map (·.add 0) = A := by cases A <;> simp [Addr.add]
theorem info5s : (Tryz.prog.info? 5).map (·.size) = some 1 := by kernel_rfl
/-- What a round finds in rest: a state, or one whose block was taken. -/
structure Rest (w : World) (g : Nat) (B hs rs : List Int) (k : Nat) : Prop where
  row : Row w g hs rs B.length
  kle : k < 64
  ex : ∀ x : List Int, 0 < x.length → k + x.length ≤ 64 → 64 * nb (B ++ x).length + k = B.length ∧ hs = chain B (nb (B ++ x).length) ∧ rs.take k = B.drop (64 * nb (B ++ x).length)
theorem Rest.of_short {w : World} {g : Nat} {B rs : List Int} (R : Row w g (chain B (nb B.length)) rs B.length) (e : rs.take (heldN B.length) = B.drop (64 * nb B.length)) (hk : heldN B.length ≠ 64) : Rest w g B (chain B (nb B.length)) rs (heldN B.length) := by
  have h1 := heldN_le B.length
  refine ⟨R, by omega, fun x hx hkx => ?_⟩
  have hlen : (B ++ x).length = B.length + x.length := List.length_append
  have hn : nb (B ++ x).length = nb B.length := by
    unfold nb heldN at *
    rw [hlen]
    split at hkx <;> omega
  rw [hn]
  refine ⟨?_, rfl, e⟩
  unfold nb heldN at *
  split <;> omega
theorem Rest.of_full {w : World} {g : Nat} {B rs : List Int} (R : Row w g (blockF (chain B (nb B.length)) rs B.length false) rs B.length) (e : rs.take (heldN B.length) = B.drop (64 * nb B.length)) (r64 : rs.length = 64) (hk : heldN B.length = 64) : Rest w g B (blockF (chain B (nb B.length)) rs B.length false) rs 0 := by
  refine ⟨R, by omega, fun x hx hkx => ?_⟩
  have hlen : (B ++ x).length = B.length + x.length := List.length_append
  have hn : nb (B ++ x).length = nb B.length + 1 := by
    unfold nb heldN at *
    rw [hlen]
    split at hk <;> omega
  have hN : B.length = 64 * (nb B.length + 1) := by
    unfold nb heldN at *
    split at hk <;> omega
  rw [hk, List.take_of_length_le (by omega)] at e
  rw [hn]
  refine ⟨by omega, ?_, ?_⟩
  · show _ = blockF (chain B (nb B.length)) ((B.drop (64 * nb B.length)).take 64) (64 * (nb B.length + 1)) false
    rw [← e, List.take_of_length_le (by omega), ← hN]
  · rw [List.take_zero, List.drop_of_length_le (by omega)]
/-- The world behind a round. -/
theorem Rest.done {w : World} {g : Nat} {B hs rs x : List Int} {k : Nat} (R : Rest w g B hs rs k) (hx : 0 < x.length) (hk : k + x.length ≤ 64) (hxB : Bytes x) (hl : (B ++ x).length < 4611686018427387904) :
    St ((w.setRow g ((stC hs rs (B.length : Nat)).toList.take (8 + k) ++ x.map (Value.int .u8) ++ (stC hs rs (B.length : Nat)).toList.drop (8 + k + (x.map (Value.int .u8)).length)).toArray).setCell ⟨g, 72, none⟩ (.int .u64 ((B.length : Int) + (x.length : Int)))) g (B ++ x) := by
  obtain ⟨e1, e2, e3⟩ := R.ex x hx hk
  refine St.more hx R.row.rB hxB R.row.h8 R.row.hU R.row.r64 hk hl e1 e2 e3 ?_
  have hr := setRow_heap w g _ ((stC hs rs (B.length : Nat)).toList.take (8 + k) ++ x.map (Value.int .u8) ++ (stC hs rs (B.length : Nat)).toList.drop (8 + k + (x.map (Value.int .u8)).length)).toArray _ _ R.row.row
  rw [setCell_row hr, stC_splice R.row.h8 R.row.r64 x k hk, stC_num R.row.h8 (splice_length R.row.r64 hk)]
  congr 3
  simp

set_option maxRecDepth 20000 in
set_option maxHeartbeats 3200000 in
theorem Write_any (g q c : Nat) (B b : List Int) (A : Option Addr) (w : World) (hS : St w g B) (hq : b.length = q) (hqc : q ≤ c) (hb : Bytes b) (hI : Ints .u8 w A b) (hA : ∀ ad, A = some ad → 0 < q → ad.block ≠ g) (hl : B.length + q < 4611686018427387904) :
    Calls Tryz.prog 58 #[.pointer (some ⟨g, 0, none⟩), .slice A q c] w fun e w' => e = .returned (.tuple #[]) ∧ w.grownBy w' (some g) ∧ St w' g (B ++ b) := by
  have HS := Lib.hid hS
  have HQ := Lib.hid hq
  have HB := Lib.hid hb
  have HI := Lib.hid hI
  have HA := Lib.hid hA
  have HMZ := Lib.hid (map_add_zero A)
  clear hS hq hb hI hA
  go_enter Tryz.func58, Tryz.ntmps58
  go_wp2_with fail
  go_loopg [1] q (fun kq v1 w' => ∃ (m : Nat) (A' : Option Addr), v1 = .slice A' (q - m) (c - m) ∧ (m < q → A' = A.map (·.add m)) ∧ m + kq = q ∧ w.grownBy w' (some g) ∧ St w' g (B ++ b.take m))
  case atStart => exact ⟨0, A, rfl, fun _ => HMZ.out.symm, by omega, World.grownBy.refl _ _, by rw [List.take_zero, List.append_nil]; exact HS.out⟩
  case round =>
    obtain ⟨m, A', rfl, hAA, hm, hg, hS⟩ := hrel
    have HG := Lib.hid hg
    by_cases hlt : m < q
    · obtain ⟨ad, rfl, _⟩ := HI.out m (by rw [HQ.out]; exact hlt)
      obtain rfl : A' = some (ad.add m) := hAA hlt
      clear hAA
      obtain ⟨rs, R, er⟩ := hS.ex
      obtain ⟨BB, hBB⟩ : ∃ z, z = B ++ b.take m := ⟨_, rfl⟩
      rw [← hBB] at R er
      have hBL : BB.length = B.length + m := by rw [hBB, List.length_append, List.length_take, HQ.out]; omega
      have HH := Lib.hid (held_any R)
      have hqm : (((q - m : Nat) : Int) > 0) := by omega
            -- the rest of the round, from a state whose rest has room
      have HEND := Lib.hid (fun (W : World) (hs' : List Int) (k : Nat) (hgr : w.grownBy W (some g)) (P : Rest W g BB hs' rs k) (n : Nat) (hn : n = min (q - m) (64 - k)) => (show
        (∃ V : World, (Builtin.copy_ #[22, 22] 3 #[.slice (some ⟨g, 8 + k, none⟩) (64 - k) (64 - k), .slice (some (ad.add m)) (q - m) (c - m)]).run Tryz.prog W = .ok (.int .i64 (n : Int)) V ∧ V.cell? ⟨g, 72, none⟩ = some (.int .u64 BB.length) ∧ V.frozen? ⟨g, 72, none⟩ = false ∧
          St (V.setCell ⟨g, 72, none⟩ (.int .u64 ((BB.length : Int) + (n : Int)))) g (B ++ b.take (m + n)) ∧ w.grownBy (V.setCell ⟨g, 72, none⟩ (.int .u64 ((BB.length : Int) + (n : Int)))) (some g)) by
        have hk := P.kle
        obtain ⟨x, hx⟩ : ∃ x, x = (b.drop m).take n := ⟨_, rfl⟩
        have hxl : x.length = n := by rw [hx, List.length_take, List.length_drop, HQ.out]; omega
        have hxB : Bytes x := by rw [hx]; exact (HB.out.drop m).take n
        have hbx : B ++ b.take (m + n) = BB ++ x := by rw [hBB, hx, List.append_assoc, ← List.take_add]
        have hsrc : ∀ j v, (x.map (Value.int .u8))[j]? = some v → W.cell? ((ad.add m).add j) = some v := by
          intro j v hj
          have hjl : j < x.length := by
            rcases Nat.lt_or_ge j x.length with h | h
            · exact h
            · rw [List.getElem?_eq_none (by simpa using h)] at hj; cases hj
          obtain ⟨ad', e', hc⟩ := HI.out (m + j) (by rw [HQ.out]; omega)
          obtain rfl : ad = ad' := by injection e'
          rw [add_add]
          have hne := HA.out ad rfl (by omega)
          refine ((World.cell?_of_block (w := w) (w' := W) (a := ad.add (m + j)) (by rw [add_block]; exact hgr.block _ (cell_block hc) (fun e => hne (by injection e)))).trans hc).trans ?_
          rw [← hj, List.getElem?_map, hx, List.getElem?_take, if_pos (by omega), List.getElem?_drop, List.getD_eq_getElem?_getD, List.getElem?_eq_getElem (by rw [HQ.out]; omega)]
          rfl
        have hrun := run_copy_row Tryz.prog W 22 22 3 5 g (8 + k) (64 - k) (64 - k) (ad.add m) (q - m) (c - m) _ 175 (x.map (Value.int .u8)) Tryz.underlying22 info5s P.row.row (by rw [List.length_map, hxl, hn]) hsrc
          (by rw [List.length_map, stC_size P.row.h8 P.row.r64]; omega) (ints_one .u8 x)
        have hdone := P.done (x := x) (by omega) (by omega) hxB (by rw [← hbx, List.length_append, List.length_take, HQ.out]; omega)
        rw [List.length_map, hxl] at hrun
        rw [hxl, ← hbx] at hdone
        have hrr := setRow_heap W g _ ((stC hs' rs (BB.length : Nat)).toList.take (8 + k) ++ x.map (Value.int .u8) ++ (stC hs' rs (BB.length : Nat)).toList.drop (8 + k + (x.map (Value.int .u8)).length)).toArray _ _ P.row.row
        rw [List.length_map, hxl] at hrr hdone
        refine ⟨_, hrun, ?_, free_row hrr 72, hdone, ?_⟩
        · rw [cell_of_row _ _ _ _ _ _ hrr]
          have e := stC_splice P.row.h8 P.row.r64 x k (by omega) (BB.length : Nat)
          rw [List.length_map, hxl] at e
          rw [e]
          have e2 := splice_length (x := x) (k := k) P.row.r64 (by omega)
          rw [hxl] at e2
          exact stC_n P.row.h8 e2 _
        · exact grown_trans hgr (grown_trans (grown_setRow W g _) (grown_setCell _ _ _ _))))
      obtain ⟨NN, hNN⟩ : ∃ z, z = BB.length := ⟨_, rfl⟩
      have HPR := Lib.hid (press_any g BB.length _ rs false wr R)
      rw [← hNN] at HPR HEND HH hBL
      by_cases hk : heldN BB.length = 64
      · have HPP := Lib.hid (fun (W : World) (R' : Row W g (blockF (chain BB (nb BB.length)) rs BB.length false) rs BB.length) => Rest.of_full R' er R.r64 hk)
        rw [hNN, hk] at HH
        rw [← hNN] at HPP
        clear R er hk hS hg hBB hNN
        go_wp2_with fail
        refine HH.out.mono ?_
        rintro e w5 ⟨rfl, rfl⟩
        go_wp2_with fail
        refine HPR.out.mono ?_
        rintro e w5 ⟨rfl, hg5, hR5⟩
        have hgr := grown_trans HG.out hg5
        have HP := Lib.hid (HPP.out w5 (by exact hR5))
        clear hg5 hR5 HPR HPP
        obtain ⟨n, hn⟩ : ∃ n, n = min (q - m) (64 - 0) := ⟨_, rfl⟩
        obtain ⟨V, hrun, hc72, hf72, hSt, hGr⟩ := HEND.out w5 _ 0 hgr HP.out n hn
        simp only [Nat.add_zero, Nat.sub_zero] at hrun
        have HRUN := Lib.hid hrun
        have HST := Lib.hid hSt
        have HGR := Lib.hid hGr
        have n1 : n ≤ q - m := by omega
        have n2 : n ≤ 64 := by omega
        have n0 : 0 < n := by have := HP.out.kle; omega
        have hNn : (NN : Int) + (n : Int) < 4611686018427387904 := by omega
        have hcm : n ≤ c - m := by omega
        clear hrun hSt hGr hn HH hBL
        go_upto_region 8 with (rw [HRUN.out]; simp only [Result.andThen_ok])
        have hle : q - m ≤ c - m := by omega
        have HE1 := Lib.hid (show q - m - n = q - (m + n) by omega)
        have HE3 := Lib.hid (show ∀ c1, c1 = c - m → c1 = n → ¬ m + n < q by omega)
        have HE4 := Lib.hid (show ∀ c1, c1 = c - m → c1 = n → c - (m + n) = 0 by omega)
        have HE2 := Lib.hid (show c - m - n = c - (m + n) by omega)
        have HM1 := Lib.hid (show m + n + (q - (m + n)) = q by omega)
        have HM2 := Lib.hid (show q - (m + n) < gk by omega)
        clear HEND HRUN hc72 hf72 hqm hcm hNn hm
        generalize q - m = q1 at *
        generalize hc1 : c - m = c1 at *
        have HC1 := Lib.hid hc1
        clear hc1
        go_wp2_with fail
        · have hcn : c1 = n := by assumption
          go_roundg (q - (m + n))
          case measure => exact HM2.out
          case rel => exact ⟨m + n, _, by rw [HE1.out, HE4.out c1 rfl hcn], fun h => absurd h (HE3.out c1 rfl hcn), HM1.out, HGR.out, HST.out⟩
        · go_roundg (q - (m + n))
          case measure => exact HM2.out
          case rel => exact ⟨m + n, _, by rw [HE1.out, HE2.out], fun _ => by rw [add_add]; rfl, HM1.out, HGR.out, HST.out⟩
      · have HP := Lib.hid (Rest.of_short R er hk)
        have hk1 := heldN_le BB.length
        rw [hNN] at HH
        obtain ⟨k, hk2⟩ : ∃ z, z = heldN BB.length := ⟨_, rfl⟩
        rw [← hk2] at HP HH hk1 hk
        have hke : ((k : Int) == 64) = false := by simp; omega
        have hk3 : (k : Int) ≤ 64 := by omega
        have hgr := hg
        clear R er hS hg hBB hNN hk2
        go_wp2_with fail
        refine HH.out.mono ?_
        rintro e w5 ⟨rfl, rfl⟩
        obtain ⟨n, hn⟩ : ∃ n, n = min (q - m) (64 - k) := ⟨_, rfl⟩
        obtain ⟨V, hrun, hc72, hf72, hSt, hGr⟩ := HEND.out wr _ k hgr HP.out n hn
        have HRUN := Lib.hid hrun
        have HST := Lib.hid hSt
        have HGR := Lib.hid hGr
        have n1 : n ≤ q - m := by omega
        have n2 : n ≤ 64 := by omega
        have n0 : 0 < n := by have := HP.out.kle; omega
        have hNn : (NN : Int) + (n : Int) < 4611686018427387904 := by omega
        have hcm : n ≤ c - m := by omega
        clear hrun hSt hGr hn HH hBL
        go_upto_region 8 with (rw [HRUN.out]; simp only [Result.andThen_ok])
        have hle : q - m ≤ c - m := by omega
        have HE1 := Lib.hid (show q - m - n = q - (m + n) by omega)
        have HE3 := Lib.hid (show ∀ c1, c1 = c - m → c1 = n → ¬ m + n < q by omega)
        have HE4 := Lib.hid (show ∀ c1, c1 = c - m → c1 = n → c - (m + n) = 0 by omega)
        have HE2 := Lib.hid (show c - m - n = c - (m + n) by omega)
        have HM1 := Lib.hid (show m + n + (q - (m + n)) = q by omega)
        have HM2 := Lib.hid (show q - (m + n) < gk by omega)
        clear HEND HRUN hc72 hf72 hqm hcm hNn hm
        generalize q - m = q1 at *
        generalize hc1 : c - m = c1 at *
        have HC1 := Lib.hid hc1
        clear hc1
        go_wp2_with fail
        · have hcn : c1 = n := by assumption
          go_roundg (q - (m + n))
          case measure => exact HM2.out
          case rel => exact ⟨m + n, _, by rw [HE1.out, HE4.out c1 rfl hcn], fun h => absurd h (HE3.out c1 rfl hcn), HM1.out, HGR.out, HST.out⟩
        · go_roundg (q - (m + n))
          case measure => exact HM2.out
          case rel => exact ⟨m + n, _, by rw [HE1.out, HE2.out], fun _ => by rw [add_add]; rfl, HM1.out, HGR.out, HST.out⟩
    · have hmq : m = q := by omega
      subst hmq
      have hbt : b.take m = b := List.take_of_length_le (by rw [HQ.out]; exact Nat.le_refl _)
      rw [hbt] at hS
      have HS2 := Lib.hid hS
      clear hS hg hbt hAA
      have hz : m - m = 0 := Nat.sub_self m
      go_wp2_with fail
      go_end0
      exact ⟨rfl, HG.out, HS2.out⟩
end Go.Proofs.YtcklcffepedklaaGreat.Dg

namespace Go.Proofs.YtcklcffepedklaaGreat.Dg
open Go.RowKit

theorem zeroCells_u8 (n : Nat) : (Builtin.zeroCells #[.int .u8 0] n).toList = (List.replicate n (0 : Int)).map (Value.int .u8) := by
  unfold Builtin.zeroCells
  rw [Array.toList_map]
  apply List.ext_getElem
  · simp
  · intro i h1 h2
    simp [Nat.mod_one]
theorem Tryz.info5 : (Tryz.prog.info? 5).map (fun i => (i.zero, i.size, i.bytes)) = some (some (.int .u8 0), 1, 1) := by kernel_rfl
theorem zero5 (w : World) : (zeroValue 5).run Tryz.prog w = .ok (.int .u8 0) w := by
  obtain ⟨i0, hi, hz0, _, _⟩ := info_parts Tryz.info5
  simp [zeroValue, typeInfo, hi, hz0]
/-- A row's end is cleared. -/
theorem run_clear (w : World) (ty : TypeId) (g o n c : Nat) (cur : Array Value) (t : TypeId) (hg : w.heap[g]? = some (.cells cur t (0, 0))) (hfit : o + n ≤ cur.size) :
    (Builtin.clear_ #[22] ty #[.slice (some ⟨g, o, none⟩) n c]).run Tryz.prog w = .ok (.tuple #[]) (w.setRow g (cur.toList.take o ++ (List.replicate n (0 : Int)).map (Value.int .u8) ++ cur.toList.drop (o + n)).toArray) := by
  cases n with
  | zero =>
    have e : (cur.toList.take o ++ (List.replicate 0 (0 : Int)).map (Value.int .u8) ++ cur.toList.drop (o + 0)).toArray = cur := by simp
    rw [e, setRow_self w g cur t (0, 0) hg]
    simp [Builtin.clear_, run_underlying Tryz.underlying22]
  | succ n =>
    have hst := run_storeCells_at Tryz.prog g o t ((List.replicate (n + 1) (0 : Int)).map (Value.int .u8)) 0 cur w hg (by simpa using hfit) (ints_one .u8 _)
    rw [← zeroCells_u8] at hst ⊢
    have hl : (Builtin.zeroCells #[Value.int .u8 0] (n + 1)).toList.length = n + 1 := by rw [zeroCells_u8]; simp
    rw [hl] at hst
    simp only [Nat.add_zero] at hst
    simp [Builtin.clear_, run_underlying Tryz.underlying22, Value.cells, hst]
theorem run_clear_none (w : World) (ty : TypeId) (A : Option Addr) (c : Nat) : (Builtin.clear_ #[22] ty #[.slice A 0 c]).run Tryz.prog w = .ok (.tuple #[]) w := by
  cases A <;> simp [Builtin.clear_, run_underlying Tryz.underlying22]
/-- The digest's bytes, laid one by one. -/
def dS (ws : List Int) : Nat → List Int
  | 0 => [0, 0, 0, 0, 0, 0, 0, 0, 0, 0, 0, 0, 0, 0, 0, 0, 0, 0, 0, 0, 0, 0, 0, 0, 0, 0, 0, 0, 0, 0, 0, 0]
  | i + 1 => (dS ws i).set i ((ws.getD (i / 4) 0 / 2 ^ (8 * (i % 4))) % 256)
theorem dS_length (ws : List Int) : ∀ i, (dS ws i).length = 32
  | 0 => rfl
  | i + 1 => by rw [dS, List.length_set]; exact dS_length ws i
theorem dS_get (ws : List Int) : ∀ i, i ≤ 32 → ∀ j, j < 32 → (dS ws i).getD j 0 = if j < i then (ws.getD (j / 4) 0 / 2 ^ (8 * (j % 4))) % 256 else 0
  | 0, _, j, hj => by
    have e : dS ws 0 = List.replicate 32 0 := rfl
    rw [e, List.getD_eq_getElem?_getD, List.getElem?_replicate, if_pos (by assumption)]
    simp
  | i + 1, hi, j, hj => by
    rw [dS, List.getD_eq_getElem?_getD, List.getElem?_set]
    by_cases e : i = j
    · subst e
      rw [if_pos rfl, if_pos (by rw [dS_length]; omega), if_pos (by omega)]; rfl
    · rw [if_neg e, ← List.getD_eq_getElem?_getD, dS_get ws i (by omega) j hj]
      by_cases h : j < i
      · rw [if_pos h, if_pos (by omega)]
      · rw [if_neg h, if_neg (by omega)]
theorem dS_32 (ws : List Int) : dS ws 32 = outF ws := by
  apply List.ext_getElem
  · rw [dS_length]; simp [outF]
  · intro j h1 h2
    rw [dS_length] at h1
    have := dS_get ws 32 (by omega) j h1
    rw [if_pos h1, List.getD_eq_getElem?_getD, List.getElem?_eq_getElem (by rw [dS_length]; exact h1)] at this
    simp only [Option.getD_some] at this
    rw [this]
    simp [outF]
theorem outF_length (ws : List Int) : (outF ws).length = 32 := by simp [outF]
theorem digestF_length (b : List Int) : (digestF b).length = 32 := outF_length _
theorem info24 (l : List Int) (h : l.length = 32) : (Tryz.prog.info? 62).map (·.size) = some (cellsOf l).size := by rw [cellsOf_size, h]; kernel_rfl
theorem Row.copy {w w' : World} {g gc n : Nat} {hs rs : List Int} (V : Row w g hs rs n) (h : w'.heap[gc]? = some (.cells (stC hs rs n) 175 (0, 0))) : Row w' gc hs rs n := ⟨h, V.h8, V.r64, V.hU, V.rB, V.lim⟩
theorem stC_one (hs rs : List Int) (z : Int) : (stC hs rs z).all (·.oneCell') = true := by
  simp [stC, Value.oneCell']
/-- What is left of rest when its end was cleared. -/
theorem Row.cleared {w : World} {g n k : Nat} {hs rs : List Int} (V : Row w g hs rs n) (hk : k ≤ 64) :
    Row (w.setRow g ((stC hs rs n).toList.take (8 + k) ++ (List.replicate (64 - k) (0 : Int)).map (Value.int .u8) ++ (stC hs rs n).toList.drop (8 + k + (64 - k))).toArray) g hs (rs.take k ++ List.replicate (64 - k) 0) n := by
  have e := stC_splice V.h8 V.r64 (List.replicate (64 - k) (0 : Int)) k (by simp; omega) n
  rw [List.length_map, List.length_replicate] at e
  have e2 : rs.drop (k + (64 - k)) = [] := List.drop_of_length_le (by rw [V.r64]; omega)
  rw [e2, List.append_nil] at e
  refine ⟨?_, V.h8, by simp [V.r64]; omega, V.hU, ?_, V.lim⟩
  · rw [← e]; exact setRow_heap _ _ _ _ _ _ V.row
  · exact (V.rB.take k).append (fun i => by rw [List.getD_eq_getElem?_getD, List.getElem?_replicate]; split <;> simp)

set_option maxRecDepth 20000 in
set_option maxHeartbeats 3200000 in
theorem Sum_any (g : Nat) (B : List Int) (w : World) (hS : St w g B) : Calls Tryz.prog 59 #[.pointer (some ⟨g, 0, none⟩)] w fun e w' => e = .returned (.agg (cellsOf (digestF B))) ∧ Below w.heap.size w w' := by
  obtain ⟨rs, R, er⟩ := hS.ex
  clear hS
  have hglt := row_lt R.row
  obtain ⟨N, hN⟩ : ∃ z, z = B.length := ⟨_, rfl⟩
  obtain ⟨hs, hhs⟩ : ∃ z, z = chain B (nb B.length) := ⟨_, rfl⟩
  have HDG := Lib.hid (show digestF B = outF (blockF hs (pad (B.drop (64 * nb N))) N true) by rw [hhs, hN]; rfl)
  rw [← hhs, ← hN] at R
  rw [← hN] at er
  have hk := heldN_le N
  have HPD := Lib.hid (show rs.take (heldN N) ++ List.replicate (64 - heldN N) 0 = pad (B.drop (64 * nb N)) by
    rw [er]
    unfold pad
    congr 2
    have := congrArg List.length er
    rw [List.length_take, R.r64] at this
    omega)
  clear hN hhs er
  have R0 := Lib.hid (show Rws w (w.alloc (.cells (cellsOf (dS hs 0)) 62)) [(w.heap.size, cellsOf (dS hs 0), 62)] by simpa using (Rws.start w).alloc (cellsOf (dS hs 0)) 62)
  have HR0 := Lib.hid (R.of_block (w' := w.alloc (.cells (cellsOf (dS hs 0)) 62)) (Below.heap_alloc _ _ _ hglt))
  have HGL := Lib.hid hglt
  go_enter Tryz.func59, Tryz.ntmps59
  go_upto_region 3 with (fail)
  obtain ⟨w1, hw1⟩ : ∃ z, z = w.alloc (.cells (cellsOf (dS hs 0)) 62) := ⟨_, rfl⟩
  obtain ⟨g2, hg2⟩ : ∃ z, z = w.heap.size := ⟨_, rfl⟩
  change Code.wp _ _ _ _ (w.alloc (.cells (cellsOf (dS hs 0)) 62))
  rw [← hw1, ← hg2] at R0 ⊢
  rw [← hw1] at HR0
  have HG2 := Lib.hid (show g < g2 by omega)
  clear hw1 hg2 hglt R
  have HI := Lib.hid (show (Tryz.prog.info? 175).map (·.size) = some (stC hs rs N).size by rw [stC_size HR0.out.h8 HR0.out.r64]; kernel_rfl)
  have HZS := Lib.hid (show (stC [0, 0, 0, 0, 0, 0, 0, 0] rep0 0).size = (stC hs rs N).size by rw [stC_size HR0.out.h8 HR0.out.r64]; rfl)
  obtain ⟨w2, hst, hgw2, hr2, _⟩ := store_new (P := Tryz.prog) w1 (stC [0, 0, 0, 0, 0, 0, 0, 0] rep0 0) (stC hs rs N) 175 HZS.out (stC_one _ _ _)
  have R1 := Lib.hid (show Rws w w2 [(g2, cellsOf (dS hs 0), 62), (w1.heap.size, stC hs rs N, 175)] from R0.out.alloced _ _ hgw2 hr2)
  obtain ⟨Z49, hZ⟩ : ∃ z, z = stC [0, 0, 0, 0, 0, 0, 0, 0] rep0 0 := ⟨_, rfl⟩
  have hz : ∀ W, (zeroValue 175).run Tryz.prog W = .ok (.agg Z49) W := fun W => by rw [hZ]; exact zero49 W
  have hzs : Z49.size = 73 := by rw [hZ]; rfl
  have hcs : (stC hs rs N).size = 73 := stC_size HR0.out.h8 HR0.out.r64 _
  rw [← hZ] at hst
  have HST := Lib.hid hst
  have HRC := Lib.hid (HR0.out.copy (w' := w2) hr2)
  clear hst hgw2 hr2 hZ
  go_upto_region 4 with (first | (with_reducible refine wpList_load_row rfl 175 _ rfl g rfl 175 (stC hs rs N) (0, 0) _ HR0.out.row Tryz.underlying175 rfl HI.out ?_) | (rw [HST.out]; simp only [Result.andThen_ok]))
  obtain ⟨gc, hgc⟩ : ∃ z, z = w1.heap.size := ⟨_, rfl⟩
  rw [← hgc] at R1 HRC ⊢
  have HH := Lib.hid (held_any HRC.out)
  have HCL := Lib.hid (fun (k : Nat) (hk : k ≤ 64) => run_clear w2 0 gc (8 + k) (64 - k) (64 - k) (stC hs rs N) 175 HRC.out.row (by rw [stC_size HRC.out.h8 HRC.out.r64]; omega))
  have HRD := Lib.hid (HRC.out.cleared hk)
  obtain ⟨k, hke⟩ : ∃ z, z = heldN N := ⟨_, rfl⟩
  rw [← hke] at HH HRD HPD hk
  rw [HPD.out] at HRD
  have HCK := Lib.hid (HCL.out k hk)
  have HSR := Lib.hid (fun (cs : Array Value) => R1.out.setRow 1 rfl cs)
  obtain ⟨w3, hw3⟩ : ∃ z, z = w2.setRow gc ((stC hs rs N).toList.take (8 + k) ++ (List.replicate (64 - k) (0 : Int)).map (Value.int .u8) ++ (stC hs rs N).toList.drop (8 + k + (64 - k))).toArray := ⟨_, rfl⟩
  rw [← hw3] at HRD HCK
  have R2 := Lib.hid (show Rws w w3 [(g2, cellsOf (dS hs 0), 62), (gc, ((stC hs rs N).toList.take (8 + k) ++ (List.replicate (64 - k) (0 : Int)).map (Value.int .u8) ++ (stC hs rs N).toList.drop (8 + k + (64 - k))).toArray, 175)] by rw [hw3]; exact HSR.out _)
  have hk3 : (k : Int) ≤ 64 := by omega
  clear hw3 hgc hke HCL HSR hz hzs hcs HST
  have HZZ := Lib.hid (run_clear_none w2 0 (some ⟨gc, 8, none⟩) 0)
  have HWW := Lib.hid (show k = 64 → w3 = w2 from fun e => by
    have h1 := HCK.out
    subst e
    have h2 := run_clear_none w2 0 (some ⟨gc, 8 + 64, none⟩) 0
    have h3 := h1.symm.trans h2
    injection h3)
  go_cut [] (fun w' => w' = w3)
  case first =>
    by_cases hk64 : k = 64
    · have hww := HWW.out hk64
      subst hk64
      have HH2 := Lib.hid (show Calls Tryz.prog 75 #[.pointer (some ⟨gc, 0, none⟩)] w2 fun e w' => e = .returned (.int .i64 64) ∧ w2 = w' from HH.out)
      clear hk3 HH HCK HWW
      go_wp2_with fail
      refine HH2.out.mono ?_
      rintro e w9 ⟨rfl, rfl⟩
      go_wp2_with (rw [HZZ.out]; simp only [Result.andThen_ok])
      go_meet
      exact hww.symm
    · have hk4 : ¬ (64 : Int) = (k : Int) := by omega
      have hk5 : ¬ (k : Int) = 64 := by omega
      have hk6 : ¬ 64 = k := by omega
      clear HWW HZZ
      go_wp2_with fail
      refine HH.out.mono ?_
      rintro e w9 ⟨rfl, rfl⟩
      go_wp2_with (rw [HCK.out]; simp only [Result.andThen_ok])
      go_meet
      rfl
  case rest =>
  subst hcut
  go_wp2_with fail
  refine (press_any gc N hs _ true wc HRD.out).mono ?_
  rintro e w4 ⟨rfl, hg4, hR4⟩
  obtain ⟨ws, hws⟩ : ∃ z, z = blockF hs (pad (B.drop (64 * nb N))) N true := ⟨_, rfl⟩
  have HWS := Lib.hid hws
  rw [← hws] at hR4
  have R3 := Lib.hid (show Rws w (w4.alloc (.cells (cellsOf (dS ws 0)) 62)) [(g2, cellsOf (dS hs 0), 62), (gc, stC ws (pad (B.drop (64 * nb N))) N, 175), (w4.heap.size, cellsOf (dS ws 0), 62)] from (R2.out.change 1 rfl hg4 hR4.row).alloc (cellsOf (dS ws 0)) 62)
  have HU4 := Lib.hid hR4.hU
  have H84 := Lib.hid hR4.h8
  clear hws hg4 hR4 HRD HCK
  go_upto_region 7 with (fail)
  obtain ⟨w5, hw5⟩ : ∃ z, z = w4.alloc (.cells (cellsOf (dS ws 0)) 62) := ⟨_, rfl⟩
  obtain ⟨gd, hgd⟩ : ∃ z, z = w4.heap.size := ⟨_, rfl⟩
  change Code.wp _ _ _ _ (w4.alloc (.cells (cellsOf (dS ws 0)) 62))
  rw [← hw5, ← hgd] at R3 ⊢
  clear hw5 hgd
  go_wp2_with fail
  go_loopg [17] 32 (fun kq v17 w' => ∃ i : Nat, v17 = .int .i64 (i : Int) ∧ i + kq = 32 ∧ Rws w w' [(g2, cellsOf (dS hs 0), 62), (gc, stC ws (pad (B.drop (64 * nb N))) N, 175), (gd, cellsOf (dS ws i), 62)])
  case atStart => exact ⟨0, rfl, by omega, R3.out⟩
  case round =>
    obtain ⟨i, rfl, hi, hR⟩ := hrel
    have R4 := Lib.hid hR
    by_cases hlt : i < 32
    · have c1 : wr.cell? ⟨gc, i / 4, none⟩ = some (.int .u32 (ws.getD (i / 4) 0)) := by rw [cell_of_row _ _ _ _ _ _ (hR.at 1 rfl)]; exact stC_word H84.out _ (by omega) _
      have c2 : wr.cell? ⟨gd, i, none⟩ = some (.int .u8 ((dS ws i).getD i 0)) := by rw [cell_of_row _ _ _ _ _ _ (hR.at 2 rfl)]; exact cellsOf_get _ _ (by rw [dS_length]; exact hlt)
      have f1 := hR.f 2 rfl i
      have HN := Lib.hid (show Rws w (wr.setCell ⟨gd, i, none⟩ (.int .u8 ((ws.getD (i / 4) 0 / 2 ^ (8 * (i % 4))) % 256))) [(g2, cellsOf (dS hs 0), 62), (gc, stC ws (pad (B.drop (64 * nb N))) N, 175), (gd, cellsOf (dS ws (i + 1)), 62)] from hR.change 2 rfl (grown_setCell _ _ _ _) (by rw [setCell_row (hR.at 2 rfl), cellsOf_set]; rfl))
      obtain ⟨u0, u1⟩ := HU4.out (i / 4)
      have hand := and3 i (by omega)
      have i1 : (i : Int) < 32 := by omega
      have i0 : (0 : Int) ≤ (i : Int) := by omega
      have i2 : (0 : Int) ≤ (i : Int) / 4 := by omega
      have i3 : (i : Int) / 4 < 8 := by omega
      have i4 : (0 : Int) ≤ (i : Int) % 4 := by omega
      have i5 : (i : Int) % 4 < 4 := by omega
      generalize ws.getD (i / 4) 0 = x at *
      clear hR hlt
      go_wp2_with fail
      go_roundg (32 - (i + 1))
      case measure => omega
      case rel => exact ⟨i + 1, by go_num, by omega, HN.out⟩
    · have hi32 : i = 32 := by omega
      subst hi32
      rw [dS_32] at R4
      have HIZ := Lib.hid (info24 (outF ws) (outF_length ws))
      have HZ8 := Lib.hid (show (cellsOf (dS hs 0)).size = (cellsOf (outF ws)).size by rw [cellsOf_size, cellsOf_size, outF_length]; rfl)
      have hrow := Lib.hid (R4.out.at 2 rfl)
      have hrow2 := Lib.hid (R4.out.at 0 rfl)
      have R5 := Lib.hid (R4.out.setRow 0 rfl (cellsOf (outF ws)))
      have HDE := Lib.hid (show outF ws = digestF B by rw [HDG.out, HWS.out])
      clear hR hlt hi
      go_wp2_with (first | (with_reducible refine wpList_load_row rfl 62 _ rfl gd rfl 62 (cellsOf (outF ws)) (0, 0) _ hrow.out Tryz.underlying62 rfl HIZ.out ?_) | (with_reducible refine wpList_store_row rfl 62 _ _ rfl g2 (cellsOf (outF ws)) rfl rfl 62 (cellsOf (dS hs 0)) hrow2.out HIZ.out HZ8.out (cellsOf_one _) ?_))
      refine bodyPost_ret (results_cell rfl _ _ g2 62 (cellsOf (outF ws)) (0, 0) _ rfl (R5.out.at 0 rfl) Tryz.underlying62 rfl HIZ.out) rfl ?_
      exact ⟨by rw [← HDE.out], R5.out.bel⟩
end Go.Proofs.YtcklcffepedklaaGreat.Dg

namespace Go.Proofs.YtcklcffepedklaaGreat.Dg
open Go.RowKit

/-- Slices of bytes. -/
def InRows (w : World) (A : Option Addr) (L : List (List Int)) : Prop :=
  ∀ i, i < L.length → ∃ ad B c, A = some ad ∧ w.cell? (ad.add i) = some (.slice B (L.getD i []).length c) ∧ (L.getD i []).length ≤ c ∧ Ints .u8 w B (L.getD i []) ∧ Bytes (L.getD i [])
theorem InRows.below {w w' : World} {A : Option Addr} {L : List (List Int)} (h : InRows w A L) (hb : Below w.heap.size w w') : InRows w' A L := by
  intro i hi
  obtain ⟨ad, B, c, e, h1, h2, h3, h4⟩ := h i hi
  exact ⟨ad, B, c, e, (hb.cell (cell_lt h1)).trans h1, h2, h3.below hb, h4⟩
theorem InRows.nil (w : World) (A : Option Addr) : InRows w A [] := fun i hi => absurd hi (by simp)
/-- A sum under way. -/
structure DS (w0 w : World) (g2 g : Nat) (z : Array Value) (B : List Int) : Prop where
  bel : Below w0.heap.size w0 w
  row : w.heap[g2]? = some (.cells z 62 (0, 0))
  ge2 : w0.heap.size ≤ g2
  st : St w g B
  ge : w0.heap.size ≤ g
  ne : g2 ≠ g
theorem DS.more {w0 w w' : World} {g2 g : Nat} {z : Array Value} {B B' : List Int} (D : DS w0 w g2 g z B) (hg : w.grownBy w' (some g)) (hs : St w' g B') : DS w0 w' g2 g z B' :=
  ⟨D.bel.grown hg D.bel.size (fun k hk => by injection hk with hk; rw [← hk]; exact D.ge), (hg.block g2 (row_lt D.row) (fun e => D.ne (by injection e))).trans D.row, D.ge2, hs, D.ge, D.ne⟩
theorem take_flat (L : List (List Int)) (i : Nat) (h : i < L.length) : (L.take (i + 1)).flatten = (L.take i).flatten ++ L.getD i [] := by
  have e : L.take (i + 1) = L.take i ++ [L.getD i []] := by
    rw [List.take_add_one, List.getElem?_eq_getElem h, List.getD_eq_getElem?_getD, List.getElem?_eq_getElem h]; rfl
  rw [e, List.flatten_append, List.flatten_cons, List.flatten_nil, List.append_nil]
theorem flat_le (L : List (List Int)) (i : Nat) (h : i < L.length) : (L.take i).flatten.length + (L.getD i []).length ≤ L.flatten.length := by
  have h1 := congrArg List.length (take_flat L i h)
  rw [List.length_append] at h1
  have h2 : (L.take (i + 1)).flatten.length ≤ L.flatten.length := by
    have : L.flatten = (L.take (i + 1)).flatten ++ (L.drop (i + 1)).flatten := by rw [← List.flatten_append, List.take_append_drop]
    rw [this, List.length_append]; omega
  omega

set_option maxRecDepth 20000 in
set_option maxHeartbeats 1600000 in
theorem DSum_any (A : Option Addr) (n c : Nat) (L : List (List Int)) (w : World) (hn : L.length = n) (hnm : n < 4611686018427387904) (hnc : n ≤ c) (hI : InRows w A L) (hl : L.flatten.length < 4611686018427387904) :
    Calls Tryz.prog 35 #[.slice A n c] w fun e w' => e = .returned (.agg (cellsOf (digestF L.flatten))) ∧ Below w.heap.size w w' := by
  have HN := Lib.hid hn
  have HI := Lib.hid hI
  have HL := Lib.hid hl
  have HBW := Lib.hid (below_refl_grown (grown_alloc w (.cells (cellsOf (dS [] 0)) 62) none))
  have HRW := Lib.hid (heap_alloc_last w (.cells (cellsOf (dS [] 0)) 62))
  clear hn hI hl
  go_enter Tryz.func35, Tryz.ntmps35
  go_upto_region 1 with (fail)
  change Code.wp _ _ _ _ (w.alloc (.cells (cellsOf (dS [] 0)) 62))
  obtain ⟨w1, hw1⟩ : ∃ z, z = w.alloc (.cells (cellsOf (dS [] 0)) 62) := ⟨_, rfl⟩
  obtain ⟨g2, hg⟩ : ∃ z, z = w.heap.size := ⟨_, rfl⟩
  rw [← hw1] at HBW HRW ⊢
  rw [← hg] at HRW ⊢
  have HG2 := Lib.hid (show w.heap.size ≤ g2 by omega)
  have HG2L := Lib.hid (row_lt HRW.out)
  clear hw1 hg
  go_wp2_with fail
  refine (New_st w1).mono ?_
  rintro e w2 ⟨g, rfl, hg, hge, hS⟩
  have D0 := Lib.hid (show DS w w2 g2 g (cellsOf (dS [] 0)) (L.take 0).flatten from ⟨HBW.out.trans ((below_refl_grown hg).mono HBW.out.size), ((below_refl_grown hg).block g2 HG2L.out).trans HRW.out, HG2.out, by rw [List.take_zero]; exact hS, by have := HBW.out.size; omega, by have := HG2L.out; omega⟩)
  clear hg hge hS HBW HRW HG2 HG2L
  go_wp2_with fail
  go_loopg [9] n (fun kq v9 w' => ∃ i : Nat, v9 = .int .i64 (i : Int) ∧ i + kq = n ∧ DS w w' g2 g (cellsOf (dS [] 0)) (L.take i).flatten)
  case atStart => exact ⟨0, rfl, by omega, D0.out⟩
  case round =>
    obtain ⟨i, rfl, hi, hD⟩ := hrel
    have D := Lib.hid hD
    by_cases hlt : i < n
    · obtain ⟨ad, B, cb, rfl, h1, h2, h3, h4⟩ := (HI.out.below hD.bel) i (by rw [HN.out]; exact hlt)
      have HW := Lib.hid (Write_any g (L.getD i []).length cb (L.take i).flatten (L.getD i []) B wr hD.st rfl h2 h4 h3 (fun ad' e hp => by
        have h5 := HI.out i (by rw [HN.out]; exact hlt)
        obtain ⟨ad2, B2, c2, e2, k1, k2, k3, k4⟩ := h5
        have hsame : B2 = B := by
          injection e2 with e2
          subst e2
          have := (hD.bel.cell (cell_lt k1)).trans k1
          rw [h1] at this
          injection this with this
          injection this with this
          exact this.symm
        subst hsame
        obtain ⟨ad3, e3, hc3⟩ := k3 0 hp
        rw [e] at e3
        injection e3 with e3
        subst e3
        have := cell_block hc3
        have := hD.ge
        omega) (by have := flat_le L i (by rw [HN.out]; exact hlt); have := HL.out; omega))
      have HT := Lib.hid (take_flat L i (by rw [HN.out]; exact hlt))
      have i1 : (i : Int) < (n : Int) := by omega
      generalize L.getD i [] = b at *
      generalize hq : b.length = q at *
      clear hq h3 h4 hD hlt
      go_wp2_with fail
      refine HW.out.mono ?_
      rintro e w3 ⟨rfl, hg, hS⟩
      have DN := Lib.hid (D.out.more hg hS)
      rw [← HT.out] at DN
      clear hg hS HW
      go_wp2_with fail
      go_roundg (n - (i + 1))
      case measure => omega
      case rel => exact ⟨i + 1, by go_num, by omega, DN.out⟩
    · have hin : i = n := by omega
      subst hin
      have htk : L.take i = L := List.take_of_length_le (by rw [HN.out]; exact Nat.le_refl _)
      rw [htk] at D
      have HSM := Lib.hid (Sum_any g L.flatten wr D.out.st)
      have HIZ := Lib.hid (info24 (digestF L.flatten) (digestF_length _))
      have HZ8 := Lib.hid (show (cellsOf (dS [] 0)).size = (cellsOf (digestF L.flatten)).size by rw [cellsOf_size, cellsOf_size, digestF_length]; rfl)
      clear hD hlt htk
      have i1 : ¬ (i : Int) < (i : Int) := by omega
      clear i1
      go_wp2_with fail
      refine HSM.out.mono ?_
      rintro e w3 ⟨rfl, hb⟩
      have hrow2 := Lib.hid ((hb.block g2 (row_lt D.out.row)).trans D.out.row)
      have HBE := Lib.hid (D.out.bel.trans (hb.mono D.out.bel.size))
      clear hb HSM
      go_wp2_with (with_reducible refine wpList_store_row rfl 62 _ _ rfl g2 (cellsOf (digestF L.flatten)) rfl rfl 62 (cellsOf (dS [] 0)) hrow2.out HIZ.out HZ8.out (cellsOf_one _) ?_)
      refine bodyPost_ret (results_cell rfl _ _ g2 62 (cellsOf (digestF L.flatten)) (0, 0) _ rfl (setRow_heap _ _ _ _ _ _ hrow2.out) Tryz.underlying62 rfl HIZ.out) rfl ?_
      exact ⟨rfl, HBE.out.grown (grown_setRow _ _ _) HBE.out.size (fun k hk => by injection hk with hk; rw [← hk]; exact D.out.ge2)⟩
end Go.Proofs.YtcklcffepedklaaGreat.Dg
