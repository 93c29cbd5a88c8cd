/- digest: the walk of Write. -/
import Derived.Test.YtehmnkkfoopanaaState
namespace Go.Proofs.Ytehmnkkfoopanaa
open Go.RowKit

theorem Write_nil (v : Value) (w : World) : Calls Try.prog 16 #[.pointer none, v] w fun e w' => e = .returned (.tuple #[]) ∧ w = w' := by
  go_enter Try.func16, Try.ntmps16
  go_wp2
  first | (refine bodyPost_ret (results_none rfl _ _ _) rfl ?_; exact ⟨rfl, rfl⟩) | trace_state
theorem grown_setRow (w : World) (g : Nat) (cs : Array Value) : w.grownBy (w.setRow g cs) (some g) := ⟨rfl, rfl, rfl, by simp, fun j _ hne => setRow_other _ _ _ _ (fun e => hne (by rw [e]))⟩
theorem map_add_zero (A : Option Addr) : A.map (·.add 0) = A := by cases A <;> simp [Addr.add]
theorem info5s : (Try.prog.info? 5).map (·.size) = some 1 := by kernel_rfl
/-- What a round finds in rest: a state, or one whose block was taken. -/
structure Rest (w : World) (g : Nat) (B hs rs : List Int) (k : Nat) : Prop where
  row : Row w g hs rs B.length
  kle : k < 64
  ex : ∀ x : List Int, 0 < x.length → k + x.length ≤ 64 → 64 * nb (B ++ x).length + k = B.length ∧ hs = chain B (nb (B ++ x).length) ∧ rs.take k = B.drop (64 * nb (B ++ x).length)
theorem Rest.of_short {w : World} {g : Nat} {B rs : List Int} (R : Row w g (chain B (nb B.length)) rs B.length) (e : rs.take (heldN B.length) = B.drop (64 * nb B.length)) (hk : heldN B.length ≠ 64) : Rest w g B (chain B (nb B.length)) rs (heldN B.length) := by
  have h1 := heldN_le B.length
  refine ⟨R, by omega, fun x hx hkx => ?_⟩
  have hlen : (B ++ x).length = B.length + x.length := List.length_append
  have hn : nb (B ++ x).length = nb B.length := by
    unfold nb heldN at *
    rw [hlen]
    split at hkx <;> omega
  rw [hn]
  refine ⟨?_, rfl, e⟩
  unfold nb heldN at *
  split <;> omega
theorem Rest.of_full {w : World} {g : Nat} {B rs : List Int} (R : Row w g (blockF (chain B (nb B.length)) rs B.length false) rs B.length) (e : rs.take (heldN B.length) = B.drop (64 * nb B.length)) (r64 : rs.length = 64) (hk : heldN B.length = 64) : Rest w g B (blockF (chain B (nb B.length)) rs B.length false) rs 0 := by
  refine ⟨R, by omega, fun x hx hkx => ?_⟩
  have hlen : (B ++ x).length = B.length + x.length := List.length_append
  have hn : nb (B ++ x).length = nb B.length + 1 := by
    unfold nb heldN at *
    rw [hlen]
    split at hk <;> omega
  have hN : B.length = 64 * (nb B.length + 1) := by
    unfold nb heldN at *
    split at hk <;> omega
  rw [hk, List.take_of_length_le (by omega)] at e
  rw [hn]
  refine ⟨by omega, ?_, ?_⟩
  · show _ = blockF (chain B (nb B.length)) ((B.drop (64 * nb B.length)).take 64) (64 * (nb B.length + 1)) false
    rw [← e, List.take_of_length_le (by omega), ← hN]
  · rw [List.take_zero, List.drop_of_length_le (by omega)]
/-- The world behind a round. -/
theorem Rest.done {w : World} {g : Nat} {B hs rs x : List Int} {k : Nat} (R : Rest w g B hs rs k) (hx : 0 < x.length) (hk : k + x.length ≤ 64) (hxB : Bytes x) (hl : (B ++ x).length < 4611686018427387904) :
    St ((w.setRow g ((stC hs rs (B.length : Nat)).toList.take (8 + k) ++ x.map (Value.int .u8) ++ (stC hs rs (B.length : Nat)).toList.drop (8 + k + (x.map (Value.int .u8)).length)).toArray).setCell ⟨g, 72, none⟩ (.int .u64 ((B.length : Int) + (x.length : Int)))) g (B ++ x) := by
  obtain ⟨e1, e2, e3⟩ := R.ex x hx hk
  refine St.more hx R.row.rB hxB R.row.h8 R.row.hU R.row.r64 hk hl e1 e2 e3 ?_
  have hr := setRow_heap w g _ ((stC hs rs (B.length : Nat)).toList.take (8 + k) ++ x.map (Value.int .u8) ++ (stC hs rs (B.length : Nat)).toList.drop (8 + k + (x.map (Value.int .u8)).length)).toArray _ _ R.row.row
  rw [setCell_row hr, stC_splice R.row.h8 R.row.r64 x k hk, stC_num R.row.h8 (splice_length R.row.r64 hk)]
  congr 3
  simp

set_option maxRecDepth 20000 in
set_option maxHeartbeats 3200000 in
theorem Write_any (g q c : Nat) (B b : List Int) (A : Option Addr) (w : World) (hS : St w g B) (hq : b.length = q) (hqc : q ≤ c) (hb : Bytes b) (hI : Ints .u8 w A b) (hA : ∀ ad, A = some ad → 0 < q → ad.block ≠ g) (hl : B.length + q < 4611686018427387904) :
    Calls Try.prog 16 #[.pointer (some ⟨g, 0, none⟩), .slice A q c] w fun e w' => e = .returned (.tuple #[]) ∧ w.grownBy w' (some g) ∧ St w' g (B ++ b) := by
  have HS := Lib.hid hS
  have HQ := Lib.hid hq
  have HB := Lib.hid hb
  have HI := Lib.hid hI
  have HA := Lib.hid hA
  have HMZ := Lib.hid (map_add_zero A)
  clear hS hq hb hI hA
  go_enter Try.func16, Try.ntmps16
  go_wp2_with fail
  go_loopg [1] q (fun kq v1 w' => ∃ (m : Nat) (A' : Option Addr), v1 = .slice A' (q - m) (c - m) ∧ (m < q → A' = A.map (·.add m)) ∧ m + kq = q ∧ w.grownBy w' (some g) ∧ St w' g (B ++ b.take m))
  case atStart => exact ⟨0, A, rfl, fun _ => HMZ.out.symm, by omega, World.grownBy.refl _ _, by rw [List.take_zero, List.append_nil]; exact HS.out⟩
  case round =>
    obtain ⟨m, A', rfl, hAA, hm, hg, hS⟩ := hrel
    have HG := Lib.hid hg
    by_cases hlt : m < q
    · obtain ⟨ad, rfl, _⟩ := HI.out m (by rw [HQ.out]; exact hlt)
      obtain rfl : A' = some (ad.add m) := hAA hlt
      clear hAA
      obtain ⟨rs, R, er⟩ := hS.ex
      obtain ⟨BB, hBB⟩ : ∃ z, z = B ++ b.take m := ⟨_, rfl⟩
      rw [← hBB] at R er
      have hBL : BB.length = B.length + m := by rw [hBB, List.length_append, List.length_take, HQ.out]; omega
      have HH := Lib.hid (held_any R)
      have hqm : (((q - m : Nat) : Int) > 0) := by omega
            -- the rest of the round, from a state whose rest has room
      have HEND := Lib.hid (fun (W : World) (hs' : List Int) (k : Nat) (hgr : w.grownBy W (some g)) (P : Rest W g BB hs' rs k) (n : Nat) (hn : n = min (q - m) (64 - k)) => (show
        (∃ V : World, (Builtin.copy_ #[22, 22] 3 #[.slice (some ⟨g, 8 + k, none⟩) (64 - k) (64 - k), .slice (some (ad.add m)) (q - m) (c - m)]).run Try.prog W = .ok (.int .i64 (n : Int)) V ∧ V.cell? ⟨g, 72, none⟩ = some (.int .u64 BB.length) ∧ V.frozen? ⟨g, 72, none⟩ = false ∧
          St (V.setCell ⟨g, 72, none⟩ (.int .u64 ((BB.length : Int) + (n : Int)))) g (B ++ b.take (m + n)) ∧ w.grownBy (V.setCell ⟨g, 72, none⟩ (.int .u64 ((BB.length : Int) + (n : Int)))) (some g)) by
        have hk := P.kle
        obtain ⟨x, hx⟩ : ∃ x, x = (b.drop m).take n := ⟨_, rfl⟩
        have hxl : x.length = n := by rw [hx, List.length_take, List.length_drop, HQ.out]; omega
        have hxB : Bytes x := by rw [hx]; exact (HB.out.drop m).take n
        have hbx : B ++ b.take (m + n) = BB ++ x := by rw [hBB, hx, List.append_assoc, ← List.take_add]
        have hsrc : ∀ j v, (x.map (Value.int .u8))[j]? = some v → W.cell? ((ad.add m).add j) = some v := by
          intro j v hj
          have hjl : j < x.length := by
            rcases Nat.lt_or_ge j x.length with h | h
            · exact h
            · rw [List.getElem?_eq_none (by simpa using h)] at hj; cases hj
          obtain ⟨ad', e', hc⟩ := HI.out (m + j) (by rw [HQ.out]; omega)
          obtain rfl : ad = ad' := by injection e'
          rw [add_add]
          have hne := HA.out ad rfl (by omega)
          refine ((World.cell?_of_block (w := w) (w' := W) (a := ad.add (m + j)) (by rw [add_block]; exact hgr.block _ (cell_block hc) (fun e => hne (by injection e)))).trans hc).trans ?_
          rw [← hj, List.getElem?_map, hx, List.getElem?_take, if_pos (by omega), List.getElem?_drop, List.getD_eq_getElem?_getD, List.getElem?_eq_getElem (by rw [HQ.out]; omega)]
          rfl
        have hrun := run_copy_row Try.prog W 22 22 3 5 g (8 + k) (64 - k) (64 - k) (ad.add m) (q - m) (c - m) _ 49 (x.map (Value.int .u8)) Try.underlying22 info5s P.row.row (by rw [List.length_map, hxl, hn]) hsrc
          (by rw [List.length_map, stC_size P.row.h8 P.row.r64]; omega) (ints_one .u8 x)
        have hdone := P.done (x := x) (by omega) (by omega) hxB (by rw [← hbx, List.length_append, List.length_take, HQ.out]; omega)
        rw [List.length_map, hxl] at hrun
        rw [hxl, ← hbx] at hdone
        have hrr := setRow_heap W g _ ((stC hs' rs (BB.length : Nat)).toList.take (8 + k) ++ x.map (Value.int .u8) ++ (stC hs' rs (BB.length : Nat)).toList.drop (8 + k + (x.map (Value.int .u8)).length)).toArray _ _ P.row.row
        rw [List.length_map, hxl] at hrr hdone
        refine ⟨_, hrun, ?_, free_row hrr 72, hdone, ?_⟩
        · rw [cell_of_row _ _ _ _ _ _ hrr]
          have e := stC_splice P.row.h8 P.row.r64 x k (by omega) (BB.length : Nat)
          rw [List.length_map, hxl] at e
          rw [e]
          have e2 := splice_length (x := x) (k := k) P.row.r64 (by omega)
          rw [hxl] at e2
          exact stC_n P.row.h8 e2 _
        · exact grown_trans hgr (grown_trans (grown_setRow W g _) (grown_setCell _ _ _ _))))
      obtain ⟨NN, hNN⟩ : ∃ z, z = BB.length := ⟨_, rfl⟩
      have HPR := Lib.hid (press_any g BB.length _ rs false wr R)
      rw [← hNN] at HPR HEND HH hBL
      by_cases hk : heldN BB.length = 64
      · have HPP := Lib.hid (fun (W : World) (R' : Row W g (blockF (chain BB (nb BB.length)) rs BB.length false) rs BB.length) => Rest.of_full R' er R.r64 hk)
        rw [hNN, hk] at HH
        rw [← hNN] at HPP
        clear R er hk hS hg hBB hNN
        go_wp2_with fail
        refine HH.out.mono ?_
        rintro e w5 ⟨rfl, rfl⟩
        go_wp2_with fail
        refine HPR.out.mono ?_
        rintro e w5 ⟨rfl, hg5, hR5⟩
        have hgr := grown_trans HG.out hg5
        have HP := Lib.hid (HPP.out w5 (by exact hR5))
        clear hg5 hR5 HPR HPP
        obtain ⟨n, hn⟩ : ∃ n, n = min (q - m) (64 - 0) := ⟨_, rfl⟩
        obtain ⟨V, hrun, hc72, hf72, hSt, hGr⟩ := HEND.out w5 _ 0 hgr HP.out n hn
        simp only [Nat.add_zero, Nat.sub_zero] at hrun
        have HRUN := Lib.hid hrun
        have HST := Lib.hid hSt
        have HGR := Lib.hid hGr
        have n1 : n ≤ q - m := by omega
        have n2 : n ≤ 64 := by omega
        have n0 : 0 < n := by have := HP.out.kle; omega
        have hNn : (NN : Int) + (n : Int) < 4611686018427387904 := by omega
        have hcm : n ≤ c - m := by omega
        clear hrun hSt hGr hn HH hBL
        go_upto_region 8 with (rw [HRUN.out]; simp only [Result.andThen_ok])
        have hle : q - m ≤ c - m := by omega
        have HE1 := Lib.hid (show q - m - n = q - (m + n) by omega)
        have HE3 := Lib.hid (show ∀ c1, c1 = c - m → c1 = n → ¬ m + n < q by omega)
        have HE4 := Lib.hid (show ∀ c1, c1 = c - m → c1 = n → c - (m + n) = 0 by omega)
        have HE2 := Lib.hid (show c - m - n = c - (m + n) by omega)
        have HM1 := Lib.hid (show m + n + (q - (m + n)) = q by omega)
        have HM2 := Lib.hid (show q - (m + n) < gk by omega)
        clear HEND HRUN hc72 hf72 hqm hcm hNn hm
        generalize q - m = q1 at *
        generalize hc1 : c - m = c1 at *
        have HC1 := Lib.hid hc1
        clear hc1
        go_wp2_with fail
        · have hcn : c1 = n := by assumption
          go_roundg (q - (m + n))
          case measure => exact HM2.out
          case rel => exact ⟨m + n, _, by rw [HE1.out, HE4.out c1 rfl hcn], fun h => absurd h (HE3.out c1 rfl hcn), HM1.out, HGR.out, HST.out⟩
        · go_roundg (q - (m + n))
          case measure => exact HM2.out
          case rel => exact ⟨m + n, _, by rw [HE1.out, HE2.out], fun _ => by rw [add_add]; rfl, HM1.out, HGR.out, HST.out⟩
      · have HP := Lib.hid (Rest.of_short R er hk)
        have hk1 := heldN_le BB.length
        rw [hNN] at HH
        obtain ⟨k, hk2⟩ : ∃ z, z = heldN BB.length := ⟨_, rfl⟩
        rw [← hk2] at HP HH hk1 hk
        have hke : ((k : Int) == 64) = false := by simp; omega
        have hk3 : (k : Int) ≤ 64 := by omega
        have hgr := hg
        clear R er hS hg hBB hNN hk2
        go_wp2_with fail
        refine HH.out.mono ?_
        rintro e w5 ⟨rfl, rfl⟩
        obtain ⟨n, hn⟩ : ∃ n, n = min (q - m) (64 - k) := ⟨_, rfl⟩
        obtain ⟨V, hrun, hc72, hf72, hSt, hGr⟩ := HEND.out wr _ k hgr HP.out n hn
        have HRUN := Lib.hid hrun
        have HST := Lib.hid hSt
        have HGR := Lib.hid hGr
        have n1 : n ≤ q - m := by omega
        have n2 : n ≤ 64 := by omega
        have n0 : 0 < n := by have := HP.out.kle; omega
        have hNn : (NN : Int) + (n : Int) < 4611686018427387904 := by omega
        have hcm : n ≤ c - m := by omega
        clear hrun hSt hGr hn HH hBL
        go_upto_region 8 with (rw [HRUN.out]; simp only [Result.andThen_ok])
        have hle : q - m ≤ c - m := by omega
        have HE1 := Lib.hid (show q - m - n = q - (m + n) by omega)
        have HE3 := Lib.hid (show ∀ c1, c1 = c - m → c1 = n → ¬ m + n < q by omega)
        have HE4 := Lib.hid (show ∀ c1, c1 = c - m → c1 = n → c - (m + n) = 0 by omega)
        have HE2 := Lib.hid (show c - m - n = c - (m + n) by omega)
        have HM1 := Lib.hid (show m + n + (q - (m + n)) = q by omega)
        have HM2 := Lib.hid (show q - (m + n) < gk by omega)
        clear HEND HRUN hc72 hf72 hqm hcm hNn hm
        generalize q - m = q1 at *
        generalize hc1 : c - m = c1 at *
        have HC1 := Lib.hid hc1
        clear hc1
        go_wp2_with fail
        · have hcn : c1 = n := by assumption
          go_roundg (q - (m + n))
          case measure => exact HM2.out
          case rel => exact ⟨m + n, _, by rw [HE1.out, HE4.out c1 rfl hcn], fun h => absurd h (HE3.out c1 rfl hcn), HM1.out, HGR.out, HST.out⟩
        · go_roundg (q - (m + n))
          case measure => exact HM2.out
          case rel => exact ⟨m + n, _, by rw [HE1.out, HE2.out], fun _ => by rw [add_add]; rfl, HM1.out, HGR.out, HST.out⟩
    · have hmq : m = q := by omega
      subst hmq
      have hbt : b.take m = b := List.take_of_length_le (by rw [HQ.out]; exact Nat.le_refl _)
      rw [hbt] at hS
      have HS2 := Lib.hid hS
      clear hS hg hbt hAA
      have hz : m - m = 0 := Nat.sub_self m
      go_wp2_with fail
      go_end0
      exact ⟨rfl, HG.out, HS2.out⟩
end Go.Proofs.Ytehmnkkfoopanaa
