/- Texts of the proof, one behind the other: extent: wrong, Right, at whatever extents. codec: numbers laid and read. -/
import Derived.Test.YtcklcffepedklaaGreatDoorM15
import Derived.Shelf.Abstract
import Derived.Test.YtcklcffepedklaaGreatDoorM02
namespace Go.Proofs.YtcklcffepedklaaGreatDoor
open Go.RowKit Go.Maps

/-- An extent: whatever its numbers are. -/
abbrev Xt := { r : Ky × (Int × Int) // r.1.Ok }
def encX (r : Xt) : List Value := r.val.1.cells ++ [.int .i64 r.val.2.1, .int .i64 r.val.2.2]
theorem encX_length (r : Xt) : (encX r).length = 35 := by simp [encX, Ky.cells_length r.property]
theorem encX_one (r : Xt) : ∀ u ∈ encX r, u.oneCell' = true := by
  intro u hu
  rcases List.mem_append.1 hu with hu | hu
  · exact Ky.cells_one _ u hu
  · simp only [List.mem_cons, List.not_mem_nil, or_false] at hu
    rcases hu with rfl | rfl <;> rfl
theorem encX_33 (r : Xt) : (encX r)[33]? = some (.int .i64 r.val.2.1) := by
  rw [encX, List.getElem?_append_right (by rw [Ky.cells_length r.property]; decide), Ky.cells_length r.property]; rfl
theorem encX_34 (r : Xt) : (encX r)[34]? = some (.int .i64 r.val.2.2) := by
  rw [encX, List.getElem?_append_right (by rw [Ky.cells_length r.property]; decide), Ky.cells_length r.property]; rfl
theorem sizeX (r : Xt) : (Tryz.prog.info? 135).map (·.size) = some (encX r).length := by rw [encX_length]; kernel_rfl
theorem sizeXA (r : Xt) : (Tryz.prog.info? 135).map (·.size) = some (encX r).toArray.size := by rw [List.size_toArray]; exact sizeX r
/-- Extents in a slice that begins at A. -/
def XAt (w : World) (A : Option Addr) (l : List Xt) : Prop := ∀ (i : Nat) (r : Xt), l[i]? = some r → ∃ g o, A = some ⟨g, o, none⟩ ∧ w.rangeAt g (o + i * 35) (encX r)
theorem XAt.below {w w' : World} {A : Option Addr} {l : List Xt} (h : XAt w A l) (hb : Below w.heap.size w w') : XAt w' A l := fun i r hi => by
  obtain ⟨g, o, e, hr⟩ := h i r hi
  exact ⟨g, o, e, rangeAt_block hr (hb.block g (range_lt hr (by rw [encX_length]; decide)))⟩
/-- An extent that may not be. -/
def wrongX (r : Xt) : Bool := decide (r.val.2.1 < 0) || decide (r.val.2.2 < 1) || decide (4096 < r.val.2.1) || decide (4096 - r.val.2.1 < r.val.2.2)
def rightX (l : List Xt) : Bool := decide (l.length ≤ 16384) && !l.any wrongX
set_option maxRecDepth 20000 in
theorem wrong_any (r : Xt) (w : World) : Calls Tryz.prog 99 #[.agg (encX r).toArray] w fun e w' => e = .returned (.bool (wrongX r)) ∧ Below w.heap.size w w' := by
  have hr := heap_alloc_last w (.cells (encX r).toArray 135)
  have hb := (Below.refl w.heap.size w).alloc (Nat.le_refl _) (.cells (encX r).toArray 135)
  have c1 := row_at hr (encX_33 r)
  have c2 := row_at hr (encX_34 r)
  have HB := Lib.hid hb
  obtain ⟨q, hq⟩ : ∃ q, wrongX r = q := ⟨_, rfl⟩
  rw [hq]
  unfold wrongX at hq
  obtain ⟨o, ho⟩ : ∃ o, r.val.2.1 = o := ⟨_, rfl⟩
  obtain ⟨m, hm⟩ : ∃ m, r.val.2.2 = m := ⟨_, rfl⟩
  rw [ho] at c1 hq
  rw [hm] at c2 hq
  have HQ := Lib.hid hq
  clear hr hb ho hm hq
  by_cases h1 : o < 0
  · go_enter Tryz.func99, Tryz.ntmps99
    go_wp2
    go_ret
    exact ⟨by rw [← HQ.out]; simp [h1], HB.out⟩
  by_cases h2 : m < 1
  · go_enter Tryz.func99, Tryz.ntmps99
    go_wp2
    go_ret
    exact ⟨by rw [← HQ.out]; simp [h2], HB.out⟩
  by_cases h3 : 4096 < o
  · go_enter Tryz.func99, Tryz.ntmps99
    go_wp2
    go_ret
    exact ⟨by rw [← HQ.out]; simp [h3], HB.out⟩
  have e1 : IntKind.i64.wrap (4096 - o) = 4096 - o := by rw [IntKind.wrap_i64]; omega
  by_cases h4 : 4096 - o < m
  · have hq' : q = true := by rw [← HQ.out]; simp [h4]
    go_enter Tryz.func99, Tryz.ntmps99
    go_wp2
    go_ret
    exact ⟨rfl, HB.out⟩
  · have hq' : q = false := by rw [← HQ.out]; simp [h1, h2, h3, h4]
    go_enter Tryz.func99, Tryz.ntmps99
    go_wp2
    go_ret
    exact ⟨rfl, HB.out⟩
set_option maxRecDepth 20000 in
theorem IdxX_any (A : Option Addr) (n c : Nat) (l : List Xt) (w : World) (hn : l.length = n) (hn1 : n ≤ 1000000000) (hA : XAt w A l) (fv : Value) (hfv : fv = .func (.func 99) #[] #[]) :
    Calls Tryz.prog 120 #[.slice A n c, fv] w fun e w' => ∃ d : Int, e = .returned (.int .i64 d) ∧ decide (0 ≤ d) = l.any wrongX ∧ Below w.heap.size w w' := by
  subst hfv
  have HN := Lib.hid hn
  have HA := Lib.hid hA
  obtain ⟨q, hq⟩ : ∃ q, l.any wrongX = q := ⟨_, rfl⟩
  rw [hq]
  have HQ := Lib.hid hq
  clear hn hA hq
  go_enter Tryz.func120, Tryz.ntmps120
  go_upto_region 2 with (fail)
  go_loopg [5, 8] n (fun kq v5 v8 w' => ∃ i : Nat, v8 = .int .i64 (i : Int) ∧ i + kq = n ∧ Below w.heap.size w w' ∧ (l.drop i).any wrongX = q)
  case atStart => exact ⟨0, rfl, by omega, Below.refl _ _, HQ.out⟩
  case round =>
    obtain ⟨i, rfl, hi, hb, hqi⟩ := hrel
    have HB := Lib.hid hb
    have HQI := Lib.hid hqi
    clear hqi
    by_cases hlt : i < n
    · have hil : i < l.length := by have := HN.out; omega
      obtain ⟨r, hr⟩ : ∃ r, l[i]? = some r := ⟨_, List.getElem?_eq_getElem hil⟩
      obtain ⟨g, o, rfl, hrg⟩ := (HA.out.below hb) i r hr
      have HW := Lib.hid (wrong_any r wr)
      have hdr : l.drop i = r :: l.drop (i + 1) := by
        rw [List.drop_eq_getElem_cons hil]
        rw [List.getElem?_eq_getElem hil] at hr
        injection hr with hr; rw [hr]
      have HD := Lib.hid hdr
      have HRG := Lib.hid hrg
      have hi0 : (0 : Int) ≤ (i : Int) := by omega
      have hi1 : (i : Int) < (n : Int) := by omega
      obtain ⟨b, hb'⟩ : ∃ b, wrongX r = b := ⟨_, rfl⟩
      rw [hb'] at HW
      have HBB := Lib.hid hb'
      clear hr hb hdr hil hb' hrg
      go_wp2_with (with_reducible refine Go.wpList_load_mid rfl 135 _ rfl g (o + i * 35) rfl (encX r) _ HRG.out Tryz.underlying135 rfl (sizeX r) ?_)
      refine HW.out.mono ?_
      rintro e w2 ⟨rfl, hb2⟩
      have HB2 := Lib.hid (HB.out.trans (hb2.mono HB.out.size))
      clear hb2 HW
      cases b with
      | false =>
        go_wp2_with fail
        go_roundg (n - (i + 1))
        case measure => omega
        case rel => exact ⟨i + 1, by go_num, by omega, HB2.out, by have := HQI.out; rw [HD.out, List.any_cons, HBB.out, Bool.false_or] at this; exact this⟩
      | true =>
        go_wp2_with fail
        go_ret
        exact ⟨i, rfl, by have := HQI.out; rw [HD.out, List.any_cons, HBB.out, Bool.true_or] at this; rw [← this]; exact decide_eq_true (by omega), HB2.out⟩
    · obtain rfl : i = n := by omega
      clear hb hlt
      go_wp2_with fail
      go_ret
      exact ⟨-1, rfl, by have := HQI.out; rw [List.drop_of_length_le (by rw [HN.out]; exact Nat.le_refl _)] at this; rw [← this]; rfl, HB.out⟩
set_option maxRecDepth 20000 in
theorem Right_any (A : Option Addr) (n c : Nat) (l : List Xt) (w : World) (hn : l.length = n) (hn1 : n ≤ 1000000000) (hA : XAt w A l) :
    Calls Tryz.prog 76 #[.slice A n c] w fun e w' => e = .returned (.bool (rightX l)) ∧ Below w.heap.size w w' := by
  obtain ⟨a, ha⟩ : ∃ a, l.any wrongX = a := ⟨_, rfl⟩
  have hC : Calls Tryz.prog 98 #[.slice A n c, .func (.func 99) #[] #[]] w fun e w' => e = .returned (.bool a) ∧ Below w.heap.size w w' := by
    have HI := Lib.hid (IdxX_any A n c l w hn hn1 hA _ rfl)
    rw [ha] at HI
    clear hn hA hn1 ha
    go_enter Tryz.func98, Tryz.ntmps98
    go_wp2_with fail
    refine HI.out.mono ?_
    rintro e w2 ⟨d, rfl, hd, hb2⟩
    have HB := Lib.hid hb2
    have HD := Lib.hid hd
    clear hb2 HI hd
    go_wp2
    go_ret
    exact ⟨by rw [← HD.out]; rfl, HB.out⟩
  have HC := Lib.hid hC
  obtain ⟨q, hq⟩ : ∃ q, rightX l = q := ⟨_, rfl⟩
  rw [hq]
  have HQ := Lib.hid (show q = (decide (n ≤ 16384) && !a) by rw [← hq, rightX, ha, hn])
  clear hn hA hC ha hq
  by_cases h16 : n ≤ 16384
  · have d1 : decide ((n : Int) ≤ 16384) = true := decide_eq_true (by omega)
    have HH := Lib.hid h16
    clear h16
    go_enter Tryz.func76, Tryz.ntmps76
    go_wp2_with fail
    refine HC.out.mono ?_
    rintro e w2 ⟨rfl, hb2⟩
    have HB := Lib.hid hb2
    clear hb2 HC
    go_wp2
    go_ret
    exact ⟨by rw [HQ.out, decide_eq_true HH.out]; simp, HB.out⟩
  · have d1 : ¬ n ≤ 16384 := h16
    have HH := Lib.hid h16
    clear HC
    go_enter Tryz.func76, Tryz.ntmps76
    go_wp2
    go_ret
    exact ⟨by rw [HQ.out, decide_eq_false HH.out]; rfl, Below.refl _ _⟩
end Go.Proofs.YtcklcffepedklaaGreatDoor

namespace Go.Proofs.YtcklcffepedklaaGreatDoor
open Go.RowKit

/-- What Put does: a new row. -/
def NewRow (l : List Int) (w : World) (e : Ending) (w' : World) : Prop := ∃ v, e = .returned v ∧ OwnB w' w.heap.size v l ∧ Below w.heap.size w w'

theorem make_cap (n m : Nat) (hn : n ≤ m) (hm : m ≤ 1000000000000) (W : World) : (Instr.makeSlice 33 (.int .i64 (n : Int)) (.int .i64 (m : Int))).run Tryz.prog W = .ok (.slice (some ⟨W.heap.size, 0, none⟩) n m) (W.alloc (.cells (List.replicate m (Value.int .u8 0)).toArray 5)) := by
  obtain ⟨i0, hi, hz0, hz1, hz2⟩ := info_parts Tryz.info5
  have := run_make (P := Tryz.prog) W 33 5 i0 (.int .u8 0) Tryz.underlying33 hi hz0 .i64 .i64 (n : Int) (m : Int) (by omega) (by omega) (by rw [hz2]; omega) (by omega)
  rw [Int.toNat_natCast, Int.toNat_natCast, hz1, Nat.mul_one] at this
  rw [this, ← madeCells_rep]
  rfl

theorem be_byte (x k : Nat) : (x : Int) / 2 ^ ((k + 1) * 8 - 8) % 256 = ((x / 256 ^ k % 256 : Nat) : Int) := by
  rw [show (k + 1) * 8 - 8 = 8 * k from by omega, Int.pow_mul, show (2 : Int) ^ 8 = ((256 : Nat) : Int) from rfl, ← Int.natCast_pow, ← Int.natCast_ediv, show (256 : Int) = ((256 : Nat) : Int) from rfl, ← Int.natCast_emod]

set_option maxRecDepth 20000 in
set_option maxHeartbeats 800000 in
theorem Put_any (A : Option Addr) (n c : Nat) (l : List Int) (x many : Nat) (w : World) (hn : l.length = n) (hl : n ≤ 500000000000) (hI : Ints .u8 w A l) (hx : x < 18446744073709551616) (hm0 : 0 < many) (hm : many ≤ 8) :
    Calls Tryz.prog 21 #[.slice A n c, .int .u64 x, .int .i64 many] w (NewRow (l ++ beL x many) w) := by
  have hmk := make_cap n (n + many) (by omega) (by omega)
  obtain ⟨Z, hZ⟩ : ∃ Z, Z = List.replicate (n + many) (Value.int .u8 0) := ⟨_, rfl⟩
  have HZ := Lib.hid (show Z.length = n + many by rw [hZ, List.length_replicate])
  rw [← hZ] at hmk
  clear hZ
  have hcast : ((n : Int) + (many : Int)) = ((n + many : Nat) : Int) := by omega
  have HN := Lib.hid hn
  have HI := Lib.hid hI
  have HI2 := Lib.hid (hI.grown (grown_alloc w (.cells Z.toArray 5) none) (fun _ _ _ h => by cases h))
  have HR := Lib.hid (heap_alloc_last w (.cells Z.toArray 5))
  have HB := Lib.hid ((Below.refl w.heap.size w).alloc (Nat.le_refl _) (.cells Z.toArray 5))
  have HU := Lib.hid Tryz.underlying33
  have HS := Lib.hid (show (Tryz.prog.info? 5).map (·.size) = some 1 by kernel_rfl)
  rw [← hcast] at hmk
  have hm1 : min (many : Int) 8 = (many : Int) := by omega
  have hm2 : max 0 (many : Int) = (many : Int) := by omega
  clear hn hI hcast
  go_enter Tryz.func21, Tryz.ntmps21
  go_wp2_with (with_reducible refine wpList_copy_splice rfl _ _ 33 33 rfl 5 HU.out HS.out (some ⟨w.heap.size, 0, none⟩) A n (n + many) n c rfl rfl w.heap.size 0 Z 5 HR.out (l.map (Value.int .u8)) ?c1 ?c2 ?c3 (ints_one _ _) w.heap.size w HB.out (Nat.le_refl _) ?_)
  case c1 => rw [List.length_map, HN.out]; exact (Nat.min_eq_left (Nat.le_refl n)).symm
  case c2 =>
    intro h0
    obtain ⟨ad, e, _⟩ := HI2.out 0 h0
    refine ⟨ad, e, fun j v hj => ?_⟩
    have hjl : j < l.length := by
      rcases Nat.lt_or_ge j l.length with h | h
      · exact h
      · rw [List.getElem?_eq_none h] at hj; cases hj
    obtain ⟨ad', e', hc⟩ := HI2.out j hjl
    rw [e] at e'; injection e' with e'; subst e'
    rw [hc, List.getD_eq_getElem?_getD, hj]; rfl
  case c3 => rw [List.length_map, HN.out, HZ.out]; omega
  intro w2 HR2 hb2
  have HO := Lib.hid (show OwnB w2 w.heap.size (.slice (some ⟨w.heap.size, 0, none⟩) n (n + many)) l from by
    refine ⟨by simp, .inr ⟨w.heap.size, n + many, _, by rw [HN.out], Nat.le_refl _, HR2.out, by rw [HN.out]; omega, by unfold maxLen; omega, ?_, ?_⟩⟩
    · rw [List.size_toArray, length_splice _ _ _ (by rw [List.length_map, HN.out, HZ.out]; omega), HZ.out, Nat.mul_one]
    · show (splice Z 0 (l.map (Value.int .u8))).take (l.length * 1) = _
      unfold splice
      rw [List.take_zero, List.nil_append, List.take_append_of_le_length (by simp), List.take_of_length_le (by simp)])
  have HB2 := Lib.hid hb2
  have hws := hb2.size
  clear hb2 HR2
  go_wp2_with fail
  go_loopg [7, 8] many (fun kq v7 v8 w' => v8 = .int .i64 ((kq : Int) * 8 - 8) ∧ kq ≤ many ∧ ∃ acc, acc.length + kq ≤ n + many ∧ OwnB w' w.heap.size v7 acc ∧ Below w.heap.size w w' ∧ Hid (acc ++ beL x kq = l ++ beL x many))
  case atStart => exact ⟨by go_num, Nat.le_refl _, l, by rw [HN.out]; omega, HO.out, HB2.out, Lib.hid rfl⟩
  case round =>
    obtain ⟨rfl, hkm, acc, hal, hown, hb, HE⟩ := hrel
    cases gk with
    | zero =>
      have HOW := Lib.hid hown
      have HBB := Lib.hid hb
      have HEE := Lib.hid (show acc = l ++ beL x many by rw [← HE.out]; simp [beL])
      clear hown hb HE
      go_wp2
      go_ret
      exact ⟨_, rfl, by rw [← HEE.out]; exact HOW.out, HBB.out⟩
    | succ k =>
      have HOW := Lib.hid hown
      have HBB := Lib.hid hb
      have hsz := hb.size
      have HEE := Lib.hid (show (acc ++ [((x / 256 ^ k % 256 : Nat) : Int)]) ++ beL x k = l ++ beL x many by rw [← HE.out]; simp [beL])
      have HSH := Lib.hid (be_byte x k)
      clear hown hb HE
      go_wp2_with (at_builtin; refine wpList_app1 EB rfl _ _ rfl w.heap.size _ .u8 acc rfl HOW.out ((x : Int) / 2 ^ ((k + 1) * 8 - 8) % 256) rfl (by omega) (by decide) hsz ?_)
      intro v' w' hown' hbel _
      rw [HSH.out] at hown'
      have HO' := Lib.hid hown'
      have HB' := Lib.hid (hbel _ _ HBB.out (Nat.le_refl _))
      clear hown' hbel
      go_wp2_with fail
      go_roundg k
      case measure => omega
      case rel => exact ⟨by go_num, by omega, acc ++ [((x / 256 ^ k % 256 : Nat) : Int)], by rw [List.length_append, List.length_singleton]; omega, by rw [OwnB, List.length_append, List.map_append]; exact HO'.out, HB'.out, HEE⟩
end Go.Proofs.YtcklcffepedklaaGreatDoor
