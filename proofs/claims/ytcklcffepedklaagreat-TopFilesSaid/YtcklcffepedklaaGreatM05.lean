/- Texts of the proof, one behind the other: vault: Get. slices: BinarySearch among 0 .. m - 1 for m; Insert at the end. index: what it holds; New, Get. index: what the updates of its maps leave. -/
import Derived.Test.YtcklcffepedklaaGreatM04
import Derived.Test.YtcklcffepedklaaGreatM03
namespace Go.Proofs.YtcklcffepedklaaGreat
open Go.RowKit

/-- j sectors of a shelf. -/
def secsL (B : List Int) (i j : Nat) : List Int := (B.drop (512 * i)).take (128 * j)
theorem secsL_length {B : List Int} {n i j : Nat} (h : B.length = 128 * (4 * n)) (hi : i < n) (hj : j ≤ 4) : (secsL B i j).length = 128 * j := by
  rw [secsL, List.length_take, List.length_drop]; omega
theorem secsL_one (B : List Int) (i : Nat) : secL B (4 * i) = secsL B i 1 := by
  unfold secL secsL; rw [show 128 * (4 * i) = 512 * i from by omega]
theorem secsL_succ (B : List Int) (i j : Nat) : secsL B i j ++ secL B (4 * i + j) = secsL B i (j + 1) := by
  unfold secL secsL
  rw [show 128 * (j + 1) = 128 * j + 128 from by omega, List.take_add, List.drop_drop, show 512 * i + 128 * j = 128 * (4 * i + j) from by omega]
theorem OnSh.pre {B b : List Int} {n i : Nat} (h : OnSh B i b) (hB : B.length = 128 * (4 * n)) (hi : i < n) {m : Nat} (hm : m ≤ 4 + b.length) (hl : m ≤ 512) : (B.drop (512 * i)).take m = (shL b).take m := by
  apply List.ext_getElem?
  intro p
  by_cases hp : p < m
  · rw [List.getElem?_take_of_lt hp, List.getElem?_take_of_lt hp, List.getElem?_drop]
    exact h p (by omega)
  · rw [List.getElem?_eq_none (by simp; omega), List.getElem?_eq_none (by simp; omega)]
theorem OnSh.num {B b : List Int} {n i : Nat} (h : OnSh B i b) (hB : B.length = 128 * (4 * n)) (hi : i < n) : (secsL B i 1).take 4 = beL b.length 4 := by
  unfold secsL
  rw [List.take_take, show min 4 (128 * 1) = 4 from rfl, h.pre hB hi (by omega) (by omega), shL, List.take_append_of_le_length (by rw [beL_length]; exact Nat.le_refl _), List.take_of_length_le (by rw [beL_length]; exact Nat.le_refl _)]
theorem OnSh.data {B b : List Int} {n i j : Nat} (h : OnSh B i b) (hB : B.length = 128 * (4 * n)) (hi : i < n) (hj : 4 + b.length ≤ 128 * j) (hb : b.length ≤ 508) : ((secsL B i j).drop 4).take b.length = b := by
  unfold secsL
  rw [List.take_drop, List.take_take, Nat.min_eq_left hj, h.pre hB hi (Nat.le_refl _) (by omega), List.take_of_length_le (by rw [shL_length]; exact Nat.le_refl _), shL, List.drop_append_of_le_length (by rw [beL_length]; exact Nat.le_refl _), List.drop_of_length_le (by rw [beL_length]; exact Nat.le_refl _), List.nil_append]

set_option maxRecDepth 20000 in
set_option maxHeartbeats 1600000 in
theorem VGet_any {w : World} {gv gd n c : Nat} {D : Nat → Option (List Int)} {F : Nat → Prop} (h : Vt w gv gd n D c F) (i : Nat) (hi : i < n) (b : List Int) (hb : D i = some b) :
    Calls Tryz.prog 82 #[.pointer (some ⟨gv, 0, none⟩), .int .i64 i] w fun e w' => ∃ A, e = .returned (.tuple #[.slice A b.length b.length, .int .i64 0]) ∧ Ints .u8 w' A b ∧ (∀ ad, A = some ad → w.heap.size ≤ ad.block) ∧ Below w.heap.size w w' := by
  have HV := Lib.hid h
  have HSH := Lib.hid (shelf_any h i hi)
  have hn4 := h.num
  have hb5 := h.sz i b hb
  obtain ⟨B, hD, hOn⟩ := h.ex
  have HOn := Lib.hid (hOn i b hi hb)
  have HBL := Lib.hid hD.len
  have HBY := Lib.hid hD.byt
  have HD := Lib.hid hD
  have HC0 := Lib.hid h.c0
  have hg := h.lt
  obtain ⟨nb, hnb⟩ : ∃ nb, b.length = nb := ⟨_, rfl⟩
  have h1 : ¬ 508 < (nb : Int) := by omega
  have h1' : ¬ 508 < nb := by omega
  have h1b : (nb : Int) ≤ 508 := by omega
  have HNB := Lib.hid hnb
  rw [hnb] at ⊢ hb5
  clear h hb hOn hD hnb
  go_enter Tryz.func82, Tryz.ntmps82
  go_wp2_with fail
  refine HSH.out.mono ?_
  rintro e w1 ⟨rfl, hb1⟩
  have HB1 := Lib.hid hb1
  have c1 := (hb1.cell (p := ⟨gv, 0, none⟩) hg).trans HC0.out
  have HRD := Lib.hid (Read_any (HD.out.below hb1) (4 * i) (by omega))
  clear hb1 HSH
  go_wp2_with fail
  refine HRD.out.mono ?_
  rintro e w2 ⟨v2, rfl, ho2, hb2⟩
  rw [secsL_one] at ho2
  have HO2 := Lib.hid ho2
  have HB2 := Lib.hid hb2
  obtain ⟨A2, c2, rfl, hc2, hI2, hA2⟩ := ho2.ints
  have HRN := Lib.hid (RNew_any A2 _ c2 _ w2 rfl (by rw [secsL_length HBL.out hi (by decide)]; decide) hI2 ((HBY.out.drop _).take _) ho2.nilA)
  rw [secsL_length HBL.out hi (by decide)] at HRN ⊢
  clear ho2 hb2 hI2 hA2 hc2 HRD
  go_wp2_with fail
  refine HRN.out.mono ?_
  rintro e w3 ⟨r, rfl, hr, hrd, hb3⟩
  have HGT := Lib.hid (Get_any r _ 4 w3 hrd (by decide) (by decide) (by rw [secsL_length HBL.out hi (by decide)]; decide))
  rw [HOn.out.num HBL.out hi, HNB.out, numL_be nb 4 (by omega)] at HGT
  have HB3 := Lib.hid hb3
  have hr2 : w2.heap.size ≤ r := hr
  clear hrd hb3 HRN
  go_wp2_with fail
  refine HGT.out.mono ?_
  rintro e w4 ⟨rfl, hg4, _⟩
  have HB4 := Lib.hid (show Below w1.heap.size w1 w4 from (HB2.out.trans (HB3.out.mono HB2.out.size)).grown hg4 (HB2.out.trans (HB3.out.mono HB2.out.size)).size (fun k hk => by injection hk with hk; have := HB2.out.size; omega))
  have HO4 := Lib.hid (show OwnB w4 w1.heap.size (.slice A2 128 c2) (secsL B i 1) from by
    have h := HO2.out
    rw [secsL_length HBL.out hi (by decide)] at h
    exact World.ownsRow.kept (OwnB.below h HB3.out) hg4 (.inr (fun e => by have := (HO2.out.lt r (by rw [secsL_length HBL.out hi (by decide)]; exact e)).2; omega)))
  have c4 := (HB4.out.cell (p := ⟨gv, 0, none⟩) (show gv < w1.heap.size by have := HB1.out.size; omega)).trans c1
  clear hg4 HO2 c1
  have HRM := Lib.hid (Room_any ((HV.out.below HB1.out).below HB4.out))
  go_wp2_with fail
  refine HRM.out.mono ?_
  rintro e w5 ⟨rfl, rfl⟩
  clear HRM HGT
  have hs1 := HB1.out.size
  have hi5 : (i : Int) ≤ 4096 := by omega
  go_upto_region 11 with (fail)
  go_loopg [6, 8] 3 (fun kq v6 v8 w' => ∃ (j : Nat) (A8 : Option Addr) (c8 : Nat), j + kq = 4 ∧ 1 ≤ j ∧ v6 = .int .i64 ((4 * i + j : Nat) : Int) ∧ v8 = .slice A8 (128 * j) c8 ∧ OwnB w' w1.heap.size (.slice A8 (128 * j) c8) (secsL B i j) ∧ Below w1.heap.size w1 w')
  case atStart => exact ⟨1, A2, c2, rfl, Nat.le_refl _, by go_num, rfl, HO4.out, HB4.out⟩
  case round =>
    obtain ⟨j, A8, c8, hj, hj1, rfl, rfl, hO, hB⟩ := hrel
    have HO := Lib.hid hO
    have HBB := Lib.hid hB
    obtain ⟨s, hs⟩ : ∃ s, 4 * i + j = s := ⟨_, rfl⟩
    have hs2 : (s : Int) ≤ 16384 := by omega
    have hs4 : j < 4 → s < 4 * n := by omega
    have HS := Lib.hid hs
    have HSL := Lib.hid (secsL_length (i := i) (j := j) HBL.out hi (by omega))
    by_cases hlt : 128 * j < 4 + nb
    · have c6 := (hB.cell (p := ⟨gv, 0, none⟩) (show gv < w1.heap.size by omega)).trans ((HV.out.below HB1.out).c0)
      have HRD := Lib.hid (Read_any ((HD.out.below HB1.out).below hB) s (by omega))
      have i1 : ((128 * j : Nat) : Int) < 4 + (nb : Int) := by omega
      rw [hs]
      clear hO hB hs
      go_wp2_with fail
      refine HRD.out.mono ?_
      rintro e w7 ⟨v7, rfl, ho7, hb7⟩
      have HB7 := Lib.hid hb7
      obtain ⟨A7, c7, rfl, hc7, hI7, hA7⟩ := ho7.ints
      have hl7 : (secL B s).length = 128 := secL_length HBL.out (hs4 (by omega))
      have HX1 := Lib.hid (show ((secL B s).map (Value.int .u8)).length = 128 * 1 by rw [List.length_map, hl7])
      have HO7 := Lib.hid (HO.out.below hb7)
      have HI7 := Lib.hid hI7
      have HN7 := Lib.hid ho7.nilA
      have hsw := HBB.out.size
      have hs7 := hb7.size
      rw [hl7] at HN7 ⊢
      clear ho7 hb7 hI7 hA7 hc7 hl7 HRD
      go_wp2_with (at_builtin; refine wpList_app EB rfl _ _ rfl w1.heap.size (.slice A8 (128 * j) c8) _ _ rfl HO7.out A7 128 c7 ((secL B s).map (Value.int .u8)) rfl HN7.out HX1.out HI7.out.news (ints_one _ _) ?c1 ?c2 ?c3 ?_)
      case c1 => rw [HSL.out]; unfold maxLen; omega
      case c2 => rw [HSL.out]; omega
      case c3 => omega
      intro v9 w9 hown hgrow _
      have HO9 := Lib.hid (show OwnB w9 w1.heap.size v9 (secsL B i (j + 1)) from by
        rw [← secsL_succ, HS.out, OwnB, List.length_append, List.map_append]
        have e : (secL B s).length = 128 := by simpa using HX1.out
        rw [e]; exact hown)
      have HB9 := Lib.hid (show Below w1.heap.size w1 w9 from (HBB.out.trans (HB7.out.mono hsw)).grown hgrow (by omega) (fun k hk => (HO.out.lt k hk).1))
      clear hown hgrow
      obtain ⟨A9, c9, hv9, _⟩ := HO9.out.ints
      rw [secsL_length HBL.out hi (by omega)] at hv9
      subst hv9
      go_wp2_with fail
      go_roundg (gk - 1)
      case measure => omega
      case rel => exact ⟨j + 1, A9, c9, by omega, by omega, by rw [← Nat.add_assoc, HS.out]; go_num, rfl, HO9.out, HB9.out⟩
    · have i1 : ¬ ((128 * j : Nat) : Int) < 4 + (nb : Int) := by omega
      obtain ⟨A8', c8', hv, hc8, hI8, hA8⟩ := hO.ints
      rw [secsL_length HBL.out hi (by omega)] at hv hc8
      injection hv with hv1 _ hv3
      subst hv1 hv3
      have HA8 := Lib.hid hA8
      have HDT := Lib.hid (HOn.out.data HBL.out hi (j := j) (by rw [HNB.out]; omega) (by rw [HNB.out]; omega))
      have HI8 := Lib.hid hI8
      obtain ⟨g8, rfl⟩ : ∃ g8, A8 = some ⟨g8, 0, none⟩ := by
        obtain ⟨_, h⟩ := hO
        rcases h with ⟨h, _⟩ | ⟨g, cap, cur, h, _⟩
        · injection h with h1 h2; omega
        · injection h with h; exact ⟨g, h⟩
      have h48 : 4 + nb ≤ c8 := by omega
      rw [hs]
      clear hO hB hs hI8 hA8
      go_wp2_with fail
      · go_ret2
        refine ⟨_, rfl, ?_, fun ad e => ?_, HB1.out.trans (HBB.out.mono hs1)⟩
        · have : b = [] := List.length_eq_zero_iff.1 (by rw [HNB.out]; assumption)
          rw [this]; exact Ints.nil _ _ _
        · have := (HA8.out ad e).1
          omega
      · go_ret2
        refine ⟨_, rfl, ?_, fun ad e => ?_, HB1.out.trans (HBB.out.mono hs1)⟩
        · have := (HI8.out.drop 4).take nb
          rw [← HNB.out, HDT.out, addr_add0] at this
          exact this
        · injection e with e
          rw [← e]
          have hg8 : w1.heap.size ≤ g8 := (HA8.out ⟨g8, 0, none⟩ rfl).1
          show w.heap.size ≤ g8
          omega
end Go.Proofs.YtcklcffepedklaaGreat

namespace Go.Proofs.YtcklcffepedklaaGreat
open Go.RowKit

/-- 0 .. m - 1. -/
def idL (m : Nat) : List Int := (List.range m).map Int.ofNat
theorem idL_length (m : Nat) : (idL m).length = m := by simp [idL]
theorem idL_succ (m : Nat) : idL (m + 1) = idL m ++ [(m : Int)] := by simp [idL, List.range_succ]
theorem idL_getD {m h : Nat} (hh : h < m) : (idL m).getD h 0 = (h : Int) := by
  rw [List.getD_eq_getElem?_getD, idL, List.getElem?_map, List.getElem?_range hh]; rfl
theorem Tryz.infoU : (Tryz.prog.info? 27).map (fun i => (i.zero, i.size, i.bytes)) = some (some (.int .u32 0), 1, 4) := by kernel_rfl
theorem EU : Elem Tryz.prog 177 27 1 4 := by
  obtain ⟨i0, hi, hz0, hz1, hz2⟩ := info_parts Tryz.infoU
  exact ⟨Tryz.underlying177, ⟨i0, _, hi, hz0, hz1, hz2, rfl⟩, by decide⟩

theorem cisNaN_any (x : Int) (w : World) : Calls Tryz.prog 130 #[.int .u32 x] w fun e w' => e = .returned (.bool false) ∧ w = w' := by
  go_enter Tryz.func130, Tryz.ntmps130
  go_wp2
  go_ret
  exact ⟨rfl, rfl⟩
theorem Less_any (x y : Int) (h : x < y) (w : World) : Calls Tryz.prog 141 #[.int .u32 x, .int .u32 y] w fun e w' => e = .returned (.bool true) ∧ w = w' := by
  have HN := Lib.hid (cisNaN_any x w)
  go_enter Tryz.func141, Tryz.ntmps141
  go_wp2_with (go_at_call 130; refine HN.out.mono ?_; rintro e w' ⟨rfl, rfl⟩)
  go_ret
  exact ⟨rfl, rfl⟩
set_option maxRecDepth 20000 in
theorem BinSearch_any (A : Option Addr) (m c : Nat) (w : World) (hm : m < 4294967296) (hI : Ints .u32 w A (idL m)) :
    Calls Tryz.prog 117 #[.slice A m c, .int .u32 m] w fun e w' => e = .returned (.tuple #[.int .i64 m, .bool false]) ∧ w = w' := by
  have HI := Lib.hid hI
  clear hI
  go_enter Tryz.func117, Tryz.ntmps117
  go_upto_region 3 with (fail)
  go_loopg [7, 8] m (fun kq v7 v8 w' => ∃ i : Nat, i + kq = m ∧ v7 = .int .i64 (i : Int) ∧ v8 = .int .i64 (m : Int) ∧ w = w')
  case atStart => exact ⟨0, by omega, rfl, rfl, rfl⟩
  case round =>
    obtain ⟨i, h1, rfl, rfl, rfl⟩ := hrel
    by_cases hlt : i < m
    · obtain ⟨h, hh⟩ : ∃ h, h = (i + m) / 2 := ⟨_, rfl⟩
      have hsh : ((i : Int) + (m : Int)) / 2 = (h : Int) := by omega
      obtain ⟨ad, rfl, hc⟩ := HI.out h (by rw [idL_length]; omega)
      rw [idL_getD (by omega)] at hc
      have HLS := Lib.hid (Less_any h m (by omega) w)
      have hlt' : (i : Int) < (m : Int) := by omega
      have hhm : h < m := by omega
      have hih : i ≤ h := by omega
      clear hlt hh
      go_wp2_with fail
      refine HLS.out.mono ?_
      rintro e w' ⟨rfl, rfl⟩
      go_wp2_with fail
      go_roundg (m - (h + 1))
      case measure => omega
      case rel => exact ⟨h + 1, by omega, by go_num, rfl, rfl⟩
    · obtain rfl : i = m := by omega
      clear hlt
      go_wp2_with fail
      go_ret2
      exact ⟨rfl, rfl⟩

/-- A row of 0 .. m - 1. -/
abbrev OwnU (w : World) (base : Nat) (v : Value) (m : Nat) : Prop := w.ownsRow base 27 1 v m ((idL m).map (Value.int .u32))
set_option maxRecDepth 20000 in
theorem Insert_any (base : Nat) (v : Value) (A : Option Addr) (m c : Nat) (w : World) (hv : v = .slice A m c) (hm : m < 1000000000) (hb : base ≤ w.heap.size) (hO : OwnU w base v m) (g1 : Nat) (c1 : Nat) (hg1 : w.cell? ⟨g1, 0, none⟩ = some (.int .u32 m)) :
    Calls Tryz.prog 118 #[v, .int .i64 m, .slice (some ⟨g1, 0, none⟩) 1 c1] w fun e w' => ∃ v', e = .returned v' ∧ OwnU w' base v' (m + 1) ∧ w.grownBy w' v.ownBlock ∧ (v'.ownBlock = v.ownBlock ∨ v'.ownBlock = some w.heap.size) := by
  subst hv
  have HO := Lib.hid hO
  have HG := Lib.hid hg1
  clear hO hg1
  go_enter Tryz.func118, Tryz.ntmps118
  have HX1 := Lib.hid (show ∀ j u, [Value.int .u32 (m : Int)][j]? = some u → ∃ ad, some (⟨g1, 0, none⟩ : Addr) = some ad ∧ w.cell? (ad.add j) = some u from fun j u hj => by
    match j, hj with
    | 0, hj => injection hj with hj; rw [← hj]; exact ⟨_, rfl, HG.out⟩)
  have HX2 := Lib.hid (show ∀ u ∈ [Value.int .u32 (m : Int)], u.oneCell' = true from fun u hu => by simp at hu; subst hu; rfl)
  have HX3 := Lib.hid (show m + 1 ≤ maxLen ∧ (m + 1) * 4 ≤ 140737488355328 from by unfold maxLen; constructor <;> omega)
  go_wp2_with (at_builtin; (first | refine wpList_app EU rfl _ _ rfl base (.slice A m c) m _ rfl HO.out (some ⟨g1, 0, none⟩) 1 _ [.int .u32 m] rfl (fun h => by cases h) rfl HX1.out HX2.out HX3.out.1 HX3.out.2 hb ?_ | refine wpList_app EU rfl _ _ rfl base (.slice A m m) m _ rfl HO.out (some ⟨g1, 0, none⟩) 1 _ [.int .u32 m] rfl (fun h => by cases h) rfl HX1.out HX2.out HX3.out.1 HX3.out.2 hb ?_); intro v' w' h1 h2 h3)
  all_goals
    go_ret
    first
      | exact ⟨_, rfl, by rw [OwnU, idL_succ, List.map_append]; exact h1, h2, h3⟩
      | (have hcm : c = m := by assumption
         subst hcm
         exact ⟨_, rfl, by rw [OwnU, idL_succ, List.map_append]; exact h1, h2, h3⟩)
end Go.Proofs.YtcklcffepedklaaGreat

namespace Go.Proofs.YtcklcffepedklaaGreat
open Go.RowKit Go.Maps

section
variable {α β γ : Type} [DecidableEq α]
theorem lkp_map (f : β → γ) (L : List (α × β)) (a : α) : lkp (L.map fun x => (x.1, f x.2)) a = (lkp L a).map f := by
  induction L with
  | nil => rfl
  | cons y L ih =>
    obtain ⟨k, v⟩ := y
    rw [List.map_cons, lkp, lkp]
    split
    · rfl
    · exact ih
theorem upd_map (f : β → γ) (L : List (α × β)) (a : α) (v : β) : (upd L a v).map (fun x => (x.1, f x.2)) = upd (L.map fun x => (x.1, f x.2)) a (f v) := by
  unfold upd
  rw [lkp_map]
  cases lkp L a with
  | none => simp
  | some u =>
    simp only [Option.map_some, List.map_map]
    apply List.map_congr_left
    intro x _
    simp only [Function.comp]
    split <;> rfl
end

/-- A place as a value. -/
def plC (p : Nat × Nat) : List Value := [.int .i64 p.1, .int .i64 p.2]
abbrev plV (p : Nat × Nat) : Value := .agg (plC p).toArray
theorem Tryz.infoPl : (Tryz.prog.info? 82).map (fun i => (i.zero, i.size, i.bytes)) = some (some (plV (0, 0)), 2, 16) := by kernel_rfl
theorem zeroPl (w : World) : (zeroValue 82).run Tryz.prog w = .ok (plV (0, 0)) w := by
  obtain ⟨i0, hi, hz0, _, _⟩ := info_parts Tryz.infoPl
  exact zero_run hi hz0 w
theorem sizePl (p : Nat × Nat) : (Tryz.prog.info? 82).map (·.size) = some (plC p).length := by kernel_rfl
theorem sizePlA (p : Nat × Nat) : (Tryz.prog.info? 82).map (·.size) = some (plC p).toArray.size := by kernel_rfl
theorem plC_one (p : Nat × Nat) : ∀ u ∈ plC p, u.oneCell' = true := by intro u hu; simp [plC] at hu; rcases hu with rfl | rfl <;> rfl

/-- The chunks and where they lie, as a map's rows. -/
def plRows (L : List (Ky × (Nat × Nat))) : List (Ky × Value) := L.map fun x => (x.1, plV x.2)
/-- A fingerprint's numbers: the block, how many, the room. -/
abbrev Tw := Nat × Nat × Nat
def twV (t : Tw) : Value := .slice (some ⟨t.1, 0, none⟩) t.2.1 t.2.2
def twRows (T : List (List Int × Tw)) : List (List Int × Value) := T.map fun x => (x.1, twV x.2)
/-- A shelf's chunks: the block, the keys. -/
abbrev Sh := Nat × List Ky
def shV (s : Sh) : Value := .map (some s.1)
def shRows (S : List (Nat × Sh)) : List (Nat × Value) := S.map fun x => (x.1, shV x.2)
def kyRows (l : List Ky) : List (Ky × Value) := l.map fun k => (k, .bool true)
/-- An index's blocks. -/
def ixB (gi gp gt gs : Nat) (T : List (List Int × Tw)) (S : List (Nat × Sh)) : List Nat := [gi, gp, gt, gs] ++ (T.map (·.2.1) ++ S.map (·.2.1))
def IntOk (z : Nat) : Prop := z < 9223372036854775808
/-- An index in memory. -/
structure Ir (w : World) (gi gp gt gs : Nat) (L : List (Ky × (Nat × Nat))) (T : List (List Int × Tw)) (S : List (Nat × Sh)) : Prop where
  row : w.heap[gi]? = some (.cells #[.map (some gp), .map (some gt), .map (some gs)] 155 (0, 0))
  pl : MapAt Ky.val Ky.Ok w gp (plRows L)
  tw : MapAt sumV SumOk w gt (twRows T)
  twr : ∀ x ∈ T, OwnU w 0 (twV x.2) x.2.2.1
  sh : MapAt intV IntOk w gs (shRows S)
  shr : ∀ x ∈ S, MapAt Ky.val Ky.Ok w x.2.1 (kyRows x.2.2)
  nod : (ixB gi gp gt gs T S).Nodup
theorem OwnU.keptR {w w' : World} {R : Nat → Prop} {b m : Nat} {t : Tw} (h : OwnU w b (twV t) m) (hc : Chg R w w') (hr : ¬ R t.1) : OwnU w' b (twV t) m := by
  obtain ⟨h1, h2⟩ := h
  refine ⟨h1, ?_⟩
  rcases h2 with h2 | ⟨g, cap, cur, e, a, b, c⟩
  · exact .inl h2
  · refine .inr ⟨g, cap, cur, e, a, ?_, c⟩
    have : t.1 = g := by unfold twV at e; injection e with e; injection e with e; injection e
    exact (hc.block g (row_lt b) (by rw [← this]; exact hr)).trans b
theorem OwnU.twlt {w : World} {b m : Nat} {t : Tw} (h : OwnU w b (twV t) m) : t.1 < w.heap.size := (h.lt t.1 rfl).2
theorem Ir.lt {w : World} {gi gp gt gs : Nat} {L : List (Ky × (Nat × Nat))} {T : List (List Int × Tw)} {S : List (Nat × Sh)} (h : Ir w gi gp gt gs L T S) : ∀ g ∈ ixB gi gp gt gs T S, g < w.heap.size := by
  intro g hg
  unfold ixB at hg
  rcases List.mem_append.1 hg with hg | hg
  · simp at hg
    rcases hg with rfl | rfl | rfl | rfl
    · exact row_lt h.row
    · exact h.pl.lt
    · exact h.tw.lt
    · exact h.sh.lt
  · rcases List.mem_append.1 hg with hg | hg
    · obtain ⟨x, hx, rfl⟩ := List.mem_map.1 hg
      exact (h.twr x hx).twlt
    · obtain ⟨x, hx, rfl⟩ := List.mem_map.1 hg
      exact (h.shr x hx).lt
theorem ixB_tw {gi gp gt gs : Nat} {T : List (List Int × Tw)} {S : List (Nat × Sh)} {x : List Int × Tw} (h : x ∈ T) : x.2.1 ∈ ixB gi gp gt gs T S := List.mem_append_right _ (List.mem_append_left _ (List.mem_map_of_mem (f := fun x : List Int × Tw => x.2.1) h))
theorem ixB_sh {gi gp gt gs : Nat} {T : List (List Int × Tw)} {S : List (Nat × Sh)} {x : Nat × Sh} (h : x ∈ S) : x.2.1 ∈ ixB gi gp gt gs T S := List.mem_append_right _ (List.mem_append_right _ (List.mem_map_of_mem (f := fun x : Nat × Sh => x.2.1) h))
theorem Ir.kept {w w' : World} {gi gp gt gs : Nat} {L : List (Ky × (Nat × Nat))} {T : List (List Int × Tw)} {S : List (Nat × Sh)} {R : Nat → Prop} (h : Ir w gi gp gt gs L T S) (hc : Chg R w w') (hr : ∀ g ∈ ixB gi gp gt gs T S, ¬ R g) : Ir w' gi gp gt gs L T S := by
  have h4 : ∀ g ∈ [gi, gp, gt, gs], ¬ R g := fun g hg => hr g (List.mem_append_left _ hg)
  exact ⟨(hc.block gi (row_lt h.row) (h4 gi (by simp))).trans h.row, h.pl.chg hc (h4 gp (by simp)), h.tw.chg hc (h4 gt (by simp)), fun x hx => (h.twr x hx).keptR hc (hr _ (ixB_tw hx)), h.sh.chg hc (h4 gs (by simp)), fun x hx => (h.shr x hx).chg hc (hr _ (ixB_sh hx)), h.nod⟩
theorem Ir.below {w w' : World} {gi gp gt gs : Nat} {L : List (Ky × (Nat × Nat))} {T : List (List Int × Tw)} {S : List (Nat × Sh)} (h : Ir w gi gp gt gs L T S) (hb : Below w.heap.size w w') : Ir w' gi gp gt gs L T S :=
  h.kept (R := fun _ => False) (Chg.belowAt hb) (fun _ _ h => h)

section
variable {P : Program} {o : Oper} {w w' : World} {ρ : Operand → Value}
theorem exec_lkp (t : TypeId) (x k : Operand) (ok : Bool) (ho : o.op = .lookup t x k ok) (mv kv : Value) {v : Value} (hx : ρ x = mv) (hk : ρ k = kv) (hr : (Instr.lookup t mv kv ok).run P w = .ok v w) : (execOp ρ o).run P w = .ok (.value v) w := by
  unfold execOp
  simp only [ho, hx, hk, Sem.run_bind, hr, Result.andThen_ok, Sem.run_pure]
theorem exec_upd (t : TypeId) (x k y : Operand) (ho : o.op = .mapUpdate t x k y) (mv kv v : Value) (hx : ρ x = mv) (hk : ρ k = kv) (hy : ρ y = v) (hr : (Instr.mapUpdate t mv kv v).run P w = .ok () w') : (execOp ρ o).run P w = .ok .skip w' := by
  unfold execOp
  simp only [ho, hx, hk, hy, Sem.run_bind, hr, Result.andThen_ok, Sem.run_pure]
end

theorem results_cell_tmp_row {P : Program} {fn : Func} {p u : Tmp} {ty : TypeId} (h : fn.results = #[.cell p ty, .tmp u]) (tmps : Array Value) (w : World) (g : Nat) (t : TypeId) (cs : Array Value) (fr : Nat × Nat) (d : TypeDesc) (v2 : Value)
    (hp : tmps.getD p undef = .pointer (some ⟨g, 0, none⟩)) (hv : tmps.getD u undef = v2) (hg : w.heap[g]? = some (.cells cs t fr))
    (hu : P.underlying ty = some d) (hd : (match d with | .struct _ | .array _ _ => true | _ => false) = true) (hi : (P.info? ty).map (·.size) = some cs.size) :
    (results fn tmps).run P w = .ok (.tuple #[.agg cs, v2]) w := by
  rw [results_cell_tmp h, hp, hv]
  simp [asAddr, run_loadVar_row w g t ty cs fr d hg hu hd hi]
theorem run_make0 {P : Program} {mt k e : TypeId} (ht : P.underlying mt = some (.map k e)) (W : World) : (Instr.makeMap mt none).run P W = .ok (.map (some W.heap.size)) (W.alloc (.map #[] 0)) := by
  simp [Instr.makeMap, run_underlying ht]
theorem INew_any (w : World) : Calls Tryz.prog 56 #[] w fun e w' => ∃ gi gp gt gs, e = .returned (.pointer (some ⟨gi, 0, none⟩)) ∧ Ir w' gi gp gt gs [] [] [] ∧ (∀ g ∈ ixB gi gp gt gs [] [], w.heap.size ≤ g) ∧ Below w.heap.size w w' := by
  have h1 := run_make0 (P := Tryz.prog) Tryz.underlying151
  have h2 := run_make0 (P := Tryz.prog) Tryz.underlying152
  have h3 := run_make0 (P := Tryz.prog) Tryz.underlying153
  go_enter Tryz.func56, Tryz.ntmps56
  go_wp2
  go_ret
  have e1 : (w.alloc (.map #[] 0)).heap.size = w.heap.size + 1 := World.size_alloc _ _
  have e2 : ((w.alloc (.map #[] 0)).alloc (.map #[] 0)).heap.size = w.heap.size + 1 + 1 := by rw [World.size_alloc, e1]
  have e3 : (((w.alloc (.map #[] 0)).alloc (.map #[] 0)).alloc (.map #[] 0)).heap.size = w.heap.size + 1 + 1 + 1 := by rw [World.size_alloc, e2]
  have m1 := MapAt.made (α := Ky) (enc := Ky.val) (V := Ky.Ok) w
  have m2 := MapAt.made (α := List Int) (enc := sumV) (V := SumOk) (w.alloc (.map #[] 0))
  have m3 := MapAt.made (α := Nat) (enc := intV) (V := IntOk) ((w.alloc (.map #[] 0)).alloc (.map #[] 0))
  have b1 := (Below.refl w.heap.size w).alloc (Nat.le_refl _) (.map #[] 0)
  rw [e1] at m2
  rw [e2] at m3
  generalize w.alloc (.map #[] 0) = w1 at *
  have b2 := (Below.refl w1.heap.size w1).alloc (Nat.le_refl _) (.map #[] 0)
  generalize w1.alloc (.map #[] 0) = w2 at *
  have b3 := (Below.refl w2.heap.size w2).alloc (Nat.le_refl _) (.map #[] 0)
  generalize w2.alloc (.map #[] 0) = w3 at *
  have b4 := (Below.refl w3.heap.size w3).alloc (Nat.le_refl _) (.cells #[.map (some w.heap.size), .map (some (w.heap.size + 1)), .map (some (w.heap.size + 1 + 1))] 155)
  have hr := heap_alloc_last w3 (.cells #[.map (some w.heap.size), .map (some (w.heap.size + 1)), .map (some (w.heap.size + 1 + 1))] 155)
  rw [e3] at hr
  generalize w3.alloc _ = w4 at *
  refine ⟨_, _, _, _, rfl, ⟨hr, ((m1.below b2).below b3).below b4, (m2.below b3).below b4, fun x h => (by cases h), m3.below b4, fun x h => (by cases h), ?_⟩, ?_, below_trans (below_trans (below_trans b1 b2 b1.size) b3 (by omega)) b4 (by omega)⟩
  · simp [ixB]; omega
  · intro g hg
    simp [ixB] at hg
    omega

set_option maxRecDepth 20000 in
theorem IGet_any {w : World} {gi gp : Nat} {v1 v2 : Value} {L : List (Ky × (Nat × Nat))} (hr : w.heap[gi]? = some (.cells #[.map (some gp), v1, v2] 155 (0, 0))) (hp : MapAt Ky.val Ky.Ok w gp (plRows L)) (k : Ky) (hk : k.Ok) :
    Calls Tryz.prog 79 #[.pointer (some ⟨gi, 0, none⟩), k.val] w fun e w' => e = .returned (.tuple #[plV ((lkp L k).getD (0, 0)), .bool (lkp L k).isSome]) ∧ Below w.heap.size w w' := by
  have c0 : w.cell? ⟨gi, 0, none⟩ = some (.map (some gp)) := by rw [cell_of_row _ _ _ _ _ _ hr]; rfl
  have hgi := row_lt hr
  have HP := Lib.hid hp
  have HKO := Lib.hid hk
  have HZ := Lib.hid zeroPl
  obtain ⟨pq, hpq⟩ : ∃ pq, (lkp L k).getD (0, 0) = pq := ⟨_, rfl⟩
  obtain ⟨ok, hok⟩ : ∃ ok, (lkp L k).isSome = ok := ⟨_, rfl⟩
  rw [hpq, hok]
  have HPQ := Lib.hid (And.intro hpq hok)
  clear hr hp hk hpq hok
  unfold Ky.val
  go_enter Tryz.func79, Tryz.ntmps79
  go_wp2_with fail
  obtain ⟨g3, hg3⟩ : ∃ g, g = w.heap.size := ⟨_, rfl⟩
  have hb1 := (Below.refl w.heap.size w).alloc (Nat.le_refl _) (.cells k.cells.toArray 64)
  have hr1 := heap_alloc_last w (.cells k.cells.toArray 64)
  have hs1 : (w.alloc (.cells k.cells.toArray 64)).heap.size = w.heap.size + 1 := World.size_alloc _ _
  rw [← hg3] at hr1 hs1 ⊢
  generalize w.alloc (.cells k.cells.toArray 64) = w1 at *
  obtain ⟨g4, hg4⟩ : ∃ g, g = g3 + 1 := ⟨_, rfl⟩
  have hb2 := (Below.refl w1.heap.size w1).alloc (Nat.le_refl _) (.cells #[.int .i64 0, .int .i64 0] 82)
  have hr2 := heap_alloc_last w1 (.cells #[.int .i64 0, .int .i64 0] 82)
  rw [← hg4] at hs1 ⊢
  rw [hs1] at hr2
  generalize w1.alloc (.cells #[.int .i64 0, .int .i64 0] 82) = w2 at *
  have hr3 := (hb2.block g3 (row_lt hr1)).trans hr1
  have HB2 := Lib.hid (show Below w.heap.size w w2 from below_trans hb1 hb2 hb1.size)
  have HK3 := Lib.hid (show w2.rangeAt g3 0 k.cells from range_row hr3)
  have HL3 := Lib.hid (row_lt hr3)
  have HR4 := Lib.hid hr2
  have HC0 := Lib.hid ((HB2.out.cell (p := ⟨gi, 0, none⟩) hgi).trans c0)
  have HLI := Lib.hid (show gi < w2.heap.size by have := HB2.out.size; omega)
  have HLK := Lib.hid (show ∀ W, Below w2.heap.size w2 W → (Instr.lookup 151 (.map (some gp)) k.val true).run Tryz.prog W = .ok (.tuple #[plV ((lkp L k).getD (0, 0)), .bool (lkp L k).isSome]) W from fun W hW => by
    rw [run_lkp keyK Tryz.underlying151 ((HP.out.below HB2.out).below hW) k HKO.out (plV (0, 0)) (zeroPl W) true]
    unfold plRows
    rw [lkp_map]
    cases lkp L k <;> rfl)
  rw [HPQ.out.1, HPQ.out.2] at HLK
  have HG34 := Lib.hid (And.intro hg3 (And.intro hg4 hs1))
  clear hb1 hr1 hs1 hb2 hr2 hr3 hg3 hg4 hgi c0
  --[
  refine wp_region_held_drew (S := fun w' => Below w2.heap.size w2 w') (by kernel_rfl) ((Below.refl _ _).drew) (fun hHeld => ?_)
  refine held_take 0 (some 12) (v := ?_) rfl rfl (by kernel_rfl) (by kernel_rfl) (by kernel_rfl) (fun _ _ _ h => h) (Or.inl ⟨by rfl, ?_⟩) hHeld ?_
  rotate_left
  · (intro w' hSw; clear hSw; go_simp; try with_reducible rfl)
  try simp only [Act.put, List.setIfInBounds_toArray, List.set_cons_zero, List.set_cons_succ]
  refine held_take 1 (some 13) (v := ?_) rfl rfl (by kernel_rfl) (by kernel_rfl) (by kernel_rfl) (fun _ _ _ h => h) (Or.inl ⟨by rfl, ?_⟩) hHeld ?_
  rotate_left
  · (intro w' hSw; clear hSw; go_simp; try with_reducible rfl)
  try simp only [Act.put, List.setIfInBounds_toArray, List.set_cons_zero, List.set_cons_succ]
  refine held_take 2 (some 14) (v := ?_) rfl rfl (by kernel_rfl) (by kernel_rfl) (by kernel_rfl) (fun _ _ _ h => h) (Or.inl ⟨by rfl, ?_⟩) hHeld ?_
  rotate_left
  · (intro w' hSw; clear hSw; go_simp; try with_reducible rfl)
  try simp only [Act.put, List.setIfInBounds_toArray, List.set_cons_zero, List.set_cons_succ]
  refine held_take 3 (some 15) (v := ?_) rfl rfl (by kernel_rfl) (by kernel_rfl) (by kernel_rfl) (fun _ _ _ h => h) (Or.inl ⟨by rfl, ?_⟩) hHeld ?_
  rotate_left
  · (intro w' hSw; have pf := (hSw.cell (p := ⟨gi, 0, none⟩) HLI.out).trans HC0.out; clear hSw; go_simp; try with_reducible rfl)
  try simp only [Act.put, List.setIfInBounds_toArray, List.set_cons_zero, List.set_cons_succ]
  refine held_take 4 (some 16) (v := .agg (k.cells).toArray) rfl rfl (by kernel_rfl) (by kernel_rfl) (by kernel_rfl) (fun _ _ _ h => h) (yieldsIf_load_mid (by rfl) 64 _ rfl g3 (0) rfl (k.cells) _ (fun w' h => rangeAt_block HK3.out (h.block g3 HL3.out)) Tryz.underlying64 rfl (sizeK HKO.out)) hHeld ?_
  try simp only [Act.put, List.setIfInBounds_toArray, List.set_cons_zero, List.set_cons_succ]
  refine held_take 5 (some 17) (v := .tuple #[plV pq, .bool ok]) rfl rfl (by kernel_rfl) (by kernel_rfl) (by kernel_rfl) (fun _ _ _ h => h) (yields_val (by go_simp) (fun W h => exec_lkp _ _ _ _ rfl (.map (some gp)) k.val (by go_simp) (by go_simp; try rfl) (HLK.out W h))) hHeld ?_
  try simp only [Act.put, List.setIfInBounds_toArray, List.set_cons_zero, List.set_cons_succ]
  refine held_take 6 (some 11) (v := ?_) rfl rfl (by kernel_rfl) (by kernel_rfl) (by kernel_rfl) (fun _ _ _ h => h) (Or.inl ⟨by rfl, ?_⟩) hHeld ?_
  rotate_left
  · (intro w' hSw; clear hSw; go_simp; try with_reducible rfl)
  try simp only [Act.put, List.setIfInBounds_toArray, List.set_cons_zero, List.set_cons_succ]
  refine held_take 7 (some 18) (v := ?_) rfl rfl (by kernel_rfl) (by kernel_rfl) (by kernel_rfl) (fun _ _ _ h => h) (Or.inl ⟨by rfl, ?_⟩) hHeld ?_
  rotate_left
  · (intro w' hSw; clear hSw; go_simp; try with_reducible rfl)
  try simp only [Act.put, List.setIfInBounds_toArray, List.set_cons_zero, List.set_cons_succ]
  refine held_take 8 (some 19) (v := ?_) rfl rfl (by kernel_rfl) (by kernel_rfl) (by kernel_rfl) (fun _ _ _ h => h) (Or.inl ⟨by rfl, ?_⟩) hHeld ?_
  rotate_left
  · (intro w' hSw; clear hSw; go_simp; try with_reducible rfl)
  try simp only [Act.put, List.setIfInBounds_toArray, List.set_cons_zero, List.set_cons_succ]
  refine wpAnyH_ready (rs := [9]) (by kernel_rfl) (by simp) ?_
  refine AllReadyH.cons rfl (fun K hKK => ?_) AllReadyH.nil
  refine step_val rfl (exec_alloc _ rfl (zeroPl _)) ?_
  refine hKK.out _ _ ((Below.refl _ _).drew.alloc (Nat.le_refl _) _) (fun hHeld => ?_)
  clear hKK K
  try simp only [Act.put, List.setIfInBounds_toArray, List.set_cons_zero, List.set_cons_succ]
  have hrowG := heap_alloc_last w2.drew (.cells (plC (0, 0)).toArray 82)
  have hbG := ((Below.refl w2.heap.size w2).drew.alloc (Nat.le_refl _) (.cells (plC (0, 0)).toArray 82))
  refine wpAnyH_ready (rs := [10]) (by kernel_rfl) (by simp) ?_
  refine AllReadyH.cons rfl (fun K hKK => ?_) AllReadyH.nil
  refine step_wp rfl (wp_store_row 82 _ _ rfl w2.drew.heap.size (plC pq).toArray rfl rfl 82 (plC (0, 0)).toArray hrowG (sizePlA _) rfl (all_one (plC_one _)) ?_)
  refine hKK.out _ _ (hbG.grown (grown_setRow _ _ _) hbG.size (fun k hk => by injection hk with hk; rw [← hk]; exact Nat.le_refl _)) (fun hHeld => ?_)
  clear hKK K
  try simp only [Act.put, List.setIfInBounds_toArray, List.set_cons_zero, List.set_cons_succ]
  refine held_take 11 (some 7) (v := ?_) rfl rfl (by kernel_rfl) (by kernel_rfl) (by kernel_rfl) (fun _ _ _ h => h) (Or.inl ⟨by rfl, ?_⟩) hHeld ?_
  rotate_left
  · (intro w' hSw; clear hSw; go_simp; try with_reducible rfl)
  try simp only [Act.put, List.setIfInBounds_toArray, List.set_cons_zero, List.set_cons_succ]
  refine wpAnyH_done (by kernel_rfl) ?_ _
  --]
  have HR6 := Lib.hid (show ((w2.drew.alloc (.cells (plC (0, 0)).toArray 82)).setRow w2.drew.heap.size (plC pq).toArray).heap[w2.drew.heap.size]? = some (.cells (plC pq).toArray 82 (0, 0)) from setRow_heap _ _ _ _ _ _ hrowG)
  have HB6 := Lib.hid hHeld
  clear hHeld hbG hrowG
  generalize (w2.drew.alloc (.cells (plC (0, 0)).toArray 82)).setRow w2.drew.heap.size (plC pq).toArray = w6 at *
  generalize w2.drew.heap.size = g6 at *
  go_simp
  have HK6 := Lib.hid (show w6.rangeAt g6 0 (plC pq) from range_row HR6.out)
  have HR46 := Lib.hid ((HB6.out.block g4 (row_lt HR4.out)).trans HR4.out)
  go_wp2_with (first | (with_reducible refine Go.wpList_load_mid rfl 82 _ rfl g6 0 rfl (plC pq) _ HK6.out Tryz.underlying82 rfl (sizePl pq) ?_) | (with_reducible refine wpList_store_row rfl 82 _ _ rfl g4 (plC pq).toArray rfl rfl 82 #[.int .i64 0, .int .i64 0] HR46.out (sizePlA pq) rfl (all_one (plC_one _)) ?_))
  refine bodyPost_ret (v := .tuple #[plV pq, .bool ok]) ?_ rfl ?_
  · exact results_cell_tmp_row rfl _ _ g4 82 (plC pq).toArray (0, 0) _ _ rfl rfl (setRow_heap _ _ _ _ _ _ HR46.out) Tryz.underlying82 rfl (sizePlA pq)
  · refine ⟨rfl, ?_⟩
    have h26 := HB2.out.trans (HB6.out.mono HB2.out.size)
    exact h26.grown (grown_setRow _ _ _) h26.size (fun k hk => by injection hk with hk; have := HG34.out; omega)
end Go.Proofs.YtcklcffepedklaaGreat

namespace Go.Proofs.YtcklcffepedklaaGreat
open Go.RowKit Go.Maps

/-- An index's blocks are apart. -/
structure IxNe (gi gp gt gs : Nat) (T : List (List Int × Tw)) (S : List (Nat × Sh)) : Prop where
  ip : gi ≠ gp
  it : gi ≠ gt
  is_ : gi ≠ gs
  pt : gp ≠ gt
  ps : gp ≠ gs
  ts : gt ≠ gs
  t4 : ∀ x ∈ T, x.2.1 ≠ gi ∧ x.2.1 ≠ gp ∧ x.2.1 ≠ gt ∧ x.2.1 ≠ gs
  s4 : ∀ x ∈ S, x.2.1 ≠ gi ∧ x.2.1 ≠ gp ∧ x.2.1 ≠ gt ∧ x.2.1 ≠ gs
  st : ∀ x ∈ T, ∀ y ∈ S, x.2.1 ≠ y.2.1
  tt : T.Pairwise fun x y => x.2.1 ≠ y.2.1
  ss : S.Pairwise fun x y => x.2.1 ≠ y.2.1
theorem ixNe_iff {gi gp gt gs : Nat} {T : List (List Int × Tw)} {S : List (Nat × Sh)} : (ixB gi gp gt gs T S).Nodup ↔ IxNe gi gp gt gs T S := by
  unfold ixB
  rw [List.nodup_append, List.nodup_append]
  constructor
  · rintro ⟨h1, ⟨h2, h3, h4⟩, h5⟩
    simp only [List.nodup_cons, List.mem_cons, List.not_mem_nil, or_false, not_or, not_false_eq_true, List.nodup_nil, and_true] at h1
    have h6 : ∀ g ∈ [gi, gp, gt, gs], ∀ x ∈ T, x.2.1 ≠ g := fun g hg x hx => fun e => h5 g hg _ (List.mem_append_left _ (List.mem_map_of_mem (f := fun x : List Int × Tw => x.2.1) hx)) e.symm
    have h7 : ∀ g ∈ [gi, gp, gt, gs], ∀ x ∈ S, x.2.1 ≠ g := fun g hg x hx => fun e => h5 g hg _ (List.mem_append_right _ (List.mem_map_of_mem (f := fun x : Nat × Sh => x.2.1) hx)) e.symm
    exact ⟨h1.1.1, h1.1.2.1, h1.1.2.2, h1.2.1.1, h1.2.1.2, h1.2.2, fun x hx => ⟨h6 gi (by simp) x hx, h6 gp (by simp) x hx, h6 gt (by simp) x hx, h6 gs (by simp) x hx⟩, fun x hx => ⟨h7 gi (by simp) x hx, h7 gp (by simp) x hx, h7 gt (by simp) x hx, h7 gs (by simp) x hx⟩,
      fun x hx y hy => h4 _ (List.mem_map_of_mem (f := fun x : List Int × Tw => x.2.1) hx) _ (List.mem_map_of_mem (f := fun x : Nat × Sh => x.2.1) hy), List.pairwise_map.1 h2, List.pairwise_map.1 h3⟩
  · intro h
    refine ⟨?_, ⟨List.pairwise_map.2 h.tt, List.pairwise_map.2 h.ss, ?_⟩, ?_⟩
    · simp [h.ip, h.it, h.is_, h.pt, h.ps, h.ts]
    · intro a ha b hb
      obtain ⟨x, hx, rfl⟩ := List.mem_map.1 ha
      obtain ⟨y, hy, rfl⟩ := List.mem_map.1 hb
      exact h.st x hx y hy
    · intro a ha b hb
      rcases List.mem_append.1 hb with hb | hb
      · obtain ⟨x, hx, rfl⟩ := List.mem_map.1 hb
        have := h.t4 x hx
        simp at ha
        rcases ha with rfl | rfl | rfl | rfl
        · exact this.1.symm
        · exact this.2.1.symm
        · exact this.2.2.1.symm
        · exact this.2.2.2.symm
      · obtain ⟨x, hx, rfl⟩ := List.mem_map.1 hb
        have := h.s4 x hx
        simp at ha
        rcases ha with rfl | rfl | rfl | rfl
        · exact this.1.symm
        · exact this.2.1.symm
        · exact this.2.2.1.symm
        · exact this.2.2.2.symm

section
variable {α β : Type} [DecidableEq α]
/-- What is told of a list's values holds of it where one is laid anew. -/
theorem upd_all {L : List (α × β)} {a : α} {v : β} {p : α × β → Prop} (h : ∀ x ∈ L, x.1 ≠ a → p x) (hv : p (a, v)) : ∀ x ∈ upd L a v, p x := by
  intro x hx
  cases hl : lkp L a with
  | none =>
    rw [upd_new hl] at hx
    rcases List.mem_append.1 hx with hx | hx
    · exact h x hx (lkp_none_mem hl x hx)
    · simp at hx; subst hx; exact hv
  | some u =>
    rw [upd_old hl] at hx
    obtain ⟨y, hy, e⟩ := List.mem_map.1 hx
    split at e
    · rw [← e]; exact hv
    · rename_i hne
      rw [← e]; exact h y hy hne
theorem pair_inj {γ δ : Type} {f : γ → δ} : ∀ {L : List γ}, (L.Pairwise fun x y => f x ≠ f y) → ∀ {x y : γ}, x ∈ L → y ∈ L → f x = f y → x = y
  | [], _, _, _, h, _, _ => by cases h
  | z :: L, hp, x, y, hx, hy, e => by
    rw [List.pairwise_cons] at hp
    rcases List.mem_cons.1 hx with h1 | h1
    · rcases List.mem_cons.1 hy with h2 | h2
      · exact h1.trans h2.symm
      · subst h1; exact absurd e (hp.1 y h2)
    · rcases List.mem_cons.1 hy with h2 | h2
      · subst h2; exact absurd e.symm (hp.1 x h1)
      · exact pair_inj hp.2 h1 h2 e
theorem upd_pair {L : List (α × β)} {a : α} {v : β} {r : α × β → α × β → Prop} (hn : (L.map (·.1)).Nodup) (h : L.Pairwise r) (h1 : ∀ x ∈ L, x.1 ≠ a → r x (a, v)) (h2 : ∀ x ∈ L, x.1 ≠ a → r (a, v) x) : (upd L a v).Pairwise r := by
  cases hl : lkp L a with
  | none =>
    rw [upd_new hl, List.pairwise_append]
    refine ⟨h, List.pairwise_singleton _ _, ?_⟩
    intro x hx y hy
    simp at hy; subst hy
    exact h1 x hx (lkp_none_mem hl x hx)
  | some u =>
    rw [upd_old hl, List.pairwise_map]
    have hk : L.Pairwise fun x y => x.1 ≠ y.1 := List.pairwise_map.1 hn
    refine ((h.and hk).imp_of_mem ?_)
    intro x y hx hy hr
    split
    · rename_i e1
      split
      · rename_i e2
        exact absurd (e1.trans e2.symm) hr.2
      · rename_i e2
        exact h2 y hy e2
    · rename_i e1
      split
      · exact h1 x hx e1
      · exact hr.1
end

section
variable {w : World} {gi gp gt gs : Nat} {L : List (Ky × (Nat × Nat))} {T : List (List Int × Tw)} {S : List (Nat × Sh)}
theorem Ir.ne (h : Ir w gi gp gt gs L T S) : IxNe gi gp gt gs T S := ixNe_iff.1 h.nod
theorem plRows_lkp (k : Ky) : lkp (plRows L) k = (lkp L k).map plV := lkp_map _ _ _
theorem Ir.ndL (h : Ir w gi gp gt gs L T S) : (L.map (·.1)).Nodup := by
  have := h.pl.nodup
  unfold plRows at this
  rwa [List.map_map] at this
theorem Ir.ndT (h : Ir w gi gp gt gs L T S) : (T.map (·.1)).Nodup := by
  have := h.tw.nodup
  unfold twRows at this
  rwa [List.map_map] at this
theorem Ir.ndS (h : Ir w gi gp gt gs L T S) : (S.map (·.1)).Nodup := by
  have := h.sh.nodup
  unfold shRows at this
  rwa [List.map_map] at this
theorem Ir.putPl (h : Ir w gi gp gt gs L T S) {k : Ky} (hk : k.Ok) (hL : lkp L k = none) (p : Nat × Nat) :
    ∃ w', (Instr.mapUpdate 151 (.map (some gp)) k.val (plV p)).run Tryz.prog w = .ok () w' ∧ w.grownBy w' (some gp) ∧ Ir w' gi gp gt gs (L ++ [(k, p)]) T S := by
  obtain ⟨w', h1, h2, h3, h4⟩ := run_upd keyK Tryz.underlying151 h.pl k hk (plV p)
  have hc : Chg (fun x => some x = some gp) w w' := Chg.of h2
  have n := h.ne
  have hn : ∀ {x : Nat}, x ≠ gp → ¬ some x = some gp := fun hx e => hx (by injection e)
  refine ⟨w', h1, h2, ⟨(hc.block gi (row_lt h.row) (hn n.ip)).trans h.row, ?_, h.tw.chg hc (hn n.pt.symm), fun x hx => (h.twr x hx).keptR hc (hn (n.t4 x hx).2.1), h.sh.chg hc (hn n.ps.symm), fun x hx => (h.shr x hx).chg hc (hn (n.s4 x hx).2.1), h.nod⟩⟩
  rw [upd_new (by rw [plRows_lkp, hL]; rfl)] at h3
  unfold plRows
  rw [List.map_append]
  exact h3
/-- Of a fingerprint: its numbers' row, how many they are. -/
def twO (o : Option Tw) : Value := o.elim (.slice none 0 0) twV
def twN (o : Option Tw) : Nat := o.elim 0 (·.2.1)
theorem Ir.own (h : Ir w gi gp gt gs L T S) (d : List Int) : OwnU w 0 (twO (lkp T d)) (twN (lkp T d)) := by
  cases hl : lkp T d with
  | none => exact World.ownsRow_nil _ _ _ _
  | some t => exact h.twr _ (lkp_some_mem hl)
theorem Ir.putTw (h : Ir w gi gp gt gs L T S) {d : List Int} (hd : SumOk d) {w1 : World} {v : Value} (h1 : OwnU w1 0 v (twN (lkp T d) + 1)) (h2 : w.grownBy w1 (twO (lkp T d)).ownBlock) (h3 : v.ownBlock = (twO (lkp T d)).ownBlock ∨ ∃ g, v.ownBlock = some g ∧ w.heap.size ≤ g) :
    ∃ w' t, v = twV t ∧ t.2.1 = twN (lkp T d) + 1 ∧ (Instr.mapUpdate 152 (.map (some gt)) (sumV d) v).run Tryz.prog w1 = .ok () w' ∧ Chg (fun x => x = gt ∨ (twO (lkp T d)).ownBlock = some x) w w' ∧ w1.grownBy w' (some gt) ∧ Ir w' gi gp gt gs L (upd T d t) S ∧ (t.1 ∈ T.map (·.2.1) ∨ w.heap.size ≤ t.1) := by
  obtain ⟨t, rfl, ht⟩ : ∃ t, v = twV t ∧ t.2.1 = twN (lkp T d) + 1 := by
    obtain ⟨_, h5⟩ := h1
    rcases h5 with ⟨_, h5⟩ | ⟨g, cap, cur, e, _⟩
    · omega
    · exact ⟨(g, _, cap), e, rfl⟩
  have n := h.ne
  have hlt := h.lt
  have hold : ∀ t0, lkp T d = some t0 → (d, t0) ∈ T := fun t0 e => lkp_some_mem e
  have hc1 : Chg (fun x => (twO (lkp T d)).ownBlock = some x) w w1 := (Chg.of h2).mono (fun x hx => hx.symm)
  have hob : ∀ x, (twO (lkp T d)).ownBlock = some x → ∃ y ∈ T, y.1 = d ∧ y.2.1 = x := fun x hx => by
    cases hl : lkp T d with
    | none => rw [hl] at hx; cases hx
    | some t0 => rw [hl] at hx; exact ⟨(d, t0), hold t0 hl, rfl, by injection hx⟩
  have hgi : w1.heap[gi]? = _ := (hc1.block gi (row_lt h.row) (fun hx => by obtain ⟨y, hy, _, e⟩ := hob _ hx; exact (n.t4 y hy).1 e)).trans h.row
  have hpl := h.pl.chg hc1 (fun hx => by obtain ⟨y, hy, _, e⟩ := hob _ hx; exact (n.t4 y hy).2.1 e)
  have htw := h.tw.chg hc1 (fun hx => by obtain ⟨y, hy, _, e⟩ := hob _ hx; exact (n.t4 y hy).2.2.1 e)
  have hsh := h.sh.chg hc1 (fun hx => by obtain ⟨y, hy, _, e⟩ := hob _ hx; exact (n.t4 y hy).2.2.2 e)
  have hshr : ∀ x ∈ S, MapAt Ky.val Ky.Ok w1 x.2.1 (kyRows x.2.2) := fun x hx => (h.shr x hx).chg hc1 (fun he => by obtain ⟨y, hy, _, e⟩ := hob _ he; exact n.st y hy x hx e)
  have hkt : ∀ x ∈ T, x.1 ≠ d → ∀ b, (twO (lkp T d)).ownBlock = some b → x.2.1 ≠ b := fun x hx hxd b hb e => by
    obtain ⟨y, hy, e1, e2⟩ := hob _ hb
    have : x = y := pair_inj n.tt hx hy (e.trans e2.symm)
    exact hxd (this ▸ e1)
  have hkn : ∀ x ∈ T, x.1 ≠ d → x.2.1 ≠ t.1 := fun x hx hxd e => by
    rcases h3 with h3 | ⟨g, h3, hg⟩
    · exact hkt x hx hxd t.1 (h3.symm.trans rfl) e
    · have hg1 : t.1 = g := by injection h3
      have := hlt _ (ixB_tw hx); omega
  have htw1 : ∀ x ∈ T, x.1 ≠ d → OwnU w1 0 (twV x.2) x.2.2.1 := fun x hx hxd => (h.twr x hx).keptR hc1 (fun hb => hkt x hx hxd _ hb rfl)
  obtain ⟨w', k1, k2, k3, k4⟩ := run_upd keyS Tryz.underlying152 htw d hd (twV t)
  have hc2 : Chg (fun x => some x = some gt) w1 w' := Chg.of k2
  have hn : ∀ {x : Nat}, x ≠ gt → ¬ some x = some gt := fun hx e => hx (by injection e)
  have ht4 : ∀ {y : Nat}, y < w.heap.size → (∀ x ∈ T, x.2.1 ≠ y) → t.1 ≠ y := fun hy hT e => by
    rcases h3 with h3 | ⟨g, h3, hg⟩
    · obtain ⟨x, hx, _, e2⟩ := hob t.1 (h3.symm.trans rfl)
      exact hT x hx (e2.trans e)
    · have hg1 : t.1 = g := by injection h3
      omega
  have hgt := h.tw.lt
  have htgt : t.1 ≠ gt := ht4 hgt (fun x hx => (n.t4 x hx).2.2.1)
  have hown : OwnU w' 0 (twV t) t.2.1 := by rw [ht]; exact OwnU.keptR h1 hc2 (hn htgt)
  refine ⟨w', t, rfl, ht, k1, hc1.mono (fun x hx => .inr hx) |>.trans2 hc2 (fun x _ hx => .inl (by injection hx)), k2, ⟨(hc2.block gi (row_lt hgi) (hn n.it)).trans hgi, hpl.chg hc2 (hn n.pt), ?_, ?_, hsh.chg hc2 (hn n.ts.symm), fun x hx => (hshr x hx).chg hc2 (hn (n.s4 x hx).2.2.1), ixNe_iff.2 ⟨n.ip, n.it, n.is_, n.pt, n.ps, n.ts, ?_, n.s4, ?_, ?_, n.ss⟩⟩, ?_⟩
  · unfold twRows at k3 ⊢
    rw [upd_map twV]
    exact k3
  · exact upd_all (p := fun x => OwnU w' 0 (twV x.2) x.2.2.1) (fun x hx hxd => (htw1 x hx hxd).keptR hc2 (hn (n.t4 x hx).2.2.1)) hown
  · exact upd_all (p := fun x => x.2.1 ≠ gi ∧ x.2.1 ≠ gp ∧ x.2.1 ≠ gt ∧ x.2.1 ≠ gs) (fun x hx _ => n.t4 x hx)
      ⟨ht4 (row_lt h.row) (fun x hx => (n.t4 x hx).1), ht4 h.pl.lt (fun x hx => (n.t4 x hx).2.1), htgt, ht4 h.sh.lt (fun x hx => (n.t4 x hx).2.2.2)⟩
  · exact upd_all (p := fun x => ∀ y ∈ S, x.2.1 ≠ y.2.1) (fun x hx _ => n.st x hx) (fun y hy => ht4 (h.shr y hy).lt (fun x hx => n.st x hx y hy))
  · exact upd_pair h.ndT n.tt (fun x hx hxd => hkn x hx hxd) (fun x hx hxd => (hkn x hx hxd).symm)
  · rcases h3 with h3 | ⟨g, h3, hg⟩
    · obtain ⟨x, hx, _, e2⟩ := hob t.1 (h3.symm.trans rfl)
      exact .inl (e2 ▸ List.mem_map_of_mem (f := fun x : List Int × Tw => x.2.1) hx)
    · have hg1 : t.1 = g := by injection h3
      exact .inr (by omega)
/-- A shelf gets a table. -/
theorem Ir.newSh (h : Ir w gi gp gt gs L T S) {s : Nat} (hs : IntOk s) (hS : lkp S s = none) {w1 : World} {gm : Nat} (hb : Below w.heap.size w w1) (hm : MapAt Ky.val Ky.Ok w1 gm []) (hg : w.heap.size ≤ gm) :
    ∃ w', (Instr.mapUpdate 153 (.map (some gs)) (intV s) (.map (some gm))).run Tryz.prog w1 = .ok () w' ∧ w1.grownBy w' (some gs) ∧ Ir w' gi gp gt gs L T (S ++ [(s, (gm, []))]) := by
  have h1 := h.below hb
  obtain ⟨w', k1, k2, k3, k4⟩ := run_upd keyI Tryz.underlying153 h1.sh s hs (.map (some gm))
  have hc : Chg (fun x => some x = some gs) w1 w' := Chg.of k2
  have n := h.ne
  have hn : ∀ {x : Nat}, x ≠ gs → ¬ some x = some gs := fun hx e => hx (by injection e)
  have hlt := h.lt
  have hgm : ∀ {x : Nat}, x ∈ ixB gi gp gt gs T S → gm ≠ x := fun hx e => by have := hlt _ hx; omega
  have g4 : ∀ {x : Nat}, x ∈ [gi, gp, gt, gs] → gm ≠ x := fun hx => hgm (List.mem_append_left _ hx)
  refine ⟨w', k1, k2, ⟨(hc.block gi (row_lt h1.row) (hn n.is_)).trans h1.row, h1.pl.chg hc (hn n.ps), h1.tw.chg hc (hn n.ts), fun x hx => (h1.twr x hx).keptR hc (hn (n.t4 x hx).2.2.2), ?_, ?_, ixNe_iff.2 ⟨n.ip, n.it, n.is_, n.pt, n.ps, n.ts, n.t4, ?_, ?_, n.tt, ?_⟩⟩⟩
  · rw [upd_new (by unfold shRows; rw [lkp_map, hS]; rfl)] at k3
    unfold shRows at k3 ⊢
    rw [List.map_append]
    exact k3
  · intro x hx
    rcases List.mem_append.1 hx with hx | hx
    · exact (h1.shr x hx).chg hc (hn (n.s4 x hx).2.2.2)
    · simp at hx; subst hx
      exact hm.chg hc (hn (g4 (x := gs) (by simp)))
  · intro x hx
    rcases List.mem_append.1 hx with hx | hx
    · exact n.s4 x hx
    · simp at hx; subst hx
      exact ⟨g4 (x := gi) (by simp), g4 (x := gp) (by simp), g4 (x := gt) (by simp), g4 (x := gs) (by simp)⟩
  · intro x hx y hy
    rcases List.mem_append.1 hy with hy | hy
    · exact n.st x hx y hy
    · simp at hy; subst hy
      exact (hgm (ixB_tw hx)).symm
  · rw [List.pairwise_append]
    refine ⟨n.ss, List.pairwise_singleton _ _, ?_⟩
    intro x hx y hy
    simp at hy; subst hy
    exact (hgm (ixB_sh hx)).symm
set_option maxRecDepth 20000 in
/-- A chunk is told of a shelf. -/
theorem Ir.putSh (h : Ir w gi gp gt gs L T S) {s gm : Nat} {ks : List Ky} (hS : lkp S s = some (gm, ks)) {k : Ky} (hk : k.Ok) (hks : k ∉ ks) :
    ∃ w', (Instr.mapUpdate 159 (.map (some gm)) k.val (.bool true)).run Tryz.prog w = .ok () w' ∧ w.grownBy w' (some gm) ∧ Ir w' gi gp gt gs L T (upd S s (gm, ks ++ [k])) := by
  have hm := lkp_some_mem hS
  obtain ⟨w', k1, k2, k3, k4⟩ := run_upd keyK Tryz.underlying159 (h.shr _ hm) k hk (.bool true)
  have hc : Chg (fun x => some x = some gm) w w' := Chg.of k2
  have n := h.ne
  have hn : ∀ {x : Nat}, gm ≠ x → ¬ some x = some gm := fun hx e => hx (by injection e with e; exact e.symm)
  have h4 := n.s4 _ hm
  have hkey : ∀ x ∈ S, x.1 ≠ s → gm ≠ x.2.1 := fun x hx hxs e => by
    have := pair_inj n.ss hx hm e.symm
    exact hxs (by rw [this])
  refine ⟨w', k1, k2, ⟨(hc.block gi (row_lt h.row) (hn h4.1)).trans h.row, h.pl.chg hc (hn h4.2.1), h.tw.chg hc (hn h4.2.2.1), fun x hx => (h.twr x hx).keptR hc (hn (n.st x hx _ hm).symm), ?_, ?_, ixNe_iff.2 ⟨n.ip, n.it, n.is_, n.pt, n.ps, n.ts, n.t4, ?_, ?_, n.tt, ?_⟩⟩⟩
  · have := h.sh.chg hc (hn h4.2.2.2)
    have e : shRows (upd S s (gm, ks ++ [k])) = shRows S := by
      unfold shRows
      rw [upd_old hS, List.map_map]
      apply List.map_congr_left
      intro x hx
      simp only [Function.comp]
      split
      · rename_i e
        have : x = (s, (gm, ks)) := by
          obtain ⟨x1, x2⟩ := x
          simp only at e; subst e
          have := (lkp_of_mem h.ndS hx).symm.trans hS
          injection this with this
          rw [this]
        rw [this]; rfl
      · rfl
    rw [e]; exact this
  · refine upd_all (p := fun x => MapAt Ky.val Ky.Ok w' x.2.1 (kyRows x.2.2)) (fun x hx hxs => (h.shr x hx).chg hc (hn (hkey x hx hxs))) ?_
    rw [upd_new] at k3
    · unfold kyRows at k3 ⊢
      rw [List.map_append]
      exact k3
    · apply lkp_none
      intro x hx e
      unfold kyRows at hx
      obtain ⟨y, hy, rfl⟩ := List.mem_map.1 hx
      exact hks (e ▸ hy)
  · exact upd_all (p := fun x => x.2.1 ≠ gi ∧ x.2.1 ≠ gp ∧ x.2.1 ≠ gt ∧ x.2.1 ≠ gs) (fun x hx _ => n.s4 x hx) (v := (gm, ks ++ [k])) h4
  · intro x hx
    exact upd_all (p := fun y => x.2.1 ≠ y.2.1) (fun y hy _ => n.st x hx y hy) (v := (gm, ks ++ [k])) (show x.2.1 ≠ gm from n.st x hx _ hm)
  · exact upd_pair h.ndS n.ss (fun x hx hxs => (hkey x hx hxs).symm) (fun x hx hxs => hkey x hx hxs)
end
end Go.Proofs.YtcklcffepedklaaGreat
