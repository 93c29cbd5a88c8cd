/- DigestApart: the walk. -/
import Derived.Test.YtehmnkkfoopanaaSums
namespace Go.Proofs.Ytehmnkkfoopanaa
open Go.RowKit

theorem Ints.old {w : World} {A : Option Addr} {b : List Int} (h : Ints .u8 w A b) : ∀ ad, A = some ad → 0 < b.length → ad.block < w.heap.size := by
  intro ad e hp
  obtain ⟨ad', e', hc⟩ := h 0 hp
  rw [e] at e'
  injection e' with e'
  subst e'
  exact cell_block hc
theorem Len_st {w : World} {g : Nat} {B : List Int} (h : St w g B) : Calls Try.prog 18 #[.pointer (some ⟨g, 0, none⟩)] w fun e w' => e = .returned (.int .u64 B.length) ∧ w = w' := by
  obtain ⟨rs, R, er⟩ := h.ex
  exact Len_any R
/-- Two states that came new behind w0. -/
structure Two (w0 w : World) (g h : Nat) (B C : List Int) : Prop where
  bel : Below w0.heap.size w0 w
  s1 : St w g B
  s2 : St w h C
  ge1 : w0.heap.size ≤ g
  ge2 : w0.heap.size ≤ h
  ne : g ≠ h
section
variable {w0 w w' : World} {g h : Nat} {B C B' C' : List Int}
theorem Two.quiet (T : Two w0 w g h B C) (hb : Below w.heap.size w w') : Two w0 w' g h B C :=
  ⟨T.bel.trans (hb.mono T.bel.size), T.s1.of_block (hb.block g T.s1.lt), T.s2.of_block (hb.block h T.s2.lt), T.ge1, T.ge2, T.ne⟩
theorem Two.first (T : Two w0 w g h B C) (hg : w.grownBy w' (some g)) (hs : St w' g B') : Two w0 w' g h B' C :=
  ⟨T.bel.grown hg T.bel.size (fun k hk => by injection hk with hk; rw [← hk]; exact T.ge1), hs, T.s2.of_block (hg.block h T.s2.lt (fun e => T.ne (by injection e with e; exact e.symm))), T.ge1, T.ge2, T.ne⟩
theorem Two.second (T : Two w0 w g h B C) (hg : w.grownBy w' (some h)) (hs : St w' h C') : Two w0 w' g h B C' :=
  ⟨T.bel.grown hg T.bel.size (fun k hk => by injection hk with hk; rw [← hk]; exact T.ge2), T.s1.of_block (hg.block g T.s1.lt (fun e => T.ne (by injection e))), hs, T.ge1, T.ge2, T.ne⟩
theorem Two.new {w1 w2 w3 : World} (h1 : Below w1.heap.size w1 w2) (hg : w1.heap.size ≤ g) (hs : St w2 g B) (h2 : Below w2.heap.size w2 w3) (hh : w2.heap.size ≤ h) (hk : St w3 h C) (hb : Below w0.heap.size w0 w1) : Two w0 w3 g h B C := by
  have a1 := hb.size
  have a2 := h1.size
  have a3 := hs.lt
  exact ⟨hb.trans ((h1.trans (h2.mono h1.size)).mono hb.size), hs.of_block (h2.block g hs.lt), hk, by omega, by omega, by omega⟩
end
/-- Bytes are told to a state, from a part of a slice that stood before it. -/
theorem Write_part {w0 w : World} {g q c : Nat} {B b : List Int} {A : Option Addr} (hS : St w g B) (hge : w0.heap.size ≤ g) (hbel : Below w0.heap.size w0 w) (hq : b.length = q) (hqc : q ≤ c) (hb : Bytes b) (hI : Ints .u8 w0 A b) (hl : B.length + q < 4611686018427387904) :
    Calls Try.prog 16 #[.pointer (some ⟨g, 0, none⟩), .slice A q c] w fun e w' => e = .returned (.tuple #[]) ∧ w.grownBy w' (some g) ∧ St w' g (B ++ b) :=
  Write_any g q c B b A w hS hq hqc hb (hI.below hbel) (fun ad e hp => by have := hI.old ad e (by omega); omega) hl

set_option maxRecDepth 20000 in
set_option maxHeartbeats 1600000 in
theorem Apart_law (A : Option Addr) (c : Nat) (l : List Int) (A2 : Option Addr) (c2 : Nat) (l2 : List Int) (w : World) (hI : Ints .u8 w A l) (hb : Bytes l) (hc : l.length ≤ c) (hI2 : Ints .u8 w A2 l2) (hb2 : Bytes l2) (hc2 : l2.length ≤ c2) :
    Calls Try.prog 7 #[.slice A l.length c, .slice A2 l2.length c2] w fun e w' => e = .returned (.bool true) ∧ Below w.heap.size w w' := by
  obtain ⟨n, hn⟩ : ∃ z, z = l.length := ⟨_, rfl⟩
  obtain ⟨n2, hn2⟩ : ∃ z, z = l2.length := ⟨_, rfl⟩
  have HFEW := Lib.hid (fun W => few_any A n c W (by omega))
  have HFEW2 := Lib.hid (fun W => few_any A2 n2 c2 W (by omega))
  obtain ⟨b, hbb⟩ : ∃ z, z = l.take 100000 := ⟨_, rfl⟩
  obtain ⟨b2, hbb2⟩ : ∃ z, z = l2.take 100000 := ⟨_, rfl⟩
  have hbl : b.length = min n 100000 := by rw [hbb, hn]; exact take_min _ _
  have hbl2 : b2.length = min n2 100000 := by rw [hbb2, hn2]; exact take_min _ _
  have HB := Lib.hid (show Bytes b by rw [hbb]; exact hb.take _)
  have HB2 := Lib.hid (show Bytes b2 by rw [hbb2]; exact hb2.take _)
  have HI := Lib.hid (show Ints .u8 w A b by rw [hbb]; exact hI.take _)
  have HI2 := Lib.hid (show Ints .u8 w A2 b2 by rw [hbb2]; exact hI2.take _)
  rw [← hn, ← hn2]
  obtain ⟨q, hq⟩ : ∃ z, z = min n 100000 := ⟨_, rfl⟩
  obtain ⟨q2, hq2⟩ : ∃ z, z = min n2 100000 := ⟨_, rfl⟩
  rw [← hq] at HFEW hbl
  rw [← hq2] at HFEW2 hbl2
  obtain ⟨k, hk⟩ : ∃ z, z = q / 2 := ⟨_, rfl⟩
  have HQ := Lib.hid hbl
  have HQ2 := Lib.hid hbl2
  have HQC := Lib.hid (show q ≤ c by omega)
  have HQC2 := Lib.hid (show q2 ≤ c2 by omega)
  have HQM := Lib.hid (show q < 4611686018427387904 by omega)
  have HQM2 := Lib.hid (show q2 < 4611686018427387904 by omega)
  have HK := Lib.hid (show (q : Int) / 2 = (k : Int) by omega)
  have HKQ := Lib.hid (show k ≤ q by omega)
  have HKW := Lib.hid (show wrap64 (k : Int) = (k : Int) by unfold wrap64; omega)
  clear hI hb hc hI2 hb2 hc2 hn hn2 hbb hbb2 hbl hbl2 hq hq2 hk
  go_enter Try.func7, Try.ntmps7
  go_wp2_with fail
  refine (shown_any w).mono ?_
  rintro e w1 ⟨rfl, hb1⟩
  go_wp2_with fail
  refine (New_st w1).mono ?_
  rintro e w2 ⟨g, rfl, hg2, hge2, hS2⟩
  go_wp2_with fail
  refine (New_st w2).mono ?_
  rintro e w3 ⟨h, rfl, hg3, hge3, hS3⟩
  have T3 := Lib.hid (Two.new (below_refl_grown hg2) hge2 hS2 (below_refl_grown hg3) hge3 hS3 hb1)
  clear hb1 hg2 hge2 hS2 hg3 hge3 hS3
  go_wp2_with fail
  refine (HFEW.out _).mono ?_
  rintro e w3a ⟨rfl, rfl⟩
  go_wp2_with fail
  refine (HFEW2.out _).mono ?_
  rintro e w3b ⟨rfl, rfl⟩
  have hkk := HK.out
  have hkw := HKW.out
  have hkc : k ≤ c := by have := HKQ.out; have := HQC.out; omega
  have hkq := HKQ.out
  go_wp2_with fail
  clear hkk hkc hkq hkw
  refine (Write_part T3.out.s1 T3.out.ge1 T3.out.bel (b := b.take k) (by rw [List.length_take, HQ.out]; exact Nat.min_eq_left HKQ.out) (Nat.le_trans HKQ.out HQC.out) (HB.out.take k) (HI.out.take k) (by have := HKQ.out; have := HQM.out; simp; omega)).mono ?_
  rintro e w4 ⟨rfl, hg4, hS4⟩
  have T4 := Lib.hid (T3.out.first hg4 hS4)
  rw [List.nil_append] at T4
  clear hg4 hS4
  go_wp2_with fail
  refine (Write_part T4.out.s2 T4.out.ge2 T4.out.bel HQ2.out HQC2.out HB2.out HI2.out (by have := HQM2.out; simp; omega)).mono ?_
  rintro e w5 ⟨rfl, hg5, hS5⟩
  have T5 := Lib.hid (T4.out.second hg5 hS5)
  rw [List.nil_append] at T5
  clear hg5 hS5
  go_upto_region 8 with (fail)
  have HW := Lib.hid (fun A' c' (e : A' = slA A k c) (e2 : c' = c - k) => Write_part T5.out.s1 T5.out.ge1 T5.out.bel (A := A') (b := b.drop k) (q := q - k) (c := c') (by rw [List.length_drop, HQ.out]) (by have := HKQ.out; have := HQC.out; omega) (HB.out.drop k) (by rw [e]; exact HI.out.sl k c (by rw [HQ.out]; exact HQC.out)) (by have := HKQ.out; have := HQM.out; rw [List.length_take, HQ.out]; omega))
  have hkk := HK.out
  have hkw := HKW.out
  have hkc : k ≤ c := by have := HKQ.out; have := HQC.out; omega
  have hkq := HKQ.out
  have hif : (if c = k then A else Option.map (fun x => x.add k) A) = slA A k c := rfl
  go_cut [] (fun w' => Two w w' g h b b2)
  case first =>
    go_wp2_with fail
    all_goals
      refine (HW.out _ _ rfl rfl).mono ?_
      rintro e w6 ⟨rfl, hg6, hS6⟩
      rw [List.take_append_drop] at hS6
      have T6 := Lib.hid (T5.out.first hg6 hS6)
      clear hg6 hS6
      go_wp2_with fail
      go_meet
      exact T6.out
  case rest =>
  clear hif hkk hkc hkq hkw HW T5 T4 T3
  have T6 := Lib.hid hcut
  have HS1 := Lib.hid hcut.s1
  clear hcut
  obtain ⟨D1, hD1⟩ : ∃ z, z = digestF b := ⟨_, rfl⟩
  obtain ⟨D2, hD2⟩ : ∃ z, z = digestF b2 := ⟨_, rfl⟩
  have HD1 := Lib.hid hD1
  have HD2 := Lib.hid hD2
  have HE1 := Lib.hid (fun w => run_in24 w D1 (by rw [hD1]; exact digestF_length _))
  have HE2 := Lib.hid (fun w => run_in24 w D2 (by rw [hD2]; exact digestF_length _))
  have HIW := Lib.hid (HI.out.below T6.out.bel)
  have HIW2 := Lib.hid (HI2.out.below T6.out.bel)
  clear hD1 hD2
  go_wp2_with fail
  refine (Sum_any g b wc T6.out.s1).mono ?_
  rintro e w7 ⟨rfl, hb7⟩
  rw [← HD1.out]
  have HB7 := Lib.hid hb7
  clear hb7
  go_wp2_with fail
  refine (DSum_one HQ.out HQC.out (HIW.out.below HB7.out) HB.out 22 HQM.out).mono ?_
  rintro e w8 ⟨rfl, hb8⟩
  rw [← HD1.out]
  have HB8 := Lib.hid (HB7.out.trans (hb8.mono HB7.out.size))
  clear hb8
  go_wp2_with (rw [HE1.out]; simp only [Result.andThen_ok])
  refine (Sum_any h b2 w8 (T6.out.quiet HB8.out).s2).mono ?_
  rintro e w9 ⟨rfl, hb9⟩
  rw [← HD2.out]
  have HB9 := Lib.hid (HB8.out.trans (hb9.mono HB8.out.size))
  clear hb9
  go_wp2_with fail
  refine (DSum_one HQ2.out HQC2.out (HIW2.out.below HB9.out) HB2.out 22 HQM2.out).mono ?_
  rintro e w10 ⟨rfl, hb10⟩
  rw [← HD2.out]
  have HB10 := Lib.hid (HB9.out.trans (hb10.mono HB9.out.size))
  clear hb10
  go_wp2_with (rw [HE2.out]; simp only [Result.andThen_ok])
  refine (Len_st (T6.out.quiet HB10.out).s2).mono ?_
  rintro e w11 ⟨rfl, rfl⟩
  rw [HQ2.out]
  have hqm := HQM2.out
  go_wp2_with fail
  go_ret
  exact ⟨rfl, (T6.out.quiet HB10.out).bel⟩
end Go.Proofs.Ytehmnkkfoopanaa
