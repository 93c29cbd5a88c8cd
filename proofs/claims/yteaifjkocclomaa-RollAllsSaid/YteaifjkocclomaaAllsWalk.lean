/- RollAlls: the walk of the law. -/
import Derived.Test.YteaifjkocclomaaShown
namespace Go.Proofs.Yteaifjkocclomaa
open Go.RowKit

theorem All_n (n : Nat) (A : Option Addr) (c : Nat) (l : List Int) (w : World) (hn : l.length = n) (hr : Ints .u8 w A l) (hb : Bytes l) (hc : n ≤ c) (hl : n ≤ 1000000000) :
    Calls Try.prog 11 #[.slice A n c] w (NewInts .u32 w.heap.size (allR l (n - 15)) w) := by subst hn; exact All_any A c l w hr hb hc hl
theorem rAll_n (n : Nat) (A : Option Addr) (c : Nat) (l : List Int) (w : World) (hn : l.length = n) (hr : Ints .u8 w A l) (hb : Bytes l) (hc : n ≤ c) (hl : n ≤ 1000000000) :
    Calls Try.prog 12 #[.slice A n c] w (NewInts .u32 w.heap.size (allR l (n - 15)) w) := by subst hn; exact rAll_any A c l w hr hb hc hl

set_option maxHeartbeats 800000 in
theorem Alls_long (A : Option Addr) (c : Nat) (l : List Int) (w : World) (hr : Ints .u8 w A l) (hb : Bytes l) (hc : l.length ≤ c) (hlt : 10000 < l.length) :
    Calls Try.prog 4 #[.slice A l.length c] w fun e w' => e = .returned (.bool true) ∧ Below w.heap.size w w' := by
  have hX : Ints .u8 w A (l.take 10000) := hr.take _
  have hB : Bytes (l.take 10000) := hb.take _
  have hN : (l.take 10000).length = 10000 := by rw [List.length_take]; omega
  have HX := Lib.hid hX
  have HB := Lib.hid hB
  have HN := Lib.hid hN
  clear hr hb hX hB hN
  go_enter Try.func4, Try.ntmps4
  go_wp2_with fail
  refine (shown_any _).mono ?_
  rintro e w1 ⟨rfl, hb1⟩
  have HX1 := Lib.hid (HX.out.below hb1)
  have hs1 := hb1.size
  go_wp2_with fail
  refine (All_n 10000 A c _ w1 HN.out HX1.out HB.out (by omega) (by omega)).mono ?_
  rintro e w2 ⟨A2, c2, rfl, hc2, hI2, hA2, hb2⟩
  have HX2 := Lib.hid (HX1.out.below hb2)
  have hs2 := hb2.size
  generalize hLL : allR (l.take 10000) (10000 - 15) = L at *
  have HLL := Lib.hid hLL
  clear hLL
  go_wp2_with fail
  refine (rAll_n 10000 A c _ w2 HN.out HX2.out HB.out (by omega) (by omega)).mono ?_
  rintro e w3 ⟨A3, c3, rfl, hc3, hI3, hA3, hb3⟩
  rw [HLL.out] at hc3 hI3 ⊢
  have hs3 := hb3.size
  have HI2 := Lib.hid (hI2.below hb3)
  have HI3 := Lib.hid hI3
  have HL := Lib.hid (show L.length ≤ 10000 by rw [← HLL.out, allR_length]; omega)
  have hL := HL.out
  clear hI2 hI3
  go_wp2_with fail
  go_loopg [25] L.length (fun kq v25 w' => ∃ (j : Nat), v25 = .int .i64 (j : Int) ∧ j ≤ L.length ∧ kq = L.length - j ∧ ∃ q, w' = w3.drewN q)
  case atStart => exact ⟨0, rfl, by omega, by omega, 0, rfl⟩
  case round =>
    obtain ⟨j, rfl, hj, hk, q, rfl⟩ := hrel
    by_cases hlt2 : j < L.length
    · obtain ⟨ad2, e2, hc2'⟩ := HI2.out j hlt2
      obtain ⟨ad3, e3, hc3'⟩ := HI3.out j hlt2
      subst e2
      subst e3
      generalize L.getD j 0 = x at *
      go_wp2_with fail
      go_quiet (fail)
      go_wp2
      go_roundg (L.length - (j + 1))
      case measure => omega
      case rel => exact ⟨j + 1, by go_num, by omega, rfl, _, rfl⟩
    · go_wp2
      go_ret
      exact ⟨rfl, below_drewN ((hb1.trans (hb2.mono (by omega))).trans (hb3.mono (by omega))) _⟩

set_option maxHeartbeats 800000 in
theorem Alls_short (A : Option Addr) (c : Nat) (l : List Int) (w : World) (hr : Ints .u8 w A l) (hb : Bytes l) (hc : l.length ≤ c) (hlt : l.length ≤ 10000) :
    Calls Try.prog 4 #[.slice A l.length c] w fun e w' => e = .returned (.bool true) ∧ Below w.heap.size w w' := by
  have hX : Ints .u8 w A (l) := hr
  have hB : Bytes (l) := hb
  have HX := Lib.hid hX
  have HB := Lib.hid hB
  clear hr hb hX hB
  go_enter Try.func4, Try.ntmps4
  go_wp2_with fail
  refine (shown_any _).mono ?_
  rintro e w1 ⟨rfl, hb1⟩
  have HX1 := Lib.hid (HX.out.below hb1)
  have hs1 := hb1.size
  go_wp2_with fail
  refine (All_n l.length A c l w1 rfl HX1.out HB.out (by omega) (by omega)).mono ?_
  rintro e w2 ⟨A2, c2, rfl, hc2, hI2, hA2, hb2⟩
  have HX2 := Lib.hid (HX1.out.below hb2)
  have hs2 := hb2.size
  generalize hLL : allR (l) (l.length - 15) = L at *
  have HLL := Lib.hid hLL
  clear hLL
  go_wp2_with fail
  refine (rAll_n l.length A c l w2 rfl HX2.out HB.out (by omega) (by omega)).mono ?_
  rintro e w3 ⟨A3, c3, rfl, hc3, hI3, hA3, hb3⟩
  rw [HLL.out] at hc3 hI3 ⊢
  have hs3 := hb3.size
  have HI2 := Lib.hid (hI2.below hb3)
  have HI3 := Lib.hid hI3
  have HL := Lib.hid (show L.length ≤ 10000 by rw [← HLL.out, allR_length]; omega)
  have hL := HL.out
  clear hI2 hI3
  go_wp2_with fail
  go_loopg [25] L.length (fun kq v25 w' => ∃ (j : Nat), v25 = .int .i64 (j : Int) ∧ j ≤ L.length ∧ kq = L.length - j ∧ ∃ q, w' = w3.drewN q)
  case atStart => exact ⟨0, rfl, by omega, by omega, 0, rfl⟩
  case round =>
    obtain ⟨j, rfl, hj, hk, q, rfl⟩ := hrel
    by_cases hlt2 : j < L.length
    · obtain ⟨ad2, e2, hc2'⟩ := HI2.out j hlt2
      obtain ⟨ad3, e3, hc3'⟩ := HI3.out j hlt2
      subst e2
      subst e3
      generalize L.getD j 0 = x at *
      go_wp2_with fail
      go_quiet (fail)
      go_wp2
      go_roundg (L.length - (j + 1))
      case measure => omega
      case rel => exact ⟨j + 1, by go_num, by omega, rfl, _, rfl⟩
    · go_wp2
      go_ret
      exact ⟨rfl, below_drewN ((hb1.trans (hb2.mono (by omega))).trans (hb3.mono (by omega))) _⟩

theorem Alls_law (A : Option Addr) (c : Nat) (l : List Int) (w : World) (hr : Ints .u8 w A l) (hb : Bytes l) (hc : l.length ≤ c) :
    Calls Try.prog 4 #[.slice A l.length c] w fun e w' => e = .returned (.bool true) ∧ Below w.heap.size w w' := by
  by_cases h : l.length ≤ 10000
  · exact Alls_short A c l w hr hb hc h
  · exact Alls_long A c l w hr hb hc (by omega)

end Go.Proofs.Yteaifjkocclomaa
