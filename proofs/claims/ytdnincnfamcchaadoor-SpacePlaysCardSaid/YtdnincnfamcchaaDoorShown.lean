/- space: what is at the head of all statements; a nil space. -/
import Derived.Test.YtdnincnfamcchaaDoorRLoad
namespace Go.Proofs.YtdnincnfamcchaaDoor
open Go.RowKit

theorem Least.uniq {f : Nat → Bool} {n p q : Nat} (h : Least f n p) (k : Least f n q) : p = q := by
  rcases Nat.lt_trichotomy p q with e | e | e
  · have := k.2.2 p e; rw [h.2.1] at this; cases this
  · exact e
  · have := h.2.2 q e; rw [k.2.1] at this; cases this

/-- A space that came new behind w0, and the library's table. -/
structure St (w0 w : World) (g h n m : Nat) (f : Nat → Bool) : Prop where
  bel : Below w0.heap.size w0 w
  tb : Tb w
  sp : Sp w g h n m f
  ge : w0.heap.size ≤ g ∧ w0.heap.size ≤ h
  pos : 0 < w0.heap.size
section
variable {w0 w w' : World} {g h n m : Nat} {f f' : Nat → Bool}
theorem two_far (V : St w0 w g h n m f) (k : Nat) (hk : k < w0.heap.size) : ¬ Two g h k := by
  have := V.ge
  rintro (rfl | rfl) <;> omega
theorem St.step (V : St w0 w g h n m f) (hc : Chg (Two g h) w w') (hs : Sp w' g h n m f') : St w0 w' g h n m f' :=
  ⟨V.bel.trans (hc.below V.bel.size (fun k hk => by have := V.ge; rcases hk with rfl | rfl <;> omega)), V.tb.chg hc (two_far V 0 V.pos), hs, V.ge, V.pos⟩
theorem St.quiet (V : St w0 w g h n m f) (hb : Below w.heap.size w w') : St w0 w' g h n m f :=
  ⟨V.bel.trans (hb.mono V.bel.size), V.tb.below hb, V.sp.kept (R := fun _ => False) (Chg.belowAt hb) (fun h => h) (fun h => h), V.ge, V.pos⟩
theorem New_st (hb : Below w0.heap.size w0 w) (hT : Tb w) (hp : 0 < w0.heap.size) (z : Int) (hz : z = n) (h1 : n ≤ 16384) (h2 : m = (n + 63) / 64) :
    Calls Tryd.prog 10 #[.int .i64 z] w fun e w' => e = .returned (.tuple #[.pointer (some ⟨w.heap.size + 1, 0, none⟩), .int .i64 0]) ∧ St w0 w' (w.heap.size + 1) w.heap.size n m (fun _ => false) := by
  subst hz
  refine (New_any n m w h1 h2).mono ?_
  rintro e w1 ⟨rfl, hg, hV, hs⟩
  have h3 := hb.size
  exact ⟨rfl, hb.trans ((below_refl_grown hg).mono h3), hT.below (below_refl_grown hg), hV, ⟨by omega, h3⟩, hp⟩
theorem Take_st (V : St w0 w g h n m f) (p : Nat) (hp : Least f n p) : Calls Tryd.prog 11 #[.pointer (some ⟨g, 0, none⟩)] w fun e w' => e = .returned (.tuple #[.int .i64 p, .int .i64 0]) ∧ St w0 w' g h n m (turnF f p) := by
  refine (Take_any V.sp V.tb).mono ?_
  rintro e w1 (⟨q, hq, rfl, hc, hs⟩ | ⟨ha, rfl, rfl⟩)
  · obtain rfl := hp.uniq hq
    exact ⟨rfl, V.step hc hs⟩
  · have := ha p hp.1; rw [hp.2.1] at this; cases this
theorem Full_st (V : St w0 w g h n m f) (hp : ∀ k, k < n → f k = true) : Calls Tryd.prog 11 #[.pointer (some ⟨g, 0, none⟩)] w fun e w' => e = .returned (.tuple #[.int .i64 0, .int .i64 5]) ∧ w = w' := by
  refine (Take_any V.sp V.tb).mono ?_
  rintro e w1 (⟨q, hq, rfl, hc, hs⟩ | ⟨ha, rfl, rfl⟩)
  · have := hp q hq.1; rw [hq.2.1] at this; cases this
  · exact ⟨rfl, rfl⟩
theorem Free_st (V : St w0 w g h n m f) (p : Nat) (hp : p < n) (hf : f p = true) (z : Int) (hz : z = p) : Calls Tryd.prog 14 #[.pointer (some ⟨g, 0, none⟩), .int .i64 z] w fun e w' => e = .returned (.int .i64 0) ∧ St w0 w' g h n m (turnF f p) := by
  subst hz
  refine (Free_yes V.sp p hp hf).mono ?_
  rintro e w1 ⟨rfl, hc, hs⟩
  exact ⟨rfl, V.step hc hs⟩
theorem Hold_st (V : St w0 w g h n m f) (p : Nat) (hp : p < n) (hf : f p = false) (z : Int) (hz : z = p) : Calls Tryd.prog 27 #[.pointer (some ⟨g, 0, none⟩), .int .i64 z] w fun e w' => e = .returned (.int .i64 0) ∧ St w0 w' g h n m (turnF f p) := by
  subst hz
  refine (Hold_yes V.sp p hp hf).mono ?_
  rintro e w1 ⟨rfl, hc, hs⟩
  exact ⟨rfl, V.step hc hs⟩
theorem Again_st (V : St w0 w g h n m f) (p : Nat) (hp : p < n) (hf : f p = true) (z : Int) (hz : z = p) : Calls Tryd.prog 27 #[.pointer (some ⟨g, 0, none⟩), .int .i64 z] w fun e w' => e = .returned (.int .i64 3) ∧ w = w' := by
  subst hz
  exact Hold_there V.sp p hp hf
end

def s0 : Nat → Bool := fun _ => false
def s1 : Nat → Bool := turnF s0 0
def s2 : Nat → Bool := turnF s1 1
def s3 : Nat → Bool := turnF s2 0
def s4 : Nat → Bool := turnF s3 0
def s5 : Nat → Bool := turnF s4 3
theorem l0 : Least s0 10 0 := ⟨by decide, rfl, fun k h => absurd h (by omega)⟩
theorem l1 : Least s1 10 1 := ⟨by decide, by decide, fun k h => by obtain rfl : k = 0 := by omega
                                                                   decide⟩
theorem l3 : Least s3 10 0 := ⟨by decide, by decide, fun k h => absurd h (by omega)⟩
theorem shown_bytes : pack 2 s5 = [11, 0] := by decide +kernel
theorem shown_str : strOfNums [11, 0] = { data := #[11, 0] } := by decide +kernel
theorem shown_not : ¬ Ok 10 [11, 4] := fun h => by have := h 10 (by omega); revert this; decide

set_option maxRecDepth 20000 in
set_option maxHeartbeats 1600000 in
theorem shown_any (w : World) (hT : Tb w) : Calls Tryd.prog 9 #[] w fun e w' => e = .returned (.bool true) ∧ Below w.heap.size w w' := by
  have HN := Lib.hid (New_st (n := 10) (m := 1) (Below.refl w.heap.size w) hT hT.1 10 rfl (by omega) rfl)
  clear hT
  go_enter Tryd.func9, Tryd.ntmps9
  go_wp2_with fail
  refine HN.out.mono ?_
  rintro e w1 ⟨rfl, hV⟩
  obtain ⟨g, hg⟩ : ∃ z, z = w.heap.size + 1 := ⟨_, rfl⟩
  obtain ⟨h, hh⟩ : ∃ z, z = w.heap.size := ⟨_, rfl⟩
  rw [← hg] at hV ⊢
  have hV : St w w1 g h 10 1 s0 := by rw [hh]; exact hV
  have HV := Lib.hid hV
  clear hV hg hh
  go_wp2_with fail
  refine (Take_st HV.out 0 l0).mono ?_
  rintro e w2 ⟨rfl, hV⟩
  have HV := Lib.hid (show St w w2 g h 10 1 s1 from hV)
  clear hV
  go_wp2_with fail
  refine (Take_st HV.out 1 l1).mono ?_
  rintro e w3 ⟨rfl, hV⟩
  have HV := Lib.hid (show St w w3 g h 10 1 s2 from hV)
  clear hV
  go_wp2_with fail
  refine (Free_st HV.out 0 (by omega) (by decide) 0 rfl).mono ?_
  rintro e w4 ⟨rfl, hV⟩
  have HV := Lib.hid (show St w w4 g h 10 1 s3 from hV)
  clear hV
  go_wp2_with fail
  refine (Take_st HV.out 0 l3).mono ?_
  rintro e w5 ⟨rfl, hV⟩
  have HV := Lib.hid (show St w w5 g h 10 1 s4 from hV)
  clear hV
  go_wp2_with fail
  refine (Hold_st HV.out 3 (by omega) (by decide) 3 rfl).mono ?_
  rintro e w6 ⟨rfl, hV⟩
  have HV := Lib.hid (show St w w6 g h 10 1 s5 from hV)
  clear hV
  go_wp2_with fail
  refine (Again_st HV.out 3 (by omega) (by decide) 3 rfl).mono ?_
  rintro e w7 ⟨rfl, rfl⟩
  go_wp2_with fail
  have HV := Lib.hid (HV.out.quiet ((Below.refl _ _).alloc (Nat.le_refl _) (Obj.cells #[Value.int IntKind.u8 11, Value.int IntKind.u8 4] 5)))
  have HI := Lib.hid (ints_lit .u8 w6 [11, 4] 5)
  refine (Load_over 10 2 2 1 [11, 4] (some ⟨w6.heap.size, 0, none⟩) _ (by omega) rfl (fun i => by match i with | 0 => decide | 1 => decide | i + 2 => simp) rfl rfl HI.out shown_not).mono ?_
  rintro e w8 ⟨rfl, hg8⟩
  have HV := Lib.hid (HV.out.quiet (below_refl_grown hg8))
  clear hg8
  go_wp2_with fail
  refine (Bytes_any HV.out.sp 2 rfl).mono ?_
  rintro e w9 ⟨A, c, rfl, hc, hI, hA, hb9⟩
  have hcv : (convert 34 9 (.slice A (pack 2 s5).length c)).run Tryd.prog w9 = .ok (.string { data := #[11, 0] }) w9 := by rw [← shown_str, ← shown_bytes]; exact run_conv_ints hI 34 9 5 _ c rfl Tryd.underlying34 Tryd.underlying5 Tryd.underlying9
  have HV := Lib.hid (HV.out.quiet hb9)
  clear hb9 hI hA
  go_wp2_with fail
  go_ret
  exact ⟨rfl, HV.out.bel⟩

/-- A nil space has nothing. -/
theorem Nil_law (x : Int) (w : World) (hT : Tb w) : Calls Tryd.prog 8 #[.int .i64 x] w fun e w' => e = .returned (.bool true) ∧ Below w.heap.size w w' := by
  have HS := Lib.hid (shown_any w hT)
  clear hT
  go_enter Tryd.func8, Tryd.ntmps8
  go_wp2_with (first | (go_at_call 11; refine (Take_nil _).mono ?_; rintro e w1 ⟨rfl, rfl⟩) | (go_at_call 9; refine HS.out.mono ?_; rintro e w1 ⟨rfl, hb1⟩) | (go_at_call 27; refine (Hold_nil _ _).mono ?_; rintro e w1 ⟨rfl, rfl⟩) | (go_at_call 14; refine (Free_nil _ _).mono ?_; rintro e w1 ⟨rfl, rfl⟩) | (go_at_call 13; refine (Has_nil _ _).mono ?_; rintro e w1 ⟨rfl, rfl⟩) | (go_at_call 17; refine (Len_nil _).mono ?_; rintro e w1 ⟨rfl, rfl⟩) | (go_at_call 12; refine (Taken_nil _).mono ?_; rintro e w1 ⟨rfl, rfl⟩) | (go_at_call 21; refine (All_nil _).mono ?_; rintro e w1 ⟨rfl, rfl⟩) | (go_at_call 19; refine (Bytes_nil _).mono ?_; rintro e w1 ⟨rfl, rfl⟩))
  go_ret
  exact ⟨rfl, hb1⟩
end Go.Proofs.YtdnincnfamcchaaDoor
