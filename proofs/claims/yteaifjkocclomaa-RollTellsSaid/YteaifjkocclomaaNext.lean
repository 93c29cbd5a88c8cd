/- roll.Next, roll.All and the reference's: what they compute. -/
import Derived.Test.YteaifjkocclomaaOf
namespace Go.Proofs.Yteaifjkocclomaa
open Go.RowKit

theorem ret_u32 {a b : Int} (h : a = b) : Ending.returned (.int .u32 a) = .returned (.int .u32 b) := by rw [h]

theorem count_q (c : Int) (w : World) (h0 : 0 ≤ c) (h1 : c < 256) : Calls Try.prog 15 #[.int .u8 c] w fun e w' => e = .returned (.int .u32 (c + 1)) ∧ w' = w :=
  (count_any c w h0 h1).mono fun _ _ h => ⟨h.1, h.2.symm⟩

theorem own_step {B e : Nat} {w : World} {v : Value} {n : Nat} {xs : List Value} (h : w.ownsRow B e 1 v n xs) (o : Obj) (q : Nat) : ((w.alloc o).drewN q).ownsRow B e 1 v n xs := h.alloc o

theorem one_new (w : World) (v : Value) (e : TypeId) : ∀ (j : Nat) (u : Value), [v][j]? = some u → (w.alloc (.cells #[v] e)).cell? ((⟨w.heap.size, 0, none⟩ : Addr).add j) = some u := by
  intro j u hj
  match j, hj with
  | 0, hj => simp at hj; subst hj; simp [Addr.add]

theorem Next_any (s o i : Int) (w : World) (ho0 : 0 ≤ o) (ho1 : o < 256) (hi0 : 0 ≤ i) (hi1 : i < 256) :
    Calls Try.prog 13 #[.int .u32 s, .int .u8 o, .int .u8 i] w fun e w' => e = .returned (.int .u32 (nextR s o i)) ∧ w = w' := by
  go_enter Try.func13, Try.ntmps13
  go_wp2_with fail
  refine (count_any _ _ ho0 ho1).mono ?_
  rintro e w' ⟨rfl, rfl⟩
  go_wp2_with fail
  refine (top_any _).mono ?_
  rintro e w' ⟨rfl, rfl⟩
  go_wp2_with fail
  refine (count_any _ _ hi0 hi1).mono ?_
  rintro e w' ⟨rfl, rfl⟩
  go_wp2_with fail
  go_ret
  refine ⟨ret_u32 ?_, rfl⟩
  unfold nextR topN
  omega

theorem rNext_any (s o i : Int) (w : World) (ho0 : 0 ≤ o) (ho1 : o < 256) (hi0 : 0 ≤ i) (hi1 : i < 256) :
    Calls Try.prog 14 #[.int .u32 s, .int .u8 o, .int .u8 i] w fun e w' => e = .returned (.int .u32 (nextR s o i)) ∧ w = w' := by
  have H := Lib.hid (rtopL_all (o + 1) (by omega) (by omega))
  go_enter Try.func14, Try.ntmps14
  go_wp2
  go_loopg [7, 8] 17 (fun kq v1 v2 w' => ∃ (x i : Int), v1 = .int .u32 x ∧ v2 = .int .i64 i ∧ Hid (rtopL kq x i = some (((o + 1) * topN) % 4294967296)) ∧ 0 ≤ i ∧ w = w')
  case atStart => exact ⟨o + 1, 1, rfl, rfl, H, by omega, rfl⟩
  case round =>
    obtain ⟨x, i, rfl, rfl, HK, hi, rfl⟩ := hrel
    clear H
    cases gk with
    | zero => exact absurd HK.out (by simp [rtopL])
    | succ k1 =>
      have HK' := HK.out
      clear HK
      unfold rtopL at HK'
      by_cases hlt : i < 16
      · rw [if_pos hlt] at HK'
        have HK := Lib.hid HK'
        clear HK'
        go_wp2
        go_roundg k1
        case measure => omega
        case rel => exact ⟨_, _, rfl, rfl, HK, by omega, rfl⟩
      · rw [if_neg hlt] at HK'
        have HK := Lib.hid (Option.some.inj HK')
        clear HK'
        go_wp2
        go_ret
        refine ⟨ret_u32 ?_, rfl⟩
        rw [HK.out]
        unfold nextR topN
        omega

theorem Try.info24 : (Try.prog.info? 24).map (fun i => (i.zero, i.size, i.bytes)) = some (some (.int .u32 0), 1, 4) := by kernel_rfl

/-- What roll.All's rounds keep. -/
structure AllRel (B : Nat) (l : List Int) (w wr : World) (j : Nat) (v : Value) : Prop where
  own : wr.ownsRow B 24 1 v (allR l (j + 1)).length ((allR l (j + 1)).map (Value.int .u32))
  below : Below B w wr

set_option maxHeartbeats 400000 in
theorem All_any (A : Option Addr) (c : Nat) (l : List Int) (w : World) (hr : Ints .u8 w A l) (hb : Bytes l) (hc : l.length ≤ c) (hl : l.length ≤ 1000000000) :
    Calls Try.prog 11 #[.slice A l.length c] w (NewInts .u32 w.heap.size (allR l (l.length - 15)) w) := by
  have HR := Lib.hid hr
  have HB := Lib.hid hb
  obtain ⟨i0, hi, hz0, hz1, hz2⟩ := info_parts Try.info24
  by_cases h16 : l.length < 16
  · have HE := Lib.hid (show (allR l (l.length - 15)) = [] by rw [show l.length - 15 = 0 from by omega]; rfl)
    clear hr hb
    go_enter Try.func11, Try.ntmps11
    go_wp2
    go_ret
    rw [HE.out]
    exact ⟨none, 0, rfl, by simp, fun i hi => absurd hi (by simp), (fun ad e => by cases e), Below.refl _ _⟩
  · have hT : l.take 16 = l.take (16 + 0) := rfl
    have hlen : (l.take 16).length = 16 := by rw [List.length_take]; omega
    have HC := Of_any A c (l.take 16) w (hr.take 16) (hb.take 16) (by omega)
    rw [hlen] at HC
    have HC1 := Lib.hid HC
    clear hr hb HC hlen
    go_enter Try.func11, Try.ntmps11
    go_wp2_with fail
    refine HC1.out.mono ?_
    rintro e w' ⟨rfl, rfl⟩
    go_wp2_with fail
    refine (top_any _).mono ?_
    rintro e w' ⟨rfl, rfl⟩
    have hlo := sumR_lo (l.take 16)
    have hhi := sumR_hi (l.take 16)
    go_wp2_with fail
    go_loopg [3, 5, 6] l.length (fun kq v3 v5 v6 w' => ∃ (j : Nat), v3 = .int .u32 (sumR (l.take (16 + j))) ∧ v6 = .int .i64 ((16 + j : Nat) : Int) ∧ 16 + j ≤ l.length ∧ kq = l.length - j ∧ AllRel w.heap.size l w w' j v5)
    case atStart =>
      refine ⟨0, rfl, rfl, by omega, by omega, ⟨?_, ?_⟩⟩
      · simpa [allR] using World.ownsRow_lit w (base := w.heap.size) (e := 24) (size := 1) #[.int .u32 (sumR (l.take 16))] 1 (by omega) (by unfold maxLen; omega) rfl
      · exact (Below.refl _ _).alloc (Nat.le_refl _) _
    case round =>
      obtain ⟨j, rfl, rfl, hj, hk, hR⟩ := hrel
      by_cases hlt : 16 + j < l.length
      · obtain ⟨ad, e, hc1⟩ := HR.out j (by omega)
        obtain ⟨ad2, e2, hc2⟩ := HR.out (16 + j) (by omega)
        subst e
        obtain rfl : ad = ad2 := by injection e2
        clear e2
        have hbk := cell_block hc1
        have hc1' := (hR.below.cell (p := ad.add j) (by rw [add_block]; exact hbk)).trans hc1
        have hc2' := (hR.below.cell (p := ad.add (16 + j)) (by rw [add_block]; exact hbk)).trans hc2
        have hb1 := HB.out j
        have hb2 := HB.out (16 + j)
        have HN := Lib.hid (sumR_next l (16 + j) hlt (by omega))
        have hl1 := sumR_lo (l.take (16 + j))
        have hh1 := sumR_hi (l.take (16 + j))
        clear hc1 hc2
        rw [show 16 + j - 16 = j from by omega] at HN
        generalize l.getD j 0 = x at *
        generalize l.getD (16 + j) 0 = y at *
        go_wp2_with fail
        go_quiet ((go_at_call 15; exact Calls.quiet_of_same (count_q _ _ (by omega) (by omega))))
        have hown := hR.own
        go_wp2_with (at_builtin; refine wpList_append_own _ rfl _ _ 27 rfl w.heap.size 24 i0 (.int .u32 0) 1 4 Try.underlying27 hi hz0 hz1 hz2 rfl (by decide) _ _ _ rfl (own_step hown _ _) ⟨wr.heap.size, 0, none⟩ 1 1 [.int .u32 (nextR (sumR (l.take (16 + j))) x y)] rfl rfl ?c1 ?c2 ?c3 ?c4 ?c5 ?_)
        case c1 => exact one_new _ _ _
        case c2 => intro u hu; simp at hu; subst hu; rfl
        case c3 => simp [allR]; unfold maxLen; omega
        case c4 => simp [allR]; omega
        case c5 => have := hR.below.size; simp; omega
        intro v' w1 hown' hgrow _
        have hR' : AllRel w.heap.size l w w1 (j + 1) v' := by
          refine ⟨?_, ?_⟩
          · rw [allR_succ, List.length_append, List.map_append, show 16 + (j + 1) = 16 + j + 1 from by omega, ← HN.out]
            exact hown'
          · exact ((below_drewN hR.below nq).alloc (by simpa using hR.below.size) _).grown hgrow (by have := hR.below.size; simp; omega) (fun k hk => (hown.lt k hk).1)
        clear hown hown' hgrow hR
        go_wp2
        go_roundg (l.length - (j + 1))
        case measure => omega
        case rel => exact ⟨j + 1, by rw [show 16 + (j + 1) = 16 + j + 1 from by omega, ← HN.out]; rfl, by go_num, by omega, rfl, hR'⟩
      · go_wp2
        go_ret
        rw [show l.length - 15 = j + 1 from by omega]
        obtain ⟨A', c', hv, hcc, hI, hA'⟩ := new_of_own hR.own
        exact ⟨A', c', by rw [hv]; rfl, hcc, hI, hA', hR.below⟩

/-- What the reference's All keeps. -/
structure RAllRel (B : Nat) (l : List Int) (w wr : World) (j : Nat) (v : Value) : Prop where
  own : wr.ownsRow B 24 1 v (allR l j).length ((allR l j).map (Value.int .u32))
  below : Below B w wr

set_option maxHeartbeats 400000 in
theorem rAll_any (A : Option Addr) (c : Nat) (l : List Int) (w : World) (hr : Ints .u8 w A l) (hb : Bytes l) (hc : l.length ≤ c) (hl : l.length ≤ 1000000000) :
    Calls Try.prog 12 #[.slice A l.length c] w (NewInts .u32 w.heap.size (allR l (l.length - 15)) w) := by
  have HR := Lib.hid hr
  have HB := Lib.hid hb
  obtain ⟨i0, hi, hz0, hz1, hz2⟩ := info_parts Try.info24
  clear hr hb
  go_enter Try.func12, Try.ntmps12
  go_wp2_with fail
  go_loopg [3, 4] l.length (fun kq v3 v4 w' => ∃ (j : Nat), v4 = .int .i64 ((16 + j : Nat) : Int) ∧ j ≤ l.length - 15 ∧ kq = l.length - j ∧ RAllRel w.heap.size l w w' j v3)
  case atStart => exact ⟨0, rfl, by omega, by omega, World.ownsRow_nil _ _ _ _, Below.refl _ _⟩
  case round =>
    obtain ⟨j, rfl, hj, hk, hR⟩ := hrel
    by_cases hlt : 16 + j ≤ l.length
    · have hlen : (l.take (16 + j)).length = 16 + j := by rw [List.length_take]; omega
      have HC := rOf_any A c (l.take (16 + j)) wr ((HR.out.below hR.below).take _) (HB.out.take _) (by omega)
      rw [hlen] at HC
      have HC1 := Lib.hid HC
      have hown := hR.own
      clear HC hlen
      go_wp2_with fail
      refine HC1.out.mono ?_
      rintro e w' ⟨rfl, rfl⟩
      go_wp2_with (at_builtin; refine wpList_append_own _ rfl _ _ 27 rfl w.heap.size 24 i0 (.int .u32 0) 1 4 Try.underlying27 hi hz0 hz1 hz2 rfl (by decide) _ _ _ rfl (hown.alloc _) ⟨wr.heap.size, 0, none⟩ 1 1 [.int .u32 (sumR (l.take (16 + j)))] rfl rfl ?c1 ?c2 ?c3 ?c4 ?c5 ?_)
      case c1 => exact one_new _ _ _
      case c2 => intro u hu; simp at hu; subst hu; rfl
      case c3 => simp [allR]; unfold maxLen; omega
      case c4 => simp [allR]; omega
      case c5 => have := hR.below.size; simp; omega
      intro v' w1 hown' hgrow _
      have hR' : RAllRel w.heap.size l w w1 (j + 1) v' := by
        refine ⟨?_, ?_⟩
        · rw [allR_succ, List.length_append, List.map_append]
          exact hown'
        · exact (hR.below.alloc hR.below.size _).grown hgrow (by have := hR.below.size; simp; omega) (fun k hk => (hown.lt k hk).1)
      clear hown hown' hgrow hR
      go_wp2
      go_roundg (l.length - (j + 1))
      case measure => omega
      case rel => exact ⟨j + 1, by go_num, by omega, rfl, hR'⟩
    · go_wp2
      go_ret
      rw [show l.length - 15 = j from by omega]
      obtain ⟨A', c', hv, hcc, hI, hA'⟩ := new_of_own hR.own
      exact ⟨A', c', by rw [hv]; rfl, hcc, hI, hA', hR.below⟩

end Go.Proofs.Yteaifjkocclomaa
