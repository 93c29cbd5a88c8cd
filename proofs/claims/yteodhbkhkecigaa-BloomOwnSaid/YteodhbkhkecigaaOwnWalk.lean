/- The walk of BloomOwn. -/
import Derived.Test.YteodhbkhkecigaaShown
namespace Go.Proofs.Yteodhbkhkecigaa
open Go.RowKit

/-- A row of bytes that may be written. -/
def RowB (w : World) (g n : Nat) : Prop := ∃ cs : Array Value, w.heap[g]? = some (.cells cs 5 (0, 0)) ∧ ∀ i, i < n → ∃ z : Nat, cs[i]? = some (.int .u8 z) ∧ z < 256
theorem RowB.cell {w : World} {g n : Nat} (h : RowB w g n) (i : Nat) (hi : i < n) : ∃ z : Nat, w.cell? ⟨g, i, none⟩ = some (.int .u8 z) ∧ w.frozen? ⟨g, i, none⟩ = false ∧ z < 256 := by
  obtain ⟨cs, h1, h2⟩ := h
  obtain ⟨z, h3, h4⟩ := h2 i hi
  exact ⟨z, by rw [cell_of_row _ _ _ _ _ _ h1]; exact h3, free_row h1 i, h4⟩
theorem RowB.set {w : World} {g n : Nat} (h : RowB w g n) (i : Nat) (v : Value) (z : Nat) (hv : v = .int .u8 z) (hz : z < 256) : RowB (w.setCell ⟨g, i, none⟩ v) g n := by
  obtain ⟨cs, h1, h2⟩ := h
  refine ⟨_, setCell_row h1 i v, fun j hj => ?_⟩
  obtain ⟨y, h3, h4⟩ := h2 j hj
  rw [Array.getElem?_setIfInBounds]
  by_cases e : i = j
  · subst e
    rw [if_pos rfl, if_pos (by rcases Nat.lt_or_ge i cs.size with h | h; exact h; rw [Array.getElem?_eq_none h] at h3; cases h3)]
    exact ⟨z, by rw [hv], hz⟩
  · rw [if_neg e]; exact ⟨y, h3, h4⟩
theorem RowB.of_own {w : World} {B n : Nat} {v : Value} {l : List Int} (h : w.ownsRow B 5 1 v n (l.map (Value.int .u8))) (hb : Bytes l) (hn : 0 < n) : ∃ g c, v = .slice (some ⟨g, 0, none⟩) n c ∧ B ≤ g ∧ g < w.heap.size ∧ n ≤ c ∧ RowB w g n := by
  have hlt := h.lt
  obtain ⟨h1, h2⟩ := h
  rcases h2 with ⟨_, h0⟩ | ⟨g, cap, cur, rfl, hB, hg, hc, _, hs, ht⟩
  · omega
  · refine ⟨g, cap, rfl, hB, (hlt g rfl).2, hc, cur, hg, fun i hi => ?_⟩
    rw [List.length_map] at h1
    have e : cur.toList[i]? = some (.int .u8 (l.getD i 0)) := by
      rw [← List.getElem?_take_of_lt (show i < n * 1 by omega), ht, List.getElem?_map, List.getD_eq_getElem?_getD, List.getElem?_eq_getElem (by omega)]; rfl
    have := hb i
    refine ⟨(l.getD i 0).toNat, ?_, by omega⟩
    rw [Int.toNat_of_nonneg this.1, ← e, Array.getElem?_toList]

theorem xor_byte (z : Nat) (h : z < 256) : Go.bits BinOp.xor IntKind.u8 (z : Int) 255 = ((z ^^^ 255 : Nat) : Int) := u8_xor_nat z 255 h (by decide)
theorem xor_lt (z : Nat) (h : z < 256) : z ^^^ 255 < 256 := Nat.xor_lt_two_pow (n := 8) h (by decide)

/-- What a row of the call's own looks like; nothing is said of an empty one. -/
theorem own_form {w : World} {B n gd : Nat} {v : Value} {l : List Int} (h : w.ownsRow B 5 1 v n (l.map (Value.int .u8))) (hb : Bytes l) (hn : l.length = n) :
    ∃ (A : Option Addr) (c g : Nat), v = .slice A n c ∧ Ints .u8 w A l ∧ (∀ ad, A = some ad → B ≤ ad.block ∧ ad.block < w.heap.size) ∧ (g = gd ∨ B ≤ g ∧ g < w.heap.size) ∧ (0 < n → A = some ⟨g, 0, none⟩ ∧ RowB w g n ∧ B ≤ g) := by
  subst hn
  obtain ⟨A, c, hv, _, hI, hA⟩ := new_of_own h
  by_cases h0 : 0 < l.length
  · obtain ⟨g, c', hv', hB, hg, _, hr⟩ := RowB.of_own h hb h0
    have e : A = some ⟨g, 0, none⟩ := by rw [hv] at hv'; injection hv'
    exact ⟨A, c, g, hv, hI, hA, .inr ⟨hB, hg⟩, fun _ => ⟨e, hr, hB⟩⟩
  · exact ⟨A, c, gd, hv, hI, hA, .inl rfl, fun h => absurd h h0⟩

theorem seven_len (bits m : Nat) (hb : bits < 65536) (hm : (bits + 7) / 8 = m) : ((m : Int) == IntKind.i64.wrap ((IntKind.i64.wrap (IntKind.i64.wrap (bits : Int) + 7)).tdiv 8)) = true := by
  have e1 : IntKind.i64.wrap (bits : Int) = bits := by rw [IntKind.wrap_i64]; omega
  have e2 : IntKind.i64.wrap ((bits : Int) + 7) = bits + 7 := by rw [IntKind.wrap_i64]; omega
  have e3 : IntKind.i64.wrap (((bits : Int) + 7) / 8) = (bits + 7) / 8 := by rw [IntKind.wrap_i64]; omega
  rw [e1, e2, Int.tdiv_eq_ediv_of_nonneg (by omega), e3, beq_iff_eq]
  omega

theorem short_law (bits : Nat) (hbits : bits < 65536) (v : Value) (n c : Nat) (A : Option Addr) (w : World) (hn : 10000 < n) (hv : v = .slice A n c) :
    Calls Try.prog 4 #[.int .u16 bits, v] w fun e w' => e = .returned (.bool true) ∧ Below w.heap.size w w' := by
  subst hv
  go_enter Try.func4, Try.ntmps4
  go_wp2_with fail
  refine (shown_any _).mono ?_
  rintro e w1 ⟨rfl, hb1⟩
  go_wp2_with fail
  refine (New_any bits 3 w1 (by omega) (by decide)).mono ?_
  rintro e w2 ⟨rfl, hg2, V2, hs2⟩
  have HS2 := Lib.hid hs2
  clear hs2
  go_wp2_with fail
  go_ret
  exact ⟨rfl, hb1.grown hg2 hb1.size (by simp)⟩

set_option maxHeartbeats 1600000 in
theorem Own_law (bits : Nat) (hbits : bits < 65536) (A : Option Addr) (c n : Nat) (l : List Int) (w : World) (hn : l.length = n) (hr : Ints .u8 w A l) (hb : Bytes l) (hA : A = none → n = 0 ∧ c = 0) (hl : n ≤ 10000) :
    Calls Try.prog 4 #[.int .u16 bits, .slice A n c] w fun e w' => e = .returned (.bool true) ∧ Below w.heap.size w w' := by
  have HN := Lib.hid hn
  have HB := Lib.hid hb
  have HR := Lib.hid hr
  have HNM := Lib.hid (show (l.map (Value.int .u8)).length = n * 1 by simp [hn])
  have HA := Lib.hid hA
  clear hn hb hr hA
  go_enter Try.func4, Try.ntmps4
  go_wp2_with fail
  refine (shown_any _).mono ?_
  rintro e w1 ⟨rfl, hb1⟩
  have hs1 := hb1.size
  go_wp2_with fail
  refine (New_any bits 3 w1 (by omega) (by decide)).mono ?_
  rintro e w2 ⟨rfl, hg2, V2, hs2⟩
  have HS2 := Lib.hid hs2
  have hs2a : w1.heap.size + 2 ≤ w2.heap.size := by rw [hs2]; omega
  clear hs2
  have hb2 : Below w.heap.size w w2 := hb1.grown hg2 hb1.size (by simp)
  have HO0 := Lib.hid (World.ownsRow_lit w2 (base := w2.heap.size) (e := 5) (size := 1) #[] 0 (Nat.le_refl _) (by unfold maxLen; omega) rfl)
  have HR2 := Lib.hid ((HR.out.below hb2).below ((Below.refl _ _).alloc (Nat.le_refl _) (.cells #[] 5)))
  go_wp2_with (at_builtin; refine wpList_app E37 rfl _ _ rfl w2.heap.size (.slice (some ⟨w2.heap.size, 0, none⟩) 0 0) 0 [] rfl HO0.out A n c (l.map (Value.int .u8)) rfl HA.out HNM.out HR2.out.news (ints_one _ _) ?c2 ?c3 ?c4 ?_)
  case c2 => unfold maxLen; omega
  case c3 => omega
  case c4 => simp
  intro v8 w3 hown hgrow _
  try simp only [Nat.zero_add, List.nil_append] at hown
  have hb3 : Below w2.heap.size w2 w3 := ((Below.refl _ _).alloc (Nat.le_refl _) _).grown hgrow (by simp) (fun k hk => by simp only [Value.ownBlock, Option.some.injEq] at hk; omega)
  have hs3 : w2.heap.size + 1 ≤ w3.heap.size := by have := hgrow.size; simpa using this
  obtain ⟨A8, c8, g8, hv8, hI8, hA8, hg8, hrow8⟩ := own_form (gd := w2.heap.size) hown HB.out HN.out
  subst hv8
  have HI8 := Lib.hid hI8
  have HG8 := Lib.hid hg8
  have HROW8 := Lib.hid hrow8
  have HA8 := Lib.hid hA8
  have V3 := V2.kept (below_grown hb3 none) (by simp) (by simp)
  have HR3 := Lib.hid ((HR.out.below hb2).below hb3)
  clear hown hgrow hI8 hg8 hrow8 hA8 hb1 hg2
  go_wp2_with fail
  have HOR := Lib.hid (Or_any (w1.heap.size + 1) w1.heap.size bits 3 _ A8 c8 l w3 V3 (by omega) HI8.out HB.out (by rw [HN.out]; omega) (fun ad e => by have := HA8.out ad e; omega))
  rw [HN.out] at HOR
  refine HOR.out.mono ?_
  rintro e w4 ⟨rfl, hg4, V4⟩
  have hs4 := hg4.size
  have HI84 := Lib.hid (show Ints .u8 w4 A8 l from HI8.out.keep fun ad e i => World.cell?_of_block (hg4.block _ (by rw [add_block]; have := HA8.out ad e; omega) (by rw [add_block]; have := HA8.out ad e; simp; omega)))
  have hbw4 : Below w.heap.size w w4 := (hb2.trans (hb3.mono (by have := hb2.size; omega))).grown hg4 (by have := hb2.size; omega) (fun k hk => by injection hk; omega)
  have HIb4 := Lib.hid (HR.out.below hbw4)
  have hcv1 : (convert 37 9 (.slice A8 n c8)).run Try.prog w4 = .ok (.string (strOfNums l)) w4 := run_conv_ints HI84.out 37 9 5 n c8 HN.out Try.underlying37 Try.underlying5 Try.underlying9
  have hcv2 : (convert 37 9 (.slice A n c)).run Try.prog w4 = .ok (.string (strOfNums l)) w4 := run_conv_ints HIb4.out 37 9 5 n c HN.out Try.underlying37 Try.underlying5 Try.underlying9
  go_wp2_with fail
  clear hcv1 hcv2
  refine (Bytes_own (w1.heap.size + 1) w1.heap.size bits 3 _ w4 V4).mono ?_
  rintro e w5 ⟨vx, rfl, hownx, hb5⟩
  have hs5 := hb5.size
  obtain ⟨Ax, cx, gx, hvx, hIx, hAx, hgx, hrowx⟩ := own_form (gd := w2.heap.size) hownx (pack_bytes _ _) (pack_length _ _)
  subst hvx
  have hgx2 : w2.heap.size ≤ gx ∧ gx < w5.heap.size := by omega
  have hg82 : w2.heap.size ≤ g8 ∧ g8 < w3.heap.size := by have := HG8.out; omega
  have V5 := V4.kept (below_grown hb5 none) (by simp) (by simp)
  have HROWX := Lib.hid hrowx
  have HV5 := Lib.hid V5
  have HG4 := Lib.hid hg4
  have HB5 := Lib.hid hb5
  have HROW85 := Lib.hid (show 0 < n → A8 = some ⟨g8, 0, none⟩ ∧ RowB w5 g8 n from fun h => by
    obtain ⟨e, ⟨cs, h1, h2⟩, _⟩ := HROW8.out h
    exact ⟨e, cs, ((HB5.out.block g8 (by omega)).trans (HG4.out.block g8 (by omega) (by simp; omega))).trans h1, h2⟩)
  clear hownx hIx hAx hgx hrowx V5 V4 V3 V2 hg4 hb5
  go_wp2_with fail
  go_loopg [56] n (fun kq v56 w' => ∃ i : Nat, v56 = .int .i64 (i : Int) ∧ i + kq = n ∧ w5.grownBy w' (some g8) ∧ (0 < n → RowB w' g8 n))
  case atStart => exact ⟨0, rfl, by omega, World.grownBy.refl _ _, fun h => (HROW85.out h).2⟩
  case round =>
    obtain ⟨i, rfl, hi, G6, R6⟩ := hrel
    by_cases hlt : i < n
    · obtain ⟨e8, _⟩ := HROW85.out (by omega)
      subst e8
      have R6' := R6 (by omega)
      obtain ⟨z, hc, hf, hz⟩ := R6'.cell i hlt
      have hst := R6'.set i (.int .u8 (Go.bits BinOp.xor IntKind.u8 (z : Int) 255)) _ (by rw [xor_byte z hz]) (xor_lt z hz)
      have HST := Lib.hid hst
      have HG6 := Lib.hid G6
      clear R6 R6' hst G6
      go_wp2_with fail
      go_roundg (n - (i + 1))
      case measure => omega
      case rel => exact ⟨i + 1, by go_num, by omega, grown_trans HG6.out (grown_setCell _ _ _ _), fun _ => HST.out⟩
    · obtain rfl : i = n := by omega
      have HG6 := Lib.hid G6
      have hs6 := G6.size
      have V6 := HV5.out.kept G6 (by simp; omega) (by simp; omega)
      clear R6 G6
      go_wp2_with fail
      refine (Bytes_own (w1.heap.size + 1) w1.heap.size bits 3 _ wr V6).mono ?_
      rintro e w7 ⟨vy, rfl, howny, hb7⟩
      have hs7 := hb7.size
      obtain ⟨Ay, cy, gy, hvy, hIy, hAy, hgy, hrowy⟩ := own_form (gd := w2.heap.size) howny (pack_bytes _ _) (pack_length _ _)
      subst hvy
      have V7 := V6.kept (below_grown hb7 none) (by simp) (by simp)
      have HV7 := Lib.hid V7
      have HIY := Lib.hid hIy
      have HAY := Lib.hid hAy
      have HB7 := Lib.hid hb7
      have HROWX7 := Lib.hid (show 0 < (bits + 7) / 8 → Ax = some ⟨gx, 0, none⟩ ∧ RowB w7 gx ((bits + 7) / 8) from fun h => by
        obtain ⟨e, ⟨cs, h1, h2⟩, h3⟩ := HROWX.out h
        exact ⟨e, cs, ((HB7.out.block gx (by omega)).trans (HG6.out.block gx (by omega) (by simp; omega))).trans h1, h2⟩)
      clear howny hIy hAy hgy hrowy V6 V7 hb7
      go_wp2_with fail
      go_loopg [70] ((bits + 7) / 8) (fun kq v70 w' => ∃ j : Nat, v70 = .int .i64 (j : Int) ∧ j + kq = (bits + 7) / 8 ∧ w7.grownBy w' (some gx) ∧ (0 < (bits + 7) / 8 → RowB w' gx ((bits + 7) / 8)))
      case atStart => exact ⟨0, rfl, by omega, World.grownBy.refl _ _, fun h => (HROWX7.out h).2⟩
      case round =>
        obtain ⟨j, rfl, hj, G8, R8⟩ := hrel
        by_cases hltj : j < (bits + 7) / 8
        · obtain ⟨ex, _⟩ := HROWX7.out (by omega)
          subst ex
          have R8' := R8 (by omega)
          obtain ⟨z, hc, hf, hz⟩ := R8'.cell j hltj
          have hst := R8'.set j (.int .u8 (Go.bits BinOp.xor IntKind.u8 (z : Int) 255)) _ (by rw [xor_byte z hz]) (xor_lt z hz)
          have HST := Lib.hid hst
          have HG8' := Lib.hid G8
          clear R8 R8' hst G8
          go_wp2_with fail
          go_roundg ((bits + 7) / 8 - (j + 1))
          case measure => omega
          case rel => exact ⟨j + 1, by go_num, by omega, grown_trans HG8'.out (grown_setCell _ _ _ _), fun _ => HST.out⟩
        · obtain rfl : j = (bits + 7) / 8 := by omega
          have HG8' := Lib.hid G8
          have hs8 := G8.size
          have V8 := HV7.out.kept G8 (by simp; omega) (by simp; omega)
          have hIY8 : Ints .u8 wr Ay (pack ((bits + 7) / 8) _) := HIY.out.keep fun ad e i => World.cell?_of_block (G8.block _ (by rw [add_block]; have := HAY.out ad e; omega) (by rw [add_block]; have := HAY.out ad e; simp; omega))
          have HIY8 := Lib.hid hIY8
          have HV8 := Lib.hid V8
          clear R8 G8 hIY8 V8
          have V8d : Vec wr.drew (w1.heap.size + 1) w1.heap.size bits 3 (orAll bits (fun _ => false) l) := ⟨HV8.out.obj, HV8.out.row, HV8.out.lim, HV8.out.out⟩
          have hc1 : (convert 37 9 (.slice Ay ((bits + 7) / 8) cy)).run Try.prog wr.drew = .ok (.string (strOfNums (pack ((bits + 7) / 8) (orAll bits (fun _ => false) l)))) wr.drew := run_conv_ints (HIY8.out.drewN 1) 37 9 5 _ cy (pack_length _ _) Try.underlying37 Try.underlying5 Try.underlying9
          have HC := Lib.hid (Bytes_own (w1.heap.size + 1) w1.heap.size bits 3 _ wr.drew V8d)
          have HIYd := Lib.hid (show Ints .u8 wr.drew Ay _ from HIY8.out)
          clear V8d
          go_wp2_with fail
          clear HN HB HR HNM HA HR2 HR3 HO0 HA8 HI8 HI84 HROW8 HROW85 HROWX HROWX7 HOR HIb4 HV5 HIY HV7 HAY HS2 HIY8
          generalize hpk : pack ((bits + 7) / 8) (orAll bits (fun _ => false) l) = pk at *
          have hpl : pk.length = (bits + 7) / 8 := by rw [← hpk]; exact pack_length _ _
          have hpb : Bytes pk := by rw [← hpk]; exact pack_bytes _ _
          have HPL := Lib.hid hpl
          have HPB := Lib.hid hpb
          clear hpk hpl hpb
          generalize hm : (bits + 7) / 8 = m at *
          have hq : ((m : Int) == ((bits : Int) + 7) / 8) = true := by rw [beq_iff_eq]; omega
          have HM := Lib.hid hm
          clear hm
          refine wp_region_held_drew (S := fun w' => (convert 37 9 (.slice Ay m cy)).run Try.prog w' = .ok (.string (strOfNums pk)) w') (by kernel_rfl) ?_ (fun hHeld => ?_)
          · exact run_conv_ints HIYd.out 37 9 5 _ cy HPL.out Try.underlying37 Try.underlying5 Try.underlying9
          refine held_take 0 (some 80) (v := ?_) rfl rfl (by kernel_rfl) (by kernel_rfl) (by kernel_rfl) (fun _ _ _ h => h) (Or.inl ⟨by rfl, ?_⟩) hHeld ?_
          rotate_left
          · (intro w hSw; go_simp; try with_reducible rfl)
          try simp only [Act.put, List.setIfInBounds_toArray, List.set_cons_zero, List.set_cons_succ]
          refine held_take 1 (some 81) (v := ?_) rfl rfl (by kernel_rfl) (by kernel_rfl) (by kernel_rfl) (fun _ _ _ h => h) (Or.inl ⟨by rfl, ?_⟩) hHeld ?_
          rotate_left
          · (intro w hSw; go_simp; try with_reducible rfl)
          try simp only [Act.put, List.setIfInBounds_toArray, List.set_cons_zero, List.set_cons_succ]
          refine held_take 2 (some 82) (v := ?_) rfl rfl (by kernel_rfl) (by kernel_rfl) (by kernel_rfl) (fun _ _ _ h => h) (Or.inl ⟨by rfl, ?_⟩) hHeld ?_
          rotate_left
          · (intro w hSw; go_simp; try with_reducible rfl)
          try simp only [Act.put, List.setIfInBounds_toArray, List.set_cons_zero, List.set_cons_succ]
          refine held_take 3 (some 83) (v := ?_) rfl rfl (by kernel_rfl) (by kernel_rfl) (by kernel_rfl) (fun _ _ _ h => h) (Or.inl ⟨by rfl, ?_⟩) hHeld ?_
          rotate_left
          · (intro w hSw; go_simp; try with_reducible rfl)
          try simp only [Act.put, List.setIfInBounds_toArray, List.set_cons_zero, List.set_cons_succ]
          refine held_take 4 (some 84) (v := ?_) rfl rfl (by kernel_rfl) (by kernel_rfl) (by kernel_rfl) (fun _ _ _ h => h) (Or.inl ⟨by rfl, ?_⟩) hHeld ?_
          rotate_left
          · (intro w hSw; go_simp; try with_reducible rfl)
          try simp only [Act.put, List.setIfInBounds_toArray, List.set_cons_zero, List.set_cons_succ]
          refine held_take 5 (some 85) (v := ?_) rfl rfl (by kernel_rfl) (by kernel_rfl) (by kernel_rfl) (fun _ _ _ h => h) (Or.inl ⟨by rfl, ?_⟩) hHeld ?_
          rotate_left
          · (intro w hSw; go_simp; try with_reducible rfl)
          try simp only [Act.put, List.setIfInBounds_toArray, List.set_cons_zero, List.set_cons_succ]
          refine held_take 8 (some 88) (v := ?_) rfl rfl (by kernel_rfl) (by kernel_rfl) (by kernel_rfl) (fun _ _ _ h => h) (Or.inl ⟨by rfl, ?_⟩) hHeld ?_
          rotate_left
          · (intro w hSw; go_simp; try with_reducible rfl)
          try simp only [Act.put, List.setIfInBounds_toArray, List.set_cons_zero, List.set_cons_succ]
          refine held_take 9 (some 89) (v := ?_) rfl rfl (by kernel_rfl) (by kernel_rfl) (by kernel_rfl) (fun _ _ _ h => h) (Or.inl ⟨by rfl, ?_⟩) hHeld ?_
          rotate_left
          · (intro w hSw; go_simp; try with_reducible rfl)
          try simp only [Act.put, List.setIfInBounds_toArray, List.set_cons_zero, List.set_cons_succ]
          refine wpAnyH_ready (rs := [6]) (by kernel_rfl) (by simp) ?_
          refine AllReadyH.cons rfl (fun K hK => ?_) AllReadyH.nil
          go_simp
          go_at_call 12
          refine HC.out.mono ?_
          rintro e w9 ⟨vz, rfl, hownz, hb9⟩
          obtain ⟨Az, cz, gz, hvz, hIz, _, _, _⟩ := own_form (gd := w2.heap.size) hownz HPB.out HPL.out
          subst hvz
          have hc2 := run_conv_ints (HIYd.out.below hb9) 37 9 5 _ cy HPL.out Try.underlying37 Try.underlying5 Try.underlying9
          have hc3 := run_conv_ints hIz 37 9 5 _ cz HPL.out Try.underlying37 Try.underlying5 Try.underlying9
          refine hK.out _ _ ?_ (fun hHeld => ?_)
          · exact hc2
          clear hK K
          try simp only [Act.put, List.setIfInBounds_toArray, List.set_cons_zero, List.set_cons_succ]
          refine wpAnyH_ready (rs := [7]) (by kernel_rfl) (by simp) ?_
          refine AllReadyH.cons rfl (fun K hK => ?_) AllReadyH.nil
          go_simp
          refine hK.out _ _ ?_ (fun hHeld => ?_)
          · exact hc2
          clear hK K
          try simp only [Act.put, List.setIfInBounds_toArray, List.set_cons_zero, List.set_cons_succ]
          refine held_take 10 (some 90) (v := ?_) rfl rfl (by kernel_rfl) (by kernel_rfl) (by kernel_rfl) (fun _ _ _ h => h) (Or.inl ⟨by rfl, ?_⟩) hHeld ?_
          rotate_left
          · (intro w hSw; go_simp; try with_reducible rfl)
          try simp only [Act.put, List.setIfInBounds_toArray, List.set_cons_zero, List.set_cons_succ]
          refine held_take 11 (some 91) (v := ?_) rfl rfl (by kernel_rfl) (by kernel_rfl) (by kernel_rfl) (fun _ _ _ h => h) (Or.inl ⟨by rfl, ?_⟩) hHeld ?_
          rotate_left
          · (intro w hSw; go_simp; try with_reducible rfl)
          try simp only [Act.put, List.setIfInBounds_toArray, List.set_cons_zero, List.set_cons_succ]
          refine held_take 12 (some 92) (v := ?_) rfl rfl (by kernel_rfl) (by kernel_rfl) (by kernel_rfl) (fun _ _ _ h => h) (Or.inl ⟨by rfl, ?_⟩) hHeld ?_
          rotate_left
          · (intro w hSw; go_simp; try with_reducible rfl)
          try simp only [Act.put, List.setIfInBounds_toArray, List.set_cons_zero, List.set_cons_succ]
          refine held_take 13 (some 93) (v := ?_) rfl rfl (by kernel_rfl) (by kernel_rfl) (by kernel_rfl) (fun _ _ _ h => h) (Or.inl ⟨by rfl, ?_⟩) hHeld ?_
          rotate_left
          · (intro w hSw; go_simp; try with_reducible rfl)
          try simp only [Act.put, List.setIfInBounds_toArray, List.set_cons_zero, List.set_cons_succ]
          refine held_take 14 (some 94) (v := ?_) rfl rfl (by kernel_rfl) (by kernel_rfl) (by kernel_rfl) (fun _ _ _ h => h) (Or.inl ⟨by rfl, ?_⟩) hHeld ?_
          rotate_left
          · (intro w hSw; go_simp; try with_reducible rfl)
          try simp only [Act.put, List.setIfInBounds_toArray, List.set_cons_zero, List.set_cons_succ]
          refine held_take 15 (some 95) (v := ?_) rfl rfl (by kernel_rfl) (by kernel_rfl) (by kernel_rfl) (fun _ _ _ h => h) (Or.inl ⟨by rfl, ?_⟩) hHeld ?_
          rotate_left
          · (intro w hSw; go_simp; try with_reducible rfl)
          try simp only [Act.put, List.setIfInBounds_toArray, List.set_cons_zero, List.set_cons_succ]
          refine held_take 16 (some 96) (v := ?_) rfl rfl (by kernel_rfl) (by kernel_rfl) (by kernel_rfl) (fun _ _ _ h => h) (Or.inl ⟨by rfl, ?_⟩) hHeld ?_
          rotate_left
          · (intro w hSw; go_simp; try with_reducible rfl)
          try simp only [Act.put, List.setIfInBounds_toArray, List.set_cons_zero, List.set_cons_succ]
          refine held_take 17 (some 97) (v := ?_) rfl rfl (by kernel_rfl) (by kernel_rfl) (by kernel_rfl) (fun _ _ _ h => h) (Or.inl ⟨by rfl, ?_⟩) hHeld ?_
          rotate_left
          · (intro w hSw; go_simp; try with_reducible rfl)
          try simp only [Act.put, List.setIfInBounds_toArray, List.set_cons_zero, List.set_cons_succ]
          refine held_take 18 (some 98) (v := ?_) rfl rfl (by kernel_rfl) (by kernel_rfl) (by kernel_rfl) (fun _ _ _ h => h) (Or.inl ⟨by rfl, ?_⟩) hHeld ?_
          rotate_left
          · (intro w hSw; go_simp; try with_reducible rfl)
          try simp only [Act.put, List.setIfInBounds_toArray, List.set_cons_zero, List.set_cons_succ]
          refine held_take 19 (some 99) (v := ?_) rfl rfl (by kernel_rfl) (by kernel_rfl) (by kernel_rfl) (fun _ _ _ h => h) (Or.inl ⟨by rfl, ?_⟩) hHeld ?_
          rotate_left
          · (intro w hSw; go_simp; try with_reducible rfl)
          try simp only [Act.put, List.setIfInBounds_toArray, List.set_cons_zero, List.set_cons_succ]
          refine held_take 20 (some 100) (v := ?_) rfl rfl (by kernel_rfl) (by kernel_rfl) (by kernel_rfl) (fun _ _ _ h => h) (Or.inl ⟨by rfl, ?_⟩) hHeld ?_
          rotate_left
          · (intro w hSw; go_simp; try with_reducible rfl)
          try simp only [Act.put, List.setIfInBounds_toArray, List.set_cons_zero, List.set_cons_succ]
          refine held_take 21 (some 4) (v := ?_) rfl rfl (by kernel_rfl) (by kernel_rfl) (by kernel_rfl) (fun _ _ _ h => h) (Or.inl ⟨by rfl, ?_⟩) hHeld ?_
          rotate_left
          · (intro w hSw; go_simp; try with_reducible rfl)
          try simp only [Act.put, List.setIfInBounds_toArray, List.set_cons_zero, List.set_cons_succ]
          refine wpAnyH_done (by kernel_rfl) ?_ _
          go_wp2_with fail
          go_ret
          have q2 := hb2.size
          refine ⟨ret_bool (seven_len bits m hbits HM.out), ?_⟩
          exact (((((hbw4.trans (HB5.out.mono (by omega))).grown HG6.out (by omega) (fun k hk => by injection hk; omega)).trans (HB7.out.mono (by omega))).grown HG8'.out (by omega) (fun k hk => by injection hk; omega)).drew).trans (hb9.mono (by show w.heap.size ≤ wr.heap.size; omega))

end Go.Proofs.Yteodhbkhkecigaa
