/- space: the document's Load. -/
import Derived.Test.YtdnincnfamcchaaDoorLoad2
import Derived.Lib.Bytes
import Derived.WideShapes
namespace Go.Proofs.YtdnincnfamcchaaDoor
open Go.RowKit

theorem rLoad_bad (x : Int) (v : Value) (w : World) (h : x < 0 ∨ 16384 < x) : Calls Tryd.prog 16 #[.int .i64 x, v] w fun e w' => e = .returned (.tuple #[.pointer none, .int .i64 1]) ∧ w = w' := by
  have HN := Lib.hid (rNew_bad x w h)
  clear h
  go_enter Tryd.func16, Tryd.ntmps16
  go_wp2_with (go_at_call 23; refine HN.out.mono ?_; rintro e w' ⟨rfl, rfl⟩)
  go_ret2
  exact ⟨rfl, rfl⟩
set_option maxRecDepth 20000 in
theorem rLoad_len (n c q : Nat) (A : Option Addr) (w : World) (h1 : n ≤ 16384) (hl : q ≠ (n + 7) / 8) (hq : q ≤ 1000000000000000) : Calls Tryd.prog 16 #[.int .i64 n, .slice A q c] w fun e w' => e = .returned (.tuple #[.pointer none, .int .i64 1]) ∧ w.grownBy w' none := by
  have HN := Lib.hid (rNew_any n w h1)
  obtain ⟨z, hz⟩ : ∃ z, z = (n + 7) / 8 := ⟨_, rfl⟩
  have hzI : ((n : Int) + 7) / 8 = (z : Int) := by omega
  have hne : ((q : Int) != (z : Int)) = true := by simp; omega
  clear hl hz
  go_enter Tryd.func16, Tryd.ntmps16
  go_wp2_with (go_at_call 23; refine HN.out.mono ?_; rintro e w' ⟨rfl, hg, hV, hs⟩)
  go_ret2
  exact ⟨rfl, hg⟩

/-- A new space of the document's, with places f. -/
def NewRF (n : Nat) (f : Nat → Bool) (w : World) (e : Ending) (w' : World) : Prop :=
  e = .returned (.tuple #[.pointer (some ⟨w.heap.size + 1, 0, none⟩), .int .i64 0]) ∧ RS w' (w.heap.size + 1) w.heap.size n f
theorem below_new {a b : World} {B k i : Nat} {v : Value} (h : Below B a b) (hk : B ≤ k) : Below B a (b.setCell ⟨k, i, none⟩ v).drew := (h.setCell (by simpa using hk) v).drew
theorem upF_last (f : Nat → Bool) (i : Nat) : upF f (i + 1) i = f i := by simp [upF]
theorem bit_I (l : List Int) (h : Bytes l) (i : Nat) : ((l.getD (i / 8) 0 / 2 ^ (i % 8)).tmod 2 == 1) = bitOf l i := by
  obtain ⟨e, hc⟩ := byte_nat h (i / 8)
  unfold bitOf
  rw [e, cast_pow, ← Int.natCast_ediv, Int.toNat_natCast, Nat.testBit_eq_decide_div_mod_eq]
  generalize (l.getD (i / 8) 0).toNat / 2 ^ (i % 8) = z
  rw [show ((z : Int).tmod 2) = ((z % 2 : Nat) : Int) from rfl, Bool.eq_iff_iff]
  simp
  omega
theorem RS.step {w : World} {g h n : Nat} {F : Nat → Bool} {i : Nat} (V : RS w g h n (upF F i)) (hi : i < n) : RS (w.setCell ⟨h, i, none⟩ (.bool (F i))) g h n (upF F (i + 1)) := by
  refine ⟨?_, ?_, V.lim, ?_, V.ne⟩
  · rw [Below.heap_setCell _ _ _ _ (fun e => V.ne e)]; exact V.obj
  · rw [setCell_row V.row, bools_set n (upF F i) (upF F (i + 1)) i (F i) (upF_last F i).symm (fun k _ hk => upF_far F i k hk)]
  · intro q hq
    unfold upF
    have : ¬ q < i + 1 := by omega
    simp [this]
theorem toList_inj {a b : List Int} (h : (strOfNums a).toList = (strOfNums b).toList) : strOfNums a = strOfNums b := by
  rw [Lib.toList_data, Lib.toList_data] at h
  exact WideShapes.bytes_inj h
theorem RS.of_drew {w : World} {g h n : Nat} {f : Nat → Bool} (V : RS w g h n f) : RS w.drew g h n f := ⟨V.obj, V.row, V.lim, V.out, V.ne⟩

set_option maxRecDepth 20000 in
set_option maxHeartbeats 1600000 in
theorem rLoad_any (n c q : Nat) (l : List Int) (A : Option Addr) (w : World) (h1 : n ≤ 16384) (hb : Bytes l) (hl : l.length = q) (hq : q = (n + 7) / 8) (hI : Ints .u8 w A l) :
    Calls Tryd.prog 16 #[.int .i64 n, .slice A q c] w fun e w' => Below w.heap.size w w' ∧ ((Ok n l ∧ NewRF n (bitOf l) w e w') ∨ (¬ Ok n l ∧ e = .returned (.tuple #[.pointer none, .int .i64 1]))) := by
  have HN := Lib.hid (rNew_any n w h1)
  have HB := Lib.hid hb
  have HI := Lib.hid hI
  have HL := Lib.hid hl
  have HQ := Lib.hid hq
  have hqI : ((n : Int) + 7) / 8 = (q : Int) := by omega
  have hqs : q ≤ 2049 := by omega
  have HU := Lib.hid (show ∀ p : Nat, n ≤ p → upF (bitOf l) n p = false from fun p hp => by
    unfold upF
    have : ¬ p < n := by omega
    simp [this])
  clear hb hI hl hq
  go_enter Tryd.func16, Tryd.ntmps16
  go_wp2_with (go_at_call 23; refine HN.out.mono ?_; rintro e w1 ⟨rfl, hg, hV, hs⟩)
  have HV0 := Lib.hid (show RS w1 (w.heap.size + 1) w.heap.size n (upF (bitOf l) 0) by rw [upF_zero]; exact hV)
  have HG0 := Lib.hid (below_refl_grown hg)
  clear hg hV hs
  obtain ⟨gh, hgh⟩ : ∃ z, z = w.heap.size := ⟨_, rfl⟩
  rw [← hgh] at HV0 ⊢
  have HGH := Lib.hid hgh
  clear hgh
  go_loopg [8] n (fun kq v8 w' => ∃ i : Nat, v8 = .int .i64 (i : Int) ∧ i + kq = n ∧ Below w.heap.size w w' ∧ RS w' (gh + 1) gh n (upF (bitOf l) i))
  case atStart => exact ⟨0, rfl, by omega, HG0.out, HV0.out⟩
  case round =>
    obtain ⟨i, rfl, hi, hG, hR⟩ := hrel
    have HG := Lib.hid hG
    have HR := Lib.hid hR
    have c0 := hR.cell
    by_cases hlt : i < n
    · obtain ⟨ad, rfl, hci⟩ := HI.out (i / 8) (by rw [HL.out]; have := HQ.out; omega)
      have hci2 := (World.cell?_of_block (w := w) (hG.block _ (cell_lt hci))).trans hci
      have HX := Lib.hid (bit_I l HB.out i)
      have hx := HB.out (i / 8)
      have hbit := hR.bit i hlt
      have hfz := free_row hR.row i
      have HS := Lib.hid (hR.step hlt)
      generalize l.getD (i / 8) 0 = x at *
      generalize bitOf l i = bv at *
      generalize upF (bitOf l) i i = bo at *
      obtain ⟨hx0, hx1⟩ := hx
      have hi8 : (i : Int) / 8 < (q : Int) := by have := HQ.out; omega
      have i0 : (0 : Int) ≤ (i : Int) % 8 := by omega
      have i1 : (i : Int) < (n : Int) := by omega
      have i2 : (0 : Int) ≤ (i : Int) / 8 := by omega
      have i4 : (i : Int) % 8 < 8 := by omega
      have i5 : (0 : Int) ≤ (i : Int) := by omega
      clear hci hG hR
      go_upto_region 9 with (fail)
      go_region
      rw [HX.out]
      go_wp2_with fail
      go_roundg (n - (i + 1))
      case measure => omega
      case rel => exact ⟨i + 1, by go_num, by omega, below_new HG.out (by rw [HGH.out]; exact Nat.le_refl _), HS.out.of_drew⟩
    · obtain rfl : i = n := by omega
      have HRB := Lib.hid (fun W V => rBytes_m (gh + 1) gh i q (upF (bitOf l) i) W V HQ.out)
      have HPL := Lib.hid (pack_length q (upF (upF (bitOf l) i) i))
      have HUU := Lib.hid (upF_out (upF (bitOf l) i) i HU.out)
      have HPB := Lib.hid (pack_bytes q (upF (bitOf l) i))
      rw [HUU.out] at HRB HPL
      have HOP := Lib.hid (ok_pack i l HB.out (HL.out.trans HQ.out))
      rw [← HQ.out] at HOP
      have HII := Lib.hid (HI.out.below hG)
      clear hG hR c0
      generalize hPK : pack q (upF (bitOf l) i) = PK at *
      clear hPK
      go_wp2_with fail
      refine wp_region_held_drew (S := fun w' => Below wr.heap.size wr w') (by kernel_rfl) ((Below.refl _ _).drew) (fun hHeld => ?_)
      refine held_take 0 (some 44) (v := ?_) rfl rfl (by kernel_rfl) (by kernel_rfl) (by kernel_rfl) (fun _ _ _ h => h) (Or.inl ⟨by rfl, ?_⟩) hHeld ?_
      rotate_left
      · (intro w' hSw; clear hSw; go_simp; try with_reducible rfl)
      try simp only [Act.put, List.setIfInBounds_toArray, List.set_cons_zero, List.set_cons_succ]
      refine held_take 3 (some 47) (v := ?_) rfl rfl (by kernel_rfl) (by kernel_rfl) (by kernel_rfl) (fun _ _ _ h => h) (Or.inl ⟨by rfl, ?_⟩) hHeld ?_
      rotate_left
      · (intro w' hSw; clear hSw; go_simp; try with_reducible rfl)
      try simp only [Act.put, List.setIfInBounds_toArray, List.set_cons_zero, List.set_cons_succ]
      refine held_take 4 (some 48) (v := .string (strOfNums l)) rfl rfl (by kernel_rfl) (by kernel_rfl) (by kernel_rfl) (fun _ _ _ h => h) (yieldsIf_conv (by rfl) 34 9 5 _ rfl A q c _ rfl HL.out (fun w' h => HII.out.below h) Tryd.underlying34 Tryd.underlying5 Tryd.underlying9) hHeld ?_
      try simp only [Act.put, List.setIfInBounds_toArray, List.set_cons_zero, List.set_cons_succ]
      refine wpAnyH_ready (rs := [1]) (by kernel_rfl) (by simp) ?_
      refine AllReadyH.cons rfl (fun K hKK => ?_) AllReadyH.nil
      go_simp
      go_at_call 26
      ((with_reducible refine (HRB.out _ HR.out.of_drew).mono ?_))
      rintro e w5 ⟨A5, c5, rfl, hc5, hI5, hA5, hb5⟩
      rw [HPL.out]
      have hB5 : Below wr.heap.size wr w5 := ((Below.refl _ _).drew).trans hb5
      have HI5 := Lib.hid hI5
      refine hKK.out _ _ hB5 (fun _ => held_more (S1 := fun w' => Below w5.heap.size w5 w') (fun w' h => hB5.trans (h.mono hB5.size)) _ _ _ _ ?_)
      have hHeld := Below.refl w5.heap.size w5
      clear hKK K hI5 hA5
      try simp only [Act.put, List.setIfInBounds_toArray, List.set_cons_zero, List.set_cons_succ]
      refine held_take 2 (some 46) (v := .string (strOfNums PK)) rfl rfl (by kernel_rfl) (by kernel_rfl) (by kernel_rfl) (fun _ _ _ h => h) (yieldsIf_conv (by rfl) 34 9 5 _ rfl A5 q c5 _ rfl HPL.out (fun w' h => HI5.out.below h) Tryd.underlying34 Tryd.underlying5 Tryd.underlying9) hHeld ?_
      try simp only [Act.put, List.setIfInBounds_toArray, List.set_cons_zero, List.set_cons_succ]
      refine held_take 5 (some 49) (v := ?_) rfl rfl (by kernel_rfl) (by kernel_rfl) (by kernel_rfl) (fun _ _ _ h => h) (Or.inl ⟨by rfl, ?_⟩) hHeld ?_
      rotate_left
      · (intro w' hSw; clear hSw; go_simp; try with_reducible rfl)
      try simp only [Act.put, List.setIfInBounds_toArray, List.set_cons_zero, List.set_cons_succ]
      refine wpAnyH_done (by kernel_rfl) ?_ _
      have HB6 := Lib.hid (HG.out.trans ((hB5.trans (hHeld.mono hB5.size)).mono HG.out.size))
      have hRF := HR.out.kept (R := fun _ => False) (Chg.belowAt ((hB5.trans (hHeld.mono hB5.size)))) (fun h => h) (fun h => h)
      by_cases hok : Ok i l
      · have HE := Lib.hid (show PK = l from HOP.out.1 hok)
        have hee : (!((strOfNums PK).toList == (strOfNums l).toList)) = false := by rw [HE.out]; simp
        generalize hbb : (!((strOfNums PK).toList == (strOfNums l).toList)) = bb at hee ⊢
        subst hee
        clear hbb
        rw [upF_out _ _ hok] at hRF
        have HRF := Lib.hid hRF
        have HOK := Lib.hid hok
        clear hB5 hb5 hHeld hRF hok
        go_wp2_with fail
        go_ret2
        exact ⟨HB6.out, Or.inl ⟨HOK.out, by rw [← HGH.out]; exact rfl, by rw [← HGH.out]; exact HRF.out⟩⟩
      · have HE := Lib.hid (show ¬ strOfNums PK = strOfNums l from fun e => hok (HOP.out.2 (str_inj HPB.out HB.out e)))
        have HOK := Lib.hid hok
        clear hB5 hb5 hHeld hRF hok
        have hne : (!((strOfNums PK).toList == (strOfNums l).toList)) = true := by rw [beq_false_of_ne (fun e => HE.out (toList_inj e))]; rfl
        generalize hbb : (!((strOfNums PK).toList == (strOfNums l).toList)) = bb at hne ⊢
        subst hne
        clear hbb
        go_wp2_with fail
        go_ret2
        exact ⟨HB6.out, Or.inr ⟨HOK.out, rfl⟩⟩
end Go.Proofs.YtdnincnfamcchaaDoor
