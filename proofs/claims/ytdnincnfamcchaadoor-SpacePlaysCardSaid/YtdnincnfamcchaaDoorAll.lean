/- space: All, Bytes. -/
import Derived.Test.YtdnincnfamcchaaDoorTake
namespace Go.Proofs.YtdnincnfamcchaaDoor
open Go.RowKit

/-- The places that are taken, as numbers. -/
def takenI (f : Nat → Bool) (n : Nat) : List Int := (takenL f n).map fun p => ((p : Nat) : Int)
theorem takenI_length (f : Nat → Bool) (n : Nat) : (takenI f n).length = (takenL f n).length := by simp [takenI]
theorem takenL_out (f : Nat → Bool) (n : Nat) (h : ∀ p, n ≤ p → f p = false) : ∀ d, takenL f (n + d) = takenL f n
  | 0 => rfl
  | d + 1 => by rw [show n + (d + 1) = (n + d) + 1 from rfl, takenL_succ, h (n + d) (by omega), if_neg (by simp), takenL_out f n h d]
theorem Tryd.info3' : (Tryd.prog.info? 3).map (fun i => (i.zero, i.size, i.bytes)) = some (some (.int .i64 0), 1, 8) := by kernel_rfl
theorem E39 : Elem Tryd.prog 39 3 1 8 := by
  obtain ⟨i0, hi, hz0, hz1, hz2⟩ := info_parts Tryd.info3'
  exact ⟨Tryd.underlying39, ⟨i0, _, hi, hz0, hz1, hz2, rfl⟩, by decide⟩
theorem and_low (x : Nat) (hx : x < 18446744073709551616) : Go.bits BinOp.and IntKind.u64 (x : Int) ((x - 1 : Nat) : Int) = ((x &&& (x - 1) : Nat) : Int) := bits_and_u64_nat x (x - 1) hx (by omega)

section
variable {w : World} {g h n m : Nat} {f : Nat → Bool}
set_option maxRecDepth 20000 in
set_option maxHeartbeats 800000 in
theorem All_any (V : Sp w g h n m f) (hT : Tb w) : Calls Tryd.prog 21 #[.pointer (some ⟨g, 0, none⟩)] w (NewInts .i64 w.heap.size (takenI f n) w) := by
  have HV := Lib.hid V
  have HT := Lib.hid hT
  obtain ⟨c0, c1, c2⟩ := V.cells
  have hl := V.lim
  have HO := Lib.hid (takenL_out f n V.out (64 * m - n))
  rw [show n + (64 * m - n) = 64 * m from by omega] at HO
  clear V hT
  go_enter Tryd.func21, Tryd.ntmps21
  go_wp2_with fail
  go_loopg [3, 13] m (fun kq v3 v13 w' => ∃ i : Nat, v13 = .int .i64 (i : Int) ∧ i + kq = m ∧ w'.ownsRow w.heap.size 3 1 v3 (takenI f (64 * i)).length ((takenI f (64 * i)).map (Value.int .i64)) ∧ Below w.heap.size w w')
  case atStart => exact ⟨0, rfl, by omega, World.ownsRow_nil _ _ _ _, Below.refl _ _⟩
  case round =>
    obtain ⟨i, rfl, hi, hown, hb⟩ := hrel
    have HOW := Lib.hid hown
    have HB := Lib.hid hb
    by_cases hlt : i < m
    · have V := HV.out.kept (R := fun _ => False) (Chg.belowAt hb) (fun h => h) (fun h => h)
      obtain ⟨d0, d1, d2⟩ := V.cells
      have hw := V.word i hlt
      have HTW := Lib.hid (takenL_word f i)
      have hwl := wordN_lt f i
      have i1 : (i : Int) < (m : Int) := by omega
      generalize wordN f i = x0 at *
      clear V hown hb
      go_wp2_with fail
      go_loopg [3, 5] (bitsL x0).length (fun kq v3 v5 w' => ∃ (x : Nat) (acc : List Int), v5 = .int .u64 (x : Int) ∧ x < 18446744073709551616 ∧ kq = (bitsL x).length ∧ w'.ownsRow w.heap.size 3 1 v3 acc.length (acc.map (Value.int .i64)) ∧ Below w.heap.size w w' ∧ Hid (acc ++ ((bitsL x).map (fun j => 64 * i + j)).map (fun p => ((p : Nat) : Int)) = takenI f (64 * (i + 1))))
      case atStart => exact ⟨x0, takenI f (64 * i), rfl, hwl, rfl, HOW.out, HB.out, Lib.hid (by unfold takenI; rw [HTW.out, List.map_append])⟩
      case round =>
        obtain ⟨x, acc, rfl, hx, hk, hown2, hb2, HACC⟩ := hrel
        have HO2 := Lib.hid hown2
        have HB2 := Lib.hid hb2
        by_cases hx0 : x = 0
        · subst hx0
          have HA2 := Lib.hid (show acc = takenI f (64 * (i + 1)) by rw [← HACC.out, bitsL_zero]; simp)
          clear hown2 hb2 hk
          go_wp2_with fail
          go_roundg (m - (i + 1))
          case measure => omega
          case rel => exact ⟨i + 1, by go_num, by omega, by rw [← HA2.out]; exact HO2.out, HB2.out⟩
        · have hnx := bitsL_next x hx hx0
          have hlo := low_out x hx hx0
          have hct : Lib.ctz 64 x ≤ 64 := by rcases ctz_bits x hx with ⟨_, h2⟩ | ⟨_, h2, _⟩ <;> omega
          have hkl : (bitsL x).length = (bitsL (x &&& (x - 1))).length + 1 := by rw [hnx]; rfl
          have HK := Lib.hid hkl
          have HKQ := Lib.hid hk
          have hb64 := bitsL_len x
          have HA2 := Lib.hid (show acc ++ [((64 * i + Lib.ctz 64 x : Nat) : Int)] ++ ((bitsL (x &&& (x - 1))).map (fun j => 64 * i + j)).map (fun p => ((p : Nat) : Int)) = takenI f (64 * (i + 1)) by rw [← HACC.out, hnx]; simp)
          have hal : acc.length ≤ 64 * (i + 1) := by
            have h1 := congrArg List.length HACC.out
            rw [List.length_append, takenI_length] at h1
            have := takenL_le f (64 * (i + 1))
            omega
          have HZ := Lib.hid (tz_any x hx wr (HT.out.below (by
            exact hb2)) x rfl)
          have HAN := Lib.hid (and_low x hx)
          have hx1 : (x : Int) - 1 = ((x - 1 : Nat) : Int) := by omega
          have HX1 := Lib.hid hx1
          have hxlt := hlo.1
          generalize Lib.ctz 64 x = t at *
          have hne : ((x : Int) == 0) = false := by simp; omega
          have hsz := hb2.size
          have HOA := Lib.hid (hown2.alloc (.cells #[.int .i64 ((i : Int) * 64 + (t : Int))] 3))
          clear hown2 hb2 hnx hlo hkl hk hx1
          go_wp2_with fail
          refine HZ.out.mono ?_
          rintro e w' ⟨rfl, rfl⟩
          go_wp2_with (at_builtin; refine wpList_app E39 rfl _ _ rfl w.heap.size _ acc.length (acc.map (.int .i64)) rfl HOA.out (some ⟨wr.heap.size, 0, none⟩) 1 1 [.int .i64 ((i : Int) * 64 + (t : Int))] rfl (fun h => by cases h) rfl ?c1 ?c2 ?c3 ?c4 ?c5 ?_)
          case c1 => intro j u hj; exact ⟨_, rfl, one_new _ _ _ j u hj⟩
          case c2 => intro u hu; simp at hu; subst hu; rfl
          case c3 => unfold maxLen; omega
          case c4 => omega
          case c5 => simp; omega
          intro v7 w7 hown7 hgrow7 hat7
          have HO7 := Lib.hid (show w7.ownsRow w.heap.size 3 1 v7 (acc ++ [((64 * i + t : Nat) : Int)]).length ((acc ++ [((64 * i + t : Nat) : Int)]).map (Value.int .i64)) from by
            rw [List.length_append, List.map_append]
            have e : ((64 * i + t : Nat) : Int) = (i : Int) * 64 + (t : Int) := by omega
            rw [e]; exact hown7)
          have HB7 := Lib.hid ((HB2.out.alloc hsz _).grown hgrow7 (by simp; omega) (fun k hk => (HO2.out.lt k hk).1))
          clear hown7 hgrow7 hat7
          go_wp2_with fail
          go_roundg ((bitsL (x &&& (x - 1))).length)
          case measure => rw [HKQ.out, HK.out]; omega
          case rel => exact ⟨x &&& (x - 1), _, by rw [HX1.out, HAN.out], by omega, rfl, HO7.out, HB7.out, HA2⟩
    · obtain rfl : i = m := by omega
      rw [takenI, HO.out, ← takenI] at HOW
      clear hown hb
      go_wp2
      go_ret
      obtain ⟨A', c', hv, hcc, hI', hA'⟩ := new_of_own HOW.out
      exact ⟨A', c', by rw [hv]; rfl, hcc, hI', hA', HB.out⟩
end
end Go.Proofs.YtdnincnfamcchaaDoor
