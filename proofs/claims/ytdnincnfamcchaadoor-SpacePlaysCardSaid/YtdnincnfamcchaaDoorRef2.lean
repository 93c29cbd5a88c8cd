/- space: the document's Bytes. -/
import Derived.Test.YtdnincnfamcchaaDoorRef
import Derived.Test.YtdnincnfamcchaaDoorBytes
import Derived.Laws.BitsAllLaws
namespace Go.Proofs.YtdnincnfamcchaaDoor
open Go.RowKit

theorem pow8 (p : Nat) : (2 : Nat) ^ (p % 8) < 256 := by
  have h1 : p % 8 ≤ 7 := by omega
  exact Nat.lt_of_le_of_lt (Nat.pow_le_pow_right (by omega) h1) (by decide)
theorem byteN_upstep (f : Nat → Bool) (i : Nat) (h : f i = true) : byteN (upF f i) (i / 8) ||| 2 ^ (i % 8) = byteN (upF f (i + 1)) (i / 8) := by
  rw [byteN_put]
  unfold byteN
  apply bitsN_ext
  intro k hk
  simp only [put, upF]
  by_cases e : 8 * (i / 8) + k = i
  · rw [e, h]; simp
  · have : decide (8 * (i / 8) + k < i + 1) = decide (8 * (i / 8) + k < i) := by rw [decide_eq_decide]; omega
    rw [this]; simp [e]
theorem upF_far (f : Nat → Bool) (i k : Nat) (h : k ≠ i) : upF f (i + 1) k = upF f i k := by
  unfold upF
  have : decide (k < i + 1) = decide (k < i) := by rw [decide_eq_decide]; omega
  rw [this]
theorem upF_no (f : Nat → Bool) (i : Nat) (h : f i = false) : upF f (i + 1) = upF f i := by
  funext k
  by_cases e : k = i
  · subst e; simp [upF, h]
  · exact upF_far f i k e
theorem upF_zero (f : Nat → Bool) : upF f 0 = fun _ => false := by funext k; simp [upF]

set_option maxRecDepth 20000 in
set_option maxHeartbeats 800000 in
theorem rBytes_m (g h n m : Nat) (f : Nat → Bool) (w : World) (V : RS w g h n f) (hm : m = (n + 7) / 8) :
    Calls Tryd.prog 26 #[.pointer (some ⟨g, 0, none⟩)] w (NewInts .u8 w.heap.size (pack m (upF f n)) w) := by
  have hlim := V.lim
  have c0 := V.cell
  have hmI : ((n : Int) + 7) / 8 = (m : Int) := by omega
  have hml : m ≤ 200000 := by omega
  have hmk := fun W => make_zero m (by omega) (((n : Int) + 7) / 8) hmI W
  have HB := Lib.hid (show ∀ i, i < n → i / 8 < m from fun i hi => by omega)
  have HV := Lib.hid V
  clear V hm hmI
  go_enter Tryd.func26, Tryd.ntmps26
  go_wp2
  have HR0 := Lib.hid (show (w.alloc (.cells (cellsOf (pack m (upF f 0))) 5)).heap[w.heap.size]? = some (.cells (cellsOf (pack m (upF f 0))) 5 (0, 0)) from heap_alloc_last _ _)
  have HG0 := Lib.hid (show Below w.heap.size w (w.alloc (.cells (cellsOf (pack m (upF f 0))) 5)) from (Below.refl _ _).alloc (Nat.le_refl _) _)
  have hu0 : pack m (fun _ => false) = pack m (upF f 0) := by rw [upF_zero]
  rw [hu0]
  clear hu0
  go_loopg [4] n (fun kq v4 w' => ∃ i : Nat, v4 = .int .i64 (i : Int) ∧ i + kq = n ∧ w'.heap[w.heap.size]? = some (.cells (cellsOf (pack m (upF f i))) 5 (0, 0)) ∧ Below w.heap.size w w')
  case atStart => exact ⟨0, rfl, by omega, HR0.out, HG0.out⟩
  case round =>
    obtain ⟨i, rfl, hi, hrow, G⟩ := hrel
    have VR := HV.out.kept (R := fun _ => False) (Chg.belowAt G) (fun h => h) (fun h => h)
    have d0 := VR.cell
    have HG := Lib.hid G
    have HRW := Lib.hid hrow
    by_cases hlt : i < n
    · have i0 : (0 : Int) ≤ (i : Int) := by omega
      have i1 : (i : Int) < (n : Int) := by omega
      have i2 : (0 : Int) ≤ (i : Int) % 8 := by omega
      have i3 : (i : Int) % 8 < 8 := by omega
      have i4 := HB.out i hlt
      have i5 : (i : Int) / 8 < (m : Int) := by omega
      have i6 : (0 : Int) ≤ (i : Int) / 8 := by omega
      have db := VR.bit i hlt
      cases hf : f i with
      | false =>
        rw [hf] at db
        have HE := Lib.hid (upF_no f i hf)
        clear hf VR hrow G
        go_wp2
        go_roundg (n - (i + 1))
        case measure => omega
        case rel => exact ⟨i + 1, by go_num, by omega, by rw [HE.out]; exact HRW.out, HG.out⟩
      | true =>
        rw [hf] at db
        have hby : wr.cell? ⟨w.heap.size, i / 8, none⟩ = some (.int .u8 (byteN (upF f i) (i / 8))) := by rw [cell_of_row _ _ _ _ _ _ hrow, cellsOf_get _ _ (by rw [pack_length]; exact i4), pack_get _ _ _ i4]
        have hfz := free_row hrow (i / 8)
        have hst := byteN_upstep f i hf
        have hset := setCell_row hrow (i / 8) (.int .u8 ((byteN (upF f (i + 1)) (i / 8) : Nat) : Int))
        rw [cellsOf_set, pack_set _ _ _ _ i4 (fun k _ hk => upF_far f i k (fun e => hk (by rw [e])))] at hset
        have hlb := byteN_lt (upF f i) (i / 8)
        have hor : Go.bits BinOp.or IntKind.u8 ((byteN (upF f i) (i / 8) : Nat) : Int) (2 ^ (i % 8) % 256) = ((byteN (upF f (i + 1)) (i / 8) : Nat) : Int) := by
          have h2 := pow8 i
          have h3 := u8_or_nat (byteN (upF f i) (i / 8)) (2 ^ (i % 8)) hlb h2
          rw [hst] at h3
          have e : (2 : Int) ^ (i % 8) % 256 = ((2 ^ (i % 8) : Nat) : Int) := by
            rw [cast_pow]
            generalize 2 ^ (i % 8) = z at *
            omega
          rw [e]; exact h3
        have HSET := Lib.hid hset
        have HOR := Lib.hid hor
        generalize byteN (upF f i) (i / 8) = x at *
        clear hf VR hrow G hst hset hor
        go_wp2_with fail
        go_region
        go_wp2
        go_roundg (n - (i + 1))
        case measure => omega
        case rel => exact ⟨i + 1, by go_num, by omega, by rw [HOR.out]; exact HSET.out, (HG.out.setCell (by simp) _).drew⟩
    · obtain rfl : i = n := by omega
      have hp := pack_length m (upF f i)
      have HP := Lib.hid hp
      clear hp VR hrow G
      go_wp2
      go_ret
      refine ⟨some ⟨w.heap.size, 0, none⟩, m, by rw [HP.out]; rfl, by rw [HP.out]; exact Nat.le_refl _, ints_block HRW.out, ?_, HG.out⟩
      intro ad e
      cases e
      refine ⟨Nat.le_refl _, ?_⟩
      show w.heap.size < wr.heap.size
      rcases Nat.lt_or_ge w.heap.size wr.heap.size with h | h
      · exact h
      · have := HRW.out; rw [Array.getElem?_eq_none h] at this; cases this

end Go.Proofs.YtdnincnfamcchaaDoor
