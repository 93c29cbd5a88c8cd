/- bloom's reference: Or, Bytes. -/
import Derived.Test.YteodhbkhkecigaaRefAdd
namespace Go.Proofs.Yteodhbkhkecigaa
open Go.RowKit

/-- f with the first i bits of b. -/
def orN (f : Nat → Bool) (b : List Int) (i : Nat) : Nat → Bool := fun q => f q || (decide (q < i) && bitOf b q)
theorem orN_zero (f : Nat → Bool) (b : List Int) : orN f b 0 = f := by funext q; simp [orN]
theorem orN_at (f : Nat → Bool) (b : List Int) (i : Nat) : orN f b i i = f i := by simp [orN]
theorem orN_next (f : Nat → Bool) (b : List Int) (i : Nat) : orN f b (i + 1) i = (f i || bitOf b i) := by simp [orN]
theorem orN_far (f : Nat → Bool) (b : List Int) (i k : Nat) (h : k ≠ i) : orN f b (i + 1) k = orN f b i k := by
  unfold orN
  have : decide (k < i + 1) = decide (k < i) := by rw [decide_eq_decide]; omega
  rw [this]
theorem bitOf_far (b : List Int) (p : Nat) (h : b.length ≤ p / 8) : bitOf b p = false := by
  unfold bitOf
  rw [List.getD_eq_getElem?_getD, List.getElem?_eq_none h]; simp
theorem bit_test (z : Nat) (j : Nat) : ((((z : Int) / 2 ^ j) % 2) == 1) = z.testBit j := by
  rw [cast_pow, ← Int.natCast_ediv, Nat.testBit_eq_decide_div_mod_eq, Bool.eq_iff_iff, beq_iff_eq, decide_eq_true_eq]
  omega

set_option maxRecDepth 20000 in
set_option maxHeartbeats 800000 in
theorem ROr_any (g h n probes m : Nat) (f : Nat → Bool) (A : Option Addr) (c : Nat) (b : List Int) (w : World) (V : RV w g h n probes f) (hgh : g ≠ h) (hr : Ints .u8 w A b) (hb : Bytes b) (hm : b.length = m) (hl : m ≤ 10000) (hA : ∀ ad, A = some ad → 0 < b.length → ad.block ≠ h) :
    Calls Try.prog 17 #[.pointer (some ⟨g, 0, none⟩), .slice A m c] w fun e w' => e = .returned (.tuple #[]) ∧ w.grownBy w' (some h) ∧ RV w' g h n probes (orAll n f b) := by
  have HV := Lib.hid V
  have HI := Lib.hid hr
  have HB := Lib.hid hb
  have HM := Lib.hid hm
  have HA := Lib.hid hA
  have hlim := V.lim.1
  clear V hr hb hm hA
  go_enter Try.func17, Try.ntmps17
  go_wp2_with fail
  go_loopg [4] n (fun kq v4 w' => ∃ i : Nat, v4 = .int .i64 (i : Int) ∧ i + kq = n ∧ RV w' g h n probes (orN f b i) ∧ w.grownBy w' (some h))
  case atStart => exact ⟨0, rfl, by omega, by rw [orN_zero]; exact HV.out, World.grownBy.refl _ _⟩
  case round =>
    obtain ⟨i, rfl, hi, VR, G⟩ := hrel
    obtain ⟨d0, d1⟩ := VR.cells
    by_cases hlt : i < n
    · have i0 : (0 : Int) ≤ (i : Int) := by omega
      have i1 : (i : Int) < (n : Int) := by omega
      have i2 : (0 : Int) ≤ (i : Int) % 8 := by omega
      have i3 : (i : Int) % 8 < 8 := by omega
      by_cases hlm : i / 8 < m
      · have hlm1 : (i : Int) / 8 < (m : Int) := by omega
        have hlm2 : (0 : Int) ≤ (i : Int) / 8 := by omega
        obtain ⟨ad, e, hcl⟩ := HI.out (i / 8) (by rw [HM.out]; exact hlm)
        subst e
        have hbb := HB.out (i / 8)
        have hcell : wr.cell? (ad.add (i / 8)) = some (.int .u8 (b.getD (i / 8) 0)) :=
          (World.cell?_of_block (w := w) (G.block _ (cell_lt hcl) (by rw [add_block]; have := HA.out ad rfl (by rw [HM.out]; omega); simpa using this))).trans hcl
        obtain ⟨z, hz⟩ : ∃ z : Nat, b.getD (i / 8) 0 = z := ⟨(b.getD (i / 8) 0).toNat, by omega⟩
        rw [hz] at hcell hbb
        have hbit : bitOf b i = z.testBit (i % 8) := by unfold bitOf; rw [hz]; rfl
        have hbt := bit_test z (i % 8)
        rw [← hbit] at hbt
        have HBT := Lib.hid hbt
        have HBI := Lib.hid hbit
        have db := VR.bit i hlt
        rw [orN_at] at db
        have df := VR.free i
        have hst := fun v hv => VR.set hgh i v (f' := orN f b (i + 1)) hv (fun q _ hq => orN_far f b i q hq)
        have HST := Lib.hid hst
        have HNX := Lib.hid (orN_next f b i)
        have HG := Lib.hid G
        clear hst hbt hbit VR G hcl hz
        cases hf : f i with
        | true =>
          have HSX := Lib.hid (HST.out true (by rw [HNX.out, hf]; rfl))
          rw [hf] at db
          clear hf
          go_wp2_with fail
          go_region
          go_wp2
          go_roundg (n - (i + 1))
          case measure => omega
          case rel => exact ⟨i + 1, by go_num, by omega, ⟨HSX.out.obj, HSX.out.row, HSX.out.lim⟩, grown_drewN (grown_trans HG.out (grown_setCell _ _ _ _)) 1⟩
        | false =>
          have HSX := Lib.hid (HST.out ((((z : Int) / 2 ^ (i % 8)) % 2) == 1) (by rw [HNX.out, hf, HBT.out]; rfl))
          rw [hf] at db
          clear hf
          go_wp2_with fail
          go_region
          go_wp2
          go_roundg (n - (i + 1))
          case measure => omega
          case rel => exact ⟨i + 1, by go_num, by omega, ⟨HSX.out.obj, HSX.out.row, HSX.out.lim⟩, grown_drewN (grown_trans HG.out (grown_setCell _ _ _ _)) 1⟩
      · have hlm1 : ¬ (i : Int) / 8 < (m : Int) := by omega
        have HG := Lib.hid G
        have HVR := Lib.hid VR
        clear G VR
        go_wp2
        go_end0
        refine ⟨rfl, HG.out, HVR.out.congr fun k hk => ?_⟩
        unfold orN orAll
        by_cases hki : k < i
        · simp [hki, hk]
        · rw [bitOf_far b k (by rw [HM.out]; omega)]; simp
    · obtain rfl : i = n := by omega
      have HG := Lib.hid G
      have HVR := Lib.hid VR
      clear G VR
      go_wp2
      go_end0
      exact ⟨rfl, HG.out, HVR.out.congr fun k hk => rfl⟩

theorem byteN_upstep (f : Nat → Bool) (i : Nat) (h : f i = true) : byteN (upF f i) (i / 8) ||| 2 ^ (i % 8) = byteN (upF f (i + 1)) (i / 8) := by
  rw [byteN_put]
  unfold byteN
  apply bitsN_ext
  intro k hk
  simp only [put, upF]
  by_cases e : 8 * (i / 8) + k = i
  · rw [e, h]; simp
  · have : decide (8 * (i / 8) + k < i + 1) = decide (8 * (i / 8) + k < i) := by rw [decide_eq_decide]; omega
    rw [this]; simp [e]
theorem upF_far (f : Nat → Bool) (i k : Nat) (h : k ≠ i) : upF f (i + 1) k = upF f i k := by
  unfold upF
  have : decide (k < i + 1) = decide (k < i) := by rw [decide_eq_decide]; omega
  rw [this]
theorem upF_no (f : Nat → Bool) (i : Nat) (h : f i = false) : upF f (i + 1) = upF f i := by
  funext k
  by_cases e : k = i
  · subst e; simp [upF, h]
  · exact upF_far f i k e
theorem upF_zero (f : Nat → Bool) : upF f 0 = fun _ => false := by funext k; simp [upF]

set_option maxRecDepth 20000 in
set_option maxHeartbeats 800000 in
theorem RBytes_m (g h n m probes : Nat) (f : Nat → Bool) (w : World) (V : RV w g h n probes f) (hm : m = (n + 7) / 8) :
    Calls Try.prog 20 #[.pointer (some ⟨g, 0, none⟩)] w (NewInts .u8 w.heap.size (pack m (upF f n)) w) := by
  have hlim := V.lim.1
  obtain ⟨c0, c1⟩ := V.cells
  have hmI : ((n : Int) + 7) / 8 = (m : Int) := by omega
  have hml : m ≤ 200000 := by omega
  have hmk : ∀ W : World, (Instr.makeSlice 37 (.int .i64 (((n : Int) + 7) / 8)) (.int .i64 (((n : Int) + 7) / 8))).run Try.prog W = .ok (.slice (some ⟨W.heap.size, 0, none⟩) m m) (W.alloc (.cells (cellsOf (pack m (fun _ => false))) 5)) := by
    intro W
    obtain ⟨i0, hi, hz0, hz1, hz2⟩ := info_parts Try.info5
    have := run_make (P := Try.prog) W 37 5 i0 (.int .u8 0) Try.underlying37 hi hz0 .i64 .i64 (((n : Int) + 7) / 8) (((n : Int) + 7) / 8) (by omega) (Int.le_refl _) (by rw [hz2]; omega) (by omega)
    rw [hmI, Int.toNat_natCast, hz1, Nat.mul_one] at this
    rw [hmI, this, ← made_zero]
    rfl
  have HB := Lib.hid (show ∀ i, i < n → i / 8 < m from fun i hi => by omega)
  have HV := Lib.hid V
  clear V hm hmI
  go_enter Try.func20, Try.ntmps20
  go_wp2
  have HR0 := Lib.hid (show (w.alloc (.cells (cellsOf (pack m (upF f 0))) 5)).heap[w.heap.size]? = some (.cells (cellsOf (pack m (upF f 0))) 5 (0, 0)) from heap_alloc_last _ _)
  have HG0 := Lib.hid (show Below w.heap.size w (w.alloc (.cells (cellsOf (pack m (upF f 0))) 5)) from (Below.refl _ _).alloc (Nat.le_refl _) _)
  have hu0 : pack m (fun _ => false) = pack m (upF f 0) := by rw [upF_zero]
  rw [hu0]
  clear hu0
  go_loopg [4] n (fun kq v4 w' => ∃ i : Nat, v4 = .int .i64 (i : Int) ∧ i + kq = n ∧ w'.heap[w.heap.size]? = some (.cells (cellsOf (pack m (upF f i))) 5 (0, 0)) ∧ Below w.heap.size w w')
  case atStart => exact ⟨0, rfl, by omega, HR0.out, HG0.out⟩
  case round =>
    obtain ⟨i, rfl, hi, hrow, G⟩ := hrel
    have VR := HV.out.kept (below_grown G none) (by simp) (by simp)
    obtain ⟨d0, d1⟩ := VR.cells
    have HG := Lib.hid G
    have HRW := Lib.hid hrow
    by_cases hlt : i < n
    · have i0 : (0 : Int) ≤ (i : Int) := by omega
      have i1 : (i : Int) < (n : Int) := by omega
      have i2 : (0 : Int) ≤ (i : Int) % 8 := by omega
      have i3 : (i : Int) % 8 < 8 := by omega
      have i4 := HB.out i hlt
      have i5 : (i : Int) / 8 < (m : Int) := by omega
      have i6 : (0 : Int) ≤ (i : Int) / 8 := by omega
      have db := VR.bit i hlt
      cases hf : f i with
      | false =>
        rw [hf] at db
        have HE := Lib.hid (upF_no f i hf)
        clear hf VR hrow G
        go_wp2
        go_roundg (n - (i + 1))
        case measure => omega
        case rel => exact ⟨i + 1, by go_num, by omega, by rw [HE.out]; exact HRW.out, HG.out⟩
      | true =>
        rw [hf] at db
        have hby : wr.cell? ⟨w.heap.size, i / 8, none⟩ = some (.int .u8 (byteN (upF f i) (i / 8))) := by rw [cell_of_row _ _ _ _ _ _ hrow, cellsOf_get _ _ (by rw [pack_length]; exact i4), pack_get _ _ _ i4]
        have hfz := free_row hrow (i / 8)
        have hst := byteN_upstep f i hf
        have hset := setCell_row hrow (i / 8) (.int .u8 ((byteN (upF f (i + 1)) (i / 8) : Nat) : Int))
        rw [cellsOf_set, pack_set _ _ _ _ i4 (fun k _ hk => upF_far f i k (fun e => hk (by rw [e])))] at hset
        have hlb := byteN_lt (upF f i) (i / 8)
        have hor : Go.bits BinOp.or IntKind.u8 ((byteN (upF f i) (i / 8) : Nat) : Int) (2 ^ (i % 8) % 256) = ((byteN (upF f (i + 1)) (i / 8) : Nat) : Int) := by
          have h2 := pow8 i
          have h3 := u8_or_nat (byteN (upF f i) (i / 8)) (2 ^ (i % 8)) hlb h2
          rw [hst] at h3
          have e : (2 : Int) ^ (i % 8) % 256 = ((2 ^ (i % 8) : Nat) : Int) := by
            rw [cast_pow]
            generalize 2 ^ (i % 8) = z at *
            omega
          rw [e]; exact h3
        have HSET := Lib.hid hset
        have HOR := Lib.hid hor
        generalize byteN (upF f i) (i / 8) = x at *
        clear hf VR hrow G hst hset hor
        go_wp2_with fail
        go_region
        go_wp2
        go_roundg (n - (i + 1))
        case measure => omega
        case rel => exact ⟨i + 1, by go_num, by omega, by rw [HOR.out]; exact HSET.out, (HG.out.setCell (by simp) _).drew⟩
    · obtain rfl : i = n := by omega
      have hp := pack_length m (upF f i)
      have HP := Lib.hid hp
      clear hp VR hrow G
      go_wp2
      go_ret
      refine ⟨some ⟨w.heap.size, 0, none⟩, m, by rw [HP.out]; rfl, by rw [HP.out]; exact Nat.le_refl _, ints_block HRW.out, ?_, HG.out⟩
      intro ad e
      cases e
      refine ⟨Nat.le_refl _, ?_⟩
      show w.heap.size < wr.heap.size
      rcases Nat.lt_or_ge w.heap.size wr.heap.size with h | h
      · exact h
      · have := HRW.out; rw [Array.getElem?_eq_none h] at this; cases this

end Go.Proofs.Yteodhbkhkecigaa
