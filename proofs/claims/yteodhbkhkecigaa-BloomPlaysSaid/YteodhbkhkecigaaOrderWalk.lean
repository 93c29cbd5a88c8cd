/- The walk of BloomOrder. -/
import Derived.Test.YteodhbkhkecigaaKeys
namespace Go.Proofs.Yteodhbkhkecigaa
open Go.RowKit

def partArr (s i : Nat) : Array Value := ((List.range 4).map fun j => if j < i then Value.pointer (some ⟨s + 2 * j + 1, 0, none⟩) else Value.pointer none).toArray
theorem partArr_set (s i : Nat) (h : i < 4) : (partArr s i).setIfInBounds i (.pointer (some ⟨s + 2 * i + 1, 0, none⟩)) = partArr s (i + 1) := by
  match i, h with
  | 0, _ => rfl
  | 1, _ => rfl
  | 2, _ => rfl
  | 3, _ => rfl
theorem partArr_get (s i j : Nat) (h : j < 4) : ∃ v, (partArr s i)[j]? = some v := by
  refine ⟨(partArr s i)[j]'(by simp [partArr]; omega), ?_⟩
  rw [Array.getElem?_eq_getElem (by simp [partArr]; omega)]

/-- The places of the last i of n keys, and of the first. -/
def revK (bits probes : Nat) (ks : List KeyT) (n i : Nat) : Nat → Bool := fun q => (List.range i).any fun j => (placesK bits probes (ks.getD (n - 1 - j) (fun _ => 0, 0)).1 (ks.getD (n - 1 - j) (fun _ => 0, 0)).2).contains q || (placesK bits probes (ks.getD 0 (fun _ => 0, 0)).1 (ks.getD 0 (fun _ => 0, 0)).2).contains q

theorem anyK_put (bits probes : Nat) (ks : List KeyT) (i : Nat) (p : Nat → Bool) (h : i < ks.length) (hp : p i = true) : puts (anyK bits probes ks i p) (placesK bits probes (ks[i]).1 (ks[i]).2) = anyK bits probes ks (i + 1) p := by
  funext q
  simp only [puts, anyK, List.range_succ, List.any_append, List.any_cons, List.any_nil, Bool.or_false, hp, Bool.true_and]
  rw [List.getD_eq_getElem?_getD, List.getElem?_eq_getElem h]
  rfl
theorem anyK_skip (bits probes : Nat) (ks : List KeyT) (i : Nat) (p : Nat → Bool) (hp : p i = false) : anyK bits probes ks i p = anyK bits probes ks (i + 1) p := by
  funext q
  simp only [anyK, List.range_succ, List.any_append, List.any_cons, List.any_nil, Bool.or_false, hp, Bool.false_and]
theorem revK_put (bits probes : Nat) (ks : List KeyT) (n i r : Nat) (h : r < ks.length) (h0 : 0 < ks.length) (hr : n - 1 - i = r) :
    puts (puts (revK bits probes ks n i) (placesK bits probes (ks[r]).1 (ks[r]).2)) (placesK bits probes (ks[0]).1 (ks[0]).2) = revK bits probes ks n (i + 1) := by
  funext q
  simp only [puts, revK, List.range_succ, List.any_append, List.any_cons, List.any_nil, Bool.or_false, hr, Bool.or_assoc]
  rw [List.getD_eq_getElem?_getD, List.getD_eq_getElem?_getD, List.getElem?_eq_getElem h, List.getElem?_eq_getElem h0]
  rfl
theorem Four.congr {w : World} {vb s bits probes : Nat} {f0 f1 f2 f3 g0 g1 g2 g3 : Nat → Bool} (F : Four w vb s bits probes f0 f1 f2 f3) (h0 : f0 = g0) (h1 : f1 = g1) (h2 : f2 = g2) (h3 : f3 = g3) : Four w vb s bits probes g0 g1 g2 g3 := by
  subst h0; subst h1; subst h2; subst h3; exact F

theorem anyK_rev (bits probes : Nat) (ks : List KeyT) (n : Nat) (hn : ks.length = n) : anyK bits probes ks n (fun _ => true) = revK bits probes ks n n := by
  funext q
  rw [Bool.eq_iff_iff]
  simp only [anyK, revK, List.any_eq_true, List.mem_range, Bool.true_and, Bool.or_eq_true]
  constructor
  · rintro ⟨j, hj, h⟩
    exact ⟨n - 1 - j, by omega, .inl (by rw [show n - 1 - (n - 1 - j) = j from by omega]; exact h)⟩
  · rintro ⟨j, hj, h | h⟩
    · exact ⟨n - 1 - j, by omega, h⟩
    · exact ⟨0, by omega, h⟩
theorem bitOf_pack (m : Nat) (f : Nat → Bool) (q : Nat) (h : q < 8 * m) : bitOf (pack m f) q = f q := by
  unfold bitOf
  rw [pack_get _ _ _ (by omega), Int.toNat_natCast, byteN_test]
theorem anyK_or (bits probes : Nat) (ks : List KeyT) (n k : Nat) (ho : ∀ p, bits ≤ p → anyK bits probes ks n (fun j => !decide (j < k)) p = false) :
    orAll bits (anyK bits probes ks n (fun j => decide (j < k))) (pack ((bits + 7) / 8) (anyK bits probes ks n (fun j => !decide (j < k)))) = anyK bits probes ks n (fun _ => true) := by
  have key : ∀ q, (anyK bits probes ks n (fun j => decide (j < k)) q || anyK bits probes ks n (fun j => !decide (j < k)) q) = anyK bits probes ks n (fun _ => true) q := by
    intro q
    rw [Bool.eq_iff_iff]
    simp only [anyK, Bool.or_eq_true, List.any_eq_true, List.mem_range, Bool.and_eq_true, decide_eq_true_eq, Bool.not_eq_true', decide_eq_false_iff_not]
    constructor
    · rintro (⟨j, h1, _, h⟩ | ⟨j, h1, _, h⟩) <;> exact ⟨j, h1, trivial, h⟩
    · rintro ⟨j, h1, _, h⟩
      by_cases hj : j < k
      · exact .inl ⟨j, h1, hj, h⟩
      · exact .inr ⟨j, h1, hj, h⟩
  funext q
  rw [← key q]
  unfold orAll
  by_cases h : q < bits
  · rw [bitOf_pack _ _ _ (by omega)]; simp [h]
  · rw [ho q (by omega)]; simp [h]
theorem Bytes_m (g h bits probes : Nat) (f : Nat → Bool) (w : World) (V : Vec w g h bits probes f) :
    Calls Try.prog 12 #[.pointer (some ⟨g, 0, none⟩)] w fun e w' => ∃ (A : Option Addr) (c : Nat), e = .returned (.slice A ((bits + 7) / 8) c) ∧ Ints .u8 w' A (pack ((bits + 7) / 8) f) ∧ (∀ ad, A = some ad → w.heap.size ≤ ad.block ∧ ad.block < w'.heap.size) ∧ Below w.heap.size w w' := by
  refine (Bytes_any g h bits probes f w V).mono ?_
  rintro e w' ⟨A, c, rfl, _, hI, hA, hb⟩
  exact ⟨A, c, by rw [pack_length], hI, hA, hb⟩
theorem Or_at (g rb bits probes : Nat) (f : Nat → Bool) (A : Option Addr) (n c : Nat) (b : List Int) (w : World) (V : Vec w g rb bits probes f) (hgh : g ≠ rb) (hn : b.length = n) (hr : Ints .u8 w A b) (hb : Bytes b) (hl : n ≤ 1000000000000000) (hA : ∀ ad, A = some ad → ad.block ≠ rb) :
    Calls Try.prog 11 #[.pointer (some ⟨g, 0, none⟩), .slice A n c] w fun e w' => e = .returned (.tuple #[]) ∧ w.grownBy w' (some rb) ∧ Vec w' g rb bits probes (orAll bits f b) := by
  subst hn; exact Or_any g rb bits probes f A c b w V hgh hr hb hl hA

/-- i of four summaries are made. -/
structure Part (w : World) (vb s bits probes i : Nat) : Prop where
  arr : w.heap[vb]? = some (.cells (partArr s i) 26 (0, 0))
  vec : ∀ j, j < i → Vec w (s + 2 * j + 1) (s + 2 * j) bits probes (fun _ => false)
  size : w.heap.size = s + 2 * i
  lt : vb < s

theorem Part.step {w w' : World} {vb s bits probes i : Nat} (h : Part w vb s bits probes i) (hi : i < 4) (hg : w.grownBy w' none) (hv : Vec w' (w.heap.size + 1) w.heap.size bits probes (fun _ => false)) (hs : w'.heap.size = w.heap.size + 2) :
    Part (w'.setCell ⟨vb, i, none⟩ (.pointer (some ⟨w.heap.size + 1, 0, none⟩))) vb s bits probes (i + 1) ∧ (∃ v0, w'.cell? ⟨vb, i, none⟩ = some v0) ∧ w'.frozen? ⟨vb, i, none⟩ = false := by
  have hlt := h.lt
  have hsz := h.size
  have ha : w'.heap[vb]? = some (.cells (partArr s i) 26 (0, 0)) := (hg.block vb (by omega) (by simp)).trans h.arr
  refine ⟨⟨?_, ?_, ?_, hlt⟩, ?_, free_row ha i⟩
  · rw [setCell_row ha, hsz, partArr_set s i hi]
  · intro j hj
    have hk : w'.grownBy (w'.setCell ⟨vb, i, none⟩ (.pointer (some ⟨w.heap.size + 1, 0, none⟩))) (some vb) := grown_setCell _ _ _ _
    by_cases e : j = i
    · subst e
      rw [← hsz]
      exact hv.kept hk (by simp; omega) (by simp; omega)
    · exact ((h.vec j (by omega)).kept hg (by simp) (by simp)).kept hk (by simp; omega) (by simp; omega)
  · simp only [World.setCell, Array.size_modify]; omega
  · rw [cell_of_row _ _ _ _ _ _ ha]
    obtain ⟨v, hv⟩ := partArr_get s i i hi
    exact ⟨v, hv⟩
theorem Part.four {w : World} {vb s bits probes : Nat} (h : Part w vb s bits probes 4) : Four w vb s bits probes (fun _ => false) (fun _ => false) (fun _ => false) (fun _ => false) :=
  ⟨h.arr, h.vec 0 (by omega), h.vec 1 (by omega), h.vec 2 (by omega), h.vec 3 (by omega), h.lt⟩

set_option maxHeartbeats 1600000 in
theorem Order_short (bits probes cut : Nat) (A : Option Addr) (c n : Nat) (ks : List KeyT) (w : World) (hb : bits < 65536) (hp : probes < 65536) (hcut : cut < 65536) (hn : ks.length = n) (hK : Keys w A ks) (hnc : n ≤ c) (hnl : n ≤ 300) :
    Calls Try.prog 3 #[.int .u16 bits, .int .u16 probes, .slice A n c, .int .u16 cut] w fun e w' => e = .returned (.bool true) ∧ Below w.heap.size w w' := by
  have HN := Lib.hid hn
  have HK := Lib.hid hK
  clear hn hK
  go_enter Try.func3, Try.ntmps3
  go_wp2_with fail
  refine (shown_any _).mono ?_
  rintro e w1 ⟨rfl, hb1⟩
  have hs1 := hb1.size
  go_wp2_with fail
  go_loopg [18] 4 (fun kq v18 w' => ∃ i : Nat, v18 = .int .i64 (i : Int) ∧ i + kq = 4 ∧ Part w' w1.heap.size (w1.heap.size + 1) bits (probes % 31) i ∧ Below w1.heap.size w1 w')
  case atStart => exact ⟨0, rfl, rfl, ⟨heap_alloc_last _ _, fun j hj => absurd hj (by omega), by simp, by omega⟩, (Below.refl _ _).alloc (Nat.le_refl _) _⟩
  case round =>
    obtain ⟨i, rfl, hi, hP, hB⟩ := hrel
    by_cases hlt : i < 4
    · have HP := Lib.hid hP
      have HB := Lib.hid hB
      clear hP hB
      go_wp2_with fail
      refine (New_at _ _ bits (probes % 31) wr rfl (by omega) (by omega) (by omega)).mono ?_
      rintro e w2 ⟨rfl, hg2, hv2, hs2⟩
      obtain ⟨hst, ⟨v0, hc2⟩, hf2⟩ := HP.out.step hlt hg2 hv2 hs2
      have HST := Lib.hid hst
      have HB2 := Lib.hid ((HB.out.grown hg2 HB.out.size (by simp)).setCell (p := ⟨w1.heap.size, i, none⟩) (Nat.le_refl _) (.pointer (some ⟨wr.heap.size + 1, 0, none⟩)))
      clear hst hv2 hs2 hg2
      go_wp2_with fail
      go_roundg (4 - (i + 1))
      case measure => omega
      case rel => exact ⟨i + 1, by go_num, by omega, HST.out, HB2.out⟩
    · obtain rfl : i = 4 := by omega
      have HF := Lib.hid hP.four
      have HKr := Lib.hid (HK.out.below (hb1.trans (hB.mono hs1)))
      have HB := Lib.hid hB
      clear hP hB
      go_wp2_with fail
      have HU := Lib.hid Try.underlying35
      generalize hkz : (cut : Int) % ((n : Int) + 1) = kz
      obtain ⟨k, rfl⟩ : ∃ k : Nat, kz = k := ⟨kz.toNat, by have := Int.emod_nonneg (cut : Int) (show ((n : Int) + 1) ≠ 0 by omega); omega⟩
      clear hkz
      go_loopg [53] n (fun kq v53 w' => ∃ i : Nat, v53 = .int .i64 (i : Int) ∧ i + kq = n ∧ Below w1.heap.size w1 w' ∧ Keys w' A ks ∧
        Four w' w1.heap.size (w1.heap.size + 1) bits (probes % 31) (anyK bits (probes % 31) ks i (fun _ => true)) (revK bits (probes % 31) ks n i) (anyK bits (probes % 31) ks i (fun j => decide (j < k))) (anyK bits (probes % 31) ks i (fun j => !decide (j < k))))
      case atStart => exact ⟨0, rfl, by omega, HB.out, HKr.out, HF.out⟩
      case round =>
        obtain ⟨i, rfl, hi, hB, hK, hF⟩ := hrel
        by_cases hlt : i < n
        · obtain ⟨b, o, _, eA, hbw, _, _⟩ := HK.out i (by rw [HN.out]; exact hlt)
          subst eA
          have HF1 := Lib.hid hF
          have HK1 := Lib.hid hK
          have HB1 := Lib.hid hB
          have i0 : (0 : Int) ≤ (i : Int) := by omega
          have i1 : (i : Int) < (n : Int) := by omega
          obtain ⟨r, hr⟩ : ∃ r, n - 1 - i = r := ⟨_, rfl⟩
          have hrlt : r < n := by omega
          have hn0 : 0 < n := by omega
          have hw1 : IntKind.i64.wrap ((n : Int) - 1) = (n : Int) - 1 := IntWalk.i64_in _ (by omega)
          have hw2 : IntKind.i64.wrap ((n : Int) - 1 - (i : Int)) = (r : Int) := by rw [IntWalk.i64_in _ (by omega)]; omega
          have r0 : (0 : Int) ≤ (r : Int) := by omega
          have r1 : (r : Int) < (n : Int) := by omega
          have HRr := Lib.hid hr
          clear hF hK hB hr
          obtain ⟨_, _, k1, e1, hbl1, hr1, hc1⟩ := HK1.out (i) (by rw [HN.out]; exact hlt)
          cases e1
          have HR1 := Lib.hid hr1
          have HC1 := Lib.hid (Add_any _ _ bits (probes % 31) _ k1 _ _ wr.drew HF1.out.drew.v0 (by omega) hc1)
          have HS1 := Lib.hid (show (Try.prog.info? 35).map (·.size) = some k1.toList.length by rw [Array.length_toList]; exact info35 hc1)
          have HP1 := Lib.hid (show ∀ w', wr.grownBy w' (some (w1.heap.size + 1)) → w'.cell? ⟨w1.heap.size, 0, none⟩ = some (.pointer (some ⟨w1.heap.size + 1 + 1, 0, none⟩)) from fun w' hh => (World.cell?_of_block (w := wr) (hh.block w1.heap.size (by have := HF1.out.vlt; omega) (by simp <;> omega))).trans HF1.out.ptr.1)
          clear hr1 hc1
          go_wp2_with fail
          refine wp_region_held_drew (S := fun w' => wr.grownBy w' (some (w1.heap.size + 1))) (by kernel_rfl) (grown_drewN (World.grownBy.refl _ _) 1) (fun hHeld => ?_)
          refine held_take 0 (some 56) (v := ?_) rfl rfl (by kernel_rfl) (by kernel_rfl) (by kernel_rfl) (fun _ _ _ h => h) (Or.inl ⟨by rfl, ?_⟩) hHeld ?_
          rotate_left
          · (intro w' hSw; clear hSw; go_simp; try with_reducible rfl)
          try simp only [Act.put, List.setIfInBounds_toArray, List.set_cons_zero, List.set_cons_succ]
          refine held_take 1 (some 57) (v := ?_) rfl rfl (by kernel_rfl) (by kernel_rfl) (by kernel_rfl) (fun _ _ _ h => h) (Or.inl ⟨by rfl, ?_⟩) hHeld ?_
          rotate_left
          · (intro w' hSw; have pf := HP1.out w' hSw; clear hSw; go_simp; try with_reducible rfl)
          try simp only [Act.put, List.setIfInBounds_toArray, List.set_cons_zero, List.set_cons_succ]
          refine held_take 2 (some 58) (v := ?_) rfl rfl (by kernel_rfl) (by kernel_rfl) (by kernel_rfl) (fun _ _ _ h => h) (Or.inl ⟨by rfl, ?_⟩) hHeld ?_
          rotate_left
          · (intro w' hSw; clear hSw; go_simp; try with_reducible rfl)
          try simp only [Act.put, List.setIfInBounds_toArray, List.set_cons_zero, List.set_cons_succ]
          refine held_take 3 (some 59) (v := ?_) rfl rfl (by kernel_rfl) (by kernel_rfl) (by kernel_rfl) (fun _ _ _ h => h) (Or.inl ⟨by rfl, ?_⟩) hHeld ?_
          rotate_left
          · (intro w' hSw; clear hSw; go_simp; try with_reducible rfl)
          try simp only [Act.put, List.setIfInBounds_toArray, List.set_cons_zero, List.set_cons_succ]
          refine held_take 4 (some 60) (v := ?_) rfl rfl (by kernel_rfl) (by kernel_rfl) (by kernel_rfl) (fun _ _ _ h => h) (Or.inl ⟨by rfl, ?_⟩) hHeld ?_
          rotate_left
          · (intro w' hSw; clear hSw; go_simp; try with_reducible rfl)
          try simp only [Act.put, List.setIfInBounds_toArray, List.set_cons_zero, List.set_cons_succ]
          refine held_take 5 (some 61) (v := .agg (k1.toList).toArray) rfl rfl (by kernel_rfl) (by kernel_rfl) (by kernel_rfl) (fun _ _ _ h => h) (yieldsIf_load_mid (by rfl) 35 _ rfl b (o + i * 33) rfl k1.toList _ (fun w' h => rangeAt_block HR1.out (h.block b hbl1 (by simp <;> omega))) HU.out rfl HS1.out) hHeld ?_
          try simp only [Act.put, List.setIfInBounds_toArray, List.set_cons_zero, List.set_cons_succ]
          refine wpAnyH_ready (rs := [6]) (by kernel_rfl) (by simp) ?_
          refine AllReadyH.cons rfl (fun K hKK => ?_) AllReadyH.nil
          go_simp
          go_at_call 10
          refine HC1.out.mono ?_
          rintro e w2 ⟨rfl, hg1, hv1⟩
          have hgt1 := grown_trans (grown_drewN (World.grownBy.refl wr (some (w1.heap.size + 1))) 1) hg1
          have HF2 := Lib.hid (HF1.out.drew.set0 hg1 hv1)
          have HK2 := Lib.hid (HK1.out.grown hgt1 (fun y hy ad e => by cases e; cases hy; simp <;> omega))
          have HB2 := Lib.hid (HB1.out.grown hgt1 HB1.out.size (fun y hy => by cases hy; omega))
          refine hKK.out _ _ hgt1 (fun hHeld => ?_)
          clear hKK K hHeld hg1 hv1 hgt1
          refine wpAnyH_done (by kernel_rfl) ?_ _
          obtain ⟨_, _, k2, e2, hbl2, hr2, hc2⟩ := HK2.out (r) (by rw [HN.out]; exact hrlt)
          cases e2
          have HR2 := Lib.hid hr2
          have HC2 := Lib.hid (Add_any _ _ bits (probes % 31) _ k2 _ _ w2.drew HF2.out.drew.v1 (by omega) hc2)
          have HS2 := Lib.hid (show (Try.prog.info? 35).map (·.size) = some k2.toList.length by rw [Array.length_toList]; exact info35 hc2)
          have HP2 := Lib.hid (show ∀ w', w2.grownBy w' (some (w1.heap.size + 1 + 2)) → w'.cell? ⟨w1.heap.size, 1, none⟩ = some (.pointer (some ⟨w1.heap.size + 1 + 3, 0, none⟩)) from fun w' hh => (World.cell?_of_block (w := w2) (hh.block w1.heap.size (by have := HF2.out.vlt; omega) (by simp <;> omega))).trans HF2.out.ptr.2.1)
          clear hr2 hc2
          go_wp2_with fail
          refine wp_region_held_drew (S := fun w' => w2.grownBy w' (some (w1.heap.size + 1 + 2))) (by kernel_rfl) (grown_drewN (World.grownBy.refl _ _) 1) (fun hHeld => ?_)
          refine held_take 0 (some 63) (v := ?_) rfl rfl (by kernel_rfl) (by kernel_rfl) (by kernel_rfl) (fun _ _ _ h => h) (Or.inl ⟨by rfl, ?_⟩) hHeld ?_
          rotate_left
          · (intro w' hSw; clear hSw; go_simp; try with_reducible rfl)
          try simp only [Act.put, List.setIfInBounds_toArray, List.set_cons_zero, List.set_cons_succ]
          refine held_take 1 (some 64) (v := ?_) rfl rfl (by kernel_rfl) (by kernel_rfl) (by kernel_rfl) (fun _ _ _ h => h) (Or.inl ⟨by rfl, ?_⟩) hHeld ?_
          rotate_left
          · (intro w' hSw; have pf := HP2.out w' hSw; clear hSw; go_simp; try with_reducible rfl)
          try simp only [Act.put, List.setIfInBounds_toArray, List.set_cons_zero, List.set_cons_succ]
          refine held_take 2 (some 65) (v := ?_) rfl rfl (by kernel_rfl) (by kernel_rfl) (by kernel_rfl) (fun _ _ _ h => h) (Or.inl ⟨by rfl, ?_⟩) hHeld ?_
          rotate_left
          · (intro w' hSw; clear hSw; go_simp; try with_reducible rfl)
          try simp only [Act.put, List.setIfInBounds_toArray, List.set_cons_zero, List.set_cons_succ]
          refine held_take 3 (some 66) (v := ?_) rfl rfl (by kernel_rfl) (by kernel_rfl) (by kernel_rfl) (fun _ _ _ h => h) (Or.inl ⟨by rfl, ?_⟩) hHeld ?_
          rotate_left
          · (intro w' hSw; clear hSw; go_simp; try with_reducible rfl)
          try simp only [Act.put, List.setIfInBounds_toArray, List.set_cons_zero, List.set_cons_succ]
          refine held_take 4 (some 67) (v := ?_) rfl rfl (by kernel_rfl) (by kernel_rfl) (by kernel_rfl) (fun _ _ _ h => h) (Or.inl ⟨by rfl, ?_⟩) hHeld ?_
          rotate_left
          · (intro w' hSw; clear hSw; go_simp; try with_reducible rfl)
          try simp only [Act.put, List.setIfInBounds_toArray, List.set_cons_zero, List.set_cons_succ]
          refine held_take 5 (some 68) (v := ?_) rfl rfl (by kernel_rfl) (by kernel_rfl) (by kernel_rfl) (fun _ _ _ h => h) (Or.inl ⟨by rfl, ?_⟩) hHeld ?_
          rotate_left
          · (intro w' hSw; clear hSw; go_simp; try with_reducible rfl)
          try simp only [Act.put, List.setIfInBounds_toArray, List.set_cons_zero, List.set_cons_succ]
          refine held_take 6 (some 69) (v := ?_) rfl rfl (by kernel_rfl) (by kernel_rfl) (by kernel_rfl) (fun _ _ _ h => h) (Or.inl ⟨by rfl, ?_⟩) hHeld ?_
          rotate_left
          · (intro w' hSw; clear hSw; go_simp; try with_reducible rfl)
          try simp only [Act.put, List.setIfInBounds_toArray, List.set_cons_zero, List.set_cons_succ]
          refine held_take 7 (some 70) (v := ?_) rfl rfl (by kernel_rfl) (by kernel_rfl) (by kernel_rfl) (fun _ _ _ h => h) (Or.inl ⟨by rfl, ?_⟩) hHeld ?_
          rotate_left
          · (intro w' hSw; clear hSw; go_simp; try with_reducible rfl)
          try simp only [Act.put, List.setIfInBounds_toArray, List.set_cons_zero, List.set_cons_succ]
          refine held_take 8 (some 71) (v := ?_) rfl rfl (by kernel_rfl) (by kernel_rfl) (by kernel_rfl) (fun _ _ _ h => h) (Or.inl ⟨by rfl, ?_⟩) hHeld ?_
          rotate_left
          · (intro w' hSw; clear hSw; go_simp; try with_reducible rfl)
          try simp only [Act.put, List.setIfInBounds_toArray, List.set_cons_zero, List.set_cons_succ]
          refine held_take 9 (some 72) (v := .agg (k2.toList).toArray) rfl rfl (by kernel_rfl) (by kernel_rfl) (by kernel_rfl) (fun _ _ _ h => h) (yieldsIf_load_mid (by rfl) 35 _ rfl b (o + r * 33) rfl k2.toList _ (fun w' h => rangeAt_block HR2.out (h.block b hbl2 (by simp <;> omega))) HU.out rfl HS2.out) hHeld ?_
          try simp only [Act.put, List.setIfInBounds_toArray, List.set_cons_zero, List.set_cons_succ]
          refine wpAnyH_ready (rs := [10]) (by kernel_rfl) (by simp) ?_
          refine AllReadyH.cons rfl (fun K hKK => ?_) AllReadyH.nil
          go_simp
          go_at_call 10
          refine HC2.out.mono ?_
          rintro e w3 ⟨rfl, hg2, hv2⟩
          have hgt2 := grown_trans (grown_drewN (World.grownBy.refl w2 (some (w1.heap.size + 1 + 2))) 1) hg2
          have HF3 := Lib.hid (HF2.out.drew.set1 hg2 hv2)
          have HK3 := Lib.hid (HK2.out.grown hgt2 (fun y hy ad e => by cases e; cases hy; simp <;> omega))
          have HB3 := Lib.hid (HB2.out.grown hgt2 HB2.out.size (fun y hy => by cases hy; omega))
          refine hKK.out _ _ hgt2 (fun hHeld => ?_)
          clear hKK K hHeld hg2 hv2 hgt2
          refine wpAnyH_done (by kernel_rfl) ?_ _
          obtain ⟨_, _, k3, e3, hbl3, hr3, hc3⟩ := HK3.out (0) (by rw [HN.out]; omega)
          cases e3
          have HR3 := Lib.hid hr3
          have HC3 := Lib.hid (Add_any _ _ bits (probes % 31) _ k3 _ _ w3.drew HF3.out.drew.v1 (by omega) hc3)
          have HS3 := Lib.hid (show (Try.prog.info? 35).map (·.size) = some k3.toList.length by rw [Array.length_toList]; exact info35 hc3)
          have HP3 := Lib.hid (show ∀ w', w3.grownBy w' (some (w1.heap.size + 1 + 2)) → w'.cell? ⟨w1.heap.size, 1, none⟩ = some (.pointer (some ⟨w1.heap.size + 1 + 3, 0, none⟩)) from fun w' hh => (World.cell?_of_block (w := w3) (hh.block w1.heap.size (by have := HF3.out.vlt; omega) (by simp <;> omega))).trans HF3.out.ptr.2.1)
          clear hr3 hc3
          go_wp2_with fail
          refine wp_region_held_drew (S := fun w' => w3.grownBy w' (some (w1.heap.size + 1 + 2))) (by kernel_rfl) (grown_drewN (World.grownBy.refl _ _) 1) (fun hHeld => ?_)
          refine held_take 0 (some 74) (v := ?_) rfl rfl (by kernel_rfl) (by kernel_rfl) (by kernel_rfl) (fun _ _ _ h => h) (Or.inl ⟨by rfl, ?_⟩) hHeld ?_
          rotate_left
          · (intro w' hSw; clear hSw; go_simp; try with_reducible rfl)
          try simp only [Act.put, List.setIfInBounds_toArray, List.set_cons_zero, List.set_cons_succ]
          refine held_take 1 (some 75) (v := ?_) rfl rfl (by kernel_rfl) (by kernel_rfl) (by kernel_rfl) (fun _ _ _ h => h) (Or.inl ⟨by rfl, ?_⟩) hHeld ?_
          rotate_left
          · (intro w' hSw; have pf := HP3.out w' hSw; clear hSw; go_simp; try with_reducible rfl)
          try simp only [Act.put, List.setIfInBounds_toArray, List.set_cons_zero, List.set_cons_succ]
          refine held_take 2 (some 76) (v := ?_) rfl rfl (by kernel_rfl) (by kernel_rfl) (by kernel_rfl) (fun _ _ _ h => h) (Or.inl ⟨by rfl, ?_⟩) hHeld ?_
          rotate_left
          · (intro w' hSw; clear hSw; go_simp; try with_reducible rfl)
          try simp only [Act.put, List.setIfInBounds_toArray, List.set_cons_zero, List.set_cons_succ]
          refine held_take 3 (some 77) (v := ?_) rfl rfl (by kernel_rfl) (by kernel_rfl) (by kernel_rfl) (fun _ _ _ h => h) (Or.inl ⟨by rfl, ?_⟩) hHeld ?_
          rotate_left
          · (intro w' hSw; clear hSw; go_simp; try with_reducible rfl)
          try simp only [Act.put, List.setIfInBounds_toArray, List.set_cons_zero, List.set_cons_succ]
          refine held_take 4 (some 78) (v := .agg (k3.toList).toArray) rfl rfl (by kernel_rfl) (by kernel_rfl) (by kernel_rfl) (fun _ _ _ h => h) (yieldsIf_load_mid (by rfl) 35 _ rfl b (o) rfl k3.toList _ (fun w' h => rangeAt_block HR3.out (h.block b hbl3 (by simp <;> omega))) HU.out rfl HS3.out) hHeld ?_
          try simp only [Act.put, List.setIfInBounds_toArray, List.set_cons_zero, List.set_cons_succ]
          refine wpAnyH_ready (rs := [5]) (by kernel_rfl) (by simp) ?_
          refine AllReadyH.cons rfl (fun K hKK => ?_) AllReadyH.nil
          go_simp
          go_at_call 10
          refine HC3.out.mono ?_
          rintro e w4 ⟨rfl, hg3, hv3⟩
          have hgt3 := grown_trans (grown_drewN (World.grownBy.refl w3 (some (w1.heap.size + 1 + 2))) 1) hg3
          have HF4 := Lib.hid (HF3.out.drew.set1 hg3 hv3)
          have HK4 := Lib.hid (HK3.out.grown hgt3 (fun y hy ad e => by cases e; cases hy; simp <;> omega))
          have HB4 := Lib.hid (HB3.out.grown hgt3 HB3.out.size (fun y hy => by cases hy; omega))
          refine hKK.out _ _ hgt3 (fun hHeld => ?_)
          clear hKK K hHeld hg3 hv3 hgt3
          refine wpAnyH_done (by kernel_rfl) ?_ _
          by_cases hik : i < k
          · go_wp2_with fail
            obtain ⟨_, _, k4, e4, hbl4, hr4, hc4⟩ := HK4.out (i) (by rw [HN.out]; exact hlt)
            cases e4
            have HR4 := Lib.hid hr4
            have HC4 := Lib.hid (Add_any _ _ bits (probes % 31) _ k4 _ _ w4.drew HF4.out.drew.v2 (by omega) hc4)
            have HS4 := Lib.hid (show (Try.prog.info? 35).map (·.size) = some k4.toList.length by rw [Array.length_toList]; exact info35 hc4)
            have HP4 := Lib.hid (show ∀ w', w4.grownBy w' (some (w1.heap.size + 1 + 4)) → w'.cell? ⟨w1.heap.size, 2, none⟩ = some (.pointer (some ⟨w1.heap.size + 1 + 5, 0, none⟩)) from fun w' hh => (World.cell?_of_block (w := w4) (hh.block w1.heap.size (by have := HF4.out.vlt; omega) (by simp <;> omega))).trans HF4.out.ptr.2.2.1)
            clear hr4 hc4
            go_wp2_with fail
            refine wp_region_held_drew (S := fun w' => w4.grownBy w' (some (w1.heap.size + 1 + 4))) (by kernel_rfl) (grown_drewN (World.grownBy.refl _ _) 1) (fun hHeld => ?_)
            refine held_take 0 (some 83) (v := ?_) rfl rfl (by kernel_rfl) (by kernel_rfl) (by kernel_rfl) (fun _ _ _ h => h) (Or.inl ⟨by rfl, ?_⟩) hHeld ?_
            rotate_left
            · (intro w' hSw; clear hSw; go_simp; try with_reducible rfl)
            try simp only [Act.put, List.setIfInBounds_toArray, List.set_cons_zero, List.set_cons_succ]
            refine held_take 1 (some 84) (v := ?_) rfl rfl (by kernel_rfl) (by kernel_rfl) (by kernel_rfl) (fun _ _ _ h => h) (Or.inl ⟨by rfl, ?_⟩) hHeld ?_
            rotate_left
            · (intro w' hSw; have pf := HP4.out w' hSw; clear hSw; go_simp; try with_reducible rfl)
            try simp only [Act.put, List.setIfInBounds_toArray, List.set_cons_zero, List.set_cons_succ]
            refine held_take 2 (some 85) (v := ?_) rfl rfl (by kernel_rfl) (by kernel_rfl) (by kernel_rfl) (fun _ _ _ h => h) (Or.inl ⟨by rfl, ?_⟩) hHeld ?_
            rotate_left
            · (intro w' hSw; clear hSw; go_simp; try with_reducible rfl)
            try simp only [Act.put, List.setIfInBounds_toArray, List.set_cons_zero, List.set_cons_succ]
            refine held_take 3 (some 86) (v := ?_) rfl rfl (by kernel_rfl) (by kernel_rfl) (by kernel_rfl) (fun _ _ _ h => h) (Or.inl ⟨by rfl, ?_⟩) hHeld ?_
            rotate_left
            · (intro w' hSw; clear hSw; go_simp; try with_reducible rfl)
            try simp only [Act.put, List.setIfInBounds_toArray, List.set_cons_zero, List.set_cons_succ]
            refine held_take 4 (some 87) (v := ?_) rfl rfl (by kernel_rfl) (by kernel_rfl) (by kernel_rfl) (fun _ _ _ h => h) (Or.inl ⟨by rfl, ?_⟩) hHeld ?_
            rotate_left
            · (intro w' hSw; clear hSw; go_simp; try with_reducible rfl)
            try simp only [Act.put, List.setIfInBounds_toArray, List.set_cons_zero, List.set_cons_succ]
            refine held_take 5 (some 88) (v := .agg (k4.toList).toArray) rfl rfl (by kernel_rfl) (by kernel_rfl) (by kernel_rfl) (fun _ _ _ h => h) (yieldsIf_load_mid (by rfl) 35 _ rfl b (o + i * 33) rfl k4.toList _ (fun w' h => rangeAt_block HR4.out (h.block b hbl4 (by simp <;> omega))) HU.out rfl HS4.out) hHeld ?_
            try simp only [Act.put, List.setIfInBounds_toArray, List.set_cons_zero, List.set_cons_succ]
            refine wpAnyH_ready (rs := [6]) (by kernel_rfl) (by simp) ?_
            refine AllReadyH.cons rfl (fun K hKK => ?_) AllReadyH.nil
            go_simp
            go_at_call 10
            refine HC4.out.mono ?_
            rintro e w5 ⟨rfl, hg4, hv4⟩
            have hgt4 := grown_trans (grown_drewN (World.grownBy.refl w4 (some (w1.heap.size + 1 + 4))) 1) hg4
            have HF5 := Lib.hid (HF4.out.drew.set2 hg4 hv4)
            have HK5 := Lib.hid (HK4.out.grown hgt4 (fun y hy ad e => by cases e; cases hy; simp <;> omega))
            have HB5 := Lib.hid (HB4.out.grown hgt4 HB4.out.size (fun y hy => by cases hy; omega))
            refine hKK.out _ _ hgt4 (fun hHeld => ?_)
            clear hKK K hHeld hg4 hv4 hgt4
            refine wpAnyH_done (by kernel_rfl) ?_ _
            have HF6 := Lib.hid (HF5.out.congr (anyK_put _ _ ks i _ (by rw [HN.out]; exact hlt) rfl) (revK_put _ _ ks n i r (by rw [HN.out]; exact hrlt) (by rw [HN.out]; exact hn0) HRr.out) (anyK_put _ _ ks i _ (by rw [HN.out]; exact hlt) (by simp [hik])) (anyK_skip _ _ ks i _ (by simp [hik])))
            go_wp2
            go_roundg (n - (i + 1))
            case measure => omega
            case rel => exact ⟨i + 1, by go_num, by omega, HB5.out, HK5.out, HF6.out⟩
          · go_wp2_with fail
            obtain ⟨_, _, k4, e4, hbl4, hr4, hc4⟩ := HK4.out (i) (by rw [HN.out]; exact hlt)
            cases e4
            have HR4 := Lib.hid hr4
            have HC4 := Lib.hid (Add_any _ _ bits (probes % 31) _ k4 _ _ w4.drew HF4.out.drew.v3 (by omega) hc4)
            have HS4 := Lib.hid (show (Try.prog.info? 35).map (·.size) = some k4.toList.length by rw [Array.length_toList]; exact info35 hc4)
            have HP4 := Lib.hid (show ∀ w', w4.grownBy w' (some (w1.heap.size + 1 + 6)) → w'.cell? ⟨w1.heap.size, 3, none⟩ = some (.pointer (some ⟨w1.heap.size + 1 + 7, 0, none⟩)) from fun w' hh => (World.cell?_of_block (w := w4) (hh.block w1.heap.size (by have := HF4.out.vlt; omega) (by simp <;> omega))).trans HF4.out.ptr.2.2.2)
            clear hr4 hc4
            go_wp2_with fail
            refine wp_region_held_drew (S := fun w' => w4.grownBy w' (some (w1.heap.size + 1 + 6))) (by kernel_rfl) (grown_drewN (World.grownBy.refl _ _) 1) (fun hHeld => ?_)
            refine held_take 0 (some 90) (v := ?_) rfl rfl (by kernel_rfl) (by kernel_rfl) (by kernel_rfl) (fun _ _ _ h => h) (Or.inl ⟨by rfl, ?_⟩) hHeld ?_
            rotate_left
            · (intro w' hSw; clear hSw; go_simp; try with_reducible rfl)
            try simp only [Act.put, List.setIfInBounds_toArray, List.set_cons_zero, List.set_cons_succ]
            refine held_take 1 (some 91) (v := ?_) rfl rfl (by kernel_rfl) (by kernel_rfl) (by kernel_rfl) (fun _ _ _ h => h) (Or.inl ⟨by rfl, ?_⟩) hHeld ?_
            rotate_left
            · (intro w' hSw; have pf := HP4.out w' hSw; clear hSw; go_simp; try with_reducible rfl)
            try simp only [Act.put, List.setIfInBounds_toArray, List.set_cons_zero, List.set_cons_succ]
            refine held_take 2 (some 92) (v := ?_) rfl rfl (by kernel_rfl) (by kernel_rfl) (by kernel_rfl) (fun _ _ _ h => h) (Or.inl ⟨by rfl, ?_⟩) hHeld ?_
            rotate_left
            · (intro w' hSw; clear hSw; go_simp; try with_reducible rfl)
            try simp only [Act.put, List.setIfInBounds_toArray, List.set_cons_zero, List.set_cons_succ]
            refine held_take 3 (some 93) (v := ?_) rfl rfl (by kernel_rfl) (by kernel_rfl) (by kernel_rfl) (fun _ _ _ h => h) (Or.inl ⟨by rfl, ?_⟩) hHeld ?_
            rotate_left
            · (intro w' hSw; clear hSw; go_simp; try with_reducible rfl)
            try simp only [Act.put, List.setIfInBounds_toArray, List.set_cons_zero, List.set_cons_succ]
            refine held_take 4 (some 94) (v := ?_) rfl rfl (by kernel_rfl) (by kernel_rfl) (by kernel_rfl) (fun _ _ _ h => h) (Or.inl ⟨by rfl, ?_⟩) hHeld ?_
            rotate_left
            · (intro w' hSw; clear hSw; go_simp; try with_reducible rfl)
            try simp only [Act.put, List.setIfInBounds_toArray, List.set_cons_zero, List.set_cons_succ]
            refine held_take 5 (some 95) (v := .agg (k4.toList).toArray) rfl rfl (by kernel_rfl) (by kernel_rfl) (by kernel_rfl) (fun _ _ _ h => h) (yieldsIf_load_mid (by rfl) 35 _ rfl b (o + i * 33) rfl k4.toList _ (fun w' h => rangeAt_block HR4.out (h.block b hbl4 (by simp <;> omega))) HU.out rfl HS4.out) hHeld ?_
            try simp only [Act.put, List.setIfInBounds_toArray, List.set_cons_zero, List.set_cons_succ]
            refine wpAnyH_ready (rs := [6]) (by kernel_rfl) (by simp) ?_
            refine AllReadyH.cons rfl (fun K hKK => ?_) AllReadyH.nil
            go_simp
            go_at_call 10
            refine HC4.out.mono ?_
            rintro e w5 ⟨rfl, hg4, hv4⟩
            have hgt4 := grown_trans (grown_drewN (World.grownBy.refl w4 (some (w1.heap.size + 1 + 6))) 1) hg4
            have HF5 := Lib.hid (HF4.out.drew.set3 hg4 hv4)
            have HK5 := Lib.hid (HK4.out.grown hgt4 (fun y hy ad e => by cases e; cases hy; simp <;> omega))
            have HB5 := Lib.hid (HB4.out.grown hgt4 HB4.out.size (fun y hy => by cases hy; omega))
            refine hKK.out _ _ hgt4 (fun hHeld => ?_)
            clear hKK K hHeld hg4 hv4 hgt4
            refine wpAnyH_done (by kernel_rfl) ?_ _
            have HF6 := Lib.hid (HF5.out.congr (anyK_put _ _ ks i _ (by rw [HN.out]; exact hlt) rfl) (revK_put _ _ ks n i r (by rw [HN.out]; exact hrlt) (by rw [HN.out]; exact hn0) HRr.out) (anyK_skip _ _ ks i _ (by simp [hik])) (anyK_put _ _ ks i _ (by rw [HN.out]; exact hlt) (by simp [hik])))
            go_wp2
            go_roundg (n - (i + 1))
            case measure => omega
            case rel => exact ⟨i + 1, by go_num, by omega, HB5.out, HK5.out, HF6.out⟩
        · obtain rfl : i = n := by omega
          have HF := Lib.hid hF
          have HB := Lib.hid hB
          clear hF hK hB
          obtain ⟨f0, f2, f3, hF, hE2⟩ : ∃ f0 f2 f3, Four wr w1.heap.size (w1.heap.size + 1) bits (probes % 31) f0 f0 f2 f3 ∧ orAll bits f2 (pack ((bits + 7) / 8) f3) = f0 :=
            ⟨_, _, _, HF.out.congr rfl (anyK_rev _ _ ks _ HN.out).symm rfl rfl, anyK_or _ _ ks _ k HF.out.v3.out⟩
          have HE2 := Lib.hid hE2
          have HG := Lib.hid hF
          clear HF hF hE2
          have HP2 := Lib.hid (show ∀ w', wr.grownBy w' (some (w1.heap.size + 1 + 4)) → w'.cell? ⟨w1.heap.size, 2, none⟩ = some (.pointer (some ⟨w1.heap.size + 1 + 5, 0, none⟩)) ∧ w'.cell? ⟨w1.heap.size, 3, none⟩ = some (.pointer (some ⟨w1.heap.size + 1 + 7, 0, none⟩)) from fun w' hh => by
            have hbk := hh.block w1.heap.size (by have := HG.out.vlt; omega) (by simp <;> omega)
            exact ⟨(World.cell?_of_block (w := wr) hbk).trans HG.out.ptr.2.2.1, (World.cell?_of_block (w := wr) hbk).trans HG.out.ptr.2.2.2⟩)
          have HC1 := Lib.hid (Bytes_m _ _ bits (probes % 31) f3 wr.drew HG.out.drew.v3)
          go_wp2_with fail
          refine wp_region_held_drew (S := fun w' => wr.grownBy w' (some (w1.heap.size + 1 + 4))) (by kernel_rfl) (grown_drewN (World.grownBy.refl _ _) 1) (fun hHeld => ?_)
          refine held_take 0 (some 98) (v := ?_) rfl rfl (by kernel_rfl) (by kernel_rfl) (by kernel_rfl) (fun _ _ _ h => h) (Or.inl ⟨by rfl, ?_⟩) hHeld ?_
          rotate_left
          · (intro w' hSw; obtain ⟨pf1, pf2⟩ := HP2.out w' hSw; clear hSw; go_simp; try with_reducible rfl)
          try simp only [Act.put, List.setIfInBounds_toArray, List.set_cons_zero, List.set_cons_succ]
          refine held_take 1 (some 99) (v := ?_) rfl rfl (by kernel_rfl) (by kernel_rfl) (by kernel_rfl) (fun _ _ _ h => h) (Or.inl ⟨by rfl, ?_⟩) hHeld ?_
          rotate_left
          · (intro w' hSw; obtain ⟨pf1, pf2⟩ := HP2.out w' hSw; clear hSw; go_simp; try with_reducible rfl)
          try simp only [Act.put, List.setIfInBounds_toArray, List.set_cons_zero, List.set_cons_succ]
          refine held_take 2 (some 100) (v := ?_) rfl rfl (by kernel_rfl) (by kernel_rfl) (by kernel_rfl) (fun _ _ _ h => h) (Or.inl ⟨by rfl, ?_⟩) hHeld ?_
          rotate_left
          · (intro w' hSw; obtain ⟨pf1, pf2⟩ := HP2.out w' hSw; clear hSw; go_simp; try with_reducible rfl)
          try simp only [Act.put, List.setIfInBounds_toArray, List.set_cons_zero, List.set_cons_succ]
          refine held_take 3 (some 101) (v := ?_) rfl rfl (by kernel_rfl) (by kernel_rfl) (by kernel_rfl) (fun _ _ _ h => h) (Or.inl ⟨by rfl, ?_⟩) hHeld ?_
          rotate_left
          · (intro w' hSw; obtain ⟨pf1, pf2⟩ := HP2.out w' hSw; clear hSw; go_simp; try with_reducible rfl)
          try simp only [Act.put, List.setIfInBounds_toArray, List.set_cons_zero, List.set_cons_succ]
          refine wpAnyH_ready (rs := [4]) (by kernel_rfl) (by simp) ?_
          refine AllReadyH.cons rfl (fun K hKK => ?_) AllReadyH.nil
          go_simp
          go_at_call 12
          refine HC1.out.mono ?_
          rintro e w2 ⟨Az, cz, rfl, hIz, hAz, hbz⟩
          have hgz : wr.grownBy w2 (some (w1.heap.size + 1 + 4)) := grown_trans (grown_drewN (World.grownBy.refl _ _) 1) (below_grown hbz _)
          have HG2 := Lib.hid (HG.out.drew.kept (below_grown hbz none))
          have hsz : wr.heap.size ≤ w2.heap.size := hgz.size
          have HO := Lib.hid (Or_at _ _ bits (probes % 31) f2 Az ((bits + 7) / 8) cz _ w2 HG2.out.v2 (by omega) (pack_length _ _) hIz (pack_bytes _ _) (by have := HG2.out.v2.lim; omega) (fun ad e => by have h1 := hAz ad e; have h2 : wr.heap.size ≤ ad.block := h1.1; have := HG.out.vlt; omega))
          refine hKK.out _ _ hgz (fun hHeld => ?_)
          clear hKK K hIz hAz hHeld hgz
          try simp only [Act.put, List.setIfInBounds_toArray, List.set_cons_zero, List.set_cons_succ]
          refine wpAnyH_ready (rs := [5]) (by kernel_rfl) (by simp) ?_
          refine AllReadyH.cons rfl (fun K hKK => ?_) AllReadyH.nil
          go_simp
          go_at_call 11
          refine HO.out.mono ?_
          rintro e w3 ⟨rfl, hg3, hv3⟩
          have HG3 := Lib.hid ((HG2.out.set2 hg3 hv3).congr rfl rfl HE2.out rfl)
          have hgt : wr.grownBy w3 (some (w1.heap.size + 1 + 4)) := grown_trans (grown_trans (grown_drewN (World.grownBy.refl _ _) 1) (below_grown hbz _)) hg3
          have HB3 := Lib.hid (HB.out.grown hgt HB.out.size (fun y hy => by cases hy; omega))
          refine hKK.out _ _ hgt (fun hHeld => ?_)
          clear hKK K hHeld hgt hg3 hv3 hbz
          refine wpAnyH_done (by kernel_rfl) ?_ _
          have HQ3 := Lib.hid (show ∀ w', Below w3.heap.size w3 w' → w'.cell? ⟨w1.heap.size, 0, none⟩ = some (.pointer (some ⟨w1.heap.size + 1 + 1, 0, none⟩)) ∧ w'.cell? ⟨w1.heap.size, 1, none⟩ = some (.pointer (some ⟨w1.heap.size + 1 + 3, 0, none⟩)) ∧ w'.cell? ⟨w1.heap.size, 2, none⟩ = some (.pointer (some ⟨w1.heap.size + 1 + 5, 0, none⟩)) from fun w' hh => by
            have hbk := hh.block w1.heap.size (by have := HG3.out.vlt; omega)
            exact ⟨(World.cell?_of_block (w := w3) hbk).trans HG3.out.ptr.1, (World.cell?_of_block (w := w3) hbk).trans HG3.out.ptr.2.1, (World.cell?_of_block (w := w3) hbk).trans HG3.out.ptr.2.2.1⟩)
          go_wp2_with fail
          refine wp_region_held_drew (S := fun w' => Below w3.heap.size w3 w') (by kernel_rfl) ((Below.refl _ _).drew) (fun hHeld => ?_)
          refine held_take 0 (some 104) (v := ?_) rfl rfl (by kernel_rfl) (by kernel_rfl) (by kernel_rfl) (fun _ _ _ h => h) (Or.inl ⟨by rfl, ?_⟩) hHeld ?_
          rotate_left
          · (intro w' hSw; clear hSw; go_simp; try with_reducible rfl)
          try simp only [Act.put, List.setIfInBounds_toArray, List.set_cons_zero, List.set_cons_succ]
          refine held_take 1 (some 105) (v := ?_) rfl rfl (by kernel_rfl) (by kernel_rfl) (by kernel_rfl) (fun _ _ _ h => h) (Or.inl ⟨by rfl, ?_⟩) hHeld ?_
          rotate_left
          · (intro w' hSw; clear hSw; go_simp; try with_reducible rfl)
          try simp only [Act.put, List.setIfInBounds_toArray, List.set_cons_zero, List.set_cons_succ]
          refine held_take 2 (some 106) (v := ?_) rfl rfl (by kernel_rfl) (by kernel_rfl) (by kernel_rfl) (fun _ _ _ h => h) (Or.inl ⟨by rfl, ?_⟩) hHeld ?_
          rotate_left
          · (intro w' hSw; clear hSw; go_simp; try with_reducible rfl)
          try simp only [Act.put, List.setIfInBounds_toArray, List.set_cons_zero, List.set_cons_succ]
          refine held_take 3 (some 107) (v := ?_) rfl rfl (by kernel_rfl) (by kernel_rfl) (by kernel_rfl) (fun _ _ _ h => h) (Or.inl ⟨by rfl, ?_⟩) hHeld ?_
          rotate_left
          · (intro w' hSw; obtain ⟨pf1, pf2, pf3⟩ := HQ3.out w' hSw; clear hSw; go_simp; try with_reducible rfl)
          try simp only [Act.put, List.setIfInBounds_toArray, List.set_cons_zero, List.set_cons_succ]
          refine held_take 6 (some 110) (v := ?_) rfl rfl (by kernel_rfl) (by kernel_rfl) (by kernel_rfl) (fun _ _ _ h => h) (Or.inl ⟨by rfl, ?_⟩) hHeld ?_
          rotate_left
          · (intro w' hSw; clear hSw; go_simp; try with_reducible rfl)
          try simp only [Act.put, List.setIfInBounds_toArray, List.set_cons_zero, List.set_cons_succ]
          refine held_take 7 (some 111) (v := ?_) rfl rfl (by kernel_rfl) (by kernel_rfl) (by kernel_rfl) (fun _ _ _ h => h) (Or.inl ⟨by rfl, ?_⟩) hHeld ?_
          rotate_left
          · (intro w' hSw; obtain ⟨pf1, pf2, pf3⟩ := HQ3.out w' hSw; clear hSw; go_simp; try with_reducible rfl)
          try simp only [Act.put, List.setIfInBounds_toArray, List.set_cons_zero, List.set_cons_succ]
          have HC3 := Lib.hid (Bytes_m _ _ bits (probes % 31) f0 w3.drew HG3.out.drew.v0)
          refine wpAnyH_ready (rs := [4]) (by kernel_rfl) (by simp) ?_
          refine AllReadyH.cons rfl (fun K hKK => ?_) AllReadyH.nil
          go_simp
          go_at_call 12
          refine HC3.out.mono ?_
          rintro e w4 ⟨A4, c4, rfl, hI4, _, hbz4⟩
          have HBz4 : Below w3.heap.size w3 w4 := ((Below.refl _ _).drew).trans hbz4
          have HI4 := Lib.hid hI4
          have HG4 := Lib.hid (HG3.out.drew.kept (below_grown hbz4 none))
          have HB4 := Lib.hid (HB3.out.trans (HBz4.mono HB3.out.size))
          refine hKK.out _ _ HBz4 (fun _ => held_more (S1 := fun w' => Below w4.heap.size w4 w') (fun w' h => HBz4.trans (h.mono HBz4.size)) _ _ _ _ ?_)
          have hHeld := Below.refl w4.heap.size w4
          clear hKK K hI4 hbz4 HBz4
          try simp only [Act.put, List.setIfInBounds_toArray, List.set_cons_zero, List.set_cons_succ]
          refine held_take 5 (some 109) (v := .string (strOfNums (pack ((bits + 7) / 8) f0))) rfl rfl (by kernel_rfl) (by kernel_rfl) (by kernel_rfl) (fun _ _ _ h => h) (yieldsIf_conv (by rfl) 37 9 5 _ rfl A4 ((bits + 7) / 8) c4 _ rfl (pack_length _ _) (fun w' h => HI4.out.below h) Try.underlying37 Try.underlying5 Try.underlying9) hHeld ?_
          try simp only [Act.put, List.setIfInBounds_toArray, List.set_cons_zero, List.set_cons_succ]
          have HC4 := Lib.hid (Bytes_m _ _ bits (probes % 31) f0 w4 HG4.out.v1)
          refine wpAnyH_ready (rs := [8]) (by kernel_rfl) (by simp) ?_
          refine AllReadyH.cons rfl (fun K hKK => ?_) AllReadyH.nil
          go_simp
          go_at_call 12
          refine HC4.out.mono ?_
          rintro e w5 ⟨A5, c5, rfl, hI5, _, hbz5⟩
          have HBz5 : Below w4.heap.size w4 w5 := hbz5
          have HI5 := Lib.hid hI5
          have HG5 := Lib.hid (HG4.out.kept (below_grown hbz5 none))
          have HB5 := Lib.hid (HB4.out.trans (HBz5.mono HB4.out.size))
          refine hKK.out _ _ HBz5 (fun _ => held_more (S1 := fun w' => Below w5.heap.size w5 w') (fun w' h => HBz5.trans (h.mono HBz5.size)) _ _ _ _ ?_)
          have hHeld := Below.refl w5.heap.size w5
          clear hKK K hI5 hbz5 HBz5
          try simp only [Act.put, List.setIfInBounds_toArray, List.set_cons_zero, List.set_cons_succ]
          refine held_take 9 (some 113) (v := .string (strOfNums (pack ((bits + 7) / 8) f0))) rfl rfl (by kernel_rfl) (by kernel_rfl) (by kernel_rfl) (fun _ _ _ h => h) (yieldsIf_conv (by rfl) 37 9 5 _ rfl A5 ((bits + 7) / 8) c5 _ rfl (pack_length _ _) (fun w' h => HI5.out.below h) Try.underlying37 Try.underlying5 Try.underlying9) hHeld ?_
          try simp only [Act.put, List.setIfInBounds_toArray, List.set_cons_zero, List.set_cons_succ]
          have HQ5 := Lib.hid (show ∀ w', Below w5.heap.size w5 w' → w'.cell? ⟨w1.heap.size, 0, none⟩ = some (.pointer (some ⟨w1.heap.size + 1 + 1, 0, none⟩)) ∧ w'.cell? ⟨w1.heap.size, 1, none⟩ = some (.pointer (some ⟨w1.heap.size + 1 + 3, 0, none⟩)) ∧ w'.cell? ⟨w1.heap.size, 2, none⟩ = some (.pointer (some ⟨w1.heap.size + 1 + 5, 0, none⟩)) from fun w' hh => by
            have hbk := hh.block w1.heap.size (by have := HG5.out.vlt; omega)
            exact ⟨(World.cell?_of_block (w := w5) hbk).trans HG5.out.ptr.1, (World.cell?_of_block (w := w5) hbk).trans HG5.out.ptr.2.1, (World.cell?_of_block (w := w5) hbk).trans HG5.out.ptr.2.2.1⟩)
          refine held_take 10 (some 114) (v := ?_) rfl rfl (by kernel_rfl) (by kernel_rfl) (by kernel_rfl) (fun _ _ _ h => h) (Or.inl ⟨by rfl, ?_⟩) hHeld ?_
          rotate_left
          · (intro w' hSw; clear hSw; go_simp; try with_reducible rfl)
          try simp only [Act.put, List.setIfInBounds_toArray, List.set_cons_zero, List.set_cons_succ]
          refine held_take 11 (some 115) (v := ?_) rfl rfl (by kernel_rfl) (by kernel_rfl) (by kernel_rfl) (fun _ _ _ h => h) (Or.inl ⟨by rfl, ?_⟩) hHeld ?_
          rotate_left
          · (intro w' hSw; clear hSw; go_simp; try with_reducible rfl)
          try simp only [Act.put, List.setIfInBounds_toArray, List.set_cons_zero, List.set_cons_succ]
          refine held_take 12 (some 116) (v := ?_) rfl rfl (by kernel_rfl) (by kernel_rfl) (by kernel_rfl) (fun _ _ _ h => h) (Or.inl ⟨by rfl, ?_⟩) hHeld ?_
          rotate_left
          · (intro w' hSw; clear hSw; go_simp; try with_reducible rfl)
          try simp only [Act.put, List.setIfInBounds_toArray, List.set_cons_zero, List.set_cons_succ]
          refine held_take 13 (some 117) (v := ?_) rfl rfl (by kernel_rfl) (by kernel_rfl) (by kernel_rfl) (fun _ _ _ h => h) (Or.inl ⟨by rfl, ?_⟩) hHeld ?_
          rotate_left
          · (intro w' hSw; clear hSw; go_simp; try with_reducible rfl)
          try simp only [Act.put, List.setIfInBounds_toArray, List.set_cons_zero, List.set_cons_succ]
          refine held_take 14 (some 118) (v := ?_) rfl rfl (by kernel_rfl) (by kernel_rfl) (by kernel_rfl) (fun _ _ _ h => h) (Or.inl ⟨by rfl, ?_⟩) hHeld ?_
          rotate_left
          · (intro w' hSw; obtain ⟨pf1, pf2, pf3⟩ := HQ5.out w' hSw; clear hSw; go_simp; try with_reducible rfl)
          try simp only [Act.put, List.setIfInBounds_toArray, List.set_cons_zero, List.set_cons_succ]
          refine held_take 17 (some 121) (v := ?_) rfl rfl (by kernel_rfl) (by kernel_rfl) (by kernel_rfl) (fun _ _ _ h => h) (Or.inl ⟨by rfl, ?_⟩) hHeld ?_
          rotate_left
          · (intro w' hSw; clear hSw; go_simp; try with_reducible rfl)
          try simp only [Act.put, List.setIfInBounds_toArray, List.set_cons_zero, List.set_cons_succ]
          refine held_take 18 (some 122) (v := ?_) rfl rfl (by kernel_rfl) (by kernel_rfl) (by kernel_rfl) (fun _ _ _ h => h) (Or.inl ⟨by rfl, ?_⟩) hHeld ?_
          rotate_left
          · (intro w' hSw; obtain ⟨pf1, pf2, pf3⟩ := HQ5.out w' hSw; clear hSw; go_simp; try with_reducible rfl)
          try simp only [Act.put, List.setIfInBounds_toArray, List.set_cons_zero, List.set_cons_succ]
          have HC5 := Lib.hid (Bytes_m _ _ bits (probes % 31) f0 w5 HG5.out.v0)
          refine wpAnyH_ready (rs := [15]) (by kernel_rfl) (by simp) ?_
          refine AllReadyH.cons rfl (fun K hKK => ?_) AllReadyH.nil
          go_simp
          go_at_call 12
          refine HC5.out.mono ?_
          rintro e w6 ⟨A6, c6, rfl, hI6, _, hbz6⟩
          have HBz6 : Below w5.heap.size w5 w6 := hbz6
          have HI6 := Lib.hid hI6
          have HG6 := Lib.hid (HG5.out.kept (below_grown hbz6 none))
          have HB6 := Lib.hid (HB5.out.trans (HBz6.mono HB5.out.size))
          refine hKK.out _ _ HBz6 (fun _ => held_more (S1 := fun w' => Below w6.heap.size w6 w') (fun w' h => HBz6.trans (h.mono HBz6.size)) _ _ _ _ ?_)
          have hHeld := Below.refl w6.heap.size w6
          clear hKK K hI6 hbz6 HBz6
          try simp only [Act.put, List.setIfInBounds_toArray, List.set_cons_zero, List.set_cons_succ]
          refine held_take 16 (some 120) (v := .string (strOfNums (pack ((bits + 7) / 8) f0))) rfl rfl (by kernel_rfl) (by kernel_rfl) (by kernel_rfl) (fun _ _ _ h => h) (yieldsIf_conv (by rfl) 37 9 5 _ rfl A6 ((bits + 7) / 8) c6 _ rfl (pack_length _ _) (fun w' h => HI6.out.below h) Try.underlying37 Try.underlying5 Try.underlying9) hHeld ?_
          try simp only [Act.put, List.setIfInBounds_toArray, List.set_cons_zero, List.set_cons_succ]
          have HC6 := Lib.hid (Bytes_m _ _ bits (probes % 31) f0 w6 HG6.out.v2)
          refine wpAnyH_ready (rs := [19]) (by kernel_rfl) (by simp) ?_
          refine AllReadyH.cons rfl (fun K hKK => ?_) AllReadyH.nil
          go_simp
          go_at_call 12
          refine HC6.out.mono ?_
          rintro e w7 ⟨A7, c7, rfl, hI7, _, hbz7⟩
          have HBz7 : Below w6.heap.size w6 w7 := hbz7
          have HI7 := Lib.hid hI7
          have HG7 := Lib.hid (HG6.out.kept (below_grown hbz7 none))
          have HB7 := Lib.hid (HB6.out.trans (HBz7.mono HB6.out.size))
          refine hKK.out _ _ HBz7 (fun _ => held_more (S1 := fun w' => Below w7.heap.size w7 w') (fun w' h => HBz7.trans (h.mono HBz7.size)) _ _ _ _ ?_)
          have hHeld := Below.refl w7.heap.size w7
          clear hKK K hI7 hbz7 HBz7
          try simp only [Act.put, List.setIfInBounds_toArray, List.set_cons_zero, List.set_cons_succ]
          refine held_take 20 (some 124) (v := .string (strOfNums (pack ((bits + 7) / 8) f0))) rfl rfl (by kernel_rfl) (by kernel_rfl) (by kernel_rfl) (fun _ _ _ h => h) (yieldsIf_conv (by rfl) 37 9 5 _ rfl A7 ((bits + 7) / 8) c7 _ rfl (pack_length _ _) (fun w' h => HI7.out.below h) Try.underlying37 Try.underlying5 Try.underlying9) hHeld ?_
          try simp only [Act.put, List.setIfInBounds_toArray, List.set_cons_zero, List.set_cons_succ]
          refine held_take 21 (some 125) (v := ?_) rfl rfl (by kernel_rfl) (by kernel_rfl) (by kernel_rfl) (fun _ _ _ h => h) (Or.inl ⟨by rfl, ?_⟩) hHeld ?_
          rotate_left
          · (intro w' hSw; clear hSw; go_simp; try with_reducible rfl)
          try simp only [Act.put, List.setIfInBounds_toArray, List.set_cons_zero, List.set_cons_succ]
          refine held_take 22 (some 126) (v := ?_) rfl rfl (by kernel_rfl) (by kernel_rfl) (by kernel_rfl) (fun _ _ _ h => h) (Or.inl ⟨by rfl, ?_⟩) hHeld ?_
          rotate_left
          · (intro w' hSw; clear hSw; go_simp; try with_reducible rfl)
          try simp only [Act.put, List.setIfInBounds_toArray, List.set_cons_zero, List.set_cons_succ]
          refine held_take 23 (some 8) (v := ?_) rfl rfl (by kernel_rfl) (by kernel_rfl) (by kernel_rfl) (fun _ _ _ h => h) (Or.inl ⟨by rfl, ?_⟩) hHeld ?_
          rotate_left
          · (intro w' hSw; clear hSw; go_simp; try with_reducible rfl)
          try simp only [Act.put, List.setIfInBounds_toArray, List.set_cons_zero, List.set_cons_succ]
          refine wpAnyH_done (by kernel_rfl) ?_ _
          go_wp2_with fail
          go_ret
          exact ⟨rfl, hb1.trans (HB7.out.mono hs1)⟩

end Go.Proofs.Yteodhbkhkecigaa
