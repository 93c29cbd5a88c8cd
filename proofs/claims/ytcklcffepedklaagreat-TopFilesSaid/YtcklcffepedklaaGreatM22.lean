/- Texts of the proof, one behind the other: store: what it has, in plain words. cont: how many bytes a container has; its check. cont: check. crc: the sum of bytes, as it is reckoned. crc: bytes with their sum behind them. -/
import Derived.Test.YtcklcffepedklaaGreatM14
import Derived.Test.YtcklcffepedklaaGreatM21
import Derived.Test.YtcklcffepedklaaGreatM02
import Derived.Test.YtcklcffepedklaaGreatM03
namespace Go.Proofs.YtcklcffepedklaaGreat

/-- A chunk: its key, its bytes. -/
abbrev KD := Ky × List Int
/-- How many bytes chunks have. -/
def lenD (l : List KD) : Nat := (l.map (·.2.length)).sum
theorem lenD_snoc (l : List KD) (x : KD) : lenD (l ++ [x]) = lenD l + x.2.length := by simp [lenD]
def updP (P : Nat → List KD) (q : Nat) (l : List KD) : Nat → List KD := fun s => if s = q then l else P s
theorem updP_same (P : Nat → List KD) (q : Nat) (l : List KD) : updP P q l q = l := if_pos rfl
theorem updP_other (P : Nat → List KD) {q s : Nat} (l : List KD) (h : s ≠ q) : updP P q l s = P s := if_neg h
/-- What a chunk may be. -/
structure ChOk (x : KD) : Prop where
  key : x.1.Ok
  byt : Bytes x.2
  pos : 0 < x.2.length
  len : x.2.length ≤ 93
  sum : Dg.digestF x.2 = x.1.sum
/-- What a store has: the chunks in the order in which they came, where they lie, the shelves' chunks, the shelf that is filled. -/
structure StA (E : List KD) (L : List (Ky × (Nat × Nat))) (P : Nat → List KD) (q : Nat) : Prop where
  ok : ∀ x ∈ E, ChOk x
  dat : (E.map (·.2)).Nodup
  len : L.length = E.length
  low : ∀ x ∈ E, x.1.n < cnt L x.1.sum
  all : ∀ d n, n < cnt L d → ∃ x ∈ E, x.1 = ⟨d, n⟩
  at_ : ∀ x ∈ E, ∃ s j, lkp L x.1 = some (s, j) ∧ (P s)[j]? = some x
  of_ : ∀ s j x, (P s)[j]? = some x → x ∈ E ∧ lkp L x.1 = some (s, j)
  sub : ∀ k p, lkp L k = some p → ∃ x ∈ E, x.1 = k
  free : ∀ s, q < s → P s = []
  full : ∀ s, s < q → P s ≠ []
  size : ∀ s, 10 + 38 * (P s).length + lenD (P s) ≤ 508
theorem StA.nil : StA [] [] (fun _ => []) 0 where
  ok x h := by cases h
  dat := List.nodup_nil
  len := rfl
  low x h := by cases h
  all d n h := by simp [cnt] at h
  at_ x h := by cases h
  of_ s j x h := by simp at h
  sub k p h := by cases h
  free s _ := rfl
  full s h := by omega
  size s := by simp [lenD]
section
variable {E : List KD} {L : List (Ky × (Nat × Nat))} {P : Nat → List KD} {q : Nat}
theorem StA.uni (h : StA E L P q) {x y : KD} (hx : x ∈ E) (hy : y ∈ E) (e : x.1 = y.1) : x = y := by
  obtain ⟨s, j, h1, h2⟩ := h.at_ x hx
  obtain ⟨s', j', h3, h4⟩ := h.at_ y hy
  rw [e, h3] at h1
  injection h1 with h1; injection h1 with h5 h6
  rw [h5, h6, h2] at h4
  injection h4
theorem StA.fresh (h : StA E L P q) (d : List Int) : lkp L ⟨d, cnt L d⟩ = none := by
  cases hl : lkp L ⟨d, cnt L d⟩ with
  | none => rfl
  | some p =>
    obtain ⟨x, hx, e⟩ := h.sub _ _ hl
    have := h.low x hx
    rw [e] at this
    exact absurd this (Nat.lt_irrefl _)
theorem StA.lt (h : StA E L P q) {s j : Nat} {x : KD} (hx : (P s)[j]? = some x) : s ≤ q := by
  rcases Nat.lt_or_ge q s with h1 | h1
  · rw [h.free s h1] at hx; simp at hx
  · exact h1
theorem StA.put (h : StA E L P q) (x : KD) (hx : ChOk x) (hn : x.1.n = cnt L x.1.sum) (hd : x.2 ∉ E.map (·.2)) (hs : 10 + 38 * (P q).length + lenD (P q) + (38 + x.2.length) ≤ 508) :
    StA (E ++ [x]) (L ++ [(x.1, (q, (P q).length))]) (updP P q (P q ++ [x])) q := by
  have hfr : lkp L x.1 = none := by
    have e : x.1 = ⟨x.1.sum, cnt L x.1.sum⟩ := by rw [← hn]
    rw [e]; exact h.fresh _
  have hold : ∀ k p, lkp L k = some p → lkp (L ++ [(x.1, (q, (P q).length))]) k = some p := fun k p hk => by rw [lkp_append, hk]; rfl
  have hnew : lkp (L ++ [(x.1, (q, (P q).length))]) x.1 = some (q, (P q).length) := by rw [lkp_append, hfr]; simp [lkp]
  have hcnt := cnt_snoc L x.1 (q, (P q).length)
  refine ⟨fun y hy => ?_, ?_, by simp [h.len], fun y hy => ?_, fun d n hn' => ?_, fun y hy => ?_, fun s j y hy => ?_, fun k p hk => ?_, fun s hs' => ?_, fun s hs' => ?_, fun s => ?_⟩
  · rcases List.mem_append.1 hy with hy | hy
    · exact h.ok y hy
    · rw [List.mem_singleton.1 hy]; exact hx
  · rw [List.map_append, List.nodup_append]
    refine ⟨h.dat, by simp, fun a ha b hb => ?_⟩
    simp at hb
    rintro rfl
    rw [hb] at ha
    exact hd ha
  · rw [hcnt]
    rcases List.mem_append.1 hy with hy | hy
    · have := h.low y hy; omega
    · rw [List.mem_singleton.1 hy, if_pos rfl, hn]; omega
  · rw [hcnt] at hn'
    by_cases e : x.1.sum = d
    · rw [if_pos e] at hn'
      rcases Nat.lt_or_ge n (cnt L d) with h1 | h1
      · obtain ⟨y, hy, e'⟩ := h.all d n h1
        exact ⟨y, List.mem_append_left _ hy, e'⟩
      · refine ⟨x, by simp, ?_⟩
        have h2 : n = x.1.n := by rw [hn, e]; omega
        rw [h2, ← e]
    · rw [if_neg e] at hn'
      obtain ⟨y, hy, e'⟩ := h.all d n (by omega)
      exact ⟨y, List.mem_append_left _ hy, e'⟩
  · rcases List.mem_append.1 hy with hy | hy
    · obtain ⟨s, j, h1, h2⟩ := h.at_ y hy
      refine ⟨s, j, hold _ _ h1, ?_⟩
      by_cases e : s = q
      · rw [e, updP_same]
        rw [e] at h2
        rw [List.getElem?_append_left (by rcases Nat.lt_or_ge j (P q).length with h3 | h3; exact h3; rw [List.getElem?_eq_none h3] at h2; cases h2)]
        exact h2
      · rw [updP_other _ _ e]; exact h2
    · rw [List.mem_singleton.1 hy]
      exact ⟨q, (P q).length, hnew, by rw [updP_same]; simp⟩
  · by_cases e : s = q
    · rw [e, updP_same] at hy
      rw [e]
      rcases Nat.lt_or_ge j (P q).length with h3 | h3
      · rw [List.getElem?_append_left h3] at hy
        obtain ⟨h1, h2⟩ := h.of_ q j y hy
        exact ⟨List.mem_append_left _ h1, hold _ _ h2⟩
      · rw [List.getElem?_append_right h3] at hy
        have h4 : j - (P q).length = 0 := by
          rcases Nat.eq_zero_or_pos (j - (P q).length) with h5 | h5
          · exact h5
          · rw [List.getElem?_eq_none (by simp; omega)] at hy; cases hy
        rw [h4] at hy
        have h5 : j = (P q).length := by omega
        have h6 : y = x := by simp at hy; exact hy.symm
        rw [h6, h5]
        exact ⟨by simp, hnew⟩
    · rw [updP_other _ _ e] at hy
      obtain ⟨h1, h2⟩ := h.of_ s j y hy
      exact ⟨List.mem_append_left _ h1, hold _ _ h2⟩
  · by_cases e : k = x.1
    · exact ⟨x, by simp, e.symm⟩
    · cases hl : lkp L k with
      | none =>
        rw [lkp_append, hl] at hk
        simp only [lkp, Option.none_or] at hk
        rw [if_neg (fun h => e h.symm)] at hk; cases hk
      | some p' =>
        obtain ⟨y, hy, e'⟩ := h.sub k p' hl
        exact ⟨y, List.mem_append_left _ hy, e'⟩
  · rw [updP_other _ _ (by omega)]; exact h.free s hs'
  · rw [updP_other _ _ (by omega)]; exact h.full s hs'
  · by_cases e : s = q
    · rw [e, updP_same, lenD_snoc, List.length_append, List.length_singleton]; omega
    · rw [updP_other _ _ e]; exact h.size s
theorem StA.sealed (h : StA E L P q) (hq : P q ≠ []) : StA E L P (q + 1) :=
  ⟨h.ok, h.dat, h.len, h.low, h.all, h.at_, h.of_, h.sub, fun s hs => h.free s (by omega), fun s hs => by
    rcases Nat.lt_or_ge s q with h1 | h1
    · exact h.full s h1
    · obtain rfl : s = q := by omega
      exact hq, h.size⟩
theorem StA.keys (h : StA E L P q) (s : Nat) : ((P s).map (·.1)).Nodup := by
  rw [List.nodup_iff_pairwise_ne, List.pairwise_iff_getElem]
  intro i j hi hj hij e
  rw [List.length_map] at hi hj
  rw [List.getElem_map, List.getElem_map] at e
  obtain ⟨_, h1⟩ := h.of_ s i _ (List.getElem?_eq_getElem hi)
  obtain ⟨_, h2⟩ := h.of_ s j _ (List.getElem?_eq_getElem hj)
  rw [e, h2] at h1
  injection h1 with h1; injection h1 with _ h1
  omega
end
end Go.Proofs.YtcklcffepedklaaGreat

namespace Go.Proofs.YtcklcffepedklaaGreat
open Go.RowKit

set_option maxRecDepth 20000 in
set_option maxHeartbeats 800000 in
theorem Size_any (A : Option Addr) (n c : Nat) (L : List Pc) (w : World) (hn : L.length = n) (hl : n ≤ 1000000000) (hd : lenP L ≤ 1000000000000) (hP : PcAt w A L) :
    Calls Tryz.prog 33 #[.slice A n c] w fun e w' => e = .returned (.int .i64 (10 + 38 * n + lenP L : Nat)) ∧ Below w.heap.size w w' := by
  have HN := Lib.hid hn
  have HP := Lib.hid hP
  have HD := Lib.hid hd
  have hzz : ∀ W, (zeroValue 105).run Tryz.prog W = .ok (.agg zP) W := zeroP
  have HZ := Lib.hid hzz
  clear hn hP hzz hd
  go_enter Tryz.func33, Tryz.ntmps33
  go_wp2_with fail
  go_loopg [3, 12] n (fun kq v3 v12 w' => ∃ i : Nat, v12 = .int .i64 (i : Int) ∧ i + kq = n ∧ v3 = .int .i64 ((10 + 38 * n + lenP (L.take i) : Nat) : Int) ∧ Below w.heap.size w w')
  case atStart => exact ⟨0, rfl, by omega, by go_num, Below.refl _ _⟩
  case round =>
    obtain ⟨i, rfl, hi, rfl, hb⟩ := hrel
    have HBB := Lib.hid hb
    by_cases hlt : i < n
    · obtain ⟨p, g, hp, rfl, hr, hok⟩ := (HP.out.below hb).get (i := i) (by rw [HN.out]; exact hlt)
      have HT := Lib.hid (lenP_take hp)
      have HLE := Lib.hid (lenP_le L (i + 1))
      have HOK := Lib.hid hok
      have HR := Lib.hid hr
      have i1 : (i : Int) < (n : Int) := by omega
      have hq : lenP (L.take i) + p.data.length ≤ 1000000000000 := by have := HLE.out; have := HD.out; have := HT.out; omega
      obtain ⟨q, hq2⟩ : ∃ q, lenP (L.take i) = q := ⟨_, rfl⟩
      have HQ := Lib.hid hq2
      rw [hq2] at hq ⊢
      clear hr hok hlt hq2 hb
      go_wp2_with (first | (with_reducible refine Go.wpList_load_mid rfl 105 _ rfl g (i * 34) rfl p.cells _ HR.out Tryz.underlying105 rfl (sizeP HOK.out.key) ?_) | (with_reducible refine wpList_fresh rfl rfl 105 rfl _ _ rfl p.cells.toArray zP (fun _ => rfl) (fun _ => rfl) HZ.out (sizePA HOK.out.key) (zP_size HOK.out.key) (all_one (Pc.cells_one p)) ?_; intro g1 w1 hg1 hr1 hb1; have c33 := row_at hr1.out (Pc.cells_33 HOK.out.key)))
      have HB1 := Lib.hid (HBB.out.trans (hb1.out.mono HBB.out.size))
      go_roundg (n - (i + 1))
      case measure => omega
      case rel => exact ⟨i + 1, by go_num, by omega, by rw [HT.out, HQ.out]; go_num, HB1.out⟩
    · obtain rfl : i = n := by omega
      rw [show L.take i = L from List.take_of_length_le (by rw [HN.out]; exact Nat.le_refl _)]
      obtain ⟨z, hz⟩ : ∃ z, 10 + 38 * i + lenP L = z := ⟨_, rfl⟩
      have HZ2 := Lib.hid hz
      rw [hz]
      clear hz
      clear hb hlt
      go_wp2_with fail
      go_ret
      exact ⟨by rw [HZ2.out]; rfl, HBB.out⟩
end Go.Proofs.YtcklcffepedklaaGreat

namespace Go.Proofs.YtcklcffepedklaaGreat
open Go.RowKit Go.Maps

/-- Pieces that may be a container's. -/
structure PcOk (L : List Pc) : Prop where
  num : L.length ≤ 1000
  some_ : ∀ p ∈ L, 0 < p.data.length ∧ p.data.length ≤ 4096
  size : 10 + 38 * L.length + lenP L ≤ 65536
  nodup : (L.map (·.key)).Nodup
/-- The keys of the first pieces. -/
def seenP (L : List Pc) : List (Ky × Value) := L.map fun p => (p.key, .bool true)
theorem seen_none {L : List Pc} {i : Nat} {p : Pc} (hn : (L.map (·.key)).Nodup) (h : L[i]? = some p) : lkp (seenP (L.take i)) p.key = none := by
  apply lkp_none
  intro x hx
  obtain ⟨q, hq, rfl⟩ := List.mem_map.1 hx
  obtain ⟨j, hj⟩ := List.mem_iff_getElem?.1 hq
  rw [List.getElem?_take] at hj
  split at hj
  · rename_i hji
    intro e
    have h1 : (L.map (·.key))[j]? = some q.key := by rw [List.getElem?_map, hj]; rfl
    have h2 : (L.map (·.key))[i]? = some p.key := by rw [List.getElem?_map, h]; rfl
    have e' : q.key = p.key := e
    rw [e'] at h1
    have := (List.getElem?_inj (by rcases Nat.lt_or_ge j (L.map (·.key)).length with h | h; exact h; rw [List.getElem?_eq_none h] at h1; cases h1) hn).1 (h1.trans h2.symm)
    omega
  · cases hj
theorem seen_next {L : List Pc} {i : Nat} {p : Pc} (hn : (L.map (·.key)).Nodup) (h : L[i]? = some p) : upd (seenP (L.take i)) p.key (.bool true) = seenP (L.take (i + 1)) := by
  rw [upd_new (seen_none hn h), List.take_add_one, h]
  simp [seenP]

theorem zero4 (w : World) : (zeroValue 4).run Tryz.prog w = .ok (.bool false) w := by kernel_rfl
set_option maxRecDepth 20000 in
set_option maxHeartbeats 1600000 in
theorem check_any (A : Option Addr) (n c : Nat) (L : List Pc) (w : World) (hn : L.length = n) (hP : PcAt w A L) (hO : PcOk L) :
    Calls Tryz.prog 46 #[.slice A n c] w fun e w' => e = .returned (.int .i64 0) ∧ Below w.heap.size w w' := by
  have HN := Lib.hid hn
  have HP := Lib.hid hP
  have HO := Lib.hid hO
  have hnum := hO.num
  rw [hn] at hnum
  have HZ := Lib.hid (show ∀ W, (zeroValue 105).run Tryz.prog W = .ok (.agg zP) W from zeroP)
  have HSZ := Lib.hid (fun (W : World) (hb : Below w.heap.size w W) => Size_any A n c L W hn (by omega) (by have := hO.size; omega) (hP.below hb))
  have HSL := Lib.hid (show 10 + 38 * n + lenP L ≤ 65536 from by have := hO.size; omega)
  have HMK := Lib.hid (show ∀ W : World, MapAt Ky.val Ky.Ok (W.alloc (.map #[] 0)) W.heap.size (seenP (L.take 0)) from fun W => by rw [List.take_zero]; exact MapAt.made W)
  have hmk := run_make_hint Tryz.underlying159 .i64
  clear hn hP hO
  go_enter Tryz.func46, Tryz.ntmps46
  have h1000 : ¬ 1000 < (n : Int) := by omega
  go_wp2_with fail
  go_loopg [3, 14] n (fun kq v3 v14 w' => ∃ i : Nat, v14 = .int .i64 (i : Int) ∧ i + kq = n ∧ v3 = .bool false ∧ Below w.heap.size w w')
  case atStart => exact ⟨0, rfl, by omega, by simp [h1000], Below.refl _ _⟩
  case round =>
    obtain ⟨i, rfl, hi, rfl, hb⟩ := hrel
    have HBB := Lib.hid hb
    by_cases hlt : i < n
    · obtain ⟨p, g, hp, rfl, hr, hok⟩ := (HP.out.below hb).get (i := i) (by rw [HN.out]; exact hlt)
      obtain ⟨hd0, hd1⟩ := HO.out.some_ p (List.mem_of_getElem? hp)
      have HOK := Lib.hid hok
      have HR := Lib.hid hr
      have i1 : (i : Int) < (n : Int) := by omega
      obtain ⟨q, hq⟩ : ∃ q, p.data.length = q := ⟨_, rfl⟩
      have HQ := Lib.hid hq
      rw [hq] at hd0 hd1
      have hq0 : ((q : Int) == 0) = false := by simp; omega
      have hq1 : ¬ 4096 < (q : Int) := by omega
      clear hr hok hlt hq hb h1000
      go_wp2_with (first | (with_reducible refine Go.wpList_load_mid rfl 105 _ rfl g (i * 34) rfl (p).cells _ HR.out Tryz.underlying105 rfl (sizeP HOK.out.key) ?_) | ((with_reducible refine wpList_fresh rfl rfl 105 rfl _ _ rfl (p).cells.toArray zP (fun _ => rfl) (fun _ => rfl) HZ.out (sizePA HOK.out.key) (zP_size HOK.out.key) (all_one (Pc.cells_one p)) ?_; intro g1 w1 hg1 hr1 hb1); have c33 := row_at hr1.out (Pc.cells_33 HOK.out.key); rw [HQ.out] at c33))
      have HB1 := Lib.hid (HBB.out.trans (hb1.out.mono HBB.out.size))
      go_roundg (n - (i + 1))
      case measure => omega
      case rel => exact ⟨i + 1, by go_num, by omega, rfl, HB1.out⟩
    · obtain rfl : i = n := by omega
      have HS2 := Lib.hid (HSZ.out _ hb)
      have HL := HSL.out
      obtain ⟨z, hz⟩ : ∃ z, 10 + 38 * i + lenP L = z := ⟨_, rfl⟩
      rw [hz] at HS2 HL
      have hz1 : ¬ 65536 < (z : Int) := by omega
      clear hb hlt hz h1000
      go_wp2_with (go_at_call 33; refine HS2.out.mono ?_; rintro e w2 ⟨rfl, hb2⟩)
      have HB2 := Lib.hid (HBB.out.trans (hb2.mono HBB.out.size))
      have HM := Lib.hid (HMK.out w2)
      have HB3 := Lib.hid (HB2.out.alloc HB2.out.size (.map #[] 0))
      obtain ⟨m, hm⟩ : ∃ m, m = w2.heap.size := ⟨_, rfl⟩
      have HG := Lib.hid (show w.heap.size ≤ m by have := HB2.out.size; omega)
      rw [← hm] at HM ⊢
      generalize w2.alloc (.map #[] 0) = w3 at *
      clear hb2 hm hmk
      go_loopg [41] i (fun kq v41 w' => ∃ j : Nat, v41 = .int .i64 (j : Int) ∧ j + kq = i ∧ MapAt Ky.val Ky.Ok w' m (seenP (L.take j)) ∧ Below w.heap.size w w')
      case atStart => exact ⟨0, rfl, by omega, HM.out, HB3.out⟩
      case round =>
        obtain ⟨j, rfl, hj, hM, hb⟩ := hrel
        have HBB := Lib.hid hb
        by_cases hlt : j < i
        · obtain ⟨p, g, hp, rfl, hr, hok⟩ := (HP.out.below hb).get (i := j) (by rw [HN.out]; exact hlt)
          have HOK := Lib.hid hok
          have HKO := Lib.hid hok.key
          have HR := Lib.hid hr
          have HNX := Lib.hid (seen_next HO.out.nodup hp)
          have HNN := Lib.hid (seen_none HO.out.nodup hp)
          have HMM := Lib.hid hM
          have j1 : (j : Int) < (i : Int) := by omega
          clear hr hok hlt hb hM
          go_upto_region 15 with (first | (with_reducible refine Go.wpList_load_mid rfl 105 _ rfl g (j * 34) rfl (p).cells _ HR.out Tryz.underlying105 rfl (sizeP HOK.out.key) ?_) | (with_reducible refine wpList_fresh rfl rfl 105 rfl _ _ rfl (p).cells.toArray zP (fun _ => rfl) (fun _ => rfl) HZ.out (sizePA HOK.out.key) (zP_size HOK.out.key) (all_one (Pc.cells_one p)) ?_; intro g1 w1 hg1 hr1 hb1))
          have HKR := Lib.hid (show w1.rangeAt g1 0 p.key.cells by rw [← Pc.cells_take HKO.out]; exact range_take (range_row hr1.out) 33)
          have hM1 := HMM.out.below hb1.out
          have HLK := Lib.hid (run_lkp keyK Tryz.underlying159 hM1 p.key HKO.out (.bool false) (zero4 w1) false)
          rw [HNN.out] at HLK
          obtain ⟨w5, hup, hgr, hM5, _⟩ := run_upd keyK Tryz.underlying159 hM1 p.key HKO.out (.bool true)
          have HUP := Lib.hid hup
          rw [HNX.out] at hM5
          have HM5 := Lib.hid hM5
          have HB5 := Lib.hid (((HBB.out.trans (hb1.out.mono HBB.out.size))).grown hgr (by have := HBB.out.size; have := hb1.out.size; omega) (fun k hk => by injection hk with hk; rw [← hk]; exact HG.out))
          clear hM1 hup hgr hM5 HNN HNX
          go_wp2_with (first | (with_reducible refine Go.wpList_load_mid rfl 64 _ rfl g1 (0) rfl (p.key).cells _ HKR.out Tryz.underlying64 rfl (sizeK HKO.out) ?_) | (at_lookup; refine wpList_lkp rfl _ _ _ _ rfl _ _ _ rfl rfl HLK.out ?_) | (at_mapUpdate; refine wpList_upd rfl _ _ _ _ rfl _ _ _ rfl rfl rfl HUP.out ?_))
          trace_state
          go_roundg (i - (j + 1))
          case measure => omega
          case rel => exact ⟨j + 1, by go_num, by omega, HM5.out, HB5.out⟩
        · obtain rfl : j = i := by omega
          clear hM hlt hb
          go_wp2_with fail
          go_ret
          exact ⟨rfl, HBB.out⟩
end Go.Proofs.YtcklcffepedklaaGreat

namespace Go.Proofs.YtcklcffepedklaaGreat
open Go.RowKit

/-- A word of 32 bits. -/
def U32 (x : Int) : Prop := 0 ≤ x ∧ x < 4294967296
theorem U32_bits (op : BinOp) (x y : Int) : U32 (Go.bits op .u32 x y) := by
  obtain ⟨z, h⟩ : ∃ z, Go.bits op .u32 x y = IntKind.u32.wrap z := by cases op <;> exact ⟨_, rfl⟩
  rw [h, IntKind.wrap_u32]
  exact ⟨by omega, by omega⟩
theorem U8_bits (op : BinOp) (x y : Int) : 0 ≤ Go.bits op .u8 x y ∧ Go.bits op .u8 x y < 256 := by
  obtain ⟨z, h⟩ : ∃ z, Go.bits op .u8 x y = IntKind.u8.wrap z := by cases op <;> exact ⟨_, rfl⟩
  rw [h, IntKind.wrap_u8]
  exact ⟨by omega, by omega⟩
/-- A move. -/
def crcB (r : Int) : Int := Go.bits .xor .u32 (r * 2 % 4294967296) (79764919 * (r / 2147483648))
def crcI : Nat → Int → Int
  | 0, r => r
  | k + 1, r => crcI k (crcB r)
/-- What a byte comes to. -/
def stepI (c : Int) : Int := crcI 8 (c * 16777216)
theorem U32_crcI : ∀ k r, U32 r → U32 (crcI k r)
  | 0, _, h => h
  | k + 1, _, _ => U32_crcI k _ (U32_bits _ _ _)
theorem U32_step (c : Int) (h0 : 0 ≤ c) (h1 : c < 256) : U32 (stepI c) := U32_crcI 8 _ ⟨by omega, by omega⟩

set_option maxRecDepth 20000 in
theorem step_any (c : Int) (w : World) (h0 : 0 ≤ c) (h1 : c < 256) : Calls Tryz.prog 131 #[.int .u8 c] w fun e w' => e = .returned (.int .u32 (stepI c)) ∧ w = w' := by
  go_enter Tryz.func131, Tryz.ntmps131
  go_wp2_with fail
  go_loopg [3, 8] 8 (fun kq v3 v8 w' => ∃ (i : Nat) (r : Int), v8 = .int .i64 (i : Int) ∧ i + kq = 8 ∧ v3 = .int .u32 r ∧ U32 r ∧ Hid (crcI kq r = stepI c) ∧ w = w')
  case atStart => exact ⟨0, c * 16777216, rfl, rfl, by go_num, ⟨by omega, by omega⟩, Lib.hid rfl, rfl⟩
  case round =>
    obtain ⟨i, r, rfl, hi, rfl, ⟨hr0, hr1⟩, HZ, rfl⟩ := hrel
    cases gk with
    | zero =>
      have HE := Lib.hid (show r = stepI c from HZ.out)
      obtain rfl : i = 8 := by omega
      clear HZ
      go_wp2_with fail
      go_ret
      exact ⟨by rw [HE.out]; rfl, rfl⟩
    | succ k =>
      have HE := Lib.hid (show crcI k (crcB r) = stepI c from HZ.out)
      have i1 : (i : Int) < 8 := by omega
      have HB := Lib.hid (show U32 (crcB r) from U32_bits _ _ _)
      clear HZ
      go_wp2_with fail
      go_roundg k
      case measure => omega
      case rel => exact ⟨i + 1, crcB r, by go_num, by omega, rfl, HB.out, HE, rfl⟩

/-- The words as cells. -/
def cells32 (l : List Int) : Array Value := (l.map (Value.int .u32)).toArray
theorem cells32_size (l : List Int) : (cells32 l).size = l.length := by simp [cells32]
theorem cells32_get (l : List Int) (k : Nat) (h : k < l.length) : (cells32 l)[k]? = some (.int .u32 (l.getD k 0)) := by
  unfold cells32
  rw [List.getElem?_toArray, List.getElem?_map, List.getD_eq_getElem?_getD, List.getElem?_eq_getElem h]; rfl
theorem cells32_set (l : List Int) (k : Nat) (x : Int) : (cells32 l).setIfInBounds k (.int .u32 x) = cells32 (l.set k x) := by
  unfold cells32
  rw [List.setIfInBounds_toArray, List.map_set]
/-- The table, as far as it is laid. -/
def tabL : Nat → List Int
  | 0 => List.replicate 256 0
  | i + 1 => (tabL i).set i (stepI i)
theorem tabL_length : ∀ i, (tabL i).length = 256
  | 0 => List.length_replicate
  | i + 1 => by rw [tabL, List.length_set]; exact tabL_length i
theorem tabL_get : ∀ i, i ≤ 256 → ∀ j, j < i → (tabL i).getD j 0 = stepI j
  | 0, _, j, hj => by omega
  | i + 1, hi, j, hj => by
    rw [tabL, List.getD_eq_getElem?_getD, List.getElem?_set]
    by_cases e : i = j
    · subst e
      rw [if_pos rfl, if_pos (by rw [tabL_length]; omega)]; rfl
    · rw [if_neg e, ← List.getD_eq_getElem?_getD, tabL_get i (by omega) j (by omega)]

theorem Tryz.info_tab : (Tryz.prog.info? 242).map (fun i => (i.zero, i.size, i.bytes)) = some (some (.agg (cells32 (tabL 0))), 256, 1024) := by kernel_rfl
theorem zero_tab (w : World) : (zeroValue 242).run Tryz.prog w = .ok (.agg (cells32 (tabL 0))) w := by
  obtain ⟨i0, hi, hz0, _, _⟩ := info_parts Tryz.info_tab
  simp [zeroValue, typeInfo, hi, hz0]

set_option maxRecDepth 20000 in
theorem table_any (w : World) : Calls Tryz.prog 132 #[] w fun e w' => ∃ g, e = .returned (.pointer (some ⟨g, 0, none⟩)) ∧ w.heap.size ≤ g ∧ w'.heap[g]? = some (.cells (cells32 (tabL 256)) 242 (0, 0)) ∧ Below w.heap.size w w' := by
  have HR := Lib.hid (heap_alloc_last w (.cells (cells32 (tabL 0)) 242))
  have HB := Lib.hid ((Below.refl w.heap.size w).alloc (Nat.le_refl _) (.cells (cells32 (tabL 0)) 242))
  have hz : ∀ W, (zeroValue 242).run Tryz.prog W = .ok (.agg (cells32 (tabL 0))) W := zero_tab
  obtain ⟨Z, hZ⟩ : ∃ Z, Z = cells32 (tabL 0) := ⟨_, rfl⟩
  rw [← hZ] at HR HB hz
  have HZ := Lib.hid hZ
  clear hZ
  go_enter Tryz.func132, Tryz.ntmps132
  go_wp2_with fail
  obtain ⟨g, hg⟩ : ∃ g, g = w.heap.size := ⟨_, rfl⟩
  rw [← hg] at HR ⊢
  have HG := Lib.hid (show w.heap.size ≤ g by omega)
  clear hg
  generalize w.alloc (.cells Z 242) = w1 at *
  go_loopg [3] 256 (fun kq v3 w' => ∃ i : Nat, v3 = .int .i64 (i : Int) ∧ i + kq = 256 ∧ w'.heap[g]? = some (.cells (cells32 (tabL i)) 242 (0, 0)) ∧ Below w.heap.size w w')
  case atStart => exact ⟨0, rfl, rfl, by rw [HR.out, HZ.out], HB.out⟩
  case round =>
    obtain ⟨i, rfl, hi, hrow, hb⟩ := hrel
    have HRW := Lib.hid hrow
    have HBB := Lib.hid hb
    by_cases hlt : i < 256
    · have HS := Lib.hid (fun W => step_any (i : Int) W (by omega) (by omega))
      have i1 : (i : Int) < 256 := by omega
      have f1 := free_row hrow i
      have hc : wr.cell? ⟨g, i, none⟩ = some (.int .u32 ((tabL i).getD i 0)) := by rw [cell_of_row _ _ _ _ _ _ hrow, cells32_get _ _ (by rw [tabL_length]; omega)]
      have HN := Lib.hid (show (wr.setCell ⟨g, i, none⟩ (.int .u32 (stepI i))).heap[g]? = some (.cells (cells32 (tabL (i + 1))) 242 (0, 0)) by rw [setCell_row hrow, cells32_set]; rfl)
      have HBN := Lib.hid (show Below w.heap.size w (wr.setCell ⟨g, i, none⟩ (.int .u32 (stepI i))) from hb.grown (grown_setCell _ _ _ _) hb.size (fun k hk => by injection hk with hk; rw [← hk]; exact HG.out))
      clear hrow hb hlt
      go_wp2_with (go_at_call 131; refine (HS.out _).mono ?_; rintro e w' ⟨rfl, rfl⟩)
      go_roundg (256 - (i + 1))
      case measure => omega
      case rel => exact ⟨i + 1, by go_num, by omega, HN.out, HBN.out⟩
    · obtain rfl : i = 256 := by omega
      clear hrow hb hlt
      go_wp2_with fail
      go_ret
      exact ⟨g, rfl, HG.out, HRW.out, HBB.out⟩

/-- A byte comes to a sum. -/
def crcN (r c : Int) : Int := Go.bits .xor .u32 (r * 256 % 4294967296) (stepI (Go.bits .xor .u8 (r / 16777216) c))
def not32 (x : Int) : Int := Go.bits .xor .u32 IntKind.u32.max x
/-- The sum of bytes. -/
def sumI (l : List Int) : Int := not32 (l.foldl crcN (not32 0))
theorem crcN_U (r c : Int) : U32 (crcN r c) := U32_bits _ _ _
theorem sumI_U (l : List Int) : U32 (sumI l) := by unfold sumI not32; exact U32_bits _ _ _

set_option maxRecDepth 20000 in
set_option maxHeartbeats 800000 in
theorem More_any (A : Option Addr) (n c : Nat) (l : List Int) (w : World) (hn : l.length = n) (hl : n ≤ 500000000000) (hI : Ints .u8 w A l) (hB : Bytes l) :
    Calls Tryz.prog 98 #[.int .u32 0, .slice A n c] w fun e w' => e = .returned (.int .u32 (sumI l)) ∧ Below w.heap.size w w' := by
  have HN := Lib.hid hn
  have HI := Lib.hid hI
  have HB := Lib.hid hB
  have hsg : IntKind.u32.signed = false := rfl
  clear hn hI hB
  by_cases h64 : n < 64
  · have h64' : (n : Int) < 64 := by omega
    go_enter Tryz.func98, Tryz.ntmps98
    go_wp2_with fail
    go_loopg [5, 18] n (fun kq v5 v18 w' => ∃ (i : Nat) (r : Int), v18 = .int .i64 (i : Int) ∧ i + kq = n ∧ v5 = .int .u32 r ∧ U32 r ∧ Hid ((l.take i).foldl crcN (not32 0) = r) ∧ w = w')
    case atStart => exact ⟨0, not32 0, rfl, by omega, rfl, U32_bits _ _ _, Lib.hid rfl, rfl⟩
    case round =>
      obtain ⟨i, r, rfl, hi, rfl, ⟨hr0, hr1⟩, HZ, rfl⟩ := hrel
      by_cases hlt : i < n
      · obtain ⟨ad, rfl, hc⟩ := HI.out i (by rw [HN.out]; exact hlt)
        obtain ⟨hb0, hb1⟩ := HB.out i
        have HZ' := Lib.hid (show (l.take (i + 1)).foldl crcN (not32 0) = crcN r (l.getD i 0) by rw [take_getD l i (by rw [HN.out]; exact hlt), List.foldl_append, HZ.out]; rfl)
        have i1 : (i : Int) < (n : Int) := by omega
        obtain ⟨hx0, hx1⟩ := U8_bits .xor (r / 16777216) (l.getD i 0)
        have HS := Lib.hid (fun W => step_any (Go.bits .xor .u8 (r / 16777216) (l.getD i 0)) W hx0 hx1)
        have HU := Lib.hid (crcN_U r (l.getD i 0))
        clear hlt
        go_wp2_with (go_at_call 131; refine (HS.out _).mono ?_; rintro e w' ⟨rfl, rfl⟩)
        go_roundg (n - (i + 1))
        case measure => omega
        case rel => exact ⟨i + 1, _, by go_num, by omega, rfl, HU.out, HZ', rfl⟩
      · have hin : i = n := by omega
        subst hin
        have HE := Lib.hid (show not32 r = sumI l by rw [← HZ.out, List.take_of_length_le (by rw [HN.out]; exact Nat.le_refl _)]; rfl)
        clear hlt
        go_wp2_with fail
        go_ret
        exact ⟨by rw [← HE.out]; rfl, Below.refl _ _⟩
  · have h64' : (64 : Int) ≤ (n : Int) := by omega
    have HT := Lib.hid (table_any w)
    go_enter Tryz.func98, Tryz.ntmps98
    go_wp2_with (go_at_call 132; refine HT.out.mono ?_; rintro e w' ⟨g, rfl, hg, hrow, hb⟩)
    have HRW := Lib.hid hrow
    have HBB := Lib.hid hb
    have HI2 := Lib.hid (HI.out.below hb)
    clear hrow hb hg HT HI
    go_loopg [5, 37] n (fun kq v5 v37 w9 => ∃ (i : Nat) (r : Int), v37 = .int .i64 (i : Int) ∧ i + kq = n ∧ v5 = .int .u32 r ∧ U32 r ∧ Hid ((l.take i).foldl crcN (not32 0) = r) ∧ w' = w9)
    case atStart => exact ⟨0, not32 0, rfl, by omega, rfl, U32_bits _ _ _, Lib.hid rfl, rfl⟩
    case round =>
      obtain ⟨i, r, rfl, hi, rfl, ⟨hr0, hr1⟩, HZ, rfl⟩ := hrel
      by_cases hlt : i < n
      · obtain ⟨ad, rfl, hc⟩ := HI2.out i (by rw [HN.out]; exact hlt)
        obtain ⟨hb0, hb1⟩ := HB.out i
        have HZ' := Lib.hid (show (l.take (i + 1)).foldl crcN (not32 0) = crcN r (l.getD i 0) by rw [take_getD l i (by rw [HN.out]; exact hlt), List.foldl_append, HZ.out]; rfl)
        have i1 : (i : Int) < (n : Int) := by omega
        obtain ⟨hx0, hx1⟩ := U8_bits .xor (r / 16777216) (l.getD i 0)
        have HU := Lib.hid (crcN_U r (l.getD i 0))
        generalize l.getD i 0 = x at *
        obtain ⟨z, hz⟩ : ∃ z : Nat, Go.bits .xor .u8 (r / 16777216) x = z := ⟨(Go.bits .xor .u8 (r / 16777216) x).toNat, by omega⟩
        have hz1 : z < 256 := by omega
        have hct : w'.cell? ⟨g, z, none⟩ = some (.int .u32 (stepI z)) := by
          rw [cell_of_row _ _ _ _ _ _ HRW.out, cells32_get _ _ (by rw [tabL_length]; omega), tabL_get 256 (by omega) _ (by omega)]
        have HC := Lib.hid (show Go.bits .xor .u32 (r * 256 % 4294967296) (stepI z) = crcN r x by unfold crcN; rw [hz])
        clear hx0 hx1 hlt
        go_wp2_with fail
        go_roundg (n - (i + 1))
        case measure => omega
        case rel => exact ⟨i + 1, _, by go_num, by omega, by rw [HC.out], HU.out, HZ', rfl⟩
      · have hin : i = n := by omega
        subst hin
        have HE := Lib.hid (show not32 r = sumI l by rw [← HZ.out, List.take_of_length_le (by rw [HN.out]; exact Nat.le_refl _)]; rfl)
        clear hlt
        go_wp2_with fail
        go_ret
        exact ⟨by rw [← HE.out]; rfl, HBB.out⟩
end Go.Proofs.YtcklcffepedklaaGreat

namespace Go.Proofs.YtcklcffepedklaaGreat
open Go.RowKit

theorem CSum_any (A : Option Addr) (n c : Nat) (l : List Int) (w : World) (hn : l.length = n) (hl : n ≤ 500000000000) (hI : Ints .u8 w A l) (hB : Bytes l) :
    Calls Tryz.prog 71 #[.slice A n c] w fun e w' => e = .returned (.int .u32 (sumI l)) ∧ Below w.heap.size w w' := by
  have HM := Lib.hid (More_any A n c l w hn hl hI hB)
  clear hn hl hI hB
  go_enter Tryz.func71, Tryz.ntmps71
  go_wp2_with (go_at_call 98; refine HM.out.mono ?_; rintro e w' ⟨rfl, hb⟩)
  go_ret
  exact ⟨rfl, hb⟩
/-- Bytes with their sum behind them. -/
def sealL (l : List Int) : List Int := l ++ beL (sumI l).toNat 4
theorem sealL_length (l : List Int) : (sealL l).length = l.length + 4 := by rw [sealL, List.length_append, beL_length]
theorem sealL_bytes {l : List Int} (h : Bytes l) : Bytes (sealL l) := h.append (beL_bytes _ _)
theorem Seal_any (A : Option Addr) (n c : Nat) (l : List Int) (w : World) (hn : l.length = n) (hl : n ≤ 500000000000) (hI : Ints .u8 w A l) (hB : Bytes l) :
    Calls Tryz.prog 48 #[.slice A n c] w (NewRow (sealL l) w) := by
  have HM := Lib.hid (CSum_any A n c l w hn hl hI hB)
  obtain ⟨h0, h1⟩ := sumI_U l
  have HP := Lib.hid (fun (W : World) (hb : Below w.heap.size w W) => Put_any A n c l (sumI l).toNat 4 W hn hl (hI.below hb) (by omega) (by decide) (by decide))
  obtain ⟨s, hs⟩ : ∃ s : Nat, sumI l = s := ⟨(sumI l).toNat, by omega⟩
  have HS := Lib.hid (show sealL l = l ++ beL s 4 by rw [sealL, hs]; rfl)
  rw [hs] at HM HP
  rw [Int.toNat_natCast] at HP
  have hs1 : s < 4294967296 := by omega
  clear hn hI hB h0 h1 hs
  go_enter Tryz.func48, Tryz.ntmps48
  go_wp2_with (first | (go_at_call 71; refine HM.out.mono ?_; rintro e w1 ⟨rfl, hb⟩) | (go_at_call 47; refine (HP.out _ hb).mono ?_; rintro e w' ⟨v, rfl, ho, hb2⟩))
  go_ret
  exact ⟨v, rfl, by rw [HS.out]; exact ho.base hb.size, below_trans hb hb2 hb.size⟩

set_option maxRecDepth 20000 in
set_option maxHeartbeats 800000 in
theorem Open_yes (A : Option Addr) (n c : Nat) (l : List Int) (w : World) (hn : l.length + 4 = n) (hnc : n ≤ c) (hl : n ≤ 500000000000) (hI : Ints .u8 w A (sealL l)) (hB : Bytes l) :
    Calls Tryz.prog 139 #[.slice A n c] w fun e w' => ∃ v, e = .returned (.tuple #[v, .bool true]) ∧ OwnB w' w.heap.size v l ∧ Below w.heap.size w w' := by
  obtain ⟨m, hm⟩ : ∃ m, l.length = m := ⟨_, rfl⟩
  obtain rfl : n = m + 4 := by omega
  obtain ⟨h0, h1⟩ := sumI_U l
  obtain ⟨s, hs⟩ : ∃ s : Nat, sumI l = s := ⟨(sumI l).toNat, by omega⟩
  have HS := Lib.hid hs
  have hse : sealL l = l ++ beL s 4 := by rw [sealL, hs]; rfl
  obtain ⟨ad, rfl, _⟩ := hI 0 (by rw [sealL_length]; omega)
  rw [hse] at hI
  have hIL : Ints .u8 w (some ad) l := by have := hI.take m; rwa [List.take_append_of_le_length (by omega), List.take_of_length_le (by omega)] at this
  have hIR : Ints .u8 w (some (ad.add m)) (beL s 4) := by have := hI.drop m; rwa [List.drop_append_of_le_length (by omega), List.drop_of_length_le (by omega), List.nil_append] at this
  have HIL := Lib.hid hIL
  have HB := Lib.hid hB
  have HRN := Lib.hid (fun (W : World) (hb : Below w.heap.size w W) => RNew_any (some (ad.add m)) 4 (c - m) (beL s 4) W (beL_length _ _) (by omega) (hIR.below hb) (beL_bytes _ _) (fun h => by cases h))
  have hne : ¬ c = m := by omega
  have hle1 : (m : Int) ≤ (m : Int) + 4 := by omega
  have hle2 : m ≤ c := by omega
  have hwr : IntKind.u64.wrap (s : Int) = (s : Int) := by rw [IntKind.wrap_u64]; omega
  have HL := Lib.hid (show (l.map (Value.int .u8)).length = m * 1 by rw [List.length_map, hm, Nat.mul_one])
  have hm0 : ¬ (m : Int) < 0 := by omega
  have hs1 : s < 4294967296 := by omega
  clear hI hIL hIR hB hse hs h0 h1
  go_enter Tryz.func139, Tryz.ntmps139
  go_upto_region 2 with (fail)

  --[
  refine wp_region_held_drew (S := fun w' => Below w.heap.size w w') (by kernel_rfl) ((Below.refl _ _).drew) (fun hHeld => ?_)
  refine held_take 0 (some 8) (v := ?_) rfl rfl (by kernel_rfl) (by kernel_rfl) (by kernel_rfl) (fun _ _ _ h => h) (Or.inl ⟨by rfl, ?_⟩) hHeld ?_
  rotate_left
  · (intro w' hSw; clear hSw; go_simp; try with_reducible rfl)
  try simp only [Act.put, List.setIfInBounds_toArray, List.set_cons_zero, List.set_cons_succ]
  refine held_take 1 (some 9) (v := ?_) rfl rfl (by kernel_rfl) (by kernel_rfl) (by kernel_rfl) (fun _ _ _ h => h) (Or.inl ⟨by rfl, ?_⟩) hHeld ?_
  rotate_left
  · (intro w' hSw; clear hSw; go_simp; try with_reducible rfl)
  try simp only [Act.put, List.setIfInBounds_toArray, List.set_cons_zero, List.set_cons_succ]
  refine held_take 2 (some 10) (v := ?_) rfl rfl (by kernel_rfl) (by kernel_rfl) (by kernel_rfl) (fun _ _ _ h => h) (Or.inl ⟨by rfl, ?_⟩) hHeld ?_
  rotate_left
  · (intro w' hSw; clear hSw; go_simp; try with_reducible rfl)
  try simp only [Act.put, List.setIfInBounds_toArray, List.set_cons_zero, List.set_cons_succ]
  refine held_take 3 (some 11) (v := ?_) rfl rfl (by kernel_rfl) (by kernel_rfl) (by kernel_rfl) (fun _ _ _ h => h) (Or.inl ⟨by rfl, ?_⟩) hHeld ?_
  rotate_left
  · (intro w' hSw; clear hSw; go_simp; try with_reducible rfl)
  try simp only [Act.put, List.setIfInBounds_toArray, List.set_cons_zero, List.set_cons_succ]
  refine held_take 4 (some 12) (v := ?_) rfl rfl (by kernel_rfl) (by kernel_rfl) (by kernel_rfl) (fun _ _ _ h => h) (Or.inl ⟨by rfl, ?_⟩) hHeld ?_
  rotate_left
  · (intro w' hSw; clear hSw; go_simp; try with_reducible rfl)
  try simp only [Act.put, List.setIfInBounds_toArray, List.set_cons_zero, List.set_cons_succ]
  refine held_take 5 (some 13) (v := ?_) rfl rfl (by kernel_rfl) (by kernel_rfl) (by kernel_rfl) (fun _ _ _ h => h) (Or.inl ⟨by rfl, ?_⟩) hHeld ?_
  rotate_left
  · (intro w' hSw; clear hSw; go_simp; try with_reducible rfl)
  try simp only [Act.put, List.setIfInBounds_toArray, List.set_cons_zero, List.set_cons_succ]
  refine held_take 8 (some 16) (v := ?_) rfl rfl (by kernel_rfl) (by kernel_rfl) (by kernel_rfl) (fun _ _ _ h => h) (Or.inl ⟨by rfl, ?_⟩) hHeld ?_
  rotate_left
  · (intro w' hSw; clear hSw; go_simp; try with_reducible rfl)
  try simp only [Act.put, List.setIfInBounds_toArray, List.set_cons_zero, List.set_cons_succ]
  refine held_take 9 (some 17) (v := ?_) rfl rfl (by kernel_rfl) (by kernel_rfl) (by kernel_rfl) (fun _ _ _ h => h) (Or.inl ⟨by rfl, ?_⟩) hHeld ?_
  rotate_left
  · (intro w' hSw; clear hSw; go_simp; try with_reducible rfl)
  try simp only [Act.put, List.setIfInBounds_toArray, List.set_cons_zero, List.set_cons_succ]
  refine held_take 10 (some 18) (v := ?_) rfl rfl (by kernel_rfl) (by kernel_rfl) (by kernel_rfl) (fun _ _ _ h => h) (Or.inl ⟨by rfl, ?_⟩) hHeld ?_
  rotate_left
  · (intro w' hSw; clear hSw; go_simp; try with_reducible rfl)
  try simp only [Act.put, List.setIfInBounds_toArray, List.set_cons_zero, List.set_cons_succ]
  refine wpAnyH_ready (rs := [6]) (by kernel_rfl) (by simp) ?_
  refine AllReadyH.cons rfl (fun K hKK => ?_) AllReadyH.nil
  go_simp
  go_at_call 107
  refine (HRN.out _ ((Below.refl _ _).drew)).mono ?_
  rintro e w2 ⟨r, rfl, hr, hrd, hb2⟩
  have hB2 := Lib.hid ((Below.refl w.heap.size w).drew.trans hb2)
  refine hKK.out _ _ hB2.out (fun hHeld => ?_)
  clear hKK K
  try simp only [Act.put, List.setIfInBounds_toArray, List.set_cons_zero, List.set_cons_succ]
  have HGT := Lib.hid (Get_any r (beL s 4) 4 w2 hrd (by decide) (by decide) (by rw [beL_length]; omega))
  rw [List.take_of_length_le (by rw [beL_length]; omega), numL_be s 4 (by omega)] at HGT
  have hrlt := hrd.lt
  refine wpAnyH_ready (rs := [7]) (by kernel_rfl) (by simp) ?_
  refine AllReadyH.cons rfl (fun K hKK => ?_) AllReadyH.nil
  go_simp
  go_at_call 108
  refine HGT.out.mono ?_
  rintro e w3 ⟨rfl, hg3, _⟩
  have hB3 := Lib.hid (hB2.out.grown hg3 hB2.out.size (fun k hk => by injection hk with hk; rw [← hk]; exact hr))
  refine hKK.out _ _ hB3.out (fun hHeld => ?_)
  clear hKK K
  try simp only [Act.put, List.setIfInBounds_toArray, List.set_cons_zero, List.set_cons_succ]
  have HCS := Lib.hid (CSum_any (some ad) m c l w3 hm (by omega) (HIL.out.below hB3.out) HB.out)
  refine wpAnyH_ready (rs := [11]) (by kernel_rfl) (by simp) ?_
  refine AllReadyH.cons rfl (fun K hKK => ?_) AllReadyH.nil
  go_simp
  go_at_call 71
  refine HCS.out.mono ?_
  rintro e w4 ⟨rfl, hb4⟩
  rw [HS.out]
  have hB4 := Lib.hid (below_trans hB3.out hb4 hB3.out.size)
  refine hKK.out _ _ hB4.out (fun hHeld => ?_)
  clear hKK K
  try simp only [Act.put, List.setIfInBounds_toArray, List.set_cons_zero, List.set_cons_succ]
  refine held_take 12 (some 20) (v := ?_) rfl rfl (by kernel_rfl) (by kernel_rfl) (by kernel_rfl) (fun _ _ _ h => h) (Or.inl ⟨by rfl, ?_⟩) hHeld ?_
  rotate_left
  · (intro w' hSw; clear hSw; go_simp; try with_reducible rfl)
  try simp only [Act.put, List.setIfInBounds_toArray, List.set_cons_zero, List.set_cons_succ]
  refine held_take 13 (some 21) (v := ?_) rfl rfl (by kernel_rfl) (by kernel_rfl) (by kernel_rfl) (fun _ _ _ h => h) (Or.inl ⟨by rfl, ?_⟩) hHeld ?_
  rotate_left
  · (intro w' hSw; clear hSw; go_simp; try with_reducible rfl)
  try simp only [Act.put, List.setIfInBounds_toArray, List.set_cons_zero, List.set_cons_succ]
  refine held_take 14 (some 22) (v := ?_) rfl rfl (by kernel_rfl) (by kernel_rfl) (by kernel_rfl) (fun _ _ _ h => h) (Or.inl ⟨by rfl, ?_⟩) hHeld ?_
  rotate_left
  · (intro w' hSw; clear hSw; go_simp; try with_reducible rfl)
  try simp only [Act.put, List.setIfInBounds_toArray, List.set_cons_zero, List.set_cons_succ]
  refine wpAnyH_done (by kernel_rfl) ?_ _
  --]
  have hB4' := hB4.out.size
  have HI4 := Lib.hid (HIL.out.below hB4.out)
  clear hwr hg3 hb4 hb2
  go_wp2_with (at_builtin; refine wpList_app EB rfl _ _ rfl w.heap.size (.slice none 0 0) 0 [] rfl (World.ownsRow_nil _ _ _ _) (some ad) m c (l.map (Value.int .u8)) rfl (fun h => by cases h) HL.out HI4.out.news (ints_one _ _) ?c1 ?c2 hB4' ?_)
  case c1 => unfold maxLen; omega
  case c2 => omega
  intro v1 w5 hown hgrow _
  have HO := Lib.hid (show OwnB w5 w.heap.size v1 l from by rw [OwnB, hm]; simpa using hown)
  have HW := Lib.hid (show Below w.heap.size w w5 from hB4.out.grown hgrow hB4' (fun k hk => by cases hk))
  clear hown hgrow
  go_wp2
  go_ret2
  exact ⟨v1, rfl, HO.out, HW.out⟩
end Go.Proofs.YtcklcffepedklaaGreat
