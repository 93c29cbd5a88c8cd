/- SameInts of any two lists; what is taken, told by places. -/
import Derived.Test.YtdnincnfamcchaaDoorActs
namespace Go.Proofs.YtdnincnfamcchaaDoor
open Go.RowKit

theorem ints_blk {k : IntKind} {w : World} {A : Option Addr} {l : List Int} (h : Ints k w A l) {i : Nat} (hi : i < l.length) : ∃ ad, A = some ad ∧ w.cell? (ad.add i) = some (.int k (l.getD i 0)) := h i hi
set_option maxHeartbeats 800000 in
theorem Same_len (A B : Option Addr) (n k c d : Nat) (w : World) (hne : n ≠ k) (hl : n ≤ 1000000000000) (hk : k ≤ 1000000000000) :
    Calls Tryd.prog 25 #[.slice A n c, .slice B k d] w fun e w' => e = .returned (.bool false) ∧ w = w' := by
  have h1 : ((n : Int) != (k : Int)) = true := by simp; omega
  clear hne
  go_enter Tryd.func25, Tryd.ntmps25
  go_wp2_with fail
  go_ret
  exact ⟨rfl, rfl⟩
theorem first_ne : ∀ (l m : List Int), l.length = m.length → l ≠ m → ∃ i, i < l.length ∧ l.getD i 0 ≠ m.getD i 0 ∧ ∀ j, j < i → l.getD j 0 = m.getD j 0
  | [], [], _, h => absurd rfl h
  | x :: l, y :: m, hl, h => by
    by_cases e : x = y
    · subst e
      obtain ⟨i, h1, h2, h3⟩ := first_ne l m (by simpa using hl) (fun e => h (by rw [e]))
      exact ⟨i + 1, by simpa using h1, by simpa using h2, fun j hj => by
        match j with
        | 0 => rfl
        | j + 1 => simpa using h3 j (by omega)⟩
    · exact ⟨0, by simp, by simpa using e, fun j hj => absurd hj (by omega)⟩
  | [], _ :: _, hl, _ => by simp at hl
  | _ :: _, [], hl, _ => by simp at hl
set_option maxHeartbeats 800000 in
theorem Same_no (A B : Option Addr) (n c d : Nat) (l m : List Int) (w : World) (hn : l.length = n) (hm : m.length = n) (hl : n ≤ 1000000000000) (hA : Ints .i64 w A l) (hB : Ints .i64 w B m) (hne : l ≠ m) :
    Calls Tryd.prog 25 #[.slice A n c, .slice B n d] w fun e w' => e = .returned (.bool false) ∧ ∃ q, w' = w.drewN q := by
  obtain ⟨t, ht, hd, hs⟩ := first_ne l m (hn.trans hm.symm) hne
  have HN := Lib.hid hn
  have HM := Lib.hid hm
  have HA := Lib.hid hA
  have HB := Lib.hid hB
  have HS := Lib.hid hs
  have HD := Lib.hid hd
  rw [hn] at ht
  clear hn hm hA hB hne hs hd
  go_enter Tryd.func25, Tryd.ntmps25
  go_wp2_with fail
  go_loopg [5] n (fun kq v5 w' => ∃ i : Nat, v5 = .int .i64 (i : Int) ∧ i + kq = n ∧ i ≤ t ∧ ∃ q, w' = w.drewN q)
  case atStart => exact ⟨0, rfl, by omega, by omega, 0, rfl⟩
  case round =>
    obtain ⟨i, rfl, hi, hit, q, rfl⟩ := hrel
    have hlt : i < n := by omega
    obtain ⟨a1, e1, h1⟩ := HA.out i (by rw [HN.out]; exact hlt)
    obtain ⟨a2, e2, h2⟩ := HB.out i (by rw [HM.out]; exact hlt)
    subst e1
    subst e2
    have i0 : (0 : Int) ≤ (i : Int) := by omega
    have i1 : (i : Int) < (n : Int) := by omega
    by_cases e : i = t
    · subst e
      have hne := HD.out
      generalize l.getD i 0 = x at *
      generalize m.getD i 0 = y at *
      have hxy : decide (x = y) = false := by simp [hne]
      go_wp2_with fail
      go_quiet (fail)
      go_wp2
      go_ret
      exact ⟨rfl, _, World.drewN_drewN _ _ _⟩
    · rw [← HS.out i (by omega)] at h2
      generalize l.getD i 0 = x at *
      go_wp2_with fail
      go_quiet (fail)
      go_wp2
      go_roundg (n - (i + 1))
      case measure => omega
      case rel => exact ⟨i + 1, by go_num, by omega, by omega, _, rfl⟩
/-- Are both lists the same? -/
theorem Same_any (A B : Option Addr) (n k c d : Nat) (l m : List Int) (w : World) (hn : l.length = n) (hm : m.length = k) (hl : n ≤ 1000000000000) (hk : k ≤ 1000000000000) (hA : Ints .i64 w A l) (hB : Ints .i64 w B m) :
    Calls Tryd.prog 25 #[.slice A n c, .slice B k d] w fun e w' => e = .returned (.bool (decide (l = m))) ∧ ∃ q, w' = w.drewN q := by
  by_cases e : l = m
  · subst e
    obtain rfl := hn.symm.trans hm
    have := Same_yes A B n c d l w hn hl hA hB
    simpa using this
  · have hd : decide (l = m) = false := by simp [e]
    rw [hd]
    by_cases h : n = k
    · subst h; exact Same_no A B n c d l m w hn hm hl hA hB e
    · refine (Same_len A B n k c d w h hl hk).mono ?_
      rintro e w1 ⟨rfl, rfl⟩
      exact ⟨rfl, 0, rfl⟩

theorem takenL_split (f : Nat → Bool) (a : Nat) : ∀ d, takenL f (a + d) = takenL f a ++ ((List.range d).filter fun j => f (a + j)).map fun j => a + j
  | 0 => by simp
  | d + 1 => by
    rw [show a + (d + 1) = (a + d) + 1 from rfl, takenL_succ, takenL_split f a d, List.range_succ, List.filter_append]
    cases h : f (a + d) <;> simp [h]
/-- What taking the least place does to the list of what is taken. -/
theorem taken_least (f : Nat → Bool) (n p : Nat) (h : Least f n p) : ∃ r : List Nat, takenL f n = List.range p ++ r ∧ takenL (turnF f p) n = List.range (p + 1) ++ r := by
  obtain ⟨h1, h2, h3⟩ := h
  obtain ⟨d, rfl⟩ : ∃ d, n = (p + 1) + d := ⟨n - (p + 1), by omega⟩
  refine ⟨((List.range d).filter fun j => f (p + 1 + j)).map fun j => p + 1 + j, ?_, ?_⟩
  · rw [takenL_split, takenL_succ, h2, if_neg (by simp), full_taken f p h3]
  · rw [takenL_split, full_taken (turnF f p) (p + 1) (fun k hk => by
      unfold turnF
      by_cases e : k = p
      · subst e; simp [h2]
      · rw [if_neg e]; exact h3 k (by omega))]
    congr 2
    apply List.filter_congr
    intro j _
    unfold turnF
    rw [if_neg (by omega)]
theorem takenI_least (f : Nat → Bool) (n p : Nat) (h : Least f n p) : (takenI (turnF f p) n).length = (takenI f n).length + 1 ∧ p < (takenI f n).length + 1 ∧ (∀ i, i ≤ p → (takenI (turnF f p) n).getD i 0 = (i : Int)) ∧ ∀ i, p < i → i < (takenI f n).length + 1 → (takenI (turnF f p) n).getD i 0 = (takenI f n).getD (i - 1) 0 := by
  obtain ⟨r, h1, h2⟩ := taken_least f n p h
  unfold takenI
  rw [h1, h2]
  simp only [List.map_append, List.length_append, List.length_map, List.length_range]
  refine ⟨by omega, by omega, fun i hi => ?_, fun i hi hi2 => ?_⟩
  · rw [List.getD_eq_getElem?_getD, List.getElem?_append_left (by simp; omega), List.getElem?_map, List.getElem?_range (by omega)]; rfl
  · rw [List.getD_eq_getElem?_getD, List.getD_eq_getElem?_getD, List.getElem?_append_right (by simp; omega), List.getElem?_append_right (by simp; omega)]
    simp only [List.length_map, List.length_range]
    rw [show i - (p + 1) = i - 1 - p from by omega]
theorem takenI_eq (f g : Nat → Bool) (n : Nat) : takenI f n = takenI g n ↔ ∀ k, k < n → f k = g k := by
  constructor
  · intro h k hk
    have h1 : ∀ f' : Nat → Bool, ((k : Nat) : Int) ∈ takenI f' n ↔ f' k = true := by
      intro f'
      unfold takenI
      rw [List.mem_map]
      constructor
      · rintro ⟨a, ha, e⟩
        obtain rfl : a = k := by omega
        exact ((takenL_mem f' n a).1 ha).2
      · intro hf
        exact ⟨k, (takenL_mem f' n k).2 ⟨hk, hf⟩, rfl⟩
    have h2 := h1 f
    rw [h, h1 g] at h2
    cases hf : f k <;> cases hg : g k <;> simp_all
  · intro h
    unfold takenI
    rw [takenL_ext f g n h]
theorem pack_eq (f g : Nat → Bool) (n q : Nat) (hq : q = (n + 7) / 8) (hf : ∀ p, n ≤ p → f p = false) (hg : ∀ p, n ≤ p → g p = false) : pack q f = pack q g ↔ ∀ k, k < n → f k = g k := by
  constructor
  · intro h k hk
    have h1 := congrArg (fun b => bitOf b k) h
    simp only [bitOf_pack] at h1
    have : k < 8 * q := by omega
    simpa [this] using h1
  · intro h
    apply pack_ext
    intro k _
    by_cases hk : k < n
    · exact h k hk
    · rw [hf k (by omega), hg k (by omega)]
end Go.Proofs.YtdnincnfamcchaaDoor
