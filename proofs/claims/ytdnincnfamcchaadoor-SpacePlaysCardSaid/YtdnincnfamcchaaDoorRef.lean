/- The document's space: a list of bools. -/
import Derived.Test.YtdnincnfamcchaaDoorBytes
namespace Go.Proofs.YtdnincnfamcchaaDoor
open Go.RowKit

/-- The first n bits of f, as cells. -/
def bools (n : Nat) (f : Nat → Bool) : Array Value := ((List.range n).map fun i => Value.bool (f i)).toArray
theorem bools_size (n : Nat) (f : Nat → Bool) : (bools n f).size = n := by simp [bools]
theorem bools_get (n : Nat) (f : Nat → Bool) (i : Nat) (h : i < n) : (bools n f)[i]? = some (.bool (f i)) := by
  rw [bools, List.getElem?_toArray, List.getElem?_map, List.getElem?_range h]; rfl
theorem bools_ext (n : Nat) (f g : Nat → Bool) (h : ∀ i, i < n → f i = g i) : bools n f = bools n g := by
  unfold bools
  congr 1
  apply List.map_congr_left
  intro i hi
  rw [List.mem_range] at hi
  rw [h i hi]
theorem bools_set (n : Nat) (f g : Nat → Bool) (i : Nat) (v : Bool) (hv : v = g i) (h : ∀ k, k < n → k ≠ i → g k = f k) : (bools n f).setIfInBounds i (.bool v) = bools n g := by
  subst hv
  unfold bools
  rw [List.setIfInBounds_toArray]
  congr 1
  apply List.ext_getElem
  · simp
  · intro j h1 h2
    rw [List.getElem_set]
    by_cases e : i = j
    · subst e; simp
    · rw [if_neg e]
      simp only [List.getElem_map, List.getElem_range]
      simp at h2
      rw [h j h2 (fun e' => e e'.symm)]
theorem bools_zero (n : Nat) : bools n (fun _ => false) = (List.replicate n (Value.bool false)).toArray := by
  unfold bools
  congr 1
  apply List.ext_getElem <;> simp


/-- The document's space at block g, its places in block h. -/
structure RS (w : World) (g h n : Nat) (f : Nat → Bool) : Prop where
  obj : w.heap[g]? = some (.cells #[.slice (some ⟨h, 0, none⟩) n n] 53 (0, 0))
  row : w.heap[h]? = some (.cells (bools n f) 4 (0, 0))
  lim : n ≤ 16384
  out : ∀ p, n ≤ p → f p = false
  ne : g ≠ h
section
variable {w : World} {g h n : Nat} {f : Nat → Bool}
theorem RS.cell (V : RS w g h n f) : w.cell? ⟨g, 0, none⟩ = some (.slice (some ⟨h, 0, none⟩) n n) := by rw [cell_of_row _ _ _ _ _ _ V.obj]; rfl
theorem RS.bit (V : RS w g h n f) (i : Nat) (hi : i < n) : w.cell? ⟨h, i, none⟩ = some (.bool (f i)) := by rw [cell_of_row _ _ _ _ _ _ V.row, bools_get _ _ _ hi]
theorem RS.kept {R : Nat → Prop} {w' : World} (V : RS w g h n f) (hc : Chg R w w') (h1 : ¬ R g) (h2 : ¬ R h) : RS w' g h n f :=
  ⟨(hc.block g (row_lt V.obj) h1).trans V.obj, (hc.block h (row_lt V.row) h2).trans V.row, V.lim, V.out, V.ne⟩
theorem RS.set (V : RS w g h n f) (p : Nat) (hp : p < n) (b : Bool) (hb : b = !f p) : RS (w.setCell ⟨h, p, none⟩ (.bool b)) g h n (turnF f p) := by
  refine ⟨?_, ?_, V.lim, ?_, V.ne⟩
  · rw [Below.heap_setCell _ _ _ _ (fun e => V.ne e)]; exact V.obj
  · rw [setCell_row V.row, bools_set n f (turnF f p) p b (by rw [hb]; simp [turnF]) (fun k _ hk => by simp [turnF, hk])]
  · intro q hq
    unfold turnF
    rw [if_neg (by omega)]
    exact V.out q hq
end

theorem Tryd.info4 : (Tryd.prog.info? 4).map (fun i => (i.zero, i.size, i.bytes)) = some (some (.bool false), 1, 1) := by kernel_rfl
theorem made_bools (n : Nat) : madeCells #[.bool false] n = bools n (fun _ => false) := by rw [madeCells_rep, bools_zero]
theorem make_bools (n : Nat) (hn : n ≤ 1048576) (W : World) : (Instr.makeSlice 51 (.int .i64 (n : Int)) (.int .i64 (n : Int))).run Tryd.prog W = .ok (.slice (some ⟨W.heap.size, 0, none⟩) n n) (W.alloc (.cells (bools n (fun _ => false)) 4)) := by
  obtain ⟨i0, hi, hz0, hz1, hz2⟩ := info_parts Tryd.info4
  have := run_make (P := Tryd.prog) W 51 4 i0 (.bool false) Tryd.underlying51 hi hz0 .i64 .i64 (n : Int) (n : Int) (by omega) (Int.le_refl _) (by rw [hz2]; omega) (by omega)
  rw [Int.toNat_natCast, hz1, Nat.mul_one] at this
  rw [this, ← made_bools]
  rfl

theorem rNew_bad (x : Int) (w : World) (h : x < 0 ∨ 16384 < x) : Calls Tryd.prog 23 #[.int .i64 x] w fun e w' => e = .returned (.tuple #[.pointer none, .int .i64 1]) ∧ w = w' := by
  by_cases h1 : x < 0
  · go_enter Tryd.func23, Tryd.ntmps23
    go_wp2
    go_ret2
    exact ⟨rfl, rfl⟩
  · have h2 : 16384 < x := by omega
    go_enter Tryd.func23, Tryd.ntmps23
    go_wp2
    go_ret2
    exact ⟨rfl, rfl⟩
/-- A new space of the document's. -/
def NewRS (n : Nat) (w : World) (e : Ending) (w' : World) : Prop :=
  e = .returned (.tuple #[.pointer (some ⟨w.heap.size + 1, 0, none⟩), .int .i64 0]) ∧ w.grownBy w' none ∧ RS w' (w.heap.size + 1) w.heap.size n (fun _ => false) ∧ w'.heap.size = w.heap.size + 2
theorem rNew_any (n : Nat) (w : World) (h1 : n ≤ 16384) : Calls Tryd.prog 23 #[.int .i64 n] w (NewRS n w) := by
  have hmk := make_bools n (by omega)
  go_enter Tryd.func23, Tryd.ntmps23
  go_wp2
  go_ret2
  refine ⟨rfl, ?_, ?_, by simp⟩
  · exact grown_trans (grown_alloc _ _ _) (grown_alloc _ _ _)
  · refine ⟨?_, ?_, h1, fun _ _ => rfl, by simp⟩
    · have := heap_alloc_last (w.alloc (.cells (bools n (fun _ => false)) 4)) (.cells #[.slice (some ⟨w.heap.size, 0, none⟩) n n] 53)
      rw [World.size_alloc] at this
      exact this
    · rw [Below.heap_alloc _ _ _ (by simp)]; exact heap_alloc_last _ _

section
variable {w : World} {g h n : Nat} {f : Nat → Bool}
theorem rHold_no (V : RS w g h n f) (x : Int) (hp : x < 0 ∨ (n : Int) ≤ x) : Calls Tryd.prog 33 #[.pointer (some ⟨g, 0, none⟩), .int .i64 x] w fun e w' => e = .returned (.int .i64 1) ∧ w = w' := by
  have c0 := V.cell
  clear V
  by_cases h0 : x < 0
  · clear hp
    go_enter Tryd.func33, Tryd.ntmps33
    go_wp2
    go_ret
    exact ⟨rfl, rfl⟩
  · have h1 : (n : Int) ≤ x := by omega
    clear hp
    go_enter Tryd.func33, Tryd.ntmps33
    go_wp2
    go_ret
    exact ⟨rfl, rfl⟩
theorem rHold_there (V : RS w g h n f) (p : Nat) (hp : p < n) (hf : f p = true) : Calls Tryd.prog 33 #[.pointer (some ⟨g, 0, none⟩), .int .i64 p] w fun e w' => e = .returned (.int .i64 3) ∧ w = w' := by
  have c0 := V.cell
  have hb := V.bit p hp
  rw [hf] at hb
  have hp1 : (p : Int) < (n : Int) := by omega
  clear V hf
  go_enter Tryd.func33, Tryd.ntmps33
  go_wp2
  go_ret
  exact ⟨rfl, rfl⟩
theorem rHold_yes (V : RS w g h n f) (p : Nat) (hp : p < n) (hf : f p = false) : Calls Tryd.prog 33 #[.pointer (some ⟨g, 0, none⟩), .int .i64 p] w fun e w' => e = .returned (.int .i64 0) ∧ Chg (Two g h) w w' ∧ RS w' g h n (turnF f p) := by
  have c0 := V.cell
  have hb := V.bit p hp
  have hz := free_row V.row p
  have HS := Lib.hid (V.set p hp true (by rw [hf]; rfl))
  rw [hf] at hb
  have hp1 : (p : Int) < (n : Int) := by omega
  clear V hf
  go_enter Tryd.func33, Tryd.ntmps33
  go_wp2
  go_ret
  exact ⟨rfl, (Chg.of (grown_setCell _ _ _ _)).mono (fun k e => Or.inr (by injection e)), HS.out⟩
theorem rFree_no (V : RS w g h n f) (x : Int) (hp : x < 0 ∨ (n : Int) ≤ x) : Calls Tryd.prog 34 #[.pointer (some ⟨g, 0, none⟩), .int .i64 x] w fun e w' => e = .returned (.int .i64 1) ∧ w = w' := by
  have c0 := V.cell
  clear V
  by_cases h0 : x < 0
  · clear hp
    go_enter Tryd.func34, Tryd.ntmps34
    go_wp2
    go_ret
    exact ⟨rfl, rfl⟩
  · have h1 : (n : Int) ≤ x := by omega
    clear hp
    go_enter Tryd.func34, Tryd.ntmps34
    go_wp2
    go_ret
    exact ⟨rfl, rfl⟩
theorem rFree_free (V : RS w g h n f) (p : Nat) (hp : p < n) (hf : f p = false) : Calls Tryd.prog 34 #[.pointer (some ⟨g, 0, none⟩), .int .i64 p] w fun e w' => e = .returned (.int .i64 2) ∧ w = w' := by
  have c0 := V.cell
  have hb := V.bit p hp
  rw [hf] at hb
  have hp1 : (p : Int) < (n : Int) := by omega
  clear V hf
  go_enter Tryd.func34, Tryd.ntmps34
  go_wp2
  go_ret
  exact ⟨rfl, rfl⟩
theorem rFree_yes (V : RS w g h n f) (p : Nat) (hp : p < n) (hf : f p = true) : Calls Tryd.prog 34 #[.pointer (some ⟨g, 0, none⟩), .int .i64 p] w fun e w' => e = .returned (.int .i64 0) ∧ Chg (Two g h) w w' ∧ RS w' g h n (turnF f p) := by
  have c0 := V.cell
  have hb := V.bit p hp
  have hz := free_row V.row p
  have HS := Lib.hid (V.set p hp false (by rw [hf]; rfl))
  rw [hf] at hb
  have hp1 : (p : Int) < (n : Int) := by omega
  clear V hf
  go_enter Tryd.func34, Tryd.ntmps34
  go_wp2
  go_ret
  exact ⟨rfl, (Chg.of (grown_setCell _ _ _ _)).mono (fun k e => Or.inr (by injection e)), HS.out⟩
end

/-- What the document's Take does. -/
def RTook (w : World) (g h n : Nat) (f : Nat → Bool) (e : Ending) (w' : World) : Prop :=
  (∃ p, Least f n p ∧ e = .returned (.tuple #[.int .i64 p, .int .i64 0]) ∧ Chg (Two g h) w w' ∧ RS w' g h n (turnF f p)) ∨ ((∀ k, k < n → f k = true) ∧ e = .returned (.tuple #[.int .i64 0, .int .i64 5]) ∧ w = w')
section
variable {w : World} {g h n : Nat} {f : Nat → Bool}
theorem rTake_any (V : RS w g h n f) : Calls Tryd.prog 32 #[.pointer (some ⟨g, 0, none⟩)] w (RTook w g h n f) := by
  have c0 := V.cell
  have hlim := V.lim
  have HV := Lib.hid V
  clear V
  go_enter Tryd.func32, Tryd.ntmps32
  go_wp2_with fail
  go_loopg [4] n (fun kq v4 w' => ∃ i : Nat, v4 = .int .i64 (i : Int) ∧ i + kq = n ∧ Hid (∀ k, k < i → f k = true) ∧ w' = w)
  case atStart => exact ⟨0, rfl, by omega, Lib.hid (fun k h1 => absurd h1 (by omega)), rfl⟩
  case round =>
    obtain ⟨i, rfl, hi, HF, rfl⟩ := hrel
    by_cases hlt : i < n
    · have hb := HV.out.bit i hlt
      have hz := free_row HV.out.row i
      have i1 : (i : Int) < (n : Int) := by omega
      cases hf : f i with
      | true =>
        rw [hf] at hb
        have HF2 : Hid (∀ k, k < i + 1 → f k = true) := Lib.hid (fun k hk => by
          by_cases e : k = i
          · subst e; exact hf
          · exact HF.out k (by omega))
        clear hf
        go_wp2_with fail
        go_roundg (n - (i + 1))
        case measure => omega
        case rel => exact ⟨i + 1, by go_num, by omega, HF2, rfl⟩
      | false =>
        rw [hf] at hb
        have HS := Lib.hid (HV.out.set i hlt true (by rw [hf]; rfl))
        have HLE := Lib.hid (show Least f n i from ⟨hlt, hf, HF.out⟩)
        clear hf
        go_wp2_with fail
        go_ret2
        exact Or.inl ⟨i, HLE.out, rfl, (Chg.of (grown_setCell _ _ _ _)).mono (fun k e => Or.inr (by injection e)), HS.out⟩
    · obtain rfl : i = n := by omega
      go_wp2
      go_ret2
      exact Or.inr ⟨HF.out, rfl, rfl⟩

set_option maxHeartbeats 400000 in
theorem rAll_any (V : RS w g h n f) : Calls Tryd.prog 18 #[.pointer (some ⟨g, 0, none⟩)] w (NewInts .i64 w.heap.size (takenI f n) w) := by
  have c0 := V.cell
  have hlim := V.lim
  have HV := Lib.hid V
  clear V
  go_enter Tryd.func18, Tryd.ntmps18
  go_wp2_with fail
  go_loopg [3, 4] n (fun kq v3 v4 w' => ∃ i : Nat, v4 = .int .i64 (i : Int) ∧ i + kq = n ∧ w'.ownsRow w.heap.size 3 1 v3 (takenI f i).length ((takenI f i).map (Value.int .i64)) ∧ Below w.heap.size w w')
  case atStart => exact ⟨0, rfl, by omega, World.ownsRow_nil _ _ _ _, Below.refl _ _⟩
  case round =>
    obtain ⟨i, rfl, hi, hown, hb⟩ := hrel
    have HO := Lib.hid hown
    have HB := Lib.hid hb
    have V := HV.out.kept (R := fun _ => False) (Chg.belowAt hb) (fun h => h) (fun h => h)
    have d0 := V.cell
    by_cases hlt : i < n
    · have hbit := V.bit i hlt
      have i1 : (i : Int) < (n : Int) := by omega
      have HTS := Lib.hid (takenL_succ f i)
      cases hf : f i with
      | false =>
        rw [hf] at hbit
        have HE := Lib.hid (show takenI f (i + 1) = takenI f i by unfold takenI; rw [HTS.out, if_neg (by rw [hf]; simp)])
        clear V hown hb hf
        go_wp2_with fail
        go_roundg (n - (i + 1))
        case measure => omega
        case rel => exact ⟨i + 1, by go_num, by omega, by rw [HE.out]; exact HO.out, HB.out⟩
      | true =>
        rw [hf] at hbit
        have HE := Lib.hid (show takenI f (i + 1) = takenI f i ++ [(i : Int)] by unfold takenI; rw [HTS.out, if_pos hf]; simp)
        have HOA := Lib.hid (hown.alloc (.cells #[.int .i64 (i : Int)] 3))
        have hal : (takenI f i).length ≤ 16384 := by rw [takenI_length]; have := takenL_le f i; omega
        have hsz := hb.size
        clear V hown hb hf
        go_wp2_with (at_builtin; refine wpList_app E39 rfl _ _ rfl w.heap.size _ (takenI f i).length ((takenI f i).map (.int .i64)) rfl HOA.out (some ⟨wr.heap.size, 0, none⟩) 1 1 [.int .i64 (i : Int)] rfl (fun h => by cases h) rfl ?c1 ?c2 ?c3 ?c4 ?c5 ?_)
        case c1 => intro j u hj; exact ⟨_, rfl, one_new _ _ _ j u hj⟩
        case c2 => intro u hu; simp at hu; subst hu; rfl
        case c3 => unfold maxLen; omega
        case c4 => omega
        case c5 => simp; omega
        intro v7 w7 hown7 hgrow7 hat7
        have HO7 := Lib.hid (show w7.ownsRow w.heap.size 3 1 v7 (takenI f (i + 1)).length ((takenI f (i + 1)).map (Value.int .i64)) from by
          rw [HE.out, List.length_append, List.map_append]; exact hown7)
        have HB7 := Lib.hid ((HB.out.alloc hsz _).grown hgrow7 (by simp; omega) (fun k hk => (HO.out.lt k hk).1))
        clear hown7 hgrow7 hat7
        go_wp2_with fail
        go_roundg (n - (i + 1))
        case measure => omega
        case rel => exact ⟨i + 1, by go_num, by omega, HO7.out, HB7.out⟩
    · obtain rfl : i = n := by omega
      clear V hown hb
      go_wp2
      go_ret
      obtain ⟨A', c', hv, hcc, hI', hA'⟩ := new_of_own HO.out
      exact ⟨A', c', by rw [hv]; rfl, hcc, hI', hA', HB.out⟩
end

set_option maxHeartbeats 400000 in
/-- Two lists that are the same. -/
theorem Same_yes (A B : Option Addr) (n c d : Nat) (l : List Int) (w : World) (hn : l.length = n) (hl : n ≤ 1000000000000) (hA : Ints .i64 w A l) (hB : Ints .i64 w B l) :
    Calls Tryd.prog 25 #[.slice A n c, .slice B n d] w fun e w' => e = .returned (.bool true) ∧ ∃ q, w' = w.drewN q := by
  have HN := Lib.hid hn
  have HA := Lib.hid hA
  have HB := Lib.hid hB
  clear hn hA hB
  go_enter Tryd.func25, Tryd.ntmps25
  go_wp2_with fail
  go_loopg [5] n (fun kq v5 w' => ∃ i : Nat, v5 = .int .i64 (i : Int) ∧ i + kq = n ∧ ∃ q, w' = w.drewN q)
  case atStart => exact ⟨0, rfl, by omega, 0, rfl⟩
  case round =>
    obtain ⟨i, rfl, hi, q, rfl⟩ := hrel
    by_cases hlt : i < n
    · obtain ⟨a1, e1, h1⟩ := HA.out i (by rw [HN.out]; exact hlt)
      obtain ⟨a2, e2, h2⟩ := HB.out i (by rw [HN.out]; exact hlt)
      subst e1
      subst e2
      generalize l.getD i 0 = x at *
      have i0 : (0 : Int) ≤ (i : Int) := by omega
      have i1 : (i : Int) < (n : Int) := by omega
      go_wp2_with fail
      go_quiet (fail)
      go_wp2
      go_roundg (n - (i + 1))
      case measure => omega
      case rel => exact ⟨i + 1, by go_num, by omega, _, rfl⟩
    · go_wp2
      go_ret
      exact ⟨rfl, _, rfl⟩

end Go.Proofs.YtdnincnfamcchaaDoor
