/- Texts of the proof, one behind the other: find: what a finder holds; rows, forget, Put. find: Put. find: Twins, Shelf, All. find: New. -/
import Derived.Test.YtcklcffepedklaaGreatM14
import Derived.Test.YtcklcffepedklaaGreatM16
namespace Go.Proofs.YtcklcffepedklaaGreat
open Go.RowKit Go.Maps

def bytK (k : Ky) (i : Nat) : Nat := (k.sum.getD i 0).toNat
theorem keyC {k : Ky} (h : k.Ok) : Bl.KeyC k.cells.toArray (bytK k) k.n where
  size := by rw [List.size_toArray, Ky.cells_length h]
  byte i hi := by
    have hb := h.byt i
    have hl := h.len
    rw [List.getElem?_toArray]
    unfold Ky.cells bytK
    rw [List.getElem?_append_left (by simp [hl]; exact hi), List.getElem?_map, List.getElem?_eq_getElem (by omega)]
    rw [List.getD_eq_getElem?_getD, List.getElem?_eq_getElem (by omega)] at hb ⊢
    simp only [Option.getD_some] at hb ⊢
    rw [Option.map_some, Int.toNat_of_nonneg hb.1]
  lt i := by have hb := h.byt i; unfold bytK; omega
  num := by rw [List.getElem?_toArray]; exact Ky.cells_32 h
  nlt := h.lt
/-- Colours, and one for the blocks between n and m. -/
def cut (κ : Nat → Nat) (n m c : Nat) : Nat → Nat := fun x => if x < n then κ x else if x < m then c else 0
theorem cut_old {κ : Nat → Nat} {n m c x : Nat} (h : x < n) : cut κ n m c x = κ x := if_pos h
theorem cut_new {κ : Nat → Nat} {n m c x : Nat} (h : n ≤ x) (h2 : x < m) : cut κ n m c x = c := by unfold cut; rw [if_neg (by omega), if_pos h2]
theorem cut_lim {κ : Nat → Nat} {n m c : Nat} (hn : n ≤ m) : ∀ x, cut κ n m c x ≠ 0 → x < m := by
  intro x hx; unfold cut at hx; split at hx
  · omega
  · split at hx
    · assumption
    · exact absurd rfl hx
theorem cut_from {κ : Nat → Nat} {n m c : Nat} : ∀ x, cut κ n m c x ≠ 0 → κ x ≠ 0 ∨ n ≤ x := by
  intro x hx
  rcases Nat.lt_or_ge x n with h | h
  · rw [cut_old h] at hx; exact .inl hx
  · exact .inr h
theorem cut_eq {κ : Nat → Nat} {n m c d x : Nat} (hl : ∀ x, κ x ≠ 0 → x < n) (h : κ x = d) (hd : d ≠ 0) : cut κ n m c x = d := by
  rw [cut_old (hl x (by omega))]; exact h
/-- What became of blocks of a colour, and new ones. -/
theorem cut_or {κ : Nat → Nat} {n m c x : Nat} (hx : x < m) (h : κ x = c ∨ n ≤ x) : cut κ n m c x = c := by
  rcases Nat.lt_or_ge x n with h1 | h1
  · rw [cut_old h1]; omega
  · exact cut_new h1 hx
theorem cut_of {κ : Nat → Nat} {n m c d x : Nat} (hx : x < n) (h : κ x = d) : cut κ n m c x = d := by rw [cut_old hx]; exact h

/-- A finder in memory. -/
structure Fm (w : World) (gf bits probes room : Nat) (L : List (Ky × (Nat × Nat))) (κ : Nat → Nat) (gi gb gh gc : Nat) (f : Nat → Bool) (a1 a2 : Int) : Prop where
  row : w.heap[gf]? = some (.cells #[.pointer (some ⟨gi, 0, none⟩), .pointer (some ⟨gb, 0, none⟩), .pointer (some ⟨gc, 0, none⟩), .int .i64 a1, .int .i64 a2] 133 (0, 0))
  ix : Ix w gi L (fun x => κ x = 2)
  vec : Bl.Vec w gb gh bits probes f
  ne : gb ≠ gh
  ca : Ca w gc room L (fun x => κ x = 4)
  may : ∀ k p, lkp L k = some p → (Bl.placesK bits probes (bytK k) k.n).all f = true
  kf : κ gf = 1
  kb : κ gb = 3
  kh : κ gh = 3
  lim : ∀ x, κ x ≠ 0 → x < w.heap.size
/-- A finder: its blocks meet F. -/
structure Fd (w : World) (gf bits probes room : Nat) (L : List (Ky × (Nat × Nat))) (F : Nat → Prop) : Prop where
  ex : ∃ κ gi gb gh gc f a1 a2, Fm w gf bits probes room L κ gi gb gh gc f a1 a2 ∧ ∀ x, κ x ≠ 0 → F x
section
variable {w w' : World} {gf bits probes room gi gb gh gc : Nat} {L : List (Ky × (Nat × Nat))} {κ : Nat → Nat} {f : Nat → Bool} {a1 a2 : Int}
theorem vec_chg {R : Nat → Prop} (V : Bl.Vec w gb gh bits probes f) (hc : Chg R w w') (h1 : ¬ R gb) (h2 : ¬ R gh) : Bl.Vec w' gb gh bits probes f :=
  ⟨(hc.block gb V.glt h1).trans V.obj, (hc.block gh V.hlt h2).trans V.row, V.lim, V.out⟩
theorem Fm.chg {R : Nat → Prop} (h : Fm w gf bits probes room L κ gi gb gh gc f a1 a2) (hc : Chg R w w') (hr : ∀ x, κ x ≠ 0 → ¬ R x) : Fm w' gf bits probes room L κ gi gb gh gc f a1 a2 := by
  have k1 := h.kf; have k3 := h.kb; have k4 := h.kh
  exact ⟨(hc.block gf (row_lt h.row) (hr gf (by omega))).trans h.row, h.ix.kept hc (fun g _ e => hr g (by omega)) (fun _ _ e => e), vec_chg h.vec hc (hr gb (by omega)) (hr gh (by omega)), h.ne, h.ca.kept hc (fun g _ e => hr g (by omega)) (fun _ _ e => e), h.may, h.kf, h.kb, h.kh, fun x hx => Nat.lt_of_lt_of_le (h.lim x hx) hc.size⟩
theorem Fm.below (h : Fm w gf bits probes room L κ gi gb gh gc f a1 a2) (hb : Below w.heap.size w w') : Fm w' gf bits probes room L κ gi gb gh gc f a1 a2 :=
  h.chg (R := fun _ => False) (Chg.belowAt hb) (fun _ _ h => h)
/-- The cache was changed. -/
theorem Fm.cch (h : Fm w gf bits probes room L κ gi gb gh gc f a1 a2) (hc : Chg (fun x => κ x = 4) w w') (hca : Ca w' gc room L (fun x => κ x = 4 ∨ w.heap.size ≤ x)) : Fm w' gf bits probes room L (cut κ w.heap.size w'.heap.size 4) gi gb gh gc f a1 a2 := by
  have k1 := h.kf; have k3 := h.kb; have k4 := h.kh
  refine ⟨(hc.block gf (row_lt h.row) (by omega)).trans h.row, h.ix.kept hc (fun g _ e => by omega) (fun x hx e => cut_of hx e), vec_chg h.vec hc (by omega) (by omega), h.ne, hca.kept (R := fun _ => False) (Chg.refl _ _) (fun _ _ _ h => h) (fun x hx e => cut_or hx e), h.may, cut_of (row_lt h.row) k1, cut_of h.vec.glt k3, cut_of h.vec.hlt k4, cut_lim hc.size⟩
/-- The summary was changed. -/
theorem Fm.bch (h : Fm w gf bits probes room L κ gi gb gh gc f a1 a2) (hc : w.grownBy w' (some gh)) (l : List Nat) (hv : Bl.Vec w' gb gh bits probes (Bl.puts f l)) : Fm w' gf bits probes room L κ gi gb gh gc (Bl.puts f l) a1 a2 := by
  have k1 := h.kf; have k3 := h.kb; have k4 := h.kh
  have hc := Chg.of hc
  have hn : ∀ {x}, κ x ≠ 3 → ¬ some x = some gh := fun hx e => hx (by injection e with e; rw [e]; exact k4)
  refine ⟨(hc.block gf (row_lt h.row) (hn (by omega))).trans h.row, h.ix.kept hc (fun g _ e => hn (by omega)) (fun x hx e => e), hv, h.ne, h.ca.kept hc (fun g _ e => hn (by omega)) (fun _ _ e => e), fun k p hk => ?_, k1, k3, k4, fun x hx => Nat.lt_of_lt_of_le (h.lim x hx) hc.size⟩
  have := h.may k p hk
  rw [List.all_eq_true] at this ⊢
  intro x hx
  simp [Bl.puts, this x hx]
/-- The index got one row more. -/
theorem Fm.ich (h : Fm w gf bits probes room L κ gi gb gh gc f a1 a2) {k : Ky} {p : Nat × Nat} (hL : lkp L k = none) (hm : (Bl.placesK bits probes (bytK k) k.n).all f = true) (hc : Chg (fun x => κ x = 2) w w') (hx : Ix w' gi (L ++ [(k, p)]) (fun x => κ x = 2 ∨ w.heap.size ≤ x)) : Fm w' gf bits probes room (L ++ [(k, p)]) (cut κ w.heap.size w'.heap.size 2) gi gb gh gc f a1 a2 := by
  have k1 := h.kf; have k3 := h.kb; have k4 := h.kh
  refine ⟨(hc.block gf (row_lt h.row) (by omega)).trans h.row, hx.kept (R := fun _ => False) (Chg.refl _ _) (fun _ _ _ h => h) (fun x hx e => cut_or hx e), vec_chg h.vec hc (by omega) (by omega), h.ne, (h.ca.kept hc (fun g _ e => by omega) (fun x hx e => cut_of hx e)).more (fun q r hq => by rw [lkp_append, hq]; rfl), fun q r hq => ?_, cut_of (row_lt h.row) k1, cut_of h.vec.glt k3, cut_of h.vec.hlt k4, cut_lim hc.size⟩
  cases hl : lkp L q with
  | some r' => exact h.may q r' hl
  | none =>
    rw [lkp_append, hl] at hq
    simp only [lkp, Option.none_or] at hq
    split at hq
    · rename_i e; rw [← e]; exact hm
    · cases hq
/-- A number was changed. -/
theorem Fm.fch (h : Fm w gf bits probes room L κ gi gb gh gc f a1 a2) {b1 b2 : Int} (hc : Chg (fun x => x = gf) w w') (hr : w'.heap[gf]? = some (.cells #[.pointer (some ⟨gi, 0, none⟩), .pointer (some ⟨gb, 0, none⟩), .pointer (some ⟨gc, 0, none⟩), .int .i64 b1, .int .i64 b2] 133 (0, 0))) : Fm w' gf bits probes room L κ gi gb gh gc f b1 b2 := by
  have k1 := h.kf; have k3 := h.kb; have k4 := h.kh
  have hn : ∀ {x}, κ x ≠ 1 → ¬ x = gf := fun hx e => hx (by rw [e]; exact k1)
  exact ⟨hr, h.ix.kept hc (fun g _ e => hn (by omega)) (fun x hx e => e), vec_chg h.vec hc (hn (by omega)) (hn (by omega)), h.ne, h.ca.kept hc (fun g _ e => hn (by omega)) (fun _ _ e => e), h.may, k1, k3, k4, fun x hx => Nat.lt_of_lt_of_le (h.lim x hx) hc.size⟩
theorem Fm.c0 (h : Fm w gf bits probes room L κ gi gb gh gc f a1 a2) : w.cell? ⟨gf, 0, none⟩ = some (.pointer (some ⟨gi, 0, none⟩)) := by rw [cell_of_row _ _ _ _ _ _ h.row]; rfl
theorem Fm.c1 (h : Fm w gf bits probes room L κ gi gb gh gc f a1 a2) : w.cell? ⟨gf, 1, none⟩ = some (.pointer (some ⟨gb, 0, none⟩)) := by rw [cell_of_row _ _ _ _ _ _ h.row]; rfl
theorem Fm.c2 (h : Fm w gf bits probes room L κ gi gb gh gc f a1 a2) : w.cell? ⟨gf, 2, none⟩ = some (.pointer (some ⟨gc, 0, none⟩)) := by rw [cell_of_row _ _ _ _ _ _ h.row]; rfl
theorem Fm.c3 (h : Fm w gf bits probes room L κ gi gb gh gc f a1 a2) : w.cell? ⟨gf, 3, none⟩ = some (.int .i64 a1) := by rw [cell_of_row _ _ _ _ _ _ h.row]; rfl
theorem Fm.c4 (h : Fm w gf bits probes room L κ gi gb gh gc f a1 a2) : w.cell? ⟨gf, 4, none⟩ = some (.int .i64 a2) := by rw [cell_of_row _ _ _ _ _ _ h.row]; rfl
theorem Fm.all (h : Fm w gf bits probes room L κ gi gb gh gc f a1 a2) : Fd w gf bits probes room L (fun x => κ x ≠ 0) := ⟨κ, gi, gb, gh, gc, f, a1, a2, h, fun _ h => h⟩
end
theorem Fd.kept {w w' : World} {gf bits probes room : Nat} {L : List (Ky × (Nat × Nat))} {F F' R : Nat → Prop} (h : Fd w gf bits probes room L F) (hc : Chg R w w') (h1 : ∀ g, g < w.heap.size → F g → ¬ R g) (h2 : ∀ g, g < w.heap.size → F g → F' g) : Fd w' gf bits probes room L F' := by
  obtain ⟨κ, gi, gb, gh, gc, f, a1, a2, a, b⟩ := h.ex
  exact ⟨κ, gi, gb, gh, gc, f, a1, a2, a.chg hc (fun x hx => h1 x (a.lim x hx) (b x hx)), fun x hx => h2 x (a.lim x hx) (b x hx)⟩
theorem Fd.below {w w' : World} {gf bits probes room : Nat} {L : List (Ky × (Nat × Nat))} {F : Nat → Prop} (h : Fd w gf bits probes room L F) (hb : Below w.heap.size w w') : Fd w' gf bits probes room L F :=
  h.kept (R := fun _ => False) (Chg.belowAt hb) (fun _ _ _ h => h) (fun _ _ h => h)

section
variable {w : World} {gf bits probes room gi gb gh gc : Nat} {L : List (Ky × (Nat × Nat))} {κ : Nat → Nat} {f : Nat → Bool} {a1 a2 : Int}
theorem rows_any (h : Fm w gf bits probes room L κ gi gb gh gc f a1 a2) : Calls Tryz.prog 44 #[.pointer (some ⟨gf, 0, none⟩)] w fun e w' => e = .returned (.pointer (some ⟨gi, 0, none⟩)) ∧ w = w' := by
  have c0 := h.c0
  clear h
  go_enter Tryz.func44, Tryz.ntmps44
  go_wp2
  go_ret
  exact ⟨rfl, rfl⟩
set_option maxRecDepth 20000 in
theorem forget_any (h : Fm w gf bits probes room L κ gi gb gh gc f a1 a2) (k : Ky) (hk : k.Ok) (hL : lkp L k = none) : Calls Tryz.prog 87 #[.pointer (some ⟨gf, 0, none⟩), .agg k.cells.toArray] w fun e w' => e = .returned (.tuple #[]) ∧ Below w.heap.size w w' := by
  have hb1 := (Below.refl w.heap.size w).alloc (Nat.le_refl _) (.cells k.cells.toArray 64)
  have hr1 := heap_alloc_last w (.cells k.cells.toArray 64)
  obtain ⟨gp, gt, gs, T, S, a, _⟩ := (h.below hb1).ix.ex
  have hlt := (Nat.lt_of_lt_of_le (row_lt h.row) hb1.size)
  have c0 := (h.below hb1).c0
  have HKO := Lib.hid hk
  go_enter Tryz.func87, Tryz.ntmps87
  go_wp2_with fail
  obtain ⟨g3, hg3⟩ : ∃ g, g = w.heap.size := ⟨_, rfl⟩
  rw [← hg3] at hr1 ⊢
  generalize w.alloc (.cells k.cells.toArray 64) = w1 at *
  have HB1 := Lib.hid hb1
  have HK3 := Lib.hid (show w1.rangeAt g3 0 k.cells from range_row hr1)
  have HL3 := Lib.hid (row_lt hr1)
  have HLF := Lib.hid hlt
  have HC0 := Lib.hid c0
  have HGT := Lib.hid (fun (W : World) (hW : Below w1.heap.size w1 W) => IGet_any (w := W) ((hW.block gi (row_lt a.row)).trans a.row) (MapAt.below a.pl hW) k hk)
  rw [hL] at HGT
  simp only [Option.getD_none, Option.isSome_none, plV, Ky.val] at HGT
  clear hr1 hb1 a hlt c0 hg3 h
  --[
  refine wp_region_held_drew (S := fun w' => Below w1.heap.size w1 w') (by kernel_rfl) ((Below.refl _ _).drew) (fun hHeld => ?_)
  refine held_take 0 (some 7) (v := ?_) rfl rfl (by kernel_rfl) (by kernel_rfl) (by kernel_rfl) (fun _ _ _ h => h) (Or.inl ⟨by rfl, ?_⟩) hHeld ?_
  rotate_left
  · (intro w' hSw; clear hSw; go_simp; try with_reducible rfl)
  try simp only [Act.put, List.setIfInBounds_toArray, List.set_cons_zero, List.set_cons_succ]
  refine held_take 1 (some 8) (v := ?_) rfl rfl (by kernel_rfl) (by kernel_rfl) (by kernel_rfl) (fun _ _ _ h => h) (Or.inl ⟨by rfl, ?_⟩) hHeld ?_
  rotate_left
  · (intro w' hSw; clear hSw; go_simp; try with_reducible rfl)
  try simp only [Act.put, List.setIfInBounds_toArray, List.set_cons_zero, List.set_cons_succ]
  refine held_take 2 (some 9) (v := ?_) rfl rfl (by kernel_rfl) (by kernel_rfl) (by kernel_rfl) (fun _ _ _ h => h) (Or.inl ⟨by rfl, ?_⟩) hHeld ?_
  rotate_left
  · (intro w' hSw; clear hSw; go_simp; try with_reducible rfl)
  try simp only [Act.put, List.setIfInBounds_toArray, List.set_cons_zero, List.set_cons_succ]
  refine held_take 3 (some 10) (v := ?_) rfl rfl (by kernel_rfl) (by kernel_rfl) (by kernel_rfl) (fun _ _ _ h => h) (Or.inl ⟨by rfl, ?_⟩) hHeld ?_
  rotate_left
  · (intro w' hSw; have pf := (hSw.cell (p := ⟨gf, 0, none⟩) HLF.out).trans HC0.out; clear hSw; go_simp; try with_reducible rfl)
  try simp only [Act.put, List.setIfInBounds_toArray, List.set_cons_zero, List.set_cons_succ]
  refine held_take 4 (some 11) (v := .agg (k.cells).toArray) rfl rfl (by kernel_rfl) (by kernel_rfl) (by kernel_rfl) (fun _ _ _ h => h) (yieldsIf_load_mid (by rfl) 64 _ rfl g3 (0) rfl (k.cells) _ (fun w' h => rangeAt_block HK3.out (h.block g3 HL3.out)) Tryz.underlying64 rfl (sizeK HKO.out)) hHeld ?_
  try simp only [Act.put, List.setIfInBounds_toArray, List.set_cons_zero, List.set_cons_succ]
  refine wpAnyH_ready (rs := [5, 9]) (by kernel_rfl) (by simp) ?_
  refine AllReadyH.cons rfl (fun K hKK => ?_) (AllReadyH.cons rfl (fun K hKK => ?_) AllReadyH.nil)
  · go_simp
    go_at_call 79
    refine (HGT.out _ (hHeld)).mono ?_
    rintro e wc1 ⟨rfl, hc2⟩
    have hS3 := (hHeld).trans ((hc2).mono (hHeld).size)
    refine hKK.out _ _ hS3 (fun hHeld => ?_)
    clear hKK K
    try simp only [Act.put, List.setIfInBounds_toArray, List.set_cons_zero, List.set_cons_succ]
    refine held_take 6 (some 6) (v := ?_) rfl rfl (by kernel_rfl) (by kernel_rfl) (by kernel_rfl) (fun _ _ _ h => h) (Or.inl ⟨by rfl, ?_⟩) hHeld ?_
    rotate_left
    · (intro w' hSw; clear hSw; go_simp; try with_reducible rfl)
    try simp only [Act.put, List.setIfInBounds_toArray, List.set_cons_zero, List.set_cons_succ]
    refine held_take 7 (some 13) (v := ?_) rfl rfl (by kernel_rfl) (by kernel_rfl) (by kernel_rfl) (fun _ _ _ h => h) (Or.inl ⟨by rfl, ?_⟩) hHeld ?_
    rotate_left
    · (intro w' hSw; clear hSw; go_simp; try with_reducible rfl)
    try simp only [Act.put, List.setIfInBounds_toArray, List.set_cons_zero, List.set_cons_succ]
    refine held_take 8 (some 14) (v := ?_) rfl rfl (by kernel_rfl) (by kernel_rfl) (by kernel_rfl) (fun _ _ _ h => h) (Or.inl ⟨by rfl, ?_⟩) hHeld ?_
    rotate_left
    · (intro w' hSw; clear hSw; go_simp; try with_reducible rfl)
    try simp only [Act.put, List.setIfInBounds_toArray, List.set_cons_zero, List.set_cons_succ]
    refine wpAnyH_ready (rs := [9]) (by kernel_rfl) (by simp) ?_
    refine AllReadyH.cons rfl (fun K hKK => ?_) AllReadyH.nil
    have hga6 := (hHeld).size
    have hrA4 := heap_alloc_last wc1 (.cells (plC (0, 0)).toArray 82)
    have hS5 := (hHeld).alloc (hHeld).size (.cells (plC (0, 0)).toArray 82)
    refine step_val rfl (exec_alloc _ rfl (zeroPl _)) ?_
    refine hKK.out _ _ hS5 (fun hHeld => ?_)
    clear hKK K
    try simp only [Act.put, List.setIfInBounds_toArray, List.set_cons_zero, List.set_cons_succ]
    refine wpAnyH_ready (rs := [10]) (by kernel_rfl) (by simp) ?_
    refine AllReadyH.cons rfl (fun K hKK => ?_) AllReadyH.nil
    refine step_wp rfl (wp_store_row 82 _ _ rfl _ (plC (0, 0)).toArray rfl rfl 82 (plC (0, 0)).toArray hrA4 (sizePlA _) rfl (all_one (plC_one _)) ?_)
    have hS7 := (hHeld).grown (grown_setRow (wc1.alloc (.cells (plC (0, 0)).toArray 82)) wc1.heap.size (plC (0, 0)).toArray) (hHeld).size (fun k hk => by injection hk with hk; rw [← hk]; exact hga6)
    have hrF := setRow_heap _ _ _ (plC (0, 0)).toArray _ _ hrA4
    refine hKK.out _ _ hS7 (fun hHeld => ?_)
    clear hKK K
    try simp only [Act.put, List.setIfInBounds_toArray, List.set_cons_zero, List.set_cons_succ]
    refine held_take 11 (some 5) (v := ?_) rfl rfl (by kernel_rfl) (by kernel_rfl) (by kernel_rfl) (fun _ _ _ h => h) (Or.inl ⟨by rfl, ?_⟩) hHeld ?_
    rotate_left
    · (intro w' hSw; clear hSw; go_simp; try with_reducible rfl)
    try simp only [Act.put, List.setIfInBounds_toArray, List.set_cons_zero, List.set_cons_succ]
    refine wpAnyH_done (by kernel_rfl) ?_ _
    have HB6 := Lib.hid hHeld
    clear hHeld
    generalize ((wc1.alloc (.cells (plC (0, 0)).toArray 82)).setRow wc1.heap.size (plC (0, 0)).toArray) = w6 at *
    go_simp
    go_wp2_with fail
    go_end0
    exact ⟨rfl, HB1.out.trans (HB6.out.mono HB1.out.size)⟩
  · have hga10 := (hHeld).size
    have hrA8 := heap_alloc_last w1.drew (.cells (plC (0, 0)).toArray 82)
    have hS9 := (hHeld).alloc (hHeld).size (.cells (plC (0, 0)).toArray 82)
    refine step_val rfl (exec_alloc _ rfl (zeroPl _)) ?_
    refine hKK.out _ _ hS9 (fun hHeld => ?_)
    clear hKK K
    try simp only [Act.put, List.setIfInBounds_toArray, List.set_cons_zero, List.set_cons_succ]
    refine wpAnyH_ready (rs := [5]) (by kernel_rfl) (by simp) ?_
    refine AllReadyH.cons rfl (fun K hKK => ?_) AllReadyH.nil
    go_simp
    go_at_call 79
    refine (HGT.out _ (hHeld)).mono ?_
    rintro e wc11 ⟨rfl, hc12⟩
    have hS13 := (hHeld).trans ((hc12).mono (hHeld).size)
    have hrA14 := (hc12.block _ (row_lt hrA8)).trans hrA8
    refine hKK.out _ _ hS13 (fun hHeld => ?_)
    clear hKK K
    try simp only [Act.put, List.setIfInBounds_toArray, List.set_cons_zero, List.set_cons_succ]
    refine held_take 6 (some 6) (v := ?_) rfl rfl (by kernel_rfl) (by kernel_rfl) (by kernel_rfl) (fun _ _ _ h => h) (Or.inl ⟨by rfl, ?_⟩) hHeld ?_
    rotate_left
    · (intro w' hSw; clear hSw; go_simp; try with_reducible rfl)
    try simp only [Act.put, List.setIfInBounds_toArray, List.set_cons_zero, List.set_cons_succ]
    refine held_take 7 (some 13) (v := ?_) rfl rfl (by kernel_rfl) (by kernel_rfl) (by kernel_rfl) (fun _ _ _ h => h) (Or.inl ⟨by rfl, ?_⟩) hHeld ?_
    rotate_left
    · (intro w' hSw; clear hSw; go_simp; try with_reducible rfl)
    try simp only [Act.put, List.setIfInBounds_toArray, List.set_cons_zero, List.set_cons_succ]
    refine held_take 8 (some 14) (v := ?_) rfl rfl (by kernel_rfl) (by kernel_rfl) (by kernel_rfl) (fun _ _ _ h => h) (Or.inl ⟨by rfl, ?_⟩) hHeld ?_
    rotate_left
    · (intro w' hSw; clear hSw; go_simp; try with_reducible rfl)
    try simp only [Act.put, List.setIfInBounds_toArray, List.set_cons_zero, List.set_cons_succ]
    refine wpAnyH_ready (rs := [10]) (by kernel_rfl) (by simp) ?_
    refine AllReadyH.cons rfl (fun K hKK => ?_) AllReadyH.nil
    refine step_wp rfl (wp_store_row 82 _ _ rfl _ (plC (0, 0)).toArray rfl rfl 82 (plC (0, 0)).toArray hrA14 (sizePlA _) rfl (all_one (plC_one _)) ?_)
    have hS15 := (hHeld).grown (grown_setRow wc11 w1.drew.heap.size (plC (0, 0)).toArray) (hHeld).size (fun k hk => by injection hk with hk; rw [← hk]; exact hga10)
    have hrF := setRow_heap _ _ _ (plC (0, 0)).toArray _ _ hrA14
    refine hKK.out _ _ hS15 (fun hHeld => ?_)
    clear hKK K
    try simp only [Act.put, List.setIfInBounds_toArray, List.set_cons_zero, List.set_cons_succ]
    refine held_take 11 (some 5) (v := ?_) rfl rfl (by kernel_rfl) (by kernel_rfl) (by kernel_rfl) (fun _ _ _ h => h) (Or.inl ⟨by rfl, ?_⟩) hHeld ?_
    rotate_left
    · (intro w' hSw; clear hSw; go_simp; try with_reducible rfl)
    try simp only [Act.put, List.setIfInBounds_toArray, List.set_cons_zero, List.set_cons_succ]
    refine wpAnyH_done (by kernel_rfl) ?_ _
    have HB6 := Lib.hid hHeld
    clear hHeld
    generalize (wc11.setRow w1.drew.heap.size (plC (0, 0)).toArray) = w6 at *
    go_simp
    go_wp2_with fail
    go_end0
    exact ⟨rfl, HB1.out.trans (HB6.out.mono HB1.out.size)⟩
  --]
end
end Go.Proofs.YtcklcffepedklaaGreat

namespace Go.Proofs.YtcklcffepedklaaGreat
open Go.RowKit Go.Maps

theorem range_chg {R : Nat → Prop} {w w' : World} {g o : Nat} {cs : List Value} (h : w.rangeAt g o cs) (hc : Chg R w w') (hl : g < w.heap.size) (hr : ¬ R g) : w'.rangeAt g o cs := rangeAt_block h (hc.block g hl hr)
section
variable {w : World} {gf bits probes room gi gb gh gc : Nat} {L : List (Ky × (Nat × Nat))} {κ : Nat → Nat} {f : Nat → Bool} {a1 a2 : Int}
theorem puts_all (f : Nat → Bool) (l : List Nat) : l.all (Bl.puts f l) = true := by
  rw [List.all_eq_true]
  intro x hx
  simp [Bl.puts, hx]
set_option maxRecDepth 20000 in
set_option maxHeartbeats 1600000 in
theorem FPut_fm (h : Fm w gf bits probes room L κ gi gb gh gc f a1 a2) (k : Ky) (hk : k.Ok) (hL : lkp L k = none) (p : Nat × Nat) (hp : IntOk p.1 ∧ IntOk p.2) (hn : k.n = cnt L k.sum) (hn1 : k.n < 1000000000) :
    Calls Tryz.prog 65 #[.pointer (some ⟨gf, 0, none⟩), .agg k.cells.toArray, .agg (plC p).toArray] w fun e w' => e = .returned (.tuple #[]) ∧ Chg (fun x => κ x ≠ 0) w w' ∧ ∃ κ' f', Fm w' gf bits probes room (L ++ [(k, p)]) κ' gi gb gh gc f' a1 a2 ∧ ∀ x, κ' x ≠ 0 → κ x ≠ 0 ∨ w.heap.size ≤ x := by
  obtain ⟨g3, hg3⟩ : ∃ g, w.heap.size = g := ⟨_, rfl⟩
  have hb1 := (Below.refl w.heap.size w).alloc (Nat.le_refl _) (.cells k.cells.toArray 64)
  have hr1 := heap_alloc_last w (.cells k.cells.toArray 64)
  have hs1 : (w.alloc (.cells k.cells.toArray 64)).heap.size = w.heap.size + 1 := World.size_alloc _ _
  have hk3 : κ g3 = 0 := by rcases Nat.eq_zero_or_pos (κ g3) with e | e; exact e; have := h.lim g3 (by omega); omega
  have hk4 : κ (g3 + 1) = 0 := by rcases Nat.eq_zero_or_pos (κ (g3 + 1)) with e | e; exact e; have := h.lim (g3 + 1) (by omega); omega
  have HKO := Lib.hid hk
  have HH := Lib.hid h
  have HKN := Lib.hid (And.intro hn hn1)
  have HP := Lib.hid hp
  have HLN := Lib.hid hL
  have HLIM := Lib.hid h.lim
  have HKK := Lib.hid (And.intro hk3 hk4)
  clear hn hn1 hp hk hk3 hk4
  rw [hg3] at hr1 hs1
  go_enter Tryz.func65, Tryz.ntmps65
  obtain ⟨w1, hw1⟩ : ∃ w1, w.alloc (.cells k.cells.toArray 64) = w1 := ⟨_, rfl⟩
  rw [hw1] at hb1 hr1 hs1
  have hb2 := (Below.refl w1.heap.size w1).alloc (Nat.le_refl _) (.cells (plC p).toArray 82)
  have hr2 := heap_alloc_last w1 (.cells (plC p).toArray 82)
  have hs2 : (w1.alloc (.cells (plC p).toArray 82)).heap.size = w1.heap.size + 1 := World.size_alloc _ _
  obtain ⟨w2, hw2⟩ : ∃ w2, w1.alloc (.cells (plC p).toArray 82) = w2 := ⟨_, rfl⟩
  rw [hw2] at hb2 hr2 hs2
  rw [hs1] at hr2 hs2
  have hr12 := (hb2.block g3 (by omega)).trans hr1
  have HB2 := Lib.hid (show Below g3 w w2 from hg3 ▸ below_trans hb1 hb2 hb1.size)
  have HK3 := Lib.hid (show w2.rangeAt g3 0 k.cells from range_row hr12)
  have HK4 := Lib.hid (show w2.rangeAt (g3 + 1) 0 (plC p) from range_row hr2)
  have HS2 := Lib.hid (And.intro hg3 hs2)
  have H2 := Lib.hid (h.below (by rw [hg3]; exact HB2.out))
  have HFG := Lib.hid (forget_any H2.out k HKO.out hL)
  clear hb1 hr1 hb2 hr2 hr12
  go_wp2_with (with_reducible refine Go.wpList_load_mid rfl 64 _ rfl g3 (0) rfl (k).cells _ HK3.out Tryz.underlying64 rfl (sizeK HKO.out) ?_)
  refine HFG.out.mono ?_
  rintro e w3 ⟨rfl, hb3⟩
  have H3 := Lib.hid (H2.out.below hb3)
  have HP3 := Lib.hid (rangeAt_block HK4.out (hb3.block (g3 + 1) (by have := HS2.out; omega)))
  have HK3' := Lib.hid (rangeAt_block HK3.out (hb3.block g3 (by have := HS2.out; omega)))
  have hs3 := hb3.size
  have HL3 := Lib.hid (show gf < w3.heap.size ∧ g3 < w3.heap.size ∧ g3 + 1 < w3.heap.size from ⟨row_lt H3.out.row, by have := HS2.out; omega, by have := HS2.out; omega⟩)
  have HN3 := Lib.hid (show ¬ κ gf = 4 ∧ ¬ κ g3 = 4 ∧ ¬ κ (g3 + 1) = 4 from by have := H3.out.kf; have := HKK.out; omega)
  have HD3 := Lib.hid (CDrop_any (w := w3.drew) (H3.out.ca.below (Below.refl _ _).drew) p.1 HP.out.1)
  have HB3 := Lib.hid (HB2.out.trans (hb3.mono (by have := HS2.out; omega)))
  clear HFG hb3 HK3 HK4 hs3
  go_upto_region 3 with (fail)
  --[3
  refine wp_region_held_drew (S := fun w' => Chg (fun x => κ x = 4) w3 w') (by kernel_rfl) (((Chg.refl _ _).drewN 1)) (fun hHeld => ?_)
  refine held_take 0 (some 11) (v := ?_) rfl rfl (by kernel_rfl) (by kernel_rfl) (by kernel_rfl) (fun _ _ _ h => h) (Or.inl ⟨by rfl, ?_⟩) hHeld ?_
  rotate_left
  · (intro w' hSw; clear hSw; go_simp; try with_reducible rfl)
  try simp only [Act.put, List.setIfInBounds_toArray, List.set_cons_zero, List.set_cons_succ]
  refine held_take 1 (some 12) (v := ?_) rfl rfl (by kernel_rfl) (by kernel_rfl) (by kernel_rfl) (fun _ _ _ h => h) (Or.inl ⟨by rfl, ?_⟩) hHeld ?_
  rotate_left
  · (intro w' hSw; clear hSw; go_simp; try with_reducible rfl)
  try simp only [Act.put, List.setIfInBounds_toArray, List.set_cons_zero, List.set_cons_succ]
  refine held_take 2 (some 13) (v := ?_) rfl rfl (by kernel_rfl) (by kernel_rfl) (by kernel_rfl) (fun _ _ _ h => h) (Or.inl ⟨by rfl, ?_⟩) hHeld ?_
  rotate_left
  · (intro w' hSw; clear hSw; go_simp; try with_reducible rfl)
  try simp only [Act.put, List.setIfInBounds_toArray, List.set_cons_zero, List.set_cons_succ]
  refine held_take 3 (some 14) (v := ?_) rfl rfl (by kernel_rfl) (by kernel_rfl) (by kernel_rfl) (fun _ _ _ h => h) (Or.inl ⟨by rfl, ?_⟩) hHeld ?_
  rotate_left
  · (intro w' hSw; have pf := (hSw.cell (p := ⟨gf, 2, none⟩) HL3.out.1 HN3.out.1).trans H3.out.c2; clear hSw; go_simp; try with_reducible rfl)
  try simp only [Act.put, List.setIfInBounds_toArray, List.set_cons_zero, List.set_cons_succ]
  refine held_take 4 (some 15) (v := ?_) rfl rfl (by kernel_rfl) (by kernel_rfl) (by kernel_rfl) (fun _ _ _ h => h) (Or.inl ⟨by rfl, ?_⟩) hHeld ?_
  rotate_left
  · (intro w' hSw; clear hSw; go_simp; try with_reducible rfl)
  try simp only [Act.put, List.setIfInBounds_toArray, List.set_cons_zero, List.set_cons_succ]
  refine held_take 5 (some 16) (v := ?_) rfl rfl (by kernel_rfl) (by kernel_rfl) (by kernel_rfl) (fun _ _ _ h => h) (Or.inl ⟨by rfl, ?_⟩) hHeld ?_
  rotate_left
  · (intro w' hSw; have pf := range_chg HP3.out hSw HL3.out.2.2 HN3.out.2.2 0 _ rfl; clear hSw; go_simp; try with_reducible rfl)
  try simp only [Act.put, List.setIfInBounds_toArray, List.set_cons_zero, List.set_cons_succ]
  refine wpAnyH_ready (rs := [6]) (by kernel_rfl) (by simp) ?_
  refine AllReadyH.cons rfl (fun K hKK => ?_) AllReadyH.nil
  go_simp
  go_at_call 88
  refine (HD3.out).mono ?_
  rintro e w4 ⟨ok4, rfl, hc4, hca4⟩
  have hS17 := ((Chg.refl _ _).drewN 1).trans hc4
  refine hKK.out _ _ hS17 (fun hHeld => ?_)
  clear hKK K
  try simp only [Act.put, List.setIfInBounds_toArray, List.set_cons_zero, List.set_cons_succ]
  refine wpAnyH_done (by kernel_rfl) ?_ _
  have HC4 := Lib.hid hHeld
  have HCA4 := Lib.hid hca4
  clear hHeld hc4 hca4
  --]3
  obtain ⟨κ1, hκ1⟩ : ∃ κ1, κ1 = cut κ w3.heap.size w4.heap.size 4 := ⟨_, rfl⟩
  have HQ1 := Lib.hid hκ1
  have hs34 := HC4.out.size
  have H4 := Lib.hid (show Fm w4 gf bits probes room L κ1 gi gb gh gc f a1 a2 from hκ1 ▸ H3.out.cch HC4.out (HCA4.out.kept (R := fun _ => False) (Chg.refl _ _) (fun _ _ _ h => h) (fun _ _ h => .inl h)))
  have HKK1 := Lib.hid (show κ1 g3 = 0 ∧ κ1 (g3 + 1) = 0 from by rw [hκ1, cut_old HL3.out.2.1, cut_old HL3.out.2.2]; exact HKK.out)
  have HK4 := Lib.hid (range_chg HK3'.out HC4.out HL3.out.2.1 HN3.out.2.1)
  have HP4 := Lib.hid (range_chg HP3.out HC4.out HL3.out.2.2 HN3.out.2.2)
  have HL4 := Lib.hid (show gf < w4.heap.size ∧ g3 < w4.heap.size ∧ g3 + 1 < w4.heap.size from by have := HL3.out; omega)
  have HN4 := Lib.hid (show ¬ gf = gh ∧ ¬ g3 = gh ∧ ¬ g3 + 1 = gh from by
    have h1 := H4.out.kf
    have h2 := H4.out.kh
    have h3 := HKK1.out
    refine ⟨fun e => ?_, fun e => ?_, fun e => ?_⟩
    · rw [e] at h1; omega
    · rw [e] at h3; omega
    · rw [e] at h3; omega)
  have HD4 := Lib.hid (Bl.Add_any gb gh bits probes f k.cells.toArray (bytK k) k.n w4.drew (H4.out.vec.kept (grown_drewN (World.grownBy.refl _ none) 1) (by simp) (by simp)) H4.out.ne (keyC HKO.out))
  clear hs34 hκ1
  go_upto_region 4 with (fail)
  --[4
  refine wp_region_held_drew (S := fun w' => Chg (fun x => x = gh) w4 w') (by kernel_rfl) (((Chg.refl _ _).drewN 1)) (fun hHeld => ?_)
  refine held_take 0 (some 18) (v := ?_) rfl rfl (by kernel_rfl) (by kernel_rfl) (by kernel_rfl) (fun _ _ _ h => h) (Or.inl ⟨by rfl, ?_⟩) hHeld ?_
  rotate_left
  · (intro w' hSw; clear hSw; go_simp; try with_reducible rfl)
  try simp only [Act.put, List.setIfInBounds_toArray, List.set_cons_zero, List.set_cons_succ]
  refine held_take 1 (some 19) (v := ?_) rfl rfl (by kernel_rfl) (by kernel_rfl) (by kernel_rfl) (fun _ _ _ h => h) (Or.inl ⟨by rfl, ?_⟩) hHeld ?_
  rotate_left
  · (intro w' hSw; clear hSw; go_simp; try with_reducible rfl)
  try simp only [Act.put, List.setIfInBounds_toArray, List.set_cons_zero, List.set_cons_succ]
  refine held_take 2 (some 20) (v := ?_) rfl rfl (by kernel_rfl) (by kernel_rfl) (by kernel_rfl) (fun _ _ _ h => h) (Or.inl ⟨by rfl, ?_⟩) hHeld ?_
  rotate_left
  · (intro w' hSw; clear hSw; go_simp; try with_reducible rfl)
  try simp only [Act.put, List.setIfInBounds_toArray, List.set_cons_zero, List.set_cons_succ]
  refine held_take 3 (some 21) (v := ?_) rfl rfl (by kernel_rfl) (by kernel_rfl) (by kernel_rfl) (fun _ _ _ h => h) (Or.inl ⟨by rfl, ?_⟩) hHeld ?_
  rotate_left
  · (intro w' hSw; have pf := (hSw.cell (p := ⟨gf, 1, none⟩) HL4.out.1 HN4.out.1).trans H4.out.c1; clear hSw; go_simp; try with_reducible rfl)
  try simp only [Act.put, List.setIfInBounds_toArray, List.set_cons_zero, List.set_cons_succ]
  refine held_take 4 (some 22) (v := .agg (k.cells).toArray) rfl rfl (by kernel_rfl) (by kernel_rfl) (by kernel_rfl) (fun _ _ _ h => h) (yieldsIf_load_mid (by rfl) 64 _ rfl g3 (0) rfl (k.cells) _ (fun w' h => range_chg HK4.out h HL4.out.2.1 HN4.out.2.1) Tryz.underlying64 rfl (sizeK HKO.out)) hHeld ?_
  try simp only [Act.put, List.setIfInBounds_toArray, List.set_cons_zero, List.set_cons_succ]
  refine wpAnyH_ready (rs := [5]) (by kernel_rfl) (by simp) ?_
  refine AllReadyH.cons rfl (fun K hKK => ?_) AllReadyH.nil
  go_simp
  go_at_call 89
  refine (HD4.out).mono ?_
  rintro e w5 ⟨rfl, hg5, hv5⟩
  have hS19 := ((Chg.refl _ _).drewN 1).trans ((Chg.of hg5).mono (fun x e => by injection e))
  refine hKK.out _ _ hS19 (fun hHeld => ?_)
  clear hKK K
  try simp only [Act.put, List.setIfInBounds_toArray, List.set_cons_zero, List.set_cons_succ]
  refine wpAnyH_done (by kernel_rfl) ?_ _
  have HC5 := Lib.hid hHeld
  have HV5 := Lib.hid hv5
  have HG5 := Lib.hid (show w4.grownBy w5 (some gh) from ⟨hg5.os, hg5.tape, hg5.output, hg5.size, hg5.block⟩)
  clear hHeld hg5 hv5
  --]4
  have H5 := Lib.hid (H4.out.bch HG5.out _ HV5.out)
  have HK5 := Lib.hid (range_chg HK4.out HC5.out HL4.out.2.1 HN4.out.2.1)
  have HP5 := Lib.hid (range_chg HP4.out HC5.out HL4.out.2.2 HN4.out.2.2)
  have HL5 := Lib.hid (show gf < w5.heap.size ∧ g3 < w5.heap.size ∧ g3 + 1 < w5.heap.size from by have := HL4.out; have := HC5.out.size; omega)
  have HN5 := Lib.hid (show ¬ κ1 gf = 2 ∧ ¬ κ1 g3 = 2 ∧ ¬ κ1 (g3 + 1) = 2 from by have := H5.out.kf; have := HKK1.out; omega)
  have HD5 := Lib.hid (IPut_any (w := w5.drew) (H5.out.ix.below (Below.refl _ _).drew) k HKO.out HLN.out p HP.out HKN.out.1 HKN.out.2)
  go_upto_region 5 with (fail)
  --[5
  refine wp_region_held_drew (S := fun w' => Chg (fun x => κ1 x = 2) w5 w') (by kernel_rfl) (((Chg.refl _ _).drewN 1)) (fun hHeld => ?_)
  refine held_take 0 (some 24) (v := ?_) rfl rfl (by kernel_rfl) (by kernel_rfl) (by kernel_rfl) (fun _ _ _ h => h) (Or.inl ⟨by rfl, ?_⟩) hHeld ?_
  rotate_left
  · (intro w' hSw; clear hSw; go_simp; try with_reducible rfl)
  try simp only [Act.put, List.setIfInBounds_toArray, List.set_cons_zero, List.set_cons_succ]
  refine held_take 1 (some 25) (v := ?_) rfl rfl (by kernel_rfl) (by kernel_rfl) (by kernel_rfl) (fun _ _ _ h => h) (Or.inl ⟨by rfl, ?_⟩) hHeld ?_
  rotate_left
  · (intro w' hSw; clear hSw; go_simp; try with_reducible rfl)
  try simp only [Act.put, List.setIfInBounds_toArray, List.set_cons_zero, List.set_cons_succ]
  refine held_take 2 (some 26) (v := ?_) rfl rfl (by kernel_rfl) (by kernel_rfl) (by kernel_rfl) (fun _ _ _ h => h) (Or.inl ⟨by rfl, ?_⟩) hHeld ?_
  rotate_left
  · (intro w' hSw; clear hSw; go_simp; try with_reducible rfl)
  try simp only [Act.put, List.setIfInBounds_toArray, List.set_cons_zero, List.set_cons_succ]
  refine held_take 3 (some 27) (v := ?_) rfl rfl (by kernel_rfl) (by kernel_rfl) (by kernel_rfl) (fun _ _ _ h => h) (Or.inl ⟨by rfl, ?_⟩) hHeld ?_
  rotate_left
  · (intro w' hSw; have pf := (hSw.cell (p := ⟨gf, 0, none⟩) HL5.out.1 HN5.out.1).trans H5.out.c0; clear hSw; go_simp; try with_reducible rfl)
  try simp only [Act.put, List.setIfInBounds_toArray, List.set_cons_zero, List.set_cons_succ]
  refine held_take 4 (some 28) (v := .agg (k.cells).toArray) rfl rfl (by kernel_rfl) (by kernel_rfl) (by kernel_rfl) (fun _ _ _ h => h) (yieldsIf_load_mid (by rfl) 64 _ rfl g3 (0) rfl (k.cells) _ (fun w' h => range_chg HK5.out h HL5.out.2.1 HN5.out.2.1) Tryz.underlying64 rfl (sizeK HKO.out)) hHeld ?_
  try simp only [Act.put, List.setIfInBounds_toArray, List.set_cons_zero, List.set_cons_succ]
  refine held_take 5 (some 29) (v := .agg ((plC p)).toArray) rfl rfl (by kernel_rfl) (by kernel_rfl) (by kernel_rfl) (fun _ _ _ h => h) (yieldsIf_load_mid (by rfl) 82 _ rfl (g3 + 1) (0) rfl ((plC p)) _ (fun w' h => range_chg HP5.out h HL5.out.2.2 HN5.out.2.2) Tryz.underlying82 rfl (sizePl p)) hHeld ?_
  try simp only [Act.put, List.setIfInBounds_toArray, List.set_cons_zero, List.set_cons_succ]
  refine wpAnyH_ready (rs := [6]) (by kernel_rfl) (by simp) ?_
  refine AllReadyH.cons rfl (fun K hKK => ?_) AllReadyH.nil
  go_simp
  go_at_call 90
  refine (HD5.out).mono ?_
  rintro e w6 ⟨rfl, hc6, hx6⟩
  have hS21 := ((Chg.refl _ _).drewN 1).trans hc6
  refine hKK.out _ _ hS21 (fun hHeld => ?_)
  clear hKK K
  try simp only [Act.put, List.setIfInBounds_toArray, List.set_cons_zero, List.set_cons_succ]
  refine wpAnyH_done (by kernel_rfl) ?_ _
  have HC6 := Lib.hid hHeld
  have HX6 := Lib.hid hx6
  clear hHeld hc6 hx6
  --]5
  have H6 := Lib.hid (H5.out.ich HLN.out (puts_all _ _) HC6.out HX6.out)
  go_simp
  go_end0
  refine ⟨rfl, ?_, _, _, H6.out, ?_⟩
  · have h3 : Chg (fun x => κ x ≠ 0) w w3 := Chg.belowAt (by rw [hg3]; exact HB3.out)
    have s3 := h3.size
    refine ((h3.trans2 HC4.out (fun x _ e => by omega)).trans2 HC5.out (fun x _ e => by rw [e]; have := h.kh; omega)).trans2 HC6.out (fun x hx e => ?_)
    rw [HQ1.out, cut_old (by omega)] at e
    omega
  · intro x hx
    rcases cut_from x hx with h1 | h1
    · rw [HQ1.out] at h1
      rcases cut_from x h1 with h2 | h2
      · exact .inl h2
      · exact .inr (by have := HS2.out; have := HL3.out; omega)
    · exact .inr (by have := HS2.out; have := HL5.out; omega)
end
/-- find.Put, of a chunk that is not there. -/
theorem FPut_any {w : World} {gf bits probes room : Nat} {L : List (Ky × (Nat × Nat))} {F : Nat → Prop} (h : Fd w gf bits probes room L F) (k : Ky) (hk : k.Ok) (hL : lkp L k = none) (p : Nat × Nat) (hp : IntOk p.1 ∧ IntOk p.2) (hn : k.n = cnt L k.sum) (hn1 : k.n < 1000000000) :
    Calls Tryz.prog 65 #[.pointer (some ⟨gf, 0, none⟩), .agg k.cells.toArray, .agg (plC p).toArray] w fun e w' => e = .returned (.tuple #[]) ∧ Chg F w w' ∧ Fd w' gf bits probes room (L ++ [(k, p)]) (fun x => F x ∨ w.heap.size ≤ x) := by
  obtain ⟨κ, gi, gb, gh, gc, f, a1, a2, a, b⟩ := h.ex
  refine (FPut_fm a k hk hL p hp hn hn1).mono ?_
  rintro e w' ⟨rfl, hc, κ', f', h', hf⟩
  exact ⟨rfl, hc.mono b, κ', gi, gb, gh, gc, f', a1, a2, h', fun x hx => (hf x hx).imp (b x) id⟩
end Go.Proofs.YtcklcffepedklaaGreat

namespace Go.Proofs.YtcklcffepedklaaGreat
open Go.RowKit Go.Maps

theorem sizeS {d : List Int} (h : SumOk d) : (Tryz.prog.info? 62).map (·.size) = some (d.map (Value.int .u8)).length := by rw [List.length_map, h.len]; kernel_rfl
set_option maxRecDepth 20000 in
theorem FTwins_any {w : World} {gf bits probes room : Nat} {L : List (Ky × (Nat × Nat))} {F : Nat → Prop} (h : Fd w gf bits probes room L F) (d : List Int) (hd : SumOk d) (m : Nat) (hm : m = cnt L d) (hm1 : m < 1000000000) :
    Calls Tryz.prog 36 #[.pointer (some ⟨gf, 0, none⟩), .agg (cellsOf d)] w fun e w' => ∃ v, e = .returned v ∧ OwnK w' w.heap.size v (twL d m) ∧ Below w.heap.size w w' := by
  obtain ⟨κ, gi, gb, gh, gc, f, a1, a2, a, b⟩ := h.ex
  have hb1 := (Below.refl w.heap.size w).alloc (Nat.le_refl _) (.cells (cellsOf d) 62)
  have hr1 := heap_alloc_last w (.cells (cellsOf d) 62)
  obtain ⟨g3, hg3⟩ : ∃ g, w.heap.size = g := ⟨_, rfl⟩
  have HB1 := Lib.hid hb1
  rw [hg3] at hr1
  obtain ⟨w1, hw1⟩ : ∃ w1, w.alloc (.cells (cellsOf d) 62) = w1 := ⟨_, rfl⟩
  rw [hw1] at hb1 hr1 HB1
  have H1 := Lib.hid (a.below hb1)
  have HL3 := Lib.hid (row_lt hr1)
  have HD := Lib.hid hd
  have HS3 := Lib.hid (show w1.rangeAt g3 0 (d.map (Value.int .u8)) from range_row hr1)
  have HRW := Lib.hid (fun (W : World) (hW : Below w1.heap.size w1 W) => rows_any (H1.out.below hW))
  have HTW := Lib.hid (fun (W : World) (hW : Below w1.heap.size w1 W) => ITwins_any (w := W) (H1.out.ix.below hW) d hd m hm hm1)
  clear hb1 hr1 hd hm hm1 a b h
  go_enter Tryz.func36, Tryz.ntmps36
  go_upto_region 1 with (fail)
  --[
  refine wp_region_held_drew (S := fun w' => Below w1.heap.size w1 w') (by kernel_rfl) ((Below.refl _ _).drew) (fun hHeld => ?_)
  refine held_take 0 (some 5) (v := ?_) rfl rfl (by kernel_rfl) (by kernel_rfl) (by kernel_rfl) (fun _ _ _ h => h) (Or.inl ⟨by rfl, ?_⟩) hHeld ?_
  rotate_left
  · (intro w' hSw; clear hSw; go_simp; try with_reducible rfl)
  try simp only [Act.put, List.setIfInBounds_toArray, List.set_cons_zero, List.set_cons_succ]
  refine held_take 2 (some 7) (v := .agg (d.map (Value.int .u8)).toArray) rfl rfl (by kernel_rfl) (by kernel_rfl) (by kernel_rfl) (fun _ _ _ h => h) (yieldsIf_load_mid (by rfl) 62 _ rfl g3 (0) rfl (d.map (Value.int .u8)) _ (fun w' h => rangeAt_block HS3.out (h.block g3 HL3.out)) Tryz.underlying62 rfl (sizeS HD.out)) hHeld ?_
  try simp only [Act.put, List.setIfInBounds_toArray, List.set_cons_zero, List.set_cons_succ]
  refine wpAnyH_ready (rs := [1]) (by kernel_rfl) (by simp) ?_
  refine AllReadyH.cons rfl (fun K hKK => ?_) AllReadyH.nil
  go_simp
  go_at_call 44
  refine (HRW.out _ hHeld).mono ?_
  rintro e w' ⟨rfl, rfl⟩
  refine hKK.out _ _ hHeld (fun hHeld => ?_)
  clear hKK K
  try simp only [Act.put, List.setIfInBounds_toArray, List.set_cons_zero, List.set_cons_succ]
  refine wpAnyH_ready (rs := [3]) (by kernel_rfl) (by simp) ?_
  refine AllReadyH.cons rfl (fun K hKK => ?_) AllReadyH.nil
  go_simp
  go_at_call 60
  refine (HTW.out _ hHeld).mono ?_
  rintro e w2 ⟨v, rfl, how, hc22⟩
  have hsw := Lib.hid (show w1.heap.size ≤ w1.drew.heap.size from Nat.le_refl _)
  have hS23 := (hHeld).trans ((hc22).mono (hHeld).size)
  refine hKK.out _ _ hS23 (fun hHeld => ?_)
  clear hKK K
  try simp only [Act.put, List.setIfInBounds_toArray, List.set_cons_zero, List.set_cons_succ]
  refine held_take 4 (some 4) (v := ?_) rfl rfl (by kernel_rfl) (by kernel_rfl) (by kernel_rfl) (fun _ _ _ h => h) (Or.inl ⟨by rfl, ?_⟩) hHeld ?_
  rotate_left
  · (intro w' hSw; clear hSw; go_simp; try with_reducible rfl)
  try simp only [Act.put, List.setIfInBounds_toArray, List.set_cons_zero, List.set_cons_succ]
  refine wpAnyH_done (by kernel_rfl) ?_ _
  --]
  have HB2 := Lib.hid hHeld
  have HOW := Lib.hid how
  have HG3 := Lib.hid hg3
  clear hHeld how hg3
  go_wp2
  go_ret
  exact ⟨v, rfl, ownsRow_base HOW.out (Nat.le_trans HB1.out.size hsw.out), HB1.out.trans (HB2.out.mono HB1.out.size)⟩
set_option maxRecDepth 20000 in
theorem FShelf_any {w : World} {gf bits probes room : Nat} {L : List (Ky × (Nat × Nat))} {F : Nat → Prop} (h : Fd w gf bits probes room L F) (hm1 : L.length < 1000000000) (s : Nat) (hs : IntOk s) (hS : ∃ k p, lkp L k = some p ∧ p.1 = s) :
    Calls Tryz.prog 81 #[.pointer (some ⟨gf, 0, none⟩), .int .i64 s] w fun e w' => ∃ v l, e = .returned v ∧ OwnR w' w.heap.size v l ∧ (∀ x ∈ l, lkp L x.val.1 = some x.val.2) ∧ l.length < 1000000000 ∧ Below w.heap.size w w' := by
  obtain ⟨κ, gi, gb, gh, gc, f, a1, a2, a, b⟩ := h.ex
  have HRW := Lib.hid (rows_any a)
  have HSH := Lib.hid (IShelf_any a.ix hm1 s hs hS)
  clear h a b hm1 hs hS
  go_enter Tryz.func81, Tryz.ntmps81
  go_wp2_with (go_at_call 44; refine HRW.out.mono ?_; rintro e w' ⟨rfl, rfl⟩)
  refine HSH.out.mono ?_
  rintro e w' ⟨v, l, rfl, h1, h2, h3, h4⟩
  have H1 := Lib.hid h1
  have H2 := Lib.hid h2
  have H4 := Lib.hid h4
  clear h1 h2 h4 HSH HRW
  go_wp2
  go_ret
  exact ⟨v, l, rfl, H1.out, H2.out, h3, H4.out⟩
set_option maxRecDepth 20000 in
theorem FAll_any {w : World} {gf bits probes room : Nat} {L : List (Ky × (Nat × Nat))} {F : Nat → Prop} (h : Fd w gf bits probes room L F) (hm1 : L.length < 1000000000) :
    Calls Tryz.prog 24 #[.pointer (some ⟨gf, 0, none⟩)] w fun e w' => ∃ v l, e = .returned v ∧ OwnR w' w.heap.size v l ∧ l.length = L.length ∧ Below w.heap.size w w' := by
  obtain ⟨κ, gi, gb, gh, gc, f, a1, a2, a, b⟩ := h.ex
  have HRW := Lib.hid (rows_any a)
  have HSH := Lib.hid (IAll_any a.ix hm1)
  clear h a b hm1
  go_enter Tryz.func24, Tryz.ntmps24
  go_wp2_with (go_at_call 44; refine HRW.out.mono ?_; rintro e w' ⟨rfl, rfl⟩)
  refine HSH.out.mono ?_
  rintro e w' ⟨v, l, rfl, h1, h2, h4⟩
  have H1 := Lib.hid h1
  have H2 := Lib.hid h2
  have H4 := Lib.hid h4
  clear h1 h2 h4 HSH HRW
  go_wp2
  go_ret
  exact ⟨v, l, rfl, H1.out, H2.out, H4.out⟩
end Go.Proofs.YtcklcffepedklaaGreat

namespace Go.Proofs.YtcklcffepedklaaGreat
open Go.RowKit Go.Maps

theorem fd_made {w w1 w2 w3 w4 : World} {gi gp gt gs gc bits probes room : Nat} (hb1 : Below w.heap.size w w1) (hs1 : w1.heap.size = w.heap.size + 2) (hv : Bl.Vec w1 (w.heap.size + 1) w.heap.size bits probes (fun _ => false)) (hb2 : Below w1.heap.size w1 w2) (hca : Ca w2 gc room [] (fun k => w1.heap.size ≤ k))
    (hb3 : Below w2.heap.size w2 w3) (hI : Ir w3 gi gp gt gs [] [] []) (hg : ∀ g ∈ ixB gi gp gt gs [] [], w2.heap.size ≤ g) (h4 : w3.alloc (.cells #[.pointer (some ⟨gi, 0, none⟩), .pointer (some ⟨w.heap.size + 1, 0, none⟩), .pointer (some ⟨gc, 0, none⟩), .int .i64 0, .int .i64 0] 133) = w4) :
    Fd w4 w3.heap.size bits probes room [] (fun x => w.heap.size ≤ x) ∧ Below w.heap.size w w4 := by
  subst h4
  have hr := heap_alloc_last w3 (.cells #[.pointer (some ⟨gi, 0, none⟩), .pointer (some ⟨w.heap.size + 1, 0, none⟩), .pointer (some ⟨gc, 0, none⟩), .int .i64 0, .int .i64 0] 133)
  have hb4 := (Below.refl w3.heap.size w3).alloc (Nat.le_refl _) (.cells #[.pointer (some ⟨gi, 0, none⟩), .pointer (some ⟨w.heap.size + 1, 0, none⟩), .pointer (some ⟨gc, 0, none⟩), .int .i64 0, .int .i64 0] 133)
  have hs4 : (w3.alloc (.cells #[.pointer (some ⟨gi, 0, none⟩), .pointer (some ⟨w.heap.size + 1, 0, none⟩), .pointer (some ⟨gc, 0, none⟩), .int .i64 0, .int .i64 0] 133)).heap.size = w3.heap.size + 1 := World.size_alloc _ _
  generalize w3.alloc _ = w4 at *
  have s2 := hb2.size
  have s3 := hb3.size
  have s4 := hb4.size
  have hv4 : Bl.Vec w4 (w.heap.size + 1) w.heap.size bits probes (fun _ => false) :=
    vec_chg (R := fun _ => False) (vec_chg (R := fun _ => False) (vec_chg (R := fun _ => False) hv (Chg.belowAt hb2) (fun h => h) (fun h => h)) (Chg.belowAt hb3) (fun h => h) (fun h => h)) (Chg.belowAt hb4) (fun h => h) (fun h => h)
  obtain ⟨κ, hκ⟩ : ∃ κ : Nat → Nat, κ = fun x => if x < w.heap.size then 0 else if x < w1.heap.size then 3 else if x < w2.heap.size then 4 else if x < w3.heap.size then 2 else if x < w4.heap.size then 1 else 0 := ⟨_, rfl⟩
  have k3 : ∀ x, w.heap.size ≤ x → x < w1.heap.size → κ x = 3 := fun x a b => by rw [hκ]; simp only; rw [if_neg (by omega), if_pos b]
  have k4 : ∀ x, w1.heap.size ≤ x → x < w2.heap.size → κ x = 4 := fun x a b => by rw [hκ]; simp only; rw [if_neg (by omega), if_neg (by omega), if_pos b]
  have k2 : ∀ x, w2.heap.size ≤ x → x < w3.heap.size → κ x = 2 := fun x a b => by rw [hκ]; simp only; rw [if_neg (by omega), if_neg (by omega), if_neg (by omega), if_pos b]
  have k1 : ∀ x, w3.heap.size ≤ x → x < w4.heap.size → κ x = 1 := fun x a b => by rw [hκ]; simp only; rw [if_neg (by omega), if_neg (by omega), if_neg (by omega), if_neg (by omega), if_pos b]
  have kl : ∀ x, κ x ≠ 0 → w.heap.size ≤ x ∧ x < w4.heap.size := fun x hx => by
    rw [hκ] at hx
    simp only at hx
    split at hx
    · exact absurd rfl hx
    · refine ⟨by omega, ?_⟩
      split at hx
      · omega
      · split at hx
        · omega
        · split at hx
          · omega
          · split at hx
            · omega
            · exact absurd rfl hx
  refine ⟨⟨κ, gi, _, _, gc, _, 0, 0, ⟨hr, ⟨gp, gt, gs, [], [], hI.below hb4, ⟨fun d => rfl, fun s x h => (by cases h), fun k p h => (by cases h), fun s x h => (by cases h)⟩, fun g h => k2 g (hg g h) (hI.lt g h)⟩, hv4, by omega, (hca.bound.below hb3).kept (R := fun _ => False) (Chg.belowAt hb4) (fun _ _ _ h => h) (fun x _ h => k4 x h.1 h.2), fun k p h => (by cases h), k1 _ (Nat.le_refl _) (by omega), k3 _ (by omega) (by omega), k3 _ (Nat.le_refl _) (by omega), fun x hx => (kl x hx).2⟩, fun x hx => (kl x hx).1⟩, ?_⟩
  exact below_trans (below_trans (below_trans hb1 hb2 (by omega)) hb3 (by omega)) hb4 (by omega)
set_option maxRecDepth 20000 in
theorem FNew_any (w : World) (bits probes room : Nat) (h1 : bits ≤ 1048576) (h2 : probes ≤ 30) (h3 : room ≤ 4096) :
    Calls Tryz.prog 30 #[.int .i64 bits, .int .i64 probes, .int .i64 room] w fun e w' => ∃ gf, e = .returned (.tuple #[.pointer (some ⟨gf, 0, none⟩), .int .i64 0]) ∧ Fd w' gf bits probes room [] (fun x => w.heap.size ≤ x) ∧ Below w.heap.size w w' := by
  have HB := Lib.hid (Bl.New_any bits probes w h1 h2)
  go_enter Tryz.func30, Tryz.ntmps30
  go_wp2_with fail
  refine HB.out.mono ?_
  rintro e w1 ⟨rfl, hg1, hv, hs1⟩
  have hb1 : Below w.heap.size w w1 := (Below.refl _ _).grown hg1 (Nat.le_refl _) (fun k hk => by cases hk)
  have HX := Lib.hid (And.intro hb1 (And.intro hs1 hv))
  clear hg1 hs1 hb1 hv HB
  have HC := Lib.hid (CNew_any w1 room h3)
  obtain ⟨gb, hgb⟩ : ∃ gb, w.heap.size + 1 = gb := ⟨_, rfl⟩
  rw [hgb]
  have HGB := Lib.hid hgb
  clear hgb
  go_wp2_with fail
  refine HC.out.mono ?_
  rintro e w2 ⟨gc, rfl, hca, hb2⟩
  have HX2 := Lib.hid (And.intro hca hb2)
  clear hca hb2 HC
  have HI := Lib.hid (INew_any w2)
  go_wp2_with fail
  refine HI.out.mono ?_
  rintro e w3 ⟨gi, gp, gt, gs, rfl, hI, hgI, hb3⟩
  have HX3 := Lib.hid (And.intro hI (And.intro hgI hb3))
  clear hI hgI hb3 HI
  obtain ⟨w4, hw4⟩ : ∃ w4, w3.alloc (.cells #[.pointer (some ⟨gi, 0, none⟩), .pointer (some ⟨gb, 0, none⟩), .pointer (some ⟨gc, 0, none⟩), .int .i64 0, .int .i64 0] 133) = w4 := ⟨_, rfl⟩
  go_wp2_with fail
  go_ret2
  have hh := HGB.out
  subst hh
  have := fd_made HX.out.1 HX.out.2.1 HX.out.2.2 HX2.out.2 HX2.out.1 HX3.out.2.2 HX3.out.1 HX3.out.2.1 hw4
  exact ⟨_, rfl, this.1, this.2⟩
end Go.Proofs.YtcklcffepedklaaGreat
