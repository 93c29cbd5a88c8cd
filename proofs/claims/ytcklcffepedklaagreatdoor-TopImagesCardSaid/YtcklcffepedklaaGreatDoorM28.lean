/- Texts of the proof, one behind the other: home: Save. home: what a Save and a Crash leave on a disk. No program in sight. -/
import Derived.Test.YtcklcffepedklaaGreatDoorM27
namespace Go.Proofs.YtcklcffepedklaaGreatDoor
open Go.RowKit

/-- The slot that a Save writes. -/
def nextS (x : Slt × Nat) (b : List Int) : Slt := ⟨x.1.gen + 1, if x.1.gen = 0 then 0 else 1 - x.1.area, b.length, (sumI b).toNat⟩
def atS (x : Slt × Nat) : Nat := if x.1.gen = 0 then 0 else x.2
/-- What a Save does to a disk, and answers. -/
def saveD (each : Nat) (d : Ds) (x : Slt × Nat) (b : List Int) : Ds × Int :=
  if (hwrite each d (2 + (nextS x b).area * each) b).2 = 0 then hwrite 1 (hwrite each d (2 + (nextS x b).area * each) b).1 (1 - atS x) (layS (nextS x b)) else hwrite each d (2 + (nextS x b).area * each) b
theorem flD_ws (d : Ds) : (flD d).ws.length ≤ d.ws.length := by
  unfold flD; split
  · simp
  · rw [pwD_ws]; exact Nat.le_refl _
theorem hwrite_ws : ∀ (f : Nat) (d : Ds) (p : Nat) (b : List Int), (hwrite f d p b).1.ws.length ≤ d.ws.length + f
  | 0, d, _, _ => flD_ws d
  | f + 1, d, p, b => by
    have h1 := flD_ws d
    have h2 := wrD_ws d p (b.take 128)
    rw [hwrite]
    split
    · show (flD d).ws.length ≤ _; omega
    · split
      · have := hwrite_ws f (wrD d p (b.take 128)) (p + 1) (b.drop 128); omega
      · show (wrD d p (b.take 128)).ws.length ≤ _; omega
section
variable {w : World} {gh gd each S : Nat} {d : Ds} {F : Nat → Prop}
set_option maxRecDepth 20000 in
set_option maxHeartbeats 1600000 in
theorem Save_any (hh : Hm w gh gd each) (hgh : ¬ F gh) (h : Dk w gd S d F) (hd : d.dead = false) (hws : d.ws.length ≤ 100000) (he : each ≤ 8000) (hS : 2 + 2 * each ≤ S) (x : Slt × Nat) (hx : twoS d.now = x) (hg : x.1.gen < 1000) (hx2 : x.2 ≤ 1) (hv : x.1.gen ≠ 0 → x.1.area ≤ 1 ∧ x.1.size ≤ 128 * each ∧ sumI (rdL d.now (2 + x.1.area * each) x.1.size) = x.1.sum)
    (A : Option Addr) (n c : Nat) (b : List Int) (hn : b.length = n) (hnm : n ≤ 128 * each) (hc : n ≤ c) (hI : Ints .u8 w A b) (hB : Bytes b) (hA : 0 < n → ∃ g o, A = some ⟨g, o, none⟩ ∧ ¬ F g ∧ g < w.heap.size) (hFw : ∀ k, F k → k < w.heap.size) :
    Calls Tryz.prog 14 #[.pointer (some ⟨gh, 0, none⟩), .slice A n c] w fun e w' => e = .returned (.int .i64 (saveD each d x b).2) ∧ Chg F w w' ∧ Dk w' gd S (saveD each d x b).1 (fun k => F k ∨ w.heap.size ≤ k) := by
  have HROOM := Lib.hid (Room_any hh (by omega))
  have HLD := Lib.hid (load_any hh h hd he hS x hx hv)
  have HON2 := Lib.hid (show ∀ v ∈ ([.int .u64 0, .int .u8 0, .int .u32 0, .int .u32 0] : List Value), v.oneCell' = true from by simp [Value.oneCell'])
  have HON := Lib.hid (show ∀ v ∈ slC x.1, v.oneCell' = true from by simp [slC, Value.oneCell'])
  have HSL := Lib.hid (show (Tryz.prog.info? 71).map (·.size) = some (slC x.1).length from rfl)
  have HSQ := Lib.hid (show zSl.size = (slC x.1).length from rfl)
  obtain ⟨kr, hkr⟩ : ∃ k, 128 * each = k := ⟨_, rfl⟩
  have q1 : ¬ (kr : Int) < (n : Int) := by omega
  rw [hkr] at HROOM
  have HALL := Lib.hid (And.intro hh (And.intro hgh (And.intro h (And.intro hws (And.intro hS (And.intro hI (And.intro hB (And.intro hA (And.intro hn hv)))))))))
  have HX0 := Lib.hid (show x.1.gen = 0 → x = noS from fun h0 => by rw [← hx] at h0 ⊢; exact newer0 _ _ h0)
  clear hh hgh h hd hws hS hx hv hI hB hA hn hkr
  go_enter Tryz.func14, Tryz.ntmps14
  go_wp2_with fail
  refine HROOM.out.mono ?_
  rintro e w1 ⟨rfl, rfl⟩
  go_wp2_with fail
  refine HLD.out.mono ?_
  rintro e w1 ⟨hb1, hn, hy⟩
  have HB1 := Lib.hid hb1
  have HRZ := Lib.hid (show (w1.alloc (.cells #[.int .u64 0, .int .u8 0, .int .u32 0, .int .u32 0] 71)).heap[w1.heap.size]? = some (.cells zSl 71 (0, 0)) from heap_alloc_last _ _)
  have HBA := Lib.hid ((Below.refl w1.heap.size w1).alloc (Nat.le_refl _) (.cells #[.int .u64 0, .int .u8 0, .int .u32 0, .int .u32 0] 71))
  clear hb1
  have hcom : ∃ A9 n9 c9, e = .returned (.tuple #[.slice A9 n9 c9, .agg (slC x.1).toArray, .int .i64 x.2, .int .i64 0]) := by
    by_cases h0 : x.1.gen = 0
    · exact ⟨none, 0, 0, by rw [hn h0, HX0.out h0]; rfl⟩
    · obtain ⟨A9, c9, e9, _⟩ := hy h0
      exact ⟨_, _, _, e9⟩
  obtain ⟨A9, n9, c9, rfl⟩ := hcom
  clear hn hy
  obtain ⟨sum, hsum⟩ : ∃ s : Nat, sumI b = s := ⟨(sumI b).toNat, by have := sumI_U b; have h2 : 0 ≤ sumI b := this.1; omega⟩
  have HSM := Lib.hid hsum
  obtain ⟨⟨ag, aa, az, am⟩, xat⟩ := x
  obtain ⟨gn, hgn⟩ : ∃ g, ag + 1 = g := ⟨_, rfl⟩
  have HGN := Lib.hid hgn
  simp only at hg hx2
  have u1 : IntKind.u64.wrap ((ag : Int) + 1) = (gn : Int) := by rw [IntKind.wrap_u64]; omega
  have u2 : IntKind.u32.wrap (n : Int) = (n : Int) := by rw [IntKind.wrap_u32]; omega
  clear hgn hsum
  go_upto_region 8 with (first | (with_reducible refine wpList_store_new rfl 71 _ _ rfl w1.heap.size (slC ⟨ag, aa, az, am⟩) rfl rfl 71 zSl HRZ.out HSL.out HSQ.out HON.out w1.heap.size w1 HBA.out (Nat.le_refl _) ?_; intro w3 hr3 hb3) | fail)
  have HC0 := Lib.hid (show w3.cell? ⟨w1.heap.size, 0, none⟩ = some (.int .u64 (ag : Int)) from cell_row' hr3.out)
  have HW3 := Lib.hid (HB1.out.trans (hb3.out.mono HB1.out.size))
  have HCS := Lib.hid (fun (W : World) (hb : Below w3.heap.size w3 W) => by
    have := CSum_any A n c b W HALL.out.2.2.2.2.2.2.2.2.1 (by omega) (HALL.out.2.2.2.2.2.1.below (HW3.out.trans (hb.mono HW3.out.size))) HALL.out.2.2.2.2.2.2.1
    rw [HSM.out] at this; exact this)
  have HON3 := Lib.hid (show ∀ v ∈ ([.int .u64 (gn : Int), .int .u8 0, .int .u32 (n : Int), .int .u32 (sum : Int)] : List Value), v.oneCell' = true from by simp [Value.oneCell'])
  have HFIN := Lib.hid (fun (g : Nat) (W : World) (hb : Below w3.heap.size w3 W) (hge : w3.heap.size ≤ g) (hr : W.heap[g]? = some (.cells zSl 71 (0, 0))) => by
    have e : (zSl.toList.take 0 ++ ([.int .u64 (gn : Int), .int .u8 0, .int .u32 (n : Int), .int .u32 (sum : Int)] : List Value) ++ zSl.toList.drop (0 + ([.int .u64 (gn : Int), .int .u8 0, .int .u32 (n : Int), .int .u32 (sum : Int)] : List Value).length)).toArray = #[.int .u64 (gn : Int), .int .u8 0, .int .u32 (n : Int), .int .u32 (sum : Int)] := by simp [zSl]
    have hc := hb.grown (grown_setRow W g (zSl.toList.take 0 ++ ([.int .u64 (gn : Int), .int .u8 0, .int .u32 (n : Int), .int .u32 (sum : Int)] : List Value) ++ zSl.toList.drop (0 + ([.int .u64 (gn : Int), .int .u8 0, .int .u32 (n : Int), .int .u32 (sum : Int)] : List Value).length)).toArray) hb.size (fun k hk => by injection hk with hk; omega)
    have hr2 := setRow_heap W g _ (zSl.toList.take 0 ++ ([.int .u64 (gn : Int), .int .u8 0, .int .u32 (n : Int), .int .u32 (sum : Int)] : List Value) ++ zSl.toList.drop (0 + ([.int .u64 (gn : Int), .int .u8 0, .int .u32 (n : Int), .int .u32 (sum : Int)] : List Value).length)).toArray _ _ hr
    have : (W.setRow g (zSl.toList.take 0 ++ ([.int .u64 (gn : Int), .int .u8 0, .int .u32 (n : Int), .int .u32 (sum : Int)] : List Value) ++ zSl.toList.drop (0 + ([.int .u64 (gn : Int), .int .u8 0, .int .u32 (n : Int), .int .u32 (sum : Int)] : List Value).length)).toArray).heap[g]? = some (.cells #[.int .u64 (gn : Int), .int .u8 0, .int .u32 (n : Int), .int .u32 (sum : Int)] 71 (0, 0)) := by rw [hr2, e]
    exact And.intro hc (And.intro hc (And.intro this hge)))
  --[8
  apply shared
  · intro final
    refine wp_region_held_drew (S := fun w' => Below w3.heap.size w3 w') (by kernel_rfl) (((Below.refl _ _).drew)) (fun hHeld => ?_)
    refine held_take 0 (some 30) (v := ?_) rfl rfl (by kernel_rfl) (by kernel_rfl) (by kernel_rfl) (fun _ _ _ h => h) (Or.inl ⟨by rfl, ?_⟩) hHeld ?_
    rotate_left
    · (intro w' hSw; clear hSw; go_simp; try with_reducible rfl)
    try simp only [Act.put, List.setIfInBounds_toArray, List.set_cons_zero, List.set_cons_succ]
    refine held_take 1 (some 31) (v := ?_) rfl rfl (by kernel_rfl) (by kernel_rfl) (by kernel_rfl) (fun _ _ _ h => h) (Or.inl ⟨by rfl, ?_⟩) hHeld ?_
    rotate_left
    · (intro w' hSw; have pf := (hSw.cell (p := ⟨w1.heap.size, 0, none⟩) (cell_lt HC0.out)).trans HC0.out; clear hSw; go_simp; try with_reducible rfl)
    try simp only [Act.put, List.setIfInBounds_toArray, List.set_cons_zero, List.set_cons_succ]
    refine held_take 2 (some 32) (v := ?_) rfl rfl (by kernel_rfl) (by kernel_rfl) (by kernel_rfl) (fun _ _ _ h => h) (Or.inl ⟨by rfl, ?_⟩) hHeld ?_
    rotate_left
    · (intro w' hSw; clear hSw; go_simp; try with_reducible rfl)
    try simp only [Act.put, List.setIfInBounds_toArray, List.set_cons_zero, List.set_cons_succ]
    refine held_take 3 (some 33) (v := ?_) rfl rfl (by kernel_rfl) (by kernel_rfl) (by kernel_rfl) (fun _ _ _ h => h) (Or.inl ⟨by rfl, ?_⟩) hHeld ?_
    rotate_left
    · (intro w' hSw; clear hSw; go_simp; try with_reducible rfl)
    try simp only [Act.put, List.setIfInBounds_toArray, List.set_cons_zero, List.set_cons_succ]
    refine held_take 4 (some 34) (v := ?_) rfl rfl (by kernel_rfl) (by kernel_rfl) (by kernel_rfl) (fun _ _ _ h => h) (Or.inl ⟨by rfl, ?_⟩) hHeld ?_
    rotate_left
    · (intro w' hSw; clear hSw; go_simp; try with_reducible rfl)
    try simp only [Act.put, List.setIfInBounds_toArray, List.set_cons_zero, List.set_cons_succ]
    refine held_take 5 (some 35) (v := ?_) rfl rfl (by kernel_rfl) (by kernel_rfl) (by kernel_rfl) (fun _ _ _ h => h) (Or.inl ⟨by rfl, ?_⟩) hHeld ?_
    rotate_left
    · (intro w' hSw; clear hSw; go_simp; try with_reducible rfl)
    try simp only [Act.put, List.setIfInBounds_toArray, List.set_cons_zero, List.set_cons_succ]
    refine held_take 6 (some 36) (v := ?_) rfl rfl (by kernel_rfl) (by kernel_rfl) (by kernel_rfl) (fun _ _ _ h => h) (Or.inl ⟨by rfl, ?_⟩) hHeld ?_
    rotate_left
    · (intro w' hSw; clear hSw; go_simp; try with_reducible rfl)
    try simp only [Act.put, List.setIfInBounds_toArray, List.set_cons_zero, List.set_cons_succ]
    refine wpAnyH_ready (rs := [7, 9]) (by kernel_rfl) (by simp) ?_
    refine AllReadyH.cons rfl (fun K hKK => ?_) (AllReadyH.cons rfl (fun K hKK => ?_) AllReadyH.nil)
    · go_simp
      go_at_call 30
      refine (HCS.out (w3.drew) (hHeld)).mono ?_
      rintro e wnc1 ⟨rfl, hbnc1⟩
      have hSc1 := (hHeld).trans (hbnc1.mono (hHeld).size)
      refine hKK.out _ _ hSc1 (fun hHeld => ?_)
      clear hKK K
      try simp only [Act.put, List.setIfInBounds_toArray, List.set_cons_zero, List.set_cons_succ]
      refine held_take 8 (some 38) (v := ?_) rfl rfl (by kernel_rfl) (by kernel_rfl) (by kernel_rfl) (fun _ _ _ h => h) (Or.inl ⟨by rfl, ?_⟩) hHeld ?_
      rotate_left
      · (intro w' hSw; clear hSw; go_simp; try with_reducible rfl)
      try simp only [Act.put, List.setIfInBounds_toArray, List.set_cons_zero, List.set_cons_succ]
      refine wpAnyH_ready (rs := [9]) (by kernel_rfl) (by simp) ?_
      refine AllReadyH.cons rfl (fun K hKK => ?_) AllReadyH.nil
      have hrowa2 := heap_alloc_last (wnc1) (.cells zSl 71)
      have hSa2 := (hHeld).alloc (hHeld).size (.cells zSl 71)
      have hge := (hHeld).size
      refine step_val rfl (exec_alloc _ rfl (zeroSl _)) ?_
      generalize (wnc1).heap.size = g9 at hrowa2 hge ⊢
      generalize (wnc1).alloc (.cells zSl 71) = w8a2 at hrowa2 hSa2 ⊢
      refine hKK.out _ _ hSa2 (fun hHeld => ?_)
      clear hKK K
      try simp only [Act.put, List.setIfInBounds_toArray, List.set_cons_zero, List.set_cons_succ]
      refine wpAnyH_ready (rs := [10]) (by kernel_rfl) (by simp) ?_
      refine AllReadyH.cons rfl (fun K hKK => ?_) AllReadyH.nil
      have hfins3 := HFIN.out (g9) (w8a2) (hHeld) hge hrowa2
      refine step_skip rfl (exec_store_mid 71 (.tmp 9) (.tmp 38) rfl (g9) 0 [.int .u64 (gn : Int), .int .u8 0, .int .u32 (n : Int), .int .u32 (sum : Int)] (by go_simp) (by go_simp) 71 zSl hrowa2 rfl (Nat.le_refl _) HON3.out) ?_
      refine hKK.out _ _ hfins3.1 (fun hHeld => ?_)
      clear hKK K
      try simp only [Act.put, List.setIfInBounds_toArray, List.set_cons_zero, List.set_cons_succ]
      refine wpAnyH_done (by kernel_rfl) ?_ _
      have hfin := hfins3.2
      clear hHeld
      clear hfins3 hrowa2 hge
      generalize (w8a2).setRow g9 (zSl.toList.take 0 ++ ([.int .u64 (gn : Int), .int .u8 0, .int .u32 (n : Int), .int .u32 (sum : Int)] : List Value) ++ zSl.toList.drop (0 + ([.int .u64 (gn : Int), .int .u8 0, .int .u32 (n : Int), .int .u32 (sum : Int)] : List Value).length)).toArray = w9 at hfin ⊢
      go_simp
      all_goals (revert hfin w9 g9; exact final)
    · have hrowa4 := heap_alloc_last (w3.drew) (.cells zSl 71)
      have hSa4 := (hHeld).alloc (hHeld).size (.cells zSl 71)
      have hge := (hHeld).size
      refine step_val rfl (exec_alloc _ rfl (zeroSl _)) ?_
      generalize (w3.drew).heap.size = g9 at hrowa4 hge ⊢
      generalize (w3.drew).alloc (.cells zSl 71) = w8a4 at hrowa4 hSa4 ⊢
      refine hKK.out _ _ hSa4 (fun hHeld => ?_)
      clear hKK K
      try simp only [Act.put, List.setIfInBounds_toArray, List.set_cons_zero, List.set_cons_succ]
      refine wpAnyH_ready (rs := [7]) (by kernel_rfl) (by simp) ?_
      refine AllReadyH.cons rfl (fun K hKK => ?_) AllReadyH.nil
      go_simp
      go_at_call 30
      refine (HCS.out (w8a4) (hHeld)).mono ?_
      rintro e wnc5 ⟨rfl, hbnc5⟩
      have hSc5 := (hHeld).trans (hbnc5.mono (hHeld).size)
      have hrowc5 := (hbnc5.block _ (row_lt hrowa4)).trans hrowa4
      refine hKK.out _ _ hSc5 (fun hHeld => ?_)
      clear hKK K
      try simp only [Act.put, List.setIfInBounds_toArray, List.set_cons_zero, List.set_cons_succ]
      refine held_take 8 (some 38) (v := ?_) rfl rfl (by kernel_rfl) (by kernel_rfl) (by kernel_rfl) (fun _ _ _ h => h) (Or.inl ⟨by rfl, ?_⟩) hHeld ?_
      rotate_left
      · (intro w' hSw; clear hSw; go_simp; try with_reducible rfl)
      try simp only [Act.put, List.setIfInBounds_toArray, List.set_cons_zero, List.set_cons_succ]
      refine wpAnyH_ready (rs := [10]) (by kernel_rfl) (by simp) ?_
      refine AllReadyH.cons rfl (fun K hKK => ?_) AllReadyH.nil
      have hfins6 := HFIN.out (g9) (wnc5) (hHeld) hge hrowc5
      refine step_skip rfl (exec_store_mid 71 (.tmp 9) (.tmp 38) rfl (g9) 0 [.int .u64 (gn : Int), .int .u8 0, .int .u32 (n : Int), .int .u32 (sum : Int)] (by go_simp) (by go_simp) 71 zSl hrowc5 rfl (Nat.le_refl _) HON3.out) ?_
      refine hKK.out _ _ hfins6.1 (fun hHeld => ?_)
      clear hKK K
      try simp only [Act.put, List.setIfInBounds_toArray, List.set_cons_zero, List.set_cons_succ]
      refine wpAnyH_done (by kernel_rfl) ?_ _
      have hfin := hfins6.2
      clear hHeld
      clear hfins6 hrowa4 hrowc5 hge
      generalize (wnc5).setRow g9 (zSl.toList.take 0 ++ ([.int .u64 (gn : Int), .int .u8 0, .int .u32 (n : Int), .int .u32 (sum : Int)] : List Value) ++ zSl.toList.drop (0 + ([.int .u64 (gn : Int), .int .u8 0, .int .u32 (n : Int), .int .u32 (sum : Int)] : List Value).length)).toArray = w9 at hfin ⊢
      go_simp
      all_goals (revert hfin w9 g9; exact final)
  --]8
  intro g9 w9 hfin
  have HB9 := Lib.hid (HW3.out.trans (hfin.1.mono HW3.out.size))
  have HR9 := Lib.hid hfin.2.1
  have HG9 := Lib.hid hfin.2.2
  have HR6 := Lib.hid ((hfin.1.block _ (row_lt hr3.out)).trans hr3.out)
  have c60 : w9.cell? ⟨w1.heap.size, 0, none⟩ = some (.int .u64 (ag : Int)) := cell_row' HR6.out
  have c61 : w9.cell? ⟨w1.heap.size, 1, none⟩ = some (.int .u8 (aa : Int)) := cell_row' HR6.out
  have c90 : w9.cell? ⟨g9, 0, none⟩ = some (.int .u64 (gn : Int)) := cell_row' HR9.out
  have c91 : w9.cell? ⟨g9, 1, none⟩ = some (.int .u8 0) := cell_row' HR9.out
  have f91 := free_row HR9.out 1
  have hgn0 : ¬ (gn : Int) = 0 := by have := HGN.out; omega
  clear hfin
  by_cases h0 : ag = 0
  · have H0 := Lib.hid h0
    subst h0
    go_wp2_with fail
    refine (area_any (HALL.out.1.below HB9.out) (by omega) 0 (by omega)).mono ?_
    rintro e w11 ⟨rfl, rfl⟩
    have HWR := Lib.hid (write_any (HALL.out.1.below HB9.out) HALL.out.2.1 (HALL.out.2.2.1.below HB9.out) (2 + 0 * each) each (by have := HALL.out.2.2.2.2.1; omega) (by have := HALL.out.2.2.2.1; omega) A n c b HALL.out.2.2.2.2.2.2.2.2.1 hnm hc (HALL.out.2.2.2.2.2.1.below HB9.out) HALL.out.2.2.2.2.2.2.1 (fun h => by obtain ⟨g, o, h1, h2, h3⟩ := HALL.out.2.2.2.2.2.2.2.1 h; exact ⟨g, o, h1, h2, Nat.lt_of_lt_of_le h3 HB9.out.size⟩))
    obtain ⟨R1, hR1⟩ : ∃ R, hwrite each d (2 + 0 * each) b = R := ⟨_, rfl⟩
    rw [hR1] at HWR
    have HR1 := Lib.hid hR1
    clear hR1
    obtain ⟨pa, hpa⟩ : ∃ k, 2 + 0 * each = k := ⟨_, rfl⟩
    rw [hpa] at HWR HR1 ⊢
    have HPA := Lib.hid hpa
    clear hpa
    go_wp2_with fail
    refine HWR.out.mono ?_
    rintro e w11 ⟨rfl, hc11, hd11⟩
    have HD11 := Lib.hid hd11
    have HC11 := Lib.hid hc11
    obtain ⟨D1, E1⟩ := R1
    have hE1 : E1 = 0 ∨ E1 = 6 := by have := hwrite_or each d pa b; rw [HR1.out] at this; exact this
    have HCW := Lib.hid (show Chg F w w11 from (Chg.belowAt HB9.out).trans hc11)
    clear hc11 hd11
    rcases hE1 with rfl | rfl
    case inr =>
      have HSV := Lib.hid (show saveD each d (⟨0, aa, az, am⟩, xat) b = (D1, 6) from by
        unfold saveD
        rw [show 2 + (nextS (⟨0, aa, az, am⟩, xat) b).area * each = pa from HPA.out, HR1.out, if_neg (by simp)])
      go_wp2_with fail
      go_ret
      rw [HSV.out]
      exact ⟨rfl, HCW.out, HD11.out.kept (R := fun _ => False) (Chg.refl _ _) (fun _ _ _ h => h) (fun k _ hh => hh.elim .inl (fun h => .inr (Nat.le_trans HB9.out.size h)))⟩
    have HR911 := Lib.hid ((HC11.out.block g9 (row_lt HR9.out) (fun hh => by have := hFw _ hh; have := HG9.out; have := HW3.out.size; omega)).trans HR9.out)
    have HRG9 := Lib.hid (show w11.rangeAt g9 0 [.int .u64 (gn : Int), .int .u8 0, .int .u32 (n : Int), .int .u32 (sum : Int)] from range_row HR911.out)
    clear c60 c61 c90 c91 f91
    go_wp2_with (first | (with_reducible refine Go.wpList_load_mid rfl 71 _ rfl g9 0 rfl [.int .u64 (gn : Int), .int .u8 0, .int .u32 (n : Int), .int .u32 (sum : Int)] _ HRG9.out Tryz.underlying71 rfl rfl ?_) | fail)
    have hsu := sumI_U b
    have hsu2 : sum < 4294967296 := by have h1 : sumI b < 4294967296 := hsu.2; rw [HSM.out] at h1; omega
    refine (SLay_any ⟨gn, 0, n, sum⟩ ⟨by show gn < _; have := HGN.out; omega, by show 0 < 256; decide, by show n < _; omega, hsu2⟩ w11).mono ?_
    rintro e w12 ⟨gl, rfl, hgl, hrl, hb12⟩
    have HRL := Lib.hid hrl
    have HGL := Lib.hid hgl
    have HB12 := Lib.hid hb12
    have hws1 : D1.ws.length + 1 ≤ 1000000 := by have h1 := hwrite_ws each d pa b; rw [HR1.out] at h1; have h2 : D1.ws.length ≤ d.ws.length + each := h1; have := HALL.out.2.2.2.1; omega
    have hh12 : Hm w12 gh gd each := ((HALL.out.1.below HB9.out).chg HC11.out HALL.out.2.1).below hb12
    have hd12 := (HD11.out.bound).below hb12
    have hW2 := write_any (F := fun k => (F k ∨ w9.heap.size ≤ k) ∧ k < w11.heap.size) hh12 (fun hh => by rcases hh.1 with h | h; exact HALL.out.2.1 h; have h1 := row_lt HALL.out.1; have h2 := HB9.out.size; omega) hd12 (1 - 0) 1 (by have := HALL.out.2.2.2.2.1; omega) hws1 (some ⟨gl, 0, none⟩) 128 128 (layS ⟨gn, 0, n, sum⟩) (layS_length _) (by decide) (Nat.le_refl _) (ints_block hrl) (layS_bytes _) (fun _ => ⟨gl, 0, rfl, fun hh => by have := hh.2; omega, row_lt hrl⟩)
    have HW2 := Lib.hid hW2
    have HSV := Lib.hid (show saveD each d (⟨0, aa, az, am⟩, xat) b = hwrite 1 D1 (1 - 0) (layS ⟨gn, 0, n, sum⟩) from by
      unfold saveD
      rw [show 2 + (nextS (⟨0, aa, az, am⟩, xat) b).area * each = pa from HPA.out, HR1.out, if_pos rfl]
      have : nextS (⟨0, aa, az, am⟩, xat) b = ⟨gn, 0, n, sum⟩ := by
        unfold nextS
        rw [HSM.out, HALL.out.2.2.2.2.2.2.2.2.1, Int.toNat_natCast, ← HGN.out]; rfl
      rw [this]; rfl)
    clear hrl hgl hb12 hws1 hh12 hd12 hW2 hsu hsu2
    go_wp2_with fail
    refine HW2.out.mono ?_
    rintro e w13 ⟨rfl, hc13, hd13⟩
    have H13 := Lib.hid (And.intro hc13 hd13)
    clear hc13 hd13
    go_wp2_with fail
    go_ret
    rw [HSV.out]
    refine ⟨rfl, (HCW.out.below0 HB12.out).trans2 H13.out.1 (fun k hk hh => ?_), H13.out.2.kept (R := fun _ => False) (Chg.refl _ _) (fun _ _ _ h => h) (fun k _ hh => ?_)⟩
    · rcases hh.1 with h | h
      · exact h
      · have := HB9.out.size; omega
    · rcases hh with hh | hh
      · rcases hh.1 with h | h
        · exact .inl h
        · exact .inr (Nat.le_trans HB9.out.size h)
      · exact .inr (Nat.le_trans HCW.out.size (Nat.le_trans HB12.out.size hh))
  · have hag : ¬ (ag : Int) = 0 := by omega
    have haa : aa ≤ 1 := (HALL.out.2.2.2.2.2.2.2.2.2 h0).1
    have hm1 : (1 - aa) * each ≤ each := by have := Nat.mul_le_mul_right each (show 1 - aa ≤ 1 by omega); omega
    have e1 : IntKind.u8.wrap (1 - (aa : Int)) = ((1 - aa : Nat) : Int) := by rw [IntKind.wrap_u8]; omega
    have e2 : IntKind.i64.wrap (1 - (xat : Int)) = ((1 - xat : Nat) : Int) := by rw [IntKind.wrap_i64]; omega
    have hra := setCell_row HR9.out 1 (.int .u8 ((1 - aa : Nat) : Int))
    have hba : Below w.heap.size w (w9.setCell ⟨g9, 1, none⟩ (.int .u8 ((1 - aa : Nat) : Int))) := HB9.out.grown (grown_setCell _ _ _ _) HB9.out.size (fun k hk => by injection hk with hk; have := HG9.out; have := HW3.out.size; omega)
    go_upto_region 14 with (fail)
    generalize w9.setCell ⟨g9, 1, none⟩ (.int .u8 ((1 - aa : Nat) : Int)) = wa at hra hba ⊢
    have HBa := Lib.hid hba
    have HRa := Lib.hid (show wa.heap[g9]? = some (.cells #[.int .u64 (gn : Int), .int .u8 ((1 - aa : Nat) : Int), .int .u32 (n : Int), .int .u32 (sum : Int)] 71 (0, 0)) from hra)
    have ca1 : wa.cell? ⟨g9, 1, none⟩ = some (.int .u8 ((1 - aa : Nat) : Int)) := cell_row' HRa.out
    clear c60 c61 c90 c91 f91 hra hba e1
    go_wp2_with fail
    refine (area_any (HALL.out.1.below HBa.out) (by omega) (1 - aa) (by omega)).mono ?_
    rintro e w11 ⟨rfl, rfl⟩
    have HWR := Lib.hid (write_any (HALL.out.1.below HBa.out) HALL.out.2.1 (HALL.out.2.2.1.below HBa.out) (2 + (1 - aa) * each) each (by have := HALL.out.2.2.2.2.1; omega) (by have := HALL.out.2.2.2.1; omega) A n c b HALL.out.2.2.2.2.2.2.2.2.1 hnm hc (HALL.out.2.2.2.2.2.1.below HBa.out) HALL.out.2.2.2.2.2.2.1 (fun h => by obtain ⟨g, o, h1, h2, h3⟩ := HALL.out.2.2.2.2.2.2.2.1 h; exact ⟨g, o, h1, h2, Nat.lt_of_lt_of_le h3 HBa.out.size⟩))
    obtain ⟨R1, hR1⟩ : ∃ R, hwrite each d (2 + (1 - aa) * each) b = R := ⟨_, rfl⟩
    rw [hR1] at HWR
    have HR1 := Lib.hid hR1
    clear hR1
    obtain ⟨pa, hpa⟩ : ∃ k, 2 + (1 - aa) * each = k := ⟨_, rfl⟩
    rw [hpa] at HWR HR1 ⊢
    have HPA := Lib.hid hpa
    clear hpa
    go_wp2_with fail
    refine HWR.out.mono ?_
    rintro e w11 ⟨rfl, hc11, hd11⟩
    have HD11 := Lib.hid hd11
    have HC11 := Lib.hid hc11
    obtain ⟨D1, E1⟩ := R1
    have hE1 : E1 = 0 ∨ E1 = 6 := by have := hwrite_or each d pa b; rw [HR1.out] at this; exact this
    have HCW := Lib.hid (show Chg F w w11 from (Chg.belowAt HBa.out).trans hc11)
    clear hc11 hd11
    rcases hE1 with rfl | rfl
    case inr =>
      have HSV := Lib.hid (show saveD each d (⟨ag, aa, az, am⟩, xat) b = (D1, 6) from by
        unfold saveD
        rw [show 2 + (nextS (⟨ag, aa, az, am⟩, xat) b).area * each = pa from by rw [show (nextS (⟨ag, aa, az, am⟩, xat) b).area = 1 - aa from if_neg h0]; exact HPA.out, HR1.out, if_neg (by simp)])
      go_wp2_with fail
      go_ret
      rw [HSV.out]
      exact ⟨rfl, HCW.out, HD11.out.kept (R := fun _ => False) (Chg.refl _ _) (fun _ _ _ h => h) (fun k _ hh => hh.elim .inl (fun h => .inr (Nat.le_trans HBa.out.size h)))⟩
    have HR911 := Lib.hid ((HC11.out.block g9 (row_lt HRa.out) (fun hh => by have := hFw _ hh; have := HG9.out; have := HW3.out.size; omega)).trans HRa.out)
    have HRG9 := Lib.hid (show w11.rangeAt g9 0 [.int .u64 (gn : Int), .int .u8 ((1 - aa : Nat) : Int), .int .u32 (n : Int), .int .u32 (sum : Int)] from range_row HR911.out)
    go_wp2_with (first | (with_reducible refine Go.wpList_load_mid rfl 71 _ rfl g9 0 rfl [.int .u64 (gn : Int), .int .u8 ((1 - aa : Nat) : Int), .int .u32 (n : Int), .int .u32 (sum : Int)] _ HRG9.out Tryz.underlying71 rfl rfl ?_) | fail)
    have hsu := sumI_U b
    have hsu2 : sum < 4294967296 := by have h1 : sumI b < 4294967296 := hsu.2; rw [HSM.out] at h1; omega
    refine (SLay_any ⟨gn, 1 - aa, n, sum⟩ ⟨by show gn < _; have := HGN.out; omega, by show 1 - aa < 256; omega, by show n < _; omega, hsu2⟩ w11).mono ?_
    rintro e w12 ⟨gl, rfl, hgl, hrl, hb12⟩
    have HRL := Lib.hid hrl
    have HGL := Lib.hid hgl
    have HB12 := Lib.hid hb12
    have hws1 : D1.ws.length + 1 ≤ 1000000 := by have h1 := hwrite_ws each d pa b; rw [HR1.out] at h1; have h2 : D1.ws.length ≤ d.ws.length + each := h1; have := HALL.out.2.2.2.1; omega
    have hh12 : Hm w12 gh gd each := ((HALL.out.1.below HBa.out).chg HC11.out HALL.out.2.1).below hb12
    have hd12 := (HD11.out.bound).below hb12
    have hW2 := write_any (F := fun k => (F k ∨ wa.heap.size ≤ k) ∧ k < w11.heap.size) hh12 (fun hh => by rcases hh.1 with h | h; exact HALL.out.2.1 h; have h1 := row_lt HALL.out.1; have h2 := HBa.out.size; omega) hd12 (1 - xat) 1 (by have := HALL.out.2.2.2.2.1; omega) hws1 (some ⟨gl, 0, none⟩) 128 128 (layS ⟨gn, 1 - aa, n, sum⟩) (layS_length _) (by decide) (Nat.le_refl _) (ints_block hrl) (layS_bytes _) (fun _ => ⟨gl, 0, rfl, fun hh => by have := hh.2; omega, row_lt hrl⟩)
    have HW2 := Lib.hid hW2
    have HSV := Lib.hid (show saveD each d (⟨ag, aa, az, am⟩, xat) b = hwrite 1 D1 (1 - xat) (layS ⟨gn, 1 - aa, n, sum⟩) from by
      unfold saveD
      rw [show 2 + (nextS (⟨ag, aa, az, am⟩, xat) b).area * each = pa from by rw [show (nextS (⟨ag, aa, az, am⟩, xat) b).area = 1 - aa from if_neg h0]; exact HPA.out, HR1.out, if_pos rfl]
      have : nextS (⟨ag, aa, az, am⟩, xat) b = ⟨gn, 1 - aa, n, sum⟩ := by
        unfold nextS
        rw [HSM.out, HALL.out.2.2.2.2.2.2.2.2.1, Int.toNat_natCast, ← HGN.out]; show Slt.mk (ag + 1) (if ag = 0 then 0 else 1 - aa) n sum = _; rw [if_neg h0]
      rw [this, show atS (⟨ag, aa, az, am⟩, xat) = xat from if_neg h0])
    clear hrl hgl hb12 hws1 hh12 hd12 hW2 hsu hsu2
    go_wp2_with fail
    refine HW2.out.mono ?_
    rintro e w13 ⟨rfl, hc13, hd13⟩
    have H13 := Lib.hid (And.intro hc13 hd13)
    clear hc13 hd13
    go_wp2_with fail
    go_ret
    rw [HSV.out]
    refine ⟨rfl, (HCW.out.below0 HB12.out).trans2 H13.out.1 (fun k hk hh => ?_), H13.out.2.kept (R := fun _ => False) (Chg.refl _ _) (fun _ _ _ h => h) (fun k _ hh => ?_)⟩
    · rcases hh.1 with h | h
      · exact h
      · have := HBa.out.size; omega
    · rcases hh with hh | hh
      · rcases hh.1 with h | h
        · exact .inl h
        · exact .inr (Nat.le_trans HBa.out.size h)
      · exact .inr (Nat.le_trans HCW.out.size (Nat.le_trans HB12.out.size hh))
end
end Go.Proofs.YtcklcffepedklaaGreatDoor

namespace Go.Proofs.YtcklcffepedklaaGreatDoor
open Go.RowKit

/-- The writes of bytes from a sector on. -/
def secs : Nat → Nat → List Int → List (Nat × List Int)
  | 0, _, _ => []
  | f + 1, p, b => if b = [] then [] else (p, b.take 128) :: secs f (p + 1) (b.drop 128)
theorem pw_cases {d : Ds} (h : d.dead = false) : (pwE d = 0 ∧ (pwD d).dead = false) ∨ (pwE d = 6 ∧ (pwD d).dead = true) := by
  unfold pwE pwD
  by_cases h0 : d.fuse = 0
  · right; simp [h0]
  · left; simp [h0, h]
theorem flW_app (B : List Int) (l m : List (Nat × List Int)) : flW B (l ++ m) = flW (flW B l) m := by simp [flW]
/-- What a home's write does: all, or a part that isn't safe. -/
theorem hwrite_law : ∀ (f : Nat) (d : Ds) (p : Nat) (b : List Int), b.length ≤ 128 * f → d.dead = false → d.now = flW d.safe d.ws →
    ((hwrite f d p b).2 = 0 ∧ (hwrite f d p b).1.dead = false ∧ (hwrite f d p b).1.ws = [] ∧ (hwrite f d p b).1.safe = flW d.safe (d.ws ++ secs f p b) ∧ (hwrite f d p b).1.now = flW d.safe (d.ws ++ secs f p b)) ∨
    ((hwrite f d p b).2 = 6 ∧ (hwrite f d p b).1.dead = true ∧ (hwrite f d p b).1.safe = d.safe ∧ ∃ L1 L2, secs f p b = L1 ++ L2 ∧ (hwrite f d p b).1.ws = d.ws ++ L1) := by
  have fin : ∀ (d : Ds), d.dead = false → d.now = flW d.safe d.ws →
      (pwE d = 0 ∧ (flD d).dead = false ∧ (flD d).ws = [] ∧ (flD d).safe = flW d.safe d.ws ∧ (flD d).now = flW d.safe d.ws) ∨ (pwE d = 6 ∧ (flD d).dead = true ∧ (flD d).safe = d.safe ∧ (flD d).ws = d.ws) := by
    intro d hd hn
    rcases pw_cases hd with ⟨h1, h2⟩ | ⟨h1, h2⟩
    · left
      rw [flD, if_pos h1]
      exact ⟨h1, h2, rfl, rfl, (pwD_now d).trans hn⟩
    · right
      rw [flD, if_neg (by rw [h1]; decide)]
      exact ⟨h1, h2, pwD_safe d, pwD_ws d⟩
  intro f
  induction f with
  | zero =>
    intro d p b hb hd hn
    rw [hwrite, secs, List.append_nil]
    rcases fin d hd hn with h | ⟨h1, h2, h3, h4⟩
    · exact .inl h
    · exact .inr ⟨h1, h2, h3, [], [], rfl, by rw [List.append_nil]; exact h4⟩
  | succ f ih =>
    intro d p b hb hd hn
    by_cases h0 : b = []
    · rw [hwrite, secs, if_pos h0, if_pos h0, List.append_nil]
      rcases fin d hd hn with h | ⟨h1, h2, h3, h4⟩
      · exact .inl h
      · exact .inr ⟨h1, h2, h3, [], [], rfl, by rw [List.append_nil]; exact h4⟩
    · rw [hwrite, secs, if_neg h0, if_neg h0]
      rcases pw_cases hd with ⟨h1, h2⟩ | ⟨h1, h2⟩
      · rw [if_pos h1]
        have hw : wrD d p (b.take 128) = { pwD d with now := secS d.now p (b.take 128), ws := d.ws ++ [(p, b.take 128)] } := by rw [wrD, if_pos h1]
        have e1 : (wrD d p (b.take 128)).safe = d.safe := by rw [hw]; exact pwD_safe d
        have e2 : (wrD d p (b.take 128)).ws = d.ws ++ [(p, b.take 128)] := by rw [hw]
        have := ih (wrD d p (b.take 128)) (p + 1) (b.drop 128) (by rw [List.length_drop]; omega) (by rw [hw]; exact h2) (by rw [e1, e2, flW_snoc, ← hn, hw])
        rw [e1, e2, List.append_assoc] at this
        rcases this with h | ⟨q1, q2, q3, L1, L2, q4, q5⟩
        · exact .inl h
        · exact .inr ⟨q1, q2, q3, (p, b.take 128) :: L1, L2, by rw [q4]; rfl, by rw [q5, List.append_assoc]; rfl⟩
      · rw [if_neg (by rw [h1]; decide)]
        have hw : wrD d p (b.take 128) = pwD d := by rw [wrD, if_neg (by rw [h1]; decide)]
        rw [hw]
        exact .inr ⟨h1, h2, pwD_safe d, [], _, rfl, by rw [List.append_nil]; exact pwD_ws d⟩

/-- Writes of sectors p and up, below q. -/
def InS (p q : Nat) (l : List (Nat × List Int)) : Prop := ∀ x ∈ l, p ≤ x.1 ∧ x.1 < q ∧ x.2.length ≤ 128
theorem InS.mono {p q p' q' : Nat} {l : List (Nat × List Int)} (h : InS p q l) (h1 : p' ≤ p) (h2 : q ≤ q') : InS p' q' l := fun x hx => by have := h x hx; omega
theorem secs_in : ∀ (f p : Nat) (b : List Int), InS p (p + f) (secs f p b)
  | 0, _, _ => fun x hx => by simp [secs] at hx
  | f + 1, p, b => fun x hx => by
    rw [secs] at hx
    split at hx
    · simp at hx
    · rcases List.mem_cons.1 hx with rfl | hx
      · exact ⟨Nat.le_refl _, by show p < p + (f + 1); omega, by simp; omega⟩
      · have := secs_in f (p + 1) (b.drop 128) x hx
        omega
theorem torn_out {B b : List Int} {S i n j : Nat} (h : B.length = 128 * S) (hi : i < S) (hb : b.length ≤ 128) (hn : n ≤ 128) (hj : j < 128 * i ∨ 128 * i + 128 ≤ j) : (torn B i b n)[j]? = B[j]? := by
  have h1 : (B.take (i * 128)).length = 128 * i := by rw [List.length_take]; omega
  have h2 : ((b ++ List.replicate (128 - b.length) 0).take n).length = n := by simp; omega
  unfold torn
  rw [List.append_assoc, List.getElem?_append]
  split
  · rw [List.getElem?_take, if_pos (by omega)]
  · rw [List.getElem?_append, if_neg (by omega), List.getElem?_drop]
    congr 1; omega
theorem torn_sec {B b : List Int} {S i n : Nat} (h : B.length = 128 * S) (hi : i < S) (hb : b.length ≤ 128) (hn : n ≤ 128) : secL (torn B i b n) i = (b ++ List.replicate (128 - b.length) 0).take n ++ (secL B i).drop n := by
  have h1 : (B.take (i * 128)).length = 128 * i := by rw [List.length_take]; omega
  have h2 : ((b ++ List.replicate (128 - b.length) 0).take n).length = n := by simp; omega
  unfold secL torn
  rw [List.append_assoc, List.drop_left' h1, List.take_append, h2, List.take_of_length_le (by omega), List.drop_take, List.drop_drop]
  congr 2
  rw [Nat.mul_comm]
theorem secS_torn {B b : List Int} {i : Nat} (hb : b.length ≤ 128) : secS B i b = torn B i b 128 := by
  have : (b ++ List.replicate (128 - b.length) 0).take 128 = b ++ List.replicate (128 - b.length) 0 := List.take_of_length_le (by simp; omega)
  unfold secS torn
  rw [this]
theorem flW_out {S p q : Nat} (hq : q ≤ S) : ∀ (l : List (Nat × List Int)) (B : List Int), B.length = 128 * S → InS p q l → (flW B l).length = 128 * S ∧ ∀ j, (j < 128 * p ∨ 128 * q ≤ j) → (flW B l)[j]? = B[j]?
  | [], B, h, _ => ⟨h, fun _ _ => rfl⟩
  | x :: l, B, h, hl => by
    have hx := hl x (by simp)
    have h1 := flW_out hq l (secS B x.1 x.2) (secS_length h (by omega) hx.2.2) (fun y hy => hl y (by simp [hy]))
    refine ⟨h1.1, fun j hj => (h1.2 j hj).trans ?_⟩
    rw [secS_torn hx.2.2]
    exact torn_out h (by omega) hx.2.2 (Nat.le_refl _) (by omega)
theorem crW_out {S p q : Nat} (hq : q ≤ S) : ∀ (l : List ((Nat × List Int) × Int)) (B : List Int), B.length = 128 * S → (∀ x ∈ l, p ≤ x.1.1 ∧ x.1.1 < q ∧ x.1.2.length ≤ 128) → (crW B l).length = 128 * S ∧ ∀ j, (j < 128 * p ∨ 128 * q ≤ j) → (crW B l)[j]? = B[j]?
  | [], B, h, _ => ⟨h, fun _ _ => rfl⟩
  | x :: l, B, h, hl => by
    have hx := hl x (by simp)
    have h1 := crW_out hq l (torn B x.1.1 x.1.2 (fate x.2)) (torn_length h (by omega) hx.2.2 (fate_le _)) (fun y hy => hl y (by simp [hy]))
    refine ⟨h1.1, fun j hj => (h1.2 j hj).trans ?_⟩
    exact torn_out h (by omega) hx.2.2 (fate_le _) (by omega)
/-- Bytes that are the same give what is read the same. -/
theorem rdL_same {B B' : List Int} {p n : Nat} (h : ∀ j, 128 * p ≤ j → j < 128 * p + n → B'[j]? = B[j]?) : rdL B' p n = rdL B p n := by
  apply List.ext_getElem?
  intro i
  unfold rdL
  rw [List.getElem?_take, List.getElem?_take]
  split
  · rw [List.getElem?_drop, List.getElem?_drop]; exact h _ (by omega) (by omega)
  · rfl
theorem secL_rdL (B : List Int) (i : Nat) : secL B i = rdL B i 128 := rfl
theorem secs_rd {S : Nat} : ∀ (f p : Nat) (b B : List Int), b.length ≤ 128 * f → p + f ≤ S → B.length = 128 * S → rdL (flW B (secs f p b)) p b.length = b
  | 0, p, b, B, h, _, _ => by
    have : b = [] := List.length_eq_zero_iff.1 (by omega)
    subst this; rfl
  | f + 1, p, b, B, h, hp, hB => by
    rw [secs]
    by_cases h0 : b = []
    · subst h0; rfl
    rw [if_neg h0]
    have ht : (b.take 128).length ≤ 128 := by simp; omega
    have hl1 : (secS B p (b.take 128)).length = 128 * S := secS_length hB (by omega) ht
    have e : flW B ((p, b.take 128) :: secs f (p + 1) (b.drop 128)) = flW (secS B p (b.take 128)) (secs f (p + 1) (b.drop 128)) := rfl
    rw [e]
    have ho := flW_out (S := S) (p := p + 1) (q := p + 1 + f) (by omega) (secs f (p + 1) (b.drop 128)) _ hl1 (secs_in f (p + 1) _)
    have hs : secL (flW (secS B p (b.take 128)) (secs f (p + 1) (b.drop 128))) p = b.take 128 ++ List.replicate (128 - (b.take 128).length) 0 := by
      rw [secL_rdL, rdL_same fun j h1 h2 => ho.2 j (by omega), ← secL_rdL, secS_torn ht, torn_sec hB (by omega) ht (Nat.le_refl _), List.take_of_length_le (by simp; omega)]
      rw [List.drop_of_length_le (by rw [secL_length hB (by omega)]; exact Nat.le_refl _), List.append_nil]
    by_cases h1 : b.length ≤ 128
    · have e2 : rdL (flW (secS B p (b.take 128)) (secs f (p + 1) (b.drop 128))) p b.length = (secL (flW (secS B p (b.take 128)) (secs f (p + 1) (b.drop 128))) p).take b.length := by
        unfold rdL secL; rw [List.take_take, Nat.min_eq_left h1]
      rw [e2, hs, List.take_of_length_le h1, List.take_left' rfl]
    · have ih := secs_rd f (p + 1) (b.drop 128) (secS B p (b.take 128)) (by rw [List.length_drop]; omega) (by omega) hl1
      rw [List.length_drop] at ih
      have e2 : ∀ X : List Int, rdL X p b.length = secL X p ++ rdL X (p + 1) (b.length - 128) := fun X => by
        unfold rdL secL
        have : b.length = 128 + (b.length - 128) := by omega
        conv => lhs; rw [this, List.take_add, List.drop_drop]
        rfl
      rw [e2, ih, hs]
      have : (b.take 128).length = 128 := by rw [List.length_take]; omega
      rw [this, Nat.sub_self, List.replicate_zero, List.append_nil, List.take_append_drop]

/-- A small number's bytes. -/
theorem beL_small {g : Nat} (h : g < 256) : beL g 8 = List.replicate 7 0 ++ [(g : Int)] := by
  simp only [beL]
  have p : ∀ k, 1 ≤ k → g / 256 ^ k % 256 = 0 := fun k hk => by
    have : 256 ^ 1 ≤ 256 ^ k := Nat.pow_le_pow_right (by decide) hk
    rw [Nat.div_eq_of_lt (by omega)]
  rw [p 7 (by decide), p 6 (by decide), p 5 (by decide), p 4 (by decide), p 3 (by decide), p 2 (by decide), p 1 (by decide), Nat.pow_zero, Nat.div_one, Nat.mod_eq_of_lt h]
  rfl
theorem layS_head {s : Slt} (h : s.gen < 256) : (layS s).take 7 = List.replicate 7 0 := by
  unfold layS headS
  rw [beL_small h]; simp
theorem layS_take8 (s : Slt) : (layS s).take 8 = beL s.gen 8 := by
  unfold layS headS
  simp only [List.append_assoc]
  exact List.take_left' (beL_length _ _)
theorem layS_last {s : Slt} (h : s.gen < 256) : (layS s).getD 127 0 = s.gen := by
  unfold layS
  rw [beL_small h, List.getD_eq_getElem?_getD, List.getElem?_append_right (by simp [headS_length])]
  simp [headS_length]
theorem rdS_lay {s : Slt} (h : s.Ok) : rdS (layS s) = s := by
  have e1 := layS_take8 s
  have e : layS s = beL s.gen 8 ++ (beL s.area 1 ++ (beL s.size 4 ++ (beL s.sum 4 ++ (List.replicate 103 0 ++ beL s.gen 8)))) := by
    unfold layS headS; simp only [List.append_assoc]
  have e2 : ((layS s).drop 8).take 1 = beL s.area 1 := by rw [e, List.drop_left' (beL_length _ _), List.take_left' (beL_length _ _)]
  have e3 : ((layS s).drop 9).take 4 = beL s.size 4 := by
    rw [e, show (9 : Nat) = 8 + 1 from rfl, ← List.drop_drop, List.drop_left' (beL_length _ _), List.drop_left' (beL_length _ _), List.take_left' (beL_length _ _)]
  have e4 : ((layS s).drop 13).take 4 = beL s.sum 4 := by
    rw [e, show (13 : Nat) = 8 + 1 + 4 from rfl, ← List.drop_drop, ← List.drop_drop, List.drop_left' (beL_length _ _), List.drop_left' (beL_length _ _), List.drop_left' (beL_length _ _), List.take_left' (beL_length _ _)]
  unfold rdS
  rw [e1, e2, e3, e4, numL_be _ _ (show s.gen < 256 ^ 8 from h.g), numL_be _ _ (show s.area < 256 ^ 1 from h.a), numL_be _ _ (show s.size < 256 ^ 4 from h.z), numL_be _ _ (show s.sum < 256 ^ 4 from h.m)]
  simp only [Int.toNat_natCast]
theorem takeS_lay {s : Slt} (h : s.Ok) (h0 : s.gen ≠ 0) : takeS (layS s) = some s := by
  unfold takeS
  rw [rdS_lay h, if_neg (by simp [h0])]
/-- A sector that is torn: nothing has changed, or it says nothing. -/
theorem torn_slot {s : Slt} (hg : s.gen < 256) {O : List Int} (hO : O.length = 128) (h7 : O.take 7 = List.replicate 7 0) (hl : O.getD 127 0 < s.gen) {n : Nat} (hn : n < 128) :
    (layS s).take n ++ O.drop n = O ∨ (takeS ((layS s).take n ++ O.drop n) = none ∧ ((layS s).take n ++ O.drop n).take 7 = List.replicate 7 0 ∧ ((layS s).take n ++ O.drop n).getD 127 0 = O.getD 127 0) := by
  have hL := layS_length s
  have ht : ((layS s).take n).length = n := by rw [List.length_take]; omega
  by_cases h : n ≤ 7
  · left
    have : (layS s).take n = O.take n := by
      have e1 : (layS s).take n = ((layS s).take 7).take n := by rw [List.take_take, Nat.min_eq_left h]
      have e2 : O.take n = (O.take 7).take n := by rw [List.take_take, Nat.min_eq_left h]
      rw [e1, e2, layS_head hg, h7]
    rw [this, List.take_append_drop]
  · right
    have hlast : ((layS s).take n ++ O.drop n).getD 127 0 = O.getD 127 0 := by
      rw [List.getD_eq_getElem?_getD, List.getElem?_append_right (by omega), List.getElem?_drop, ht, List.getD_eq_getElem?_getD]
      congr 2; omega
    have h8 : ((layS s).take n ++ O.drop n).take 8 = beL s.gen 8 := by
      rw [List.take_append_of_le_length (by omega), List.take_take, Nat.min_eq_left (by omega), layS_take8]
    refine ⟨?_, ?_, hlast⟩
    · unfold takeS
      rw [if_pos]
      right
      intro e
      have e1 : (layS (rdS ((layS s).take n ++ O.drop n))).getD 127 0 = ((layS s).take n ++ O.drop n).getD 127 0 := by rw [e]
      have hgen : (rdS ((layS s).take n ++ O.drop n)).gen = s.gen := by
        unfold rdS
        rw [h8, numL_be _ _ (show s.gen < 256 ^ 8 by omega)]
        simp
      rw [hlast, layS_last (by rw [hgen]; exact hg), hgen] at e1
      omega
    · have : ((layS s).take n ++ O.drop n).take 7 = (((layS s).take n ++ O.drop n).take 8).take 7 := by rw [List.take_take]; rfl
      rw [this, h8, beL_small hg]; simp

/-- What a disk's bytes are, where a home's slots say x. -/
structure HI (each : Nat) (B : List Int) (x : Slt × Nat) : Prop where
  at1 : x.2 ≤ 1
  zero : x.1.gen = 0 → x = noS ∧ takeS (secL B 0) = none ∧ (secL B 0).take 7 = List.replicate 7 0 ∧ (secL B 0).getD 127 0 ≤ 1
  own : x.1.gen ≠ 0 → takeS (secL B x.2) = some x.1 ∧ (secL B x.2).take 7 = List.replicate 7 0 ∧ (secL B x.2).getD 127 0 ≤ x.1.gen + 1
  oth : ∀ o, takeS (secL B (1 - x.2)) = some o → o.gen < x.1.gen
  hd : (secL B (1 - x.2)).take 7 = List.replicate 7 0
  last : (secL B (1 - x.2)).getD 127 0 ≤ x.1.gen
  area : x.1.gen ≠ 0 → x.1.area ≤ 1 ∧ x.1.size ≤ 128 * each ∧ sumI (rdL B (2 + x.1.area * each) x.1.size) = x.1.sum
/-- What is kept. -/
def txtS (each : Nat) (B : List Int) (x : Slt × Nat) : Option (List Int) := if x.1.gen = 0 then none else some (rdL B (2 + x.1.area * each) x.1.size)
theorem nwS_gt {acc : Slt × Nat} {s : Slt} {i : Nat} (h : acc.1.gen < s.gen) : nwS acc (some s) i = (s, i) := if_pos h
theorem nwS_le {acc : Slt × Nat} {s : Slt} {i : Nat} (h : ¬ acc.1.gen < s.gen) : nwS acc (some s) i = acc := if_neg h
theorem HI.two {each : Nat} {B : List Int} {x : Slt × Nat} (h : HI each B x) : twoS B = x := by
  unfold twoS newerS
  by_cases h0 : x.1.gen = 0
  · obtain ⟨e, h1, _⟩ := h.zero h0
    have ho := h.oth
    rw [e] at ho
    have h2 : takeS (secL B 1) = none := by
      cases hh : takeS (secL B 1) with
      | none => rfl
      | some o => exact absurd (ho o hh) (by simp [noS])
    rw [h1, h2, e]; rfl
  · obtain ⟨hs, _⟩ := h.own h0
    have ho := h.oth
    obtain ⟨x1, at'⟩ := x
    have h1 : at' ≤ 1 := h.at1
    have h0' : ¬ x1.gen = 0 := h0
    have hs' : takeS (secL B at') = some x1 := hs
    have ho' : ∀ o, takeS (secL B (1 - at')) = some o → o.gen < x1.gen := ho
    clear h h0 hs ho
    have e : at' = 0 ∨ at' = 1 := by omega
    rcases e with rfl | rfl
    · rw [hs', nwS_gt (show noS.1.gen < x1.gen by show 0 < x1.gen; omega)]
      cases hh : takeS (secL B 1) with
      | none => rfl
      | some o =>
        have := ho' o hh
        exact nwS_le (by show ¬ x1.gen < o.gen; omega)
    · rw [hs']
      cases hh : takeS (secL B 0) with
      | none => exact nwS_gt (show 0 < x1.gen by omega)
      | some o =>
        have := ho' o hh
        by_cases hz : 0 < o.gen
        · rw [nwS_gt (show noS.1.gen < o.gen from hz)]; exact nwS_gt this
        · rw [nwS_le (show ¬ noS.1.gen < o.gen from hz)]; exact nwS_gt (show 0 < x1.gen by omega)
theorem HI.atS {each : Nat} {B : List Int} {x : Slt × Nat} (h : HI each B x) : atS x = x.2 := by
  unfold Go.Proofs.YtcklcffepedklaaGreatDoor.atS
  split
  · rename_i h0; rw [(h.zero h0).1]; rfl
  · rfl
/-- A new disk's home has nothing. -/
theorem HI.new (each S : Nat) (hS : 2 ≤ S) : HI each (List.replicate (128 * S) 0) noS := by
  have e : ∀ i, i ≤ 1 → secL (List.replicate (128 * S) 0) i = List.replicate 128 0 := fun i hi => by
    unfold secL
    rw [List.drop_replicate, List.take_replicate]
    congr 1; omega
  have ht : takeS (List.replicate 128 0) = none := by decide +kernel
  have e0 := e 0 (by decide)
  have e1 : secL (List.replicate (128 * S) 0) (1 - noS.2) = List.replicate 128 0 := e 1 (by decide)
  refine ⟨by decide, fun _ => ⟨rfl, ?_, ?_, ?_⟩, fun h => absurd rfl h, fun o ho => ?_, ?_, ?_, fun h => absurd rfl h⟩
  · rw [e0]; exact ht
  · rw [e0]; decide
  · rw [e0]; decide
  · rw [e1, ht] at ho; cases ho
  · rw [e1]; decide
  · rw [e1]; decide
section
variable {each S : Nat} {B B' : List Int} {x : Slt × Nat} {b : List Int}
theorem HI.of_same (h : HI each B x) (h0 : secL B' 0 = secL B 0) (h1 : secL B' 1 = secL B 1) (ha : x.1.gen ≠ 0 → rdL B' (2 + x.1.area * each) x.1.size = rdL B (2 + x.1.area * each) x.1.size) : HI each B' x ∧ txtS each B' x = txtS each B x := by
  have hx := h.at1
  have e1 : secL B' x.2 = secL B x.2 := by
    rcases (show x.2 = 0 ∨ x.2 = 1 by omega) with e | e <;> rw [e] <;> assumption
  have e2 : secL B' (1 - x.2) = secL B (1 - x.2) := by
    rcases (show 1 - x.2 = 0 ∨ 1 - x.2 = 1 by omega) with e | e <;> rw [e] <;> assumption
  refine ⟨⟨hx, by rw [h0]; exact h.zero, by rw [e1]; exact h.own, by rw [e2]; exact h.oth, by rw [e2]; exact h.hd, by rw [e2]; exact h.last, fun hg => ?_⟩, ?_⟩
  · rw [ha hg]; exact h.area hg
  · unfold txtS
    split
    · rfl
    · rename_i hg; rw [ha hg]
theorem nextS_area (h : HI each B x) : (nextS x b).area ≤ 1 := by
  unfold nextS
  show (if x.1.gen = 0 then 0 else 1 - x.1.area) ≤ 1
  split <;> omega
theorem HI.area_free (h : HI each B x) (hB : ∀ j, (j < 128 * (2 + (nextS x b).area * each) ∨ 128 * (2 + (nextS x b).area * each + each) ≤ j) → B'[j]? = B[j]?) : HI each B' x ∧ txtS each B' x = txtS each B x := by
  refine h.of_same ?_ ?_ fun hg => ?_
  · rw [secL_rdL, rdL_same fun j h1 h2 => hB j (.inl (by omega))]; rfl
  · rw [secL_rdL, rdL_same fun j h1 h2 => hB j (.inl (by omega))]; rfl
  · obtain ⟨h1, h2, _⟩ := h.area hg
    have hn : (nextS x b).area = 1 - x.1.area := if_neg hg
    rw [hn] at hB
    generalize x.1.area = a at h1 hB ⊢
    rcases (show a = 0 ∨ a = 1 by omega) with rfl | rfl
    · exact rdL_same fun j h3 h4 => hB j (.inl (by omega))
    · exact rdL_same fun j h3 h4 => hB j (.inr (by omega))
theorem nextS_ok (h : HI each B x) (hg : x.1.gen + 1 < 256) (hb : b.length ≤ 128 * each) (he : each ≤ 8000) : (nextS x b).Ok := by
  have ha := nextS_area (b := b) h
  have hs := sumI_U b
  refine ⟨?_, by omega, ?_, ?_⟩
  · show x.1.gen + 1 < _; omega
  · show b.length < _; omega
  · show (sumI b).toNat < _
    have : 0 ≤ sumI b ∧ sumI b < 4294967296 := hs
    omega
theorem slot_sec (hl : B.length = 128 * S) (hS : 2 + 2 * each ≤ S) {n : Nat} (hn : n ≤ 128) {i : Nat} (hi : i ≤ 1) (s : Slt) :
    secL (torn B i (layS s) n) i = (layS s).take n ++ (secL B i).drop n ∧ (∀ j, j ≤ 1 → j ≠ i → secL (torn B i (layS s) n) j = secL B j) ∧ ∀ p m, 2 ≤ p → rdL (torn B i (layS s) n) p m = rdL B p m := by
  have hL := layS_length s
  have ho := fun j => torn_out (B := B) (b := layS s) (S := S) (i := i) (n := n) (j := j) hl (by omega) (by omega) hn
  refine ⟨?_, fun j hj hne => ?_, fun p m hp => rdL_same fun j h1 h2 => ho j (by omega)⟩
  · rw [torn_sec hl (by omega) (by omega) hn, hL, Nat.sub_self, List.replicate_zero, List.append_nil]
  · rw [secL_rdL, rdL_same fun k h1 h2 => ho k (by omega)]; rfl
theorem slot_torn (h : HI each B x) (hl : B.length = 128 * S) (hS : 2 + 2 * each ≤ S) (hg : x.1.gen + 1 < 256) {n : Nat} (hn : n < 128) :
    HI each (torn B (1 - x.2) (layS (nextS x b)) n) x ∧ txtS each (torn B (1 - x.2) (layS (nextS x b)) n) x = txtS each B x := by
  have hx := h.at1
  obtain ⟨e1, e2, e3⟩ := slot_sec (each := each) hl hS (Nat.le_of_lt hn) (i := 1 - x.2) (by omega) (nextS x b)
  have hO : (secL B (1 - x.2)).length = 128 := secL_length hl (by omega)
  have hlast := h.last
  have hgen : (nextS x b).gen = x.1.gen + 1 := rfl
  have eo := e2 x.2 hx (by omega)
  rcases torn_slot (s := nextS x b) (by rw [hgen]; exact hg) hO h.hd (by rw [hgen]; omega) hn with e | ⟨t1, t2, t3⟩
  · rw [e] at e1
    have both : ∀ i, i ≤ 1 → secL (torn B (1 - x.2) (layS (nextS x b)) n) i = secL B i := fun i hi => by
      by_cases hii : i = 1 - x.2
      · rw [hii]; exact e1
      · exact e2 i hi hii
    exact h.of_same (both 0 (by decide)) (both 1 (by decide)) fun _ => e3 _ _ (by omega)
  · rw [← e1] at t1 t2 t3
    refine ⟨⟨hx, fun h0 => ?_, by rw [eo]; exact h.own, fun o ho => ?_, t2, by rw [t3]; exact hlast, fun hgn => ?_⟩, ?_⟩
    · have hz := h.zero h0
      have hx0 : x.2 = 0 := by rw [hz.1]; rfl
      rw [hx0] at eo
      rw [hx0]
      refine ⟨hz.1, ?_⟩
      rw [eo]; exact hz.2
    · rw [t1] at ho; cases ho
    · rw [e3 _ _ (by omega)]; exact h.area hgn
    · unfold txtS; split
      · rfl
      · rw [e3 _ _ (by omega)]
theorem slot_new (h : HI each B x) (hl : B.length = 128 * S) (hS : 2 + 2 * each ≤ S) (hg : x.1.gen + 1 < 256) (hb : b.length ≤ 128 * each) (he : each ≤ 8000) (hr : rdL B (2 + (nextS x b).area * each) b.length = b) :
    HI each (torn B (1 - x.2) (layS (nextS x b)) 128) (nextS x b, 1 - x.2) ∧ txtS each (torn B (1 - x.2) (layS (nextS x b)) 128) (nextS x b, 1 - x.2) = some b := by
  have hx := h.at1
  obtain ⟨e1, e2, e3⟩ := slot_sec (each := each) hl hS (Nat.le_refl 128) (i := 1 - x.2) (by omega) (nextS x b)
  have hO : (secL B (1 - x.2)).length = 128 := secL_length hl (by omega)
  have eo := e2 x.2 hx (by omega)
  rw [List.take_of_length_le (by rw [layS_length]; exact Nat.le_refl _), List.drop_of_length_le (by omega), List.append_nil] at e1
  have hgen : (nextS x b).gen = x.1.gen + 1 := rfl
  have hsz : (nextS x b).size = b.length := rfl
  have hsum : (nextS x b).sum = (sumI b).toNat := rfl
  have hok := nextS_ok h hg hb he
  have hU : 0 ≤ sumI b ∧ sumI b < 4294967296 := sumI_U b
  have e11 : 1 - (1 - x.2) = x.2 := by omega
  have hrd : rdL (torn B (1 - x.2) (layS (nextS x b)) 128) (2 + (nextS x b).area * each) b.length = b := (e3 _ _ (by omega)).trans hr
  refine ⟨⟨by show 1 - x.2 ≤ 1; omega, fun h0 => ?_, fun _ => ?_, fun o ho => ?_, ?_, ?_, fun _ => ?_⟩, ?_⟩
  · have : x.1.gen + 1 = 0 := h0
    omega
  · show takeS (secL _ (1 - x.2)) = some (nextS x b) ∧ (secL _ (1 - x.2)).take 7 = _ ∧ (secL _ (1 - x.2)).getD 127 0 ≤ ((nextS x b).gen : Int) + 1
    rw [e1]
    refine ⟨takeS_lay hok (by rw [hgen]; omega), layS_head (by rw [hgen]; exact hg), ?_⟩
    rw [layS_last (by rw [hgen]; exact hg)]; omega
  · show o.gen < x.1.gen + 1
    have ho' : takeS (secL (torn B (1 - x.2) (layS (nextS x b)) 128) (1 - (1 - x.2))) = some o := ho
    rw [e11, eo] at ho'
    by_cases h0 : x.1.gen = 0
    · have hz := h.zero h0
      have hx0 : x.2 = 0 := by rw [hz.1]; rfl
      rw [hx0, hz.2.1] at ho'; cases ho'
    · rw [(h.own h0).1] at ho'
      injection ho' with ho'
      subst ho'; omega
  · show (secL _ (1 - (1 - x.2))).take 7 = _
    rw [e11, eo]
    by_cases h0 : x.1.gen = 0
    · have hz := h.zero h0
      have hx0 : x.2 = 0 := by rw [hz.1]; rfl
      rw [hx0]; exact hz.2.2.1
    · exact (h.own h0).2.1
  · show (secL _ (1 - (1 - x.2))).getD 127 0 ≤ ((nextS x b).gen : Int)
    rw [e11, eo, hgen]
    by_cases h0 : x.1.gen = 0
    · have hz := h.zero h0
      have hx0 : x.2 = 0 := by rw [hz.1]; rfl
      have := hz.2.2.2
      rw [hx0]; omega
    · have := (h.own h0).2.2
      omega
  · refine ⟨nextS_area h, hb, ?_⟩
    show sumI (rdL _ _ b.length) = ((sumI b).toNat : Int)
    rw [hrd]; omega
  · unfold txtS
    rw [if_neg (by show ¬ x.1.gen + 1 = 0; omega)]
    show some (rdL _ _ b.length) = _
    rw [hrd]
theorem zip_fst {α β : Type} {l : List α} {m : List β} {z : α × β} (h : z ∈ l.zip m) : z.1 ∈ l := (List.of_mem_zip h).1
/-- What a Save leaves. -/
theorem save_law {d : Ds} (hd : d.dead = false) (hws : d.ws = []) (hns : d.now = d.safe) (hl : d.safe.length = 128 * S) (hS : 2 + 2 * each ≤ S) (he : each ≤ 8000) (h : HI each d.safe x) (hg : x.1.gen + 1 < 256) (hb : b.length ≤ 128 * each) :
    ((saveD each d x b).2 = 0 ∧ (saveD each d x b).1.dead = false ∧ (saveD each d x b).1.ws = [] ∧ (saveD each d x b).1.now = (saveD each d x b).1.safe ∧ ∃ y, HI each (saveD each d x b).1.safe y ∧ y.1.gen ≤ x.1.gen + 1 ∧ txtS each (saveD each d x b).1.safe y = some b) ∨
    ((saveD each d x b).2 = 6 ∧ (saveD each d x b).1.dead = true ∧ ∀ fs, ∃ y, HI each (crW (saveD each d x b).1.safe ((saveD each d x b).1.ws.zip fs)) y ∧ y.1.gen ≤ x.1.gen + 1 ∧
      (txtS each (crW (saveD each d x b).1.safe ((saveD each d x b).1.ws.zip fs)) y = txtS each d.safe x ∨ txtS each (crW (saveD each d x b).1.safe ((saveD each d x b).1.ws.zip fs)) y = some b)) := by
  have hx := h.at1
  have ha := nextS_area (b := b) h
  have hpS : 2 + (nextS x b).area * each + each ≤ S := by
    rcases (show (nextS x b).area = 0 ∨ (nextS x b).area = 1 by omega) with e | e <;> rw [e] <;> omega
  have hin := secs_in each (2 + (nextS x b).area * each) b
  unfold saveD
  rcases hwrite_law each d (2 + (nextS x b).area * each) b (by omega) hd (by rw [hws]; exact hns) with ⟨r1, r2, r3, r4, r5⟩ | ⟨r1, r2, r3, L1, L2, r4, r5⟩
  · rw [if_pos r1, h.atS]
    obtain ⟨d1, hd1⟩ : ∃ d1, (hwrite each d (2 + (nextS x b).area * each) b).1 = d1 := ⟨_, rfl⟩
    rw [hd1] at r2 r3 r4 r5 ⊢
    rw [hws, List.nil_append] at r4 r5
    have ho := flW_out hpS _ _ hl hin
    rw [← r4] at ho
    obtain ⟨h1, ht1⟩ := h.area_free (b := b) (B' := d1.safe) ho.2
    have hr : rdL d1.safe (2 + (nextS x b).area * each) b.length = b := by rw [r4]; exact secs_rd each _ b _ (by omega) hpS hl
    have hL := layS_length (nextS x b)
    have hne : layS (nextS x b) ≠ [] := fun e => by rw [e] at hL; cases hL
    have es : secs 1 (1 - x.2) (layS (nextS x b)) = [(1 - x.2, layS (nextS x b))] := by
      rw [secs, if_neg hne, List.take_of_length_le (by omega)]; rfl
    have hB2 : flW d1.safe [(1 - x.2, layS (nextS x b))] = torn d1.safe (1 - x.2) (layS (nextS x b)) 128 := secS_torn (b := layS (nextS x b)) (by rw [hL]; exact Nat.le_refl _)
    have law := hwrite_law 1 d1 (1 - x.2) (layS (nextS x b)) (by omega) r2 (by rw [r3, r4]; exact r5)
    rw [es, r3, List.nil_append] at law
    rcases law with ⟨q1, q2, q3, q4, q5⟩ | ⟨q1, q2, q3, L1, L2, q4, q5⟩
    · left
      refine ⟨q1, q2, q3, q5.trans q4.symm, (nextS x b, 1 - x.2), ?_⟩
      rw [q4, hB2]
      obtain ⟨n1, n2⟩ := slot_new h1 ho.1 hS hg hb he hr
      exact ⟨n1, Nat.le_refl _, n2⟩
    · right
      refine ⟨q1, q2, fun fs => ?_⟩
      rw [q3, q5, List.nil_append]
      rcases L1 with _ | ⟨z, L1⟩
      · exact ⟨x, h1, by omega, .inl ht1⟩
      · rw [List.cons_append] at q4
        injection q4 with q4 q6
        have : L1 = [] := (List.append_eq_nil_iff.1 q6.symm).1
        subst this; subst q4
        rcases fs with _ | ⟨f, fs⟩
        · exact ⟨x, h1, by omega, .inl ht1⟩
        · have e : crW d1.safe ([(1 - x.2, layS (nextS x b))].zip (f :: fs)) = torn d1.safe (1 - x.2) (layS (nextS x b)) (fate f) := rfl
          rw [e]
          have hf := fate_le f
          by_cases hn : fate f < 128
          · obtain ⟨n1, n2⟩ := slot_torn (b := b) h1 ho.1 hS hg hn
            exact ⟨x, n1, by omega, .inl (n2.trans ht1)⟩
          · rw [show fate f = 128 by omega]
            obtain ⟨n1, n2⟩ := slot_new h1 ho.1 hS hg hb he hr
            exact ⟨_, n1, Nat.le_refl _, .inr n2⟩
  · rw [if_neg (by rw [r1]; decide)]
    right
    refine ⟨r1, r2, fun fs => ?_⟩
    rw [r3, r5, hws, List.nil_append]
    have hz : ∀ z ∈ L1.zip fs, 2 + (nextS x b).area * each ≤ z.1.1 ∧ z.1.1 < 2 + (nextS x b).area * each + each ∧ z.1.2.length ≤ 128 := fun z hz =>
      hin z.1 (by rw [r4]; exact List.mem_append.2 (.inl (zip_fst hz)))
    have ho := crW_out hpS _ _ hl hz
    obtain ⟨h1, ht1⟩ := h.area_free (b := b) ho.2
    exact ⟨x, h1, by omega, .inl ht1⟩
end
/-- What a disk keeps: a; behind a Crash a or c. -/
structure Kept (each G : Nat) (d : Ds) (a c : Option (List Int)) : Prop where
  alive : d.dead = false → d.ws = [] ∧ d.now = d.safe ∧ ∃ x, HI each d.safe x ∧ x.1.gen ≤ G ∧ txtS each d.safe x = a
  crash : ∀ fs, ∃ x, HI each (crW d.safe (d.ws.zip fs)) x ∧ x.1.gen ≤ G ∧ (txtS each (crW d.safe (d.ws.zip fs)) x = a ∨ txtS each (crW d.safe (d.ws.zip fs)) x = c)
  ws : d.ws.length ≤ each + 1
theorem Kept.of_safe {each G : Nat} {d : Ds} {a c : Option (List Int)} {x : Slt × Nat} (h1 : d.ws = []) (h2 : d.now = d.safe) (h3 : HI each d.safe x) (h4 : x.1.gen ≤ G) (h5 : txtS each d.safe x = a) : Kept each G d a c :=
  ⟨fun _ => ⟨h1, h2, x, h3, h4, h5⟩, fun fs => by rw [h1]; exact ⟨x, h3, h4, .inl h5⟩, by rw [h1]; exact Nat.zero_le _⟩
theorem Kept.new (each S : Nat) (hS : 2 ≤ S) : Kept each 0 (newD S) none none := Kept.of_safe (x := noS) rfl rfl (HI.new each S hS) (Nat.le_refl _) rfl
theorem Kept.cut {each G : Nat} {d : Ds} {a c : Option (List Int)} (h : Kept each G d a c) (n : Int) : Kept each G (cutD d n) a c := by
  unfold cutD
  split
  · exact h
  · exact ⟨h.alive, h.crash, h.ws⟩
theorem Kept.mono {each G G' : Nat} {d : Ds} {a c : Option (List Int)} (h : Kept each G d a c) (hG : G ≤ G') : Kept each G' d a c :=
  ⟨fun hd => by obtain ⟨h1, h2, x, h3, h4, h5⟩ := h.alive hd; exact ⟨h1, h2, x, h3, by omega, h5⟩, fun fs => by obtain ⟨x, h3, h4, h5⟩ := h.crash fs; exact ⟨x, h3, by omega, h5⟩, h.ws⟩
theorem Kept.fell {each G : Nat} {d : Ds} {a c : Option (List Int)} (h : Kept each G d a c) (fs : List Int) : ∃ t, (t = a ∨ t = c) ∧ Kept each G (crD d fs) t t := by
  obtain ⟨x, h1, h2, h3⟩ := h.crash fs
  exact ⟨_, h3, Kept.of_safe (d := crD d fs) rfl rfl h1 h2 rfl⟩
theorem Kept.save {each S G : Nat} {d : Ds} {a c : Option (List Int)} {b : List Int} (h : Kept each G d a c) (hd : d.dead = false) (hl : d.safe.length = 128 * S) (hS : 2 + 2 * each ≤ S) (he : each ≤ 8000) (hG : G + 1 < 256) (hb : b.length ≤ 128 * each) :
    ((saveD each d (twoS d.now) b).2 = 0 ∧ (saveD each d (twoS d.now) b).1.dead = false ∧ Kept each (G + 1) (saveD each d (twoS d.now) b).1 (some b) (some b)) ∨ ((saveD each d (twoS d.now) b).2 = 6 ∧ Kept each (G + 1) (saveD each d (twoS d.now) b).1 a (some b)) := by
  obtain ⟨h1, h2, x, h3, h4, h5⟩ := h.alive hd
  rw [h2, h3.two]
  rcases save_law hd h1 h2 hl hS he h3 (by omega) hb with ⟨r1, r2, r3, r4, y, r5, r6, r7⟩ | ⟨r1, r2, r3⟩
  · exact .inl ⟨r1, r2, Kept.of_safe r3 r4 r5 (by omega) r7⟩
  · refine .inr ⟨r1, ⟨fun hdd => ?_, fun fs => ?_, ?_⟩⟩
    · rw [r2] at hdd; cases hdd
    · obtain ⟨y, r5, r6, r7⟩ := r3 fs
      exact ⟨y, r5, by omega, by rw [← h5]; exact r7⟩
    · have e : d.ws.length = 0 := by rw [h1]; rfl
      unfold saveD
      have k1 := hwrite_ws each d (2 + (nextS x b).area * each) b
      have k2 := hwrite_ws 1 (hwrite each d (2 + (nextS x b).area * each) b).1 (1 - Go.Proofs.YtcklcffepedklaaGreatDoor.atS x) (layS (nextS x b))
      split <;> omega
end Go.Proofs.YtcklcffepedklaaGreatDoor
