/- bloom's reference: Places. -/
import Derived.Test.YteodhbkhkecigaaRefVec
namespace Go.Proofs.Yteodhbkhkecigaa
open Go.RowKit

theorem four_at (k : Array Value) (b : Nat → Nat) (at_ : Nat) (z : Int) (w : World) (hk : k.size = 32) (hkb : ∀ i, i < 32 → k[i]? = some (.int .u8 (b i))) (hb : ∀ i, b i < 256) (hat : at_ ≤ 28) (hz : z = at_) :
    Calls Try.prog 27 #[.agg k, .int .i64 z] w fun e w' => e = .returned (.int .u32 (preN b at_ 4)) ∧ w.grownBy w' none := by subst hz; exact four_any k b at_ w hk hkb hb hat

/-- The places as numbers. -/
def placesI (bits probes : Nat) (b : Nat → Nat) (n : Nat) : List Int := (placesK bits probes b n).map fun p => ((p : Nat) : Int)
theorem odd_or (x : Nat) : x ||| 1 = if x % 2 = 0 then x + 1 else x := by
  apply Nat.eq_of_testBit_eq
  intro j
  rw [Nat.testBit_or]
  cases j with
  | zero =>
    simp only [Nat.testBit_zero]
    split
    · simp; omega
    · rename_i h; simp; omega
  | succ j =>
    have e1 : Nat.testBit 1 (j + 1) = false := by rw [Nat.testBit_succ]; simp
    rw [e1, Bool.or_false, Nat.testBit_succ, Nat.testBit_succ]
    split
    · rw [show (x + 1) / 2 = x / 2 from by omega]
    · rfl
theorem places_length (bits : Nat) : ∀ n x s, (places bits n x s).length = n
  | 0, _, _ => rfl
  | n + 1, x, s => by simp [places, places_length bits n]
/-- After so many rounds: what has been collected, and what is still to come. -/
def PlRel (B bits probes : Nat) (b : Nat → Nat) (n : Nat) (i kq X : Nat) (w w' : World) (v : Value) : Prop :=
  ∃ acc : List Int, acc.length = i ∧ w'.ownsRow B 3 1 v acc.length (acc.map (Value.int .i64)) ∧ Below B w w' ∧ acc ++ (places bits kq X (keyS b)).map (fun p => ((p : Nat) : Int)) = placesI bits probes b n

set_option maxRecDepth 20000 in
set_option maxHeartbeats 1600000 in
theorem Places_any (g h bits probes : Nat) (f : Nat → Bool) (k : Array Value) (b : Nat → Nat) (n : Nat) (w : World) (V : RV w g h bits probes f) (K : KeyC k b n) :
    Calls Try.prog 24 #[.pointer (some ⟨g, 0, none⟩), .agg k] w (NewInts .i64 w.heap.size (placesI bits probes b n) w) := by
  have hlim1 := V.lim.1
  have hlim2 := V.lim.2
  have hV0 : RV (w.alloc (.cells k 35)) g h bits probes f := V.kept (grown_alloc w (.cells k 35) none) (by simp) (by simp)
  obtain ⟨c0, c1⟩ := hV0.cells
  have hrow := heap_alloc_last w (.cells k 35)
  have HN0 := Lib.hid (show (w.alloc (.cells k 35)).cell? ⟨w.heap.size, 32, none⟩ = some (.int .u32 n) from (World.cell?_alloc_new w k 35 32).trans K.num)
  have HR := Lib.hid (rangeAt_of_row hrow 0 32)
  rw [List.drop_zero] at HR
  have HZ := Lib.hid (show (k.toList.take 32).toArray.size = 32 by simp [K.size])
  have HS32 := Lib.hid (show (Try.prog.info? 32).map (·.size) = some (k.toList.take 32).length from (show (Try.prog.info? 32).map (·.size) = some 32 by kernel_rfl).trans (by simp [K.size]))
  have HU32 := Lib.hid Try.underlying32
  have HKB := Lib.hid (show ∀ i, i < 32 → (k.toList.take 32).toArray[i]? = some (.int .u8 (b i)) from fun i hi => by rw [List.getElem?_toArray, List.getElem?_take, if_pos hi]; simpa using K.byte i hi)
  have HLT := Lib.hid K.lt
  have hn := K.nlt
  have HBW := Lib.hid (show Below w.heap.size w (w.alloc (.cells k 35)) from (Below.refl _ _).alloc (Nat.le_refl _) _)
  have hw1 := word4_lt (K.lt 0) (K.lt 1) (K.lt 2) (K.lt 3)
  have hw2 := word4_lt (K.lt 4) (K.lt 5) (K.lt 6) (K.lt 7)
  have HP1 := Lib.hid (preN_four b 0)
  have HP2 := Lib.hid (preN_four b 4)
  have HX := Lib.hid (show keyX b n = (word4 (b 0) (b 1) (b 2) (b 3) + n) % 4294967296 from rfl)
  have HS := Lib.hid (show keyS b = if word4 (b 4) (b 5) (b 6) (b 7) % 2 = 0 then word4 (b 4) (b 5) (b 6) (b 7) + 1 else word4 (b 4) (b 5) (b 6) (b 7) from odd_or _)
  have HSlt := Lib.hid (keyS_lt b K.lt)
  clear K
  by_cases hb0 : bits = 0
  · subst hb0
    have HE := Lib.hid (show placesI 0 probes b n = [] from rfl)
    go_enter Try.func24, Try.ntmps24
    go_wp2
    go_ret
    rw [HE.out]
    exact ⟨none, 0, rfl, Nat.le_refl _, fun i hi => absurd hi (by simp), (fun ad e => by cases e), HBW.out⟩
  · have hb1 : ((bits : Int) == 0) = false := by simp; omega
    have HE := Lib.hid (show placesI bits probes b n = (places bits probes (keyX b n) (keyS b)).map (fun p => ((p : Nat) : Int)) by unfold placesI placesK; rw [if_neg hb0])
    go_enter Try.func24, Try.ntmps24
    go_wp2
    obtain ⟨K0, hK0e⟩ : ∃ K0, K0 = w.heap.size := ⟨_, rfl⟩
    have hK0 : K0 < (w.alloc (.cells k 35)).heap.size := by rw [hK0e]; simp
    have hszW : w.heap.size < (w.alloc (.cells k 35)).heap.size := by simp
    rw [← hK0e] at HN0 HR ⊢
    have HK0 := Lib.hid hK0e
    clear hK0e hrow
    have HVW := Lib.hid hV0
    clear hV0
    generalize w.alloc (.cells k 35) = W at *
    have HN32 := Lib.hid (show ∀ w', W.grownBy w' none → w'.cell? ⟨K0, 32, none⟩ = some (.int .u32 n) from fun w' hh => (World.cell?_of_block (w := W) (hh.block K0 hK0 (by simp))).trans HN0.out)
    refine wp_region_held_drew (S := fun w' => W.grownBy w' none) (by kernel_rfl) (grown_drewN (World.grownBy.refl _ _) 1) (fun hHeld => ?_)
    refine held_take 0 (some 16) (v := ?_) rfl rfl (by kernel_rfl) (by kernel_rfl) (by kernel_rfl) (fun _ _ _ h => h) (Or.inl ⟨by rfl, ?_⟩) hHeld ?_
    rotate_left
    · (intro w' hSw; clear hSw; go_simp; try with_reducible rfl)
    try simp only [Act.put, List.setIfInBounds_toArray, List.set_cons_zero, List.set_cons_succ]
    refine held_take 1 (some 17) (v := .agg (k.toList.take 32).toArray) rfl rfl (by kernel_rfl) (by kernel_rfl) (by kernel_rfl) (fun _ _ _ h => h) (yieldsIf_load_mid (by rfl) 32 _ rfl K0 (0) rfl (k.toList.take 32) _ (fun w' h => rangeAt_block HR.out (h.block K0 hK0 (by simp))) HU32.out rfl HS32.out) hHeld ?_
    try simp only [Act.put, List.setIfInBounds_toArray, List.set_cons_zero, List.set_cons_succ]
    refine held_take 3 (some 19) (v := ?_) rfl rfl (by kernel_rfl) (by kernel_rfl) (by kernel_rfl) (fun _ _ _ h => h) (Or.inl ⟨by rfl, ?_⟩) hHeld ?_
    rotate_left
    · (intro w' hSw; clear hSw; go_simp; try with_reducible rfl)
    try simp only [Act.put, List.setIfInBounds_toArray, List.set_cons_zero, List.set_cons_succ]
    refine held_take 4 (some 20) (v := ?_) rfl rfl (by kernel_rfl) (by kernel_rfl) (by kernel_rfl) (fun _ _ _ h => h) (Or.inl ⟨by rfl, ?_⟩) hHeld ?_
    rotate_left
    · (intro w' hSw; have pf := HN32.out w' hSw; clear hSw; go_simp; try with_reducible rfl)
    try simp only [Act.put, List.setIfInBounds_toArray, List.set_cons_zero, List.set_cons_succ]
    refine wpAnyH_ready (rs := [2]) (by kernel_rfl) (by simp) ?_
    refine AllReadyH.cons rfl (fun K hKK => ?_) AllReadyH.nil
    go_simp
    go_at_call 27
    refine (four_at _ b 0 0 _ HZ.out HKB.out HLT.out (by decide) (by decide)).mono ?_
    rintro e w2 ⟨rfl, hg2⟩
    refine hKK.out _ _ (grown_trans (grown_drewN (World.grownBy.refl _ _) 1) hg2) (fun hHeld => ?_)
    clear hKK K
    try simp only [Act.put, List.setIfInBounds_toArray, List.set_cons_zero, List.set_cons_succ]
    refine held_take 5 (some 21) (v := ?_) rfl rfl (by kernel_rfl) (by kernel_rfl) (by kernel_rfl) (fun _ _ _ h => h) (Or.inl ⟨by rfl, ?_⟩) hHeld ?_
    rotate_left
    · (intro w' hSw; clear hSw; go_simp; try with_reducible rfl)
    try simp only [Act.put, List.setIfInBounds_toArray, List.set_cons_zero, List.set_cons_succ]
    refine held_take 6 (some 6) (v := ?_) rfl rfl (by kernel_rfl) (by kernel_rfl) (by kernel_rfl) (fun _ _ _ h => h) (Or.inl ⟨by rfl, ?_⟩) hHeld ?_
    rotate_left
    · (intro w' hSw; clear hSw; go_simp; try with_reducible rfl)
    try simp only [Act.put, List.setIfInBounds_toArray, List.set_cons_zero, List.set_cons_succ]
    refine wpAnyH_done (by kernel_rfl) ?_ _
    have hgW := grown_trans (grown_drewN (World.grownBy.refl W none) 1) hg2
    have HG2 := Lib.hid hgW
    have HR0 := Lib.hid HR.out
    clear hg2 hgW HN32 HR
    have hXe : IntKind.u32.wrap (((preN b 0 4 : Nat) : Int) + (n : Int)) = ((keyX b n : Nat) : Int) := by
      rw [HP1.out, HX.out, IntKind.wrap_u32, Nat.zero_add, Nat.zero_add, Nat.zero_add]; omega
    rw [hXe]
    clear hXe
    have hXlt : keyX b n < 4294967296 := by rw [HX.out]; omega
    generalize keyX b n = X0 at *
    have HR2 := Lib.hid (rangeAt_block HR0.out (HG2.out.block K0 hK0 (by simp)))
    have hYlt : preN b 4 4 < 4294967296 := by rw [HP2.out]; exact hw2
    have HSy : Hid (keyS b = if preN b 4 4 % 2 = 0 then preN b 4 4 + 1 else preN b 4 4) := by rw [HP2.out]; exact HS
    clear HS HP1 HP2 HX
    generalize hy : preN b 4 4 = y at *
    have HY := Lib.hid hy
    clear hy
    generalize hs : keyS b = s at *
    have HSS := Lib.hid hs
    clear hs
    by_cases hev : y % 2 = 0
    all_goals
      have hsy := HSy.out
      first | rw [if_pos hev] at hsy | rw [if_neg hev] at hsy
      have HSYY := Lib.hid hsy
      clear hsy
      have hev2 : ((y : Int) % 2 == 0) = decide (y % 2 = 0) := by rw [Bool.eq_iff_iff, beq_iff_eq, decide_eq_true_eq]; omega
      simp only [hev, decide_true, decide_false] at hev2
      go_wp2_with (first | (with_reducible refine Go.wpList_load_mid rfl 32 _ rfl K0 0 rfl (k.toList.take 32) _ HR2.out HU32.out rfl HS32.out ?_) | (go_at_call 27; refine (four_at _ b 4 4 _ HZ.out HKB.out HLT.out (by decide) (by decide)).mono ?_; rintro e w3 ⟨rfl, hg3⟩; rw [HY.out]))
      have hsl := HSlt.out
      have hr4 := HSYY.out
      first
        | rw [show (y : Int) + 1 = (s : Int) from by omega]
        | (subst hr4)
      clear hev2 HSy HSYY HY hev hYlt
      try clear hr4
      have hg23 := grown_trans HG2.out hg3
      have HW3 := Lib.hid (HBW.out.trans ((grown_below hg23 (Nat.le_refl _) (fun k hk => by cases hk)).mono (Nat.le_of_lt hszW)))
      have HV3 := Lib.hid (HVW.out.kept hg23 (by simp) (by simp))
      have hsz3 := Nat.lt_of_lt_of_le hszW hg23.size
      clear hg23 hg3 HR2 HG2 HR0 HN0 HBW HVW hw1 hw2 HKB HLT HS32 HU32 HZ hHeld c0 c1 hK0 hszW
      go_loopg [5, 6, 8] probes (fun kq v5 v6 v8 w' => ∃ i X : Nat, v6 = .int .u32 (X : Int) ∧ v8 = .int .i64 (i : Int) ∧ i + kq = probes ∧ X < 4294967296 ∧ PlRel w.heap.size bits probes b n i kq X w w' v5)
      case atStart => exact ⟨0, X0, rfl, rfl, by omega, hXlt, [], rfl, World.ownsRow_nil _ _ _ _, HW3.out, by rw [HE.out, HSS.out]; rfl⟩
      case round =>
        obtain ⟨i, X, rfl, rfl, hi, hX, acc, hacc, hown, hbel, hpl⟩ := hrel
        have V' := V.kept (below_grown hbel none) (by simp) (by simp)
        obtain ⟨d0, d1⟩ := V'.cells
        have hsr := hbel.size
        have HSS' := HSS.out
        cases gk with
        | zero =>
          have HPL := Lib.hid (show acc = placesI bits probes b n by rw [← hpl]; simp [places])
          have HOWN := Lib.hid hown
          have HBEL := Lib.hid hbel
          have hip : ¬ (i < probes) := by omega
          clear hpl hown hbel V' HSS' hacc
          go_wp2
          go_ret
          rw [HPL.out] at HOWN
          obtain ⟨A', c', hv, hcc, hI', hA'⟩ := new_of_own HOWN.out
          exact ⟨A', c', by rw [← HPL.out] at hv; rw [hv, HPL.out]; rfl, hcc, hI', hA', HBEL.out⟩
        | succ k1 =>
          have hip : i < probes := by omega
          have hpos : 0 < bits := by omega
          have hmod : X % bits < bits := Nat.mod_lt _ hpos
          have hmod2 : (X : Int) % (bits : Int) = ((X % bits : Nat) : Int) := by omega
          have hm0 : (0 : Int) ≤ (X : Int) % (bits : Int) := by omega
          have hm1 : (X : Int) % (bits : Int) < 1048577 := by omega
          have HPL := Lib.hid hpl
          have HBEL := Lib.hid hbel
          have HMOD := Lib.hid hmod2
          have HACC := Lib.hid hacc
          have hal : acc.length ≤ 30 := by omega
          have hown0 := hown.alloc (.cells #[.int .i64 ((X : Int) % (bits : Int))] 3)
          have HOWN := Lib.hid hown
          have HOWN0 := Lib.hid hown0
          clear hpl hbel V' HSS' hacc hown hown0 hmod2
          go_wp2_with (at_builtin; refine wpList_app E61 rfl _ _ rfl w.heap.size _ acc.length (acc.map (.int .i64)) rfl HOWN0.out (some ⟨wr.heap.size, 0, none⟩) 1 1 [.int .i64 ((X : Int) % (bits : Int))] rfl (fun h => by cases h) rfl ?c1 ?c2 ?c3 ?c4 ?c5 ?_)
          case c1 => intro j u hj; exact ⟨_, rfl, one_new _ _ _ j u hj⟩
          case c2 => intro u hu; simp at hu; subst hu; rfl
          case c3 => unfold maxLen; omega
          case c4 => omega
          case c5 => simp; omega
          intro v' w1 hown' hgrow _
          have hrel' : PlRel w.heap.size bits probes b n (i + 1) k1 ((X + s) % 4294967296) w w1 v' := by
            refine ⟨acc ++ [((X % bits : Nat) : Int)], by rw [List.length_append, HACC.out]; rfl, ?_, ?_, ?_⟩
            · rw [List.length_append, List.map_append, ← HMOD.out]; exact hown'
            · exact (HBEL.out.alloc (by omega) _).grown hgrow (by simp; omega) (fun k hk => (HOWN.out.lt k hk).1)
            · rw [← HPL.out, List.append_assoc, HSS.out]; rfl
          have HREL := Lib.hid hrel'
          clear hown' hgrow hrel'
          go_wp2
          go_roundg k1
          case measure => omega
          case rel => exact ⟨i + 1, (X + s) % 4294967296, by go_num, by go_num, by omega, Nat.mod_lt _ (by decide), HREL.out⟩

end Go.Proofs.Yteodhbkhkecigaa
