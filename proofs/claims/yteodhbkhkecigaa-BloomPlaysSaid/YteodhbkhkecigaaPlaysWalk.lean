/- The walk of BloomPlays. -/
import Derived.Test.YteodhbkhkecigaaHasWalk
import Derived.Test.YteodhbkhkecigaaRefOr
namespace Go.Proofs.Yteodhbkhkecigaa
open Go.RowKit

theorem Plays_bad (bits probes : Int) (k : Array Value) (v : Value) (w : World) (h : bits < 0 ∨ 1048576 < bits ∨ probes < 0 ∨ 30 < probes) :
    Calls Try.prog 5 #[.int .i64 bits, .int .i64 probes, v, .agg k] w fun e w' => e = .returned (.bool true) ∧ Below w.heap.size w w' := by
  have H := Lib.hid h
  have HB0 := Lib.hid ((Below.refl w.heap.size w).alloc (Nat.le_refl _) (.cells k 35))
  clear h
  go_enter Try.func5, Try.ntmps5
  go_wp2_with fail
  refine (shown_any _).mono ?_
  rintro e w1 ⟨rfl, hb1⟩
  have HB1 := Lib.hid (HB0.out.trans (hb1.mono (by simp)))
  clear hb1
  go_wp2_with fail
  refine (New_bad bits probes w1 H.out).mono ?_
  rintro e w2 ⟨rfl, rfl⟩
  go_wp2_with fail
  refine (RNew_bad bits probes w1 H.out).mono ?_
  rintro e w2 ⟨rfl, rfl⟩
  go_wp2_with fail
  go_ret
  exact ⟨rfl, HB1.out⟩

/-- What holds at each act. -/
structure Plays (w w' : World) (k : Array Value) (g bits probes h2 : Nat) (f : Nat → Bool) : Prop where
  bel : Below w.heap.size w w'
  vec : Vec w' (g + 1) g bits probes f
  ref : RV w' (g + 3) h2 bits probes f
  key : w'.heap[w.heap.size]? = some (.cells k 35 (0, 0))
  lt1 : w.heap.size < g
  lt2 : g + 1 < h2
  ne : g + 3 ≠ h2
theorem Plays.kept {w w' w2 : World} {k : Array Value} {g bits probes h2 : Nat} {f : Nat → Bool} (P : Plays w w' k g bits probes h2 f) (hg : Below w'.heap.size w' w2) : Plays w w2 k g bits probes h2 f :=
  ⟨P.bel.trans (hg.mono P.bel.size), P.vec.kept (below_grown hg none) (by simp) (by simp), P.ref.kept (below_grown hg none) (by simp) (by simp), (hg.block _ (by have := P.vec.glt; have := P.lt1; omega)).trans P.key, P.lt1, P.lt2, P.ne⟩
theorem Plays.vecTo {w w' w2 : World} {k : Array Value} {g bits probes h2 : Nat} {f f' : Nat → Bool} (P : Plays w w' k g bits probes h2 f) (hg : w'.grownBy w2 (some g)) (hv : Vec w2 (g + 1) g bits probes f') :
    Below w.heap.size w w2 ∧ RV w2 (g + 3) h2 bits probes f ∧ w2.heap[w.heap.size]? = some (.cells k 35 (0, 0)) :=
  ⟨P.bel.grown hg P.bel.size (fun q hq => by cases hq; have := P.lt1; omega), P.ref.kept hg (by simp) (by have := P.lt2; simp; omega), (hg.block _ (by have := P.vec.glt; have := P.lt1; omega) (by have := P.lt1; simp; omega)).trans P.key⟩
theorem May_b (r : Bool) (g h bits probes : Nat) (f : Nat → Bool) (k : Array Value) (b : Nat → Nat) (n : Nat) (w : World) (V : Vec w g h bits probes f) (K : KeyC k b n) (hr : (placesK bits probes b n).all f = r) :
    Calls Try.prog 18 #[.pointer (some ⟨g, 0, none⟩), .agg k] w fun e w' => e = .returned (.bool r) ∧ Below w.heap.size w w' :=
  (May_at r g h bits probes f k b n w V K hr).mono fun _ _ ⟨he, hg⟩ => ⟨he, grown_below hg (Nat.le_refl _) (fun k hk => by cases hk)⟩
theorem RMay_b (r : Bool) (g h bits probes : Nat) (f : Nat → Bool) (k : Array Value) (b : Nat → Nat) (n : Nat) (w : World) (V : RV w g h bits probes f) (K : KeyC k b n) (hr : (placesK bits probes b n).all f = r) :
    Calls Try.prog 19 #[.pointer (some ⟨g, 0, none⟩), .agg k] w fun e w' => e = .returned (.bool r) ∧ Below w.heap.size w w' := by
  subst hr
  exact (RMay_any g h bits probes f k b n w V K).mono fun _ _ ⟨he, hg⟩ => ⟨he, grown_below hg (Nat.le_refl _) (fun k hk => by cases hk)⟩
theorem RBytes_at (g h n probes : Nat) (f : Nat → Bool) (w : World) (V : RV w g h n probes f) (hf : ∀ p, n ≤ p → f p = false) :
    Calls Try.prog 20 #[.pointer (some ⟨g, 0, none⟩)] w (NewInts .u8 w.heap.size (pack ((n + 7) / 8) f) w) := by
  have e : upF f n = f := by
    funext q
    unfold upF
    by_cases h : q < n
    · simp [h]
    · rw [hf q (by omega)]; rfl
  have := RBytes_m g h n ((n + 7) / 8) probes f w V rfl
  rwa [e] at this

set_option maxRecDepth 100000 in
set_option maxHeartbeats 3200000 in
theorem Plays_good (bits probes : Nat) (A : Option Addr) (c n : Nat) (l : List ActT) (k : Array Value) (b : Nat → Nat) (num : Nat) (w : World) (hb : bits ≤ 1048576) (hp : probes ≤ 30) (hn : l.length = n) (hL : Acts w A l) (hnc : n ≤ c) (hK : KeyC k b num) :
    Calls Try.prog 5 #[.int .i64 bits, .int .i64 probes, .slice A n c, .agg k] w fun e w' => e = .returned (.bool true) ∧ Below w.heap.size w w' := by
  have HN := Lib.hid hn
  have HL := Lib.hid hL
  have HK := Lib.hid hK
  have HB0 := Lib.hid ((Below.refl w.heap.size w).alloc (Nat.le_refl _) (.cells k 35))
  have HR0 := Lib.hid (heap_alloc_last w (.cells k 35))
  clear hn hL hK
  go_enter Try.func5, Try.ntmps5
  go_wp2_with fail
  refine (shown_any _).mono ?_
  rintro e w1 ⟨rfl, hb1⟩
  have HB1 := Lib.hid (HB0.out.trans (hb1.mono (by simp)))
  have hs1 := hb1.size
  rw [World.size_alloc] at hs1
  have HR1 := Lib.hid ((hb1.block w.heap.size (by simp)).trans HR0.out)
  clear hb1
  go_wp2_with fail
  refine (New_any bits probes w1 hb hp).mono ?_
  rintro e w2 ⟨rfl, hg2, V2, hs2⟩
  go_wp2_with fail
  refine (RNew_any bits probes w2 hb hp).mono ?_
  rintro e w3 ⟨rfl, hg3, V3, hs3⟩
  rw [hs2] at V3 ⊢
  rw [show w1.heap.size + 2 + 1 = w1.heap.size + 3 from rfl]
  have HP := Lib.hid (show Plays w w3 k w1.heap.size bits probes (w1.heap.size + 2) (fun _ => false) from
    ⟨(HB1.out.grown hg2 HB1.out.size (by simp)).grown hg3 (by omega) (by simp), V2.kept hg3 (by simp) (by simp), V3, (hg3.block _ (by omega) (by simp)).trans ((hg2.block _ (by omega) (by simp)).trans HR1.out), by omega, by omega, by omega⟩)
  have hgs : w1.heap.size + 4 = w3.heap.size := by omega
  have HGS := Lib.hid hgs
  clear hg2 hg3 V2 V3 HB0 HR0 HR1 hgs hs2 hs3 HB1 hs1
  generalize w1.heap.size = g at *
  go_wp2_with fail
  refine (few_any A c n l w3 HN.out (HL.out.below HP.out.bel) hnc).mono ?_
  rintro e w4 ⟨⟨M, hM1, hM2, hMb, rfl⟩, rfl⟩
  have HMB := Lib.hid hMb
  clear hMb
  go_wp2_with fail
  go_loopg [51] M (fun kq v51 w' => ∃ i h2 : Nat, v51 = .int .i64 (i : Int) ∧ i + kq = M ∧ ∃ f, Plays w w' k g bits probes h2 f)
  case atStart => exact ⟨0, _, rfl, by omega, _, HP.out⟩
  case round =>
    obtain ⟨i, h2, rfl, hi, f, P⟩ := hrel
    have HP := Lib.hid P
    clear P
    by_cases hlt : i < M
    · obtain ⟨a, ha⟩ : ∃ a, l[i]? = some a := ⟨_, List.getElem?_eq_getElem (by rw [HN.out]; omega)⟩
      obtain ⟨ab, o, ak, e, hbl, hr, hKc⟩ := (HL.out.below HP.out.bel) i a ha
      subst e
      have hblk : ∀ ad, a.A = some ad → 0 < a.b.length → ad.block < w.heap.size := by
        intro ad hd h0
        obtain ⟨_, _, _, _, _, _, hC0⟩ := HL.out i a ha
        exact hC0.blk ad hd h0
      obtain ⟨w5, hst, hg5, hk5, hs5⟩ := store_act hKc wr
      have hC5 := hKc.grown hg5 (fun _ h => by cases h)
      have HP5 := Lib.hid (HP.out.kept (grown_below hg5 (Nat.le_refl _) (fun k hk => by cases hk)))
      have hwr := HP.out.bel.size
      have hlen := HMB.out i a hlt ha
      have HST := Lib.hid hst
      have HI := Lib.hid (info47 hKc)
      have HSZ := Lib.hid (show (Try.prog.info? 47).map (·.size) = some ak.toList.length from (info47 hKc).trans (by simp))
      have hks := hKc.size
      have klt := hKc.klt
      have HR := Lib.hid hr
      have hlt1 : (i : Int) < (M : Int) := by omega
      have hlt2 : (0 : Int) ≤ (i : Int) := by omega
      have HC := Lib.hid (does_any (g + 1) g bits probes a.b.length f a ak w5 HP5.out.vec (by omega) hC5 rfl hlen (fun ad e h0 => by have := hblk ad e h0; have := HP.out.lt1; omega))
      have HBLK := Lib.hid hblk
      have HAK := Lib.hid hKc.key
      obtain ⟨KL, hKL⟩ : ∃ L, L = (ak.toList.drop 1).take 33 := ⟨_, rfl⟩
      rw [← hKL] at HAK
      have HKL := Lib.hid hKL
      clear hKL
      have HHK := Lib.hid hk5
      have HS5 := Lib.hid hs5
      obtain ⟨N0, hN0⟩ : ∃ N0, N0 = wr.heap.size := ⟨_, rfl⟩
      have HN0 := Lib.hid hN0
      clear hst hr hKc hblk ha hlt
      have hkind := hC5.kind
      have hint := Lib.hid hC5.ints
      have hib := Lib.hid hC5.isB
      have hbytes := hC5.bytes
      have HLEN := Lib.hid (show a.b.length = a.b.length from rfl)
      obtain ⟨kd, hkd⟩ : ∃ kd, a.kind = kd := ⟨_, rfl⟩
      have HKD := Lib.hid hkd
      rw [hkd] at hkind klt
      have HKI := Lib.hid hkind
      have HBY := Lib.hid hbytes
      clear hkd hkind hbytes hC5 hk5 hs5 hN0
      obtain hk3 | hk3 | hk3 : kd % 3 = 0 ∨ kd % 3 = 1 ∨ kd % 3 = 2 := by omega
      · have hka : (kd : Int) % 3 = 0 := by omega
        have hkk : kd % 3 = 0 := hk3
        go_wp2_with (first | (with_reducible refine Go.wpList_load_mid rfl 47 _ rfl ab (o + i * 35) rfl ak.toList _ HR.out Try.underlying47 rfl HSZ.out ?_) | (rw [HST.out]; simp only [Result.andThen_ok]) | (with_reducible refine wpList_load_row rfl 47 _ rfl wr.heap.size rfl 47 _ (0, 0) _ HHK.out Try.underlying47 rfl HI.out ?_))
        refine HC.out.mono ?_
        rintro e w6 ⟨rfl, hg6, hv6⟩
        obtain ⟨hb6, hr6, hk6⟩ := HP5.out.vecTo hg6 hv6
        have hrow6 := (hg6.block wr.heap.size (by rw [HS5.out]; omega) (by have := HP.out.lt1; have := HP.out.vec.glt; simp; omega)).trans HHK.out
        have HRM := Lib.hid (show w6.rangeAt wr.heap.size 1 KL from by rw [HKL.out]; exact rangeAt_of_row hrow6 1 33)
        have HIM := Lib.hid (show (Try.prog.info? 35).map (·.size) = some KL.length from (info35 HAK.out).trans (by simp))
        have cka : w6.cell? ⟨wr.heap.size, 0, none⟩ = some (.int .u8 kd) := by rw [cell_of_row _ _ _ _ _ _ hrow6]; exact HKI.out
        have HDF := Lib.hid (show doF bits probes f a = puts f (placesK bits probes a.key.1 a.key.2) by unfold doF; rw [if_pos (by rw [HKD.out]; exact hkk)])
        have HRR := Lib.hid hrow6
        have HVV := Lib.hid hv6
        have HRV := Lib.hid hr6
        have HKK6 := Lib.hid hk6
        have HBB6 := Lib.hid hb6
        have hs6 := hg6.size
        clear hrow6 hv6 hr6 hk6 hb6 hg6 hkk hk3
        go_wp2_with (first | (with_reducible refine Go.wpList_load_mid rfl 35 _ rfl wr.heap.size 1 rfl KL _ HRM.out Try.underlying35 rfl HIM.out ?_))
        ((with_reducible refine (RAdd_any (g + 3) h2 bits probes f _ a.key.1 a.key.2 _ HRV.out HP.out.ne HAK.out).mono ?_))
        rintro e w7 ⟨rfl, hg7, hr7⟩
        go_wp2_with fail
        have hPW : Plays w w7 k g bits probes h2 (doF bits probes f a) := by
          refine ⟨HBB6.out.grown hg7 HBB6.out.size (fun q hq => by cases hq; have := HP.out.lt1; have := HP.out.lt2; omega), HVV.out.kept hg7 (by have := HP.out.lt2; simp; omega) (by have := HP.out.lt2; simp; omega), by rw [HDF.out]; exact hr7, ?_, HP.out.lt1, HP.out.lt2, HP.out.ne⟩
          exact (hg7.block _ (by have := HP.out.lt1; have := HRV.out.hlt; have := HP.out.lt2; omega) (by have := HP.out.lt1; have := HP.out.lt2; simp; omega)).trans HKK6.out
        have hRA := (hg7.block wr.heap.size (by rw [HS5.out] at hs6; omega) (by have := HP.out.ref.hlt; simp; omega)).trans HRR.out
        have hNW : wr.heap.size < w7.heap.size := by have := hg7.size; rw [HS5.out] at hs6; omega
        obtain ⟨h2', hh2⟩ : ∃ z, z = h2 := ⟨_, rfl⟩
        rw [← hh2] at hPW
        clear hh2 hg7 hr7
        have HPW := Lib.hid hPW
        have HRA := Lib.hid hRA
        have hKlt : w.heap.size < w7.heap.size := by have := HPW.out.lt1; have := HPW.out.vec.glt; omega
        have HQ1 := Lib.hid (show w7.rangeAt w.heap.size 0 k.toList from by have := rangeAt_of_row HPW.out.key 0 33; rwa [List.drop_zero, List.take_of_length_le (by simp [HK.out.size])] at this)
        have HQ2 := Lib.hid (show w7.rangeAt wr.heap.size 1 KL from by rw [HKL.out]; exact rangeAt_of_row HRA.out 1 33)
        have HZ1 := Lib.hid (show (Try.prog.info? 35).map (·.size) = some k.toList.length from (info35 HK.out).trans (by simp))
        have HZ2 := Lib.hid (show (Try.prog.info? 35).map (·.size) = some KL.length from (info35 HAK.out).trans (by simp))
        obtain ⟨r1, hr1⟩ : ∃ r, (placesK bits probes b num).all (doF bits probes f a) = r := ⟨_, rfl⟩
        obtain ⟨r2, hr2⟩ : ∃ r, (placesK bits probes a.key.1 a.key.2).all (doF bits probes f a) = r := ⟨_, rfl⟩
        have HR1 := Lib.hid hr1
        have HR2 := Lib.hid hr2
        clear hr1 hr2 hPW hRA
        obtain ⟨N1, hN1⟩ : ∃ z, z = wr.heap.size := ⟨_, rfl⟩
        rw [← hN1] at HQ2 hNW ⊢
        clear hN1
        try clear hs6
        try clear cka
        try clear ckb
        go_wp2_with fail
        refine wp_region_held_drew (S := fun w' => Below w7.heap.size w7 w') (by kernel_rfl) ((Below.refl _ _).drew) (fun hHeld => ?_)
        refine held_take 0 (some 82) (v := ?_) rfl rfl (by kernel_rfl) (by kernel_rfl) (by kernel_rfl) (fun _ _ _ h => h) (Or.inl ⟨by rfl, ?_⟩) hHeld ?_
        rotate_left
        · (intro w' hSw; clear hSw; go_simp; try with_reducible rfl)
        try simp only [Act.put, List.setIfInBounds_toArray, List.set_cons_zero, List.set_cons_succ]
        refine held_take 1 (some 83) (v := .agg (k.toList).toArray) rfl rfl (by kernel_rfl) (by kernel_rfl) (by kernel_rfl) (fun _ _ _ h => h) (yieldsIf_load_mid (by rfl) 35 _ rfl w.heap.size (0) rfl (k.toList) _ (fun w' h => rangeAt_block HQ1.out (h.block _ hKlt)) Try.underlying35 rfl HZ1.out) hHeld ?_
        try simp only [Act.put, List.setIfInBounds_toArray, List.set_cons_zero, List.set_cons_succ]
        refine held_take 3 (some 85) (v := ?_) rfl rfl (by kernel_rfl) (by kernel_rfl) (by kernel_rfl) (fun _ _ _ h => h) (Or.inl ⟨by rfl, ?_⟩) hHeld ?_
        rotate_left
        · (intro w' hSw; clear hSw; go_simp; try with_reducible rfl)
        try simp only [Act.put, List.setIfInBounds_toArray, List.set_cons_zero, List.set_cons_succ]
        refine held_take 4 (some 86) (v := .agg (k.toList).toArray) rfl rfl (by kernel_rfl) (by kernel_rfl) (by kernel_rfl) (fun _ _ _ h => h) (yieldsIf_load_mid (by rfl) 35 _ rfl w.heap.size (0) rfl (k.toList) _ (fun w' h => rangeAt_block HQ1.out (h.block _ hKlt)) Try.underlying35 rfl HZ1.out) hHeld ?_
        try simp only [Act.put, List.setIfInBounds_toArray, List.set_cons_zero, List.set_cons_succ]
        refine wpAnyH_ready (rs := [2]) (by kernel_rfl) (by simp) ?_
        refine AllReadyH.cons rfl (fun K hKK => ?_) AllReadyH.nil
        go_simp
        go_at_call 18
        ((with_reducible refine (May_b r1 (g + 1) g bits probes _ k b num _ (HPW.out.kept ((Below.refl _ _).drew)).vec HK.out HR1.out).mono ?_))
        rintro e w8 ⟨rfl, hb8⟩
        have hB8 : Below w7.heap.size w7 w8 := ((Below.refl _ _).drew).trans hb8
        refine hKK.out _ _ hB8 (fun hHeld => ?_)
        clear hKK K
        try simp only [Act.put, List.setIfInBounds_toArray, List.set_cons_zero, List.set_cons_succ]
        refine wpAnyH_ready (rs := [5]) (by kernel_rfl) (by simp) ?_
        refine AllReadyH.cons rfl (fun K hKK => ?_) AllReadyH.nil
        go_simp
        go_at_call 19
        ((with_reducible refine (RMay_b r1 (g + 3) h2' bits probes _ k b num _ (HPW.out.kept hB8).ref HK.out HR1.out).mono ?_))
        rintro e w9 ⟨rfl, hb9⟩
        have hB9 : Below w7.heap.size w7 w9 := hB8.trans (hb9.mono hB8.size)
        refine hKK.out _ _ hB9 (fun hHeld => ?_)
        clear hKK K
        try simp only [Act.put, List.setIfInBounds_toArray, List.set_cons_zero, List.set_cons_succ]
        refine held_take 6 (some 88) (v := ?_) rfl rfl (by kernel_rfl) (by kernel_rfl) (by kernel_rfl) (fun _ _ _ h => h) (Or.inl ⟨by rfl, ?_⟩) hHeld ?_
        rotate_left
        · (intro w' hSw; clear hSw; go_simp; try with_reducible rfl)
        try simp only [Act.put, List.setIfInBounds_toArray, List.set_cons_zero, List.set_cons_succ]
        refine held_take 7 (some 89) (v := ?_) rfl rfl (by kernel_rfl) (by kernel_rfl) (by kernel_rfl) (fun _ _ _ h => h) (Or.inl ⟨by rfl, ?_⟩) hHeld ?_
        rotate_left
        · (intro w' hSw; clear hSw; go_simp; try with_reducible rfl)
        try simp only [Act.put, List.setIfInBounds_toArray, List.set_cons_zero, List.set_cons_succ]
        refine held_take 8 (some 90) (v := ?_) rfl rfl (by kernel_rfl) (by kernel_rfl) (by kernel_rfl) (fun _ _ _ h => h) (Or.inl ⟨by rfl, ?_⟩) hHeld ?_
        rotate_left
        · (intro w' hSw; clear hSw; go_simp; try with_reducible rfl)
        try simp only [Act.put, List.setIfInBounds_toArray, List.set_cons_zero, List.set_cons_succ]
        refine held_take 9 (some 91) (v := ?_) rfl rfl (by kernel_rfl) (by kernel_rfl) (by kernel_rfl) (fun _ _ _ h => h) (Or.inl ⟨by rfl, ?_⟩) hHeld ?_
        rotate_left
        · (intro w' hSw; clear hSw; go_simp; try with_reducible rfl)
        try simp only [Act.put, List.setIfInBounds_toArray, List.set_cons_zero, List.set_cons_succ]
        refine held_take 10 (some 92) (v := .agg (KL).toArray) rfl rfl (by kernel_rfl) (by kernel_rfl) (by kernel_rfl) (fun _ _ _ h => h) (yieldsIf_load_mid (by rfl) 35 _ rfl N1 (1) rfl (KL) _ (fun w' h => rangeAt_block HQ2.out (h.block _ hNW)) Try.underlying35 rfl HZ2.out) hHeld ?_
        try simp only [Act.put, List.setIfInBounds_toArray, List.set_cons_zero, List.set_cons_succ]
        refine held_take 12 (some 94) (v := ?_) rfl rfl (by kernel_rfl) (by kernel_rfl) (by kernel_rfl) (fun _ _ _ h => h) (Or.inl ⟨by rfl, ?_⟩) hHeld ?_
        rotate_left
        · (intro w' hSw; clear hSw; go_simp; try with_reducible rfl)
        try simp only [Act.put, List.setIfInBounds_toArray, List.set_cons_zero, List.set_cons_succ]
        refine held_take 13 (some 95) (v := ?_) rfl rfl (by kernel_rfl) (by kernel_rfl) (by kernel_rfl) (fun _ _ _ h => h) (Or.inl ⟨by rfl, ?_⟩) hHeld ?_
        rotate_left
        · (intro w' hSw; clear hSw; go_simp; try with_reducible rfl)
        try simp only [Act.put, List.setIfInBounds_toArray, List.set_cons_zero, List.set_cons_succ]
        refine held_take 14 (some 96) (v := .agg (KL).toArray) rfl rfl (by kernel_rfl) (by kernel_rfl) (by kernel_rfl) (fun _ _ _ h => h) (yieldsIf_load_mid (by rfl) 35 _ rfl N1 (1) rfl (KL) _ (fun w' h => rangeAt_block HQ2.out (h.block _ hNW)) Try.underlying35 rfl HZ2.out) hHeld ?_
        try simp only [Act.put, List.setIfInBounds_toArray, List.set_cons_zero, List.set_cons_succ]
        refine wpAnyH_ready (rs := [11]) (by kernel_rfl) (by simp) ?_
        refine AllReadyH.cons rfl (fun K hKK => ?_) AllReadyH.nil
        go_simp
        go_at_call 18
        ((with_reducible refine (May_b r2 (g + 1) g bits probes _ _ _ _ _ (HPW.out.kept hB9).vec HAK.out HR2.out).mono ?_))
        rintro e w10 ⟨rfl, hb10⟩
        have hB10 : Below w7.heap.size w7 w10 := hB9.trans (hb10.mono hB9.size)
        refine hKK.out _ _ hB10 (fun hHeld => ?_)
        clear hKK K
        try simp only [Act.put, List.setIfInBounds_toArray, List.set_cons_zero, List.set_cons_succ]
        refine wpAnyH_ready (rs := [15]) (by kernel_rfl) (by simp) ?_
        refine AllReadyH.cons rfl (fun K hKK => ?_) AllReadyH.nil
        go_simp
        go_at_call 19
        ((with_reducible refine (RMay_b r2 (g + 3) h2' bits probes _ _ _ _ _ (HPW.out.kept hB10).ref HAK.out HR2.out).mono ?_))
        rintro e w11 ⟨rfl, hb11⟩
        have hB11 : Below w7.heap.size w7 w11 := hB10.trans (hb11.mono hB10.size)
        refine hKK.out _ _ hB11 (fun hHeld => ?_)
        clear hKK K
        try simp only [Act.put, List.setIfInBounds_toArray, List.set_cons_zero, List.set_cons_succ]
        refine held_take 16 (some 98) (v := ?_) rfl rfl (by kernel_rfl) (by kernel_rfl) (by kernel_rfl) (fun _ _ _ h => h) (Or.inl ⟨by rfl, ?_⟩) hHeld ?_
        rotate_left
        · (intro w' hSw; clear hSw; go_simp; try with_reducible rfl)
        try simp only [Act.put, List.setIfInBounds_toArray, List.set_cons_zero, List.set_cons_succ]
        refine held_take 17 (some 99) (v := ?_) rfl rfl (by kernel_rfl) (by kernel_rfl) (by kernel_rfl) (fun _ _ _ h => h) (Or.inl ⟨by rfl, ?_⟩) hHeld ?_
        rotate_left
        · (intro w' hSw; clear hSw; go_simp; try with_reducible rfl)
        try simp only [Act.put, List.setIfInBounds_toArray, List.set_cons_zero, List.set_cons_succ]
        refine wpAnyH_done (by kernel_rfl) ?_ _
        have HB11 := Lib.hid hB11
        clear hB8 hB9 hB10 hB11 hb8 hb9 hb10 hb11 hHeld
        go_wp2_with fail
        go_roundg (M - (i + 1))
        case measure => omega
        case rel => exact ⟨i + 1, h2', by go_num, by omega, _, HPW.out.kept HB11.out⟩
      · have hka : (kd : Int) % 3 = 1 := by omega
        have hkk : kd % 3 = 1 := hk3
        go_wp2_with (first | (with_reducible refine Go.wpList_load_mid rfl 47 _ rfl ab (o + i * 35) rfl ak.toList _ HR.out Try.underlying47 rfl HSZ.out ?_) | (rw [HST.out]; simp only [Result.andThen_ok]) | (with_reducible refine wpList_load_row rfl 47 _ rfl wr.heap.size rfl 47 _ (0, 0) _ HHK.out Try.underlying47 rfl HI.out ?_))
        refine HC.out.mono ?_
        rintro e w6 ⟨rfl, hg6, hv6⟩
        obtain ⟨hb6, hr6, hk6⟩ := HP5.out.vecTo hg6 hv6
        have hrow6 := (hg6.block wr.heap.size (by rw [HS5.out]; omega) (by have := HP.out.lt1; have := HP.out.vec.glt; simp; omega)).trans HHK.out
        have cka : w6.cell? ⟨wr.heap.size, 0, none⟩ = some (.int .u8 kd) := by rw [cell_of_row _ _ _ _ _ _ hrow6]; exact HKI.out
        have ckb : w6.cell? ⟨wr.heap.size, 34, none⟩ = some (.slice a.A a.b.length a.cap) := by rw [cell_of_row _ _ _ _ _ _ hrow6]; exact HBY.out
        have HDF := Lib.hid (show doF bits probes f a = orAll bits f a.b by unfold doF; rw [if_neg (by rw [HKD.out]; omega), if_pos (by rw [HKD.out]; exact hkk)])
        have HIN := Lib.hid (show Ints .u8 w6 a.A a.b from fun j hj => by
            obtain ⟨ad, e, hc⟩ := hint.out j hj
            exact ⟨ad, e, (World.cell?_of_block (w := w5) (hg6.block _ (cell_lt hc) (by rw [add_block]; have := HBLK.out ad e (by omega); have := HP.out.lt1; simp; omega))).trans hc⟩)
        have HRR := Lib.hid hrow6
        have HVV := Lib.hid hv6
        have HRV := Lib.hid hr6
        have HKK6 := Lib.hid hk6
        have HBB6 := Lib.hid hb6
        have hs6 := hg6.size
        clear hrow6 hv6 hr6 hk6 hb6 hg6 hkk hk3
        obtain ⟨bl, hbl2⟩ : ∃ z, z = a.b.length := ⟨_, rfl⟩
        rw [← hbl2] at ckb hlen
        have HBL2 := Lib.hid hbl2
        clear hbl2
        go_wp2_with fail
        ((with_reducible refine (ROr_any (g + 3) h2 bits probes bl f a.A a.cap a.b _ HRV.out HP.out.ne HIN.out hib.out HBL2.out.symm hlen (fun ad e h0 => by have := HBLK.out ad e h0; have := HP.out.lt1; have := HP.out.lt2; omega)).mono ?_))
        rintro e w7 ⟨rfl, hg7, hr7⟩
        go_wp2_with fail
        have hPW : Plays w w7 k g bits probes h2 (doF bits probes f a) := by
          refine ⟨HBB6.out.grown hg7 HBB6.out.size (fun q hq => by cases hq; have := HP.out.lt1; have := HP.out.lt2; omega), HVV.out.kept hg7 (by have := HP.out.lt2; simp; omega) (by have := HP.out.lt2; simp; omega), by rw [HDF.out]; exact hr7, ?_, HP.out.lt1, HP.out.lt2, HP.out.ne⟩
          exact (hg7.block _ (by have := HP.out.lt1; have := HRV.out.hlt; have := HP.out.lt2; omega) (by have := HP.out.lt1; have := HP.out.lt2; simp; omega)).trans HKK6.out
        have hRA := (hg7.block wr.heap.size (by rw [HS5.out] at hs6; omega) (by have := HP.out.ref.hlt; simp; omega)).trans HRR.out
        have hNW : wr.heap.size < w7.heap.size := by have := hg7.size; rw [HS5.out] at hs6; omega
        obtain ⟨h2', hh2⟩ : ∃ z, z = h2 := ⟨_, rfl⟩
        rw [← hh2] at hPW
        clear hh2 hg7 hr7
        have HPW := Lib.hid hPW
        have HRA := Lib.hid hRA
        have hKlt : w.heap.size < w7.heap.size := by have := HPW.out.lt1; have := HPW.out.vec.glt; omega
        have HQ1 := Lib.hid (show w7.rangeAt w.heap.size 0 k.toList from by have := rangeAt_of_row HPW.out.key 0 33; rwa [List.drop_zero, List.take_of_length_le (by simp [HK.out.size])] at this)
        have HQ2 := Lib.hid (show w7.rangeAt wr.heap.size 1 KL from by rw [HKL.out]; exact rangeAt_of_row HRA.out 1 33)
        have HZ1 := Lib.hid (show (Try.prog.info? 35).map (·.size) = some k.toList.length from (info35 HK.out).trans (by simp))
        have HZ2 := Lib.hid (show (Try.prog.info? 35).map (·.size) = some KL.length from (info35 HAK.out).trans (by simp))
        obtain ⟨r1, hr1⟩ : ∃ r, (placesK bits probes b num).all (doF bits probes f a) = r := ⟨_, rfl⟩
        obtain ⟨r2, hr2⟩ : ∃ r, (placesK bits probes a.key.1 a.key.2).all (doF bits probes f a) = r := ⟨_, rfl⟩
        have HR1 := Lib.hid hr1
        have HR2 := Lib.hid hr2
        clear hr1 hr2 hPW hRA
        obtain ⟨N1, hN1⟩ : ∃ z, z = wr.heap.size := ⟨_, rfl⟩
        rw [← hN1] at HQ2 hNW ⊢
        clear hN1
        try clear hs6
        try clear cka
        try clear ckb
        go_wp2_with fail
        refine wp_region_held_drew (S := fun w' => Below w7.heap.size w7 w') (by kernel_rfl) ((Below.refl _ _).drew) (fun hHeld => ?_)
        refine held_take 0 (some 82) (v := ?_) rfl rfl (by kernel_rfl) (by kernel_rfl) (by kernel_rfl) (fun _ _ _ h => h) (Or.inl ⟨by rfl, ?_⟩) hHeld ?_
        rotate_left
        · (intro w' hSw; clear hSw; go_simp; try with_reducible rfl)
        try simp only [Act.put, List.setIfInBounds_toArray, List.set_cons_zero, List.set_cons_succ]
        refine held_take 1 (some 83) (v := .agg (k.toList).toArray) rfl rfl (by kernel_rfl) (by kernel_rfl) (by kernel_rfl) (fun _ _ _ h => h) (yieldsIf_load_mid (by rfl) 35 _ rfl w.heap.size (0) rfl (k.toList) _ (fun w' h => rangeAt_block HQ1.out (h.block _ hKlt)) Try.underlying35 rfl HZ1.out) hHeld ?_
        try simp only [Act.put, List.setIfInBounds_toArray, List.set_cons_zero, List.set_cons_succ]
        refine held_take 3 (some 85) (v := ?_) rfl rfl (by kernel_rfl) (by kernel_rfl) (by kernel_rfl) (fun _ _ _ h => h) (Or.inl ⟨by rfl, ?_⟩) hHeld ?_
        rotate_left
        · (intro w' hSw; clear hSw; go_simp; try with_reducible rfl)
        try simp only [Act.put, List.setIfInBounds_toArray, List.set_cons_zero, List.set_cons_succ]
        refine held_take 4 (some 86) (v := .agg (k.toList).toArray) rfl rfl (by kernel_rfl) (by kernel_rfl) (by kernel_rfl) (fun _ _ _ h => h) (yieldsIf_load_mid (by rfl) 35 _ rfl w.heap.size (0) rfl (k.toList) _ (fun w' h => rangeAt_block HQ1.out (h.block _ hKlt)) Try.underlying35 rfl HZ1.out) hHeld ?_
        try simp only [Act.put, List.setIfInBounds_toArray, List.set_cons_zero, List.set_cons_succ]
        refine wpAnyH_ready (rs := [2]) (by kernel_rfl) (by simp) ?_
        refine AllReadyH.cons rfl (fun K hKK => ?_) AllReadyH.nil
        go_simp
        go_at_call 18
        ((with_reducible refine (May_b r1 (g + 1) g bits probes _ k b num _ (HPW.out.kept ((Below.refl _ _).drew)).vec HK.out HR1.out).mono ?_))
        rintro e w8 ⟨rfl, hb8⟩
        have hB8 : Below w7.heap.size w7 w8 := ((Below.refl _ _).drew).trans hb8
        refine hKK.out _ _ hB8 (fun hHeld => ?_)
        clear hKK K
        try simp only [Act.put, List.setIfInBounds_toArray, List.set_cons_zero, List.set_cons_succ]
        refine wpAnyH_ready (rs := [5]) (by kernel_rfl) (by simp) ?_
        refine AllReadyH.cons rfl (fun K hKK => ?_) AllReadyH.nil
        go_simp
        go_at_call 19
        ((with_reducible refine (RMay_b r1 (g + 3) h2' bits probes _ k b num _ (HPW.out.kept hB8).ref HK.out HR1.out).mono ?_))
        rintro e w9 ⟨rfl, hb9⟩
        have hB9 : Below w7.heap.size w7 w9 := hB8.trans (hb9.mono hB8.size)
        refine hKK.out _ _ hB9 (fun hHeld => ?_)
        clear hKK K
        try simp only [Act.put, List.setIfInBounds_toArray, List.set_cons_zero, List.set_cons_succ]
        refine held_take 6 (some 88) (v := ?_) rfl rfl (by kernel_rfl) (by kernel_rfl) (by kernel_rfl) (fun _ _ _ h => h) (Or.inl ⟨by rfl, ?_⟩) hHeld ?_
        rotate_left
        · (intro w' hSw; clear hSw; go_simp; try with_reducible rfl)
        try simp only [Act.put, List.setIfInBounds_toArray, List.set_cons_zero, List.set_cons_succ]
        refine held_take 7 (some 89) (v := ?_) rfl rfl (by kernel_rfl) (by kernel_rfl) (by kernel_rfl) (fun _ _ _ h => h) (Or.inl ⟨by rfl, ?_⟩) hHeld ?_
        rotate_left
        · (intro w' hSw; clear hSw; go_simp; try with_reducible rfl)
        try simp only [Act.put, List.setIfInBounds_toArray, List.set_cons_zero, List.set_cons_succ]
        refine held_take 8 (some 90) (v := ?_) rfl rfl (by kernel_rfl) (by kernel_rfl) (by kernel_rfl) (fun _ _ _ h => h) (Or.inl ⟨by rfl, ?_⟩) hHeld ?_
        rotate_left
        · (intro w' hSw; clear hSw; go_simp; try with_reducible rfl)
        try simp only [Act.put, List.setIfInBounds_toArray, List.set_cons_zero, List.set_cons_succ]
        refine held_take 9 (some 91) (v := ?_) rfl rfl (by kernel_rfl) (by kernel_rfl) (by kernel_rfl) (fun _ _ _ h => h) (Or.inl ⟨by rfl, ?_⟩) hHeld ?_
        rotate_left
        · (intro w' hSw; clear hSw; go_simp; try with_reducible rfl)
        try simp only [Act.put, List.setIfInBounds_toArray, List.set_cons_zero, List.set_cons_succ]
        refine held_take 10 (some 92) (v := .agg (KL).toArray) rfl rfl (by kernel_rfl) (by kernel_rfl) (by kernel_rfl) (fun _ _ _ h => h) (yieldsIf_load_mid (by rfl) 35 _ rfl N1 (1) rfl (KL) _ (fun w' h => rangeAt_block HQ2.out (h.block _ hNW)) Try.underlying35 rfl HZ2.out) hHeld ?_
        try simp only [Act.put, List.setIfInBounds_toArray, List.set_cons_zero, List.set_cons_succ]
        refine held_take 12 (some 94) (v := ?_) rfl rfl (by kernel_rfl) (by kernel_rfl) (by kernel_rfl) (fun _ _ _ h => h) (Or.inl ⟨by rfl, ?_⟩) hHeld ?_
        rotate_left
        · (intro w' hSw; clear hSw; go_simp; try with_reducible rfl)
        try simp only [Act.put, List.setIfInBounds_toArray, List.set_cons_zero, List.set_cons_succ]
        refine held_take 13 (some 95) (v := ?_) rfl rfl (by kernel_rfl) (by kernel_rfl) (by kernel_rfl) (fun _ _ _ h => h) (Or.inl ⟨by rfl, ?_⟩) hHeld ?_
        rotate_left
        · (intro w' hSw; clear hSw; go_simp; try with_reducible rfl)
        try simp only [Act.put, List.setIfInBounds_toArray, List.set_cons_zero, List.set_cons_succ]
        refine held_take 14 (some 96) (v := .agg (KL).toArray) rfl rfl (by kernel_rfl) (by kernel_rfl) (by kernel_rfl) (fun _ _ _ h => h) (yieldsIf_load_mid (by rfl) 35 _ rfl N1 (1) rfl (KL) _ (fun w' h => rangeAt_block HQ2.out (h.block _ hNW)) Try.underlying35 rfl HZ2.out) hHeld ?_
        try simp only [Act.put, List.setIfInBounds_toArray, List.set_cons_zero, List.set_cons_succ]
        refine wpAnyH_ready (rs := [11]) (by kernel_rfl) (by simp) ?_
        refine AllReadyH.cons rfl (fun K hKK => ?_) AllReadyH.nil
        go_simp
        go_at_call 18
        ((with_reducible refine (May_b r2 (g + 1) g bits probes _ _ _ _ _ (HPW.out.kept hB9).vec HAK.out HR2.out).mono ?_))
        rintro e w10 ⟨rfl, hb10⟩
        have hB10 : Below w7.heap.size w7 w10 := hB9.trans (hb10.mono hB9.size)
        refine hKK.out _ _ hB10 (fun hHeld => ?_)
        clear hKK K
        try simp only [Act.put, List.setIfInBounds_toArray, List.set_cons_zero, List.set_cons_succ]
        refine wpAnyH_ready (rs := [15]) (by kernel_rfl) (by simp) ?_
        refine AllReadyH.cons rfl (fun K hKK => ?_) AllReadyH.nil
        go_simp
        go_at_call 19
        ((with_reducible refine (RMay_b r2 (g + 3) h2' bits probes _ _ _ _ _ (HPW.out.kept hB10).ref HAK.out HR2.out).mono ?_))
        rintro e w11 ⟨rfl, hb11⟩
        have hB11 : Below w7.heap.size w7 w11 := hB10.trans (hb11.mono hB10.size)
        refine hKK.out _ _ hB11 (fun hHeld => ?_)
        clear hKK K
        try simp only [Act.put, List.setIfInBounds_toArray, List.set_cons_zero, List.set_cons_succ]
        refine held_take 16 (some 98) (v := ?_) rfl rfl (by kernel_rfl) (by kernel_rfl) (by kernel_rfl) (fun _ _ _ h => h) (Or.inl ⟨by rfl, ?_⟩) hHeld ?_
        rotate_left
        · (intro w' hSw; clear hSw; go_simp; try with_reducible rfl)
        try simp only [Act.put, List.setIfInBounds_toArray, List.set_cons_zero, List.set_cons_succ]
        refine held_take 17 (some 99) (v := ?_) rfl rfl (by kernel_rfl) (by kernel_rfl) (by kernel_rfl) (fun _ _ _ h => h) (Or.inl ⟨by rfl, ?_⟩) hHeld ?_
        rotate_left
        · (intro w' hSw; clear hSw; go_simp; try with_reducible rfl)
        try simp only [Act.put, List.setIfInBounds_toArray, List.set_cons_zero, List.set_cons_succ]
        refine wpAnyH_done (by kernel_rfl) ?_ _
        have HB11 := Lib.hid hB11
        clear hB8 hB9 hB10 hB11 hb8 hb9 hb10 hb11 hHeld
        go_wp2_with fail
        go_roundg (M - (i + 1))
        case measure => omega
        case rel => exact ⟨i + 1, h2', by go_num, by omega, _, HPW.out.kept HB11.out⟩
      · have hka : (kd : Int) % 3 = 2 := by omega
        have hkk : kd % 3 = 2 := hk3
        go_wp2_with (first | (with_reducible refine Go.wpList_load_mid rfl 47 _ rfl ab (o + i * 35) rfl ak.toList _ HR.out Try.underlying47 rfl HSZ.out ?_) | (rw [HST.out]; simp only [Result.andThen_ok]) | (with_reducible refine wpList_load_row rfl 47 _ rfl wr.heap.size rfl 47 _ (0, 0) _ HHK.out Try.underlying47 rfl HI.out ?_))
        refine HC.out.mono ?_
        rintro e w6 ⟨rfl, hg6, hv6⟩
        obtain ⟨hb6, hr6, hk6⟩ := HP5.out.vecTo hg6 hv6
        have hrow6 := (hg6.block wr.heap.size (by rw [HS5.out]; omega) (by have := HP.out.lt1; have := HP.out.vec.glt; simp; omega)).trans HHK.out
        have cka : w6.cell? ⟨wr.heap.size, 0, none⟩ = some (.int .u8 kd) := by rw [cell_of_row _ _ _ _ _ _ hrow6]; exact HKI.out
        have HDF := Lib.hid (show doF bits probes f a = fun _ => false by unfold doF; rw [if_neg (by rw [HKD.out]; omega), if_neg (by rw [HKD.out]; omega)])
        obtain ⟨d0, d1⟩ := hr6.cells
        have d2 := free_row hr6.obj 0
        have hmk := make_bools bits hb
        have hglt := hr6.glt
        have HRR := Lib.hid hrow6
        have HVV := Lib.hid hv6
        have HRV := Lib.hid hr6
        have HKK6 := Lib.hid hk6
        have HBB6 := Lib.hid hb6
        have hs6 := hg6.size
        clear hrow6 hv6 hr6 hk6 hb6 hg6 hkk hk3
        go_wp2_with fail
        obtain ⟨w7, hw7⟩ : ∃ z, z = (w6.setCell ⟨g + 3, 0, none⟩ (.slice (some ⟨w6.heap.size, 0, none⟩) bits bits)).alloc (.cells (bools bits (fun _ => false)) 4) := ⟨_, rfl⟩
        rw [← hw7]
        have hg7 : w6.grownBy w7 (some (g + 3)) := by rw [hw7]; exact grown_trans (grown_setCell _ _ _ _) (grown_alloc _ _ _)
        have hr7 : RV w7 (g + 3) w6.heap.size bits probes (fun _ => false) := by
          rw [hw7]
          refine ⟨?_, ?_, HRV.out.lim⟩
          · rw [Below.heap_alloc _ _ _ (by simp [World.setCell]; exact hglt), setCell_row HRV.out.obj]; rfl
          · have := heap_alloc_last (w6.setCell ⟨g + 3, 0, none⟩ (.slice (some ⟨w6.heap.size, 0, none⟩) bits bits)) (.cells (bools bits (fun _ => false)) 4)
            rwa [show (w6.setCell ⟨g + 3, 0, none⟩ (.slice (some ⟨w6.heap.size, 0, none⟩) bits bits)).heap.size = w6.heap.size by simp [World.setCell]] at this
        have hPW : Plays w w7 k g bits probes w6.heap.size (doF bits probes f a) := by
          refine ⟨HBB6.out.grown hg7 HBB6.out.size (fun q hq => by cases hq; have := HP.out.lt1; omega), HVV.out.kept hg7 (by simp) (by simp), by rw [HDF.out]; exact hr7, ?_, HP.out.lt1, by omega, by omega⟩
          exact (hg7.block _ (by have := HP.out.lt1; omega) (by have := HP.out.lt1; simp; omega)).trans HKK6.out
        have hRA := (hg7.block wr.heap.size (by rw [HS5.out] at hs6; omega) (by have := HP.out.ref.glt; simp; omega)).trans HRR.out
        have hNW : wr.heap.size < w7.heap.size := by have := hg7.size; rw [HS5.out] at hs6; omega
        obtain ⟨h2', hh2⟩ : ∃ z, z = w6.heap.size := ⟨_, rfl⟩
        rw [← hh2] at hPW
        clear hh2 hg7 hr7 hw7 d0 d1 d2 hmk
        have HPW := Lib.hid hPW
        have HRA := Lib.hid hRA
        have hKlt : w.heap.size < w7.heap.size := by have := HPW.out.lt1; have := HPW.out.vec.glt; omega
        have HQ1 := Lib.hid (show w7.rangeAt w.heap.size 0 k.toList from by have := rangeAt_of_row HPW.out.key 0 33; rwa [List.drop_zero, List.take_of_length_le (by simp [HK.out.size])] at this)
        have HQ2 := Lib.hid (show w7.rangeAt wr.heap.size 1 KL from by rw [HKL.out]; exact rangeAt_of_row HRA.out 1 33)
        have HZ1 := Lib.hid (show (Try.prog.info? 35).map (·.size) = some k.toList.length from (info35 HK.out).trans (by simp))
        have HZ2 := Lib.hid (show (Try.prog.info? 35).map (·.size) = some KL.length from (info35 HAK.out).trans (by simp))
        obtain ⟨r1, hr1⟩ : ∃ r, (placesK bits probes b num).all (doF bits probes f a) = r := ⟨_, rfl⟩
        obtain ⟨r2, hr2⟩ : ∃ r, (placesK bits probes a.key.1 a.key.2).all (doF bits probes f a) = r := ⟨_, rfl⟩
        have HR1 := Lib.hid hr1
        have HR2 := Lib.hid hr2
        clear hr1 hr2 hPW hRA
        obtain ⟨N1, hN1⟩ : ∃ z, z = wr.heap.size := ⟨_, rfl⟩
        rw [← hN1] at HQ2 hNW ⊢
        clear hN1
        try clear hs6
        try clear cka
        try clear ckb
        go_wp2_with fail
        refine wp_region_held_drew (S := fun w' => Below w7.heap.size w7 w') (by kernel_rfl) ((Below.refl _ _).drew) (fun hHeld => ?_)
        refine held_take 0 (some 82) (v := ?_) rfl rfl (by kernel_rfl) (by kernel_rfl) (by kernel_rfl) (fun _ _ _ h => h) (Or.inl ⟨by rfl, ?_⟩) hHeld ?_
        rotate_left
        · (intro w' hSw; clear hSw; go_simp; try with_reducible rfl)
        try simp only [Act.put, List.setIfInBounds_toArray, List.set_cons_zero, List.set_cons_succ]
        refine held_take 1 (some 83) (v := .agg (k.toList).toArray) rfl rfl (by kernel_rfl) (by kernel_rfl) (by kernel_rfl) (fun _ _ _ h => h) (yieldsIf_load_mid (by rfl) 35 _ rfl w.heap.size (0) rfl (k.toList) _ (fun w' h => rangeAt_block HQ1.out (h.block _ hKlt)) Try.underlying35 rfl HZ1.out) hHeld ?_
        try simp only [Act.put, List.setIfInBounds_toArray, List.set_cons_zero, List.set_cons_succ]
        refine held_take 3 (some 85) (v := ?_) rfl rfl (by kernel_rfl) (by kernel_rfl) (by kernel_rfl) (fun _ _ _ h => h) (Or.inl ⟨by rfl, ?_⟩) hHeld ?_
        rotate_left
        · (intro w' hSw; clear hSw; go_simp; try with_reducible rfl)
        try simp only [Act.put, List.setIfInBounds_toArray, List.set_cons_zero, List.set_cons_succ]
        refine held_take 4 (some 86) (v := .agg (k.toList).toArray) rfl rfl (by kernel_rfl) (by kernel_rfl) (by kernel_rfl) (fun _ _ _ h => h) (yieldsIf_load_mid (by rfl) 35 _ rfl w.heap.size (0) rfl (k.toList) _ (fun w' h => rangeAt_block HQ1.out (h.block _ hKlt)) Try.underlying35 rfl HZ1.out) hHeld ?_
        try simp only [Act.put, List.setIfInBounds_toArray, List.set_cons_zero, List.set_cons_succ]
        refine wpAnyH_ready (rs := [2]) (by kernel_rfl) (by simp) ?_
        refine AllReadyH.cons rfl (fun K hKK => ?_) AllReadyH.nil
        go_simp
        go_at_call 18
        ((with_reducible refine (May_b r1 (g + 1) g bits probes _ k b num _ (HPW.out.kept ((Below.refl _ _).drew)).vec HK.out HR1.out).mono ?_))
        rintro e w8 ⟨rfl, hb8⟩
        have hB8 : Below w7.heap.size w7 w8 := ((Below.refl _ _).drew).trans hb8
        refine hKK.out _ _ hB8 (fun hHeld => ?_)
        clear hKK K
        try simp only [Act.put, List.setIfInBounds_toArray, List.set_cons_zero, List.set_cons_succ]
        refine wpAnyH_ready (rs := [5]) (by kernel_rfl) (by simp) ?_
        refine AllReadyH.cons rfl (fun K hKK => ?_) AllReadyH.nil
        go_simp
        go_at_call 19
        ((with_reducible refine (RMay_b r1 (g + 3) h2' bits probes _ k b num _ (HPW.out.kept hB8).ref HK.out HR1.out).mono ?_))
        rintro e w9 ⟨rfl, hb9⟩
        have hB9 : Below w7.heap.size w7 w9 := hB8.trans (hb9.mono hB8.size)
        refine hKK.out _ _ hB9 (fun hHeld => ?_)
        clear hKK K
        try simp only [Act.put, List.setIfInBounds_toArray, List.set_cons_zero, List.set_cons_succ]
        refine held_take 6 (some 88) (v := ?_) rfl rfl (by kernel_rfl) (by kernel_rfl) (by kernel_rfl) (fun _ _ _ h => h) (Or.inl ⟨by rfl, ?_⟩) hHeld ?_
        rotate_left
        · (intro w' hSw; clear hSw; go_simp; try with_reducible rfl)
        try simp only [Act.put, List.setIfInBounds_toArray, List.set_cons_zero, List.set_cons_succ]
        refine held_take 7 (some 89) (v := ?_) rfl rfl (by kernel_rfl) (by kernel_rfl) (by kernel_rfl) (fun _ _ _ h => h) (Or.inl ⟨by rfl, ?_⟩) hHeld ?_
        rotate_left
        · (intro w' hSw; clear hSw; go_simp; try with_reducible rfl)
        try simp only [Act.put, List.setIfInBounds_toArray, List.set_cons_zero, List.set_cons_succ]
        refine held_take 8 (some 90) (v := ?_) rfl rfl (by kernel_rfl) (by kernel_rfl) (by kernel_rfl) (fun _ _ _ h => h) (Or.inl ⟨by rfl, ?_⟩) hHeld ?_
        rotate_left
        · (intro w' hSw; clear hSw; go_simp; try with_reducible rfl)
        try simp only [Act.put, List.setIfInBounds_toArray, List.set_cons_zero, List.set_cons_succ]
        refine held_take 9 (some 91) (v := ?_) rfl rfl (by kernel_rfl) (by kernel_rfl) (by kernel_rfl) (fun _ _ _ h => h) (Or.inl ⟨by rfl, ?_⟩) hHeld ?_
        rotate_left
        · (intro w' hSw; clear hSw; go_simp; try with_reducible rfl)
        try simp only [Act.put, List.setIfInBounds_toArray, List.set_cons_zero, List.set_cons_succ]
        refine held_take 10 (some 92) (v := .agg (KL).toArray) rfl rfl (by kernel_rfl) (by kernel_rfl) (by kernel_rfl) (fun _ _ _ h => h) (yieldsIf_load_mid (by rfl) 35 _ rfl N1 (1) rfl (KL) _ (fun w' h => rangeAt_block HQ2.out (h.block _ hNW)) Try.underlying35 rfl HZ2.out) hHeld ?_
        try simp only [Act.put, List.setIfInBounds_toArray, List.set_cons_zero, List.set_cons_succ]
        refine held_take 12 (some 94) (v := ?_) rfl rfl (by kernel_rfl) (by kernel_rfl) (by kernel_rfl) (fun _ _ _ h => h) (Or.inl ⟨by rfl, ?_⟩) hHeld ?_
        rotate_left
        · (intro w' hSw; clear hSw; go_simp; try with_reducible rfl)
        try simp only [Act.put, List.setIfInBounds_toArray, List.set_cons_zero, List.set_cons_succ]
        refine held_take 13 (some 95) (v := ?_) rfl rfl (by kernel_rfl) (by kernel_rfl) (by kernel_rfl) (fun _ _ _ h => h) (Or.inl ⟨by rfl, ?_⟩) hHeld ?_
        rotate_left
        · (intro w' hSw; clear hSw; go_simp; try with_reducible rfl)
        try simp only [Act.put, List.setIfInBounds_toArray, List.set_cons_zero, List.set_cons_succ]
        refine held_take 14 (some 96) (v := .agg (KL).toArray) rfl rfl (by kernel_rfl) (by kernel_rfl) (by kernel_rfl) (fun _ _ _ h => h) (yieldsIf_load_mid (by rfl) 35 _ rfl N1 (1) rfl (KL) _ (fun w' h => rangeAt_block HQ2.out (h.block _ hNW)) Try.underlying35 rfl HZ2.out) hHeld ?_
        try simp only [Act.put, List.setIfInBounds_toArray, List.set_cons_zero, List.set_cons_succ]
        refine wpAnyH_ready (rs := [11]) (by kernel_rfl) (by simp) ?_
        refine AllReadyH.cons rfl (fun K hKK => ?_) AllReadyH.nil
        go_simp
        go_at_call 18
        ((with_reducible refine (May_b r2 (g + 1) g bits probes _ _ _ _ _ (HPW.out.kept hB9).vec HAK.out HR2.out).mono ?_))
        rintro e w10 ⟨rfl, hb10⟩
        have hB10 : Below w7.heap.size w7 w10 := hB9.trans (hb10.mono hB9.size)
        refine hKK.out _ _ hB10 (fun hHeld => ?_)
        clear hKK K
        try simp only [Act.put, List.setIfInBounds_toArray, List.set_cons_zero, List.set_cons_succ]
        refine wpAnyH_ready (rs := [15]) (by kernel_rfl) (by simp) ?_
        refine AllReadyH.cons rfl (fun K hKK => ?_) AllReadyH.nil
        go_simp
        go_at_call 19
        ((with_reducible refine (RMay_b r2 (g + 3) h2' bits probes _ _ _ _ _ (HPW.out.kept hB10).ref HAK.out HR2.out).mono ?_))
        rintro e w11 ⟨rfl, hb11⟩
        have hB11 : Below w7.heap.size w7 w11 := hB10.trans (hb11.mono hB10.size)
        refine hKK.out _ _ hB11 (fun hHeld => ?_)
        clear hKK K
        try simp only [Act.put, List.setIfInBounds_toArray, List.set_cons_zero, List.set_cons_succ]
        refine held_take 16 (some 98) (v := ?_) rfl rfl (by kernel_rfl) (by kernel_rfl) (by kernel_rfl) (fun _ _ _ h => h) (Or.inl ⟨by rfl, ?_⟩) hHeld ?_
        rotate_left
        · (intro w' hSw; clear hSw; go_simp; try with_reducible rfl)
        try simp only [Act.put, List.setIfInBounds_toArray, List.set_cons_zero, List.set_cons_succ]
        refine held_take 17 (some 99) (v := ?_) rfl rfl (by kernel_rfl) (by kernel_rfl) (by kernel_rfl) (fun _ _ _ h => h) (Or.inl ⟨by rfl, ?_⟩) hHeld ?_
        rotate_left
        · (intro w' hSw; clear hSw; go_simp; try with_reducible rfl)
        try simp only [Act.put, List.setIfInBounds_toArray, List.set_cons_zero, List.set_cons_succ]
        refine wpAnyH_done (by kernel_rfl) ?_ _
        have HB11 := Lib.hid hB11
        clear hB8 hB9 hB10 hB11 hb8 hb9 hb10 hb11 hHeld
        go_wp2_with fail
        go_roundg (M - (i + 1))
        case measure => omega
        case rel => exact ⟨i + 1, h2', by go_num, by omega, _, HPW.out.kept HB11.out⟩
    · obtain rfl : i = M := by omega
      have HOUT := Lib.hid HP.out.vec.out
      have HPL := Lib.hid (pack_length ((bits + 7) / 8) f)
      obtain ⟨PK, hPK⟩ : ∃ z, z = pack ((bits + 7) / 8) f := ⟨_, rfl⟩
      rw [← hPK] at HPL
      have HPK := Lib.hid hPK
      clear hPK
      obtain ⟨m8, hm8⟩ : ∃ z, z = (bits + 7) / 8 := ⟨_, rfl⟩
      rw [← hm8] at HPL
      go_wp2_with fail
      refine wp_region_held_drew (S := fun w' => Below wr.heap.size wr w') (by kernel_rfl) ((Below.refl _ _).drew) (fun hHeld => ?_)
      refine held_take 0 (some 101) (v := ?_) rfl rfl (by kernel_rfl) (by kernel_rfl) (by kernel_rfl) (fun _ _ _ h => h) (Or.inl ⟨by rfl, ?_⟩) hHeld ?_
      rotate_left
      · (intro w' hSw; clear hSw; go_simp; try with_reducible rfl)
      try simp only [Act.put, List.setIfInBounds_toArray, List.set_cons_zero, List.set_cons_succ]
      refine held_take 1 (some 102) (v := ?_) rfl rfl (by kernel_rfl) (by kernel_rfl) (by kernel_rfl) (fun _ _ _ h => h) (Or.inl ⟨by rfl, ?_⟩) hHeld ?_
      rotate_left
      · (intro w' hSw; clear hSw; go_simp; try with_reducible rfl)
      try simp only [Act.put, List.setIfInBounds_toArray, List.set_cons_zero, List.set_cons_succ]
      refine held_take 2 (some 103) (v := ?_) rfl rfl (by kernel_rfl) (by kernel_rfl) (by kernel_rfl) (fun _ _ _ h => h) (Or.inl ⟨by rfl, ?_⟩) hHeld ?_
      rotate_left
      · (intro w' hSw; clear hSw; go_simp; try with_reducible rfl)
      try simp only [Act.put, List.setIfInBounds_toArray, List.set_cons_zero, List.set_cons_succ]
      refine held_take 5 (some 106) (v := ?_) rfl rfl (by kernel_rfl) (by kernel_rfl) (by kernel_rfl) (fun _ _ _ h => h) (Or.inl ⟨by rfl, ?_⟩) hHeld ?_
      rotate_left
      · (intro w' hSw; clear hSw; go_simp; try with_reducible rfl)
      try simp only [Act.put, List.setIfInBounds_toArray, List.set_cons_zero, List.set_cons_succ]
      refine wpAnyH_ready (rs := [3]) (by kernel_rfl) (by simp) ?_
      refine AllReadyH.cons rfl (fun K hKK => ?_) AllReadyH.nil
      go_simp
      go_at_call 12
      ((with_reducible refine (Bytes_any (g + 1) g bits probes _ _ (HP.out.kept ((Below.refl _ _).drew)).vec).mono ?_))
      rw [← HPK.out]
      rintro e w5 ⟨A5, c5, rfl, hc5, hI5, hA5, hb5⟩
      rw [HPL.out]
      have hB5 : Below wr.heap.size wr w5 := ((Below.refl _ _).drew).trans hb5
      have HI5 := Lib.hid hI5
      refine hKK.out _ _ hB5 (fun _ => held_more (S1 := fun w' => Below w5.heap.size w5 w') (fun w' h => hB5.trans (h.mono hB5.size)) _ _ _ _ ?_)
      have hHeld := Below.refl w5.heap.size w5
      clear hKK K hI5 hA5
      try simp only [Act.put, List.setIfInBounds_toArray, List.set_cons_zero, List.set_cons_succ]
      refine held_take 4 (some 105) (v := .string (strOfNums PK)) rfl rfl (by kernel_rfl) (by kernel_rfl) (by kernel_rfl) (fun _ _ _ h => h) (yieldsIf_conv (by rfl) 37 9 5 _ rfl A5 m8 c5 _ rfl HPL.out (fun w' h => HI5.out.below h) Try.underlying37 Try.underlying5 Try.underlying9) hHeld ?_
      try simp only [Act.put, List.setIfInBounds_toArray, List.set_cons_zero, List.set_cons_succ]
      refine wpAnyH_ready (rs := [6]) (by kernel_rfl) (by simp) ?_
      refine AllReadyH.cons rfl (fun K hKK => ?_) AllReadyH.nil
      go_simp
      go_at_call 20
      ((with_reducible refine (RBytes_at (g + 3) h2 bits probes _ _ (HP.out.kept hB5).ref HOUT.out).mono ?_))
      rw [← HPK.out]
      rintro e w6 ⟨A6, c6, rfl, hc6, hI6, hA6, hb6⟩
      rw [HPL.out]
      have hB6 : Below wr.heap.size wr w6 := hB5.trans (hb6.mono hB5.size)
      have HI6 := Lib.hid hI6
      refine hKK.out _ _ hb6 (fun _ => held_more (S1 := fun w' => Below w6.heap.size w6 w') (fun w' h => hb6.trans (h.mono hb6.size)) _ _ _ _ ?_)
      have hHeld := Below.refl w6.heap.size w6
      clear hKK K hI6 hA6
      try simp only [Act.put, List.setIfInBounds_toArray, List.set_cons_zero, List.set_cons_succ]
      refine held_take 7 (some 108) (v := .string (strOfNums PK)) rfl rfl (by kernel_rfl) (by kernel_rfl) (by kernel_rfl) (fun _ _ _ h => h) (yieldsIf_conv (by rfl) 37 9 5 _ rfl A6 m8 c6 _ rfl HPL.out (fun w' h => HI6.out.below h) Try.underlying37 Try.underlying5 Try.underlying9) hHeld ?_
      try simp only [Act.put, List.setIfInBounds_toArray, List.set_cons_zero, List.set_cons_succ]
      refine held_take 8 (some 109) (v := ?_) rfl rfl (by kernel_rfl) (by kernel_rfl) (by kernel_rfl) (fun _ _ _ h => h) (Or.inl ⟨by rfl, ?_⟩) hHeld ?_
      rotate_left
      · (intro w' hSw; clear hSw; go_simp; try with_reducible rfl)
      try simp only [Act.put, List.setIfInBounds_toArray, List.set_cons_zero, List.set_cons_succ]
      refine held_take 9 (some 110) (v := ?_) rfl rfl (by kernel_rfl) (by kernel_rfl) (by kernel_rfl) (fun _ _ _ h => h) (Or.inl ⟨by rfl, ?_⟩) hHeld ?_
      rotate_left
      · (intro w' hSw; clear hSw; go_simp; try with_reducible rfl)
      try simp only [Act.put, List.setIfInBounds_toArray, List.set_cons_zero, List.set_cons_succ]
      refine held_take 10 (some 8) (v := ?_) rfl rfl (by kernel_rfl) (by kernel_rfl) (by kernel_rfl) (fun _ _ _ h => h) (Or.inl ⟨by rfl, ?_⟩) hHeld ?_
      rotate_left
      · (intro w' hSw; clear hSw; go_simp; try with_reducible rfl)
      try simp only [Act.put, List.setIfInBounds_toArray, List.set_cons_zero, List.set_cons_succ]
      refine wpAnyH_done (by kernel_rfl) ?_ _
      have HB7 := Lib.hid (HP.out.bel.trans ((hB6.trans (hHeld.mono hB6.size)).mono HP.out.bel.size))
      clear hB5 hB6 hb5 hb6 hHeld
      go_wp2_with fail
      go_ret
      exact ⟨rfl, HB7.out⟩

theorem Plays_law (x y : Int) (A : Option Addr) (c : Nat) (l : List ActT) (k : Array Value) (b : Nat → Nat) (num : Nat) (w : World) (hL : Acts w A l) (hnc : l.length ≤ c) (hK : KeyC k b num) :
    Calls Try.prog 5 #[.int .i64 x, .int .i64 y, .slice A l.length c, .agg k] w fun e w' => e = .returned (.bool true) ∧ Below w.heap.size w w' := by
  by_cases h : x < 0 ∨ 1048576 < x ∨ y < 0 ∨ 30 < y
  · exact Plays_bad x y k _ w h
  · obtain ⟨n, rfl⟩ := Int.eq_ofNat_of_zero_le (show 0 ≤ x by omega)
    obtain ⟨m, rfl⟩ := Int.eq_ofNat_of_zero_le (show 0 ≤ y by omega)
    exact Plays_good n m A c l.length l k b num w (by omega) (by omega) rfl hL hnc hK

end Go.Proofs.Yteodhbkhkecigaa
