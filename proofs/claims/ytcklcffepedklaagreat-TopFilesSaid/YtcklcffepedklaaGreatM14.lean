/- Texts of the proof, one behind the other: cache: Load. cache: Load, of a cache. Bits in bytes, in plain numbers: no program in sight. bloom's summary: its bits, set and read. -/
import Derived.Test.YtcklcffepedklaaGreatM13
import Derived.Test.YtcklcffepedklaaGreatM01
import Derived.Test.YtcklcffepedklaaGreatProg
namespace Go.Proofs.YtcklcffepedklaaGreat
open Go.RowKit Go.Maps

/-- What a cache is when there is room for one more table. -/
structure Cl (w w' : World) (gc room gt : Nat) (b : Option Nat) (O : List Nat) (T : List (Nat × Ct)) (s : Nat) : Prop where
  ex : ∃ A n c O' T', Cm w' gc room gt (.slice A n c) O' T' ∧ n = O'.length ∧ lkp T' s = none ∧ O'.length < room ∧ (∀ x ∈ T', x ∈ T) ∧ Value.ownBlock (.slice A n c) = b
  chg : Chg (fun x => x = gc ∨ x = gt ∨ b = some x) w w'
theorem Cl.mk1 {w w' : World} {gc room gt : Nat} {b : Option Nat} {O O' : List Nat} {T T' : List (Nat × Ct)} {s : Nat} {A : Option Addr} {n c : Nat} (h : Cm w' gc room gt (.slice A n c) O' T') (hb : Value.ownBlock (.slice A n c) = b) (hl : n = O'.length ∧ O'.length < room) (hs : lkp T' s = none) (hT : ∀ x ∈ T', x ∈ T) (hc : Chg (fun x => x = gc ∨ x = gt ∨ b = some x) w w') : Cl w w' gc room gt b O T s :=
  ⟨⟨A, n, c, O', T', h, hl.1, hs, hl.2, hT, hb⟩, hc⟩
theorem lkp_del_none {α β : Type} [DecidableEq α] {L : List (α × β)} {a b : α} (h : lkp L a = none) : lkp (del L b) a = none := lkp_none fun x hx => lkp_none_mem h x (mem_del.1 hx).1
set_option maxRecDepth 20000 in
set_option maxHeartbeats 1600000 in
theorem CLoad_cm {w : World} {gc room gt : Nat} {vO : Value} {O : List Nat} {T : List (Nat × Ct)} (a : Cm w gc room gt vO O T) (s : Nat) (hs : IntOk s) (base : Nat) (A3 : Option Addr) (c3 : Nat) (l : List Rw) (hR : OwnR w base (.slice A3 l.length c3) l) (hl1 : l.length < 1000000000) (hA3 : ∀ ad, A3 = some ad → ad.block ≠ gc ∧ ad.block ≠ gt ∧ vO.ownBlock ≠ some ad.block) (draw : Nat) (hd : draw < 18446744073709551616) :
    Calls Tryz.prog 80 #[.pointer (some ⟨gc, 0, none⟩), .int .i64 s, .slice A3 l.length c3, .int .u64 draw] w fun e w' => e = .returned (.tuple #[]) ∧ Chg (fun x => x = gc ∨ x = gt ∨ vO.ownBlock = some x) w w' ∧
      ∃ v' O' T', Cm w' gc room gt v' O' T' ∧ (v'.ownBlock = vO.ownBlock ∨ ∃ g, v'.ownBlock = some g ∧ w.heap.size ≤ g) ∧ ∀ x ∈ T', x ∈ T ∨ (w.heap.size ≤ x.2.1 ∧ ∀ y ∈ x.2.2, ∃ r ∈ l, r.val = y) := by
  have HA := Lib.hid a
  have c0 := a.c0
  by_cases h0 : room = 0
  · have hi0 : (room : Int) = 0 := by omega
    clear hR hA3 hd a
    rw [hi0] at c0
    go_enter Tryz.func80, Tryz.ntmps80
    go_wp2_with fail
    (try simp only [Exit.inBlock, Exit.then]); refine bodyPost_ret (results_none rfl _ _ _) rfl ?_
    exact ⟨rfl, Chg.refl _ _, vO, O, T, HA.out, .inl rfl, fun x hx => .inl hx⟩
  · have hi0 : ¬ (room : Int) = 0 := by omega
    have HHS := Lib.hid (Has_any a s hs)
    cases hl : lkp T s with
    | some t =>
      rw [hl] at HHS
      clear hR hA3 hd a hl
      go_enter Tryz.func80, Tryz.ntmps80
      go_wp2_with fail
      refine HHS.out.mono ?_
      rintro e w1 ⟨rfl, hb1⟩
      have HB1 := Lib.hid hb1
      clear hb1 HHS c0
      go_wp2_with fail
      (try simp only [Exit.inBlock, Exit.then]); refine bodyPost_ret (results_none rfl _ _ _) rfl ?_
      exact ⟨rfl, Chg.belowAt HB1.out, vO, O, T, HA.out.below HB1.out, .inl rfl, fun x hx => .inl hx⟩
    | none =>
      rw [hl] at HHS
      have HLN := Lib.hid hl
      have HR := Lib.hid hR
      have HA3 := Lib.hid hA3
      obtain ⟨A, c, rfl⟩ := ownI_form a.ord
      have hlen := a.len
      have hrm := a.rm
      clear hR hA3 a hl
      go_enter Tryz.func80, Tryz.ntmps80
      go_wp2_with fail
      refine HHS.out.mono ?_
      rintro e w1 ⟨rfl, hb1⟩
      have a1 := HA.out.below hb1
      have HA1 := Lib.hid a1
      have HB1 := Lib.hid hb1
      have c10 := a1.c0
      have c11 := a1.c1
      clear hb1 a1 HHS c0
      obtain ⟨bb, hbb⟩ : ∃ b : Bool, ((O.length : Int) == (room : Int)) = b := ⟨_, rfl⟩
      go_upto_region 1 with (fail)
      go_quiet (fail)
      have HBB := Lib.hid hbb
      clear hbb c10 c11
      go_upto_if 36 with (fail)
      have hb0 : ((room : Int) == 0) = false := by simp; omega
      simp only [hb0]
      go_cut [] from 27 to 52 (fun w' => Cl w w' gc room gt (Value.ownBlock (.slice A O.length c)) O T s)
      case first =>
        have aq : Cm (w1.drewN nq) gc room gt (.slice A O.length c) O T := HA1.out.below (below_drewN (Below.refl _ _) nq)
        cases bb with
        | true =>
          have hfull : O.length = room := by have := HBB.out; simp at this; omega
          obtain ⟨jx, hjx⟩ : ∃ jx, draw % O.length = jx := ⟨_, rfl⟩
          have hjl : jx < O.length := by rw [← hjx]; exact Nat.mod_lt _ (by omega)
          have hrem : (draw : Int).tmod (room : Int) = (jx : Int) := by rw [← hjx, ← hfull]; exact (Int.ofNat_tmod _ _).symm
          have hwr : IntKind.u64.wrap (room : Int) = (room : Int) := by simp [IntKind.wrap, IntKind.bits, IntKind.signed]; omega
          obtain ⟨sx, hsx⟩ : ∃ sx, O[jx]? = some sx := ⟨_, List.getElem?_eq_getElem hjl⟩
          rcases aq.ord.form with ⟨_, hnil⟩ | ⟨go, c', cur, e, _, hgo, _, _, _, hat, _⟩
          · rw [hnil] at hfull; simp at hfull; omega
          injection e with e1 e2 e3
          subst e1
          have HCX := Lib.hid (show (w1.drewN nq).cell? ⟨go, jx, none⟩ = some (.int .i64 sx) from row_at hgo (by have := hat jx sx hsx; simpa [intV] using this))
          have HLO := Lib.hid (row_lt hgo)
          have HLG := Lib.hid (row_lt aq.row)
          have HC11 := Lib.hid (show (w1.drewN nq).cell? ⟨gc, 1, none⟩ = some (.slice (some ⟨go, 0, none⟩) room c) by rw [← hfull]; exact aq.c1)
          have HAQ := Lib.hid aq
          have hsxk : IntOk sx := by
            obtain ⟨y, hy, hyx⟩ := List.mem_map.1 ((aq.keys sx).1 (List.mem_of_getElem? hsx))
            have := aq.tab.val (y.1, ctV y.2) (List.mem_map_of_mem (f := fun x : Nat × Ct => (x.1, ctV x.2)) hy)
            rw [← hyx]; exact this
          have HSX := Lib.hid (And.intro hsx hsxk)
          have HCW := Lib.hid (show Chg (fun x => x = gc ∨ x = gt ∨ Value.ownBlock (.slice (some ⟨go, 0, none⟩) room c) = some x) w (w1.drewN nq) from (Chg.belowAt HB1.out).drewN nq)
          generalize w1.drewN nq = wq at *
          have hsT : (lkp T sx).isSome = true := by
            obtain ⟨y, hy, hyx⟩ := List.mem_map.1 ((aq.keys sx).1 (List.mem_of_getElem? hsx))
            cases hq : lkp T sx with
            | none => exact absurd hyx (lkp_none_mem hq y hy)
            | some t => rfl
          have HDR := Lib.hid (CDrop_cm (show Cm wq.drew gc room gt (.slice (some ⟨go, 0, none⟩) room c) O T from by have := aq.below (Below.refl _ _).drew; rwa [show O.length = room from hfull] at this) sx hsxk)
          rw [hsT] at HDR
          have HSL := Lib.hid (show ∀ (O5 : List Nat), O5.length + (if true = true then 1 else 0) = O.length → O5.length = O5.length ∧ O5.length < room from fun O5 h => ⟨rfl, by rw [if_pos rfl] at h; omega⟩)
          have HLD := Lib.hid (show lkp (del T sx) s = none from lkp_del_none HLN.out)
          clear hsT
          have hj1 : (jx : Int) < (room : Int) := by omega
          have hj2 : (0 : Int) ≤ (jx : Int) := by omega
          have HFL := Lib.hid hfull
          clear aq hgo hat hsx hjx hfull e2 e3 hsxk hjl hlen
          go_upto_region 2 with (fail)
          --[
          refine wp_region_held_drew (S := fun w' => Chg (fun x => x = gc ∨ x = gt ∨ Value.ownBlock (.slice (some ⟨go, 0, none⟩) room c) = some x) wq w') (by kernel_rfl) ((Chg.refl _ _).drewN 1) (fun hHeld => ?_)
          refine held_take 0 (some 37) (v := ?_) rfl rfl (by kernel_rfl) (by kernel_rfl) (by kernel_rfl) (fun _ _ _ h => h) (Or.inl ⟨by rfl, ?_⟩) hHeld ?_
          rotate_left
          · (intro w' hSw; clear hSw; go_simp; try with_reducible rfl)
          try simp only [Act.put, List.setIfInBounds_toArray, List.set_cons_zero, List.set_cons_succ]
          refine held_take 1 (some 38) (v := ?_) rfl rfl (by kernel_rfl) (by kernel_rfl) (by kernel_rfl) (fun _ _ _ h => h) (Or.inl ⟨by rfl, ?_⟩) hHeld ?_
          rotate_left
          · (intro w' hSw; clear hSw; go_simp; try with_reducible rfl)
          try simp only [Act.put, List.setIfInBounds_toArray, List.set_cons_zero, List.set_cons_succ]
          refine held_take 2 (some 39) (v := ?_) rfl rfl (by kernel_rfl) (by kernel_rfl) (by kernel_rfl) (fun _ _ _ h => h) (Or.inl ⟨by rfl, ?_⟩) hHeld ?_
          rotate_left
          · (intro w' hSw; clear hSw; go_simp; try with_reducible rfl)
          try simp only [Act.put, List.setIfInBounds_toArray, List.set_cons_zero, List.set_cons_succ]
          refine held_take 3 (some 40) (v := ?_) rfl rfl (by kernel_rfl) (by kernel_rfl) (by kernel_rfl) (fun _ _ _ h => h) (Or.inl ⟨by rfl, ?_⟩) hHeld ?_
          rotate_left
          · (intro w' hSw; clear hSw; go_simp; try with_reducible rfl)
          try simp only [Act.put, List.setIfInBounds_toArray, List.set_cons_zero, List.set_cons_succ]
          refine held_take 5 (some 42) (v := ?_) rfl rfl (by kernel_rfl) (by kernel_rfl) (by kernel_rfl) (fun _ _ _ h => h) (Or.inl ⟨by rfl, ?_⟩) hHeld ?_
          rotate_left
          · (intro w' hSw; clear hSw; go_simp; try with_reducible rfl)
          try simp only [Act.put, List.setIfInBounds_toArray, List.set_cons_zero, List.set_cons_succ]
          refine held_take 6 (some 43) (v := ?_) rfl rfl (by kernel_rfl) (by kernel_rfl) (by kernel_rfl) (fun _ _ _ h => h) (Or.inl ⟨by rfl, ?_⟩) hHeld ?_
          rotate_left
          · (intro w' hSw; clear hSw; go_simp; try with_reducible rfl)
          try simp only [Act.put, List.setIfInBounds_toArray, List.set_cons_zero, List.set_cons_succ]
          refine held_take 7 (some 44) (v := ?_) rfl rfl (by kernel_rfl) (by kernel_rfl) (by kernel_rfl) (fun _ _ _ h => h) (Or.inl ⟨by rfl, ?_⟩) hHeld ?_
          rotate_left
          · (intro w' hSw; clear hSw; go_simp; try with_reducible rfl)
          try simp only [Act.put, List.setIfInBounds_toArray, List.set_cons_zero, List.set_cons_succ]
          refine held_take 8 (some 45) (v := ?_) rfl rfl (by kernel_rfl) (by kernel_rfl) (by kernel_rfl) (fun _ _ _ h => h) (Or.inl ⟨by rfl, ?_⟩) hHeld ?_
          rotate_left
          · (intro w' hSw; clear hSw; go_simp; try with_reducible rfl)
          try simp only [Act.put, List.setIfInBounds_toArray, List.set_cons_zero, List.set_cons_succ]
          refine wpAnyH_ready (rs := [4, 9]) (by kernel_rfl) (by simp) ?_
          refine AllReadyH.cons rfl (fun K hKK => ?_) (AllReadyH.cons rfl (fun K hKK => ?_) AllReadyH.nil)
          · go_simp
            try simp only [HC11.out]
            go_simp
            refine hKK.out _ _ ((Chg.refl _ _).drewN 1) (fun hHeld => ?_)
            clear hKK K
            try simp only [Act.put, List.setIfInBounds_toArray, List.set_cons_zero, List.set_cons_succ]
            refine wpAnyH_ready (rs := [9]) (by kernel_rfl) (by simp) ?_
            refine AllReadyH.cons rfl (fun K hKK => ?_) AllReadyH.nil
            go_simp
            try simp only [HC11.out]
            go_simp
            refine hKK.out _ _ ((Chg.refl _ _).drewN 1) (fun hHeld => ?_)
            clear hKK K
            try simp only [Act.put, List.setIfInBounds_toArray, List.set_cons_zero, List.set_cons_succ]
            refine held_take 10 (some 47) (v := ?_) rfl rfl (by kernel_rfl) (by kernel_rfl) (by kernel_rfl) (fun _ _ _ h => h) (Or.inl ⟨by rfl, ?_⟩) hHeld ?_
            rotate_left
            · (intro w' hSw; clear hSw; go_simp; try with_reducible rfl)
            try simp only [Act.put, List.setIfInBounds_toArray, List.set_cons_zero, List.set_cons_succ]
            refine held_take 11 (some 48) (v := ?_) rfl rfl (by kernel_rfl) (by kernel_rfl) (by kernel_rfl) (fun _ _ _ h => h) (Or.inl ⟨by rfl, ?_⟩) hHeld ?_
            rotate_left
            · (intro w' hSw; clear hSw; go_simp; try with_reducible rfl)
            try simp only [Act.put, List.setIfInBounds_toArray, List.set_cons_zero, List.set_cons_succ]
            refine held_take 12 (some 49) (v := ?_) rfl rfl (by kernel_rfl) (by kernel_rfl) (by kernel_rfl) (fun _ _ _ h => h) (Or.inl ⟨by rfl, ?_⟩) hHeld ?_
            rotate_left
            · (intro w' hSw; clear hSw; go_simp; try with_reducible rfl)
            try simp only [Act.put, List.setIfInBounds_toArray, List.set_cons_zero, List.set_cons_succ]
            refine held_take 13 (some 50) (v := ?_) rfl rfl (by kernel_rfl) (by kernel_rfl) (by kernel_rfl) (fun _ _ _ h => h) (Or.inl ⟨by rfl, ?_⟩) hHeld ?_
            rotate_left
            · (intro w' hSw; clear hSw; go_simp; try with_reducible rfl)
            try simp only [Act.put, List.setIfInBounds_toArray, List.set_cons_zero, List.set_cons_succ]
            refine wpAnyH_ready (rs := [14]) (by kernel_rfl) (by simp) ?_
            refine AllReadyH.cons rfl (fun K hKK => ?_) AllReadyH.nil
            go_simp
            try simp only [HCX.out]
            go_simp
            refine hKK.out _ _ ((Chg.refl _ _).drewN 1) (fun hHeld => ?_)
            clear hKK K
            try simp only [Act.put, List.setIfInBounds_toArray, List.set_cons_zero, List.set_cons_succ]
            refine wpAnyH_ready (rs := [15]) (by kernel_rfl) (by simp) ?_
            refine AllReadyH.cons rfl (fun K hKK => ?_) AllReadyH.nil
            go_simp
            go_at_call 88
            refine HDR.out.mono ?_
            rintro e w5 ⟨rfl, hch5, v5, O5, hcm5, hv5, hl5⟩
            have hch5' : Chg (fun x => x = gc ∨ x = gt ∨ Value.ownBlock (.slice (some ⟨go, 0, none⟩) room c) = some x) wq w5 := (Chg.refl _ _).drewN 1 |>.trans hch5
            refine hKK.out _ _ hch5' (fun hHeld => ?_)
            clear hKK K
            try simp only [Act.put, List.setIfInBounds_toArray, List.set_cons_zero, List.set_cons_succ]
            refine wpAnyH_done (by kernel_rfl) ?_ _
            obtain ⟨A5, c5, rfl⟩ := ownI_form hcm5.ord
            have HF5 := Lib.hid (Cl.mk1 (O := O) (b := Value.ownBlock (.slice (some ⟨go, 0, none⟩) room c)) hcm5 hv5 (HSL.out _ hl5) HLD.out (fun x hx => (mem_del.1 hx).1) (HCW.out.trans hch5'))
            clear hHeld hch5 hch5' hcm5 hv5 hl5
            go_simp
            go_wp2_with fail
            go_meet
            case rel => rw [HFL.out]; exact HF5.out
          · go_simp
            try simp only [HC11.out]
            go_simp
            refine hKK.out _ _ ((Chg.refl _ _).drewN 1) (fun hHeld => ?_)
            clear hKK K
            try simp only [Act.put, List.setIfInBounds_toArray, List.set_cons_zero, List.set_cons_succ]
            refine held_take 10 (some 47) (v := ?_) rfl rfl (by kernel_rfl) (by kernel_rfl) (by kernel_rfl) (fun _ _ _ h => h) (Or.inl ⟨by rfl, ?_⟩) hHeld ?_
            rotate_left
            · (intro w' hSw; clear hSw; go_simp; try with_reducible rfl)
            try simp only [Act.put, List.setIfInBounds_toArray, List.set_cons_zero, List.set_cons_succ]
            refine held_take 11 (some 48) (v := ?_) rfl rfl (by kernel_rfl) (by kernel_rfl) (by kernel_rfl) (fun _ _ _ h => h) (Or.inl ⟨by rfl, ?_⟩) hHeld ?_
            rotate_left
            · (intro w' hSw; clear hSw; go_simp; try with_reducible rfl)
            try simp only [Act.put, List.setIfInBounds_toArray, List.set_cons_zero, List.set_cons_succ]
            refine held_take 12 (some 49) (v := ?_) rfl rfl (by kernel_rfl) (by kernel_rfl) (by kernel_rfl) (fun _ _ _ h => h) (Or.inl ⟨by rfl, ?_⟩) hHeld ?_
            rotate_left
            · (intro w' hSw; clear hSw; go_simp; try with_reducible rfl)
            try simp only [Act.put, List.setIfInBounds_toArray, List.set_cons_zero, List.set_cons_succ]
            refine wpAnyH_ready (rs := [4]) (by kernel_rfl) (by simp) ?_
            refine AllReadyH.cons rfl (fun K hKK => ?_) AllReadyH.nil
            go_simp
            try simp only [HC11.out]
            go_simp
            refine hKK.out _ _ ((Chg.refl _ _).drewN 1) (fun hHeld => ?_)
            clear hKK K
            try simp only [Act.put, List.setIfInBounds_toArray, List.set_cons_zero, List.set_cons_succ]
            refine held_take 13 (some 50) (v := ?_) rfl rfl (by kernel_rfl) (by kernel_rfl) (by kernel_rfl) (fun _ _ _ h => h) (Or.inl ⟨by rfl, ?_⟩) hHeld ?_
            rotate_left
            · (intro w' hSw; clear hSw; go_simp; try with_reducible rfl)
            try simp only [Act.put, List.setIfInBounds_toArray, List.set_cons_zero, List.set_cons_succ]
            refine wpAnyH_ready (rs := [14]) (by kernel_rfl) (by simp) ?_
            refine AllReadyH.cons rfl (fun K hKK => ?_) AllReadyH.nil
            go_simp
            try simp only [HCX.out]
            go_simp
            refine hKK.out _ _ ((Chg.refl _ _).drewN 1) (fun hHeld => ?_)
            clear hKK K
            try simp only [Act.put, List.setIfInBounds_toArray, List.set_cons_zero, List.set_cons_succ]
            refine wpAnyH_ready (rs := [15]) (by kernel_rfl) (by simp) ?_
            refine AllReadyH.cons rfl (fun K hKK => ?_) AllReadyH.nil
            go_simp
            go_at_call 88
            refine HDR.out.mono ?_
            rintro e w5 ⟨rfl, hch5, v5, O5, hcm5, hv5, hl5⟩
            have hch5' : Chg (fun x => x = gc ∨ x = gt ∨ Value.ownBlock (.slice (some ⟨go, 0, none⟩) room c) = some x) wq w5 := (Chg.refl _ _).drewN 1 |>.trans hch5
            refine hKK.out _ _ hch5' (fun hHeld => ?_)
            clear hKK K
            try simp only [Act.put, List.setIfInBounds_toArray, List.set_cons_zero, List.set_cons_succ]
            refine wpAnyH_done (by kernel_rfl) ?_ _
            obtain ⟨A5, c5, rfl⟩ := ownI_form hcm5.ord
            have HF5 := Lib.hid (Cl.mk1 (O := O) (b := Value.ownBlock (.slice (some ⟨go, 0, none⟩) room c)) hcm5 hv5 (HSL.out _ hl5) HLD.out (fun x hx => (mem_del.1 hx).1) (HCW.out.trans hch5'))
            clear hHeld hch5 hch5' hcm5 hv5 hl5
            go_simp
            go_wp2_with fail
            go_meet
            case rel => rw [HFL.out]; exact HF5.out
          --]
        | false =>
          have hfull : ¬ O.length = room := by have := HBB.out; simp at this; omega
          go_wp2_with fail
          go_meet
          case rel =>
            exact ⟨⟨A, _, c, O, T, aq, rfl, HLN.out, by omega, fun x hx => hx, rfl⟩, (Chg.belowAt HB1.out).drewN nq⟩
      case rest =>
        obtain ⟨⟨A5, n5, c5, O5, T5, a5, hn5, hs5, hl5, hT5, hb5⟩, hch5⟩ := hcut
        have HA5 := Lib.hid a5
        have HCH5 := Lib.hid hch5
        have HS5 := Lib.hid (And.intro hn5 (And.intro hs5 (And.intro hl5 (And.intro hT5 hb5))))
        have HLT := Lib.hid HA.out.lt
        have HR5 := Lib.hid (show OwnR wc base (.slice A3 l.length c3) l from by
          obtain ⟨r1, r2⟩ := HR.out
          refine ⟨r1, ?_⟩
          rcases r2 with r2 | ⟨g, cap, cur, e, r3, r4, r5⟩
          · exact .inl r2
          · injection e with e1 e2 e3
            have h3 := HA3.out _ e1
            exact .inr ⟨g, cap, cur, by rw [e1, e3], r3, (hch5.block g (row_lt r4) (fun hx => by
              rcases hx with hx | hx | hx
              · exact h3.1 hx
              · exact h3.2.1 hx
              · exact h3.2.2 hx)).trans r4, r5⟩)
        have hmk := fun (W : World) => run_make_hint (P := Tryz.prog) Tryz.underlying151 .i64 (l.length : Int) W
        clear a5 hch5 hn5 hs5 hl5 hT5 hb5 hlen
        go_upto_region 5 with (fail)
        clear hmk
        obtain ⟨gx, hgx⟩ : ∃ g, g = wc.heap.size := ⟨_, rfl⟩
        have hm6 := MapAt.made (α := Ky) (enc := Ky.val) (V := Ky.Ok) wc
        have hb6 := (Below.refl wc.heap.size wc).alloc (Nat.le_refl _) (.map #[] 0)
        rw [← hgx] at hm6 ⊢
        generalize wc.alloc (.map #[] 0) = w6 at *
        have HM6 := Lib.hid hm6
        have HB6 := Lib.hid hb6
        have HGX := Lib.hid hgx
        clear hm6 hb6 hgx
        go_loopg [58] l.length (fun kq v58 w' => ∃ (i : Nat) (rs : List (Ky × (Nat × Nat))), v58 = .int .i64 (i : Int) ∧ i + kq = l.length ∧ MapAt Ky.val Ky.Ok w' gx (plRows rs) ∧ (∀ y ∈ rs, ∃ r ∈ l, r.val = y) ∧ Below wc.heap.size wc w')
        case atStart => exact ⟨0, [], rfl, by omega, HM6.out, fun y hy => (by cases hy), HB6.out⟩
        case round =>
          obtain ⟨i, rs, rfl, hi, hm, hrs, hb⟩ := hrel
          by_cases hlt : i < l.length
          · obtain ⟨row, hrow⟩ : ∃ r, l[i]? = some r := ⟨_, List.getElem?_eq_getElem hlt⟩
            have hR5 := HR5.out
            obtain ⟨r1, r2⟩ := hR5
            rcases r2 with ⟨_, h0'⟩ | ⟨g, cap, cur, e, _, hg, hnc, _, hcs, htk⟩
            · omega
            injection e with e1 e2 e3
            subst e1
            have HRG := Lib.hid (show wr.rangeAt g (i * 35) (encR row) from fun j v hj => by
              refine row_at (w := wr) ((hb.block g (row_lt hg)).trans hg) ?_
              have h1 := flat_at l (fun x _ => encR_length x) hrow hj
              change (flatR l)[i * 35 + j]? = some v at h1
              rw [← htk, List.getElem?_take] at h1
              split at h1
              · exact h1
              · cases h1)
            have HKO := Lib.hid row.property
            have HRW := Lib.hid (show row ∈ l from List.mem_of_getElem? hrow)
            have HZR := Lib.hid zeroR
            have HZP := Lib.hid zeroPl
            have hsz : (Tryz.prog.info? 84).map (·.size) = some (encR row).length := by rw [encR_length]; kernel_rfl
            have HSZ := Lib.hid hsz
            have HSA := Lib.hid (show (Tryz.prog.info? 84).map (·.size) = some (encR row).toArray.size by rw [List.size_toArray]; exact hsz)
            have HZS := Lib.hid (show zR.size = (encR row).toArray.size from (show zR.size = 35 by decide +kernel).trans (by rw [List.size_toArray, encR_length]))
            have i1 : (i : Int) < (l.length : Int) := by omega
            have HM := Lib.hid hm
            have HRS := Lib.hid hrs
            have HBR := Lib.hid hb
            clear hm hrs hb r1 hg hnc hcs htk e2 e3 hrow hsz hlt
            go_upto_region 7 with (first | (with_reducible refine Go.wpList_load_mid rfl 84 _ rfl g (i * 35) rfl (encR row) _ HRG.out Tryz.underlying84 rfl HSZ.out ?_) | (with_reducible refine wpList_fresh rfl rfl 84 rfl _ _ rfl (encR row).toArray zR (fun _ => rfl) (fun _ => rfl) HZR.out HSA.out HZS.out (all_one (encR_one row)) ?_; intro g10 w7 hg10 hr10 hb10))
            have HK10 := Lib.hid (show w7.rangeAt g10 0 row.val.1.cells from fun j v hj => by rw [Nat.zero_add]; exact row_at hr10.out (encR_key row hj))
            have hm7 := HM.out.below hb10.out
            have HM7 := Lib.hid hm7
            have HPV := Lib.hid HKO.out
            cases hq : lkp rs row.val.1 with
            | some p =>
              have hlk := run_lkp keyK Tryz.underlying151 hm7 row.val.1 HKO.out (plV (0, 0)) (zeroPl w7) true
              rw [plRows_lkp', hq] at hlk
              have HLK := Lib.hid (show (Instr.lookup 151 (.map (some gx)) (.agg row.val.1.cells.toArray) true).run Tryz.prog w7 = .ok (.tuple #[.agg (plC p).toArray, .bool true]) w7 from hlk)
              have HB7 := Lib.hid (HBR.out.trans (hb10.out.mono HBR.out.size))
              clear hm7 hlk hq
              go_wp2_with (first | (with_reducible refine Go.wpList_load_mid rfl 64 _ rfl g10 (0) rfl (row.val.1).cells _ HK10.out Tryz.underlying64 rfl (sizeK HKO.out) ?_) | (at_lookup; refine wpList_lkp rfl _ _ _ _ rfl _ _ _ rfl rfl HLK.out ?_) | (with_reducible refine wpList_fresh rfl rfl 82 rfl _ _ rfl (plC p).toArray (plC (0, 0)).toArray (fun _ => rfl) (fun _ => rfl) HZP.out (sizePlA _) rfl (all_one (plC_one _)) ?_; intro g11 w8 hg11 hr11 hb11))
              have HM8 := Lib.hid (HM7.out.below hb11.out)
              have HB8 := Lib.hid (HB7.out.trans (hb11.out.mono HB7.out.size))
              go_roundg (l.length - (i + 1))
              case measure => omega
              case rel => exact ⟨i + 1, rs, by go_num, by omega, HM8.out, HRS.out, HB8.out⟩
            | none =>
              have hlk := run_lkp keyK Tryz.underlying151 hm7 row.val.1 HKO.out (plV (0, 0)) (zeroPl w7) true
              rw [plRows_lkp', hq] at hlk
              have HLK := Lib.hid (show (Instr.lookup 151 (.map (some gx)) (.agg row.val.1.cells.toArray) true).run Tryz.prog w7 = .ok (.tuple #[.agg (plC (0, 0)).toArray, .bool false]) w7 from hlk)
              have HB7 := Lib.hid (HBR.out.trans (hb10.out.mono HBR.out.size))
              have HQ := Lib.hid hq
              clear hm7 hlk hq
              go_upto_region 9 with (first | (with_reducible refine Go.wpList_load_mid rfl 64 _ rfl g10 (0) rfl (row.val.1).cells _ HK10.out Tryz.underlying64 rfl (sizeK HKO.out) ?_) | (at_lookup; refine wpList_lkp rfl _ _ _ _ rfl _ _ _ rfl rfl HLK.out ?_) | (with_reducible refine wpList_fresh rfl rfl 82 rfl _ _ rfl (plC (0, 0)).toArray (plC (0, 0)).toArray (fun _ => rfl) (fun _ => rfl) HZP.out (sizePlA _) rfl (all_one (plC_one _)) ?_; intro g11 w8 hg11 hr11 hb11))
              have hr108 := (hb11.out.block g10 (row_lt hr10.out)).trans hr10.out
              have HK108 := Lib.hid (show w8.rangeAt g10 0 row.val.1.cells from fun j v hj => by rw [Nat.zero_add]; exact row_at hr108 (encR_key row hj))
              have HP108 := Lib.hid (show w8.rangeAt g10 33 (plC row.val.2) from fun j v hj => by
                refine row_at hr108 ?_
                rw [encR, List.getElem?_append_right (by rw [Ky.cells_length row.property]; omega), Ky.cells_length row.property, Nat.add_sub_cancel_left]; exact hj)
              obtain ⟨w9, hup, hg9, hm9, hs9⟩ := run_upd keyK Tryz.underlying151 (HM7.out.below hb11.out) row.val.1 HKO.out (plV row.val.2)
              have HUP := Lib.hid (show (Instr.mapUpdate 151 (.map (some gx)) (.agg row.val.1.cells.toArray) (.agg (plC row.val.2).toArray)).run Tryz.prog w8 = .ok () w9 from hup)
              have HB8 := Lib.hid (HB7.out.trans (hb11.out.mono HB7.out.size))
              have HB9 := Lib.hid (HB8.out.grown hg9 HB8.out.size (fun k hk => by injection hk with hk; have := HGX.out; omega))
              have HM9 := Lib.hid (show MapAt Ky.val Ky.Ok w9 gx (plRows (upd rs row.val.1 row.val.2)) from by
                unfold plRows
                rw [upd_map plV]; exact hm9)
              have HRS9 := Lib.hid (show ∀ y ∈ upd rs row.val.1 row.val.2, ∃ r ∈ l, r.val = y from fun y hy => by
                rcases upd_mem hy with h | h
                · exact ⟨row, HRW.out, by rw [h]⟩
                · exact HRS.out y h)
              clear hup hg9 hm9 hs9 hr108
              go_wp2_with (first | (with_reducible refine Go.wpList_load_mid rfl 64 _ rfl g10 (0) rfl (row.val.1).cells _ HK108.out Tryz.underlying64 rfl (sizeK HKO.out) ?_) | (with_reducible refine Go.wpList_load_mid rfl 82 _ rfl g10 33 rfl (plC row.val.2) _ HP108.out Tryz.underlying82 rfl (sizePl row.val.2) ?_) | (at_mapUpdate; refine wpList_upd rfl _ _ _ _ rfl _ _ _ rfl rfl rfl HUP.out ?_))
              go_roundg (l.length - (i + 1))
              case measure => omega
              case rel => exact ⟨i + 1, _, by go_num, by omega, HM9.out, HRS9.out, HB9.out⟩
          · obtain ⟨hn5, hs5, hl5, hT5, hb5⟩ := HS5.out
            have aw := HA5.out.below hb
            have c2 := aw.c2
            obtain ⟨w10, hup, hg10, ht10, hs10⟩ := run_upd keyI Tryz.underlying167 aw.tab s hs (.map (some gx))
            have HUP := Lib.hid (show (Instr.mapUpdate 167 (.map (some gt)) (.int .i64 s) (.map (some gx))).run Tryz.prog wr = .ok () w10 from hup)
            have ngt : ∀ {x : Nat}, x ≠ gt → ¬ some x = some gt := fun hx e => hx (by injection e)
            have hrow10 := ((Chg.of hg10).block gc (row_lt aw.row) (ngt aw.gtc.symm)).trans aw.row
            have hord10 : OwnI w10 0 (.slice A5 n5 c5) O5 := World.ownsRow.kept aw.ord hg10 (.inr aw.ogt)
            have c1 : w10.cell? ⟨gc, 1, none⟩ = some (.slice A5 n5 c5) := by rw [cell_of_row _ _ _ _ _ _ hrow10]; rfl
            have HBS := Lib.hid (fun (W : World) => build_one (P := Tryz.prog) (z := .int .i64 0) (vs := [.int .i64 s]) (s := 1) Tryz.underlying168 (fun _ => by kernel_rfl) zero3 rfl (by decide) (by decide) (.int .i64 s) rfl W)
            have hsc : w.heap.size ≤ wc.heap.size := HCH5.out.size
            have hgxe := HGX.out
            have hFIN : ∀ (v9 : Value) (w9 : World), w9.ownsRow 0 3 1 v9 (n5 + 1) (O5.map intV ++ [.int .i64 s]) → (w10.alloc (.cells #[.int .i64 s] 3)).grownBy w9 (Value.ownBlock (.slice A5 n5 c5)) → (v9.ownBlock = Value.ownBlock (.slice A5 n5 c5) ∨ v9.ownBlock = some (w10.alloc (.cells #[.int .i64 s] 3)).heap.size) →
                ∃ A9 c9, v9 = .slice A9 (n5 + 1) c9 ∧ w9.cell? ⟨gc, 1, none⟩ = some (.slice A5 n5 c5) ∧ w9.frozen? ⟨gc, 1, none⟩ = false ∧ Hid (Chg (fun x => x = gc ∨ x = gt ∨ Value.ownBlock (.slice A O.length c) = some x) w (w9.setCell ⟨gc, 1, none⟩ (.slice A9 (n5 + 1) c9)) ∧
                  Cm (w9.setCell ⟨gc, 1, none⟩ (.slice A9 (n5 + 1) c9)) gc room gt (.slice A9 (n5 + 1) c9) (O5 ++ [s]) (T5 ++ [(s, (gx, rs))]) ∧ (Value.ownBlock (.slice A9 (n5 + 1) c9) = Value.ownBlock (.slice A O.length c) ∨ ∃ g, Value.ownBlock (.slice A9 (n5 + 1) c9) = some g ∧ w.heap.size ≤ g)) := by
              intro v9 w9 h1 h2 h3
              have h1' : OwnI w9 0 v9 (O5 ++ [s]) := by rw [OwnI, List.length_append, List.length_singleton, ← hn5, List.map_append]; exact h1
              obtain ⟨A9, c9, rfl⟩ := ownI_form h1'
              have hll : (O5 ++ [s]).length = n5 + 1 := by rw [List.length_append, List.length_singleton, hn5]
              rw [hll] at h1' h3 h1 ⊢
              have hb10 : Below w10.heap.size w10 (w10.alloc (.cells #[.int .i64 s] 3)) := (Below.refl _ _).alloc (Nat.le_refl _) _
              have hc9 : Chg (fun x => Value.ownBlock (.slice A5 n5 c5) = some x) w10 w9 := (Chg.belowAt hb10).trans2 (Chg.of h2) (fun x _ e => e.symm)
              have hr9 := (hc9.block gc (row_lt hrow10) aw.ogc).trans hrow10
              have hgs := grown_setCell w9 gc 1 (.slice A9 (n5 + 1) c9)
              have hs9 := hc9.size
              have hlw := aw.lt
              have hsr := hb.size
              have h9 : Value.ownBlock (.slice A9 (n5 + 1) c9) ≠ some gc := fun e => by
                rcases h3 with h3 | h3
                · exact aw.ogc (h3 ▸ e)
                · rw [h3] at e; injection e with e; rw [World.size_alloc] at e; omega
              have ngc : ∀ {x : Nat}, x ≠ gc → ¬ some x = some gc := fun hx e => hx (by injection e)
              have hl5w := HA5.out.lt
              have hsO : s ∉ O5 := fun hm => by
                obtain ⟨y, hy, e⟩ := List.mem_map.1 ((aw.keys s).1 hm)
                exact lkp_none_mem hs5 y hy e
              refine ⟨A9, c9, rfl, by rw [cell_of_row _ _ _ _ _ _ hr9]; rfl, free_row hr9 1, ?_, ⟨by rw [setCell_row hr9]; rfl, ?_, ?_, ?_, ?_, ?_, h9, ?_, by rw [hll, hn5]; omega, hrm⟩, ?_⟩
              · exact (((HCH5.out.below0 hb).trans2 (Chg.of hg10) (fun x _ e => .inr (.inl (by injection e)))).trans2 hc9 (fun x _ e => .inr (.inr (hb5 ▸ e)))).trans2 (Chg.of hgs) (fun x _ e => .inl (by injection e))
              · exact World.ownsRow.kept h1' hgs (.inr h9)
              · have hta := (ht10.of_block (hc9.block gt (by omega) aw.ogt)).of_block (hgs.block gt (by omega) (ngc aw.gtc))
                rw [upd_new (by unfold caRows; rw [lkp_map, hs5]; rfl)] at hta
                unfold caRows at hta ⊢
                rw [List.map_append]; exact hta
              · intro x hx
                rcases List.mem_append.1 hx with hx | hx
                · exact (((aw.tabr x hx).chg (Chg.of hg10) (ngt (aw.tne x hx))).chg hc9 (aw.otb x hx)).chg (Chg.of hgs) (ngc (aw.tgc x hx))
                · simp only [List.mem_singleton] at hx
                  subst hx
                  exact ((hm.chg (Chg.of hg10) (ngt (by omega))).chg hc9 (fun e => by have := hl5w.2.2.1 _ e; omega)).chg (Chg.of hgs) (ngc (by omega))
              · intro y
                rw [List.mem_append, aw.keys, List.map_append, List.mem_append]
                simp
              · rw [List.nodup_append]
                refine ⟨aw.nod, by simp, fun x hx y hy e => ?_⟩
                simp only [List.mem_singleton] at hy
                exact hsO (hy ▸ e ▸ hx)
              · intro x hx
                rcases List.mem_append.1 hx with hx | hx
                · exact aw.tne x hx
                · simp only [List.mem_singleton] at hx
                  subst hx
                  show gx ≠ gt
                  omega
              · rcases h3 with h3 | h3
                · exact .inl (h3.trans hb5)
                · rw [World.size_alloc] at h3; exact .inr ⟨_, h3, by omega⟩
            have HFIN := Lib.hid hFIN
            have HO10 := Lib.hid (show (w10.alloc (.cells #[.int .i64 s] 3)).ownsRow 0 3 1 (.slice A5 n5 c5) n5 (O5.map intV) from by rw [hn5]; exact (show OwnI w10 0 (.slice A5 O5.length c5) O5 from hn5 ▸ hord10).alloc _)
            have HNW := Lib.hid (show ∀ j u, [Value.int .i64 (s : Int)][j]? = some u → ∃ ad, some (⟨w10.heap.size, 0, none⟩ : Addr) = some ad ∧ (w10.alloc (.cells #[.int .i64 s] 3)).cell? (ad.add j) = some u from fun j u hj => by
              match j, hj with
              | 0, hj => injection hj with hj; rw [← hj]; exact ⟨_, rfl, row_at (heap_alloc_last w10 (.cells #[.int .i64 s] 3)) rfl⟩)
            have HN1 := Lib.hid (show ∀ u ∈ [Value.int .i64 (s : Int)], u.oneCell' = true from fun u hu => by simp at hu; subst hu; rfl)
            have HML := Lib.hid (show (n5 + 1 ≤ maxLen ∧ (n5 + 1) * 8 ≤ 140737488355328) ∧ 0 ≤ (w10.alloc (.cells #[.int .i64 s] 3)).heap.size by unfold maxLen; constructor <;> omega)
            have HNN := Lib.hid (show some (⟨w10.heap.size, 0, none⟩ : Addr) = none → 1 = 0 ∧ 1 = 0 from fun h => by cases h)
            have HFT := Lib.hid (show ∀ x ∈ T5 ++ [(s, (gx, rs))], x ∈ T ∨ (w.heap.size ≤ x.2.1 ∧ ∀ y ∈ x.2.2, ∃ r ∈ l, r.val = y) from fun x hx => by
              rcases List.mem_append.1 hx with hx | hx
              · exact .inl (hT5 x hx)
              · simp only [List.mem_singleton] at hx
                subst hx
                exact .inr ⟨by show w.heap.size ≤ gx; omega, hrs⟩)
            clear hFIN hord10 hrow10 ngt hs10 ht10 hg10 hup aw hn5 hs5 hl5 hT5 hb5 hm hrs hb hsc hgxe hs
            go_wp2_with (first | (at_mapUpdate; refine wpList_upd rfl _ _ _ _ rfl _ _ _ rfl rfl rfl HUP.out ?_) | (with_reducible refine wpList_val rfl (exec_buildSlice _ _ _ rfl #[(0, .int .i64 s)] (by go_simp) (HBS.out _)) ?_) | (at_builtin; refine wpList_app EI rfl _ _ rfl 0 (.slice A5 n5 c5) n5 (O5.map intV) rfl HO10.out (some ⟨w10.heap.size, 0, none⟩) 1 1 [.int .i64 s] rfl HNN.out rfl HNW.out HN1.out HML.out.1.1 HML.out.1.2 HML.out.2 ?_; intro v9 w9 h1 h2 h3; obtain ⟨A9, c9, rfl, c9c, f9, hfin⟩ := HFIN.out v9 w9 h1 h2 h3; clear h1 h2 h3))
            go_end0
            exact ⟨rfl, hfin.out.1, _, _, _, hfin.out.2.1, hfin.out.2.2, HFT.out⟩
end Go.Proofs.YtcklcffepedklaaGreat

namespace Go.Proofs.YtcklcffepedklaaGreat
open Go.RowKit Go.Maps

theorem CLoad_any {w : World} {gc room : Nat} {L : List (Ky × (Nat × Nat))} {F : Nat → Prop} (h : Ca w gc room L F) (s : Nat) (hs : IntOk s) (base : Nat) (A3 : Option Addr) (c3 : Nat) (l : List Rw) (hR : OwnR w base (.slice A3 l.length c3) l) (hl1 : l.length < 1000000000) (hlk : ∀ x ∈ l, lkp L x.val.1 = some x.val.2) (hA3 : ∀ ad, A3 = some ad → ¬ F ad.block) (draw : Nat) (hd : draw < 18446744073709551616) :
    Calls Tryz.prog 80 #[.pointer (some ⟨gc, 0, none⟩), .int .i64 s, .slice A3 l.length c3, .int .u64 draw] w fun e w' => e = .returned (.tuple #[]) ∧ Chg F w w' ∧ Ca w' gc room L (fun x => F x ∨ w.heap.size ≤ x) := by
  obtain ⟨gt, vO, O, T, a, b, f1, f2, f3⟩ := h.ex
  refine (CLoad_cm a s hs base A3 c3 l hR hl1 (fun ad e => ⟨fun e1 => hA3 ad e (e1 ▸ h.own), fun e1 => hA3 ad e (e1 ▸ f1), fun e1 => hA3 ad e (f2 _ e1)⟩) draw hd).mono ?_
  rintro e w' ⟨rfl, hc, v', O', T', a', hv', hT'⟩
  refine ⟨rfl, hc.mono (fun x hx => ?_), ⟨gt, v', O', T', a', fun x hx y hy => ?_, .inl f1, fun k hk => ?_, fun x hx => ?_⟩, .inl h.own⟩
  · rcases hx with rfl | rfl | hx
    · exact h.own
    · exact f1
    · exact f2 x hx
  · rcases hT' x hx with h1 | ⟨_, h1⟩
    · exact b x h1 y hy
    · obtain ⟨r, hr, e⟩ := h1 y hy
      rw [← e]; exact hlk r hr
  · rcases hv' with h1 | ⟨g, h1, h2⟩
    · exact .inl (f2 k (h1 ▸ hk))
    · rw [h1] at hk; injection hk with hk; exact .inr (hk ▸ h2)
  · rcases hT' x hx with h1 | ⟨h1, _⟩
    · exact .inl (f3 x h1)
    · exact .inr h1
end Go.Proofs.YtcklcffepedklaaGreat

namespace Go.Proofs.YtcklcffepedklaaGreat.Bl

/-- The number of the first n bits of g. -/
def bitsN : Nat → (Nat → Bool) → Nat
  | 0, _ => 0
  | n + 1, g => (g 0).toNat + 2 * bitsN n (fun k => g (k + 1))
theorem bitsN_test (n : Nat) : ∀ (g : Nat → Bool) (k : Nat), (bitsN n g).testBit k = (decide (k < n) && g k) := by
  induction n with
  | zero => intro g k; simp [bitsN]
  | succ n ih =>
    intro g k
    cases k with
    | zero => simp only [bitsN, Nat.testBit_zero]; cases g 0 <;> simp <;> omega
    | succ k =>
      rw [Nat.testBit_succ]
      have e : bitsN (n + 1) g / 2 = bitsN n (fun k => g (k + 1)) := by simp only [bitsN]; cases g 0 <;> simp <;> omega
      rw [e, ih]
      simp
theorem bitsN_lt (n : Nat) : ∀ g : Nat → Bool, bitsN n g < 2 ^ n := by
  induction n with
  | zero => intro g; simp [bitsN]
  | succ n ih => intro g; have := ih (fun k => g (k + 1)); simp only [bitsN]; cases g 0 <;> simp <;> omega
theorem bitsN_ext (n : Nat) (f g : Nat → Bool) (h : ∀ k, k < n → f k = g k) : bitsN n f = bitsN n g := by
  apply Nat.eq_of_testBit_eq
  intro k
  rw [bitsN_test, bitsN_test]
  by_cases hk : k < n
  · rw [h k hk]
  · simp [hk]
/-- A number below 2^n is the number of its bits. -/
theorem bitsN_of (n x : Nat) (h : x < 2 ^ n) : bitsN n (fun k => x.testBit k) = x := by
  apply Nat.eq_of_testBit_eq
  intro k
  rw [bitsN_test]
  by_cases hk : k < n
  · simp [hk]
  · simp [hk]
    exact Nat.testBit_lt_two_pow (Nat.lt_of_lt_of_le h (Nat.pow_le_pow_right (n := 2) (by decide) (by omega)))

/-- Byte number i of the bits f. -/
def byteN (f : Nat → Bool) (i : Nat) : Nat := bitsN 8 (fun j => f (8 * i + j))
theorem byteN_lt (f : Nat → Bool) (i : Nat) : byteN f i < 256 := bitsN_lt 8 _
/-- The first m bytes of the bits f. -/
def pack (m : Nat) (f : Nat → Bool) : List Int := (List.range m).map fun i => ((byteN f i : Nat) : Int)
theorem pack_length (m : Nat) (f : Nat → Bool) : (pack m f).length = m := by simp [pack]
theorem pack_get (m : Nat) (f : Nat → Bool) (i : Nat) (h : i < m) : (pack m f).getD i 0 = ((byteN f i : Nat) : Int) := by
  rw [pack, List.getD_eq_getElem?_getD, List.getElem?_map, List.getElem?_range h]; rfl
theorem pack_bytes (m : Nat) (f : Nat → Bool) : Bytes (pack m f) := by
  intro i
  by_cases h : i < m
  · rw [pack_get m f i h]; have := byteN_lt f i; omega
  · rw [List.getD_eq_getElem?_getD, List.getElem?_eq_none (by rw [pack_length]; omega)]; simp
theorem pack_ext (m : Nat) (f g : Nat → Bool) (h : ∀ k, k < 8 * m → f k = g k) : pack m f = pack m g := by
  unfold pack
  apply List.map_congr_left
  intro i hi
  rw [List.mem_range] at hi
  congr 1
  exact bitsN_ext 8 _ _ fun j hj => h _ (by omega)
theorem pack_set (m : Nat) (f g : Nat → Bool) (i : Nat) (hi : i < m) (h : ∀ k, k < 8 * m → k / 8 ≠ i → g k = f k) : (pack m f).set i ((byteN g i : Nat) : Int) = pack m g := by
  apply List.ext_getElem
  · simp [pack]
  · intro j h1 h2
    rw [List.getElem_set]
    rw [pack_length] at h2
    by_cases e : i = j
    · subst e; simp [pack]
    · rw [if_neg e]
      simp only [pack, List.getElem_map, List.getElem_range]
      congr 1
      exact bitsN_ext 8 _ _ fun t ht => (h _ (by omega) (by omega)).symm

theorem byteN_zero (i : Nat) : byteN (fun _ => false) i = 0 := by
  apply Nat.eq_of_testBit_eq
  intro k
  rw [byteN, bitsN_test]
  simp
theorem pack_zero (m : Nat) : pack m (fun _ => false) = List.replicate m 0 := by
  apply List.ext_getElem
  · simp [pack]
  · intro i h1 h2
    simp [pack, byteN_zero]
/-- A bit of bytes. -/
def bitOf (b : List Int) (p : Nat) : Bool := (b.getD (p / 8) 0).toNat.testBit (p % 8)

/-- f with the first 8 n bits of b. -/
def orF (f : Nat → Bool) (b : List Int) (n : Nat) : Nat → Bool := fun q => f q || (decide (q < 8 * n) && bitOf b q)
theorem orF_zero (f : Nat → Bool) (b : List Int) : orF f b 0 = f := by funext q; simp [orF]
theorem byteN_or (f : Nat → Bool) (b : List Int) (i : Nat) (hb : (b.getD i 0).toNat < 256) : byteN (orF f b i) i ||| (b.getD i 0).toNat = byteN (orF f b (i + 1)) i := by
  apply Nat.eq_of_testBit_eq
  intro k
  rw [Nat.testBit_or, byteN, byteN, bitsN_test, bitsN_test]
  by_cases hk : k < 8
  · have h1 : ¬ (8 * i + k < 8 * i) := by omega
    have h2 : 8 * i + k < 8 * (i + 1) := by omega
    simp only [hk, decide_true, Bool.true_and, orF, h1, decide_false, Bool.false_and, Bool.or_false, h2, bitOf]
    rw [show (8 * i + k) / 8 = i from by omega, show (8 * i + k) % 8 = k from by omega]
  · rw [Nat.testBit_lt_two_pow (Nat.lt_of_lt_of_le hb (show 256 ≤ 2 ^ k from Nat.pow_le_pow_right (n := 2) (i := 8) (by decide) (by omega)))]
    simp [hk]
theorem orF_far (f : Nat → Bool) (b : List Int) (i k : Nat) (h : k / 8 ≠ i) : orF f b (i + 1) k = orF f b i k := by
  unfold orF
  have : decide (k < 8 * (i + 1)) = decide (k < 8 * i) := by rw [decide_eq_decide]; omega
  rw [this]
/-- f below a bound. -/
def upF (f : Nat → Bool) (n : Nat) : Nat → Bool := fun q => f q && decide (q < n)
theorem byteN_up (f : Nat → Bool) (n : Nat) : byteN f (n / 8) &&& (2 ^ (n % 8) - 1) = byteN (upF f n) (n / 8) := by
  apply Nat.eq_of_testBit_eq
  intro k
  rw [Nat.testBit_and, Nat.testBit_two_pow_sub_one, byteN, byteN, bitsN_test, bitsN_test]
  by_cases hk : k < 8
  · simp only [hk, decide_true, Bool.true_and, upF]
    congr 1
    rw [decide_eq_decide]
    omega
  · simp [hk]

/-- f with place p. -/
def put (f : Nat → Bool) (p : Nat) : Nat → Bool := fun q => f q || decide (q = p)
theorem byteN_put (f : Nat → Bool) (p : Nat) : byteN f (p / 8) ||| 2 ^ (p % 8) = byteN (put f p) (p / 8) := by
  apply Nat.eq_of_testBit_eq
  intro k
  rw [Nat.testBit_or, byteN, byteN, bitsN_test, bitsN_test, Nat.testBit_two_pow]
  by_cases hk : k < 8
  · simp only [hk, decide_true, Bool.true_and, put]
    congr 1
    rw [decide_eq_decide]
    omega
  · have : ¬ p % 8 = k := by omega
    simp [hk, this]
theorem byteN_test (f : Nat → Bool) (p : Nat) : (byteN f (p / 8)).testBit (p % 8) = f p := by
  rw [byteN, bitsN_test]
  have : p % 8 < 8 := Nat.mod_lt _ (by omega)
  simp only [this, decide_true, Bool.true_and]
  congr 1
  omega
theorem byteN_is (f : Nat → Bool) (p : Nat) : decide (byteN f (p / 8) / 2 ^ (p % 8) % 2 = 1) = f p := by
  rw [← byteN_test f p, Nat.testBit_eq_decide_div_mod_eq]

/-- A key's places: so many, from x on, by steps. -/
def places (bits : Nat) : Nat → Nat → Nat → List Nat
  | 0, _, _ => []
  | n + 1, x, s => x % bits :: places bits n ((x + s) % 4294967296) s
def puts (f : Nat → Bool) (l : List Nat) : Nat → Bool := fun q => f q || l.contains q
theorem puts_nil (f : Nat → Bool) : puts f [] = f := by funext q; simp [puts]
theorem puts_cons (f : Nat → Bool) (p : Nat) (l : List Nat) : puts (put f p) l = puts f (p :: l) := by
  funext q
  simp only [puts, put, List.contains_cons, Bool.or_assoc]
  congr 2

end Go.Proofs.YtcklcffepedklaaGreat.Bl

namespace Go.Proofs.YtcklcffepedklaaGreat.Bl
open Go.RowKit

/-- A summary at block g, its bytes in block h: its bits are f. -/
structure Vec (w : World) (g h bits probes : Nat) (f : Nat → Bool) : Prop where
  obj : w.heap[g]? = some (.cells #[.slice (some ⟨h, 0, none⟩) ((bits + 7) / 8) ((bits + 7) / 8), .int .i64 bits, .int .i64 probes] 166 (0, 0))
  row : w.heap[h]? = some (.cells (cellsOf (pack ((bits + 7) / 8) f)) 5 (0, 0))
  lim : bits ≤ 1048576 ∧ probes ≤ 30
  out : ∀ p, bits ≤ p → f p = false

theorem Vec.cells {w : World} {g h bits probes : Nat} {f : Nat → Bool} (V : Vec w g h bits probes f) :
    w.cell? ⟨g, 0, none⟩ = some (.slice (some ⟨h, 0, none⟩) ((bits + 7) / 8) ((bits + 7) / 8)) ∧ w.cell? ⟨g, 1, none⟩ = some (.int .i64 bits) ∧ w.cell? ⟨g, 2, none⟩ = some (.int .i64 probes) := by
  refine ⟨?_, ?_, ?_⟩ <;> rw [cell_of_row _ _ _ _ _ _ V.obj] <;> rfl
theorem Vec.byte {w : World} {g h bits probes : Nat} {f : Nat → Bool} (V : Vec w g h bits probes f) (i : Nat) (hi : i < (bits + 7) / 8) : w.cell? ⟨h, i, none⟩ = some (.int .u8 (byteN f i)) := by
  rw [cell_of_row _ _ _ _ _ _ V.row, cellsOf_get _ _ (by rw [pack_length]; exact hi), pack_get _ _ _ hi]
theorem Vec.free {w : World} {g h bits probes : Nat} {f : Nat → Bool} (V : Vec w g h bits probes f) (i : Nat) : w.frozen? ⟨h, i, none⟩ = false := by
  unfold World.frozen?
  rw [V.row]
  simp

theorem Vec.glt {w : World} {g h bits probes : Nat} {f : Nat → Bool} (V : Vec w g h bits probes f) : g < w.heap.size := by
  rcases Nat.lt_or_ge g w.heap.size with h | h
  · exact h
  · have := V.obj; rw [Array.getElem?_eq_none h] at this; cases this
theorem Vec.hlt {w : World} {g h bits probes : Nat} {f : Nat → Bool} (V : Vec w g h bits probes f) : h < w.heap.size := by
  rcases Nat.lt_or_ge h w.heap.size with hh | hh
  · exact hh
  · have := V.row; rw [Array.getElem?_eq_none hh] at this; cases this
theorem Vec.kept {w w' : World} {g h bits probes : Nat} {f : Nat → Bool} {r : Option Nat} (V : Vec w g h bits probes f) (hg : w.grownBy w' r) (h1 : some g ≠ r) (h2 : some h ≠ r) : Vec w' g h bits probes f :=
  ⟨(hg.block g V.glt h1).trans V.obj, (hg.block h V.hlt h2).trans V.row, V.lim, V.out⟩
theorem Vec.put {w : World} {g h bits probes : Nat} {f : Nat → Bool} (V : Vec w g h bits probes f) (hgh : g ≠ h) {p : Nat} (hp : p < bits) :
    Vec (w.setCell ⟨h, p / 8, none⟩ (.int .u8 (byteN (Bl.put f p) (p / 8)))) g h bits probes (Bl.put f p) := by
  refine ⟨?_, ?_, V.lim, ?_⟩
  · rw [Below.heap_setCell _ _ _ _ hgh]; exact V.obj
  · rw [setCell_row V.row, cellsOf_set, pack_set _ _ _ _ (by omega)]
    intro k _ hk
    simp only [Bl.put]
    have : ¬ k = p := fun e => hk (by rw [e])
    simp [this]
  · intro q hq
    simp only [Bl.put, V.out q hq]
    have : ¬ q = p := by omega
    simp [this]

theorem pow8 (p : Nat) : (2 : Nat) ^ (p % 8) < 256 := by
  have h : p % 8 < 8 := Nat.mod_lt _ (by decide)
  exact Nat.lt_of_lt_of_le (Nat.pow_lt_pow_right (a := 2) (by decide) h) (Nat.le_refl _)
theorem cast_pow (j : Nat) : (2 : Int) ^ j = ((2 ^ j : Nat) : Int) := by rw [Int.natCast_pow]; rfl
theorem byte_is (f : Nat → Bool) (p : Nat) : (Go.bits BinOp.and IntKind.u8 ((byteN f (p / 8) : Nat) / 2 ^ (p % 8) : Int) 1 == 1) = f p := by
  have h1 := byteN_lt f (p / 8)
  have h4 := byteN_is f p
  generalize byteN f (p / 8) = B at *
  generalize p % 8 = j at *
  have h2 := u8_and_nat (B / 2 ^ j) 1 (Nat.lt_of_le_of_lt (Nat.div_le_self _ _) h1) (by decide)
  rw [nat_mask1] at h2
  rw [cast_pow, ← Int.natCast_ediv]
  have h3 : Go.bits BinOp.and IntKind.u8 ((B / 2 ^ j : Nat) : Int) 1 = ((B / 2 ^ j % 2 : Nat) : Int) := h2
  rw [h3, ← h4, Bool.eq_iff_iff, beq_iff_eq, decide_eq_true_eq]
  omega
theorem byte_set (f : Nat → Bool) (p : Nat) : Go.bits BinOp.or IntKind.u8 ((byteN f (p / 8) : Nat) : Int) (2 ^ (p % 8) % 256) = ((byteN (put f p) (p / 8) : Nat) : Int) := by
  have h1 := byteN_lt f (p / 8)
  have h2 := pow8 p
  have h3 := u8_or_nat (byteN f (p / 8)) (2 ^ (p % 8)) h1 h2
  rw [byteN_put] at h3
  have e : (2 : Int) ^ (p % 8) % 256 = ((2 ^ (p % 8) : Nat) : Int) := by
    rw [cast_pow]
    generalize 2 ^ (p % 8) = z at *
    omega
  rw [e]; exact h3

set_option maxRecDepth 20000 in
theorem is_any (g h bits probes : Nat) (f : Nat → Bool) (p : Nat) (w : World) (V : Vec w g h bits probes f) (hp : p < bits) :
    Calls Tryz.prog 102 #[.pointer (some ⟨g, 0, none⟩), .int .u32 p] w fun e w' => e = .returned (.bool (f p)) ∧ w = w' := by
  obtain ⟨c0, c1, c2⟩ := V.cells
  have hl := V.lim
  have cb := V.byte (p / 8) (by omega)
  have hb := byteN_lt f (p / 8)
  have hand : Go.bits BinOp.and IntKind.u32 (p : Int) 7 = (p : Int) % 8 := by
    have := u32_and_nat p 7 (by omega) (by omega)
    rw [nat_mask3] at this
    exact this
  have h0 : (0 : Int) ≤ (p : Int) % 8 := by omega
  go_enter Tryz.func102, Tryz.ntmps102
  go_wp2
  go_ret
  exact ⟨ret_bool (byte_is f p), rfl⟩

set_option maxRecDepth 20000 in
theorem set_any (g h bits probes : Nat) (f : Nat → Bool) (p : Nat) (w : World) (V : Vec w g h bits probes f) (hgh : g ≠ h) (hp : p < bits) :
    Calls Tryz.prog 115 #[.pointer (some ⟨g, 0, none⟩), .int .u32 p] w fun e w' => e = .returned (.bool true) ∧ w.grownBy w' (some h) ∧ Vec w' g h bits probes (put f p) := by
  obtain ⟨c0, c1, c2⟩ := V.cells
  have hl := V.lim
  have cb := V.byte (p / 8) (by omega)
  have cf := V.free (p / 8)
  have hb := byteN_lt f (p / 8)
  have hand : Go.bits BinOp.and IntKind.u32 (p : Int) 7 = (p : Int) % 8 := by
    have := u32_and_nat p 7 (by omega) (by omega)
    rw [nat_mask3] at this
    exact this
  have h0 : (0 : Int) ≤ (p : Int) % 8 := by omega
  go_enter Tryz.func115, Tryz.ntmps115
  go_wp2
  go_ret
  refine ⟨rfl, grown_setCell _ _ _ _, ?_⟩
  rw [byte_set]
  exact V.put hgh hp

end Go.Proofs.YtcklcffepedklaaGreat.Bl
