/- Texts of the proof, one behind the other: path: Name. -/
import Derived.Test.YtcklcffepedklaaGreatDoorM04
import Derived.Test.YtcklcffepedklaaGreatDoorM06
import Derived.Test.YtcklcffepedklaaGreatDoorM07
import Derived.Lib.OthersKept
namespace Go.Proofs.YtcklcffepedklaaGreatDoor
open Go.RowKit

/-- The library's variables, as the program's text lays them. -/
structure Env (w : World) : Prop where
  tabs : Lib.Utf8Tabs 0 1 w
  len : ∃ m, w.cell? ⟨2, 0, none⟩ = some (.int .i64 m)
theorem Env.lt {w : World} (h : Env w) : 2 < w.heap.size := by
  obtain ⟨m, hm⟩ := h.len
  exact cell_lt hm
theorem Env.below {w w' : World} (h : Env w) (hb : Below w.heap.size w w') : Env w' := by
  have hl := h.lt
  refine ⟨⟨fun c hc => ?_, fun i hi => ?_⟩, ?_⟩
  · exact (hb.cell (p := ⟨0, c, none⟩) (by show 0 < _; omega)).trans (h.tabs.1 c hc)
  · exact ⟨(hb.cell (p := ⟨1, 2 * i, none⟩) (by show 1 < _; omega)).trans (h.tabs.2 i hi).1, (hb.cell (p := ⟨1, 2 * i + 1, none⟩) (by show 1 < _; omega)).trans (h.tabs.2 i hi).2⟩
  · obtain ⟨m, hm⟩ := h.len
    exact ⟨m, (hb.cell (p := ⟨2, 0, none⟩) hl).trans hm⟩
theorem Env.chg {w w' : World} {R : Nat → Prop} (h : Env w) (hc : Chg R w w') (hR : ∀ k, R k → 2 < k) : Env w' := by
  have hl := h.lt
  refine ⟨⟨fun c hc' => ?_, fun i hi => ?_⟩, ?_⟩
  · exact (hc.cell (p := ⟨0, c, none⟩) (by show 0 < _; omega) (fun e => by have := hR _ e; simp at this)).trans (h.tabs.1 c hc')
  · exact ⟨(hc.cell (p := ⟨1, 2 * i, none⟩) (by show 1 < _; omega) (fun e => by have := hR _ e; simp at this)).trans (h.tabs.2 i hi).1, (hc.cell (p := ⟨1, 2 * i + 1, none⟩) (by show 1 < _; omega) (fun e => by have := hR _ e; simp at this)).trans (h.tabs.2 i hi).2⟩
  · obtain ⟨m, hm⟩ := h.len
    exact ⟨m, (hc.cell (p := ⟨2, 0, none⟩) hl (fun e => by have := hR _ e; simp at this)).trans hm⟩
theorem nmOk_no {s : BA} (h : s = ⟨#[]⟩ ∨ s = ⟨#[46]⟩ ∨ s = ⟨#[46, 46]⟩ ∨ ¬ s.size ≤ 100 ∨ Lib.validD s.data.toList = false ∨ badAt s (s.size + 1) 0 = true) : nmOk s = false := by
  unfold nmOk
  rcases h with h | h | h | h | h | h <;> simp [h]
theorem nmOk_yes {s : BA} (h0 : s ≠ ⟨#[]⟩) (h1 : s ≠ ⟨#[46]⟩) (h2 : s ≠ ⟨#[46, 46]⟩) (h3 : s.size ≤ 100) (h4 : Lib.validD s.data.toList = true) (h5 : badAt s (s.size + 1) 0 = false) : nmOk s = true := by
  unfold nmOk; simp [h0, h1, h2, h3, h4, h5]
def badR (r : Nat) : Bool := decide (r < 32) || decide (r = 127) || decide (r = 47)
set_option maxRecDepth 20000 in
theorem bad_any (r : Nat) (hr : r ≤ 1114111) (w : World) : Calls Tryz.prog 83 #[.int .i32 r] w fun e w' => e = .returned (.bool (badR r)) ∧ w = w' := by
  obtain ⟨q, hq⟩ : ∃ q, badR r = q := ⟨_, rfl⟩
  rw [hq]
  have HQ := Lib.hid hq
  clear hq
  by_cases h1 : r < 32
  · have d1 : (r : Int) < 32 := by omega
    go_enter Tryz.func83, Tryz.ntmps83
    go_wp2
    go_ret
    exact ⟨by rw [← HQ.out, badR]; simp [h1], rfl⟩
  · have d1 : ¬ (r : Int) < 32 := by omega
    by_cases h2 : r = 127
    · subst h2
      go_enter Tryz.func83, Tryz.ntmps83
      go_wp2
      go_ret
      exact ⟨by rw [← HQ.out]; rfl, rfl⟩
    · have d2 : ¬ (r : Int) = 127 := by omega
      by_cases h3 : r = 47
      · subst h3
        go_enter Tryz.func83, Tryz.ntmps83
        go_wp2
        go_ret
        exact ⟨by rw [← HQ.out]; rfl, rfl⟩
      · have d3 : ¬ (r : Int) = 47 := by omega
        have HH := Lib.hid (And.intro h1 (And.intro h2 h3))
        clear h1 h2 h3
        go_enter Tryz.func83, Tryz.ntmps83
        go_wp2
        go_ret
        exact ⟨by rw [← HQ.out, badR]; simp [HH.out.1, HH.out.2.1, HH.out.2.2]; exact ⟨d2, d3⟩, rfl⟩
set_option maxRecDepth 20000 in
set_option maxHeartbeats 1600000 in
theorem Name_any (s : BA) (w : World) (hE : Env w) (hs : s.size ≤ 1000000000) : Calls Tryz.prog 56 #[.string s] w fun e w' => e = .returned (.bool (nmOk s)) ∧ Below w.heap.size w w' := by
  obtain ⟨q, hq⟩ : ∃ q, nmOk s = q := ⟨_, rfl⟩
  rw [hq]
  have HQ := Lib.hid hq
  clear hq
  by_cases h0 : s = ⟨#[]⟩
  · subst h0
    go_enter Tryz.func56, Tryz.ntmps56
    go_wp2
    go_ret
    exact ⟨by rw [← HQ.out, nmOk_no (.inl rfl)]; rfl, Below.refl _ _⟩
  by_cases h1 : s = ⟨#[46]⟩
  · subst h1
    go_enter Tryz.func56, Tryz.ntmps56
    go_wp2
    go_ret
    exact ⟨by rw [← HQ.out, nmOk_no (.inr (.inl rfl))]; rfl, Below.refl _ _⟩
  by_cases h2 : s = ⟨#[46, 46]⟩
  · subst h2
    go_enter Tryz.func56, Tryz.ntmps56
    go_wp2
    go_ret
    exact ⟨by rw [← HQ.out, nmOk_no (.inr (.inr (.inl rfl)))]; rfl, Below.refl _ _⟩
  have e0 : s.toList.isEmpty = false := by
    have := str_ne h0
    rw [show (⟨#[]⟩ : BA).toList = [] from by rw [Lib.toList_data]] at this
    cases h : s.toList with
    | nil => rw [h] at this; simp at this
    | cons a b => rfl
  have e1 : (s.toList == [46]) = false := by have := str_ne h1; rwa [show (⟨#[46]⟩ : BA).toList = [46] from by rw [Lib.toList_data]] at this
  have e2 : (s.toList == [46, 46]) = false := by have := str_ne h2; rwa [show (⟨#[46, 46]⟩ : BA).toList = [46, 46] from by rw [Lib.toList_data]] at this
  by_cases h3 : s.size ≤ 100
  rotate_left
  · have h3' : 100 < s.size := by omega
    clear h0 h1 h2 h3
    go_enter Tryz.func56, Tryz.ntmps56
    go_wp2
    go_ret
    exact ⟨by rw [← HQ.out, nmOk_no (.inr (.inr (.inr (.inl (by omega)))))]; rfl, Below.refl _ _⟩
  · have h3' : ¬ 100 < s.size := by omega
    have HV := Lib.hid (Tryz.utf8_ValidString s w (by omega) hE.tabs)
    have H := Lib.hid (And.intro h0 (And.intro h1 (And.intro h2 h3)))
    clear h0 h1 h2 h3
    go_enter Tryz.func56, Tryz.ntmps56
    go_wp2_with fail
    refine HV.out.mono ?_
    rintro e w1 ⟨rfl, hb1⟩
    obtain ⟨b, hb⟩ : ∃ b, Lib.validD s.data.toList = b := ⟨_, rfl⟩
    rw [hb]
    have HB := Lib.hid hb
    have HB1 := Lib.hid hb1
    clear hb hb1
    cases b with
    | false =>
      go_wp2
      go_ret
      exact ⟨by rw [← HQ.out, nmOk_no (.inr (.inr (.inr (.inr (.inl HB.out)))))]; rfl, HB1.out⟩
    | true =>
      go_wp2_with fail
      obtain ⟨k, hk⟩ : ∃ k, w1.heap.size = k := ⟨_, rfl⟩
      have hit0 := World.iter_heap w1 s 0
      have hb0 : Below w.heap.size w (w1.iter s 0) := HB1.out.alloc (HB1.out.size) _
      have hkw : w.heap.size ≤ k := by rw [← hk]; exact HB1.out.size
      rw [hk] at hit0
      try rw [hk]
      generalize w1.iter s 0 = w2 at *
      have HKW := Lib.hid hkw
      clear hk hkw
      go_loopg [] (s.size + 1) (fun gf wx => ∃ pos : Nat, wx.heap[k]? = some (.stringIter s pos) ∧ Below w.heap.size w wx ∧ badAt s gf pos = badAt s (s.size + 1) 0 ∧ s.size < pos + gf)
      case atStart => exact ⟨0, hit0, hb0, rfl, by omega⟩
      case round =>
        obtain ⟨pos, hit, hbw, hleft, hfu⟩ := hrel
        have hwl := HKW.out
        by_cases hps : pos < s.size
        · obtain ⟨g', rfl⟩ : ∃ g', gk = g' + 1 := ⟨gk - 1, by omega⟩
          have hnx : ∀ ty, (Instr.next (.pointer (some ⟨k, 0, none⟩)) true ty).run Tryz.prog wr = _ := fun ty => Lib.run_next_any_at wr k s pos ty hit hps
          have hwd := Lib.width_pos s pos
          have hrl := Lib.rune_le s pos
          obtain ⟨R, hR⟩ : ∃ R, (Utf8.decode s pos).1 = R := ⟨_, rfl⟩
          obtain ⟨K, hK⟩ : ∃ K, (Utf8.decode s pos).2 = K := ⟨_, rfl⟩
          rw [badAt, if_pos hps, hR, hK] at hleft
          rw [hR, hK] at hnx
          rw [hK] at hwd
          rw [hR] at hrl
          have hit2 := Lib.iterAt_heap wr k s pos (pos + K) hit
          have hbw2 := Lib.below_iterAt hbw (k := k) hwl s (pos + K)
          obtain ⟨W, hWd⟩ : ∃ W, wr.iterAt k s (pos + K) = W := ⟨_, rfl⟩
          rw [hWd] at hnx hit2 hbw2
          have cS := bad_any R hrl W
          have hleft' : (badR R || badAt s g' (pos + K)) = badAt s (s.size + 1) 0 := hleft
          clear hWd hit hbw hleft hR hK
          have HX := Lib.hid (And.intro hit2 (And.intro hbw2 (And.intro hleft' (And.intro hwd hfu))))
          clear hit2 hbw2 hleft' hwd hfu hrl hwl
          cases hsp : badR R <;> rw [hsp] at cS HX
          · go_wp2_with (go_at_call 83; refine cS.mono ?_; rintro e W' ⟨rfl, rfl⟩)
            go_roundg g'
            case measure => omega
            case rel => exact ⟨pos + K, HX.out.1, HX.out.2.1, by have := HX.out.2.2.1; rwa [Bool.false_or] at this, by have := HX.out.2.2.2.1; have := HX.out.2.2.2.2; omega⟩
          · go_wp2_with (go_at_call 83; refine cS.mono ?_; rintro e W' ⟨rfl, rfl⟩)
            go_ret
            exact ⟨by rw [← HQ.out, nmOk_no (.inr (.inr (.inr (.inr (.inr (by rw [← HX.out.2.2.1]; rfl))))))]; rfl, HX.out.2.1⟩
        · have hnx : ∀ ty, (Instr.next (.pointer (some ⟨k, 0, none⟩)) true ty).run Tryz.prog wr = _ := fun ty => Lib.run_next_end_at wr k s pos ty hit hps
          have h5 : badAt s (s.size + 1) 0 = false := by
            rw [← hleft]
            cases gk with
            | zero => rfl
            | succ g => rw [badAt, if_neg hps]
          have HX := Lib.hid (And.intro h5 hbw)
          clear h5 hbw hleft hit hfu hwl
          go_wp2
          go_ret
          exact ⟨by rw [← HQ.out, nmOk_yes H.out.1 H.out.2.1 H.out.2.2.1 H.out.2.2.2 HB.out HX.out.1]; rfl, HX.out.2⟩
end Go.Proofs.YtcklcffepedklaaGreatDoor
