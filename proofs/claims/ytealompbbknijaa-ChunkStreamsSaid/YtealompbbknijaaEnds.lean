/- chunk: the reference's Ends, All, Same; few. -/
import Derived.Test.YtealompbbknijaaClose
namespace Go.Proofs.Ytealompbbknijaa
open Go.RowKit

/-- The blocks in which a slice at A lies. -/
def At (A : Option Addr) (k : Nat) : Prop := ∃ a, A = some a ∧ a.block = k

/-- What holds at each round of Ends. -/
structure ERel (W0 : World) (c : Ct) (A0 : Option Addr) (l0 : List Int) (L : List (List Int)) (l : List Int) (A : Option Addr) (cap : Nat) (v : Value) (w' : World) : Prop where
  ends : endsR c l0 = (L ++ (endsR c l).1, (endsR c l).2)
  ints : Ints .u8 w' A l
  byt : Bytes l
  lec : l.length ≤ cap
  blk : ∀ ad, A = some ad → At A0 ad.block
  nil : A = none → l.length = 0 ∧ cap = 0
  rows : NewRows (At A0) W0.heap.size L w' v
  bel : Below W0.heap.size W0 w'
  num : L.length + l.length ≤ 2000000000
  lt : ∀ k, At A0 k → 0 < l0.length → k < W0.heap.size
  len : l.length ≤ l0.length ∧ (0 < L.length → 0 < l0.length)

/-- What Ends tells. -/
def Ended (w : World) (c : Ct) (A0 : Option Addr) (l0 : List Int) (e : Ending) (w' : World) : Prop :=
  ∃ v A cap, e = .returned (.tuple #[v, .slice A (endsR c l0).2.length cap]) ∧ Below w.heap.size w w' ∧ NewRows (At A0) w.heap.size (endsR c l0).1 w' v ∧
    Ints .u8 w' A (endsR c l0).2 ∧ Bytes (endsR c l0).2 ∧ (endsR c l0).2.length ≤ cap ∧ (∀ ad, A = some ad → At A0 ad.block) ∧ (A = none → (endsR c l0).2.length = 0 ∧ cap = 0)

theorem ERel.step {W0 : World} {c : Ct} {A0 : Option Addr} {l0 : List Int} {L : List (List Int)} {l : List Int} {ad : Addr} {cap : Nat} {v : Value} {w' : World} (ok : c.Ok) (R : ERel W0 c A0 l0 L l (some ad) cap v w') (k : Nat) (hk : cutR c l = k) (hk0 : k ≠ 0)
    {v7 : Value} {w7 : World} {vals : List Value} (hv : RowsV (At A0) w' vals L) (hown7 : w7.ownsRow W0.heap.size 25 1 v7 (L.length + 1) (vals ++ [.slice (some ad) k cap])) (hlt : ∀ k, v.ownBlock = some k → W0.heap.size ≤ k ∧ k < w'.heap.size)
    (hgrow7 : (w'.alloc (.cells #[.slice (some ad) k cap] 25)).grownBy w7 v.ownBlock) (A' : Option Addr) (cap' : Nat) (hA' : cap = k ∧ A' = some ad ∧ cap' = 0 ∨ cap ≠ k ∧ A' = some (ad.add k) ∧ cap' = cap - k) :
    ERel W0 c A0 l0 (L ++ [l.take k]) (l.drop k) A' cap' v7 w7 := by
  have hbd := cutR_bounds c ok l (by rw [hk]; exact hk0)
  rw [hk] at hbd
  have hlo := ok.lo
  have hcap := R.lec
  have hlen := R.len
  have hsz := R.bel.size
  have hs7 := hgrow7.size
  rw [World.size_alloc] at hs7
  have hlk : (l.take k).length = k := by rw [List.length_take]; omega
  have hblk := R.blk ad rfl
  have hG6 : w'.grownBy (w'.alloc (.cells #[.slice (some ad) k cap] 25)) none := grown_alloc _ _ _
  have keep : ∀ {A : Option Addr} {m : List Int}, Ints .u8 w' A m → (∀ ad, A = some ad → At A0 ad.block) → Ints .u8 w7 A m := by
    intro A m hI hA
    refine (hI.grown hG6 (fun _ _ _ h => by cases h)).grown hgrow7 (fun ad e h0 h => ?_)
    have h1 := hlt _ h.symm
    have h2 := R.lt _ (hA ad e) (by omega)
    omega
  refine ⟨?_, ?_, R.byt.drop k, ?_, ?_, ?_, ?_, ?_, ?_, R.lt, ?_⟩
  · rw [R.ends, endsR_cut c ok l (by rw [hk]; exact hk0), hk]
    simp
  · rcases hA' with ⟨h1, rfl, _⟩ | ⟨h1, rfl, _⟩
    · rw [List.drop_of_length_le (by omega)]; exact Ints.nil _ _ _
    · exact Ints.drop (keep R.ints R.blk) k
  · rw [List.length_drop]
    rcases hA' with ⟨h1, _, rfl⟩ | ⟨h1, _, rfl⟩ <;> omega
  · intro a e
    rcases hA' with ⟨h1, rfl, _⟩ | ⟨h1, rfl, _⟩
    · cases e; exact hblk
    · cases e; rw [add_block]; exact hblk
  · intro e
    rcases hA' with ⟨h1, rfl, _⟩ | ⟨h1, rfl, _⟩ <;> cases e
  · refine ⟨vals ++ [.slice (some ad) k cap], by rw [List.length_append]; exact hown7, RowsV.append ?_ ?_⟩
    · refine ⟨hv.1, fun i m hm => ?_⟩
      obtain ⟨A, cc, a1, a2, a3, a4, a5⟩ := hv.2 i m hm
      exact ⟨A, cc, a1, a2, keep a3 a5, a4, a5⟩
    · have := RowsV.one (At A0) w7 (some ad) cap (l.take k) (by omega) ((keep R.ints R.blk).take k) (R.byt.take k) R.blk
      rw [hlk] at this
      exact this
  · exact (R.bel.alloc hsz _).grown hgrow7 (by simp; omega) (fun k hk => (hlt k hk).1)
  · rw [List.length_append, List.length_drop]
    have := R.num
    simp; omega
  · rw [List.length_drop]; omega

theorem ERel.below {W0 : World} {c : Ct} {A0 : Option Addr} {l0 : List Int} {L : List (List Int)} {l : List Int} {A : Option Addr} {cap : Nat} {v : Value} {w' w2 : World} (R : ERel W0 c A0 l0 L l A cap v w') (hb : Below w'.heap.size w' w2) : ERel W0 c A0 l0 L l A cap v w2 := by
  obtain ⟨vals, ho, hv⟩ := R.rows
  exact ⟨R.ends, R.ints.below hb, R.byt, R.lec, R.blk, R.nil, ⟨vals, own_kept ho (below_grown hb none), hv.kept (below_grown hb none) (fun k _ h => by cases h)⟩, R.bel.trans (hb.mono R.bel.size), R.num, R.lt, R.len⟩

set_option maxRecDepth 20000 in
set_option maxHeartbeats 800000 in
theorem Ends_any (c : Ct) (ok : c.Ok) (l0 : List Int) (A0 : Option Addr) (n cap : Nat) (w : World) (hn : l0.length = n) (hnc : n ≤ cap) (hI : Ints .u8 w A0 l0) (hB : Bytes l0) (hA : A0 = none → n = 0 ∧ cap = 0) (hl : n ≤ 1000000000) :
    Calls Try.prog 20 #[.agg (cutC c.mn c.mx c.main c.back), .slice A0 n cap] w (Ended w c A0 l0) := by
  have HG := Lib.hid ((Below.refl w.heap.size w).alloc (Nat.le_refl _) (.cells (cutC c.mn c.mx c.main c.back) 24))
  have hrow := heap_alloc_last w (.cells (cutC c.mn c.mx c.main c.back) 24)
  have hIW := hI.grown (grown_alloc w (.cells (cutC c.mn c.mx c.main c.back) 24) none) (fun _ _ _ h => by cases h)
  have hlt := hI.blk
  have hREL : ERel (w.alloc (.cells (cutC c.mn c.mx c.main c.back) 24)) c A0 l0 [] l0 A0 cap (.slice none 0 0) (w.alloc (.cells (cutC c.mn c.mx c.main c.back) 24)) :=
    ⟨by simp, hIW, hB, by omega, (fun ad e => ⟨ad, e, rfl⟩), (by rw [hn]; exact hA), ⟨[], World.ownsRow_nil _ _ _ _, RowsV.nil _ _⟩, Below.refl _ _, by simp; omega, (fun k ⟨a, e, hk⟩ h0 => by have := hlt a e h0; simp; omega), ⟨Nat.le_refl _, fun h => absurd h (by simp)⟩⟩
  have HCELL := Lib.hid (show ∀ w', Below (w.alloc (.cells (cutC c.mn c.mx c.main c.back) 24)).heap.size (w.alloc (.cells (cutC c.mn c.mx c.main c.back) 24)) w' →
      w'.cell? ⟨w.heap.size, 0, none⟩ = some (.int .i64 c.mn) ∧ w'.cell? ⟨w.heap.size, 1, none⟩ = some (.int .i64 c.mx) ∧ w'.cell? ⟨w.heap.size, 2, none⟩ = some (.int .u32 c.main) ∧ w'.cell? ⟨w.heap.size, 3, none⟩ = some (.int .u32 c.back) from fun w' hb => by
    have hr := (hb.block w.heap.size (by simp)).trans hrow
    refine ⟨?_, ?_, ?_, ?_⟩ <;> rw [cell_of_row _ _ _ _ _ _ hr] <;> rfl)
  have hsz : w.heap.size ≤ (w.alloc (.cells (cutC c.mn c.mx c.main c.back) 24)).heap.size := by simp
  have HREL := Lib.hid hREL
  have HOK := Lib.hid ok
  have HN := Lib.hid hn
  obtain ⟨d0, d1, d2, d3⟩ := HCELL.out _ (Below.refl _ _)
  have HCU := Lib.hid (rCut_yes c ok l0 n cap A0 (w.alloc (.cells (cutC c.mn c.mx c.main c.back) 24)) hn (by omega) hnc hIW hB)
  unfold cutC at HG HREL HCELL HCU hsz d0 d1 d2 d3 ⊢
  clear hrow hI hB hn hA ok hIW hREL hlt
  go_enter Try.func20, Try.ntmps20
  go_wp2_with fail
  generalize hW0 : w.alloc (.cells #[Value.int .i64 c.mn, .int .i64 c.mx, .int .u32 c.main, .int .u32 c.back] 24) = W0 at *
  clear hW0
  refine HCU.out.mono ?_
  rintro e w2 ⟨rfl, hb2⟩
  have HB2 := Lib.hid hb2
  clear hb2
  go_wp2_with fail
  go_loopg [1, 6, 7] l0.length (fun kq v1 v6 v7 w' => ∃ (L : List (List Int)) (l : List Int) (A : Option Addr) (cap : Nat), v1 = .slice A l.length cap ∧ v7 = .int .i64 (cutR c l) ∧ kq = l.length ∧ ERel W0 c A0 l0 L l A cap v6 w')
  case atStart => exact ⟨[], l0, A0, cap, by rw [HN.out], rfl, rfl, HREL.out.below HB2.out⟩
  case round =>
    obtain ⟨L, l, A, cap2, rfl, rfl, hk, R⟩ := hrel
    have HR := Lib.hid R
    obtain ⟨n2, hn2⟩ : ∃ z, l.length = z := ⟨_, rfl⟩
    have HN2 := Lib.hid hn2
    have hnum := R.num
    have hcp := R.lec
    rw [hn2] at hk hnum hcp
    rw [HN2.out]
    clear R hn2
    subst hk
    by_cases hc0 : cutR c l = 0
    · have HZ := Lib.hid (endsR_zero c l hc0)
      rw [hc0]
      clear hc0
      go_wp2_with fail
      go_ret2
      have R := HR.out
      have hends := R.ends
      rw [HZ.out, List.append_nil] at hends
      obtain ⟨vals, ho, hv⟩ := R.rows
      unfold Ended
      rw [hends]
      exact ⟨_, A, cap2, by rw [HN2.out]; rfl, HG.out.trans (R.bel.mono hsz), ⟨vals, own_base ho hsz, hv⟩, R.ints, R.byt, R.lec, R.blk, R.nil⟩
    · obtain ⟨k, hkc⟩ : ∃ k, cutR c l = k := ⟨_, rfl⟩
      have hbd := cutR_bounds c HOK.out l hc0
      rw [hkc] at hbd hc0
      rw [HN2.out] at hbd
      have HKK := Lib.hid hkc
      rw [hkc]
      have hlo := HOK.out.lo
      have hhi := HOK.out.hi
      obtain ⟨ad, e, _⟩ := HR.out.ints 0 (by rw [HN2.out]; omega)
      subst e
      obtain ⟨vals, ho, hv⟩ := HR.out.rows
      have HV := Lib.hid hv
      have HOL := Lib.hid ho.lt
      have ho6 := ho.alloc (.cells #[.slice (some ad) k cap2] 25)
      have HO6 := Lib.hid ho6
      have hsz2 := HR.out.bel.size
      clear hkc ho hv ho6
      go_wp2_with (at_builtin; refine wpList_app E28 rfl _ _ rfl W0.heap.size _ L.length vals rfl HO6.out (some ⟨wr.heap.size, 0, none⟩) 1 1 [.slice (some ad) k cap2] rfl (fun h => by cases h) rfl ?c1 ?c2 ?c3 ?c4 ?c5 ?_)
      case c1 => intro j u hj; exact ⟨_, rfl, one_new _ _ _ j u hj⟩
      case c2 => intro u hu; simp at hu; subst hu; rfl
      case c3 => unfold maxLen; omega
      case c4 => omega
      case c5 => simp; omega
      intro v7 w7 hown7 hgrow7 hat7
      have hk1 : (k : Int) ≤ (gk : Int) := by omega
      by_cases hck2 : cap2 = k
      · have R7 := HR.out.step HOK.out k HKK.out hc0 HV.out hown7 HOL.out hgrow7 (some ad) 0 (Or.inl ⟨hck2, rfl, rfl⟩)
        have HR7 := Lib.hid R7
        obtain ⟨e0, e1, e2, e3⟩ := HCELL.out _ R7.bel
        have hdl : (l.drop k).length = gk - k := by rw [List.length_drop, HN2.out]
        have HDL := Lib.hid hdl
        have HCU2 := Lib.hid (rCut_yes c HOK.out (l.drop k) (gk - k) 0 (some ad) w7 hdl (by omega) (by rw [← hdl]; exact R7.lec) R7.ints R7.byt)
        unfold cutC at HCU2
        clear hown7 hgrow7 hat7 R7 hdl
        go_wp2_with fail
        refine HCU2.out.mono ?_
        rintro e w8 ⟨rfl, hb8⟩
        have HB8 := Lib.hid hb8
        clear hb8
        go_wp2_with fail
        go_roundg (gk - k)
        case measure => omega
        case rel => exact ⟨L ++ [l.take k], l.drop k, some ad, 0, by rw [HDL.out], rfl, HDL.out.symm, HR7.out.below HB8.out⟩
      · have R7 := HR.out.step HOK.out k HKK.out hc0 HV.out hown7 HOL.out hgrow7 (some (ad.add k)) (cap2 - k) (Or.inr ⟨hck2, rfl, rfl⟩)
        have HR7 := Lib.hid R7
        obtain ⟨e0, e1, e2, e3⟩ := HCELL.out _ R7.bel
        have hdl : (l.drop k).length = gk - k := by rw [List.length_drop, HN2.out]
        have HDL := Lib.hid hdl
        have HCU2 := Lib.hid (rCut_yes c HOK.out (l.drop k) (gk - k) (cap2 - k) (some (ad.add k)) w7 hdl (by omega) (by rw [← hdl]; exact R7.lec) R7.ints R7.byt)
        unfold cutC at HCU2
        clear hown7 hgrow7 hat7 R7 hdl
        go_wp2_with fail
        refine HCU2.out.mono ?_
        rintro e w8 ⟨rfl, hb8⟩
        have HB8 := Lib.hid hb8
        clear hb8
        go_wp2_with fail
        go_roundg (gk - k)
        case measure => omega
        case rel => exact ⟨L ++ [l.take k], l.drop k, some (ad.add k), cap2 - k, by rw [HDL.out], rfl, HDL.out.symm, HR7.out.below HB8.out⟩

end Go.Proofs.Ytealompbbknijaa
