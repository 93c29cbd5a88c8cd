/- Texts of the proof, one behind the other: The top: few. The top: change. The top: what a disk's and a home's calls do to what is kept. The top: kept. The top: the row of steps that is played, and what a round keeps. -/
import Derived.Test.YtcklcffepedklaaGreatDoorM29
import Derived.Test.YtcklcffepedklaaGreatDoorM31
import Derived.BigQuiet
namespace Go.Proofs.YtcklcffepedklaaGreatDoor
open Go.RowKit Go.Maps

/-- Steps that are played: no text is longer than 5,000 bytes, and there are at most 20 extents. -/
structure Few (s : Stp) : Prop where
  p : s.p.size ≤ 5000
  t : s.t.size ≤ 5000
  l : s.ln ≤ 20
theorem take_succ_few {l : List Stp} {k : Nat} {s : Stp} (hs : l[k]? = some s) (h : ∀ x ∈ l.take k, Few x) (hf : Few s) : ∀ x ∈ l.take (k + 1), Few x := by
  intro x hx
  rw [List.take_add_one, hs] at hx
  rcases List.mem_append.1 hx with hx | hx
  · exact h x hx
  · have : x = s := by simpa using hx
    rw [this]; exact hf
set_option maxRecDepth 20000 in
set_option maxHeartbeats 1600000 in
theorem few_any (A : Option Addr) (n c : Nat) (l : List Stp) (w : World) (hn : l.length = n) (hc : n ≤ c) (hc2 : c ≤ 9223372036854775807) (hA : Stps w A l) (hA0 : A = none → n = 0 ∧ c = 0) :
    Calls Tryz.prog 9 #[.slice A n c] w fun e w' => ∃ m, e = .returned (.slice A m c) ∧ m ≤ n ∧ m ≤ 40 ∧ (∀ s ∈ l.take m, Few s) ∧ ∃ q, w' = w.drewN q := by
  have HN := Lib.hid hn
  have HA := Lib.hid hA
  have HA0 := Lib.hid hA0
  clear hn hA hA0
  go_enter Tryz.func9, Tryz.ntmps9
  go_upto_region 3 with (fail)
  go_loopg [3, 7] n (fun kq v3 v7 w' => ∃ k left : Nat, v3 = .int .i64 (left : Int) ∧ v7 = .int .i64 (k : Int) ∧ k + kq = n ∧ k ≤ 40 ∧ left ≤ 5000 ∧ (∃ q, w' = w.drewN q) ∧ Hid (∀ s ∈ l.take k, Few s))
  case atStart => exact ⟨0, 5000, rfl, rfl, by omega, by omega, by omega, ⟨0, rfl⟩, Lib.hid (by simp)⟩
  case round =>
    obtain ⟨k, left, rfl, rfl, hk, hk40, hl5, ⟨q0, rfl⟩, HF⟩ := hrel
    by_cases hlt : k < n
    · have hil : k < l.length := by have := HN.out; omega
      obtain ⟨s, hs⟩ : ∃ s, l[k]? = some s := ⟨_, List.getElem?_eq_getElem hil⟩
      obtain ⟨hok, b, o, rfl, hb, hr⟩ := HA.out k s hs
      have HS := Lib.hid hs
      obtain ⟨kd, p, t, la, ln, lc, sn, fa, fn, fc⟩ := s
      have c1 : w.cell? ⟨b, o + k * 6 + 1, none⟩ = some (.string p) := hr 1 _ rfl
      have c2 : w.cell? ⟨b, o + k * 6 + 2, none⟩ = some (.string t) := hr 2 _ rfl
      have c3 : w.cell? ⟨b, o + k * 6 + 3, none⟩ = some (.slice la ln lc) := hr 3 _ rfl
      have i0 : (0 : Int) ≤ (k : Int) := by omega
      have i1 : (k : Int) < (n : Int) := by omega
      have i2 : (k : Int) ≤ (c : Int) := by omega
      have HP := Lib.hid (And.intro hok.p (And.intro hok.t hok.l))
      clear hok hr hs hil hb
      have HK := Lib.hid (And.intro hk (And.intro hk40 (And.intro hl5 (And.intro hc hlt))))
      by_cases q1 : 40 ≤ k
      · have d1 : decide ((40 : Int) ≤ (k : Int)) = true := decide_eq_true (by omega)
        clear hk hk40 hl5 hlt hc q1
        go_upto_region 5 with (fail)
        go_quiet (fail)
        go_wp2_with fail
        go_ret
        exact ⟨k, rfl, by have := HK.out; omega, HK.out.2.1, HF.out, _, rfl⟩
      by_cases q2 : left < p.size
      · have d1 : decide ((40 : Int) ≤ (k : Int)) = false := decide_eq_false (by omega)
        have d2 : decide (left < p.size) = true := decide_eq_true q2
        clear hk hk40 hl5 hlt hc q1 q2
        go_upto_region 5 with (fail)
        go_quiet (fail)
        go_wp2_with fail
        go_ret
        exact ⟨k, rfl, by have := HK.out; omega, HK.out.2.1, HF.out, _, rfl⟩
      obtain ⟨r, hr⟩ : ∃ r, left - p.size = r := ⟨_, rfl⟩
      have u1 : IntKind.i64.wrap ((left : Int) - (p.size : Int)) = (r : Int) := by rw [IntKind.wrap_i64]; omega
      by_cases q3 : r < t.size
      · have d1 : decide ((40 : Int) ≤ (k : Int)) = false := decide_eq_false (by omega)
        have d2 : decide (left < p.size) = false := decide_eq_false q2
        have d3 : decide (r < t.size) = true := decide_eq_true q3
        clear hk hk40 hl5 hlt hc q1 q2 q3 hr
        go_upto_region 5 with (fail)
        go_quiet (fail)
        go_wp2_with fail
        go_ret
        exact ⟨k, rfl, by have := HK.out; omega, HK.out.2.1, HF.out, _, rfl⟩
      by_cases q4 : 20 < ln
      · have d1 : decide ((40 : Int) ≤ (k : Int)) = false := decide_eq_false (by omega)
        have d2 : decide (left < p.size) = false := decide_eq_false q2
        have d3 : decide (r < t.size) = false := decide_eq_false q3
        have d4 : decide ((20 : Int) < (ln : Int)) = true := decide_eq_true (by omega)
        clear hk hk40 hl5 hlt hc q1 q2 q3 q4 hr
        go_upto_region 5 with (fail)
        go_quiet (fail)
        go_wp2_with fail
        go_ret
        exact ⟨k, rfl, by have := HK.out; omega, HK.out.2.1, HF.out, _, rfl⟩
      have d1 : decide ((40 : Int) ≤ (k : Int)) = false := decide_eq_false (by omega)
      have d2 : decide (left < p.size) = false := decide_eq_false q2
      have d3 : decide (r < t.size) = false := decide_eq_false q3
      have d4 : decide ((20 : Int) < (ln : Int)) = false := decide_eq_false (by omega)
      obtain ⟨k2, hk2⟩ : ∃ k2, k + 1 = k2 := ⟨_, rfl⟩
      have u4 : IntKind.i64.wrap ((k : Int) + 1) = (k2 : Int) := by rw [IntKind.wrap_i64]; omega
      obtain ⟨z, hz⟩ : ∃ z, p.size + t.size = z := ⟨_, rfl⟩
      obtain ⟨y, hy⟩ : ∃ y, left - z = y := ⟨_, rfl⟩
      have u2 : IntKind.i64.wrap ((p.size : Int) + (t.size : Int)) = (z : Int) := by rw [IntKind.wrap_i64]; omega
      have u3 : IntKind.i64.wrap ((left : Int) - (z : Int)) = (y : Int) := by rw [IntKind.wrap_i64]; omega
      have HQ := Lib.hid (And.intro q1 (And.intro q2 (And.intro q3 (And.intro q4 (And.intro hr (And.intro hz (And.intro hy hk2)))))))
      clear hk hk40 hl5 hlt hc q1 q2 q3 q4 hr hz hy hk2
      go_upto_region 5 with (fail)
      go_quiet (fail)
      go_upto_region 7 with (fail)
      go_quiet (fail)
      go_wp2_with fail
      have hK := HK.out
      have hQ := HQ.out
      go_roundg (n - k2)
      case measure => omega
      case rel => exact ⟨k2, y, rfl, rfl, by omega, by omega, by omega, ⟨_, rfl⟩, Lib.hid (hQ.2.2.2.2.2.2.2 ▸ take_succ_few HS.out HF.out ⟨by show p.size ≤ 5000; omega, by show t.size ≤ 5000; omega, by show ln ≤ 20; omega⟩)⟩
    · obtain rfl : k = n := by omega
      have HK := Lib.hid (And.intro hk40 hc)
      clear hk hk40 hl5 hlt hc
      go_wp2_with fail
      go_ret
      exact ⟨k, rfl, Nat.le_refl _, HK.out.1, HF.out, _, rfl⟩
end Go.Proofs.YtcklcffepedklaaGreatDoor

namespace Go.Proofs.YtcklcffepedklaaGreatDoor
open Go.RowKit Go.Maps

section
variable {B each S : Nat} {w : World} {gd gh gn gm : Nat} {d : Ds} {N : List PR} {Q : List (BA × List PR)}
/-- What change leaves. -/
def ChP (B each S gd gh gn gm : Nat) (d : Ds) (w : World) (b : Bool) (e : Ending) (w' : World) : Prop :=
  e = .returned (.bool b) ∧ Chg (fun k => k = gn ∨ k = gm) w w' ∧ ∃ N' Q', TSt B each S w' gd gh gn gm d N' Q'
theorem ChP.of_n {b : Bool} {w1 w' : World} {N' : List PR} (h : TSt B each S w gd gh gn gm d N Q) (hb : Below w.heap.size w w1) (hn : Nm w' gn gm N') (hv : Val FBx N') (hl : N'.length ≤ 4096) (hc : Chg (fun k => k = gn) w1 w') : ChP B each S gd gh gn gm d w b (.returned (.bool b)) w' := by
  have hc1 : Chg (fun k => k = gn ∨ k = gm) w1 w' := hc.mono fun _ h => .inl h
  have hc2 : Chg (fun k => k = gn ∨ k = gm) w w' := (Chg.belowAt hb).trans hc1
  have h1 := h.below hb
  obtain ⟨cs, hr⟩ := h1.nm.row
  obtain ⟨es, c, hr2⟩ := h1.sn.row
  refine ⟨rfl, hc2, N', Q, h.names hc2 hn (h1.sn.chg hc (fun e => ?_) (fun g cs' e e2 => ?_)) hv hl h.snv⟩
  · rw [e, hr] at hr2; cases hr2
  · rw [e, hr] at e2
    injection e2 with e2
    injection e2 with _ e2 _
    exact absurd e2 (by decide)
theorem ChP.of_m {b : Bool} {w1 w' : World} {Q' : List (BA × List PR)} (h : TSt B each S w gd gh gn gm d N Q) (hb : Below w.heap.size w w1) (hn : Nm w' gn gm N) (hq : Sn w' gm Q') (hv : SnV Q') (hc : Chg (fun k => k = gm) w1 w') : ChP B each S gd gh gn gm d w b (.returned (.bool b)) w' := by
  have hc1 : Chg (fun k => k = gn ∨ k = gm) w1 w' := hc.mono fun _ h => .inr h
  have hc2 : Chg (fun k => k = gn ∨ k = gm) w w' := (Chg.belowAt hb).trans hc1
  exact ⟨rfl, hc2, N, Q', h.names hc2 hn hq h.val h.len hv⟩
theorem ChP.of_no {b : Bool} {w' : World} (h : TSt B each S w gd gh gn gm d N Q) (hb : Below w.heap.size w w') : ChP B each S gd gh gn gm d w b (.returned (.bool b)) w' :=
  ⟨rfl, Chg.belowAt hb, N, Q, h.below hb⟩
set_option maxRecDepth 20000 in
set_option maxHeartbeats 1600000 in
theorem change_any (h : TSt B each S w gd gh gn gm d N Q) (s : Stp) (hs : StOk w s) (hf : Few s) :
    Calls Tryz.prog 10 #[.pointer (some ⟨gn, 0, none⟩), .agg (stC s).toArray] w (ChP B each S gd gh gn gm d w (decide (s.kind % 8 < 5))) := by
  obtain ⟨kd, p, t, la, ln, lc, sn, fa, fn, fc⟩ := s
  obtain ⟨xl, hxl, hxa⟩ := hs.x
  have hp : p.size ≤ 5000 := hf.p
  have ht : t.size ≤ 5000 := hf.t
  have hln : ln ≤ 20 := hf.l
  have hkd : kd < 256 := hs.k
  have hxl' : xl.length = ln := hxl
  have hgn : 2 < gn := Nat.lt_of_lt_of_le h.base h.bn
  have HST := Lib.hid h
  have HMK := Lib.hid (fun W (hb : Below w.heap.size w W) => Mkdir_any FBx_ok h.val h.len (h.nm.below hb) p (h.env.below hb) hgn (by omega))
  have HPU := Lib.hid (fun W (hb : Below w.heap.size w W) => NPut_any h.val h.len (h.nm.below hb) p (h.env.below hb) (by omega) la ln lc xl hxl' (by omega) (hxa.below hb))
  have HRM := Lib.hid (fun W (hb : Below w.heap.size w W) => Remove_any FBx_ok h.val h.len (h.nm.below hb) p (h.env.below hb) (by omega))
  have HRN := Lib.hid (fun W (hb : Below w.heap.size w W) => Rename_any FBx_ok h.val h.len (h.nm.below hb) p t (h.env.below hb) (by omega) (by omega))
  have HSN := Lib.hid (fun W (hb : Below w.heap.size w W) => Snap_any (h.nm.below hb) (h.sn.below hb) t (h.env.below hb) (by omega))
  have HB := Lib.hid ((Below.refl w.heap.size w).alloc (Nat.le_refl _) (.cells #[.int .u8 (kd : Int), .string p, .string t, .slice la ln lc, .int .i64 sn, .slice fa fn fc] 39))
  obtain ⟨r, hr⟩ : ∃ r, kd % 8 = r := ⟨_, rfl⟩
  have u1 : Int.tmod (kd : Int) 8 = (r : Int) := by rw [Int.tmod_eq_emod_of_nonneg (by omega)]; omega
  have hr8 : r < 8 := by omega
  show Calls Tryz.prog 10 #[.pointer (some ⟨gn, 0, none⟩), .agg #[.int .u8 (kd : Int), .string p, .string t, .slice la ln lc, .int .i64 sn, .slice fa fn fc]] w (ChP B each S gd gh gn gm d w (decide (kd % 8 < 5)))
  rw [hr]
  clear h hs hf hxl hxl' hxa hp ht hln hkd hgn hr
  by_cases r0 : r = 0
  · subst r0
    go_enter Tryz.func10, Tryz.ntmps10
    go_wp2_with fail
    refine (HMK.out _ HB.out).mono ?_
    rintro e w2 ⟨rfl, hn, hc⟩
    have hv := mk_val HST.out.val HST.out.len p
    have HP := Lib.hid (ChP.of_n (b := true) HST.out HB.out hn hv.1 hv.2 hc)
    clear hn hc hv
    go_wp2_with fail
    go_ret
    exact HP.out
  by_cases r1 : r = 1
  · subst r1
    go_enter Tryz.func10, Tryz.ntmps10
    go_wp2_with fail
    refine (HPU.out _ HB.out).mono ?_
    rintro e w2 ⟨rfl, hn, hc⟩
    have hv := pu_val HST.out.val HST.out.len p xl
    have HP := Lib.hid (ChP.of_n (b := true) HST.out HB.out hn hv.1 hv.2 hc)
    clear hn hc hv
    go_wp2_with fail
    go_ret
    exact HP.out
  by_cases r2 : r = 2
  · subst r2
    go_enter Tryz.func10, Tryz.ntmps10
    go_wp2_with fail
    refine (HRM.out _ HB.out).mono ?_
    rintro e w2 ⟨c, N', rfl, hn, hv, hl, hc⟩
    have HP := Lib.hid (ChP.of_n (b := true) HST.out HB.out hn hv hl hc)
    clear hn hc hv hl
    go_wp2_with fail
    go_ret
    exact HP.out
  by_cases r3 : r = 3
  · subst r3
    go_enter Tryz.func10, Tryz.ntmps10
    go_wp2_with fail
    refine (HRN.out _ HB.out).mono ?_
    rintro e w2 ⟨c, N', rfl, hn, hv, hl, hc⟩
    have HP := Lib.hid (ChP.of_n (b := true) HST.out HB.out hn hv hl hc)
    clear hn hc hv hl
    go_wp2_with fail
    go_ret
    exact HP.out
  by_cases r4 : r = 4
  · subst r4
    go_enter Tryz.func10, Tryz.ntmps10
    go_wp2_with fail
    refine (HSN.out _ HB.out).mono ?_
    rintro e w2 ⟨rfl, hn, hq, hc⟩
    have HP := Lib.hid (ChP.of_m (b := true) HST.out HB.out hn hq (sn_val HST.out.val HST.out.len HST.out.snv t) hc)
    clear hn hc hq
    go_wp2_with fail
    go_ret
    exact HP.out
  · have d5 : decide (r < 5) = false := decide_eq_false (by omega)
    rw [d5]
    have HP := Lib.hid (ChP.of_no (b := false) HST.out HB.out)
    go_enter Tryz.func10, Tryz.ntmps10
    go_wp2_with fail
    go_ret
    exact HP.out
end
end Go.Proofs.YtcklcffepedklaaGreatDoor

namespace Go.Proofs.YtcklcffepedklaaGreatDoor
open Go.RowKit Go.Maps

/-- With the power on for good, a write and a Save are OK. -/
theorem hwrite_on : ∀ (f : Nat) (d : Ds) (p : Nat) (b : List Int), d.dead = false → d.fuse = -1 → (hwrite f d p b).2 = 0 ∧ (hwrite f d p b).1.dead = false ∧ (hwrite f d p b).1.fuse = -1 := by
  have pe : ∀ d : Ds, d.dead = false → d.fuse = -1 → pwE d = 0 ∧ (pwD d).dead = false ∧ (pwD d).fuse = -1 := fun d h1 h2 => by
    unfold pwE pwD; simp [h1, h2]
  have fl : ∀ d : Ds, d.dead = false → d.fuse = -1 → (flD d).dead = false ∧ (flD d).fuse = -1 := fun d h1 h2 => by
    obtain ⟨e1, e2, e3⟩ := pe d h1 h2
    rw [flD, if_pos e1]; exact ⟨e2, e3⟩
  intro f
  induction f with
  | zero => intro d p b h1 h2; exact ⟨(pe d h1 h2).1, fl d h1 h2⟩
  | succ f ih =>
    intro d p b h1 h2
    obtain ⟨e1, e2, e3⟩ := pe d h1 h2
    by_cases hb : b = []
    · rw [hwrite, if_pos hb]; exact ⟨e1, fl d h1 h2⟩
    · rw [hwrite, if_neg hb, if_pos e1]
      have hw : wrD d p (b.take 128) = { pwD d with now := secS d.now p (b.take 128), ws := d.ws ++ [(p, b.take 128)] } := by rw [wrD, if_pos e1]
      exact ih _ _ _ (by rw [hw]; exact e2) (by rw [hw]; exact e3)
theorem save_on {each : Nat} {d : Ds} {x : Slt × Nat} {b : List Int} (h1 : d.dead = false) (h2 : d.fuse = -1) : (saveD each d x b).2 = 0 := by
  obtain ⟨e1, e2, e3⟩ := hwrite_on each d (2 + (nextS x b).area * each) b h1 h2
  unfold saveD
  rw [if_pos e1]
  exact (hwrite_on 1 _ _ _ e2 e3).1
section
variable {B each S G : Nat} {w : World} {gd gh gn gm : Nat} {d : Ds} {N : List PR} {Q : List (BA × List PR)} {a c : Option (List Int)}
theorem TSt.start {w0 w1 w2 w3 : World} (hE : Env w0) (hB : B ≤ w0.heap.size) (h2B : 2 < B) (hd : Dk w1 gd S (newD S) (fun k => w0.heap.size ≤ k)) (hb1 : Below w0.heap.size w0 w1) (hh : Hm w2 gh gd each) (hgh : w1.heap.size ≤ gh) (hb2 : Below w1.heap.size w1 w2)
    (hn : Nm w3 gn gm []) (hq : Sn w3 gm []) (h1 : w2.heap.size ≤ gn) (h2 : w2.heap.size ≤ gm) (hb3 : Below w2.heap.size w2 w3) : TSt B each S w3 gd gh gn gm (newD S) [] [] ∧ Below w0.heap.size w0 w3 := by
  have s1 := hb1.size
  have s2 := hb2.size
  have s3 := hb3.size
  have b2 : Below w0.heap.size w0 w2 := hb1.trans (hb2.mono s1)
  have b3 : Below w0.heap.size w0 w3 := b2.trans (hb3.mono (by omega))
  have d3 := (hd.below hb2).below hb3
  exact ⟨⟨hE.below b3, d3.typed (fun k hk => Nat.le_trans hB hk), hh.below hb3, hn, hq, h2B, by omega, by omega, by omega, Val.nil _, by simp, SnV.nil⟩, b3⟩
/-- Save. -/
theorem save_t (h : TSt B each S w gd gh gn gm d N Q) (hk : Kept each G d a c) (hd : d.dead = false) (he : each ≤ 8000) (hS : 2 + 2 * each ≤ S) (hG : G + 1 < 256) (hBw : B ≤ w.heap.size) (A : Option Addr) (n cc : Nat) (b : List Int) (hv : OwnB w B (.slice A n cc) b) (hn : b.length = n) (hBy : Bytes b) (hl : b.length ≤ 128 * each) :
    Calls Tryz.prog 14 #[.pointer (some ⟨gh, 0, none⟩), .slice A n cc] w fun e w' => ∃ r d', e = .returned (.int .i64 r) ∧ ((r = 0 ∧ d'.dead = false ∧ Kept each (G + 1) d' (some b) (some b)) ∨ (r = 6 ∧ Kept each (G + 1) d' a (some b))) ∧ (d.fuse = -1 → r = 0) ∧
      TSt B each S w' gd gh gn gm d' N Q ∧ Chg (Fd B w) w w' := by
  obtain ⟨h1, h2, x, h3, h4, h5⟩ := hk.alive hd
  have hx : twoS d.now = x := by rw [h2]; exact h3.two
  obtain ⟨A', c', e, hcc, hI, hA⟩ := hv.ints
  injection e with eA en ec
  subst eA; subst ec
  have hnF : 0 < n → ∃ g o, A = some ⟨g, o, none⟩ ∧ ¬ Fd B w g ∧ g < w.heap.size := fun h0 => by
    rcases hv.2 with ⟨e, _⟩ | ⟨g, cap, cur, e, _, e2, _⟩
    · injection e with _ e; omega
    · injection e with e
      exact ⟨g, 0, e, Fd.not e2 (by decide), row_lt e2⟩
  have ks := hk.save hd h.dk.len2 hS he hG hl
  rw [hx] at ks
  refine (Save_any h.hm h.ne_h h.dk hd (by rw [h1]; simp) he hS x hx (by omega) h3.at1 (by rw [h2]; exact h3.area) A n cc b hn (by omega) (by omega) hI hBy hnF (fun k hk => hk.lt)).mono ?_
  rintro e w' ⟨rfl, hc, hdk⟩
  exact ⟨_, _, rfl, ks, fun hf => save_on hd hf, h.disk hBw hc hdk, hc⟩
/-- Load. -/
def LoT (t : Option (List Int)) (w : World) (e : Ending) (w' : World) : Prop := Below w.heap.size w w' ∧ ((t = none ∧ e = .returned (.tuple #[.slice none 0 0, .int .u64 0, .int .i64 0])) ∨
  (∃ b A n cc, ∃ g : Nat, t = some b ∧ b.length = n ∧ 0 < g ∧ e = .returned (.tuple #[.slice A n cc, .int .u64 g, .int .i64 0]) ∧ Rdd w w' A n cc b))
theorem load_t (h : TSt B each S w gd gh gn gm d N Q) (hk : Kept each G d a c) (hd : d.dead = false) (he : each ≤ 8000) (hS : 2 + 2 * each ≤ S) : Calls Tryz.prog 16 #[.pointer (some ⟨gh, 0, none⟩)] w (LoT a w) := by
  obtain ⟨h1, h2, x, h3, h4, h5⟩ := hk.alive hd
  have hx : twoS d.now = x := by rw [h2]; exact h3.two
  refine (Load_any h.hm h.dk hd he hS x hx (by rw [h2]; exact h3.area)).mono ?_
  rintro e w' ⟨hb, hz, hy⟩
  refine ⟨hb, ?_⟩
  by_cases h0 : x.1.gen = 0
  · left
    rw [txtS, if_pos h0] at h5
    exact ⟨h5.symm, hz h0⟩
  · right
    rw [txtS, if_neg h0] at h5
    obtain ⟨A, cc, he, hr⟩ := hy h0
    obtain ⟨g1, g2, _⟩ := h3.area h0
    rw [h2] at hr
    have hlen : (rdL d.safe (2 + x.1.area * each) x.1.size).length = x.1.size := rdL_length h.dk.len2 (by
      rcases (show x.1.area = 0 ∨ x.1.area = 1 by omega) with e | e <;> rw [e] <;> omega)
    exact ⟨_, A, x.1.size, cc, x.1.gen, h5.symm, hlen, by omega, he, hr⟩
/-- Crash. -/
theorem crash_t (h : TSt B each S w gd gh gn gm d N Q) (hk : Kept each G d a c) (he : each ≤ 8000) (hBw : B ≤ w.heap.size) (A : Option Addr) (nf cf : Nat) (fs : List Int) (hf : fs.length = nf) (hnf : nf ≤ 9223372036854775807) (hF : Ints .i64 w A fs) (hAF : ∀ ad, A = some ad → 0 < nf → ad.block < B) :
    Calls Tryz.prog 15 #[.pointer (some ⟨gd, 0, none⟩), .slice A nf cf] w fun e w' => e = .returned (.tuple #[]) ∧ Chg (Fd B w) w w' ∧ ∃ t d', (t = a ∨ t = c) ∧ Kept each G d' t t ∧ d'.dead = false ∧ TSt B each S w' gd gh gn gm d' N Q := by
  have hws := hk.ws
  refine (Crash_any h.dk (by omega) A nf cf fs hf hnf hF (fun ad e h0 hFd => by have := hAF ad e h0; have := hFd.1; omega)).mono ?_
  rintro e w' ⟨rfl, hc, hdk⟩
  obtain ⟨t, ht, hkt⟩ := hk.fell fs
  exact ⟨rfl, hc, t, crD d fs, ht, hkt, rfl, h.disk0 hBw hc hdk⟩
/-- Cut. -/
theorem cut_t (h : TSt B each S w gd gh gn gm d N Q) (hk : Kept each G d a c) (hBw : B ≤ w.heap.size) (n : Int) (hn : -9223372036854775808 ≤ n ∧ n ≤ 9223372036854775807) :
    Calls Tryz.prog 11 #[.pointer (some ⟨gd, 0, none⟩), .int .i64 n] w fun e w' => e = .returned (.tuple #[]) ∧ Chg (Fd B w) w w' ∧ ∃ d', Kept each G d' a c ∧ TSt B each S w' gd gh gn gm d' N Q := by
  refine (Cut_any h.dk n hn).mono ?_
  rintro e w' ⟨rfl, hc, hdk⟩
  exact ⟨rfl, hc, _, hk.cut n, h.disk0 hBw hc hdk⟩
/-- Lay. -/
theorem lay_t (h : TSt B each S w gd gh gn gm d N Q) : Calls Tryz.prog 8 #[.pointer (some ⟨gn, 0, none⟩)] w fun e w' => ∃ A cc, e = .returned (.slice A (layN N Q).length cc) ∧ (layN N Q).length ≤ cc ∧ OwnB w' w.heap.size (.slice A (layN N Q).length cc) (layN N Q) ∧ Below w.heap.size w w' := by
  refine (NLay_any h.nm h.sn (h.val.tab h.len) h.snv.ok).mono ?_
  rintro e w' ⟨v, rfl, ho, hb⟩
  obtain ⟨A, cc, rfl, h1, _⟩ := own_forms ho
  exact ⟨A, cc, rfl, h1, ho, hb⟩
/-- Take. -/
theorem take_t (hE : Env w) (A : Option Addr) (n cc : Nat) (b : List Int) (hb : b.length = n) (w0 : World) (hr : Rdd w0 w A n cc b) (ho : OfT (some b) b) :
    Calls Tryz.prog 17 #[.slice A n cc] w fun e w' => ∃ gn gm N Q, e = .returned (.tuple #[.pointer (some ⟨gn, 0, none⟩), .int .i64 0]) ∧ Nm w' gn gm N ∧ Sn w' gm Q ∧ Val FBx N ∧ N.length ≤ 4096 ∧ SnV Q ∧ layN N Q = b ∧ w.heap.size ≤ gn ∧ w.heap.size ≤ gm ∧ Below w.heap.size w w' := by
  obtain ⟨N, Q, hv, hl, hs, rfl⟩ := ho.ex
  refine (NTake_any A n cc N Q w hb hr.ints (layN_bytes N Q) hr.nil hv (hv.tab hl) hs hE).mono ?_
  rintro e w' ⟨gn, gm, rfl, h1, h2, h3, h4, _, h5⟩
  obtain ⟨k1, k2⟩ := snV_inOrd hs
  exact ⟨gn, gm, N, _, rfl, h1, h2, hv, hl, k1, k2 N, h3, h4, h5⟩
end
end Go.Proofs.YtcklcffepedklaaGreatDoor

namespace Go.Proofs.YtcklcffepedklaaGreatDoor
open Go.RowKit Go.Maps

/-- The directory that kept makes. -/
def kA : BA := { data := #[47, 97] }
theorem pn_a : pNames kA.data.toList = some [[97]] := by decide +kernel
theorem mk_a : mkE [] (pNames kA.data.toList) kA = 0 := by rw [pn_a]; decide +kernel
theorem mkN_a : mkN [] (pNames kA.data.toList) kA = [(kA, dV)] := by rw [mkN, if_pos mk_a]; rfl
theorem lay_a : (layN [(kA, dV)] []).length = 17 := by
  simp [layN, tabL, rowsT, sortN, List.length_append, beL_length, textL_length]
  decide
set_option maxRecDepth 20000 in
set_option maxHeartbeats 1600000 in
theorem kept_any (w : World) (hE : Env w) : Calls Tryz.prog 4 #[] w fun e w' => e = .returned (.bool true) ∧ Below w.heap.size w w' := by
  have HE := Lib.hid hE
  have HDN := Lib.hid (show Calls Tryz.prog 5 #[.int .i64 20] w (NewDk 20 w) from DNew_any 20 w (by decide))
  clear hE
  go_enter Tryz.func4, Tryz.ntmps4
  go_wp2_with fail
  refine HDN.out.mono ?_
  rintro e w1 ⟨gd, rfl, hb1, hd⟩
  have HB1 := Lib.hid hb1
  have HD := Lib.hid hd
  have HHN := Lib.hid (show Calls Tryz.prog 6 #[.pointer (some ⟨gd, 0, none⟩), .int .i64 5] w1 fun e w' => ∃ gh, e = .returned (.tuple #[.pointer (some ⟨gh, 0, none⟩), .int .i64 0]) ∧ w1.heap.size ≤ gh ∧ Hm w' gh gd 5 ∧ Below w1.heap.size w1 w' from HNew_any (each := 5) hd (by decide) (by decide) (by decide))
  clear hb1 hd
  go_wp2_with fail
  refine HHN.out.mono ?_
  rintro e w2 ⟨gh, rfl, hgh, hh, hb2⟩
  have HHH := Lib.hid (And.intro hgh (And.intro hh hb2))
  clear hgh hh hb2
  go_wp2_with fail
  refine (NNew_any w2).mono ?_
  rintro e w3 ⟨gn, gm, rfl, hn, hq, h1, h2, _, hb3⟩
  have hst := TSt.start (B := w.heap.size) HE.out (Nat.le_refl _) HE.out.lt HD.out HB1.out HHH.out.2.1 HHH.out.1 HHH.out.2.2 hn hq h1 h2 hb3
  have HST := Lib.hid hst.1
  have HB3 := Lib.hid hst.2
  have hgn : 2 < gn := Nat.lt_of_lt_of_le HE.out.lt hst.1.bn
  have hmk := Mkdir_any FBx_ok (Val.nil _) (by simp) hst.1.nm kA hst.1.env hgn (by decide)
  rw [mk_a, mkN_a] at hmk
  have HMK := Lib.hid (show Calls Tryz.prog 18 #[.pointer (some ⟨gn, 0, none⟩), .string { data := #[47, 97] }] w3 fun e w' => e = .returned (.int .i64 0) ∧ Nm w' gn gm [(kA, dV)] ∧ Chg (fun x => x = gn) w3 w' from hmk)
  clear hn hq h1 h2 hb3 hst hgn hmk HDN HHN
  go_wp2_with fail
  refine HMK.out.mono ?_
  rintro e w4 ⟨rfl, hn4, hc4⟩
  have hv := mk_val (Val.nil FBx) (by simp) kA
  rw [mkN_a] at hv
  have hch := ChP.of_n (b := true) HST.out (Below.refl _ _) hn4 hv.1 hv.2 hc4
  have hc4' : Chg (fun k => k = gn ∨ k = gm) w3 w4 := hch.2.1
  have hs4 : TSt w.heap.size 5 20 w4 gd gh gn gm (newD 20) [(kA, dV)] [] := by
    have h1 := HST.out
    obtain ⟨cs, hr⟩ := h1.nm.row
    obtain ⟨es, c, hr2⟩ := h1.sn.row
    refine h1.names hc4' hn4 (h1.sn.chg hc4 (fun e => ?_) (fun g cs' e e2 => ?_)) hv.1 hv.2 SnV.nil
    · rw [e, hr] at hr2; cases hr2
    · rw [e, hr] at e2
      injection e2 with e2
      injection e2 with _ e2 _
      exact absurd e2 (by decide)
  have hb4 : Below w.heap.size w w4 := HB3.out.trans (hc4'.below HB3.out.size (fun k hk => hk.elim (fun e => e ▸ HST.out.bn) (fun e => e ▸ HST.out.bm)))
  have HST4 := Lib.hid hs4
  have HB4 := Lib.hid hb4
  have HLY := Lib.hid (lay_t hs4)
  clear hn4 hc4 hv hch hc4' hs4 hb4 HMK
  go_wp2_with fail
  refine HLY.out.mono ?_
  rintro e w5 ⟨A, cc, rfl, hcc, ho5, hb5⟩
  rw [lay_a] at hcc ho5
  have hs5 := HST4.out.below hb5
  have hb05 := HB4.out.trans (hb5.mono HB4.out.size)
  have HSV := Lib.hid (save_t hs5 (Kept.new 5 20 (by decide)) rfl (by decide) (by decide) (by decide) hb05.size A 17 cc (layN [(kA, dV)] []) (ho5.base HB4.out.size) lay_a (layN_bytes _ _) (by rw [lay_a]; decide))
  have HB5 := Lib.hid hb05
  rw [lay_a]
  clear hcc ho5 hb5 hs5 hb05 HLY
  go_wp2_with fail
  refine HSV.out.mono ?_
  rintro e w6 ⟨r, d6, rfl, hk6, hr6, hs6, hc6⟩
  obtain rfl := hr6 rfl
  have hk : d6.dead = false ∧ Kept 5 1 d6 (some (layN [(kA, dV)] [])) (some (layN [(kA, dV)] [])) := by
    rcases hk6 with ⟨_, h⟩ | ⟨h, _⟩
    · exact h
    · cases h
  have hb6 : Below w.heap.size w w6 := HB5.out.trans (hc6.below HB5.out.size (fun k hk => hk.1))
  have HB6 := Lib.hid hb6
  have HS6 := Lib.hid hs6
  have HLO := Lib.hid (load_t hs6 hk.2 hk.1 (by decide) (by decide))
  clear hk6 hr6 hs6 hc6 hk hb6 HSV
  go_wp2_with fail
  refine HLO.out.mono ?_
  rintro e w7 ⟨hb7, h7⟩
  obtain ⟨hz, _⟩ | ⟨b, A7, n7, c7, g7, hb, hn7, hg7, rfl, hr7⟩ := h7
  · cases hz
  injection hb with hb
  subst hb
  rw [lay_a] at hn7
  subst hn7
  have hb07 := HB6.out.trans (hb7.mono HB6.out.size)
  have hs7 := HS6.out.below hb7
  have HTK := Lib.hid (NTake_any A7 17 c7 [(kA, dV)] [] w7 lay_a hr7.ints (layN_bytes _ _) hr7.nil HST4.out.val (HST4.out.val.tab HST4.out.len) SnV.nil hs7.env)
  have HB7 := Lib.hid hb07
  clear hb7 hg7 hr7 hb07 hs7 HLO
  go_wp2_with fail
  refine HTK.out.mono ?_
  rintro e w8 ⟨gn8, gm8, rfl, hn8, _, _, _, _, hb8⟩
  have HB8 := Lib.hid (HB7.out.trans (hb8.mono HB7.out.size))
  have HLN := Lib.hid (show Calls Tryz.prog 19 #[.pointer (some ⟨gn8, 0, none⟩)] w8 fun e w' => e = .returned (.int .i64 1) ∧ w8 = w' from NLen_any hn8)
  clear hn8 hb8 HTK
  go_wp2_with fail
  refine HLN.out.mono ?_
  rintro e w9 ⟨rfl, rfl⟩
  go_wp2_with fail
  go_ret
  exact ⟨rfl, HB8.out⟩
end Go.Proofs.YtcklcffepedklaaGreatDoor

namespace Go.Proofs.YtcklcffepedklaaGreatDoor
open Go.RowKit Go.Maps

/-- The cells of steps. -/
def flatS (l : List Stp) : List Value := l.flatMap stC
theorem flatS_cons (s : Stp) (l : List Stp) : flatS (s :: l) = stC s ++ flatS l := by rw [flatS, List.flatMap_cons]; rfl
theorem flatS_length : ∀ l : List Stp, (flatS l).length = l.length * 6
  | [] => rfl
  | s :: l => by rw [flatS_cons, List.length_append, flatS_length l, List.length_cons]; show 6 + _ = _; omega
theorem flatS_one (l : List Stp) : ∀ u ∈ flatS l, u.oneCell' = true := fun u hu => by
  obtain ⟨s, _, h⟩ := List.mem_flatMap.1 hu
  exact stC_one s u h
theorem flatS_at : ∀ (l : List Stp) (i : Nat) (s : Stp), l[i]? = some s → ∀ j v, (stC s)[j]? = some v → (flatS l)[i * 6 + j]? = some v
  | [], i, s, h, _, _, _ => by simp at h
  | x :: l, 0, s, h, j, v, hj => by
    simp at h; subst h
    rw [flatS_cons, Nat.zero_mul, Nat.zero_add, List.getElem?_append_left]
    · exact hj
    · rcases Nat.lt_or_ge j (stC x).length with h | h
      · exact h
      · rw [List.getElem?_eq_none h] at hj; cases hj
  | x :: l, i + 1, s, h, j, v, hj => by
    rw [List.getElem?_cons_succ] at h
    have ih := flatS_at l i s h j v hj
    rw [flatS_cons, List.getElem?_append_right (by show 6 ≤ _; omega)]
    rw [← ih]; congr 1
    show (i + 1) * 6 + j - 6 = _; omega
theorem flatS_get : ∀ (l : List Stp) (j : Nat) (u : Value), (flatS l)[j]? = some u → ∃ s, l[j / 6]? = some s ∧ (stC s)[j % 6]? = some u
  | [], j, u, h => by simp [flatS] at h
  | x :: l, j, u, h => by
    rw [flatS_cons] at h
    by_cases hj : j < 6
    · rw [List.getElem?_append_left (by exact hj)] at h
      rw [Nat.div_eq_of_lt hj, Nat.mod_eq_of_lt hj]
      exact ⟨x, rfl, h⟩
    · rw [List.getElem?_append_right (by show 6 ≤ j; omega)] at h
      obtain ⟨s, h1, h2⟩ := flatS_get l (j - 6) u h
      have e1 : j / 6 = (j - 6) / 6 + 1 := by omega
      have e2 : j % 6 = (j - 6) % 6 := by omega
      exact ⟨s, by rw [e1, List.getElem?_cons_succ]; exact h1, by rw [e2]; exact h2⟩
theorem Stps.news {w : World} {A : Option Addr} {l : List Stp} (h : Stps w A l) : ∀ j u, (flatS l)[j]? = some u → ∃ ad, A = some ad ∧ w.cell? (ad.add j) = some u := fun j u hj => by
  obtain ⟨s, h1, h2⟩ := flatS_get l j u hj
  obtain ⟨_, b, o, e, _, hr⟩ := h _ s h1
  refine ⟨_, e, ?_⟩
  have h3 : w.cell? ⟨b, o + j / 6 * 6 + j % 6, none⟩ = some u := hr (j % 6) u h2
  have : (⟨b, o, none⟩ : Addr).add j = ⟨b, o + j / 6 * 6 + j % 6, none⟩ := by
    unfold Addr.add
    split
    · rename_i h0; have : o + j / 6 * 6 + j % 6 = o := by omega
      rw [this]
    · have : o + j / 6 * 6 + j % 6 = o + j := by omega
      rw [this]
  rw [this]; exact h3
theorem Stps.take {w : World} {A : Option Addr} {l : List Stp} (h : Stps w A l) (m : Nat) : Stps w A (l.take m) := fun i s hs => by
  rw [List.getElem?_take] at hs
  split at hs
  · exact h i s hs
  · cases hs
theorem Stps.below {w w' : World} {A : Option Addr} {l : List Stp} (h : Stps w A l) (hb : Below w.heap.size w w') : Stps w' A l := fun i s hs => by
  obtain ⟨h1, b, o, e, hl, hr⟩ := h i s hs
  exact ⟨h1.below hb, b, o, e, Nat.lt_of_lt_of_le hl hb.size, rangeAt_block hr (hb.block b hl)⟩
theorem Tryz.infoStep : (Tryz.prog.info? 39).map (fun i => (i.zero, i.size, i.bytes)) = some (some (.agg #[.int .u8 0, .string ⟨#[]⟩, .string ⟨#[]⟩, .slice none 0 0, .int .i64 0, .slice none 0 0]), 6, 96) := by kernel_rfl
theorem ES : Elem Tryz.prog 22 39 6 96 := by
  obtain ⟨i0, hi, hz0, hz1, hz2⟩ := info_parts Tryz.infoStep
  exact ⟨Tryz.underlying22, ⟨i0, _, hi, hz0, hz1, hz2, rfl⟩, by decide⟩
def zS : Array Value := #[.int .u8 0, .string ⟨#[]⟩, .string ⟨#[]⟩, .slice none 0 0, .int .i64 0, .slice none 0 0]
theorem zeroS (w : World) : (zeroValue 39).run Tryz.prog w = .ok (.agg zS) w := by
  obtain ⟨i0, hi, hz0, _, _⟩ := info_parts Tryz.infoStep
  exact zero_run hi hz0 w
theorem sizeS (s : Stp) : (Tryz.prog.info? 39).map (·.size) = some (stC s).length := by
  show _ = some 6
  kernel_rfl
theorem sizeSA (s : Stp) : (Tryz.prog.info? 39).map (·.size) = some (stC s).toArray.size := by rw [List.size_toArray]; exact sizeS s
theorem zS_size (s : Stp) : zS.size = (stC s).toArray.size := rfl
/-- The last step: the power fails now. -/
def s7 : Stp := ⟨7, ⟨#[]⟩, ⟨#[]⟩, none, 0, 0, 0, none, 0, 0⟩
theorem s7_ok (w : World) : StOk w s7 := ⟨by decide, ⟨[], rfl, fun i r h => by simp at h⟩, ⟨[], rfl, Ints.nil _ _ _⟩, by decide, by decide, by decide, by decide, by decide⟩
theorem s7_few : Few s7 := ⟨by decide, by decide, by decide⟩
theorem own_st {w : World} {b n c i : Nat} {A : Option Addr} {l : List Stp} {s : Stp} (h : w.ownsRow b 39 6 (.slice A n c) l.length (flatS l)) (hi : l[i]? = some s) : ∃ g, A = some ⟨g, 0, none⟩ ∧ w.rangeAt g (i * 6) (stC s) := by
  have hl : i < l.length := by
    rcases Nat.lt_or_ge i l.length with h | h
    · exact h
    · rw [List.getElem?_eq_none h] at hi; cases hi
  obtain ⟨g, hA⟩ : ∃ g, A = some ⟨g, 0, none⟩ := by
    obtain ⟨_, h⟩ := h
    rcases h with ⟨_, h⟩ | ⟨g, cap, cur, h, _⟩
    · omega
    · injection h with h; exact ⟨g, h⟩
  refine ⟨g, hA, fun j v hj => ?_⟩
  have := h.cells (g := g) (by rw [hA]; rfl) (i * 6 + j) v (flatS_at l i s hi j v hj)
  rwa [addr_add0, Nat.zero_add] at this

/-- What a round keeps. B: where what came in ends; V: the row of steps. -/
structure Lp (B : Nat) (w0 : World) (gd gh : Nat) (V : Value) (L : List Stp) (i gn : Nat) (a' c' : List Int) (w : World) : Prop where
  ex : ∃ gm d N Q a c, TSt B 2000 4002 w gd gh gn gm d N Q ∧ Kept 2000 i d a c ∧ OfT a a' ∧ OfT c c'
  bel : Below B w0 w
  own : w.ownsRow B 39 6 V L.length (flatS L)
section
variable {B : Nat} {w0 w w' : World} {gd gh : Nat} {V : Value} {L : List Stp} {i gn gm : Nat} {a' c' : List Int} {d : Ds} {N : List PR} {Q : List (BA × List PR)}
theorem own_ty (h : w.ownsRow B 39 6 V L.length (flatS L)) : ∀ k, V.ownBlock = some k → ∃ cs, w.heap[k]? = some (.cells cs 39 (0, 0)) := fun k hk => by
  rcases h.2 with ⟨e, _⟩ | ⟨g, cap, cur, e, _, e2, _⟩
  · rw [e] at hk; cases hk
  · rw [e] at hk
    injection hk with hk
    have hk' : g = k := hk
    exact ⟨cur, by rw [← hk']; exact e2⟩
theorem own_disk (h : w.ownsRow B 39 6 V L.length (flatS L)) (hc : Chg (Fd B w) w w') : w'.ownsRow B 39 6 V L.length (flatS L) :=
  ownsRow_chg h hc fun k hk => by obtain ⟨cs, hr⟩ := own_ty h k hk; exact Fd.not hr (by decide)
theorem row39_names {k : Nat} {cs : Array Value} (ht : TSt B 2000 4002 w gd gh gn gm d N Q) (hr : w.heap[k]? = some (.cells cs 39 (0, 0))) : ¬ (k = gn ∨ k = gm) := fun e => by
  obtain ⟨cs', h1⟩ := ht.nm.row
  obtain ⟨es, c, h2⟩ := ht.sn.row
  rcases e with rfl | rfl
  · rw [h1] at hr; injection hr with hr; injection hr with _ hr _; cases hr
  · rw [h2] at hr; injection hr with hr; cases hr
theorem own_names (ht : TSt B 2000 4002 w gd gh gn gm d N Q) (h : w.ownsRow B 39 6 V L.length (flatS L)) (hc : Chg (fun k => k = gn ∨ k = gm) w w') : w'.ownsRow B 39 6 V L.length (flatS L) :=
  ownsRow_chg h hc fun k hk => by obtain ⟨cs, hr⟩ := own_ty h k hk; exact row39_names ht hr
theorem Lp.mk2 {a c : Option (List Int)} (ht : TSt B 2000 4002 w' gd gh gn gm d N Q) (hk : Kept 2000 i d a c) (ha : OfT a a') (hcc : OfT c c') (hb : Below B w0 w') (ho : w'.ownsRow B 39 6 V L.length (flatS L)) : Lp B w0 gd gh V L i gn a' c' w' :=
  ⟨⟨gm, d, N, Q, a, c, ht, hk, ha, hcc⟩, hb, ho⟩
end
end Go.Proofs.YtcklcffepedklaaGreatDoor
