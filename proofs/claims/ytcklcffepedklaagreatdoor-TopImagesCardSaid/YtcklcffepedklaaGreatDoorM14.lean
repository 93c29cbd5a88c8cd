/- Texts of the proof, one behind the other: names: what names lie as; kind, sound, parent, full. names: New, Len, Mkdir. names: within. names: Remove. -/
import Derived.Test.YtcklcffepedklaaGreatDoorM09
import Derived.Test.YtcklcffepedklaaGreatDoorM12
import Derived.Test.YtcklcffepedklaaGreatDoorM13
import Derived.StringKeys
namespace Go.Proofs.YtcklcffepedklaaGreatDoor
open Go.RowKit Go.Maps

/-- What a file's value begins with. -/
def fV : BA := ⟨#[102]⟩
def FOk (FB : BA → Prop) : Prop := ∀ v, FB v → v.data.toList.take 1 = [102]
/-- The kind of what has a value. -/
def kd : Option BA → BA
  | none => ⟨#[]⟩
  | some v => if v = dV then dV else fV
/-- The files and directories: their pairs. -/
structure Nm (w : World) (gn gm : Nat) (N : List PR) : Prop where
  ex : ∃ p t, w.heap[gn]? = some (.cells #[.pointer p, .map (some gm)] 61 (0, 0)) ∧ TrAt w p t ∧ t.prs = N
theorem Nm.below {w w' : World} {gn gm : Nat} {N : List PR} (h : Nm w gn gm N) (hb : Below w.heap.size w w') : Nm w' gn gm N := by
  obtain ⟨p, t, h1, h2, h3⟩ := h.ex
  exact ⟨p, t, (hb.block gn (row_lt h1)).trans h1, h2.below hb, h3⟩
theorem Nm.chg {w w' : World} {gn gm : Nat} {N : List PR} {R : Nat → Prop} (h : Nm w gn gm N) (hc : Chg R w w') (hn : ¬ R gn) (hR : ∀ g cs, R g → w.heap[g]? ≠ some (.cells cs 125 (0, 0))) : Nm w' gn gm N := by
  obtain ⟨p, t, h1, h2, h3⟩ := h.ex
  exact ⟨p, t, (hc.block gn (row_lt h1) hn).trans h1, h2.chg hc hR, h3⟩
theorem Nm.lt {w : World} {gn gm : Nat} {N : List PR} (h : Nm w gn gm N) : gn < w.heap.size := by
  obtain ⟨p, t, h1, _⟩ := h.ex; exact row_lt h1
theorem kd_take {FB : BA → Prop} (HF : FOk FB) {v : BA} (hv : v = dV ∨ FB v) (q : Nat) (hq : q = min 1 v.size) : v.extract 0 q = kd (some v) := by
  apply Go.WideShapes.bytes_inj
  subst hq
  rw [Lib.extract_from_zero]
  rcases hv with rfl | hv
  · rfl
  · have h := HF v hv
    have hne : v ≠ dV := fun e => by rw [e] at h; cases h
    have hm : v.data.toList.take (min 1 v.size) = v.data.toList.take 1 := by
      rw [← List.take_take, List.take_of_length_le (Nat.le_of_eq (size_data v).symm)]
    rw [hm, h, kd, if_neg hne]; rfl
section
variable {FB : BA → Prop} {w : World} {gn gm : Nat} {N : List PR}
theorem Val.value (hV : Val FB N) {k v : BA} (h : getP k N = some v) : v = dV ∨ FB v := by
  obtain ⟨l, hl⟩ := hV.ok _ (getP_some h)
  exact hl.val
set_option maxRecDepth 20000 in
theorem kind_root (w : World) (gn : Nat) : Calls Tryz.prog 41 #[.pointer (some ⟨gn, 0, none⟩), .string ⟨#[47]⟩] w fun e w' => e = .returned (.string dV) ∧ w = w' := by
  go_enter Tryz.func41, Tryz.ntmps41
  go_wp2
  go_ret
  exact ⟨rfl, rfl⟩
set_option maxRecDepth 20000 in
theorem kind_any (HF : FOk FB) (hV : Val FB N) (h : Nm w gn gm N) (k : BA) (hk : k ≠ ⟨#[47]⟩) : Calls Tryz.prog 41 #[.pointer (some ⟨gn, 0, none⟩), .string k] w fun e w' => e = .returned (.string (kd (getP k N))) ∧ w = w' := by
  obtain ⟨p, t, h1, h2, h3⟩ := h.ex
  have HG := Lib.hid (TGet_any k t p w h2)
  have hg : t.get k = getP k N := by rw [prs_get k t (by rw [h3]; exact hV.srt), h3]
  rw [hg] at HG
  have ca0 : w.cell? ⟨gn, 0, none⟩ = some (.pointer p) := cell_row' h1
  have hkk : (k.toList == [47]) = false := by have := str_ne hk; rwa [show (⟨#[47]⟩ : BA).toList = [47] from by rw [Lib.toList_data]] at this
  have hval := fun v => hV.value (k := k) (v := v)
  obtain ⟨o, ho⟩ : ∃ o, getP k N = o := ⟨_, rfl⟩
  rw [ho] at HG hval ⊢
  obtain ⟨y, hy⟩ : ∃ y, kd o = y := ⟨_, rfl⟩
  rw [hy]
  obtain ⟨b, hb⟩ : ∃ b, o.isSome = b := ⟨_, rfl⟩
  obtain ⟨x, hx⟩ : ∃ x, o.getD ⟨#[]⟩ = x := ⟨_, rfl⟩
  obtain ⟨n, hn⟩ : ∃ n, x.size = n := ⟨_, rfl⟩
  obtain ⟨q, hq⟩ : ∃ q, min 1 n = q := ⟨_, rfl⟩
  have hxy : x.extract 0 q = y := by
    rw [← hy]
    cases o with
    | none => rw [← hx]; apply Go.WideShapes.bytes_inj; rw [Lib.extract_from_zero]; simp [kd]
    | some v =>
      have hx' : v = x := hx
      rw [← hx']
      exact kd_take HF (hval v rfl) q (by rw [hx', hn, hq])
  rw [hb, hx] at HG
  have e1 : min (1 : Int) (n : Int) = (q : Int) := by omega
  have e2 : q ≤ n := by omega
  have HXY := Lib.hid hxy
  clear HF hV h h1 h2 h3 hk hg hval ho hy hb hx hq hxy
  go_enter Tryz.func41, Tryz.ntmps41
  go_wp2_with fail
  refine HG.out.mono ?_
  rintro e w' ⟨rfl, rfl⟩
  go_wp2_with fail
  rw [HXY.out]
  go_ret
  exact ⟨rfl, rfl⟩
/-- What sound answers. -/
def soE (root : Int) : Option (List L8) → Int
  | none => 170
  | some l => if l = [] then root else 0
theorem pNames_root {s : BA} : pNames s.data.toList = some [] ↔ s = ⟨#[47]⟩ := by
  constructor
  · intro h; have := pNames_key h; rw [this]; rfl
  · rintro rfl; rfl
set_option maxRecDepth 20000 in
theorem sound_any (s : BA) (root : Int) (hE : Env w) (hs : s.size ≤ 1000000) : Calls Tryz.prog 39 #[.pointer (some ⟨gn, 0, none⟩), .string s, .int .i64 root] w fun e w' => e = .returned (.int .i64 (soE root (pNames s.data.toList))) ∧ Below w.heap.size w w' := by
  have HP := Lib.hid (Parse_any s w hE hs)
  have hroot := @pNames_root s
  obtain ⟨P, hP⟩ : ∃ P, pNames s.data.toList = P := ⟨_, rfl⟩
  rw [hP] at HP hroot ⊢
  obtain ⟨y, hy⟩ : ∃ y, soE root P = y := ⟨_, rfl⟩
  rw [hy]
  have HY := Lib.hid hy
  clear hE hs hP hy
  go_enter Tryz.func39, Tryz.ntmps39
  go_wp2_with fail
  refine HP.out.mono ?_
  rintro e w1 ⟨hb1, hr⟩
  have HB := Lib.hid hb1
  clear hb1 HP
  cases P with
  | none =>
    have hr' : e = .returned (.tuple #[.slice none 0 0, .int .i64 170]) := hr
    subst hr'
    clear hr hroot
    go_wp2_with fail
    go_ret
    exact ⟨by rw [← HY.out]; rfl, HB.out⟩
  | some l =>
    obtain ⟨A, rfl, _⟩ := hr
    cases l with
    | nil =>
      have hss : s = ⟨#[47]⟩ := hroot.1 rfl
      subst hss
      clear hroot
      go_wp2_with fail
      go_ret
      exact ⟨by rw [← HY.out]; rfl, HB.out⟩
    | cons a l =>
      have hss : s ≠ ⟨#[47]⟩ := fun e => by cases hroot.2 e
      have hkk : (s.toList == [47]) = false := by have := str_ne hss; rwa [show (⟨#[47]⟩ : BA).toList = [47] from by rw [Lib.toList_data]] at this
      obtain ⟨n, hn⟩ : ∃ n, (a :: l).length = n := ⟨_, rfl⟩
      rw [hn]
      clear hroot hss hn
      go_wp2_with fail
      go_ret
      exact ⟨by rw [← HY.out]; rfl, HB.out⟩
/-- What parent answers. -/
def paE (N : List PR) (l : List L8) : Int := if l.dropLast = [] then 0 else match getP (bp l.dropLast) N with
  | none => 2
  | some v => if v = dV then 0 else 192
theorem paE_ok {l : List L8} (h : paE N l = 0) : l.dropLast = [] ∨ (bp l.dropLast, dV) ∈ N := by
  unfold paE at h
  split at h
  · rename_i h1; exact .inl h1
  · split at h
    · cases h
    · rename_i v hv
      split at h
      · rename_i hd; subst hd; exact .inr (getP_some hv)
      · cases h
theorem paE_of (hs : Srtd N) {l : List L8} (h : l.dropLast = [] ∨ (bp l.dropLast, dV) ∈ N) : paE N l = 0 := by
  unfold paE
  split
  · rfl
  · rcases h with h | h
    · rename_i h1; exact absurd h h1
    · rw [getP_mem hs h]; simp
theorem bp_root {l : List L8} (hp : PN l) : bp l = ⟨#[47]⟩ ↔ l = [] := by
  constructor
  · intro h
    exact bp_inj hp (b := []) ⟨by simp, by simp, by simp⟩ (h.trans rfl)
  · rintro rfl; rfl
set_option maxRecDepth 20000 in
theorem parent_any (HF : FOk FB) (hV : Val FB N) (h : Nm w gn gm N) (s : BA) (l : List L8) (hE : Env w) (hs : s.size ≤ 1000000) (hp : pNames s.data.toList = some l) (hl : l ≠ []) :
    Calls Tryz.prog 40 #[.pointer (some ⟨gn, 0, none⟩), .string s] w fun e w' => e = .returned (.int .i64 (paE N l)) ∧ Below w.heap.size w w' := by
  have HP := Lib.hid (Parent_any s l w hE hs hp hl)
  have hpn := (pNames_some hp).2.dropLast
  have hkind : ∃ y, (∀ W, Below w.heap.size w W → Calls Tryz.prog 41 #[.pointer (some ⟨gn, 0, none⟩), .string (bp l.dropLast)] W fun e w' => e = .returned (.string y) ∧ W = w') ∧ ((y = dV ∧ paE N l = 0) ∨ (y = fV ∧ paE N l = 192) ∨ (y = ⟨#[]⟩ ∧ paE N l = 2)) := by
    by_cases h0 : l.dropLast = []
    · refine ⟨dV, fun W _ => ?_, .inl ⟨rfl, by rw [paE, if_pos h0]⟩⟩
      rw [h0]
      exact kind_root W gn
    · refine ⟨kd (getP (bp l.dropLast) N), fun W hW => kind_any HF hV (h.below hW) _ (fun e => h0 ((bp_root hpn).1 e)), ?_⟩
      rw [paE, if_neg h0]
      cases getP (bp l.dropLast) N with
      | none => exact .inr (.inr ⟨rfl, rfl⟩)
      | some v =>
        by_cases hd : v = dV
        · subst hd; exact .inl ⟨rfl, rfl⟩
        · exact .inr (.inl ⟨by rw [kd, if_neg hd], by simp only; rw [if_neg hd]⟩)
  obtain ⟨y, hK, hy⟩ := hkind
  have HK := Lib.hid hK
  obtain ⟨x, hx⟩ : ∃ x, bp l.dropLast = x := ⟨_, rfl⟩
  rw [hx] at HP HK
  obtain ⟨z, hz⟩ : ∃ z, paE N l = z := ⟨_, rfl⟩
  rw [hz] at hy ⊢
  clear HF hV h hE hs hp hl hpn hK hx hz
  go_enter Tryz.func40, Tryz.ntmps40
  go_wp2_with fail
  refine HP.out.mono ?_
  rintro e w1 ⟨hb1, u, rfl⟩
  have HB := Lib.hid hb1
  clear hb1 HP
  go_wp2_with fail
  refine (HK.out w1 HB.out).mono ?_
  rintro e w2 ⟨rfl, rfl⟩
  clear HK
  rcases hy with ⟨rfl, rfl⟩ | ⟨rfl, rfl⟩ | ⟨rfl, rfl⟩
  · unfold dV
    go_wp2_with fail
    go_ret
    exact ⟨rfl, HB.out⟩
  · unfold fV
    go_wp2_with fail
    go_ret
    exact ⟨rfl, HB.out⟩
  · go_wp2_with fail
    go_ret
    exact ⟨rfl, HB.out⟩
theorem full_any (h : Nm w gn gm N) : Calls Tryz.prog 42 #[.pointer (some ⟨gn, 0, none⟩)] w fun e w' => e = .returned (.bool (decide (4096 ≤ N.length))) ∧ w = w' := by
  obtain ⟨p, t, h1, h2, h3⟩ := h.ex
  have HL := Lib.hid (TLen_any h2)
  have ca0 : w.cell? ⟨gn, 0, none⟩ = some (.pointer p) := cell_row' h1
  have hlen : t.len = N.length := by rw [← Tre.prs_len, h3]
  obtain ⟨n, hn⟩ : ∃ n, N.length = n := ⟨_, rfl⟩
  rw [hlen, hn] at HL
  rw [hn]
  obtain ⟨b, hb⟩ : ∃ b, decide (4096 ≤ n) = b := ⟨_, rfl⟩
  rw [hb]
  have HB := Lib.hid hb
  clear h h1 h2 h3 hlen hn hb
  go_enter Tryz.func42, Tryz.ntmps42
  go_wp2_with fail
  refine HL.out.mono ?_
  rintro e w' ⟨rfl, rfl⟩
  go_wp2_with fail
  go_ret
  exact ⟨by rw [← HB.out]; exact congrArg (fun b => Ending.returned (.bool b)) (decide_eq_decide.2 (by omega)), rfl⟩
end
end Go.Proofs.YtcklcffepedklaaGreatDoor

namespace Go.Proofs.YtcklcffepedklaaGreatDoor
open Go.RowKit Go.Maps

theorem run_make0 {P : Program} {mt k e : TypeId} (ht : P.underlying mt = some (.map k e)) (W : World) : (Instr.makeMap mt none).run P W = .ok (.map (some W.heap.size)) (W.alloc (.map #[] 0)) := by
  simp [Instr.makeMap, run_underlying ht]
/-- The snapshots: their names, and what they have. -/
def SvOk (s : BA) : Prop := s.size ≤ 1000000
def snV (P : List (BA × Option Addr × Tre)) : List (BA × Value) := P.map fun x => (x.1, .pointer x.2.1)
def snL (P : List (BA × Option Addr × Tre)) : List (BA × List PR) := P.map fun x => (x.1, x.2.2.prs)
structure Sn (w : World) (gm : Nat) (S : List (BA × List PR)) : Prop where
  ex : ∃ P, MapAt Value.string SvOk w gm (snV P) ∧ (∀ x ∈ P, TrAt w x.2.1 x.2.2) ∧ S = snL P
theorem Sn.below {w w' : World} {gm : Nat} {S : List (BA × List PR)} (h : Sn w gm S) (hb : Below w.heap.size w w') : Sn w' gm S := by
  obtain ⟨P, h1, h2, h3⟩ := h.ex
  exact ⟨P, h1.below hb, fun x hx => (h2 x hx).below hb, h3⟩
theorem Sn.chg {w w' : World} {gm : Nat} {S : List (BA × List PR)} {R : Nat → Prop} (h : Sn w gm S) (hc : Chg R w w') (hn : ¬ R gm) (hR : ∀ g cs, R g → w.heap[g]? ≠ some (.cells cs 125 (0, 0))) : Sn w' gm S := by
  obtain ⟨P, h1, h2, h3⟩ := h.ex
  exact ⟨P, h1.chg hc hn, fun x hx => (h2 x hx).chg hc hR, h3⟩
theorem NNew_any (w : World) : Calls Tryz.prog 7 #[] w fun e w' => ∃ gn gm, e = .returned (.pointer (some ⟨gn, 0, none⟩)) ∧ Nm w' gn gm [] ∧ Sn w' gm [] ∧ w.heap.size ≤ gn ∧ w.heap.size ≤ gm ∧ gn ≠ gm ∧ Below w.heap.size w w' := by
  have h1 := run_make0 (P := Tryz.prog) Tryz.underlying58
  go_enter Tryz.func7, Tryz.ntmps7
  go_wp2
  go_ret
  have e1 : (w.alloc (.map #[] 0)).heap.size = w.heap.size + 1 := World.size_alloc _ _
  have hb1 := (Below.refl w.heap.size w).alloc (Nat.le_refl _) (.map #[] 0)
  have hb2 := fun o => (Below.refl (w.alloc (.map #[] 0)).heap.size (w.alloc (.map #[] 0))).alloc (Nat.le_refl _) o
  have m1 := MapAt.made (α := BA) (enc := Value.string) (V := SvOk) w
  exact ⟨w.heap.size + 1, w.heap.size, rfl, ⟨none, .nil, by rw [← e1]; exact heap_alloc_last _ _, rfl, rfl⟩, ⟨[], m1.below (hb2 _), (fun x hx => by cases hx), rfl⟩, by omega, Nat.le_refl _, by omega, hb1.trans ((hb2 _).mono (by omega))⟩
section
variable {FB : BA → Prop} {w : World} {gn gm : Nat} {N : List PR}
theorem NLen_any (h : Nm w gn gm N) : Calls Tryz.prog 19 #[.pointer (some ⟨gn, 0, none⟩)] w fun e w' => e = .returned (.int .i64 N.length) ∧ w = w' := by
  obtain ⟨p, t, h1, h2, h3⟩ := h.ex
  have HL := Lib.hid (TLen_any h2)
  have ca0 : w.cell? ⟨gn, 0, none⟩ = some (.pointer p) := cell_row' h1
  have hlen : t.len = N.length := by rw [← Tre.prs_len, h3]
  rw [hlen] at HL
  clear h h1 h2 h3 hlen
  go_enter Tryz.func19, Tryz.ntmps19
  go_wp2_with fail
  refine HL.out.mono ?_
  rintro e w' ⟨rfl, rfl⟩
  go_wp2_with fail
  go_ret
  exact ⟨rfl, rfl⟩
/-- What Mkdir answers. -/
def mkE (N : List PR) (P : Option (List L8)) (k : BA) : Int :=
  if soE 3 P ≠ 0 then soE 3 P else if paE N (P.getD []) ≠ 0 then paE N (P.getD []) else if (getP k N).isSome = true then 3 else if 4096 ≤ N.length then 4 else 0
def mkN (N : List PR) (P : Option (List L8)) (k : BA) : List PR := if mkE N P k = 0 then insP k dV N else N
theorem getP_len (hs : Srtd N) (hV : N.length ≤ 4096) (h : Nm w gn gm N) : ∃ p t, w.heap[gn]? = some (.cells #[.pointer p, .map (some gm)] 61 (0, 0)) ∧ TrAt w p t ∧ t.prs = N ∧ t.len < 900000 := by
  obtain ⟨p, t, h1, h2, h3⟩ := h.ex
  exact ⟨p, t, h1, h2, h3, by rw [← Tre.prs_len, h3]; omega⟩
/-- Names whose pointer is turned. -/
theorem Nm.turn {w0 w1 : World} {N' : List PR} {p p' : Option Addr} {t' : Tre} (h1 : w0.heap[gn]? = some (.cells #[.pointer p, .map (some gm)] 61 (0, 0))) (hb : Below w0.heap.size w0 w1) (ht : TrAt w1 p' t') (hN : t'.prs = N') :
    Nm (w1.setCell ⟨gn, 0, none⟩ (.pointer p')) gn gm N' ∧ Chg (fun x => x = gn) w0 (w1.setCell ⟨gn, 0, none⟩ (.pointer p')) := by
  have h2 := (hb.block gn (row_lt h1)).trans h1
  have hc := Chg.of_ (R := fun x => x = gn) (grown_setCell w1 gn 0 (.pointer p')) (fun k _ e => by injection e with e; exact e.symm)
  refine ⟨⟨p', t', setCell_row h2 0 _, ht.chg hc (fun g cs e => by rw [e, h2]; intro e2; injection e2 with e2; injection e2 with _ e2; exact absurd e2 (by decide)), hN⟩, (Chg.belowAt hb).trans hc⟩
set_option maxRecDepth 20000 in
set_option maxHeartbeats 800000 in
theorem Mkdir_any (HF : FOk FB) (hV : Val FB N) (hL : N.length ≤ 4096) (h : Nm w gn gm N) (s : BA) (hE : Env w) (hgn : 2 < gn) (hs : s.size ≤ 1000000) :
    Calls Tryz.prog 18 #[.pointer (some ⟨gn, 0, none⟩), .string s] w fun e w' => e = .returned (.int .i64 (mkE N (pNames s.data.toList) s)) ∧ Nm w' gn gm (mkN N (pNames s.data.toList) s) ∧ Chg (fun x => x = gn) w w' := by
  have HSO := Lib.hid (sound_any (gn := gn) s 3 hE hs)
  have hpa := fun W (hb : Below w.heap.size w W) l hp hl => parent_any HF hV (h.below hb) s l (hE.below hb) hs hp hl
  have hki := fun W (hb : Below w.heap.size w W) hk => kind_any HF hV (h.below hb) s hk
  have hfu := fun W (hb : Below w.heap.size w W) => full_any (h.below hb)
  have hroot := @pNames_root s
  obtain ⟨p, t, h1, h2, h3, h4⟩ := getP_len hV.srt hL h
  have HPUT := Lib.hid (fun W (hb : Below w.heap.size w W) => TPut_any s dV t p W (h2.below hb) h4)
  have HTP := Lib.hid (show (t.put s dV).prs = insP s dV N by rw [prs_put s dV t (by rw [h3]; exact hV.srt), h3])
  have HNM := Lib.hid h
  have HR := Lib.hid h1
  have hke : ∀ W : World, Below w.heap.size w W → W.cell? ⟨gn, 0, none⟩ = some (.pointer p) := fun W hb => cell_row' ((hb.block gn (row_lt h1)).trans h1)
  have HKE := Lib.hid hke
  obtain ⟨P, hP⟩ : ∃ P, pNames s.data.toList = P := ⟨_, rfl⟩
  rw [hP] at HSO hroot hpa ⊢
  have HPA := Lib.hid hpa
  have HKI := Lib.hid hki
  have HFU := Lib.hid hfu
  have HROOT := Lib.hid hroot
  obtain ⟨E, hE'⟩ : ∃ E, mkE N P s = E := ⟨_, rfl⟩
  obtain ⟨M, hM⟩ : ∃ M, mkN N P s = M := ⟨_, rfl⟩
  rw [hE', hM]
  have HEM := Lib.hid (And.intro hE' hM)
  clear hpa hki hfu hroot h1 h2 h3 h4 h hP hE' hM hke HF hV hE hs
  go_enter Tryz.func18, Tryz.ntmps18
  go_wp2_with fail
  refine HSO.out.mono ?_
  rintro e w1 ⟨rfl, hb1⟩
  have HB1 := Lib.hid hb1
  obtain ⟨so, hso⟩ : ∃ so, soE 3 P = so := ⟨_, rfl⟩
  rw [hso]
  by_cases hso0 : so = 0
  rotate_left
  · have HSO0 := Lib.hid (And.intro hso hso0)
    clear hso hb1
    go_wp2_with fail
    go_ret
    obtain ⟨h1, h2⟩ := HEM.out
    obtain ⟨h3, h4⟩ := HSO0.out
    have h5 : mkE N P s = so := by rw [mkE, if_pos (by rw [h3]; exact h4), h3]
    rw [mkN, h5, if_neg h4] at h2
    rw [← h1, ← h2, h5]
    exact ⟨rfl, HNM.out.below HB1.out, Chg.belowAt HB1.out⟩
  subst hso0
  obtain ⟨l, hPl, hl⟩ : ∃ l, P = some l ∧ l ≠ [] := by
    cases P with
    | none => cases hso
    | some l => exact ⟨l, rfl, fun e => by rw [e] at hso; cases hso⟩
  have HPL := Lib.hid (And.intro hPl (And.intro hl hso))
  have hskey : s ≠ ⟨#[47]⟩ := fun e => hl (by have := HROOT.out.2 e; rw [hPl] at this; injection this)
  have HSK := Lib.hid hskey
  clear hPl hl hso hskey hb1
  go_wp2_with fail
  refine (HPA.out w1 HB1.out l HPL.out.1 HPL.out.2.1).mono ?_
  rintro e w2 ⟨rfl, hb2⟩
  have HB2 := Lib.hid (HB1.out.trans (hb2.mono HB1.out.size))
  obtain ⟨pa, hpa⟩ : ∃ pa, paE N l = pa := ⟨_, rfl⟩
  rw [hpa]
  by_cases hpa0 : pa = 0
  rotate_left
  · have HPA0 := Lib.hid (And.intro hpa hpa0)
    clear hpa hb2
    go_wp2_with fail
    go_ret
    obtain ⟨h1, h2⟩ := HEM.out
    obtain ⟨h3, h4⟩ := HPA0.out
    obtain ⟨h6, h7, h8⟩ := HPL.out
    have h9 : paE N (P.getD []) = pa := by rw [h6]; exact h3
    have h5 : mkE N P s = pa := by rw [mkE, if_neg (by rw [h8]; simp), if_pos (by rw [h9]; exact h4), h9]
    rw [mkN, h5, if_neg h4] at h2
    rw [← h1, ← h2, h5]
    exact ⟨rfl, HNM.out.below HB2.out, Chg.belowAt HB2.out⟩
  subst hpa0
  have HPA0 := Lib.hid hpa
  clear hpa hb2
  go_wp2_with fail
  refine (HKI.out w2 HB2.out HSK.out).mono ?_
  rintro e w3 ⟨rfl, rfl⟩
  have e9 : paE N (P.getD []) = 0 := by rw [HPL.out.1]; exact HPA0.out
  have e8 : ∀ E', (if (getP s N).isSome = true then 3 else if 4096 ≤ N.length then (4 : Int) else 0) = E' → E = E' := fun E' h => by
    rw [← HEM.out.1, mkE, if_neg (by rw [HPL.out.2.2]; simp), if_neg (by rw [e9]; simp)]; exact h
  have e7 : E ≠ 0 → M = N := fun h => by rw [← HEM.out.2, mkN, HEM.out.1, if_neg h]
  have e6 : E = 0 → M = insP s dV N := fun h => by rw [← HEM.out.2, mkN, HEM.out.1, if_pos h]
  have HX := Lib.hid (And.intro e8 (And.intro e7 e6))
  clear e9 e8 e7 e6
  by_cases hg : (getP s N).isSome = true
  · have hk : kd (getP s N) = dV ∨ kd (getP s N) = fV := by
      cases hh : getP s N with
      | none => rw [hh] at hg; cases hg
      | some v =>
        unfold kd
        by_cases hd : v = dV
        · simp [hd]
        · simp [hd]
    have h1 := HX.out.1 3 (by rw [if_pos hg])
    have h2 := HX.out.2.1 (by rw [h1]; decide)
    have HH := Lib.hid (And.intro h1 h2)
    obtain ⟨y, hy⟩ : ∃ y, kd (getP s N) = y := ⟨_, rfl⟩
    rw [hy] at hk ⊢
    clear h1 h2 hg hy
    rcases hk with rfl | rfl
    · unfold dV
      go_wp2_with fail
      go_ret
      rw [HH.out.1, HH.out.2]
      exact ⟨rfl, HNM.out.below HB2.out, Chg.belowAt HB2.out⟩
    · unfold fV
      go_wp2_with fail
      go_ret
      rw [HH.out.1, HH.out.2]
      exact ⟨rfl, HNM.out.below HB2.out, Chg.belowAt HB2.out⟩
  · have hk : kd (getP s N) = ⟨#[]⟩ := by
      cases hh : getP s N with
      | none => rfl
      | some v => rw [hh] at hg; exact absurd rfl hg
    rw [hk]
    have HG := Lib.hid hg
    clear hk hg
    go_wp2_with fail
    refine (HFU.out w2 HB2.out).mono ?_
    rintro e w3 ⟨rfl, rfl⟩
    by_cases hf : 4096 ≤ N.length
    · rw [decide_eq_true hf]
      have h1 := HX.out.1 4 (by rw [if_neg HG.out, if_pos hf])
      have h2 := HX.out.2.1 (by rw [h1]; decide)
      have HH := Lib.hid (And.intro h1 h2)
      clear h1 h2 hf hL
      go_wp2_with fail
      go_ret
      rw [HH.out.1, HH.out.2]
      exact ⟨rfl, HNM.out.below HB2.out, Chg.belowAt HB2.out⟩
    · rw [decide_eq_false hf]
      have h1 := HX.out.1 0 (by rw [if_neg HG.out, if_neg hf])
      have h2 := HX.out.2.2 h1
      have HH := Lib.hid (And.intro h1 h2)
      have ca0 := HKE.out w2 HB2.out
      clear h1 h2 hf hL
      go_wp2_with fail
      refine (HPUT.out w2 HB2.out).mono ?_
      rintro e w4 ⟨p', rfl, ht4, hb4⟩
      have HB4 := Lib.hid (HB2.out.trans (hb4.mono HB2.out.size))
      have HT4 := Lib.hid (HR.out |> fun h => Nm.turn h HB4.out ht4 HTP.out)
      have hr4 := (HB4.out.block gn (row_lt HR.out)).trans HR.out
      have c40 : w4.cell? ⟨gn, 0, none⟩ = some (.pointer p) := cell_row' hr4
      have f40 := free_row hr4 0
      clear ht4 hb4 hr4 ca0
      go_wp2_with fail
      go_ret
      rw [HH.out.1, HH.out.2]
      exact ⟨rfl, HT4.out⟩
end
end Go.Proofs.YtcklcffepedklaaGreatDoor

namespace Go.Proofs.YtcklcffepedklaaGreatDoor
open Go.RowKit Go.Maps

theorem lt_snoc0 : ∀ x k : L8, x < k ++ [0] ↔ ¬ k < x
  | [], k => by
    constructor
    · intro _ h; exact absurd h (List.not_lt_nil k)
    · intro _; cases k <;> simp
  | a :: x, [] => by
    constructor
    · intro h
      rw [List.nil_append, List.cons_lt_cons_iff] at h
      rcases h with h | ⟨_, h⟩
      · exact absurd h (by simp)
      · exact absurd h (List.not_lt_nil x)
    · intro h; exact absurd (List.nil_lt_cons a x) h
  | a :: x, c :: k => by
    have ih := lt_snoc0 x k
    rw [List.cons_append, List.cons_lt_cons_iff, List.cons_lt_cons_iff, ih]
    constructor
    · rintro (h | ⟨rfl, h⟩) (h2 | ⟨h2, h3⟩)
      · exact absurd (UInt8.lt_trans h h2) (UInt8.lt_irrefl _)
      · subst h2; exact absurd h (UInt8.lt_irrefl _)
      · exact absurd h2 (UInt8.lt_irrefl _)
      · exact h h3
    · intro h
      by_cases h1 : a < c
      · exact .inl h1
      · by_cases h2 : a = c
        · exact .inr ⟨h2, fun h3 => h (.inr ⟨h2.symm, h3⟩)⟩
        · refine absurd (.inl ?_) h
          exact UInt8.lt_of_le_of_ne (UInt8.not_lt.1 h1) (fun e => h2 e.symm)
/-- The text right behind another. -/
def nxt (k : BA) : BA := k ++ ⟨#[0]⟩
theorem app_data (a b : BA) : (a ++ b).data.toList = a.data.toList ++ b.data.toList := by
  rw [ByteArray.data_append]; simp
theorem bl_nxt (x k : BA) : bl x (nxt k) = !(bl k x) := by
  rw [Bool.eq_iff_iff, bl_iff, nxt, app_data, show (⟨#[0]⟩ : BA).data.toList = [0] from rfl, lt_snoc0, ← bl_iff]
  simp
theorem geP_srtd {f : BA} {N : List PR} (h : Srtd N) : Srtd (geP f N) := List.Pairwise.sublist List.filter_sublist h
/-- Behind a page there is what stands from its last key's next on. -/
theorem geP_next {f : BA} {N : List PR} (h : Srtd N) {P R : List PR} {x : PR} (hg : geP f N = P ++ x :: R) : geP (nxt x.1) N = R := by
  have hs : Srtd (P ++ x :: R) := hg ▸ geP_srtd h
  obtain ⟨_, hx, hc⟩ := List.pairwise_append.1 hs
  have hx' := List.pairwise_cons.1 hx
  have e1 : geP (nxt x.1) N = geP (nxt x.1) (geP f N) := by
    unfold geP
    rw [List.filter_filter]
    refine List.filter_congr fun y hy => ?_
    rw [bl_nxt, Bool.not_not]
    by_cases h1 : bl x.1 y.1 = true
    · have hxm : x ∈ geP f N := by rw [hg]; simp
      have h2 : bl x.1 f = false := by
        have := (List.mem_filter.1 hxm).2; simpa using this
      have h3 : bl y.1 f = false := by
        rw [← Bool.not_eq_true]; intro h3; rw [bl_trans h1 h3] at h2; cases h2
      simp [h1, h3]
    · simp [h1]
  rw [e1, hg]
  have e2 : geP (nxt x.1) P = [] := geP_none fun y hy => by
    rw [bl_nxt, bl_asymm (hc y hy x (by simp))]; rfl
  have e3 : geP (nxt x.1) R = R := List.filter_eq_self.2 fun y hy => by
    rw [bl_nxt, hx'.1 y hy]; rfl
  rw [geP_app, e2, List.nil_append, geP_cons, if_pos (by rw [bl_nxt, bl_irrefl]; rfl), e3]
/-- A pair's key has a front. -/
def pfx (f : BA) (x : PR) : Bool := Lib.hasPrefix x.1.data.toList f.data.toList
/-- What is told: the pairs whose keys have a front. -/
def inP (f : BA) (N : List PR) : List PR := (geP f N).takeWhile (pfx f)
/-- A function that is told pairs, and keeps what it was told in blocks of its own. -/
structure TellsP (g : Nat) (lb : Array Value) (wb : World) (b : Bool) (m : Nat) (Q : PR → Prop) (J : List PR → (Nat → Prop) → World → Prop) : Prop where
  enters : ∀ args W, (callFunc g args).run Tryz.prog W = .ok (.enter g args) W
  keep : ∀ acc F W W' R, J acc F W → Chg R W W' → (∀ x, F x → ¬ R x) → J acc F W'
  bound : ∀ acc F W, J acc F W → ∀ x, F x → x < W.heap.size
  base : ∀ acc F W, J acc F W → ∀ x, F x → wb.heap.size ≤ x
  told : ∀ acc F W k v, J acc F W → acc.length < m → Q (k, v) → Calls Tryz.prog g (#[.agg #[.string k, .string v]] ++ lb) W fun e W' => e = .returned (.bool b) ∧ ∃ F', J (acc ++ [(k, v)]) F' W' ∧ Chg F W W' ∧ ∀ x, F' x → F x ∨ W.heap.size ≤ x
set_option maxRecDepth 20000 in
set_option maxHeartbeats 1600000 in
theorem within_any {g : Nat} {lb : Array Value} {wb : World} {b : Bool} {m : Nat} {Q : PR → Prop} {J : List PR → (Nat → Prop) → World → Prop} (hT : TellsP g lb wb b m Q J) (t : Tre) (p : Option Addr) (s : BA) (acc0 : List PR) (F0 : Nat → Prop) (w : World)
    (ht : TrAt wb p t) (hs : Srtd t.prs) (hb : Below wb.heap.size wb w) (hj : J acc0 F0 w) (hsz : s.size ≤ 1000000) (f : BA) (hf : (⟨(Lib.trimSuffix s.data.toList [47]).toArray⟩ : BA) ++ ⟨#[47]⟩ = f) (hm : acc0.length + t.len < m) (hks : ∀ x ∈ t.prs, x.1.size ≤ 1000000) (hQ : ∀ x ∈ t.prs, Q x) :
    Calls Tryz.prog 47 #[.pointer p, .string s, .func (.func g) #[] lb] w fun e w' => e = .returned (.tuple #[]) ∧ ∃ F', J (acc0 ++ if b = true then inP f t.prs else (inP f t.prs).take 1) F' w' ∧ Chg F0 w w' ∧ ∀ x, F' x → F0 x ∨ w.heap.size ≤ x := by
  have HTS := Lib.hid (Tryz.strings_TrimSuffix s ⟨#[47]⟩ w (by omega))
  have HPF := Lib.hid (fun k W => Tryz.strings_HasPrefix k f W)
  have HT := Lib.hid hT
  have HTR := Lib.hid ht
  have HS := Lib.hid hs
  have HB := Lib.hid hb
  have HJ := Lib.hid hj
  have HM := Lib.hid hm
  obtain ⟨r, hr⟩ : ∃ r, (⟨(Lib.trimSuffix s.data.toList [47]).toArray⟩ : BA) = r := ⟨_, rfl⟩
  rw [show (⟨#[47]⟩ : BA).data.toList = [47] from rfl, hr] at HTS
  rw [hr] at hf
  have hrs : ¬ 9223372036854775807 < r.size + 1 := by
    have : r.size ≤ s.size := by
      rw [← hr]
      show (Lib.trimSuffix s.data.toList [47]).toArray.size ≤ s.data.size
      unfold Lib.trimSuffix
      split <;> simp
    omega
  have HKS := Lib.hid hks
  have HQQ := Lib.hid hQ
  have HF := Lib.hid hf
  obtain ⟨L, hL⟩ : ∃ L, (if b = true then inP f t.prs else (inP f t.prs).take 1) = L := ⟨_, rfl⟩
  rw [hL]
  have HL := Lib.hid hL
  clear hT ht hs hb hj hm hr hf hL hks hQ
  go_enter Tryz.func47, Tryz.ntmps47
  go_wp2_with fail
  refine HTS.out.mono ?_
  rintro e w' ⟨rfl, hw'⟩
  rw [hw']
  clear hw'
  go_upto_region 2 with (fail)
  rw [HF.out]
  clear hrs
  go_loopg [7] ((geP f t.prs).length + 1) (fun kq v7 w' => ∃ (fr : BA) (D : List PR) (F : Nat → Prop), v7 = .string fr ∧ (geP fr t.prs).length < kq ∧ Hid (D ++ (geP fr t.prs).takeWhile (pfx f) = inP f t.prs) ∧ Hid (b = true ∨ D = []) ∧ Hid (J (acc0 ++ D) F w' ∧ Chg F0 w w' ∧ ∀ x, F x → F0 x ∨ w.heap.size ≤ x))
  case atStart => exact ⟨f, [], F0, rfl, by omega, rfl, .inr rfl, Lib.hid ⟨by rw [List.append_nil]; exact HJ.out, Chg.refl _ _, fun x h => .inl h⟩⟩
  case round =>
    obtain ⟨fr, D, F, rfl, hk, HD, HBD, HJ1⟩ := hrel
    have hbw : Below wb.heap.size wb wr := HB.out.trans (HJ1.out.2.1.below HB.out.size (HT.out.base _ _ _ HJ.out))
    have HFR := Lib.hid (From_any fr 64 (HTR.out.below hbw) HS.out (by decide) (by decide))
    have HK := Lib.hid hk
    clear hk hbw
    go_wp2_with fail
    refine HFR.out.mono ?_
    rintro e w1 ⟨A, c, rfl, ho, hb1⟩
    obtain ⟨P, hP⟩ : ∃ P, (geP fr t.prs).take 64 = P := ⟨_, rfl⟩
    rw [hP] at ho
    rw [hP]
    obtain ⟨n, hn⟩ : ∃ n, P.length = n := ⟨_, rfl⟩
    have hn64 : n ≤ 64 := by rw [← hn, ← hP, List.length_take]; omega
    have hPA := ho.at_
    have hAN : ∀ ad, A = some ad → ¬ F ad.block := fun ad e hF => by
      have h1 := (ho.lt ad.block (by rw [e]; rfl)).1
      have h2 := HT.out.bound _ _ _ HJ1.out.1 _ hF
      omega
    have HPP := Lib.hid (And.intro hP (And.intro hn hn64))
    have hJ2 : J (acc0 ++ D) F w1 ∧ Chg F0 w w1 ∧ ∀ x, F x → F0 x ∨ w.heap.size ≤ x := ⟨HT.out.keep _ _ _ _ (fun _ => False) HJ1.out.1 (Chg.belowAt hb1) (fun _ _ h => h), HJ1.out.2.1.below0 hb1, HJ1.out.2.2⟩
    have HJ2 := Lib.hid hJ2
    rw [hn]
    clear ho hb1 hP hJ2 hn hn64 HJ1 HFR
    go_upto_region 4 with (fail)
    have HPA := Lib.hid hPA
    have HAN := Lib.hid hAN
    have HSPL := Lib.hid (show geP fr t.prs = P ++ (geP fr t.prs).drop 64 from by rw [← HPP.out.1]; exact (List.take_append_drop 64 _).symm)
    have HSUB := Lib.hid (show (inP f t.prs).length ≤ t.len from by
      rw [← Tre.prs_len]
      exact Nat.le_trans (List.takeWhile_prefix _).length_le (List.length_filter_le _ _))
    clear hPA hAN
    go_loopg [20] n (fun kq v20 w' => ∃ (i : Nat) (F2 : Nat → Prop), v20 = .int .i64 (i : Int) ∧ i + kq = n ∧ Hid (∀ x ∈ P.take i, pfx f x = true) ∧ Hid (b = true ∨ i = 0) ∧ Hid (J (acc0 ++ (D ++ P.take i)) F2 w' ∧ Chg F0 w w' ∧ ∀ x, F2 x → F0 x ∨ w.heap.size ≤ x) ∧ Hid (PrAt w' A P ∧ ∀ ad, A = some ad → ¬ F2 ad.block))
    case atStart => exact ⟨0, F, rfl, by omega, fun x hx => by simp at hx, .inr rfl, Lib.hid ⟨by rw [List.take_zero, List.append_nil]; exact HJ2.out.1, HJ2.out.2⟩, Lib.hid ⟨HPA.out, HAN.out⟩⟩
    case round =>
      obtain ⟨i, F2, rfl, hi, HPX, HBI, HJ3, HA3⟩ := hrel
      by_cases hlt : i < n
      · have hil : i < P.length := by rw [HPP.out.2.1]; exact hlt
        obtain ⟨x, hx⟩ : ∃ x, P[i]? = some x := ⟨_, List.getElem?_eq_getElem hil⟩
        obtain ⟨g0, hA, hrg⟩ := HA3.out.1 i x hx
        have hd0 : P = P.take i ++ x :: P.drop (i + 1) := by
          conv => lhs; rw [← List.take_append_drop i P, List.drop_eq_getElem_cons hil]
          rw [List.getElem?_eq_getElem hil] at hx
          injection hx with hx; rw [hx]
        have HD0 := Lib.hid hd0
        have HQX := Lib.hid (HQQ.out x (by
          have h1 := List.mem_of_getElem? hx
          rw [← HPP.out.1] at h1
          exact (List.mem_filter.1 (List.mem_of_mem_take h1)).1))
        have HAE := Lib.hid hA
        subst hA
        have hi0 : (0 : Int) ≤ (i : Int) := by omega
        have hi1 : (i : Int) < (n : Int) := by omega
        obtain ⟨xk, xv⟩ := x
        have HRG := Lib.hid (show wr.rangeAt g0 (i * 2) [.string xk, .string xv] from hrg)
        obtain ⟨q, hq⟩ : ∃ q, Lib.hasPrefix xk.data.toList f.data.toList = q := ⟨_, rfl⟩
        have hpf := fun W => HPF.out xk W
        rw [hq] at hpf
        have HPQ := Lib.hid hpf
        have HQ := Lib.hid (show pfx f (xk, xv) = q from hq)
        have hr2 := heap_alloc_last wr (.cells #[.string xk, .string xv] 97)
        have hb2 := (Below.refl wr.heap.size wr).alloc (Nat.le_refl _) (.cells #[.string xk, .string xv] 97)
        have k0 : (wr.alloc (.cells #[.string xk, .string xv] 97)).cell? ⟨wr.heap.size, 0, none⟩ = some (.string xk) := cell_row' hr2
        have k1 : (wr.alloc (.cells #[.string xk, .string xv] 97)).cell? ⟨wr.heap.size, 1, none⟩ = some (.string xv) := cell_row' hr2
        have HB2 := Lib.hid hb2
        have HTK := Lib.hid (show (geP fr t.prs).takeWhile (pfx f) = P.take i ++ ((xk, xv) :: (P.drop (i + 1) ++ (geP fr t.prs).drop 64)).takeWhile (pfx f) by
          conv => lhs; rw [HSPL.out, HD0.out]
          rw [List.append_assoc, List.takeWhile_append_of_pos (fun y hy => HPX.out y hy), List.cons_append])
        clear hd0 hx hil hrg hq hpf hr2 hb2 hlt
        go_wp2_with (first | (with_reducible refine Go.wpList_load_mid rfl 97 _ rfl g0 (i * 2) rfl [.string xk, .string xv] _ HRG.out Tryz.underlying97 rfl rfl ?_) | fail)
        refine (HPQ.out _).mono ?_
        rintro e w3 ⟨rfl, hw3⟩
        rw [hw3]
        clear hw3
        obtain ⟨w2, hw2⟩ : ∃ w2, wr.alloc (.cells #[.string xk, .string xv] 97) = w2 := ⟨_, rfl⟩
        have hb2 := HB2.out
        rw [hw2] at k0 k1 hb2 ⊢
        have HB3 := Lib.hid hb2
        have hj2 : J (acc0 ++ (D ++ P.take i)) F2 w2 ∧ Chg F0 w w2 ∧ ∀ x, F2 x → F0 x ∨ w.heap.size ≤ x := ⟨HT.out.keep _ _ _ _ (fun _ => False) HJ3.out.1 (Chg.belowAt hb2) (fun _ _ h => h), HJ3.out.2.1.below0 hb2, HJ3.out.2.2⟩
        have HJ4 := Lib.hid hj2
        clear hw2 hb2 hj2
        have HII := Lib.hid hi
        cases q with
        | false =>
          clear k0 k1
          go_wp2_with fail
          refine bodyPost_ret (results_none rfl _ _ _) rfl ?_
          have htk := HTK.out
          rw [List.takeWhile_cons_of_neg (by rw [HQ.out]; simp), List.append_nil] at htk
          have hin : inP f t.prs = D ++ P.take i := by rw [← HD.out, htk]
          have hL : L = D ++ P.take i := by
            rw [← HL.out, hin]
            by_cases hbb : b = true
            · rw [if_pos hbb]
            · have h1 := HBD.out.resolve_left hbb
              have h2 := HBI.out.resolve_left hbb
              rw [if_neg hbb, h1, h2]; rfl
          rw [hL]
          exact ⟨rfl, F2, HJ4.out⟩
        | true =>
          have hin : inP f t.prs = (D ++ P.take i) ++ (xk, xv) :: (P.drop (i + 1) ++ (geP fr t.prs).drop 64).takeWhile (pfx f) := by
            rw [← HD.out, HTK.out, List.takeWhile_cons_of_pos (by rw [HQ.out]), List.append_assoc]
          have hlen : (acc0 ++ (D ++ P.take i)).length < m := by
            have h1 := HSUB.out
            rw [hin] at h1
            simp only [List.length_append, List.length_cons] at h1 ⊢
            have := HM.out
            omega
          have HIN := Lib.hid hin
          have HC := Lib.hid (HT.out.told _ _ w2 xk xv HJ4.out.1 hlen HQX.out)
          have eg := HT.out.enters
          have hil' : i < P.length := by rw [HPP.out.2.1]; omega
          have HAL := Lib.hid (show g0 < wr.heap.size from by
            obtain ⟨g', e', hr'⟩ := HA3.out.1 i (xk, xv) (by rw [HD0.out]; rw [List.getElem?_append_right (by simp; omega)]; simp [List.length_take, Nat.min_eq_left (Nat.le_of_lt hil')])
            injection e' with e'; injection e' with e'; subst e'
            exact range_lt hr' (by simp [prC]))
          clear hin hlen hil'
          go_wp2_with fail
          refine HC.out.mono ?_
          rintro e w4 ⟨rfl, F4, hj4, hc4, hf4⟩
          have hx1 : P.take (i + 1) = P.take i ++ [(xk, xv)] := by
            have hii := HII.out
            have := HPP.out.2.1
            conv => lhs; rw [HD0.out]
            rw [List.take_append, List.take_of_length_le (by rw [List.length_take]; omega), List.length_take, show i + 1 - min i P.length = 1 from by omega]; rfl
          have HX1 := Lib.hid hx1
          have HJ5 := Lib.hid (show J (acc0 ++ (D ++ P.take (i + 1))) F4 w4 ∧ Chg F0 w w4 ∧ ∀ x, F4 x → F0 x ∨ w.heap.size ≤ x from by
            rw [hx1, ← List.append_assoc D, ← List.append_assoc]
            refine ⟨hj4, HJ4.out.2.1.new hc4 HJ4.out.2.2, fun y hy => ?_⟩
            rcases hf4 y hy with h | h
            · exact HJ4.out.2.2 y h
            · exact .inr (Nat.le_trans HJ4.out.2.1.size h))
          have HA5 := Lib.hid (show PrAt w4 (some ⟨g0, 0, none⟩) P ∧ ∀ ad, some (⟨g0, 0, none⟩ : Addr) = some ad → ¬ F4 ad.block from by
            have h1 := HAL.out
            have h2 := HB3.out.size
            refine ⟨fun j y hj => ?_, fun ad e hF => ?_⟩
            · obtain ⟨g', e', hr'⟩ := HA3.out.1 j y hj
              injection e' with e'; injection e' with e'; subst e'
              refine ⟨_, rfl, rangeAt_block hr' ((hc4.block g0 (by omega) (HA3.out.2 _ rfl)).trans (HB3.out.block g0 h1))⟩
            · injection e with e; subst e
              rcases hf4 _ hF with h | h
              · exact HA3.out.2 _ rfl h
              · have : w2.heap.size ≤ g0 := h
                omega)
          clear hx1 hj4 hc4 hf4 k0 k1 eg HC HAL
          cases b with
          | false =>
            go_wp2_with fail
            refine bodyPost_ret (results_none rfl _ _ _) rfl ?_
            have h1 := HBD.out.resolve_left (by simp)
            have h2 := HBI.out.resolve_left (by simp)
            subst h1
            subst h2
            have hL : L = [] ++ P.take (0 + 1) := by
              rw [← HL.out, if_neg (by simp), HIN.out, HX1.out]; rfl
            rw [hL]
            exact ⟨rfl, F4, HJ5.out⟩
          | true =>
            have hn64 := HPP.out.2.2
            go_wp2_with fail
            go_roundg (n - (i + 1))
            case measure => omega
            case rel =>
              refine ⟨i + 1, F4, by go_num, by omega, fun y hy => ?_, .inl trivial, HJ5.out, HA5.out⟩
              rw [HX1.out] at hy
              rcases List.mem_append.1 hy with hy | hy
              · exact HPX.out y hy
              · have : y = (xk, xv) := by simpa using hy
                rw [this, HQ.out]
      · obtain rfl : i = n := by omega
        have hti : P.take i = P := List.take_of_length_le (by rw [HPP.out.2.1]; exact Nat.le_refl _)
        have HTI := Lib.hid hti
        by_cases h64 : i < 64
        · have h64' : (i : Int) < 64 := by omega
          have hrest : (geP fr t.prs).drop 64 = [] := by
            have h1 := HPP.out.2.1
            rw [← HPP.out.1, List.length_take] at h1
            exact List.drop_of_length_le (by omega)
          have HRS := Lib.hid hrest
          clear hti hlt hrest h64
          go_wp2_with fail
          refine bodyPost_ret (results_none rfl _ _ _) rfl ?_
          have hin : inP f t.prs = D ++ P.take i := by
            rw [← HD.out, HSPL.out, HRS.out, List.append_nil, HTI.out]
            congr 1
            have h1 := HPX.out
            rw [HTI.out] at h1
            have h2 := List.takeWhile_append_of_pos (l₂ := []) h1
            rw [List.append_nil] at h2; rw [h2]; simp
          have hL : L = D ++ P.take i := by
            rw [← HL.out, hin]
            by_cases hbb : b = true
            · rw [if_pos hbb]
            · have h1 := HBD.out.resolve_left hbb
              have h2 := HBI.out.resolve_left hbb
              rw [if_neg hbb, h1, h2]; rfl
          rw [hL]
          exact ⟨rfl, F2, HJ3.out⟩
        · have h64' : ¬ (i : Int) < 64 := by omega
          obtain rfl : i = 64 := by have := HPP.out.2.2; omega
          have hbt : b = true := HBI.out.resolve_right (by decide)
          have hil : 63 < P.length := by rw [HPP.out.2.1]; decide
          obtain ⟨x, hx⟩ : ∃ x, P[63]? = some x := ⟨_, List.getElem?_eq_getElem hil⟩
          obtain ⟨g0, hA, hrg⟩ := HA3.out.1 63 x hx
          obtain ⟨xk, xv⟩ := x
          have c63 : wr.cell? ⟨g0, 126, none⟩ = some (.string xk) := hrg 0 _ rfl
          have hxm : (xk, xv) ∈ t.prs := by
            have h1 := List.mem_of_getElem? hx
            rw [← HPP.out.1] at h1
            exact (List.mem_filter.1 (List.mem_of_mem_take h1)).1
          have hks := HKS.out _ hxm
          have hcat : ¬ 9223372036854775807 < xk.size + 1 := by
            have : xk.size ≤ 1000000 := hks
            omega
          have hP63 : P = P.take 63 ++ [(xk, xv)] := by
            have := List.take_add_one (l := P) (i := 63)
            rw [hx, HTI.out] at this; exact this
          have hg2 : geP fr t.prs = P.take 63 ++ (xk, xv) :: (geP fr t.prs).drop 64 := by
            conv => lhs; rw [HSPL.out, hP63]
            rw [List.append_assoc]; rfl
          have HNX := Lib.hid (geP_next HS.out hg2)
          have HLEN := Lib.hid (show (geP fr t.prs).length = ((geP fr t.prs).drop 64).length + 64 from by
            have h1 := HPP.out.2.1
            rw [← HPP.out.1, List.length_take] at h1
            rw [List.length_drop]; omega)
          have HAE := Lib.hid hA
          have HX := Lib.hid (And.intro hbt hxm)
          subst hA
          clear hti hlt h64 hil hx hrg hxm hks hP63 hg2 hbt
          go_wp2_with fail
          go_roundg ((geP (nxt xk) t.prs).length + 1)
          case measure => rw [HNX.out]; have := HLEN.out; have := HK.out; omega
          case rel =>
            have hd : (D ++ P.take 64) ++ (geP (nxt xk) t.prs).takeWhile (pfx f) = inP f t.prs := by
              have h1 : (geP fr t.prs).takeWhile (pfx f) = P ++ ((geP fr t.prs).drop 64).takeWhile (pfx f) := by
                conv => lhs; rw [HSPL.out]
                exact List.takeWhile_append_of_pos (fun y hy => HPX.out y (by rw [HTI.out]; exact hy))
              rw [← HD.out, HNX.out, List.append_assoc, h1, HTI.out]
            exact ⟨nxt xk, D ++ P.take 64, F2, rfl, Nat.lt_succ_self _, Lib.hid hd, Lib.hid (.inl HX.out.1), HJ3⟩
end Go.Proofs.YtcklcffepedklaaGreatDoor

namespace Go.Proofs.YtcklcffepedklaaGreatDoor
open Go.RowKit Go.Maps

theorem pfx_between : ∀ f x y : L8, f <+: x → ¬ y < f → ¬ x < y → f <+: y
  | [], _, y, _, _, _ => List.nil_prefix
  | c :: f, x, y, hx, h1, h2 => by
    obtain ⟨t, rfl⟩ := hx
    cases y with
    | nil => exact absurd (List.nil_lt_cons c f) h1
    | cons d y =>
      rw [List.cons_lt_cons_iff] at h1
      rw [List.cons_append, List.cons_lt_cons_iff] at h2
      have hdc : d = c := by
        rcases UInt8.lt_or_lt_of_ne (a := d) (b := c) |> fun h => Classical.em (d = c) |>.imp id h with h | h | h
        · exact h
        · exact absurd (.inl h) h1
        · exact absurd (.inl h) h2
      subst hdc
      have ih := pfx_between f (f ++ t) y (List.prefix_append f t) (fun h => h1 (.inr ⟨rfl, h⟩)) (fun h => h2 (.inr ⟨rfl, h⟩))
      obtain ⟨u, rfl⟩ := ih
      exact ⟨u, rfl⟩
theorem pfx_iff' {f : BA} {x : PR} : pfx f x = true ↔ f.data.toList <+: x.1.data.toList := by
  unfold pfx Lib.hasPrefix; exact List.isPrefixOf_iff_prefix
theorem not_lt_pfx : ∀ f t : L8, ¬ (f ++ t) < f
  | [], t => List.not_lt_nil _
  | c :: f, t => by
    rw [List.cons_append, List.cons_lt_cons_iff]
    rintro (h | ⟨_, h⟩)
    · exact absurd h (UInt8.lt_irrefl _)
    · exact not_lt_pfx f t h
theorem takeWhile_pfx {f : BA} : ∀ {M : List PR}, Srtd M → (∀ x ∈ M, bl x.1 f = false) → M.takeWhile (pfx f) = M.filter (pfx f)
  | [], _, _ => rfl
  | y :: M, hs, hf => by
    have hs' := List.pairwise_cons.1 hs
    by_cases hy : pfx f y = true
    · rw [List.takeWhile_cons_of_pos hy, List.filter_cons_of_pos hy, takeWhile_pfx hs'.2 fun x hx => hf x (by simp [hx])]
    · rw [List.takeWhile_cons_of_neg hy, List.filter_cons_of_neg hy]
      symm
      refine List.filter_eq_nil_iff.2 fun x hx hx' => hy (pfx_iff'.2 (pfx_between _ _ _ (pfx_iff'.1 hx') ?_ ?_))
      · rw [← bl_iff, hf y (by simp)]; simp
      · rw [← bl_iff, bl_asymm (hs'.1 x hx)]; simp
/-- The pairs whose keys have a front: all of them. -/
theorem inP_eq {f : BA} {N : List PR} (h : Srtd N) : inP f N = N.filter (pfx f) := by
  rw [inP, takeWhile_pfx (geP_srtd h) (fun x hx => by have := (List.mem_filter.1 hx).2; simpa using this), geP, List.filter_filter]
  refine List.filter_congr fun x _ => ?_
  by_cases hx : pfx f x = true
  · rw [hx]
    obtain ⟨t, ht⟩ := pfx_iff'.1 hx
    have : bl x.1 f = false := by
      rw [← Bool.not_eq_true, bl_iff, ← ht]; exact not_lt_pfx _ _
    rw [this]; rfl
  · simp [hx]
theorem front_of {l : List L8} (hp : PN l) (hl : l ≠ []) : ((⟨(Lib.trimSuffix (bp l).data.toList [47]).toArray⟩ : BA) ++ ⟨#[47]⟩).data.toList = joinP l ++ [47] := by
  rw [app_data, bp_data hl, Lib.trimSuffix, joinP_last hp hl]; rfl
theorem val_keys {FB : BA → Prop} {N : List PR} (h : Val FB N) : ∀ x ∈ N, x.1.size ≤ 1000000 := fun x hx => by
  obtain ⟨l, hl⟩ := h.ok x hx
  rw [hl.key, size_data, bp, ba_data]
  have := pOf_len hl.pn; omega
/-- One variable that tells whether nothing was told. -/
def RmJ (wb : World) (hv : Nat) (acc : List PR) (F : Nat → Prop) (W : World) : Prop :=
  (∀ x, F x ↔ x = hv) ∧ wb.heap.size ≤ hv ∧ W.heap[hv]? = some (.cells #[.bool (decide (acc = []))] 4 (0, 0))
set_option maxRecDepth 20000 in
theorem Rm1_any (wb : World) (hv : Nat) (acc : List PR) (F : Nat → Prop) (W : World) (k v : BA) (hj : RmJ wb hv acc F W) :
    Calls Tryz.prog 50 #[.agg #[.string k, .string v], .pointer (some ⟨hv, 0, none⟩)] W fun e W' => e = .returned (.bool false) ∧ ∃ F', RmJ wb hv (acc ++ [(k, v)]) F' W' ∧ Chg F W W' ∧ ∀ x, F' x → F x ∨ W.heap.size ≤ x := by
  obtain ⟨h1, h2, h3⟩ := hj
  have hb := (Below.refl W.heap.size W).alloc (Nat.le_refl _) (.cells #[.string k, .string v] 97)
  have hr := (hb.block hv (row_lt h3)).trans h3
  have c0 : (W.alloc (.cells #[.string k, .string v] 97)).cell? ⟨hv, 0, none⟩ = some (.bool (decide (acc = []))) := cell_row' hr
  have f0 := free_row hr 0
  obtain ⟨q, hq⟩ : ∃ q, decide (acc = []) = q := ⟨_, rfl⟩
  rw [hq] at c0
  have HR := Lib.hid hr
  have HX := Lib.hid (And.intro h1 h2)
  have HB := Lib.hid hb
  clear h1 h2 h3 hr hb hq
  go_enter Tryz.func50, Tryz.ntmps50
  go_wp2
  go_ret
  have hc := Chg.of_ (R := F) (grown_setCell (W.alloc (.cells #[.string k, .string v] 97)) hv 0 (.bool false)) (fun k _ e => by injection e with e; exact (HX.out.1 k).2 e.symm)
  refine ⟨rfl, F, ⟨HX.out.1, HX.out.2, ?_⟩, (Chg.belowAt HB.out).trans hc, fun x h => .inl h⟩
  have e1 : decide (acc ++ [(k, v)] = []) = false := by simp
  rw [e1, setCell_row HR.out]; rfl
theorem rm_tells (wb : World) (hv m : Nat) : TellsP 50 #[.pointer (some ⟨hv, 0, none⟩)] wb false m (fun _ => True) (RmJ wb hv) where
  enters := enters_of Tryz.func50 (by kernel_rfl) rfl
  keep acc F W W' R hj hc hR := ⟨hj.1, hj.2.1, (hc.block hv (row_lt hj.2.2) (hR hv ((hj.1 hv).2 rfl))).trans hj.2.2⟩
  bound acc F W hj x hx := by rw [(hj.1 x).1 hx]; exact row_lt hj.2.2
  base acc F W hj x hx := by rw [(hj.1 x).1 hx]; exact hj.2.1
  told acc F W k v hj _ _ := Rm1_any wb hv acc F W k v hj
set_option maxRecDepth 20000 in
set_option maxHeartbeats 800000 in
theorem Remove_any {FB : BA → Prop} {w : World} {gn gm : Nat} {N : List PR} (HF : FOk FB) (hV : Val FB N) (hL : N.length ≤ 4096) (h : Nm w gn gm N) (s : BA) (hE : Env w) (hs : s.size ≤ 1000000) :
    Calls Tryz.prog 26 #[.pointer (some ⟨gn, 0, none⟩), .string s] w fun e w' => ∃ c N', e = .returned (.int .i64 c) ∧ Nm w' gn gm N' ∧ Val FB N' ∧ N'.length ≤ 4096 ∧ Chg (fun x => x = gn) w w' := by
  have HSO := Lib.hid (sound_any (gn := gn) s 191 hE hs)
  have hki := fun W (hb : Below w.heap.size w W) hk => kind_any HF hV (h.below hb) s hk
  have hroot := @pNames_root s
  obtain ⟨p, t, h1, h2, h3, h4⟩ := getP_len hV.srt hL h
  have HT := Lib.hid h2
  have HTL := Lib.hid (And.intro h3 h4)
  have HNM := Lib.hid h
  have HR := Lib.hid h1
  have HVL := Lib.hid (And.intro hV hL)
  obtain ⟨P, hP⟩ : ∃ P, pNames s.data.toList = P := ⟨_, rfl⟩
  rw [hP] at HSO hroot
  have HKI := Lib.hid hki
  have HROOT := Lib.hid hroot
  have HPP := Lib.hid hP
  have HSZ := Lib.hid hs
  clear hki hroot h1 h2 h3 h4 h hP HF hV hE hs hL
  go_enter Tryz.func26, Tryz.ntmps26
  go_wp2_with fail
  refine HSO.out.mono ?_
  rintro e w1 ⟨rfl, hb1⟩
  have HB1 := Lib.hid hb1
  obtain ⟨so, hso⟩ : ∃ so, soE 191 P = so := ⟨_, rfl⟩
  rw [hso]
  by_cases hso0 : so = 0
  rotate_left
  · clear hso hb1
    go_wp2_with fail
    go_ret
    exact ⟨_, N, rfl, HNM.out.below HB1.out, HVL.out.1, HVL.out.2, Chg.belowAt HB1.out⟩
  subst hso0
  obtain ⟨l, hPl, hl⟩ : ∃ l, P = some l ∧ l ≠ [] := by
    cases P with
    | none => cases hso
    | some l => exact ⟨l, rfl, fun e => by rw [e] at hso; cases hso⟩
  have HPL := Lib.hid (And.intro (HPP.out.trans hPl) hl)
  have hskey : s ≠ ⟨#[47]⟩ := fun e => hl (by have := HROOT.out.2 e; rw [hPl] at this; injection this)
  have HSK := Lib.hid hskey
  clear hPl hl hso hskey hb1
  go_wp2_with fail
  refine (HKI.out w1 HB1.out HSK.out).mono ?_
  rintro e w2 ⟨rfl, rfl⟩
  by_cases hg : (getP s N).isSome = true
  rotate_left
  · have hk : kd (getP s N) = ⟨#[]⟩ := by
      cases hh : getP s N with
      | none => rfl
      | some v => rw [hh] at hg; exact absurd rfl hg
    rw [hk]
    clear hk hg
    go_wp2_with fail
    go_ret
    exact ⟨_, N, rfl, HNM.out.below HB1.out, HVL.out.1, HVL.out.2, Chg.belowAt HB1.out⟩
  have hk : kd (getP s N) = dV ∨ kd (getP s N) = fV := by
    cases hh : getP s N with
    | none => rw [hh] at hg; cases hg
    | some v =>
      unfold kd
      by_cases hd : v = dV
      · simp [hd]
      · simp [hd]
  have hke : ((kd (getP s N)).toList.isEmpty) = false := by rcases hk with hk | hk <;> rw [hk, Lib.toList_data] <;> rfl
  obtain ⟨y, hy⟩ : ∃ y, kd (getP s N) = y := ⟨_, rfl⟩
  rw [hy] at hke ⊢
  have HG := Lib.hid hg
  clear hk hg hy
  -- the variable
  have hb2 := (Below.refl w1.heap.size w1).alloc (Nat.le_refl _) (.cells #[.bool true] 4)
  have hr2 := heap_alloc_last w1 (.cells #[.bool true] 4)
  have hra := (hb2.block gn (row_lt ((HB1.out.block gn (row_lt HR.out)).trans HR.out))).trans ((HB1.out.block gn (row_lt HR.out)).trans HR.out)
  have ca0 : (w1.alloc (.cells #[.bool true] 4)).cell? ⟨gn, 0, none⟩ = some (.pointer p) := cell_row' hra
  have hpl := HPL.out
  have hkey : s = bp l := pNames_key hpl.1
  have hpn := (pNames_some hpl.1).2
  have HWI := Lib.hid (within_any (rm_tells w1 w1.heap.size (t.len + 1)) t p s [] (fun x => x = w1.heap.size) (w1.alloc (.cells #[.bool true] 4)) (HT.out.below HB1.out) (by rw [HTL.out.1]; exact HVL.out.1.srt) hb2 ⟨fun _ => Iff.rfl, Nat.le_refl _, hr2⟩ HSZ.out _ rfl (by simp) (by rw [HTL.out.1]; exact val_keys HVL.out.1) (fun _ _ => trivial))
  obtain ⟨f, hf⟩ : ∃ f, (⟨(Lib.trimSuffix s.data.toList [47]).toArray⟩ : BA) ++ ⟨#[47]⟩ = f := ⟨_, rfl⟩
  rw [hf, HTL.out.1] at HWI
  have HFF := Lib.hid (show f.data.toList = joinP l ++ [47] by rw [← hf, hkey]; exact front_of hpn hpl.2)
  have HB2 := Lib.hid (HB1.out.trans (hb2.mono HB1.out.size))
  have HKY := Lib.hid (And.intro hkey hpn)
  have hgnl := row_lt HR.out
  have hb1s := HB1.out.size
  have HNE := Lib.hid (show gn ≠ w1.heap.size by omega)
  clear hb2 hr2 hra hpl hkey hpn hf hgnl hb1s
  go_wp2_with fail
  refine HWI.out.mono ?_
  rintro e w3 ⟨rfl, F', hj, hc, hF'⟩
  rw [if_neg (by simp), List.nil_append] at hj
  have hcc : w3.cell? ⟨w1.heap.size, 0, none⟩ = some (.bool (decide ((inP f N).take 1 = []))) := cell_row' hj.2.2
  have HB3 := Lib.hid (show Below w.heap.size w w3 from HB2.out.trans (hc.below HB2.out.size (fun x hx => by have := HB1.out.size; omega)))
  obtain ⟨q, hq⟩ : ∃ q, decide ((inP f N).take 1 = []) = q := ⟨_, rfl⟩
  rw [hq] at hcc
  have HQ := Lib.hid hq
  have hra3 := (HB3.out.block gn (row_lt HR.out)).trans HR.out
  have ca3 : w3.cell? ⟨gn, 0, none⟩ = some (.pointer p) := cell_row' hra3
  clear hj hc hF' hq hra3 ca0
  cases q with
  | false =>
    go_wp2_with fail
    go_ret
    exact ⟨_, N, rfl, HNM.out.below HB3.out, HVL.out.1, HVL.out.2, Chg.belowAt HB3.out⟩
  | true =>
    have HDR := Lib.hid (TDrop_any s t p w3 (HT.out.below HB3.out) HTL.out.2)
    obtain ⟨d, hd⟩ : ∃ d, (if (t.get s).isSome = true then t.drop s else t) = d := ⟨_, rfl⟩
    obtain ⟨z, hz⟩ : ∃ z, (t.get s).isSome = z := ⟨_, rfl⟩
    rw [hd, hz] at HDR
    have hst : Srtd t.prs := by rw [HTL.out.1]; exact HVL.out.1.srt
    have hget : (t.get s).isSome = true := by rw [prs_get s t hst, HTL.out.1]; exact HG.out
    have HD := Lib.hid (show d.prs = delP s N by rw [← hd, if_pos hget, prs_drop s t hst, HTL.out.1])
    clear hd hz hst hget
    go_wp2_with fail
    refine HDR.out.mono ?_
    rintro e w4 ⟨p', rfl, ht4, hb4⟩
    have HB4 := Lib.hid (HB3.out.trans (hb4.mono HB3.out.size))
    have HT4 := Lib.hid (Nm.turn HR.out HB4.out ht4 HD.out)
    have hr4 := (HB4.out.block gn (row_lt HR.out)).trans HR.out
    have c40 : w4.cell? ⟨gn, 0, none⟩ = some (.pointer p) := cell_row' hr4
    have f40 := free_row hr4 0
    clear ht4 hb4 hr4 ca3 hcc
    go_wp2_with fail
    go_ret
    refine ⟨_, delP s N, rfl, HT4.out.1, ?_, Nat.le_trans (List.length_filter_le _ _) HVL.out.2, HT4.out.2⟩
    have hno : inP f N = [] := by
      have := HQ.out
      simp only [decide_eq_true_eq, List.take_eq_nil_iff] at this
      rcases this with h | h
      · cases h
      · exact h
    rw [inP_eq HVL.out.1.srt] at hno
    rw [HKY.out.1]
    refine HVL.out.1.del HPL.out.2 HKY.out.2 fun x hx hp => ?_
    have := List.filter_eq_nil_iff.1 hno x hx
    exact this (pfx_iff'.2 (by rw [HFF.out]; exact hp))
end Go.Proofs.YtcklcffepedklaaGreatDoor
