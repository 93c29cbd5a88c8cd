/- Texts of the proof, one behind the other: The top's plain laws: contents that may be stay so; what lies in the world at a step. -/
import Derived.Test.YtcklcffepedklaaGreatDoorM28
namespace Go.Proofs.YtcklcffepedklaaGreatDoor
open Go.RowKit Go.Maps

theorem fileV_size (l : List Xt) : (fileV l).size = 5 + 40 * l.length := by
  have h : (fileV l).data.toList.length = 5 + 40 * l.length := by
    rw [fileV, app_data, List.length_append]
    have h1 : (strOfNums (layX l)).data.toList.length = (layX l).length := by
      rw [Array.length_toList]; exact str_size _
    rw [h1, layX_length]; show 1 + _ = _; omega
  rw [Array.length_toList] at h
  exact h
theorem Val.tab {N : List PR} (h : Val FBx N) (hl : N.length ≤ 4096) : TabOk N where
  srt := h.srt
  len := hl
  small x hx := by
    obtain ⟨l, hk⟩ := h.ok x hx
    refine ⟨?_, ?_⟩
    · have h1 := pOf_len hk.pn
      have h2 : (bp l).size = (pOf l).length := by
        show (ba (pOf l)).data.size = _
        simp [ba]
      rw [hk.key, h2]; exact h1
    · rcases hk.val with e | ⟨xl, hr, e⟩
      · rw [e]; decide
      · rw [e, fileV_size]
        have := (right_one hr).1
        omega
  p47 x hx := by
    obtain ⟨l, hk⟩ := h.ok x hx
    unfold pfx
    rw [hk.key, bp_data hk.ne]
    have hne := hk.ne
    cases l with
    | nil => exact absurd rfl hne
    | cons n l => simp [joinP, Lib.hasPrefix]
theorem insP_has {k v u : BA} : ∀ {l : List PR}, (k, u) ∈ l → Srtd l → (insP k v l).length = l.length
  | [], h, _ => by simp at h
  | y :: l, h, hs => by
    have hp := List.pairwise_cons.1 hs
    rw [insP]
    rcases List.mem_cons.1 h with rfl | h
    · rw [if_neg (by rw [bl_irrefl]; simp), if_neg (by rw [bl_irrefl]; simp)]; rfl
    · have h1 : bl y.1 k = true := hp.1 (k, u) h
      rw [if_neg (by rw [bl_asymm h1]; simp), if_pos h1, List.length_cons, List.length_cons, insP_has h hp.2]
theorem mk_val {N : List PR} (h : Val FBx N) (hl : N.length ≤ 4096) (s : BA) : Val FBx (mkN N (pNames s.data.toList) s) ∧ (mkN N (pNames s.data.toList) s).length ≤ 4096 := by
  unfold mkN
  split
  · rename_i h0
    unfold mkE at h0
    by_cases h1 : soE 3 (pNames s.data.toList) = 0
    · rw [if_neg (by simp [h1])] at h0
      obtain ⟨l, hP, hne⟩ := soE_zero (by decide) h1
      rw [hP, Option.getD_some] at h0
      by_cases h2 : paE N l = 0
      · rw [if_neg (by simp [h2])] at h0
        by_cases h3 : (getP s N).isSome = true
        · rw [if_pos h3] at h0; cases h0
        · rw [if_neg h3] at h0
          by_cases h4 : 4096 ≤ N.length
          · rw [if_pos h4] at h0; cases h0
          · obtain ⟨e, hp⟩ := pNames_some hP
            have es : s = bp l := by
              rw [bp, ← e]
              exact Go.WideShapes.bytes_inj (by simp [ba])
            have hn : getP s N = none := by simpa using h3
            subst es
            refine ⟨h.ins hne hp (.inl rfl) (paE_ok h2) (by rw [hn]; simp), ?_⟩
            have := insP_len (k := bp l) (v := dV) (l := N)
            omega
      · rw [if_pos h2] at h0; exact absurd h0 h2
    · rw [if_pos h1] at h0; exact absurd h0 h1
  · exact ⟨h, hl⟩
theorem pu_val {N : List PR} (h : Val FBx N) (hl : N.length ≤ 4096) (s : BA) (xl : List Xt) : Val FBx (puN N (pNames s.data.toList) s xl) ∧ (puN N (pNames s.data.toList) s xl).length ≤ 4096 := by
  unfold puN
  split
  · rename_i h0
    unfold puE at h0
    by_cases h1 : soE 191 (pNames s.data.toList) = 0
    · rw [if_neg (by simp [h1])] at h0
      obtain ⟨l, hP, hne⟩ := soE_zero (by decide) h1
      rw [hP, Option.getD_some] at h0
      cases hr : rightX xl with
      | false => rw [hr, if_pos rfl] at h0; cases h0
      | true =>
        rw [hr, if_neg (by simp)] at h0
        by_cases h2 : paE N l = 0
        · rw [if_neg (by simp [h2])] at h0
          by_cases h3 : getP s N = some dV
          · rw [if_pos h3] at h0; cases h0
          · rw [if_neg h3] at h0
            by_cases h4 : (getP s N).isSome = false ∧ 4096 ≤ N.length
            · rw [if_pos h4] at h0; cases h0
            · obtain ⟨e, hp⟩ := pNames_some hP
              have es : s = bp l := by
                rw [bp, ← e]
                exact Go.WideShapes.bytes_inj (by simp [ba])
              subst es
              refine ⟨h.ins hne hp (.inr ⟨xl, hr, rfl⟩) (paE_ok h2) h3, ?_⟩
              cases hg : getP (bp l) N with
              | none =>
                rw [hg] at h4
                have := insP_len (k := bp l) (v := fileV xl) (l := N)
                simp at h4
                omega
              | some u => rw [insP_has (getP_some hg) h.srt]; exact hl
        · rw [if_pos h2] at h0; exact absurd h0 h2
    · rw [if_pos h1] at h0; exact absurd h0 h1
  · exact ⟨h, hl⟩
theorem SnV.nil : SnV [] := ⟨⟨by simp, by simp, by simp⟩, by simp, by simp, by simp⟩
theorem sn_val {N : List PR} {S : List (BA × List PR)} (h : Val FBx N) (hl : N.length ≤ 4096) (hS : SnV S) (s : BA) : SnV (snN N S s) := by
  unfold snN
  split
  · rename_i h0
    unfold snE at h0
    cases h1 : nmOk s with
    | false => rw [h1, if_pos rfl] at h0; cases h0
    | true =>
      rw [h1, if_neg (by simp)] at h0
      cases h2 : snHas S s with
      | true => rw [h2, if_pos rfl] at h0; cases h0
      | false =>
        rw [h2, if_neg (by simp)] at h0
        by_cases h3 : 64 ≤ S.length
        · rw [if_pos h3] at h0; cases h0
        · have hsz : s.size ≤ 100 := by
            have := h1
            simp only [nmOk, Bool.and_eq_true, decide_eq_true_eq] at this
            exact this.1.1.2
          refine ⟨⟨by rw [List.length_append]; show S.length + 1 ≤ 64; omega, fun x hx => ?_, fun x hx => ?_⟩, fun x hx => ?_, fun x hx => ?_, ?_⟩
          · rcases List.mem_append.1 hx with hx | hx
            · exact hS.ok.small x hx
            · obtain rfl := List.mem_singleton.1 hx; exact hsz
          · rcases List.mem_append.1 hx with hx | hx
            · exact hS.ok.tab x hx
            · obtain rfl := List.mem_singleton.1 hx; exact h.tab hl
          · rcases List.mem_append.1 hx with hx | hx
            · exact hS.val x hx
            · obtain rfl := List.mem_singleton.1 hx; exact h
          · rcases List.mem_append.1 hx with hx | hx
            · exact hS.nm x hx
            · obtain rfl := List.mem_singleton.1 hx; exact h1
          · rw [List.map_append, List.nodup_append]
            refine ⟨hS.nod, by simp, fun a ha b hb e => ?_⟩
            have hb' : b = s := by simpa using hb
            subst hb'
            subst e
            obtain ⟨x, hx, hxa⟩ := List.mem_map.1 ha
            have : snHas S a = true := List.any_eq_true.2 ⟨x, hx, by simpa using hxa⟩
            rw [h2] at this; cases this
  · exact hS
theorem flat_bytes {α : Type} (f : α → List Int) (h : ∀ x, Bytes (f x)) : ∀ l : List α, Bytes (l.flatMap f)
  | [] => fun i => by simp
  | x :: l => by rw [List.flatMap_cons]; exact (h x).append (flat_bytes f h l)
theorem tabL_bytes (N : List PR) : Bytes (tabL N) := (beL_bytes _ _).append (flat_bytes _ (fun x => (textL_bytes _).append (textL_bytes _)) _)
theorem layN_bytes (N : List PR) (S : List (BA × List PR)) : Bytes (layN N S) := ((beL_bytes _ _).append (flat_bytes _ (fun s => (textL_bytes s).append (tabL_bytes _)) _)).append (tabL_bytes _)
theorem layN_two (N : List PR) (S : List (BA × List PR)) : 2 ≤ (layN N S).length := by
  unfold layN
  rw [List.length_append, List.length_append, beL_length]; omega

/-- A text is the bytes of contents that may be; where nothing is kept, of none. -/
structure OfT (t : Option (List Int)) (b : List Int) : Prop where
  ex : ∃ N S, Val FBx N ∧ N.length ≤ 4096 ∧ SnV S ∧ layN N S = b
  non : t = none → b = layN [] []
  som : ∀ x, t = some x → x = b
theorem OfT.none : OfT none (layN [] []) := ⟨⟨[], [], Val.nil _, by simp, SnV.nil, rfl⟩, fun _ => rfl, fun _ h => by cases h⟩
theorem OfT.of {N : List PR} {S : List (BA × List PR)} (h : Val FBx N) (hl : N.length ≤ 4096) (hS : SnV S) : OfT (some (layN N S)) (layN N S) :=
  ⟨⟨N, S, h, hl, hS, rfl⟩, (fun h => by cases h), (fun _ h => by injection h with h; exact h.symm)⟩

/-- A disk's own blocks, by what they are of. -/
def Ty (w : World) (k : Nat) : Prop := ∃ cs t, w.heap[k]? = some (.cells cs t (0, 0)) ∧ (t = 55 ∨ t = 79 ∨ t = 81)
def Fd (B : Nat) (w : World) (k : Nat) : Prop := B ≤ k ∧ Ty w k
theorem Fd.lt {B : Nat} {w : World} {k : Nat} (h : Fd B w k) : k < w.heap.size := by obtain ⟨_, cs, t, h1, _⟩ := h; exact row_lt h1
theorem Fd.not {B : Nat} {w : World} {k : Nat} {cs : Array Value} {t : TypeId} {fr : Nat × Nat} (hk : w.heap[k]? = some (.cells cs t fr)) (ht : t ≠ 55 ∧ t ≠ 79 ∧ t ≠ 81) : ¬ Fd B w k := fun ⟨_, cs', t', h1, h2⟩ => by
  rw [hk] at h1
  injection h1 with h1
  injection h1 with _ h3 _
  subst h3
  rcases h2 with h | h | h
  · exact ht.1 h
  · exact ht.2.1 h
  · exact ht.2.2 h
theorem Fd.notMap {B : Nat} {w : World} {k : Nat} {es : Array MapEntry} {c : Nat} (hk : w.heap[k]? = some (.map es c)) : ¬ Fd B w k := fun ⟨_, cs', t', h1, h2⟩ => by
  rw [hk] at h1; injection h1 with h1; cases h1
theorem Dk.typed {w : World} {gd S B : Nat} {d : Ds} {F : Nat → Prop} (h : Dk w gd S d F) (hF : ∀ k, F k → B ≤ k) : Dk w gd S d (Fd B w) := by
  obtain ⟨gn, gs, wv, dn, a1, a2, a3, a4, a5, a6, a7, a8, a9, b1, b2, b3, b4⟩ := h.ex
  refine ⟨⟨gn, gs, wv, dn, a1, a2, a3, a4, a5, a6, a7, a8, a9, b1, ⟨hF _ b2, _, _, a2, by decide⟩, ⟨hF _ b3, _, _, a3, by decide⟩, fun k hk => ⟨hF _ (b4 k hk), ?_⟩⟩, ⟨hF _ h.own, _, _, a1, by decide⟩, h.len, h.len2, h.byt, h.byt2, h.wok, h.lim, h.fus⟩
  rcases a4.2 with ⟨e, _⟩ | ⟨g, cap, cur, e, _, e2, _⟩
  · rw [e] at hk; cases hk
  · rw [e] at hk
    injection hk with hk
    have hk' : g = k := hk
    exact ⟨cur, 81, by rw [← hk']; exact e2, by decide⟩
theorem Sn.row {w : World} {gm : Nat} {S : List (BA × List PR)} (h : Sn w gm S) : ∃ es c, w.heap[gm]? = some (.map es c) := by
  obtain ⟨P, h1, _⟩ := h.ex
  obtain ⟨es, c, h2, _⟩ := h1.ex
  exact ⟨es, c, h2⟩
theorem Nm.row {w : World} {gn gm : Nat} {N : List PR} (h : Nm w gn gm N) : ∃ cs, w.heap[gn]? = some (.cells cs 61 (0, 0)) := by
  obtain ⟨p, t, h1, _⟩ := h.ex
  exact ⟨_, h1⟩
/-- What lies in the world: a disk, its home, names. B: where what came in ends. -/
structure TSt (B each S : Nat) (w : World) (gd gh gn gm : Nat) (d : Ds) (N : List PR) (Q : List (BA × List PR)) : Prop where
  env : Env w
  dk : Dk w gd S d (Fd B w)
  hm : Hm w gh gd each
  nm : Nm w gn gm N
  sn : Sn w gm Q
  base : 2 < B
  bh : B ≤ gh
  bn : B ≤ gn
  bm : B ≤ gm
  val : Val FBx N
  len : N.length ≤ 4096
  snv : SnV Q
section
variable {B each S : Nat} {w w' : World} {gd gh gn gm : Nat} {d : Ds} {N : List PR} {Q : List (BA × List PR)}
theorem TSt.below (h : TSt B each S w gd gh gn gm d N Q) (hb : Below w.heap.size w w') : TSt B each S w' gd gh gn gm d N Q :=
  ⟨h.env.below hb, (h.dk.below hb).typed (fun _ hk => hk.1), h.hm.below hb, h.nm.below hb, h.sn.below hb, h.base, h.bh, h.bn, h.bm, h.val, h.len, h.snv⟩
theorem TSt.ne_n (h : TSt B each S w gd gh gn gm d N Q) : ¬ Fd B w gn := by obtain ⟨cs, hr⟩ := h.nm.row; exact Fd.not hr (by decide)
theorem TSt.ne_m (h : TSt B each S w gd gh gn gm d N Q) : ¬ Fd B w gm := by obtain ⟨es, c, hr⟩ := h.sn.row; exact Fd.notMap hr
theorem TSt.ne_h (h : TSt B each S w gd gh gn gm d N Q) : ¬ Fd B w gh := Fd.not h.hm (by decide)
theorem tree_no {g : Nat} {cs : Array Value} (h : Fd B w g) : w.heap[g]? ≠ some (.cells cs 125 (0, 0)) := fun e => Fd.not e (by decide) h
/-- The disk has changed. -/
theorem TSt.disk {d' : Ds} (h : TSt B each S w gd gh gn gm d N Q) (hB : B ≤ w.heap.size) (hc : Chg (Fd B w) w w') (hd : Dk w' gd S d' (fun k => Fd B w k ∨ w.heap.size ≤ k)) : TSt B each S w' gd gh gn gm d' N Q :=
  ⟨h.env.chg hc (fun k hk => Nat.lt_of_lt_of_le h.base hk.1), hd.typed (fun k hk => hk.elim (fun h => h.1) (fun h => Nat.le_trans hB h)), h.hm.chg hc h.ne_h, h.nm.chg hc h.ne_n (fun g cs hg => tree_no hg), h.sn.chg hc h.ne_m (fun g cs hg => tree_no hg), h.base, h.bh, h.bn, h.bm, h.val, h.len, h.snv⟩
theorem TSt.disk0 {d' : Ds} (h : TSt B each S w gd gh gn gm d N Q) (hB : B ≤ w.heap.size) (hc : Chg (Fd B w) w w') (hd : Dk w' gd S d' (Fd B w)) : TSt B each S w' gd gh gn gm d' N Q :=
  h.disk hB hc (hd.kept (R := fun _ => False) (Chg.refl _ _) (fun _ _ _ h => h) (fun _ _ h => .inl h))
/-- The names have changed. -/
theorem TSt.names {N' : List PR} {Q' : List (BA × List PR)} (h : TSt B each S w gd gh gn gm d N Q) (hc : Chg (fun k => k = gn ∨ k = gm) w w') (hn : Nm w' gn gm N') (hq : Sn w' gm Q') (hv : Val FBx N') (hl : N'.length ≤ 4096) (hs : SnV Q') : TSt B each S w' gd gh gn gm d N' Q' := by
  obtain ⟨cs, hr⟩ := h.nm.row
  obtain ⟨es, c, hr2⟩ := h.sn.row
  have hno : ∀ k, Fd B w k → ¬ (k = gn ∨ k = gm) := fun k hk e => by
    rcases e with rfl | rfl
    · exact h.ne_n hk
    · exact h.ne_m hk
  have hgh : ¬ (gh = gn ∨ gh = gm) := fun e => by
    rcases e with rfl | rfl
    · have := h.hm; unfold Hm at this; rw [this] at hr; injection hr with hr; injection hr with _ hr _; cases hr
    · have := h.hm; unfold Hm at this; rw [this] at hr2; injection hr2 with hr2; cases hr2
  exact ⟨h.env.chg hc (fun k hk => Nat.lt_of_lt_of_le h.base (hk.elim (fun e => e ▸ h.bn) (fun e => e ▸ h.bm))),
    (h.dk.kept (F' := fun k => B ≤ k) hc (fun k _ hk => hno k hk) (fun k _ hk => hk.1)).typed (fun _ hk => hk), h.hm.chg hc hgh, hn, hq, h.base, h.bh, h.bn, h.bm, hv, hl, hs⟩
/-- Other names are taken up. -/
theorem TSt.turn {gn' gm' : Nat} {N' : List PR} {Q' : List (BA × List PR)} (h : TSt B each S w gd gh gn gm d N Q) (hb : Below w.heap.size w w') (hB : B ≤ w.heap.size) (hn : Nm w' gn' gm' N') (hq : Sn w' gm' Q') (h1 : w.heap.size ≤ gn') (h2 : w.heap.size ≤ gm') (hv : Val FBx N') (hl : N'.length ≤ 4096) (hs : SnV Q') : TSt B each S w' gd gh gn' gm' d N' Q' :=
  have k := h.below hb
  ⟨k.env, k.dk, k.hm, hn, hq, h.base, h.bh, Nat.le_trans hB h1, Nat.le_trans hB h2, hv, hl, hs⟩
end
end Go.Proofs.YtcklcffepedklaaGreatDoor
