/- Texts of the proof, one behind the other: path: names, Parse. names: contents that may be. No program in sight. path: Parent, Within. tree: first, drop, Drop. -/
import Derived.Test.YtcklcffepedklaaGreatDoorM08
import Derived.Shelf.Abstract
import Derived.Test.YtcklcffepedklaaGreatDoorM04
import Derived.Test.YtcklcffepedklaaGreatDoorM06
namespace Go.Proofs.YtcklcffepedklaaGreatDoor
open Go.RowKit

/-- Texts in a slice that begins at A. -/
def StrAt (w : World) (A : Option Addr) (l : List BA) : Prop := ∀ (i : Nat) (s : BA), l[i]? = some s → ∃ g, A = some ⟨g, 0, none⟩ ∧ w.cell? ⟨g, i, none⟩ = some (.string s)
theorem StrAt.below {w w' : World} {A : Option Addr} {l : List BA} (h : StrAt w A l) (hb : Below w.heap.size w w') : StrAt w' A l := fun i s hi => by
  obtain ⟨g, e, hc⟩ := h i s hi
  exact ⟨g, e, (hb.cell (p := ⟨g, i, none⟩) (cell_lt hc)).trans hc⟩
theorem split_pieces (r : BA) : Lib.splitB ⟨#[47]⟩ 0 (Lib.countB r ⟨#[47]⟩) r = (cutP r.data.toList).map ba := by
  have h := Lib.splitB_data ⟨#[47]⟩ 0 (Lib.countB r ⟨#[47]⟩) r
  have hc : Lib.countB r ⟨#[47]⟩ = r.data.toList.count 47 := Lib.count_one 47 _
  rw [hc] at h ⊢
  rw [show (⟨#[47]⟩ : BA).data.toList = [47] from rfl, split_cut] at h
  rw [← h, List.map_map]
  symm
  have : (ba ∘ fun x : BA => x.data.toList) = id := by funext x; rfl
  rw [this, List.map_id]
theorem split_len (r : BA) : Lib.countB r ⟨#[47]⟩ + 1 = (cutP r.data.toList).length := by
  have h := congrArg List.length (split_pieces r)
  rw [Lib.splitB_all _ (by decide) _ _ _ rfl, List.length_map] at h
  exact h
set_option maxRecDepth 20000 in
theorem Names1_any (s : BA) (w : World) (hE : Env w) (hs : s.size ≤ 1000000000) : Calls Tryz.prog 105 #[.string s] w fun e w' => e = .returned (.bool (!nmOk s)) ∧ Below w.heap.size w w' := by
  have HN := Lib.hid (Name_any s w hE hs)
  obtain ⟨q, hq⟩ : ∃ q, nmOk s = q := ⟨_, rfl⟩
  rw [hq] at HN ⊢
  clear hE hs hq
  go_enter Tryz.func105, Tryz.ntmps105
  go_wp2_with fail
  refine HN.out.mono ?_
  rintro e w1 ⟨rfl, hb⟩
  have HB := Lib.hid hb
  clear hb
  go_wp2
  go_ret
  exact ⟨rfl, HB.out⟩
set_option maxRecDepth 20000 in
theorem IdxS_any (A : Option Addr) (n c : Nat) (l : List BA) (w : World) (hE : Env w) (hn : l.length = n) (hn1 : n ≤ 1000000000) (hA : StrAt w A l) (hs : ∀ s ∈ l, s.size ≤ 1000000000) (fv : Value) (hfv : fv = .func (.func 105) #[] #[]) :
    Calls Tryz.prog 125 #[.slice A n c, fv] w fun e w' => ∃ d : Int, e = .returned (.int .i64 d) ∧ decide (0 ≤ d) = l.any (fun s => !nmOk s) ∧ Below w.heap.size w w' := by
  subst hfv
  have HE := Lib.hid hE
  have HN := Lib.hid hn
  have HA := Lib.hid hA
  have HS := Lib.hid hs
  obtain ⟨q, hq⟩ : ∃ q, l.any (fun s => !nmOk s) = q := ⟨_, rfl⟩
  rw [hq]
  have HQ := Lib.hid hq
  clear hn hA hE hs hq
  go_enter Tryz.func125, Tryz.ntmps125
  go_upto_region 2 with (fail)
  go_loopg [5, 8] n (fun kq v5 v8 w' => ∃ i : Nat, v8 = .int .i64 (i : Int) ∧ i + kq = n ∧ Below w.heap.size w w' ∧ (l.drop i).any (fun s => !nmOk s) = q)
  case atStart => exact ⟨0, rfl, by omega, Below.refl _ _, HQ.out⟩
  case round =>
    obtain ⟨i, rfl, hi, hb, hqi⟩ := hrel
    have HB := Lib.hid hb
    have HQI := Lib.hid hqi
    clear hqi
    by_cases hlt : i < n
    · have hil : i < l.length := by have := HN.out; omega
      obtain ⟨r, hr⟩ : ∃ r, l[i]? = some r := ⟨_, List.getElem?_eq_getElem hil⟩
      obtain ⟨g, rfl, hrg⟩ := (HA.out.below hb) i r hr
      have HW := Lib.hid (Names1_any r wr (HE.out.below hb) (HS.out r (List.mem_of_getElem? hr)))
      have hdr : l.drop i = r :: l.drop (i + 1) := by
        rw [List.drop_eq_getElem_cons hil]
        rw [List.getElem?_eq_getElem hil] at hr
        injection hr with hr; rw [hr]
      have HD := Lib.hid hdr
      have hi0 : (0 : Int) ≤ (i : Int) := by omega
      have hi1 : (i : Int) < (n : Int) := by omega
      obtain ⟨b, hb'⟩ : ∃ b, (!nmOk r) = b := ⟨_, rfl⟩
      rw [hb'] at HW
      have HBB := Lib.hid hb'
      clear hr hb hdr hil hb'
      go_wp2_with fail
      refine HW.out.mono ?_
      rintro e w2 ⟨rfl, hb2⟩
      have HB2 := Lib.hid (HB.out.trans (hb2.mono HB.out.size))
      clear hb2 HW
      cases b with
      | false =>
        go_wp2_with fail
        go_roundg (n - (i + 1))
        case measure => omega
        case rel => exact ⟨i + 1, by go_num, by omega, HB2.out, by have := HQI.out; rw [HD.out, List.any_cons, HBB.out, Bool.false_or] at this; exact this⟩
      | true =>
        go_wp2_with fail
        go_ret
        exact ⟨i, rfl, by have := HQI.out; rw [HD.out, List.any_cons, HBB.out, Bool.true_or] at this; rw [← this]; exact decide_eq_true (by omega), HB2.out⟩
    · obtain rfl : i = n := by omega
      clear hb hlt
      go_wp2_with fail
      go_ret
      exact ⟨-1, rfl, by have := HQI.out; rw [List.drop_of_length_le (by rw [HN.out]; exact Nat.le_refl _)] at this; rw [← this]; rfl, HB.out⟩
set_option maxRecDepth 20000 in
theorem names_any (A : Option Addr) (n c : Nat) (l : List BA) (w : World) (hE : Env w) (hn : l.length = n) (hn1 : n ≤ 1000000000) (hA : StrAt w A l) (hs : ∀ s ∈ l, s.size ≤ 1000000000) :
    Calls Tryz.prog 81 #[.slice A n c] w fun e w' => e = .returned (.bool (decide (n ≤ 16) && l.all nmOk)) ∧ Below w.heap.size w w' := by
  have hall : (!l.any fun s => !nmOk s) = l.all nmOk := by
    rw [List.not_any_eq_all_not]; simp
  obtain ⟨a, ha⟩ : ∃ a, l.all nmOk = a := ⟨_, rfl⟩
  rw [ha] at hall ⊢
  have HALL := Lib.hid hall
  have hC : Calls Tryz.prog 104 #[.slice A n c, .func (.func 105) #[] #[]] w fun e w' => e = .returned (.bool (!a)) ∧ Below w.heap.size w w' := by
    have HI := Lib.hid (IdxS_any A n c l w hE hn hn1 hA hs _ rfl)
    clear hn hA hE hs hn1 ha hall
    go_enter Tryz.func104, Tryz.ntmps104
    go_wp2_with fail
    refine HI.out.mono ?_
    rintro e w2 ⟨d, rfl, hd, hb2⟩
    have HB := Lib.hid hb2
    have HD := Lib.hid hd
    clear hb2 HI hd
    go_wp2
    go_ret
    refine ⟨?_, HB.out⟩
    rw [← HALL.out, Bool.not_not, ← HD.out]; rfl
  have HC := Lib.hid hC
  clear hn hA hE hs hC ha hall
  by_cases h16 : n ≤ 16
  · have d1 : decide ((n : Int) ≤ 16) = true := decide_eq_true (by omega)
    have HH := Lib.hid h16
    clear h16
    go_enter Tryz.func81, Tryz.ntmps81
    go_wp2_with fail
    refine HC.out.mono ?_
    rintro e w2 ⟨rfl, hb2⟩
    have HB := Lib.hid hb2
    clear hb2 HC
    go_wp2
    go_ret
    exact ⟨by rw [decide_eq_true HH.out]; simp, HB.out⟩
  · have d1 : ¬ n ≤ 16 := h16
    have HH := Lib.hid h16
    clear HC
    go_enter Tryz.func81, Tryz.ntmps81
    go_wp2
    go_ret
    exact ⟨rfl, Below.refl _ _⟩
theorem cutP_len (s : L8) : (cutP s).length ≤ s.length + 1 := by
  induction s with
  | nil => simp [cutP]
  | cons c s ih =>
    unfold cutP
    split
    · simp; omega
    · split
      · simp
      · rename_i x r h; rw [h] at ih; simp at ih ⊢; omega
theorem cutP_small (s : L8) : ∀ n ∈ cutP s, n.length ≤ s.length := by
  induction s with
  | nil => simp [cutP]
  | cons c s ih =>
    unfold cutP
    split
    · intro n hn
      rcases List.mem_cons.1 hn with rfl | hn
      · simp
      · have := ih n hn; simp; omega
    · split
      · simp
      · rename_i x r h
        rw [h] at ih
        intro n hn
        rcases List.mem_cons.1 hn with rfl | hn
        · have := ih x (by simp); simp; omega
        · have := ih n (by simp [hn]); simp; omega
theorem all_ba (l : List L8) : (l.map ba).all nmOk = l.all nmL := by rw [List.all_map]; rfl
theorem pNames_cut (s : L8) : pNames s = if Lib.hasPrefix s [47] = true then (if Lib.trimPrefix s [47] = [] then some [] else if (cutP (Lib.trimPrefix s [47])).length ≤ 16 ∧ (cutP (Lib.trimPrefix s [47])).all nmL = true then some (cutP (Lib.trimPrefix s [47])) else none) else none := by
  cases s with
  | nil => rfl
  | cons c s =>
    by_cases hc : c = 47
    · subst hc
      have h1 : Lib.hasPrefix (47 :: s) [47] = true := by simp [Lib.hasPrefix]
      have h2 : Lib.trimPrefix (47 :: s) [47] = s := by simp [Lib.trimPrefix, h1]
      rw [h2, if_pos h1, pNames, if_pos rfl]
    · have h1 : ¬ Lib.hasPrefix (c :: s) [47] = true := by simp [Lib.hasPrefix, List.isPrefixOf]; exact fun e => hc e.symm
      rw [if_neg h1, pNames, if_neg hc]
theorem str_empty {p : BA} : p.toList.isEmpty = decide (p.data.toList = []) := by
  rw [Lib.toList_data]; cases p.data.toList <;> simp
/-- What Parse hands back. -/
def ParseR (P : Option (List L8)) (e : Ending) (w' : World) : Prop := match P with
  | some l => ∃ A, e = .returned (.tuple #[.slice A l.length l.length, .int .i64 0]) ∧ StrAt w' A (l.map ba)
  | none => e = .returned (.tuple #[.slice none 0 0, .int .i64 170])
set_option maxRecDepth 20000 in
set_option maxHeartbeats 1600000 in
/-- Parse of what is no path, or one's names. -/
theorem Parse_any (s : BA) (w : World) (hE : Env w) (hs : s.size ≤ 1000000) : Calls Tryz.prog 55 #[.string s] w fun e w' => Below w.heap.size w w' ∧ ParseR (pNames s.data.toList) e w' := by
  have HCP := Lib.hid (Tryz.strings_CutPrefix s ⟨#[47]⟩ w)
  obtain ⟨p, hp⟩ : ∃ p, (⟨(Lib.trimPrefix s.data.toList [47]).toArray⟩ : BA) = p := ⟨_, rfl⟩
  obtain ⟨b, hb⟩ : ∃ b, Lib.hasPrefix s.data.toList [47] = b := ⟨_, rfl⟩
  rw [show (⟨#[47]⟩ : BA).data.toList = [47] from rfl, hp, hb] at HCP
  have hps : p.size ≤ s.size := by
    rw [← hp]
    show (Lib.trimPrefix s.data.toList [47]).toArray.size ≤ s.data.size
    unfold Lib.trimPrefix
    split <;> simp
  obtain ⟨m, hm⟩ := hE.len
  have HSP := Lib.hid (fun W (h : Below w.heap.size w W) => Tryz.strings_Split p ⟨#[47]⟩ m W (by omega) ((h.cell (p := ⟨2, 0, none⟩) (cell_lt hm)).trans hm) (by decide))
  have hpl := split_len p
  have hpc := split_pieces p
  obtain ⟨n, hn⟩ : ∃ n, Lib.countB p ⟨#[47]⟩ + 1 = n := ⟨_, rfl⟩
  rw [hn] at hpl HSP
  rw [hpc] at HSP
  have hP := pNames_cut s.data.toList
  have ept : Lib.trimPrefix s.data.toList [47] = p.data.toList := by rw [← hp]
  rw [hb, ept] at hP
  have hemp := @str_empty p
  have hlen : n ≤ 1000001 := by
    have := cutP_len p.data.toList
    have h2 : p.data.toList.length = p.size := rfl
    omega
  have hNM := Lib.hid (fun W (hW : Env W) (hA : StrAt W (some ⟨w.heap.size, 0, none⟩) ((cutP p.data.toList).map ba)) => names_any (some ⟨w.heap.size, 0, none⟩) n n ((cutP p.data.toList).map ba) W hW (by rw [List.length_map, ← hpl]) (by omega) hA (fun x hx => by
    obtain ⟨y, hy, rfl⟩ := List.mem_map.1 hx
    have := cutP_small _ y hy
    have h2 : p.data.toList.length = p.size := rfl
    have h3 : (ba y).size = y.length := rfl
    omega))
  have HE := Lib.hid hE
  have HPL := Lib.hid hpl
  obtain ⟨P, hP'⟩ : ∃ P, pNames s.data.toList = P := ⟨_, rfl⟩
  rw [hP'] at hP ⊢
  have HP := Lib.hid hP
  rw [all_ba] at hNM
  obtain ⟨X, hX⟩ : ∃ X, cutP p.data.toList = X := ⟨_, rfl⟩
  rw [hX] at HSP hNM HP HPL
  obtain ⟨eb, heb⟩ : ∃ eb, decide (p.data.toList = []) = eb := ⟨_, rfl⟩
  rw [heb] at hemp
  have HEB := Lib.hid heb
  have hb1 := (Below.refl w.heap.size w).alloc (Nat.le_refl _) (.cells ((X.map ba).map Value.string).toArray 9)
  have hr1 := heap_alloc_last w (.cells ((X.map ba).map Value.string).toArray 9)
  obtain ⟨w1, hw1⟩ : ∃ w1, w.alloc (.cells ((X.map ba).map Value.string).toArray 9) = w1 := ⟨_, rfl⟩
  have hSP := HSP.out w (Below.refl _ _)
  rw [hw1] at hSP hr1 hb1
  have hA1 : StrAt w1 (some ⟨w.heap.size, 0, none⟩) (X.map ba) := fun i x hi => ⟨_, rfl, by rw [cell_row' hr1, List.getElem?_toArray, List.getElem?_map, hi]; rfl⟩
  have HA1 := Lib.hid hA1
  have HB1 := Lib.hid hb1
  have HSP2 := Lib.hid hSP
  have HNM := Lib.hid (hNM.out w1 (hE.below hb1) hA1)
  clear hE hs hp hb hps hm HSP hpl hpc hn hP ept hlen hNM hP' hX heb hb1 hr1 hw1 hSP hA1
  go_enter Tryz.func55, Tryz.ntmps55
  go_wp2_with fail
  refine HCP.out.mono ?_
  rintro e w2 ⟨rfl, rfl⟩
  cases b with
  | false =>
    go_wp2_with fail
    refine HSP2.out.mono ?_
    rintro e w2 ⟨rfl, rfl⟩
    go_wp2_with fail
    go_ret2
    have hp := HP.out
    rw [if_neg (by simp)] at hp
    rw [hp]
    exact ⟨HB1.out, rfl⟩
  | true =>
    cases eb with
    | true =>
      go_wp2_with fail
      go_ret2
      have hp := HP.out
      rw [if_pos (by trivial), if_pos (by simpa using HEB.out)] at hp
      rw [hp]
      exact ⟨Below.refl _ _, none, rfl, fun i s h => by simp at h⟩
    | false =>
      go_wp2_with fail
      refine HSP2.out.mono ?_
      rintro e w2 ⟨rfl, rfl⟩
      go_wp2_with fail
      refine HNM.out.mono ?_
      rintro e w3 ⟨rfl, hb3⟩
      have HB3 := Lib.hid hb3
      have hp := HP.out
      rw [if_pos (by trivial), if_neg (by simpa using HEB.out)] at hp
      by_cases hc : X.length ≤ 16 ∧ X.all nmL = true
      · rw [if_pos hc] at hp
        have d1 : (decide (n ≤ 16) && X.all nmL) = true := by rw [HPL.out, hc.2, decide_eq_true hc.1]; rfl
        rw [d1]
        have HPP := Lib.hid hp
        clear hb3 hp hc d1
        go_wp2_with fail
        go_ret2
        rw [HPP.out]
        exact ⟨HB1.out.trans (HB3.out.mono HB1.out.size), _, by rw [← HPL.out]; rfl, HA1.out.below HB3.out⟩
      · rw [if_neg hc] at hp
        have d1 : (decide (n ≤ 16) && X.all nmL) = false := by
          rw [HPL.out]
          by_cases h1 : X.length ≤ 16
          · have h2 : X.all nmL = false := by simpa using fun h2 => hc ⟨h1, h2⟩
            rw [h2]; simp
          · simp [h1]
        rw [d1]
        have HPP := Lib.hid hp
        clear hb3 hp hc d1
        go_wp2_with fail
        go_ret2
        rw [HPP.out]
        exact ⟨HB1.out.trans (HB3.out.mono HB1.out.size), rfl⟩
end Go.Proofs.YtcklcffepedklaaGreatDoor

namespace Go.Proofs.YtcklcffepedklaaGreatDoor
open Go.RowKit

/-- What a directory has. -/
def dV : BA := ⟨#[100]⟩
def bp (l : List L8) : BA := ba (pOf l)
theorem bp_inj {a b : List L8} (ha : PN a) (hb : PN b) (h : bp a = bp b) : a = b := pOf_inj ha hb (ba_inj h)
/-- A pair that may be among others: names are its path's. -/
structure PairOk (FB : BA → Prop) (N : List PR) (x : PR) (l : List L8) : Prop where
  ne : l ≠ []
  pn : PN l
  key : x.1 = bp l
  val : x.2 = dV ∨ FB x.2
  up : l.dropLast = [] ∨ (bp l.dropLast, dV) ∈ N
/-- Contents that may be. -/
structure Val (FB : BA → Prop) (N : List PR) : Prop where
  srt : Srtd N
  ok : ∀ x ∈ N, ∃ l, PairOk FB N x l
theorem Val.nil (FB : BA → Prop) : Val FB [] := ⟨List.Pairwise.nil, by simp⟩
theorem PN.dropLast {l : List L8} (h : PN l) : PN l.dropLast := by
  rw [List.dropLast_eq_take]; exact h.take _
theorem dropLast_ne {l : List L8} (h : l ≠ []) : l.dropLast ≠ l := fun e => by
  have := congrArg List.length e
  rw [List.length_dropLast] at this
  have : l.length ≠ 0 := by simpa using h
  omega
theorem Val.ins {FB : BA → Prop} {N : List PR} {l : List L8} {v : BA} (h : Val FB N) (hl : l ≠ []) (hp : PN l) (hv : v = dV ∨ FB v) (hup : l.dropLast = [] ∨ (bp l.dropLast, dV) ∈ N) (hno : getP (bp l) N ≠ some dV) : Val FB (insP (bp l) v N) := by
  refine ⟨insP_srtd h.srt, fun x hx => ?_⟩
  rcases (insP_mem h.srt x).1 hx with rfl | ⟨hx, hne⟩
  · refine ⟨l, hl, hp, rfl, hv, hup.imp_right fun hu => (insP_mem h.srt _).2 (.inr ⟨hu, fun e => ?_⟩)⟩
    exact dropLast_ne hl (bp_inj hp.dropLast hp e)
  · obtain ⟨m, hm⟩ := h.ok x hx
    refine ⟨m, hm.ne, hm.pn, hm.key, hm.val, hm.up.imp_right fun hu => (insP_mem h.srt _).2 (.inr ⟨hu, fun e => hno ?_⟩)⟩
    have e' : bp m.dropLast = bp l := e
    rw [e'] at hu
    exact getP_mem h.srt hu
theorem delP_mem {k : BA} {N : List PR} {x : PR} : x ∈ delP k N ↔ x ∈ N ∧ x.1 ≠ k := by
  unfold delP; rw [List.mem_filter]; simp
theorem snoc_of {m l : List L8} (hm : m ≠ []) (h : m.dropLast = l) : ∃ y, m = l ++ [y] := ⟨m.getLast hm, by rw [← h]; exact (List.dropLast_concat_getLast hm).symm⟩
theorem bp_data {l : List L8} (h : l ≠ []) : (bp l).data.toList = joinP l := by rw [bp, ba_data, pOf, if_neg h]
theorem Val.del {FB : BA → Prop} {N : List PR} {l : List L8} (h : Val FB N) (hl : l ≠ []) (hp : PN l) (hno : ∀ x ∈ N, ¬ (joinP l ++ [47]) <+: x.1.data.toList) : Val FB (delP (bp l) N) := by
  refine ⟨delP_srtd h.srt, fun x hx => ?_⟩
  obtain ⟨m, hm⟩ := h.ok x (delP_mem.1 hx).1
  refine ⟨m, hm.ne, hm.pn, hm.key, hm.val, hm.up.imp_right fun hu => delP_mem.2 ⟨hu, fun e => ?_⟩⟩
  have e2 := bp_inj hm.pn.dropLast hp e
  obtain ⟨y, hy⟩ := snoc_of hm.ne e2
  apply hno x (delP_mem.1 hx).1
  rw [hm.key, bp_data hm.ne]
  exact (pfx_iff hp hm.pn hl hm.ne).2 ⟨[y], by simp, hy⟩
/-- What lies above a path in contents are directories. -/
theorem Val.above {FB : BA → Prop} {N : List PR} (h : Val FB N) : ∀ (k : Nat) (a m : List L8) (v : BA), m.length = k → a ≠ [] → m ≠ [] → PN (a ++ m) → (bp (a ++ m), v) ∈ N → (bp a, dV) ∈ N
  | 0, a, m, v, hk, _, hm, _, _ => absurd (List.length_eq_zero_iff.1 hk) hm
  | k + 1, a, m, v, hk, ha, hm, hp, hx => by
    obtain ⟨l, hl⟩ := h.ok _ hx
    have e := bp_inj hp hl.pn hl.key
    have e2 : l.dropLast = a ++ m.dropLast := by rw [← e, List.dropLast_append_of_ne_nil hm]
    have hu := hl.up
    rw [e2] at hu
    rcases hu with hu | hu
    · exact absurd (List.append_eq_nil_iff.1 hu).1 ha
    · by_cases hmm : m.dropLast = []
      · rw [hmm, List.append_nil] at hu; exact hu
      · refine Val.above h k a m.dropLast dV (by rw [List.length_dropLast]; omega) ha hmm ?_ hu
        have := hp.dropLast
        rwa [List.dropLast_append_of_ne_nil hm] at this
theorem PN.ne {l : List L8} (h : PN l) : ∀ n ∈ l, n ≠ [] := fun n hn e => by have := h.2.1 n hn; rw [e, nmL_nil] at this; cases this
theorem pNames_eq {l l' : List L8} (hl : l ≠ []) (h0 : ∀ n ∈ l, n ≠ []) (h47 : ∀ n ∈ l, (47 : UInt8) ∉ n) (h : pNames (joinP l) = some l') : l' = l ∧ PN l := by
  obtain ⟨e, hp⟩ := pNames_some h
  cases l with
  | nil => exact absurd rfl hl
  | cons n l =>
    cases l' with
    | nil =>
      rw [pOf, if_pos rfl, joinP] at e
      have : n ++ joinP l = [] := by simpa using e
      exact absurd (List.append_eq_nil_iff.1 this).1 (h0 n (by simp))
    | cons n' l'' =>
      have e1 := cutP_join l n h47
      have e2 := cutP_join l'' n' hp.2.2
      rw [pOf, if_neg (by simp), joinP, joinP] at e
      have e3 : n ++ joinP l = n' ++ joinP l'' := by simpa using e
      rw [e3, e2] at e1
      rw [e1] at hp ⊢
      exact ⟨rfl, hp⟩
theorem joinP_last {l : List L8} (h : PN l) (hl : l ≠ []) : Lib.hasSuffix (joinP l) [47] = false := by
  have e := List.dropLast_concat_getLast hl
  have hm := List.getLast_mem hl
  have h0 := h.ne _ hm
  have h47 := h.2.2 _ hm
  rw [← Bool.not_eq_true]
  intro hs
  have hs' : [47] <:+ joinP l := by simpa [Lib.hasSuffix] using hs
  rw [← e, joinP_app] at hs'
  obtain ⟨t, ht⟩ := hs'
  simp only [joinP, List.append_nil] at ht
  have hg := congrArg List.getLast? ht
  rw [List.getLast?_append, List.getLast?_append] at hg
  rw [show (47 :: l.getLast hl).getLast? = (l.getLast hl).getLast? by
    rw [List.getLast?_cons]; cases hh : (l.getLast hl).getLast? with
    | none => exact absurd (List.getLast?_eq_none_iff.1 hh) h0
    | some x => rfl] at hg
  cases hh : (l.getLast hl).getLast? with
  | none => exact absurd (List.getLast?_eq_none_iff.1 hh) h0
  | some x =>
    rw [hh] at hg
    simp only [List.getLast?_singleton, Option.some_or, Option.some.injEq] at hg
    exact h47 (hg ▸ List.mem_of_getLast? hh)

/-- The new path of a key. -/
def newk (a t : List L8) (k : BA) : BA := ba (joinP t ++ k.data.toList.drop (joinP a).length)
def dels (all N : List PR) : List PR := all.foldl (fun M x => delP x.1 M) N
def inss (f : BA → BA) (all N : List PR) : List PR := all.foldl (fun M x => insP (f x.1) x.2 M) N
theorem dels_mem {x : PR} : ∀ {all N : List PR}, x ∈ dels all N ↔ x ∈ N ∧ ∀ y ∈ all, x.1 ≠ y.1
  | [], N => by simp [dels]
  | z :: all, N => by
    rw [dels, List.foldl_cons, ← dels, dels_mem, delP_mem]
    simp only [List.mem_cons, forall_eq_or_imp, and_assoc]
theorem dels_srtd : ∀ {all N : List PR}, Srtd N → Srtd (dels all N)
  | [], _, h => h
  | x :: all, N, h => by rw [dels, List.foldl_cons, ← dels]; exact dels_srtd (delP_srtd h)
theorem inss_srtd {f : BA → BA} : ∀ {all N : List PR}, Srtd N → Srtd (inss f all N)
  | [], _, h => h
  | x :: all, N, h => by rw [inss, List.foldl_cons, ← inss]; exact inss_srtd (insP_srtd h)
theorem inss_mem {f : BA → BA} {x : PR} : ∀ {all N : List PR}, Srtd N → all.Pairwise (fun y z => f y.1 ≠ f z.1) → (x ∈ inss f all N ↔ (∃ y ∈ all, x = (f y.1, y.2)) ∨ (x ∈ N ∧ ∀ y ∈ all, x.1 ≠ f y.1))
  | [], N, _, _ => by simp [inss]
  | z :: all, N, hs, hp => by
    have hp' := List.pairwise_cons.1 hp
    rw [inss, List.foldl_cons, ← inss, inss_mem (insP_srtd hs) hp'.2, insP_mem hs]
    constructor
    · rintro (⟨y, hy, rfl⟩ | ⟨rfl | ⟨h1, h2⟩, h3⟩)
      · exact .inl ⟨y, by simp [hy], rfl⟩
      · exact .inl ⟨z, by simp, rfl⟩
      · refine .inr ⟨h1, fun y hy => ?_⟩
        rcases List.mem_cons.1 hy with rfl | hy
        · exact h2
        · exact h3 y hy
    · rintro (⟨y, hy, rfl⟩ | ⟨h1, h2⟩)
      · rcases List.mem_cons.1 hy with rfl | hy
        · exact .inr ⟨.inl rfl, fun w hw => hp'.1 w hw⟩
        · exact .inl ⟨y, hy, rfl⟩
      · exact .inr ⟨.inr ⟨h1, h2 z (by simp)⟩, fun y hy => h2 y (by simp [hy])⟩
theorem Val.ren {FB : BA → Prop} {N : List PR} (h : Val FB N) {a t : List L8} (ha : PN a) (hna : a ≠ []) (ht : PN t) (hnt : t ≠ []) (hnp : ¬ a <+: t) {all : List PR}
    (hall : ∀ x, x ∈ all ↔ x ∈ N ∧ (x.1 = bp a ∨ (joinP a ++ [47]) <+: x.1.data.toList)) (hnd : all.Pairwise fun y z => y.1 ≠ z.1)
    (hup : t.dropLast = [] ∨ (bp t.dropLast, dV) ∈ N) (hto : getP (bp t) N ≠ some dV) (hpar : ∀ x ∈ all, pNames (newk a t x.1).data.toList ≠ none) : Val FB (inss (newk a t) all (dels all N)) := by
  have hmv : ∀ x ∈ all, ∃ m, PN (a ++ m) ∧ x.1 = bp (a ++ m) ∧ newk a t x.1 = bp (t ++ m) ∧ PN (t ++ m) ∧ PairOk FB N x (a ++ m) := by
    intro x hx
    obtain ⟨hxN, hx'⟩ := (hall x).1 hx
    obtain ⟨l, hl⟩ := h.ok x hxN
    have hm : ∃ m, l = a ++ m := by
      rcases hx' with hx' | hx'
      · rw [hl.key] at hx'
        exact ⟨[], by rw [List.append_nil]; exact bp_inj hl.pn ha hx'⟩
      · rw [hl.key, bp_data hl.ne] at hx'
        obtain ⟨m, _, hm⟩ := (pfx_iff ha hl.pn hna hl.ne).1 hx'
        exact ⟨m, hm⟩
    obtain ⟨m, rfl⟩ := hm
    have hne : t ++ m ≠ [] := fun e => hnt (List.append_eq_nil_iff.1 e).1
    have e1 : newk a t x.1 = bp (t ++ m) := by
      rw [newk, hl.key, bp_data hl.ne, joinP_drop, ← joinP_app, bp, pOf, if_neg hne]
    refine ⟨m, hl.pn, hl.key, e1, ?_, hl⟩
    have hp := hpar x hx
    rw [e1, bp_data hne] at hp
    obtain ⟨l', hl'⟩ := Option.ne_none_iff_exists'.1 hp
    refine (pNames_eq hne (fun n hn => ?_) (fun n hn => ?_) hl').2
    · rcases List.mem_append.1 hn with hn | hn
      · exact ht.ne n hn
      · exact hl.pn.ne n (by simp [hn])
    · rcases List.mem_append.1 hn with hn | hn
      · exact ht.2.2 n hn
      · exact hl.pn.2.2 n (by simp [hn])
  have hinj : all.Pairwise fun y z => newk a t y.1 ≠ newk a t z.1 := by
    refine List.Pairwise.imp_of_mem (fun {y z} hy hz hyz e => ?_) hnd
    obtain ⟨m1, _, k1, n1, p1, _⟩ := hmv y hy
    obtain ⟨m2, _, k2, n2, p2, _⟩ := hmv z hz
    rw [n1, n2] at e
    have := List.append_cancel_left (bp_inj p1 p2 e)
    exact hyz (by rw [k1, k2, this])
  have hmem := fun x => @inss_mem (newk a t) x all (dels all N) (dels_srtd h.srt) hinj
  have sub : ∀ l : List L8, PN l → (a <+: l) → ∀ v, (bp l, v) ∈ N → (bp l, v) ∈ all := by
    rintro l hp ⟨m, rfl⟩ v hv
    refine (hall _).2 ⟨hv, ?_⟩
    by_cases hm : m = []
    · subst hm; rw [List.append_nil]; exact .inl rfl
    · have hne : a ++ m ≠ [] := fun e => hna (List.append_eq_nil_iff.1 e).1
      refine .inr ?_
      show _ <+: (bp (a ++ m)).data.toList
      rw [bp_data hne]; exact (pfx_iff ha hp hna hne).2 ⟨m, hm, rfl⟩
  have keep : ∀ l : List L8, PN l → ¬ (a <+: l) → ∀ v, (bp l, v) ∈ N → (bp l, v) ∈ dels all N := by
    intro l hp hna' v hv
    refine dels_mem.2 ⟨hv, fun y hy e => ?_⟩
    obtain ⟨m, pm, km, _, _, _⟩ := hmv y hy
    have e' : bp l = bp (a ++ m) := by rw [← km]; exact e
    exact hna' ⟨m, (bp_inj hp pm e').symm⟩
  refine ⟨inss_srtd (dels_srtd h.srt), fun x hx => ?_⟩
  rcases (hmem x).1 hx with ⟨y, hy, rfl⟩ | ⟨hxd, hxn⟩
  · obtain ⟨m, pm, km, nm, pt, hk⟩ := hmv y hy
    have hne : t ++ m ≠ [] := fun e => hnt (List.append_eq_nil_iff.1 e).1
    refine ⟨t ++ m, hne, pt, nm, hk.val, ?_⟩
    by_cases hm : m = []
    · subst hm
      rw [List.append_nil]
      refine hup.imp_right fun hu => (hmem _).2 (.inr ⟨keep _ ht.dropLast (fun hp => hnp (hp.trans (List.dropLast_prefix t))) _ hu, fun z hz e => ?_⟩)
      obtain ⟨m2, _, _, n2, p2, _⟩ := hmv z hz
      rw [n2] at e
      have := congrArg List.length (bp_inj ht.dropLast p2 e)
      rw [List.length_dropLast, List.length_append] at this
      have : t.length ≠ 0 := by simpa using hnt
      omega
    · have hu := hk.up
      rw [List.dropLast_append_of_ne_nil hm] at hu ⊢
      right
      rcases hu with hu | hu
      · exact absurd (List.append_eq_nil_iff.1 hu).1 hna
      · have pa : PN (a ++ m.dropLast) := by have := pm.dropLast; rwa [List.dropLast_append_of_ne_nil hm] at this
        have hz := sub _ pa ⟨_, rfl⟩ _ hu
        obtain ⟨m2, q2, k2, n2, _, _⟩ := hmv _ hz
        have e2 : bp (a ++ m.dropLast) = bp (a ++ m2) := k2
        have e3 := List.append_cancel_left (bp_inj pa q2 e2)
        refine (hmem _).2 (.inl ⟨_, hz, ?_⟩)
        show _ = (newk a t (bp (a ++ m.dropLast)), dV)
        rw [show newk a t (bp (a ++ m.dropLast)) = bp (t ++ m2) from n2, e3]
  · obtain ⟨hxN, hxa⟩ := dels_mem.1 hxd
    obtain ⟨l, hl⟩ := h.ok x hxN
    have hnal : ¬ a <+: l := fun hp => by
      have e : x = (bp l, x.2) := by rw [← hl.key]
      exact hxa x (by rw [e]; exact sub l hl.pn hp _ (by rw [← e]; exact hxN)) rfl
    refine ⟨l, hl.ne, hl.pn, hl.key, hl.val, hl.up.imp_right fun hu => (hmem _).2 (.inr ⟨keep _ hl.pn.dropLast (fun hp => hnal (hp.trans (List.dropLast_prefix l))) _ hu, fun z hz e => ?_⟩)⟩
    obtain ⟨m2, p2, k2, n2, q2, hk2⟩ := hmv z hz
    rw [n2] at e
    have e2 : l.dropLast = t ++ m2 := bp_inj hl.pn.dropLast q2 e
    apply hto
    refine getP_mem h.srt ?_
    rw [e2] at hu
    by_cases hm : m2 = []
    · subst hm; rw [List.append_nil] at hu; exact hu
    · exact h.above _ t m2 dV rfl hnt hm q2 hu
theorem inss_len {f : BA → BA} : ∀ {all N : List PR}, (inss f all N).length ≤ N.length + all.length
  | [], _ => Nat.le_refl _
  | x :: all, N => by
    have := inss_len (f := f) (all := all) (N := insP (f x.1) x.2 N)
    have := insP_len (k := f x.1) (v := x.2) (l := N)
    rw [inss, List.foldl_cons, ← inss, List.length_cons]; omega
theorem lt_app : ∀ (a : L8) (c : UInt8) (b : L8), a < a ++ c :: b
  | [], _, _ => List.nil_lt_cons _ _
  | x :: a, c, b => by
    rw [List.cons_append, List.cons_lt_cons_iff]
    exact .inr ⟨rfl, lt_app a c b⟩
theorem insP_end {k v : BA} : ∀ {A : List PR}, (∀ y ∈ A, bl y.1 k = true) → insP k v A = A ++ [(k, v)]
  | [], _ => rfl
  | y :: A, h => by
    have h1 := h y (by simp)
    rw [insP, if_neg (by rw [bl_asymm h1]; simp), if_pos h1, insP_end fun z hz => h z (by simp [hz])]
    rfl
/-- In a part of contents from the first pair on, what stands next may be put. -/
theorem Val.front {FB : BA → Prop} {A B : List PR} {x : PR} (h : Val FB (A ++ x :: B)) : Val FB A ∧ ∃ l, PairOk FB A x l ∧ getP x.1 A = none ∧ insP x.1 x.2 A = A ++ [x] := by
  have hs := h.srt
  obtain ⟨hA, hxB, hc⟩ := List.pairwise_append.1 hs
  have hx := List.pairwise_cons.1 hxB
  have low : ∀ y : PR, y ∈ A ++ x :: B → ∀ z : PR, z ∈ A ++ [x] → bl y.1 z.1 = true → y ∈ A := by
    intro y hy z hz hb
    rcases List.mem_append.1 hy with h1 | h1
    · exact h1
    · exfalso
      have hzy : z.1 = y.1 ∨ bl z.1 y.1 = true := by
        rcases List.mem_append.1 hz with h2 | h2
        · exact .inr (hc z h2 y h1)
        · have : z = x := by simpa using h2
          subst this
          rcases List.mem_cons.1 h1 with rfl | h1
          · exact .inl rfl
          · exact .inr (hx.1 y h1)
      rcases hzy with e | e
      · rw [e, bl_irrefl] at hb; cases hb
      · rw [bl_asymm e] at hb; cases hb
  have par : ∀ z ∈ A ++ [x], ∀ l, PairOk FB (A ++ x :: B) z l → PairOk FB A z l := by
    intro z hz l hl
    refine ⟨hl.ne, hl.pn, hl.key, hl.val, ?_⟩
    by_cases hd : l.dropLast = []
    · exact .inl hd
    · rcases hl.up with hu | hu
      · exact .inl hu
      · refine .inr (low _ hu z hz ?_)
        rw [hl.key, bl_iff, bp_data hd, bp_data hl.ne]
        obtain ⟨y, hy⟩ := snoc_of hl.ne rfl
        conv => rhs; rw [hy, joinP_app]
        have : joinP [y] = 47 :: y := by simp [joinP]
        rw [this]
        exact lt_app _ _ _
  refine ⟨⟨hA, fun z hz => ?_⟩, ?_⟩
  · obtain ⟨l, hl⟩ := h.ok z (List.mem_append.2 (.inl hz))
    exact ⟨l, par z (List.mem_append.2 (.inl hz)) l hl⟩
  · obtain ⟨l, hl⟩ := h.ok x (by simp)
    refine ⟨l, par x (by simp) l hl, getP_none fun y hy => bl_ne (hc y hy x (by simp)), ?_⟩
    exact insP_end fun y hy => hc y hy x (by simp)
end Go.Proofs.YtcklcffepedklaaGreatDoor

namespace Go.Proofs.YtcklcffepedklaaGreatDoor
open Go.RowKit

theorem ba_size (l : L8) : (ba l).size = l.length := rfl
theorem size_data (s : BA) : s.size = s.data.toList.length := rfl
theorem pNames_key {s : BA} {l : List L8} (h : pNames s.data.toList = some l) : s = bp l := by
  obtain ⟨e, _⟩ := pNames_some h
  rw [bp, ← e]; rfl
theorem bp_size {l : List L8} (h : l ≠ []) : (bp l).size = (joinP l).length := by rw [size_data, bp_data h]
theorem up_text {l : List L8} (hl : l ≠ []) : (bp l).size = (joinP l.dropLast).length + 1 + (l.getLast hl).length ∧ ∀ q, q = max 1 (joinP l.dropLast).length → (bp l).extract 0 q = bp l.dropLast := by
  have e := List.dropLast_concat_getLast hl
  have hj : joinP l = joinP l.dropLast ++ 47 :: l.getLast hl := by
    conv => lhs; rw [← e]
    rw [joinP_app]; simp [joinP]
  refine ⟨?_, ?_⟩
  · rw [bp_size hl, hj, List.length_append, List.length_cons]; omega
  · rintro q rfl
    apply Go.WideShapes.bytes_inj
    rw [Lib.extract_from_zero, bp_data hl, hj]
    by_cases h0 : l.dropLast = []
    · rw [h0]; rfl
    · rw [bp_data h0]
      have h1 : 1 ≤ (joinP l.dropLast).length := by
        cases h : l.dropLast with
        | nil => exact absurd h h0
        | cons a b => simp [joinP]
      rw [Nat.max_eq_right h1, List.take_append_of_le_length (Nat.le_refl _), List.take_of_length_le (Nat.le_refl _)]
set_option maxRecDepth 20000 in
set_option maxHeartbeats 800000 in
theorem Parent_any (s : BA) (l : List L8) (w : World) (hE : Env w) (hs : s.size ≤ 1000000) (hp : pNames s.data.toList = some l) (hl : l ≠ []) :
    Calls Tryz.prog 67 #[.string s] w fun e w' => Below w.heap.size w w' ∧ ∃ x, e = .returned (.tuple #[.string (bp l.dropLast), .string x, .int .i64 0]) := by
  have HP := Lib.hid (Parse_any s w hE hs)
  rw [hp] at HP
  obtain ⟨h1, h2⟩ := up_text hl
  have hk := pNames_key hp
  rw [← hk] at h1 h2
  obtain ⟨m, hm⟩ : ∃ m, (joinP l.dropLast).length = m := ⟨_, rfl⟩
  obtain ⟨x, hx⟩ : ∃ x, l.getLast hl = x := ⟨_, rfl⟩
  obtain ⟨n, hn⟩ : ∃ n, l.length = n := ⟨_, rfl⟩
  have hn0 : n ≠ 0 := fun e => hl (List.length_eq_zero_iff.1 (hn.trans e))
  have hix : (l.map ba)[n - 1]? = some (ba x) := by
    rw [List.getElem?_map, ← hn, ← List.getLast?_eq_getElem?, List.getLast?_eq_some_getLast hl, hx]; rfl
  have hn1 : n ≤ 16 := by rw [← hn]; exact (pNames_some hp).2.1
  obtain ⟨y, hy⟩ : ∃ y, bp l.dropLast = y := ⟨_, rfl⟩
  rw [hm] at h1 h2
  rw [hx] at h1
  rw [hy] at h2 ⊢
  obtain ⟨xl, hxl⟩ : ∃ k, x.length = k := ⟨_, rfl⟩
  obtain ⟨sl, hsl⟩ : ∃ k, s.size = k := ⟨_, rfl⟩
  obtain ⟨bx, hbx⟩ : ∃ b, ba x = b := ⟨_, rfl⟩
  have hbs : bx.size = xl := by rw [← hbx, ba_size, hxl]
  rw [hbx] at hix
  rw [hxl, hsl] at h1
  obtain ⟨q, hq⟩ : ∃ q, max 1 m = q := ⟨_, rfl⟩
  have h2' := h2 q hq.symm
  have HIX := Lib.hid hix
  have HN := Lib.hid hn
  have HY := Lib.hid (And.intro h2' (And.intro hq h1))
  rw [hsl] at hs
  obtain ⟨k1, hk1⟩ : ∃ k, n - 1 = k := ⟨_, rfl⟩
  rw [hk1] at HIX
  have e0 : IntKind.i64.wrap ((n : Int) - 1) = (k1 : Int) := by rw [IntKind.wrap_i64]; omega
  obtain ⟨k2, hk2⟩ : ∃ k, sl - xl = k := ⟨_, rfl⟩
  have e1 : IntKind.i64.wrap ((sl : Int) - (xl : Int)) = (k2 : Int) := by rw [IntKind.wrap_i64]; omega
  have e2 : IntKind.i64.wrap ((k2 : Int) - 1) = (m : Int) := by rw [IntKind.wrap_i64]; omega
  have e3 : max (1 : Int) (m : Int) = (q : Int) := by omega
  have e4 : (0 : Int) ≤ (k1 : Int) := by omega
  have e5 : (k1 : Int) < (n : Int) := by omega
  have e6 : (q : Int) ≤ (sl : Int) := by omega
  have e7 : ¬ (n : Int) = 0 := by omega
  clear hE hs hp h1 h2 hk hm hx hn hix hn0 hl hy hxl hbx hq h2' hk1 hk2 hn1
  go_enter Tryz.func67, Tryz.ntmps67
  go_wp2_with fail
  refine HP.out.mono ?_
  rintro e w1 ⟨hb1, A, rfl, hA⟩
  have HB := Lib.hid hb1
  obtain ⟨g, rfl, hc⟩ := hA _ _ HIX.out
  rw [HN.out]
  clear hb1 hA HP
  go_wp2_with fail
  have hy := HY.out.1
  rw [hy]
  go_ret3
  exact ⟨HB.out, bx, rfl⟩
theorem pfx_take {a l : List L8} : decide ((l.map ba).take (a.map ba).length = (a.map ba).take (a.map ba).length) = decide (a <+: l) := by
  rw [decide_eq_decide, List.take_of_length_le (Nat.le_refl (a.map ba).length), List.length_map, ← List.map_take]
  constructor
  · intro h
    have := (List.map_inj_right (fun x y e => ba_inj e)).1 h
    rw [← this]; exact List.take_prefix _ _
  · rintro ⟨t, rfl⟩
    simp
set_option maxRecDepth 20000 in
set_option maxHeartbeats 800000 in
theorem behind_any (s d : BA) (l a : List L8) (w : World) (hE : Env w) (hs : s.size ≤ 1000000) (hd : d.size ≤ 1000000) (hp : pNames s.data.toList = some l) (hl : l ≠ []) (hq : pNames d.data.toList = some a) (ha : a ≠ []) :
    Calls Tryz.prog 101 #[.string s, .string d] w fun e w' => Below w.heap.size w w' ∧ ∃ v, e = .returned (.tuple #[v, .bool (decide (a <+: l))]) := by
  have HP := Lib.hid (Parse_any s w hE hs)
  rw [hp] at HP
  have HQ := Lib.hid (fun W (h : Below w.heap.size w W) => Parse_any d W (hE.below h) hd)
  rw [hq] at HQ
  obtain ⟨n, hn⟩ : ∃ n, l.length = n := ⟨_, rfl⟩
  obtain ⟨m, hm⟩ : ∃ m, a.length = m := ⟨_, rfl⟩
  have hn1 : n ≤ 16 := by rw [← hn]; exact (pNames_some hp).2.1
  have hm1 : m ≤ 16 := by rw [← hm]; exact (pNames_some hq).2.1
  have hn0 : n ≠ 0 := fun e => hl (List.length_eq_zero_iff.1 (hn.trans e))
  have hm0 : m ≠ 0 := fun e => ha (List.length_eq_zero_iff.1 (hm.trans e))
  have HN := Lib.hid (And.intro hn (And.intro hm (And.intro hn0 (And.intro hm0 (And.intro hn1 hm1)))))
  obtain ⟨b, hb⟩ : ∃ b, decide (a <+: l) = b := ⟨_, rfl⟩
  rw [hb]
  have HB := Lib.hid hb
  clear hE hs hd hp hl hq ha hn hm hb
  go_enter Tryz.func101, Tryz.ntmps101
  go_wp2_with fail
  refine HP.out.mono ?_
  rintro e w1 ⟨hb1, A1, rfl, hA1⟩
  have HB1 := Lib.hid hb1
  have HA1 := Lib.hid hA1
  rw [HN.out.1]
  clear hb1 hA1 HP hn0 hm0 hn1 hm1
  go_wp2_with fail
  refine (HQ.out w1 HB1.out).mono ?_
  rintro e w2 ⟨hb2, A2, rfl, hA2⟩
  have HB2 := Lib.hid hb2
  have HA2 := Lib.hid hA2
  rw [HN.out.2.1]
  clear hb2 hA2 HQ
  by_cases hmn : n < m
  · have HMN := Lib.hid hmn
    have hmn' : (n : Int) < (m : Int) := by omega
    clear hmn
    go_wp2_with fail
    go_ret2
    refine ⟨HB1.out.trans (HB2.out.mono HB1.out.size), _, by
      rw [← HB.out, decide_eq_false (fun h => by have := h.length_le; have := HN.out; have := HMN.out; omega)]; rfl⟩
  · have hl0 : 0 < (l.map ba).length := by rw [List.length_map, HN.out.1]; have := HN.out; omega
    have ha0 : 0 < (a.map ba).length := by rw [List.length_map, HN.out.2.1]; have := HN.out; omega
    obtain ⟨g1, e1⟩ : ∃ g, A1 = some ⟨g, 0, none⟩ := by
      obtain ⟨g1, e1, _⟩ := HA1.out 0 _ (List.getElem?_eq_getElem hl0); exact ⟨g1, e1⟩
    obtain ⟨g2, e2⟩ : ∃ g, A2 = some ⟨g, 0, none⟩ := by
      obtain ⟨g2, e2, _⟩ := HA2.out 0 _ (List.getElem?_eq_getElem ha0); exact ⟨g2, e2⟩
    clear hl0 ha0
    subst e1
    subst e2
    have hc1 : ∀ j, j < (l.map ba).length → w2.cell? ⟨g1, 0 + j, none⟩ = some (.string ((l.map ba).getD j ByteArray.empty)) := fun j hj => by
      obtain ⟨g, e, hc⟩ := (HA1.out.below HB2.out) j _ (List.getElem?_eq_getElem hj)
      injection e with e; injection e with e
      rw [Nat.zero_add, e, hc, List.getD_eq_getElem?_getD, List.getElem?_eq_getElem hj]; rfl
    have hc2 : ∀ j, j < (a.map ba).length → w2.cell? ⟨g2, 0 + j, none⟩ = some (.string ((a.map ba).getD j ByteArray.empty)) := fun j hj => by
      obtain ⟨g, e, hc⟩ := HA2.out j _ (List.getElem?_eq_getElem hj)
      injection e with e; injection e with e
      rw [Nat.zero_add, e, hc, List.getD_eq_getElem?_getD, List.getElem?_eq_getElem hj]; rfl
    have hEq := fun c d => Tryz.slices_Equal_string g1 0 m c g2 0 m d (l.map ba) (a.map ba) w2 (by rw [List.length_map, HN.out.1]; omega) (by rw [List.length_map, HN.out.2.1]; omega) (by have := HN.out; omega) (by have := HN.out; omega) hc1 hc2
    have hpt := @pfx_take a l
    rw [List.length_map, HN.out.2.1, HB.out] at hpt
    rw [hpt] at hEq
    have HEQ := Lib.hid hEq
    have hmn' : ¬ (n : Int) < (m : Int) := by omega
    have hmn2 : m ≤ n := by omega
    clear hEq hc1 hc2 hpt hmn
    go_wp2_with fail
    refine (HEQ.out _ _).mono ?_
    rintro e w3 ⟨rfl, q, hw3⟩
    have HB3 := Lib.hid (show Below w2.heap.size w2 w3 by rw [hw3]; exact below_drewN (Below.refl _ _) q)
    clear hw3
    cases b with
    | false =>
      go_wp2_with fail
      go_ret2
      exact ⟨HB1.out.trans ((HB2.out.trans (HB3.out.mono HB2.out.size)).mono HB1.out.size), _, rfl⟩
    | true =>
      go_wp2_with fail
      all_goals go_ret2
      all_goals exact ⟨HB1.out.trans ((HB2.out.trans (HB3.out.mono HB2.out.size)).mono HB1.out.size), _, rfl⟩
set_option maxRecDepth 20000 in
theorem Within_any (s d : BA) (l a : List L8) (w : World) (hE : Env w) (hs : s.size ≤ 1000000) (hd : d.size ≤ 1000000) (hp : pNames s.data.toList = some l) (hl : l ≠ []) (hq : pNames d.data.toList = some a) (ha : a ≠ []) :
    Calls Tryz.prog 78 #[.string s, .string d] w fun e w' => e = .returned (.bool (decide (a <+: l))) ∧ Below w.heap.size w w' := by
  have HP := Lib.hid (behind_any s d l a w hE hs hd hp hl hq ha)
  obtain ⟨b, hb⟩ : ∃ b, decide (a <+: l) = b := ⟨_, rfl⟩
  rw [hb] at HP ⊢
  clear hE hs hd hp hl hq ha hb
  go_enter Tryz.func78, Tryz.ntmps78
  go_wp2_with fail
  refine HP.out.mono ?_
  rintro e w1 ⟨hb1, v, rfl⟩
  have HB := Lib.hid hb1
  clear hb1
  go_wp2_with fail
  go_ret
  exact ⟨rfl, HB.out⟩
end Go.Proofs.YtcklcffepedklaaGreatDoor

namespace Go.Proofs.YtcklcffepedklaaGreatDoor
open Go.RowKit

theorem Tre.len_first : ∀ (k v : BA) (l r : Tre), (Tre.first (.node k v l r)).2.len + 1 = (Tre.node k v l r).len := fun k v l r => by
  have h := congrArg List.length (Tre.prs_first k v l r)
  rw [List.length_cons, Tre.prs_len, List.length_append, List.length_cons, Tre.prs_len, Tre.prs_len] at h
  simp only [Tre.len]; omega
/-- A tree stays where other blocks are turned. -/
theorem TrAt.chg {w w' : World} {R : Nat → Prop} (hc : Chg R w w') (hR : ∀ g cs, R g → w.heap[g]? ≠ some (.cells cs 125 (0, 0))) : ∀ {t : Tre} {p : Option Addr}, TrAt w p t → TrAt w' p t
  | .nil, _, h => h
  | .node _ _ _ _, _, ⟨g, a, b, e, hr, hl, hr'⟩ => ⟨g, a, b, e, (hc.block g (row_lt hr) (fun h => hR g _ h hr)).trans hr, hl.chg hc hR, hr'.chg hc hR⟩
set_option maxRecDepth 20000 in
set_option maxHeartbeats 1600000 in
theorem Tfirst_any : ∀ (t : Tre) (g : Nat) (w : World), TrAt w (some ⟨g, 0, none⟩) t → t.len < 900000 →
    Calls Tryz.prog 100 #[.pointer (some ⟨g, 0, none⟩)] w fun e w' => ∃ p', e = .returned (.tuple #[.agg #[.string t.first.1.1, .string t.first.1.2], .pointer p']) ∧ TrAt w' p' t.first.2 ∧ Below w.heap.size w w'
  | .nil, g, w, h, hz => by cases h
  | .node k v .nil r, g, w, h, hz => by
    obtain ⟨ga, pa, pb, e, hra, hta, htb⟩ := h
    injection e with e; injection e with e _ _; subst e
    have hpa : pa = none := hta
    subst hpa
    have HRA := Lib.hid hra
    have HTb := Lib.hid htb
    clear hra hta htb hz
    go_enter Tryz.func100, Tryz.ntmps100
    go_upto_region 1 with (fail)
    have hb := (Below.refl w.heap.size w).alloc (Nat.le_refl _) (.cells #[.string ⟨#[]⟩, .string ⟨#[]⟩] 97)
    have hr2 := heap_alloc_last w (.cells #[.string ⟨#[]⟩, .string ⟨#[]⟩] 97)
    have hth := there_alloc w #[.string ⟨#[]⟩, .string ⟨#[]⟩] 97 2 (by decide)
    obtain ⟨w0, hw0⟩ : ∃ w0, w.alloc (.cells #[.string ⟨#[]⟩, .string ⟨#[]⟩] 97) = w0 := ⟨_, rfl⟩
    obtain ⟨g2, hg2⟩ : ∃ g, w.heap.size = g := ⟨_, rfl⟩
    rw [hw0, hg2] at hr2 hth
    rw [hw0] at hb ⊢
    try rw [hg2]
    have HG2 := Lib.hid hg2
    have HB := Lib.hid hb
    have HR2 := Lib.hid hr2
    have HTH := Lib.hid hth
    have hra := (hb.block g (row_lt HRA.out)).trans HRA.out
    have HAL := Lib.hid (row_lt hra)
    have HA0 := Lib.hid (show w0.rangeAt g 0 [.string k, .string v] from rangeAt_of_row hra 0 2)
    have HA2 := Lib.hid (show w0.cell? ⟨g, 2, none⟩ = some (.pointer none) from cell_row' hra)
    have HA3 := Lib.hid (show w0.cell? ⟨g, 3, none⟩ = some (.pointer pb) from cell_row' hra)
    have c20 : w0.cell? ⟨g2, 0, none⟩ = some (.string ⟨#[]⟩) := cell_row' HR2.out
    have c21 : w0.cell? ⟨g2, 1, none⟩ = some (.string ⟨#[]⟩) := cell_row' HR2.out
    have f20 : w0.frozen? ⟨g2, 0, none⟩ = false := (HTH.out 0 (by decide)).2
    have f21 : w0.frozen? ⟨g2, 1, none⟩ = false := (HTH.out 1 (by decide)).2
    have HTbw := HTb
    have HTb := Lib.hid (HTb.out.below HB.out)
    have HNG := Lib.hid (show ¬ g = g2 from fun e => by have := row_lt HRA.out; omega)
    clear hb hr2 hth hw0 hg2 hra
    have ca2 := HA2.out
    go_upto_region 2 with (fail)
    clear ca2
    --[2
    refine wp_region_held_drew (S := fun w' => Chg (fun x => x = g2) w0 w') (by kernel_rfl) (((Chg.refl _ _).drewN 1)) (fun hHeld => ?_)
    refine held_take 0 (some 11) (v := ?_) rfl rfl (by kernel_rfl) (by kernel_rfl) (by kernel_rfl) (fun _ _ _ h => h) (Or.inl ⟨by rfl, ?_⟩) hHeld ?_
    rotate_left
    · (intro w' hSw; clear hSw; go_simp; try with_reducible rfl)
    try simp only [Act.put, List.setIfInBounds_toArray, List.set_cons_zero, List.set_cons_succ]
    refine held_take 1 (some 12) (v := ?_) rfl rfl (by kernel_rfl) (by kernel_rfl) (by kernel_rfl) (fun _ _ _ h => h) (Or.inl ⟨by rfl, ?_⟩) hHeld ?_
    rotate_left
    · (intro w' hSw; clear hSw; go_simp; try with_reducible rfl)
    try simp only [Act.put, List.setIfInBounds_toArray, List.set_cons_zero, List.set_cons_succ]
    refine held_take 2 (some 13) (v := ?_) rfl rfl (by kernel_rfl) (by kernel_rfl) (by kernel_rfl) (fun _ _ _ h => h) (Or.inl ⟨by rfl, ?_⟩) hHeld ?_
    rotate_left
    · (intro w' hSw; clear hSw; go_simp; try with_reducible rfl)
    try simp only [Act.put, List.setIfInBounds_toArray, List.set_cons_zero, List.set_cons_succ]
    refine held_take 3 (some 14) (v := .agg ([.string k, .string v]).toArray) rfl rfl (by kernel_rfl) (by kernel_rfl) (by kernel_rfl) (fun _ _ _ h => h) (yieldsIf_load_mid (by rfl) 97 _ rfl g (0) rfl ([.string k, .string v]) _ (fun w' h => rangeAt_block HA0.out (h.block _ HAL.out HNG.out)) Tryz.underlying97 rfl rfl) hHeld ?_
    try simp only [Act.put, List.setIfInBounds_toArray, List.set_cons_zero, List.set_cons_succ]
    refine held_take 4 (some 15) (v := ?_) rfl rfl (by kernel_rfl) (by kernel_rfl) (by kernel_rfl) (fun _ _ _ h => h) (Or.inl ⟨by rfl, ?_⟩) hHeld ?_
    rotate_left
    · (intro w' hSw; clear hSw; go_simp; try with_reducible rfl)
    try simp only [Act.put, List.setIfInBounds_toArray, List.set_cons_zero, List.set_cons_succ]
    refine held_take 5 (some 16) (v := ?_) rfl rfl (by kernel_rfl) (by kernel_rfl) (by kernel_rfl) (fun _ _ _ h => h) (Or.inl ⟨by rfl, ?_⟩) hHeld ?_
    rotate_left
    · (intro w' hSw; clear hSw; go_simp; try with_reducible rfl)
    try simp only [Act.put, List.setIfInBounds_toArray, List.set_cons_zero, List.set_cons_succ]
    refine held_take 6 (some 17) (v := ?_) rfl rfl (by kernel_rfl) (by kernel_rfl) (by kernel_rfl) (fun _ _ _ h => h) (Or.inl ⟨by rfl, ?_⟩) hHeld ?_
    rotate_left
    · (intro w' hSw; clear hSw; go_simp; try with_reducible rfl)
    try simp only [Act.put, List.setIfInBounds_toArray, List.set_cons_zero, List.set_cons_succ]
    refine held_take 7 (some 18) (v := ?_) rfl rfl (by kernel_rfl) (by kernel_rfl) (by kernel_rfl) (fun _ _ _ h => h) (Or.inl ⟨by rfl, ?_⟩) hHeld ?_
    rotate_left
    · (intro w' hSw; have pf := (hSw.cell (p := ⟨g, 3, none⟩) HAL.out HNG.out).trans HA3.out; clear hSw; go_simp; try with_reducible rfl)
    try simp only [Act.put, List.setIfInBounds_toArray, List.set_cons_zero, List.set_cons_succ]
    refine wpAnyH_ready (rs := [8]) (by kernel_rfl) (by simp) ?_
    refine AllReadyH.cons rfl (fun K hKK => ?_) AllReadyH.nil
    go_simp
    refine hKK.out _ _ ((((Chg.refl _ _)).trans (Chg.of_ (grown_trans (grown_setCell _ g2 0 (.string k)) (grown_setCell _ g2 1 (.string v))) (fun k _ e => by injection e with e; exact e.symm))).drewN 1) (fun hHeld => ?_)
    clear hKK K
    try simp only [Act.put, List.setIfInBounds_toArray, List.set_cons_zero, List.set_cons_succ]
    refine held_take 9 (some 3) (v := ?_) rfl rfl (by kernel_rfl) (by kernel_rfl) (by kernel_rfl) (fun _ _ _ h => h) (Or.inl ⟨by rfl, ?_⟩) hHeld ?_
    rotate_left
    · (intro w' hSw; clear hSw; go_simp; try with_reducible rfl)
    try simp only [Act.put, List.setIfInBounds_toArray, List.set_cons_zero, List.set_cons_succ]
    refine wpAnyH_done (by kernel_rfl) ?_ _
    --]2
    go_wp2_with fail
    have hrow := setCell_row HR2.out 0 (.string k)
    have hrow2 := setCell_row hrow 1 (.string v)
    refine bodyPost_ret (v := .tuple #[.agg #[.string k, .string v], .pointer pb]) ?_ ?_ ?_
    · exact results_cell_tmp_row rfl _ _ g2 97 #[.string k, .string v] (0, 0) _ _ rfl rfl hrow2 Tryz.underlying97 rfl (by rfl)
    · rfl
    · have hc := HB.out.trans (hHeld.below HB.out.size (fun x hx => by rw [hx, ← HG2.out]; exact Nat.le_refl _))
      exact ⟨pb, rfl, HTbw.out.below hc, hc⟩
  | .node k v (.node k1 v1 la lb) r, g, w, h, hz => by
    have IH := Lib.hid (Tfirst_any (.node k1 v1 la lb))
    obtain ⟨ga, pa, pb, e, hra, hta, htb⟩ := h
    injection e with e; injection e with e _ _; subst e
    have HZ := Lib.hid hz
    obtain ⟨gl, pla, plb, rfl, hrl, htla, htlb⟩ := hta
    have HRA := Lib.hid hra
    have HTa := Lib.hid (show TrAt w (some ⟨gl, 0, none⟩) (.node k1 v1 la lb) from ⟨gl, pla, plb, rfl, hrl, htla, htlb⟩)
    have HTb := Lib.hid htb
    clear hra htla htlb htb hz hrl
    go_enter Tryz.func100, Tryz.ntmps100
    go_upto_region 1 with (fail)
    have hb := (Below.refl w.heap.size w).alloc (Nat.le_refl _) (.cells #[.string ⟨#[]⟩, .string ⟨#[]⟩] 97)
    have hr2 := heap_alloc_last w (.cells #[.string ⟨#[]⟩, .string ⟨#[]⟩] 97)
    have hth := there_alloc w #[.string ⟨#[]⟩, .string ⟨#[]⟩] 97 2 (by decide)
    obtain ⟨w0, hw0⟩ : ∃ w0, w.alloc (.cells #[.string ⟨#[]⟩, .string ⟨#[]⟩] 97) = w0 := ⟨_, rfl⟩
    obtain ⟨g2, hg2⟩ : ∃ g, w.heap.size = g := ⟨_, rfl⟩
    rw [hw0, hg2] at hr2 hth
    rw [hw0] at hb ⊢
    try rw [hg2]
    have HG2 := Lib.hid hg2
    have HB := Lib.hid hb
    have HR2 := Lib.hid hr2
    have HTH := Lib.hid hth
    have hra := (hb.block g (row_lt HRA.out)).trans HRA.out
    have HRA0 := Lib.hid hra
    have HAL := Lib.hid (row_lt hra)
    have HA0 := Lib.hid (show w0.rangeAt g 0 [.string k, .string v] from rangeAt_of_row hra 0 2)
    have ca2 : w0.cell? ⟨g, 2, none⟩ = some (.pointer (some ⟨gl, 0, none⟩)) := cell_row' hra
    have HA3 := Lib.hid (show w0.cell? ⟨g, 3, none⟩ = some (.pointer pb) from cell_row' hra)
    have HTb := Lib.hid (HTb.out.below HB.out)
    have HNG := Lib.hid (show ¬ g = g2 from fun e => by have := row_lt HRA.out; omega)
    clear hb hr2 hth hw0 hg2 hra
    go_upto_region 2 with (fail)
    go_wp2_with fail
    refine (IH.out gl w0 (HTa.out.below HB.out) (by have := HZ.out; simp only [Tre.len] at this ⊢; omega)).mono ?_
    rintro e w1 ⟨p1, rfl, ht1, hb1⟩
    obtain ⟨f, hf⟩ : ∃ f, (Tre.node k1 v1 la lb).first = f := ⟨_, rfl⟩
    rw [hf] at ht1
    rw [hf]
    have HF := Lib.hid hf
    obtain ⟨⟨fk, fv⟩, ft⟩ := f
    have HT1 := Lib.hid ht1
    have HB1 := Lib.hid hb1
    clear ht1 hb1 hf ca2
    try simp only
    go_upto_region 4 with (fail)
    have hb4 := (Below.refl w1.heap.size w1).alloc (Nat.le_refl _) (.cells #[.string fk, .string fv] 97)
    have hr4 := heap_alloc_last w1 (.cells #[.string fk, .string fv] 97)
    obtain ⟨w4, hw4⟩ : ∃ w4, w1.alloc (.cells #[.string fk, .string fv] 97) = w4 := ⟨_, rfl⟩
    rw [hw4] at hb4 hr4
    rw [hw4]
    have h04 := HB1.out.trans (hb4.mono HB1.out.size)
    obtain ⟨g4, hg4⟩ : ∃ g, w1.heap.size = g := ⟨_, rfl⟩
    rw [hg4] at hr4
    try rw [hg4]
    have HR4 := Lib.hid hr4
    have HG4L := Lib.hid (row_lt hr4)
    have HG40 := Lib.hid (show w4.rangeAt g4 0 [.string fk, .string fv] from rangeAt_of_row hr4 0 2)
    have hg2L := row_lt HR2.out
    have HNG4 := Lib.hid (show ¬ g4 = g2 from fun e => by have := HB1.out.size; omega)
    have HR24 := Lib.hid ((h04.block g2 hg2L).trans HR2.out)
    have HG2L := Lib.hid (row_lt HR24.out)
    have hra4 := (h04.block g HAL.out).trans HRA0.out
    have HAL4 := Lib.hid (row_lt hra4)
    have HA40 := Lib.hid (show w4.rangeAt g 0 [.string k, .string v] from rangeAt_of_row hra4 0 2)
    have HA43 := Lib.hid (show w4.cell? ⟨g, 3, none⟩ = some (.pointer pb) from cell_row' hra4)
    have HT4 := Lib.hid (HT1.out.below hb4)
    have HTb4 := Lib.hid (HTb.out.below h04)
    have HZJ := Lib.hid (show ft.len + r.len < 1000000 by
      have h1 := Tre.len_first k1 v1 la lb
      rw [HF.out] at h1
      have h2 := HZ.out
      simp only [Tre.len] at h1 h2
      omega)
    have H04 := Lib.hid h04
    clear hb4 hr4 hw4 h04 hg4 hg2L hra4
    --[4
    refine wp_region_held_drew (S := fun w' => Chg (fun x => x = g2) w4 w') (by kernel_rfl) (((Chg.refl _ _).drewN 1)) (fun hHeld => ?_)
    refine held_take 0 (some 27) (v := .agg ([.string fk, .string fv]).toArray) rfl rfl (by kernel_rfl) (by kernel_rfl) (by kernel_rfl) (fun _ _ _ h => h) (yieldsIf_load_mid (by rfl) 97 _ rfl g4 (0) rfl ([.string fk, .string fv]) _ (fun w' h => rangeAt_block HG40.out (h.block _ HG4L.out HNG4.out)) Tryz.underlying97 rfl rfl) hHeld ?_
    try simp only [Act.put, List.setIfInBounds_toArray, List.set_cons_zero, List.set_cons_succ]
    refine held_take 1 (some 28) (v := ?_) rfl rfl (by kernel_rfl) (by kernel_rfl) (by kernel_rfl) (fun _ _ _ h => h) (Or.inl ⟨by rfl, ?_⟩) hHeld ?_
    rotate_left
    · (intro w' hSw; clear hSw; go_simp; try with_reducible rfl)
    try simp only [Act.put, List.setIfInBounds_toArray, List.set_cons_zero, List.set_cons_succ]
    refine held_take 2 (some 29) (v := ?_) rfl rfl (by kernel_rfl) (by kernel_rfl) (by kernel_rfl) (fun _ _ _ h => h) (Or.inl ⟨by rfl, ?_⟩) hHeld ?_
    rotate_left
    · (intro w' hSw; clear hSw; go_simp; try with_reducible rfl)
    try simp only [Act.put, List.setIfInBounds_toArray, List.set_cons_zero, List.set_cons_succ]
    refine held_take 3 (some 30) (v := ?_) rfl rfl (by kernel_rfl) (by kernel_rfl) (by kernel_rfl) (fun _ _ _ h => h) (Or.inl ⟨by rfl, ?_⟩) hHeld ?_
    rotate_left
    · (intro w' hSw; clear hSw; go_simp; try with_reducible rfl)
    try simp only [Act.put, List.setIfInBounds_toArray, List.set_cons_zero, List.set_cons_succ]
    refine held_take 4 (some 31) (v := .agg ([.string k, .string v]).toArray) rfl rfl (by kernel_rfl) (by kernel_rfl) (by kernel_rfl) (fun _ _ _ h => h) (yieldsIf_load_mid (by rfl) 97 _ rfl g (0) rfl ([.string k, .string v]) _ (fun w' h => rangeAt_block HA40.out (h.block _ HAL4.out HNG.out)) Tryz.underlying97 rfl rfl) hHeld ?_
    try simp only [Act.put, List.setIfInBounds_toArray, List.set_cons_zero, List.set_cons_succ]
    refine held_take 5 (some 32) (v := ?_) rfl rfl (by kernel_rfl) (by kernel_rfl) (by kernel_rfl) (fun _ _ _ h => h) (Or.inl ⟨by rfl, ?_⟩) hHeld ?_
    rotate_left
    · (intro w' hSw; clear hSw; go_simp; try with_reducible rfl)
    try simp only [Act.put, List.setIfInBounds_toArray, List.set_cons_zero, List.set_cons_succ]
    refine held_take 6 (some 33) (v := ?_) rfl rfl (by kernel_rfl) (by kernel_rfl) (by kernel_rfl) (fun _ _ _ h => h) (Or.inl ⟨by rfl, ?_⟩) hHeld ?_
    rotate_left
    · (intro w' hSw; clear hSw; go_simp; try with_reducible rfl)
    try simp only [Act.put, List.setIfInBounds_toArray, List.set_cons_zero, List.set_cons_succ]
    refine held_take 7 (some 34) (v := ?_) rfl rfl (by kernel_rfl) (by kernel_rfl) (by kernel_rfl) (fun _ _ _ h => h) (Or.inl ⟨by rfl, ?_⟩) hHeld ?_
    rotate_left
    · (intro w' hSw; clear hSw; go_simp; try with_reducible rfl)
    try simp only [Act.put, List.setIfInBounds_toArray, List.set_cons_zero, List.set_cons_succ]
    refine held_take 8 (some 35) (v := ?_) rfl rfl (by kernel_rfl) (by kernel_rfl) (by kernel_rfl) (fun _ _ _ h => h) (Or.inl ⟨by rfl, ?_⟩) hHeld ?_
    rotate_left
    · (intro w' hSw; clear hSw; go_simp; try with_reducible rfl)
    try simp only [Act.put, List.setIfInBounds_toArray, List.set_cons_zero, List.set_cons_succ]
    refine held_take 9 (some 36) (v := ?_) rfl rfl (by kernel_rfl) (by kernel_rfl) (by kernel_rfl) (fun _ _ _ h => h) (Or.inl ⟨by rfl, ?_⟩) hHeld ?_
    rotate_left
    · (intro w' hSw; have pf := (hSw.cell (p := ⟨g, 3, none⟩) HAL4.out HNG.out).trans HA43.out; clear hSw; go_simp; try with_reducible rfl)
    try simp only [Act.put, List.setIfInBounds_toArray, List.set_cons_zero, List.set_cons_succ]
    refine wpAnyH_ready (rs := [10]) (by kernel_rfl) (by simp) ?_
    refine AllReadyH.cons rfl (fun K hKK => ?_) AllReadyH.nil
    go_simp
    go_at_call 69
    refine (join_any (HT4.out.below ((Below.refl _ _).drew)) (HTb4.out.below ((Below.refl _ _).drew)) HZJ.out).mono ?_
    rintro e w5 ⟨pj, rfl, htj, hc43⟩
    have hS44 := (hHeld).below0 hc43
    refine hKK.out _ _ hS44 (fun hHeld => ?_)
    clear hKK K
    try simp only [Act.put, List.setIfInBounds_toArray, List.set_cons_zero, List.set_cons_succ]
    refine wpAnyH_ready (rs := [11]) (by kernel_rfl) (by simp) ?_
    refine AllReadyH.cons rfl (fun K hKK => ?_) AllReadyH.nil
    have hrw := (hc43.block g2 HG2L.out).trans HR24.out
    have c20 : w5.cell? ⟨g2, 0, none⟩ = some (.string ⟨#[]⟩) := cell_row' hrw
    have c21 : w5.cell? ⟨g2, 1, none⟩ = some (.string ⟨#[]⟩) := cell_row' hrw
    have f20 := free_row hrw 0
    have f21 := free_row hrw 1
    have HRW := Lib.hid hrw
    have HLAST := Lib.hid hc43
    have HTT := Lib.hid htj
    clear hrw htj hc43
    go_simp
    refine hKK.out _ _ (((hHeld).trans (Chg.of_ (grown_trans (grown_setCell _ g2 0 (.string fk)) (grown_setCell _ g2 1 (.string fv))) (fun k _ e => by injection e with e; exact e.symm)))) (fun hHeld => ?_)
    clear hKK K
    try simp only [Act.put, List.setIfInBounds_toArray, List.set_cons_zero, List.set_cons_succ]
    refine held_take 12 (some 3) (v := ?_) rfl rfl (by kernel_rfl) (by kernel_rfl) (by kernel_rfl) (fun _ _ _ h => h) (Or.inl ⟨by rfl, ?_⟩) hHeld ?_
    rotate_left
    · (intro w' hSw; clear hSw; go_simp; try with_reducible rfl)
    try simp only [Act.put, List.setIfInBounds_toArray, List.set_cons_zero, List.set_cons_succ]
    refine wpAnyH_done (by kernel_rfl) ?_ _
    --]4
    go_wp2_with fail
    have hrow := setCell_row HRW.out 0 (.string fk)
    have hrow2 := setCell_row hrow 1 (.string fv)
    refine bodyPost_ret (v := .tuple #[.agg #[.string fk, .string fv], .pointer pj]) ?_ ?_ ?_
    · exact results_cell_tmp_row rfl _ _ g2 97 #[.string fk, .string fv] (0, 0) _ _ rfl rfl hrow2 Tryz.underlying97 rfl (by rfl)
    · rfl
    · have e1 : (Tre.node k v (Tre.node k1 v1 la lb) r).first = ((fk, fv), Tre.join k v ft r) := by rw [Tre.first, HF.out]
      rw [e1]
      have hc4 : Below w.heap.size w w4 := HB.out.trans (H04.out.mono HB.out.size)
      have hc := hc4.trans (hHeld.below hc4.size (fun x hx => by rw [hx, ← HG2.out]; exact Nat.le_refl _))
      have h5 : Chg (fun x => x = g2) w5 ((w5.setCell ⟨g2, 0, none⟩ (.string fk)).setCell ⟨g2, 1, none⟩ (.string fv)) := Chg.of_ (grown_trans (grown_setCell _ g2 0 (.string fk)) (grown_setCell _ g2 1 (.string fv))) (fun k _ e => by injection e with e; exact e.symm)
      exact ⟨pj, rfl, HTT.out.chg h5 (fun g cs e => by rw [e, HRW.out]; intro e2; injection e2 with e2; injection e2 with _ e2; exact absurd e2 (by decide)), hc⟩
end Go.Proofs.YtcklcffepedklaaGreatDoor
