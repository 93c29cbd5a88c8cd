/- Texts of the proof, one behind the other: names: Snaps. names: Lay. codec: a reader of bytes. codec: a reader's Text, Fault, End. -/
import Derived.Test.YtcklcffepedklaaGreatDoorM18
import Derived.Test.YtcklcffepedklaaGreatDoorM19
import Derived.Test.YtcklcffepedklaaGreatDoorM16
import Derived.Test.YtcklcffepedklaaGreatDoorM06
namespace Go.Proofs.YtcklcffepedklaaGreatDoor
open Go.RowKit Go.Maps

def Rnil (_ : Value) : Option (DataW Unit × List MemPlace) := some (.nil, [])
theorem MapAt.owns {w : World} {m : Nat} {L : List (BA × Value)} (h : MapAt Value.string SvOk w m L) (hl : L.length ≤ 1000000) :
    ∃ D0 : DataW Unit, w.ownsMap Tryz.prog 9 Rnil m L.length D0 ∧ (strKeys D0).Perm (L.map fun x => x.1.data.toList) ∧ Maps.size D0 = L.length := by
  obtain ⟨es, c, h1, h2, h3, h4⟩ := h.ex
  have hlen : es.size = L.length := by have := congrArg List.length h2; simpa using this
  have hkey : ∀ x ∈ es.toList, ∃ s : BA, x.key = .string s ∧ s.size ≤ 1000000 := fun x hx => by
    have h5 : (x.key, x.val) ∈ L.map (fun x => (Value.string x.1, x.2)) := h2 ▸ List.mem_map_of_mem (f := fun e : MapEntry => (e.key, e.val)) hx
    obtain ⟨y, hy, e⟩ := List.mem_map.1 h5
    injection e with e1 e2
    exact ⟨y.1, e1.symm, h.val y hy⟩
  have hko : ∀ s : BA, s.size ≤ 1000000 → keyOf Tryz.prog 9 (.string s) = some (.string s.data.toList) := fun s hs => Go.WideMaps.keyOf_string_mk Tryz.underlying9 (by unfold maxLen; omega)
  have hrg : es.toList.map (Go.WideElems.rg Tryz.prog 9 Rnil) = L.map fun x => (Lit.string x.1.data.toList, DataW.nil) := by
    have e1 : es.toList.map (Go.WideElems.rg Tryz.prog 9 Rnil) = (es.toList.map fun e => (e.key, e.val)).map fun y => ((match y.1 with | .string s => Lit.string s.data.toList | _ => Lit.bool false), (DataW.nil : DataW Unit)) := by
      rw [List.map_map]
      refine List.map_congr_left fun x hx => ?_
      obtain ⟨s, hs, hz⟩ := hkey x hx
      simp only [Function.comp, Go.WideElems.rg, Go.WideElems.rd, hs, hko s hz, Rnil]
      rfl
    rw [e1, h2, List.map_map]; rfl
  refine ⟨.map ((es.toList.map (Go.WideElems.rg Tryz.prog 9 Rnil)).foldr DataW.insert []), ⟨es, c, h1, ⟨by unfold maxLen; omega, ?_, fun x hx => ?_⟩, Nat.le_of_eq hlen, rfl⟩, ?_, ?_⟩
  · refine ⟨h3, h4, ?_⟩
    have h6 : es.toList.map (·.key) = (L.map (·.1)).map Value.string := by
      have := congrArg (List.map Prod.fst) h2
      rw [List.map_map, List.map_map] at this
      rw [List.map_map]; exact this
    rw [h6]
    exact List.Pairwise.map _ (fun a b hab e => hab (by injection e)) h.nodup
  · obtain ⟨s, hs, hz⟩ := hkey x hx
    exact ⟨_, by simp only [Go.WideElems.rd, hs, hko s hz, Rnil]; rfl⟩
  · rw [hrg]
    show (List.map (fun p : Lit × DataW Unit => strOf p.1) _).Perm _
    refine ((Go.WideShapes.sorted_perm _).map _).trans ?_
    rw [List.map_map]; exact List.Perm.refl _
  · rw [Maps.size_eq, length_sorted, List.length_map, Array.length_toList, hlen]
/-- The names, in order. -/
def sortN (S : List (BA × List PR)) : List BA := ((S.map fun x => x.1.data.toList).mergeSort leB).map ba
theorem snL_keys (P : List (BA × Option Addr × Tre)) : (snV P).map (fun x => x.1.data.toList) = (snL P).map fun x => x.1.data.toList := by
  rw [snV, snL, List.map_map, List.map_map]; rfl
set_option maxRecDepth 20000 in
theorem Snaps_any {w : World} {gn gm : Nat} {N : List PR} {S : List (BA × List PR)} (h : Nm w gn gm N) (hS : Sn w gm S) (hl : S.length ≤ 1000) :
    Calls Tryz.prog 22 #[.pointer (some ⟨gn, 0, none⟩)] w fun e w' => ∃ A c, e = .returned (.slice A S.length c) ∧ StrAt w' A (sortN S) ∧ Below w.heap.size w w' := by
  obtain ⟨p, t, h1, h2, h3⟩ := h.ex
  obtain ⟨P, m1, m2, rfl⟩ := hS.ex
  have hlen : (snV P).length = (snL P).length := by simp [snV, snL]
  obtain ⟨D0, ho, hp, hsz⟩ := m1.owns (by rw [hlen]; omega)
  rw [snL_keys] at hp
  have HK := Lib.hid (fun W => callsIn_wide.1 (Tryz.maps_Keys_46 (some gm) W))
  have HS := Lib.hid (callsIn_wide.1 (Tryz.slices_Sorted_keys_45_46 gm (snV P).length D0 Rnil w ho (by rw [hsz, hlen]; unfold maxLen; omega) (by rw [hsz, hlen]; omega)))
  have c1 : w.cell? ⟨gn, 1, none⟩ = some (.map (some gm)) := cell_row' h1
  have HP := Lib.hid hp
  obtain ⟨S, hSS⟩ : ∃ S, snL P = S := ⟨_, rfl⟩
  rw [hSS] at HP ⊢
  have hb1 := (Below.refl w.heap.size w).alloc (Nat.le_refl _) (.cells #[.map (some gm)] 58)
  have HB1 := Lib.hid hb1
  clear h hS h1 h2 h3 m1 m2 hlen ho hp hsz hSS hb1
  go_enter Tryz.func22, Tryz.ntmps22
  go_wp2_with fail
  refine (HK.out w).mono ?_
  rintro e w' ⟨rfl, rfl⟩
  go_wp2_with fail
  refine HS.out.mono ?_
  rintro e w2 ⟨v, ss, rfl, hperm, hown, hnil, hb2⟩
  have HB2 := Lib.hid (HB1.out.trans (hb2.mono HB1.out.size))
  have hp2 := hperm.trans HP.out
  have hlen : ss.length = S.length := by have := hp2.length_eq; rwa [List.length_map] at this
  have hms := mergeSort_of_perm hp2
  have hrow : w2.ownsRow (w.alloc (.cells #[.map (some gm)] 58)).heap.size 9 1 v ss.length ((sortN S).map Value.string) := by
    rw [sortN, ← hms, List.map_map]; exact hown
  obtain ⟨A, c, hv⟩ : ∃ A c, v = .slice A ss.length c := by
    obtain ⟨_, h2⟩ := hrow
    rcases h2 with ⟨h2, h3⟩ | ⟨g, cap, cur, e, _⟩
    · exact ⟨none, 0, by rw [h2, h3]⟩
    · exact ⟨_, cap, e⟩
  subst hv
  have hsl : (sortN S).length = ss.length := by
    rw [sortN, List.length_map, List.length_mergeSort, List.length_map, hlen]
  have HA := Lib.hid (show StrAt w2 A (sortN S) from fun i s hi => by
    obtain ⟨g, hg, hc⟩ := own_cell hrow (t := i) (u := .string s) (by rw [List.getElem?_map, hi]; rfl) (fun e => by rw [List.length_eq_zero_iff.1 (hsl.trans e)]; rfl)
    exact ⟨g, hg, hc⟩)
  rw [hlen]
  clear hperm hown hnil hb2 hp2 hlen hms hrow hsl
  go_wp2_with fail
  go_ret
  exact ⟨A, c, rfl, HA.out, HB2.out⟩
end Go.Proofs.YtcklcffepedklaaGreatDoor

namespace Go.Proofs.YtcklcffepedklaaGreatDoor
open Go.RowKit Go.Maps

/-- What a table asks of its pairs. -/
structure TabOk (N : List PR) : Prop where
  srt : Srtd N
  len : N.length ≤ 4096
  small : ∀ x ∈ N, smallP x
  p47 : ∀ x ∈ N, pfx ⟨#[47]⟩ x = true
theorem rowsT_len {N : List PR} (h : ∀ x ∈ N, smallP x) : (rowsT N).length ≤ N.length * 656990 := by
  induction N with
  | nil => exact Nat.le_refl _
  | cons x N ih =>
    have h1 := h x (by simp)
    have h2 := ih (fun y hy => h y (by simp [hy]))
    have h3 : (rowsT (x :: N)).length = (4 + x.1.size) + (4 + x.2.size) + (rowsT N).length := by
      show ((x :: N).flatMap _).length = _
      rw [List.flatMap_cons, List.length_append, List.length_append, textL_length, textL_length]; rfl
    have h4 : x.1.size ≤ 1617 := h1.1
    have h5 : x.2.size ≤ 655365 := h1.2
    rw [h3, List.length_cons]; omega
theorem tabL_len {N : List PR} (h : TabOk N) : (tabL N).length ≤ 2691031044 := by
  have h1 := rowsT_len h.small
  have h2 := h.len
  rw [tabL, List.length_append, beL_length]; omega
/-- What a snapshot has. -/
def snGet (S : List (BA × List PR)) (s : BA) : List PR := ((S.find? fun x => decide (x.1 = s)).map (·.2)).getD []
theorem snGet_lkp (s : BA) : ∀ P : List (BA × Option Addr × Tre), s ∈ P.map (·.1) → ∃ x ∈ P, x.1 = s ∧ lkp (snV P) s = some (.pointer x.2.1) ∧ snGet (snL P) s = x.2.2.prs
  | [], h => by simp at h
  | x :: P, h => by
    by_cases hx : x.1 = s
    · refine ⟨x, by simp, hx, ?_, ?_⟩
      · rw [snV, List.map_cons, lkp, if_pos hx]
      · rw [snGet, snL, List.map_cons, List.find?_cons, show decide ((x.1, x.2.2.prs).1 = s) = true from decide_eq_true hx]; rfl
    · have hs : s ∈ P.map (·.1) := by
        rcases List.mem_cons.1 h with h | h
        · exact absurd h.symm hx
        · exact h
      obtain ⟨y, hy, h1, h2, h3⟩ := snGet_lkp s P hs
      refine ⟨y, by simp [hy], h1, ?_, ?_⟩
      · rw [snV, List.map_cons, lkp, if_neg hx]; exact h2
      · rw [snGet, snL, List.map_cons, List.find?_cons, show decide ((x.1, x.2.2.prs).1 = s) = false from decide_eq_false hx]; exact h3
/-- The bytes of a snapshot. -/
def snapL (S : List (BA × List PR)) (s : BA) : List Int := textL s ++ tabL (snGet S s)
/-- All, as bytes. -/
def layN (N : List PR) (S : List (BA × List PR)) : List Int := beL S.length 2 ++ (sortN S).flatMap (snapL S) ++ tabL N
theorem sortN_mem {S : List (BA × List PR)} {s : BA} : s ∈ sortN S ↔ s ∈ S.map (·.1) := by
  rw [sortN, List.mem_map]
  constructor
  · rintro ⟨x, hx, rfl⟩
    rw [List.mem_mergeSort, List.mem_map] at hx
    obtain ⟨y, hy, rfl⟩ := hx
    exact List.mem_map.2 ⟨y, hy, rfl⟩
  · intro h
    obtain ⟨y, hy, rfl⟩ := List.mem_map.1 h
    exact ⟨y.1.data.toList, by rw [List.mem_mergeSort, List.mem_map]; exact ⟨y, hy, rfl⟩, rfl⟩
theorem sortN_length (S : List (BA × List PR)) : (sortN S).length = S.length := by rw [sortN, List.length_map, List.length_mergeSort, List.length_map]
/-- What Lay asks of snapshots. -/
structure SnOk (S : List (BA × List PR)) : Prop where
  len : S.length ≤ 64
  small : ∀ x ∈ S, x.1.size ≤ 100
  tab : ∀ x ∈ S, TabOk x.2
theorem snGet_ok {S : List (BA × List PR)} (h : SnOk S) (s : BA) : TabOk (snGet S s) := by
  unfold snGet
  cases hf : S.find? fun x => decide (x.1 = s) with
  | none => exact ⟨List.Pairwise.nil, by simp, by simp, by simp⟩
  | some x => exact h.tab x (List.mem_of_find?_eq_some hf)
theorem snaps_len {S : List (BA × List PR)} (h : SnOk S) : ∀ l : List BA, (∀ s ∈ l, s ∈ S.map (·.1)) → (l.flatMap (snapL S)).length ≤ l.length * 2691031148
  | [], _ => Nat.le_refl _
  | s :: l, hl => by
    have h1 := snaps_len h l (fun x hx => hl x (by simp [hx]))
    obtain ⟨x, hx, hxs⟩ := List.mem_map.1 (hl s (by simp))
    have h2 : s.size ≤ 100 := hxs ▸ h.small x hx
    have h3 := tabL_len (snGet_ok h s)
    rw [List.flatMap_cons, List.length_append, snapL, List.length_append, textL_length, List.length_cons]; omega
set_option maxRecDepth 20000 in
set_option maxHeartbeats 1600000 in
theorem NLay_any {w : World} {gn gm : Nat} {N : List PR} {S : List (BA × List PR)} (h : Nm w gn gm N) (hS : Sn w gm S) (hN : TabOk N) (hSO : SnOk S) :
    Calls Tryz.prog 8 #[.pointer (some ⟨gn, 0, none⟩)] w fun e w' => ∃ v, e = .returned v ∧ OwnB w' w.heap.size v (layN N S) ∧ Below w.heap.size w w' := by
  obtain ⟨p, t, h1, h2, h3⟩ := h.ex
  obtain ⟨P, m1, m2, hSP⟩ := hS.ex
  have HSN := Lib.hid (fun W (hb : Below w.heap.size w W) => Snaps_any (h.below hb) (hS.below hb) (by have := hSO.len; omega))
  have c1 : w.cell? ⟨gn, 1, none⟩ = some (.map (some gm)) := cell_row' h1
  have hlen : (snV P).length = S.length := by rw [hSP]; simp [snV, snL]
  have hlenr := fun ty => MapAt.run_len (P := Tryz.prog) Tryz.underlying58 m1 ty
  rw [hlen] at hlenr
  obtain ⟨n, hn⟩ : ∃ n, S.length = n := ⟨_, rfl⟩
  rw [hn] at hlenr HSN
  have hn64 : n ≤ 64 := by rw [← hn]; exact hSO.len
  have e1 : IntKind.u64.wrap (n : Int) = (n : Int) := by rw [IntKind.wrap_u64]; omega
  have HP1 := Lib.hid (fun W => Put_any none 0 0 [] n 2 W rfl (by omega) (Ints.nil _ _ _) (by omega) (by decide) (by decide))
  have HR := Lib.hid h1
  have HT := Lib.hid (And.intro h2 h3)
  have HM1 := Lib.hid m1
  have HM2 := Lib.hid m2
  have HSP := Lib.hid hSP
  have HOK := Lib.hid (And.intro hN hSO)
  have HN := Lib.hid hn
  clear h hS h1 h2 h3 m1 m2 hSP hlen hn hN hSO
  go_enter Tryz.func8, Tryz.ntmps8
  go_wp2_with fail
  refine (HP1.out w).mono ?_
  rintro e w1 ⟨v1, rfl, ho1, hb1⟩
  rw [List.nil_append] at ho1
  obtain ⟨A1, c1', rfl, hc1, hI1, hA1⟩ := ho1.ints
  rw [beL_length] at hc1 ⊢
  have HO1 := Lib.hid ho1
  have HB1 := Lib.hid hb1
  clear ho1 hb1 hc1 hI1 hA1 hlenr c1
  go_wp2_with fail
  refine (HSN.out w1 HB1.out).mono ?_
  rintro e w2 ⟨A2, c2, rfl, hA2, hb2⟩
  have HA2 := Lib.hid hA2
  have HB2 := Lib.hid (HB1.out.trans (hb2.mono HB1.out.size))
  have HO2 := Lib.hid (HO1.out.below hb2)
  clear hA2 hb2
  go_upto_region 5 with (fail)
  go_loopg [3, 18] n (fun kq v3 v18 w' => ∃ (i m : Nat) (A : Option Addr) (c : Nat), v3 = .slice A m c ∧ v18 = .int .i64 (i : Int) ∧ i + kq = n ∧ Hid (OwnB w' w.heap.size (.slice A m c) (beL n 2 ++ ((sortN S).take i).flatMap (snapL S)) ∧ m = (beL n 2 ++ ((sortN S).take i).flatMap (snapL S)).length) ∧ Hid (Below w2.heap.size w2 w'))
  case atStart => exact ⟨0, 2, A1, c1', rfl, rfl, by omega, Lib.hid ⟨by rw [List.take_zero, List.flatMap_nil, List.append_nil]; rw [beL_length] at HO2; exact HO2.out, by rw [List.take_zero, List.flatMap_nil, List.append_nil, beL_length]⟩, Lib.hid (Below.refl _ _)⟩
  case round =>
    obtain ⟨i, m, A3, c3, rfl, rfl, hi, HOM, HBW2⟩ := hrel
    have HBW := Lib.hid (show Below w.heap.size w wr from HB2.out.trans (HBW2.out.mono HB2.out.size))
    by_cases hlt : i < n
    · have hil : i < (sortN S).length := by rw [sortN_length, HN.out]; exact hlt
      obtain ⟨s, hs⟩ : ∃ s, (sortN S)[i]? = some s := ⟨_, List.getElem?_eq_getElem hil⟩
      obtain ⟨g0, hA, hcs⟩ := (HA2.out.below HBW2.out) i s hs
      have HTK := Lib.hid (show (sortN S).take (i + 1) = (sortN S).take i ++ [s] by rw [List.take_add_one, hs]; rfl)
      have hsm := sortN_mem.1 (List.mem_of_getElem? hs)
      obtain ⟨x, hx, hxs⟩ := List.mem_map.1 hsm
      have hss : s.size ≤ 100 := hxs ▸ HOK.out.2.small x hx
      have hsp : s ∈ P.map (·.1) := by
        rw [HSP.out, snL, List.map_map] at hsm; exact hsm
      obtain ⟨y, hy, hy1, hy2, hy3⟩ := snGet_lkp s P hsp
      rw [← HSP.out] at hy3
      obtain ⟨q, hq⟩ : ∃ q, y.2.1 = q := ⟨_, rfl⟩
      have hml : m ≤ 175000000000 := by
        have h1 := snaps_len HOK.out.2 ((sortN S).take i) (fun z hz => sortN_mem.1 (List.mem_of_mem_take hz))
        have h2 := HOM.out.2
        rw [List.length_append, beL_length] at h2
        have h3 : ((sortN S).take i).length = i := by rw [List.length_take]; omega
        rw [h3] at h1
        omega
      obtain ⟨pre, hpre⟩ : ∃ l, beL n 2 ++ ((sortN S).take i).flatMap (snapL S) = l := ⟨_, rfl⟩
      have HOM' := HOM.out
      rw [hpre] at HOM'
      have HPRE := Lib.hid hpre
      obtain ⟨w3, hw3⟩ : ∃ w3, wr = w3 := ⟨_, rfl⟩
      rw [hw3] at hcs HBW HBW2 HOM' ⊢
      have HM := Lib.hid HOM'.2.symm
      have hI3 : Ints .u8 w3 A3 pre := by
        obtain ⟨A9, c9, e9, _, hI9, _⟩ := HOM'.1.ints
        injection e9 with e9; rw [e9]; exact hI9
      have HTX := Lib.hid (fun W (hb : Below w3.heap.size w3 W) => Text_any A3 m c3 pre s W HM.out (by omega) (hI3.below hb) (by omega))
      have HTB := Lib.hid (fun W (hb : Below w3.heap.size w3 W) A c hI => table_any A (m + (4 + s.size)) c (pre ++ textL s) q y.2.2 (snGet S s) W (by rw [List.length_append, textL_length, HM.out]) (by omega) hI ((hq ▸ HM2.out y hy).below (HBW.out.trans (hb.mono HBW.out.size))) hy3.symm (snGet_ok HOK.out.2 s).srt (snGet_ok HOK.out.2 s).len (snGet_ok HOK.out.2 s).small (snGet_ok HOK.out.2 s).p47)
      have HZ := Lib.hid (show ∀ W, (zeroValue 59).run Tryz.prog W = .ok (.pointer none) W from fun W => by kernel_rfl)
      have HLK := Lib.hid (fun W (hb : Below w3.heap.size w3 W) => show (Instr.lookup 58 (.map (some gm)) (.string s) false).run Tryz.prog W = .ok (.pointer q) W from by
        have h9 := run_lkp keyB Tryz.underlying58 (HM1.out.below (HBW.out.trans (hb.mono HBW.out.size))) s (by have : s.size ≤ 100 := hss; show s.size ≤ 1000000; omega) (.pointer none) (HZ.out W) false
        rw [hy2, hq] at h9; exact h9)
      have hrg := (HBW.out.block gn (row_lt HR.out)).trans HR.out
      have HLG := Lib.hid (row_lt hrg)
      have HC1 := Lib.hid (show w3.cell? ⟨gn, 1, none⟩ = some (.map (some gm)) from cell_row' hrg)
      have hi0 : (0 : Int) ≤ (i : Int) := by omega
      have hi1 : (i : Int) < (n : Int) := by omega
      have HAE := Lib.hid hA
      subst hA
      clear hil hs hsm hx hxs hsp hy hy1 hy2 hy3 hq hpre HOM' hw3 hI3 hrg hlt x
      go_upto_region 7 with (fail)
      --[7
      refine wp_region_held_drew (S := fun w' => Below w3.heap.size w3 w') (by kernel_rfl) ((Below.refl _ _).drew) (fun hHeld => ?_)
      refine held_take 0 (some 22) (v := ?_) rfl rfl (by kernel_rfl) (by kernel_rfl) (by kernel_rfl) (fun _ _ _ h => h) (Or.inl ⟨by rfl, ?_⟩) hHeld ?_
      rotate_left
      · (intro w' hSw; clear hSw; go_simp; try with_reducible rfl)
      try simp only [Act.put, List.setIfInBounds_toArray, List.set_cons_zero, List.set_cons_succ]
      refine held_take 1 (some 23) (v := ?_) rfl rfl (by kernel_rfl) (by kernel_rfl) (by kernel_rfl) (fun _ _ _ h => h) (Or.inl ⟨by rfl, ?_⟩) hHeld ?_
      rotate_left
      · (intro w' hSw; clear hSw; go_simp; try with_reducible rfl)
      try simp only [Act.put, List.setIfInBounds_toArray, List.set_cons_zero, List.set_cons_succ]
      refine held_take 3 (some 25) (v := ?_) rfl rfl (by kernel_rfl) (by kernel_rfl) (by kernel_rfl) (fun _ _ _ h => h) (Or.inl ⟨by rfl, ?_⟩) hHeld ?_
      rotate_left
      · (intro w' hSw; clear hSw; go_simp; try with_reducible rfl)
      try simp only [Act.put, List.setIfInBounds_toArray, List.set_cons_zero, List.set_cons_succ]
      refine held_take 4 (some 26) (v := ?_) rfl rfl (by kernel_rfl) (by kernel_rfl) (by kernel_rfl) (fun _ _ _ h => h) (Or.inl ⟨by rfl, ?_⟩) hHeld ?_
      rotate_left
      · (intro w' hSw; clear hSw; go_simp; try with_reducible rfl)
      try simp only [Act.put, List.setIfInBounds_toArray, List.set_cons_zero, List.set_cons_succ]
      refine held_take 5 (some 27) (v := ?_) rfl rfl (by kernel_rfl) (by kernel_rfl) (by kernel_rfl) (fun _ _ _ h => h) (Or.inl ⟨by rfl, ?_⟩) hHeld ?_
      rotate_left
      · (intro w' hSw; clear hSw; go_simp; try with_reducible rfl)
      try simp only [Act.put, List.setIfInBounds_toArray, List.set_cons_zero, List.set_cons_succ]
      refine held_take 6 (some 28) (v := ?_) rfl rfl (by kernel_rfl) (by kernel_rfl) (by kernel_rfl) (fun _ _ _ h => h) (Or.inl ⟨by rfl, ?_⟩) hHeld ?_
      rotate_left
      · (intro w' hSw; have pf := (hSw.cell (p := ⟨gn, 1, none⟩) HLG.out).trans HC1.out; clear hSw; go_simp; try with_reducible rfl)
      try simp only [Act.put, List.setIfInBounds_toArray, List.set_cons_zero, List.set_cons_succ]
      refine held_take 7 (some 29) (v := ?_) rfl rfl (by kernel_rfl) (by kernel_rfl) (by kernel_rfl) (fun _ _ _ h => h) (Or.inl ⟨by rfl, ?_⟩) hHeld ?_
      rotate_left
      · (intro w' hSw; clear hSw; go_simp; try with_reducible rfl)
      try simp only [Act.put, List.setIfInBounds_toArray, List.set_cons_zero, List.set_cons_succ]
      refine held_take 8 (some 30) (v := .pointer q) rfl rfl (by kernel_rfl) (by kernel_rfl) (by kernel_rfl) (fun _ _ _ h => h) (yields_val (by go_simp) (fun W h => exec_lkp _ _ _ _ rfl (.map (some gm)) (.string s) (by go_simp) (by go_simp) (HLK.out W h))) hHeld ?_
      try simp only [Act.put, List.setIfInBounds_toArray, List.set_cons_zero, List.set_cons_succ]
      refine wpAnyH_ready (rs := [2]) (by kernel_rfl) (by simp) ?_
      refine AllReadyH.cons rfl (fun K hKK => ?_) AllReadyH.nil
      go_simp
      go_at_call 24
      refine (HTX.out _ ((Below.refl w3.heap.size w3).drew)).mono ?_
      rintro e wa ⟨va, rfl, hoa, hba⟩
      obtain ⟨Aa, ca, rfl, hca, hIa, hAa⟩ := hoa.ints
      have hla : (pre ++ textL s).length = m + (4 + s.size) := by rw [List.length_append, textL_length, HM.out]
      rw [hla] at hca ⊢
      have hSa : Below w3.heap.size w3 wa := (Below.refl w3.heap.size w3).drew.trans hba
      have HTA := Lib.hid (HTB.out _ hSa Aa ca hIa)
      clear hoa hca hIa hAa hba hla
      refine hKK.out _ _ hSa (fun hHeld => ?_)
      clear hKK K
      try simp only [Act.put, List.setIfInBounds_toArray, List.set_cons_zero, List.set_cons_succ]
      refine wpAnyH_ready (rs := [9]) (by kernel_rfl) (by simp) ?_
      refine AllReadyH.cons rfl (fun K hKK => ?_) AllReadyH.nil
      go_simp
      go_at_call 23
      refine HTA.out.mono ?_
      rintro e w5 ⟨v5, rfl, ho5, hb5⟩
      have hS5 : Below w3.heap.size w3 w5 := hSa.trans (hb5.mono hSa.size)
      obtain ⟨A5, c5, rfl, hc5, hI5, hA5⟩ := ho5.ints
      have HO5 := Lib.hid (OwnB.base ho5 (Nat.le_trans HBW.out.size hSa.size))
      clear ho5 hb5 hc5 hI5 hA5
      refine hKK.out _ _ hS5 (fun hHeld => ?_)
      clear hKK K
      try simp only [Act.put, List.setIfInBounds_toArray, List.set_cons_zero, List.set_cons_succ]
      refine held_take 10 (some 3) (v := ?_) rfl rfl (by kernel_rfl) (by kernel_rfl) (by kernel_rfl) (fun _ _ _ h => h) (Or.inl ⟨by rfl, ?_⟩) hHeld ?_
      rotate_left
      · (intro w' hSw; clear hSw; go_simp; try with_reducible rfl)
      try simp only [Act.put, List.setIfInBounds_toArray, List.set_cons_zero, List.set_cons_succ]
      refine wpAnyH_done (by kernel_rfl) ?_ _
      --]7
      have HO6 := Lib.hid (show OwnB w5 w.heap.size (.slice A5 (pre ++ textL s ++ tabL (snGet S s)).length c5) (beL n 2 ++ ((sortN S).take (i + 1)).flatMap (snapL S)) from by
        rw [HTK.out, List.flatMap_append, ← List.append_assoc, HPRE.out]
        have e9 : [s].flatMap (snapL S) = textL s ++ tabL (snGet S s) := by simp [snapL]
        rw [e9, ← List.append_assoc]; exact HO5.out)
      obtain ⟨m5, hm5'⟩ : ∃ k, (pre ++ textL s ++ tabL (snGet S s)).length = k := ⟨_, rfl⟩
      have hm5 : pre.length + ((textL s).length + (tabL (snGet S s)).length) = m5 := by rw [← hm5', List.length_append, List.length_append]; omega
      have HM5 := Lib.hid (show m5 = (beL n 2 ++ ((sortN S).take (i + 1)).flatMap (snapL S)).length from by
        rw [HTK.out, List.flatMap_append, ← List.append_assoc, HPRE.out]
        have e9 : [s].flatMap (snapL S) = textL s ++ tabL (snGet S s) := by simp [snapL]
        rw [e9, ← List.append_assoc, hm5'])
      rw [hm5'] at HO6
      try rw [hm5']
      have HB6 := Lib.hid (HBW2.out.trans (hHeld.mono HBW2.out.size))
      clear hHeld hm5' hml
      go_simp
      try rw [hm5]
      clear hm5
      go_wp2_with fail
      go_roundg (n - (i + 1))
      case measure => omega
      case rel => exact ⟨i + 1, m5, A5, c5, rfl, by go_num, by omega, Lib.hid ⟨HO6.out, HM5.out⟩, HB6⟩
    · obtain rfl : i = n := by omega
      have hti : (sortN S).take i = sortN S := List.take_of_length_le (by rw [sortN_length, HN.out]; exact Nat.le_refl _)
      have hom := HOM.out
      rw [hti] at hom
      have h1 := snaps_len HOK.out.2 (sortN S) (fun z hz => sortN_mem.1 hz)
      have hml : m ≤ 175000000000 := by
        have h2 := hom.2
        rw [List.length_append, beL_length] at h2
        rw [sortN_length, HN.out] at h1
        omega
      have hI3 : Ints .u8 wr A3 (beL i 2 ++ (sortN S).flatMap (snapL S)) := by
        obtain ⟨A9, c9, e9, _, hI9, _⟩ := hom.1.ints
        injection e9 with e9; rw [e9]; exact hI9
      have HTB := Lib.hid (table_any A3 m c3 (beL i 2 ++ (sortN S).flatMap (snapL S)) p t N wr hom.2.symm (by omega) hI3 (HT.out.1.below HBW.out) HT.out.2 HOK.out.1.srt HOK.out.1.len HOK.out.1.small HOK.out.1.p47)
      have cg0 : wr.cell? ⟨gn, 0, none⟩ = some (.pointer p) := cell_row' ((HBW.out.block gn (row_lt HR.out)).trans HR.out)
      clear hti hom h1 hml hI3 hlt hi
      go_wp2_with fail
      refine HTB.out.mono ?_
      rintro e w5 ⟨v5, rfl, ho5, hb5⟩
      obtain ⟨A5, n5, c5, rfl⟩ := own_formN ho5
      have HO5 := Lib.hid (show OwnB w5 w.heap.size (.slice A5 n5 c5) (layN N S) from by
        rw [layN, HN.out]; exact OwnB.base ho5 HBW.out.size)
      have HB5 := Lib.hid (HBW.out.trans (hb5.mono HBW.out.size))
      clear ho5 hb5 cg0
      go_wp2_with fail
      go_ret
      exact ⟨_, rfl, HO5.out, HB5.out⟩
end Go.Proofs.YtcklcffepedklaaGreatDoor

namespace Go.Proofs.YtcklcffepedklaaGreatDoor
open Go.RowKit

theorem or_byte64 (a x : Nat) (ha : a < 72057594037927936) (hx : x < 256) : Go.bits BinOp.or IntKind.u64 ((a : Int) * 256) (x : Int) = ((a * 256 + x : Nat) : Int) := by
  have h := Nat.two_pow_add_eq_or_of_lt (i := 8) (b := x) (by omega) a
  have hlt : a * 256 ||| x < 2 ^ 64 := Nat.or_lt_two_pow (by omega) (by omega)
  have ofN : ∀ z : Nat, z < 18446744073709551616 → (BitVec.ofInt 64 (z : Int)).toNat = z := fun z hz => by
    rw [BitVec.ofInt_natCast, BitVec.toNat_ofNat]; exact Nat.mod_eq_of_lt (by omega)
  have e : 2 ^ 8 * a = a * 256 := by rw [Nat.mul_comm]
  rw [e] at h
  show IntKind.u64.wrap ((BitVec.ofInt 64 ((a : Int) * 256) ||| BitVec.ofInt 64 (x : Int)).toNat : Int) = _
  rw [BitVec.toNat_or, show ((a : Int) * 256) = ((a * 256 : Nat) : Int) from by omega, ofN _ (by omega), ofN _ (by omega), ← h, IntKind.wrap_u64]
  omega
/-- Bytes as a natural number. -/
theorem foldl_nat : ∀ (l : List Int), Bytes l → ∀ z : Nat, ∃ y : Nat, l.foldl (fun n c => n * 256 + c) (z : Int) = y ∧ y < (z + 1) * 256 ^ l.length
  | [], _, z => ⟨z, rfl, by simp⟩
  | c :: l, h, z => by
    have hc := h 0
    simp only [List.getD_cons_zero] at hc
    have hl : Bytes l := fun i => by have := h (i + 1); simpa using this
    obtain ⟨y, h1, h2⟩ := foldl_nat l hl (z * 256 + c.toNat)
    refine ⟨y, ?_, ?_⟩
    · rw [List.foldl_cons, ← h1]
      congr 1
      omega
    · refine Nat.lt_of_lt_of_le h2 ?_
      rw [List.length_cons, Nat.pow_succ, Nat.mul_comm (256 ^ l.length) 256, ← Nat.mul_assoc]
      exact Nat.mul_le_mul_right _ (by omega)
theorem numL_nat (l : List Int) (h : Bytes l) : ∃ z : Nat, numL l = z ∧ z < 256 ^ l.length := by
  obtain ⟨y, h1, h2⟩ := foldl_nat l h 0
  exact ⟨y, h1, by simpa using h2⟩

set_option maxRecDepth 20000 in
theorem number_any (A : Option Addr) (n c : Nat) (l : List Int) (w : World) (hn : l.length = n) (hl : n ≤ 8) (hI : Ints .u8 w A l) (hB : Bytes l) :
    Calls Tryz.prog 64 #[.slice A n c] w fun e w' => e = .returned (.int .u64 (numL l)) ∧ w = w' := by
  have HN := Lib.hid hn
  have HI := Lib.hid hI
  have HB := Lib.hid hB
  clear hn hI hB
  go_enter Tryz.func64, Tryz.ntmps64
  go_wp2_with fail
  go_loopg [3, 8] n (fun kq v3 v8 w' => ∃ i z : Nat, v8 = .int .i64 (i : Int) ∧ i + kq = n ∧ v3 = .int .u64 (z : Int) ∧ Hid (numL (l.take i) = z) ∧ z < 256 ^ i ∧ w = w')
  case atStart => exact ⟨0, 0, rfl, by omega, rfl, Lib.hid rfl, by decide, rfl⟩
  case round =>
    obtain ⟨i, z, rfl, hi, rfl, HZ, hz, rfl⟩ := hrel
    by_cases hlt : i < n
    · obtain ⟨ad, rfl, hc⟩ := HI.out i (by rw [HN.out]; exact hlt)
      have hb := HB.out i
      obtain ⟨x, hx⟩ : ∃ x : Nat, l.getD i 0 = x := ⟨(l.getD i 0).toNat, by omega⟩
      have hz8 : z < 72057594037927936 := Nat.lt_of_lt_of_le hz (show 256 ^ i ≤ 256 ^ 7 from Nat.pow_le_pow_right (by decide) (by omega))
      rw [hx] at hc hb
      have HO := Lib.hid (or_byte64 z x hz8 (by omega))
      have HZ' := Lib.hid (show numL (l.take (i + 1)) = ((z * 256 + x : Nat) : Int) by rw [take_getD l i (by rw [HN.out]; exact hlt), numL_snoc, HZ.out, hx]; omega)
      have HLT := Lib.hid (show z * 256 + x < 256 ^ (i + 1) by rw [Nat.pow_succ]; omega)
      have i1 : (i : Int) < (n : Int) := by omega
      have hx2 : x < 256 := by omega
      clear hb hx hz hlt
      go_wp2_with fail
      go_roundg (n - (i + 1))
      case measure => omega
      case rel => exact ⟨i + 1, z * 256 + x, by go_num, by omega, by rw [HO.out], HZ', HLT.out, rfl⟩
    · have hin : i = n := by omega
      subst hin
      have HE := Lib.hid (show (z : Int) = numL l by rw [← HZ.out, List.take_of_length_le (by rw [HN.out]; exact Nat.le_refl _)])
      clear hlt
      go_wp2_with fail
      go_ret
      exact ⟨by rw [HE.out]; rfl, rfl⟩

/-- A reader at block r of the bytes l. -/
structure Rd (w : World) (r : Nat) (l : List Int) : Prop where
  ex : ∃ A c, w.heap[r]? = some (.cells #[.slice A l.length c, .int .i64 0] 118 (0, 0)) ∧ Ints .u8 w A l ∧ l.length ≤ c ∧ (∀ ad, A = some ad → ad.block < r)
  byt : Bytes l
theorem Rd.lt {w : World} {r : Nat} {l : List Int} (h : Rd w r l) : r < w.heap.size := by obtain ⟨A, c, h1, _⟩ := h.ex; exact row_lt h1
theorem Rd.below {w w' : World} {r : Nat} {l : List Int} (h : Rd w r l) (hb : Below w.heap.size w w') : Rd w' r l := by
  obtain ⟨A, c, h1, h2, h3, h4⟩ := h.ex
  exact ⟨⟨A, c, (hb.block r (row_lt h1)).trans h1, h2.below hb, h3, h4⟩, h.byt⟩

set_option maxRecDepth 20000 in
theorem RNew_any (A : Option Addr) (n c : Nat) (l : List Int) (w : World) (hn : l.length = n) (hl : n ≤ 500000000000) (hI : Ints .u8 w A l) (hB : Bytes l) (hA : A = none → n = 0 ∧ c = 0) :
    Calls Tryz.prog 34 #[.slice A n c] w fun e w' => ∃ r, e = .returned (.pointer (some ⟨r, 0, none⟩)) ∧ w.heap.size ≤ r ∧ Rd w' r l ∧ Below w.heap.size w w' := by
  have HN := Lib.hid hn
  have HI := Lib.hid hI
  have HB := Lib.hid hB
  have HL := Lib.hid (show (l.map (Value.int .u8)).length = n * 1 by rw [List.length_map, hn, Nat.mul_one])
  clear hn hI hB
  go_enter Tryz.func34, Tryz.ntmps34
  go_wp2_with (at_builtin; refine wpList_app EB rfl _ _ rfl w.heap.size (.slice none 0 0) 0 [] rfl (World.ownsRow_nil _ _ _ _) A n c (l.map (Value.int .u8)) rfl hA HL.out HI.out.news (ints_one _ _) ?c1 ?c2 (Nat.le_refl _) ?_)
  case c1 => unfold maxLen; omega
  case c2 => omega
  intro v1 w1 hown hgrow _
  have HO := Lib.hid (show OwnB w1 w.heap.size v1 l from by rw [OwnB, HN.out]; simpa using hown)
  have HW := Lib.hid (show Below w.heap.size w w1 from (Below.refl _ _).grown hgrow (Nat.le_refl _) (fun k hk => by cases hk))
  clear hown hgrow
  obtain ⟨A', c', hv, hcc, hI', hA'⟩ := HO.out.ints
  have HI' := Lib.hid hI'
  have HA' := Lib.hid hA'
  clear HO hI' hA'
  subst hv
  go_wp2
  go_ret
  have hs := HW.out.size
  refine ⟨w1.heap.size, rfl, hs, ⟨⟨A', c', ?_, HI'.out.grown (grown_alloc _ _ none) (fun _ _ _ h => by cases h), hcc, fun ad e => (HA'.out ad e).2⟩, HB.out⟩, HW.out.alloc hs _⟩
  exact heap_alloc_last _ _

theorem ready_any (r : Nat) (l : List Int) (w : World) (h : Rd w r l) : Calls Tryz.prog 63 #[.pointer (some ⟨r, 0, none⟩)] w fun e w' => e = .returned (.bool true) ∧ w = w' := by
  obtain ⟨A, c, h1, _⟩ := h.ex
  have c1 : w.cell? ⟨r, 1, none⟩ = some (.int .i64 0) := by rw [cell_of_row _ _ _ _ _ _ h1]; rfl
  clear h h1
  go_enter Tryz.func63, Tryz.ntmps63
  go_wp2
  go_ret
  exact ⟨rfl, rfl⟩

set_option maxRecDepth 20000 in
theorem Get_any (r : Nat) (l : List Int) (many : Nat) (w : World) (h : Rd w r l) (hm0 : 0 < many) (hm : many ≤ 8) (hl : many ≤ l.length) :
    Calls Tryz.prog 35 #[.pointer (some ⟨r, 0, none⟩), .int .i64 many] w fun e w' => e = .returned (.int .u64 (numL (l.take many))) ∧ w.grownBy w' (some r) ∧ Rd w' r (l.drop many) := by
  obtain ⟨A, c, h1, h2, h3, h4⟩ := h.ex
  obtain ⟨ad, rfl, _⟩ := h2 0 (by omega)
  have c0 : w.cell? ⟨r, 0, none⟩ = some (.slice (some ad) l.length c) := by rw [cell_of_row _ _ _ _ _ _ h1]; rfl
  have c1 : w.cell? ⟨r, 1, none⟩ = some (.int .i64 0) := by rw [cell_of_row _ _ _ _ _ _ h1]; rfl
  have f0 := free_row h1 0
  have HRY := Lib.hid (ready_any r l w h)
  have HNM := Lib.hid (number_any (some ad) many c (l.take many) w (by rw [List.length_take]; omega) hm (h2.take _) (h.byt.take _))
  have hgrow := grown_setCell w r 0
  have hrow := fun v => setCell_row h1 0 v
  have HD := Lib.hid (fun (A' : Option Addr) (c' : Nat) (hA : l.length - many = 0 ∨ A' = some (ad.add many)) (hc : l.length - many ≤ c') (hb : ∀ b, A' = some b → b.block < r) => (show Rd (w.setCell ⟨r, 0, none⟩ (.slice A' (l.length - many) c')) r (l.drop many) from by
    refine ⟨⟨A', c', ?_, ?_, by rw [List.length_drop]; exact hc, hb⟩, h.byt.drop _⟩
    · rw [hrow, List.length_drop]; rfl
    · rcases hA with hA | rfl
      · rw [List.drop_of_length_le (by omega)]; exact Ints.nil _ _ _
      · exact (h2.drop many).grown (hgrow _) (fun b e _ h => by have := hb b e; injection h with h; omega)))
  have hab : ad.block < r := h4 ad rfl
  clear h h2 hrow
  go_enter Tryz.func35, Tryz.ntmps35
  go_wp2_with (first | (go_at_call 63; refine HRY.out.mono ?_; rintro e w' ⟨rfl, rfl⟩) | (go_at_call 64; refine HNM.out.mono ?_; rintro e w' ⟨rfl, rfl⟩))
  · go_ret
    exact ⟨rfl, hgrow _, HD.out _ _ (.inl (by omega)) (by omega) (fun b e => by injection e with e; subst e; exact hab)⟩
  · go_ret
    exact ⟨rfl, hgrow _, HD.out _ _ (.inr rfl) (by omega) (fun b e => by injection e with e; subst e; rw [add_block]; exact hab)⟩

end Go.Proofs.YtcklcffepedklaaGreatDoor

namespace Go.Proofs.YtcklcffepedklaaGreatDoor
open Go.RowKit

def slA (A : Option Addr) (l c : Nat) : Option Addr := if c = l then A else A.map (·.add l)
theorem Ints.sl {w : World} {A : Option Addr} {b : List Int} (h : Ints .u8 w A b) (l c : Nat) (hc : b.length ≤ c) : Ints .u8 w (slA A l c) (b.drop l) := by
  unfold slA
  split
  · rw [List.drop_of_length_le (by omega)]; exact Ints.nil _ _ _
  · cases A with
    | none =>
      have hb : b = [] := by
        cases b with
        | nil => rfl
        | cons x b => obtain ⟨ad, e, _⟩ := h 0 (by simp); cases e
      rw [hb, List.drop_nil]; exact Ints.nil _ _ _
    | some a => exact h.drop l
theorem add_block' (a : Addr) (k : Nat) : (a.add k).block = a.block := by unfold Addr.add; split <;> rfl
theorem map_add4 (A : Option Addr) (c : Nat) : (if c = 4 then A else Option.map (fun x => { block := x.block, off := x.off + 4 }) A) = slA A 4 c := by
  unfold slA
  split
  · rfl
  · cases A with
    | none => rfl
    | some a =>
      obtain ⟨g, o, m⟩ := a
      simp [Addr.add]
theorem slA_in {A : Option Addr} {l c : Nat} {ad : Addr} (h : slA A l c = some ad) : ∃ a0, A = some a0 ∧ ad.block = a0.block := by
  unfold slA at h
  split at h
  · exact ⟨ad, h, rfl⟩
  · cases A with
    | none => cases h
    | some a => injection h with h; exact ⟨a, rfl, by rw [← h]; exact add_block' _ _⟩
set_option maxRecDepth 20000 in
theorem Fault_any (r : Nat) (l : List Int) (w : World) (h : Rd w r l) : Calls Tryz.prog 65 #[.pointer (some ⟨r, 0, none⟩)] w fun e w' => e = .returned (.int .i64 0) ∧ w = w' := by
  obtain ⟨A, c, h1, _⟩ := h.ex
  have c1 : w.cell? ⟨r, 1, none⟩ = some (.int .i64 0) := by rw [cell_of_row _ _ _ _ _ _ h1]; rfl
  clear h h1
  go_enter Tryz.func65, Tryz.ntmps65
  go_wp2
  go_ret
  exact ⟨rfl, rfl⟩
set_option maxRecDepth 20000 in
theorem End_any (r : Nat) (w : World) (h : Rd w r []) : Calls Tryz.prog 38 #[.pointer (some ⟨r, 0, none⟩)] w fun e w' => e = .returned (.int .i64 0) ∧ w = w' := by
  have HRY := Lib.hid (ready_any r [] w h)
  have HF := Lib.hid (Fault_any r [] w h)
  obtain ⟨A, c, h1, _⟩ := h.ex
  have c0 : w.cell? ⟨r, 0, none⟩ = some (.slice A 0 c) := by rw [cell_of_row _ _ _ _ _ _ h1]; rfl
  clear h h1
  go_enter Tryz.func38, Tryz.ntmps38
  go_wp2_with fail
  refine HRY.out.mono ?_
  rintro e w' ⟨rfl, rfl⟩
  go_wp2_with fail
  refine HF.out.mono ?_
  rintro e w' ⟨rfl, rfl⟩
  go_wp2_with fail
  go_ret
  exact ⟨rfl, rfl⟩
set_option maxRecDepth 20000 in
set_option maxHeartbeats 800000 in
theorem RText_any (r : Nat) (s : BA) (rest : List Int) (most : Nat) (w0 : World) (h : Rd w0 r (textL s ++ rest)) (hs : s.size ≤ most) (hm : most ≤ 2000000000) (hrl : rest.length ≤ 1000000000000) :
    Calls Tryz.prog 36 #[.pointer (some ⟨r, 0, none⟩), .int .i64 most] w0 fun e w' => e = .returned (.string s) ∧ Chg (fun x => x = r) w0 w' ∧ Rd w' r rest := by
  obtain ⟨A, c, h1, h2, h3, h4⟩ := h.ex
  obtain ⟨k, hk⟩ : ∃ k, s.size = k := ⟨_, rfl⟩
  obtain ⟨l, hl⟩ : ∃ l, textL s ++ rest = l := ⟨_, rfl⟩
  rw [hl] at h h1 h2 h3
  obtain ⟨n, hn⟩ : ∃ n, l.length = n := ⟨_, rfl⟩
  have hnl : n = 4 + k + rest.length := by rw [← hn, ← hl, List.length_append, textL_length, hk]
  rw [hn] at h1 h3
  have HRY := Lib.hid (ready_any r l w0 h)
  have ht4 : l.take 4 = beL k 4 := by
    rw [← hl, textL, hk, List.append_assoc, List.take_append_of_le_length (by rw [beL_length]; exact Nat.le_refl _), List.take_of_length_le (by rw [beL_length]; exact Nat.le_refl _)]
  have hd4 : l.drop 4 = bI s ++ rest := by
    rw [← hl, textL, hk, List.append_assoc, List.drop_append_of_le_length (by rw [beL_length]; exact Nat.le_refl _), List.drop_of_length_le (by rw [beL_length]; exact Nat.le_refl _), List.nil_append]
  have hnum : numL (l.take 4) = (k : Int) := by rw [ht4, numL_be k 4 (by omega)]
  have HNM := Lib.hid (fun W (hb : Below w0.heap.size w0 W) => number_any A 4 c (l.take 4) W (by rw [List.length_take]; omega) (by decide) ((h2.take _).below hb) (h.byt.take _))
  rw [hnum] at HNM
  have hi4 := h2.sl 4 c (by omega)
  rw [hd4] at hi4
  obtain ⟨A4, hA4⟩ : ∃ x, slA A 4 c = x := ⟨_, rfl⟩
  have hif : (if c = 4 then A else Option.map (fun x => x.add 4) A) = A4 := hA4
  obtain ⟨n4, hn4⟩ : ∃ x, n - 4 = x := ⟨_, rfl⟩
  obtain ⟨c4, hc4⟩ : ∃ x, c - 4 = x := ⟨_, rfl⟩
  rw [hA4] at hi4
  have hik := hi4.sl k c4 (by rw [List.length_append, bI_length, hk]; omega)
  rw [List.drop_append_of_le_length (by rw [bI_length, hk]; exact Nat.le_refl _), List.drop_of_length_le (by rw [bI_length, hk]; exact Nat.le_refl _), List.nil_append] at hik
  obtain ⟨Ak, hAk⟩ : ∃ x, slA A4 k c4 = x := ⟨_, rfl⟩
  have HA4 := Lib.hid hA4
  have hif2 : (if c4 = k then A4 else Option.map (fun x => x.add k) A4) = Ak := hAk
  rw [hAk] at hik
  have hblk : ∀ ad, A4 = some ad → ad.block < r := fun ad e => by
    rw [← hA4] at e
    obtain ⟨a0, e0, eb⟩ := slA_in e
    rw [eb]; exact h4 a0 e0
  have hblk2 : ∀ ad, Ak = some ad → ad.block < r := fun ad e => by
    rw [← hAk] at e
    obtain ⟨a0, e0, eb⟩ := slA_in e
    rw [eb]; exact hblk a0 e0
  have hik4 : Ints .u8 w0 A4 (bI s) := by
    have := hi4.take k
    rwa [List.take_append_of_le_length (by rw [bI_length, hk]; exact Nat.le_refl _), List.take_of_length_le (by rw [bI_length, hk]; exact Nat.le_refl _)] at this
  have HCV := Lib.hid (fun W (hc : Chg (fun x => x = r) w0 W) => show (convert 33 9 (.slice A4 k c4)).run Tryz.prog W = .ok (.string s) W by
    have := run_conv_ints (hik4.chg hc (fun ad e _ hr => by have := hblk ad e; omega)) 33 9 5 k c4 (by rw [bI_length, hk]) Tryz.underlying33 Tryz.underlying5 Tryz.underlying9
    rw [str_bI] at this; exact this)
  have HIK := Lib.hid (And.intro hik hblk2)
  have HR0 := Lib.hid h1
  have hrb : Bytes rest := by
    have := h.byt.drop (4 + k)
    rw [← hl, List.drop_append_of_le_length (by rw [textL_length, hk]; exact Nat.le_refl _), List.drop_of_length_le (by rw [textL_length, hk]; exact Nat.le_refl _), List.nil_append] at this
    exact this
  have HBY := Lib.hid hrb
  have c0 : w0.cell? ⟨r, 0, none⟩ = some (.slice A n c) := cell_row' h1
  have c1 : w0.cell? ⟨r, 1, none⟩ = some (.int .i64 0) := cell_row' h1
  have HLR := Lib.hid (row_lt h1)
  have HC0 := Lib.hid c0
  have e1 : max (most : Int) 0 = (most : Int) := by omega
  have e2 : IntKind.u64.wrap (most : Int) = (most : Int) := by rw [IntKind.wrap_u64]; omega
  have e3 : ¬ (most : Int) < (k : Int) := by omega
  have hn0 : n ≤ 4000000000 ∨ True := .inr trivial
  obtain ⟨nk, hnk⟩ : ∃ x, n4 - k = x := ⟨_, rfl⟩
  obtain ⟨ck, hck⟩ : ∃ x, c4 - k = x := ⟨_, rfl⟩
  have f00 := free_row h1 0
  have HN := Lib.hid (And.intro hnl (And.intro hn4 hc4))
  have HNK := Lib.hid (And.intro hnk (And.intro hck (show nk = rest.length ∧ rest.length ≤ ck by omega)))
  have HRL := Lib.hid hrl
  have HSM := Lib.hid (And.intro hs (And.intro hm h3))
  clear h1 h2 h4 h hk hl hn hnl ht4 hd4 hnum hi4 hA4 hik hAk hblk hblk2 hik4 hrb hs
  go_enter Tryz.func36, Tryz.ntmps36
  go_wp2_with fail
  refine HRY.out.mono ?_
  rintro e w' ⟨rfl, rfl⟩
  have hn5 : ¬ (n : Int) < 4 := by have := HN.out; omega
  go_upto_region 6 with (fail)
  have hn6 : ¬ n < 4 := by have := HN.out; omega
  have hc5 : 4 ≤ c := by have := HSM.out; omega
  have hn7 : (4 : Int) ≤ (n : Int) := by omega
  have hc6 : (4 : Int) ≤ (c : Int) := by omega
  clear hn6 hc5
  have e4 : IntKind.u64.wrap (n4 : Int) = (n4 : Int) := by rw [IntKind.wrap_u64]; have := HN.out; have := HRL.out; omega
  have e5 : ¬ (n4 : Int) < (k : Int) := by have := HN.out; omega
  have e6 : (k : Int) ≤ (c4 : Int) := by have := HN.out; have := HSM.out; omega
  have e7 : (k : Int) ≤ (n4 : Int) := by omega
  --[6
  refine wp_region_held_drew (S := fun w' => Below w0.heap.size w0 w') (by kernel_rfl) ((Below.refl _ _).drew) (fun hHeld => ?_)
  refine held_take 0 (some 19) (v := ?_) rfl rfl (by kernel_rfl) (by kernel_rfl) (by kernel_rfl) (fun _ _ _ h => h) (Or.inl ⟨by rfl, ?_⟩) hHeld ?_
  rotate_left
  · (intro w' hSw; clear hSw; go_simp; try with_reducible rfl)
  try simp only [Act.put, List.setIfInBounds_toArray, List.set_cons_zero, List.set_cons_succ]
  refine held_take 1 (some 20) (v := ?_) rfl rfl (by kernel_rfl) (by kernel_rfl) (by kernel_rfl) (fun _ _ _ h => h) (Or.inl ⟨by rfl, ?_⟩) hHeld ?_
  rotate_left
  · (intro w' hSw; clear hSw; go_simp; try with_reducible rfl)
  try simp only [Act.put, List.setIfInBounds_toArray, List.set_cons_zero, List.set_cons_succ]
  refine held_take 2 (some 21) (v := ?_) rfl rfl (by kernel_rfl) (by kernel_rfl) (by kernel_rfl) (fun _ _ _ h => h) (Or.inl ⟨by rfl, ?_⟩) hHeld ?_
  rotate_left
  · (intro w' hSw; clear hSw; go_simp; try with_reducible rfl)
  try simp only [Act.put, List.setIfInBounds_toArray, List.set_cons_zero, List.set_cons_succ]
  refine held_take 3 (some 22) (v := ?_) rfl rfl (by kernel_rfl) (by kernel_rfl) (by kernel_rfl) (fun _ _ _ h => h) (Or.inl ⟨by rfl, ?_⟩) hHeld ?_
  rotate_left
  · (intro w' hSw; have pf := (hSw.cell (p := ⟨r, 0, none⟩) HLR.out).trans HC0.out; clear hSw; go_simp; try with_reducible rfl)
  try simp only [Act.put, List.setIfInBounds_toArray, List.set_cons_zero, List.set_cons_succ]
  refine held_take 4 (some 23) (v := ?_) rfl rfl (by kernel_rfl) (by kernel_rfl) (by kernel_rfl) (fun _ _ _ h => h) (Or.inl ⟨by rfl, ?_⟩) hHeld ?_
  rotate_left
  · (intro w' hSw; clear hSw; go_simp; try with_reducible rfl)
  try simp only [Act.put, List.setIfInBounds_toArray, List.set_cons_zero, List.set_cons_succ]
  refine held_take 6 (some 25) (v := ?_) rfl rfl (by kernel_rfl) (by kernel_rfl) (by kernel_rfl) (fun _ _ _ h => h) (Or.inl ⟨by rfl, ?_⟩) hHeld ?_
  rotate_left
  · (intro w' hSw; clear hSw; go_simp; try with_reducible rfl)
  try simp only [Act.put, List.setIfInBounds_toArray, List.set_cons_zero, List.set_cons_succ]
  refine held_take 7 (some 26) (v := ?_) rfl rfl (by kernel_rfl) (by kernel_rfl) (by kernel_rfl) (fun _ _ _ h => h) (Or.inl ⟨by rfl, ?_⟩) hHeld ?_
  rotate_left
  · (intro w' hSw; clear hSw; go_simp; try with_reducible rfl)
  try simp only [Act.put, List.setIfInBounds_toArray, List.set_cons_zero, List.set_cons_succ]
  refine held_take 8 (some 27) (v := ?_) rfl rfl (by kernel_rfl) (by kernel_rfl) (by kernel_rfl) (fun _ _ _ h => h) (Or.inl ⟨by rfl, ?_⟩) hHeld ?_
  rotate_left
  · (intro w' hSw; clear hSw; go_simp; try with_reducible rfl)
  try simp only [Act.put, List.setIfInBounds_toArray, List.set_cons_zero, List.set_cons_succ]
  refine held_take 9 (some 28) (v := ?_) rfl rfl (by kernel_rfl) (by kernel_rfl) (by kernel_rfl) (fun _ _ _ h => h) (Or.inl ⟨by rfl, ?_⟩) hHeld ?_
  rotate_left
  · (intro w' hSw; have pf := (hSw.cell (p := ⟨r, 0, none⟩) HLR.out).trans HC0.out; clear hSw; go_simp; try with_reducible rfl)
  try simp only [Act.put, List.setIfInBounds_toArray, List.set_cons_zero, List.set_cons_succ]
  refine held_take 10 (some 29) (v := .slice A4 n4 c4) rfl rfl (by kernel_rfl) (by kernel_rfl) (by kernel_rfl) (fun _ _ _ h => h) (Or.inl ⟨by rfl, by intro w' hSw; clear hSw; go_simp; exact (map_add4 A c).trans HA4.out⟩) hHeld ?_
  try simp only [Act.put, List.setIfInBounds_toArray, List.set_cons_zero, List.set_cons_succ]
  refine wpAnyH_ready (rs := [5]) (by kernel_rfl) (by simp) ?_
  refine AllReadyH.cons rfl (fun K hKK => ?_) AllReadyH.nil
  go_simp
  go_at_call 64
  refine (HNM.out _ hHeld).mono ?_
  rintro e w' ⟨rfl, rfl⟩
  refine hKK.out _ _ hHeld (fun hHeld => ?_)
  clear hKK K
  try simp only [Act.put, List.setIfInBounds_toArray, List.set_cons_zero, List.set_cons_succ]
  refine held_take 11 (some 5) (v := ?_) rfl rfl (by kernel_rfl) (by kernel_rfl) (by kernel_rfl) (fun _ _ _ h => h) (Or.inl ⟨by rfl, ?_⟩) hHeld ?_
  rotate_left
  · (intro w' hSw; clear hSw; go_simp; try with_reducible rfl)
  try simp only [Act.put, List.setIfInBounds_toArray, List.set_cons_zero, List.set_cons_succ]
  refine held_take 12 (some 6) (v := ?_) rfl rfl (by kernel_rfl) (by kernel_rfl) (by kernel_rfl) (fun _ _ _ h => h) (Or.inl ⟨by rfl, ?_⟩) hHeld ?_
  rotate_left
  · (intro w' hSw; clear hSw; go_simp; try with_reducible rfl)
  try simp only [Act.put, List.setIfInBounds_toArray, List.set_cons_zero, List.set_cons_succ]
  refine wpAnyH_done (by kernel_rfl) ?_ _
  --]6
  clear hHeld c0 c1 HC0
  have c0 : w0.cell? ⟨r, 0, none⟩ = some (.slice A n c) := cell_row' HR0.out
  go_simp
  go_upto_region 14 with (fail)
  have hch : Chg (fun x => x = r) w0 ((w0.setCell ⟨r, 0, none⟩ (.slice Ak nk ck)).drew) := (Chg.of_ (grown_setCell w0 r 0 (.slice Ak nk ck)) (fun k _ e => by injection e with e; exact e.symm)).drewN 1
  have hr9 := setCell_row HR0.out 0 (.slice Ak nk ck)
  have HCH := Lib.hid hch
  have HR9 := Lib.hid hr9
  obtain ⟨w9, hw9⟩ : ∃ w9, (w0.setCell ⟨r, 0, none⟩ (.slice Ak nk ck)).drew = w9 := ⟨_, rfl⟩
  rw [hw9] at HCH ⊢
  have HR9' := Lib.hid (show w9.heap[r]? = some (.cells #[.slice Ak nk ck, .int .i64 0] 118 (0, 0)) from by rw [← hw9]; exact HR9.out)
  have hcv := HCV.out w9 HCH.out
  clear hch hr9 hw9 c0
  go_wp2_with fail
  go_ret
  refine ⟨rfl, HCH.out, ⟨Ak, ck, ?_, HIK.out.1.chg HCH.out (fun ad e _ hr => by have := HIK.out.2 ad e; omega), HNK.out.2.2.2, HIK.out.2⟩, HBY.out⟩
  rw [HR9'.out, HNK.out.2.2.1]
end Go.Proofs.YtcklcffepedklaaGreatDoor
