/- Texts of the proof, one behind the other: cellaragetop: cutter, how, made. cellaragetop: stored. cellaragetop: stored, walked. cellaragetop: fetched. -/
import Derived.Test.YtcklcffepedklaaGreatM32
import Derived.Test.YtcklcffepedklaaGreatM36
namespace Go.Proofs.YtcklcffepedklaaGreat
open Go.RowKit Go.Maps

/-- How a number tells to cut. -/
def ctN (n : Nat) : Ck.Ct := ⟨16 + n % 15, 16 + n % 15 + n / 4, n % 20 + 1, n % 5 + 1⟩
theorem ctN_ok (n : Nat) (h : n < 256) : (ctN n).Ok := by
  unfold ctN
  refine ⟨?_, ?_, ?_, ?_, ?_, ?_, ?_⟩ <;> simp only <;> omega
theorem ctN_93 (n : Nat) (h : n < 256) : (ctN n).mx ≤ 93 := by unfold ctN; simp only; omega
set_option maxRecDepth 20000 in
theorem cutter_any (n : Nat) (h : n < 256) (w : World) : Calls Tryz.prog 7 #[.int .u8 n] w fun e w' => e = .returned (.agg (Ck.cutC (ctN n).mn (ctN n).mx (ctN n).main (ctN n).back)) ∧ Below w.heap.size w w' := by
  obtain ⟨a, ha⟩ : ∃ a, n % 15 = a := ⟨_, rfl⟩
  obtain ⟨b, hb⟩ : ∃ b, n / 4 = b := ⟨_, rfl⟩
  obtain ⟨c, hc⟩ : ∃ c, n % 20 = c := ⟨_, rfl⟩
  obtain ⟨d, hd⟩ : ∃ d, n % 5 = d := ⟨_, rfl⟩
  have h1 : (n : Int).tmod 15 = (a : Int) := by rw [← ha]; exact (Int.ofNat_tmod n 15).symm
  have h2 : (n : Int).tmod 20 = (c : Int) := by rw [← hc]; exact (Int.ofNat_tmod n 20).symm
  have h3 : (n : Int).tmod 5 = (d : Int) := by rw [← hd]; exact (Int.ofNat_tmod n 5).symm
  have h4 : (n : Int).tdiv 4 = (b : Int) := by rw [← hb]; exact (Int.ofNat_tdiv n 4).symm
  have ha1 : a ≤ 14 := by omega
  have hb1 : b ≤ 63 := by omega
  have hc1 : c ≤ 19 := by omega
  have hd1 : d ≤ 4 := by omega
  have HE := Lib.hid (show ctN n = ⟨16 + a, 16 + a + b, c + 1, d + 1⟩ by unfold ctN; rw [ha, hb, hc, hd])
  rw [HE.out]
  clear ha hb hc hd
  go_enter Tryz.func7, Tryz.ntmps7
  go_wp2
  have hr := heap_alloc_last w (.cells #[.int .i64 (16 + (a : Int)), .int .i64 (16 + (a : Int) + (b : Int)), .int .u32 ((c : Int) + 1), .int .u32 ((d : Int) + 1)] 29)
  refine bodyPost_ret (Dg.results_cell rfl _ _ _ 29 _ (0, 0) _ rfl hr Tryz.underlying29 rfl (by kernel_rfl)) rfl ?_
  exact ⟨rfl, (Below.refl _ _).alloc (Nat.le_refl _) _⟩
set_option maxRecDepth 20000 in
theorem how_any (n : Nat) (h : n < 256) (w : World) : Calls Tryz.prog 19 #[.int .u8 n] w fun e w' => e = .returned (.agg #[.int .i64 (n * 3 : Nat), .int .i64 (n % 7 : Nat), .int .i64 (n % 5 : Nat)]) ∧ Below w.heap.size w w' := by
  obtain ⟨a, ha⟩ : ∃ a, n % 7 = a := ⟨_, rfl⟩
  obtain ⟨d, hd⟩ : ∃ d, n % 5 = d := ⟨_, rfl⟩
  have h1 : (n : Int).tmod 7 = (a : Int) := by rw [← ha]; exact (Int.ofNat_tmod n 7).symm
  have h3 : (n : Int).tmod 5 = (d : Int) := by rw [← hd]; exact (Int.ofNat_tmod n 5).symm
  have ha1 : a ≤ 6 := by omega
  have hd1 : d ≤ 4 := by omega
  rw [ha, hd]
  clear ha hd
  go_enter Tryz.func19, Tryz.ntmps19
  go_wp2
  have hr := heap_alloc_last w (.cells #[.int .i64 ((n : Int) * 3), .int .i64 (a : Int), .int .i64 (d : Int)] 59)
  refine bodyPost_ret (Dg.results_cell rfl _ _ _ 59 _ (0, 0) _ rfl hr Tryz.underlying59 rfl (by kernel_rfl)) rfl ?_
  exact ⟨rfl, (Below.refl _ _).alloc (Nat.le_refl _) _⟩
set_option maxRecDepth 20000 in
theorem made_any (N n : Nat) (hN : N ≤ 4096) (hN0 : 0 < N) (h : n < 256) (w : World) : Calls Tryz.prog 6 #[.int .i64 N, .int .u8 n] w fun e w' => ∃ gs, e = .returned (.tuple #[.pointer (some ⟨gs, 0, none⟩), .bool true]) ∧ Sto w' gs N [] 0 (fun x => w.heap.size ≤ x) ∧ Below w.heap.size w w' := by
  have HDN := Lib.hid (DNew_any (4 * N) w (by omega))
  go_enter Tryz.func6, Tryz.ntmps6
  go_wp2_with fail
  refine HDN.out.mono ?_
  rintro e w1 ⟨gd, rfl, hb1, hd1⟩
  have hdb := hd1.bound
  have HVN := Lib.hid (VNew_any w1 gd N 0 _ _ hdb (fun k hk => hk.2))
  have HB1 := Lib.hid hb1
  clear hb1 hd1 hdb HDN
  go_wp2_with fail
  refine HVN.out.mono ?_
  rintro e w2 ⟨gv, rfl, hgv, hv, hb2⟩
  have HB2 := Lib.hid hb2
  have HV2 := Lib.hid hv
  have HGV := Lib.hid hgv
  have HHW := Lib.hid (how_any n h w2)
  clear hb2 hv hgv HVN
  go_wp2_with fail
  refine HHW.out.mono ?_
  rintro e w3 ⟨rfl, hb3⟩
  have HB3 := Lib.hid hb3
  have HSN := Lib.hid (SNew_any (HV2.out.below hb3) rfl hN0 (n * 3) (n % 7) (n % 5) (by omega) (by omega) (by omega))
  clear hb3 HHW
  go_wp2_with fail
  refine HSN.out.mono ?_
  rintro e w4 ⟨gs, rfl, hs, hb4⟩
  have HS4 := Lib.hid hs
  have HB4 := Lib.hid hb4
  clear hs hb4 HSN
  go_wp2_with fail
  go_ret2
  have s1 := HB1.out.size
  have s2 := HB2.out.size
  have s3 := HB3.out.size
  have hgv := HGV.out
  refine ⟨gs, rfl, HS4.out.kept (R := fun _ => False) (Chg.refl _ _) (fun _ _ _ h => h) (fun x _ hx => ?_), below_trans (below_trans (below_trans HB1.out HB2.out s1) HB3.out (by omega)) HB4.out (by omega)⟩
  rcases hx with hx | hx | hx
  · exact hx.1
  · omega
  · omega
end Go.Proofs.YtcklcffepedklaaGreat

namespace Go.Proofs.YtcklcffepedklaaGreat
open Go.RowKit Go.Maps

theorem newRows_get {P : Nat → Prop} {B : Nat} {L : List (List Int)} {w : World} {A : Option Addr} {n c : Nat} (h : Ck.NewRows P B L w (.slice A n c)) {i : Nat} {l : List Int} (hi : L[i]? = some l) :
    ∃ g X cx, A = some ⟨g, 0, none⟩ ∧ w.cell? ⟨g, i, none⟩ = some (.slice X l.length cx) ∧ l.length ≤ cx ∧ Ints .u8 w X l ∧ Bytes l ∧ ∀ b, X = some b → P b.block := by
  obtain ⟨vals, ho, hv⟩ := h
  obtain ⟨X, cx, a1, a2, a3, a4, a5⟩ := hv.2 i l hi
  obtain ⟨g, e, hc⟩ := own_cell ho a1 (fun e => by rw [List.length_eq_zero_iff.1 e] at hi; simp at hi)
  exact ⟨g, X, cx, e, hc, a2, a3, a4, a5⟩
theorem newRows_below {P : Nat → Prop} {B : Nat} {L : List (List Int)} {w w' : World} {v : Value} (h : Ck.NewRows P B L w v) (hb : Below w.heap.size w w') : Ck.NewRows P B L w' v := by
  obtain ⟨vals, ho, hv⟩ := h
  refine ⟨vals, own_chg (R := fun _ => False) ho (Chg.belowAt hb) (fun _ _ h => h), hv.1, fun i l hl => ?_⟩
  obtain ⟨X, cx, a1, a2, a3, a4, a5⟩ := hv.2 i l hl
  exact ⟨X, cx, a1, a2, a3.below hb, a4, a5⟩
theorem newRows_chg {P R : Nat → Prop} {B : Nat} {L : List (List Int)} {w w' : World} {v : Value} (h : Ck.NewRows P B L w v) (hc : Chg R w w') (h1 : ∀ k, v.ownBlock = some k → ¬ R k) (h2 : ∀ k, P k → ¬ R k) : Ck.NewRows P B L w' v := by
  obtain ⟨vals, ho, hv⟩ := h
  refine ⟨vals, own_chg ho hc h1, hv.1, fun i l hl => ?_⟩
  obtain ⟨X, cx, a1, a2, a3, a4, a5⟩ := hv.2 i l hl
  exact ⟨X, cx, a1, a2, a3.chg hc (fun ad e _ => h2 _ (a5 ad e)), a4, a5⟩
/-- Extents of whole chunks. -/
def XF (E : List KD) (l : List Rw) (L : List (List Int)) : Prop := l.length = L.length ∧ ∀ (i : Nat) (r : Rw) (p : List Int), l[i]? = some r → L[i]? = some p → (r.val.1, p) ∈ E ∧ r.val.2 = (0, p.length)
theorem XF.nil (E : List KD) : XF E [] [] := ⟨rfl, fun i r p h => by simp at h⟩
theorem XF.mono {E E' : List KD} {l : List Rw} {L : List (List Int)} (h : XF E l L) (he : ∀ x ∈ E, x ∈ E') : XF E' l L := ⟨h.1, fun i r p hr hp => ⟨he _ (h.2 i r p hr hp).1, (h.2 i r p hr hp).2⟩⟩
theorem XF.snoc {E : List KD} {l : List Rw} {L : List (List Int)} {r : Rw} {p : List Int} (h : XF E l L) (h1 : (r.val.1, p) ∈ E) (h2 : r.val.2 = (0, p.length)) : XF E (l ++ [r]) (L ++ [p]) := by
  refine ⟨by simp [h.1], fun i r' p' hr hp => ?_⟩
  rcases Nat.lt_or_ge i l.length with h3 | h3
  · rw [List.getElem?_append_left h3] at hr
    rw [List.getElem?_append_left (by rw [← h.1]; exact h3)] at hp
    exact h.2 i r' p' hr hp
  · rw [List.getElem?_append_right h3] at hr
    rw [List.getElem?_append_right (by rw [← h.1]; exact h3), ← h.1] at hp
    rcases Nat.eq_zero_or_pos (i - l.length) with h4 | h4
    · rw [h4] at hr hp
      simp at hr hp
      rw [← hr, ← hp]; exact ⟨h1, h2⟩
    · rw [List.getElem?_eq_none (by simp; omega)] at hr; cases hr
/-- How many pieces there are. -/
theorem pcs_count (c : Ck.Ct) (ok : c.Ok) (d : List Int) : (Ck.pcsR c d).length ≤ d.length / 16 + 1 := by
  have hl := Ck.pcsR_lens c ok d
  have hf := Ck.pcsR_flat c ok d
  generalize Ck.pcsR c d = L at *
  have key : ∀ (k : Nat), k < L.length → 16 * k ≤ (L.take k).flatten.length := by
    intro k
    induction k with
    | zero => intro _; omega
    | succ k ih =>
      intro hk
      have h1 := ih (by omega)
      have h2 := (hl k (by omega)).2.2 hk
      rw [flat_take (List.getElem?_eq_getElem (by omega)), List.length_append]
      have := ok.lo
      omega
  rcases Nat.eq_zero_or_pos L.length with h0 | h0
  · omega
  · have h1 := key (L.length - 1) (by omega)
    have h2 := flat_le L (L.length - 1)
    rw [hf] at h2
    omega
theorem build_ext (k : Ky) (h : k.Ok) (m : Nat) (w : World) : (Instr.build 69 #[(0, .agg k.cells.toArray), (2, .int .i64 m)]).run Tryz.prog w = .ok (.agg (encR ⟨(k, (0, m)), h⟩).toArray) w := by
  obtain ⟨i0, hi, hz0, _, _⟩ := info_parts Tryz.infoX
  refine run_build w _ _ _ ?_
  rw [built_struct hi hz0 Tryz.underlying69 (places := [(0, 33), (33, 1), (34, 1)]) (by decide +kernel)]
  have hk := Ky.cells_length h
  have hz : (Value.agg zR).cells.size = 35 := by decide +kernel
  show Instr.fill _ (Value.agg zR).cells _ = _
  rw [fill_cons (off := 0) (size := 33) (vs := k.cells) rfl rfl hk (by rw [hz]; decide)]
  rw [fill_cons (off := 34) (size := 1) (vs := [.int .i64 m]) rfl rfl rfl (by simp [hk, hz])]
  rw [Instr.fill]
  refine congrArg some (congrArg List.toArray ?_)
  unfold encR plC
  simp only [List.take_zero, List.nil_append, Nat.zero_add]
  rw [List.take_append, List.take_of_length_le (by omega : k.cells.length ≤ 34), hk]
  rw [List.drop_append, hk, List.drop_of_length_le (by omega : k.cells.length ≤ 34 + 1)]
  simp [zR, Value.cells]
theorem build_rowXs (X : Option Addr) (n c : Nat) (W : World) : (Instr.buildSlice 89 1 #[(0, .slice X n c)]).run Tryz.prog W = .ok (.slice (some ⟨W.heap.size, 0, none⟩) 1 1) (W.alloc (.cells #[.slice X n c] 33)) := by
  obtain ⟨i0, hi, hz0, hz1, _⟩ := info_parts (show (Tryz.prog.info? 33).map (fun i => (i.zero, i.size, i.bytes)) = some (some (.slice none 0 0), 1, 24) by kernel_rfl)
  exact build_one (P := Tryz.prog) (z := .slice none 0 0) (vs := [.slice X n c]) (s := 1) Tryz.underlying89 (fun W => by simp [sizeOf, typeInfo, hi, hz1]) (fun W => zero_run hi hz0 W) rfl (by decide) (by decide) (.slice X n c) rfl W
end Go.Proofs.YtcklcffepedklaaGreat

namespace Go.Proofs.YtcklcffepedklaaGreat
open Go.RowKit Go.Maps

/-- What stored leaves. -/
def StoredP (w : World) (gs N : Nat) (E : List KD) (L : List (List Int)) (b : Nat) (F : Nat → Prop) (e : Ending) (w' : World) : Prop :=
  ∃ v l E', e = .returned (.tuple #[v, .bool true]) ∧ OwnX w' w.heap.size v l ∧ XF E' l L ∧ (∀ x ∈ E, x ∈ E') ∧ (∀ y, y ∈ E'.map (·.2) ↔ y ∈ E.map (·.2) ∨ y ∈ L) ∧ Chg F w w' ∧ ∃ F', Sto w' gs N E' b F' ∧ (∀ x, F' x → (F x ∨ w.heap.size ≤ x) ∧ x < w'.heap.size) ∧ ∀ k, v.ownBlock = some k → ¬ F' k
/-- Within stored's loop. -/
structure StoR (w w' : World) (gs N : Nat) (E : List KD) (L : List (List Int)) (b : Nat) (F : Nat → Prop) (i : Nat) (v : Value) (l : List Rw) (E' : List KD) (F' : Nat → Prop) : Prop where
  own : OwnX w' w.heap.size v l
  xf : XF E' l (L.take i)
  sub : ∀ x ∈ E, x ∈ E'
  dat : ∀ y, y ∈ E'.map (·.2) ↔ y ∈ E.map (·.2) ∨ y ∈ L.take i
  chg : Chg (fun x => F x ∧ x < w.heap.size) w w'
  sto : Sto w' gs N E' (b + 38 * i + (L.take i).flatten.length) F'
  fro : ∀ x, F' x → (F x ∨ w.heap.size ≤ x) ∧ x < w'.heap.size
  old : ∀ x, F' x → x < w.heap.size → F x
  out : ∀ k, v.ownBlock = some k → ¬ F' k
set_option maxRecDepth 20000 in
set_option maxHeartbeats 1600000 in
theorem stored_any {w : World} {gs N : Nat} {E : List KD} {b b' : Nat} {F : Nat → Prop} (h : Sto w gs N E b F) (c : Ck.Ct) (ok : c.Ok) (h93 : c.mx ≤ 93) (A : Option Addr) (n cp : Nat) (d : List Int) (hn : d.length = n) (hncp : n ≤ cp) (hB : Bytes d) (hI : Ints .u8 w A d) (hA : A = none → n = 0 ∧ cp = 0) (hn3 : n ≤ 3000)
    (hb : b + 38 * (n / 16 + 1) + n ≤ b') (hl : b' < 1000000) (hN : b' < 368 * N) :
    Calls Tryz.prog 8 #[.pointer (some ⟨gs, 0, none⟩), .agg (Ck.cutC c.mn c.mx c.main c.back), .slice A n cp] w (StoredP w gs N E (Ck.pcsR c d) b' F) := by
  have hb1 := (Below.refl w.heap.size w).alloc (Nat.le_refl _) (.cells (Ck.cutC c.mn c.mx c.main c.back) 29)
  have hr1 := heap_alloc_last w (.cells (Ck.cutC c.mn c.mx c.main c.back) 29)
  obtain ⟨g4, hg4⟩ : ∃ g, w.heap.size = g := ⟨_, rfl⟩
  rw [hg4] at hr1
  obtain ⟨w1, hw1⟩ : ∃ w1, w.alloc (.cells (Ck.cutC c.mn c.mx c.main c.back) 29) = w1 := ⟨_, rfl⟩
  rw [hw1] at hb1 hr1
  have HAL := Lib.hid (Ck.All_yes c ok d A n cp w1 hn hncp (hI.below hb1) hB hA (by omega))
  have hcnt := pcs_count c ok d
  have HLE := Lib.hid (Ck.pcsR_lens c ok d)
  have HFL := Lib.hid (Ck.pcsR_flat c ok d)
  have HB1 := Lib.hid hb1
  have HS := Lib.hid h.bound
  have HX := Lib.hid (And.intro hb (And.intro hl hN))
  have HG4 := Lib.hid hg4
  obtain ⟨L, hL⟩ : ∃ L, Ck.pcsR c d = L := ⟨_, rfl⟩
  rw [hL] at HAL hcnt HLE HFL ⊢
  have HDN := Lib.hid hn
  rw [hn] at hcnt
  clear h hb1 hI hB hA hb hl hN hL hn
  unfold Ck.cutC at hw1 hr1 HAL ⊢
  have d0 : w1.cell? ⟨g4, 0, none⟩ = some (.int .i64 c.mn) := by rw [cell_of_row _ _ _ _ _ _ hr1]; rfl
  have d1 : w1.cell? ⟨g4, 1, none⟩ = some (.int .i64 c.mx) := by rw [cell_of_row _ _ _ _ _ _ hr1]; rfl
  have d2 : w1.cell? ⟨g4, 2, none⟩ = some (.int .u32 c.main) := by rw [cell_of_row _ _ _ _ _ _ hr1]; rfl
  have d3 : w1.cell? ⟨g4, 3, none⟩ = some (.int .u32 c.back) := by rw [cell_of_row _ _ _ _ _ _ hr1]; rfl
  go_enter Tryz.func8, Tryz.ntmps8
  go_wp2_with fail
  refine HAL.out.mono ?_
  rintro e w2 ⟨v2, rfl, hb2, hrows⟩
  obtain ⟨A2, c2, rfl, hc2, _, hA2, _⟩ := hrows.rows
  have HR2 := Lib.hid hrows
  have HB2 := Lib.hid (HB1.out.trans (hb2.mono HB1.out.size))
  obtain ⟨cn, hcn⟩ : ∃ cn, L.length = cn := ⟨_, rfl⟩
  rw [hcn] at hcnt ⊢
  have HCN := Lib.hid hcn
  have HA2 := Lib.hid hA2
  have HHH := Lib.hid (show True from trivial)
  clear hrows hb2 HAL hcn hA2 hc2 d0 d1 d2 d3 hr1
  go_upto_region 3 with (fail)
  have hs1 := HB1.out.size
  have hs2 := HB2.out.size
  have HSZ := Lib.hid (And.intro hs1 hs2)
  go_loopg [8, 18] cn (fun kq v8 v18 w' => ∃ (i : Nat) (A8 : Option Addr) (c8 : Nat) (l : List Rw) (E' : List KD) (F' : Nat → Prop), v18 = .int .i64 (i : Int) ∧ i + kq = cn ∧ v8 = .slice A8 l.length c8 ∧ StoR w2 w' gs N E L b (fun k => F k ∧ k < w.heap.size) i (.slice A8 l.length c8) l E' F')
  case atStart => exact ⟨0, none, 0, [], E, fun k => F k ∧ k < w.heap.size, rfl, by omega, rfl, World.ownsRow_nil _ _ _ _, XF.nil _, fun x hx => hx, fun y => by simp, Chg.refl _ _, by simpa using HS.out.below HB2.out, fun x hx => ⟨.inl hx, by omega⟩, fun x hx _ => hx, fun k hk => by simp [Value.ownBlock] at hk⟩
  case round =>
    obtain ⟨i, A8, c8, l, E', F', rfl, hi, rfl, hr⟩ := hrel
    have HR := Lib.hid hr
    have hsr := hr.chg.size
    have hll : l.length = min i cn := by rw [hr.xf.1, List.length_take, HCN.out]
    obtain ⟨nl, hnl⟩ : ∃ nl, l.length = nl := ⟨_, rfl⟩
    rw [hnl] at hll ⊢
    have HNL := Lib.hid hnl
    have hnl2 : nl ≤ 200 := by omega
    have HLL := Lib.hid hll
    clear hr hnl hll
    by_cases hlt : i < cn
    · obtain ⟨p, hp⟩ : ∃ p, L[i]? = some p := ⟨_, List.getElem?_eq_getElem (by have := HCN.out; omega)⟩
      have hnr := newRows_chg HR2.out HR.out.chg (fun k hk e => by have h1 := HA2.out; cases A2 with | none => simp [Value.ownBlock] at hk | some a => (simp [Value.ownBlock] at hk; have h2 := h1 a rfl; rw [hk] at h2; have := e.2; omega)) (fun k hk e => by have := hk.1; have := e.2; omega)
      obtain ⟨gr, X, cx, rfl, hcx, hlx, hIx, hBx, hPx⟩ := newRows_get hnr hp
      have hpl : 1 ≤ p.length ∧ p.length ≤ 93 := by
        have h1 := HLE.out i (by rw [HCN.out]; exact hlt)
        rw [List.getElem?_eq_getElem (by rw [HCN.out]; exact hlt)] at hp
        injection hp with hp
        rw [hp] at h1
        omega
      have hft := flat_take hp
      have hfl : (L.take i).flatten.length + p.length ≤ n := by
        have h1 := flat_le L (i + 1)
        rw [hft, List.length_append, HFL.out, HDN.out] at h1
        exact h1
      have HFT := Lib.hid hft
      have HPT := Lib.hid (show L.take (i + 1) = L.take i ++ [p] by rw [List.take_add_one, hp]; rfl)
      obtain ⟨m, hm⟩ : ∃ m, p.length = m := ⟨_, rfl⟩
      rw [hm] at hcx hlx hpl hfl
      have hi0 : (0 : Int) ≤ (i : Int) := by omega
      have hi1 : (i : Int) < (cn : Int) := by omega
      have hbud : b + 38 * i + (L.take i).flatten.length + (38 + m) ≤ b' := by have := HX.out.1; omega
      have HPU := Lib.hid (SPut_any HR.out.sto X m cx p hm (by omega) (by omega) hlx hBx hIx (fun a ha hF => by
        have h1 := hPx a ha
        have h2 := HR.out.old a.block hF (by omega)
        have := h2.2; have := h1.1; omega) nl (by omega) (by have := HX.out.2; omega) (by have := HX.out.2; omega))
      have hwr : IntKind.u64.wrap (nl : Int) = (nl : Int) := by simp [IntKind.wrap, IntKind.bits, IntKind.signed]; omega
      have HM := Lib.hid hm
      clear hp hnr hlx hIx hBx hPx hft hm
      have HZK := Lib.hid zeroK
      go_wp2_with fail
      refine HPU.out.mono ?_
      rintro e w3 ⟨k, fresh, E2, rfl, hkE, hE2, hc3, hs3⟩
      have HS3 := Lib.hid hs3.bound
      have HC3 := Lib.hid hc3
      have HKE := Lib.hid (And.intro hkE hE2)
      have HKO := Lib.hid (hs3.ok hkE).key
      clear hs3 hc3 hkE hE2 HPU hcx hwr
      go_upto_region 6 with (with_reducible refine wpList_fresh rfl rfl 64 rfl _ _ rfl (k).cells.toArray zK (fun _ => rfl) (fun _ => rfl) HZK.out (sizeKA HKO.out) (zK_size HKO.out) (all_one (Ky.cells_one k)) ?_; intro g11 w4 hg11 hr11 hb11)
      have HK4 := Lib.hid (show w4.rangeAt g11 0 k.cells from range_row hr11.out)
      have HB4 := hb11
      have hs34 := hb11.out.size
      have hs3r := HC3.out.size
      obtain ⟨r', hr'⟩ : ∃ r' : Rw, (⟨(k, (0, m)), HKO.out⟩ : Rw) = r' := ⟨_, rfl⟩
      have HBE := Lib.hid (fun W => build_ext k HKO.out m W)
      rw [hr'] at HBE
      have HR' := Lib.hid hr'
      have HBS := Lib.hid (fun W => build_rowX r' W)
      have HO4 := Lib.hid (own_chg (R := fun _ => False) (own_chg HR.out.own HC3.out (fun k hk => HR.out.out k hk)) (Chg.belowAt hb11.out) (fun _ _ h => h))
      have HOA := Lib.hid (own_chg (R := fun _ => False) HO4.out ((Chg.refl (fun _ => False) w4).alloc (.cells (encR r').toArray 69)) (fun _ _ h => h))
      rw [HNL.out] at HOA
      have HNW := Lib.hid (show ∀ j u, (encR r')[j]? = some u → ∃ ad, some (⟨w4.heap.size, 0, none⟩ : Addr) = some ad ∧ (w4.alloc (.cells (encR r').toArray 69)).cell? (ad.add j) = some u from fun j u hj => ⟨_, rfl, by rw [addr_add0, Nat.zero_add]; exact row_at (heap_alloc_last w4 _) hj⟩)
      have HCL := Lib.hid (show (encR r').length = 1 * 35 from encR_length r')
      have HML := Lib.hid (show (nl + 1 ≤ maxLen ∧ (nl + 1) * 56 ≤ 140737488355328) ∧ w2.heap.size ≤ (w4.alloc (.cells (encR r').toArray 69)).heap.size by rw [World.size_alloc]; unfold maxLen; constructor <;> omega)
      have HNN := Lib.hid (show some (⟨w4.heap.size, 0, none⟩ : Addr) = none → 1 = 0 ∧ 1 = 0 from fun h => by cases h)
      clear hr11 hb11 hg11 hr'
      go_wp2_with (first | (with_reducible refine Go.wpList_load_mid rfl 64 _ rfl g11 (0) rfl (k).cells _ HK4.out Tryz.underlying64 rfl (sizeK HKO.out) ?_) | (with_reducible refine wpList_val rfl (exec_build _ _ rfl #[(0, .agg k.cells.toArray), (2, .int .i64 m)] (by go_simp) (HBE.out _)) ?_) | (with_reducible refine wpList_val rfl (exec_buildSlice _ _ _ rfl #[(0, .agg (encR r').toArray)] (by go_simp) (HBS.out _)) ?_) | (at_builtin; refine wpList_app EX rfl _ _ rfl w2.heap.size _ nl (flatR l) rfl HOA.out (some ⟨w4.heap.size, 0, none⟩) 1 1 (encR r') rfl HNN.out HCL.out HNW.out (encR_one _) HML.out.1.1 HML.out.1.2 HML.out.2 ?_; intro v9 w9 hown hgrow hat))
      obtain ⟨A9, c9, rfl⟩ := ownX_form hown
      have hl5 := HOA.out.lt
      have hat' : Value.ownBlock (.slice A9 (nl + 1) c9) = Value.ownBlock (.slice A8 nl c8) ∨ Value.ownBlock (.slice A9 (nl + 1) c9) = some (w4.alloc (.cells (encR r').toArray 69)).heap.size := hat
      have hlr : nl + 1 = (l ++ [r']).length := by rw [List.length_append, List.length_singleton, HNL.out]
      have hrk : r'.val.1 = k ∧ r'.val.2 = (0, m) := by rw [← HR'.out]; exact ⟨rfl, rfl⟩
      have hFall : ∀ k, Value.ownBlock (.slice A8 nl c8) = some k → ¬ (F' k ∨ wr.heap.size ≤ k) := fun k hk e => by
        rcases e with e | e
        · exact HR.out.out k (by rw [HNL.out]; exact hk) e
        · have h1 := HR.out.own.lt k (by rw [HNL.out]; exact hk)
          omega
      have hb49 : Below w4.heap.size w4 (w4.alloc (.cells (encR r').toArray 69)) := (Below.refl _ _).alloc (Nat.le_refl _) _
      have hR9 : StoR w2 w9 gs N E L b (fun k => F k ∧ k < w.heap.size) (i + 1) (.slice A9 (l ++ [r']).length c9) (l ++ [r']) E2 (fun x => (F' x ∨ wr.heap.size ≤ x) ∧ x < w3.heap.size) := by
        refine ⟨?_, ?_, fun x hx => ?_, fun y => ?_, ?_, ?_, fun x hx => ⟨?_, ?_⟩, fun x hx hlx => ?_, fun k hk hF => ?_⟩
        · rw [OwnX, List.length_append, List.length_singleton, HNL.out, flatR_snoc']; exact hown
        · rw [HPT.out]
          refine XF.snoc (HR.out.xf.mono (fun x hx => ?_)) (by rw [hrk.1]; exact HKE.out.1) (by rw [hrk.2, HM.out])
          rcases HKE.out.2 with e | ⟨_, e⟩ <;> rw [e]
          · exact hx
          · exact List.mem_append_left _ hx
        · rcases HKE.out.2 with e | ⟨_, e⟩ <;> rw [e]
          · exact HR.out.sub x hx
          · exact List.mem_append_left _ (HR.out.sub x hx)
        · have h1 := HR.out.dat y
          have h2 := List.mem_map_of_mem (f := fun x : KD => x.2) HKE.out.1
          rw [HPT.out, List.mem_append, List.mem_singleton]
          rcases HKE.out.2 with e | ⟨_, e⟩
          · rw [e] at h2 ⊢
            rw [h1]
            constructor
            · rintro (h | h)
              · exact .inl h
              · exact .inr (.inl h)
            · rintro (h | h | h)
              · exact .inl h
              · exact .inr h
              · subst h; exact h1.1 h2
          · rw [e, List.map_append, List.mem_append, h1, List.map_singleton, List.mem_singleton]
            constructor
            · rintro ((h | h) | h)
              · exact .inl h
              · exact .inr (.inl h)
              · exact .inr (.inr h)
            · rintro (h | h | h)
              · exact .inl (.inl h)
              · exact .inl (.inr h)
              · exact .inr h
        · refine (((HR.out.chg.trans2 HC3.out (fun x hx e => ⟨HR.out.old x e hx, hx⟩)).trans (Chg.belowAt HB4.out)).trans (Chg.belowAt hb49)).trans2 (Chg.of hgrow) (fun x hx e => ?_)
          have := hl5 x e.symm; omega
        · have h1 := HS3.out.kept (R := fun _ => False) (F' := fun x => (F' x ∨ wr.heap.size ≤ x) ∧ x < w3.heap.size) (Chg.belowAt (below_trans HB4.out hb49 HB4.out.size)) (fun _ _ _ h => h) (fun _ _ h => h)
          have h2 := h1.kept (Chg.of hgrow) (fun x _ hx e => hFall x e.symm hx.1) (fun _ _ h => h)
          rw [HFT.out, List.length_append, HM.out]
          rw [show b + 38 * (i + 1) + ((L.take i).flatten.length + m) = b + 38 * i + (L.take i).flatten.length + (38 + m) by omega]
          exact h2
        · rcases hx.1 with h1 | h1
          · exact (HR.out.fro x h1).1
          · exact .inr (by omega)
        · have h1 := hgrow.size
          rw [World.size_alloc] at h1
          omega
        · rcases hx.1 with h1 | h1
          · exact HR.out.old x h1 hlx
          · omega
        · have hk' : Value.ownBlock (.slice A9 (nl + 1) c9) = some k := by rw [hlr]; exact hk
          rcases hat' with e | e
          · exact hFall k (e.symm.trans hk') hF.1
          · have h3 := hk'.symm.trans e
            injection h3 with h3
            rw [World.size_alloc] at h3
            have := hF.2
            omega
      have HR9 := Lib.hid hR9
      clear hown hgrow hat hat' hl5 hFall hb49 hR9
      go_roundg (cn - (i + 1))
      case measure => omega
      case rel => exact ⟨i + 1, A9, c9, l ++ [r'], E2, _, by go_num, by omega, by rw [hlr], HR9.out⟩
    · obtain rfl : i = cn := by omega
      have hfin := HR.out
      have hLt : L.take i = L := List.take_of_length_le (Nat.le_of_eq HCN.out)
      have hRX : RightX l := by
        refine ⟨by rw [HNL.out]; omega, fun r hr => ?_⟩
        obtain ⟨j, hj⟩ := List.mem_iff_getElem?.1 hr
        have hjl : j < l.length := by rcases Nat.lt_or_ge j l.length with h1 | h1; exact h1; rw [List.getElem?_eq_none h1] at hj; cases hj
        have hjL : j < L.length := by have := hfin.xf.1; rw [hLt] at this; omega
        have h1 := hfin.xf.2 j r L[j] hj (by rw [hLt]; exact List.getElem?_eq_getElem hjL)
        have h2 := HLE.out j hjL
        refine ⟨?_, ?_⟩ <;> rw [h1.2] <;> simp only <;> omega
      have hX0 : ∀ r ∈ l, r.val.2.1 = 0 := fun r hr => by
        obtain ⟨j, hj⟩ := List.mem_iff_getElem?.1 hr
        have hjl : j < l.length := by rcases Nat.lt_or_ge j l.length with h1 | h1; exact h1; rw [List.getElem?_eq_none h1] at hj; cases hj
        have hjL : j < L.length := by have := hfin.xf.1; rw [hLt] at this; omega
        have h1 := hfin.xf.2 j r L[j] hj (by rw [hLt]; exact List.getElem?_eq_getElem hjL)
        rw [h1.2]
      have hb5 : Below wr.heap.size wr (wr.alloc (.cells #[.slice A8 nl c8] 33)) := (Below.refl _ _).alloc (Nat.le_refl _) _
      have hra := heap_alloc_last wr (.cells #[.slice A8 nl c8] 33)
      have hxs : XsAt (wr.alloc (.cells #[.slice A8 nl c8] 33)) (some ⟨wr.heap.size, 0, none⟩) [l] := fun j l' hj => by
        match j, hj with
        | 0, hj =>
          simp at hj; subst hj
          refine ⟨_, A8, c8, rfl, by rw [HNL.out]; exact row_at (cs := [.slice A8 nl c8]) hra rfl, XAt.below (fun _ _ hi => ownR_range hfin.own hi) hb5⟩
      have HJO := Lib.hid (Join_any (some ⟨wr.heap.size, 0, none⟩) 1 1 [l] _ rfl hxs (fun l' hl' => by rw [List.mem_singleton.1 hl']; exact hRX) (by simpa using hRX) (by simpa using hX0) (by decide))
      rw [show [l].flatten = l by simp] at HJO
      have HXS := Lib.hid (fun W => build_rowXs A8 nl c8 W)
      have HB5 := Lib.hid hb5
      have HLT := Lib.hid hLt
      clear hfin hLt hRX hX0 hb5 hra hxs
      go_wp2_with (with_reducible refine wpList_val rfl (exec_buildSlice _ _ _ rfl #[(0, .slice A8 nl c8)] (by go_simp) (HXS.out _)) ?_)
      refine HJO.out.mono ?_
      rintro e w5 ⟨v5, rfl, ho5, hb6⟩
      have HO5 := Lib.hid ho5
      have HB6 := Lib.hid (HB5.out.trans (hb6.mono HB5.out.size))
      clear ho5 hb6 HJO HXS
      go_wp2_with fail
      go_ret2
      have hfin := HR.out
      have hb6s := HB6.out.size
      have hsz := HSZ.out
      refine ⟨v5, l, E', rfl, ownsRow_base HO5.out (by have := HB5.out.size; omega), by have := hfin.xf; rw [HLT.out] at this; exact this, hfin.sub, fun y => by have := hfin.dat y; rw [HLT.out] at this; exact this, ?_, F', ?_, fun x hx => ⟨?_, ?_⟩, fun k hk hF => ?_⟩
      · exact (((Chg.belowAt HB2.out).trans2 hfin.chg (fun x hx e => e)).trans (Chg.belowAt HB6.out)).mono (fun x e => e.1.1)
      · have h1 := (hfin.sto.more (b' := b') ?_ HX.out.2.1 HX.out.2.2).below HB6.out
        · exact h1
        · have h2 := HX.out.1
          have h3 := congrArg List.length HFL.out
          rw [HLT.out, h3, HDN.out]
          omega
      · rcases (hfin.fro x hx).1 with h1 | h1
        · exact .inl h1.1
        · exact .inr (by omega)
      · have := (hfin.fro x hx).2; omega
      · have h1 := (HO5.out.lt k hk).1
        have h2 := (hfin.fro k hF).2
        rw [World.size_alloc] at h1
        omega
end Go.Proofs.YtcklcffepedklaaGreat

namespace Go.Proofs.YtcklcffepedklaaGreat
open Go.RowKit Go.Maps

theorem strOfNums_append (a b : List Int) : strOfNums a ++ strOfNums b = strOfNums (a ++ b) := by
  apply Go.WideShapes.bytes_inj
  simp [strOfNums]
theorem strOfNums_size (a : List Int) : (strOfNums a).size = a.length := by simp [strOfNums, ByteArray.size]
theorem ownB_some {w : World} {base : Nat} {v : Value} {d : List Int} (h : OwnB w base v d) (h0 : 0 < d.length) : ∃ g c, v = .slice (some ⟨g, 0, none⟩) d.length c ∧ d.length ≤ c ∧ base ≤ g ∧ Ints .u8 w (some ⟨g, 0, none⟩) d := by
  obtain ⟨A, c, e, hc, hI, hA⟩ := h.ints
  obtain ⟨_, h2⟩ := h
  rcases h2 with ⟨_, h3⟩ | ⟨g, cap, cur, e2, hb, _⟩
  · omega
  · rw [e] at e2; injection e2 with e2 _ e4
    subst e2
    exact ⟨g, c, e, hc, hb, hI⟩
/-- What fetched is told. -/
structure FeP (E : List KD) (f : Ky → List Int) (l : List Rw) : Prop where
  mem : ∀ r ∈ l, (r.val.1, f r.val.1) ∈ E
  lim : ∀ r ∈ l, r.val.2.1 + r.val.2.2 ≤ (f r.val.1).length
  pos : ∀ r ∈ l, 1 ≤ r.val.2.2
set_option maxRecDepth 20000 in
set_option maxHeartbeats 1600000 in
theorem fetched_any {w : World} {gs N : Nat} {E : List KD} {b : Nat} {F : Nat → Prop} (h : Sto w gs N E b F) (A : Option Addr) (n c : Nat) (l : List Rw) (f : Ky → List Int) (hn : l.length = n) (hn1 : n ≤ 16384) (hX : XAt w A l) (hA : ∀ ad, A = some ad → 0 < n → ¬ F ad.block) (hE : FeP E f l) :
    Calls Tryz.prog 14 #[.pointer (some ⟨gs, 0, none⟩), .slice A n c] w fun e w' => e = .returned (.tuple #[.string (strOfNums (l.flatMap (bytX f))), .bool true]) ∧ Chg F w w' ∧ Sto w' gs N E b (fun x => F x ∨ w.heap.size ≤ x) := by
  have HS := Lib.hid h.bound
  have HN := Lib.hid hn
  have HX := Lib.hid hX
  have HA := Lib.hid hA
  have HE := Lib.hid hE
  have HZX := Lib.hid zeroX
  have he : strOfNums [] = ByteArray.mk #[] := by decide +kernel
  have HE0 := Lib.hid he
  clear h hn hX hA hE he
  go_enter Tryz.func14, Tryz.ntmps14
  go_upto_region 3 with (fail)
  go_loopg [6, 13] n (fun kq v6 v13 w' => ∃ (i : Nat) (F' : Nat → Prop), v13 = .int .i64 (i : Int) ∧ i + kq = n ∧ v6 = .string (strOfNums ((l.take i).flatMap (bytX f))) ∧ ((l.take i).flatMap (bytX f)).length ≤ 93 * i ∧ Sto w' gs N E b F' ∧ Chg (fun x => F x ∧ x < w.heap.size) w w' ∧ (∀ x, F' x → ((F x ∧ x < w.heap.size) ∨ w.heap.size ≤ x) ∧ x < w'.heap.size))
  case atStart => exact ⟨0, fun x => F x ∧ x < w.heap.size, rfl, by omega, by simp [HE0.out], by simp, HS.out, Chg.refl _ _, fun x hx => ⟨.inl hx, hx.2⟩⟩
  case round =>
    obtain ⟨i, F', rfl, hi, rfl, hle, hs, hc, hf⟩ := hrel
    have HS1 := Lib.hid hs
    have HC1 := Lib.hid hc
    have HF1 := Lib.hid hf
    obtain ⟨s6, hs6⟩ : ∃ s6, strOfNums ((l.take i).flatMap (bytX f)) = s6 := ⟨_, rfl⟩
    have hsz6 : s6.size ≤ 93 * i := by rw [← hs6, strOfNums_size]; exact hle
    rw [hs6]
    have HLE := Lib.hid hle
    have HS6 := Lib.hid hs6
    by_cases hlt : i < n
    · obtain ⟨r, hr⟩ : ∃ r, l[i]? = some r := ⟨_, List.getElem?_eq_getElem (by have := HN.out; omega)⟩
      have hrl := List.mem_of_getElem? hr
      obtain ⟨gx, rfl, hrx⟩ := (HX.out.chg hc (fun ad e h0 hF => HA.out ad e (by omega) hF.1)) i r hr
      have HRX := Lib.hid hrx
      have hi0 : (0 : Int) ≤ (i : Int) := by omega
      have hi1 : (i : Int) < (n : Int) := by omega
      have HMEM := Lib.hid (HE.out.mem r hrl)
      have hlim := HE.out.lim r hrl
      have hxp := HE.out.pos r hrl
      have HTK := Lib.hid (show (l.take (i + 1)).flatMap (bytX f) = (l.take i).flatMap (bytX f) ++ bytX f r by rw [List.take_add_one, hr]; simp)
      obtain ⟨d, hd⟩ : ∃ d, f r.val.1 = d := ⟨_, rfl⟩
      obtain ⟨xo, hxo⟩ : ∃ xo, r.val.2.1 = xo := ⟨_, rfl⟩
      obtain ⟨xl, hxl⟩ : ∃ xl, r.val.2.2 = xl := ⟨_, rfl⟩
      have HXX := Lib.hid (And.intro hd (And.intro hxo hxl))
      rw [hd, hxo, hxl] at hlim
      rw [hxl] at hxp
      rw [hd] at HMEM
      have hdok := HS1.out.ok HMEM.out
      have hpos := hdok.pos
      have hl93 := hdok.len
      clear hr hrl hrx hs hc hf hs6 hd hxo hxl hdok
      go_upto_region 5 with (first | (with_reducible refine Go.wpList_load_mid rfl 69 _ rfl gx (i * 35) rfl (encR r) _ HRX.out Tryz.underlying69 rfl (sizeX r) ?_) | (with_reducible refine wpList_fresh rfl rfl 69 rfl _ _ rfl (encR r).toArray zR (fun _ => rfl) (fun _ => rfl) HZX.out (sizeXA r) (zR_size r) (all_one (encR_one r)) ?_; intro g8 w5 hg8 hr8 hb8))
      have HB8 := hb8
      have HR8 := hr8
      have HK8 := Lib.hid (show w5.rangeAt g8 0 r.val.1.cells from by have := range_take (range_row hr8.out) 33; rw [encR_take] at this; exact this)
      have HKO := Lib.hid r.property
      have hg8' := hg8.out
      have hsr := HC1.out.size
      have HG8 := Lib.hid (show ¬ F' g8 ∧ w.heap.size ≤ g8 from ⟨fun hF => by have := (HF1.out g8 hF).2; omega, by omega⟩)
      have HGT := Lib.hid (SGet_any (HS1.out.below hb8.out) r.val.1 d HMEM.out)
      clear hb8 hr8 hg8 hg8' hsr
      go_wp2_with (with_reducible refine Go.wpList_load_mid rfl 64 _ rfl g8 (0) rfl (r.val.1).cells _ HK8.out Tryz.underlying64 rfl (sizeK HKO.out) ?_)
      refine HGT.out.mono ?_
      rintro e w6 ⟨v6, rfl, ho6, hc6, hs6⟩
      obtain ⟨gb, cb, rfl, hcb, hgb, hIb⟩ := ownB_some ho6 hpos
      have HR86 := Lib.hid ((hc6.block g8 (row_lt HR8.out) HG8.out.1).trans HR8.out)
      have c33 : w6.cell? ⟨g8, 33, none⟩ = some (.int .i64 (xo : Nat)) := HXX.out.2.1 ▸ row_at HR86.out (encR_33 r)
      have c34 : w6.cell? ⟨g8, 34, none⟩ = some (.int .i64 (xl : Nat)) := HXX.out.2.2 ▸ row_at HR86.out (encR_34 r)
      have HS6' := Lib.hid hs6.bound
      have hsr := HC1.out.size
      have hs8 := HB8.out.size
      have hs56 := hc6.size
      have HC6 := Lib.hid ((HC1.out.trans (Chg.belowAt HB8.out)).trans2 hc6 (fun x hx e => by
        rcases (HF1.out x e).1 with h1 | h1
        · exact h1
        · omega))
      have HF6 := Lib.hid (show ∀ x, ((F' x ∨ w5.heap.size ≤ x) ∧ x < w6.heap.size) → ((F x ∧ x < w.heap.size) ∨ w.heap.size ≤ x) ∧ x < w6.heap.size from fun x hx => ⟨by
        rcases hx.1 with h1 | h1
        · exact (HF1.out x h1).1
        · exact .inr (by omega), hx.2⟩)
      obtain ⟨nd, hnd⟩ : ∃ nd, d.length = nd := ⟨_, rfl⟩
      obtain ⟨sx, hsx⟩ : ∃ sx, xo + xl = sx := ⟨_, rfl⟩
      rw [hnd] at hlim hcb hl93 ⊢
      have hwx : IntKind.i64.wrap ((xo : Int) + (xl : Int)) = (sx : Int) := by simp [IntKind.wrap, IntKind.bits, IntKind.signed]; omega
      have hg1 : decide ((nd : Int) < (sx : Int)) = false := decide_eq_false (by omega)
      have hg2 : decide (nd < sx) = false := decide_eq_false (by omega)
      have h1 : (xo : Int) ≤ (sx : Int) := by omega
      have h2 : (sx : Int) ≤ (cb : Int) := by omega
      have h0 : (0 : Int) ≤ (xo : Int) := by omega
      have hsub : sx - xo = xl := by omega
      have hcx1 : ¬ cb = xo := by omega
      have hcx2 : ¬ xo = cb := by omega
      have hcx3 : ¬ cb - xo = 0 := by omega
      have hcv : (convert 22 9 (.slice (some ⟨gb, xo, none⟩) xl (cb - xo))).run Tryz.prog w6 = .ok (.string (strOfNums (bytX f r))) w6 := by
        have hi2 := (hIb.drop xo).take xl
        rw [addr_add0, Nat.zero_add] at hi2
        refine run_conv_ints (l := bytX f r) ?_ _ _ _ _ _ ?_ Tryz.underlying22 Tryz.underlying5 Tryz.underlying9
        · unfold bytX; rw [HXX.out.1, HXX.out.2.1, HXX.out.2.2]; exact hi2
        · unfold bytX; rw [HXX.out.1, HXX.out.2.1, HXX.out.2.2, List.length_take, List.length_drop]; omega
      have HTL := Lib.hid (show (bytX f r).length ≤ 93 by unfold bytX; rw [HXX.out.1, HXX.out.2.1, HXX.out.2.2, List.length_take, List.length_drop]; omega)
      obtain ⟨t6, ht6⟩ : ∃ t6, strOfNums (bytX f r) = t6 := ⟨_, rfl⟩
      have htz : t6.size ≤ 93 := by rw [← ht6, strOfNums_size]; exact HTL.out
      rw [ht6] at hcv
      have HT6 := Lib.hid ht6
      clear ho6 hc6 hs6 hIb hnd hsx hsr hs8 hs56 HGT ht6 hle
      go_wp2_with fail
      go_roundg (n - (i + 1))
      case measure => omega
      case rel => exact ⟨i + 1, _, by go_num, by omega, by rw [HTK.out, ← strOfNums_append, HS6.out, HT6.out], by rw [HTK.out, List.length_append]; have := HLE.out; have := HTL.out; omega, HS6'.out, HC6.out, HF6.out⟩
    · obtain rfl : i = n := by omega
      have hfl : l.take i = l := List.take_of_length_le (Nat.le_of_eq HN.out)
      rw [hfl] at HS6
      clear hs hc hf hlt hs6 hfl hle
      go_wp2_with fail
      go_ret2
      exact ⟨by rw [HS6.out]; rfl, HC1.out.mono (fun x e => e.1), HS1.out.kept (R := fun _ => False) (Chg.refl _ _) (fun _ _ _ h => h) (fun x _ hx => (HF1.out x hx).1.imp (fun h => h.1) id)⟩
end Go.Proofs.YtcklcffepedklaaGreat
