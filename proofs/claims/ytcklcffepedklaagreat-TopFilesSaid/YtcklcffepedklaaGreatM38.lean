/- Texts of the proof, one behind the other: cellaragetop: holds. -/
import Derived.Test.YtcklcffepedklaaGreatM37
import Derived.Lib.SlBytesConst
namespace Go.Proofs.YtcklcffepedklaaGreat
open Go.RowKit Go.Maps

theorem Sto.fn {w : World} {gs N : Nat} {E : List KD} {b : Nat} {F : Nat → Prop} (h : Sto w gs N E b F) : ∃ f : Ky → List Int, ∀ x ∈ E, f x.1 = x.2 := by
  obtain ⟨B, κ, L, P, q, v, M, size, at_, D, c, a, _⟩ := h.ex
  refine ⟨fun k => ((E.find? fun x => decide (x.1 = k)).map (·.2)).getD [], fun x hx => ?_⟩
  simp only
  cases hf : E.find? (fun y => decide (y.1 = x.1)) with
  | none =>
    have := List.find?_eq_none.1 hf x hx
    simp at this
  | some y =>
    have h1 : y ∈ E := List.mem_of_find?_eq_some hf
    have h2 := List.find?_some hf
    simp at h2
    rw [a.a.uni h1 hx h2]; rfl
section
variable {E : List KD} {f : Ky → List Int} {l : List Rw} {L : List (List Int)}
theorem XF.fe (h : XF E l L) (hf : ∀ x ∈ E, f x.1 = x.2) (hp : ∀ x ∈ E, 0 < x.2.length) : FeP E f l := by
  have key : ∀ r ∈ l, ∃ p, (r.val.1, p) ∈ E ∧ r.val.2 = (0, p.length) := fun r hr => by
    obtain ⟨i, hi⟩ := List.mem_iff_getElem?.1 hr
    have hil : i < l.length := by rcases Nat.lt_or_ge i l.length with h1 | h1; exact h1; rw [List.getElem?_eq_none h1] at hi; cases hi
    exact ⟨_, h.2 i r _ hi (List.getElem?_eq_getElem (by rw [← h.1]; exact hil))⟩
  refine ⟨fun r hr => ?_, fun r hr => ?_, fun r hr => ?_⟩
  · obtain ⟨p, h1, h2⟩ := key r hr
    have := hf _ h1; simp only at this
    rw [this]; exact h1
  · obtain ⟨p, h1, h2⟩ := key r hr
    have := hf _ h1; simp only at this
    rw [this, h2]; simp
  · obtain ⟨p, h1, h2⟩ := key r hr
    rw [h2]; exact hp _ h1
theorem XF.bytes (hf : ∀ x ∈ E, f x.1 = x.2) : ∀ {l : List Rw} {L : List (List Int)}, XF E l L → l.flatMap (bytX f) = L.flatten
  | [], [], _ => rfl
  | [], _ :: _, h => by have := h.1; simp at this
  | _ :: _, [], h => by have := h.1; simp at this
  | r :: l, p :: L, h => by
    have h0 := h.2 0 r p rfl rfl
    have ih := XF.bytes hf (l := l) (L := L) ⟨by have := h.1; simpa using this, fun i r' p' hr hp => h.2 (i + 1) r' p' (by simpa using hr) (by simpa using hp)⟩
    rw [List.flatMap_cons, List.flatten_cons, ih]
    congr 1
    have h1 := hf _ h0.1
    simp only at h1
    unfold bytX
    rw [h1, h0.2]; simp
theorem XF.lenX : ∀ {l : List Rw} {L : List (List Int)}, XF E l L → lenX l = L.flatten.length
  | [], [], _ => rfl
  | [], _ :: _, h => by have := h.1; simp at this
  | _ :: _, [], h => by have := h.1; simp at this
  | r :: l, p :: L, h => by
    have h0 := h.2 0 r p rfl rfl
    have ih := XF.lenX (l := l) (L := L) ⟨by have := h.1; simpa using this, fun i r' p' hr hp => h.2 (i + 1) r' p' (by simpa using hr) (by simpa using hp)⟩
    unfold Proofs.YtcklcffepedklaaGreat.lenX at ih ⊢
    rw [List.map_cons, List.sum_cons, ih, List.flatten_cons, List.length_append, h0.2]
theorem XF.right (h : XF E l L) (h1 : ∀ p ∈ L, 1 ≤ p.length ∧ p.length ≤ 4096) (hl : L.length ≤ 16384) : RightX l := by
  refine ⟨by rw [h.1]; exact hl, fun r hr => ?_⟩
  obtain ⟨i, hi⟩ := List.mem_iff_getElem?.1 hr
  have hil : i < l.length := by rcases Nat.lt_or_ge i l.length with h1 | h1; exact h1; rw [List.getElem?_eq_none h1] at hi; cases hi
  have hiL : i < L.length := by rw [← h.1]; exact hil
  have h2 := (h.2 i r _ hi (List.getElem?_eq_getElem hiL)).2
  have h3 := h1 _ (List.getElem_mem hiL)
  refine ⟨?_, ?_⟩ <;> rw [h2] <;> simp only <;> omega
theorem XF.zero (h : XF E l L) : ∀ r ∈ l, r.val.2.1 = 0 := fun r hr => by
  obtain ⟨i, hi⟩ := List.mem_iff_getElem?.1 hr
  have hil : i < l.length := by rcases Nat.lt_or_ge i l.length with h1 | h1; exact h1; rw [List.getElem?_eq_none h1] at hi; cases hi
  rw [(h.2 i r _ hi (List.getElem?_eq_getElem (by rw [← h.1]; exact hil))).2]
end
/-- The bytes that holds stores. -/
def holdL : List Int := [115, 111, 109, 101, 32, 98, 121, 116, 101, 115, 32, 116, 104, 97, 116, 32, 97, 114, 101, 32, 109, 111, 114, 101, 32, 116, 104, 97, 110, 32, 111, 110, 101, 32, 99, 104, 117, 110, 107, 44, 32, 111, 114, 32, 115, 111]
theorem pcs_all (c : Ck.Ct) (ok : c.Ok) (d : List Int) : ∀ p ∈ Ck.pcsR c d, 1 ≤ p.length ∧ p.length ≤ c.mx := fun p hp => by
  obtain ⟨i, hi⟩ := List.mem_iff_getElem?.1 hp
  have hil : i < (Ck.pcsR c d).length := by rcases Nat.lt_or_ge i (Ck.pcsR c d).length with h1 | h1; exact h1; rw [List.getElem?_eq_none h1] at hi; cases hi
  have := Ck.pcsR_lens c ok d i hil
  rw [List.getElem?_eq_getElem hil] at hi
  injection hi with hi
  rw [hi] at this
  exact ⟨this.1, this.2.1⟩
set_option maxRecDepth 20000 in
set_option maxHeartbeats 1600000 in
theorem holds_top (w : World) : Calls Tryz.prog 5 #[] w fun e w' => e = .returned (.bool true) ∧ Below w.heap.size w w' := by
  have HMD := Lib.hid (made_any 5 50 (by decide) (by decide) (by decide) w)
  go_enter Tryz.func5, Tryz.ntmps5
  go_wp2_with fail
  refine HMD.out.mono ?_
  rintro e w1 ⟨gs, rfl, hs1, hb1⟩
  have HS1 := Lib.hid hs1
  have HB1 := Lib.hid hb1
  have HCU := Lib.hid (cutter_any 40 (by decide) w1)
  clear hs1 hb1 HMD
  go_wp2_with fail
  refine HCU.out.mono ?_
  rintro e w2 ⟨rfl, hb2⟩
  have HB2 := Lib.hid hb2
  clear hb2 HCU
  have kc := fun (w : World) (C : Array Value) (n c : Nat) => Lib.run_convert_bytes_const (P := Tryz.prog) w 22 5 C n c Tryz.underlying22 Tryz.underlying5
  have hb3 := (Below.refl w2.heap.size w2).alloc (Nat.le_refl _) (.cells (cellsOf holdL) 5 (46, 47))
  have hr3 : (w2.alloc (.cells (cellsOf holdL) 5 (46, 47))).heap[w2.heap.size]? = some (.cells (cellsOf holdL) 5 (46, 47)) := by
    show (w2.heap.push _)[w2.heap.size]? = _
    simp
  have hI3 : Ints .u8 (w2.alloc (.cells (cellsOf holdL) 5 (46, 47))) (some ⟨w2.heap.size, 0, none⟩) holdL := fun i hi => by
    refine ⟨_, rfl, ?_⟩
    rw [addr_add0, Nat.zero_add, cell_of_row _ _ _ _ _ _ hr3, cellsOf_get _ _ hi]
  have hBL : Bytes holdL := fun i => by
    rcases Nat.lt_or_ge i 46 with h1 | h1
    · have : ∀ j : Fin 46, 0 ≤ holdL.getD j.val 0 ∧ holdL.getD j.val 0 < 256 := by decide
      exact this ⟨i, h1⟩
    · rw [List.getD_eq_getElem?_getD, List.getElem?_eq_none (show holdL.length ≤ i from h1)]; simp
  have HST := Lib.hid (stored_any ((HS1.out.below HB2.out).below hb3) (ctN 40) (ctN_ok 40 (by decide)) (ctN_93 40 (by decide)) (some ⟨w2.heap.size, 0, none⟩) 46 46 holdL rfl (Nat.le_refl _) hBL hI3 (fun e => by cases e) (by decide) (b' := 1000) (by decide) (by decide) (by decide))
  have HB3 := Lib.hid hb3
  clear hb3 hr3 hI3 hBL
  go_wp2_with fail
  refine HST.out.mono ?_
  rintro e w4 ⟨v4, l, E', rfl, ho4, hxf, _, _, hc4, F', hs4, hF4, hno4⟩
  obtain ⟨A4, c4, rfl⟩ := ownX_form ho4
  obtain ⟨f, hf⟩ := hs4.fn
  have hfe := hxf.fe hf (fun x hx => (hs4.ok hx).pos)
  have hby := XF.bytes hf hxf
  rw [Ck.pcsR_flat _ (ctN_ok 40 (by decide))] at hby
  have hcn := pcs_count (ctN 40) (ctN_ok 40 (by decide)) holdL
  have HFE := Lib.hid (fetched_any hs4 A4 l.length c4 l f rfl (by rw [hxf.1]; have h46 : holdL.length = 46 := rfl; omega) (fun _ _ hi => ownR_range ho4 hi) (fun ad e _ => hno4 ad.block (by rw [e]; rfl)) hfe)
  rw [hby, show strOfNums holdL = _ from (by decide +kernel : strOfNums holdL = ByteArray.mk #[115, 111, 109, 101, 32, 98, 121, 116, 101, 115, 32, 116, 104, 97, 116, 32, 97, 114, 101, 32, 109, 111, 114, 101, 32, 116, 104, 97, 110, 32, 111, 110, 101, 32, 99, 104, 117, 110, 107, 44, 32, 111, 114, 32, 115, 111])] at HFE
  have HC4 := Lib.hid hc4
  have HF4 := Lib.hid hF4
  clear ho4 hxf hc4 hs4 hF4 hno4 hf hfe hby hcn HST
  go_wp2_with fail
  refine HFE.out.mono ?_
  rintro e w5 ⟨rfl, hc5, _⟩
  have HC5 := Lib.hid hc5
  clear hc5 HFE
  go_wp2_with fail
  go_ret
  refine ⟨rfl, ?_⟩
  have h1 := HB1.out.size
  have h2 := HB2.out.size
  have h3 := HB3.out.size
  have b13 : Below w.heap.size w _ := below_trans (below_trans HB1.out HB2.out h1) HB3.out (by omega)
  have b4 := b13.trans (HC4.out.below (B := w.heap.size) b13.size (fun k hk => hk))
  exact b4.trans (HC5.out.below (B := w.heap.size) b4.size (fun k hk => by
    rcases (HF4.out k hk).1 with h | h
    · exact h
    · have := b13.size; omega))
end Go.Proofs.YtcklcffepedklaaGreat
