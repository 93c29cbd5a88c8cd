/- Texts of the proof, one behind the other: What steps that come in read as. -/
import Derived.Test.YtcklcffepedklaaGreatDoorM30
import Derived.Test.YtcklcffepedklaaGreatDoorM16
import Derived.Deep.Slices
namespace Go.Proofs.YtcklcffepedklaaGreatDoor
open Go.ChangeShapes Go.WideShapes Go.ChangeAt Go.RowKit

theorem list_of {α : Type} (n : Nat) (P : Nat → α → Prop) (h : ∀ i, i < n → ∃ x, P i x) : ∃ l : List α, l.length = n ∧ ∀ i (hi : i < l.length), P i l[i] := by
  induction n with
  | zero => exact ⟨[], rfl, fun i hi => absurd hi (by simp)⟩
  | succ n ih =>
    obtain ⟨l, hl, hP⟩ := ih (fun i hi => h i (by omega))
    obtain ⟨x, hx⟩ := h n (by omega)
    refine ⟨l ++ [x], by simp [hl], fun i hi => ?_⟩
    by_cases e : i < l.length
    · rw [List.getElem_append_left e]; exact hP i e
    · have : i = n := by simp at hi; omega
      subst this
      rw [List.getElem_append_right (by omega)]
      simpa using hx
theorem spot_none {a : Addr} {w : World} {v : Value} (h : w.cell? (a.add 0) = some v) : ∃ b o, a = ⟨b, o, none⟩ := by
  obtain ⟨b, o, s⟩ := a
  cases s with
  | none => exact ⟨b, o, rfl⟩
  | some s =>
    unfold World.cell? Addr.add at h
    simp at h
    split at h <;> simp at h
section
variable {H : Type} {enc : TypeId × Value → H} {P : Program} {W : World} {base : Nat} {spare : Nat → Bool} {held : Bool}
/-- A slice of rows, opened. -/
theorem open_rows {α : Type} {t e : TypeId} {k fuel : Nat} (hk : 0 < k) (hu : P.underlying t = some (.slice e)) (hc : P.cellsOf e = k) (enc' : α → List Value) (Q : α → Prop)
    (hel : ∀ cs m x, DataW.trod enc P W base spare held m e cs = some x → ∃ y, Q y ∧ cs = enc' y) (hln : ∀ y, Q y → (enc' y).length = k) {cs : List Value} {x : DataW H × List MemPlace} (hf : DataW.trod enc P W base spare held fuel t cs = some x) :
    ∃ (a : Option Addr) (len cap : Nat), cs = [.slice a len cap] ∧ len ≤ cap ∧ cap ≤ maxLen ∧ (a = none → len = 0 ∧ cap = 0) ∧
      ∃ l : List α, l.length = len ∧ ∀ i y, l[i]? = some y → Q y ∧ ∃ b o, a = some ⟨b, o, none⟩ ∧ b < W.heap.size ∧ W.rangeAt b (o + i * k) (enc' y) := by
  rcases Deep.open_slice hu hf with ⟨hcs, _⟩ | ⟨ad, len, cap, m, n, D, Pl, hcs, _, hl, hm, hmm, _, hi⟩
  · exact ⟨none, 0, 0, hcs, Nat.le_refl _, by decide, fun _ => ⟨rfl, rfl⟩, [], rfl, fun i y hi => by simp at hi⟩
  · refine ⟨some ad, len, cap, hcs, hl, hm, (fun h => by cases h), ?_⟩
    rw [hc] at hi
    have hlm : len ≤ m := by rw [hmm]; split <;> omega
    have key : ∀ i, i < len → ∃ y : α, Q y ∧ ∃ (b o : Nat), ad = ⟨b, o, none⟩ ∧ b < W.heap.size ∧ W.rangeAt b (o + i * k) (enc' y) := by
      intro i hil
      obtain ⟨cs', hcc, ht⟩ := hi i (by omega)
      obtain ⟨y, hy, hk'⟩ := hel _ _ _ ht
      obtain ⟨_, hcl, hat⟩ := World.cells?_some hcc
      obtain ⟨cs0, hc0, ht0⟩ := hi 0 (by omega)
      obtain ⟨y0, hq0, hk0⟩ := hel _ _ _ ht0
      obtain ⟨_, hcl0, hat0⟩ := World.cells?_some hc0
      have h00 := hat0 0 (by omega)
      have hsz0 : cs0.length = k := by rw [hk0]; exact hln _ hq0
      rw [Nat.zero_mul, List.getElem?_eq_getElem (by omega), add_add] at h00
      obtain ⟨b, o, rfl⟩ := spot_none h00
      have hbl := cell_lt h00
      refine ⟨y, hy, b, o, rfl, by simpa [Addr.add] using hbl, ?_⟩
      have hly : cs'.length = k := by rw [hk']; exact hln _ hy
      rw [← hk']
      intro j v hj'
      have hjl : j < k := by
        rcases Nat.lt_or_ge j cs'.length with h | h
        · omega
        · rw [List.getElem?_eq_none h] at hj'; cases hj'
      have h2 := hat j hjl
      rw [add_add, hj'] at h2
      rw [← h2]
      congr 1
      unfold Addr.add
      split
      · rename_i h0; simp <;> omega
      · simp <;> omega
    obtain ⟨ks, hkl, hP⟩ := list_of len _ key
    refine ⟨ks, hkl, fun i y hi => ?_⟩
    have hil : i < ks.length := by
      rcases Nat.lt_or_ge i ks.length with h | h
      · exact h
      · rw [List.getElem?_eq_none h] at hi; cases hi
    rw [List.getElem?_eq_getElem hil] at hi
    injection hi with hi
    subst hi
    obtain ⟨h1, b, o, e, h2, h3⟩ := hP i hil
    exact ⟨h1, b, o, by rw [e], h2, h3⟩
end
theorem c5 : Tryz.prog.cellsOf 5 = 1 := by kernel_rfl
theorem c3 : Tryz.prog.cellsOf 3 = 1 := by kernel_rfl
theorem c9 : Tryz.prog.cellsOf 9 = 1 := by kernel_rfl
theorem c36 : Tryz.prog.cellsOf 36 = 1 := by kernel_rfl
theorem c37 : Tryz.prog.cellsOf 37 = 1 := by kernel_rfl
theorem c39 : Tryz.prog.cellsOf 39 = 6 := by kernel_rfl
theorem c69 : Tryz.prog.cellsOf 69 = 1 := by kernel_rfl
theorem c131 : Tryz.prog.cellsOf 131 = 32 := by kernel_rfl
theorem c133 : Tryz.prog.cellsOf 133 = 33 := by kernel_rfl
theorem c135 : Tryz.prog.cellsOf 135 = 35 := by kernel_rfl

/-- A step, as it comes in. -/
structure Stp where
  kind : Nat
  p : ByteArray
  t : ByteArray
  la : Option Addr
  ln : Nat
  lc : Nat
  n : Int
  fa : Option Addr
  fn : Nat
  fc : Nat
def stC (s : Stp) : List Value := [.int .u8 s.kind, .string s.p, .string s.t, .slice s.la s.ln s.lc, .int .i64 s.n, .slice s.fa s.fn s.fc]
theorem stC_one (s : Stp) : ∀ v ∈ stC s, v.oneCell' = true := by simp [stC, Value.oneCell']
/-- What a step's cells say lies in the world. -/
structure StOk (w : World) (s : Stp) : Prop where
  k : s.kind < 256
  x : ∃ l, l.length = s.ln ∧ XAt w s.la l
  f : ∃ fs, fs.length = s.fn ∧ Ints .i64 w s.fa fs
  n : -9223372036854775808 ≤ s.n ∧ s.n ≤ 9223372036854775807
  p : s.p.size ≤ 9223372036854775807
  t : s.t.size ≤ 9223372036854775807
  l : s.ln ≤ 9223372036854775807
  g : s.fn ≤ 9223372036854775807
theorem StOk.below {w w' : World} {s : Stp} (h : StOk w s) (hb : Below w.heap.size w w') : StOk w' s := by
  obtain ⟨l, h1, h2⟩ := h.x
  obtain ⟨fs, h3, h4⟩ := h.f
  exact ⟨h.k, ⟨l, h1, h2.below hb⟩, ⟨fs, h3, h4.below hb⟩, h.n, h.p, h.t, h.l, h.g⟩
/-- Steps in a slice that begins at A. -/
def Stps (w : World) (A : Option Addr) (l : List Stp) : Prop := ∀ i s, l[i]? = some s → StOk w s ∧ ∃ b o, A = some ⟨b, o, none⟩ ∧ b < w.heap.size ∧ w.rangeAt b (o + i * 6) (stC s)
section
variable {H : Type} {enc : TypeId × Value → H} {W : World} {base : Nat} {spare : Nat → Bool} {held : Bool}
set_option maxRecDepth 100000 in
theorem key_cells {fuel : Nat} {cs : List Value} {x : DataW H × List MemPlace} (hf : DataW.trod enc Tryz.prog W base spare held fuel 133 cs = some x) : ∃ k : Ky, k.Ok ∧ cs = k.cells := by
  obtain ⟨xs, m, rfl, _, hl, hx, hi⟩ := DataW.trod_struct Tryz.underlying133 hf
  have h0 : DataW.trod enc Tryz.prog W base spare held m 131 (cs.take 32) = xs[0]? := by rw [← c131]; exact hi 0 _ rfl
  have h1 : DataW.trod enc Tryz.prog W base spare held m 69 ((cs.drop 32).take 1) = xs[1]? := by rw [← c69]; exact hi 1 _ rfl
  have hx2 : xs.length = 2 := hx
  rw [List.getElem?_eq_getElem (by omega)] at h0 h1
  rw [c133] at hl
  obtain ⟨l, e0, hl0, hw⟩ := arr_cells Tryz.underlying131 c131 Tryz.underlying5 c5 h0
  obtain ⟨n, e1, _, wn⟩ := DataW.trod_int Tryz.underlying69 h1
  have hn := bounds_u32 wn
  refine ⟨⟨l, n.toNat⟩, ⟨hl0, bytes_of hw, by show n.toNat < _; omega⟩, ?_⟩
  have e2 : cs.drop 32 = [.int .u32 n] := by
    rw [← e1, List.take_of_length_le (by rw [List.length_drop]; omega)]
  rw [← List.take_append_drop 32 cs, e0, e2]
  show _ = l.map _ ++ [Value.int .u32 ((n.toNat : Nat) : Int)]
  rw [Int.toNat_of_nonneg hn.1]
set_option maxRecDepth 100000 in
theorem ext_cells {fuel : Nat} {cs : List Value} {x : DataW H × List MemPlace} (hf : DataW.trod enc Tryz.prog W base spare held fuel 135 cs = some x) : ∃ r : Xt, True ∧ cs = encX r := by
  obtain ⟨xs, m, rfl, _, hl, hx, hi⟩ := DataW.trod_struct Tryz.underlying135 hf
  have h0 : DataW.trod enc Tryz.prog W base spare held m 133 (cs.take 33) = xs[0]? := by rw [← c133]; exact hi 0 _ rfl
  have h1 : DataW.trod enc Tryz.prog W base spare held m 3 ((cs.drop 33).take 1) = xs[1]? := by rw [← c3]; exact hi 1 _ rfl
  have h2 : DataW.trod enc Tryz.prog W base spare held m 3 ((cs.drop 34).take 1) = xs[2]? := by rw [← c3]; exact hi 2 _ rfl
  have hx2 : xs.length = 3 := hx
  rw [List.getElem?_eq_getElem (by omega)] at h0 h1 h2
  rw [c135] at hl
  obtain ⟨k, hk, e0⟩ := key_cells h0
  obtain ⟨a, e1, _, wa⟩ := DataW.trod_int Tryz.underlying3 h1
  obtain ⟨b, e2, _, wb⟩ := DataW.trod_int Tryz.underlying3 h2
  refine ⟨⟨(k, (a, b)), hk⟩, trivial, ?_⟩
  have e3 : cs.drop 33 = (cs.drop 33).take 1 ++ (cs.drop 34).take 1 := by
    have : (cs.drop 34).take 1 = cs.drop 34 := List.take_of_length_le (by rw [List.length_drop]; omega)
    rw [this, show cs.drop 34 = (cs.drop 33).drop 1 by rw [List.drop_drop], List.take_append_drop]
  rw [← List.take_append_drop 33 cs, e0, e3, e1, e2]; rfl
set_option maxRecDepth 100000 in
theorem step_cells {fuel : Nat} {cs : List Value} {x : DataW H × List MemPlace} (hf : DataW.trod enc Tryz.prog W base spare held fuel 39 cs = some x) : ∃ s : Stp, StOk W s ∧ cs = stC s := by
  obtain ⟨xs, m, rfl, _, hl, hx, hi⟩ := DataW.trod_struct Tryz.underlying39 hf
  have h0 : DataW.trod enc Tryz.prog W base spare held m 5 (cs.take 1) = xs[0]? := by rw [← c5]; exact hi 0 _ rfl
  have h1 : DataW.trod enc Tryz.prog W base spare held m 9 ((cs.drop 1).take 1) = xs[1]? := by rw [← c9]; exact hi 1 _ rfl
  have h2 : DataW.trod enc Tryz.prog W base spare held m 9 ((cs.drop 2).take 1) = xs[2]? := by rw [← c9]; exact hi 2 _ rfl
  have h3 : DataW.trod enc Tryz.prog W base spare held m 36 ((cs.drop 3).take 1) = xs[3]? := by rw [← c36]; exact hi 3 _ rfl
  have h4 : DataW.trod enc Tryz.prog W base spare held m 3 ((cs.drop 4).take 1) = xs[4]? := by rw [← c3]; exact hi 4 _ rfl
  have h5 : DataW.trod enc Tryz.prog W base spare held m 37 ((cs.drop 5).take 1) = xs[5]? := by rw [← c37]; exact hi 5 _ rfl
  have hx2 : xs.length = 6 := hx
  rw [List.getElem?_eq_getElem (by omega)] at h0 h1 h2 h3 h4 h5
  rw [c39] at hl
  obtain ⟨kd, e0, _, wk⟩ := DataW.trod_int Tryz.underlying5 h0
  obtain ⟨p, e1, _, wp⟩ := DataW.trod_string Tryz.underlying9 h1
  obtain ⟨t, e2, _, wt⟩ := DataW.trod_string Tryz.underlying9 h2
  obtain ⟨la, ln, lc, e3, hl1, hl2, _, xl, hxl, hxa⟩ := open_rows (k := 35) (by decide) Tryz.underlying36 c135 encX (fun _ => True) (fun cs m x h => ext_cells h) (fun y _ => encX_length y) h3
  obtain ⟨z, e4, _, wz⟩ := DataW.trod_int Tryz.underlying3 h4
  have hf5 : ∃ fa fn fc, (cs.drop 5).take 1 = [.slice fa fn fc] ∧ fn ≤ maxLen ∧ ∃ fs : List Int, fs.length = fn ∧ Ints .i64 W fa fs := by
    rcases open_ints Tryz.underlying37 Tryz.underlying3 c3 h5 with ⟨hcs, _⟩ | ⟨a, l, c, zs, hcs, _, hlc, hm, hz, _, hcell, _⟩
    · exact ⟨none, 0, 0, hcs, by decide, [], rfl, Ints.nil _ _ _⟩
    · have hlz : l ≤ zs.length := by rw [hz]; split <;> omega
      refine ⟨some a, l, c, hcs, by omega, zs.take l, by rw [List.length_take]; omega, fun i hi => ⟨a, rfl, ?_⟩⟩
      rw [List.length_take] at hi
      rw [hcell i (by omega), List.getD_eq_getElem?_getD, List.getD_eq_getElem?_getD, List.getElem?_take, if_pos (by omega)]
  obtain ⟨fa, fn, fc, e5, hm5, fs, hfs, hif⟩ := hf5
  have hkd := bounds_u8 wk
  have hz := bounds_i64 wz
  unfold maxLen at wp wt hl2 hm5
  refine ⟨⟨kd.toNat, p, t, la, ln, lc, z, fa, fn, fc⟩, ⟨by show kd.toNat < 256; omega, ⟨xl, hxl, fun i r hr => ?_⟩, ⟨fs, hfs, hif⟩, hz, by show p.size ≤ _; omega, by show t.size ≤ _; omega, by show ln ≤ _; omega, by show fn ≤ _; omega⟩, ?_⟩
  · obtain ⟨_, b, o, e, _, h⟩ := hxa i r hr
    exact ⟨b, o, e, h⟩
  · match cs, hl with
    | [a, b, c, d, e, f], _ =>
      simp at e0 e1 e2 e3 e4 e5
      subst e0 e1 e2 e3 e4 e5
      show [Value.int .u8 kd, _, _, _, _, _] = [Value.int .u8 ((kd.toNat : Nat) : Int), _, _, _, _, _]
      rw [Int.toNat_of_nonneg hkd.1]
theorem open_steps {a : Option Addr} {len cap : Nat} {d : DataW H} {ps : List MemPlace} (h : DataW.Trod enc Tryz.prog W base spare held 22 (.slice a len cap) d ps) :
    ∃ l : List Stp, l.length = len ∧ len ≤ cap ∧ cap ≤ 9223372036854775807 ∧ (a = none → len = 0 ∧ cap = 0) ∧ Stps W a l := by
  obtain ⟨fuel, hf⟩ := h
  obtain ⟨a', len', cap', hcs, h1, h2, h3, l, h4, h5⟩ := open_rows (k := 6) (by decide) Tryz.underlying22 c39 stC (StOk W) (fun cs m x h => step_cells h) (fun _ _ => rfl) hf
  simp [Value.cells] at hcs
  obtain ⟨rfl, rfl, rfl⟩ := hcs
  exact ⟨l, h4, h1, by unfold maxLen at h2; omega, h3, h5⟩
end
end Go.Proofs.YtcklcffepedklaaGreatDoor
