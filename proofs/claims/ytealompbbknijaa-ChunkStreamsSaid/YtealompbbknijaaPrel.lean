/- chunk: what holds while a stream is written in pieces. -/
import Derived.Test.YtealompbbknijaaLaws2
namespace Go.Proofs.Ytealompbbknijaa
open Go.RowKit

theorem NewRows.arg {P : Nat → Prop} {B : Nat} {L : List (List Int)} {w : World} {v : Value} (h : NewRows P B L w v) :
    ∃ A c vals, v = .slice A L.length c ∧ (A = none → L.length = 0 ∧ c = 0) ∧ vals.length = L.length * 1 ∧ (∀ j u, vals[j]? = some u → ∃ ad, A = some ad ∧ w.cell? (ad.add j) = some u) ∧ RowsV P w vals L := by
  have hr := h.rows
  obtain ⟨A, c, rfl, _, _, _, hn⟩ := hr
  obtain ⟨vals, ho, hv⟩ := h
  refine ⟨A, c, vals, rfl, hn, by rw [hv.1, Nat.mul_one], fun j u hj => ?_, hv⟩
  cases A with
  | none =>
    have h0 := (hn rfl).1
    have : vals = [] := List.length_eq_zero_iff.1 (by rw [hv.1, h0])
    subst this; cases hj
  | some a =>
    have hcell := ho.cells (g := a.block) rfl j u hj
    obtain ⟨_, h2⟩ := ho
    rcases h2 with ⟨h2, _⟩ | ⟨g', cap', cur, h2, _⟩
    · cases h2
    · injection h2 with h2
      injection h2 with h2
      subst h2
      exact ⟨_, rfl, hcell⟩

theorem cutR_nil (c : Ct) (ok : c.Ok) : cutR c [] = 0 := by
  by_cases h : cutR c [] = 0
  · exact h
  · have hb := cutR_bounds c ok [] h
    have := ok.lo
    simp at hb
    omega

/-- What holds between two pieces. -/
structure PRel (W1 : World) (g : Nat) (c : Ct) (A0 : Option Addr) (L : List (List Int)) (h rest : List Int) (Ar : Option Addr) (cr : Nat) (Lo : List (List Int)) (Y : Nat) (v : Value) (w' : World) : Prop where
  all : L = Lo ++ pcsR c (h ++ rest)
  cut0 : cutR c h = 0
  ints : Ints .u8 w' Ar rest
  byt : Bytes rest
  lec : rest.length ≤ cr
  nil : Ar = none → rest.length = 0 ∧ cr = 0
  blk : ∀ ad, Ar = some ad → At A0 ad.block
  str : Str w' g c h (fun k => k = Y)
  rows : NewRows (fun k => W1.heap.size ≤ k ∧ k < w'.heap.size ∧ v.ownBlock ≠ some k) W1.heap.size Lo w' v
  neY : v.ownBlock ≠ some Y
  Ylt : Y < w'.heap.size
  Yne : Y ≠ g
  gr : W1.grownBy w' (some g)
  num : h.length + rest.length ≤ 10000
  glt : g < W1.heap.size
  lt0 : ∀ k, At A0 k → 0 < rest.length → k < W1.heap.size ∧ k ≠ g

theorem PRel.step {W1 : World} {g : Nat} {c : Ct} {A0 : Option Addr} {L : List (List Int)} {h rest : List Int} {Ar : Option Addr} {cr : Nat} {Lo : List (List Int)} {Y : Nat} {v : Value} {wr : World} (ok : c.Ok) (R : PRel W1 g c A0 L h rest Ar cr Lo Y v wr)
    {n : Nat} (hn0 : 0 < n) (hn : n ≤ rest.length) {w2 w3 : World} {Y2 : Nat} {v2 v3 : Value} {vals1 vals2 : List Value} (hg2 : wr.grownBy w2 (some g)) (hY2 : wr.heap.size ≤ Y2) (hY2l : Y2 < w2.heap.size)
    (hv1 : RowsV (fun k => W1.heap.size ≤ k ∧ k < wr.heap.size ∧ v.ownBlock ≠ some k) wr vals1 Lo) (hlt : ∀ k, v.ownBlock = some k → W1.heap.size ≤ k ∧ k < wr.heap.size)
    (hv2 : RowsV (fun k => wr.heap.size ≤ k ∧ k < w2.heap.size ∧ k ≠ Y2 ∧ v2.ownBlock ≠ some k) w2 vals2 (endsR c (h ++ rest.take n)).1) (hstr : Str w2 g c (endsR c (h ++ rest.take n)).2 (fun k => k = Y2))
    (hown : w3.ownsRow W1.heap.size 25 1 v3 (Lo.length + (endsR c (h ++ rest.take n)).1.length) (vals1 ++ vals2)) (hgrow : w2.grownBy w3 v.ownBlock) (hat : v3.ownBlock = v.ownBlock ∨ v3.ownBlock = some w2.heap.size)
    (Ar' : Option Addr) (cr' : Nat) (hA' : cr = n ∧ Ar' = Ar ∧ cr' = 0 ∨ cr ≠ n ∧ Ar' = Ar.map (·.add n) ∧ cr' = cr - n) :
    PRel W1 g c A0 L (endsR c (h ++ rest.take n)).2 (rest.drop n) Ar' cr' (Lo ++ (endsR c (h ++ rest.take n)).1) Y2 v3 w3 := by
  have hs2 := hg2.size
  have hs3 := hgrow.size
  have hsr := R.gr.size
  have hlec := R.lec
  have hglt := R.glt
  have hog : v.ownBlock ≠ some g := fun e => by have := hlt g e; omega
  have hv3 : ∀ j, v3.ownBlock = some j → v.ownBlock = some j ∨ j = w2.heap.size := by
    intro j hj
    rcases hat with e | e
    · left; rw [← e]; exact hj
    · right; rw [e] at hj; injection hj with hj; omega
  have hnum := endsR_num c ok (h ++ rest.take n)
  rw [List.length_append, List.length_take] at hnum
  have hn1 := R.num
  refine ⟨?_, endsR_rest c ok _, ?_, R.byt.drop n, ?_, ?_, ?_, ?_, ?_, ?_, by omega, by omega, ?_, ?_, hglt, fun k hk h0 => R.lt0 k hk (by rw [List.length_drop] at h0; omega)⟩
  · rw [R.all]
    conv => lhs; rw [← List.take_append_drop n rest, ← List.append_assoc, pcsR_app c ok]
    rw [List.append_assoc]
  · have hk : Ints .u8 w3 Ar rest := (R.ints.grown hg2 (fun ad e h0 he => by injection he with he; have := R.lt0 _ (R.blk ad e) h0; omega)).grown hgrow (fun ad e h0 he => by
      have h1 := R.lt0 _ (R.blk ad e) h0
      have h2 := hlt _ he.symm
      omega)
    rcases hA' with ⟨h1, rfl, _⟩ | ⟨h1, rfl, _⟩
    · rw [List.drop_of_length_le (by omega)]; exact Ints.nil _ _ _
    · exact hk.dropA n
  · rw [List.length_drop]
    rcases hA' with ⟨h1, _, rfl⟩ | ⟨h1, _, rfl⟩ <;> omega
  · intro e
    rcases hA' with ⟨h1, rfl, _⟩ | ⟨h1, rfl, _⟩
    · have := R.nil e; rw [List.length_drop]; omega
    · cases Ar with
      | none => have := R.nil rfl; omega
      | some a => cases e
  · intro a e
    rcases hA' with ⟨h1, rfl, _⟩ | ⟨h1, rfl, _⟩
    · exact R.blk a e
    · cases Ar with
      | none => cases e
      | some b =>
        injection e with e
        subst e
        have h2 : (b.add n).block = b.block := add_block b n
        have h3 := R.blk b rfl
        rw [← h2] at h3
        exact h3
  · exact hstr.kept hgrow (fun e => hog e.symm) (fun k hk he => by
      subst hk
      have := hlt _ he.symm
      omega)
  · refine ⟨vals1 ++ vals2, by rw [List.length_append]; exact hown, RowsV.append ?_ ?_⟩
    · refine ((hv1.kept hg2 (fun k hk e => ?_)).kept hgrow (fun k hk e => ?_)).imp (fun k hk => ⟨hk.1, by have := hk.2.1; omega, fun e => ?_⟩)
      · injection e with e; have := hk.1; omega
      · exact hk.2.2 e.symm
      · rcases hv3 k e with h | h
        · exact hk.2.2 h
        · have := hk.2.1; omega
    · refine (hv2.kept hgrow (fun k hk e => ?_)).imp (fun k hk => ⟨by have := hk.1; omega, by have := hk.2.1; omega, fun e => ?_⟩)
      · have := hlt _ e.symm; have := hk.1; omega
      · rcases hv3 k e with h | h
        · have := hlt _ h; have := hk.1; omega
        · have := hk.2.1; omega
  · intro e
    rcases hv3 Y2 e with h | h
    · have := hlt _ h; omega
    · omega
  · have a := grown_trans R.gr hg2
    exact ⟨hgrow.os.trans a.os, hgrow.tape.trans a.tape, hgrow.output.trans a.output, Nat.le_trans a.size hgrow.size, fun i hi hne => (hgrow.block i (Nat.lt_of_lt_of_le hi a.size) (fun e => by have := hlt i e.symm; omega)).trans (a.block i hi hne)⟩
  · rw [List.length_drop]; omega

end Go.Proofs.Ytealompbbknijaa
