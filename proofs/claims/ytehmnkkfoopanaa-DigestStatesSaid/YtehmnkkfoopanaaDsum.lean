/- digest: Sum. -/
import Derived.Test.YtehmnkkfoopanaaFront
namespace Go.Proofs.Ytehmnkkfoopanaa
open Go.RowKit

/-- Slices of bytes. -/
def InRows (w : World) (A : Option Addr) (L : List (List Int)) : Prop :=
  ∀ i, i < L.length → ∃ ad B c, A = some ad ∧ w.cell? (ad.add i) = some (.slice B (L.getD i []).length c) ∧ (L.getD i []).length ≤ c ∧ Ints .u8 w B (L.getD i []) ∧ Bytes (L.getD i [])
theorem InRows.below {w w' : World} {A : Option Addr} {L : List (List Int)} (h : InRows w A L) (hb : Below w.heap.size w w') : InRows w' A L := by
  intro i hi
  obtain ⟨ad, B, c, e, h1, h2, h3, h4⟩ := h i hi
  exact ⟨ad, B, c, e, (hb.cell (cell_lt h1)).trans h1, h2, h3.below hb, h4⟩
theorem InRows.nil (w : World) (A : Option Addr) : InRows w A [] := fun i hi => absurd hi (by simp)
/-- A sum under way. -/
structure DS (w0 w : World) (g2 g : Nat) (z : Array Value) (B : List Int) : Prop where
  bel : Below w0.heap.size w0 w
  row : w.heap[g2]? = some (.cells z 24 (0, 0))
  ge2 : w0.heap.size ≤ g2
  st : St w g B
  ge : w0.heap.size ≤ g
  ne : g2 ≠ g
theorem DS.more {w0 w w' : World} {g2 g : Nat} {z : Array Value} {B B' : List Int} (D : DS w0 w g2 g z B) (hg : w.grownBy w' (some g)) (hs : St w' g B') : DS w0 w' g2 g z B' :=
  ⟨D.bel.grown hg D.bel.size (fun k hk => by injection hk with hk; rw [← hk]; exact D.ge), (hg.block g2 (row_lt D.row) (fun e => D.ne (by injection e))).trans D.row, D.ge2, hs, D.ge, D.ne⟩
theorem take_flat (L : List (List Int)) (i : Nat) (h : i < L.length) : (L.take (i + 1)).flatten = (L.take i).flatten ++ L.getD i [] := by
  have e : L.take (i + 1) = L.take i ++ [L.getD i []] := by
    rw [List.take_add_one, List.getElem?_eq_getElem h, List.getD_eq_getElem?_getD, List.getElem?_eq_getElem h]; rfl
  rw [e, List.flatten_append, List.flatten_cons, List.flatten_nil, List.append_nil]
theorem flat_le (L : List (List Int)) (i : Nat) (h : i < L.length) : (L.take i).flatten.length + (L.getD i []).length ≤ L.flatten.length := by
  have h1 := congrArg List.length (take_flat L i h)
  rw [List.length_append] at h1
  have h2 : (L.take (i + 1)).flatten.length ≤ L.flatten.length := by
    have : L.flatten = (L.take (i + 1)).flatten ++ (L.drop (i + 1)).flatten := by rw [← List.flatten_append, List.take_append_drop]
    rw [this, List.length_append]; omega
  omega

set_option maxRecDepth 20000 in
set_option maxHeartbeats 1600000 in
theorem DSum_any (A : Option Addr) (n c : Nat) (L : List (List Int)) (w : World) (hn : L.length = n) (hnm : n < 4611686018427387904) (hnc : n ≤ c) (hI : InRows w A L) (hl : L.flatten.length < 4611686018427387904) :
    Calls Try.prog 9 #[.slice A n c] w fun e w' => e = .returned (.agg (cellsOf (digestF L.flatten))) ∧ Below w.heap.size w w' := by
  have HN := Lib.hid hn
  have HI := Lib.hid hI
  have HL := Lib.hid hl
  have HBW := Lib.hid (below_refl_grown (grown_alloc w (.cells (cellsOf (dS [] 0)) 24) none))
  have HRW := Lib.hid (heap_alloc_last w (.cells (cellsOf (dS [] 0)) 24))
  clear hn hI hl
  go_enter Try.func9, Try.ntmps9
  go_upto_region 1 with (fail)
  change Code.wp _ _ _ _ (w.alloc (.cells (cellsOf (dS [] 0)) 24))
  obtain ⟨w1, hw1⟩ : ∃ z, z = w.alloc (.cells (cellsOf (dS [] 0)) 24) := ⟨_, rfl⟩
  obtain ⟨g2, hg⟩ : ∃ z, z = w.heap.size := ⟨_, rfl⟩
  rw [← hw1] at HBW HRW ⊢
  rw [← hg] at HRW ⊢
  have HG2 := Lib.hid (show w.heap.size ≤ g2 by omega)
  have HG2L := Lib.hid (row_lt HRW.out)
  clear hw1 hg
  go_wp2_with fail
  refine (New_st w1).mono ?_
  rintro e w2 ⟨g, rfl, hg, hge, hS⟩
  have D0 := Lib.hid (show DS w w2 g2 g (cellsOf (dS [] 0)) (L.take 0).flatten from ⟨HBW.out.trans ((below_refl_grown hg).mono HBW.out.size), ((below_refl_grown hg).block g2 HG2L.out).trans HRW.out, HG2.out, by rw [List.take_zero]; exact hS, by have := HBW.out.size; omega, by have := HG2L.out; omega⟩)
  clear hg hge hS HBW HRW HG2 HG2L
  go_wp2_with fail
  go_loopg [9] n (fun kq v9 w' => ∃ i : Nat, v9 = .int .i64 (i : Int) ∧ i + kq = n ∧ DS w w' g2 g (cellsOf (dS [] 0)) (L.take i).flatten)
  case atStart => exact ⟨0, rfl, by omega, D0.out⟩
  case round =>
    obtain ⟨i, rfl, hi, hD⟩ := hrel
    have D := Lib.hid hD
    by_cases hlt : i < n
    · obtain ⟨ad, B, cb, rfl, h1, h2, h3, h4⟩ := (HI.out.below hD.bel) i (by rw [HN.out]; exact hlt)
      have HW := Lib.hid (Write_any g (L.getD i []).length cb (L.take i).flatten (L.getD i []) B wr hD.st rfl h2 h4 h3 (fun ad' e hp => by
        have h5 := HI.out i (by rw [HN.out]; exact hlt)
        obtain ⟨ad2, B2, c2, e2, k1, k2, k3, k4⟩ := h5
        have hsame : B2 = B := by
          injection e2 with e2
          subst e2
          have := (hD.bel.cell (cell_lt k1)).trans k1
          rw [h1] at this
          injection this with this
          injection this with this
          exact this.symm
        subst hsame
        obtain ⟨ad3, e3, hc3⟩ := k3 0 hp
        rw [e] at e3
        injection e3 with e3
        subst e3
        have := cell_block hc3
        have := hD.ge
        omega) (by have := flat_le L i (by rw [HN.out]; exact hlt); have := HL.out; omega))
      have HT := Lib.hid (take_flat L i (by rw [HN.out]; exact hlt))
      have i1 : (i : Int) < (n : Int) := by omega
      generalize L.getD i [] = b at *
      generalize hq : b.length = q at *
      clear hq h3 h4 hD hlt
      go_wp2_with fail
      refine HW.out.mono ?_
      rintro e w3 ⟨rfl, hg, hS⟩
      have DN := Lib.hid (D.out.more hg hS)
      rw [← HT.out] at DN
      clear hg hS HW
      go_wp2_with fail
      go_roundg (n - (i + 1))
      case measure => omega
      case rel => exact ⟨i + 1, by go_num, by omega, DN.out⟩
    · have hin : i = n := by omega
      subst hin
      have htk : L.take i = L := List.take_of_length_le (by rw [HN.out]; exact Nat.le_refl _)
      rw [htk] at D
      have HSM := Lib.hid (Sum_any g L.flatten wr D.out.st)
      have HIZ := Lib.hid (info24 (digestF L.flatten) (digestF_length _))
      have HZ8 := Lib.hid (show (cellsOf (dS [] 0)).size = (cellsOf (digestF L.flatten)).size by rw [cellsOf_size, cellsOf_size, digestF_length]; rfl)
      clear hD hlt htk
      have i1 : ¬ (i : Int) < (i : Int) := by omega
      clear i1
      go_wp2_with fail
      refine HSM.out.mono ?_
      rintro e w3 ⟨rfl, hb⟩
      have hrow2 := Lib.hid ((hb.block g2 (row_lt D.out.row)).trans D.out.row)
      have HBE := Lib.hid (D.out.bel.trans (hb.mono D.out.bel.size))
      clear hb HSM
      go_wp2_with (with_reducible refine wpList_store_row rfl 24 _ _ rfl g2 (cellsOf (digestF L.flatten)) rfl rfl 24 (cellsOf (dS [] 0)) hrow2.out HIZ.out HZ8.out (cellsOf_one _) ?_)
      refine bodyPost_ret (results_cell rfl _ _ g2 24 (cellsOf (digestF L.flatten)) (0, 0) _ rfl (setRow_heap _ _ _ _ _ _ hrow2.out) Try.underlying24 rfl HIZ.out) rfl ?_
      exact ⟨rfl, HBE.out.grown (grown_setRow _ _ _) HBE.out.size (fun k hk => by injection hk with hk; rw [← hk]; exact D.out.ge2)⟩
end Go.Proofs.Ytehmnkkfoopanaa
