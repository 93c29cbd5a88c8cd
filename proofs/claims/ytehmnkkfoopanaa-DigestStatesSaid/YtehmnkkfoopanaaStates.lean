/- DigestStates: the walk. -/
import Derived.Test.YtehmnkkfoopanaaParts
namespace Go.Proofs.Ytehmnkkfoopanaa
open Go.RowKit

theorem E22 : Elem Try.prog 22 5 1 1 := by
  obtain ⟨i0, hi, hz0, hz1, hz2⟩ := info_parts Try.info5
  exact ⟨Try.underlying22, ⟨i0, _, hi, hz0, hz1, hz2, rfl⟩, by decide⟩
theorem own_empty (w : World) : (w.alloc (.cells #[] 5)).ownsRow w.heap.size 5 1 (.slice (some ⟨w.heap.size, 0, none⟩) 0 0) 0 [] := World.ownsRow_lit w #[] 0 (Nat.le_refl _) (by unfold maxLen; omega) rfl
/-- Slices of bytes that came in. -/
def OldRows (w : World) (A : Option Addr) (L : List (List Int)) : Prop :=
  ∀ i, i < L.length → ∃ ad B c, A = some ad ∧ w.cell? (ad.add i) = some (.slice B (L.getD i []).length c) ∧ (L.getD i []).length ≤ c ∧ Ints .u8 w B (L.getD i []) ∧ Bytes (L.getD i []) ∧ (B = none → (L.getD i []).length = 0 ∧ c = 0)
/-- What holds between two parts. -/
structure SR (w0 w : World) (g i : Nat) (b : List Int) (A : Option Addr) (c : Nat) : Prop where
  own : Own w0 w g b
  row : w.ownsRow w0.heap.size 5 1 (.slice A b.length c) b.length (b.map (Value.int .u8))
  byt : Bytes b
  num : b.length ≤ i * 10000
  ne : (Value.slice A b.length c).ownBlock ≠ some g
section
variable {w0 w : World} {g i : Nat} {b : List Int} {A : Option Addr} {c : Nat}
theorem SR.ints (R : SR w0 w g i b A c) : Ints .u8 w A b := by
  obtain ⟨A', c', hv, _, hI, _⟩ := new_of_own R.row
  injection hv with h1
  rw [h1]; exact hI
theorem SR.lec' (R : SR w0 w g i b A c) : b.length ≤ c := by
  obtain ⟨A', c', hv, hc, _, _⟩ := new_of_own R.row
  injection hv with _ _ h3
  rw [h3]; exact hc
end

set_option maxRecDepth 20000 in
set_option maxHeartbeats 3200000 in
theorem States_law (LA : Option Addr) (n cap : Nat) (LL : List (List Int)) (w : World) (hn : LL.length = n) (hnm : n ≤ 9223372036854775807) (_hnc : n ≤ cap) (hI : OldRows w LA LL) :
    Calls Try.prog 6 #[.slice LA n cap] w fun e w' => e = .returned (.bool true) ∧ Below w.heap.size w w' := by
  have HN := Lib.hid hn
  have HIN := Lib.hid hI
  clear hn hI
  go_enter Try.func6, Try.ntmps6
  go_wp2_with fail
  refine (shown_any w).mono ?_
  rintro e w1 ⟨rfl, hb1⟩
  go_wp2_with fail
  refine (New_st w1).mono ?_
  rintro e w2 ⟨g, rfl, hg2, hge2, hS2⟩
  have HR0 := Lib.hid (show SR w w2 g 0 [] none 0 from ⟨⟨below_tr hb1 (below_refl_grown hg2), hS2, by have := hb1.size; omega⟩, World.ownsRow_nil _ _ _ _, (fun i => by simp), by simp, (fun e => by cases e)⟩)
  clear hb1 hg2 hge2 hS2
  go_wp2_with fail
  go_loopg [5, 15] n (fun kq v5 v15 w' => ∃ (i : Nat) (b : List Int) (A5 : Option Addr) (c5 : Nat), v5 = .slice A5 b.length c5 ∧ v15 = .int .i64 (i : Int) ∧ i + kq = n ∧ i ≤ 100 ∧ SR w w' g i b A5 c5)
  case atStart => exact ⟨0, [], none, 0, rfl, rfl, by omega, by omega, HR0.out⟩
  case round =>
    obtain ⟨i, b, A5, c5, rfl, rfl, hk, hi100, R⟩ := hrel
    have HP := Lib.hid R
    obtain ⟨n5, hn5⟩ : ∃ z, b.length = z := ⟨_, rfl⟩
    have HN5 := Lib.hid hn5
    have hnum := R.num
    rw [hn5] at hnum
    rw [HN5.out]
    clear R hn5
    by_cases hz : gk = 0
    · have hin2 : ¬ (i < n) := by omega
      go_upto_region 21 with (fail)
      have HSM := Lib.hid (Sum_any g b wr HP.out.own.st)
      obtain ⟨D, hD⟩ : ∃ z, z = digestF b := ⟨_, rfl⟩
      rw [← hD] at HSM
      have HD := Lib.hid hD
      have HEQ := Lib.hid (fun w => run_in24 w D (by rw [hD]; exact digestF_length _))
      clear hD
      go_wp2_with fail
      refine HSM.out.mono ?_
      rintro e y1 ⟨rfl, hy1⟩
      have HY1 := Lib.hid hy1
      have HRS := Lib.hid (RSum_any b A5 n5 c5 y1 HN5.out (by have := HP.out.lec'; rw [HN5.out] at this; exact this) HP.out.byt (HP.out.ints.below hy1) (by have := HP.out.num; rw [HN5.out] at this; omega))
      rw [← HD.out] at HRS
      clear hy1 HSM
      go_wp2_with fail
      refine HRS.out.mono ?_
      rintro e y2 ⟨rfl, hy2⟩
      have HY2 := Lib.hid (below_tr HP.out.own.bel (below_tr HY1.out hy2))
      clear hy2 HRS
      go_wp2_with (rw [HEQ.out]; simp only [Result.andThen_ok])
      go_ret
      exact ⟨rfl, HY2.out⟩
    · have hin : i < n := by omega
      obtain ⟨la, B, cB, eL, hcell0, hleB, hIB, hBB, hnB⟩ := HIN.out i (by rw [HN.out]; exact hin)
      subst eL
      obtain ⟨l, hl2⟩ : ∃ z, LL.getD i [] = z := ⟨_, rfl⟩
      rw [hl2] at hcell0 hleB hIB hBB hnB
      clear hl2
      obtain ⟨li, hli⟩ : ∃ z, l.length = z := ⟨_, rfl⟩
      have HLI := Lib.hid hli
      rw [hli] at hcell0 hleB hnB
      have HIB := Lib.hid hIB
      have HBB := Lib.hid hBB
      have HNB := Lib.hid hnB
      have hcell := (HP.out.own.bel.cell (cell_lt hcell0)).trans hcell0
      clear hli hIB hBB hnB hcell0
      by_cases h100 : i = 100
      · have h102 : 100 ≤ i := by omega
        go_upto_region 21 with (fail)
        have HSM := Lib.hid (Sum_any g b wr HP.out.own.st)
        obtain ⟨D, hD⟩ : ∃ z, z = digestF b := ⟨_, rfl⟩
        rw [← hD] at HSM
        have HD := Lib.hid hD
        have HEQ := Lib.hid (fun w => run_in24 w D (by rw [hD]; exact digestF_length _))
        clear hD
        go_wp2_with fail
        refine HSM.out.mono ?_
        rintro e y1 ⟨rfl, hy1⟩
        have HY1 := Lib.hid hy1
        have HRS := Lib.hid (RSum_any b A5 n5 c5 y1 HN5.out (by have := HP.out.lec'; rw [HN5.out] at this; exact this) HP.out.byt (HP.out.ints.below hy1) (by have := HP.out.num; rw [HN5.out] at this; omega))
        rw [← HD.out] at HRS
        clear hy1 HSM
        go_wp2_with fail
        refine HRS.out.mono ?_
        rintro e y2 ⟨rfl, hy2⟩
        have HY2 := Lib.hid (below_tr HP.out.own.bel (below_tr HY1.out hy2))
        clear hy2 HRS
        go_wp2_with (rw [HEQ.out]; simp only [Result.andThen_ok])
        go_ret
        exact ⟨rfl, HY2.out⟩
      · have hi2 : i < 100 := by omega
        by_cases hl1 : 10000 < li
        · have hl12 : 10000 < li := hl1
          go_upto_region 21 with (fail)
          have HSM := Lib.hid (Sum_any g b wr HP.out.own.st)
          obtain ⟨D, hD⟩ : ∃ z, z = digestF b := ⟨_, rfl⟩
          rw [← hD] at HSM
          have HD := Lib.hid hD
          have HEQ := Lib.hid (fun w => run_in24 w D (by rw [hD]; exact digestF_length _))
          clear hD
          go_wp2_with fail
          refine HSM.out.mono ?_
          rintro e y1 ⟨rfl, hy1⟩
          have HY1 := Lib.hid hy1
          have HRS := Lib.hid (RSum_any b A5 n5 c5 y1 HN5.out (by have := HP.out.lec'; rw [HN5.out] at this; exact this) HP.out.byt (HP.out.ints.below hy1) (by have := HP.out.num; rw [HN5.out] at this; omega))
          rw [← HD.out] at HRS
          clear hy1 HSM
          go_wp2_with fail
          refine HRS.out.mono ?_
          rintro e y2 ⟨rfl, hy2⟩
          have HY2 := Lib.hid (below_tr HP.out.own.bel (below_tr HY1.out hy2))
          clear hy2 HRS
          go_wp2_with (rw [HEQ.out]; simp only [Result.andThen_ok])
          go_ret
          exact ⟨rfl, HY2.out⟩
        · have hl2 : li ≤ 10000 := by omega
          obtain ⟨w0, rfl⟩ : ∃ z, z = wr := ⟨_, rfl⟩
          have hc1 := (below_alloc w0 (.cells #[] 5)).cell (cell_lt hcell) |>.trans hcell
          have HI1 := Lib.hid (HIB.out.below (below_tr HP.out.own.bel (below_alloc w0 (.cells #[] 5))))
          go_wp2_with (at_builtin; refine wpList_app E22 rfl _ _ rfl w0.heap.size _ 0 [] rfl (own_empty w0) B li cB (l.map (Value.int .u8)) rfl HNB.out ?c1 HI1.out.news (ints_one _ _) ?c2 ?c3 ?c4 ?_)
          case c1 => rw [List.length_map, HLI.out, Nat.mul_one]
          case c2 => unfold maxLen; omega
          case c3 => omega
          case c4 => simp
          intro v1 wA hown hgrow hat
          rw [← HLI.out] at hown
          obtain ⟨A1, c1, hv, hcc, hIA, hA1⟩ := new_of_own hown
          subst hv
          have hbA : Below w0.heap.size w0 wA := (below_alloc w0 (.cells #[] 5)).grown hgrow (by simp) (fun k hk => by simp [Value.ownBlock] at hk; omega)
          obtain ⟨g7, cur7, hA7, hr7, hc7⟩ : ∃ g7 cur, A1 = some ⟨g7, 0, none⟩ ∧ wA.heap[g7]? = some (.cells cur 5 (0, 0)) ∧ cur.toList.take l.length = l.map (Value.int .u8) := by
            obtain ⟨_, h2⟩ := hown
            rcases h2 with ⟨h3, _⟩ | ⟨g7, cap7, cur, h3, h4, h5, h6, h7, h8, h9⟩
            · injection h3 with h3
              subst h3
              rcases hat with e | e <;> simp [Value.ownBlock] at e
            · injection h3 with h3
              exact ⟨g7, cur, h3, h5, by rwa [Nat.mul_one] at h9⟩
          subst hA7
          have hg7 := hA1 _ rfl
          have hgl := HP.out.own.st.lt
          have HW := Lib.hid (Write_any g li c1 b l (some ⟨g7, 0, none⟩) wA (HP.out.own.st.of_block (hbA.block g hgl)) HLI.out (by rw [← HLI.out]; exact hcc) HBB.out hIA (fun ad e _ => by injection e with e; subst e; have h9 : w0.heap.size ≤ g7 := hg7.1; show g7 ≠ g; omega) (by rw [HN5.out]; omega))
          have HBA := Lib.hid hbA
          have HIA := Lib.hid hIA
          have HR7 := Lib.hid hr7
          have HC7 := Lib.hid hc7
          have HG7 := Lib.hid (show w0.heap.size ≤ g7 ∧ g7 < wA.heap.size from hg7)
          rw [HLI.out] at hcc
          rw [HLI.out]
          clear hown hgrow hat hIA hA1 hbA hr7 hc7 hg7 hgl hc1
          go_wp2_with fail
          (with_reducible refine HW.out.mono ?_)
          rintro e wB ⟨rfl, hgB, hSB⟩
          have HGB := Lib.hid hgB
          have HSB := Lib.hid hSB
          have HBB2 := Lib.hid (show w.heap.size ≤ wB.heap.size by have := HP.out.own.bel.size; have := HBA.out.size; have := hgB.size; omega)
          have hrB := (HP.out.row.kept (below_grown HBA.out none) (by by_cases h : (Value.slice A5 b.length c5).ownBlock = none; exact Or.inl h; exact Or.inr (fun e => h e))).kept hgB (Or.inr HP.out.ne)
          rw [HN5.out] at hrB
          have HRB := Lib.hid hrB
          have hiB : Ints .u8 wB (some ⟨g7, 0, none⟩) l := HIA.out.grown hgB (fun ad e _ h => by injection e with e; subst e; injection h with h; have := HG7.out; have := HP.out.own.st.lt; have h : g7 = g := h; omega)
          have HIB2 := Lib.hid hiB
          clear hgB hSB hrB hiB HW
          go_wp2_with (at_builtin; refine wpList_app E22 rfl _ _ rfl w.heap.size (.slice A5 n5 c5) n5 (b.map (Value.int .u8)) rfl HRB.out (some ⟨g7, 0, none⟩) li c1 (l.map (Value.int .u8)) rfl (fun e => by cases e) ?d1 HIB2.out.news (ints_one _ _) ?d2 ?d3 ?d4 ?_)
          case d1 => rw [List.length_map, HLI.out, Nat.mul_one]
          case d2 => unfold maxLen; omega
          case d3 => omega
          case d4 => exact HBB2.out
          intro v5 wC hownC hgC hatC
          have hlen : n5 + li = (b ++ l).length := by rw [List.length_append, HN5.out, HLI.out]
          rw [← List.map_append, hlen] at hownC
          obtain ⟨A6, c6, hv6, hcc6, hI6, hA6⟩ := new_of_own hownC
          subst hv6
          have hsA := HBA.out.size
          have hsB := HGB.out.size
          have hlt5 := HRB.out.lt
          have hlt0 := HP.out.row.lt
          rw [HN5.out] at hlt0
          have hgl := HP.out.own.st.lt
          have h7 := HG7.out
          have hne5 : (Value.slice A5 n5 c5).ownBlock ≠ some g := by have := HP.out.ne; rwa [HN5.out] at this
          have hne6 : ∀ k, (Value.slice A6 (b ++ l).length c6).ownBlock = some k → k ≠ g7 ∧ k ≠ g ∧ w.heap.size ≤ k := by
            intro k hk
            have hb := HP.out.own.bel.size
            rcases hatC with e | e
            · rw [hk] at e
              have := hlt0 k e.symm
              exact ⟨by omega, (fun h => hne5 (by rw [← e, h])), this.1⟩
            · rw [hk] at e
              injection e with e
              omega
          have hgg : g ≠ g7 := by omega
          have hStC : St wC g (b ++ l) := HSB.out.of_block (hgC.block g (by omega) (fun h => hne5 h.symm))
          have hr7C : wC.heap[g7]? = some (.cells cur7 5 (0, 0)) := (hgC.block g7 (by omega) (fun h => by have := hlt0 g7 h.symm; omega)).trans ((HGB.out.block g7 (by omega) (fun h => hgg (by injection h with h; exact h.symm))).trans HR7.out)
          have hBC : Below w.heap.size w wC := ((below_tr HP.out.own.bel HBA.out).grown HGB.out (Nat.le_trans HP.out.own.bel.size HBA.out.size) (fun k hk => by injection hk with hk; rw [← hk]; exact HP.out.own.ge)).grown hgC HBB2.out (fun k hk => (hlt0 k hk).1)
          have HX0 := Lib.hid (show ∃ cs, wC.heap[g7]? = some (.cells cs 5 (0, 0)) ∧ (∀ j, j < li → ∃ x, cs[j]? = some (.int .u8 x)) ∧ wC.grownBy wC (some g7) from ⟨cur7, hr7C, fun j hj => by
            have h := congrArg (fun z => z[j]?) HC7.out
            simp only [List.getElem?_map] at h
            rw [List.getElem?_take, if_pos (by rw [HLI.out]; exact hj), List.getElem?_eq_getElem (l := l) (by rw [HLI.out]; exact hj)] at h
            exact ⟨_, by rw [← Array.getElem?_toList]; exact h⟩, World.grownBy.refl _ _⟩)
          have HSC := Lib.hid hStC
          have HOC := Lib.hid hownC
          have HBC := Lib.hid hBC
          have HNE6 := Lib.hid hne6
          have HGG := Lib.hid hgg
          have HGE7 := Lib.hid (show w.heap.size ≤ g7 by have := HP.out.own.bel.size; omega)
          obtain ⟨n6, hn6⟩ : ∃ z, (b ++ l).length = z := ⟨_, rfl⟩
          have HN6 := Lib.hid hn6
          have hn6b : n6 ≤ 1010000 := by omega
          have HNUM := Lib.hid (show (b ++ l).length ≤ (i + 1) * 10000 by omega)
          rw [HN6.out]
          clear hownC hgC hatC hlen hcc6 hI6 hA6 hlt5 hlt0 h7 hgl hne5 hne6 hgg hStC hr7C hBC hsA hsB hn6
          go_wp2_with fail
          go_loopg [42] li (fun kq v42 w' => ∃ k : Nat, v42 = .int .i64 (k : Int) ∧ k + kq = li ∧ ∃ cs, w'.heap[g7]? = some (.cells cs 5 (0, 0)) ∧ (∀ j, j < li → ∃ x, cs[j]? = some (.int .u8 x)) ∧ wC.grownBy w' (some g7))
          case atStart => exact ⟨0, rfl, by omega, HX0.out⟩
          case round =>
            obtain ⟨k, rfl, hkk, cs, hrow, hcs, hgX⟩ := hrel
            by_cases hkl : k < li
            · obtain ⟨x, hx⟩ := hcs k hkl
              have d1 : wr.cell? ⟨g7, k, none⟩ = some (.int .u8 x) := by rw [cell_of_row _ _ _ _ _ _ hrow]; exact hx
              have d2 := free_row hrow k
              have HN7 := Lib.hid (fun y => (show ∃ cs', (wr.setCell ⟨g7, k, none⟩ (.int .u8 y)).heap[g7]? = some (.cells cs' 5 (0, 0)) ∧ (∀ j, j < li → ∃ x, cs'[j]? = some (.int .u8 x)) ∧ wC.grownBy (wr.setCell ⟨g7, k, none⟩ (.int .u8 y)) (some g7) from
                ⟨_, setCell_row hrow k (.int .u8 y), fun j hj => by
                  by_cases e : k = j
                  · subst e
                    have hsz : k < cs.size := by
                      rcases Nat.lt_or_ge k cs.size with h | h
                      · exact h
                      · rw [Array.getElem?_eq_none h] at hx; cases hx
                    exact ⟨y, by rw [Array.getElem?_setIfInBounds]; simp [hsz]⟩
                  · obtain ⟨z, hz⟩ := hcs j hj
                    exact ⟨z, by rw [Array.getElem?_setIfInBounds]; simp [e, hz]⟩, grown_trans hgX (grown_setCell _ _ _ _)⟩))
              have k1 : (k : Int) < (li : Int) := by omega
              clear hrow hcs hgX hx hkl
              go_wp2_with fail
              go_roundg (li - (k + 1))
              case measure => omega
              case rel => exact ⟨k + 1, by go_num, by omega, HN7.out _⟩
            · obtain rfl : k = li := by omega
              have hs1 : St wr g (b ++ l) := HSC.out.of_block (hgX.block g HSC.out.lt (fun h => HGG.out (by injection h)))
              have ho : wr.ownsRow w.heap.size 5 1 (.slice A6 (b ++ l).length c6) (b ++ l).length ((b ++ l).map (Value.int .u8)) := HOC.out.kept hgX (Or.inr (fun h => (HNE6.out g7 h).1 rfl))
              have hbX : Below w.heap.size w wr := HBC.out.grown hgX HBC.out.size (fun k hk => by injection hk with hk; rw [← hk]; exact HGE7.out)
              have hR := (show SR w wr g (i + 1) (b ++ l) A6 c6 from ⟨⟨hbX, hs1, HP.out.own.ge⟩, ho, HP.out.byt.append HBB.out, HNUM.out, fun h => (HNE6.out g h).2.1 rfl⟩)
              have HRR := Lib.hid hR
              have HLEN := Lib.hid (Len_st hs1)
              rw [HN6.out] at HLEN
              have HS1 := Lib.hid hs1
              obtain ⟨D, hD⟩ : ∃ z, z = digestF (b ++ l) := ⟨_, rfl⟩
              have HD := Lib.hid hD
              have HNQ := Lib.hid (fun w => run_in24 w D (by rw [hD]; exact digestF_length _))
              clear hs1 ho hbX hR hD hrow hcs hgX hkl
              go_wp2_with fail
              refine HLEN.out.mono ?_
              rintro e y0 ⟨rfl, rfl⟩
              go_wp2_with fail
              refine (Sum_in HS1.out (Below.refl _ _) HD.out).mono ?_
              rintro e y1 ⟨rfl, hy1⟩
              have HY1 := Lib.hid hy1
              clear hy1
              go_wp2_with fail
              refine (Sum_in HS1.out HY1.out HD.out).mono ?_
              rintro e y2 ⟨rfl, hy2⟩
              have HY2 := Lib.hid (below_tr HY1.out hy2)
              clear hy2
              go_wp2_with (rw [HNQ.out]; simp only [Result.andThen_ok])
              have HNX := Lib.hid (show SR w y2 g (i + 1) (b ++ l) A6 c6 from ⟨HRR.out.own.quiet HY2.out, HRR.out.row.kept (below_grown HY2.out none) (by by_cases h : (Value.slice A6 (b ++ l).length c6).ownBlock = none; exact Or.inl h; exact Or.inr (fun e => h e)), HRR.out.byt, HRR.out.num, HRR.out.ne⟩)
              go_roundg (n - (i + 1))
              case measure => omega
              case rel => exact ⟨i + 1, b ++ l, A6, c6, by rw [HN6.out], by go_num, by omega, by omega, HNX.out⟩
end Go.Proofs.Ytehmnkkfoopanaa
