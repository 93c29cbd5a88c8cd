/- chunk: Write. -/
import Derived.Test.YtealompbbknijaaRows2
namespace Go.Proofs.Ytealompbbknijaa
open Go.RowKit

/-- A stream at block g that holds the bytes h, which lie in a block that meets X. -/
def Str (w : World) (g : Nat) (c : Ct) (h : List Int) (X : Nat → Prop) : Prop :=
  ∃ (s : Int) (seen kp : Nat) (A : Option Addr) (cap : Nat), w.heap[g]? = some (.cells (scanC c s seen kp [.slice A h.length cap]) 48 (0, 0)) ∧ ScanOk c h s seen kp ∧ Ints .u8 w A h ∧ Bytes h ∧ h.length ≤ cap ∧ (∀ ad, A = some ad → X ad.block) ∧ (A = none → h.length = 0 ∧ cap = 0)
theorem row_lt {w : World} {g : Nat} {o : Obj} (h : w.heap[g]? = some o) : g < w.heap.size := by
  rcases Nat.lt_or_ge g w.heap.size with h1 | h1
  · exact h1
  · rw [Array.getElem?_eq_none h1] at h; cases h
theorem Str.kept {w w' : World} {g : Nat} {c : Ct} {h : List Int} {X : Nat → Prop} {r : Option Nat} (S : Str w g c h X) (hg : w.grownBy w' r) (h1 : some g ≠ r) (h2 : ∀ k, X k → some k ≠ r) : Str w' g c h X := by
  obtain ⟨s, seen, kp, A, cap, a1, a2, a3, a4, a5, a6, a7⟩ := S
  exact ⟨s, seen, kp, A, cap, (hg.block g (row_lt a1) h1).trans a1, a2, a3.grown hg (fun ad e _ => h2 _ (a6 ad e)), a4, a5, a6, a7⟩
theorem Str.glt {w : World} {g : Nat} {c : Ct} {h : List Int} {X : Nat → Prop} (S : Str w g c h X) : g < w.heap.size := by
  obtain ⟨s, seen, kp, A, cap, a1, _⟩ := S; exact row_lt a1

theorem scanC_7 (c : Ct) (s : Int) (seen kp : Nat) (u v : Value) : (scanC c s seen kp [u]).setIfInBounds 7 v = scanC c s seen kp [v] := by
  unfold scanC; rw [List.setIfInBounds_toArray]; rfl
theorem own_whole {w : World} {g base : Nat} {l : List Int} (h : w.heap[g]? = some (.cells (cellsOf l) 5 (0, 0))) (hb : base ≤ g) (hl : l.length ≤ 1000000000000) : w.ownsRow base 5 1 (.slice (some ⟨g, 0, none⟩) l.length l.length) l.length (l.map (Value.int .u8)) :=
  ⟨by simp, .inr ⟨g, l.length, cellsOf l, rfl, hb, h, Nat.le_refl _, by unfold maxLen; omega, by simp [cellsOf_size], by simp [cellsOf, List.take_of_length_le]⟩⟩

theorem own_kept {w w' : World} {base : Nat} {e : TypeId} {size : Nat} {v : Value} {n : Nat} {xs : List Value} (h : w.ownsRow base e size v n xs) (hg : w.grownBy w' none) : w'.ownsRow base e size v n xs :=
  h.kept hg (by cases v.ownBlock <;> simp)
/-- What holds at each round of Write. -/
structure WRel (w : World) (g : Nat) (c : Ct) (l0 : List Int) (Y : Nat) (old : Value) (L : List (List Int)) (l : List Int) (A : Option Addr) (cap : Nat) (v6 : Value) (w' : World) : Prop where
  ends : endsR c l0 = (L ++ (endsR c l).1, (endsR c l).2)
  ints : Ints .u8 w' A l
  byt : Bytes l
  lec : l.length ≤ cap
  blk : InBlock A Y
  nil : A = none → l.length = 0 ∧ cap = 0
  obj : ∃ s seen kp, w'.heap[g]? = some (.cells (scanC c s seen kp [old]) 48 (0, 0)) ∧ ScanOk c l s seen kp
  rows : NewRows (fun k => w.heap.size ≤ k ∧ k < w'.heap.size ∧ k ≠ Y ∧ v6.ownBlock ≠ some k) w.heap.size L w' v6
  ne : v6.ownBlock ≠ some Y
  gr : w.grownBy w' (some g)
  ylt : Y < w'.heap.size
  ylo : w.heap.size ≤ Y
  glt : g < w.heap.size
  num : L.length + l.length ≤ 2000000000

/-- The scan at block g is as at the beginning. -/
def reset (c : Ct) (g : Nat) (w : World) : World :=
  ((((((w.setCell ⟨g, 0, none⟩ (.int .i64 c.mn)).setCell ⟨g, 1, none⟩ (.int .i64 c.mx)).setCell ⟨g, 2, none⟩ (.int .u32 c.main)).setCell ⟨g, 3, none⟩ (.int .u32 c.back)).setCell ⟨g, 4, none⟩ (.int .u32 0)).setCell ⟨g, 5, none⟩ (.int .i64 0)).setCell ⟨g, 6, none⟩ (.int .i64 0)
theorem reset_row {w : World} {g T : Nat} {c : Ct} {s : Int} {seen kp : Nat} {rest : List Value} (h : w.heap[g]? = some (.cells (scanC c s seen kp rest) T (0, 0))) : (reset c g w).heap[g]? = some (.cells (scanC c 0 0 0 rest) T (0, 0)) := by
  unfold reset
  rw [setCell_row (setCell_row (setCell_row (setCell_row (setCell_row (setCell_row (setCell_row h _ _) _ _) _ _) _ _) _ _) _ _)]
  unfold scanC
  simp only [List.setIfInBounds_toArray]
  rfl
theorem reset_grown (c : Ct) (g : Nat) (w : World) : w.grownBy (reset c g w) (some g) :=
  grown_trans (grown_trans (grown_trans (grown_trans (grown_trans (grown_trans (grown_setCell _ _ _ _) (grown_setCell _ _ _ _)) (grown_setCell _ _ _ _)) (grown_setCell _ _ _ _)) (grown_setCell _ _ _ _)) (grown_setCell _ _ _ _)) (grown_setCell _ _ _ _)

theorem WRel.step {w : World} {g : Nat} {c : Ct} {l0 : List Int} {Y : Nat} {old : Value} {L : List (List Int)} {l : List Int} {ad : Addr} {cap : Nat} {u6 : Value} {wr : World} (ok : c.Ok) (R : WRel w g c l0 Y old L l (some ad) cap u6 wr) (k : Nat) (hk : cutR c l = k) (hk0 : k ≠ 0)
    {w4 w5 w7 : World} {v7 : Value} {vals : List Value} {s4 : Int} {seen4 kp4 : Nat} (hg4 : wr.grownBy w4 (some g)) (hr5 : w5.heap[w4.heap.size]? = some (.cells (cellsOf (l.take k)) 5 (0, 0))) (hb5 : Below w4.heap.size w4 w5)
    (hv : RowsV (fun k => w.heap.size ≤ k ∧ k < wr.heap.size ∧ k ≠ Y ∧ u6.ownBlock ≠ some k) wr vals L) (hlt : ∀ k, u6.ownBlock = some k → w.heap.size ≤ k ∧ k < wr.heap.size)
    (hown7 : w7.ownsRow w.heap.size 25 1 v7 (L.length + 1) (vals ++ [.slice (some ⟨w4.heap.size, 0, none⟩) k k])) (hgrow7 : (w5.alloc (.cells #[.slice (some ⟨w4.heap.size, 0, none⟩) k k] 25)).grownBy w7 u6.ownBlock) (hat7 : v7.ownBlock = u6.ownBlock ∨ v7.ownBlock = some (w5.heap.size + 1))
    (hr7 : w7.heap[g]? = some (.cells (scanC c s4 seen4 kp4 [old]) 48 (0, 0))) (A' : Option Addr) (cap' : Nat) (hA' : cap = k ∧ A' = some ad ∧ cap' = 0 ∨ cap ≠ k ∧ A' = some (ad.add k) ∧ cap' = cap - k) :
    WRel w g c l0 Y old (L ++ [l.take k]) (l.drop k) A' cap' v7 (reset c g w7) := by
  have hbd := cutR_bounds c ok l (by rw [hk]; exact hk0)
  rw [hk] at hbd
  have hlo := ok.lo
  have hcap := R.lec
  have hylo := R.ylo
  have hglt := R.glt
  have hyb := R.blk ad rfl
  have hs4 := hg4.size
  have hs5 := row_lt hr5
  have hsw := R.gr.size
  have hs7 := hgrow7.size
  rw [World.size_alloc] at hs7
  have hylt := R.ylt
  have hog : some g ≠ u6.ownBlock := fun e => by have := hlt g e.symm; omega
  have hlk : (l.take k).length = k := by rw [List.length_take]; omega
  have hG5 : w4.grownBy w5 none := below_grown hb5 none
  have hG6 : w5.grownBy (w5.alloc (.cells #[.slice (some ⟨w4.heap.size, 0, none⟩) k k] 25)) none := grown_alloc _ _ _
  have hGR := reset_grown c g w7
  have hgs : (reset c g w7).heap.size = w7.heap.size := by simp [reset, World.setCell]
  have hrs := reset_row hr7
  obtain ⟨W, hW⟩ : ∃ W, W = reset c g w7 := ⟨_, rfl⟩
  rw [← hW] at hGR hgs hrs ⊢
  clear hW
  -- what lies in an old block other than g and the row of slices, is as it was
  have keep : ∀ {A : Option Addr} {m : List Int}, Ints .u8 wr A m → (∀ ad, A = some ad → ad.block ≠ g ∧ u6.ownBlock ≠ some ad.block ∧ ad.block < wr.heap.size) → Ints .u8 W A m := by
    intro A m hI hA
    have h1 := hI.grown hg4 (fun ad e _ => by have := (hA ad e).1; simpa using this)
    have h2 := (h1.grown hG5 (fun _ _ _ h => by cases h)).grown hG6 (fun _ _ _ h => by cases h)
    have h3 := h2.grown hgrow7 (fun ad e _ => by have := (hA ad e).2.1; exact fun h => this h.symm)
    exact h3.grown hGR (fun ad e _ => by have := (hA ad e).1; simpa using this)
  have hv7 : ∀ j, v7.ownBlock = some j → u6.ownBlock = some j ∨ j = w5.heap.size + 1 := by
    intro j hj
    rcases hat7 with e | e
    · left; rw [← e]; exact hj
    · right; rw [e] at hj; injection hj with hj; omega
  have hrow4 : W.heap[w4.heap.size]? = some (.cells (cellsOf (l.take k)) 5 (0, 0)) := by
    rw [hGR.block w4.heap.size (by omega) (by simp; omega), hgrow7.block w4.heap.size (by simp; omega) (fun e => by have := hlt _ e.symm; omega), Below.heap_alloc _ _ _ (by omega)]
    exact hr5
  refine ⟨?_, ?_, R.byt.drop k, ?_, ?_, ?_, ⟨0, 0, 0, hrs, ScanOk.zero c ok _⟩, ?_, ?_, ?_, by omega, hylo, hglt, ?_⟩
  · rw [R.ends, endsR_cut c ok l (by rw [hk]; exact hk0), hk]
    simp
  · rcases hA' with ⟨h1, rfl, _⟩ | ⟨h1, rfl, _⟩
    · rw [List.drop_of_length_le (by omega)]; exact Ints.nil _ _ _
    · refine Ints.drop ?_ k
      exact keep R.ints (fun ad' e => by cases e; refine ⟨by omega, ?_, by omega⟩; rw [hyb]; exact R.ne)
  · rw [List.length_drop]
    rcases hA' with ⟨h1, _, rfl⟩ | ⟨h1, _, rfl⟩ <;> omega
  · intro a e
    rcases hA' with ⟨h1, rfl, _⟩ | ⟨h1, rfl, _⟩
    · cases e; exact hyb
    · cases e; rw [add_block]; exact hyb
  · intro e
    rcases hA' with ⟨h1, rfl, _⟩ | ⟨h1, rfl, _⟩ <;> cases e
  · refine ⟨vals ++ [.slice (some ⟨w4.heap.size, 0, none⟩) k k], ?_, ?_⟩
    · rw [List.length_append]
      exact hown7.kept hGR (Or.inr (fun e => by rcases hv7 g e with h | h; exact hog h.symm; omega))
    · refine RowsV.append ?_ ?_
      · refine ⟨hv.1, fun i m hm => ?_⟩
        obtain ⟨A, cc, a1, a2, a3, a4, a5⟩ := hv.2 i m hm
        refine ⟨A, cc, a1, a2, keep a3 (fun ad e => ?_), a4, fun ad e => ?_⟩
        · have := a5 ad e; exact ⟨by omega, this.2.2.2, this.2.1⟩
        · have := a5 ad e
          refine ⟨this.1, by omega, this.2.2.1, fun h => ?_⟩
          rcases hv7 _ h with h | h
          · exact this.2.2.2 h
          · omega
      · have := RowsV.one (fun j => w.heap.size ≤ j ∧ j < W.heap.size ∧ j ≠ Y ∧ v7.ownBlock ≠ some j) W (some ⟨w4.heap.size, 0, none⟩) k (l.take k) (by omega) (ints_block hrow4) (R.byt.take k) (fun ad e => by
          cases e
          refine ⟨by show w.heap.size ≤ w4.heap.size; omega, by show w4.heap.size < _; omega, by show w4.heap.size ≠ Y; omega, fun h => ?_⟩
          rcases hv7 _ h with h | h
          · have := hlt _ h; simp at this; omega
          · simp at h; omega)
        rw [hlk] at this
        exact this
  · intro e
    rcases hv7 Y e with h | h
    · exact R.ne h
    · omega
  · have a := grown_trans (grown_trans R.gr hg4) (grown_none (grown_trans hG5 hG6) _)
    exact grown_trans ⟨hgrow7.os.trans a.os, hgrow7.tape.trans a.tape, hgrow7.output.trans a.output, Nat.le_trans a.size hgrow7.size, fun i hi hne => (hgrow7.block i (Nat.lt_of_lt_of_le hi a.size) (fun e => by have := hlt i e.symm; omega)).trans (a.block i hi hne)⟩ hGR
  · rw [List.length_append, List.length_drop]
    have := R.num
    simp; omega

/-- What Write does. -/
def Written (w : World) (g : Nat) (c : Ct) (l0 : List Int) (e : Ending) (w' : World) : Prop :=
  ∃ v Y, e = .returned v ∧ w.grownBy w' (some g) ∧ w.heap.size ≤ Y ∧ Y < w'.heap.size ∧ v.ownBlock ≠ some Y ∧ NewRows (fun k => w.heap.size ≤ k ∧ k < w'.heap.size ∧ k ≠ Y ∧ v.ownBlock ≠ some k) w.heap.size (endsR c l0).1 w' v ∧ Str w' g c (endsR c l0).2 (fun k => k = Y)

set_option maxRecDepth 20000 in
set_option maxHeartbeats 1600000 in
theorem Write_any (c : Ct) (ok : c.Ok) (g : Nat) (h b : List Int) (X : Nat → Prop) (A : Option Addr) (n cap : Nat) (w : World) (S : Str w g c h X) (hn : b.length = n) (hnc : n ≤ cap) (hI : Ints .u8 w A b) (hB : Bytes b) (hA : A = none → n = 0 ∧ cap = 0) (hl : h.length + n ≤ 1000000000) :
    Calls Try.prog 17 #[.pointer (some ⟨g, 0, none⟩), .slice A n cap] w (Written w g c (h ++ b)) := by
  obtain ⟨s, seen, kp, HA, hcap, a1, a2, a3, a4, a5, a6, a7⟩ := S
  have d7 : w.cell? ⟨g, 7, none⟩ = some (.slice HA h.length hcap) := by rw [cell_of_row _ _ _ _ _ _ a1]; rfl
  have hglt := row_lt a1
  have HROW := Lib.hid a1
  have HSC := Lib.hid a2
  have HHI := Lib.hid a3
  have HHB := Lib.hid a4
  have HI := Lib.hid hI
  have HB := Lib.hid hB
  have HN := Lib.hid hn
  have HAN := Lib.hid hA
  have HOK := Lib.hid ok
  obtain ⟨q, hq⟩ : ∃ q, h.length = q := ⟨_, rfl⟩
  have HQ := Lib.hid hq
  rw [hq] at d7 a5 hl
  have HPT := Lib.hid (part_any HA q hcap h w hq (by omega) a3)
  clear a1 a2 a3 a4 a6 a7 hI hB hn hA ok hq
  obtain ⟨l0, hl0e⟩ : ∃ l0, l0 = h ++ b := ⟨_, rfl⟩
  rw [← hl0e]
  have HLE := Lib.hid hl0e
  clear hl0e
  go_enter Try.func17, Try.ntmps17
  go_wp2_with fail
  refine HPT.out.mono ?_
  rintro e w2 ⟨rfl, hr2, hb2⟩
  have HO2 := Lib.hid (show w2.ownsRow w.heap.size 5 1 (.slice (some ⟨w.heap.size, 0, none⟩) q q) q (h.map (Value.int .u8)) from by
    have := own_whole hr2 (Nat.le_refl _) (by rw [HQ.out]; omega)
    rwa [HQ.out] at this)
  have HI2 := Lib.hid (HI.out.below hb2)
  have HB2 := Lib.hid hb2
  have hs2 := row_lt hr2
  clear hr2 hb2
  go_wp2_with (at_builtin; refine wpList_app E25 rfl _ _ rfl w.heap.size (.slice (some ⟨w.heap.size, 0, none⟩) q q) q (h.map (Value.int .u8)) rfl HO2.out A n cap (b.map (Value.int .u8)) rfl HAN.out ?c1 HI2.out.news (ints_one _ _) ?c2 ?c3 ?c4 ?_)
  case c1 => rw [List.length_map, HN.out, Nat.mul_one]
  case c2 => unfold maxLen; omega
  case c3 => omega
  case c4 => omega
  intro v1 w3 hown hgrow hat
  have hl0 : l0.length = q + n := by rw [HLE.out, List.length_append, HQ.out, HN.out]
  rw [← List.map_append, ← HLE.out, ← hl0] at hown
  obtain ⟨A1, c1, hv, hcc, hI1, hA1⟩ := new_of_own hown
  have hb3 : Below w.heap.size w w3 := HB2.out.grown hgrow (by omega) (fun k hk => by simp [Value.ownBlock] at hk; omega)
  have hsz3 := hgrow.size
  subst hv
  have HOB := Lib.hid (show Bytes l0 from by rw [HLE.out]; exact HHB.out.append HB.out)
  have hSC := HSC.out.app b
  rw [← HLE.out] at hSC
  obtain ⟨Y, hY1, hY2, hY3⟩ : ∃ Y, w.heap.size ≤ Y ∧ Y < w3.heap.size ∧ InBlock A1 Y := by
    cases A1 with
    | none => exact ⟨w.heap.size, Nat.le_refl _, by omega, fun ad e => by cases e⟩
    | some a => exact ⟨a.block, (hA1 a rfl).1, (hA1 a rfl).2, fun ad e => by cases e; rfl⟩
  have hnil : A1 = none → l0.length = 0 ∧ c1 = 0 := by
    intro e; subst e
    rcases hat with e | e <;> simp [Value.ownBlock] at e
  have HREL := Lib.hid (show WRel w g c l0 Y (.slice HA q hcap) [] l0 A1 c1 (.slice none 0 0) w3 from
    ⟨by simp, hI1, HOB.out, hcc, hY3, hnil, ⟨s, seen, kp, by
      have := (hb3.block g hglt).trans HROW.out
      rwa [HQ.out] at this, hSC⟩, ⟨[], World.ownsRow_nil _ _ _ _, RowsV.nil _ _⟩, by simp [Value.ownBlock], below_grown hb3 _, hY2, hY1, hglt, by rw [hl0]; simp; omega⟩)
  have HL0 := Lib.hid hl0
  clear hown hgrow hat hI1 hA1 hb3 hsz3 hs2 hY3 hnil hSC HO2 HI2 HB2 HPT HSC HHI HHB HOB HI HB HAN hcc hl0
  go_wp2_with fail
  go_loopg [5, 6] l0.length (fun kq v5 v6 w' => ∃ (L : List (List Int)) (l : List Int) (A : Option Addr) (cap : Nat), v5 = .slice A l.length cap ∧ kq = l.length ∧ WRel w g c l0 Y (.slice HA q hcap) L l A cap v6 w')
  case atStart => exact ⟨[], l0, A1, c1, rfl, rfl, HREL.out⟩
  case round =>
    obtain ⟨L, l, A2, cap2, rfl, hk, R⟩ := hrel
    obtain ⟨s2, seen2, kp2, hobj, hsc⟩ := R.obj
    have HR := Lib.hid R
    obtain ⟨n2, hn2⟩ : ∃ z, l.length = z := ⟨_, rfl⟩
    have HN2 := Lib.hid hn2
    have hnum := R.num
    have hcp := R.lec
    rw [hn2] at hk hnum hcp
    have HLK := Lib.hid (look_any c HOK.out l n2 A2 cap2 g 48 s2 seen2 kp2 [.slice HA q hcap] wr hn2 (by omega) hcp R.ints R.byt (fun ad e _ => by have := R.blk ad e; have := R.ylo; have := R.glt; omega) hsc hobj)
    have d0 := (scan_cells hobj).1
    clear R hobj hsc hn2
    rw [HN2.out]
    subst hk
    go_wp2_with fail
    refine HLK.out.mono ?_
    rintro e w4 ⟨rfl, hg4, s4, seen4, kp4, hr4, hsc4⟩
    by_cases hc0 : cutR c l = 0
    · have f7 := free_row hr4 7
      have e7 : w4.cell? ⟨g, 7, none⟩ = some (.slice HA q hcap) := by rw [cell_of_row _ _ _ _ _ _ hr4]; rfl
      have hr5 := setCell_row hr4 7 (.slice A2 gk cap2)
      rw [scanC_7] at hr5
      have HR5 := Lib.hid hr5
      have HSC5 := Lib.hid (hsc4 hc0)
      have HG5 := Lib.hid (grown_trans hg4 (grown_setCell w4 g 7 (.slice A2 gk cap2)))
      have HZ := Lib.hid (endsR_zero c l hc0)
      rw [hc0]
      clear hr4 hr5 hsc4 hg4 hc0
      go_wp2_with fail
      go_ret
      have R := HR.out
      have hends := R.ends
      rw [HZ.out, List.append_nil] at hends
      have hglt2 := R.glt
      refine ⟨_, Y, rfl, grown_trans R.gr HG5.out, hY1, Nat.lt_of_lt_of_le R.ylt HG5.out.size, R.ne, ?_, ?_⟩
      · rw [hends]
        obtain ⟨vals, ho, hv⟩ := R.rows
        refine ⟨vals, ho.kept HG5.out (Or.inr (fun e => ?_)), (hv.kept HG5.out (fun k hk e => ?_)).imp (fun k hk => ⟨hk.1, Nat.lt_of_lt_of_le hk.2.1 HG5.out.size, hk.2.2⟩)⟩
        · have := ho.lt g e; omega
        · injection e with e; omega
      · rw [hends]
        exact ⟨s4, seen4, kp4, A2, cap2, by rw [HN2.out]; exact HR5.out, HSC5.out, R.ints.grown HG5.out (fun ad e _ => by have h1 := R.blk ad e; have h2 := R.ylo; have h3 := R.glt; simp; omega), R.byt, R.lec, fun ad e => R.blk ad e, R.nil⟩
    · obtain ⟨k, hk⟩ : ∃ k, cutR c l = k := ⟨_, rfl⟩
      have hbd := cutR_bounds c HOK.out l hc0
      have HCT := Lib.hid (endsR_cut c HOK.out l hc0)
      rw [hk] at hbd hc0 HCT
      rw [HN2.out] at hbd
      have HKK := Lib.hid hk
      rw [hk]
      have hlo := HOK.out.lo
      have hhi := HOK.out.hi
      obtain ⟨ad, e, _⟩ := HR.out.ints 0 (by rw [HN2.out]; omega)
      subst e
      have hadb := HR.out.blk ad rfl
      have hlk : (l.take k).length = k := by rw [List.length_take, HN2.out]; omega
      have HLK2 := Lib.hid hlk
      have HI4 := Lib.hid (HR.out.ints.grown hg4 (fun ad e _ => by have h1 := HR.out.blk ad e; have h2 := HR.out.ylo; have h3 := HR.out.glt; simp; omega))
      have HPT := Lib.hid (part_any (some ad) k cap2 (l.take k) w4 hlk (by omega) (HI4.out.take k))
      have HR4 := Lib.hid hr4
      have HG4 := Lib.hid hg4
      have hck : ¬ (k : Int) == 0 := by simp; omega
      clear hr4 hg4 hsc4 hk hlk
      go_wp2_with fail
      refine HPT.out.mono ?_
      rintro e w5 ⟨rfl, hr5, hb5⟩
      obtain ⟨vals, ho, hv⟩ := HR.out.rows
      have hglt2 := HR.out.glt
      have hylo := HR.out.ylo
      have hne := HR.out.ne
      have hs45 := row_lt hr5
      have hsg := HG4.out.size
      have hsw := HR.out.gr.size
      have ho4 := ho.kept HG4.out (Or.inr (fun e => by have := ho.lt g e; omega))
      have ho6 := (own_kept ho4 (below_grown hb5 none)).alloc (.cells #[.slice (some ⟨w4.heap.size, 0, none⟩) k k] 25)
      have HO6 := Lib.hid ho6
      have HOL := Lib.hid ho.lt
      have hb5s := hb5.size
      go_wp2_with (at_builtin; refine wpList_app E28 rfl _ _ rfl w.heap.size _ L.length vals rfl HO6.out (some ⟨w5.heap.size, 0, none⟩) 1 1 [.slice (some ⟨w4.heap.size, 0, none⟩) k k] rfl (fun h => by cases h) rfl ?c1 ?c2 ?c3 ?c4 ?c5 ?_)
      case c1 => intro j u hj; exact ⟨_, rfl, one_new _ _ _ j u hj⟩
      case c2 => intro u hu; simp at hu; subst hu; rfl
      case c3 => unfold maxLen; omega
      case c4 => omega
      case c5 => simp; omega
      intro v7 w7 hown7 hgrow7 hat7
      have hog : some g ≠ Value.ownBlock u6 := fun e => by have := HOL.out g e.symm; omega
      have hr7 : w7.heap[g]? = some (.cells (scanC c s4 seen4 kp4 [.slice HA q hcap]) 48 (0, 0)) :=
        (hgrow7.block g (by simp; omega) hog).trans ((Below.heap_alloc w5 _ _ (by omega)).trans ((hb5.block g (by omega)).trans HR4.out))
      obtain ⟨e0, e1, e2, e3, e4, e5, e6⟩ := scan_cells hr7
      have x0 := free_row hr7 0
      have x1 := free_row hr7 1
      have x2 := free_row hr7 2
      have x3 := free_row hr7 3
      have x4 := free_row hr7 4
      have x5 := free_row hr7 5
      have x6 := free_row hr7 6
      have HR7 := Lib.hid hr7
      have HOWN7 := Lib.hid hown7
      have HGR7 := Lib.hid hgrow7
      have HAT7 := Lib.hid hat7
      have HR5 := Lib.hid hr5
      have HB5 := Lib.hid hb5
      have HV := Lib.hid hv
      have HO := Lib.hid ho
      have HOG := Lib.hid hog
      have HHNE := Lib.hid hne
      have hk1 : (k : Int) ≤ (gk : Int) := by omega
      clear hr7 hown7 hgrow7 hat7 hr5 hb5 hv ho hog ho4 ho6 hne
      by_cases hck2 : cap2 = k
      · have HST := Lib.hid (HR.out.step HOK.out k HKK.out hc0 HG4.out HR5.out HB5.out HV.out HOL.out HOWN7.out HGR7.out HAT7.out HR7.out (some ad) 0 (Or.inl ⟨hck2, rfl, rfl⟩))
        go_wp2_with fail
        go_roundg (gk - k)
        case measure => omega
        case rel => exact ⟨L ++ [l.take k], l.drop k, some ad, 0, by rw [List.length_drop, HN2.out], by rw [List.length_drop, HN2.out], HST.out⟩
      · have HST := Lib.hid (HR.out.step HOK.out k HKK.out hc0 HG4.out HR5.out HB5.out HV.out HOL.out HOWN7.out HGR7.out HAT7.out HR7.out (some (ad.add k)) (cap2 - k) (Or.inr ⟨hck2, rfl, rfl⟩))
        go_wp2_with fail
        go_roundg (gk - k)
        case measure => omega
        case rel => exact ⟨L ++ [l.take k], l.drop k, some (ad.add k), cap2 - k, by rw [List.length_drop, HN2.out], by rw [List.length_drop, HN2.out], HST.out⟩

end Go.Proofs.Ytealompbbknijaa
