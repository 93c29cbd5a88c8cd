/- Texts of the proof, one behind the other: What keys and rows are ordered by: bytes.Compare, cmp.Compare, cmp.Or, index's order. index: order. -/
import Derived.Test.YtcklcffepedklaaGreatM07
import Derived.Lib.BytesEntry
import Derived.Lib.Bytealg
import Derived.Laws.Externs
import Derived.Sort.Grow
namespace Go.Proofs.YtcklcffepedklaaGreat
open Go.RowKit Go.Maps

theorem run_compareSlices {P : Program} (A B : Option Addr) (n c n' c' : Nat) (x y : List Int) (w : World) (hn : x.length = n) (hn' : y.length = n') (hx : Ints .u8 w A x) (hy : Ints .u8 w B y) (hA : A = none → n = 0) (hB : B = none → n' = 0) :
    (Extern.BytealgCompare.compare #[.slice A n c, .slice B n' c']).run P w = .ok (.int .i64 (Lib.compareBytes (Lib.bytesOf x) (Lib.bytesOf y))) w := by
  have hb : ∀ (A : Option Addr) (n c : Nat) (x : List Int), x.length = n → Ints .u8 w A x → (A = none → n = 0) → (Extern.Bytes.bytesOf (.slice A n c)).run P w = .ok ⟨(Lib.bytesOf x).toArray⟩ w := by
    intro A n c x hn hx hA
    cases A with
    | none =>
      have : x = [] := List.length_eq_zero_iff.1 (hn.trans (hA rfl))
      subst this
      rfl
    | some ad =>
      have hl := Lib.run_loadBytesX (P := P) w x ad .empty (fun j z hj => by
        have hjl : j < x.length := (List.getElem?_eq_some_iff.1 hj).1
        obtain ⟨ad', e, hc⟩ := hx j hjl
        injection e with e; subst e
        rw [hc, List.getD_eq_getElem?_getD, hj]; rfl)
      rw [hn] at hl
      show (Extern.Bytes.loadBytes ad n .empty).run P w = _
      rw [hl]
      congr 1
      apply ByteArray.ext
      show (#[] : Array UInt8) ++ _ = _
      simp
  change Sem.run P (do pure (goInt (Extern.BytealgCompare.cmp (← Extern.Bytes.bytesOf (.slice A n c)) (← Extern.Bytes.bytesOf (.slice B n' c'))))) w = _
  simp only [Sem.run_bind, Sem.run_pure, hb A n c x hn hx hA, hb B n' c' y hn' hy hB, Result.andThen]
  rw [Lib.cmp_eq]
  rfl
set_option maxRecDepth 20000 in
theorem bCompare_any (A B : Option Addr) (n c n' c' : Nat) (x y : List Int) (w : World) (hn : x.length = n) (hn' : y.length = n') (hx : Ints .u8 w A x) (hy : Ints .u8 w B y) (hA : A = none → n = 0) (hB : B = none → n' = 0) :
    Calls Tryz.prog 96 #[.slice A n c, .slice B n' c'] w fun e w' => e = .returned (.int .i64 (Lib.compareBytes (Lib.bytesOf x) (Lib.bytesOf y))) ∧ w = w' := by
  have HR := Lib.hid (run_compareSlices (P := Tryz.prog) A B n c n' c' x y w hn hn' hx hy hA hB)
  clear hn hn' hx hy hA hB
  go_enter Tryz.func96, Tryz.ntmps96
  go_wp2
  rw [run_callFunc_extern Tryz.func129 (by kernel_rfl) (by kernel_rfl) (by kernel_rfl) (e := Extern.BytealgCompare.compare) (by kernel_rfl), HR.out]
  simp only [Result.andThen]
  rw [Oper.upon_value]
  go_wp2
  go_ret
  exact ⟨rfl, rfl⟩
def cmpI (x y : Int) : Int := if x < y then -1 else if y < x then 1 else 0
theorem cmpU_any (x y : Int) (w : World) : Calls Tryz.prog 97 #[.int .u32 x, .int .u32 y] w fun e w' => e = .returned (.int .i64 (cmpI x y)) ∧ w = w' := by
  have H1 := Lib.hid (cisNaN_any x w)
  have H2 := Lib.hid (cisNaN_any y w)
  by_cases h1 : x < y
  · rw [show cmpI x y = -1 from if_pos h1]
    go_enter Tryz.func97, Tryz.ntmps97
    go_wp2_with fail
    refine H1.out.mono ?_
    rintro e w' ⟨rfl, rfl⟩
    go_wp2_with fail
    refine H2.out.mono ?_
    rintro e w' ⟨rfl, rfl⟩
    go_wp2_with fail
    go_ret
    exact ⟨rfl, rfl⟩
  · by_cases h2 : y < x
    · rw [show cmpI x y = 1 from (if_neg h1).trans (if_pos h2)]
      go_enter Tryz.func97, Tryz.ntmps97
      go_wp2_with fail
      refine H1.out.mono ?_
      rintro e w' ⟨rfl, rfl⟩
      go_wp2_with fail
      refine H2.out.mono ?_
      rintro e w' ⟨rfl, rfl⟩
      go_wp2_with fail
      go_ret
      exact ⟨rfl, rfl⟩
    · rw [show cmpI x y = 0 from (if_neg h1).trans (if_neg h2)]
      go_enter Tryz.func97, Tryz.ntmps97
      go_wp2_with fail
      refine H1.out.mono ?_
      rintro e w' ⟨rfl, rfl⟩
      go_wp2_with fail
      refine H2.out.mono ?_
      rintro e w' ⟨rfl, rfl⟩
      go_wp2_with fail
      go_ret
      exact ⟨rfl, rfl⟩
theorem cisNaNI_any (x : Int) (w : World) : Calls Tryz.prog 150 #[.int .i64 x] w fun e w' => e = .returned (.bool false) ∧ w = w' := by
  go_enter Tryz.func150, Tryz.ntmps150
  go_wp2
  go_ret
  exact ⟨rfl, rfl⟩
theorem cmpN_any (x y : Int) (w : World) : Calls Tryz.prog 136 #[.int .i64 x, .int .i64 y] w fun e w' => e = .returned (.int .i64 (cmpI x y)) ∧ w = w' := by
  have H1 := Lib.hid (cisNaNI_any x w)
  have H2 := Lib.hid (cisNaNI_any y w)
  by_cases h1 : x < y
  · rw [show cmpI x y = -1 from if_pos h1]
    go_enter Tryz.func136, Tryz.ntmps136
    go_wp2_with fail
    refine H1.out.mono ?_
    rintro e w' ⟨rfl, rfl⟩
    go_wp2_with fail
    refine H2.out.mono ?_
    rintro e w' ⟨rfl, rfl⟩
    go_wp2_with fail
    go_ret
    exact ⟨rfl, rfl⟩
  · by_cases h2 : y < x
    · rw [show cmpI x y = 1 from (if_neg h1).trans (if_pos h2)]
      go_enter Tryz.func136, Tryz.ntmps136
      go_wp2_with fail
      refine H1.out.mono ?_
      rintro e w' ⟨rfl, rfl⟩
      go_wp2_with fail
      refine H2.out.mono ?_
      rintro e w' ⟨rfl, rfl⟩
      go_wp2_with fail
      go_ret
      exact ⟨rfl, rfl⟩
    · rw [show cmpI x y = 0 from (if_neg h1).trans (if_neg h2)]
      go_enter Tryz.func136, Tryz.ntmps136
      go_wp2_with fail
      refine H1.out.mono ?_
      rintro e w' ⟨rfl, rfl⟩
      go_wp2_with fail
      refine H2.out.mono ?_
      rintro e w' ⟨rfl, rfl⟩
      go_wp2_with fail
      go_ret
      exact ⟨rfl, rfl⟩

/-- cmp.Or of two. -/
theorem Or_any (x y : Int) (g c : Nat) (w : World) (h0 : w.cell? ⟨g, 0, none⟩ = some (.int .i64 x)) (h1 : w.cell? ⟨g, 1, none⟩ = some (.int .i64 y)) : Calls Tryz.prog 95 #[.slice (some ⟨g, 0, none⟩) 2 c] w fun e w' => e = .returned (.int .i64 (if x = 0 then y else x)) ∧ w = w' := by
  by_cases hx : x = 0
  · rw [if_pos hx]
    subst hx
    by_cases hy : y = 0
    · subst hy
      go_enter Tryz.func95, Tryz.ntmps95
      go_wp2_with fail
      refine wp_loop_rounds 3 ?_
      rw [rounds_succ]
      go_wp2_with fail
      rw [rounds_succ]
      go_wp2_with fail
      rw [rounds_succ]
      go_wp2_with fail
      go_ret
      exact ⟨rfl, rfl⟩
    · go_enter Tryz.func95, Tryz.ntmps95
      go_wp2_with fail
      refine wp_loop_rounds 3 ?_
      rw [rounds_succ]
      go_wp2_with fail
      rw [rounds_succ]
      go_wp2_with fail
      go_ret
      exact ⟨rfl, rfl⟩
  · rw [if_neg hx]
    go_enter Tryz.func95, Tryz.ntmps95
    go_wp2_with fail
    refine wp_loop_rounds 3 ?_
    rw [rounds_succ]
    go_wp2_with fail
    go_ret
    exact ⟨rfl, rfl⟩

/-- Only draws and new blocks behind. -/
def Gr (w w' : World) : Prop := ∃ (q : Nat) (os : Array Obj), w' = Go.Sort.grow (w.drewN q) os
theorem Gr.of {w w' : World} (hb : Below w.heap.size w w') (hd : w.drawn ≤ w'.drawn) : Gr w w' := by
  refine ⟨w'.drawn - w.drawn, w'.heap.extract w.heap.size w'.heap.size, ?_⟩
  obtain ⟨h1, h2, h3, h4, h5⟩ := hb
  cases w with
  | mk hp tp dr os out =>
  cases w' with
  | mk hp' tp' dr' os' out' =>
  simp only at h1 h2 h3 h4 h5 hd
  subst h1 h2 h3
  unfold Go.Sort.grow World.drewN
  have e : hp' = hp ++ hp'.extract hp.size hp'.size := by
    apply Array.ext_getElem?
    intro i
    rw [Array.getElem?_append]
    split
    · rename_i hi; exact h5 i hi
    · rename_i hi
      rw [Array.getElem?_extract]
      split
      · congr 1; omega
      · rename_i h6
        rw [Array.getElem?_eq_none]; omega
  simp only
  rw [← e, Nat.add_sub_cancel' hd]

/-- Bytes as a number, the first the highest. -/
def codeB : List UInt8 → Nat
  | [] => 0
  | a :: l => a.toNat * 256 ^ l.length + codeB l
theorem codeB_lt : ∀ l, codeB l < 256 ^ l.length
  | [] => by simp [codeB]
  | a :: l => by
    have h := codeB_lt l
    have ha : a.toNat < 256 := a.toNat_lt
    rw [codeB, List.length_cons, Nat.pow_succ]
    have : a.toNat * 256 ^ l.length + 256 ^ l.length ≤ 256 ^ l.length * 256 := by
      rw [Nat.mul_comm (256 ^ l.length) 256, ← Nat.succ_mul]
      exact Nat.mul_le_mul_right _ ha
    omega
def cmpN (x y : Nat) : Int := if x < y then -1 else if y < x then 1 else 0
theorem cmpN_add (z x y : Nat) : cmpN (z + x) (z + y) = cmpN x y := by
  unfold cmpN
  simp only [Nat.add_lt_add_iff_left]
theorem compare_code : ∀ (a b : List UInt8), a.length = b.length → Lib.compareBytes a b = cmpN (codeB a) (codeB b)
  | [], [], _ => rfl
  | [], _ :: _, h => by cases h
  | _ :: _, [], h => by cases h
  | x :: a, y :: b, h => by
    have hl : a.length = b.length := by simpa using h
    have ha := codeB_lt a
    have hb := codeB_lt b
    rw [Lib.compareBytes, compare_code a b hl]
    rw [codeB, codeB]
    rw [← hl] at hb ⊢
    generalize 256 ^ a.length = M at *
    by_cases h1 : x < y
    · rw [if_pos h1]
      have h2 : x.toNat + 1 ≤ y.toNat := UInt8.lt_iff_toNat_lt.1 h1
      have h3 := Nat.mul_le_mul_right M h2
      rw [Nat.succ_mul] at h3
      unfold cmpN
      rw [if_pos (by omega)]
    · rw [if_neg h1]
      by_cases h2 : y < x
      · rw [if_pos h2]
        have h2' : y.toNat + 1 ≤ x.toNat := UInt8.lt_iff_toNat_lt.1 h2
        have h3 := Nat.mul_le_mul_right M h2'
        rw [Nat.succ_mul] at h3
        unfold cmpN
        rw [if_neg (by omega), if_pos (by omega)]
      · rw [if_neg h2]
        have : x.toNat = y.toNat := by
          have h3 := mt UInt8.lt_iff_toNat_lt.2 h1
          have h4 := mt UInt8.lt_iff_toNat_lt.2 h2
          omega
        rw [this]
        exact (cmpN_add _ _ _).symm
/-- A key's number in the order. -/
def codeK (k : Ky) : Nat := codeB (Lib.bytesOf k.sum) * 4294967296 + k.n
/-- What the order of keys says. -/
def cfK (a b : Ky) : Int := if Lib.compareBytes (Lib.bytesOf a.sum) (Lib.bytesOf b.sum) = 0 then cmpI a.n b.n else Lib.compareBytes (Lib.bytesOf a.sum) (Lib.bytesOf b.sum)
theorem cfK_eq {a b : Ky} (ha : a.Ok) (hb : b.Ok) : cfK a b = cmpN (codeK a) (codeK b) := by
  have hl : (Lib.bytesOf a.sum).length = (Lib.bytesOf b.sum).length := by simp [Lib.bytesOf, ha.len, hb.len]
  have h1 := ha.lt
  have h2 := hb.lt
  unfold cfK codeK
  rw [compare_code _ _ hl]
  generalize codeB (Lib.bytesOf a.sum) = x
  generalize codeB (Lib.bytesOf b.sum) = y
  rcases Nat.lt_trichotomy x y with h | h | h
  · have e : cmpN x y = -1 := if_pos h
    rw [e, if_neg (by decide)]
    exact (if_pos (by omega)).symm
  · subst h
    have e : cmpN x x = 0 := (if_neg (Nat.lt_irrefl x)).trans (if_neg (Nat.lt_irrefl x))
    rw [e, if_pos rfl, cmpN_add]
    unfold cmpI cmpN
    simp only [Int.ofNat_lt]
  · have e : cmpN x y = 1 := (if_neg (by omega)).trans (if_pos h)
    rw [e, if_neg (by decide)]
    exact ((if_neg (by omega)).trans (if_pos (by omega))).symm
end Go.Proofs.YtcklcffepedklaaGreat

namespace Go.Proofs.YtcklcffepedklaaGreat
open Go.RowKit Go.Maps

theorem build_two {P : Program} {t e : TypeId} {z : Value} (ht : P.underlying t = some (.slice e)) (hsz : ∀ W, (sizeOf e).run P W = .ok 1 W) (hz : ∀ W, (zeroValue e).run P W = .ok z W) (hzc : z.cells.size = 1) (x y : Value) (hx : x.cells = #[x]) (hy : y.cells = #[y]) (W : World) :
    (Instr.buildSlice t 2 #[(0, x), (1, y)]).run P W = .ok (.slice (some ⟨W.heap.size, 0, none⟩) 2 2) (W.alloc (.cells #[x, y] e)) := by
  have hf : Instr.fill (fun i => some (i * 1, 1)) ((Array.range (2 * 1)).map (z.cells[· % z.cells.size]!)) [(0, x), (1, y)] = some #[x, y] := by
    rw [fill_cons (off := 0) (size := 1) (vs := [x]) rfl hx rfl (by simp), fill_cons (off := 1) (size := 1) (vs := [y]) rfl hy rfl (by simp), Instr.fill]
    simp
  simp only [Instr.buildSlice, Sem.run_bind, run_underlying ht, Result.andThen_ok, hsz]
  simp only [Nat.mul_one]
  rw [if_neg (by omega), if_neg (by omega)]
  simp only [Sem.run_bind, Sem.run_pure, Result.andThen_ok, hz]
  simp only [Nat.mul_one] at hf
  simp only [hf]
  simp [newRow]
theorem zero3 (w : World) : (zeroValue 3).run Tryz.prog w = .ok (.int .i64 0) w := by
  obtain ⟨i0, hi, hz0, _, _⟩ := info_parts (show (Tryz.prog.info? 3).map (fun i => (i.zero, i.size, i.bytes)) = some (some (.int .i64 0), 1, 8) by kernel_rfl)
  exact zero_run hi hz0 w
set_option maxRecDepth 20000 in
set_option maxHeartbeats 1600000 in
theorem order_any (a b : Ky) (ha : a.Ok) (hb : b.Ok) (w : World) : Calls Tryz.prog 70 #[.agg a.cells.toArray, .agg b.cells.toArray] w fun e w' => e = .returned (.int .i64 (cfK a b)) ∧ Gr w w' := by
  have hb1 := (Below.refl w.heap.size w).alloc (Nat.le_refl _) (.cells a.cells.toArray 64)
  have hr1 := heap_alloc_last w (.cells a.cells.toArray 64)
  have hs1 : (w.alloc (.cells a.cells.toArray 64)).heap.size = w.heap.size + 1 := World.size_alloc _ _
  have hd1 : (w.alloc (.cells a.cells.toArray 64)).drawn = w.drawn := rfl
  obtain ⟨ga, hga⟩ : ∃ g, w.heap.size = g := ⟨_, rfl⟩
  obtain ⟨gb, hgb⟩ : ∃ g, g = ga + 1 := ⟨_, rfl⟩
  have HA := Lib.hid ha
  have HB := Lib.hid hb
  clear ha hb
  go_enter Tryz.func70, Tryz.ntmps70
  go_upto_region 1 with (fail)
  rw [hga] at hs1 hr1
  rw [← hgb] at hs1 ⊢
  generalize w.alloc (.cells a.cells.toArray 64) = w1 at *
  have hb2 := (Below.refl w1.heap.size w1).alloc (Nat.le_refl _) (.cells b.cells.toArray 64)
  have hr2 := heap_alloc_last w1 (.cells b.cells.toArray 64)
  have hd2 : (w1.alloc (.cells b.cells.toArray 64)).drawn = w1.drawn := rfl
  rw [hs1] at hr2
  generalize w1.alloc (.cells b.cells.toArray 64) = w2 at *
  have hr12 := (hb2.block ga (row_lt hr1)).trans hr1
  have HLA := Lib.hid (row_lt hr12)
  have HLB := Lib.hid (row_lt hr2)
  have HCA := Lib.hid (show w2.cell? ⟨ga, 32, none⟩ = some (.int .u32 a.n) from row_at hr12 (Ky.cells_32 HA.out))
  have HCB := Lib.hid (show w2.cell? ⟨gb, 32, none⟩ = some (.int .u32 b.n) from row_at hr2 (Ky.cells_32 HB.out))
  have hints : ∀ {g : Nat} {k : Ky}, k.Ok → w2.heap[g]? = some (.cells k.cells.toArray 64 (0, 0)) → Ints .u8 w2.drew (some ⟨g, 0, none⟩) k.sum := fun {g k} hk hr i hi => ⟨_, rfl, by
    rw [addr_add0, Nat.zero_add]
    refine row_at (w := w2.drew) hr ?_
    rw [Ky.cells, List.getElem?_append_left (by simpa using hi), List.getElem?_map, List.getD_eq_getElem?_getD, List.getElem?_eq_getElem hi]; rfl⟩
  obtain ⟨c1, hc1⟩ : ∃ c, Lib.compareBytes (Lib.bytesOf a.sum) (Lib.bytesOf b.sum) = c := ⟨_, rfl⟩
  obtain ⟨c2, hc2⟩ : ∃ c, cmpI a.n b.n = c := ⟨_, rfl⟩
  have HBC := Lib.hid (bCompare_any (some ⟨ga, 0, none⟩) (some ⟨gb, 0, none⟩) 32 32 32 32 a.sum b.sum w2.drew HA.out.len HB.out.len (hints HA.out hr12) (hints HB.out hr2) (fun h => by cases h) (fun h => by cases h))
  have HCC := Lib.hid (cmpU_any a.n b.n w2.drew)
  rw [hc1] at HBC
  rw [hc2] at HCC
  have HBS := Lib.hid (fun (W : World) => build_two (P := Tryz.prog) (z := .int .i64 0) Tryz.underlying168 (fun _ => by kernel_rfl) zero3 rfl (.int .i64 c1) (.int .i64 c2) rfl rfl W)
  have hro := heap_alloc_last w2.drew (.cells #[.int .i64 c1, .int .i64 c2] 3)
  have HOR := Lib.hid (Or_any c1 c2 w2.drew.heap.size 2 (w2.drew.alloc (.cells #[.int .i64 c1, .int .i64 c2] 3)) (row_at hro rfl) (row_at hro rfl))
  have HGR := Lib.hid (show Gr w (w2.drew.alloc (.cells #[.int .i64 c1, .int .i64 c2] 3)) from Gr.of (below_trans (below_trans hb1 hb2 hb1.size) ((Below.refl w2.heap.size w2).drew.alloc (Nat.le_refl _) _) (by have := hb1.size; have := hb2.size; omega)) (by show w.drawn ≤ w2.drawn + 1; omega))
  have hcf : cfK a b = if c1 = 0 then c2 else c1 := by unfold cfK; rw [hc1, hc2]
  obtain ⟨c3, hc3⟩ : ∃ c, (if c1 = 0 then c2 else c1) = c := ⟨_, rfl⟩
  rw [hc3] at hcf HOR
  have HCF := Lib.hid hcf
  clear hr1 hs1 hd1 hb1 hb2 hr2 hd2 hr12 hints hc1 hc2 hc3 hro hcf hga hgb
  --[
  refine wp_region_held_drew (S := fun w' => Below w2.heap.size w2 w') (by kernel_rfl) ((Below.refl _ _).drew) (fun hHeld => ?_)
  refine held_take 0 (some 5) (v := ?_) rfl rfl (by kernel_rfl) (by kernel_rfl) (by kernel_rfl) (fun _ _ _ h => h) (Or.inl ⟨by rfl, ?_⟩) hHeld ?_
  rotate_left
  · (intro w' hSw; clear hSw; go_simp; try with_reducible rfl)
  try simp only [Act.put, List.setIfInBounds_toArray, List.set_cons_zero, List.set_cons_succ]
  refine held_take 1 (some 6) (v := ?_) rfl rfl (by kernel_rfl) (by kernel_rfl) (by kernel_rfl) (fun _ _ _ h => h) (Or.inl ⟨by rfl, ?_⟩) hHeld ?_
  rotate_left
  · (intro w' hSw; clear hSw; go_simp; try with_reducible rfl)
  try simp only [Act.put, List.setIfInBounds_toArray, List.set_cons_zero, List.set_cons_succ]
  refine held_take 2 (some 7) (v := ?_) rfl rfl (by kernel_rfl) (by kernel_rfl) (by kernel_rfl) (fun _ _ _ h => h) (Or.inl ⟨by rfl, ?_⟩) hHeld ?_
  rotate_left
  · (intro w' hSw; clear hSw; go_simp; try with_reducible rfl)
  try simp only [Act.put, List.setIfInBounds_toArray, List.set_cons_zero, List.set_cons_succ]
  refine held_take 3 (some 8) (v := ?_) rfl rfl (by kernel_rfl) (by kernel_rfl) (by kernel_rfl) (fun _ _ _ h => h) (Or.inl ⟨by rfl, ?_⟩) hHeld ?_
  rotate_left
  · (intro w' hSw; clear hSw; go_simp; try with_reducible rfl)
  try simp only [Act.put, List.setIfInBounds_toArray, List.set_cons_zero, List.set_cons_succ]
  refine held_take 5 (some 10) (v := ?_) rfl rfl (by kernel_rfl) (by kernel_rfl) (by kernel_rfl) (fun _ _ _ h => h) (Or.inl ⟨by rfl, ?_⟩) hHeld ?_
  rotate_left
  · (intro w' hSw; clear hSw; go_simp; try with_reducible rfl)
  try simp only [Act.put, List.setIfInBounds_toArray, List.set_cons_zero, List.set_cons_succ]
  refine held_take 6 (some 11) (v := ?_) rfl rfl (by kernel_rfl) (by kernel_rfl) (by kernel_rfl) (fun _ _ _ h => h) (Or.inl ⟨by rfl, ?_⟩) hHeld ?_
  rotate_left
  · (intro w' hSw; have pf := (hSw.cell (p := ⟨ga, 32, none⟩) HLA.out).trans HCA.out; clear hSw; go_simp; try with_reducible rfl)
  try simp only [Act.put, List.setIfInBounds_toArray, List.set_cons_zero, List.set_cons_succ]
  refine held_take 7 (some 12) (v := ?_) rfl rfl (by kernel_rfl) (by kernel_rfl) (by kernel_rfl) (fun _ _ _ h => h) (Or.inl ⟨by rfl, ?_⟩) hHeld ?_
  rotate_left
  · (intro w' hSw; clear hSw; go_simp; try with_reducible rfl)
  try simp only [Act.put, List.setIfInBounds_toArray, List.set_cons_zero, List.set_cons_succ]
  refine held_take 8 (some 13) (v := ?_) rfl rfl (by kernel_rfl) (by kernel_rfl) (by kernel_rfl) (fun _ _ _ h => h) (Or.inl ⟨by rfl, ?_⟩) hHeld ?_
  rotate_left
  · (intro w' hSw; have pf := (hSw.cell (p := ⟨gb, 32, none⟩) HLB.out).trans HCB.out; clear hSw; go_simp; try with_reducible rfl)
  try simp only [Act.put, List.setIfInBounds_toArray, List.set_cons_zero, List.set_cons_succ]
  refine wpAnyH_ready (rs := [4]) (by kernel_rfl) (by simp) ?_
  refine AllReadyH.cons rfl (fun K hKK => ?_) AllReadyH.nil
  go_simp
  go_at_call 96
  refine HBC.out.mono ?_
  rintro e w3 ⟨rfl, rfl⟩
  refine hKK.out _ _ (Below.refl _ _).drew (fun hHeld => ?_)
  clear hKK K
  try simp only [Act.put, List.setIfInBounds_toArray, List.set_cons_zero, List.set_cons_succ]
  refine wpAnyH_ready (rs := [9]) (by kernel_rfl) (by simp) ?_
  refine AllReadyH.cons rfl (fun K hKK => ?_) AllReadyH.nil
  go_simp
  go_at_call 97
  refine HCC.out.mono ?_
  rintro e w3 ⟨rfl, rfl⟩
  refine hKK.out _ _ (Below.refl _ _).drew (fun hHeld => ?_)
  clear hKK K
  try simp only [Act.put, List.setIfInBounds_toArray, List.set_cons_zero, List.set_cons_succ]
  refine wpAnyH_ready (rs := [10]) (by kernel_rfl) (by simp) ?_
  refine AllReadyH.cons rfl (fun K hKK => ?_) AllReadyH.nil
  refine step_val rfl (exec_buildSlice _ _ _ rfl #[(0, .int .i64 c1), (1, .int .i64 c2)] (by go_simp) (HBS.out w2.drew)) ?_
  refine hKK.out _ _ ((Below.refl _ _).drew.alloc (Nat.le_refl _) _) (fun hHeld => ?_)
  clear hKK K
  try simp only [Act.put, List.setIfInBounds_toArray, List.set_cons_zero, List.set_cons_succ]
  refine wpAnyH_ready (rs := [11]) (by kernel_rfl) (by simp) ?_
  refine AllReadyH.cons rfl (fun K hKK => ?_) AllReadyH.nil
  go_simp
  go_at_call 95
  refine HOR.out.mono ?_
  rintro e w5 ⟨rfl, rfl⟩
  refine hKK.out _ _ ((Below.refl _ _).drew.alloc (Nat.le_refl _) _) (fun hHeld => ?_)
  clear hKK K
  try simp only [Act.put, List.setIfInBounds_toArray, List.set_cons_zero, List.set_cons_succ]
  refine held_take 12 (some 4) (v := ?_) rfl rfl (by kernel_rfl) (by kernel_rfl) (by kernel_rfl) (fun _ _ _ h => h) (Or.inl ⟨by rfl, ?_⟩) hHeld ?_
  rotate_left
  · (intro w' hSw; clear hSw; go_simp; try with_reducible rfl)
  try simp only [Act.put, List.setIfInBounds_toArray, List.set_cons_zero, List.set_cons_succ]
  refine wpAnyH_done (by kernel_rfl) ?_ _
  clear hHeld
  go_simp
  go_wp2_with fail
  go_ret
  exact ⟨by rw [HCF.out]; rfl, HGR.out⟩
  --]
end Go.Proofs.YtcklcffepedklaaGreat
