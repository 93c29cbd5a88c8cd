/- bloom: New, Add, May, Or, Bytes, Clear. -/
import Derived.Test.YteodhbkhkecigaaEach
import Derived.BigRegion
import Derived.StillTailTactics
namespace Go.Proofs.Yteodhbkhkecigaa
open Go.RowKit

theorem info35 {k : Array Value} {b : Nat → Nat} {n : Nat} (K : KeyC k b n) : (Try.prog.info? 35).map (·.size) = some k.size := by rw [K.size]; kernel_rfl

set_option maxHeartbeats 400000 in
theorem Add_any (g h bits probes : Nat) (f : Nat → Bool) (k : Array Value) (b : Nat → Nat) (n : Nat) (w : World) (V : Vec w g h bits probes f) (hgh : g ≠ h) (K : KeyC k b n) :
    Calls Try.prog 10 #[.pointer (some ⟨g, 0, none⟩), .agg k] w fun e w' => e = .returned (.tuple #[]) ∧ w.grownBy w' (some h) ∧ Vec w' g h bits probes (puts f (placesK bits probes b n)) := by
  have HC := Lib.hid (each_set g h bits probes f k b n (w.alloc (.cells k 35)) (V.kept (grown_alloc w _ none) (by simp) (by simp)) hgh K)
  have HI := Lib.hid (info35 K)
  have HG := Lib.hid (grown_alloc w (.cells k 35) (some h))
  go_enter Try.func10, Try.ntmps10
  go_wp2_with (first | (with_reducible refine wpList_load_row rfl 35 _ rfl w.heap.size rfl 35 _ (0, 0) _ (heap_alloc_last _ _) Try.underlying35 rfl HI.out ?_) | (go_at_call 23; refine HC.out.mono ?_; rintro e w2 ⟨rfl, hg2, hv2⟩))
  go_end0
  exact ⟨rfl, grown_trans HG.out hg2, hv2⟩

set_option maxHeartbeats 400000 in
theorem May_any (g h bits probes : Nat) (f : Nat → Bool) (k : Array Value) (b : Nat → Nat) (n : Nat) (w : World) (V : Vec w g h bits probes f) (K : KeyC k b n) :
    Calls Try.prog 18 #[.pointer (some ⟨g, 0, none⟩), .agg k] w fun e w' => e = .returned (.bool ((placesK bits probes b n).all f)) ∧ w.grownBy w' none := by
  have HC := Lib.hid (each_is g h bits probes f k b n (w.alloc (.cells k 35)) (V.kept (grown_alloc w _ none) (by simp) (by simp)) K)
  have HI := Lib.hid (info35 K)
  have HG := Lib.hid (grown_alloc w (.cells k 35) none)
  generalize (placesK bits probes b n).all f = r at *
  go_enter Try.func18, Try.ntmps18
  go_wp2_with (first | (with_reducible refine wpList_load_row rfl 35 _ rfl w.heap.size rfl 35 _ (0, 0) _ (heap_alloc_last _ _) Try.underlying35 rfl HI.out ?_) | (go_at_call 23; refine HC.out.mono ?_; rintro e w2 ⟨rfl, hg2⟩))
  go_ret
  exact ⟨rfl, grown_trans HG.out hg2⟩

theorem Try.info5 : (Try.prog.info? 5).map (fun i => (i.zero, i.size, i.bytes)) = some (some (.int .u8 0), 1, 1) := by kernel_rfl
theorem E37 : Elem Try.prog 37 5 1 1 := by
  obtain ⟨i0, hi, hz0, hz1, hz2⟩ := info_parts Try.info5
  exact ⟨Try.underlying37, ⟨i0, _, hi, hz0, hz1, hz2, rfl⟩, by decide⟩
theorem zero5 (w : World) : (zeroValue 5).run Try.prog w = .ok (.int .u8 0) w := by kernel_rfl
theorem made_zero (m : Nat) : madeCells #[.int .u8 0] m = cellsOf (pack m (fun _ => false)) := by
  rw [madeCells_rep, pack_zero, cellsOf, List.map_replicate]

/-- A new summary. -/
def NewVec (bits probes : Nat) (w : World) (e : Ending) (w' : World) : Prop :=
  e = .returned (.tuple #[.pointer (some ⟨w.heap.size + 1, 0, none⟩), .int .i64 0]) ∧ w.grownBy w' none ∧ Vec w' (w.heap.size + 1) w.heap.size bits probes (fun _ => false) ∧ w'.heap.size = w.heap.size + 2

theorem New_bad (bits probes : Int) (w : World) (h : bits < 0 ∨ 1048576 < bits ∨ probes < 0 ∨ 30 < probes) :
    Calls Try.prog 9 #[.int .i64 bits, .int .i64 probes] w fun e w' => e = .returned (.tuple #[.pointer none, .int .i64 1]) ∧ w = w' := by
  by_cases h1 : bits < 0
  · go_enter Try.func9, Try.ntmps9
    go_wp2
    go_ret2
    exact ⟨rfl, rfl⟩
  · by_cases h2 : 1048576 < bits
    · go_enter Try.func9, Try.ntmps9
      go_wp2
      go_ret2
      exact ⟨rfl, rfl⟩
    · by_cases h3 : probes < 0
      · go_enter Try.func9, Try.ntmps9
        go_wp2
        go_ret2
        exact ⟨rfl, rfl⟩
      · have h4 : 30 < probes := by omega
        go_enter Try.func9, Try.ntmps9
        go_wp2
        go_ret2
        exact ⟨rfl, rfl⟩

theorem New_any (bits probes : Nat) (w : World) (h1 : bits ≤ 1048576) (h2 : probes ≤ 30) :
    Calls Try.prog 9 #[.int .i64 bits, .int .i64 probes] w (NewVec bits probes w) := by
  obtain ⟨i0, hi, hz0, hz1, hz2⟩ := info_parts Try.info5
  have hmk : ∀ W : World, (Instr.makeSlice 37 (.int .i64 (((bits : Int) + 7) / 8)) (.int .i64 (((bits : Int) + 7) / 8))).run Try.prog W = .ok (.slice (some ⟨W.heap.size, 0, none⟩) ((bits + 7) / 8) ((bits + 7) / 8)) (W.alloc (.cells (cellsOf (pack ((bits + 7) / 8) (fun _ => false))) 5)) := by
    intro W
    have := run_make (P := Try.prog) W 37 5 i0 (.int .u8 0) Try.underlying37 hi hz0 .i64 .i64 (((bits : Int) + 7) / 8) (((bits : Int) + 7) / 8) (by omega) (Int.le_refl _) (by rw [hz2]; omega) (by omega)
    rw [show (((bits : Int) + 7) / 8).toNat = (bits + 7) / 8 from by omega, hz1, Nat.mul_one] at this
    rw [this, ← made_zero]
    rfl
  go_enter Try.func9, Try.ntmps9
  go_wp2
  go_ret2
  refine ⟨rfl, ?_, ?_, by simp⟩
  · exact grown_trans (grown_alloc _ _ _) (grown_alloc _ _ _)
  · refine ⟨?_, ?_, ⟨h1, h2⟩, fun _ _ => rfl⟩
    · have := heap_alloc_last (w.alloc (.cells (cellsOf (pack ((bits + 7) / 8) (fun _ => false))) 5)) (.cells #[.slice (some ⟨w.heap.size, 0, none⟩) ((bits + 7) / 8) ((bits + 7) / 8), .int .i64 bits, .int .i64 probes] 58)
      rw [World.size_alloc] at this
      exact this
    · rw [Below.heap_alloc _ _ _ (by simp)]; exact heap_alloc_last _ _

/-- A new row of bytes. -/
def NewOwn (n : Nat) (l : List Int) (w : World) (e : Ending) (w' : World) : Prop :=
  ∃ v, e = .returned v ∧ w'.ownsRow w.heap.size 5 1 v n (l.map (Value.int .u8)) ∧ Below w.heap.size w w'

/-- The bytes told. -/
theorem Bytes_own (g h bits probes : Nat) (f : Nat → Bool) (w : World) (V : Vec w g h bits probes f) :
    Calls Try.prog 12 #[.pointer (some ⟨g, 0, none⟩)] w (NewOwn ((bits + 7) / 8) (pack ((bits + 7) / 8) f) w) := by
  obtain ⟨c0, c1, c2⟩ := V.cells
  have hl := V.lim
  have HI := Lib.hid (ints_block V.row)
  have HL := Lib.hid (pack_length ((bits + 7) / 8) f)
  go_enter Try.func12, Try.ntmps12
  go_wp2_with (at_builtin; refine wpList_app E37 rfl _ _ rfl w.heap.size (.slice none 0 0) 0 [] rfl (World.ownsRow_nil _ _ _ _) (some ⟨h, 0, none⟩) ((bits + 7) / 8) ((bits + 7) / 8) ((pack ((bits + 7) / 8) f).map (Value.int .u8)) rfl (fun h => by cases h) ?c1 HI.out.news (ints_one _ _) ?c2 ?c3 (Nat.le_refl _) ?_)
  case c1 => rw [List.length_map, HL.out, Nat.mul_one]
  case c2 => unfold maxLen; omega
  case c3 => omega
  intro v1 w1 hown hgrow _
  try simp only [Nat.zero_add, List.nil_append] at hown
  have hb : Below w.heap.size w w1 := (Below.refl _ _).grown hgrow (Nat.le_refl _) (fun k hk => by simp [Value.ownBlock] at hk)
  have HO := Lib.hid hown
  clear hown hgrow
  go_wp2
  go_ret
  exact ⟨v1, rfl, HO.out, hb⟩
theorem Bytes_any (g h bits probes : Nat) (f : Nat → Bool) (w : World) (V : Vec w g h bits probes f) :
    Calls Try.prog 12 #[.pointer (some ⟨g, 0, none⟩)] w (NewInts .u8 w.heap.size (pack ((bits + 7) / 8) f) w) := by
  refine (Bytes_own g h bits probes f w V).mono ?_
  rintro e w' ⟨v, rfl, ho, hb⟩
  have hown : w'.ownsRow w.heap.size 5 1 v (pack ((bits + 7) / 8) f).length ((pack ((bits + 7) / 8) f).map (Value.int .u8)) := by rw [pack_length]; exact ho
  obtain ⟨A', c', hv, hcc, hI', hA'⟩ := new_of_own hown
  exact ⟨A', c', by rw [hv], hcc, hI', hA', hb⟩

/-- The bits are all out. -/
theorem Clear_any (g h bits probes : Nat) (f : Nat → Bool) (w : World) (V : Vec w g h bits probes f) (hgh : g ≠ h) :
    Calls Try.prog 21 #[.pointer (some ⟨g, 0, none⟩)] w fun e w' => e = .returned (.tuple #[]) ∧ w.grownBy w' (some h) ∧ Vec w' g h bits probes (fun _ => false) := by
  obtain ⟨c0, c1, c2⟩ := V.cells
  have hl := V.lim
  have hsz : (cellsOf (pack ((bits + 7) / 8) f)).size = (bits + 7) / 8 := by rw [cellsOf_size, pack_length]
  by_cases h0 : bits = 0
  · subst h0
    have hcl : ∀ ty, (Builtin.clear_ #[37] ty #[.slice (some ⟨h, 0, none⟩) 0 0]).run Try.prog w = .ok (.tuple #[]) w := fun ty => by
      simp [Builtin.clear_, run_underlying Try.underlying37]
    have HF := Lib.hid (show f = fun _ => false from funext fun p => V.out p (by omega))
    have HW := Lib.hid V
    clear V hsz
    go_enter Try.func21, Try.ntmps21
    go_wp2_with (simp only [hcl])
    go_end0
    rw [← HF.out]
    exact ⟨rfl, World.grownBy.refl _ _, HW.out⟩
  · have hcl : ∀ ty, (Builtin.clear_ #[37] ty #[.slice (some ⟨h, 0, none⟩) ((bits + 7) / 8) ((bits + 7) / 8)]).run Try.prog w = .ok (.tuple #[]) (w.setCells h 0 (List.replicate ((bits + 7) / 8) (.int .u8 0))) :=
      fun ty => Lib.run_clear_slice w 37 5 ty (.int .u8 0) Try.underlying37 zero5 rfl rfl h 0 _ _ (by omega) (fun j hj => by rw [Nat.zero_add, V.byte j hj]; rfl) (fun j _ => V.free _)
    have HS := Lib.hid (setCells_whole (vs := List.replicate ((bits + 7) / 8) (.int .u8 0)) V.row (by rw [hsz, List.length_replicate]))
    have HG := Lib.hid (grown_setCells h (List.replicate ((bits + 7) / 8) (.int .u8 0)) 0 w)
    have HW := Lib.hid V
    clear V hsz
    go_enter Try.func21, Try.ntmps21
    go_wp2_with (simp only [hcl])
    go_end0
    refine ⟨rfl, HG.out, ⟨?_, ?_, HW.out.lim, fun _ _ => rfl⟩⟩
    · rw [HG.out.block g HW.out.glt (by simpa using hgh)]; exact HW.out.obj
    · rw [HS.out, pack_zero, cellsOf, List.map_replicate]

/-- A summary of m bytes whose bits may lie beyond its bound: within Or. -/
structure VecR (w : World) (g rb m bits probes : Nat) (f : Nat → Bool) : Prop where
  obj : w.heap[g]? = some (.cells #[.slice (some ⟨rb, 0, none⟩) m m, .int .i64 bits, .int .i64 probes] 58 (0, 0))
  row : w.heap[rb]? = some (.cells (cellsOf (pack m f)) 5 (0, 0))
theorem VecR.cells {w : World} {g rb m bits probes : Nat} {f : Nat → Bool} (V : VecR w g rb m bits probes f) :
    w.cell? ⟨g, 0, none⟩ = some (.slice (some ⟨rb, 0, none⟩) m m) ∧ w.cell? ⟨g, 1, none⟩ = some (.int .i64 bits) ∧ w.cell? ⟨g, 2, none⟩ = some (.int .i64 probes) := by
  refine ⟨?_, ?_, ?_⟩ <;> rw [cell_of_row _ _ _ _ _ _ V.obj] <;> rfl
theorem VecR.byte {w : World} {g rb m bits probes : Nat} {f : Nat → Bool} (V : VecR w g rb m bits probes f) (i : Nat) (hi : i < m) : w.cell? ⟨rb, i, none⟩ = some (.int .u8 (byteN f i)) := by
  rw [cell_of_row _ _ _ _ _ _ V.row, cellsOf_get _ _ (by rw [pack_length]; exact hi), pack_get _ _ _ hi]
theorem VecR.set {w : World} {g rb m bits probes : Nat} {f f' : Nat → Bool} (V : VecR w g rb m bits probes f) (hgh : g ≠ rb) (i : Nat) (hi : i < m) (hf : ∀ k, k < 8 * m → k / 8 ≠ i → f' k = f k) (v : Value) (hv : v = .int .u8 (byteN f' i)) :
    VecR (w.setCell ⟨rb, i, none⟩ v) g rb m bits probes f' := by
  subst hv
  refine ⟨?_, ?_⟩
  · rw [Below.heap_setCell _ _ _ _ hgh]; exact V.obj
  · rw [setCell_row V.row, cellsOf_set, pack_set _ _ _ _ hi hf]
theorem VecR.congr {w : World} {g rb m bits probes : Nat} {f f' : Nat → Bool} (V : VecR w g rb m bits probes f) (h : ∀ k, k < 8 * m → f k = f' k) : VecR w g rb m bits probes f' := ⟨V.obj, by rw [← pack_ext m f f' h]; exact V.row⟩
theorem VecR.drewN {w : World} {g rb m bits probes : Nat} {f : Nat → Bool} (V : VecR w g rb m bits probes f) (n : Nat) : VecR (w.drewN n) g rb m bits probes f := ⟨V.obj, V.row⟩

/-- What the bits of bytes do. -/
def orAll (bits : Nat) (f : Nat → Bool) (b : List Int) : Nat → Bool := fun q => f q || (decide (q < bits) && bitOf b q)

/-- One round of Or's loop, at bytes x and y. -/
theorem or_byte {x y : Nat} (hx : x < 256) (hy : y < 256) : Go.bits BinOp.or IntKind.u8 (x : Int) (y : Int) = ((x ||| y : Nat) : Int) := u8_or_nat x y hx hy

set_option maxHeartbeats 400000 in
theorem Or_core (g rb m n N bits probes over : Nat) (f : Nat → Bool) (A : Option Addr) (c : Nat) (b : List Int) (w : World) (V : VecR w g rb m bits probes f) (hgh : g ≠ rb) (hr : Ints .u8 w A b) (hb : Bytes b) (hn : b.length = n) (hl : n ≤ 1000000000000000) (hm : m ≤ 200000) (hbits : bits ≤ 1048576) (hA : ∀ ad, A = some ad → 0 < n → ad.block ≠ rb)
    (hN1 : N ≤ n) (hN2 : N ≤ m) (hN3 : n ≤ N ∨ m ≤ N) (hand : Go.bits BinOp.and IntKind.i64 (bits : Int) 7 = (over : Int)) (ho1 : over < 8) (ho2 : bits = 8 * m ∧ over = 0 ∨ 0 < over ∧ 0 < m)
    (hF : ∀ k, k < 8 * m → (upF (orF f b N) bits) k = orAll bits f b k) (hF0 : over = 0 → ∀ k, k < 8 * m → orF f b N k = orAll bits f b k) (hU : 0 < over → ∀ f' : Nat → Bool, ∀ k, k / 8 ≠ m - 1 → k < 8 * m → upF f' bits k = f' k)
    (hM : 0 < over → ∀ f' : Nat → Bool, Value.int .u8 (Go.bits BinOp.and IntKind.u8 ((byteN f' (m - 1) : Nat) : Int) ((2 ^ over - 1) % 256)) = .int .u8 ((byteN (upF f' bits) (m - 1) : Nat) : Int)) :
    Calls Try.prog 11 #[.pointer (some ⟨g, 0, none⟩), .slice A n c] w fun e w' => e = .returned (.tuple #[]) ∧ w.grownBy w' (some rb) ∧ VecR w' g rb m bits probes (orAll bits f b) := by
  obtain ⟨c0, c1, c2⟩ := V.cells
  have HV := Lib.hid V
  have HR := Lib.hid hr
  have HB := Lib.hid hb
  have HN := Lib.hid hn
  have HF := Lib.hid hF
  have HF0 := Lib.hid hF0
  have HU := Lib.hid hU
  have HM := Lib.hid hM
  clear V hr hb hn hF hF0 hU hM
  go_enter Try.func11, Try.ntmps11
  go_wp2_with fail
  all_goals
    go_loopg [16] N (fun kq v16 w' => ∃ i : Nat, v16 = .int .i64 (i : Int) ∧ i + kq = N ∧ VecR w' g rb m bits probes (orF f b i) ∧ w.grownBy w' (some rb))
    case atStart => exact ⟨0, rfl, by omega, by rw [orF_zero]; exact HV.out, World.grownBy.refl _ _⟩
    case round =>
      obtain ⟨i, rfl, hi, VR, G⟩ := hrel
      obtain ⟨d0, d1, d2⟩ := VR.cells
      by_cases hlt : i < N
      · have db := VR.byte i (by omega)
        obtain ⟨ad, e, hc⟩ := HR.out i (by rw [HN.out]; omega)
        subst e
        have hne := hA ad rfl (by omega)
        have hca : wr.cell? (ad.add i) = some (.int .u8 (b.getD i 0)) := by
          rw [World.cell?_of_block (w := w) (G.block _ (cell_lt hc) (by rw [add_block]; simpa using hne))]; exact hc
        have df := free_row VR.row i
        have hbb := HB.out i
        have hlb := byteN_lt (orF f b i) i
        have hfar : ∀ k, k < 8 * m → k / 8 ≠ i → orF f b (i + 1) k = orF f b i k := fun k _ hk => orF_far f b i k hk
        obtain ⟨z, hz⟩ : ∃ z : Nat, b.getD i 0 = z := ⟨(b.getD i 0).toNat, by omega⟩
        have hor := byteN_or f b i (by omega)
        rw [hz] at hca hbb hor
        rw [Int.toNat_natCast] at hor
        have hst := VR.set hgh i (by omega) hfar (.int .u8 (Go.bits BinOp.or IntKind.u8 ((byteN (orF f b i) i : Nat) : Int) (z : Int))) (by rw [or_byte hlb (by omega), hor])
        have HST := Lib.hid hst
        have HG := Lib.hid G
        generalize byteN (orF f b i) i = x at *
        clear VR G hc hz hor hst hfar
        have i0 : (0 : Int) ≤ (i : Int) := by omega
        have i1 : (i : Int) < (m : Int) := by omega
        have i2 : (i : Int) < (n : Int) := by omega
        go_wp2_with fail
        go_region
        go_wp2
        go_roundg (N - (i + 1))
        case measure => omega
        case rel => exact ⟨i + 1, by go_num, by omega, ⟨HST.out.obj, HST.out.row⟩, grown_drewN (grown_trans HG.out (grown_setCell _ _ _ _)) 1⟩
      · obtain rfl : i = N := by omega
        have HG := Lib.hid G
        have HVR := Lib.hid VR
        by_cases ho : over = 0
        · subst ho
          clear VR G
          go_wp2
          go_end0
          exact ⟨rfl, HG.out, HVR.out.congr (HF0.out (by simp))⟩
        · obtain ⟨m, rfl⟩ : ∃ j, m = j + 1 := ⟨m - 1, by omega⟩
          have db := VR.byte m (by omega)
          have df := free_row VR.row m
          have hmask := HM.out (by omega) (orF f b i)
          rw [show m + 1 - 1 = m from rfl] at hmask
          have hst := VR.set hgh m (by omega) (f' := upF (orF f b i) bits) (fun k hk1 hk2 => HU.out (by omega) _ k hk2 hk1) _ hmask
          have HST := Lib.hid hst
          generalize byteN (orF f b i) m = x at *
          clear VR G hmask hst
          go_wp2_with fail
          go_region
          go_end0
          exact ⟨rfl, grown_drewN (grown_trans HG.out (grown_setCell _ _ _ _)) 1, VecR.congr ⟨HST.out.obj, HST.out.row⟩ HF.out⟩

theorem and_i64 (a b : Nat) (ha : a < 9223372036854775808) (hb : b < 9223372036854775808) : Go.bits BinOp.and IntKind.i64 (a : Int) (b : Int) = ((a &&& b : Nat) : Int) := by
  have hx : a &&& b < 2 ^ 63 := Nat.and_lt_two_pow _ (by omega)
  have ofI : ∀ a : Nat, a < 9223372036854775808 → (BitVec.ofInt 64 (a : Int)).toNat = a := fun a ha => by
    rw [BitVec.ofInt_natCast, BitVec.toNat_ofNat]; exact Nat.mod_eq_of_lt (by omega)
  show IntKind.i64.wrap ((BitVec.ofInt 64 (a : Int) &&& BitVec.ofInt 64 (b : Int)).toNat : Int) = _
  rw [BitVec.toNat_and, ofI a ha, ofI b hb, IntKind.wrap_i64]
  omega

theorem mask_byte (f : Nat → Bool) (bits : Nat) : Go.bits BinOp.and IntKind.u8 ((byteN f (bits / 8) : Nat) : Int) ((2 ^ (bits % 8) - 1) % 256) = ((byteN (upF f bits) (bits / 8) : Nat) : Int) := by
  have h1 := byteN_lt f (bits / 8)
  have h2 := pow8 bits
  have h3 := u8_and_nat (byteN f (bits / 8)) (2 ^ (bits % 8) - 1) h1 (by omega)
  rw [byteN_up] at h3
  have h0 : 0 < 2 ^ (bits % 8) := Nat.pow_pos (by decide)
  have e : ((2 : Int) ^ (bits % 8) - 1) % 256 = ((2 ^ (bits % 8) - 1 : Nat) : Int) := by
    rw [cast_pow]
    generalize 2 ^ (bits % 8) = z at *
    omega
  rw [e]; exact h3

theorem Or_anyE (g rb bits probes : Nat) (f : Nat → Bool) (A : Option Addr) (c : Nat) (b : List Int) (w : World) (V : Vec w g rb bits probes f) (hgh : g ≠ rb) (hr : Ints .u8 w A b) (hb : Bytes b) (hl : b.length ≤ 1000000000000000) (hA : ∀ ad, A = some ad → 0 < b.length → ad.block ≠ rb) :
    Calls Try.prog 11 #[.pointer (some ⟨g, 0, none⟩), .slice A b.length c] w fun e w' => e = .returned (.tuple #[]) ∧ w.grownBy w' (some rb) ∧ Vec w' g rb bits probes (orAll bits f b) := by
  have hlim := V.lim
  have hlim1 := hlim.1
  have hout := V.out
  obtain ⟨N, hN1, hN2, hN3⟩ : ∃ N, N ≤ b.length ∧ N ≤ (bits + 7) / 8 ∧ (b.length ≤ N ∨ (bits + 7) / 8 ≤ N) := by
    by_cases hq : b.length ≤ (bits + 7) / 8
    · exact ⟨b.length, by omega, hq, by omega⟩
    · exact ⟨(bits + 7) / 8, by omega, by omega, by omega⟩
  have hbit : ∀ q, 8 * b.length ≤ q → bitOf b q = false := by
    intro q hq
    unfold bitOf
    rw [List.getD_eq_getElem?_getD, List.getElem?_eq_none (by omega)]
    simp
  have hor : ∀ k, k < 8 * ((bits + 7) / 8) → upF (orF f b N) bits k = orAll bits f b k := by
    intro k hk
    unfold upF orF orAll
    by_cases hb1 : k < bits
    · by_cases hb2 : k < 8 * N
      · simp [hb1, hb2]
      · rw [hbit k (by omega)]; simp [hb1]
    · rw [hout k (by omega)]; simp [hb1]
  refine (Or_core g rb ((bits + 7) / 8) b.length N bits probes (bits % 8) f A c b w ⟨V.obj, V.row⟩ hgh hr hb rfl hl (by omega) hlim1 hA hN1 hN2 hN3 ?_ (by omega) (by omega) hor ?_ ?_ ?_).mono ?_
  · have := and_i64 bits 7 (by omega) (by omega)
    rw [nat_mask3] at this
    exact this
  · intro h0 k hk
    rw [← hor k hk]
    unfold upF
    simp [show k < bits from by omega]
  · intro h0 f' k hk1 hk2
    unfold upF
    simp [show k < bits from by omega]
  · intro h0 f'
    rw [show (bits + 7) / 8 - 1 = bits / 8 from by omega, mask_byte]
  · rintro e w' ⟨rfl, hg, hv⟩
    refine ⟨rfl, hg, ⟨hv.obj, hv.row, hlim, ?_⟩⟩
    intro p hp
    unfold orAll
    rw [hout p hp]
    simp [show ¬ p < bits from by omega]
theorem Or_any (g rb bits probes : Nat) (f : Nat → Bool) (A : Option Addr) (c : Nat) (b : List Int) (w : World) (V : Vec w g rb bits probes f) (hgh : g ≠ rb) (hr : Ints .u8 w A b) (hb : Bytes b) (hl : b.length ≤ 1000000000000000) (hA : ∀ ad, A = some ad → ad.block ≠ rb) :
    Calls Try.prog 11 #[.pointer (some ⟨g, 0, none⟩), .slice A b.length c] w fun e w' => e = .returned (.tuple #[]) ∧ w.grownBy w' (some rb) ∧ Vec w' g rb bits probes (orAll bits f b) := Or_anyE g rb bits probes f A c b w V hgh hr hb hl (fun ad h _ => hA ad h)

end Go.Proofs.Yteodhbkhkecigaa
