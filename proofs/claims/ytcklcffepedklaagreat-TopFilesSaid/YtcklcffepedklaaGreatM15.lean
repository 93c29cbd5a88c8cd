/- Texts of the proof, one behind the other: bloom: a key's places. -/
import Derived.Test.YtcklcffepedklaaGreatM14
namespace Go.Proofs.YtcklcffepedklaaGreat.Bl
open Go.RowKit

/-- Four bytes as a number. -/
def word4 (a b c d : Nat) : Nat := ((a * 256 + b) * 256 + c) * 256 + d
theorem word4_lt {a b c d : Nat} (ha : a < 256) (hb : b < 256) (hc : c < 256) (hd : d < 256) : word4 a b c d < 4294967296 := by unfold word4; omega

theorem word4_or {a b c d : Nat} (ha : a < 256) (hb : b < 256) (hc : c < 256) (hd : d < 256) :
    bits BinOp.or IntKind.u32 (bits BinOp.or IntKind.u32 (bits BinOp.or IntKind.u32 ((a : Int) * 16777216) ((b : Int) * 65536)) ((c : Int) * 256)) (d : Int) = ((word4 a b c d : Nat) : Int) := by
  have e1 : bits BinOp.or IntKind.u32 ((a : Int) * 16777216) ((b : Int) * 65536) = ((a * 16777216 + b * 65536 : Nat) : Int) := by
    rw [← nat_join 24 (a * 16777216) (b * 65536) (by omega) (by omega)]
    exact u32_or_nat (a * 16777216) (b * 65536) (by omega) (by omega)
  have e2 : bits BinOp.or IntKind.u32 ((a * 16777216 + b * 65536 : Nat) : Int) ((c : Int) * 256) = ((a * 16777216 + b * 65536 + c * 256 : Nat) : Int) := by
    rw [← nat_join 16 (a * 16777216 + b * 65536) (c * 256) (by omega) (by omega)]
    exact u32_or_nat (a * 16777216 + b * 65536) (c * 256) (by omega) (by omega)
  have e3 : bits BinOp.or IntKind.u32 ((a * 16777216 + b * 65536 + c * 256 : Nat) : Int) (d : Int) = ((a * 16777216 + b * 65536 + c * 256 + d : Nat) : Int) := by
    rw [← nat_join 8 (a * 16777216 + b * 65536 + c * 256) d (by omega) (by omega)]
    exact u32_or_nat (a * 16777216 + b * 65536 + c * 256) d (by omega) (by omega)
  rw [e1, e2, e3]
  unfold word4
  omega

set_option maxRecDepth 20000 in
theorem word_any (g o n : Nat) (a b c d : Nat) (w : World) (hn : 4 ≤ n) (ha : a < 256) (hb : b < 256) (hc : c < 256) (hd : d < 256) (c0 : w.cell? ⟨g, o, none⟩ = some (.int .u8 a)) (c1 : w.cell? ⟨g, o + 1, none⟩ = some (.int .u8 b)) (c2 : w.cell? ⟨g, o + 2, none⟩ = some (.int .u8 c)) (c3 : w.cell? ⟨g, o + 3, none⟩ = some (.int .u8 d)) :
    Calls Tryz.prog 134 #[.slice (some ⟨g, o, none⟩) 4 n] w fun e w' => e = .returned (.int .u32 (word4 a b c d)) ∧ ∃ k, w' = w.drewN k := by
  go_enter Tryz.func134, Tryz.ntmps134
  go_wp2
  go_quiet (fail)
  go_wp2
  go_ret
  exact ⟨ret_int (word4_or ha hb hc hd), nq, rfl⟩

/-- A key's cells: 32 bytes b, and its number n. -/
structure KeyC (k : Array Value) (b : Nat → Nat) (n : Nat) : Prop where
  size : k.size = 33
  byte : ∀ i, i < 32 → k[i]? = some (.int .u8 (b i))
  lt : ∀ i, b i < 256
  num : k[32]? = some (.int .u32 n)
  nlt : n < 4294967296

def keyX (b : Nat → Nat) (n : Nat) : Nat := (word4 (b 0) (b 1) (b 2) (b 3) + n) % 4294967296
def keyS (b : Nat → Nat) : Nat := word4 (b 4) (b 5) (b 6) (b 7) ||| 1
theorem keyS_lt (b : Nat → Nat) (h : ∀ i, b i < 256) : keyS b < 4294967296 := Nat.or_lt_two_pow (n := 32) (word4_lt (h _) (h _) (h _) (h _)) (by decide)
/-- A key's places in a summary. -/
def placesK (bits probes : Nat) (b : Nat → Nat) (n : Nat) : List Nat := if bits = 0 then [] else places bits probes (keyX b n) (keyS b)

theorem is_at (g h bits probes : Nat) (f : Nat → Bool) (p : Nat) (z : Int) (w : World) (V : Vec w g h bits probes f) (hp : p < bits) (hz : z = p) :
    Calls Tryz.prog 102 #[.pointer (some ⟨g, 0, none⟩), .int .u32 z] w fun e w' => e = .returned (.bool (f p)) ∧ w = w' := by subst hz; exact is_any g h bits probes f p w V hp
theorem set_at (g h bits probes : Nat) (f : Nat → Bool) (p : Nat) (z : Int) (w : World) (V : Vec w g h bits probes f) (hgh : g ≠ h) (hp : p < bits) (hz : z = p) :
    Calls Tryz.prog 115 #[.pointer (some ⟨g, 0, none⟩), .int .u32 z] w fun e w' => e = .returned (.bool true) ∧ w.grownBy w' (some h) ∧ Vec w' g h bits probes (put f p) := by subst hz; exact set_any g h bits probes f p w V hgh hp

set_option maxRecDepth 20000 in
theorem each_is (g h bits probes : Nat) (f : Nat → Bool) (k : Array Value) (b : Nat → Nat) (n : Nat) (w : World) (V : Vec w g h bits probes f) (K : KeyC k b n) :
    Calls Tryz.prog 103 #[.pointer (some ⟨g, 0, none⟩), .agg k, .func (.func 102) #[.pointer (some ⟨g, 0, none⟩)] #[]] w fun e w' => e = .returned (.bool ((placesK bits probes b n).all f)) ∧ w.grownBy w' none := by
  have hV : ∀ m, Vec ((w.alloc (.cells k 64)).drewN m) g h bits probes f := fun m => V.kept (grown_drewN (grown_alloc w (.cells k 64) none) m) (by simp) (by simp)
  have hV0 : Vec (w.alloc (.cells k 64)) g h bits probes f := V.kept (grown_alloc w (.cells k 64) none) (by simp) (by simp)
  obtain ⟨c0, c1, c2⟩ := hV0.cells
  have hl := V.lim
  have HK := Lib.hid (show ∀ m i, i < 32 → ((w.alloc (.cells k 64)).drewN m).cell? ⟨w.heap.size, i, none⟩ = some (.int .u8 (b i)) from fun m i hi => (World.cell?_alloc_new w k 64 i).trans (K.byte i hi))
  have hN : (w.alloc (.cells k 64)).cell? ⟨w.heap.size, 32, none⟩ = some (.int .u32 n) := (World.cell?_alloc_new w k 64 32).trans K.num
  have HG := Lib.hid (grown_alloc w (.cells k 64) none)
  have HV := Lib.hid hV
  have hlt := K.lt
  have hn := K.nlt
  have hw1 := word4_lt (hlt 0) (hlt 1) (hlt 2) (hlt 3)
  have hw2 := word4_lt (hlt 4) (hlt 5) (hlt 6) (hlt 7)
  have HLT := Lib.hid hlt
  have hor : Go.bits BinOp.or IntKind.u32 ((word4 (b 4) (b 5) (b 6) (b 7) : Nat) : Int) 1 = ((keyS b : Nat) : Int) := u32_or_nat _ 1 hw2 (by decide)
  clear hV hlt
  by_cases hb0 : bits = 0
  · subst hb0
    have HE := Lib.hid (show placesK 0 probes b n = [] from rfl)
    go_enter Tryz.func103, Tryz.ntmps103
    go_wp2
    go_ret
    rw [HE.out]
    exact ⟨rfl, HG.out⟩
  · have hb1 : ((bits : Int) == 0) = false := by simp; omega
    have HE := Lib.hid (show placesK bits probes b n = places bits probes (keyX b n) (keyS b) from if_neg hb0)
    go_enter Tryz.func103, Tryz.ntmps103
    go_wp2
    generalize w.alloc (.cells k 64) = W at *
    have HW1 := Lib.hid (show ∀ m, Calls Tryz.prog 134 #[.slice (some ⟨w.heap.size, 0, none⟩) 4 32] (W.drewN m) fun e w' => e = .returned (.int .u32 (word4 (b 0) (b 1) (b 2) (b 3))) ∧ ∃ j, w' = (W.drewN m).drewN j from fun m =>
      word_any _ 0 32 _ _ _ _ _ (by decide) (HLT.out _) (HLT.out _) (HLT.out _) (HLT.out _) (HK.out m 0 (by decide)) (HK.out m 1 (by decide)) (HK.out m 2 (by decide)) (HK.out m 3 (by decide)))
    have HW2 := Lib.hid (show ∀ m, Calls Tryz.prog 134 #[.slice (some ⟨w.heap.size, 4, none⟩) 4 28] (W.drewN m) fun e w' => e = .returned (.int .u32 (word4 (b 4) (b 5) (b 6) (b 7))) ∧ ∃ j, w' = (W.drewN m).drewN j from fun m =>
      word_any _ 4 28 _ _ _ _ _ (by decide) (HLT.out _) (HLT.out _) (HLT.out _) (HLT.out _) (HK.out m 4 (by decide)) (HK.out m 5 (by decide)) (HK.out m 6 (by decide)) (HK.out m 7 (by decide)))
    go_quiet ((go_at_call 134; first | (with_reducible exact Calls.quiet_of (HW1.out _)) | (with_reducible exact Calls.quiet_of (HW2.out _))))
    have HVn := Lib.hid (HV.out nq)
    have HGn := Lib.hid (grown_drewN HG.out nq)
    clear HK HV HG HW1 HW2 hN
    have d0 : (W.drewN nq).cell? ⟨g, 1, none⟩ = some (.int .i64 bits) := c1
    have d2 : (W.drewN nq).cell? ⟨g, 2, none⟩ = some (.int .i64 probes) := c2
    clear c0 c1 c2
    go_wp2
    go_loopg [7, 32] probes (fun kq v7 v32 w' => ∃ X : Nat, v7 = .int .u32 X ∧ (∃ i : Nat, v32 = .int .i64 (i : Int) ∧ i + kq = probes) ∧ X < 4294967296 ∧ Hid ((places bits kq X (keyS b)).all f = (placesK bits probes b n).all f) ∧ w' = W.drewN nq)
    case atStart => exact ⟨keyX b n, by unfold keyX; go_num, ⟨0, rfl, by omega⟩, Nat.mod_lt _ (by decide), by rw [HE.out]; exact rfl, rfl⟩
    case round =>
      obtain ⟨X, rfl, ⟨i, rfl, hi⟩, hX, HP, rfl⟩ := hrel
      have hl1 := hl.1
      have hl2 := hl.2
      have hpos : 0 < bits := by omega
      cases gk with
      | zero =>
        have HP' := HP.out
        clear HP
        have HR := Lib.hid (show true = (placesK bits probes b n).all f from HP')
        clear HP'
        go_wp2
        go_ret
        exact ⟨by rw [← HR.out]; rfl, HGn.out⟩
      | succ k1 =>
        have HP' : (f (X % bits) && (places bits k1 ((X + keyS b) % 4294967296) (keyS b)).all f) = (placesK bits probes b n).all f := HP.out
        clear HP
        have hmod : X % bits < bits := Nat.mod_lt _ hpos
        have hS := keyS_lt b HLT.out
        have HC := Lib.hid (is_at g h bits probes f (X % bits) ((X : Int) % (bits : Int)) (W.drewN nq) HVn.out hmod (by omega))
        cases hf : f (X % bits) with
        | false =>
          rw [hf] at HP' HC
          have HR := Lib.hid (show false = (placesK bits probes b n).all f from HP')
          clear HP' hf
          go_wp2_with (go_at_call 102; refine HC.out.mono ?_; rintro e w' ⟨rfl, rfl⟩)
          go_ret
          exact ⟨by rw [← HR.out]; rfl, HGn.out⟩
        | true =>
          rw [hf, Bool.true_and] at HP'
          rw [hf] at HC
          have HR := Lib.hid HP'
          clear HP' hf
          go_wp2_with (go_at_call 102; refine HC.out.mono ?_; rintro e w' ⟨rfl, rfl⟩)
          go_roundg k1
          case measure => omega
          case rel => exact ⟨(X + keyS b) % 4294967296, by go_num, ⟨i + 1, by go_num, by omega⟩, Nat.mod_lt _ (by decide), HR, rfl⟩

set_option maxRecDepth 20000 in
theorem each_set (g h bits probes : Nat) (f : Nat → Bool) (k : Array Value) (b : Nat → Nat) (n : Nat) (w : World) (V : Vec w g h bits probes f) (hgh : g ≠ h) (K : KeyC k b n) :
    Calls Tryz.prog 103 #[.pointer (some ⟨g, 0, none⟩), .agg k, .func (.func 115) #[.pointer (some ⟨g, 0, none⟩)] #[]] w fun e w' => e = .returned (.bool true) ∧ w.grownBy w' (some h) ∧ Vec w' g h bits probes (puts f (placesK bits probes b n)) := by
  have hwg := V.glt
  have hwh := V.hlt
  have hV : ∀ m, Vec ((w.alloc (.cells k 64)).drewN m) g h bits probes f := fun m => V.kept (grown_drewN (grown_alloc w (.cells k 64) none) m) (by simp) (by simp)
  have hV0 : Vec (w.alloc (.cells k 64)) g h bits probes f := V.kept (grown_alloc w (.cells k 64) none) (by simp) (by simp)
  obtain ⟨c0, c1, c2⟩ := hV0.cells
  have hl := V.lim
  have HK := Lib.hid (show ∀ m i, i < 32 → ((w.alloc (.cells k 64)).drewN m).cell? ⟨w.heap.size, i, none⟩ = some (.int .u8 (b i)) from fun m i hi => (World.cell?_alloc_new w k 64 i).trans (K.byte i hi))
  have hN : (w.alloc (.cells k 64)).cell? ⟨w.heap.size, 32, none⟩ = some (.int .u32 n) := (World.cell?_alloc_new w k 64 32).trans K.num
  have HG := Lib.hid (grown_alloc w (.cells k 64) none)
  have HV := Lib.hid hV
  have hlt := K.lt
  have hn := K.nlt
  have hw1 := word4_lt (hlt 0) (hlt 1) (hlt 2) (hlt 3)
  have hw2 := word4_lt (hlt 4) (hlt 5) (hlt 6) (hlt 7)
  have HLT := Lib.hid hlt
  have hor : Go.bits BinOp.or IntKind.u32 ((word4 (b 4) (b 5) (b 6) (b 7) : Nat) : Int) 1 = ((keyS b : Nat) : Int) := u32_or_nat _ 1 hw2 (by decide)
  clear hV hlt
  by_cases hb0 : bits = 0
  · subst hb0
    have HE := Lib.hid (show placesK 0 probes b n = [] from rfl)
    go_enter Tryz.func103, Tryz.ntmps103
    go_wp2
    go_ret
    rw [HE.out, puts_nil]
    exact ⟨rfl, grown_none HG.out _, hV0⟩
  · have hb1 : ((bits : Int) == 0) = false := by simp; omega
    have HE := Lib.hid (show placesK bits probes b n = places bits probes (keyX b n) (keyS b) from if_neg hb0)
    go_enter Tryz.func103, Tryz.ntmps103
    go_wp2
    generalize w.alloc (.cells k 64) = W at *
    have HW1 := Lib.hid (show ∀ m, Calls Tryz.prog 134 #[.slice (some ⟨w.heap.size, 0, none⟩) 4 32] (W.drewN m) fun e w' => e = .returned (.int .u32 (word4 (b 0) (b 1) (b 2) (b 3))) ∧ ∃ j, w' = (W.drewN m).drewN j from fun m =>
      word_any _ 0 32 _ _ _ _ _ (by decide) (HLT.out _) (HLT.out _) (HLT.out _) (HLT.out _) (HK.out m 0 (by decide)) (HK.out m 1 (by decide)) (HK.out m 2 (by decide)) (HK.out m 3 (by decide)))
    have HW2 := Lib.hid (show ∀ m, Calls Tryz.prog 134 #[.slice (some ⟨w.heap.size, 4, none⟩) 4 28] (W.drewN m) fun e w' => e = .returned (.int .u32 (word4 (b 4) (b 5) (b 6) (b 7))) ∧ ∃ j, w' = (W.drewN m).drewN j from fun m =>
      word_any _ 4 28 _ _ _ _ _ (by decide) (HLT.out _) (HLT.out _) (HLT.out _) (HLT.out _) (HK.out m 4 (by decide)) (HK.out m 5 (by decide)) (HK.out m 6 (by decide)) (HK.out m 7 (by decide)))
    go_quiet ((go_at_call 134; first | (with_reducible exact Calls.quiet_of (HW1.out _)) | (with_reducible exact Calls.quiet_of (HW2.out _))))
    have HVn := Lib.hid (HV.out nq)
    have HGn := Lib.hid (grown_drewN HG.out nq)
    clear HK HV HG HW1 HW2 hN
    have d0 : (W.drewN nq).cell? ⟨g, 1, none⟩ = some (.int .i64 bits) := c1
    have d2 : (W.drewN nq).cell? ⟨g, 2, none⟩ = some (.int .i64 probes) := c2
    clear c0 c1 c2
    have HS := Lib.hid (keyS_lt b HLT.out)
    go_wp2
    go_loopg [7, 32] probes (fun kq v7 v32 w' => ∃ X : Nat, v7 = .int .u32 X ∧ (∃ i : Nat, v32 = .int .i64 (i : Int) ∧ i + kq = probes) ∧ X < 4294967296 ∧ ∃ f', Vec w' g h bits probes f' ∧ w.grownBy w' (some h) ∧ Hid (puts f' (places bits kq X (keyS b)) = puts f (placesK bits probes b n)))
    case atStart => exact ⟨keyX b n, by unfold keyX; go_num, ⟨0, rfl, by omega⟩, Nat.mod_lt _ (by decide), f, HVn.out, grown_none HGn.out _, by rw [HE.out]; exact rfl⟩
    case round =>
      obtain ⟨X, rfl, ⟨i, rfl, hi⟩, hX, f', V', G', HP⟩ := hrel
      have hl1 := hl.1
      have hl2 := hl.2
      have hpos : 0 < bits := by omega
      obtain ⟨_, d1, d2⟩ := V'.cells
      cases gk with
      | zero =>
        have HP' := HP.out
        clear HP
        have HR := Lib.hid (show f' = puts f (placesK bits probes b n) from by rw [← HP']; exact (puts_nil f').symm)
        clear HP'
        go_wp2
        go_ret
        exact ⟨rfl, G', by rw [← HR.out]; exact V'⟩
      | succ k1 =>
        have HP' : puts (put f' (X % bits)) (places bits k1 ((X + keyS b) % 4294967296) (keyS b)) = puts f (placesK bits probes b n) := by rw [puts_cons]; exact HP.out
        clear HP
        have hmod : X % bits < bits := Nat.mod_lt _ hpos
        have hS := HS.out
        have HC := Lib.hid (set_at g h bits probes f' (X % bits) ((X : Int) % (bits : Int)) wr V' hgh hmod (by omega))
        have HR := Lib.hid HP'
        have HG' := Lib.hid G'
        clear HP' G' V'
        go_wp2_with (go_at_call 115; refine HC.out.mono ?_; rintro e w2 ⟨rfl, hg2, hv2⟩)
        have hg3 := grown_trans HG'.out hg2
        go_roundg k1
        case measure => omega
        case rel => exact ⟨(X + keyS b) % 4294967296, by go_num, ⟨i + 1, by go_num, by omega⟩, Nat.mod_lt _ (by decide), _, hv2, hg3, HR⟩

end Go.Proofs.YtcklcffepedklaaGreat.Bl
