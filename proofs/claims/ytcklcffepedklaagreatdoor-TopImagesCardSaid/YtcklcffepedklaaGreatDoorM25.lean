/- Texts of the proof, one behind the other: slot: Lay, Take. slot: Newer. home: New, Room, area. home: read. -/
import Derived.Test.YtcklcffepedklaaGreatDoorM24
namespace Go.Proofs.YtcklcffepedklaaGreatDoor
open Go.RowKit

set_option maxRecDepth 20000 in
theorem SLay_any (s : Slt) (hs : s.Ok) (w : World) : Calls Tryz.prog 33 #[.agg (slC s).toArray] w fun e w' => ∃ g, e = .returned (.slice (some ⟨g, 0, none⟩) 128 128) ∧ w.heap.size ≤ g ∧ w'.heap[g]? = some (.cells (cellsOf (layS s)) 115 (0, 0)) ∧ Below w.heap.size w w' := by
  have HLY := Lib.hid (fun W => lay_any s hs W)
  obtain ⟨gen, area, size, sum⟩ := s
  have HZ := Lib.hid zeroSS
  have hs128 : ((layS ⟨gen, area, size, sum⟩).map (Value.int .u8)).length = 128 := by rw [List.length_map, layS_length]
  have HSZ := Lib.hid (show (Tryz.prog.info? 115).map (·.size) = some ((layS ⟨gen, area, size, sum⟩).map (Value.int .u8)).toArray.size by rw [List.size_toArray]; exact sizeSS hs128)
  have HZS := Lib.hid (show zSec.toArray.size = ((layS ⟨gen, area, size, sum⟩).map (Value.int .u8)).toArray.size by rw [List.size_toArray, List.size_toArray, hs128]; rfl)
  obtain ⟨X, hX⟩ : ∃ X, ((layS ⟨gen, area, size, sum⟩).map (Value.int .u8)).toArray = X := ⟨_, rfl⟩
  have HX1 := Lib.hid (show X.all (·.oneCell') = true from hX ▸ all_one (ints_one _ _))
  rw [hX] at HLY HSZ HZS
  have HXX := Lib.hid (show X = cellsOf (layS ⟨gen, area, size, sum⟩) from hX.symm)
  have hb1 : Below w.heap.size w (w.alloc (.cells #[.int .u64 gen, .int .u8 area, .int .u32 size, .int .u32 sum] 71)) := (Below.refl _ _).alloc (Nat.le_refl _) _
  have HB1 := Lib.hid hb1
  clear hs hs128 hX hb1
  unfold slC at *
  go_enter Tryz.func33, Tryz.ntmps33
  go_wp2_with fail
  refine (HLY.out _).mono ?_
  rintro e w1 ⟨rfl, hb⟩
  have HB2 := Lib.hid (HB1.out.trans (hb.mono HB1.out.size))
  clear hb
  go_wp2_with (first | (with_reducible refine wpList_fresh rfl rfl 115 rfl _ _ rfl X zSec.toArray (fun _ => rfl) (fun _ => rfl) HZ.out HSZ.out HZS.out HX1.out ?_; intro g3 w3 hg3 hr3 hb3) | fail)
  go_ret
  exact ⟨g3, rfl, by rw [hg3.out]; exact HB2.out.size, by rw [← HXX.out]; exact hr3.out, HB2.out.trans (hb3.out.mono HB2.out.size)⟩

/-- What a sector says. -/
def rdS (b : List Int) : Slt := ⟨(numL (b.take 8)).toNat, (numL ((b.drop 8).take 1)).toNat, (numL ((b.drop 9).take 4)).toNat, (numL ((b.drop 13).take 4)).toNat⟩
def takeS (b : List Int) : Option Slt := if (rdS b).gen = 0 ∨ layS (rdS b) ≠ b then none else some (rdS b)
theorem numL_cast {l : List Int} (h : Bytes l) : numL l = ((numL l).toNat : Int) ∧ (numL l).toNat < 256 ^ l.length := by
  obtain ⟨z, hz, hl⟩ := numL_nat l h
  rw [hz]; exact ⟨by rw [Int.toNat_natCast], by rw [Int.toNat_natCast]; exact hl⟩
theorem rdS_ok {b : List Int} (h : Bytes b) : (rdS b).Ok := by
  have p : ∀ (l : List Int) (k m : Nat), Bytes l → l.length ≤ k → 256 ^ k = m → (numL l).toNat < m := fun l k m hl hk e => by
    have h1 := (numL_cast hl).2
    have h2 : 256 ^ l.length ≤ 256 ^ k := Nat.pow_le_pow_right (by decide) hk
    omega
  exact ⟨p _ 8 _ (h.take _) (by simp; omega) (by decide), p _ 1 _ ((h.drop _).take _) (by simp; omega) (by decide), p _ 4 _ ((h.drop _).take _) (by simp; omega) (by decide), p _ 4 _ ((h.drop _).take _) (by simp; omega) (by decide)⟩
def zSl : Array Value := #[.int .u64 0, .int .u8 0, .int .u32 0, .int .u32 0]
/-- What Take answers. -/
def takeR (o : Option Slt) : Value := match o with
  | none => .tuple #[.agg zSl, .int .i64 100]
  | some s => .tuple #[.agg (slC s).toArray, .int .i64 0]
theorem exec_eqS {ρ : Operand → Value} {w : World} {o : Oper} (op : BinOp) (x y : Operand) (t2 : TypeId) (ho : o.op = .binOp op 115 x y t2) (u v r : Value) (hx : ρ x = u) (hy : ρ y = v) (hg : (eqGuard op 115 x y u v).run Tryz.prog w = .ok () w) (hr : (binOp op 115 u v).run Tryz.prog w = .ok r w) : (execOp ρ o).run Tryz.prog w = .ok (.value r) w := by
  unfold execOp
  simp only [ho, hx, hy, Sem.run_bind, hg, hr, Result.andThen_ok, Sem.run_pure]
theorem guardS (op : BinOp) (x y : Operand) (xs ys : Array Value) (w : World) : (eqGuard op 115 x y (.agg xs) (.agg ys)).run Tryz.prog w = .ok () w := run_eqGuard_agg w op _ x y xs ys (by decide +kernel)
theorem size5 (w : World) : (sizeOf 5).run Tryz.prog w = .ok 1 w := by
  obtain ⟨i0, hi, _, hz1, _⟩ := info_parts Tryz.info5
  simp [sizeOf, typeInfo, hi, hz1]
theorem run_neS (a b : List Int) (ha : a.length = 128) (hb : b.length = 128) (w : World) : (binOp .neq 115 (.agg (a.map (Value.int .u8)).toArray) (.agg (b.map (Value.int .u8)).toArray)).run Tryz.prog w = .ok (.bool (!(a == b))) w := by
  rw [run_neq_struct, run_equalIn_ints w 9998 115 5 128 .u8 Tryz.underlying115 Tryz.underlying5 size5 _ _ ha hb]; rfl
theorem arrayS_at (g o cb : Nat) (W : World) : (Instr.arrayAt 115 (.slice (some ⟨g, o, none⟩) 128 cb)).run Tryz.prog W = .ok (.pointer (some ⟨g, o, none⟩)) W := by
  simp [Instr.arrayAt, run_underlying Tryz.underlying115]
theorem zeroSl (w : World) : (zeroValue 71).run Tryz.prog w = .ok (.agg zSl) w := by kernel_rfl
set_option maxRecDepth 20000 in
set_option maxHeartbeats 1600000 in
theorem STake_any (g o c : Nat) (b : List Int) (w : World) (hb : b.length = 128) (hB : Bytes b) (hI : Ints .u8 w (some ⟨g, o, none⟩) b) :
    Calls Tryz.prog 85 #[.slice (some ⟨g, o, none⟩) 128 c] w fun e w' => e = .returned (takeR (takeS b)) ∧ Below w.heap.size w w' := by
  obtain ⟨g2, hg2⟩ : ∃ g2, w.heap.size = g2 := ⟨_, rfl⟩
  have hb2 : Below g2 w (w.alloc (.cells #[.int .u64 0, .int .u8 0, .int .u32 0, .int .u32 0] 71)) := by rw [← hg2]; exact (Below.refl _ _).alloc (Nat.le_refl _) _
  have hr2 : (w.alloc (.cells #[.int .u64 0, .int .u8 0, .int .u32 0, .int .u32 0] 71)).heap[g2]? = some (.cells zSl 71 (0, 0)) := by rw [← hg2]; exact heap_alloc_last _ _
  have HG2 := Lib.hid hg2
  have HB2 := Lib.hid hb2
  have HR2 := Lib.hid hr2
  have hI2 := hI.below (by rw [← hg2] at hb2; exact hb2)
  have HRN := Lib.hid (RNew_any (some ⟨g, o, none⟩) 128 c b _ hb (by decide) hI2 hB (fun h => by cases h))
  have HBB := Lib.hid (And.intro hb hB)
  have HIB := Lib.hid hI2
  clear hb2 hr2 hI hI2 hB
  go_enter Tryz.func85, Tryz.ntmps85
  go_wp2_with fail
  refine HRN.out.mono ?_
  rintro e w3 ⟨r, rfl, hr, hrd, hb3⟩
  have HB3 := Lib.hid (HB2.out.trans (hb3.mono (by have := HB2.out.size; omega)))
  have HRR := Lib.hid (show g2 + 1 ≤ r by have := row_lt HR2.out; omega)
  have hr23 := (hb3.block g2 (row_lt HR2.out)).trans HR2.out
  have hi3 := HIB.out.below hb3
  have hgl := row_lt HR2.out
  have HR23 := Lib.hid hr23
  have HI3 := Lib.hid hi3
  have HRD3 := Lib.hid hrd
  have hc1 := numL_cast (HBB.out.2.take 8)
  have hc2 := numL_cast ((HBB.out.2.drop 8).take 1)
  have hc3 := numL_cast ((HBB.out.2.drop 9).take 4)
  have hc4 := numL_cast ((HBB.out.2.drop 13).take 4)
  have hok := rdS_ok HBB.out.2
  obtain ⟨sl, hsl⟩ : ∃ sl, rdS b = sl := ⟨_, rfl⟩
  have hTK : takeS b = if sl.gen = 0 ∨ layS sl ≠ b then none else some sl := by rw [takeS, hsl]
  rw [hsl] at hok
  have hq1 : numL (b.take 8) = (sl.gen : Int) := by rw [hc1.1, ← hsl]; rfl
  have hq2 : numL ((b.drop 8).take 1) = (sl.area : Int) := by rw [hc2.1, ← hsl]; rfl
  have hq3 : numL ((b.drop 9).take 4) = (sl.size : Int) := by rw [hc3.1, ← hsl]; rfl
  have hq4 : numL ((b.drop 13).take 4) = (sl.sum : Int) := by rw [hc4.1, ← hsl]; rfl
  have HLY := Lib.hid (fun W => lay_any sl hok W)
  have HOK := Lib.hid hok
  have HTK := Lib.hid hTK
  have hl1 : (b.drop 8).length = 120 := by rw [List.length_drop, hb]
  have hl2 : (b.drop 9).length = 119 := by rw [List.length_drop, hb]
  have hl3 : (b.drop 13).length = 115 := by rw [List.length_drop, hb]
  have HQ := Lib.hid (And.intro hq1 (And.intro hq2 (And.intro hq3 hq4)))
  have HLN := Lib.hid (And.intro hl1 (And.intro hl2 hl3))
  obtain ⟨gen, area, size, sum⟩ := sl
  have u1 : IntKind.u8.wrap (area : Int) = (area : Int) := by rw [IntKind.wrap_u8]; have := hok.a; simp only at this; omega
  have u2 : IntKind.u32.wrap (size : Int) = (size : Int) := by rw [IntKind.wrap_u32]; have := hok.z; simp only at this; omega
  have u3 : IntKind.u32.wrap (sum : Int) = (sum : Int) := by rw [IntKind.wrap_u32]; have := hok.m; simp only at this; omega
  clear hrd hb3 hr23 hi3 hc1 hc2 hc3 hc4 hok hsl hTK hq1 hq2 hq3 hq4 hl1 hl2 hl3 hr hgl hg2
  go_wp2_with fail
  refine (Get_any r b 8 w3 HRD3.out (by decide) (by decide) (by rw [HBB.out.1]; decide)).mono ?_
  rintro e w4 ⟨rfl, hg4, hrd4⟩
  rw [HQ.out.1]
  have HRD4 := Lib.hid hrd4
  have HG4 := Lib.hid hg4
  clear hrd4 hg4
  go_wp2_with fail
  refine (Get_any r (b.drop 8) 1 w4 HRD4.out (by decide) (by decide) (by rw [HLN.out.1]; decide)).mono ?_
  rintro e w5 ⟨rfl, hg5, hrd5⟩
  rw [HQ.out.2.1]
  rw [List.drop_drop] at hrd5
  have HRD5 := Lib.hid (show Rd w5 r (b.drop 9) from hrd5)
  have HG5 := Lib.hid (HG4.out.trans hg5)
  clear hrd5 hg5
  go_wp2_with fail
  refine (Get_any r (b.drop 9) 4 w5 HRD5.out (by decide) (by decide) (by rw [HLN.out.2.1]; decide)).mono ?_
  rintro e w6 ⟨rfl, hg6, hrd6⟩
  rw [HQ.out.2.2.1]
  rw [List.drop_drop] at hrd6
  have HRD6 := Lib.hid (show Rd w6 r (b.drop 13) from hrd6)
  have HG6 := Lib.hid (HG5.out.trans hg6)
  clear hrd6 hg6
  go_wp2_with fail
  refine (Get_any r (b.drop 13) 4 w6 HRD6.out (by decide) (by decide) (by rw [HLN.out.2.2]; decide)).mono ?_
  rintro e w7 ⟨rfl, hg7, hrd7⟩
  rw [HQ.out.2.2.2]
  have hG7 := HG6.out.trans hg7
  have HC7 := Lib.hid (show Chg (fun k => k = r) w3 w7 from Chg.of_ hG7 (fun k _ e => by injection e with e; exact e.symm))
  have HR27 := Lib.hid ((HC7.out.block g2 (row_lt HR23.out) (by have := HRR.out; omega)).trans HR23.out)
  have HB7 := Lib.hid (HB3.out.trans (HC7.out.below (B := g2) (by have := row_lt HR23.out; omega) (fun k hk => by have := HRR.out; omega)))
  clear hrd7 hg7 hG7
  have HZL := Lib.hid zeroSl
  go_upto_region 6 with (first | (with_reducible refine wpList_fresh rfl rfl 71 rfl _ _ rfl #[.int .u64 gen, .int .u8 area, .int .u32 size, .int .u32 sum] zSl (fun _ => rfl) (fun _ => rfl) HZL.out rfl rfl rfl ?_; intro g9 w9 hg9 hr9 hb9) | fail)
  have hb9 : Below g2 w (w7.alloc (.cells #[.int .u64 gen, .int .u8 area, .int .u32 size, .int .u32 sum] 71)) := HB7.out.alloc (by have := row_lt HR27.out; omega) _
  have hr9 := heap_alloc_last w7 (.cells #[.int .u64 gen, .int .u8 area, .int .u32 size, .int .u32 sum] 71)
  have hr29 := (Below.heap_alloc w7 (.cells #[.int .u64 gen, .int .u8 area, .int .u32 size, .int .u32 sum] 71) g2 (row_lt HR27.out)).trans HR27.out
  have hgb : g < w3.heap.size ∧ ¬ g = r := by
    obtain ⟨ad, e, hc⟩ := HI3.out 0 (by rw [HBB.out.1]; decide)
    injection e with e
    rw [← e] at hc
    have h1 := cell_lt hc
    rw [addr_add0] at h1
    obtain ⟨ad', e', hc'⟩ := HIB.out 0 (by rw [HBB.out.1]; decide)
    injection e' with e'
    rw [← e'] at hc'
    have h2 := cell_lt hc'
    rw [addr_add0] at h2
    have h3 : (w.alloc (.cells #[.int .u64 0, .int .u8 0, .int .u32 0, .int .u32 0] 71)).heap.size = g2 + 1 := by rw [World.size_alloc, HG2.out]
    have h2' : g < (w.alloc (.cells #[.int .u64 0, .int .u8 0, .int .u32 0, .int .u32 0] 71)).heap.size := h2
    exact ⟨h1, by have := HRR.out; omega⟩
  have hi9 := (HI3.out.chg HC7.out (fun ad e _ => by injection e with e; rw [← e]; exact hgb.2)).below ((Below.refl w7.heap.size w7).alloc (Nat.le_refl _) (.cells #[.int .u64 gen, .int .u8 area, .int .u32 size, .int .u32 sum] 71))
  have hlg9 : g < (w7.alloc (.cells #[.int .u64 gen, .int .u8 area, .int .u32 size, .int .u32 sum] 71)).heap.size := by have := HC7.out.size; rw [World.size_alloc]; omega
  obtain ⟨g9, hg9⟩ : ∃ g9, w7.heap.size = g9 := ⟨_, rfl⟩
  rw [hg9] at hr9 ⊢
  generalize w7.alloc (.cells #[.int .u64 gen, .int .u8 area, .int .u32 size, .int .u32 sum] 71) = w9 at hb9 hr9 hr29 hi9 hlg9 ⊢
  have HB9 := Lib.hid hb9
  have HR29 := Lib.hid hr29
  have HROW := Lib.hid hr9
  have HR9 := Lib.hid (show w9.rangeAt g9 0 (slC ⟨gen, area, size, sum⟩) from range_row hr9)
  have HGL := Lib.hid (And.intro (row_lt hr9) hlg9)
  have HSB := Lib.hid (show w9.rangeAt g o (b.map (Value.int .u8)) from fun j v hj => by
    obtain ⟨ad, e, hc⟩ := hi9.news j v hj
    injection e with e
    rw [← e, addr_add0] at hc; exact hc)
  have HAA := Lib.hid (arrayS_at g o c)
  have HSZ := Lib.hid (sizeSS (l := b.map (Value.int .u8)) (by rw [List.length_map, HBB.out.1]))
  have HNE0 := Lib.hid (fun W => run_neS (layS ⟨gen, area, size, sum⟩) b (layS_length _) HBB.out.1 W)
  clear hb9 hr9 hr29 hi9 hlg9 hgb hg9 u1 u2 u3 HZL
  have HNO := Lib.hid (fun (w' : World) (h : Below w9.heap.size w9 w') => show Below g2 w (w'.setRow g2 zSl) from (HB9.out.trans (h.mono (by have := row_lt HR29.out; omega))).grown (grown_setRow _ _ _) (by have := row_lt HR29.out; have := h.size; omega) (fun k hk => by injection hk with hk; omega))
  have HB10 := Lib.hid (fun (wl : World) (h : Below w9.heap.size w9 wl) => (HB9.out.trans (h.mono (by have := row_lt HR29.out; omega)) : Below g2 w wl))
  have HR20 := Lib.hid (fun (wl : World) (h : Below w9.heap.size w9 wl) => ((h.block g2 (row_lt HR29.out)).trans HR29.out))
  have HON := Lib.hid (show ∀ v ∈ ([.int .u64 0, .int .u8 0, .int .u32 0, .int .u32 0] : List Value), v.oneCell' = true from by simp [Value.oneCell'])
  have HON2 := Lib.hid (show ∀ v ∈ slC ⟨gen, area, size, sum⟩, v.oneCell' = true from by simp [slC, Value.oneCell'])
  have HSS := Lib.hid (show (Tryz.prog.info? 71).map (·.size) = some (slC ⟨gen, area, size, sum⟩).length from rfl)
  have HSS2 := Lib.hid (show zSl.size = (slC ⟨gen, area, size, sum⟩).length from rfl)
  by_cases h0 : gen = 0
  · have hT : takeS b = none := by rw [HTK.out, if_pos (.inl h0)]
    have HT := Lib.hid hT
    clear hT
    subst h0
    --[6
    refine wp_region_held_drew (S := fun w' => Below w9.heap.size w9 w') (by kernel_rfl) (((Below.refl _ _).drew)) (fun hHeld => ?_)
    refine held_take 0 (some 32) (v := ?_) rfl rfl (by kernel_rfl) (by kernel_rfl) (by kernel_rfl) (fun _ _ _ h => h) (Or.inl ⟨by rfl, ?_⟩) hHeld ?_
    rotate_left
    · (intro w' hSw; clear hSw; go_simp; try with_reducible rfl)
    try simp only [Act.put, List.setIfInBounds_toArray, List.set_cons_zero, List.set_cons_succ]
    refine held_take 1 (some 33) (v := ?_) rfl rfl (by kernel_rfl) (by kernel_rfl) (by kernel_rfl) (fun _ _ _ h => h) (Or.inl ⟨by rfl, ?_⟩) hHeld ?_
    rotate_left
    · (intro w' hSw; clear hSw; go_simp; try with_reducible rfl)
    try simp only [Act.put, List.setIfInBounds_toArray, List.set_cons_zero, List.set_cons_succ]
    refine held_take 2 (some 34) (v := ?_) rfl rfl (by kernel_rfl) (by kernel_rfl) (by kernel_rfl) (fun _ _ _ h => h) (Or.inl ⟨by rfl, ?_⟩) hHeld ?_
    rotate_left
    · (intro w' hSw; clear hSw; go_simp; try with_reducible rfl)
    try simp only [Act.put, List.setIfInBounds_toArray, List.set_cons_zero, List.set_cons_succ]
    refine held_take 3 (some 35) (v := undef) rfl rfl (by kernel_rfl) (by kernel_rfl) (by kernel_rfl) (fun _ _ _ h => h) (Or.inr ⟨by rfl, rfl⟩) hHeld ?_
    try simp only [Act.put, List.setIfInBounds_toArray, List.set_cons_zero, List.set_cons_succ]
    refine held_take 4 (some 36) (v := undef) rfl rfl (by kernel_rfl) (by kernel_rfl) (by kernel_rfl) (fun _ _ _ h => h) (Or.inr ⟨by rfl, rfl⟩) hHeld ?_
    try simp only [Act.put, List.setIfInBounds_toArray, List.set_cons_zero, List.set_cons_succ]
    refine held_take 5 (some 37) (v := undef) rfl rfl (by kernel_rfl) (by kernel_rfl) (by kernel_rfl) (fun _ _ _ h => h) (Or.inr ⟨by rfl, rfl⟩) hHeld ?_
    try simp only [Act.put, List.setIfInBounds_toArray, List.set_cons_zero, List.set_cons_succ]
    refine held_take 6 (some 38) (v := undef) rfl rfl (by kernel_rfl) (by kernel_rfl) (by kernel_rfl) (fun _ _ _ h => h) (Or.inr ⟨by rfl, rfl⟩) hHeld ?_
    try simp only [Act.put, List.setIfInBounds_toArray, List.set_cons_zero, List.set_cons_succ]
    refine held_take 7 (some 39) (v := undef) rfl rfl (by kernel_rfl) (by kernel_rfl) (by kernel_rfl) (fun _ _ _ h => h) (Or.inr ⟨by rfl, rfl⟩) hHeld ?_
    try simp only [Act.put, List.setIfInBounds_toArray, List.set_cons_zero, List.set_cons_succ]
    refine held_take 8 (some 40) (v := undef) rfl rfl (by kernel_rfl) (by kernel_rfl) (by kernel_rfl) (fun _ _ _ h => h) (Or.inr ⟨by rfl, rfl⟩) hHeld ?_
    try simp only [Act.put, List.setIfInBounds_toArray, List.set_cons_zero, List.set_cons_succ]
    refine held_take 9 (some 41) (v := ?_) rfl rfl (by kernel_rfl) (by kernel_rfl) (by kernel_rfl) (fun _ _ _ h => h) (Or.inl ⟨by rfl, ?_⟩) hHeld ?_
    rotate_left
    · (intro w' hSw; clear hSw; go_simp; try with_reducible rfl)
    try simp only [Act.put, List.setIfInBounds_toArray, List.set_cons_zero, List.set_cons_succ]
    refine wpAnyH_done (by kernel_rfl) ?_ _
    --]6
    generalize w9.drew = wx at hHeld ⊢
    have HRX := Lib.hid (HR20.out _ hHeld)
    have HBX := Lib.hid (HB10.out _ hHeld)
    go_wp2_with (first | (with_reducible refine wpList_store_new rfl 71 _ _ rfl g2 [.int .u64 0, .int .u8 0, .int .u32 0, .int .u32 0] rfl rfl 71 zSl HRX.out rfl rfl HON.out g2 w HBX.out (Nat.le_refl _) ?_; intro w6' hr6 hb6) | fail)
    refine bodyPost_ret (results_cell_tmp_row rfl _ w6' g2 71 #[.int .u64 0, .int .u8 0, .int .u32 0, .int .u32 0] (0, 0) _ _ rfl rfl hr6.out Tryz.underlying71 rfl rfl) rfl ?_
    exact ⟨by rw [HT.out]; rfl, by rw [HG2.out]; exact hb6.out⟩
  by_cases hq : layS ⟨gen, area, size, sum⟩ = b
  · have hT : takeS b = some ⟨gen, area, size, sum⟩ := by rw [HTK.out, if_neg]; rintro (h | h); exact h0 h; exact h hq
    have HT := Lib.hid hT
    have HNE := Lib.hid (fun W => by have := HNE0.out W; rw [show (layS ⟨gen, area, size, sum⟩ == b) = true from beq_iff_eq.2 hq] at this; exact this)
    clear hT hq
    have hgi : ¬ (gen : Int) = 0 := by omega
    have hgb0 : ((gen : Int) == 0) = false := beq_eq_false_iff_ne.2 hgi
    --[8
    refine wp_region_held_drew (S := fun w' => Below w9.heap.size w9 w') (by kernel_rfl) (((Below.refl _ _).drew)) (fun hHeld => ?_)
    refine held_take 0 (some 32) (v := ?_) rfl rfl (by kernel_rfl) (by kernel_rfl) (by kernel_rfl) (fun _ _ _ h => h) (Or.inl ⟨by rfl, ?_⟩) hHeld ?_
    rotate_left
    · (intro w' hSw; clear hSw; go_simp; try with_reducible rfl)
    try simp only [Act.put, List.setIfInBounds_toArray, List.set_cons_zero, List.set_cons_succ]
    refine held_take 1 (some 33) (v := ?_) rfl rfl (by kernel_rfl) (by kernel_rfl) (by kernel_rfl) (fun _ _ _ h => h) (Or.inl ⟨by rfl, ?_⟩) hHeld ?_
    rotate_left
    · (intro w' hSw; clear hSw; go_simp; try with_reducible rfl)
    try simp only [Act.put, List.setIfInBounds_toArray, List.set_cons_zero, List.set_cons_succ]
    refine held_take 2 (some 34) (v := ?_) rfl rfl (by kernel_rfl) (by kernel_rfl) (by kernel_rfl) (fun _ _ _ h => h) (Or.inl ⟨by rfl, ?_⟩) hHeld ?_
    rotate_left
    · (intro w' hSw; clear hSw; go_simp; try with_reducible rfl)
    try simp only [Act.put, List.setIfInBounds_toArray, List.set_cons_zero, List.set_cons_succ]
    refine held_take 3 (some 35) (v := .agg (slC ⟨gen, area, size, sum⟩).toArray) rfl rfl (by kernel_rfl) (by kernel_rfl) (by kernel_rfl) (fun _ _ _ h => h) (yieldsIf_load_mid (by rfl) 71 _ rfl g9 (0) rfl (slC ⟨gen, area, size, sum⟩) _ (fun w' h => rangeAt_block HR9.out (h.block _ HGL.out.1)) Tryz.underlying71 rfl rfl) hHeld ?_
    try simp only [Act.put, List.setIfInBounds_toArray, List.set_cons_zero, List.set_cons_succ]
    refine held_take 5 (some 37) (v := ?_) rfl rfl (by kernel_rfl) (by kernel_rfl) (by kernel_rfl) (fun _ _ _ h => h) (Or.inl ⟨by rfl, ?_⟩) hHeld ?_
    rotate_left
    · (intro w' hSw; clear hSw; go_simp; try with_reducible rfl)
    try simp only [Act.put, List.setIfInBounds_toArray, List.set_cons_zero, List.set_cons_succ]
    refine held_take 6 (some 38) (v := ?_) rfl rfl (by kernel_rfl) (by kernel_rfl) (by kernel_rfl) (fun _ _ _ h => h) (Or.inl ⟨by rfl, ?_⟩) hHeld ?_
    rotate_left
    · (intro w' hSw; have pf := HAA.out w'; clear hSw; go_simp; try with_reducible rfl)
    try simp only [Act.put, List.setIfInBounds_toArray, List.set_cons_zero, List.set_cons_succ]
    refine held_take 7 (some 39) (v := .agg ((b.map (Value.int .u8))).toArray) rfl rfl (by kernel_rfl) (by kernel_rfl) (by kernel_rfl) (fun _ _ _ h => h) (yieldsIf_load_mid (by rfl) 115 _ rfl g (o) rfl ((b.map (Value.int .u8))) _ (fun w' h => rangeAt_block HSB.out (h.block g HGL.out.2)) Tryz.underlying115 rfl HSZ.out) hHeld ?_
    try simp only [Act.put, List.setIfInBounds_toArray, List.set_cons_zero, List.set_cons_succ]
    refine wpAnyH_ready (rs := [4]) (by kernel_rfl) (by simp) ?_
    refine AllReadyH.cons rfl (fun K hKK => ?_) AllReadyH.nil
    go_simp
    go_at_call 62
    refine (HLY.out _).mono ?_
    rintro e wl ⟨rfl, hbl⟩
    have hHl := (hHeld).trans (hbl.mono (hHeld).size)
    refine hKK.out _ _ hHl (fun hHeld => ?_)
    clear hKK K
    try simp only [Act.put, List.setIfInBounds_toArray, List.set_cons_zero, List.set_cons_succ]
    refine held_take 8 (some 40) (v := .bool false) rfl rfl (by kernel_rfl) (by kernel_rfl) (by kernel_rfl) (fun _ _ _ h => h) (yields_val (by go_simp) (fun W _ => exec_eqS .neq _ _ _ rfl (.agg ((layS ⟨gen, area, size, sum⟩).map (Value.int .u8)).toArray) (.agg (b.map (Value.int .u8)).toArray) _ (by go_simp) (by go_simp) (guardS _ _ _ _ _ _) (HNE.out W))) hHeld ?_
    try simp only [Act.put, List.setIfInBounds_toArray, List.set_cons_zero, List.set_cons_succ]
    refine held_take 9 (some 41) (v := ?_) rfl rfl (by kernel_rfl) (by kernel_rfl) (by kernel_rfl) (fun _ _ _ h => h) (Or.inl ⟨by rfl, ?_⟩) hHeld ?_
    rotate_left
    · (intro w' hSw; clear hSw; go_simp; try with_reducible rfl)
    try simp only [Act.put, List.setIfInBounds_toArray, List.set_cons_zero, List.set_cons_succ]
    refine wpAnyH_done (by kernel_rfl) ?_ _
    --]8
    have HRX := Lib.hid (HR20.out _ hHeld)
    have HBX := Lib.hid (HB10.out _ hHeld)
    have HRG9 := Lib.hid (rangeAt_block HR9.out (hHeld.block _ HGL.out.1))
    go_wp2_with (first | (with_reducible refine Go.wpList_load_mid rfl 71 _ rfl g9 0 rfl (slC ⟨gen, area, size, sum⟩) _ HRG9.out Tryz.underlying71 rfl rfl ?_) | (with_reducible refine wpList_store_new rfl 71 _ _ rfl g2 (slC ⟨gen, area, size, sum⟩) rfl rfl 71 zSl HRX.out HSS.out HSS2.out HON2.out g2 w HBX.out (Nat.le_refl _) ?_; intro w6' hr6 hb6) | fail)
    refine bodyPost_ret (results_cell_tmp_row rfl _ w6' g2 71 (slC ⟨gen, area, size, sum⟩).toArray (0, 0) _ _ rfl rfl hr6.out Tryz.underlying71 rfl rfl) rfl ?_
    exact ⟨by rw [HT.out]; rfl, by rw [HG2.out]; exact hb6.out⟩
  · have hT : takeS b = none := by rw [HTK.out, if_pos (.inr hq)]
    have HT := Lib.hid hT
    have HNE := Lib.hid (fun W => by have := HNE0.out W; rw [show (layS ⟨gen, area, size, sum⟩ == b) = false from beq_eq_false_iff_ne.2 hq] at this; exact this)
    clear hT hq
    have hgi : ¬ (gen : Int) = 0 := by omega
    have hgb0 : ((gen : Int) == 0) = false := beq_eq_false_iff_ne.2 hgi
    --[7
    refine wp_region_held_drew (S := fun w' => Below w9.heap.size w9 w') (by kernel_rfl) (((Below.refl _ _).drew)) (fun hHeld => ?_)
    refine held_take 0 (some 32) (v := ?_) rfl rfl (by kernel_rfl) (by kernel_rfl) (by kernel_rfl) (fun _ _ _ h => h) (Or.inl ⟨by rfl, ?_⟩) hHeld ?_
    rotate_left
    · (intro w' hSw; clear hSw; go_simp; try with_reducible rfl)
    try simp only [Act.put, List.setIfInBounds_toArray, List.set_cons_zero, List.set_cons_succ]
    refine held_take 1 (some 33) (v := ?_) rfl rfl (by kernel_rfl) (by kernel_rfl) (by kernel_rfl) (fun _ _ _ h => h) (Or.inl ⟨by rfl, ?_⟩) hHeld ?_
    rotate_left
    · (intro w' hSw; clear hSw; go_simp; try with_reducible rfl)
    try simp only [Act.put, List.setIfInBounds_toArray, List.set_cons_zero, List.set_cons_succ]
    refine held_take 2 (some 34) (v := ?_) rfl rfl (by kernel_rfl) (by kernel_rfl) (by kernel_rfl) (fun _ _ _ h => h) (Or.inl ⟨by rfl, ?_⟩) hHeld ?_
    rotate_left
    · (intro w' hSw; clear hSw; go_simp; try with_reducible rfl)
    try simp only [Act.put, List.setIfInBounds_toArray, List.set_cons_zero, List.set_cons_succ]
    refine held_take 3 (some 35) (v := .agg (slC ⟨gen, area, size, sum⟩).toArray) rfl rfl (by kernel_rfl) (by kernel_rfl) (by kernel_rfl) (fun _ _ _ h => h) (yieldsIf_load_mid (by rfl) 71 _ rfl g9 (0) rfl (slC ⟨gen, area, size, sum⟩) _ (fun w' h => rangeAt_block HR9.out (h.block _ HGL.out.1)) Tryz.underlying71 rfl rfl) hHeld ?_
    try simp only [Act.put, List.setIfInBounds_toArray, List.set_cons_zero, List.set_cons_succ]
    refine held_take 5 (some 37) (v := ?_) rfl rfl (by kernel_rfl) (by kernel_rfl) (by kernel_rfl) (fun _ _ _ h => h) (Or.inl ⟨by rfl, ?_⟩) hHeld ?_
    rotate_left
    · (intro w' hSw; clear hSw; go_simp; try with_reducible rfl)
    try simp only [Act.put, List.setIfInBounds_toArray, List.set_cons_zero, List.set_cons_succ]
    refine held_take 6 (some 38) (v := ?_) rfl rfl (by kernel_rfl) (by kernel_rfl) (by kernel_rfl) (fun _ _ _ h => h) (Or.inl ⟨by rfl, ?_⟩) hHeld ?_
    rotate_left
    · (intro w' hSw; have pf := HAA.out w'; clear hSw; go_simp; try with_reducible rfl)
    try simp only [Act.put, List.setIfInBounds_toArray, List.set_cons_zero, List.set_cons_succ]
    refine held_take 7 (some 39) (v := .agg ((b.map (Value.int .u8))).toArray) rfl rfl (by kernel_rfl) (by kernel_rfl) (by kernel_rfl) (fun _ _ _ h => h) (yieldsIf_load_mid (by rfl) 115 _ rfl g (o) rfl ((b.map (Value.int .u8))) _ (fun w' h => rangeAt_block HSB.out (h.block g HGL.out.2)) Tryz.underlying115 rfl HSZ.out) hHeld ?_
    try simp only [Act.put, List.setIfInBounds_toArray, List.set_cons_zero, List.set_cons_succ]
    refine wpAnyH_ready (rs := [4]) (by kernel_rfl) (by simp) ?_
    refine AllReadyH.cons rfl (fun K hKK => ?_) AllReadyH.nil
    go_simp
    go_at_call 62
    refine (HLY.out _).mono ?_
    rintro e wl ⟨rfl, hbl⟩
    have hHl := (hHeld).trans (hbl.mono (hHeld).size)
    refine hKK.out _ _ hHl (fun hHeld => ?_)
    clear hKK K
    try simp only [Act.put, List.setIfInBounds_toArray, List.set_cons_zero, List.set_cons_succ]
    refine held_take 8 (some 40) (v := .bool true) rfl rfl (by kernel_rfl) (by kernel_rfl) (by kernel_rfl) (fun _ _ _ h => h) (yields_val (by go_simp) (fun W _ => exec_eqS .neq _ _ _ rfl (.agg ((layS ⟨gen, area, size, sum⟩).map (Value.int .u8)).toArray) (.agg (b.map (Value.int .u8)).toArray) _ (by go_simp) (by go_simp) (guardS _ _ _ _ _ _) (HNE.out W))) hHeld ?_
    try simp only [Act.put, List.setIfInBounds_toArray, List.set_cons_zero, List.set_cons_succ]
    refine held_take 9 (some 41) (v := ?_) rfl rfl (by kernel_rfl) (by kernel_rfl) (by kernel_rfl) (fun _ _ _ h => h) (Or.inl ⟨by rfl, ?_⟩) hHeld ?_
    rotate_left
    · (intro w' hSw; clear hSw; go_simp; try with_reducible rfl)
    try simp only [Act.put, List.setIfInBounds_toArray, List.set_cons_zero, List.set_cons_succ]
    refine wpAnyH_done (by kernel_rfl) ?_ _
    --]7
    have HRX := Lib.hid (HR20.out _ hHeld)
    have HBX := Lib.hid (HB10.out _ hHeld)
    go_wp2_with (first | (with_reducible refine wpList_store_new rfl 71 _ _ rfl g2 [.int .u64 0, .int .u8 0, .int .u32 0, .int .u32 0] rfl rfl 71 zSl HRX.out rfl rfl HON.out g2 w HBX.out (Nat.le_refl _) ?_; intro w6' hr6 hb6) | fail)
    refine bodyPost_ret (results_cell_tmp_row rfl _ w6' g2 71 #[.int .u64 0, .int .u8 0, .int .u32 0, .int .u32 0] (0, 0) _ _ rfl rfl hr6.out Tryz.underlying71 rfl rfl) rfl ?_
    exact ⟨by rw [HT.out]; rfl, by rw [HG2.out]; exact hb6.out⟩
end Go.Proofs.YtcklcffepedklaaGreatDoor

namespace Go.Proofs.YtcklcffepedklaaGreatDoor
open Go.RowKit

theorem results_cell_tmp2_row {P : Program} {fn : Func} {p u v : Tmp} {ty : TypeId} (h : fn.results = #[.cell p ty, .tmp u, .tmp v]) (tmps : Array Value) (w : World) (g : Nat) (t : TypeId) (cs : Array Value) (fr : Nat × Nat) (d : TypeDesc) (v2 v3 : Value)
    (hp : tmps.getD p undef = .pointer (some ⟨g, 0, none⟩)) (hv : tmps.getD u undef = v2) (hv3 : tmps.getD v undef = v3) (hg : w.heap[g]? = some (.cells cs t fr))
    (hu : P.underlying ty = some d) (hd : (match d with | .struct _ | .array _ _ => true | _ => false) = true) (hi : (P.info? ty).map (·.size) = some cs.size) :
    (results fn tmps).run P w = .ok (.tuple #[.agg cs, v2, v3]) w := by
  have hp' : tmps[p]?.getD undef = .pointer (some ⟨g, 0, none⟩) := by simpa using hp
  have hv' : tmps[u]?.getD undef = v2 := by simpa using hv
  have hv3' : tmps[v]?.getD undef = v3 := by simpa using hv3
  simp [results, h, hp', hv', hv3', asAddr, run_loadVar_row w g t ty cs fr d hg hu hd hi]
theorem wpList_store_at {P : Program} {ops : Array Oper} {o : Oper} {rest : List Oper} {a : Act} {w : World} {Q : Exit → Act → World → Prop} (hgd : o.guard = none) (T : TypeId) (x y : Operand) (ho : o.op = .store T x y) (g : Nat) (vs : List Value) (hx : a.eval x = .pointer (some ⟨g, 0, none⟩)) (hy : a.eval y = .agg vs.toArray) (t : TypeId) (cur : Array Value) (hg : w.heap[g]? = some (.cells cur t (0, 0)))
    (hi : (P.info? T).map (·.size) = some vs.length) (hs : cur.size = vs.length) (h1 : ∀ v ∈ vs, v.oneCell' = true) (h : ∀ w', Hid (w'.heap[g]? = some (.cells vs.toArray t (0, 0))) → Hid (w.grownBy w' (some g)) → wpList P ops Q rest (a.put o.dst undef) w') : wpList P ops Q (o :: rest) a w := by
  refine wpList_skip hgd (exec_store_mid T x y ho g 0 vs hx hy t cur hg hi (by omega) h1) (h _ (Lib.hid ?_) (Lib.hid (grown_setRow _ _ _)))
  have : (cur.toList.take 0 ++ vs ++ cur.toList.drop (0 + vs.length)).toArray = vs.toArray := by
    rw [List.drop_of_length_le (by simp [hs])]; simp
  rw [this]; exact setRow_heap _ _ _ _ _ _ hg
/-- The newer one. -/
def nwS (acc : Slt × Nat) (x : Option Slt) (i : Nat) : Slt × Nat := match x with
  | none => acc
  | some s => if acc.1.gen < s.gen then (s, i) else acc
def noS : Slt × Nat := (⟨0, 0, 0, 0⟩, 0)
def newerS (a b : List Int) : Slt × Nat := nwS (nwS noS (takeS a) 0) (takeS b) 1
def newerR (x : Slt × Nat) : Value := if x.1.gen = 0 then .tuple #[.agg zSl, .int .i64 0, .int .i64 100] else .tuple #[.agg (slC x.1).toArray, .int .i64 x.2, .int .i64 0]
def fst2 (a b : List Int) : Nat → Slt × Nat
  | 0 => noS
  | 1 => nwS noS (takeS a) 0
  | _ => newerS a b
set_option maxRecDepth 20000 in
set_option maxHeartbeats 1600000 in
theorem Newer_any (ga oa ca gb ob cb : Nat) (a b : List Int) (w : World) (ha : a.length = 128) (hb : b.length = 128) (hBa : Bytes a) (hBb : Bytes b) (hIa : Ints .u8 w (some ⟨ga, oa, none⟩) a) (hIb : Ints .u8 w (some ⟨gb, ob, none⟩) b) :
    Calls Tryz.prog 58 #[.slice (some ⟨ga, oa, none⟩) 128 ca, .slice (some ⟨gb, ob, none⟩) 128 cb] w fun e w' => e = .returned (newerR (newerS a b)) ∧ Below w.heap.size w w' := by
  obtain ⟨g4, hg4⟩ : ∃ g4, w.heap.size = g4 := ⟨_, rfl⟩
  have HAB := Lib.hid (And.intro ha (And.intro hb (And.intro hBa (And.intro hBb (And.intro hIa (And.intro hIb hg4))))))
  clear ha hb hBa hBb hIa hIb
  go_enter Tryz.func58, Tryz.ntmps58
  go_upto_region 4 with (fail)
  have hb3 : Below g4 w (((w.alloc (.cells #[.int .u64 0, .int .u8 0, .int .u32 0, .int .u32 0] 71)).alloc (.cells #[.int .u64 0, .int .u8 0, .int .u32 0, .int .u32 0] 71)).alloc (.cells #[.slice (some ⟨ga, oa, none⟩) 128 ca, .slice (some ⟨gb, ob, none⟩) 128 cb] 33)) := by
    rw [← hg4]; exact (((Below.refl _ _).alloc (Nat.le_refl _) _).alloc (by simp) _).alloc (by simp; omega) _
  have hr4 : (((w.alloc (.cells #[.int .u64 0, .int .u8 0, .int .u32 0, .int .u32 0] 71)).alloc (.cells #[.int .u64 0, .int .u8 0, .int .u32 0, .int .u32 0] 71)).alloc (.cells #[.slice (some ⟨ga, oa, none⟩) 128 ca, .slice (some ⟨gb, ob, none⟩) 128 cb] 33)).heap[g4]? = some (.cells zSl 71 (0, 0)) := by
    rw [← hg4, Below.heap_alloc _ _ _ (by simp; omega), Below.heap_alloc _ _ _ (by simp)]; exact heap_alloc_last _ _
  have hr7 : (((w.alloc (.cells #[.int .u64 0, .int .u8 0, .int .u32 0, .int .u32 0] 71)).alloc (.cells #[.int .u64 0, .int .u8 0, .int .u32 0, .int .u32 0] 71)).alloc (.cells #[.slice (some ⟨ga, oa, none⟩) 128 ca, .slice (some ⟨gb, ob, none⟩) 128 cb] 33)).heap[g4 + 1]? = some (.cells (slC noS.1).toArray 71 (0, 0)) := by
    rw [← hg4, Below.heap_alloc _ _ _ (by simp)]
    have := heap_alloc_last (w.alloc (.cells #[.int .u64 0, .int .u8 0, .int .u32 0, .int .u32 0] 71)) (.cells #[.int .u64 0, .int .u8 0, .int .u32 0, .int .u32 0] 71)
    rw [World.size_alloc] at this; exact this
  have hrq : (((w.alloc (.cells #[.int .u64 0, .int .u8 0, .int .u32 0, .int .u32 0] 71)).alloc (.cells #[.int .u64 0, .int .u8 0, .int .u32 0, .int .u32 0] 71)).alloc (.cells #[.slice (some ⟨ga, oa, none⟩) 128 ca, .slice (some ⟨gb, ob, none⟩) 128 cb] 33)).heap[g4 + 1 + 1]? = some (.cells #[.slice (some ⟨ga, oa, none⟩) 128 ca, .slice (some ⟨gb, ob, none⟩) 128 cb] 33 (0, 0)) := by
    rw [← hg4]
    have := heap_alloc_last ((w.alloc (.cells #[.int .u64 0, .int .u8 0, .int .u32 0, .int .u32 0] 71)).alloc (.cells #[.int .u64 0, .int .u8 0, .int .u32 0, .int .u32 0] 71)) (.cells #[.slice (some ⟨ga, oa, none⟩) 128 ca, .slice (some ⟨gb, ob, none⟩) 128 cb] 33)
    rw [World.size_alloc, World.size_alloc] at this; exact this
  generalize (((w.alloc (.cells #[.int .u64 0, .int .u8 0, .int .u32 0, .int .u32 0] 71)).alloc (.cells #[.int .u64 0, .int .u8 0, .int .u32 0, .int .u32 0] 71)).alloc (.cells #[.slice (some ⟨ga, oa, none⟩) 128 ca, .slice (some ⟨gb, ob, none⟩) 128 cb] 33)) = w3 at hb3 hr4 hr7 hrq ⊢
  have HB3 := Lib.hid hb3
  have HR4 := Lib.hid hr4
  have HRQ := Lib.hid hrq
  have HG4 := Lib.hid hg4
  have HST := Lib.hid (And.intro (Chg.refl (fun k => k = g4 + 1) w3) hr7)
  have HON := Lib.hid (show ∀ (x : Slt), ∀ v ∈ slC x, v.oneCell' = true from fun x => by simp [slC, Value.oneCell'])
  have HZS := Lib.hid zeroSl
  have HSZZ := Lib.hid (show (Tryz.prog.info? 71).map (·.size) = some zSl.size from rfl)
  have HSZ1 := Lib.hid (show zSl.all (·.oneCell') = true from all_one (l := [.int .u64 0, .int .u8 0, .int .u32 0, .int .u32 0]) (by simp [Value.oneCell']))
  clear hb3 hr4 hr7 hrq hg4
  go_loopg [8, 17] 2 (fun kq v8 v17 w' => ∃ (i : Nat), v17 = .int .i64 (i : Int) ∧ v8 = .int .i64 ((fst2 a b i).2 : Int) ∧ i + kq = 2 ∧ Hid (w'.heap[g4 + 1]? = some (.cells (slC (fst2 a b i).1).toArray 71 (0, 0))) ∧ Hid (Chg (fun k => k = g4 + 1) w3 w'))
  case atStart => exact ⟨0, rfl, rfl, rfl, Lib.hid HST.out.2, Lib.hid HST.out.1⟩
  case round =>
    obtain ⟨i, rfl, rfl, hi, HR7, HCR⟩ := hrel
    have hrq := (HCR.out.block (g4 + 1 + 1) (row_lt HRQ.out) (by omega)).trans HRQ.out
    have hr4 := (HCR.out.block g4 (row_lt HR4.out) (by omega)).trans HR4.out
    by_cases hlt : i < 2
    · obtain ⟨gx, ox, cx, x, hcell, hxI, hxl, hxB, hstep⟩ : ∃ gx ox cx x, wr.cell? ⟨g4 + 1 + 1, i, none⟩ = some (.slice (some ⟨gx, ox, none⟩) 128 cx) ∧ Ints .u8 w (some ⟨gx, ox, none⟩) x ∧ x.length = 128 ∧ Bytes x ∧ fst2 a b (i + 1) = nwS (fst2 a b i) (takeS x) i := by
        have h := HAB.out
        rcases (show i = 0 ∨ i = 1 by omega) with rfl | rfl
        · exact ⟨ga, oa, ca, a, cell_row' hrq, h.2.2.2.2.1, h.1, h.2.2.1, rfl⟩
        · exact ⟨gb, ob, cb, b, cell_row' hrq, h.2.2.2.2.2.1, h.2.1, h.2.2.2.1, rfl⟩
      have hi0 : (0 : Int) ≤ (i : Int) := by omega
      have hi1 : (i : Int) < 2 := by omega
      have u1 : IntKind.i64.wrap ((i : Int) + 1) = ((i + 1 : Nat) : Int) := by rw [IntKind.wrap_i64]; omega
      obtain ⟨i', hi'⟩ : ∃ i', i + 1 = i' := ⟨_, rfl⟩
      rw [hi'] at u1 hstep
      have HI := Lib.hid (And.intro hi' hi)
      obtain ⟨acc, hacc⟩ : ∃ acc, fst2 a b i = acc := ⟨_, rfl⟩
      rw [hacc] at hstep HR7
      try rw [hacc]
      obtain ⟨⟨ag, aa, az, am⟩, aat⟩ := acc
      have c70 : wr.cell? ⟨g4 + 1, 0, none⟩ = some (.int .u64 (ag : Int)) := cell_row' HR7.out
      have HBR := Lib.hid (show Below g4 w wr from HB3.out.trans (HCR.out.below (B := g4) (by have := row_lt HR4.out; omega) (fun k hk => by omega)))
      have HTK := Lib.hid (STake_any gx ox cx x wr hxl hxB (hxI.below (by rw [HG4.out]; exact HBR.out)))
      have HSTEP := Lib.hid hstep
      have HR4R := Lib.hid hr4
      clear hxI hxl hxB hstep hi hi' hacc hrq hr4
      cases hts : takeS x with
      | none =>
        rw [hts] at HTK HSTEP
        clear hts
        simp only [takeR] at HTK
        go_wp2_with fail
        refine HTK.out.mono ?_
        rintro e w5 ⟨rfl, hb5⟩
        have HB5 := Lib.hid hb5
        clear hb5
        go_wp2_with (first | (with_reducible refine wpList_fresh rfl rfl 71 rfl _ _ rfl zSl zSl (fun _ => rfl) (fun _ => rfl) HZS.out HSZZ.out rfl HSZ1.out ?_; intro g6 w6 hg6 hr6 hb6) | fail)
        go_roundg (2 - i')
        case measure => have := HI.out; omega
        case rel =>
          have hc6 := (HCR.out.below0 HB5.out).below0 hb6.out
          refine ⟨i', rfl, by rw [HSTEP.out]; rfl, by have := HI.out; omega, Lib.hid ?_, Lib.hid hc6⟩
          rw [HSTEP.out]
          exact (hb6.out.block _ (by have := HB5.out.size; have := row_lt HR7.out; omega)).trans ((HB5.out.block _ (row_lt HR7.out)).trans HR7.out)
      | some sl =>
        rw [hts] at HTK HSTEP
        clear hts
        simp only [takeR] at HTK
        obtain ⟨sg, sa, sz, sm⟩ := sl
        have HSN := Lib.hid (show (Tryz.prog.info? 71).map (·.size) = some (slC ⟨sg, sa, sz, sm⟩).toArray.size from rfl)
        have HSO := Lib.hid (show (slC ⟨sg, sa, sz, sm⟩).toArray.all (·.oneCell') = true from all_one (HON.out _))
        have HSL := Lib.hid (show (Tryz.prog.info? 71).map (·.size) = some (slC ⟨sg, sa, sz, sm⟩).length from rfl)
        have HSQ := Lib.hid (show (slC ⟨ag, aa, az, am⟩).toArray.size = (slC ⟨sg, sa, sz, sm⟩).length from rfl)
        have HSR := Lib.hid (show zSl.size = (slC ⟨sg, sa, sz, sm⟩).toArray.size from rfl)
        by_cases hgt : ag < sg
        · have hgt' : (ag : Int) < (sg : Int) := by omega
          have HST2 := Lib.hid (show fst2 a b i' = (⟨sg, sa, sz, sm⟩, i) by rw [HSTEP.out, nwS, if_pos hgt])
          clear hgt
          go_wp2_with fail
          refine HTK.out.mono ?_
          rintro e w5 ⟨rfl, hb5⟩
          have HB5 := Lib.hid hb5
          have c75 : w5.cell? ⟨g4 + 1, 0, none⟩ = some (.int .u64 (ag : Int)) := (hb5.cell (p := ⟨g4 + 1, 0, none⟩) (row_lt HR7.out)).trans c70
          have HC75 := Lib.hid c75
          clear hb5 c70 c75
          go_wp2_with (first | (with_reducible refine wpList_fresh rfl rfl 71 rfl _ _ rfl (slC ⟨sg, sa, sz, sm⟩).toArray zSl (fun _ => rfl) (fun _ => rfl) HZS.out HSN.out HSR.out HSO.out ?_; intro g6 w6 hg6 hr6 hb6; have c60 : w6.cell? ⟨g6, 0, none⟩ = some (.int .u64 (sg : Int)) := cell_row' hr6.out; have c76 := (hb6.out.cell (p := ⟨g4 + 1, 0, none⟩) (cell_lt HC75.out)).trans HC75.out; have HR67 := Lib.hid ((hb6.out.block _ (cell_lt HC75.out)).trans ((HB5.out.block _ (row_lt HR7.out)).trans HR7.out)); have HRG6 := Lib.hid (show w6.rangeAt g6 0 (slC ⟨sg, sa, sz, sm⟩) from range_row hr6.out)) | (with_reducible refine Go.wpList_load_mid rfl 71 _ rfl g6 0 rfl (slC ⟨sg, sa, sz, sm⟩) _ HRG6.out Tryz.underlying71 rfl HSL.out ?_) | (with_reducible refine wpList_store_at rfl 71 _ _ rfl (g4 + 1) (slC ⟨sg, sa, sz, sm⟩) rfl rfl 71 (slC ⟨ag, aa, az, am⟩).toArray HR67.out HSL.out HSQ.out (HON.out _) ?_; intro w7 hr7 hg7) | fail)
          go_roundg (2 - i')
          case measure => have := HI.out; omega
          case rel =>
            have hc7 := ((HCR.out.below0 HB5.out).below0 hb6.out).trans (Chg.of_ hg7.out (fun k _ e => by injection e with e; exact e.symm))
            refine ⟨i', rfl, by rw [HST2.out], by have := HI.out; omega, Lib.hid ?_, Lib.hid hc7⟩
            rw [HST2.out]; exact hr7.out
        · have hgt' : ¬ (ag : Int) < (sg : Int) := by omega
          have HST2 := Lib.hid (show fst2 a b i' = (⟨ag, aa, az, am⟩, aat) by rw [HSTEP.out, nwS, if_neg hgt])
          clear hgt
          go_wp2_with fail
          refine HTK.out.mono ?_
          rintro e w5 ⟨rfl, hb5⟩
          have HB5 := Lib.hid hb5
          have c75 : w5.cell? ⟨g4 + 1, 0, none⟩ = some (.int .u64 (ag : Int)) := (hb5.cell (p := ⟨g4 + 1, 0, none⟩) (row_lt HR7.out)).trans c70
          have HC75 := Lib.hid c75
          clear hb5 c70 c75
          go_wp2_with (first | (with_reducible refine wpList_fresh rfl rfl 71 rfl _ _ rfl (slC ⟨sg, sa, sz, sm⟩).toArray zSl (fun _ => rfl) (fun _ => rfl) HZS.out HSN.out HSR.out HSO.out ?_; intro g6 w6 hg6 hr6 hb6; have c60 : w6.cell? ⟨g6, 0, none⟩ = some (.int .u64 (sg : Int)) := cell_row' hr6.out; have c76 := (hb6.out.cell (p := ⟨g4 + 1, 0, none⟩) (cell_lt HC75.out)).trans HC75.out) | fail)
          go_roundg (2 - i')
          case measure => have := HI.out; omega
          case rel =>
            have hc6 := (HCR.out.below0 HB5.out).below0 hb6.out
            refine ⟨i', rfl, by rw [HST2.out], by have := HI.out; omega, Lib.hid ?_, Lib.hid hc6⟩
            rw [HST2.out]
            exact (hb6.out.block _ (by have := HB5.out.size; have := row_lt HR7.out; omega)).trans ((HB5.out.block _ (row_lt HR7.out)).trans HR7.out)
    · obtain rfl : gk = 0 := by omega
      obtain rfl : i = 2 := by omega
      obtain ⟨acc, hacc⟩ : ∃ acc, newerS a b = acc := ⟨_, rfl⟩
      have hf2 : fst2 a b 2 = acc := hacc
      have HAC := Lib.hid hacc
      rw [hf2] at HR7
      try rw [hf2]
      clear hf2 hacc
      obtain ⟨⟨ag, aa, az, am⟩, aat⟩ := acc
      have c70 : wr.cell? ⟨g4 + 1, 0, none⟩ = some (.int .u64 (ag : Int)) := cell_row' HR7.out
      have HBR := Lib.hid (show Below g4 w wr from HB3.out.trans (HCR.out.below (B := g4) (by have := row_lt HR4.out; omega) (fun k hk => by omega)))
      have HRR := Lib.hid hr4
      have HRG7 := Lib.hid (show wr.rangeAt (g4 + 1) 0 (slC ⟨ag, aa, az, am⟩) from range_row HR7.out)
      have HSL := Lib.hid (show (Tryz.prog.info? 71).map (·.size) = some (slC ⟨ag, aa, az, am⟩).length from rfl)
      have HSQ := Lib.hid (show zSl.size = (slC ⟨ag, aa, az, am⟩).length from rfl)
      have HON2 := Lib.hid (show ∀ v ∈ ([.int .u64 0, .int .u8 0, .int .u32 0, .int .u32 0] : List Value), v.oneCell' = true from by simp [Value.oneCell'])
      clear hrq hr4 hlt
      by_cases h0 : ag = 0
      · have HH0 := Lib.hid h0
        subst h0
        go_wp2_with (first | (with_reducible refine wpList_store_new rfl 71 _ _ rfl g4 [.int .u64 0, .int .u8 0, .int .u32 0, .int .u32 0] rfl rfl 71 zSl HRR.out rfl rfl HON2.out g4 w HBR.out (Nat.le_refl _) ?_; intro w6 hr6 hb6) | fail)
        refine bodyPost_ret (results_cell_tmp2_row rfl _ w6 g4 71 #[.int .u64 0, .int .u8 0, .int .u32 0, .int .u32 0] (0, 0) _ _ _ rfl rfl rfl hr6.out Tryz.underlying71 rfl rfl) rfl ?_
        exact ⟨by rw [HAC.out]; rfl, by rw [HG4.out]; exact hb6.out⟩
      · have hi0 : ¬ (ag : Int) = 0 := by omega
        have HH0 := Lib.hid h0
        clear h0
        go_wp2_with (first | (with_reducible refine Go.wpList_load_mid rfl 71 _ rfl (g4 + 1) 0 rfl (slC ⟨ag, aa, az, am⟩) _ HRG7.out Tryz.underlying71 rfl HSL.out ?_) | (with_reducible refine wpList_store_new rfl 71 _ _ rfl g4 (slC ⟨ag, aa, az, am⟩) rfl rfl 71 zSl HRR.out HSL.out HSQ.out (HON.out _) g4 w HBR.out (Nat.le_refl _) ?_; intro w6 hr6 hb6) | fail)
        refine bodyPost_ret (results_cell_tmp2_row rfl _ w6 g4 71 (slC ⟨ag, aa, az, am⟩).toArray (0, 0) _ _ _ rfl rfl rfl hr6.out Tryz.underlying71 rfl rfl) rfl ?_
        exact ⟨by rw [HAC.out, newerR, if_neg HH0.out]; rfl, by rw [HG4.out]; exact hb6.out⟩
end Go.Proofs.YtcklcffepedklaaGreatDoor

namespace Go.Proofs.YtcklcffepedklaaGreatDoor
open Go.RowKit

/-- A home of a disk. -/
def Hm (w : World) (gh gd each : Nat) : Prop := w.heap[gh]? = some (.cells #[.pointer (some ⟨gd, 0, none⟩), .int .i64 each] 57 (0, 0))
theorem Hm.below {w w' : World} {gh gd each : Nat} (h : Hm w gh gd each) (hb : Below w.heap.size w w') : Hm w' gh gd each := (hb.block gh (row_lt h)).trans h
theorem Hm.chg {w w' : World} {R : Nat → Prop} {gh gd each : Nat} (h : Hm w gh gd each) (hc : Chg R w w') (hr : ¬ R gh) : Hm w' gh gd each := (hc.block gh (row_lt h) hr).trans h
section
variable {w : World} {gh gd each S : Nat} {d : Ds} {F : Nat → Prop}
theorem Room_any (h : Hm w gh gd each) (he : each ≤ 16384) : Calls Tryz.prog 13 #[.pointer (some ⟨gh, 0, none⟩)] w fun e w' => e = .returned (.int .i64 ((128 * each : Nat) : Int)) ∧ w = w' := by
  have c1 : w.cell? ⟨gh, 1, none⟩ = some (.int .i64 (each : Int)) := cell_row' h
  obtain ⟨k, hk⟩ : ∃ k, 128 * each = k := ⟨_, rfl⟩
  have u1 : IntKind.i64.wrap ((each : Int) * 128) = (k : Int) := by rw [IntKind.wrap_i64]; omega
  rw [hk]
  clear h hk
  go_enter Tryz.func13, Tryz.ntmps13
  go_wp2
  go_ret
  exact ⟨rfl, rfl⟩
theorem area_any (h : Hm w gh gd each) (he : each ≤ 16384) (n : Nat) (hn : n < 256) : Calls Tryz.prog 32 #[.pointer (some ⟨gh, 0, none⟩), .int .u8 n] w fun e w' => e = .returned (.int .i64 ((2 + n * each : Nat) : Int)) ∧ w = w' := by
  have c1 : w.cell? ⟨gh, 1, none⟩ = some (.int .i64 (each : Int)) := cell_row' h
  have hm : n * each ≤ 256 * 16384 := Nat.mul_le_mul (by omega) he
  obtain ⟨k, hk⟩ : ∃ k, n * each = k := ⟨_, rfl⟩
  obtain ⟨k2, hk2⟩ : ∃ k2, 2 + k = k2 := ⟨_, rfl⟩
  have u0 : IntKind.i64.wrap (n : Int) = (n : Int) := by rw [IntKind.wrap_i64]; omega
  have u1 : IntKind.i64.wrap ((n : Int) * (each : Int)) = (k : Int) := by rw [IntKind.wrap_i64, ← Int.natCast_mul, hk]; omega
  have u2 : IntKind.i64.wrap (2 + (k : Int)) = (k2 : Int) := by rw [IntKind.wrap_i64]; omega
  rw [hk, hk2]
  clear h hk hk2 hm
  go_enter Tryz.func32, Tryz.ntmps32
  go_wp2
  go_ret
  exact ⟨rfl, rfl⟩
theorem HNew_any (h : Dk w gd S d F) (he : 1 ≤ each) (he2 : each ≤ 8000) (hS : 2 + 2 * each ≤ S) : Calls Tryz.prog 6 #[.pointer (some ⟨gd, 0, none⟩), .int .i64 each] w fun e w' => ∃ gh, e = .returned (.tuple #[.pointer (some ⟨gh, 0, none⟩), .int .i64 0]) ∧ w.heap.size ≤ gh ∧ Hm w' gh gd each ∧ Below w.heap.size w w' := by
  have HSZ := Lib.hid (DSize_any h)
  obtain ⟨k, hk⟩ : ∃ k, 2 * each = k := ⟨_, rfl⟩
  obtain ⟨k2, hk2⟩ : ∃ k2, 2 + k = k2 := ⟨_, rfl⟩
  have u1 : IntKind.i64.wrap (2 * (each : Int)) = (k : Int) := by rw [IntKind.wrap_i64]; omega
  have u2 : IntKind.i64.wrap (2 + (k : Int)) = (k2 : Int) := by rw [IntKind.wrap_i64]; omega
  have h1 : ¬ (each : Int) < 1 := by omega
  have h2 : ¬ 16384 < (each : Int) := by omega
  have h3 : ¬ (S : Int) < (k2 : Int) := by omega
  have HB := Lib.hid ((Below.refl w.heap.size w).alloc (Nat.le_refl _) (.cells #[.pointer (some ⟨gd, 0, none⟩), .int .i64 each] 57))
  have HH := Lib.hid (heap_alloc_last w (.cells #[.pointer (some ⟨gd, 0, none⟩), .int .i64 each] 57))
  clear h hk hk2 he he2 hS
  go_enter Tryz.func6, Tryz.ntmps6
  go_wp2_with fail
  refine HSZ.out.mono ?_
  rintro e w1 ⟨rfl, rfl⟩
  go_wp2_with fail
  go_ret2
  exact ⟨_, rfl, Nat.le_refl _, HH.out, HB.out⟩
end
end Go.Proofs.YtcklcffepedklaaGreatDoor

namespace Go.Proofs.YtcklcffepedklaaGreatDoor
open Go.RowKit

/-- Bytes from a sector on. -/
def rdL (B : List Int) (at' n : Nat) : List Int := (B.drop (128 * at')).take n
theorem rdL_step (B : List Int) (at' j : Nat) : rdL B at' (128 * (j + 1)) = rdL B at' (128 * j) ++ secL B (at' + j) := by
  unfold rdL secL
  rw [Nat.mul_add, Nat.mul_one, List.take_add, List.drop_drop, Nat.mul_add]
theorem rdL_length {B : List Int} {S at' n : Nat} (h : B.length = 128 * S) (hn : 128 * at' + n ≤ 128 * S) : (rdL B at' n).length = n := by
  rw [rdL, List.length_take, List.length_drop, h]; omega
theorem rdL_bytes {B : List Int} (h : Bytes B) (at' n : Nat) : Bytes (rdL B at' n) := (h.drop _).take _
theorem own_forms {w : World} {b : Nat} {v : Value} {l : List Int} (h : OwnB w b v l) : ∃ A c, v = .slice A l.length c ∧ l.length ≤ c ∧ ∀ ad, A = some ad → ∃ g, ad = ⟨g, 0, none⟩ := by
  obtain ⟨h0, h⟩ := h
  rcases h with ⟨h, h2⟩ | ⟨g, cap, cur, h, _, _, h3, _⟩
  · exact ⟨none, 0, by rw [h, h2], by omega, fun _ h => by cases h⟩
  · exact ⟨_, _, h, h3, fun ad e => by injection e with e; exact ⟨g, e.symm⟩⟩
/-- What a read gives. -/
structure Rdd (w0 w : World) (A : Option Addr) (n c : Nat) (l : List Int) : Prop where
  ints : Ints .u8 w A l
  cap : n ≤ c
  adr : ∀ ad, A = some ad → ∃ g, ad = ⟨g, 0, none⟩ ∧ w0.heap.size ≤ g ∧ g < w.heap.size
  nil : A = none → n = 0 ∧ c = 0
section
variable {w : World} {gh gd each S : Nat} {d : Ds} {F : Nat → Prop}
set_option maxRecDepth 20000 in
set_option maxHeartbeats 1600000 in
theorem read_any (hh : Hm w gh gd each) (h : Dk w gd S d F) (hd : d.dead = false) (at' n m : Nat) (hm : n ≤ 128 * m) (hS : at' + m ≤ S) :
    Calls Tryz.prog 57 #[.pointer (some ⟨gh, 0, none⟩), .int .i64 at', .int .i64 n] w fun e w' => ∃ A c, e = .returned (.tuple #[.slice A n c, .int .i64 0]) ∧ Rdd w w' A n c (rdL d.now at' n) ∧ Below w.heap.size w w' := by
  have HRD := Lib.hid (fun (W : World) (hb : Below w.heap.size w W) (i : Nat) (hi : i < S) => Read_any (h.below hb) hd i hi)
  have HL := Lib.hid (And.intro h.len (And.intro h.byt h.lim))
  have HH := Lib.hid hh
  have hsl := h.lim
  have HOW0 := Lib.hid (show OwnB w w.heap.size (.slice none 0 0) (rdL d.now at' (128 * 0)) from World.ownsRow_nil _ _ _ _)
  have HB0 := Lib.hid (Below.refl w.heap.size w)
  clear h hd hh
  go_enter Tryz.func57, Tryz.ntmps57
  go_upto_region 2 with (fail)
  go_loopg [1, 8] n (fun kq v1 v8 w' => ∃ (j : Nat), v1 = .int .i64 ((at' + j : Nat) : Int) ∧ kq = n - 128 * j ∧ j ≤ m ∧ Hid (OwnB w' w.heap.size v8 (rdL d.now at' (128 * j))) ∧ Hid (Below w.heap.size w w'))
  case atStart => exact ⟨0, rfl, rfl, Nat.zero_le _, HOW0, HB0⟩
  case round =>
    obtain ⟨j, rfl, hkq, hjm, HOW, HBW⟩ := hrel
    have hln : (rdL d.now at' (128 * j)).length = 128 * j := rdL_length HL.out.1 (by omega)
    obtain ⟨A8, c8, hv8, hc8, hf8⟩ := own_forms HOW.out
    rw [hln] at hv8 hc8
    obtain ⟨k, hk⟩ : ∃ k, 128 * j = k := ⟨_, rfl⟩
    rw [hk] at hv8 hc8 hkq
    subst hv8
    by_cases hlt : k < n
    · have hjm' : j < m := by omega
      have hlt' : (k : Int) < (n : Int) := by omega
      have HRR := Lib.hid (HRD.out wr HBW.out (at' + j) (by omega))
      obtain ⟨p, hp⟩ : ∃ p, at' + j = p := ⟨_, rfl⟩
      have u1 : IntKind.i64.wrap ((p : Int) + 1) = ((p + 1 : Nat) : Int) := by rw [IntKind.wrap_i64]; omega
      have c0 : wr.cell? ⟨gh, 0, none⟩ = some (.pointer (some ⟨gd, 0, none⟩)) := cell_row' (HH.out.below HBW.out)
      have HP := Lib.hid (And.intro hp (And.intro hk (And.intro hkq hjm')))
      have HSL := Lib.hid (show (secL d.now (at' + j)).length = 128 from secL_length HL.out.1 (by omega))
      rw [hp] at HRR ⊢
      have HLN := Lib.hid hln
      clear hkq hp hk hln hf8 hc8 hjm hjm'
      go_wp2_with fail
      refine HRR.out.mono ?_
      rintro e w5 ⟨v5, rfl, ho5, hb5⟩
      rw [← HP.out.1] at ho5
      obtain ⟨A5, c5, rfl, hc5, hI5, hA5⟩ := ho5.ints
      rw [HSL.out] at hc5 ⊢
      have hAN := ho5.nilA
      rw [HSL.out] at hAN
      have HAN := Lib.hid hAN
      have HI5 := Lib.hid hI5
      have HB5 := Lib.hid hb5
      have HO5 := Lib.hid (show w5.ownsRow w.heap.size 5 1 (.slice A8 k c8) k ((rdL d.now at' (128 * j)).map (Value.int .u8)) from by
        have h := HOW.out.below hb5
        rw [OwnB, HLN.out] at h; rw [← HP.out.2.1]; exact HP.out.2.1 ▸ h)
      have HHS := Lib.hid (show w.heap.size ≤ w5.heap.size from Nat.le_trans HBW.out.size hb5.size)
      have HML := Lib.hid (show k + 128 ≤ maxLen ∧ (k + 128) * 1 ≤ 140737488355328 from by have := HP.out.2; unfold maxLen; omega)
      have HSM := Lib.hid (show ((secL d.now (at' + j)).map (Value.int .u8)).length = 128 * 1 by rw [List.length_map, HSL.out])
      clear ho5 hc5 hI5 hA5 hAN hb5 c0
      go_wp2_with (first | (at_builtin; refine wpList_app EB rfl _ _ rfl w.heap.size _ k ((rdL d.now at' (128 * j)).map (Value.int .u8)) rfl HO5.out A5 128 c5 ((secL d.now (at' + j)).map (Value.int .u8)) rfl HAN.out HSM.out HI5.out.news (ints_one _ _) HML.out.1 HML.out.2 HHS.out ?_; intro v6 w6 hown hgrow hat) | fail)
      have HF := Lib.hid (And.intro hown (And.intro hgrow hat))
      clear hown hgrow hat
      go_roundg (n - 128 * (j + 1))
      case measure => have := HP.out; omega
      case rel =>
        refine ⟨j + 1, by rw [← HP.out.1]; rfl, rfl, HP.out.2.2.2, Lib.hid ?_, Lib.hid ?_⟩
        · have h := HF.out.1
          rw [rdL_step, OwnB, List.length_append, HLN.out, HSL.out, List.map_append, HP.out.2.1]
          rw [HP.out.2.1] at h; exact h
        · exact (HBW.out.trans (HB5.out.mono HBW.out.size)).grown HF.out.2.1 HHS.out (fun b hb => (HO5.out.lt b hb).1)
    · have hlt' : ¬ (k : Int) < (n : Int) := by omega
      have hc0 : n ≤ c8 := by omega
      have hc1 : (n : Int) ≤ (c8 : Int) := by omega
      have hn0 : (0 : Int) ≤ (n : Int) := by omega
      have HFF := Lib.hid (And.intro hf8 (And.intro hk (And.intro hln hlt)))
      clear hf8 hk hln hlt hkq
      go_wp2_with fail
      go_ret2
      have hO := HOW.out
      rw [OwnB] at hO
      obtain ⟨A9, c9, e9, hc9, hI9, hA9⟩ := HOW.out.ints
      rw [HFF.out.2.2.1, HFF.out.2.1] at e9
      injection e9 with e1 e2 e3
      subst e1 e3
      have hnk : n ≤ 128 * j := by have := HFF.out; omega
      refine ⟨A8, c8, rfl, ⟨?_, hc0, fun ad e => ?_, fun e => ?_⟩, HBW.out⟩
      · have : rdL d.now at' n = (rdL d.now at' (128 * j)).take n := by rw [rdL, rdL, List.take_take, Nat.min_eq_left hnk]
        rw [this]; exact hI9.take n
      · obtain ⟨g, rfl⟩ := HFF.out.1 ad e
        have := hA9 _ e
        exact ⟨g, rfl, this.1, this.2⟩
      · have h := HOW.out.nilA e
        have := HFF.out
        omega
end
end Go.Proofs.YtcklcffepedklaaGreatDoor
