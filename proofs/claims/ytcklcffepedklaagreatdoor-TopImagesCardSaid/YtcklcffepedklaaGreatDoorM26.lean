/- Texts of the proof, one behind the other: crc: the sum of bytes, as it is reckoned. crc: Sum (seat ZD). -/
import Derived.Test.YtcklcffepedklaaGreatDoorM20
namespace Go.Proofs.YtcklcffepedklaaGreatDoor
open Go.RowKit

/-- A word of 32 bits. -/
def U32 (x : Int) : Prop := 0 ≤ x ∧ x < 4294967296
theorem U32_bits (op : BinOp) (x y : Int) : U32 (Go.bits op .u32 x y) := by
  obtain ⟨z, h⟩ : ∃ z, Go.bits op .u32 x y = IntKind.u32.wrap z := by cases op <;> exact ⟨_, rfl⟩
  rw [h, IntKind.wrap_u32]
  exact ⟨by omega, by omega⟩
theorem U8_bits (op : BinOp) (x y : Int) : 0 ≤ Go.bits op .u8 x y ∧ Go.bits op .u8 x y < 256 := by
  obtain ⟨z, h⟩ : ∃ z, Go.bits op .u8 x y = IntKind.u8.wrap z := by cases op <;> exact ⟨_, rfl⟩
  rw [h, IntKind.wrap_u8]
  exact ⟨by omega, by omega⟩
/-- A move. -/
def crcB (r : Int) : Int := Go.bits .xor .u32 (r * 2 % 4294967296) (79764919 * (r / 2147483648))
def crcI : Nat → Int → Int
  | 0, r => r
  | k + 1, r => crcI k (crcB r)
/-- What a byte comes to. -/
def stepI (c : Int) : Int := crcI 8 (c * 16777216)
theorem U32_crcI : ∀ k r, U32 r → U32 (crcI k r)
  | 0, _, h => h
  | k + 1, _, _ => U32_crcI k _ (U32_bits _ _ _)
theorem U32_step (c : Int) (h0 : 0 ≤ c) (h1 : c < 256) : U32 (stepI c) := U32_crcI 8 _ ⟨by omega, by omega⟩

set_option maxRecDepth 20000 in
theorem step_any (c : Int) (w : World) (h0 : 0 ≤ c) (h1 : c < 256) : Calls Tryz.prog 86 #[.int .u8 c] w fun e w' => e = .returned (.int .u32 (stepI c)) ∧ w = w' := by
  go_enter Tryz.func86, Tryz.ntmps86
  go_wp2_with fail
  go_loopg [3, 8] 8 (fun kq v3 v8 w' => ∃ (i : Nat) (r : Int), v8 = .int .i64 (i : Int) ∧ i + kq = 8 ∧ v3 = .int .u32 r ∧ U32 r ∧ Hid (crcI kq r = stepI c) ∧ w = w')
  case atStart => exact ⟨0, c * 16777216, rfl, rfl, by go_num, ⟨by omega, by omega⟩, Lib.hid rfl, rfl⟩
  case round =>
    obtain ⟨i, r, rfl, hi, rfl, ⟨hr0, hr1⟩, HZ, rfl⟩ := hrel
    cases gk with
    | zero =>
      have HE := Lib.hid (show r = stepI c from HZ.out)
      obtain rfl : i = 8 := by omega
      clear HZ
      go_wp2_with fail
      go_ret
      exact ⟨by rw [HE.out]; rfl, rfl⟩
    | succ k =>
      have HE := Lib.hid (show crcI k (crcB r) = stepI c from HZ.out)
      have i1 : (i : Int) < 8 := by omega
      have HB := Lib.hid (show U32 (crcB r) from U32_bits _ _ _)
      clear HZ
      go_wp2_with fail
      go_roundg k
      case measure => omega
      case rel => exact ⟨i + 1, crcB r, by go_num, by omega, rfl, HB.out, HE, rfl⟩

/-- The words as cells. -/
def cells32 (l : List Int) : Array Value := (l.map (Value.int .u32)).toArray
theorem cells32_size (l : List Int) : (cells32 l).size = l.length := by simp [cells32]
theorem cells32_get (l : List Int) (k : Nat) (h : k < l.length) : (cells32 l)[k]? = some (.int .u32 (l.getD k 0)) := by
  unfold cells32
  rw [List.getElem?_toArray, List.getElem?_map, List.getD_eq_getElem?_getD, List.getElem?_eq_getElem h]; rfl
theorem cells32_set (l : List Int) (k : Nat) (x : Int) : (cells32 l).setIfInBounds k (.int .u32 x) = cells32 (l.set k x) := by
  unfold cells32
  rw [List.setIfInBounds_toArray, List.map_set]
/-- The table, as far as it is laid. -/
def crcTabL : Nat → List Int
  | 0 => List.replicate 256 0
  | i + 1 => (crcTabL i).set i (stepI i)
theorem tabL_length : ∀ i, (crcTabL i).length = 256
  | 0 => List.length_replicate
  | i + 1 => by rw [crcTabL, List.length_set]; exact tabL_length i
theorem tabL_get : ∀ i, i ≤ 256 → ∀ j, j < i → (crcTabL i).getD j 0 = stepI j
  | 0, _, j, hj => by omega
  | i + 1, hi, j, hj => by
    rw [crcTabL, List.getD_eq_getElem?_getD, List.getElem?_set]
    by_cases e : i = j
    · subst e
      rw [if_pos rfl, if_pos (by rw [tabL_length]; omega)]; rfl
    · rw [if_neg e, ← List.getD_eq_getElem?_getD, tabL_get i (by omega) j (by omega)]

theorem Tryz.info_tab : (Tryz.prog.info? 170).map (fun i => (i.zero, i.size, i.bytes)) = some (some (.agg (cells32 (crcTabL 0))), 256, 1024) := by kernel_rfl
theorem zero_tab (w : World) : (zeroValue 170).run Tryz.prog w = .ok (.agg (cells32 (crcTabL 0))) w := by
  obtain ⟨i0, hi, hz0, _, _⟩ := info_parts Tryz.info_tab
  simp [zeroValue, typeInfo, hi, hz0]

set_option maxRecDepth 20000 in
theorem crcTab_any (w : World) : Calls Tryz.prog 87 #[] w fun e w' => ∃ g, e = .returned (.pointer (some ⟨g, 0, none⟩)) ∧ w.heap.size ≤ g ∧ w'.heap[g]? = some (.cells (cells32 (crcTabL 256)) 170 (0, 0)) ∧ Below w.heap.size w w' := by
  have HR := Lib.hid (heap_alloc_last w (.cells (cells32 (crcTabL 0)) 170))
  have HB := Lib.hid ((Below.refl w.heap.size w).alloc (Nat.le_refl _) (.cells (cells32 (crcTabL 0)) 170))
  have hz : ∀ W, (zeroValue 170).run Tryz.prog W = .ok (.agg (cells32 (crcTabL 0))) W := zero_tab
  obtain ⟨Z, hZ⟩ : ∃ Z, Z = cells32 (crcTabL 0) := ⟨_, rfl⟩
  rw [← hZ] at HR HB hz
  have HZ := Lib.hid hZ
  clear hZ
  go_enter Tryz.func87, Tryz.ntmps87
  go_wp2_with fail
  obtain ⟨g, hg⟩ : ∃ g, g = w.heap.size := ⟨_, rfl⟩
  rw [← hg] at HR ⊢
  have HG := Lib.hid (show w.heap.size ≤ g by omega)
  clear hg
  generalize w.alloc (.cells Z 170) = w1 at *
  go_loopg [3] 256 (fun kq v3 w' => ∃ i : Nat, v3 = .int .i64 (i : Int) ∧ i + kq = 256 ∧ w'.heap[g]? = some (.cells (cells32 (crcTabL i)) 170 (0, 0)) ∧ Below w.heap.size w w')
  case atStart => exact ⟨0, rfl, rfl, by rw [HR.out, HZ.out], HB.out⟩
  case round =>
    obtain ⟨i, rfl, hi, hrow, hb⟩ := hrel
    have HRW := Lib.hid hrow
    have HBB := Lib.hid hb
    by_cases hlt : i < 256
    · have HS := Lib.hid (fun W => step_any (i : Int) W (by omega) (by omega))
      have i1 : (i : Int) < 256 := by omega
      have f1 := free_row hrow i
      have hc : wr.cell? ⟨g, i, none⟩ = some (.int .u32 ((crcTabL i).getD i 0)) := by rw [cell_of_row _ _ _ _ _ _ hrow, cells32_get _ _ (by rw [tabL_length]; omega)]
      have HN := Lib.hid (show (wr.setCell ⟨g, i, none⟩ (.int .u32 (stepI i))).heap[g]? = some (.cells (cells32 (crcTabL (i + 1))) 170 (0, 0)) by rw [setCell_row hrow, cells32_set]; rfl)
      have HBN := Lib.hid (show Below w.heap.size w (wr.setCell ⟨g, i, none⟩ (.int .u32 (stepI i))) from hb.grown (grown_setCell _ _ _ _) hb.size (fun k hk => by injection hk with hk; rw [← hk]; exact HG.out))
      clear hrow hb hlt
      go_wp2_with (go_at_call 86; refine (HS.out _).mono ?_; rintro e w' ⟨rfl, rfl⟩)
      go_roundg (256 - (i + 1))
      case measure => omega
      case rel => exact ⟨i + 1, by go_num, by omega, HN.out, HBN.out⟩
    · obtain rfl : i = 256 := by omega
      clear hrow hb hlt
      go_wp2_with fail
      go_ret
      exact ⟨g, rfl, HG.out, HRW.out, HBB.out⟩

/-- A byte comes to a sum. -/
def crcN (r c : Int) : Int := Go.bits .xor .u32 (r * 256 % 4294967296) (stepI (Go.bits .xor .u8 (r / 16777216) c))
def not32 (x : Int) : Int := Go.bits .xor .u32 IntKind.u32.max x
/-- The sum of bytes. -/
def sumI (l : List Int) : Int := not32 (l.foldl crcN (not32 0))
theorem crcN_U (r c : Int) : U32 (crcN r c) := U32_bits _ _ _
theorem sumI_U (l : List Int) : U32 (sumI l) := by unfold sumI not32; exact U32_bits _ _ _

set_option maxRecDepth 20000 in
set_option maxHeartbeats 800000 in
theorem More_any (A : Option Addr) (n c : Nat) (l : List Int) (w : World) (hn : l.length = n) (hl : n ≤ 500000000000) (hI : Ints .u8 w A l) (hB : Bytes l) :
    Calls Tryz.prog 59 #[.int .u32 0, .slice A n c] w fun e w' => e = .returned (.int .u32 (sumI l)) ∧ Below w.heap.size w w' := by
  have HN := Lib.hid hn
  have HI := Lib.hid hI
  have HB := Lib.hid hB
  have hsg : IntKind.u32.signed = false := rfl
  clear hn hI hB
  by_cases h64 : n < 64
  · have h64' : (n : Int) < 64 := by omega
    go_enter Tryz.func59, Tryz.ntmps59
    go_wp2_with fail
    go_loopg [5, 18] n (fun kq v5 v18 w' => ∃ (i : Nat) (r : Int), v18 = .int .i64 (i : Int) ∧ i + kq = n ∧ v5 = .int .u32 r ∧ U32 r ∧ Hid ((l.take i).foldl crcN (not32 0) = r) ∧ w = w')
    case atStart => exact ⟨0, not32 0, rfl, by omega, rfl, U32_bits _ _ _, Lib.hid rfl, rfl⟩
    case round =>
      obtain ⟨i, r, rfl, hi, rfl, ⟨hr0, hr1⟩, HZ, rfl⟩ := hrel
      by_cases hlt : i < n
      · obtain ⟨ad, rfl, hc⟩ := HI.out i (by rw [HN.out]; exact hlt)
        obtain ⟨hb0, hb1⟩ := HB.out i
        have HZ' := Lib.hid (show (l.take (i + 1)).foldl crcN (not32 0) = crcN r (l.getD i 0) by rw [take_getD l i (by rw [HN.out]; exact hlt), List.foldl_append, HZ.out]; rfl)
        have i1 : (i : Int) < (n : Int) := by omega
        obtain ⟨hx0, hx1⟩ := U8_bits .xor (r / 16777216) (l.getD i 0)
        have HS := Lib.hid (fun W => step_any (Go.bits .xor .u8 (r / 16777216) (l.getD i 0)) W hx0 hx1)
        have HU := Lib.hid (crcN_U r (l.getD i 0))
        clear hlt
        go_wp2_with (go_at_call 86; refine (HS.out _).mono ?_; rintro e w' ⟨rfl, rfl⟩)
        go_roundg (n - (i + 1))
        case measure => omega
        case rel => exact ⟨i + 1, _, by go_num, by omega, rfl, HU.out, HZ', rfl⟩
      · have hin : i = n := by omega
        subst hin
        have HE := Lib.hid (show not32 r = sumI l by rw [← HZ.out, List.take_of_length_le (by rw [HN.out]; exact Nat.le_refl _)]; rfl)
        clear hlt
        go_wp2_with fail
        go_ret
        exact ⟨by rw [← HE.out]; rfl, Below.refl _ _⟩
  · have h64' : (64 : Int) ≤ (n : Int) := by omega
    have HT := Lib.hid (crcTab_any w)
    go_enter Tryz.func59, Tryz.ntmps59
    go_wp2_with (go_at_call 87; refine HT.out.mono ?_; rintro e w' ⟨g, rfl, hg, hrow, hb⟩)
    have HRW := Lib.hid hrow
    have HBB := Lib.hid hb
    have HI2 := Lib.hid (HI.out.below hb)
    clear hrow hb hg HT HI
    go_loopg [5, 37] n (fun kq v5 v37 w9 => ∃ (i : Nat) (r : Int), v37 = .int .i64 (i : Int) ∧ i + kq = n ∧ v5 = .int .u32 r ∧ U32 r ∧ Hid ((l.take i).foldl crcN (not32 0) = r) ∧ w' = w9)
    case atStart => exact ⟨0, not32 0, rfl, by omega, rfl, U32_bits _ _ _, Lib.hid rfl, rfl⟩
    case round =>
      obtain ⟨i, r, rfl, hi, rfl, ⟨hr0, hr1⟩, HZ, rfl⟩ := hrel
      by_cases hlt : i < n
      · obtain ⟨ad, rfl, hc⟩ := HI2.out i (by rw [HN.out]; exact hlt)
        obtain ⟨hb0, hb1⟩ := HB.out i
        have HZ' := Lib.hid (show (l.take (i + 1)).foldl crcN (not32 0) = crcN r (l.getD i 0) by rw [take_getD l i (by rw [HN.out]; exact hlt), List.foldl_append, HZ.out]; rfl)
        have i1 : (i : Int) < (n : Int) := by omega
        obtain ⟨hx0, hx1⟩ := U8_bits .xor (r / 16777216) (l.getD i 0)
        have HU := Lib.hid (crcN_U r (l.getD i 0))
        generalize l.getD i 0 = x at *
        obtain ⟨z, hz⟩ : ∃ z : Nat, Go.bits .xor .u8 (r / 16777216) x = z := ⟨(Go.bits .xor .u8 (r / 16777216) x).toNat, by omega⟩
        have hz1 : z < 256 := by omega
        have hct : w'.cell? ⟨g, z, none⟩ = some (.int .u32 (stepI z)) := by
          rw [cell_of_row _ _ _ _ _ _ HRW.out, cells32_get _ _ (by rw [tabL_length]; omega), tabL_get 256 (by omega) _ (by omega)]
        have HC := Lib.hid (show Go.bits .xor .u32 (r * 256 % 4294967296) (stepI z) = crcN r x by unfold crcN; rw [hz])
        clear hx0 hx1 hlt
        go_wp2_with fail
        go_roundg (n - (i + 1))
        case measure => omega
        case rel => exact ⟨i + 1, _, by go_num, by omega, by rw [HC.out], HU.out, HZ', rfl⟩
      · have hin : i = n := by omega
        subst hin
        have HE := Lib.hid (show not32 r = sumI l by rw [← HZ.out, List.take_of_length_le (by rw [HN.out]; exact Nat.le_refl _)]; rfl)
        clear hlt
        go_wp2_with fail
        go_ret
        exact ⟨by rw [← HE.out]; rfl, HBB.out⟩
end Go.Proofs.YtcklcffepedklaaGreatDoor

namespace Go.Proofs.YtcklcffepedklaaGreatDoor
open Go.RowKit

theorem CSum_any (A : Option Addr) (n c : Nat) (l : List Int) (w : World) (hn : l.length = n) (hl : n ≤ 500000000000) (hI : Ints .u8 w A l) (hB : Bytes l) :
    Calls Tryz.prog 30 #[.slice A n c] w fun e w' => e = .returned (.int .u32 (sumI l)) ∧ Below w.heap.size w w' := by
  have HM := Lib.hid (More_any A n c l w hn hl hI hB)
  clear hn hl hI hB
  go_enter Tryz.func30, Tryz.ntmps30
  go_wp2_with (go_at_call 59; refine HM.out.mono ?_; rintro e w' ⟨rfl, hb⟩)
  go_ret
  exact ⟨rfl, hb⟩
/-- Bytes with their sum behind them. -/
def sealL (l : List Int) : List Int := l ++ beL (sumI l).toNat 4
end Go.Proofs.YtcklcffepedklaaGreatDoor
