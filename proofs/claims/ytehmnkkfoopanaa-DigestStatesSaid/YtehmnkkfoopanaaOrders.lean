/- The document's digest: the ten orders. -/
import Derived.Test.YtehmnkkfoopanaaPressA
import Derived.Deep.WholeRow
namespace Go.Proofs.Ytehmnkkfoopanaa
open Go.RowKit

theorem one_i64 (l : List Int) : ((l.map (Value.int .i64)).toArray.all (·.oneCell')) = true := by simp [Value.oneCell']
/-- The ten orders, one behind the other. -/
def ordC : List Int := (List.range 160).map fun k => ((nib (k / 16) (k % 16) : Nat) : Int)
def ordLit : List Int := [0, 1, 2, 3, 4, 5, 6, 7, 8, 9, 10, 11, 12, 13, 14, 15, 14, 10, 4, 8, 9, 15, 13, 6, 1, 12, 0, 2, 11, 7, 5, 3, 11, 8, 12, 0, 5, 2, 15, 13, 10, 14, 3, 6, 7, 1, 9, 4, 7, 9, 3, 1, 13, 12, 11, 14, 2, 6, 5, 10, 4, 0, 15, 8, 9, 0, 5, 7, 2, 4, 10, 15, 14, 1, 11, 12, 6, 8, 3, 13, 2, 12, 6, 10, 0, 11, 8, 3, 4, 13, 7, 5, 15, 14, 1, 9, 12, 5, 1, 15, 14, 13, 4, 10, 0, 7, 6, 3, 9, 2, 8, 11, 13, 11, 7, 14, 12, 1, 3, 9, 5, 0, 15, 4, 8, 6, 2, 10, 6, 15, 14, 9, 11, 3, 0, 8, 12, 2, 13, 7, 1, 4, 10, 5, 10, 2, 8, 4, 7, 6, 1, 5, 15, 11, 9, 14, 3, 12, 13, 0]
theorem ord_is : ordLit = ordC := by decide +kernel
def z16 : List Int := [0, 0, 0, 0, 0, 0, 0, 0, 0, 0, 0, 0, 0, 0, 0, 0]
theorem Try.info53 : (Try.prog.info? 53).map (fun i => (i.zero, i.size, i.bytes)) = some (some (.agg (z16.map (Value.int .i64)).toArray), 16, 128) := by kernel_rfl
theorem zero53 (w : World) : (zeroValue 53).run Try.prog w = .ok (.agg (z16.map (Value.int .i64)).toArray) w := by
  obtain ⟨i0, hi, hz0, _, _⟩ := info_parts Try.info53
  simp [zeroValue, typeInfo, hi, hz0]
theorem Try.info54 : (Try.prog.info? 54).map (fun i => (i.zero, i.size, i.bytes)) = some (some (.agg ((List.replicate 160 (0 : Int)).map (Value.int .i64)).toArray), 160, 1280) := by kernel_rfl
theorem zero54 (w : World) : (zeroValue 54).run Try.prog w = .ok (.agg ((List.replicate 160 (0 : Int)).map (Value.int .i64)).toArray) w := by
  obtain ⟨i0, hi, hz0, _, _⟩ := info_parts Try.info54
  simp [zeroValue, typeInfo, hi, hz0]
theorem info54 : (Try.prog.info? 54).map (·.size) = some 160 := by kernel_rfl
set_option maxRecDepth 100000 in
set_option maxHeartbeats 3200000 in
theorem orders_any (w : World) : Calls Try.prog 24 #[] w fun e w' => e = .returned (.agg (ordC.map (Value.int .i64)).toArray) ∧ w.grownBy w' none := by
  rw [← ord_is]
  have h53 := zero53
  have h54 := zero54
  simp only [z16, List.map, List.replicate] at h53 h54
  go_enter Try.func24, Try.ntmps24
  go_wp2_with fail
  refine wp_store_row 54 _ _ rfl w.heap.size (ordLit.map (Value.int .i64)).toArray rfl rfl 54 _ (heap_alloc_last _ _) info54 rfl (one_i64 _) ?_
  rw [World.setRow_alloc_new]
  go_wp2_with fail
  refine bodyPost_ret (results_cell rfl _ _ w.heap.size 54 (ordLit.map (Value.int .i64)).toArray (0, 0) _ rfl (heap_alloc_last _ _) Try.underlying54 rfl info54) rfl ?_
  exact ⟨rfl, grown_alloc _ _ _⟩
end Go.Proofs.Ytehmnkkfoopanaa
