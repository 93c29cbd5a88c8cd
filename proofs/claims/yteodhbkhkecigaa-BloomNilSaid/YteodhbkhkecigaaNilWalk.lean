/- bloom: a nil summary; the walk of BloomNil. -/
import Derived.Test.YteodhbkhkecigaaShown
namespace Go.Proofs.Yteodhbkhkecigaa
open Go.RowKit

theorem each_nil (k : Array Value) (fv : Value) (w : World) :
    Calls Try.prog 23 #[.pointer none, .agg k, fv] w fun e w' => e = .returned (.bool true) ∧ w.grownBy w' none := by
  have HG := Lib.hid (grown_alloc w (.cells k 35) none)
  go_enter Try.func23, Try.ntmps23
  go_wp2
  go_ret
  exact ⟨rfl, HG.out⟩
theorem Add_nil (k : Array Value) (hk : k.size = 33) (w : World) :
    Calls Try.prog 10 #[.pointer none, .agg k] w fun e w' => e = .returned (.tuple #[]) ∧ w.grownBy w' none := by
  have HI := Lib.hid (show (Try.prog.info? 35).map (·.size) = some k.size by rw [hk]; kernel_rfl)
  have HG := Lib.hid (grown_alloc w (.cells k 35) none)
  go_enter Try.func10, Try.ntmps10
  go_wp2_with (first | (with_reducible refine wpList_load_row rfl 35 _ rfl w.heap.size rfl 35 _ (0, 0) _ (heap_alloc_last _ _) Try.underlying35 rfl HI.out ?_) | (go_at_call 23; refine (each_nil _ _ _).mono ?_; rintro e w2 ⟨rfl, hg2⟩))
  go_end0
  exact ⟨rfl, grown_trans HG.out hg2⟩
theorem May_nil (k : Array Value) (hk : k.size = 33) (w : World) :
    Calls Try.prog 18 #[.pointer none, .agg k] w fun e w' => e = .returned (.bool true) ∧ w.grownBy w' none := by
  have HI := Lib.hid (show (Try.prog.info? 35).map (·.size) = some k.size by rw [hk]; kernel_rfl)
  have HG := Lib.hid (grown_alloc w (.cells k 35) none)
  go_enter Try.func18, Try.ntmps18
  go_wp2_with (first | (with_reducible refine wpList_load_row rfl 35 _ rfl w.heap.size rfl 35 _ (0, 0) _ (heap_alloc_last _ _) Try.underlying35 rfl HI.out ?_) | (go_at_call 23; refine (each_nil _ _ _).mono ?_; rintro e w2 ⟨rfl, hg2⟩))
  go_ret
  exact ⟨rfl, grown_trans HG.out hg2⟩
theorem Or_nil (v : Value) (w : World) : Calls Try.prog 11 #[.pointer none, v] w fun e w' => e = .returned (.tuple #[]) ∧ w = w' := by
  go_enter Try.func11, Try.ntmps11
  go_wp2
  refine bodyPost_ret (results_none rfl _ _ _) rfl ?_
  exact ⟨rfl, rfl⟩
theorem Clear_nil (w : World) : Calls Try.prog 21 #[.pointer none] w fun e w' => e = .returned (.tuple #[]) ∧ w = w' := by
  go_enter Try.func21, Try.ntmps21
  go_wp2
  go_end0
  exact ⟨rfl, rfl⟩
theorem Bytes_nil (w : World) : Calls Try.prog 12 #[.pointer none] w fun e w' => e = .returned (.slice none 0 0) ∧ w = w' := by
  go_enter Try.func12, Try.ntmps12
  go_wp2
  go_ret
  exact ⟨rfl, rfl⟩

set_option maxHeartbeats 400000 in
theorem Nil_law (k : Array Value) (hk : k.size = 33) (v : Value) (w : World) :
    Calls Try.prog 7 #[.agg k, v] w fun e w' => e = .returned (.bool true) ∧ Below w.heap.size w w' := by
  have HI := Lib.hid (show (Try.prog.info? 35).map (·.size) = some k.size by rw [hk]; kernel_rfl)
  have HG0 := Lib.hid (grown_alloc w (.cells k 35) none)
  have HA := Lib.hid (heap_alloc_last w (.cells k 35))
  go_enter Try.func7, Try.ntmps7
  go_wp2_with (with_reducible refine wpList_load_row rfl 35 _ rfl w.heap.size rfl 35 _ (0, 0) _ HA.out Try.underlying35 rfl HI.out ?_)
  refine (Add_nil k hk _).mono ?_
  rintro e w1 ⟨rfl, hg1⟩
  go_wp2_with fail
  refine (Or_nil v _).mono ?_
  rintro e w' ⟨rfl, rfl⟩
  go_wp2_with fail
  refine (Clear_nil _).mono ?_
  rintro e w' ⟨rfl, rfl⟩
  go_wp2_with fail
  refine (shown_any _).mono ?_
  rintro e w2 ⟨rfl, hb2⟩
  have s0 := HG0.out.size
  have s1 := hg1.size
  have HA2 := Lib.hid (show w2.heap[w.heap.size]? = some (.cells k 35 (0, 0)) by
    rw [hb2.block w.heap.size (by simp at s1; omega), hg1.block w.heap.size (by simp) (by simp)]; exact HA.out)
  go_wp2_with (with_reducible refine wpList_load_row_w (by go_simp) 35 _ rfl w.heap.size rfl 35 _ (0, 0) _ HA2.out Try.underlying35 rfl HI.out ?_)
  refine (May_nil k hk _).mono ?_
  rintro e w3 ⟨rfl, hg3⟩
  go_wp2_with fail
  refine (Bytes_nil _).mono ?_
  rintro e w' ⟨rfl, rfl⟩
  go_wp2_with fail
  go_ret
  have s2 := hb2.size
  exact ⟨rfl, ((((Below.refl _ _).grown HG0.out (Nat.le_refl _) (by simp)).grown hg1 s0 (by simp)).trans (hb2.mono (by omega))).grown hg3 (by omega) (by simp)⟩

end Go.Proofs.Yteodhbkhkecigaa
