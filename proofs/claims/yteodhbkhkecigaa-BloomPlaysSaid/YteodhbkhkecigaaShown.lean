/- bloom: the document's examples, at the head of each statement. -/
import Derived.Test.YteodhbkhkecigaaOps
namespace Go.Proofs.Yteodhbkhkecigaa
open Go.RowKit

theorem New_at (bits probes : Int) (b p : Nat) (w : World) (hb : bits = b) (hp : probes = p) (h1 : b ≤ 1048576) (h2 : p ≤ 30) :
    Calls Try.prog 9 #[.int .i64 bits, .int .i64 probes] w (NewVec b p w) := by subst hb; subst hp; exact New_any b p w h1 h2

/-- A key of zeroes and a number. -/
def keyZ (n : Nat) : Array Value := #[.int .u8 0, .int .u8 0, .int .u8 0, .int .u8 0, .int .u8 0, .int .u8 0, .int .u8 0, .int .u8 0, .int .u8 0, .int .u8 0, .int .u8 0, .int .u8 0, .int .u8 0, .int .u8 0, .int .u8 0, .int .u8 0, .int .u8 0, .int .u8 0, .int .u8 0, .int .u8 0, .int .u8 0, .int .u8 0, .int .u8 0, .int .u8 0, .int .u8 0, .int .u8 0, .int .u8 0, .int .u8 0, .int .u8 0, .int .u8 0, .int .u8 0, .int .u8 0, .int .u32 ((n : Nat) : Int)]
theorem keyZ_C (n : Nat) (hn : n < 4294967296) : KeyC (keyZ n) (fun _ => 0) n := by
  refine ⟨rfl, ?_, fun _ => by decide, rfl, hn⟩
  intro i hi
  match i, hi with
  | 0, _ => rfl
  | 1, _ => rfl
  | 2, _ => rfl
  | 3, _ => rfl
  | 4, _ => rfl
  | 5, _ => rfl
  | 6, _ => rfl
  | 7, _ => rfl
  | 8, _ => rfl
  | 9, _ => rfl
  | 10, _ => rfl
  | 11, _ => rfl
  | 12, _ => rfl
  | 13, _ => rfl
  | 14, _ => rfl
  | 15, _ => rfl
  | 16, _ => rfl
  | 17, _ => rfl
  | 18, _ => rfl
  | 19, _ => rfl
  | 20, _ => rfl
  | 21, _ => rfl
  | 22, _ => rfl
  | 23, _ => rfl
  | 24, _ => rfl
  | 25, _ => rfl
  | 26, _ => rfl
  | 27, _ => rfl
  | 28, _ => rfl
  | 29, _ => rfl
  | 30, _ => rfl
  | 31, _ => rfl
  | (n + 32), h => omega

theorem bytes8 : strOfNums (pack ((8 + 7) / 8) (puts (fun _ => false) (placesK 8 1 (fun _ => 0) 3))) = ⟨#[8]⟩ := by decide +kernel

theorem May_at (r : Bool) (g h bits probes : Nat) (f : Nat → Bool) (k : Array Value) (b : Nat → Nat) (n : Nat) (w : World) (V : Vec w g h bits probes f) (K : KeyC k b n) (hr : (placesK bits probes b n).all f = r) :
    Calls Try.prog 18 #[.pointer (some ⟨g, 0, none⟩), .agg k] w fun e w' => e = .returned (.bool r) ∧ w.grownBy w' none := by subst hr; exact May_any g h bits probes f k b n w V K

set_option maxHeartbeats 800000 in
theorem shown_any (w : World) : Calls Try.prog 8 #[] w fun e w' => e = .returned (.bool true) ∧ Below w.heap.size w w' := by
  have HB8 := Lib.hid bytes8
  go_enter Try.func8, Try.ntmps8
  go_wp2_with fail
  refine (New_at 8 1 8 1 w rfl rfl (by decide) (by decide)).mono ?_
  rintro e w1 ⟨rfl, hg1, V1, hs1⟩
  have HS1 := Lib.hid hs1
  clear hs1
  go_wp2_with fail
  refine (New_at 0 5 0 5 w1 rfl rfl (by decide) (by decide)).mono ?_
  rintro e w2 ⟨rfl, hg2, V2, hs2⟩
  have HS2 := Lib.hid hs2
  clear hs2
  go_wp2_with fail
  refine (Add_any (w.heap.size + 1) w.heap.size 8 1 _ (keyZ 3) _ 3 w2 (V1.kept hg2 (by simp) (by simp)) (by omega) (keyZ_C 3 (by decide))).mono ?_
  rintro e w3 ⟨rfl, hg3, V3⟩
  have V2' := V2.kept hg3 (by rw [HS1.out]; simp; omega) (by rw [HS1.out]; simp)
  go_wp2_with fail
  refine (Bytes_any (w.heap.size + 1) w.heap.size 8 1 _ w3 V3).mono ?_
  rintro e w4 ⟨A, c, rfl, hc, hI, hA, hb4⟩
  have hg4 := below_grown hb4 none
  have V4 := V3.kept hg4 (by simp) (by simp)
  have hcv : (convert 37 9 (.slice A (pack ((8 + 7) / 8) (puts (fun _ => false) (placesK 8 1 (fun _ => 0) 3))).length c)).run Try.prog w4 = .ok (.string ⟨#[8]⟩) w4 := by rw [← HB8.out]; exact run_conv_ints hI 37 9 5 _ c rfl Try.underlying37 Try.underlying5 Try.underlying9
  go_wp2_with fail
  refine (May_at true (w.heap.size + 1) w.heap.size 8 1 _ (keyZ 11) _ 11 w4 V4 (keyZ_C 11 (by decide)) (by decide +kernel)).mono ?_
  rintro e w5 ⟨rfl, hg5⟩
  have V5 := V4.kept hg5 (by simp) (by simp)
  go_wp2_with fail
  refine (May_at false (w.heap.size + 1) w.heap.size 8 1 _ (keyZ 4) _ 4 w5 V5 (keyZ_C 4 (by decide)) (by decide +kernel)).mono ?_
  rintro e w6 ⟨rfl, hg6⟩
  have V6 := ((V2'.kept hg4 (by simp) (by simp)).kept hg5 (by simp) (by simp)).kept hg6 (by simp) (by simp)
  go_wp2_with fail
  refine (May_at true (w1.heap.size + 1) w1.heap.size 0 5 _ (keyZ 4) _ 4 w6 V6 (keyZ_C 4 (by decide)) (by decide +kernel)).mono ?_
  rintro e w7 ⟨rfl, hg7⟩
  go_wp2_with fail
  go_ret
  have s1 := hg1.size; have s2 := hg2.size; have s3 := hg3.size; have s4 := hg4.size; have s5 := hg5.size; have s6 := hg6.size
  refine ⟨rfl, ?_⟩
  refine (((((((Below.refl _ _).grown hg1 (Nat.le_refl _) ?_).grown hg2 (by omega) ?_).grown hg3 (by omega) ?_).grown hg4 (by omega) ?_).grown hg5 (by omega) ?_).grown hg6 (by omega) ?_).grown hg7 (by omega) ?_
  all_goals (intro k hk; first | cases hk; done | (injection hk; omega))

end Go.Proofs.Yteodhbkhkecigaa
