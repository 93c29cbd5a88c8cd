/- Texts of the proof, one behind the other: tree: From, whole. -/
import Derived.Test.YtcklcffepedklaaGreatDoorM11
import Derived.Shelf.Abstract
namespace Go.Proofs.YtcklcffepedklaaGreatDoor
open Go.RowKit

theorem from_tells {wb : World} {ho hn n : Nat} (hho : wb.heap.size ≤ ho) (hho2 : ho < wb.heap.size + 2) (hhn2 : hn < wb.heap.size + 2) (hne : hn ≠ ho) (hn1 : n < 1000000000) :
    TellsN 96 #[.pointer (some ⟨ho, 0, none⟩), .pointer (some ⟨hn, 0, none⟩)] wb n (FrJ2 wb ho hn n) :=
  ⟨enters_of Tryz.func96 (by kernel_rfl) rfl, fun _ _ h => h.j.below, fun acc W ga k v l r hj hm ht => From1_any hho hho2 hhn2 hne hn1 acc W ga k v l r hj hm ht⟩
set_option maxRecDepth 20000 in
theorem From_any {w : World} {p : Option Addr} {t : Tre} (key : BA) (n : Nat) (h : TrAt w p t) (hs : Srtd t.prs) (hn0 : 0 < n) (hn1 : n < 1000000000) :
    Calls Tryz.prog 74 #[.pointer p, .string key, .int .i64 n] w fun e w' => ∃ A c, e = .returned (.slice A ((geP key t.prs).take n).length c) ∧ OwnPr w' w.heap.size (.slice A ((geP key t.prs).take n).length c) ((geP key t.prs).take n) ∧ Below w.heap.size w w' := by
  have hb1 := (Below.refl w.heap.size w).alloc (Nat.le_refl _) (.cells #[.int .i64 n] 3)
  have hr1 := heap_alloc_last w (.cells #[.int .i64 n] 3)
  have hs1 := World.size_alloc w (.cells #[.int .i64 n] 3)
  have hb2 := (Below.refl (w.alloc (.cells #[.int .i64 n] 3)).heap.size (w.alloc (.cells #[.int .i64 n] 3))).alloc (Nat.le_refl _) (.cells #[.slice none 0 0] 107)
  have hr2 := heap_alloc_last (w.alloc (.cells #[.int .i64 n] 3)) (.cells #[.slice none 0 0] 107)
  have hs2 := World.size_alloc (w.alloc (.cells #[.int .i64 n] 3)) (.cells #[.slice none 0 0] 107)
  rw [hs1] at hr2
  have hrn := (hb2.block w.heap.size (by rw [hs1]; omega)).trans hr1
  have hb := hb1.trans (hb2.mono (by rw [hs1]; omega))
  have cn : ((w.alloc (.cells #[.int .i64 n] 3)).alloc (.cells #[.slice none 0 0] 107)).cell? ⟨w.heap.size, 0, none⟩ = some (.int .i64 n) := cell_row' hrn
  have HJ := Lib.hid (show FrJ2 w (w.heap.size + 1) w.heap.size n [] ((w.alloc (.cells #[.int .i64 n] 3)).alloc (.cells #[.slice none 0 0] 107)) from
    ⟨⟨hb, by rw [hs2, hs1]; exact Nat.le_refl _, none, 0, hr2, World.ownsRow_nil _ _ _ _⟩, hrn⟩)
  have HW := Lib.hid (fun W hj => Twalk_any key (from_tells (wb := w) (ho := w.heap.size + 1) (hn := w.heap.size) (n := n) (by omega) (by omega) (by omega) (by omega) hn1) t p [] W h hs hj hn0)
  have hns : ¬ n = 0 := by omega
  clear hb1 hr1 hs1 hb2 hr2 hrn hb h hs hn1 hs2 hn0
  go_enter Tryz.func74, Tryz.ntmps74
  go_wp2_with fail
  refine (HW.out _ HJ.out).mono ?_
  rintro e w3 ⟨rfl, hj3⟩
  rw [List.nil_append] at hj3
  obtain ⟨A, c, hr3, ho3⟩ := hj3.j.out
  obtain ⟨q, hq⟩ : ∃ q, decide (([] ++ geP key t.prs).length < n) = q := ⟨_, rfl⟩
  rw [hq]
  have c3 : w3.cell? ⟨w.heap.size + 1, 0, none⟩ = some (.slice A ((geP key t.prs).take n).length c) := cell_row' hr3
  obtain ⟨l, hl⟩ : ∃ l, (geP key t.prs).take n = l := ⟨_, rfl⟩
  rw [hl] at c3 ho3
  obtain ⟨m, hm⟩ : ∃ m, l.length = m := ⟨_, rfl⟩
  have HB3 := Lib.hid hj3.j.below
  have HO3 := Lib.hid (show OwnPr w3 w.heap.size (.slice A l.length c) l from ownsRow_base ho3 (by omega))
  have HL := Lib.hid hl
  have HM := Lib.hid hm
  rw [hm] at c3
  clear hj3 hr3 ho3 hl hm hq cn
  go_wp2_with fail
  go_ret
  refine ⟨A, c, ?_, ?_, HB3.out⟩
  · rw [HL.out, HM.out]; rfl
  · rw [HL.out]; exact HO3.out
end Go.Proofs.YtcklcffepedklaaGreatDoor
