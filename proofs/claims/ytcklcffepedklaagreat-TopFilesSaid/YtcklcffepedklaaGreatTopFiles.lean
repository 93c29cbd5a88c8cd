/- TopFiles: for any two slices of bytes, any number and any part, bytes that are cut, stored, joined and cut again are fetched as they were. Conditions: none. -/
import Derived.Test.YtcklcffepedklaaGreatRows
import Derived.Test.YtcklcffepedklaaGreatFiles
import Derived.Test.YtcklcffepedklaaGreatOpen
import Derived.WalkKit
import Derived.ProofKit
import Derived.OpenShut
import Derived.ShutString
import Derived.ChangeOld
import Derived.Below
import Derived.SizedLaws
namespace Go.Proofs.YtcklcffepedklaaGreat.topFiles
open Go.ChangeShapes Go.WideShapes Go.ChangeAt Go.RowKit

theorem own : ownKnob Tryz.prog.godebug = none := by kernel_rfl
theorem laidOut : laidOutB Tryz.prog = true := by kernel_rfl

theorem files_any (A : Option Addr) (na ca : Nat) (a : List Int) (B : Option Addr) (nb cb : Nat) (b : List Int) (x : Int) (l : List Int) (w : World) (hna : a.length = na) (hca : na ≤ ca) (hIa : Ints .u8 w A a) (hBa : Bytes a) (hA : A = none → na = 0 ∧ ca = 0) (hnb : b.length = nb) (hcb : nb ≤ cb) (hIb : Ints .u8 w B b) (hBb : Bytes b) (hB : B = none → nb = 0 ∧ cb = 0) (h0 : 0 ≤ x) (h1 : x ≤ 255) (hl : l.length = 2) (hr : ∀ y ∈ l, 0 ≤ y ∧ y ≤ 65535) :
    Calls Tryz.prog 4 #[.slice A na ca, .slice B nb cb, .int .u8 x, .agg (l.map (Value.int .u16)).toArray] w fun e w' => e = .returned (.bool true) ∧ Below w.heap.size w w' := by
  obtain ⟨n, rfl⟩ := Int.eq_ofNat_of_zero_le h0
  match l, hl with
  | [p, q], _ =>
    have hp := hr p (by simp)
    have hq := hr q (by simp)
    obtain ⟨p0, rfl⟩ := Int.eq_ofNat_of_zero_le hp.1
    obtain ⟨p1, rfl⟩ := Int.eq_ofNat_of_zero_le hq.1
    exact Files_law A na ca a B nb cb b n p0 p1 w hna hca hIa hBa hA hnb hcb hIb hBb hB (by omega) (by omega) (by omega)

set_option maxRecDepth 100000 in
theorem lifted (os : Os) (started : os.Started) (H : Type) (enc : TypeId × Value → H) :
    ReturnsInHanded {} Tryz.checked os 4 .any (Rows.topFilesSpec.pre6 enc Tryz.prog Tryz.f4 Rows.topFilesRow.domain false) (Rows.topFilesSpec.post enc Tryz.prog Tryz.f4 false true false false) := by
  refine returnsInHanded_of_change_sized (C := Tryz.checked) own started (by kernel_rfl) Tryz.func4
    (ChangeSpec.witness6 (enc := enc) (C := Tryz.checked) false ⟨#[], #[.slice none 0 0, .slice none 0 0, .int .u8 0, .agg #[.int .u16 0, .int .u16 0]], []⟩ 8 (by kernel_rfl) (by kernel_rfl) (by kernel_rfl) (by kernel_rfl)) ?_
  intro W base args ds gs before hval0 hW hcnd hsz0 _
  have hsz : (DataW.weightsEach Tryz.prog (Tryz.f4.params.toList ++ Rows.topFilesSpec.plain.varTypes Tryz.prog) (ds ++ gs)).all (· ≤ reachBytes) = true := hsz0
  have hval : ∀ (j : Nat) t v, Tryz.f4.params[j]? = some t → args[j]? = some v → Value.okWide Tryz.prog W .any base t v := hval0
  have hW' := hW
  obtain ⟨p, q, hA0, hV, rfl, hfz, hnd⟩ := hW
  have hA : DataW.TrodAll enc Tryz.prog W 0 (fun _ => true) true Tryz.f4.params.toList args.toList ds p := hA0
  rw [Tryz.params4] at hA hval hsz
  obtain ⟨v0, vs0, d0, ds0, p0, q0, hargs, rfl, rfl, h0, r0⟩ := trodAll_cons hA
  obtain ⟨v1, vs1, d1, ds1, p1, q1, rfl, rfl, rfl, h1, r1⟩ := trodAll_cons r0
  obtain ⟨v2, vs2, d2, ds2, p2, q2, rfl, rfl, rfl, h2, r2⟩ := trodAll_cons r1
  obtain ⟨v3, vs3, d3, ds3, p3, q3, rfl, rfl, rfl, h3, r3⟩ := trodAll_cons r2
  obtain ⟨rfl, rfl, rfl⟩ := trodAll_nil r3
  obtain rfl : args = #[v0, v1, v2, v3] := by cases args; simp_all
  obtain ⟨rfl, rfl⟩ := trodVars_none hV
  have lt0 : ∀ x ∈ p0, x.block < W.heap.size := by obtain ⟨m, hm⟩ := h0; exact DataW.trod_lt m _ _ _ hm
  obtain ⟨a0, len0, cap0, rfl⟩ := okWide_slice Tryz.underlying22 (hval 0 22 v0 rfl rfl)
  obtain ⟨l0, rfl, hc0, hI0, hw0, hz0, hA0⟩ := open_row hsz (j := 0) (t := 22) rfl rfl Tryz.underlying22 Tryz.underlying5 (by kernel_rfl) (by kernel_rfl : Tryz.prog.bytesOf 5 = 1) h0
  have lt1 : ∀ x ∈ p1, x.block < W.heap.size := by obtain ⟨m, hm⟩ := h1; exact DataW.trod_lt m _ _ _ hm
  obtain ⟨a1, len1, cap1, rfl⟩ := okWide_slice Tryz.underlying22 (hval 1 22 v1 rfl rfl)
  obtain ⟨l1, rfl, hc1, hI1, hw1, hz1, hA1⟩ := open_row hsz (j := 1) (t := 22) rfl rfl Tryz.underlying22 Tryz.underlying5 (by kernel_rfl) (by kernel_rfl : Tryz.prog.bytesOf 5 = 1) h1
  have lt2 : ∀ x ∈ p2, x.block < W.heap.size := by obtain ⟨m, hm⟩ := h2; exact DataW.trod_lt m _ _ _ hm
  have k2 := h2
  obtain ⟨x2, rfl, rfl, rfl, wx2⟩ := open_int Tryz.underlying5 (hval 2 5 v2 rfl rfl) h2
  have lt3 : ∀ x ∈ p3, x.block < W.heap.size := by obtain ⟨m, hm⟩ := h3; exact DataW.trod_lt m _ _ _ hm
  have k3 := h3
  obtain ⟨l3, rfl, hn3, hw3⟩ := open_arr_int Tryz.underlying41 (by kernel_rfl) Tryz.underlying40 (by kernel_rfl) (hval 3 41 v3 rfl rfl) h3
  clear hA0 hval0
  have b2 := bounds_u8 wx2
  refine (files_any a0 _ cap0 l0 a1 _ cap1 l1 x2 l3 W rfl hc0 hI0 (bytes_of hw0) hA0 rfl hc1 hI1 (bytes_of hw1) hA1 b2.1 b2.2 hn3 (fun x hx => bounds_u16 (hw3 x hx))).mono fun e W' ⟨he, bel⟩ => ?_
  subst he
  exact ⟨_, rfl, _, _, _, [], _, [], hW', trodAll_mk1 (shut_bool Tryz.underlying4 _), (trodAll_cons_mk (Below.trod laidOut (by kernel_rfl) (of_decide_eq_true (by kernel_rfl)) h0 bel lt0) (trodAll_cons_mk (Below.trod laidOut (by kernel_rfl) (of_decide_eq_true (by kernel_rfl)) h1 bel lt1) (trodAll_cons_mk (Below.trod laidOut (by kernel_rfl) (of_decide_eq_true (by kernel_rfl)) k2 bel lt2) (trodAll_cons_mk (Below.trod laidOut (by kernel_rfl) (of_decide_eq_true (by kernel_rfl)) k3 bel lt3) trodAll_mk0)))), rfl, bel.frame _, fun h => by cases h⟩

theorem over : Rows.topFilesRow.holds Tryz.pinned (OpenSpec.ofChange Rows.topFilesSpec) :=
  OpenClaim.holds_of_wide 4 Tryz.f4 rfl rfl rfl rfl rfl rfl rfl ⟨rfl, rfl, rfl, rfl, rfl⟩ rfl rfl rfl rfl rfl (by kernel_rfl) Tryz.func4 (by kernel_rfl)
    (of_decide_eq_true (by kernel_rfl)) (by unfold Func.isWrapper; first | (rw [if_pos (by decide +kernel)]; kernel_rfl) | (rw [if_neg (by decide +kernel)]; exact ⟨rfl, rfl⟩))
    (fun os started H enc _ => lifted os started H enc)

end Go.Proofs.YtcklcffepedklaaGreat.topFiles
namespace Go.Proofs.YtcklcffepedklaaGreat
theorem topFiles_holds : Rows.TopFilesSaid := topFiles.over
#print axioms topFiles_holds
end Go.Proofs.YtcklcffepedklaaGreat
