/- The walk of BloomHas. -/
import Derived.Test.YteodhbkhkecigaaActs
namespace Go.Proofs.Yteodhbkhkecigaa
open Go.RowKit

theorem doF_mono (bits probes : Nat) (f : Nat → Bool) (a : ActT) (h : a.kind % 3 < 2) (q : Nat) (hq : f q = true) : doF bits probes f a q = true := by
  unfold doF
  split
  · simp [puts, hq]
  · rw [if_pos (by omega)]; simp [orAll, hq]
theorem info47 {w : World} {k : Array Value} {a : ActT} (K : ActC w k a) : (Try.prog.info? 47).map (·.size) = some k.size := by rw [K.size]; kernel_rfl

theorem anyK_all (bits probes : Nat) (ks : List KeyT) (N i : Nat) (f : Nat → Bool) (hN : N ≤ ks.length) (hi : i < ks.length) (h : i < N) (hf : ∀ q, anyK bits probes ks N (fun _ => true) q = true → f q = true) : (placesK bits probes (ks[i]).1 (ks[i]).2).all f = true := by
  rw [List.all_eq_true]
  intro q hq
  refine hf q ?_
  simp only [anyK, List.any_eq_true, List.mem_range, Bool.true_and]
  refine ⟨i, h, ?_⟩
  rw [List.getD_eq_getElem?_getD, List.getElem?_eq_getElem hi]
  simpa using hq

set_option maxRecDepth 20000 in
set_option maxHeartbeats 3200000 in
theorem Has_law (bits probes : Nat) (A B : Option Addr) (c n d m : Nat) (l : List ActT) (ks : List KeyT) (w : World) (hb : bits < 65536) (hp : probes < 65536) (hn : l.length = n) (hL : Acts w A l) (hnc : n ≤ c)
    (hm : ks.length = m) (hK : Keys w B ks) (hmd : m ≤ d) :
    Calls Try.prog 6 #[.int .u16 bits, .int .u16 probes, .slice A n c, .slice B m d] w fun e w' => e = .returned (.bool true) ∧ Below w.heap.size w w' := by
  have HN := Lib.hid hn
  have HL := Lib.hid hL
  have HM := Lib.hid hm
  have HK := Lib.hid hK
  clear hn hL hm hK
  go_enter Try.func6, Try.ntmps6
  go_wp2_with fail
  refine (shown_any _).mono ?_
  rintro e w1 ⟨rfl, hb1⟩
  have hs1 := hb1.size
  go_wp2_with fail
  refine (New_any bits (probes % 31) w1 (by omega) (by omega)).mono ?_
  rintro e w2 ⟨rfl, hg2, V2, hs2⟩
  have HS2 := Lib.hid hs2
  clear hs2
  go_wp2_with fail
  case inl h =>
    have hNm : 300 ≤ m := by omega
    have hN3 : (300 : Nat) ≤ 300 := Nat.le_refl _
    go_loopg [14, 42] 300 (fun kq v14 v42 w' => ∃ i : Nat, v42 = .int .i64 (i : Int) ∧ i + kq = 300 ∧ Below w1.heap.size w1 w' ∧ ∃ f, Vec w' (w1.heap.size + 1) w1.heap.size bits (probes % 31) f ∧ Hid (∀ q, anyK bits (probes % 31) ks i (fun _ => true) q = true → f q = true))
    case atStart => exact ⟨0, rfl, by omega, grown_below hg2 (Nat.le_refl _) (by simp), _, V2, Lib.hid (by intro q hq; simp [anyK] at hq)⟩
    case round =>
      obtain ⟨i, rfl, hi, hbw, f, V, HF⟩ := hrel
      by_cases hlt : i < 300
      · obtain ⟨b, o, k, e, hbl, hr, hKc⟩ := ((HK.out.below hb1).below hbw) i (by rw [HM.out]; omega)
        subst e
        have hlt1 : (i : Int) < (300 : Int) := by omega
        have hlt2 : (0 : Int) ≤ (i : Int) := by omega
        have HR := Lib.hid hr
        have HKC := Lib.hid hKc
        have HS := Lib.hid (show (Try.prog.info? 35).map (·.size) = some k.toList.length from (info35 hKc).trans (by simp))
        have HV := Lib.hid V
        have HBW := Lib.hid hbw
        have hks := hKc.size
        clear hr hKc V hbw
        have HI := Lib.hid (info35 HKC.out)
        obtain ⟨w3, hst, hg3, hk3, hs3⟩ := store_key HKC.out wr
        have HST := Lib.hid hst
        clear hst
        go_wp2_with (first | (with_reducible refine Go.wpList_load_mid rfl 35 _ rfl b (o + i * 33) rfl k.toList _ HR.out Try.underlying35 rfl HS.out ?_) | (rw [HST.out]; simp only [Result.andThen_ok]) | (with_reducible refine wpList_load_row rfl 35 _ rfl wr.heap.size rfl 35 _ (0, 0) _ hk3 Try.underlying35 rfl HI.out ?_) | (go_at_call 10; refine (Add_any (w1.heap.size + 1) w1.heap.size bits (probes % 31) f k _ _ w3 (HV.out.kept hg3 (by simp) (by simp)) (by omega) HKC.out).mono ?_; rintro e w4 ⟨rfl, hg4, V4⟩))
        go_roundg (300 - (i + 1))
        case measure => omega
        case rel =>
          have hs3' := HBW.out.size
          have hs4 := hg3.size
          refine ⟨i + 1, by go_num, by omega, (HBW.out.grown hg3 hs3' (by simp)).grown hg4 (by omega) (by simp), _, V4, Lib.hid (fun q hq => ?_)⟩
          rw [← anyK_put bits (probes % 31) ks i (fun _ => true) (by rw [HM.out]; omega) rfl] at hq
          unfold puts at hq ⊢
          rcases Bool.or_eq_true_iff.1 hq with h | h
          · rw [HF.out q h]; rfl
          · rw [h]; simp
      · obtain rfl : 300 = i := by omega
        have HV := Lib.hid V
        have HBW := Lib.hid hbw
        clear V hbw
        go_wp2_with fail
        have hsr := HBW.out.size
        refine (few_any A c n l wr HN.out ((HL.out.below hb1).below HBW.out) hnc).mono ?_
        rintro e w5 ⟨⟨N, hN1, hN2, hNb, rfl⟩, rfl⟩
        have HNB := Lib.hid hNb
        clear hNb
        go_wp2_with fail
        go_loopg [16, 53] N (fun kq v16 v53 w' => ∃ i : Nat, v53 = .int .i64 (i : Int) ∧ i + kq = N ∧ Below w1.heap.size w1 w' ∧ ∃ f, Vec w' (w1.heap.size + 1) w1.heap.size bits (probes % 31) f ∧ Hid (∀ q, anyK bits (probes % 31) ks 300 (fun _ => true) q = true → f q = true))
        case atStart => exact ⟨0, rfl, by omega, HBW.out, _, HV.out, HF⟩
        case round =>
          obtain ⟨j, rfl, hj, hbw, f2, V, HF2⟩ := hrel
          have HV := Lib.hid V
          have HBW := Lib.hid hbw
          by_cases hlt : j < N
          · obtain ⟨a, ha⟩ : ∃ a, l[j]? = some a := ⟨_, List.getElem?_eq_getElem (by rw [HN.out]; omega)⟩
            obtain ⟨b, o, k, e, hbl, hr, hKc⟩ := ((HL.out.below hb1).below hbw) j a ha
            subst e
            have hblk : ∀ ad, a.A = some ad → 0 < a.b.length → ad.block ≠ w1.heap.size := by
              intro ad hd h0
              obtain ⟨_, _, _, _, _, _, hC0⟩ := HL.out j a ha
              have := hC0.blk ad hd h0
              omega
            obtain ⟨w3, hst, hg3, hk3, hs3⟩ := store_act hKc wr
            have hC3 := hKc.grown hg3 (fun _ h => by cases h)
            have V3 := V.kept hg3 (by simp) (by simp)
            have ck : w3.cell? ⟨wr.heap.size, 0, none⟩ = some (.int .u8 a.kind) := by rw [cell_of_row _ _ _ _ _ _ hk3]; exact hKc.kind
            have hlen := HNB.out j a hlt ha
            have HST := Lib.hid hst
            have HI := Lib.hid (info47 hKc)
            have HS := Lib.hid (show (Try.prog.info? 47).map (·.size) = some k.toList.length from (info47 hKc).trans (by simp))
            have hks := hKc.size
            have klt := hKc.klt
            have HR := Lib.hid hr
            have hlt1 : (j : Int) < (N : Int) := by omega
            have hlt2 : (0 : Int) ≤ (j : Int) := by omega
            have hM := doF_mono bits (probes % 31) f2 a
            have HC := Lib.hid (does_any (w1.heap.size + 1) w1.heap.size bits (probes % 31) a.b.length f2 a k w3 V3 (by omega) hC3 rfl hlen hblk)
            have hsr := HBW.out.size
            have hs4 := hg3.size
            have HM2 := Lib.hid hM
            clear V hbw hst hr hKc hC3 V3 hlen hblk ha hM hlt
            generalize a.kind = kd at *
            by_cases hkd : kd % 3 < 2
            · have hkd1 : (kd : Int) % 3 < 2 := by omega
              go_wp2_with (first | (with_reducible refine Go.wpList_load_mid rfl 47 _ rfl b (o + j * 35) rfl k.toList _ HR.out Try.underlying47 rfl HS.out ?_) | (rw [HST.out]; simp only [Result.andThen_ok]) | (with_reducible refine wpList_load_row rfl 47 _ rfl wr.heap.size rfl 47 _ (0, 0) _ hk3 Try.underlying47 rfl HI.out ?_) | (go_at_call 15; refine HC.out.mono ?_; rintro e w4 ⟨rfl, hg4, V4⟩))
              go_roundg (N - (j + 1))
              case measure => omega
              case rel => exact ⟨j + 1, by go_num, by omega, (HBW.out.grown hg3 hsr (by simp)).grown hg4 (by omega) (by simp), _, V4, Lib.hid (fun q hq => HM2.out hkd q (HF2.out q hq))⟩
            · have hkd1 : ¬ (kd : Int) % 3 < 2 := by omega
              go_wp2_with (first | (with_reducible refine Go.wpList_load_mid rfl 47 _ rfl b (o + j * 35) rfl k.toList _ HR.out Try.underlying47 rfl HS.out ?_) | (rw [HST.out]; simp only [Result.andThen_ok]))
              go_roundg (N - (j + 1))
              case measure => omega
              case rel => exact ⟨j + 1, by go_num, by omega, HBW.out.grown hg3 hsr (by simp), _, HV.out.kept hg3 (by simp) (by simp), HF2⟩
          · obtain rfl : N = j := by omega
            go_wp2_with fail
            go_loopg [18, 67] 300 (fun kq v18 v67 w' => ∃ i : Nat, v67 = .int .i64 (i : Int) ∧ i + kq = 300 ∧ Below w1.heap.size w1 w' ∧ Vec w' (w1.heap.size + 1) w1.heap.size bits (probes % 31) f2)
            case atStart => exact ⟨0, rfl, by omega, HBW.out, HV.out⟩
            case round =>
              obtain ⟨i, rfl, hi, hbw, V⟩ := hrel
              by_cases hlt : i < 300
              · obtain ⟨b, o, k, e, hbl, hr, hKc⟩ := ((HK.out.below hb1).below hbw) i (by rw [HM.out]; omega)
                subst e
                have hall := anyK_all bits (probes % 31) ks 300 i f2 (by rw [HM.out]; omega) (by rw [HM.out]; omega) hlt HF2.out
                obtain ⟨w3, hst, hg3, hk3, hs3⟩ := store_key hKc wr
                have HC := Lib.hid (May_at true (w1.heap.size + 1) w1.heap.size bits (probes % 31) f2 k _ _ w3 (V.kept hg3 (by simp) (by simp)) hKc hall)
                have hlt1 : (i : Int) < (300 : Int) := by omega
                have hlt2 : (0 : Int) ≤ (i : Int) := by omega
                have HR := Lib.hid hr
                have HS := Lib.hid (show (Try.prog.info? 35).map (·.size) = some k.toList.length from (info35 hKc).trans (by simp))
                have HI := Lib.hid (info35 hKc)
                have hks := hKc.size
                have HV := Lib.hid V
                have hsw := hbw.size
                have hsw3 := hg3.size
                have HBW := Lib.hid hbw
                have HST := Lib.hid hst
                clear hr hKc V hbw hst hall
                go_wp2_with (first | (with_reducible refine Go.wpList_load_mid rfl 35 _ rfl b (o + i * 33) rfl k.toList _ HR.out Try.underlying35 rfl HS.out ?_) | (rw [HST.out]; simp only [Result.andThen_ok]) | (with_reducible refine wpList_load_row rfl 35 _ rfl wr.heap.size rfl 35 _ (0, 0) _ hk3 Try.underlying35 rfl HI.out ?_) | (go_at_call 18; refine HC.out.mono ?_; rintro e w4 ⟨rfl, hg4⟩))
                go_roundg (300 - (i + 1))
                case measure => omega
                case rel => exact ⟨i + 1, by go_num, by omega, (HBW.out.grown hg3 hsw (by simp)).grown hg4 (by omega) (by simp), (HV.out.kept hg3 (by simp) (by simp)).kept hg4 (by simp) (by simp)⟩
              · obtain rfl : 300 = i := by omega
                have HBW := Lib.hid hbw
                clear V hbw
                go_wp2_with fail
                go_ret
                exact ⟨rfl, hb1.trans (HBW.out.mono hs1)⟩
    
  case inr h =>
    have hNm : m ≤ m := Nat.le_refl _
    have hN3 : m ≤ 300 := by omega
    go_loopg [14, 42] m (fun kq v14 v42 w' => ∃ i : Nat, v42 = .int .i64 (i : Int) ∧ i + kq = m ∧ Below w1.heap.size w1 w' ∧ ∃ f, Vec w' (w1.heap.size + 1) w1.heap.size bits (probes % 31) f ∧ Hid (∀ q, anyK bits (probes % 31) ks i (fun _ => true) q = true → f q = true))
    case atStart => exact ⟨0, rfl, by omega, grown_below hg2 (Nat.le_refl _) (by simp), _, V2, Lib.hid (by intro q hq; simp [anyK] at hq)⟩
    case round =>
      obtain ⟨i, rfl, hi, hbw, f, V, HF⟩ := hrel
      by_cases hlt : i < m
      · obtain ⟨b, o, k, e, hbl, hr, hKc⟩ := ((HK.out.below hb1).below hbw) i (by rw [HM.out]; omega)
        subst e
        have hlt1 : (i : Int) < (m : Int) := by omega
        have hlt2 : (0 : Int) ≤ (i : Int) := by omega
        have HR := Lib.hid hr
        have HKC := Lib.hid hKc
        have HS := Lib.hid (show (Try.prog.info? 35).map (·.size) = some k.toList.length from (info35 hKc).trans (by simp))
        have HV := Lib.hid V
        have HBW := Lib.hid hbw
        have hks := hKc.size
        clear hr hKc V hbw
        have HI := Lib.hid (info35 HKC.out)
        obtain ⟨w3, hst, hg3, hk3, hs3⟩ := store_key HKC.out wr
        have HST := Lib.hid hst
        clear hst
        go_wp2_with (first | (with_reducible refine Go.wpList_load_mid rfl 35 _ rfl b (o + i * 33) rfl k.toList _ HR.out Try.underlying35 rfl HS.out ?_) | (rw [HST.out]; simp only [Result.andThen_ok]) | (with_reducible refine wpList_load_row rfl 35 _ rfl wr.heap.size rfl 35 _ (0, 0) _ hk3 Try.underlying35 rfl HI.out ?_) | (go_at_call 10; refine (Add_any (w1.heap.size + 1) w1.heap.size bits (probes % 31) f k _ _ w3 (HV.out.kept hg3 (by simp) (by simp)) (by omega) HKC.out).mono ?_; rintro e w4 ⟨rfl, hg4, V4⟩))
        go_roundg (m - (i + 1))
        case measure => omega
        case rel =>
          have hs3' := HBW.out.size
          have hs4 := hg3.size
          refine ⟨i + 1, by go_num, by omega, (HBW.out.grown hg3 hs3' (by simp)).grown hg4 (by omega) (by simp), _, V4, Lib.hid (fun q hq => ?_)⟩
          rw [← anyK_put bits (probes % 31) ks i (fun _ => true) (by rw [HM.out]; omega) rfl] at hq
          unfold puts at hq ⊢
          rcases Bool.or_eq_true_iff.1 hq with h | h
          · rw [HF.out q h]; rfl
          · rw [h]; simp
      · obtain rfl : m = i := by omega
        have HV := Lib.hid V
        have HBW := Lib.hid hbw
        clear V hbw
        go_wp2_with fail
        have hsr := HBW.out.size
        refine (few_any A c n l wr HN.out ((HL.out.below hb1).below HBW.out) hnc).mono ?_
        rintro e w5 ⟨⟨N, hN1, hN2, hNb, rfl⟩, rfl⟩
        have HNB := Lib.hid hNb
        clear hNb
        go_wp2_with fail
        go_loopg [16, 53] N (fun kq v16 v53 w' => ∃ i : Nat, v53 = .int .i64 (i : Int) ∧ i + kq = N ∧ Below w1.heap.size w1 w' ∧ ∃ f, Vec w' (w1.heap.size + 1) w1.heap.size bits (probes % 31) f ∧ Hid (∀ q, anyK bits (probes % 31) ks m (fun _ => true) q = true → f q = true))
        case atStart => exact ⟨0, rfl, by omega, HBW.out, _, HV.out, HF⟩
        case round =>
          obtain ⟨j, rfl, hj, hbw, f2, V, HF2⟩ := hrel
          have HV := Lib.hid V
          have HBW := Lib.hid hbw
          by_cases hlt : j < N
          · obtain ⟨a, ha⟩ : ∃ a, l[j]? = some a := ⟨_, List.getElem?_eq_getElem (by rw [HN.out]; omega)⟩
            obtain ⟨b, o, k, e, hbl, hr, hKc⟩ := ((HL.out.below hb1).below hbw) j a ha
            subst e
            have hblk : ∀ ad, a.A = some ad → 0 < a.b.length → ad.block ≠ w1.heap.size := by
              intro ad hd h0
              obtain ⟨_, _, _, _, _, _, hC0⟩ := HL.out j a ha
              have := hC0.blk ad hd h0
              omega
            obtain ⟨w3, hst, hg3, hk3, hs3⟩ := store_act hKc wr
            have hC3 := hKc.grown hg3 (fun _ h => by cases h)
            have V3 := V.kept hg3 (by simp) (by simp)
            have ck : w3.cell? ⟨wr.heap.size, 0, none⟩ = some (.int .u8 a.kind) := by rw [cell_of_row _ _ _ _ _ _ hk3]; exact hKc.kind
            have hlen := HNB.out j a hlt ha
            have HST := Lib.hid hst
            have HI := Lib.hid (info47 hKc)
            have HS := Lib.hid (show (Try.prog.info? 47).map (·.size) = some k.toList.length from (info47 hKc).trans (by simp))
            have hks := hKc.size
            have klt := hKc.klt
            have HR := Lib.hid hr
            have hlt1 : (j : Int) < (N : Int) := by omega
            have hlt2 : (0 : Int) ≤ (j : Int) := by omega
            have hM := doF_mono bits (probes % 31) f2 a
            have HC := Lib.hid (does_any (w1.heap.size + 1) w1.heap.size bits (probes % 31) a.b.length f2 a k w3 V3 (by omega) hC3 rfl hlen hblk)
            have hsr := HBW.out.size
            have hs4 := hg3.size
            have HM2 := Lib.hid hM
            clear V hbw hst hr hKc hC3 V3 hlen hblk ha hM hlt
            generalize a.kind = kd at *
            by_cases hkd : kd % 3 < 2
            · have hkd1 : (kd : Int) % 3 < 2 := by omega
              go_wp2_with (first | (with_reducible refine Go.wpList_load_mid rfl 47 _ rfl b (o + j * 35) rfl k.toList _ HR.out Try.underlying47 rfl HS.out ?_) | (rw [HST.out]; simp only [Result.andThen_ok]) | (with_reducible refine wpList_load_row rfl 47 _ rfl wr.heap.size rfl 47 _ (0, 0) _ hk3 Try.underlying47 rfl HI.out ?_) | (go_at_call 15; refine HC.out.mono ?_; rintro e w4 ⟨rfl, hg4, V4⟩))
              go_roundg (N - (j + 1))
              case measure => omega
              case rel => exact ⟨j + 1, by go_num, by omega, (HBW.out.grown hg3 hsr (by simp)).grown hg4 (by omega) (by simp), _, V4, Lib.hid (fun q hq => HM2.out hkd q (HF2.out q hq))⟩
            · have hkd1 : ¬ (kd : Int) % 3 < 2 := by omega
              go_wp2_with (first | (with_reducible refine Go.wpList_load_mid rfl 47 _ rfl b (o + j * 35) rfl k.toList _ HR.out Try.underlying47 rfl HS.out ?_) | (rw [HST.out]; simp only [Result.andThen_ok]))
              go_roundg (N - (j + 1))
              case measure => omega
              case rel => exact ⟨j + 1, by go_num, by omega, HBW.out.grown hg3 hsr (by simp), _, HV.out.kept hg3 (by simp) (by simp), HF2⟩
          · obtain rfl : N = j := by omega
            go_wp2_with fail
            go_loopg [18, 67] m (fun kq v18 v67 w' => ∃ i : Nat, v67 = .int .i64 (i : Int) ∧ i + kq = m ∧ Below w1.heap.size w1 w' ∧ Vec w' (w1.heap.size + 1) w1.heap.size bits (probes % 31) f2)
            case atStart => exact ⟨0, rfl, by omega, HBW.out, HV.out⟩
            case round =>
              obtain ⟨i, rfl, hi, hbw, V⟩ := hrel
              by_cases hlt : i < m
              · obtain ⟨b, o, k, e, hbl, hr, hKc⟩ := ((HK.out.below hb1).below hbw) i (by rw [HM.out]; omega)
                subst e
                have hall := anyK_all bits (probes % 31) ks m i f2 (by rw [HM.out]; omega) (by rw [HM.out]; omega) hlt HF2.out
                obtain ⟨w3, hst, hg3, hk3, hs3⟩ := store_key hKc wr
                have HC := Lib.hid (May_at true (w1.heap.size + 1) w1.heap.size bits (probes % 31) f2 k _ _ w3 (V.kept hg3 (by simp) (by simp)) hKc hall)
                have hlt1 : (i : Int) < (m : Int) := by omega
                have hlt2 : (0 : Int) ≤ (i : Int) := by omega
                have HR := Lib.hid hr
                have HS := Lib.hid (show (Try.prog.info? 35).map (·.size) = some k.toList.length from (info35 hKc).trans (by simp))
                have HI := Lib.hid (info35 hKc)
                have hks := hKc.size
                have HV := Lib.hid V
                have hsw := hbw.size
                have hsw3 := hg3.size
                have HBW := Lib.hid hbw
                have HST := Lib.hid hst
                clear hr hKc V hbw hst hall
                go_wp2_with (first | (with_reducible refine Go.wpList_load_mid rfl 35 _ rfl b (o + i * 33) rfl k.toList _ HR.out Try.underlying35 rfl HS.out ?_) | (rw [HST.out]; simp only [Result.andThen_ok]) | (with_reducible refine wpList_load_row rfl 35 _ rfl wr.heap.size rfl 35 _ (0, 0) _ hk3 Try.underlying35 rfl HI.out ?_) | (go_at_call 18; refine HC.out.mono ?_; rintro e w4 ⟨rfl, hg4⟩))
                go_roundg (m - (i + 1))
                case measure => omega
                case rel => exact ⟨i + 1, by go_num, by omega, (HBW.out.grown hg3 hsw (by simp)).grown hg4 (by omega) (by simp), (HV.out.kept hg3 (by simp) (by simp)).kept hg4 (by simp) (by simp)⟩
              · obtain rfl : m = i := by omega
                have HBW := Lib.hid hbw
                clear V hbw
                go_wp2_with fail
                go_ret
                exact ⟨rfl, hb1.trans (HBW.out.mono hs1)⟩
    

end Go.Proofs.Yteodhbkhkecigaa
