/- bloom: acts. -/
import Derived.Test.YteodhbkhkecigaaOrderWalk
import Derived.Deep.MidRow
namespace Go.Proofs.Yteodhbkhkecigaa
open Go.RowKit

/-- An act: what is done, a key, and bytes. -/
structure ActT where
  kind : Nat
  key : KeyT
  A : Option Addr
  cap : Nat
  b : List Int

/-- The cells k are those of the act a. -/
structure ActC (w : World) (k : Array Value) (a : ActT) : Prop where
  size : k.size = 35
  kind : k[0]? = some (.int .u8 a.kind)
  klt : a.kind < 256
  key : KeyC ((k.toList.drop 1).take 33).toArray a.key.1 a.key.2
  bytes : k[34]? = some (.slice a.A a.b.length a.cap)
  ints : Ints .u8 w a.A a.b
  isB : Bytes a.b
  blk : ∀ ad, a.A = some ad → 0 < a.b.length → ad.block < w.heap.size
theorem ActC.grown {w w' : World} {k : Array Value} {a : ActT} {r : Option Nat} (h : ActC w k a) (hg : w.grownBy w' r) (hr : ∀ q, r = some q → ∀ ad, a.A = some ad → 0 < a.b.length → ad.block ≠ q) : ActC w' k a :=
  ⟨h.size, h.kind, h.klt, h.key, h.bytes, fun i hi => by
    obtain ⟨ad, e, hc⟩ := h.ints i hi
    exact ⟨ad, e, (World.cell?_of_block (w := w) (by rw [add_block]; exact hg.block _ (h.blk ad e (by omega)) (fun he => hr _ he.symm ad e (by omega) rfl))).trans hc⟩, h.isB, fun ad e h0 => Nat.lt_of_lt_of_le (h.blk ad e h0) hg.size⟩
theorem ActC.below {w w' : World} {k : Array Value} {a : ActT} (h : ActC w k a) (hb : Below w.heap.size w w') : ActC w' k a := h.grown (below_grown hb none) (fun _ h => by cases h)

/-- The slice at A holds the acts l. -/
def Acts (w : World) (A : Option Addr) (l : List ActT) : Prop :=
  ∀ i a, l[i]? = some a → ∃ (b o : Nat) (k : Array Value), A = some ⟨b, o, none⟩ ∧ b < w.heap.size ∧ w.rangeAt b (o + i * 35) k.toList ∧ ActC w k a
theorem Acts.below {w w' : World} {A : Option Addr} {l : List ActT} (h : Acts w A l) (hb : Below w.heap.size w w') : Acts w' A l := by
  intro i a hi
  obtain ⟨b, o, k, e, hlt, hk, hc⟩ := h i a hi
  exact ⟨b, o, k, e, Nat.lt_of_lt_of_le hlt hb.size, rangeAt_block hk (hb.block b hlt), hc.below hb⟩
theorem Acts.drewN {w : World} {A : Option Addr} {l : List ActT} (h : Acts w A l) (n : Nat) : Acts (w.drewN n) A l := by
  intro i a hi
  obtain ⟨b, o, k, e, hlt, hk, hc⟩ := h i a hi
  exact ⟨b, o, k, e, hlt, hk, ⟨hc.size, hc.kind, hc.klt, hc.key, hc.bytes, hc.ints, hc.isB, hc.blk⟩⟩

set_option maxHeartbeats 800000 in
/-- few: the first acts, whose bytes are not many. -/
theorem few_any (A : Option Addr) (c n : Nat) (l : List ActT) (w : World) (hn : l.length = n) (hK : Acts w A l) (hnc : n ≤ c) :
    Calls Try.prog 14 #[.slice A n c] w fun e w' => (∃ m, m ≤ n ∧ m ≤ 300 ∧ (∀ i a, i < m → l[i]? = some a → a.b.length ≤ 10000) ∧ e = .returned (.slice A m c)) ∧ w = w' := by
  have HN := Lib.hid hn
  have HK := Lib.hid hK
  clear hn hK
  go_enter Try.func14, Try.ntmps14
  go_wp2_with fail
  go_loopg [3, 7] n (fun kq v3 v7 w' => ∃ i left : Nat, v3 = .int .i64 (left : Int) ∧ v7 = .int .i64 (i : Int) ∧ i + kq = n ∧ left ≤ 10000 ∧ i ≤ 300 ∧ Hid (∀ j a, j < i → l[j]? = some a → a.b.length ≤ 10000) ∧ w = w')
  case atStart => exact ⟨0, 10000, rfl, rfl, by omega, by omega, by omega, Lib.hid (fun j a h => absurd h (by omega)), rfl⟩
  case round =>
    obtain ⟨i, left, rfl, rfl, hi, hl, h300, HB, rfl⟩ := hrel
    have HB' := HB.out
    by_cases hlt : i < n
    · obtain ⟨a, ha⟩ : ∃ a, l[i]? = some a := ⟨_, List.getElem?_eq_getElem (by rw [HN.out]; exact hlt)⟩
      obtain ⟨b, o, k, e, hbl, hk, hc⟩ := HK.out i a ha
      subst e
      have hcell : w.cell? ⟨b, o + i * 35 + 34, none⟩ = some (.slice a.A a.b.length a.cap) := hk 34 _ (by simpa using hc.bytes)
      by_cases h3 : i = 300
      · subst h3
        go_wp2_with fail
        go_ret
        exact ⟨⟨300, by omega, by omega, HB', rfl⟩, rfl⟩
      · have hi3 : i < 300 := by omega
        have hi4 : (i : Int) < 300 := by omega
        have hi5 : (i : Int) < (n : Int) := by omega
        have hi6 : (0 : Int) ≤ (i : Int) := by omega
        obtain ⟨z, hlen⟩ : ∃ z, z = a.b.length := ⟨_, rfl⟩
        rw [← hlen] at hcell
        have HL := Lib.hid hlen
        have HH := Lib.hid ha
        have HB2 := Lib.hid HB'
        clear hlen hk hc HB' ha h3 HB
        by_cases hz : left < z
        · go_wp2_with fail
          go_ret
          exact ⟨⟨i, by omega, by omega, HB2.out, rfl⟩, rfl⟩
        · have hz1 : (z : Int) ≤ (left : Int) := by omega
          have hz2 : ¬ (left : Int) < (z : Int) := by omega
          have hw : IntKind.i64.wrap ((left : Int) - (z : Int)) = (left : Int) - (z : Int) := IntWalk.i64_in _ (by omega)
          clear hz hlt
          set_option maxRecDepth 20000 in go_wp2_with fail
          go_roundg (n - (i + 1))
          case measure => omega
          case rel =>
            refine ⟨i + 1, left - z, by go_num, by go_num, by omega, by omega, by omega, Lib.hid (fun j x hj hx => ?_), rfl⟩
            by_cases e : j = i
            · subst e
              rw [HH.out] at hx
              injection hx with hx
              subst hx
              rw [← HL.out]; omega
            · exact HB2.out j x (by omega) hx
    · obtain rfl : i = n := by omega
      go_wp2_with fail
      go_ret
      exact ⟨⟨i, by omega, by omega, HB', rfl⟩, rfl⟩

theorem KeyC.one {k : Array Value} {b : Nat → Nat} {n : Nat} (K : KeyC k b n) : k.all (·.oneCell') = true := by
  rw [Array.all_eq_true]
  intro i hi
  have hs := K.size
  by_cases h : i < 32
  · have := K.byte i h
    rw [Array.getElem?_eq_getElem hi] at this
    injection this with this
    rw [this]; rfl
  · obtain rfl : i = 32 := by omega
    have := K.num
    rw [Array.getElem?_eq_getElem hi] at this
    injection this with this
    rw [this]; rfl
theorem ActC.one {w : World} {k : Array Value} {a : ActT} (K : ActC w k a) : k.all (·.oneCell') = true := by
  rw [Array.all_eq_true]
  intro i hi
  have hs := K.size
  by_cases h0 : i = 0
  · subst h0
    have := K.kind
    rw [Array.getElem?_eq_getElem hi] at this
    injection this with this
    rw [this]; rfl
  · by_cases h1 : i = 34
    · subst h1
      have := K.bytes
      rw [Array.getElem?_eq_getElem hi] at this
      injection this with this
      rw [this]; rfl
    · have h2 := Array.all_eq_true.1 K.key.one (i - 1) (by rw [K.key.size]; omega)
      have e : (((k.toList.drop 1).take 33).toArray)[i - 1]'(by rw [K.key.size]; omega) = k[i] := by
        simp only [List.getElem_toArray, List.getElem_take, List.getElem_drop, Array.getElem_toList]
        congr 1
        omega
      rw [e] at h2
      exact h2

theorem size_setCells (g : Nat) : ∀ (vs : List Value) (o : Nat) (w : World), (w.setCells g o vs).heap.size = w.heap.size
  | [], _, _ => rfl
  | v :: r, o, w => by rw [World.setCells, size_setCells g r]; simp [World.setCell]
theorem there_alloc (w : World) (cs : Array Value) (t : TypeId) (n : Nat) (h : n ≤ cs.size) : (w.alloc (.cells cs t)).there w.heap.size 0 n := by
  intro j hj
  refine ⟨?_, free_row (heap_alloc_last w (.cells cs t)) _⟩
  rw [cell_of_row _ _ _ _ _ _ (heap_alloc_last w (.cells cs t)), Nat.zero_add, Array.getElem?_eq_getElem (by omega)]
  rfl
/-- A new variable is laid, whole. -/
theorem store_new {P : Program} (w : World) (cs0 cs : Array Value) (t : TypeId) (hl : cs0.size = cs.size) (h1 : cs.all (·.oneCell') = true) :
    ∃ w', (storeCells ⟨w.heap.size, 0, none⟩ cs.toList).run P (w.alloc (.cells cs0 t)) = .ok () w' ∧ w.grownBy w' none ∧ w'.heap[w.heap.size]? = some (.cells cs t (0, 0)) ∧ w'.heap.size = w.heap.size + 1 := by
  have ht := there_alloc w cs0 t cs.size (by omega)
  have := run_storeCells_cells (P := P) w.heap.size 0 cs.toList 0 (w.alloc (.cells cs0 t)) (fun j hj => by rw [Nat.add_zero]; exact (ht j hj).1) (fun j hj => by rw [Nat.add_zero]; exact (ht j hj).2)
    (fun v hv => (Array.all_eq_true_iff_forall_mem.1 h1) v (Array.mem_toList_iff.1 hv))
  refine ⟨_, this, ?_, ?_, ?_⟩
  · have hg := grown_setCells w.heap.size cs.toList 0 (w.alloc (.cells cs0 t))
    have ha := grown_alloc w (.cells cs0 t) none
    exact ⟨by rw [hg.os, ha.os], by rw [hg.tape, ha.tape], by rw [hg.output, ha.output], Nat.le_trans ha.size hg.size, fun i hi _ => (hg.block i (by simp; omega) (by simp; omega)).trans (ha.block i hi (by simp))⟩
  · rw [setCells_whole (heap_alloc_last w (.cells cs0 t)) (by simp [hl])]
  · rw [size_setCells]; simp
theorem store_key {k : Array Value} {b : Nat → Nat} {n : Nat} (K : KeyC k b n) (w : World) : ∃ w', (storeCells ⟨w.heap.size, 0, none⟩ k.toList).run Try.prog (w.alloc (.cells #[Value.int IntKind.u8 0, Value.int IntKind.u8 0, Value.int IntKind.u8 0, Value.int IntKind.u8 0, Value.int IntKind.u8 0, Value.int IntKind.u8 0, Value.int IntKind.u8 0, Value.int IntKind.u8 0, Value.int IntKind.u8 0, Value.int IntKind.u8 0, Value.int IntKind.u8 0, Value.int IntKind.u8 0, Value.int IntKind.u8 0, Value.int IntKind.u8 0, Value.int IntKind.u8 0, Value.int IntKind.u8 0, Value.int IntKind.u8 0, Value.int IntKind.u8 0, Value.int IntKind.u8 0, Value.int IntKind.u8 0, Value.int IntKind.u8 0, Value.int IntKind.u8 0, Value.int IntKind.u8 0, Value.int IntKind.u8 0, Value.int IntKind.u8 0, Value.int IntKind.u8 0, Value.int IntKind.u8 0, Value.int IntKind.u8 0, Value.int IntKind.u8 0, Value.int IntKind.u8 0, Value.int IntKind.u8 0, Value.int IntKind.u8 0, Value.int IntKind.u32 0] 35)) = .ok () w' ∧ w.grownBy w' none ∧ w'.heap[w.heap.size]? = some (.cells k 35 (0, 0)) ∧ w'.heap.size = w.heap.size + 1 :=
  store_new w _ k 35 (by rw [K.size]; rfl) K.one
theorem store_act {w0 : World} {k : Array Value} {a : ActT} (K : ActC w0 k a) (w : World) : ∃ w', (storeCells ⟨w.heap.size, 0, none⟩ k.toList).run Try.prog (w.alloc (.cells #[Value.int IntKind.u8 0, Value.int IntKind.u8 0, Value.int IntKind.u8 0, Value.int IntKind.u8 0, Value.int IntKind.u8 0, Value.int IntKind.u8 0, Value.int IntKind.u8 0, Value.int IntKind.u8 0, Value.int IntKind.u8 0, Value.int IntKind.u8 0, Value.int IntKind.u8 0, Value.int IntKind.u8 0, Value.int IntKind.u8 0, Value.int IntKind.u8 0, Value.int IntKind.u8 0, Value.int IntKind.u8 0, Value.int IntKind.u8 0, Value.int IntKind.u8 0, Value.int IntKind.u8 0, Value.int IntKind.u8 0, Value.int IntKind.u8 0, Value.int IntKind.u8 0, Value.int IntKind.u8 0, Value.int IntKind.u8 0, Value.int IntKind.u8 0, Value.int IntKind.u8 0, Value.int IntKind.u8 0, Value.int IntKind.u8 0, Value.int IntKind.u8 0, Value.int IntKind.u8 0, Value.int IntKind.u8 0, Value.int IntKind.u8 0, Value.int IntKind.u8 0, Value.int IntKind.u32 0, Value.slice none 0 0] 47)) = .ok () w' ∧ w.grownBy w' none ∧ w'.heap[w.heap.size]? = some (.cells k 47 (0, 0)) ∧ w'.heap.size = w.heap.size + 1 :=
  store_new w _ k 47 (by rw [K.size]; rfl) K.one

theorem Or_atE (g rb bits probes : Nat) (f : Nat → Bool) (A : Option Addr) (n c : Nat) (b : List Int) (w : World) (V : Vec w g rb bits probes f) (hgh : g ≠ rb) (hn : b.length = n) (hr : Ints .u8 w A b) (hb : Bytes b) (hl : n ≤ 1000000000000000) (hA : ∀ ad, A = some ad → 0 < b.length → ad.block ≠ rb) :
    Calls Try.prog 11 #[.pointer (some ⟨g, 0, none⟩), .slice A n c] w fun e w' => e = .returned (.tuple #[]) ∧ w.grownBy w' (some rb) ∧ Vec w' g rb bits probes (orAll bits f b) := by
  subst hn; exact Or_anyE g rb bits probes f A c b w V hgh hr hb hl hA
/-- What an act does to the bits. -/
def doF (bits probes : Nat) (f : Nat → Bool) (a : ActT) : Nat → Bool :=
  if a.kind % 3 = 0 then puts f (placesK bits probes a.key.1 a.key.2) else if a.kind % 3 = 1 then orAll bits f a.b else fun _ => false

theorem rangeAt_of_row {w : World} {g : Nat} {cs : Array Value} {t : TypeId} (h : w.heap[g]? = some (.cells cs t (0, 0))) (o n : Nat) : w.rangeAt g o ((cs.toList.drop o).take n) := by
  intro j v hj
  rw [cell_of_row _ _ _ _ _ _ h]
  rw [List.getElem?_take] at hj
  split at hj
  · rw [List.getElem?_drop] at hj; simpa using hj
  · cases hj

set_option maxHeartbeats 800000 in
theorem does_any (g h bits probes n : Nat) (f : Nat → Bool) (a : ActT) (k : Array Value) (w : World) (V : Vec w g h bits probes f) (hgh : g ≠ h) (hC : ActC w k a) (hn : a.b.length = n) (hl : n ≤ 10000) (hA : ∀ ad, a.A = some ad → 0 < a.b.length → ad.block ≠ h) :
    Calls Try.prog 15 #[.pointer (some ⟨g, 0, none⟩), .agg k] w fun e w' => e = .returned (.tuple #[]) ∧ w.grownBy w' (some h) ∧ Vec w' g h bits probes (doF bits probes f a) := by
  have HV := Lib.hid (V.kept (grown_alloc w (.cells k 47) none) (by simp) (by simp))
  have hC' := hC.grown (grown_alloc w (.cells k 47) none) (fun _ h => by cases h)
  have HB := heap_alloc_last w (.cells k 47)
  have HG := Lib.hid (grown_alloc w (.cells k 47) (some h))
  have c0 : (w.alloc (.cells k 47)).cell? ⟨w.heap.size, 0, none⟩ = some (.int .u8 a.kind) := by rw [cell_of_row _ _ _ _ _ _ HB]; exact hC.kind
  have c34 : (w.alloc (.cells k 47)).cell? ⟨w.heap.size, 34, none⟩ = some (.slice a.A a.b.length a.cap) := by rw [cell_of_row _ _ _ _ _ _ HB]; exact hC.bytes
  have HR := Lib.hid (rangeAt_of_row HB 1 33)
  have HK := Lib.hid hC.key
  have HI := Lib.hid (show (Try.prog.info? 35).map (·.size) = some ((k.toList.drop 1).take 33).length from (info35 hC.key).trans (by simp))
  rw [hn] at c34
  have HN := Lib.hid hn
  have HI2 := Lib.hid hC'.ints
  have HB2 := Lib.hid hC.isB
  have HA := Lib.hid hA
  have klt := hC.klt
  unfold doF
  generalize (k.toList.drop 1).take 33 = L at *
  generalize a.kind = kd at *
  clear hC hC' HB V hn hA
  obtain hk | hk | hk : kd % 3 = 0 ∨ kd % 3 = 1 ∨ kd % 3 = 2 := by omega
  · rw [if_pos hk]
    go_enter Try.func15, Try.ntmps15
    go_wp2_with (first | (with_reducible refine Go.wpList_load_mid rfl 35 _ rfl w.heap.size 1 rfl L _ HR.out Try.underlying35 rfl HI.out ?_) | (go_at_call 10; refine (Add_any g h bits probes f _ a.key.1 a.key.2 _ HV.out hgh HK.out).mono ?_; rintro e w2 ⟨rfl, hg2, hv2⟩))
    go_end0
    exact ⟨rfl, grown_trans HG.out hg2, hv2⟩
  · rw [if_neg (by omega), if_pos hk]
    have hk1 : (kd : Int) % 3 = 1 := by omega
    go_enter Try.func15, Try.ntmps15
    go_wp2_with (first | (go_at_call 11; refine (Or_atE g h bits probes f a.A n a.cap a.b _ HV.out hgh HN.out HI2.out HB2.out (by omega) HA.out).mono ?_; rintro e w2 ⟨rfl, hg2, hv2⟩))
    go_end0
    exact ⟨rfl, grown_trans HG.out hg2, hv2⟩
  · rw [if_neg (by omega), if_neg (by omega)]
    have hk1 : (kd : Int) % 3 = 2 := by omega
    go_enter Try.func15, Try.ntmps15
    go_wp2_with (first | (go_at_call 21; refine (Clear_any g h bits probes f _ HV.out hgh).mono ?_; rintro e w2 ⟨rfl, hg2, hv2⟩))
    go_end0
    exact ⟨rfl, grown_trans HG.out hg2, hv2⟩

end Go.Proofs.Yteodhbkhkecigaa
