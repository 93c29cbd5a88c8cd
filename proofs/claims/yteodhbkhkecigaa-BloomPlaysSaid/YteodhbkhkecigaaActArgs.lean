/- bloom: what acts that come in read as. -/
import Derived.Test.YteodhbkhkecigaaArgs
import Derived.Test.YteodhbkhkecigaaActs
namespace Go.Proofs.Yteodhbkhkecigaa
open Go.ChangeShapes Go.WideShapes Go.ChangeAt Go.RowKit

theorem c47 : Try.prog.cellsOf 47 = 35 := by kernel_rfl
theorem c37 : Try.prog.cellsOf 37 = 1 := by kernel_rfl

theorem act_cells {H : Type} {enc : TypeId × Value → H} {W : World} {base : Nat} {spare : Nat → Bool} {held : Bool} {fuel : Nat} {cs : List Value} {x : DataW H × List MemPlace}
    (hf : DataW.trod enc Try.prog W base spare held fuel 47 cs = some x) : ∃ a : ActT, ActC W cs.toArray a := by
  obtain ⟨xs, m, rfl, _, hl, hx, hi⟩ := DataW.trod_struct Try.underlying47 hf
  have h0 : DataW.trod enc Try.prog W base spare held m 5 (cs.take 1) = xs[0]? := by rw [← c5]; exact hi 0 _ rfl
  have h1 : DataW.trod enc Try.prog W base spare held m 35 ((cs.drop 1).take 33) = xs[1]? := by rw [← c35]; exact hi 1 _ rfl
  have h2 : DataW.trod enc Try.prog W base spare held m 37 ((cs.drop 34).take 1) = xs[2]? := by rw [← c37]; exact hi 2 _ rfl
  have hx2 : xs.length = 3 := hx
  rw [List.getElem?_eq_getElem (by omega)] at h0 h1 h2
  rw [c47] at hl
  obtain ⟨kd, e0, _, wa⟩ := DataW.trod_int Try.underlying5 h0
  obtain ⟨b, n, hk⟩ := key_cells h1
  have hkd := bounds_u8 wa
  have hz : cs[0]? = some (.int .u8 kd) := by
    have : (cs.take 1)[0]? = some (.int .u8 kd) := by rw [e0]; rfl
    rwa [List.getElem?_take, if_pos (by omega)] at this
  have h34 : ∀ v, (cs.drop 34).take 1 = [v] → cs[34]? = some v := by
    intro v hv
    have : ((cs.drop 34).take 1)[0]? = some v := by rw [hv]; rfl
    rwa [List.getElem?_take, if_pos (by omega), List.getElem?_drop] at this
  have hkd0 : cs.toArray[0]? = some (.int .u8 ((kd.toNat : Nat) : Int)) := by rw [List.getElem?_toArray, hz, Int.toNat_of_nonneg hkd.1]
  rcases open_ints Try.underlying37 Try.underlying5 c5 h2 with ⟨hcs, _⟩ | ⟨y, l, c, zs, hcs, _, hll, hm, hzl, _, hcell, hwz⟩
  · refine ⟨⟨kd.toNat, (b, n), none, 0, []⟩, ⟨by simpa using hl, hkd0, (by omega : kd.toNat < 256), by simpa using hk, ?_, fun i hi => absurd hi (by simp), fun i => by simp, fun ad e => by cases e⟩⟩
    rw [List.getElem?_toArray, h34 _ hcs]; rfl
  · have hlz : l ≤ zs.length := by rw [hzl]; split <;> omega
    have hlen : (zs.take l).length = l := by rw [List.length_take]; omega
    have hin : Ints .u8 W (some y) (zs.take l) := by
      intro i hi
      rw [hlen] at hi
      refine ⟨y, rfl, ?_⟩
      rw [hcell i (by omega), List.getD_eq_getElem?_getD, List.getD_eq_getElem?_getD, List.getElem?_take, if_pos (by omega)]
    refine ⟨⟨kd.toNat, (b, n), some y, c, zs.take l⟩, ⟨by simpa using hl, hkd0, (by omega : kd.toNat < 256), by simpa using hk, ?_, hin, bytes_of (fun x hx => hwz x (List.mem_of_mem_take hx)), ?_⟩⟩
    · rw [List.getElem?_toArray, h34 _ hcs, hlen]
    · intro ad e h0
      obtain ⟨ad', e', hc⟩ := hin 0 h0
      simp only [Option.some.injEq] at e e'
      subst e; subst e'
      exact cell_block hc

theorem open_acts {H : Type} {enc : TypeId × Value → H} {W : World} {base : Nat} {spare : Nat → Bool} {held : Bool} {a : Option Addr} {len cap : Nat} {d : DataW H} {ps : List MemPlace}
    (h : DataW.Trod enc Try.prog W base spare held 41 (.slice a len cap) d ps) : ∃ l : List ActT, l.length = len ∧ len ≤ cap ∧ Acts W a l := by
  obtain ⟨fuel, hf⟩ := h
  rcases Deep.open_slice Try.underlying41 hf with ⟨hcs, _⟩ | ⟨x, l, c, m, n, D, Pl, hcs, _, hl, hm, hmm, _, hi⟩
  · simp [Value.cells] at hcs
    obtain ⟨rfl, rfl, rfl⟩ := hcs
    exact ⟨[], rfl, Nat.le_refl _, fun i a hi => by simp at hi⟩
  · simp [Value.cells] at hcs
    obtain ⟨rfl, rfl, rfl⟩ := hcs
    rw [c47] at hi
    have hlm : len ≤ m := by rw [hmm]; split <;> omega
    have key : ∀ i, i < len → ∃ y : ActT, ∃ (b o : Nat) (k : Array Value), x = ⟨b, o, none⟩ ∧ b < W.heap.size ∧ W.rangeAt b (o + i * 35) k.toList ∧ ActC W k y := by
      intro i hil
      obtain ⟨cs', hc, ht⟩ := hi i (by omega)
      obtain ⟨y, hk⟩ := act_cells ht
      obtain ⟨_, hcl, hat⟩ := World.cells?_some hc
      obtain ⟨cs0, hc0, ht0⟩ := hi 0 (by omega)
      obtain ⟨_, hk0⟩ := act_cells ht0
      obtain ⟨_, hcl0, hat0⟩ := World.cells?_some hc0
      have h00 := hat0 0 (by omega)
      rw [Nat.zero_mul] at h00
      have hsz0 : cs0.length = 35 := by simpa using hk0.size
      rw [List.getElem?_eq_getElem (by omega), add_add] at h00
      obtain ⟨b, o, rfl⟩ := spot_none h00
      have hbl := cell_lt h00
      refine ⟨y, b, o, cs'.toArray, rfl, by simpa [Addr.add] using hbl, ?_, hk⟩
      intro j v hj
      have hj' : cs'[j]? = some v := by simpa using hj
      have hjl : j < 35 := by
        rcases Nat.lt_or_ge j cs'.length with h | h
        · omega
        · rw [List.getElem?_eq_none h] at hj'; cases hj'
      have h2 := hat j hjl
      rw [add_add, hj'] at h2
      rw [← h2]
      congr 1
      unfold Addr.add
      split
      · rename_i h0; simp <;> omega
      · simp <;> omega
    obtain ⟨ks, hkl, hP⟩ := list_of len _ key
    refine ⟨ks, hkl, hl, fun i a hi => ?_⟩
    have hil : i < ks.length := by
      rcases Nat.lt_or_ge i ks.length with h | h
      · exact h
      · rw [List.getElem?_eq_none h] at hi; cases hi
    rw [List.getElem?_eq_getElem hil] at hi
    injection hi with hi
    subst hi
    obtain ⟨b, o, k, e, h1, h2, h3⟩ := hP i hil
    exact ⟨b, o, k, by rw [e], h1, h2, h3⟩

end Go.Proofs.Yteodhbkhkecigaa
