/- Texts of the proof, one behind the other: cellaragetop: words for TopShares. -/
import Derived.Test.YtcklcffepedklaaGreatM38
import Derived.StringKeys
namespace Go.Proofs.YtcklcffepedklaaGreat
open Go.RowKit Go.Maps

theorem own_formA {w : World} {b : Nat} {e : TypeId} {s : Nat} {v : Value} {n : Nat} {xs : List Value} (h : w.ownsRow b e s v n xs) : ∃ A c, v = .slice A n c ∧ n ≤ c ∧ (A = none → n = 0 ∧ c = 0) := by
  obtain ⟨_, h2⟩ := h
  rcases h2 with ⟨h2, h3⟩ | ⟨g, cap, cur, e, _, _, hn, _⟩
  · exact ⟨none, 0, by rw [h2, h3], by omega, fun _ => ⟨h3, rfl⟩⟩
  · exact ⟨_, cap, e, hn, fun e => by cases e⟩
/-- Bytes as a text. -/
def strV (l : List Int) : Value := .string (strOfNums l)
def StrOk (l : List Int) : Prop := Bytes l ∧ l.length ≤ 4096
theorem keyStr : KeyOk Tryz.prog 9 strV StrOk where
  keyed := string_keyed Tryz.underlying9
  reads l h := ⟨_, Go.WideMaps.keyOf_string_mk Tryz.underlying9 (by rw [strOfNums_size]; have := h.2; unfold maxLen; omega)⟩
  inj a b ha hb h := by
    unfold strV at h
    injection h with h
    exact str_inj ha.1 hb.1 h
/-- The texts that a map has. -/
def trueR (D : List (List Int)) : List (List Int × Value) := D.map fun d => (d, .bool true)
theorem lkp_trueR (D : List (List Int)) (d : List Int) : lkp (trueR D) d = if d ∈ D then some (.bool true) else none := by
  by_cases h : d ∈ D
  · rw [if_pos h]
    induction D with
    | nil => cases h
    | cons x D ih =>
      unfold trueR at ih ⊢
      rw [List.map_cons, lkp]
      by_cases e : x = d
      · rw [if_pos e]
      · rw [if_neg e]
        rcases List.mem_cons.1 h with h | h
        · exact absurd h.symm e
        · exact ih h
  · rw [if_neg h]
    exact lkp_none (fun x hx e => by
      obtain ⟨y, hy, rfl⟩ := List.mem_map.1 hx
      exact h (e ▸ hy))
theorem upd_trueR (D : List (List Int)) (d : List Int) (hn : D.Nodup) : upd (trueR D) d (.bool true) = trueR (if d ∈ D then D else D ++ [d]) := by
  by_cases h : d ∈ D
  · rw [if_pos h]
    have := lkp_trueR D d
    rw [if_pos h] at this
    rw [upd_old this]
    unfold trueR
    rw [List.map_map]
    apply List.map_congr_left
    intro x _
    simp only [Function.comp]
    split
    · rename_i e; rw [e]
    · rfl
  · rw [if_neg h]
    have := lkp_trueR D d
    rw [if_neg h] at this
    rw [upd_new this]
    simp [trueR]
theorem mapAt_len {w : World} {m : Nat} {D : List (List Int)} (h : MapAt strV StrOk w m (trueR D)) (ty : TypeId) : (Builtin.len_ #[31] ty #[.map (some m)]).run Tryz.prog w = .ok (.int .i64 (D.length : Nat)) w := by
  obtain ⟨es, c, h1, h2, _⟩ := h.ex
  have hl : es.size = D.length := by
    have h3 := congrArg List.length h2
    rw [List.length_map, List.length_map, Array.length_toList, trueR, List.length_map] at h3
    exact h3
  have h4 := run_len_map (P := Tryz.prog) w 31 ty m es c (by unfold Program.mapKeyOf Program.mapElemOf; rw [Tryz.underlying31]) h1
  rw [hl] at h4
  exact h4
/-- Lists without doubles that have the same are equally long. -/
theorem len_same {D E : List (List Int)} (hD : D.Nodup) (hE : E.Nodup) (h : ∀ y, y ∈ D ↔ y ∈ E) : D.length = E.length :=
  ((List.perm_ext_iff_of_nodup hD hE).2 h).length_eq
theorem Sto.nodup {w : World} {gs N : Nat} {E : List KD} {b : Nat} {F : Nat → Prop} (h : Sto w gs N E b F) : (E.map (·.2)).Nodup := by
  obtain ⟨B, κ, L, P, q, v, M, size, at_, D, c, a, _⟩ := h.ex
  exact a.a.dat
theorem Sto.num {w : World} {gs N : Nat} {E : List KD} {b : Nat} {F : Nat → Prop} (h : Sto w gs N E b F) : E.length ≤ b := by
  obtain ⟨B, κ, L, P, q, v, M, size, at_, D, c, a, _⟩ := h.ex
  exact a.bud.num
end Go.Proofs.YtcklcffepedklaaGreat
