/- Texts of the proof, one behind the other: store: what it is in memory. store: limit, holds, fetch. Keys compared; bytes compared. store: read, of a chunk that is there. -/
import Derived.Test.YtcklcffepedklaaGreatM18
import Derived.Test.YtcklcffepedklaaGreatM22
import Derived.Test.YtcklcffepedklaaGreatM25
import Derived.Test.YtcklcffepedklaaGreatM27
import Derived.Laws.StructEq
namespace Go.Proofs.YtcklcffepedklaaGreat
open Go.RowKit Go.Maps

/-- A store's blocks and numbers. -/
structure Sb where
  gv : Nat
  gd : Nat
  gf : Nat
  gn : Nat
  hn : Nat
  gk : Nat
  hk : Nat
  bits : Nat
  probes : Nat
  room : Nat
  m : Nat
/-- Which shelves are taken. -/
def nowF (P : Nat → List KD) (q : Nat) : Nat → Bool := fun p => decide (p < q) || (decide (p = q) && !(P q).isEmpty)
/-- What lies on the sealed shelves. -/
def LaidOn (D : Nat → Option (List Int)) (P : Nat → List KD) (q : Nat) : Prop := ∀ s, s < q → ∃ id Q, id < 4294967296 ∧ Q.map kd = P s ∧ D s = some (contL id Q)
/-- A store in memory. -/
structure Sm (w : World) (gs N : Nat) (B : Sb) (κ : Nat → Nat) (L : List (Ky × (Nat × Nat))) (q : Nat) (f : Nat → Bool) (v : Value) (M : List Pc) (size at_ : Nat) (D : Nat → Option (List Int)) (c : Nat) : Prop where
  row : w.heap[gs]? = some (.cells #[.pointer (some ⟨B.gv, 0, none⟩), .pointer (some ⟨B.gf, 0, none⟩), .pointer (some ⟨B.gn, 0, none⟩), .pointer (some ⟨B.gk, 0, none⟩), v, .int .i64 (size : Nat), .int .i64 (at_ : Nat), .int .u32 (q : Nat)] 79 (0, 0))
  vt : Vt w B.gv B.gd N D c (fun x => κ x = 3)
  fd : Fd w B.gf B.bits B.probes B.room L (fun x => κ x = 4)
  now : Sp.Sp w B.gn B.hn N B.m f
  kept_ : Sp.Sp w B.gk B.hk N B.m (fun _ => false)
  held : OwnP w 0 v M
  dat : ∀ p ∈ M, ∀ ad, p.A = some ad → κ ad.block = 8
  hown : ∀ b, v.ownBlock = some b → κ b = 7
  ks : κ gs = 1
  kv : κ B.gv = 2
  kn : κ B.gn = 5 ∧ κ B.hn = 5
  kk : κ B.gk = 6 ∧ κ B.hk = 6
  lim : ∀ x, κ x ≠ 0 → x < w.heap.size
/-- A store: where its chunks lie, the shelves' chunks, the shelf that is filled; its blocks meet F. -/
structure St (w : World) (gs N : Nat) (L : List (Ky × (Nat × Nat))) (P : Nat → List KD) (q : Nat) (F : Nat → Prop) : Prop where
  ex : ∃ B κ v M size at_ D c, Sm w gs N B κ L q (nowF P q) v M size at_ D c ∧ LaidOn D P q ∧ c ≤ 8 * q ∧ M.map kd = P q ∧ (P q ≠ [] → size = 10 + 38 * (P q).length + lenD (P q) ∧ at_ = q) ∧ ∀ x, κ x ≠ 0 → F x
theorem own_chg {R : Nat → Prop} {w w' : World} {b : Nat} {e : TypeId} {size n : Nat} {v : Value} {xs : List Value} (h : w.ownsRow b e size v n xs) (hc : Chg R w w') (hr : ∀ k, v.ownBlock = some k → ¬ R k) : w'.ownsRow b e size v n xs := by
  obtain ⟨h1, h2⟩ := h
  refine ⟨h1, ?_⟩
  rcases h2 with h2 | ⟨g, cap, cur, e, a, b, c⟩
  · exact .inl h2
  · exact .inr ⟨g, cap, cur, e, a, (hc.block g (row_lt b) (hr g (by rw [e]; rfl))).trans b, c⟩
theorem sp_chg {R : Nat → Prop} {w w' : World} {g h n m : Nat} {f : Nat → Bool} (V : Sp.Sp w g h n m f) (hc : Chg R w w') (h1 : ¬ R g) (h2 : ¬ R h) : Sp.Sp w' g h n m f :=
  ⟨(hc.block g (row_lt V.obj) h1).trans V.obj, (hc.block h (row_lt V.row) h2).trans V.row, V.lim, V.out, V.ne⟩
theorem OwnP.chg {R : Nat → Prop} {w w' : World} {b : Nat} {v : Value} {M : List Pc} (h : OwnP w b v M) (hc : Chg R w w') (hr : ∀ k, v.ownBlock = some k → ¬ R k) (hd : ∀ p ∈ M, ∀ ad, p.A = some ad → ¬ R ad.block) : OwnP w' b v M :=
  ⟨own_chg h.own hc hr, fun p hp => (h.ok p hp).chg hc (fun ad e _ => hd p hp ad e)⟩
section
variable {w w' : World} {gs N : Nat} {B : Sb} {κ : Nat → Nat} {L : List (Ky × (Nat × Nat))} {q : Nat} {f : Nat → Bool} {v : Value} {M : List Pc} {size at_ : Nat} {D : Nat → Option (List Int)} {c : Nat}
theorem Sm.chg {R : Nat → Prop} (h : Sm w gs N B κ L q f v M size at_ D c) (hc : Chg R w w') (hr : ∀ x, κ x ≠ 0 → ¬ R x) : Sm w' gs N B κ L q f v M size at_ D c := by
  have k1 := h.ks; have k2 := h.kv; have k5 := h.kn; have k6 := h.kk
  exact ⟨(hc.block gs (row_lt h.row) (hr gs (by omega))).trans h.row, h.vt.kept hc (hr _ (by omega)) (fun x _ e => hr x (by omega)) (fun _ _ e => e) (by omega), h.fd.kept hc (fun x _ e => hr x (by omega)) (fun _ _ e => e), sp_chg h.now hc (hr _ (by omega)) (hr _ (by omega)), sp_chg h.kept_ hc (hr _ (by omega)) (hr _ (by omega)),
    h.held.chg hc (fun b e => hr b (by rw [h.hown b e]; decide)) (fun p hp ad e => hr _ (by rw [h.dat p hp ad e]; decide)), h.dat, h.hown, h.ks, h.kv, h.kn, h.kk, fun x hx => Nat.lt_of_lt_of_le (h.lim x hx) hc.size⟩
theorem Sm.below (h : Sm w gs N B κ L q f v M size at_ D c) (hb : Below w.heap.size w w') : Sm w' gs N B κ L q f v M size at_ D c :=
  h.chg (R := fun _ => False) (Chg.belowAt hb) (fun _ _ h => h)
theorem Sm.lt (h : Sm w gs N B κ L q f v M size at_ D c) {x d : Nat} (e : κ x = d) (hd : d ≠ 0) : x < w.heap.size := h.lim x (by omega)
theorem Sm.zero (h : Sm w gs N B κ L q f v M size at_ D c) {x : Nat} (hx : w.heap.size ≤ x) : κ x = 0 := by
  rcases Nat.eq_zero_or_pos (κ x) with e | e
  · exact e
  · have := h.lim x (by omega); omega
/-- The finder was changed. -/
theorem Sm.fch {L' : List (Ky × (Nat × Nat))} (h : Sm w gs N B κ L q f v M size at_ D c) (hc : Chg (fun x => κ x = 4) w w') (hf : Fd w' B.gf B.bits B.probes B.room L' (fun x => κ x = 4 ∨ w.heap.size ≤ x)) : Sm w' gs N B (cut κ w.heap.size w'.heap.size 4) L' q f v M size at_ D c := by
  have k1 := h.ks; have k2 := h.kv; have k5 := h.kn; have k6 := h.kk
  have co : ∀ {x d}, κ x = d → d ≠ 0 → cut κ w.heap.size w'.heap.size 4 x = d := fun e hd => cut_of (h.lt e hd) e
  exact ⟨(hc.block gs (row_lt h.row) (by omega)).trans h.row, h.vt.kept hc (by omega) (fun x _ e => by omega) (fun x hx e => cut_of hx e) (by rw [co k2 (by decide)]; decide), hf.kept (R := fun _ => False) (Chg.refl _ _) (fun _ _ _ h => h) (fun x hx e => cut_or hx e), sp_chg h.now hc (by omega) (by omega), sp_chg h.kept_ hc (by omega) (by omega),
    h.held.chg hc (fun b e => by have := h.hown b e; omega) (fun p hp ad e => by have := h.dat p hp ad e; omega), fun p hp ad e => co (h.dat p hp ad e) (by decide), fun b e => co (h.hown b e) (by decide), co k1 (by decide), co k2 (by decide), ⟨co k5.1 (by decide), co k5.2 (by decide)⟩, ⟨co k6.1 (by decide), co k6.2 (by decide)⟩, cut_lim hc.size⟩
/-- The vault was changed. -/
theorem Sm.vch {D' : Nat → Option (List Int)} {c' : Nat} (h : Sm w gs N B κ L q f v M size at_ D c) (hc : Chg (fun x => κ x = 3) w w') (hf : Vt w' B.gv B.gd N D' c' (fun x => κ x = 3 ∨ w.heap.size ≤ x)) : Sm w' gs N B (cut κ w.heap.size w'.heap.size 3) L q f v M size at_ D' c' := by
  have k1 := h.ks; have k2 := h.kv; have k5 := h.kn; have k6 := h.kk
  have co : ∀ {x d}, κ x = d → d ≠ 0 → cut κ w.heap.size w'.heap.size 3 x = d := fun e hd => cut_of (h.lt e hd) e
  exact ⟨(hc.block gs (row_lt h.row) (by omega)).trans h.row, hf.kept (R := fun _ => False) (Chg.refl _ _) (fun h => h) (fun _ _ _ h => h) (fun x hx e => cut_or hx e) (by rw [co k2 (by decide)]; decide), h.fd.kept hc (fun x _ e => by omega) (fun x hx e => cut_of hx e), sp_chg h.now hc (by omega) (by omega), sp_chg h.kept_ hc (by omega) (by omega),
    h.held.chg hc (fun b e => by have := h.hown b e; omega) (fun p hp ad e => by have := h.dat p hp ad e; omega), fun p hp ad e => co (h.dat p hp ad e) (by decide), fun b e => co (h.hown b e) (by decide), co k1 (by decide), co k2 (by decide), ⟨co k5.1 (by decide), co k5.2 (by decide)⟩, ⟨co k6.1 (by decide), co k6.2 (by decide)⟩, cut_lim hc.size⟩
/-- A space was changed. -/
theorem Sm.nch {f' : Nat → Bool} (h : Sm w gs N B κ L q f v M size at_ D c) (hc : Chg (fun x => κ x = 5) w w') (hf : Sp.Sp w' B.gn B.hn N B.m f') : Sm w' gs N B κ L q f' v M size at_ D c := by
  have k1 := h.ks; have k2 := h.kv; have k5 := h.kn; have k6 := h.kk
  exact ⟨(hc.block gs (row_lt h.row) (by omega)).trans h.row, h.vt.kept hc (by omega) (fun x _ e => by omega) (fun _ _ e => e) (by omega), h.fd.kept hc (fun x _ e => by omega) (fun _ _ e => e), hf, sp_chg h.kept_ hc (by omega) (by omega),
    h.held.chg hc (fun b e => by have := h.hown b e; omega) (fun p hp ad e => by have := h.dat p hp ad e; omega), h.dat, h.hown, h.ks, h.kv, h.kn, h.kk, fun x hx => Nat.lt_of_lt_of_le (h.lim x hx) hc.size⟩
/-- A number was changed. -/
theorem Sm.rch {q' size' at' : Nat} (h : Sm w gs N B κ L q f v M size at_ D c) (hc : Chg (fun x => x = gs) w w') (hr : w'.heap[gs]? = some (.cells #[.pointer (some ⟨B.gv, 0, none⟩), .pointer (some ⟨B.gf, 0, none⟩), .pointer (some ⟨B.gn, 0, none⟩), .pointer (some ⟨B.gk, 0, none⟩), v, .int .i64 (size' : Nat), .int .i64 (at' : Nat), .int .u32 (q' : Nat)] 79 (0, 0))) : Sm w' gs N B κ L q' f v M size' at' D c := by
  have k1 := h.ks; have k2 := h.kv; have k5 := h.kn; have k6 := h.kk
  have hn : ∀ {x}, κ x ≠ 1 → ¬ x = gs := fun hx e => hx (by rw [e]; exact k1)
  exact ⟨hr, h.vt.kept hc (hn (by omega)) (fun x _ e => hn (by omega)) (fun _ _ e => e) (by omega), h.fd.kept hc (fun x _ e => hn (by omega)) (fun _ _ e => e), sp_chg h.now hc (hn (by omega)) (hn (by omega)), sp_chg h.kept_ hc (hn (by omega)) (hn (by omega)),
    h.held.chg hc (fun b e => hn (by have := h.hown b e; omega)) (fun p hp ad e => hn (by have := h.dat p hp ad e; omega)), h.dat, h.hown, h.ks, h.kv, h.kn, h.kk, fun x hx => Nat.lt_of_lt_of_le (h.lim x hx) hc.size⟩
/-- Nothing is held any more. -/
theorem Sm.hnil {q' size' at' : Nat} (h : Sm w gs N B κ L q f v M size at_ D c) (hc : Chg (fun x => x = gs) w w') (hr : w'.heap[gs]? = some (.cells #[.pointer (some ⟨B.gv, 0, none⟩), .pointer (some ⟨B.gf, 0, none⟩), .pointer (some ⟨B.gn, 0, none⟩), .pointer (some ⟨B.gk, 0, none⟩), .slice none 0 0, .int .i64 (size' : Nat), .int .i64 (at' : Nat), .int .u32 (q' : Nat)] 79 (0, 0))) : Sm w' gs N B κ L q' f (.slice none 0 0) [] size' at' D c := by
  have k1 := h.ks; have k2 := h.kv; have k5 := h.kn; have k6 := h.kk
  have hn : ∀ {x}, κ x ≠ 1 → ¬ x = gs := fun hx e => hx (by rw [e]; exact k1)
  exact ⟨hr, h.vt.kept hc (hn (by omega)) (fun x _ e => hn (by omega)) (fun _ _ e => e) (by omega), h.fd.kept hc (fun x _ e => hn (by omega)) (fun _ _ e => e), sp_chg h.now hc (hn (by omega)) (hn (by omega)), sp_chg h.kept_ hc (hn (by omega)) (hn (by omega)),
    ⟨World.ownsRow_nil _ _ _ _, fun p hp => (by cases hp)⟩, fun p hp => (by cases hp), fun b e => (by simp [Value.ownBlock] at e), h.ks, h.kv, h.kn, h.kk, fun x hx => Nat.lt_of_lt_of_le (h.lim x hx) hc.size⟩
/-- Colours behind one more piece. -/
def cutP (κ : Nat → Nat) (b n m : Nat) : Nat → Nat := fun x => if x = b then 8 else cut κ n m 7 x
/-- One more piece is held; its bytes lie in block b. -/
theorem Sm.hch {b size' at' : Nat} {v' : Value} {p : Pc} (h : Sm w gs N B κ L q f v M size at_ D c) (hc : Chg (fun x => κ x = 7 ∨ x = gs) w w') (hb : κ b = 0) (hbl : b < w.heap.size) (hpb : ∀ ad, p.A = some ad → ad.block = b) (hv : ∀ x, v'.ownBlock = some x → v.ownBlock = some x ∨ w.heap.size ≤ x) (ho : OwnP w' 0 v' (M ++ [p]))
    (hr : w'.heap[gs]? = some (.cells #[.pointer (some ⟨B.gv, 0, none⟩), .pointer (some ⟨B.gf, 0, none⟩), .pointer (some ⟨B.gn, 0, none⟩), .pointer (some ⟨B.gk, 0, none⟩), v', .int .i64 (size' : Nat), .int .i64 (at' : Nat), .int .u32 (q : Nat)] 79 (0, 0))) : Sm w' gs N B (cutP κ b w.heap.size w'.heap.size) L q f v' (M ++ [p]) size' at' D c := by
  have k1 := h.ks; have k2 := h.kv; have k5 := h.kn; have k6 := h.kk
  have co : ∀ {x d}, κ x = d → d ≠ 0 → cutP κ b w.heap.size w'.heap.size x = d := fun {x d} e hd => by
    unfold cutP
    rw [if_neg (fun e2 => by rw [e2] at e; omega)]
    exact cut_of (h.lt e hd) e
  have hn : ∀ {x}, κ x ≠ 1 → κ x ≠ 7 → ¬ (κ x = 7 ∨ x = gs) := fun hx h7 e => e.elim h7 (fun e => hx (by rw [e]; exact k1))
  refine ⟨hr, h.vt.kept hc (hn (by omega) (by omega)) (fun x _ e => hn (by omega) (by omega)) (fun _ _ e => co e (by decide)) (by rw [co k2 (by decide)]; decide), h.fd.kept hc (fun x _ e => hn (by omega) (by omega)) (fun _ _ e => co e (by decide)), sp_chg h.now hc (hn (by omega) (by omega)) (hn (by omega) (by omega)), sp_chg h.kept_ hc (hn (by omega) (by omega)) (hn (by omega) (by omega)),
    ho, fun r hp ad e => ?_, fun x e => ?_, co k1 (by decide), co k2 (by decide), ⟨co k5.1 (by decide), co k5.2 (by decide)⟩, ⟨co k6.1 (by decide), co k6.2 (by decide)⟩, fun x hx => ?_⟩
  · rcases List.mem_append.1 hp with hp | hp
    · exact co (h.dat r hp ad e) (by decide)
    · rw [List.mem_singleton.1 hp] at e
      rw [hpb ad e]; unfold cutP; rw [if_pos rfl]
  · rcases hv x e with h1 | h1
    · exact co (h.hown x h1) (by decide)
    · unfold cutP
      rw [if_neg (by omega)]
      exact cut_new h1 (ho.own.lt x e).2
  · unfold cutP at hx
    split at hx
    · rename_i e; rw [e]; exact Nat.lt_of_lt_of_le hbl hc.size
    · exact cut_lim hc.size x hx
theorem cutP_from {b n m : Nat} : ∀ x, cutP κ b n m x ≠ 0 → κ x ≠ 0 ∨ x = b ∨ n ≤ x := by
  intro x hx
  unfold cutP at hx
  split at hx
  · exact .inr (.inl (by assumption))
  · exact (cut_from x hx).imp id .inr
theorem Sm.ci (h : Sm w gs N B κ L q f v M size at_ D c) (i : Nat) (u : Value) (hi : #[Value.pointer (some ⟨B.gv, 0, none⟩), .pointer (some ⟨B.gf, 0, none⟩), .pointer (some ⟨B.gn, 0, none⟩), .pointer (some ⟨B.gk, 0, none⟩), v, .int .i64 (size : Nat), .int .i64 (at_ : Nat), .int .u32 (q : Nat)][i]? = some u) : w.cell? ⟨gs, i, none⟩ = some u := by
  rw [cell_of_row _ _ _ _ _ _ h.row]; exact hi
end
theorem St.kept {w w' : World} {gs N : Nat} {L : List (Ky × (Nat × Nat))} {P : Nat → List KD} {q : Nat} {F F' R : Nat → Prop} (h : St w gs N L P q F) (hc : Chg R w w') (h1 : ∀ g, g < w.heap.size → F g → ¬ R g) (h2 : ∀ g, g < w.heap.size → F g → F' g) : St w' gs N L P q F' := by
  obtain ⟨B, κ, v, M, size, at_, D, c, a, a1, a2, a3, a4, b⟩ := h.ex
  exact ⟨B, κ, v, M, size, at_, D, c, a.chg hc (fun x hx => h1 x (a.lim x hx) (b x hx)), a1, a2, a3, a4, fun x hx => h2 x (a.lim x hx) (b x hx)⟩
theorem St.below {w w' : World} {gs N : Nat} {L : List (Ky × (Nat × Nat))} {P : Nat → List KD} {q : Nat} {F : Nat → Prop} (h : St w gs N L P q F) (hb : Below w.heap.size w w') : St w' gs N L P q F :=
  h.kept (R := fun _ => False) (Chg.belowAt hb) (fun _ _ _ h => h) (fun _ _ h => h)
theorem St.bound {w : World} {gs N : Nat} {L : List (Ky × (Nat × Nat))} {P : Nat → List KD} {q : Nat} {F : Nat → Prop} (h : St w gs N L P q F) : St w gs N L P q (fun k => F k ∧ k < w.heap.size) :=
  h.kept (R := fun _ => False) (Chg.refl _ _) (fun _ _ _ h => h) (fun k hk hF => ⟨hF, hk⟩)
end Go.Proofs.YtcklcffepedklaaGreat

namespace Go.Proofs.YtcklcffepedklaaGreat
open Go.RowKit Go.Maps

theorem lenP_kd {Q : List Pc} {l : List KD} (e : Q.map kd = l) : lenP Q = lenD l := by
  subst e; unfold lenP lenD; rw [List.map_map]; rfl
theorem len_kd {Q : List Pc} {l : List KD} (e : Q.map kd = l) : Q.length = l.length := by subst e; simp
theorem StA.pcOk {E : List KD} {L : List (Ky × (Nat × Nat))} {P : Nat → List KD} {q s : Nat} (h : StA E L P q) {Q : List Pc} (e : Q.map kd = P s) : PcOk Q := by
  have hs := h.size s
  have hl := len_kd e
  have hp := lenP_kd e
  refine ⟨by omega, fun p hp => ?_, by omega, ?_⟩
  · have hm : kd p ∈ P s := e ▸ List.mem_map_of_mem (f := kd) hp
    obtain ⟨j, hj⟩ := List.mem_iff_getElem?.1 hm
    have := h.ok _ (h.of_ s j _ hj).1
    exact ⟨this.pos, Nat.le_trans this.len (by decide)⟩
  · have := h.keys s
    rw [← e, List.map_map] at this
    exact this
theorem StA.pcKey {E : List KD} {L : List (Ky × (Nat × Nat))} {P : Nat → List KD} {q s : Nat} (h : StA E L P q) {Q : List Pc} (e : Q.map kd = P s) : ∀ p ∈ Q, p.key.Ok ∧ Bytes p.data := by
  intro p hp
  have hm : kd p ∈ P s := e ▸ List.mem_map_of_mem (f := kd) hp
  obtain ⟨j, hj⟩ := List.mem_iff_getElem?.1 hm
  have := h.ok _ (h.of_ s j _ hj).1
  exact ⟨this.key, this.byt⟩

section
variable {w : World} {gs N : Nat} {B : Sb} {κ : Nat → Nat} {L : List (Ky × (Nat × Nat))} {q : Nat} {f : Nat → Bool} {v : Value} {M : List Pc} {size at_ : Nat} {D : Nat → Option (List Int)} {c : Nat}
set_option maxRecDepth 20000 in
theorem limit_any (h : Sm w gs N B κ L q f v M size at_ D c) : Calls Tryz.prog 34 #[.pointer (some ⟨gs, 0, none⟩)] w fun e w' => e = .returned (.int .i64 508) ∧ w = w' := by
  have HR := Lib.hid (Room_any h.vt)
  have c0 := h.ci 0 _ rfl
  clear h
  go_enter Tryz.func34, Tryz.ntmps34
  go_wp2_with (go_at_call 50; refine HR.out.mono ?_; rintro e w' ⟨rfl, rfl⟩)
  go_ret
  exact ⟨rfl, rfl⟩
set_option maxRecDepth 20000 in
theorem holds_any (h : Sm w gs N B κ L q f v M size at_ D c) (s : Nat) : Calls Tryz.prog 62 #[.pointer (some ⟨gs, 0, none⟩), .int .i64 s] w fun e w' => e = .returned (.bool (!M.isEmpty && decide (at_ = s))) ∧ w = w' := by
  obtain ⟨A, c', rfl, _⟩ := h.held.form
  have c4 := h.ci 4 _ rfl
  have c6 := h.ci 6 _ rfl
  clear h
  obtain ⟨n, hn⟩ : ∃ n, M.length = n := ⟨_, rfl⟩
  have he : M.isEmpty = decide (n = 0) := by rw [← hn]; cases M <;> simp
  rw [hn] at c4
  rw [he]
  clear hn he
  by_cases h0 : n = 0
  · subst h0
    go_enter Tryz.func62, Tryz.ntmps62
    go_wp2
    go_ret
    exact ⟨rfl, rfl⟩
  · have h1 : (0 : Int) < (n : Int) := by omega
    by_cases h2 : at_ = s
    · subst h2
      go_enter Tryz.func62, Tryz.ntmps62
      go_wp2
      go_ret
      exact ⟨by simp [h0], rfl⟩
    · have h3 : ¬ (at_ : Int) = (s : Int) := by omega
      have h4 : ((at_ : Int) == (s : Int)) = false := by simp [h3]
      go_enter Tryz.func62, Tryz.ntmps62
      go_wp2
      go_ret
      exact ⟨by simp [h0, h2], rfl⟩
end
set_option maxRecDepth 20000 in
theorem fetch_any {w : World} {gs N : Nat} {B : Sb} {κ : Nat → Nat} {L L' : List (Ky × (Nat × Nat))} {q q' : Nat} {f : Nat → Bool} {v : Value} {M : List Pc} {size at_ : Nat} {D : Nat → Option (List Int)} {c : Nat} {E : List KD} {P : Nat → List KD} (h : Sm w gs N B κ L q f v M size at_ D c) (a : StA E L' P q') (s : Nat) (hs : s < N) (hP : P s ≠ []) (id : Nat) (Q : List Pc) (hid : id < 4294967296) (hQ : Q.map kd = P s) (hD : D s = some (contL id Q)) :
    Calls Tryz.prog 63 #[.pointer (some ⟨gs, 0, none⟩), .int .i64 s] w fun e w' => ∃ A' c' M', e = .returned (.tuple #[.int .u32 id, .slice A' (P s).length c', .int .i64 0]) ∧ PcAt w' A' M' ∧ M'.map kd = P s ∧ Below w.heap.size w w' := by
  have c0 := h.ci 0 _ rfl
  have HVG := Lib.hid (VGet_any h.vt s hs _ hD)
  have hl := len_kd hQ
  have hl0 : 0 < Q.length := by rw [hl]; exact List.length_pos_iff.2 hP
  have HTK := Lib.hid (fun (W : World) (A : Option Addr) (hI : Ints .u8 W A (contL id Q)) => Take_any W id Q A _ (contL id Q).length hid hl0 (a.pcOk hQ) (a.pcKey hQ) rfl (Nat.le_refl _) hI)
  have HQ := Lib.hid hQ
  have hlp : ((P s).length : Int) = 0 ↔ False := by
    have : 0 < (P s).length := by omega
    constructor
    · intro h; omega
    · intro h; cases h
  rw [hl] at HTK
  have hn0 : ¬ ((P s).length : Int) = 0 := by rw [hlp]; exact fun h => h
  clear h hQ hl hl0 hD hs hP hid hlp
  obtain ⟨cl, hcl⟩ : ∃ cl, contL id Q = cl := ⟨_, rfl⟩
  rw [hcl] at HVG HTK
  obtain ⟨n, hn⟩ : ∃ n, (P s).length = n := ⟨_, rfl⟩
  rw [hn] at HTK hn0 ⊢
  clear hn hcl
  go_enter Tryz.func63, Tryz.ntmps63
  go_wp2_with fail
  refine HVG.out.mono ?_
  rintro e w1 ⟨A, rfl, hI, _, hb1⟩
  have HB1 := Lib.hid hb1
  have HT := Lib.hid (HTK.out w1 A hI)
  clear hI hb1 HVG
  go_wp2_with fail
  refine HT.out.mono ?_
  rintro e w2 ⟨A', c', M', rfl, h1, h2, h3, _, _⟩
  have H1 := Lib.hid h1
  have H2 := Lib.hid (h2.trans HQ.out)
  have H3 := Lib.hid (HB1.out.trans (h3.mono HB1.out.size))
  clear h1 h2 h3 HT HTK
  go_wp2_with fail
  go_ret3
  exact ⟨A', c', M', rfl, H1.out, H2.out, H3.out⟩
end Go.Proofs.YtcklcffepedklaaGreat

namespace Go.Proofs.YtcklcffepedklaaGreat
open Go.RowKit Go.Maps

theorem fieldsK : (Tryz.prog.fieldsOf 64).toList.map (fun f => (f.name, f.type, f.offset)) = [("Sum", 62, 0), ("N", 27, 32)] := by decide +kernel
theorem part_sum (k : Ky) (hk : k.Ok) (w : World) : (part 62 k.cells.toArray 0).run Tryz.prog w = .ok (.agg (k.sum.map (Value.int .u8)).toArray) w := by
  simp [part, isAgg, run_underlying Tryz.underlying62]
  exact Ky.cells_sum hk
theorem part_n (k : Ky) (hk : k.Ok) (w : World) : (part 27 k.cells.toArray 32).run Tryz.prog w = .ok (.int .u32 k.n) w := by
  simp [part, isAgg, run_underlying Tryz.underlying27, Ky.cells_32 hk]
theorem fieldsK2 : ∃ f1 f2, (Tryz.prog.fieldsOf 64).toList = [f1, f2] ∧ f1.name = "Sum" ∧ f1.type = 62 ∧ f1.offset = 0 ∧ f2.name = "N" ∧ f2.type = 27 ∧ f2.offset = 32 := by
  have h := fieldsK
  generalize (Tryz.prog.fieldsOf 64).toList = l at *
  rcases l with _ | ⟨f1, _ | ⟨f2, _ | ⟨f3, l⟩⟩⟩
  · simp at h
  · simp at h
  · simp only [List.map_cons, List.map_nil, List.cons.injEq, Prod.mk.injEq, and_true] at h
    exact ⟨f1, f2, rfl, h.1.1, h.1.2.1, h.1.2.2, h.2.1, h.2.2.1, h.2.2.2⟩
  · simp at h
theorem size5 (w : World) : (sizeOf 5).run Tryz.prog w = .ok 1 w := by
  obtain ⟨i0, hi, _, hz1, _⟩ := info_parts Tryz.info5
  simp [sizeOf, typeInfo, hi, hz1]
theorem equal_key (d : Nat) (a b : Ky) (ha : a.Ok) (hb : b.Ok) (w : World) : (Op.equalIn (d + 3) 64 (.agg a.cells.toArray) (.agg b.cells.toArray)).run Tryz.prog w = .ok (decide (a = b)) w := by
  obtain ⟨f1, f2, e, n1, t1, o1, n2, t2, o2⟩ := fieldsK2
  rw [run_equalIn_struct w (d + 2) 64 _ _ (by unfold Program.fieldsOf; rw [Tryz.underlying64]) (by decide +kernel), e]
  simp only [Op.eqFields, n1, n2, t1, t2, o1, o2]
  rw [if_pos (by decide), if_pos (by decide)]
  simp only [Sem.run_bind, part_sum a ha, part_sum b hb, Result.andThen_ok]
  rw [run_equalIn_ints w d 62 5 32 .u8 Tryz.underlying62 Tryz.underlying5 size5 _ _ ha.len hb.len]
  simp only [Result.andThen_ok]
  cases hs : (a.sum == b.sum) with
  | false =>
    simp only [Bool.not_false, if_true, Sem.run_pure]
    refine congrArg (fun b => Result.ok b w) ?_
    rw [eq_comm, decide_eq_false_iff_not]
    intro h
    rw [h] at hs; simp at hs
  | true =>
    simp only [Bool.not_true, Bool.false_eq_true, if_false, Sem.run_bind, part_n a ha, part_n b hb, Result.andThen_ok]
    rw [run_equalIn_int w (d + 1) 27 .u32 .u32 _ _ Tryz.underlying27]
    have hs' : a.sum = b.sum := by simpa using hs
    cases hn : ((a.n : Int) == (b.n : Int)) with
    | false =>
      simp only [Result.andThen_ok, Bool.not_false, if_true, Sem.run_pure]
      refine congrArg (fun b => Result.ok b w) ?_
      rw [eq_comm, decide_eq_false_iff_not]
      intro h
      rw [h] at hn; simp at hn
    | true =>
      simp only [Result.andThen_ok, Bool.not_true, Bool.false_eq_true, if_false, Sem.run_pure]
      refine congrArg (fun b => Result.ok b w) ?_
      rw [eq_comm, decide_eq_true_iff]
      have hn' : a.n = b.n := by simp at hn; omega
      cases a; cases b; simp_all
theorem run_eqK (a b : Ky) (ha : a.Ok) (hb : b.Ok) (w : World) : (binOp .eql 64 (.agg a.cells.toArray) (.agg b.cells.toArray)).run Tryz.prog w = .ok (.bool (decide (a = b))) w := by
  rw [run_eql_struct, equal_key 9997 a b ha hb w]; rfl
theorem run_neK (a b : Ky) (ha : a.Ok) (hb : b.Ok) (w : World) : (binOp .neq 64 (.agg a.cells.toArray) (.agg b.cells.toArray)).run Tryz.prog w = .ok (.bool (!decide (a = b))) w := by
  rw [run_neq_struct, equal_key 9997 a b ha hb w]; rfl
/-- A comparison of keys in a region that draws its order. -/
theorem exec_eqK {ρ : Operand → Value} {w : World} {o : Oper} (op : BinOp) (x y : Operand) (t2 : TypeId) (ho : o.op = .binOp op 64 x y t2) (u v r : Value) (hx : ρ x = u) (hy : ρ y = v) (hg : (eqGuard op 64 x y u v).run Tryz.prog w = .ok () w) (hr : (binOp op 64 u v).run Tryz.prog w = .ok r w) : (execOp ρ o).run Tryz.prog w = .ok (.value r) w := by
  unfold execOp
  simp only [ho, hx, hy, Sem.run_bind, hg, hr, Result.andThen_ok, Sem.run_pure]
theorem guardK (op : BinOp) (x y : Operand) (xs ys : Array Value) (w : World) : (eqGuard op 64 x y (.agg xs) (.agg ys)).run Tryz.prog w = .ok () w := run_eqGuard_agg w op _ x y xs ys (by decide +kernel)
theorem str_inj {a b : List Int} (ha : Bytes a) (hb : Bytes b) (h : strOfNums a = strOfNums b) : a = b := by
  have h1 := congrArg (fun s => s.data.toList) h
  simp only [strOfNums_data] at h1
  have hl := congrArg List.length h1
  simp only [List.length_map] at hl
  apply List.ext_getElem hl
  intro i hi hj
  have h2 := congrArg (fun z => z[i]?) h1
  simp only [List.getElem?_map, List.getElem?_eq_getElem hi, List.getElem?_eq_getElem hj, Option.map_some, Option.some.injEq] at h2
  have h3 := congrArg UInt8.toNat h2
  simp only [UInt8.toNat_ofNat'] at h3
  have p1 := ha i
  have p2 := hb i
  rw [List.getD_eq_getElem?_getD, List.getElem?_eq_getElem hi, Option.getD_some] at p1
  rw [List.getD_eq_getElem?_getD, List.getElem?_eq_getElem hj, Option.getD_some] at p2
  omega
theorem same_str {x y : List Int} (hx : Bytes x) (hy : Bytes y) : ((strOfNums x).toList == (strOfNums y).toList) = decide (x = y) := by
  by_cases h : x = y
  · rw [h]; simp
  · rw [decide_eq_false h]
    have h2 : ¬ (strOfNums x).toList = (strOfNums y).toList := fun e => h (str_inj hx hy (by
      rw [Lib.toList_data, Lib.toList_data] at e
      exact Go.WideShapes.bytes_inj e))
    simpa using h2
set_option maxRecDepth 20000 in
theorem bEqual_any (A A' : Option Addr) (n c n' c' : Nat) (x y : List Int) (w : World) (hn : x.length = n) (hn' : y.length = n') (hI : Ints .u8 w A x) (hI' : Ints .u8 w A' y) (hB : Bytes x) (hB' : Bytes y) :
    Calls Tryz.prog 38 #[.slice A n c, .slice A' n' c'] w fun e w' => e = .returned (.bool (decide (x = y))) ∧ w = w' := by
  have h1 := run_conv_ints (P := Tryz.prog) hI 22 9 5 n c hn Tryz.underlying22 Tryz.underlying5 Tryz.underlying9
  have h2 := run_conv_ints (P := Tryz.prog) hI' 22 9 5 n' c' hn' Tryz.underlying22 Tryz.underlying5 Tryz.underlying9
  have HB := Lib.hid (And.intro hB hB')
  clear hI hI' hn hn' hB hB'
  go_enter Tryz.func38, Tryz.ntmps38
  go_wp2
  go_ret
  refine ⟨congrArg (fun b => Ending.returned (.bool b)) ?_, rfl⟩
  exact same_str HB.out.1 HB.out.2
end Go.Proofs.YtcklcffepedklaaGreat

namespace Go.Proofs.YtcklcffepedklaaGreat
open Go.RowKit Go.Maps

/-- What a shelf's chunks take. -/
def szD (l : List KD) : Nat := 38 * l.length + lenD l
theorem szD_snoc (l : List KD) (x : KD) : szD (l ++ [x]) = szD l + (38 + x.2.length) := by simp [szD, lenD_snoc]; omega
/-- A bound of what a store has taken. -/
structure Bud (E : List KD) (P : Nat → List KD) (q b : Nat) : Prop where
  use : 368 * q + szD (P q) ≤ b
  num : E.length ≤ b
  lim : b < 1000000
theorem nowF_lt {P : Nat → List KD} {q s : Nat} (h : P s ≠ []) (hs : s ≤ q) : nowF P q s = true := by
  unfold nowF
  rcases Nat.lt_or_ge s q with h1 | h1
  · simp [h1]
  · obtain rfl : s = q := by omega
    simp; exact h
theorem sp_lt {w : World} {g h n m p : Nat} {f : Nat → Bool} (V : Sp.Sp w g h n m f) (hp : f p = true) : p < n := by
  rcases Nat.lt_or_ge p n with h1 | h1
  · exact h1
  · rw [V.out p h1] at hp; cases hp
/-- What Find leaves behind in read. -/
def RdR (w1 : World) (gs N : Nat) (B : Sb) (κ : Nat → Nat) (L : List (Ky × (Nat × Nat))) (q : Nat) (f : Nat → Bool) (v : Value) (M : List Pc) (size at_ : Nat) (D : Nat → Option (List Int)) (c : Nat) (p : Nat × Nat) (g : Nat) (w' : World) : Prop :=
  ∃ κ', w'.heap[g]? = some (.cells (plC p).toArray 82 (0, 0)) ∧ κ' g = 0 ∧ Sm w' gs N B κ' L q f v M size at_ D c ∧ Chg (fun x => κ x = 4) w1 w' ∧ ∀ x, κ' x ≠ 0 → κ x ≠ 0 ∨ w1.heap.size ≤ x
set_option maxRecDepth 20000 in
set_option maxHeartbeats 1600000 in
theorem read_sm {w : World} {gs N : Nat} {B : Sb} {κ : Nat → Nat} {E : List KD} {L : List (Ky × (Nat × Nat))} {P : Nat → List KD} {q : Nat} {v : Value} {M : List Pc} {size at_ : Nat} {D : Nat → Option (List Int)} {c b : Nat} (h : Sm w gs N B κ L q (nowF P q) v M size at_ D c) (a : StA E L P q) (hb : Bud E P q b) (hD : LaidOn D P q) (hM : M.map kd = P q) (hat : P q ≠ [] → at_ = q) (k : Ky) (d : List Int) (hx : (k, d) ∈ E) (draw : Nat) (hd : draw < 18446744073709551616) :
    Calls Tryz.prog 37 #[.pointer (some ⟨gs, 0, none⟩), .agg k.cells.toArray, .int .u64 draw] w fun e w' => ∃ A c', e = .returned (.tuple #[.slice A d.length c', .int .i64 0]) ∧ Ints .u8 w' A d ∧ Chg (fun x => κ x ≠ 0) w w' ∧ ∃ κ', Sm w' gs N B κ' L q (nowF P q) v M size at_ D c ∧ ∀ x, κ' x ≠ 0 → κ x ≠ 0 ∨ w.heap.size ≤ x := by
  obtain ⟨vA, vc, rfl, hvc, _, _⟩ := h.held.form
  obtain ⟨s, j, hL, hj⟩ := a.at_ _ hx
  have hok := a.ok _ hx
  have hsq := a.lt hj
  have hPs : P s ≠ [] := by intro e; rw [e] at hj; simp at hj
  have hlen : j < (P s).length := by rcases Nat.lt_or_ge j (P s).length with h1 | h1; exact h1; rw [List.getElem?_eq_none h1] at hj; cases hj
  have hsN : s < N := sp_lt h.now (nowF_lt hPs hsq)
  have hj13 : j < 1000 := by have := a.size s; omega
  have hq6 : q < 1000000 := by have := hb.use; have := hb.lim; omega
  have hp : IntOk s ∧ IntOk j := by unfold IntOk; omega
  have hm1 : L.length < 1000000000 := by rw [a.len]; have := hb.num; have := hb.lim; omega
  have HKO := Lib.hid hok.key
  obtain ⟨g3, hg3⟩ : ∃ g, w.heap.size = g := ⟨_, rfl⟩
  have hb1 := (Below.refl w.heap.size w).alloc (Nat.le_refl _) (.cells k.cells.toArray 64)
  have hr1 := heap_alloc_last w (.cells k.cells.toArray 64)
  rw [hg3] at hr1
  have HA := Lib.hid (And.intro a (And.intro hD (And.intro hM hat)))
  have HJ := Lib.hid (And.intro hj (And.intro hsq (And.intro hPs (And.intro hlen hsN))))
  have HH := Lib.hid h
  have HFF := Lib.hid (fun (W : World) (hW : Sm W gs N B κ L q (nowF P q) (.slice vA M.length vc) M size at_ D c) => FFind_any (w := W) hW.fd hm1 k hok.key (s, j) hL hp draw hd)
  clear hm1 hp hL hd hok a hD hM hat hj hsq hPs hlen hsN hb hx
  go_enter Tryz.func37, Tryz.ntmps37
  obtain ⟨w1, hw1⟩ : ∃ w1, w.alloc (.cells k.cells.toArray 64) = w1 := ⟨_, rfl⟩
  rw [hw1] at hb1 hr1
  go_upto_region 1 with (fail)
  have H1 := Lib.hid (h.below hb1)
  have HB1 := Lib.hid hb1
  have HK3 := Lib.hid (show w1.rangeAt g3 0 k.cells from range_row hr1)
  have hgk : κ g3 = 0 := h.zero (by omega)
  have HL1 := Lib.hid (show gs < w1.heap.size ∧ g3 < w1.heap.size from ⟨row_lt H1.out.row, row_lt hr1⟩)
  have HN1 := Lib.hid (show ¬ κ gs = 4 ∧ ¬ κ g3 = 4 from by have := h.ks; omega)
  have HKG := Lib.hid hgk
  have HG3 := Lib.hid hg3
  clear hb1 hr1 hw1 hgk h hg3
  go_cut [8, 9] from 13 to 22 (fun v8 v9 w' => ∃ g, v8 = .pointer (some ⟨g, 0, none⟩) ∧ v9 = .bool true ∧ RdR w1 gs N B κ L q (nowF P q) (.slice vA M.length vc) M size at_ D c (s, j) g w')
  case first =>
    --[1
    refine wp_region_held_drew (S := fun w' => Chg (fun x => κ x = 4) w1 w') (by kernel_rfl) (((Chg.refl _ _).drewN 1)) (fun hHeld => ?_)
    refine held_take 0 (some 14) (v := ?_) rfl rfl (by kernel_rfl) (by kernel_rfl) (by kernel_rfl) (fun _ _ _ h => h) (Or.inl ⟨by rfl, ?_⟩) hHeld ?_
    rotate_left
    · (intro w' hSw; clear hSw; go_simp; try with_reducible rfl)
    try simp only [Act.put, List.setIfInBounds_toArray, List.set_cons_zero, List.set_cons_succ]
    refine held_take 1 (some 15) (v := ?_) rfl rfl (by kernel_rfl) (by kernel_rfl) (by kernel_rfl) (fun _ _ _ h => h) (Or.inl ⟨by rfl, ?_⟩) hHeld ?_
    rotate_left
    · (intro w' hSw; clear hSw; go_simp; try with_reducible rfl)
    try simp only [Act.put, List.setIfInBounds_toArray, List.set_cons_zero, List.set_cons_succ]
    refine held_take 2 (some 16) (v := ?_) rfl rfl (by kernel_rfl) (by kernel_rfl) (by kernel_rfl) (fun _ _ _ h => h) (Or.inl ⟨by rfl, ?_⟩) hHeld ?_
    rotate_left
    · (intro w' hSw; clear hSw; go_simp; try with_reducible rfl)
    try simp only [Act.put, List.setIfInBounds_toArray, List.set_cons_zero, List.set_cons_succ]
    refine held_take 3 (some 17) (v := ?_) rfl rfl (by kernel_rfl) (by kernel_rfl) (by kernel_rfl) (fun _ _ _ h => h) (Or.inl ⟨by rfl, ?_⟩) hHeld ?_
    rotate_left
    · (intro w' hSw; have pf := (hSw.cell (p := ⟨gs, 1, none⟩) HL1.out.1 HN1.out.1).trans (H1.out.ci 1 _ rfl); clear hSw; go_simp; try with_reducible rfl)
    try simp only [Act.put, List.setIfInBounds_toArray, List.set_cons_zero, List.set_cons_succ]
    refine held_take 4 (some 18) (v := .agg (k.cells).toArray) rfl rfl (by kernel_rfl) (by kernel_rfl) (by kernel_rfl) (fun _ _ _ h => h) (yieldsIf_load_mid (by rfl) 64 _ rfl g3 (0) rfl (k.cells) _ (fun w' h => range_chg HK3.out h HL1.out.2 HN1.out.2) Tryz.underlying64 rfl (sizeK HKO.out)) hHeld ?_
    try simp only [Act.put, List.setIfInBounds_toArray, List.set_cons_zero, List.set_cons_succ]
    refine held_take 5 (some 19) (v := ?_) rfl rfl (by kernel_rfl) (by kernel_rfl) (by kernel_rfl) (fun _ _ _ h => h) (Or.inl ⟨by rfl, ?_⟩) hHeld ?_
    rotate_left
    · (intro w' hSw; clear hSw; go_simp; try with_reducible rfl)
    try simp only [Act.put, List.setIfInBounds_toArray, List.set_cons_zero, List.set_cons_succ]
    refine wpAnyH_ready (rs := [6, 10]) (by kernel_rfl) (by simp) ?_
    refine AllReadyH.cons rfl (fun K hKK => ?_) (AllReadyH.cons rfl (fun K hKK => ?_) AllReadyH.nil)
    · go_simp
      go_at_call 61
      refine (HFF.out _ (H1.out.below (Below.refl _ _).drew)).mono ?_
      rintro e w2 ⟨rfl, hc2, hf2⟩
      have hS2 := (hHeld).trans hc2
      have hsm2 := ((H1.out.below (Below.refl _ _).drew)).fch hc2 hf2
      have hszc := (hHeld).size
      have hkf2 := fun x (hx : cut κ (w1.drew).heap.size w2.heap.size 4 x ≠ 0) => (cut_from x hx).imp id (Nat.le_trans hszc)
      refine hKK.out _ _ hS2 (fun hHeld => ?_)
      clear hKK K
      try simp only [Act.put, List.setIfInBounds_toArray, List.set_cons_zero, List.set_cons_succ]
      refine held_take 7 (some 13) (v := ?_) rfl rfl (by kernel_rfl) (by kernel_rfl) (by kernel_rfl) (fun _ _ _ h => h) (Or.inl ⟨by rfl, ?_⟩) hHeld ?_
      rotate_left
      · (intro w' hSw; clear hSw; go_simp; try with_reducible rfl)
      try simp only [Act.put, List.setIfInBounds_toArray, List.set_cons_zero, List.set_cons_succ]
      refine held_take 8 (some 21) (v := ?_) rfl rfl (by kernel_rfl) (by kernel_rfl) (by kernel_rfl) (fun _ _ _ h => h) (Or.inl ⟨by rfl, ?_⟩) hHeld ?_
      rotate_left
      · (intro w' hSw; clear hSw; go_simp; try with_reducible rfl)
      try simp only [Act.put, List.setIfInBounds_toArray, List.set_cons_zero, List.set_cons_succ]
      refine held_take 9 (some 22) (v := ?_) rfl rfl (by kernel_rfl) (by kernel_rfl) (by kernel_rfl) (fun _ _ _ h => h) (Or.inl ⟨by rfl, ?_⟩) hHeld ?_
      rotate_left
      · (intro w' hSw; clear hSw; go_simp; try with_reducible rfl)
      try simp only [Act.put, List.setIfInBounds_toArray, List.set_cons_zero, List.set_cons_succ]
      refine wpAnyH_ready (rs := [10]) (by kernel_rfl) (by simp) ?_
      refine AllReadyH.cons rfl (fun K hKK => ?_) AllReadyH.nil
      have hrowA := heap_alloc_last w2 (.cells (plC (0, 0)).toArray 82)
      have hg0A := hsm2.zero (Nat.le_refl _)
      have hszA := (hHeld).size
      have hsmA := (hsm2).below ((Below.refl _ _).alloc (Nat.le_refl _) (.cells (plC (0, 0)).toArray 82))
      have hSA := (hHeld).alloc (.cells (plC (0, 0)).toArray 82)
      refine step_val rfl (exec_alloc _ rfl (zeroPl _)) ?_
      refine hKK.out _ _ hSA (fun hHeld => ?_)
      clear hKK K
      try simp only [Act.put, List.setIfInBounds_toArray, List.set_cons_zero, List.set_cons_succ]
      refine wpAnyH_ready (rs := [11]) (by kernel_rfl) (by simp) ?_
      refine AllReadyH.cons rfl (fun K hKK => ?_) AllReadyH.nil
      refine step_wp rfl (wp_store_row 82 _ _ rfl _ (plC (s, j)).toArray rfl rfl 82 (plC (0, 0)).toArray hrowA (sizePlA _) rfl (all_one (plC_one _)) ?_)
      have hgr := grown_setRow (w2.alloc (.cells (plC (0, 0)).toArray 82)) (w2.heap.size) (plC (s, j)).toArray
      have hSF := (hHeld).trans2 (Chg.of hgr) (fun x hx e => by injection e with e; omega)
      have hsmF := (hsmA).chg (Chg.of hgr) (fun x hx e => by injection e with e; rw [e] at hx; exact hx hg0A)
      have hrowF := setRow_heap _ _ _ (plC (s, j)).toArray _ _ hrowA
      refine hKK.out _ _ hSF (fun hHeld => ?_)
      clear hKK K
      try simp only [Act.put, List.setIfInBounds_toArray, List.set_cons_zero, List.set_cons_succ]
      refine held_take 12 (some 9) (v := ?_) rfl rfl (by kernel_rfl) (by kernel_rfl) (by kernel_rfl) (fun _ _ _ h => h) (Or.inl ⟨by rfl, ?_⟩) hHeld ?_
      rotate_left
      · (intro w' hSw; clear hSw; go_simp; try with_reducible rfl)
      try simp only [Act.put, List.setIfInBounds_toArray, List.set_cons_zero, List.set_cons_succ]
      refine wpAnyH_done (by kernel_rfl) ?_ _
      have HF := Lib.hid (show RdR w1 gs N B κ L q (nowF P q) _ M size at_ D c (s, j) (w2.heap.size) _ from ⟨_, hrowF, hg0A, hsmF, hHeld, hkf2⟩)
      clear hHeld hrowF hg0A hsmF
      go_simp
      go_wp2_with fail
      go_meet
      case rel => exact ⟨_, rfl, rfl, HF.out⟩
    · have hrowA := heap_alloc_last w1.drew (.cells (plC (0, 0)).toArray 82)
      have hg0A := (H1.out.below (Below.refl _ _).drew).zero (Nat.le_refl _)
      have hszA := (hHeld).size
      have hsmA := ((H1.out.below (Below.refl _ _).drew)).below ((Below.refl _ _).alloc (Nat.le_refl _) (.cells (plC (0, 0)).toArray 82))
      have hSA := (hHeld).alloc (.cells (plC (0, 0)).toArray 82)
      refine step_val rfl (exec_alloc _ rfl (zeroPl _)) ?_
      refine hKK.out _ _ hSA (fun hHeld => ?_)
      clear hKK K
      try simp only [Act.put, List.setIfInBounds_toArray, List.set_cons_zero, List.set_cons_succ]
      refine wpAnyH_ready (rs := [6]) (by kernel_rfl) (by simp) ?_
      refine AllReadyH.cons rfl (fun K hKK => ?_) AllReadyH.nil
      go_simp
      go_at_call 61
      refine (HFF.out _ hsmA).mono ?_
      rintro e w2 ⟨rfl, hc2, hf2⟩
      have hS2 := (hHeld).trans hc2
      have hsm2 := (hsmA).fch hc2 hf2
      have hszc := (hHeld).size
      have hkf2 := fun x (hx : cut κ ((w1.drew.alloc (.cells (plC (0, 0)).toArray 82))).heap.size w2.heap.size 4 x ≠ 0) => (cut_from x hx).imp id (Nat.le_trans hszc)
      have hrow2 := (hc2.block _ (row_lt hrowA) (by rw [hg0A]; decide)).trans hrowA
      have hg02 := (cut_old (m := w2.heap.size) (c := 4) (row_lt hrowA)).trans hg0A
      refine hKK.out _ _ hS2 (fun hHeld => ?_)
      clear hKK K
      try simp only [Act.put, List.setIfInBounds_toArray, List.set_cons_zero, List.set_cons_succ]
      refine held_take 7 (some 13) (v := ?_) rfl rfl (by kernel_rfl) (by kernel_rfl) (by kernel_rfl) (fun _ _ _ h => h) (Or.inl ⟨by rfl, ?_⟩) hHeld ?_
      rotate_left
      · (intro w' hSw; clear hSw; go_simp; try with_reducible rfl)
      try simp only [Act.put, List.setIfInBounds_toArray, List.set_cons_zero, List.set_cons_succ]
      refine held_take 8 (some 21) (v := ?_) rfl rfl (by kernel_rfl) (by kernel_rfl) (by kernel_rfl) (fun _ _ _ h => h) (Or.inl ⟨by rfl, ?_⟩) hHeld ?_
      rotate_left
      · (intro w' hSw; clear hSw; go_simp; try with_reducible rfl)
      try simp only [Act.put, List.setIfInBounds_toArray, List.set_cons_zero, List.set_cons_succ]
      refine held_take 9 (some 22) (v := ?_) rfl rfl (by kernel_rfl) (by kernel_rfl) (by kernel_rfl) (fun _ _ _ h => h) (Or.inl ⟨by rfl, ?_⟩) hHeld ?_
      rotate_left
      · (intro w' hSw; clear hSw; go_simp; try with_reducible rfl)
      try simp only [Act.put, List.setIfInBounds_toArray, List.set_cons_zero, List.set_cons_succ]
      refine wpAnyH_ready (rs := [11]) (by kernel_rfl) (by simp) ?_
      refine AllReadyH.cons rfl (fun K hKK => ?_) AllReadyH.nil
      refine step_wp rfl (wp_store_row 82 _ _ rfl _ (plC (s, j)).toArray rfl rfl 82 (plC (0, 0)).toArray hrow2 (sizePlA _) rfl (all_one (plC_one _)) ?_)
      have hgr := grown_setRow w2 (w1.drew.heap.size) (plC (s, j)).toArray
      have hSF := (hHeld).trans2 (Chg.of hgr) (fun x hx e => by injection e with e; omega)
      have hsmF := (hsm2).chg (Chg.of hgr) (fun x hx e => by injection e with e; rw [e] at hx; exact hx hg02)
      have hrowF := setRow_heap _ _ _ (plC (s, j)).toArray _ _ hrow2
      refine hKK.out _ _ hSF (fun hHeld => ?_)
      clear hKK K
      try simp only [Act.put, List.setIfInBounds_toArray, List.set_cons_zero, List.set_cons_succ]
      refine held_take 12 (some 9) (v := ?_) rfl rfl (by kernel_rfl) (by kernel_rfl) (by kernel_rfl) (fun _ _ _ h => h) (Or.inl ⟨by rfl, ?_⟩) hHeld ?_
      rotate_left
      · (intro w' hSw; clear hSw; go_simp; try with_reducible rfl)
      try simp only [Act.put, List.setIfInBounds_toArray, List.set_cons_zero, List.set_cons_succ]
      refine wpAnyH_done (by kernel_rfl) ?_ _
      have HF := Lib.hid (show RdR w1 gs N B κ L q (nowF P q) _ M size at_ D c (s, j) (w1.drew.heap.size) _ from ⟨_, hrowF, hg02, hsmF, hHeld, hkf2⟩)
      clear hHeld hrowF hg02 hsmF
      go_simp
      go_wp2_with fail
      go_meet
      case rel => exact ⟨_, rfl, rfl, HF.out⟩
    --]1
  case rest =>
    obtain ⟨g8, rfl, rfl, κ2, hr8, hk8, hsm, hch, hkf⟩ := hcut
    have c80 : wc.cell? ⟨g8, 0, none⟩ = some (.int .i64 (s : Nat)) := row_at hr8 rfl
    have c81 : wc.cell? ⟨g8, 1, none⟩ = some (.int .i64 (j : Nat)) := row_at hr8 rfl
    have HHO := Lib.hid (holds_any hsm s)
    have HCH := Lib.hid (show Chg (fun x => κ x ≠ 0) w wc from (Chg.belowAt (by rw [HG3.out]; exact HG3.out ▸ HB1.out)).trans (hch.mono (fun x e => by omega)))
    have HKF := Lib.hid (show ∀ x, κ2 x ≠ 0 → κ x ≠ 0 ∨ w.heap.size ≤ x from fun x hx => (hkf x hx).imp id (Nat.le_trans HB1.out.size))
    have HK3' := Lib.hid (range_chg HK3.out hch HL1.out.2 HN1.out.2)
    have HL3 := Lib.hid (Nat.lt_of_lt_of_le HL1.out.2 hch.size)
    have HSM := Lib.hid hsm
    have HR8 := Lib.hid hr8
    have HL8 := Lib.hid (row_lt hr8)
    have HC81 := Lib.hid c81
    clear hr8 hk8 hch hkf HFF HH H1 HB1 HK3 HL1 HN1 HKG
    obtain ⟨hho, hhv⟩ : ∃ t, (!M.isEmpty && decide (at_ = s)) = t := ⟨_, rfl⟩
    rw [hhv] at HHO
    have HHV := Lib.hid hhv
    clear hhv hsm
    cases hho with
    | true =>
      go_upto_region 4 with (fail)
      go_wp2_with (go_at_call 62; refine HHO.out.mono ?_; rintro e w' ⟨rfl, rfl⟩)
      obtain ⟨hM0, hats⟩ : M ≠ [] ∧ at_ = s := by
        have := HHV.out
        simp only [Bool.and_eq_true, decide_eq_true_eq] at this
        refine ⟨fun e => ?_, this.2⟩
        rw [e] at this; simp at this
      obtain ⟨ha, hD, hM, hat⟩ := HA.out
      obtain ⟨hj, hsq, hPs, hlen, hsN⟩ := HJ.out
      have hPq : P q ≠ [] := by rw [← hM]; intro e; exact hM0 (List.map_eq_nil_iff.1 e)
      have hsq' : s = q := by rw [← hats, hat hPq]
      rw [hsq', ← hM] at hj hlen
      rw [List.length_map] at hlen
      obtain ⟨p, g5, hp5, hA5, hr5, hok5⟩ := HSM.out.held.pcAt.get hlen
      obtain rfl := hA5
      have HPC := Lib.hid hr5
      have hpd : p.data = d := by rw [List.getElem?_map, hp5] at hj; injection hj with hj; exact congrArg Prod.snd hj
      have hpA : p.A ≠ none := fun e => by
        have h1 := (hok5.nil e).1
        have h2 := (ha.ok _ (ha.of_ q j (k, d) (by rw [← hM]; exact hj)).1).pos
        rw [hpd] at h1; simp at h2; omega
      have HCD := Lib.hid (show wc.cell? ⟨g5, j * 34 + 33, none⟩ = some (.slice p.A d.length p.c) from hpd ▸ range_cell hr5 (Pc.cells_33 hok5.key))
      have HI5 := Lib.hid (show Ints .u8 wc p.A d from hpd ▸ hok5.ints)
      have HC4 := Lib.hid (HSM.out.ci 4 _ rfl)
      have HLH := Lib.hid (show g5 < wc.heap.size from range_lt hr5 (by rw [Pc.cells_length hok5.key]; decide))
      have HLC := Lib.hid (row_lt HSM.out.row)
      have hj1 : (j : Int) < (M.length : Int) := by omega
      have hj0 : (0 : Int) ≤ (j : Int) := by omega
      obtain ⟨pA, hpAe⟩ : ∃ z, p.A = z := ⟨_, rfl⟩
      obtain ⟨pc, hpce⟩ : ∃ z, p.c = z := ⟨_, rfl⟩
      obtain ⟨nM, hnM⟩ : ∃ z, M.length = z := ⟨_, rfl⟩
      rw [hpAe] at HCD HI5
      rw [hpce] at HCD
      have HNM := Lib.hid hnM
      rw [hnM] at HC4 hj1
      clear hj hlen hp5 hr5 hok5 hpd hpA hM hat hD ha hats hM0 hPq hsq' hPs hsN hsq hpAe hpce hnM c80 c81
      --[5
      refine wp_region_held_drew (S := fun w' => Below wc.heap.size wc w') (by kernel_rfl) ((Below.refl _ _).drew) (fun hHeld => ?_)
      refine held_take 0 (some 29) (v := ?_) rfl rfl (by kernel_rfl) (by kernel_rfl) (by kernel_rfl) (fun _ _ _ h => h) (Or.inl ⟨by rfl, ?_⟩) hHeld ?_
      rotate_left
      · (intro w' hSw; clear hSw; go_simp; try with_reducible rfl)
      try simp only [Act.put, List.setIfInBounds_toArray, List.set_cons_zero, List.set_cons_succ]
      refine held_take 1 (some 30) (v := ?_) rfl rfl (by kernel_rfl) (by kernel_rfl) (by kernel_rfl) (fun _ _ _ h => h) (Or.inl ⟨by rfl, ?_⟩) hHeld ?_
      rotate_left
      · (intro w' hSw; clear hSw; go_simp; try with_reducible rfl)
      try simp only [Act.put, List.setIfInBounds_toArray, List.set_cons_zero, List.set_cons_succ]
      refine held_take 2 (some 31) (v := ?_) rfl rfl (by kernel_rfl) (by kernel_rfl) (by kernel_rfl) (fun _ _ _ h => h) (Or.inl ⟨by rfl, ?_⟩) hHeld ?_
      rotate_left
      · (intro w' hSw; clear hSw; go_simp; try with_reducible rfl)
      try simp only [Act.put, List.setIfInBounds_toArray, List.set_cons_zero, List.set_cons_succ]
      refine held_take 3 (some 32) (v := ?_) rfl rfl (by kernel_rfl) (by kernel_rfl) (by kernel_rfl) (fun _ _ _ h => h) (Or.inl ⟨by rfl, ?_⟩) hHeld ?_
      rotate_left
      · (intro w' hSw; have pf := (hSw.cell (p := ⟨gs, 4, none⟩) HLC.out).trans HC4.out; clear hSw; go_simp; try with_reducible rfl)
      try simp only [Act.put, List.setIfInBounds_toArray, List.set_cons_zero, List.set_cons_succ]
      refine held_take 4 (some 33) (v := ?_) rfl rfl (by kernel_rfl) (by kernel_rfl) (by kernel_rfl) (fun _ _ _ h => h) (Or.inl ⟨by rfl, ?_⟩) hHeld ?_
      rotate_left
      · (intro w' hSw; clear hSw; go_simp; try with_reducible rfl)
      try simp only [Act.put, List.setIfInBounds_toArray, List.set_cons_zero, List.set_cons_succ]
      refine held_take 5 (some 34) (v := ?_) rfl rfl (by kernel_rfl) (by kernel_rfl) (by kernel_rfl) (fun _ _ _ h => h) (Or.inl ⟨by rfl, ?_⟩) hHeld ?_
      rotate_left
      · (intro w' hSw; have pf := (hSw.cell (p := ⟨g8, 1, none⟩) HL8.out).trans HC81.out; clear hSw; go_simp; try with_reducible rfl)
      try simp only [Act.put, List.setIfInBounds_toArray, List.set_cons_zero, List.set_cons_succ]
      refine held_take 6 (some 35) (v := ?_) rfl rfl (by kernel_rfl) (by kernel_rfl) (by kernel_rfl) (fun _ _ _ h => h) (Or.inl ⟨by rfl, ?_⟩) hHeld ?_
      rotate_left
      · (intro w' hSw; clear hSw; go_simp; try with_reducible rfl)
      try simp only [Act.put, List.setIfInBounds_toArray, List.set_cons_zero, List.set_cons_succ]
      refine held_take 7 (some 36) (v := ?_) rfl rfl (by kernel_rfl) (by kernel_rfl) (by kernel_rfl) (fun _ _ _ h => h) (Or.inl ⟨by rfl, ?_⟩) hHeld ?_
      rotate_left
      · (intro w' hSw; clear hSw; go_simp; try with_reducible rfl)
      try simp only [Act.put, List.setIfInBounds_toArray, List.set_cons_zero, List.set_cons_succ]
      refine held_take 8 (some 37) (v := ?_) rfl rfl (by kernel_rfl) (by kernel_rfl) (by kernel_rfl) (fun _ _ _ h => h) (Or.inl ⟨by rfl, ?_⟩) hHeld ?_
      rotate_left
      · (intro w' hSw; have pf := (hSw.cell (p := ⟨g5, j * 34 + 33, none⟩) HLH.out).trans HCD.out; clear hSw; go_simp; try with_reducible rfl)
      try simp only [Act.put, List.setIfInBounds_toArray, List.set_cons_zero, List.set_cons_succ]
      refine held_take 9 (some 6) (v := ?_) rfl rfl (by kernel_rfl) (by kernel_rfl) (by kernel_rfl) (fun _ _ _ h => h) (Or.inl ⟨by rfl, ?_⟩) hHeld ?_
      rotate_left
      · (intro w' hSw; clear hSw; go_simp; try with_reducible rfl)
      try simp only [Act.put, List.setIfInBounds_toArray, List.set_cons_zero, List.set_cons_succ]
      refine held_take 10 (some 7) (v := ?_) rfl rfl (by kernel_rfl) (by kernel_rfl) (by kernel_rfl) (fun _ _ _ h => h) (Or.inl ⟨by rfl, ?_⟩) hHeld ?_
      rotate_left
      · (intro w' hSw; clear hSw; go_simp; try with_reducible rfl)
      try simp only [Act.put, List.setIfInBounds_toArray, List.set_cons_zero, List.set_cons_succ]
      refine wpAnyH_done (by kernel_rfl) ?_ _
      --]5
      go_wp2
      go_ret2
      exact ⟨pA, pc, rfl, HI5.out.below (Below.refl _ _).drew, HCH.out.trans (Chg.belowAt (Below.refl _ _).drew), κ2, HSM.out.below (Below.refl _ _).drew, HKF.out⟩
    | false =>
      obtain ⟨ha, hD, hM, hat⟩ := HA.out
      obtain ⟨hj, hsq, hPs, hlen, hsN⟩ := HJ.out
      have hsq' : s < q := by
        rcases Nat.lt_or_ge s q with h1 | h1
        · exact h1
        · obtain rfl : s = q := by omega
          have h2 := HHV.out
          rw [hat hPs] at h2
          have h3 : M.isEmpty = false := by
            cases M with
            | nil => exact absurd hM.symm hPs
            | cons x M => rfl
          rw [h3] at h2; simp at h2
      obtain ⟨id, Q, hid, hQ, hDs⟩ := hD s hsq'
      have HFE := Lib.hid (fetch_any HSM.out ha s hsN hPs id Q hid hQ hDs)
      obtain ⟨nP, hnP⟩ : ∃ z, (P s).length = z := ⟨_, rfl⟩
      rw [hnP] at HFE
      have HNP := Lib.hid (And.intro hnP (And.intro hj hlen))
      have HAA := Lib.hid ha
      have hj1 : (j : Int) < (nP : Int) := by omega
      have hj0 : (0 : Int) ≤ (j : Int) := by omega
      have hj2 : ¬ (nP : Int) ≤ (j : Int) := by omega
      have hj3 : decide (nP ≤ j) = false := decide_eq_false (by omega)
      have hj4 : decide ((nP : Int) ≤ (j : Int)) = false := decide_eq_false (by omega)
      clear ha hD hM hat hj hsq hPs hlen hsN hsq' hid hQ hDs hnP
      go_wp2_with (go_at_call 62; refine HHO.out.mono ?_; rintro e w' ⟨rfl, rfl⟩)
      refine HFE.out.mono ?_
      rintro e w5 ⟨A6, c6, M6, rfl, hpc6, hM6, hb5⟩
      have hlen6 : j < M6.length := by rw [len_kd hM6]; exact HNP.out.2.2
      obtain ⟨p, g6, hp6, hA6, hr6, hok6⟩ := hpc6.get hlen6
      obtain rfl := hA6
      have hkd6 : kd p = (k, d) := by
        have h1 := HNP.out.2.1
        rw [← hM6, List.getElem?_map, hp6] at h1; injection h1
      have hpk : p.key = k := congrArg Prod.fst hkd6
      have hpd : p.data = d := congrArg Prod.snd hkd6
      have HKM := Lib.hid (show w5.rangeAt g6 (j * 34) k.cells from by
        have := range_take hr6 33
        rw [Pc.cells_take hok6.key, hpk] at this; exact this)
      have HLM := Lib.hid (show g6 < w5.heap.size from range_lt hr6 (by rw [Pc.cells_length hok6.key]; decide))
      have hcd : w5.cell? ⟨g6, j * 34 + 33, none⟩ = some (.slice p.A d.length p.c) := hpd ▸ range_cell hr6 (Pc.cells_33 hok6.key)
      have HI6 := Lib.hid (show Ints .u8 w5 p.A d from hpd ▸ hok6.ints)
      have HK5 := Lib.hid (rangeAt_block HK3'.out (hb5.block g3 HL3.out))
      have HL5 := Lib.hid (Nat.lt_of_lt_of_le HL3.out hb5.size)
      have HC85 := Lib.hid ((hb5.cell (p := ⟨g8, 1, none⟩) HL8.out).trans HC81.out)
      have HL85 := Lib.hid (Nat.lt_of_lt_of_le HL8.out hb5.size)
      have HB5 := Lib.hid hb5
      have HNE := Lib.hid (fun (W : World) => run_neK k k HKO.out HKO.out W)
      simp only [decide_true, Bool.not_true] at HNE
      have HCD := Lib.hid hcd
      obtain ⟨pA, hpAe⟩ : ∃ z, p.A = z := ⟨_, rfl⟩
      obtain ⟨pc, hpce⟩ : ∃ z, p.c = z := ⟨_, rfl⟩
      rw [hpAe] at HCD HI6
      rw [hpce] at HCD
      clear hpc6 hM6 hb5 hlen6 hp6 hr6 hok6 hkd6 hpk hpd hcd hpAe hpce HFE HHO HK3' HL3 c80 c81
      go_upto_region 9 with (fail)
      --[9
      refine wp_region_held_drew (S := fun w' => Below w5.heap.size w5 w') (by kernel_rfl) ((Below.refl _ _).drew) (fun hHeld => ?_)
      refine held_take 0 (some 51) (v := ?_) rfl rfl (by kernel_rfl) (by kernel_rfl) (by kernel_rfl) (fun _ _ _ h => h) (Or.inl ⟨by rfl, ?_⟩) hHeld ?_
      rotate_left
      · (intro w' hSw; clear hSw; go_simp; try with_reducible rfl)
      try simp only [Act.put, List.setIfInBounds_toArray, List.set_cons_zero, List.set_cons_succ]
      refine held_take 1 (some 52) (v := ?_) rfl rfl (by kernel_rfl) (by kernel_rfl) (by kernel_rfl) (fun _ _ _ h => h) (Or.inl ⟨by rfl, ?_⟩) hHeld ?_
      rotate_left
      · (intro w' hSw; have pf := (hSw.cell (p := ⟨g8, 1, none⟩) HL85.out).trans HC85.out; clear hSw; go_simp; try with_reducible rfl)
      try simp only [Act.put, List.setIfInBounds_toArray, List.set_cons_zero, List.set_cons_succ]
      refine held_take 2 (some 53) (v := ?_) rfl rfl (by kernel_rfl) (by kernel_rfl) (by kernel_rfl) (fun _ _ _ h => h) (Or.inl ⟨by rfl, ?_⟩) hHeld ?_
      rotate_left
      · (intro w' hSw; clear hSw; go_simp; try with_reducible rfl)
      try simp only [Act.put, List.setIfInBounds_toArray, List.set_cons_zero, List.set_cons_succ]
      refine held_take 3 (some 54) (v := ?_) rfl rfl (by kernel_rfl) (by kernel_rfl) (by kernel_rfl) (fun _ _ _ h => h) (Or.inl ⟨by rfl, ?_⟩) hHeld ?_
      rotate_left
      · (intro w' hSw; clear hSw; go_simp; try with_reducible rfl)
      try simp only [Act.put, List.setIfInBounds_toArray, List.set_cons_zero, List.set_cons_succ]
      refine held_take 4 (some 55) (v := ?_) rfl rfl (by kernel_rfl) (by kernel_rfl) (by kernel_rfl) (fun _ _ _ h => h) (Or.inl ⟨by rfl, ?_⟩) hHeld ?_
      rotate_left
      · (intro w' hSw; clear hSw; go_simp; try with_reducible rfl)
      try simp only [Act.put, List.setIfInBounds_toArray, List.set_cons_zero, List.set_cons_succ]
      refine held_take 5 (some 56) (v := ?_) rfl rfl (by kernel_rfl) (by kernel_rfl) (by kernel_rfl) (fun _ _ _ h => h) (Or.inl ⟨by rfl, ?_⟩) hHeld ?_
      rotate_left
      · (intro w' hSw; clear hSw; go_simp; try with_reducible rfl)
      try simp only [Act.put, List.setIfInBounds_toArray, List.set_cons_zero, List.set_cons_succ]
      refine held_take 6 (some 57) (v := ?_) rfl rfl (by kernel_rfl) (by kernel_rfl) (by kernel_rfl) (fun _ _ _ h => h) (Or.inl ⟨by rfl, ?_⟩) hHeld ?_
      rotate_left
      · (intro w' hSw; clear hSw; go_simp; try with_reducible rfl)
      try simp only [Act.put, List.setIfInBounds_toArray, List.set_cons_zero, List.set_cons_succ]
      refine held_take 7 (some 58) (v := ?_) rfl rfl (by kernel_rfl) (by kernel_rfl) (by kernel_rfl) (fun _ _ _ h => h) (Or.inl ⟨by rfl, ?_⟩) hHeld ?_
      rotate_left
      · (intro w' hSw; clear hSw; go_simp; try with_reducible rfl)
      try simp only [Act.put, List.setIfInBounds_toArray, List.set_cons_zero, List.set_cons_succ]
      refine held_take 8 (some 59) (v := ?_) rfl rfl (by kernel_rfl) (by kernel_rfl) (by kernel_rfl) (fun _ _ _ h => h) (Or.inl ⟨by rfl, ?_⟩) hHeld ?_
      rotate_left
      · (intro w' hSw; have pf := (hSw.cell (p := ⟨g8, 1, none⟩) HL85.out).trans HC85.out; clear hSw; go_simp; try with_reducible rfl)
      try simp only [Act.put, List.setIfInBounds_toArray, List.set_cons_zero, List.set_cons_succ]
      refine held_take 9 (some 60) (v := ?_) rfl rfl (by kernel_rfl) (by kernel_rfl) (by kernel_rfl) (fun _ _ _ h => h) (Or.inl ⟨by rfl, ?_⟩) hHeld ?_
      rotate_left
      · (intro w' hSw; clear hSw; go_simp; try with_reducible rfl)
      try simp only [Act.put, List.setIfInBounds_toArray, List.set_cons_zero, List.set_cons_succ]
      refine held_take 10 (some 61) (v := ?_) rfl rfl (by kernel_rfl) (by kernel_rfl) (by kernel_rfl) (fun _ _ _ h => h) (Or.inl ⟨by rfl, ?_⟩) hHeld ?_
      rotate_left
      · (intro w' hSw; clear hSw; go_simp; try with_reducible rfl)
      try simp only [Act.put, List.setIfInBounds_toArray, List.set_cons_zero, List.set_cons_succ]
      refine held_take 11 (some 62) (v := .agg (k.cells).toArray) rfl rfl (by kernel_rfl) (by kernel_rfl) (by kernel_rfl) (fun _ _ _ h => h) (yieldsIf_load_mid (by rfl) 64 _ rfl g6 ((j * 34)) rfl (k.cells) _ (fun w' h => rangeAt_block HKM.out (h.block g6 HLM.out)) Tryz.underlying64 rfl (sizeK HKO.out)) hHeld ?_
      try simp only [Act.put, List.setIfInBounds_toArray, List.set_cons_zero, List.set_cons_succ]
      refine held_take 12 (some 63) (v := .agg (k.cells).toArray) rfl rfl (by kernel_rfl) (by kernel_rfl) (by kernel_rfl) (fun _ _ _ h => h) (yieldsIf_load_mid (by rfl) 64 _ rfl g3 (0) rfl (k.cells) _ (fun w' h => rangeAt_block HK5.out (h.block g3 HL5.out)) Tryz.underlying64 rfl (sizeK HKO.out)) hHeld ?_
      try simp only [Act.put, List.setIfInBounds_toArray, List.set_cons_zero, List.set_cons_succ]
      refine held_take 13 (some 64) (v := .bool false) rfl rfl (by kernel_rfl) (by kernel_rfl) (by kernel_rfl) (fun _ _ _ h => h) (yields_val (by go_simp) (fun W _ => exec_eqK .neq _ _ _ rfl (.agg k.cells.toArray) (.agg k.cells.toArray) _ (by go_simp) (by go_simp) (guardK _ _ _ _ _ _) (HNE.out W))) hHeld ?_
      try simp only [Act.put, List.setIfInBounds_toArray, List.set_cons_zero, List.set_cons_succ]
      refine held_take 14 (some 65) (v := ?_) rfl rfl (by kernel_rfl) (by kernel_rfl) (by kernel_rfl) (fun _ _ _ h => h) (Or.inl ⟨by rfl, ?_⟩) hHeld ?_
      rotate_left
      · (intro w' hSw; clear hSw; go_simp; try with_reducible rfl)
      try simp only [Act.put, List.setIfInBounds_toArray, List.set_cons_zero, List.set_cons_succ]
      refine held_take 15 (some 50) (v := ?_) rfl rfl (by kernel_rfl) (by kernel_rfl) (by kernel_rfl) (fun _ _ _ h => h) (Or.inl ⟨by rfl, ?_⟩) hHeld ?_
      rotate_left
      · (intro w' hSw; clear hSw; go_simp; try with_reducible rfl)
      try simp only [Act.put, List.setIfInBounds_toArray, List.set_cons_zero, List.set_cons_succ]
      refine wpAnyH_done (by kernel_rfl) ?_ _
      --]9
      have c81 : w5.drew.cell? ⟨g8, 1, none⟩ = some (.int .i64 (j : Nat)) := HC85.out
      have c6d : w5.drew.cell? ⟨g6, j * 34 + 33, none⟩ = some (.slice pA d.length pc) := HCD.out
      clear hHeld
      go_wp2
      go_ret2
      exact ⟨pA, pc, rfl, HI6.out.below (Below.refl _ _).drew, HCH.out.trans (Chg.belowAt HB5.out.drew), κ2, HSM.out.below HB5.out.drew, HKF.out⟩
end Go.Proofs.YtcklcffepedklaaGreat
