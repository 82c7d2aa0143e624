/- A stack of frames in memory: what it is, and what reads it. -/
import Derived.Test.YtfbmfcipaikaoaaKeys
import Derived.OwnWalk
import Derived.Laws.OwnMore
namespace Go.Proofs.Ytfbmfcipaikaoaa
set_option linter.unusedVariables false
set_option linter.unusedSimpArgs false
open Go.RowKit Go.Maps

structure Fr where
  r : Int
  c : Int
  k : Int
  x : Int
def cellsF (fs : List Fr) : List Value := fs.flatMap fun f => [.int .i64 f.r, .int .i64 f.c, .int .i64 f.k, .int .i64 f.x]
def frV (f : Fr) : Value := .agg #[.int .i64 f.r, .int .i64 f.c, .int .i64 f.k, .int .i64 f.x]
def At (f : Fr) (r c : Int) : Prop := f.r = r ∧ f.c = c
instance (f : Fr) (r c : Int) : Decidable (At f r c) := inferInstanceAs (Decidable (_ ∧ _))
/-- Where a place's frame lies. -/
def pos (fs : List Fr) (r c : Int) : Option Int := (fs.findIdx? fun f => decide (At f r c)).map Int.ofNat
theorem cellsF_len (fs : List Fr) : (cellsF fs).length = fs.length * 4 := by
  induction fs with
  | nil => rfl
  | cons v vs ih => simp only [cellsF, List.flatMap_cons, List.length_append, List.length_cons, List.length_nil] at *; omega
theorem cellsF_app (a b : List Fr) : cellsF (a ++ b) = cellsF a ++ cellsF b := by simp [cellsF]
theorem cellsF_one : ∀ (fs : List Fr), ∀ u ∈ cellsF fs, u.oneCell' = true := by
  intro fs u hu
  obtain ⟨v, _, hu⟩ := List.mem_flatMap.1 hu
  simp at hu
  rcases hu with rfl | rfl | rfl | rfl <;> rfl
theorem cellsF_get (fs : List Fr) (i : Nat) {f : Fr} (h : fs[i]? = some f) : (cellsF fs)[i * 4]? = some (.int .i64 f.r) ∧ (cellsF fs)[i * 4 + 1]? = some (.int .i64 f.c) ∧ (cellsF fs)[i * 4 + 2]? = some (.int .i64 f.k) ∧ (cellsF fs)[i * 4 + 3]? = some (.int .i64 f.x) := by
  induction fs generalizing i with
  | nil => simp at h
  | cons v vs ih =>
    cases i with
    | zero => simp at h; subst h; exact ⟨rfl, rfl, rfl, rfl⟩
    | succ i =>
      have := ih i (by simpa using h)
      simp only [cellsF, List.flatMap_cons] at *
      rw [List.getElem?_append_right (by simp; omega), List.getElem?_append_right (by simp; omega), List.getElem?_append_right (by simp; omega), List.getElem?_append_right (by simp; omega)]
      simp only [List.length_cons, List.length_nil]
      rw [show (i + 1) * 4 - (0 + 1 + 1 + 1 + 1) = i * 4 by omega, show (i + 1) * 4 + 1 - (0 + 1 + 1 + 1 + 1) = i * 4 + 1 by omega, show (i + 1) * 4 + 2 - (0 + 1 + 1 + 1 + 1) = i * 4 + 2 by omega, show (i + 1) * 4 + 3 - (0 + 1 + 1 + 1 + 1) = i * 4 + 3 by omega]
      exact this
theorem pos_snoc (fs : List Fr) (f : Fr) (r c : Int) : pos (fs ++ [f]) r c = if (pos fs r c).isSome then pos fs r c else if At f r c then some (fs.length : Int) else none := by
  unfold pos
  rw [List.findIdx?_append]
  cases h : fs.findIdx? fun f => decide (At f r c) with
  | some i => simp
  | none =>
    by_cases hf : At f r c
    · simp [hf]
    · simp [hf]
theorem pos_at {fs : List Fr} {r c i : Int} (h : pos fs r c = some i) : ∃ j f, i = (j : Nat) ∧ fs[j]? = some f ∧ At f r c := by
  unfold pos at h
  rw [Option.map_eq_some_iff] at h
  obtain ⟨j, hj, rfl⟩ := h
  obtain ⟨hlt, h2, _⟩ := List.findIdx?_eq_some_iff_getElem.1 hj
  exact ⟨j, fs[j], rfl, by simp [hlt], by simpa using h2⟩
theorem pos_none {fs : List Fr} {r c : Int} (h : pos fs r c = none) : ∀ f ∈ fs, ¬ At f r c := by
  unfold pos at h
  rw [Option.map_eq_none_iff, List.findIdx?_eq_none_iff] at h
  intro f hf
  simpa using h f hf
theorem pos_none' {fs : List Fr} {r c : Int} (h : ∀ f ∈ fs, ¬ At f r c) : pos fs r c = none := by
  unfold pos
  rw [Option.map_eq_none_iff, List.findIdx?_eq_none_iff]
  intro f hf
  simpa using h f hf
theorem pos_put (fs : List Fr) (f : Fr) (h : pos fs f.r f.c = none) : putF (pos fs) f.r f.c (fs.length : Int) = pos (fs ++ [f]) := by
  funext a b
  rw [pos_snoc]
  unfold putF
  by_cases hab : a = f.r ∧ b = f.c
  · obtain ⟨rfl, rfl⟩ := hab
    rw [if_pos ⟨rfl, rfl⟩, h]
    simp [At]
  · rw [if_neg hab]
    cases hp : pos fs a b with
    | some i => simp
    | none =>
      have : ¬ At f a b := fun ⟨h1, h2⟩ => hab ⟨h1.symm, h2.symm⟩
      simp [this]
theorem pos_del (fs : List Fr) (f : Fr) (h : pos fs f.r f.c = none) : delF (pos (fs ++ [f])) f.r f.c = pos fs := by
  funext a b
  unfold delF
  rw [pos_snoc]
  by_cases hab : a = f.r ∧ b = f.c
  · obtain ⟨rfl, rfl⟩ := hab
    rw [if_pos ⟨rfl, rfl⟩, h]
  · rw [if_neg hab]
    cases hp : pos fs a b with
    | some i => simp
    | none =>
      have : ¬ At f a b := fun ⟨h1, h2⟩ => hab ⟨h1.symm, h2.symm⟩
      simp [this]
theorem pos_same (fs : List Fr) (f g : Fr) (h1 : f.r = g.r) (h2 : f.c = g.c) : pos (fs ++ [f]) = pos (fs ++ [g]) := by
  funext a b
  rw [pos_snoc, pos_snoc]
  have : At f a b = At g a b := by simp [At, h1, h2]
  simp only [this]

def Uq (fs : List Fr) : Prop := fs.Pairwise fun a b => ¬ At a b.r b.c
theorem Uq.snoc {fs : List Fr} {f : Fr} : Uq (fs ++ [f]) ↔ Uq fs ∧ pos fs f.r f.c = none := by
  unfold Uq
  rw [List.pairwise_append]
  constructor
  · rintro ⟨h1, _, h3⟩
    exact ⟨h1, pos_none' fun g hg => h3 g hg f (by simp)⟩
  · rintro ⟨h1, h2⟩
    exact ⟨h1, by simp, fun g hg y hy => by simp at hy; subst hy; exact pos_none h2 g hg⟩
def FitF (f : Fr) : Prop := (I64 f.r ∧ I64 f.c) ∧ (f.k = 1 ∨ f.k = 2) ∧ (0 ≤ f.x ∧ f.x ≤ 9223372036854775807)

/-- Nothing but what lies at X has turned. -/
structure Apt (X : Nat → Prop) (W W' : World) : Prop where
  os : W'.os = W.os
  tape : W'.tape = W.tape
  output : W'.output = W.output
  size : W.heap.size ≤ W'.heap.size
  block : ∀ k, k < W.heap.size → ¬ X k → W'.heap[k]? = W.heap[k]?
theorem Apt.refl (X : Nat → Prop) (W : World) : Apt X W W := ⟨rfl, rfl, rfl, Nat.le_refl _, fun _ _ _ => rfl⟩
theorem Apt.grown {X : Nat → Prop} {W W1 W2 : World} {row : Option Nat} (h : Apt X W W1) (hg : W1.grownBy W2 row) (hr : ∀ k, row = some k → X k ∨ W.heap.size ≤ k) : Apt X W W2 :=
  ⟨hg.os.trans h.os, hg.tape.trans h.tape, hg.output.trans h.output, Nat.le_trans h.size hg.size, fun k hk hx => (hg.block k (Nat.lt_of_lt_of_le hk h.size) (fun e => by rcases hr k e.symm with h1 | h1; exact hx h1; omega)).trans (h.block k hk hx)⟩
theorem Apt.alloc {X : Nat → Prop} {W W1 : World} (h : Apt X W W1) (o : Obj) : Apt X W (W1.alloc o) := h.grown (World.grownBy_alloc W1 o none) (fun k e => by cases e)
theorem Apt.drew {X : Nat → Prop} {W W1 : World} (h : Apt X W W1) : Apt X W W1.drew := ⟨h.os, h.tape, h.output, h.size, h.block⟩
theorem Apt.setCell {X : Nat → Prop} {W W1 : World} (h : Apt X W W1) {p : Addr} (hp : X p.block ∨ W.heap.size ≤ p.block) (u : Value) : Apt X W (W1.setCell p u) :=
  h.grown (row := some p.block) ⟨rfl, rfl, rfl, by simp [World.setCell], fun k _ hk => by
    have := heap_setCell_other W1 p k u (fun e => hk (by simp [e]))
    exact this⟩ (fun k e => by cases e; exact hp)
theorem Apt.trans {X : Nat → Prop} {W W1 W2 : World} (h : Apt X W W1) (k : Apt X W1 W2) : Apt X W W2 :=
  ⟨k.os.trans h.os, k.tape.trans h.tape, k.output.trans h.output, Nat.le_trans h.size k.size, fun j hj hx => (k.block j (Nat.lt_of_lt_of_le hj h.size) hx).trans (h.block j hj hx)⟩
theorem Apt.more {X Y : Nat → Prop} {W W1 : World} (h : Apt X W W1) (hxy : ∀ k, k < W.heap.size → X k → Y k) : Apt Y W W1 := ⟨h.os, h.tape, h.output, h.size, fun k hk hy => h.block k hk (fun hx => hy (hxy k hk hx))⟩
theorem apt_below {X : Nat → Prop} {W W' : World} (h : Below W.heap.size W W') : Apt X W W' := ⟨h.os, h.tape, h.output, h.size, fun k hk _ => h.block k hk⟩
theorem Apt.below {X : Nat → Prop} {B : Nat} {W0 W W' : World} (hb : Below B W0 W) (h : Apt X W W') (hx : ∀ k, X k → B ≤ k) (hB : B ≤ W.heap.size) : Below B W0 W' :=
  hb.trans ⟨h.os, h.tape, h.output, h.size, fun k hk => h.block k (by omega) (fun hxk => by have := hx k hxk; omega)⟩
theorem Apt.grownBy {X : Nat → Prop} {W W' : World} (h : Apt X W W') (row : Option Nat) (hx : ∀ k, X k → row = some k) : W.grownBy W' row := ⟨h.os, h.tape, h.output, h.size, fun k hk hne => h.block k hk (fun hxk => hne (hx k hxk).symm)⟩
theorem Apt.row {X : Nat → Prop} {W W' : World} {base : Nat} {e : TypeId} {size n : Nat} {v : Value} {xs : List Value} (h : Apt X W W') (ho : W.ownsRow base e size v n xs) (hv : ∀ k, v.ownBlock = some k → ¬ X k) : W'.ownsRow base e size v n xs := by
  refine ⟨ho.1, ?_⟩
  rcases ho.2 with ⟨rfl, h0⟩ | ⟨g, cap, cur, rfl, hb, hg, hnc, hcm, hcs, ht⟩
  · exact .inl ⟨rfl, h0⟩
  · exact .inr ⟨g, cap, cur, rfl, hb, (h.block g (Array.getElem?_eq_some_iff.1 hg).1 (hv g rfl)).trans hg, hnc, hcm, hcs, ht⟩
theorem Apt.map {X : Nat → Prop} {W W' : World} {M sz : Nat} {f : Int → Int → Option Int} (h : Apt X W W') (ho : MapAt W M sz f) (hv : ¬ X M) : MapAt W' M sz f := by
  obtain ⟨D, ⟨es, clock, hb, r1, r2, r3⟩, h2⟩ := ho
  exact ⟨D, ⟨es, clock, (h.block M (Array.getElem?_eq_some_iff.1 hb).1 hv).trans hb, r1, r2, r3⟩, h2⟩

/-- A stack in memory from block B on. -/
structure Stk (W : World) (B S M : Nat) (F : Value) (fs : List Fr) (most : Nat) : Prop where
  blk : W.heap[S]? = some (.cells #[F, .map (some M), .int .i64 most] 62 (0, 0))
  row : W.ownsRow B 36 4 F fs.length (cellsF fs)
  map : MapAt W M fs.length (pos fs)
  sm : S ≠ M
  fS : F.ownBlock ≠ some S
  fM : F.ownBlock ≠ some M
  bS : B ≤ S
  bM : B ≤ M
  uq : Uq fs
  ft : ∀ f ∈ fs, FitF f
  mo : fs.length ≤ most ∧ most ≤ 1000000000
/-- The blocks of a stack. -/
def SX (S M : Nat) (F : Value) (k : Nat) : Prop := k = S ∨ k = M ∨ F.ownBlock = some k
theorem Stk.apt {X : Nat → Prop} {W W' : World} {B S M : Nat} {F : Value} {fs : List Fr} {most : Nat} (h : Stk W B S M F fs most) (ha : Apt X W W') (hx : ∀ k, SX S M F k → ¬ X k) : Stk W' B S M F fs most :=
  ⟨(ha.block S (Array.getElem?_eq_some_iff.1 h.blk).1 (hx S (.inl rfl))).trans h.blk, ha.row h.row (fun k hk => hx k (.inr (.inr hk))), ha.map h.map (hx M (.inr (.inl rfl))), h.sm, h.fS, h.fM, h.bS, h.bM, h.uq, h.ft, h.mo⟩
theorem Stk.below {W W' : World} {B S M : Nat} {F : Value} {fs : List Fr} {most : Nat} (h : Stk W B S M F fs most) (hb : Below W.heap.size W W') : Stk W' B S M F fs most :=
  h.apt (X := fun _ => False) (apt_below hb) (fun _ _ h => h)
theorem Stk.lt {W : World} {B S M : Nat} {F : Value} {fs : List Fr} {most : Nat} (h : Stk W B S M F fs most) : S < W.heap.size ∧ M < W.heap.size := ⟨(Array.getElem?_eq_some_iff.1 h.blk).1, h.map.lt⟩
theorem Stk.sx {W : World} {B S M : Nat} {F : Value} {fs : List Fr} {most : Nat} (h : Stk W B S M F fs most) : ∀ k, SX S M F k → B ≤ k ∧ k < W.heap.size := by
  rintro k (rfl | rfl | hk)
  · exact ⟨h.bS, h.lt.1⟩
  · exact ⟨h.bM, h.lt.2⟩
  · exact h.row.lt k hk
theorem cellsT {w : World} {g : Nat} {a b c : Value} {t : TypeId} {f : Nat × Nat} (h : w.heap[g]? = some (.cells #[a, b, c] t f)) :
    w.cell? ⟨g, 0, none⟩ = some a ∧ w.cell? ⟨g, 1, none⟩ = some b ∧ w.cell? ⟨g, 2, none⟩ = some c := by
  refine ⟨?_, ?_, ?_⟩ <;> (rw [cell_of_row w _ _ _ _ _ h]; rfl)
theorem row_froz {w : World} {g : Nat} {cs : Array Value} {t : TypeId} (h : w.heap[g]? = some (.cells cs t (0, 0))) (j : Nat) : w.frozen? ⟨g, j, none⟩ = false := by simp [World.frozen?, h]
theorem row_set {W : World} {T : Nat} {cs : Array Value} {t : TypeId} {f : Nat × Nat} (h : W.heap[T]? = some (.cells cs t f)) (j : Nat) (v : Value) : (W.setCell ⟨T, j, none⟩ v).heap[T]? = some (.cells (cs.setIfInBounds j v) t f) := by
  have hlt := (Array.getElem?_eq_some_iff.1 h).1
  have h' : W.heap[T] = .cells cs t f := by simpa [Array.getElem?_eq_getElem hlt] using h
  simp [World.setCell, hlt, Array.getElem_modify, h']
theorem row_any {w : World} {base : Nat} {e : TypeId} {size n : Nat} {v : Value} {xs : List Value} (h : w.ownsRow base e size v n xs) : ∃ ao cap, v = .slice ao n cap := by
  rcases h.2 with ⟨rfl, rfl⟩ | ⟨g, cap, _, rfl, _⟩
  · exact ⟨none, 0, rfl⟩
  · exact ⟨_, cap, rfl⟩
theorem row_cases {w : World} {base : Nat} {e : TypeId} {size n : Nat} {v : Value} {xs : List Value} (h : w.ownsRow base e size v n xs) : (v = .slice none 0 0 ∧ n = 0) ∨ ∃ g cap, n ≤ cap ∧ v = .slice (some ⟨g, 0, none⟩) n cap := by
  rcases h.2 with ⟨rfl, rfl⟩ | ⟨g, cap, cur, rfl, _, _, hnc, _⟩
  · exact .inl ⟨rfl, rfl⟩
  · exact .inr ⟨g, cap, hnc, rfl⟩
theorem cell_below {w w' : World} {p : Addr} {x : Value} (h : w.cell? p = some x) (hb : Below w.heap.size w w') : w'.cell? p = some x := (hb.cell (World.block_lt_of_cell? w p h)).trans h
end Go.Proofs.Ytfbmfcipaikaoaa
