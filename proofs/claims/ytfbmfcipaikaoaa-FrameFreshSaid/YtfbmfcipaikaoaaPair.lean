/- A stack and the document's beside it: what each call makes of the two. -/
import Derived.Test.YtfbmfcipaikaoaaRef3
namespace Go.Proofs.Ytfbmfcipaikaoaa
set_option linter.unusedVariables false
set_option linter.unusedSimpArgs false
open Go.RowKit Go.Maps

structure OpW where
  k : Int
  b : Bool
  r : Int
  c : Int
  n : Int
/-- The blocks of a pair that may turn. -/
structure PD where
  M : Nat
  F : Value
  M' : Nat
  F' : Value
def PX (S S' : Nat) (p : PD) (k : Nat) : Prop := SX S p.M p.F k ∨ SX S' p.M' p.F' k
/-- What a call does to memory. -/
structure Tr (S S' : Nat) (W : World) (p : PD) (W' : World) (p' : PD) : Prop where
  ap : Apt (PX S S' p) W W'
  nw : ∀ k, PX S S' p' k → PX S S' p k ∨ W.heap.size ≤ k
theorem Tr.refl (S S' : Nat) (W : World) (p : PD) : Tr S S' W p W p := ⟨Apt.refl _ _, fun k h => .inl h⟩
theorem Tr.trans {S S' : Nat} {W W1 W2 : World} {p p1 p2 : PD} (h : Tr S S' W p W1 p1) (g : Tr S S' W1 p1 W2 p2) : Tr S S' W p W2 p2 :=
  ⟨⟨g.ap.os.trans h.ap.os, g.ap.tape.trans h.ap.tape, g.ap.output.trans h.ap.output, Nat.le_trans h.ap.size g.ap.size, fun k hk hx => (g.ap.block k (Nat.lt_of_lt_of_le hk h.ap.size) (fun hx1 => by
    rcases h.nw k hx1 with e | e
    · exact hx e
    · omega)).trans (h.ap.block k hk hx)⟩, fun k hk => by
    rcases g.nw k hk with e | e
    · exact h.nw k e
    · exact .inr (Nat.le_trans h.ap.size e)⟩
theorem Tr.below {S S' : Nat} {W W' : World} {p : PD} (h : Below W.heap.size W W') : Tr S S' W p W' p := ⟨apt_below h, fun k h => .inl h⟩
theorem Tr.drew {S S' : Nat} {W W' : World} {p p' : PD} (h : Tr S S' W p W' p') : Tr S S' W p W'.drew p' := ⟨h.ap.drew, h.nw⟩

structure Q (W : World) (B b0 b1 S S' : Nat) (p : PD) (o : OpW) (fs : List Fr) (m : Nat) (fs' : List Fr) (m' : Nat) : Prop where
  a : Stk W B S p.M p.F fs m
  b : StkR W B S' p.M' p.F' fs' m'
  ne : ∀ k, SX S p.M p.F k → ¬ SX S' p.M' p.F' k
  r0 : W.heap[b0]? = some (.cells #[.pointer (some ⟨S, 0, none⟩), .pointer (some ⟨S', 0, none⟩)] 53 (0, 0))
  r1 : W.heap[b1]? = some (.cells #[.int .i64 o.k, .bool o.b, .int .i64 o.r, .int .i64 o.c, .int .i64 o.n] 29 (0, 0))
  n0 : ¬ PX S S' p b0
  n1 : ¬ PX S S' p b1
section
variable {W W1 : World} {B b0 b1 S S' : Nat} {p : PD} {o : OpW} {fs fs' : List Fr} {m m' : Nat}
theorem Q.px (h : Q W B b0 b1 S S' p o fs m fs' m') : ∀ k, PX S S' p k → B ≤ k ∧ k < W.heap.size := fun k hk => by
  rcases hk with hk | hk
  · exact h.a.sx k hk
  · exact h.b.sx k hk
theorem Q.cells (h : Q W B b0 b1 S S' p o fs m fs' m') : (W.cell? ⟨b0, 0, none⟩ = some (.pointer (some ⟨S, 0, none⟩)) ∧ W.cell? ⟨b0, 1, none⟩ = some (.pointer (some ⟨S', 0, none⟩))) ∧
    W.cell? ⟨b1, 0, none⟩ = some (.int .i64 o.k) ∧ W.cell? ⟨b1, 2, none⟩ = some (.int .i64 o.r) ∧ W.cell? ⟨b1, 3, none⟩ = some (.int .i64 o.c) ∧ W.cell? ⟨b1, 4, none⟩ = some (.int .i64 o.n) := by
  refine ⟨⟨?_, ?_⟩, ?_, ?_, ?_, ?_⟩
  · rw [cell_of_row W _ _ _ _ _ h.r0]; rfl
  · rw [cell_of_row W _ _ _ _ _ h.r0]; rfl
  · rw [cell_of_row W _ _ _ _ _ h.r1]; rfl
  · rw [cell_of_row W _ _ _ _ _ h.r1]; rfl
  · rw [cell_of_row W _ _ _ _ _ h.r1]; rfl
  · rw [cell_of_row W _ _ _ _ _ h.r1]; rfl
theorem Q.below (h : Q W B b0 b1 S S' p o fs m fs' m') (hb : Below W.heap.size W W1) : Q W1 B b0 b1 S S' p o fs m fs' m' :=
  ⟨h.a.below hb, h.b.below hb, h.ne, (hb.block _ (Array.getElem?_eq_some_iff.1 h.r0).1).trans h.r0, (hb.block _ (Array.getElem?_eq_some_iff.1 h.r1).1).trans h.r1, h.n0, h.n1⟩
theorem Q.drew (h : Q W B b0 b1 S S' p o fs m fs' m') : Q W.drew B b0 b1 S S' p o fs m fs' m' := h.below (Below.refl _ _).drew
theorem Q.stepA (h : Q W B b0 b1 S S' p o fs m fs' m') {F1 : Value} {fs1 : List Fr} {m1 : Nat} (st : Stk W1 B S p.M F1 fs1 m1) (ha : Apt (SX S p.M p.F) W W1) (hF : F1.ownBlock = p.F.ownBlock ∨ ∀ b, F1.ownBlock = some b → W.heap.size ≤ b) :
    Q W1 B b0 b1 S S' { p with F := F1 } o fs1 m1 fs' m' ∧ Tr S S' W p W1 { p with F := F1 } := by
  have hnew : ∀ k, SX S p.M F1 k → SX S p.M p.F k ∨ W.heap.size ≤ k := fun k hk => by
    rcases hk with e | e | e
    · exact .inl (.inl e)
    · exact .inl (.inr (.inl e))
    · rcases hF with e2 | e2
      · exact .inl (.inr (.inr (e2.symm.trans e)))
      · exact .inr (e2 k e)
  have hnw : ∀ k, PX S S' { p with F := F1 } k → PX S S' p k ∨ W.heap.size ≤ k := fun k hk => by
    rcases hk with hk | hk
    · rcases hnew k hk with e | e
      · exact .inl (.inl e)
      · exact .inr e
    · exact .inl (.inr hk)
  refine ⟨⟨st, h.b.apt ha (fun k hk hx => h.ne k hx hk), fun k hk hk' => ?_, (ha.block _ (Array.getElem?_eq_some_iff.1 h.r0).1 (fun e => h.n0 (.inl e))).trans h.r0, (ha.block _ (Array.getElem?_eq_some_iff.1 h.r1).1 (fun e => h.n1 (.inl e))).trans h.r1, fun e => ?_, fun e => ?_⟩, ha.more (fun k _ e => .inl e), hnw⟩
  · rcases hnew k hk with e | e
    · exact h.ne k e hk'
    · have := (h.b.sx k hk').2; omega
  · rcases hnw _ e with e | e
    · exact h.n0 e
    · have := (Array.getElem?_eq_some_iff.1 h.r0).1; omega
  · rcases hnw _ e with e | e
    · exact h.n1 e
    · have := (Array.getElem?_eq_some_iff.1 h.r1).1; omega
theorem Q.stepB (h : Q W B b0 b1 S S' p o fs m fs' m') {M1 : Nat} {F1 : Value} {fs1 : List Fr} {m1 : Nat} (st : StkR W1 B S' M1 F1 fs1 m1) (ha : Apt (SX S' p.M' p.F') W W1) (hM : M1 = p.M' ∨ W.heap.size ≤ M1) (hF : F1.ownBlock = p.F'.ownBlock ∨ ∀ b, F1.ownBlock = some b → W.heap.size ≤ b) :
    Q W1 B b0 b1 S S' { p with M' := M1, F' := F1 } o fs m fs1 m1 ∧ Tr S S' W p W1 { p with M' := M1, F' := F1 } := by
  have hnew : ∀ k, SX S' M1 F1 k → SX S' p.M' p.F' k ∨ W.heap.size ≤ k := fun k hk => by
    rcases hk with e | e | e
    · exact .inl (.inl e)
    · rcases hM with e2 | e2
      · exact .inl (.inr (.inl (e.trans e2)))
      · exact .inr (by omega)
    · rcases hF with e2 | e2
      · exact .inl (.inr (.inr (e2.symm.trans e)))
      · exact .inr (e2 k e)
  have hnw : ∀ k, PX S S' { p with M' := M1, F' := F1 } k → PX S S' p k ∨ W.heap.size ≤ k := fun k hk => by
    rcases hk with hk | hk
    · exact .inl (.inl hk)
    · rcases hnew k hk with e | e
      · exact .inl (.inr e)
      · exact .inr e
  refine ⟨⟨h.a.apt ha (fun k hk hx => h.ne k hk hx), st, fun k hk hk' => ?_, (ha.block _ (Array.getElem?_eq_some_iff.1 h.r0).1 (fun e => h.n0 (.inr e))).trans h.r0, (ha.block _ (Array.getElem?_eq_some_iff.1 h.r1).1 (fun e => h.n1 (.inr e))).trans h.r1, fun e => ?_, fun e => ?_⟩, ha.more (fun k _ e => .inr e), hnw⟩
  · rcases hnew k hk' with e | e
    · exact h.ne k hk e
    · have := (h.a.sx k hk).2; omega
  · rcases hnw _ e with e | e
    · exact h.n0 e
    · have := (Array.getElem?_eq_some_iff.1 h.r0).1; omega
  · rcases hnw _ e with e | e
    · exact h.n1 e
    · have := (Array.getElem?_eq_some_iff.1 h.r1).1; omega

/-- A list that is no pair's own. -/
structure Lst (W : World) (S S' : Nat) (p : PD) (A : Option Addr) (n : Nat) (fs : List Fr) : Prop where
  at_ : FrsAt W A fs
  len : n = fs.length
  far : ∀ a, A = some a → a.block < W.heap.size ∧ ¬ PX S S' p a.block
theorem Lst.tr {p' : PD} {A : Option Addr} {n : Nat} {gs : List Fr} (h : Lst W S S' p A n gs) (t : Tr S S' W p W1 p') : Lst W1 S S' p' A n gs := by
  refine ⟨fun i f hi => ?_, h.len, fun a ha => ⟨Nat.lt_of_lt_of_le (h.far a ha).1 t.ap.size, fun e => ?_⟩⟩
  · obtain ⟨b, off, e, hl, h0, h1, h2, h3⟩ := h.at_ i f hi
    have hb := t.ap.block b hl (fun hx => (h.far _ e).2 hx)
    have hc : ∀ q : Nat, W1.cell? ⟨b, q, none⟩ = W.cell? ⟨b, q, none⟩ := fun q => by unfold World.cell?; rw [hb]
    exact ⟨b, off, e, Nat.lt_of_lt_of_le hl t.ap.size, (hc _).trans h0, (hc _).trans h1, (hc _).trans h2, (hc _).trans h3⟩
  · rcases t.nw _ e with e | e
    · exact (h.far a ha).2 e
    · have := (h.far a ha).1; omega
theorem lst_new {A : Option Addr} {n cap : Nat} {gs : List Fr} (h : Q W B b0 b1 S S' p o fs m fs' m') (hb : Below W.heap.size W W1) (hown : W1.ownsRow W.heap.size 36 4 (.slice A n cap) n (cellsF gs)) : Lst W1 S S' p A n gs := by
  refine ⟨frs_own hown, by have := hown.1; rw [cellsF_len] at this; omega, ?_⟩
  rintro a rfl
  rcases hown.2 with ⟨e, _⟩ | ⟨g, c, cur, e, hg, hl, _⟩
  · cases e
  · cases e
    exact ⟨(Array.getElem?_eq_some_iff.1 hl).1, fun e => by have h2 : g < W.heap.size := (h.px _ e).2; omega⟩

def pushF (fs : List Fr) (r c k : Int) : List Fr := if mayS r c = true ∧ (k = 1 ∨ k = 2) ∧ pos fs r c = none then fs ++ [⟨r, c, k, 0⟩] else fs
def pushE (fs : List Fr) (r c k : Int) : Int := if mayS r c = true ∧ (k = 1 ∨ k = 2) ∧ pos fs r c = none then 0 else pushErr fs r c k
def pushM (fs : List Fr) (m : Nat) (r c k : Int) : Nat := if mayS r c = true ∧ (k = 1 ∨ k = 2) ∧ pos fs r c = none then max m (fs.length + 1) else m
theorem Q.pushA (h : Q W B b0 b1 S S' p o fs m fs' m') (r c k : Int) (hr : I64 r) (hc : I64 c) (hl : fs.length + 1 ≤ 1000000000) :
    Calls Try.prog 10 #[.pointer (some ⟨S, 0, none⟩), .agg #[.int .i64 r, .int .i64 c], .int .i64 k] W fun e W' => e = .returned (.int .i64 (pushE fs r c k)) ∧ ∃ p', Q W' B b0 b1 S S' p' o (pushF fs r c k) (pushM fs m r c k) fs' m' ∧ Tr S S' W p W' p' := by
  unfold pushE pushF pushM
  split
  · rename_i hok
    exact (push10_ok h.a r c k hok.1 hok.2.1 hok.2.2 hl).mono fun e W' ⟨he, F', st, ha, hF⟩ => ⟨he, _, h.stepA st ha hF⟩
  · rename_i hno
    exact (push10_no h.a r c k hr hc hno).mono fun e W' ⟨he, hb⟩ => ⟨he, _, h.below hb, Tr.below hb⟩
theorem Q.pushB (h : Q W B b0 b1 S S' p o fs m fs' m') (r c k : Int) (hr : I64 r) (hc : I64 c) (hl : fs'.length + 1 ≤ 1000000000) :
    Calls Try.prog 30 #[.pointer (some ⟨S', 0, none⟩), .agg #[.int .i64 r, .int .i64 c], .int .i64 k] W fun e W' => e = .returned (.int .i64 (pushE fs' r c k)) ∧ ∃ p', Q W' B b0 b1 S S' p' o fs m (pushF fs' r c k) (pushM fs' m' r c k) ∧ Tr S S' W p W' p' := by
  unfold pushE pushF pushM
  split
  · rename_i hok
    exact (push30_ok h.b r c k hok.1 hok.2.1 hok.2.2 hl).mono fun e W' ⟨he, F', st, ha, hF⟩ => ⟨he, _, h.stepB st ha (.inl rfl) hF⟩
  · rename_i hno
    exact (push30_no h.b r c k hr hc hno).mono fun e W' ⟨he, hb⟩ => ⟨he, _, h.below hb, Tr.below hb⟩

def popE (fs : List Fr) : Int := if fs = [] then 3 else 0
theorem Q.popA (h : Q W B b0 b1 S S' p o fs m fs' m') :
    Calls Try.prog 13 #[.pointer (some ⟨S, 0, none⟩)] W fun e W' => e = .returned (.tuple #[frV (topF fs).1, .int .i64 (popE fs)]) ∧ ∃ p', Q W' B b0 b1 S S' p' o fs.dropLast m fs' m' ∧ Tr S S' W p W' p' := by
  rcases list_cases fs with rfl | ⟨gs, f, rfl⟩
  · exact (pop13_none (F := p.F) h.a).mono fun e W' ⟨he, hb⟩ => ⟨he, _, h.below hb, Tr.below hb⟩
  · rw [topF_snoc, List.dropLast_concat, show popE (gs ++ [f]) = 0 by simp [popE]]
    exact (pop13_some h.a).mono fun e W' ⟨he, F', st, ha, hF⟩ => ⟨he, _, h.stepA st ha (.inl hF)⟩
theorem Q.popB (h : Q W B b0 b1 S S' p o fs m fs' m') :
    Calls Try.prog 31 #[.pointer (some ⟨S', 0, none⟩)] W fun e W' => e = .returned (.tuple #[frV (topF fs').1, .int .i64 (popE fs')]) ∧ ∃ p', Q W' B b0 b1 S S' p' o fs m fs'.dropLast m' ∧ Tr S S' W p W' p' := by
  rcases list_cases fs' with rfl | ⟨gs, f, rfl⟩
  · exact (pop31_none (F := p.F') h.b).mono fun e W' ⟨he, hb⟩ => ⟨he, _, h.below hb, Tr.below hb⟩
  · rw [topF_snoc, List.dropLast_concat, show popE (gs ++ [f]) = 0 by simp [popE]]
    exact (pop31_some h.b).mono fun e W' ⟨he, F', st, ha, hF⟩ => ⟨he, _, h.stepB st ha (.inl rfl) (.inl hF)⟩

def setTop (g : Fr → Fr) (fs : List Fr) : List Fr := match fs.getLast? with
  | some f => fs.dropLast ++ [g f]
  | none => fs
theorem setTop_snoc (g : Fr → Fr) (fs : List Fr) (f : Fr) : setTop g (fs ++ [f]) = fs ++ [g f] := by simp [setTop]
theorem setTop_len (g : Fr → Fr) (fs : List Fr) : (setTop g fs).length = fs.length := by
  rcases list_cases fs with rfl | ⟨gs, f, rfl⟩
  · rfl
  · rw [setTop_snoc]; simp
def nextF (fs : List Fr) (i : Int) : List Fr := if fs.length = 0 ∨ i < 0 then fs else setTop (fun f => { f with x := i }) fs
def nextE (fs : List Fr) (i : Int) : Int := if fs.length = 0 ∨ i < 0 then nextErr fs else 0
def kindF (fs : List Fr) (i : Int) : List Fr := if fs.length = 0 ∨ ¬ (i = 1 ∨ i = 2) then fs else setTop (fun f => { f with k := i, x := 0 }) fs
def kindE (fs : List Fr) (i : Int) : Int := if fs.length = 0 ∨ ¬ (i = 1 ∨ i = 2) then nextErr fs else 0
theorem Q.nextA (h : Q W B b0 b1 S S' p o fs m fs' m') (i : Int) (hi : I64 i) :
    Calls Try.prog 25 #[.pointer (some ⟨S, 0, none⟩), .int .i64 i] W fun e W' => e = .returned (.int .i64 (nextE fs i)) ∧ ∃ p', Q W' B b0 b1 S S' p' o (nextF fs i) m fs' m' ∧ Tr S S' W p W' p' := by
  unfold nextE nextF
  split
  · rename_i hno
    exact (next25_no h.a i hno).mono fun e W' ⟨he, hb⟩ => ⟨he, _, h.below hb, Tr.below hb⟩
  · rename_i hok
    rcases list_cases fs with rfl | ⟨gs, f, rfl⟩
    · exact absurd (.inl rfl) hok
    · rw [setTop_snoc]
      exact (next25_some h.a i (by omega) hi.2).mono fun e W' ⟨he, st, ha⟩ => ⟨he, _, h.stepA st ha (.inl rfl)⟩
theorem Q.nextB (h : Q W B b0 b1 S S' p o fs m fs' m') (i : Int) (hi : I64 i) :
    Calls Try.prog 33 #[.pointer (some ⟨S', 0, none⟩), .int .i64 i] W fun e W' => e = .returned (.int .i64 (nextE fs' i)) ∧ ∃ p', Q W' B b0 b1 S S' p' o fs m (nextF fs' i) m' ∧ Tr S S' W p W' p' := by
  unfold nextE nextF
  split
  · rename_i hno
    exact (next33_no h.b i hno).mono fun e W' ⟨he, hb⟩ => ⟨he, _, h.below hb, Tr.below hb⟩
  · rename_i hok
    rcases list_cases fs' with rfl | ⟨gs, f, rfl⟩
    · exact absurd (.inl rfl) hok
    · rw [setTop_snoc]
      exact (next33_some h.b i (by omega) hi.2).mono fun e W' ⟨he, st, ha⟩ => ⟨he, _, h.stepB st ha (.inl rfl) (.inl rfl)⟩
theorem Q.kindA (h : Q W B b0 b1 S S' p o fs m fs' m') (i : Int) :
    Calls Try.prog 34 #[.pointer (some ⟨S, 0, none⟩), .int .i64 i] W fun e W' => e = .returned (.int .i64 (kindE fs i)) ∧ ∃ p', Q W' B b0 b1 S S' p' o (kindF fs i) m fs' m' ∧ Tr S S' W p W' p' := by
  unfold kindE kindF
  split
  · rename_i hno
    exact (kind34_no h.a i hno).mono fun e W' ⟨he, hb⟩ => ⟨he, _, h.below hb, Tr.below hb⟩
  · rename_i hok
    rcases list_cases fs with rfl | ⟨gs, f, rfl⟩
    · exact absurd (.inl rfl) hok
    · rw [setTop_snoc]
      exact (kind34_some h.a i (Decidable.not_not.1 fun e => hok (.inr e))).mono fun e W' ⟨he, st, ha⟩ => ⟨he, _, h.stepA st ha (.inl rfl)⟩
theorem Q.kindB (h : Q W B b0 b1 S S' p o fs m fs' m') (i : Int) :
    Calls Try.prog 35 #[.pointer (some ⟨S', 0, none⟩), .int .i64 i] W fun e W' => e = .returned (.int .i64 (kindE fs' i)) ∧ ∃ p', Q W' B b0 b1 S S' p' o fs m (kindF fs' i) m' ∧ Tr S S' W p W' p' := by
  unfold kindE kindF
  split
  · rename_i hno
    exact (kind35_no h.b i hno).mono fun e W' ⟨he, hb⟩ => ⟨he, _, h.below hb, Tr.below hb⟩
  · rename_i hok
    rcases list_cases fs' with rfl | ⟨gs, f, rfl⟩
    · exact absurd (.inl rfl) hok
    · rw [setTop_snoc]
      exact (kind35_some h.b i (Decidable.not_not.1 fun e => hok (.inr e))).mono fun e W' ⟨he, st, ha⟩ => ⟨he, _, h.stepB st ha (.inl rfl) (.inl rfl)⟩

theorem Q.topA (h : Q W B b0 b1 S S' p o fs m fs' m') :
    Calls Try.prog 16 #[.pointer (some ⟨S, 0, none⟩)] W fun e W' => e = .returned (.tuple #[frV (topF fs).1, .bool (topF fs).2]) ∧ Q W' B b0 b1 S S' p o fs m fs' m' ∧ Tr S S' W p W' p :=
  (top16 h.a).mono fun e W' ⟨he, hb⟩ => ⟨he, h.below hb, Tr.below hb⟩
theorem Q.topB (h : Q W B b0 b1 S S' p o fs m fs' m') :
    Calls Try.prog 32 #[.pointer (some ⟨S', 0, none⟩)] W fun e W' => e = .returned (.tuple #[frV (topF fs').1, .bool (topF fs').2]) ∧ Q W' B b0 b1 S S' p o fs m fs' m' ∧ Tr S S' W p W' p :=
  (top32 h.b).mono fun e W' ⟨he, hb⟩ => ⟨he, h.below hb, Tr.below hb⟩
theorem Q.hasA (h : Q W B b0 b1 S S' p o fs m fs' m') (r c : Int) (hr : I64 r) (hc : I64 c) :
    Calls Try.prog 12 #[.pointer (some ⟨S, 0, none⟩), .agg #[.int .i64 r, .int .i64 c]] W fun e W' => e = .returned (.bool (pos fs r c).isSome) ∧ Q W' B b0 b1 S S' p o fs m fs' m' ∧ Tr S S' W p W' p :=
  (has12 h.a r c hr hc).mono fun e W' ⟨he, hb⟩ => ⟨he, h.below hb, Tr.below hb⟩
theorem Q.hasB (h : Q W B b0 b1 S S' p o fs m fs' m') (r c : Int) (hr : I64 r) (hc : I64 c) :
    Calls Try.prog 36 #[.pointer (some ⟨S', 0, none⟩), .agg #[.int .i64 r, .int .i64 c]] W fun e W' => e = .returned (.bool (pos fs' r c).isSome) ∧ Q W' B b0 b1 S S' p o fs m fs' m' ∧ Tr S S' W p W' p :=
  (has36 h.b r c hr hc).mono fun e W' ⟨he, hb⟩ => ⟨he, h.below hb, Tr.below hb⟩
theorem Q.heightA (h : Q W B b0 b1 S S' p o fs m fs' m') :
    Calls Try.prog 15 #[.pointer (some ⟨S, 0, none⟩)] W fun e W' => e = .returned (.tuple #[.int .i64 fs.length, .int .i64 m]) ∧ Q W' B b0 b1 S S' p o fs m fs' m' ∧ Tr S S' W p W' p :=
  (height15 h.a).mono fun e W' ⟨he, hb⟩ => ⟨he, h.below hb, Tr.below hb⟩
theorem Q.heightB (h : Q W B b0 b1 S S' p o fs m fs' m') :
    Calls Try.prog 29 #[.pointer (some ⟨S', 0, none⟩)] W fun e W' => e = .returned (.tuple #[.int .i64 fs'.length, .int .i64 m']) ∧ Q W' B b0 b1 S S' p o fs m fs' m' ∧ Tr S S' W p W' p :=
  (heightR29 h.b).mono fun e W' ⟨he, hb⟩ => ⟨he, h.below hb, Tr.below hb⟩
theorem Q.allA (h : Q W B b0 b1 S S' p o fs m fs' m') :
    Calls Try.prog 9 #[.pointer (some ⟨S, 0, none⟩)] W fun e W' => ∃ A n C, e = .returned (.slice A n C) ∧ Lst W' S S' p A n fs ∧ Q W' B b0 b1 S S' p o fs m fs' m' ∧ Tr S S' W p W' p :=
  (all9 h.a).mono fun e W' ⟨v', he, hown, hb⟩ => by
    obtain ⟨A, C, rfl⟩ := row_any hown
    exact ⟨A, _, C, he, lst_new h hb hown, h.below hb, Tr.below hb⟩
theorem Q.allB (h : Q W B b0 b1 S S' p o fs m fs' m') :
    Calls Try.prog 22 #[.pointer (some ⟨S', 0, none⟩)] W fun e W' => ∃ A n C, e = .returned (.slice A n C) ∧ Lst W' S S' p A n fs' ∧ Q W' B b0 b1 S S' p o fs m fs' m' ∧ Tr S S' W p W' p :=
  (allR22 h.b).mono fun e W' ⟨v', he, hown, hb⟩ => by
    obtain ⟨A, C, rfl⟩ := row_any hown
    exact ⟨A, _, C, he, lst_new h hb hown, h.below hb, Tr.below hb⟩
def fromF (fs : List Fr) (r c : Int) : List Fr := match pos fs r c with
  | some j => fs.drop j.toNat
  | none => []
def fromE (fs : List Fr) (r c : Int) : Int := if (pos fs r c).isSome then 0 else 3
theorem lst_nil : Lst W S S' p none 0 [] := ⟨fun i f hi => by simp at hi, rfl, fun a e => by cases e⟩
theorem Q.fromA (h : Q W B b0 b1 S S' p o fs m fs' m') (r c : Int) (hr : I64 r) (hc : I64 c) :
    Calls Try.prog 17 #[.pointer (some ⟨S, 0, none⟩), .agg #[.int .i64 r, .int .i64 c]] W fun e W' => ∃ A n C, e = .returned (.tuple #[.slice A n C, .int .i64 (fromE fs r c)]) ∧ Lst W' S S' p A n (fromF fs r c) ∧ Q W' B b0 b1 S S' p o fs m fs' m' ∧ Tr S S' W p W' p := by
  unfold fromE fromF
  cases e : pos fs r c with
  | none => exact (from17_none h.a r c hr hc e).mono fun e W' ⟨he, hb⟩ => ⟨none, 0, 0, he, lst_nil, h.below hb, Tr.below hb⟩
  | some j =>
    obtain ⟨j', rfl⟩ := Int.eq_ofNat_of_zero_le (pos_le e).1
    refine (from17_some h.a r c hr hc j' e).mono fun e W' ⟨v', he, hown, hb⟩ => ?_
    obtain ⟨A, C, rfl⟩ := row_any hown
    exact ⟨A, _, C, he, lst_new h hb hown, h.below hb, Tr.below hb⟩
theorem Q.fromB (h : Q W B b0 b1 S S' p o fs m fs' m') (r c : Int) (hr : I64 r) (hc : I64 c) :
    Calls Try.prog 37 #[.pointer (some ⟨S', 0, none⟩), .agg #[.int .i64 r, .int .i64 c]] W fun e W' => ∃ A n C, e = .returned (.tuple #[.slice A n C, .int .i64 (fromE fs' r c)]) ∧ Lst W' S S' p A n (fromF fs' r c) ∧ Q W' B b0 b1 S S' p o fs m fs' m' ∧ Tr S S' W p W' p := by
  unfold fromE fromF
  cases e : pos fs' r c with
  | none => exact (from37_none h.b r c hr hc e).mono fun e W' ⟨he, hb⟩ => ⟨none, 0, 0, he, lst_nil, h.below hb, Tr.below hb⟩
  | some j =>
    obtain ⟨j', rfl⟩ := Int.eq_ofNat_of_zero_le (pos_le e).1
    refine (from37_some h.b r c hr hc j' e).mono fun e W' ⟨v', he, hown, hb⟩ => ?_
    obtain ⟨A, C, rfl⟩ := row_any hown
    exact ⟨A, _, C, he, lst_new h hb hown, h.below hb, Tr.below hb⟩
theorem Q.clearA (h : Q W B b0 b1 S S' p o fs m fs' m') :
    Calls Try.prog 14 #[.pointer (some ⟨S, 0, none⟩)] W fun e W' => ∃ A n C p', e = .returned (.slice A n C) ∧ Lst W' S S' p' A n fs ∧ Q W' B b0 b1 S S' p' o [] m fs' m' ∧ Tr S S' W p W' p' :=
  (clear14 h.a).mono fun e W' ⟨he, st, ha, hrow⟩ => by
    have hst := h.stepA st (ha.more (fun k _ hk => by rcases hk with e | e; exact .inl e; exact .inr (.inl e))) (.inr (fun b e => by cases e))
    have hF := h.a
    obtain ⟨A, C, eF⟩ := row_any hrow
    refine ⟨A, _, C, _, he.trans (by rw [eF]), ⟨frs_own (by rw [eF] at hrow; exact hrow), by have := hrow.1; rw [cellsF_len] at this, ?_⟩, hst⟩
    rintro a rfl
    have hb : p.F.ownBlock = some a.block := by rw [eF]; rfl
    refine ⟨Nat.lt_of_lt_of_le (h.a.row.lt _ hb).2 ha.size, fun e => ?_⟩
    rcases e with (e | e | e) | e
    · exact h.a.fS (by rw [hb]; exact congrArg some e)
    · exact h.a.fM (by rw [hb]; exact congrArg some e)
    · cases e
    · exact h.ne _ (.inr (.inr hb)) e
theorem Q.clearB (h : Q W B b0 b1 S S' p o fs m fs' m') :
    Calls Try.prog 23 #[.pointer (some ⟨S', 0, none⟩)] W fun e W' => ∃ A n C p', e = .returned (.slice A n C) ∧ Lst W' S S' p' A n fs' ∧ Q W' B b0 b1 S S' p' o fs m [] m' ∧ Tr S S' W p W' p' :=
  (clear23 h.b).mono fun e W' ⟨v', M', he, hrow, st, hM, hv, ha⟩ => by
    have hst := h.stepB st (ha.more (fun k _ hk => .inl hk)) (.inr hM) (.inr (fun b e => by cases e))
    obtain ⟨A, C, rfl⟩ := row_any hrow
    refine ⟨A, _, C, _, he, ⟨frs_own hrow, by have := hrow.1; rw [cellsF_len] at this, ?_⟩, hst⟩
    rintro a rfl
    have hb := hrow.lt a.block rfl
    refine ⟨hb.2, fun e => ?_⟩
    rcases e with e | (e | e | e)
    · have := (h.a.sx _ e).2; omega
    · have := h.b.lt.1; have : a.block = S' := e; omega
    · exact hv (congrArg some e)
    · cases e
end
end Go.Proofs.Ytfbmfcipaikaoaa
