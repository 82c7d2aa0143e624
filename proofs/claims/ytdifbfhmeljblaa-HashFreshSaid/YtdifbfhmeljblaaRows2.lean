/- Many rows of the call's own, no two of which share memory. -/
import Derived.Test.YtdifbfhmeljblaaTwo
import Derived.Laws.OwnMore
namespace Go.Proofs.Ytdifbfhmeljblaa
set_option linter.unusedVariables false
set_option linter.unusedSimpArgs false
open Go.RowKit

def Apart (v u : Value) : Prop := v.ownBlock = none ∨ v.ownBlock ≠ u.ownBlock
theorem Apart.symm {v u : Value} (h : Apart v u) : Apart u v := by
  unfold Apart at *
  rcases h with h | h
  · rw [h]
    cases hu : u.ownBlock
    · exact .inl rfl
    · exact .inr (by simp)
  · exact .inr (fun e => h e.symm)
structure RowD where
  ty : TypeId
  v : Value
  xs : List Value
def Own (W : World) (B : Nat) (rs : List RowD) : Prop := (∀ r ∈ rs, W.ownsRow B r.ty 1 r.v r.xs.length r.xs) ∧ rs.Pairwise (fun r s => Apart r.v s.v)
theorem grown_of_below {W W' : World} (h : Below W.heap.size W W') : W.grownBy W' none := ⟨h.os, h.tape, h.output, h.size, fun k hk _ => h.block k hk⟩
theorem row_below {w w' : World} {base : Nat} {e : TypeId} {size n : Nat} {v : Value} {xs : List Value} (h : w.ownsRow base e size v n xs) (hb : Below w.heap.size w w') : w'.ownsRow base e size v n xs :=
  h.kept (grown_of_below hb) (by cases v.ownBlock; exact .inl rfl; exact .inr (by simp))
theorem row_any {w : World} {base : Nat} {e : TypeId} {size n : Nat} {v : Value} {xs : List Value} (h : w.ownsRow base e size v n xs) : ∃ ao cap, v = .slice ao n cap := by
  rcases h.2 with ⟨rfl, rfl⟩ | ⟨g, cap, _, rfl, _⟩
  · exact ⟨none, 0, rfl⟩
  · exact ⟨_, cap, rfl⟩
theorem Own.below {W W' : World} {B : Nat} {rs : List RowD} (h : Own W B rs) (hb : Below W.heap.size W W') : Own W' B rs := ⟨fun r hr => row_below (h.1 r hr) hb, h.2⟩
theorem Own.perm {W : World} {B : Nat} {rs rs' : List RowD} (h : Own W B rs) (hp : rs.Perm rs') : Own W B rs' :=
  ⟨fun r hr => h.1 r (hp.mem_iff.2 hr), (hp.pairwise_iff (fun h => h.symm)).1 h.2⟩
theorem Own.nil (W : World) (B : Nat) : Own W B [] := ⟨fun _ h => by simp at h, .nil⟩
theorem Own.cons {W W' : World} {B : Nat} {rs : List RowD} {r : RowD} (h : Own W B rs) (hb : Below W.heap.size W W') (hr : W'.ownsRow W.heap.size r.ty 1 r.v r.xs.length r.xs) (hB : B ≤ W.heap.size) : Own W' B (r :: rs) := by
  refine ⟨fun s hs => ?_, List.pairwise_cons.2 ⟨fun s hs => ?_, h.2⟩⟩
  · rcases List.mem_cons.1 hs with rfl | hs
    · exact own_base hr hB
    · exact row_below (h.1 s hs) hb
  · unfold Apart
    cases e : r.v.ownBlock with
    | none => exact .inl rfl
    | some k =>
      right
      intro e2
      have h1 := (hr.lt k e).1
      have h2 := ((h.1 s hs).lt k e2.symm).2
      omega
/-- A nil row. -/
theorem Own.nilrow {W : World} {B : Nat} {rs : List RowD} (h : Own W B rs) (ty : TypeId) : Own W B (⟨ty, .slice none 0 0, []⟩ :: rs) :=
  ⟨fun s hs => by
    rcases List.mem_cons.1 hs with rfl | hs
    · exact World.ownsRow_nil _ _ _ _
    · exact h.1 s hs, List.pairwise_cons.2 ⟨fun s hs => .inl rfl, h.2⟩⟩
theorem Own.head {W : World} {B : Nat} {rs : List RowD} {r : RowD} (h : Own W B (r :: rs)) : W.ownsRow B r.ty 1 r.v r.xs.length r.xs := h.1 r (by simp)
/-- A row that grew, where the others stay. -/
theorem Own.grow {W W' : World} {B : Nat} {rs : List RowD} {r r' : RowD} (h : Own W B (r :: rs)) (hg : W.grownBy W' r.v.ownBlock) (hr : W'.ownsRow B r'.ty 1 r'.v r'.xs.length r'.xs) (hb : r'.v.ownBlock = r.v.ownBlock ∨ r'.v.ownBlock = some W.heap.size) : Own W' B (r' :: rs) := by
  have hp := List.pairwise_cons.1 h.2
  refine ⟨fun s hs => ?_, List.pairwise_cons.2 ⟨fun s hs => ?_, hp.2⟩⟩
  · rcases List.mem_cons.1 hs with rfl | hs
    · exact hr
    · exact (h.1 s (by simp [hs])).kept hg (hp.1 s hs).symm
  · have h0 := hp.1 s hs
    rcases hb with e | e
    · unfold Apart at *; rwa [e]
    · right
      rw [e]
      intro e2
      have := ((h.1 s (by simp [hs])).lt _ e2.symm).2
      omega
/-- A cell of a row is written. -/
theorem Own.set {W : World} {B g n cap : Nat} {rs : List RowD} {ty : TypeId} {xs : List Value} (h : Own W B (⟨ty, .slice (some ⟨g, 0, none⟩) n cap, xs⟩ :: rs)) (j : Nat) (u : Value) : Own (W.setCell ⟨g, j, none⟩ u) B (⟨ty, .slice (some ⟨g, 0, none⟩) n cap, xs.set j u⟩ :: rs) := by
  have hr : W.ownsRow B ty 1 (.slice (some ⟨g, 0, none⟩) n cap) xs.length xs := h.head
  have hn : n = xs.length := by
    obtain ⟨ao, c, e⟩ := row_any hr
    cases e; rfl
  subst hn
  have hs := World.ownsRow.stored hr j u
  exact h.grow (r' := ⟨ty, .slice (some ⟨g, 0, none⟩) xs.length cap, xs.set j u⟩) hs.2 (by simpa using hs.1) (.inl rfl)
theorem Own.grownBase {W W' : World} {B B' : Nat} {rs : List RowD} {r : RowD} {W0 : World} (h : Own W B (r :: rs)) (hb : Below B' W0 W) (hg : W.grownBy W' r.v.ownBlock) (hB : B' ≤ B) (hB2 : B' ≤ W.heap.size) : Below B' W0 W' :=
  hb.grown hg hB2 (fun k hk => by have := (h.head.lt k hk).1; omega)
theorem Own.mem {W : World} {B : Nat} {rs : List RowD} {r : RowD} (h : Own W B rs) (hr : r ∈ rs) : W.ownsRow B r.ty 1 r.v r.xs.length r.xs := h.1 r hr
/-- A cell of a row that is not empty. -/
theorem Own.cell {W : World} {B : Nat} {rs : List RowD} {r : RowD} (h : Own W B rs) (hr : r ∈ rs) {i : Nat} {u : Value} (hu : r.xs[i]? = some u) : ∃ g cap, r.v = .slice (some ⟨g, 0, none⟩) r.xs.length cap ∧ r.xs.length ≤ cap ∧ W.cell? ⟨g, i, none⟩ = some u := by
  have ho := h.1 r hr
  rcases ho.2 with ⟨_, h0⟩ | ⟨g, cap, cur, hv, _, _, hnc, _⟩
  · have := (List.getElem?_eq_some_iff.1 hu).1
    omega
  · rw [hv] at ho
    exact ⟨g, cap, hv, hnc, by rw [ho.cellAt i (by have := (List.getElem?_eq_some_iff.1 hu).1; omega)]; exact hu⟩

/-- A loud list: written full with one byte. -/
def loudR (p : Value × Nat × Int) : RowD := ⟨5, p.1, List.replicate p.2.1 (.int .u8 p.2.2)⟩
def quietR (p : Value × List Int) : RowD := ⟨5, p.1, u8s p.2⟩
def restR (la : List (Value × Nat × Int)) (qa : List (Value × List Int)) : List RowD := la.map loudR ++ qa.map quietR
def qRow (Q : Value) (qa : List (Value × List Int)) : RowD := ⟨30, Q, qa.map (·.1)⟩
def sRow (S : Value) (qa : List (Value × List Int)) : RowD := ⟨9, S, qa.map fun p => .string (strOfNums p.2)⟩
def lRow (L : Value) (la : List (Value × Nat × Int)) : RowD := ⟨30, L, la.map (·.1)⟩
/-- What the lists hold. -/
def St (W : World) (B : Nat) (L Q S : Value) (la : List (Value × Nat × Int)) (qa : List (Value × List Int)) : Prop := Own W B (lRow L la :: qRow Q qa :: sRow S qa :: restR la qa)
theorem rest_snoc (la : List (Value × Nat × Int)) (qa : List (Value × List Int)) (p : Value × Nat × Int) (q : Value × List Int) : (loudR p :: quietR q :: restR la qa).Perm (restR (la ++ [p]) (qa ++ [q])) := by
  unfold restR
  rw [List.map_append, List.map_append, List.append_assoc]
  have h1 : (la.map loudR ++ loudR p :: (qa.map quietR ++ [quietR q])).Perm (loudR p :: (la.map loudR ++ (qa.map quietR ++ [quietR q]))) := List.perm_middle
  refine List.Perm.trans ?_ h1.symm
  refine List.Perm.cons _ ?_
  rw [← List.append_assoc]
  exact (List.perm_append_singleton _ _).symm
theorem rest_pull (la : List (Value × Nat × Int)) (qa : List (Value × List Int)) {i : Nat} {p : Value × Nat × Int} (h : la[i]? = some p) : (restR la qa).Perm (loudR p :: restR (la.take i ++ la.drop (i + 1)) qa) := by
  have hi := (List.getElem?_eq_some_iff.1 h).1
  have e : la = la.take i ++ p :: la.drop (i + 1) := by
    have : la[i] = p := (List.getElem?_eq_some_iff.1 h).2
    rw [← this, List.getElem_cons_drop, List.take_append_drop]
  unfold restR
  conv => lhs; rw [e]
  rw [List.map_append, List.map_append, List.map_cons, List.append_assoc, List.append_assoc, List.cons_append]
  exact List.perm_middle
theorem set_split {la : List (Value × Nat × Int)} {i : Nat} (hi : i < la.length) (p : Value × Nat × Int) : (la.set i p).take i ++ (la.set i p).drop (i + 1) = la.take i ++ la.drop (i + 1) := by
  rw [List.take_set_of_le (Nat.le_refl _), List.drop_set_of_lt (by omega)]
/-- The i-th loud list ahead of the others. -/
theorem St.pull {W : World} {B : Nat} {L Q S : Value} {la : List (Value × Nat × Int)} {qa : List (Value × List Int)} (h : St W B L Q S la qa) {i : Nat} {p : Value × Nat × Int} (hp : la[i]? = some p) :
    Own W B (loudR p :: lRow L la :: qRow Q qa :: sRow S qa :: restR (la.take i ++ la.drop (i + 1)) qa) := by
  refine Own.perm h ?_
  refine ((((rest_pull la qa hp).cons _).cons _).cons _).trans ?_
  exact ((((List.Perm.swap _ _ _).cons _).cons _).trans ((List.Perm.swap _ _ _).cons _)).trans (List.Perm.swap _ _ _)
theorem St.push {W : World} {B : Nat} {L Q S : Value} {la : List (Value × Nat × Int)} {qa : List (Value × List Int)} {i : Nat} {p : Value × Nat × Int} (hi : i < la.length)
    (h : Own W B (lRow L (la.set i p) :: loudR p :: qRow Q qa :: sRow S qa :: restR (la.take i ++ la.drop (i + 1)) qa)) : St W B L Q S (la.set i p) qa := by
  refine Own.perm h ?_
  have hp : (la.set i p)[i]? = some p := by simp [hi]
  have := (rest_pull (la.set i p) qa hp).symm
  rw [set_split hi] at this
  refine List.Perm.cons _ ?_
  exact ((List.Perm.swap _ _ _).trans ((List.Perm.swap _ _ _).cons _)).trans ((this.cons _).cons _)
end Go.Proofs.Ytdifbfhmeljblaa
