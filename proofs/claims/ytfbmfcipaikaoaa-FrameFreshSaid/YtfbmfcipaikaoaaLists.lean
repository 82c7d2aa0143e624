/- Many rows of the call's own, no two of which share memory, beside two stacks. -/
import Derived.Test.YtfbmfcipaikaoaaMark
namespace Go.Proofs.Ytfbmfcipaikaoaa
set_option linter.unusedVariables false
set_option linter.unusedSimpArgs false
open Go.RowKit Go.Maps

def Apart (v u : Value) : Prop := v.ownBlock = none ∨ v.ownBlock ≠ u.ownBlock
theorem Apart.symm {v u : Value} (h : Apart v u) : Apart u v := by
  unfold Apart at *
  rcases h with h | h
  · rw [h]
    cases hu : u.ownBlock
    · exact .inl rfl
    · exact .inr (by simp)
  · exact .inr (fun e => h e.symm)
theorem Apart.not {v u : Value} (h : Apart v u) {k : Nat} (hv : v.ownBlock = some k) : ¬ u.ownBlock = some k := by
  rcases h with h | h
  · rw [hv] at h; cases h
  · rw [hv] at h; exact fun e => h e.symm
theorem apart_new {v u : Value} {m : Nat} (hv : ∀ k, v.ownBlock = some k → m ≤ k) (hu : ∀ k, u.ownBlock = some k → k < m) : Apart v u := by
  unfold Apart
  cases e : v.ownBlock with
  | none => exact .inl rfl
  | some k => exact .inr (fun e2 => by have := hv k e; have := hu k e2.symm; omega)
structure RowD where
  ty : TypeId
  sz : Nat
  v : Value
  n : Nat
  xs : List Value
def Own (W : World) (B : Nat) (rs : List RowD) : Prop := (∀ r ∈ rs, W.ownsRow B r.ty r.sz r.v r.n r.xs) ∧ rs.Pairwise (fun r s => Apart r.v s.v)
theorem Own.perm {W : World} {B : Nat} {rs rs' : List RowD} (h : Own W B rs) (hp : rs.Perm rs') : Own W B rs' :=
  ⟨fun r hr => h.1 r (hp.mem_iff.2 hr), (hp.pairwise_iff (fun h => h.symm)).1 h.2⟩
theorem Own.apt {X : Nat → Prop} {W W' : World} {B : Nat} {rs : List RowD} (h : Own W B rs) (ha : Apt X W W') (hx : ∀ r ∈ rs, ∀ k, r.v.ownBlock = some k → ¬ X k) : Own W' B rs :=
  ⟨fun r hr => ha.row (h.1 r hr) (hx r hr), h.2⟩
theorem own_raise {w : World} {base base' : Nat} {e : TypeId} {size n : Nat} {v : Value} {xs : List Value} (h : w.ownsRow base e size v n xs) (hb : ∀ k, v.ownBlock = some k → base' ≤ k) : w.ownsRow base' e size v n xs := by
  refine ⟨h.1, ?_⟩
  rcases h.2 with h0 | ⟨g, cap, cur, hv, hg, rest⟩
  · exact .inl h0
  · exact .inr ⟨g, cap, cur, hv, hb g (by rw [hv]; rfl), rest⟩

/-- Two stacks, the second of which is empty, and rows. -/
structure Sta (W0 : World) (B2 : Nat) (W : World) (S M : Nat) (F : Value) (fs : List Fr) (most S' M' most' : Nat) (rs : List RowD) : Prop where
  bl : Below W0.heap.size W0 W
  a : Stk W W0.heap.size S M F fs most
  b : Stk W W0.heap.size S' M' (.slice none 0 0) [] most'
  ne : S ≠ S' ∧ S ≠ M' ∧ M ≠ S' ∧ M ≠ M'
  lo : S < B2 ∧ M < B2 ∧ S' < B2 ∧ M' < B2
  fb : ∀ k, F.ownBlock = some k → B2 ≤ k
  hb : B2 ≤ W.heap.size ∧ W0.heap.size ≤ B2
  own : Own W B2 rs
  ap : ∀ r ∈ rs, Apart F r.v

section
variable {W0 W W' : World} {B2 S M : Nat} {F : Value} {fs : List Fr} {most S' M' most' : Nat} {rs : List RowD}
theorem Sta.low (h : Sta W0 B2 W S M F fs most S' M' most' rs) {r : RowD} (hr : r ∈ rs) {k : Nat} (hk : r.v.ownBlock = some k) : B2 ≤ k ∧ k < W.heap.size := (h.own.1 r hr).lt k hk
theorem Sta.perm {rs' : List RowD} (h : Sta W0 B2 W S M F fs most S' M' most' rs) (hp : rs.Perm rs') : Sta W0 B2 W S M F fs most S' M' most' rs' :=
  ⟨h.bl, h.a, h.b, h.ne, h.lo, h.fb, h.hb, h.own.perm hp, fun r hr => h.ap r (hp.mem_iff.2 hr)⟩
theorem Sta.below (h : Sta W0 B2 W S M F fs most S' M' most' rs) (hb : Below W.heap.size W W') : Sta W0 B2 W' S M F fs most S' M' most' rs :=
  ⟨h.bl.trans (hb.mono h.bl.size), h.a.below hb, h.b.below hb, h.ne, h.lo, h.fb, ⟨Nat.le_trans h.hb.1 hb.size, h.hb.2⟩, h.own.apt (X := fun _ => False) (apt_below hb) (fun _ _ _ _ h => h), h.ap⟩
/-- A new row. -/
theorem Sta.cons {r : RowD} (h : Sta W0 B2 W S M F fs most S' M' most' rs) (hb : Below W.heap.size W W') (hr : W'.ownsRow W.heap.size r.ty r.sz r.v r.n r.xs) : Sta W0 B2 W' S M F fs most S' M' most' (r :: rs) := by
  have h' := h.below hb
  refine ⟨h'.bl, h'.a, h'.b, h'.ne, h'.lo, h'.fb, h'.hb, ⟨fun s hs => ?_, List.pairwise_cons.2 ⟨fun s hs => ?_, h'.own.2⟩⟩, fun s hs => ?_⟩
  · rcases List.mem_cons.1 hs with rfl | hs
    · exact own_base hr h.hb.1
    · exact h'.own.1 s hs
  · exact apart_new (m := W.heap.size) (fun k hk => (hr.lt k hk).1) (fun k hk => (h.low hs hk).2)
  · rcases List.mem_cons.1 hs with rfl | hs
    · exact (apart_new (m := W.heap.size) (fun k hk => (hr.lt k hk).1) (fun k hk => (h.a.row.lt k hk).2)).symm
    · exact h'.ap s hs
/-- A row that shares nothing, since it is nil. -/
theorem Sta.nilrow (h : Sta W0 B2 W S M F fs most S' M' most' rs) (ty : TypeId) (sz : Nat) : Sta W0 B2 W S M F fs most S' M' most' (⟨ty, sz, .slice none 0 0, 0, []⟩ :: rs) :=
  ⟨h.bl, h.a, h.b, h.ne, h.lo, h.fb, h.hb, ⟨fun s hs => by
    rcases List.mem_cons.1 hs with rfl | hs
    · exact World.ownsRow_nil _ _ _ _
    · exact h.own.1 s hs, List.pairwise_cons.2 ⟨fun s hs => .inl rfl, h.own.2⟩⟩, fun s hs => by
    rcases List.mem_cons.1 hs with rfl | hs
    · exact Apart.symm (.inl rfl)
    · exact h.ap s hs⟩
theorem Sta.tail {r : RowD} (h : Sta W0 B2 W S M F fs most S' M' most' (r :: rs)) : Sta W0 B2 W S M F fs most S' M' most' rs :=
  ⟨h.bl, h.a, h.b, h.ne, h.lo, h.fb, h.hb, ⟨fun s hs => h.own.1 s (by simp [hs]), (List.pairwise_cons.1 h.own.2).2⟩, fun s hs => h.ap s (by simp [hs])⟩
/-- A row that grew, or whose cells have turned. -/
theorem Sta.grow {r r' : RowD} (h : Sta W0 B2 W S M F fs most S' M' most' (r :: rs)) (hg : W.grownBy W' r.v.ownBlock) (hr : W'.ownsRow B2 r'.ty r'.sz r'.v r'.n r'.xs)
    (hbk : r'.v.ownBlock = r.v.ownBlock ∨ ∀ b, r'.v.ownBlock = some b → W.heap.size ≤ b) : Sta W0 B2 W' S M F fs most S' M' most' (r' :: rs) := by
  have ha : Apt (fun k => r.v.ownBlock = some k) W W' := (Apt.refl _ W).grown hg (fun k hk => .inl hk)
  have hp := List.pairwise_cons.1 h.own.2
  have hF : Apart F r.v := h.ap r (by simp)
  have hlow : ∀ k, r.v.ownBlock = some k → B2 ≤ k ∧ k < W.heap.size := fun k hk => h.low (by simp) hk
  refine ⟨ha.below h.bl (fun k hk => by have := hlow k hk; have := h.hb.2; omega) h.bl.size, h.a.apt ha ?_, h.b.apt ha ?_, h.ne, h.lo, h.fb, ⟨Nat.le_trans h.hb.1 hg.size, h.hb.2⟩, ⟨fun s hs => ?_, List.pairwise_cons.2 ⟨fun s hs => ?_, hp.2⟩⟩, fun s hs => ?_⟩
  · rintro k (rfl | rfl | hk) e
    · have := hlow _ e; have := h.lo; omega
    · have := hlow _ e; have := h.lo; omega
    · exact hF.not hk e
  · rintro k (rfl | rfl | hk) e
    · have := hlow _ e; have := h.lo; omega
    · have := hlow _ e; have := h.lo; omega
    · cases hk
  · rcases List.mem_cons.1 hs with rfl | hs
    · exact hr
    · exact ha.row (h.own.1 s (by simp [hs])) (fun k hk => (hp.1 s hs).symm.not hk)
  · rcases hbk with e | e
    · have := hp.1 s hs
      unfold Apart at *; rwa [e]
    · exact apart_new e (fun k hk => (h.low (by simp [hs]) hk).2)
  · rcases List.mem_cons.1 hs with rfl | hs
    · rcases hbk with e | e
      · unfold Apart at *; rwa [e]
      · exact (apart_new e (fun k hk => (h.a.row.lt k hk).2)).symm
    · exact h.ap s (by simp [hs])
/-- The first stack has turned. -/
theorem Sta.push {F2 : Value} {fs2 : List Fr} {most2 : Nat} (h : Sta W0 B2 W S M F fs most S' M' most' rs) (ha : Apt (SX S M F) W W') (hst : Stk W' W0.heap.size S M F2 fs2 most2)
    (hF : F2.ownBlock = F.ownBlock ∨ ∀ b, F2.ownBlock = some b → W.heap.size ≤ b) : Sta W0 B2 W' S M F2 fs2 most2 S' M' most' rs := by
  refine ⟨ha.below h.bl (fun k hk => (h.a.sx k hk).1) h.bl.size, hst, h.b.apt ha ?_, h.ne, h.lo, fun k hk => ?_, ⟨Nat.le_trans h.hb.1 ha.size, h.hb.2⟩, h.own.apt ha ?_, fun s hs => ?_⟩
  · rintro k (rfl | rfl | hk) e
    · rcases e with e | e | e
      · exact h.ne.1 e.symm
      · exact h.ne.2.2.1 e.symm
      · have := h.fb _ e; have := h.lo; omega
    · rcases e with e | e | e
      · exact h.ne.2.1 e.symm
      · exact h.ne.2.2.2 e.symm
      · have := h.fb _ e; have := h.lo; omega
    · cases hk
  · rcases hF with e | e
    · rw [e] at hk; exact h.fb k hk
    · have := e k hk; have := h.hb; omega
  · intro r hr k hk e
    have := h.low hr hk
    have := h.lo
    rcases e with e | e | e
    · omega
    · omega
    · exact (h.ap r hr).not e hk
  · rcases hF with e | e
    · have := h.ap s hs
      unfold Apart at *; rwa [e]
    · exact apart_new e (fun k hk => (h.low hs hk).2)
/-- The first stack was emptied: its row is the call's own. -/
theorem Sta.clear (h : Sta W0 B2 W S M F fs most S' M' most' rs) (ha : Apt (fun k => k = S ∨ k = M) W W') (hst : Stk W' W0.heap.size S M (.slice none 0 0) [] most)
    (hr : W'.ownsRow W0.heap.size 36 4 F fs.length (cellsF fs)) : Sta W0 B2 W' S M (.slice none 0 0) [] most S' M' most' (⟨36, 4, F, fs.length, cellsF fs⟩ :: rs) := by
  have h2 := h.push (F2 := .slice none 0 0) (ha.more (fun k _ hk => by rcases hk with e | e; exact .inl e; exact .inr (.inl e))) hst (.inr (fun b e => by cases e))
  refine ⟨h2.bl, h2.a, h2.b, h2.ne, h2.lo, h2.fb, h2.hb, ⟨fun s hs => ?_, List.pairwise_cons.2 ⟨fun s hs => h.ap s hs, h2.own.2⟩⟩, fun s hs => .inl rfl⟩
  rcases List.mem_cons.1 hs with rfl | hs
  · exact own_raise hr h.fb
  · exact h2.own.1 s hs
theorem Sta.swap (h : Sta W0 B2 W S M (.slice none 0 0) [] most S' M' most' rs) : Sta W0 B2 W S' M' (.slice none 0 0) [] most' S M most rs :=
  ⟨h.bl, h.b, h.a, ⟨h.ne.1.symm, h.ne.2.2.1.symm, h.ne.2.1.symm, h.ne.2.2.2.symm⟩, ⟨h.lo.2.2.1, h.lo.2.2.2, h.lo.1, h.lo.2.1⟩, h.fb, h.hb, h.own, h.ap⟩
theorem Sta.mem {r : RowD} (h : Sta W0 B2 W S M F fs most S' M' most' rs) (hr : r ∈ rs) : W.ownsRow B2 r.ty r.sz r.v r.n r.xs := h.own.1 r hr
end

abbrev Hd := Option Addr × Nat × Nat
def hdV (h : Hd) : Value := .slice h.1 h.2.1 h.2.2
def lRow (v : Value) (ms : List Hd) : RowD := ⟨30, 1, v, ms.length, ms.map hdV⟩
def fRow (v : Value) (fs : List Fr) : RowD := ⟨36, 4, v, fs.length, cellsF fs⟩
def mkR (p : Nat) (h : Hd) : RowD := fRow (.slice h.1 (room h.2.1 h.2.2) h.2.2) (zs (room h.2.1 h.2.2) (-((p : Int) + 1)))
def marked (ms : List Hd) : List RowD := ms.mapIdx mkR
def unm (u : Hd × List Fr) : RowD := fRow (hdV u.1) u.2
theorem marked_snoc (ms : List Hd) (h : Hd) : marked (ms ++ [h]) = marked ms ++ [mkR ms.length h] := by simp [marked, List.mapIdx_append]
theorem marked_get {ms : List Hd} {i : Nat} {h : Hd} (hi : ms[i]? = some h) : mkR i h ∈ marked ms := by
  unfold marked
  rw [List.mem_mapIdx]
  obtain ⟨hl, e⟩ := List.getElem?_eq_some_iff.1 hi
  exact ⟨i, hl, by rw [e]⟩

/-- What is pushed, place by place. -/
def pushS (k : Int) (fs : List Fr) (s : Int × Int) : List Fr := if mayS s.1 s.2 = true ∧ (k = 1 ∨ k = 2) ∧ pos fs s.1 s.2 = none then fs ++ [⟨s.1, s.2, k, 0⟩] else fs
def pushAll (k : Int) (ss : List (Int × Int)) : List Fr := ss.foldl (pushS k) []
theorem pushAll_snoc (k : Int) (ss : List (Int × Int)) (s : Int × Int) : pushAll k (ss ++ [s]) = pushS k (pushAll k ss) s := by simp [pushAll, List.foldl_append]
theorem pushAll_take {k : Int} {ss : List (Int × Int)} {i : Nat} {s : Int × Int} (h : ss[i]? = some s) : pushAll k (ss.take (i + 1)) = pushS k (pushAll k (ss.take i)) s := by
  rw [← pushAll_snoc, List.take_add_one, h]
  rfl
theorem pushAll_len (k : Int) (ss : List (Int × Int)) : (pushAll k ss).length ≤ ss.length := by
  have : ∀ (ss : List (Int × Int)) (fs : List Fr), (ss.foldl (pushS k) fs).length ≤ fs.length + ss.length := by
    intro ss
    induction ss with
    | nil => simp
    | cons s ss ih =>
      intro fs
      rw [List.foldl_cons]
      refine Nat.le_trans (ih _) ?_
      unfold pushS
      split <;> simp <;> omega
  have := this ss []
  simpa [pushAll] using this
theorem pos_uq {fs : List Fr} (h : Uq fs) {i : Nat} {f : Fr} (hi : fs[i]? = some f) : pos fs f.r f.c = some (i : Int) := by
  obtain ⟨hl, e⟩ := List.getElem?_eq_some_iff.1 hi
  unfold pos
  rw [Option.map_eq_some_iff]
  refine ⟨i, ?_, rfl⟩
  rw [List.findIdx?_eq_some_iff_getElem]
  refine ⟨hl, by simp [e, At], fun j hj => ?_⟩
  have := List.pairwise_iff_getElem.1 h j i (by omega) hl hj
  rw [e] at this
  simpa using this
end Go.Proofs.Ytfbmfcipaikaoaa
