/- A stack and the document's, rows of the call's own, and lists that are only read. -/
import Derived.Test.YtfbmfcipaikaoaaTwoP
import Derived.Test.YtfbmfcipaikaoaaLists
import Derived.Deep.AppendLies
namespace Go.Proofs.Ytfbmfcipaikaoaa
set_option linter.unusedVariables false
set_option linter.unusedSimpArgs false
open Go.RowKit Go.Maps

abbrev RoL := Hd × List Fr
structure Fx (W0 W : World) (Pb S S' : Nat) (p : PD) (fs : List Fr) (m : Nat) (fs' : List Fr) (m' : Nat) (rs : List RowD) (qs : List RoL) : Prop where
  bl : Below W0.heap.size W0 W
  a : Stk W W0.heap.size S p.M p.F fs m
  b : StkR W W0.heap.size S' p.M' p.F' fs' m'
  ne : ∀ k, SX S p.M p.F k → ¬ SX S' p.M' p.F' k
  rz : W.heap[Pb]? = some (.cells #[.pointer (some ⟨S, 0, none⟩), .pointer (some ⟨S', 0, none⟩)] 53 (0, 0))
  nz : ¬ PX S S' p Pb
  own : Own W W0.heap.size rs
  ap : ∀ r ∈ rs, ∀ k, r.v.ownBlock = some k → ¬ PX S S' p k ∧ k ≠ Pb
  ro : ∀ x ∈ qs, Lst W S S' p x.1.1 x.1.2.1 x.2 ∧ ∀ a, x.1.1 = some a → ∀ r ∈ rs, r.v.ownBlock ≠ some a.block
section
variable {W0 W W1 : World} {Pb S S' : Nat} {p p1 : PD} {fs fs' fs1 fs1' : List Fr} {m m' m1 m1' : Nat} {rs rs' : List RowD} {qs qs' : List RoL}
theorem trA {F1 : Value} (ha : Apt (SX S p.M p.F) W W1) (hF : F1.ownBlock = p.F.ownBlock ∨ ∀ b, F1.ownBlock = some b → W.heap.size ≤ b) : Tr S S' W p W1 { p with F := F1 } :=
  ⟨ha.more (fun k _ e => .inl e), fun k hk => by
    rcases hk with (e | e | e) | e
    · exact .inl (.inl (.inl e))
    · exact .inl (.inl (.inr (.inl e)))
    · rcases hF with e2 | e2
      · exact .inl (.inl (.inr (.inr (e2.symm.trans e))))
      · exact .inr (e2 k e)
    · exact .inl (.inr e)⟩
theorem trB {M1 : Nat} {F1 : Value} (ha : Apt (SX S' p.M' p.F') W W1) (hM : M1 = p.M' ∨ W.heap.size ≤ M1) (hF : F1.ownBlock = p.F'.ownBlock ∨ ∀ b, F1.ownBlock = some b → W.heap.size ≤ b) : Tr S S' W p W1 { p with M' := M1, F' := F1 } :=
  ⟨ha.more (fun k _ e => .inr e), fun k hk => by
    rcases hk with e | (e | e | e)
    · exact .inl (.inl e)
    · exact .inl (.inr (.inl e))
    · rcases hM with e2 | e2
      · exact .inl (.inr (.inr (.inl (e.trans e2))))
      · exact .inr (by have e' : k = M1 := e; omega)
    · rcases hF with e2 | e2
      · exact .inl (.inr (.inr (.inr (e2.symm.trans e))))
      · exact .inr (e2 k e)⟩
theorem Fx.px (h : Fx W0 W Pb S S' p fs m fs' m' rs qs) : ∀ k, PX S S' p k → W0.heap.size ≤ k ∧ k < W.heap.size := fun k hk => by
  rcases hk with hk | hk
  · exact h.a.sx k hk
  · exact h.b.sx k hk
theorem Fx.low (h : Fx W0 W Pb S S' p fs m fs' m' rs qs) {r : RowD} (hr : r ∈ rs) {k : Nat} (hk : r.v.ownBlock = some k) : W0.heap.size ≤ k ∧ k < W.heap.size := (h.own.1 r hr).lt k hk
theorem Fx.tr (h : Fx W0 W Pb S S' p fs m fs' m' rs qs) (t : Tr S S' W p W1 p1) (ha : Stk W1 W0.heap.size S p1.M p1.F fs1 m1) (hb : StkR W1 W0.heap.size S' p1.M' p1.F' fs1' m1') (hne : ∀ k, SX S p1.M p1.F k → ¬ SX S' p1.M' p1.F' k) :
    Fx W0 W1 Pb S S' p1 fs1 m1 fs1' m1' rs qs := by
  have hz := (Array.getElem?_eq_some_iff.1 h.rz).1
  refine ⟨Tr.belowB h.bl t (fun k hk => (h.px k hk).1) h.bl.size, ha, hb, hne, (t.ap.block Pb hz h.nz).trans h.rz, fun e => ?_, h.own.apt t.ap (fun r hr k hk => (h.ap r hr k hk).1), fun r hr k hk => ⟨fun e => ?_, (h.ap r hr k hk).2⟩, fun x hx => ⟨(h.ro x hx).1.tr t, (h.ro x hx).2⟩⟩
  · rcases t.nw _ e with e | e
    · exact h.nz e
    · omega
  · rcases t.nw _ e with e | e
    · exact (h.ap r hr k hk).1 e
    · have := (h.low hr hk).2; omega
theorem Fx.below (h : Fx W0 W Pb S S' p fs m fs' m' rs qs) (hb : Below W.heap.size W W1) : Fx W0 W1 Pb S S' p fs m fs' m' rs qs :=
  h.tr (Tr.below hb) (h.a.below hb) (h.b.below hb) h.ne
theorem Fx.pr (h : Fx W0 W Pb S S' p fs m fs m rs qs) : Pr W W0.heap.size S S' p fs m := ⟨h.a, h.b, h.ne⟩
theorem Fx.play (h : Fx W0 W Pb S S' p fs m fs m rs qs) (t : Tr S S' W p W1 p1) (hp : Pr W1 W0.heap.size S S' p1 fs1 m1) : Fx W0 W1 Pb S S' p1 fs1 m1 fs1 m1 rs qs := h.tr t hp.a hp.b hp.ne
theorem Fx.perm (h : Fx W0 W Pb S S' p fs m fs' m' rs qs) (hp : rs.Perm rs') : Fx W0 W Pb S S' p fs m fs' m' rs' qs :=
  ⟨h.bl, h.a, h.b, h.ne, h.rz, h.nz, h.own.perm hp, fun r hr => h.ap r (hp.mem_iff.2 hr), fun x hx => ⟨(h.ro x hx).1, fun a ha r hr => (h.ro x hx).2 a ha r (hp.mem_iff.2 hr)⟩⟩
theorem Fx.rosub (h : Fx W0 W Pb S S' p fs m fs' m' rs qs) (hs : ∀ x ∈ qs', x ∈ qs) : Fx W0 W Pb S S' p fs m fs' m' rs qs' :=
  ⟨h.bl, h.a, h.b, h.ne, h.rz, h.nz, h.own, h.ap, fun x hx => h.ro x (hs x hx)⟩
theorem Fx.tail {r : RowD} (h : Fx W0 W Pb S S' p fs m fs' m' (r :: rs) qs) : Fx W0 W Pb S S' p fs m fs' m' rs qs :=
  ⟨h.bl, h.a, h.b, h.ne, h.rz, h.nz, ⟨fun s hs => h.own.1 s (by simp [hs]), (List.pairwise_cons.1 h.own.2).2⟩, fun s hs => h.ap s (by simp [hs]), fun x hx => ⟨(h.ro x hx).1, fun a ha s hs => (h.ro x hx).2 a ha s (by simp [hs])⟩⟩
/-- A new row. -/
theorem Fx.cons {r : RowD} (h : Fx W0 W Pb S S' p fs m fs' m' rs qs) (hb : Below W.heap.size W W1) (hr : W1.ownsRow W.heap.size r.ty r.sz r.v r.n r.xs) : Fx W0 W1 Pb S S' p fs m fs' m' (r :: rs) qs := by
  have h' := h.below hb
  have hz := (Array.getElem?_eq_some_iff.1 h.rz).1
  refine ⟨h'.bl, h'.a, h'.b, h'.ne, h'.rz, h'.nz, ⟨fun s hs => ?_, List.pairwise_cons.2 ⟨fun s hs => ?_, h'.own.2⟩⟩, fun s hs k hk => ?_, fun x hx => ⟨(h'.ro x hx).1, fun a ha s hs => ?_⟩⟩
  · rcases List.mem_cons.1 hs with rfl | hs
    · exact own_base hr h.bl.size
    · exact h'.own.1 s hs
  · exact apart_new (m := W.heap.size) (fun k hk => (hr.lt k hk).1) (fun k hk => (h.low hs hk).2)
  · rcases List.mem_cons.1 hs with rfl | hs
    · have := (hr.lt k hk).1
      exact ⟨fun e => by have := (h.px k e).2; omega, by omega⟩
    · exact h'.ap s hs k hk
  · rcases List.mem_cons.1 hs with rfl | hs
    · intro e
      have := (hr.lt _ e).1
      have := ((h.ro x hx).1.far a ha).1
      omega
    · exact (h'.ro x hx).2 a ha s hs
/-- A row that shares nothing, since it is nil. -/
theorem Fx.nilrow (h : Fx W0 W Pb S S' p fs m fs' m' rs qs) (ty : TypeId) (sz : Nat) : Fx W0 W Pb S S' p fs m fs' m' (⟨ty, sz, .slice none 0 0, 0, []⟩ :: rs) qs :=
  h.cons (r := ⟨ty, sz, .slice none 0 0, 0, []⟩) (Below.refl _ _) (World.ownsRow_nil _ _ _ _)
/-- A row that grew, or whose cells have turned. -/
theorem Fx.grow {r r' : RowD} (h : Fx W0 W Pb S S' p fs m fs' m' (r :: rs) qs) (hg : W.grownBy W1 r.v.ownBlock) (hr : W1.ownsRow W0.heap.size r'.ty r'.sz r'.v r'.n r'.xs)
    (hbk : r'.v.ownBlock = r.v.ownBlock ∨ ∀ b, r'.v.ownBlock = some b → W.heap.size ≤ b) : Fx W0 W1 Pb S S' p fs m fs' m' (r' :: rs) qs := by
  have ha : Apt (fun k => r.v.ownBlock = some k) W W1 := (Apt.refl _ W).grown hg (fun k hk => .inl hk)
  have hp := List.pairwise_cons.1 h.own.2
  have hz := (Array.getElem?_eq_some_iff.1 h.rz).1
  have hlow : ∀ k, r.v.ownBlock = some k → W0.heap.size ≤ k ∧ k < W.heap.size := fun k hk => h.low (by simp) hk
  have hap : ∀ k, r.v.ownBlock = some k → ¬ PX S S' p k ∧ k ≠ Pb := fun k hk => h.ap r (by simp) k hk
  refine ⟨ha.below h.bl (fun k hk => (hlow k hk).1) h.bl.size, h.a.apt ha (fun k hk e => (hap k e).1 (.inl hk)), h.b.apt ha (fun k hk e => (hap k e).1 (.inr hk)), h.ne, (ha.block Pb hz (fun e => (hap _ e).2 rfl)).trans h.rz, h.nz, ⟨fun s hs => ?_, List.pairwise_cons.2 ⟨fun s hs => ?_, hp.2⟩⟩, fun s hs k hk => ?_, fun x hx => ⟨⟨?_, (h.ro x hx).1.len, fun a hax => ?_⟩, fun a hax s hs => ?_⟩⟩
  · rcases List.mem_cons.1 hs with rfl | hs
    · exact hr
    · exact ha.row (h.own.1 s (by simp [hs])) (fun k hk => (hp.1 s hs).symm.not hk)
  · rcases hbk with e | e
    · have := hp.1 s hs
      unfold Apart at *; rwa [e]
    · exact apart_new e (fun k hk => (h.low (by simp [hs]) hk).2)
  · rcases List.mem_cons.1 hs with rfl | hs
    · rcases hbk with e | e
      · exact hap k (e ▸ hk)
      · have := e k hk
        exact ⟨fun e => by have := (h.px k e).2; omega, by omega⟩
    · exact h.ap s (by simp [hs]) k hk
  · intro i f hi
    obtain ⟨b, off, e, hl, h0, h1, h2, h3⟩ := (h.ro x hx).1.at_ i f hi
    have hb := ha.block b hl (fun e2 => (h.ro x hx).2 _ e r (by simp) e2)
    have hc : ∀ q : Nat, W1.cell? ⟨b, q, none⟩ = W.cell? ⟨b, q, none⟩ := fun q => by unfold World.cell?; rw [hb]
    exact ⟨b, off, e, Nat.lt_of_lt_of_le hl ha.size, (hc _).trans h0, (hc _).trans h1, (hc _).trans h2, (hc _).trans h3⟩
  · exact ⟨Nat.lt_of_lt_of_le ((h.ro x hx).1.far a hax).1 ha.size, ((h.ro x hx).1.far a hax).2⟩
  · rcases List.mem_cons.1 hs with rfl | hs
    · rcases hbk with e | e
      · rw [e]; exact (h.ro x hx).2 a hax r (by simp)
      · intro e2
        have := e _ e2
        have := ((h.ro x hx).1.far a hax).1
        omega
    · exact (h.ro x hx).2 a hax s (by simp [hs])
theorem Fx.mem {r : RowD} (h : Fx W0 W Pb S S' p fs m fs' m' rs qs) (hr : r ∈ rs) : W.ownsRow W0.heap.size r.ty r.sz r.v r.n r.xs := h.own.1 r hr
/-- A row becomes a list that is only read. -/
theorem Fx.toro {A : Option Addr} {n cap : Nat} {gs : List Fr} (h : Fx W0 W Pb S S' p fs m fs' m' (fRow (.slice A n cap) gs :: rs) qs) (hn : n = gs.length) : Fx W0 W Pb S S' p fs m fs' m' rs (((A, n, cap), gs) :: qs) := by
  subst hn
  have hp := List.pairwise_cons.1 h.own.2
  have hrow : W.ownsRow W0.heap.size 36 4 (.slice A gs.length cap) gs.length (cellsF gs) := h.mem (r := fRow (.slice A gs.length cap) gs) (by simp)
  have h2 := h.tail
  refine ⟨h2.bl, h2.a, h2.b, h2.ne, h2.rz, h2.nz, h2.own, h2.ap, fun x hx => ?_⟩
  rcases List.mem_cons.1 hx with rfl | hx
  · have hob : ∀ a, A = some a → (fRow (.slice A gs.length cap) gs).v.ownBlock = some a.block := fun a e => by subst e; rfl
    refine ⟨⟨frs_own hrow, rfl, fun a e => ⟨(hrow.lt _ (hob a e)).2, (h.ap _ (by simp) _ (hob a e)).1⟩⟩, fun a e s hs => ?_⟩
    exact (hp.1 s hs).not (hob a e)
  · exact h2.ro x hx
/-- A part of a list that is only read. -/
theorem Fx.rodrop {b off n cap : Nat} {gs : List Fr} (h : Fx W0 W Pb S S' p fs m fs' m' rs qs) (hx : ((some ⟨b, off, none⟩, n, cap), gs) ∈ qs) (k : Nat) : Fx W0 W Pb S S' p fs m fs' m' rs (((some ⟨b, off + k * 4, none⟩, n - k, cap - k), gs.drop k) :: qs) := by
  refine ⟨h.bl, h.a, h.b, h.ne, h.rz, h.nz, h.own, h.ap, fun x hx' => ?_⟩
  rcases List.mem_cons.1 hx' with rfl | hx'
  · obtain ⟨hl, hr⟩ := h.ro _ hx
    refine ⟨⟨FrsAt.drop hl.at_ k, by have := hl.len; simp at this ⊢; omega, fun a e => ?_⟩, fun a e s hs => ?_⟩
    · cases e; exact hl.far ⟨b, off, none⟩ rfl
    · cases e; exact hr ⟨b, off, none⟩ rfl s hs
  · exact h.ro x hx'
/-- The first stack is cleared: its row is the call's own. -/
theorem Fx.clearA {n cap : Nat} {A : Option Addr} (h : Fx W0 W Pb S S' p fs m fs' m' rs qs) (hF : p.F = .slice A n cap) (hst : Stk W1 W0.heap.size S p.M (.slice none 0 0) [] m) (ha : Apt (fun k => k = S ∨ k = p.M) W W1) (hr : W1.ownsRow W0.heap.size 36 4 p.F fs.length (cellsF fs)) :
    Fx W0 W1 Pb S S' { p with F := .slice none 0 0 } [] m fs' m' (fRow (.slice A n cap) fs :: rs) qs ∧ n = fs.length := by
  have ha' : Apt (SX S p.M p.F) W W1 := ha.more (fun k _ hk => by rcases hk with e | e; exact .inl e; exact .inr (.inl e))
  have t : Tr S S' W p W1 { p with F := .slice none 0 0 } := trA ha' (.inr (fun b e => by cases e))
  have h1 : Fx W0 W1 Pb S S' { p with F := .slice none 0 0 } [] m fs' m' rs qs := h.tr t hst (h.b.apt ha' (fun k hk hx => h.ne k hx hk)) (fun k hk hk' => by
    rcases hk with e | e | e
    · exact h.ne k (.inl e) hk'
    · exact h.ne k (.inr (.inl e)) hk'
    · cases e)
  rw [hF] at hr
  have hob : ∀ k, (fRow (.slice A n cap) fs).v.ownBlock = some k → p.F.ownBlock = some k := fun k e => by rw [hF]; exact e
  have hn : n = fs.length := by
    have h0 := h.a.row
    rw [hF] at h0
    obtain ⟨_, _, e⟩ := row_any h0
    cases e
    rfl
  refine ⟨⟨h1.bl, h1.a, h1.b, h1.ne, h1.rz, h1.nz, ⟨fun s hs => ?_, List.pairwise_cons.2 ⟨fun s hs => ?_, h1.own.2⟩⟩, fun s hs k hk => ?_, fun x hx => ⟨(h1.ro x hx).1, fun a hax s hs => ?_⟩⟩, hn⟩
  · rcases List.mem_cons.1 hs with rfl | hs
    · exact hr
    · exact h1.own.1 s hs
  · unfold Apart
    cases e : (fRow (.slice A n cap) fs).v.ownBlock with
    | none => exact .inl rfl
    | some k => exact .inr (fun e2 => (h.ap s hs k e2.symm).1 (.inl (.inr (.inr (hob k e)))))
  · rcases List.mem_cons.1 hs with rfl | hs
    · have hk' := hob k hk
      refine ⟨fun e => ?_, fun e => h.nz (.inl (.inr (.inr (e ▸ hk'))))⟩
      rcases e with (e | e | e) | e
      · exact h.a.fS (e ▸ hk')
      · exact h.a.fM (e ▸ hk')
      · cases e
      · exact h.ne k (.inr (.inr hk')) e
    · exact h1.ap s hs k hk
  · rcases List.mem_cons.1 hs with rfl | hs
    · intro e
      exact ((h.ro x hx).1.far a hax).2 (.inl (.inr (.inr (hob _ e))))
    · exact (h1.ro x hx).2 a hax s hs
theorem Fx.clearB {M1 : Nat} (h : Fx W0 W Pb S S' p fs m fs' m' rs qs) (hst : StkR W1 W0.heap.size S' M1 (.slice none 0 0) [] m') (ha : Apt (fun k => k = S') W W1) (hM : W.heap.size ≤ M1) :
    Fx W0 W1 Pb S S' { p with M' := M1, F' := .slice none 0 0 } fs m [] m' rs qs := by
  have ha' : Apt (SX S' p.M' p.F') W W1 := ha.more (fun k _ hk => .inl hk)
  refine h.tr (trB ha' (.inr hM) (.inr (fun b e => by cases e))) (h.a.apt ha' (fun k hk hx => h.ne k hk hx)) hst (fun k hk hk' => ?_)
  rcases hk' with e | e | e
  · exact h.ne k hk (.inl e)
  · have e' : k = M1 := e; have := (h.a.sx k hk).2; omega
  · cases e
end
/-- A loud list: written over with its number. -/
def mkL (i : Nat) (h : Hd) : RowD := fRow (hdV h) (zs h.2.1 (-((i : Int) + 1)))
def louds (ms : List Hd) : List RowD := ms.mapIdx mkL
theorem louds_snoc (ms : List Hd) (h : Hd) : louds (ms ++ [h]) = louds ms ++ [mkL ms.length h] := by simp [louds, List.mapIdx_append]
/-- A quiet list, what it was to be, and what they hold. -/
structure Qu where
  q : Hd
  w : Hd
  fs : List Fr
def roz (zs : List Qu) : List RoL := zs.map (fun z => (z.q, z.fs)) ++ zs.map (fun z => (z.w, z.fs))
theorem roz_q {l : List Qu} {z : Qu} (h : z ∈ l) : (z.q, z.fs) ∈ roz l := List.mem_append_left _ (List.mem_map.2 ⟨z, h, rfl⟩)
theorem roz_w {l : List Qu} {z : Qu} (h : z ∈ l) : (z.w, z.fs) ∈ roz l := List.mem_append_right _ (List.mem_map.2 ⟨z, h, rfl⟩)
theorem roz_snoc (l : List Qu) (z : Qu) : ∀ x ∈ roz (l ++ [z]), x ∈ (z.q, z.fs) :: (z.w, z.fs) :: roz l := by
  intro x hx
  simp [roz] at hx ⊢
  rcases hx with ⟨a, h, rfl⟩ | rfl | ⟨a, h, rfl⟩ | rfl
  · exact .inr (.inr (.inl ⟨a, h, rfl⟩))
  · exact .inl rfl
  · exact .inr (.inr (.inr ⟨a, h, rfl⟩))
  · exact .inr (.inl rfl)
theorem cell_new0F (w : World) (v : Value) (t : TypeId) : (w.alloc (.cells #[v] t)).cell? ⟨w.heap.size, 0, none⟩ = some v := by
  rw [cell_of_row _ _ _ _ _ _ (heap_alloc_new w (.cells #[v] t))]
  rfl
theorem info30F : (Try.prog.info? 30).map (fun i => (i.zero, i.size, i.bytes)) = some (some (.slice none 0 0), 1, 24) := by kernel_rfl
/-- A list goes to the list of lists. -/
theorem wpList_appF {ops : Array Oper} {rest : List Oper} {o : Oper} {a : Act} {Q : Exit → Act → World → Prop} {W0 W : World} {Pb S S' : Nat} {p : PD} {fs fs' : List Fr} {m m' : Nat} {rs : List RowD} {qs : List RoL} {v : Value} {ms : List Hd}
    (hgd : o.guard = none) (s x : Operand) (ho : o.op = .call { callee := .builtin .append, args := #[s, x], argTypes := #[46, 46] })
    (hs : Fx W0 W Pb S S' p fs m fs' m' (lRow v ms :: rs) qs) (hv : a.eval s = v) (X : Nat) (h : Hd) (hx : a.eval x = .slice (some ⟨X, 0, none⟩) 1 1) (hX : W.cell? ⟨X, 0, none⟩ = some (hdV h)) (hm : ms.length ≤ 1000)
    (hk : ∀ g cap w', Fx W0 w' Pb S S' p fs m fs' m' (lRow (.slice (some ⟨g, 0, none⟩) (ms.length + 1) cap) (ms ++ [h]) :: rs) qs → wpList Try.prog ops Q rest (a.put o.dst (.slice (some ⟨g, 0, none⟩) (ms.length + 1) cap)) w') : wpList Try.prog ops Q (o :: rest) a W := by
  obtain ⟨i1, hi, hz0, hz1, hz2⟩ := info_parts info30F
  refine wpList_append_lies W hgd s x 46 ho W0.heap.size 30 i1 (.slice none 0 0) 1 24 Try.underlying46 hi hz0 hz1 hz2 rfl (by decide) v ms.length (ms.map hdV) hv (hs.mem (r := lRow v ms) (by simp)) ⟨X, 0, none⟩ 1 1 [hdV h] hx rfl (fun j u hu => ?_) (fun u hu => ?_) (by decide) (by unfold maxLen; omega) (by omega) hs.bl.size _ rfl ?_
  · cases j with
    | zero => cases hu; rw [Addr.add_lit]; exact hX
    | succ j => cases hu
  · simp at hu; subst hu; rfl
  · intro g cap w' hown hgrow hat hlt
    refine hk g cap w' (hs.grow (r' := lRow (.slice (some ⟨g, 0, none⟩) (ms.length + 1) cap) (ms ++ [h])) hgrow ?_ ?_)
    · simpa [lRow] using hown
    · rcases hat with e | e
      · exact .inl e.symm
      · exact .inr (fun b hb => by have : some g = some b := hb
                                   cases this; omega)
theorem slice_lo (A : Option Addr) (n c h : Nat) (X : Int) (hX : X = (h : Int)) (hn : h ≤ n) (w : World) : (Instr.slice 30 (.slice A n c) (some (.int .i64 X)) none none).run Try.prog w = .ok (.slice (if c = h then A else A.map (·.add (h * 4))) (n - h) (c - h)) w := by
  subst hX
  rw [run_slice_l (P := Try.prog) (w := w) (t := 30) (a := A) (len := n) (cap := c) Try.underlying30 .i64 (h : Int) (by omega) (by omega)]
  have e : (sizeOf (Try.prog.elem 30)).run Try.prog w = .ok 4 w := by
    simp [go_sem, Program.elem, Try.underlying30]
  rw [e]
  simp [Result.andThen, sliced]
theorem add_block (a : Addr) (k : Nat) : (a.add k).block = a.block := by unfold Addr.add; split <;> rfl
theorem Fx.robeh {W0 W : World} {Pb S S' : Nat} {p : PD} {fs fs' : List Fr} {m m' : Nat} {rs : List RowD} {qs : List RoL} {A : Option Addr} {n cap : Nat} {gs : List Fr} (h : Fx W0 W Pb S S' p fs m fs' m' rs qs) (hx : ((A, n, cap), gs) ∈ qs) (k : Nat) (hk : k ≤ n) (hc : n ≤ cap) :
    Fx W0 W Pb S S' p fs m fs' m' rs (((if cap = k then A else A.map (·.add (k * 4)), n - k, cap - k), gs.drop k) :: qs) := by
  refine ⟨h.bl, h.a, h.b, h.ne, h.rz, h.nz, h.own, h.ap, fun x hx' => ?_⟩
  rcases List.mem_cons.1 hx' with rfl | hx'
  · obtain ⟨hl, hr⟩ := h.ro _ hx
    have hlen : n = gs.length := hl.len
    by_cases e : cap = k
    · simp only [if_pos e]
      refine ⟨⟨fun i f hi => ?_, by simp; omega, hl.far⟩, hr⟩
      rw [List.drop_eq_nil_of_le (by omega)] at hi
      cases hi
    · simp only [if_neg e]
      refine ⟨⟨fun i f hi => ?_, by simp; omega, fun a ea => ?_⟩, fun a ea s hs => ?_⟩
      · rw [List.getElem?_drop] at hi
        obtain ⟨b, off, e2, hlt, h0, h1, h2, h3⟩ := hl.at_ (k + i) f hi
        have e3 : A = some ⟨b, off, none⟩ := e2
        subst e3
        refine ⟨b, off + k * 4, by simp [Addr.add_lit], hlt, ?_, ?_, ?_, ?_⟩
        · rw [show off + k * 4 + i * 4 = off + (k + i) * 4 by omega]; exact h0
        · rw [show off + k * 4 + i * 4 + 1 = off + (k + i) * 4 + 1 by omega]; exact h1
        · rw [show off + k * 4 + i * 4 + 2 = off + (k + i) * 4 + 2 by omega]; exact h2
        · rw [show off + k * 4 + i * 4 + 3 = off + (k + i) * 4 + 3 by omega]; exact h3
      · obtain ⟨a', rfl, rfl⟩ := Option.map_eq_some_iff.1 ea
        rw [add_block]; exact hl.far a' rfl
      · obtain ⟨a', rfl, rfl⟩ := Option.map_eq_some_iff.1 ea
        rw [add_block]; exact hr a' rfl s hs
  · exact h.ro x hx'
theorem own_capF {w : World} {base n cap : Nat} {e : TypeId} {size : Nat} {A : Option Addr} {xs : List Value} (h : w.ownsRow base e size (.slice A n cap) n xs) : n ≤ cap ∧ cap ≤ 9223372036854775807 := by
  rcases h.2 with ⟨e, h0⟩ | ⟨g, c, cur, e, _, _, hc, hm, _⟩
  · cases e; exact ⟨Nat.le_refl _, by omega⟩
  · cases e; unfold maxLen at hm; exact ⟨hc, by omega⟩
def clB (ok : Int) (q : Nat) : Bool := decide (ok = 10 ∧ q = 1)
theorem clB_cases (ok : Int) (q : Nat) : ((ok == 10) = true ∧ ((q : Int) == 1) = true ∧ clB ok q = true) ∨ ((ok == 10) = true ∧ ((q : Int) == 1) = false ∧ clB ok q = false) ∨ ((ok == 10) = false ∧ clB ok q = false) := by
  unfold clB
  by_cases h1 : ok = 10
  · by_cases h2 : q = 1
    · exact .inl ⟨by rw [h1]; rfl, by rw [h2]; rfl, by simp [h1, h2]⟩
    · exact .inr (.inl ⟨by rw [h1]; rfl, beq_eq_false_iff_ne.2 (fun e => h2 (by omega)), by simp [h2]⟩)
  · exact .inr (.inr ⟨beq_eq_false_iff_ne.2 h1, by simp [h1]⟩)
theorem clB_true {ok : Int} {q : Nat} (h : clB ok q = true) : ok = 10 ∧ q = 1 := by unfold clB at h; simpa using h
theorem permL (g l : RowD) (X K : List RowD) : (g :: (X ++ l :: K)).Perm (l :: g :: (X ++ K)) := List.perm_middle (l₁ := g :: X)
theorem permQ (g l q : RowD) (X K : List RowD) : (g :: (X ++ l :: q :: K)).Perm (q :: g :: (X ++ l :: K)) := by
  have := List.perm_middle (l₁ := g :: (X ++ [l])) (a := q) (l₂ := K)
  simpa using this
theorem permW (g l q v : RowD) (X K : List RowD) : (g :: (X ++ l :: q :: v :: K)).Perm (v :: g :: (X ++ l :: q :: K)) := by
  have := List.perm_middle (l₁ := g :: (X ++ [l, q])) (a := v) (l₂ := K)
  simpa using this
theorem perm_markF (g m l f : RowD) (X K : List RowD) : (m :: l :: g :: (X ++ f :: K)).Perm (g :: (X ++ l :: f :: (K ++ [m]))) := by
  refine List.Perm.symm ?_
  have h1 : (g :: (X ++ l :: f :: (K ++ [m]))).Perm (l :: (g :: X ++ (f :: K ++ [m]))) := List.perm_middle (l₁ := g :: X)
  refine h1.trans ?_
  refine List.Perm.trans ?_ (List.Perm.swap _ _ _)
  refine List.Perm.cons _ ?_
  rw [← List.append_assoc]
  exact List.perm_append_singleton _ _
theorem neg_wrapF (n : Nat) (h : n ≤ 1000) : wrap64 (-((n : Int) + 1)) = -((n : Int) + 1) := by unfold wrap64; omega
/-- The rows that stay. -/
abbrev bas (L Qv Wv : Value) (ms : List Hd) (l : List Qu) : List RowD := lRow L ms :: lRow Qv (l.map (·.q)) :: lRow Wv (l.map (·.w)) :: louds ms
def wantJ (fs : List Fr) (j : Nat) : List Fr := if j = 1 then fs.drop (fs.length / 2) else fs
/-- The lists that are told at a time. -/
def Told (fs : List Fr) (us : List (Hd × List Fr)) : Prop := ∀ j u, us[j]? = some u → u.1.2.1 = u.2.length ∧ u.2 = wantJ fs j
theorem wantJ_len (fs : List Fr) (j : Nat) : (wantJ fs j).length ≤ fs.length := by unfold wantJ; split <;> simp
theorem wantJ_ne (fs : List Fr) {j : Nat} (h : j ≠ 1) : wantJ fs j = fs := if_neg h
theorem wantJ_one (fs : List Fr) : wantJ fs 1 = fs.drop (fs.length / 2) := if_pos rfl
end Go.Proofs.Ytfbmfcipaikaoaa
