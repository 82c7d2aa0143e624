/- The lists that were told are grown; all is asked again at the end. -/
import Derived.Test.YtfbmfcipaikaoaaFreshSt
namespace Go.Proofs.Ytfbmfcipaikaoaa
set_option linter.unusedVariables false
set_option linter.unusedSimpArgs false
open Go.RowKit Go.Maps

/-- How far a list with room is grown. -/
def rm (n cap : Nat) : Nat := if n + 70000 < cap then n + 70000 else cap
theorem rm_int (n cap : Nat) : (if (cap : Int) > (n : Int) + 70000 then (n : Int) + 70000 else (cap : Int)) = (rm n cap : Int) := by
  unfold rm
  split <;> split <;> omega
theorem rm_bd {n cap : Nat} (h : n ≤ cap) : n ≤ rm n cap ∧ rm n cap ≤ cap ∧ rm n cap ≤ n + 70000 := by
  unfold rm
  split <;> omega
def gr1 (h : Hd) : Hd := (h.1, rm h.2.1 h.2.2, h.2.2)
/-- The first t of them are grown. -/
def grs (t : Nat) (ms : List Hd) : List Hd := (ms.take t).map gr1 ++ ms.drop t
theorem grs_zero (ms : List Hd) : grs 0 ms = ms := by simp [grs]
theorem grs_len (t : Nat) (ms : List Hd) : (grs t ms).length = ms.length := by simp [grs]; omega
theorem grs_split {t : Nat} {ms : List Hd} {x : Hd} (h : ms[t]? = some x) : grs t ms = (ms.take t).map gr1 ++ x :: ms.drop (t + 1) ∧ ((ms.take t).map gr1).length = t := by
  obtain ⟨ht, e⟩ := List.getElem?_eq_some_iff.1 h
  refine ⟨?_, by simp; omega⟩
  unfold grs
  rw [← List.getElem_cons_drop ht, e]
theorem grs_get {t : Nat} {ms : List Hd} {x : Hd} (h : ms[t]? = some x) : (grs t ms)[t]? = some x := by
  obtain ⟨e, hl⟩ := grs_split h
  rw [e, List.getElem?_append_right (by omega), hl, Nat.sub_self]
  rfl
theorem grs_set {t : Nat} {ms : List Hd} {x : Hd} (h : ms[t]? = some x) : (grs t ms).set t (gr1 x) = grs (t + 1) ms := by
  obtain ⟨e, hl⟩ := grs_split h
  rw [e, List.set_append_right _ _ (by omega), hl, Nat.sub_self, List.set_cons_zero]
  unfold grs
  rw [List.take_add_one, h, List.map_append, List.append_assoc]
  rfl
theorem set_selfF {α : Type} {l : List α} {i : Nat} {p : α} (h : l[i]? = some p) : l.set i p = l := by
  refine List.ext_getElem? fun j => ?_
  by_cases e : i = j
  · subst e
    rw [List.getElem?_set_self (List.getElem?_eq_some_iff.1 h).1, h]
  · rw [List.getElem?_set_ne e]
theorem louds_set (M : List Hd) (t : Nat) (h : Hd) : louds (M.set t h) = (louds M).set t (mkL t h) := by
  unfold louds
  rw [List.mapIdx_set]
theorem louds_at {M : List Hd} {t : Nat} (ht : t < M.length) : ∃ K, ∀ h, (louds (M.set t h)).Perm (mkL t h :: K) := by
  refine ⟨(louds M).take t ++ (louds M).drop (t + 1), fun h => ?_⟩
  rw [louds_set, List.set_eq_take_append_cons_drop, if_pos (by simp [louds]; exact ht)]
  exact List.perm_middle
theorem own_framesF {w : World} {B n : Nat} {A : Option Addr} {cap : Nat} {fs : List Fr} (h : w.ownsRow B 36 4 (.slice A n cap) n (cellsF fs)) {i : Nat} {f : Fr} (hi : fs[i]? = some f) :
    ∃ g, A = some ⟨g, 0, none⟩ ∧ w.cell? ⟨g, i * 4, none⟩ = some (.int .i64 f.r) ∧ w.cell? ⟨g, i * 4 + 1, none⟩ = some (.int .i64 f.c) ∧ w.cell? ⟨g, i * 4 + 2, none⟩ = some (.int .i64 f.k) ∧ w.cell? ⟨g, i * 4 + 3, none⟩ = some (.int .i64 f.x) := by
  rcases h.2 with ⟨e, h0⟩ | ⟨g, c, cur, e, _⟩
  · have := h.1
    rw [h0, cellsF_len] at this
    have h1 := (List.getElem?_eq_some_iff.1 hi).1
    omega
  · obtain ⟨rfl, rfl⟩ : A = some ⟨g, 0, none⟩ ∧ cap = c := by simpa using e
    exact ⟨g, rfl, own_frame h hi⟩
theorem permX {Ls K : List RowD} {m : RowD} (a b : RowD) (h : Ls.Perm (m :: K)) : (a :: b :: Ls).Perm (m :: a :: b :: K) := ((h.cons b).cons a).trans (List.perm_middle (l₁ := [a, b]))
theorem grs_bd {t : Nat} {ms : List Hd} (h : ∀ h ∈ ms, h.2.1 ≤ 300 ∧ h.2.1 ≤ h.2.2) : ∀ x ∈ grs t ms, x.2.1 ≤ 70300 := fun x hx => by
  rcases List.mem_append.1 hx with hx | hx
  · obtain ⟨y, hy, rfl⟩ := List.mem_map.1 hx
    have h1 := h y (List.mem_of_mem_take hy)
    have h2 := (rm_bd h1.2).2.2
    show rm y.2.1 y.2.2 ≤ 70300
    omega
  · have := h x (List.mem_of_mem_drop hx)
    omega
def lenAtF (W : World) (a : Addr) : Nat := match W.cell? a with
  | some (.slice _ n _) => n
  | _ => 0
theorem lenAtF_eq {W : World} {a : Addr} {A : Option Addr} {n c : Nat} (h : W.cell? a = some (.slice A n c)) : lenAtF W a = n := by unfold lenAtF; rw [h]
section
variable {W0 W W1 : World} {Pb S S' : Nat} {p : PD} {fs fs' : List Fr} {m m' : Nat} {rs : List RowD} {qs : List RoL}
/-- The list of lists, of a known length. -/
theorem Fx.lst (h : Fx W0 W Pb S S' p fs m fs' m' rs qs) {v : Value} {M : List Hd} {n : Nat} (hr : lRow v M ∈ rs) (hn : M.length = n) : W.ownsRow W0.heap.size 30 1 v n (M.map hdV) := by
  subst hn
  exact h.mem hr
theorem Fx.lcell (h : Fx W0 W Pb S S' p fs m fs' m' rs qs) {A : Option Addr} {c : Nat} {M : List Hd} {n : Nat} (hr : lRow (.slice A n c) M ∈ rs) (hn : M.length = n) {t : Nat} {x : Hd} (ht : M[t]? = some x) :
    ∃ g, A = some ⟨g, 0, none⟩ ∧ W.cell? ⟨g, t, none⟩ = some (hdV x) := by
  have ho := h.lst hr hn
  have hl := (List.getElem?_eq_some_iff.1 ht).1
  rcases row_cases ho with ⟨_, e⟩ | ⟨g, c', _, e⟩
  · omega
  · cases e
    refine ⟨g, rfl, ?_⟩
    rw [ho.cellAt t (by omega)]
    simp [ht]
theorem Fx.loud (h : Fx W0 W Pb S S' p fs m fs' m' rs qs) {t : Nat} {A : Option Addr} {n c : Nat} (hr : mkL t (A, n, c) ∈ rs) : W.ownsRow W0.heap.size 36 4 (.slice A n c) n (cellsF (zs n (-((t : Int) + 1)))) := by
  have := h.mem hr
  simpa [mkL, fRow, hdV, zs_len] using this
/-- A header of the list of lists is written. -/
theorem Fx.lput {g n c t : Nat} {M : List Hd} (h : Fx W0 W Pb S S' p fs m fs' m' (lRow (.slice (some ⟨g, 0, none⟩) n c) M :: rs) qs) (x : Hd) (hn : M.length = n) :
    Fx W0 (W.setCell ⟨g, t, none⟩ (hdV x)) Pb S S' p fs m fs' m' (lRow (.slice (some ⟨g, 0, none⟩) n c) (M.set t x) :: rs) qs := by
  have ho := h.lst List.mem_cons_self hn
  have hs := ho.stored t (hdV x)
  refine h.grow (r' := lRow (.slice (some ⟨g, 0, none⟩) n c) (M.set t x)) hs.2 ?_ (.inl rfl)
  have := hs.1
  rw [← List.map_set] at this
  simpa [lRow, hn] using this
theorem Fx.allL (h : Fx W0 W Pb S S' p fs m fs' m' rs qs) :
    Calls Try.prog 9 #[.pointer (some ⟨S, 0, none⟩)] W fun e W' => ∃ A n C, e = .returned (.slice A n C) ∧ Lst W' S S' p A n fs ∧ Fx W0 W' Pb S S' p fs m fs' m' rs qs ∧ Below W.heap.size W W' :=
  (all9 h.a).mono fun e W' ⟨v', he, hown, hb⟩ => by
    obtain ⟨A, C, rfl⟩ := row_any hown
    exact ⟨A, _, C, he, (((h.cons (r := fRow (.slice A fs.length C) fs) hb hown).toro rfl).ro _ List.mem_cons_self).1, h.below hb, hb⟩
theorem Fx.allR (h : Fx W0 W Pb S S' p fs m fs' m' rs qs) :
    Calls Try.prog 22 #[.pointer (some ⟨S', 0, none⟩)] W fun e W' => ∃ A n C, e = .returned (.slice A n C) ∧ Lst W' S S' p A n fs' ∧ Fx W0 W' Pb S S' p fs m fs' m' rs qs ∧ Below W.heap.size W W' :=
  (allR22 h.b).mono fun e W' ⟨v', he, hown, hb⟩ => by
    obtain ⟨A, C, rfl⟩ := row_any hown
    exact ⟨A, _, C, he, (((h.cons (r := fRow (.slice A fs'.length C) fs') hb hown).toro rfl).ro _ List.mem_cons_self).1, h.below hb, hb⟩
end
end Go.Proofs.Ytfbmfcipaikaoaa
