/- From a walk ('it returns true, and nothing below the old heap has turned') to a row of a law; scripts of calls opened. -/
import Derived.Test.YtfbmfcipaikaoaaRows
import Derived.Test.YtfbmfcipaikaoaaStk
import Derived.WalkKit
import Derived.ProofKit
import Derived.OpenShut
import Derived.SizedLaws
import Derived.Deep.Slices
import Derived.Deep.Strs
import Derived.Lib.SmallJoins
namespace Go.Proofs.Ytfbmfcipaikaoaa
set_option linter.unusedVariables false
set_option linter.unusedSimpArgs false
open Go.ChangeShapes Go.WideShapes Go.ChangeAt Go.RowKit Go.Deep

theorem own_knob : ownKnob Try.prog.godebug = none := by kernel_rfl

section
variable {H : Type} {enc : TypeId × Value → H} {P : Program}

theorem trodAll_below (hl : laidOutB P = true) {W W' : World} (hb : Below W.heap.size W W') : ∀ {ts : List TypeId} {vs : List Value} {ds : List (DataW H)} {ps : List MemPlace},
    (∀ t ∈ ts, P.readableRec t = true ∧ t < P.types.size) → DataW.TrodAll enc P W 0 (fun _ => true) true ts vs ds ps → (∀ x ∈ ps, x.block < W.heap.size) →
    DataW.TrodAll enc P W' 0 (fun b => decide (b < W.heap.size)) true ts vs ds ps
  | [], _, _, _, _, h, _ => by
    obtain ⟨rfl, rfl, rfl⟩ := trodAll_nil h
    exact trodAll_mk0
  | t :: ts, _, _, _, ht, h, hlt => by
    obtain ⟨v, vs, d, ds, p, q, rfl, rfl, rfl, h1, h2⟩ := trodAll_cons h
    exact trodAll_cons_mk (Below.trod hl (ht t (by simp)).1 (ht t (by simp)).2 h1 hb (fun x hx => hlt x (List.mem_append_left _ hx)))
      (trodAll_below hl hb (fun u hu => ht u (by simp [hu])) h2 (fun x hx => hlt x (List.mem_append_right _ hx)))

/-- What a law's row asks behind the call: it answered true, and below the old heap nothing has turned. -/
theorem post_law {f : Func} {s : ChangeSpec} {apart fresh handsOn : Bool} {W W' : World} {args : Array Value} {ds gs : List (DataW H)} {before : List MemPlace} {tb : TypeId}
    (hl : laidOutB P = true) (hr : (f.params.toList.all fun t => P.readableRec t && decide (t < P.types.size)) = true) (hty : f.resultTypes = #[tb]) (htb : P.underlying tb = some .bool) (hv : s.vars = [])
    (hW : DataW.Whole enc P f.params.toList s.vars apart W args.toList ds gs before)
    (hfn : (s.fn H ds).results = [.lit (.bool true)] ∧ (s.fn H ds).args = ds ∧ (s.fn H ds).vars = [])
    (hb : Below W.heap.size W W') : s.post enc P f apart fresh handsOn false W args (.bool true) W' := by
  have hlt : ∀ p ∈ before, p.block < W.heap.size := fun p hp => hW.lt p hp
  have hW2 := hW
  obtain ⟨p, q, hA, hV, hpq, _, _⟩ := hW2
  rw [hv] at hV
  obtain ⟨rfl, rfl⟩ := trodVars_none hV
  simp only [List.append_nil] at hpq
  subst hpq
  refine ⟨ds, [], before, [], before, [], hW, ?_, ?_, ?_, World.keptBut_mono (fun x hx => ⟨hx, .inr (.inl hx)⟩) (hb.frame (· ∈ before)), fun h => by cases h⟩
  · rw [List.append_nil, hfn.1, hty]
    exact trodAll_cons_mk (shut_bool htb true) trodAll_mk0
  · rw [List.append_nil, hfn.2.1]
    exact trodAll_below hl hb (fun t ht => by simpa using List.all_eq_true.1 hr t ht) hA hlt
  · rw [List.append_nil, hfn.2.2, hv]
    rfl

theorem calls_law {f : Func} {k : FuncId} {s : ChangeSpec} {apart fresh handsOn : Bool} {W : World} {args : Array Value} {ds gs : List (DataW H)} {before : List MemPlace} {tb : TypeId}
    (hl : laidOutB P = true) (hr : (f.params.toList.all fun t => P.readableRec t && decide (t < P.types.size)) = true) (hty : f.resultTypes = #[tb]) (htb : P.underlying tb = some .bool) (hv : s.vars = [])
    (hW : DataW.Whole enc P f.params.toList s.vars apart W args.toList ds gs before)
    (hfn : (s.fn H ds).results = [.lit (.bool true)] ∧ (s.fn H ds).args = ds ∧ (s.fn H ds).vars = [])
    (hc : Calls P k args W fun e w' => e = .returned (.bool true) ∧ Below W.heap.size W w') :
    Calls P k args W fun e W' => ∃ v, e = .returned v ∧ s.post enc P f apart fresh handsOn false W args v W' :=
  hc.mono fun _ _ ⟨he, hb⟩ => ⟨_, he, post_law hl hr hty htb hv hW hfn hb⟩
end

/-- A call, as it was given. -/
structure OpV where
  k : Int
  b : Bool
  r : Int
  c : Int
  n : Int
instance : Inhabited OpV := ⟨⟨0, false, 0, 0, 0⟩⟩
def OpV.fits (o : OpV) : Prop := I64 o.k ∧ I64 o.r ∧ I64 o.c ∧ I64 o.n
def OpsAt (W : World) (A : Option Addr) (os : List OpV) : Prop := ∀ i, i < os.length → ∃ b off, A = some ⟨b, off, none⟩ ∧ b < W.heap.size ∧
  W.cell? ⟨b, off + i * 5, none⟩ = some (.int .i64 (os.getD i default).k) ∧ W.cell? ⟨b, off + i * 5 + 1, none⟩ = some (.bool (os.getD i default).b) ∧ W.cell? ⟨b, off + i * 5 + 2, none⟩ = some (.int .i64 (os.getD i default).r) ∧
  W.cell? ⟨b, off + i * 5 + 3, none⟩ = some (.int .i64 (os.getD i default).c) ∧ W.cell? ⟨b, off + i * 5 + 4, none⟩ = some (.int .i64 (os.getD i default).n)
theorem OpsAt.below {W W' : World} {A : Option Addr} {os : List OpV} (h : OpsAt W A os) (hb : Below W.heap.size W W') : OpsAt W' A os := fun i hi => by
  obtain ⟨b, off, e, hl, h0, h1, h2, h3, h4⟩ := h i hi
  exact ⟨b, off, e, Nat.lt_of_lt_of_le hl hb.size, cell_below h0 hb, cell_below h1 hb, cell_below h2 hb, cell_below h3 hb, cell_below h4 hb⟩
theorem OpsAt.get {W : World} {A : Option Addr} {os : List OpV} (h : OpsAt W A os) (hf : ∀ o ∈ os, o.fits) {i : Nat} (hi : i < os.length) : ∃ (b off : Nat) (o : OpV), A = some ⟨b, off, none⟩ ∧ b < W.heap.size ∧ o.fits ∧
    W.cell? ⟨b, off + i * 5, none⟩ = some (.int .i64 o.k) ∧ W.cell? ⟨b, off + i * 5 + 1, none⟩ = some (.bool o.b) ∧ W.cell? ⟨b, off + i * 5 + 2, none⟩ = some (.int .i64 o.r) ∧ W.cell? ⟨b, off + i * 5 + 3, none⟩ = some (.int .i64 o.c) ∧ W.cell? ⟨b, off + i * 5 + 4, none⟩ = some (.int .i64 o.n) := by
  obtain ⟨b, off, e, hl, h⟩ := h i hi
  refine ⟨b, off, os.getD i default, e, hl, hf _ ?_, h⟩
  rw [List.getD_eq_getElem?_getD, List.getElem?_eq_getElem hi]
  exact List.getElem_mem hi
theorem cells5 {w : World} {g : Nat} {a b c d e : Value} {t : TypeId} {f : Nat × Nat} (h : w.heap[g]? = some (.cells #[a, b, c, d, e] t f)) :
    w.cell? ⟨g, 0, none⟩ = some a ∧ w.cell? ⟨g, 1, none⟩ = some b ∧ w.cell? ⟨g, 2, none⟩ = some c ∧ w.cell? ⟨g, 3, none⟩ = some d ∧ w.cell? ⟨g, 4, none⟩ = some e := by
  refine ⟨?_, ?_, ?_, ?_, ?_⟩ <;> (rw [cell_of_row w _ _ _ _ _ h]; rfl)


theorem c22 : Try.prog.cellsOf 29 = 5 := by kernel_rfl
theorem b29 : Try.prog.bytesOf 29 = 40 := by kernel_rfl
theorem c3 : Try.prog.cellsOf 3 = 1 := by kernel_rfl
theorem c4 : Try.prog.cellsOf 4 = 1 := by kernel_rfl
theorem cSp : Try.prog.cellsOf 27 = 2 := by kernel_rfl

def OpV.cells (u : OpV) : List Value := [.int .i64 u.k, .bool u.b, .int .i64 u.r, .int .i64 u.c, .int .i64 u.n]

section
variable {H : Type} {enc : TypeId × Value → H}

theorem spot_cells {W : World} {sp : Nat → Bool} {n : Nat} {cs : List Value} {z : DataW H × List MemPlace} (h : DataW.trod enc Try.prog W 0 sp true n 27 cs = some z) :
    ∃ a b : Int, cs = [.int .i64 a, .int .i64 b] ∧ (Lit.int .i64 a).wf = true ∧ (Lit.int .i64 b).wf = true := by
  obtain ⟨y0, y1, m, rfl, hl, h0, h1⟩ := trod_struct2 Try.underlying27 h
  rw [cSp] at hl
  match cs, hl with
  | [c0, c1], _ =>
    simp only [c3, List.drop_zero, List.drop_succ_cons, List.take_succ_cons, List.take_zero] at h0 h1
    obtain ⟨a, e0, _, w0⟩ := DataW.trod_int Try.underlying3 h0
    obtain ⟨b, e1, _, w1⟩ := DataW.trod_int Try.underlying3 h1
    simp only [List.cons.injEq, and_true] at e0 e1
    exact ⟨a, b, by simp [e0, e1], w0, w1⟩

theorem wf64 {n : Int} (h : (Lit.int .i64 n).wf = true) : I64 n := by
  simpa [I64, Lit.wf, IntKind.min, IntKind.max, IntKind.signed, IntKind.bits] using h

theorem elem_op {W : World} {sp : Nat → Bool} {n : Nat} {cs : List Value} {z : DataW H × List MemPlace} (h : DataW.trod enc Try.prog W 0 sp true n 29 cs = some z) : ∃ u : OpV, cs = u.cells ∧ u.fits := by
  obtain ⟨y0, y1, y2, y3, m, rfl, hl, h0, h1, h2, h3⟩ := Joins.trod_struct4 Try.underlying29 h
  rw [c22] at hl
  match cs, hl with
  | [c0, c1, c2, c3', c4'], _ =>
    simp only [c3, c4, cSp, List.drop_zero, List.drop_succ_cons, List.take_succ_cons, List.take_zero] at h0 h1 h2 h3
    obtain ⟨x0, e0, _, w0⟩ := DataW.trod_int Try.underlying3 h0
    obtain ⟨x1, e1, _⟩ := DataW.trod_bool Try.underlying4 h1
    obtain ⟨x2, x3, e2, w2, w3⟩ := spot_cells h2
    obtain ⟨x4, e4, _, w4⟩ := DataW.trod_int Try.underlying3 h3
    simp only [List.cons.injEq, and_true] at e0 e1 e2 e4
    exact ⟨⟨x0, x1, x2, x3, x4⟩, by simp [OpV.cells, e0, e1, e2, e4], wf64 w0, wf64 w2, wf64 w3, wf64 w4⟩

theorem no_spot (W : World) (b off x : Nat) : W.cell? ⟨b, off, some x⟩ = none := by
  unfold World.cell?
  split <;> simp

theorem open_ops {W : World} {r : Reach} {b0 : Nat} {v : Value} {d : DataW H} {p : List MemPlace} (hv : Value.okWide Try.prog W r b0 22 v) (h : DataW.Trod enc Try.prog W 0 (fun _ => true) true 22 v d p) :
    ∃ A len cap us, v = .slice A len cap ∧ us.length = len ∧ len ≤ cap ∧ OpsAt W A us ∧ (∀ u ∈ us, u.fits) ∧ ((d = .nil ∧ us = []) ∨ ∃ es spare, d = .slice es spare ∧ es.length = us.length) := by
  obtain ⟨A, len, cap, rfl⟩ := okWide_slice Try.underlying22 hv
  obtain ⟨fuel, hf⟩ := h
  rcases open_slice Try.underlying22 hf with ⟨hcs, hx⟩ | ⟨a, len', cap', m, n, D, Pl, hcs, _, hl, hm, hmm, hx, hel⟩
  · simp [Value.cells] at hcs hx
    obtain ⟨rfl, rfl, rfl⟩ := hcs
    exact ⟨none, 0, 0, [], rfl, rfl, Nat.le_refl _, fun i hi => by simp at hi, fun u hu => by simp at hu, .inl ⟨hx.1, rfl⟩⟩
  · simp [Value.cells] at hcs hx
    obtain ⟨rfl, rfl, rfl⟩ := hcs
    have hmc : m = cap := by simpa using hmm
    subst hmc
    rw [c22] at hel
    obtain ⟨f, hfv⟩ := choose_lt (α := OpV) (n := m) (p := fun i u => W.cells? 0 (a.add (i * 5)) 5 = some u.cells ∧ u.fits) (fun i hi => by
      obtain ⟨cs', h1, h2⟩ := hel i hi
      obtain ⟨u, rfl, hu⟩ := elem_op h2
      exact ⟨u, h1, hu⟩)
    refine ⟨some a, len, m, (List.range len).map f, rfl, by simp, hl, ?_, ?_, .inr ⟨_, _, hx.1, by simp⟩⟩
    · intro i hi
      simp at hi
      have hc := (hfv i (by omega)).1
      obtain ⟨_, _, hcell⟩ := World.cells?_some hc
      have e : ((List.range len).map f).getD i default = f i := by simp [List.getD, hi]
      rw [e]
      obtain ⟨b, off, spot⟩ := a
      have hs : spot = none := by
        cases spot with
        | none => rfl
        | some x =>
          exfalso
          obtain ⟨_, _, hcell0⟩ := World.cells?_some (hfv 0 (by omega)).1
          have h00 := hcell0 0 (by omega)
          have e0 : ((⟨b, off, some x⟩ : Addr).add (0 * 5)).add 0 = ⟨b, off, some x⟩ := rfl
          rw [e0, no_spot] at h00
          cases h00
      subst hs
      have k0 := hcell 0 (by omega)
      have k1 := hcell 1 (by omega)
      have k2 := hcell 2 (by omega)
      have k3 := hcell 3 (by omega)
      have k4 := hcell 4 (by omega)
      simp only [add_add, Addr.add_lit, OpV.cells] at k0 k1 k2 k3 k4
      exact ⟨b, off, rfl, World.block_lt_of_cell? W _ (by simpa using k0), by simpa [Nat.add_assoc] using k0, by simpa [Nat.add_assoc] using k1, by simpa [Nat.add_assoc] using k2, by simpa [Nat.add_assoc] using k3, by simpa [Nat.add_assoc] using k4⟩
    · intro u hu
      obtain ⟨i, hi, rfl⟩ := List.mem_map.1 hu
      exact (hfv i (by simp at hi; omega)).2

theorem sized_ops {ts : List TypeId} {ds : List (DataW H)} (h : (DataW.weightsEach Try.prog ts ds).all (· ≤ reachBytes) = true) {j : Nat} (ht : ts[j]? = some 22) {us : List OpV} {d : DataW H} (hd : ds[j]? = some d)
    (hdd : (d = .nil ∧ us = []) ∨ ∃ es spare, d = .slice es spare ∧ es.length = us.length) : us.length * 40 ≤ 140737488351232 := by
  rcases hdd with ⟨rfl, rfl⟩ | ⟨es, spare, rfl, he⟩
  · simp
  · have h1 := sized_slice h ht hd Try.underlying22
    rw [b29] at h1
    simp [reachBytes] at h1
    omega
end
end Go.Proofs.Ytfbmfcipaikaoaa
