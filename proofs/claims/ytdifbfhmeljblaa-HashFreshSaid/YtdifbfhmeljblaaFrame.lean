/- From a walk ('it returns true, and nothing below the old heap has turned') to a row of a law; slices of values opened. -/
import Derived.Test.YtdifbfhmeljblaaRows
import Derived.WalkKit
import Derived.ProofKit
import Derived.OpenShut
import Derived.SizedLaws
import Derived.Deep.Slices
import Derived.Deep.Strs
import Derived.Lib.SmallJoins
namespace Go.Proofs.Ytdifbfhmeljblaa
set_option linter.unusedVariables false
set_option linter.unusedSimpArgs false
open Go.ChangeShapes Go.WideShapes Go.ChangeAt Go.RowKit Go.Deep

theorem laidOut : laidOutB Try.prog = true := by kernel_rfl
theorem own_knob : ownKnob Try.prog.godebug = none := by kernel_rfl

section
variable {H : Type} {enc : TypeId × Value → H} {P : Program}

theorem trodAll_below (hl : laidOutB P = true) {W W' : World} (hb : Below W.heap.size W W') : ∀ {ts : List TypeId} {vs : List Value} {ds : List (DataW H)} {ps : List MemPlace},
    (∀ t ∈ ts, P.readableRec t = true ∧ t < P.types.size) → DataW.TrodAll enc P W 0 (fun _ => true) true ts vs ds ps → (∀ x ∈ ps, x.block < W.heap.size) →
    DataW.TrodAll enc P W' 0 (fun b => decide (b < W.heap.size)) true ts vs ds ps
  | [], _, _, _, _, h, _ => by
    obtain ⟨rfl, rfl, rfl⟩ := trodAll_nil h
    exact trodAll_mk0
  | t :: ts, _, _, _, ht, h, hlt => by
    obtain ⟨v, vs, d, ds, p, q, rfl, rfl, rfl, h1, h2⟩ := trodAll_cons h
    exact trodAll_cons_mk (Below.trod hl (ht t (by simp)).1 (ht t (by simp)).2 h1 hb (fun x hx => hlt x (List.mem_append_left _ hx)))
      (trodAll_below hl hb (fun u hu => ht u (by simp [hu])) h2 (fun x hx => hlt x (List.mem_append_right _ hx)))

/-- What a law's row asks behind the call: it answered true, and below the old heap nothing has turned. -/
theorem post_law {f : Func} {s : ChangeSpec} {apart fresh handsOn : Bool} {W W' : World} {args : Array Value} {ds gs : List (DataW H)} {before : List MemPlace} {tb : TypeId}
    (hl : laidOutB P = true) (hr : (f.params.toList.all fun t => P.readableRec t && decide (t < P.types.size)) = true) (hty : f.resultTypes = #[tb]) (htb : P.underlying tb = some .bool) (hv : s.vars = [])
    (hW : DataW.Whole enc P f.params.toList s.vars apart W args.toList ds gs before)
    (hfn : (s.fn H ds).results = [.lit (.bool true)] ∧ (s.fn H ds).args = ds ∧ (s.fn H ds).vars = [])
    (hb : Below W.heap.size W W') : s.post enc P f apart fresh handsOn false W args (.bool true) W' := by
  have hlt : ∀ p ∈ before, p.block < W.heap.size := fun p hp => hW.lt p hp
  have hW2 := hW
  obtain ⟨p, q, hA, hV, hpq, _, _⟩ := hW2
  rw [hv] at hV
  obtain ⟨rfl, rfl⟩ := trodVars_none hV
  simp only [List.append_nil] at hpq
  subst hpq
  refine ⟨ds, [], before, [], before, [], hW, ?_, ?_, ?_, World.keptBut_mono (fun x hx => ⟨hx, .inr (.inl hx)⟩) (hb.frame (· ∈ before)), fun h => by cases h⟩
  · rw [List.append_nil, hfn.1, hty]
    exact trodAll_cons_mk (shut_bool htb true) trodAll_mk0
  · rw [List.append_nil, hfn.2.1]
    exact trodAll_below hl hb (fun t ht => by simpa using List.all_eq_true.1 hr t ht) hA hlt
  · rw [List.append_nil, hfn.2.2, hv]
    rfl

theorem calls_law {f : Func} {k : FuncId} {s : ChangeSpec} {apart fresh handsOn : Bool} {W : World} {args : Array Value} {ds gs : List (DataW H)} {before : List MemPlace} {tb : TypeId}
    (hl : laidOutB P = true) (hr : (f.params.toList.all fun t => P.readableRec t && decide (t < P.types.size)) = true) (hty : f.resultTypes = #[tb]) (htb : P.underlying tb = some .bool) (hv : s.vars = [])
    (hW : DataW.Whole enc P f.params.toList s.vars apart W args.toList ds gs before)
    (hfn : (s.fn H ds).results = [.lit (.bool true)] ∧ (s.fn H ds).args = ds ∧ (s.fn H ds).vars = [])
    (hc : Calls P k args W fun e w' => e = .returned (.bool true) ∧ Below W.heap.size W w') :
    Calls P k args W fun e W' => ∃ v, e = .returned v ∧ s.post enc P f apart fresh handsOn false W args v W' :=
  hc.mono fun _ _ ⟨he, hb⟩ => ⟨_, he, post_law hl hr hty htb hv hW hfn hb⟩
end

/-- A value of the spreadsheet: kind, number, text. -/
structure Val where
  k : Int
  n : Int
  s : ByteArray

instance : Inhabited Val := ⟨⟨0, 0, ByteArray.empty⟩⟩

def Val.fits (v : Val) : Prop := (-9223372036854775808 ≤ v.k ∧ v.k ≤ 9223372036854775807) ∧ (-9223372036854775808 ≤ v.n ∧ v.n ≤ 9223372036854775807) ∧ v.s.size ≤ 140737488351232

/-- The slice at address A reads as the values vs. -/
def ValsAt (W : World) (A : Option Addr) (vs : List Val) : Prop :=
  ∀ i, i < vs.length → ∃ b off, A = some ⟨b, off, none⟩ ∧ b < W.heap.size ∧ W.cell? ⟨b, off + i * 3, none⟩ = some (.int .i64 (vs.getD i default).k) ∧
    W.cell? ⟨b, off + i * 3 + 1, none⟩ = some (.int .i64 (vs.getD i default).n) ∧ W.cell? ⟨b, off + i * 3 + 2, none⟩ = some (.string (vs.getD i default).s)

/-- The slice at address A reads as the numbers ws. -/
def IntsAt (W : World) (A : Option Addr) (ws : List Int) : Prop :=
  ∀ i, i < ws.length → ∃ b off, A = some ⟨b, off, none⟩ ∧ b < W.heap.size ∧ W.cell? ⟨b, off + i, none⟩ = some (.int .i64 (ws.getD i 0))

def toData {H : Type} (v : Val) : DataW H := .agg [.lit (.int .i64 v.k), .lit (.int .i64 v.n), .lit (.string v.s.data.toList)]

theorem cells28 : Try.prog.cellsOf 28 = 3 := by kernel_rfl
theorem cells3 : Try.prog.cellsOf 3 = 1 := by kernel_rfl
theorem cells2 : Try.prog.cellsOf 2 = 1 := by kernel_rfl
theorem cells9 : Try.prog.cellsOf 9 = 1 := by kernel_rfl
theorem bytes28 : Try.prog.bytesOf 28 = 32 := by kernel_rfl
theorem bytes3 : Try.prog.bytesOf 3 = 8 := by kernel_rfl

section
variable {H : Type} {enc : TypeId × Value → H}

theorem elem_val {W : World} {sp : Nat → Bool} {n : Nat} {cs : List Value} {z : DataW H × List MemPlace} (h : DataW.trod enc Try.prog W 0 sp true n 28 cs = some z) :
    ∃ v : Val, cs = [.int .i64 v.k, .int .i64 v.n, .string v.s] ∧ z.1 = toData v ∧ (Lit.int .i64 v.k).wf = true ∧ (Lit.int .i64 v.n).wf = true := by
  obtain ⟨y0, y1, y2, m, rfl, hl, h0, h1, h2⟩ := trod_struct3 Try.underlying28 h
  rw [cells28] at hl
  match cs, hl with
  | [c0, c1, c2], _ =>
    simp only [cells3, cells2, cells9, List.drop_zero, List.drop_succ_cons, List.take_succ_cons, List.take_zero] at h0 h1 h2
    obtain ⟨a, e0, rfl, w0⟩ := DataW.trod_int Try.underlying3 h0
    obtain ⟨b, e1, rfl, w1⟩ := DataW.trod_int Try.underlying2 h1
    obtain ⟨s, e2, rfl, _⟩ := DataW.trod_string Try.underlying9 h2
    simp only [List.cons.injEq, and_true] at e0 e1 e2
    exact ⟨⟨a, b, s⟩, by simp [e0, e1, e2], rfl, w0, w1⟩

theorem wf64 {n : Int} (h : (Lit.int .i64 n).wf = true) : -9223372036854775808 ≤ n ∧ n ≤ 9223372036854775807 := by
  simpa [Lit.wf, IntKind.min, IntKind.max, IntKind.signed, IntKind.bits] using h

theorem no_spot (W : World) (b off x : Nat) : W.cell? ⟨b, off, some x⟩ = none := by
  unfold World.cell?
  split <;> simp

theorem open_vals {W : World} {r : Reach} {b0 : Nat} {v : Value} {d : DataW H} {p : List MemPlace} (hv : Value.okWide Try.prog W r b0 26 v) (h : DataW.Trod enc Try.prog W 0 (fun _ => true) true 26 v d p) :
    ∃ A len cap vs, v = .slice A len cap ∧ vs.length = len ∧ len ≤ cap ∧ ValsAt W A vs ∧ (∀ v ∈ vs, (Lit.int .i64 v.k).wf = true ∧ (Lit.int .i64 v.n).wf = true) ∧ ((d = .nil ∧ vs = []) ∨ ∃ spare, d = .slice (vs.map toData) spare) := by
  obtain ⟨A, len, cap, rfl⟩ := okWide_slice Try.underlying26 hv
  obtain ⟨fuel, hf⟩ := h
  rcases open_slice Try.underlying26 hf with ⟨hcs, hx⟩ | ⟨a, len', cap', m, n, D, Pl, hcs, _, hl, hm, hmm, hx, hel⟩
  · simp [Value.cells] at hcs hx
    obtain ⟨rfl, rfl, rfl⟩ := hcs
    exact ⟨none, 0, 0, [], rfl, rfl, Nat.le_refl _, fun i hi => by simp at hi, fun v hv => by simp at hv, .inl ⟨hx.1, rfl⟩⟩
  · simp [Value.cells] at hcs hx
    obtain ⟨rfl, rfl, rfl⟩ := hcs
    have hmc : m = cap := by simpa using hmm
    subst hmc
    rw [cells28] at hel
    obtain ⟨f, hfv⟩ := choose_lt (α := Val) (n := m) (p := fun i u => (D i = toData u) ∧ (Lit.int .i64 u.k).wf = true ∧ (Lit.int .i64 u.n).wf = true ∧
        W.cells? 0 (a.add (i * 3)) 3 = some [.int .i64 u.k, .int .i64 u.n, .string u.s]) (fun i hi => by
      obtain ⟨cs', h1, h2⟩ := hel i hi
      obtain ⟨u, rfl, hd, w1, w2⟩ := elem_val h2
      exact ⟨u, hd, w1, w2, h1⟩)
    refine ⟨some a, len, m, (List.range len).map f, rfl, by simp, hl, ?_, ?_, .inr ⟨(List.range (m - len)).map fun j => D (len + j), ?_⟩⟩
    · intro i hi
      simp at hi
      obtain ⟨_, _, _, hc⟩ := hfv i (by omega)
      obtain ⟨_, _, hcell⟩ := World.cells?_some hc
      have e : ((List.range len).map f).getD i default = f i := by simp [List.getD, hi]
      rw [e]
      obtain ⟨b, off, spot⟩ := a
      have hs : spot = none := by
        cases spot with
        | none => rfl
        | some x =>
          exfalso
          obtain ⟨_, _, hcell0⟩ := World.cells?_some (hfv 0 (by omega)).2.2.2
          have h00 := hcell0 0 (by omega)
          have e0 : ((⟨b, off, some x⟩ : Addr).add (0 * 3)).add 0 = ⟨b, off, some x⟩ := rfl
          rw [e0, no_spot] at h00
          cases h00
      have h0 := hcell 0 (by omega)
      have h1 := hcell 1 (by omega)
      have h2 := hcell 2 (by omega)
      simp only [add_add] at h0 h1 h2
      subst hs
      rw [Addr.add_lit] at h0 h1 h2
      refine ⟨b, off, rfl, ?_, by simpa using h0, by simpa [Nat.add_assoc] using h1, by simpa [Nat.add_assoc] using h2⟩
      exact World.block_lt_of_cell? W _ (by simpa using h0)
    · intro u hu
      obtain ⟨i, hi, rfl⟩ := List.mem_map.1 hu
      have := hfv i (by simp at hi; omega)
      exact ⟨this.2.1, this.2.2.1⟩
    · rw [hx.1]
      congr 1
      rw [List.map_map]
      exact List.map_congr_left fun i hi => (hfv i (by simp at hi; omega)).1

theorem open_wide {W : World} {r : Reach} {b0 : Nat} {v : Value} {d : DataW H} {p : List MemPlace} (hv : Value.okWide Try.prog W r b0 24 v) (h : DataW.Trod enc Try.prog W 0 (fun _ => true) true 24 v d p) :
    ∃ A len cap ws, v = .slice A len cap ∧ ws.length = len ∧ len ≤ cap ∧ IntsAt W A ws ∧ (∀ n ∈ ws, (Lit.int .i64 n).wf = true) ∧ ((d = .nil ∧ ws = []) ∨ ∃ spare, d = .slice (lits .i64 ws) spare) := by
  obtain ⟨A, len, cap, rfl⟩ := okWide_slice Try.underlying24 hv
  obtain ⟨fuel, hf⟩ := h
  rcases open_ints Try.underlying24 Try.underlying3 cells3 hf with ⟨hcs, hx⟩ | ⟨a, len', cap', zs, hcs, _, hl, hm, hz, hx, hcell, hwz⟩
  · simp [Value.cells] at hcs hx
    obtain ⟨rfl, rfl, rfl⟩ := hcs
    exact ⟨none, 0, 0, [], rfl, rfl, Nat.le_refl _, fun i hi => by simp at hi, fun v hv => by simp at hv, .inl ⟨hx.1, rfl⟩⟩
  · simp [Value.cells] at hcs hx
    obtain ⟨rfl, rfl, rfl⟩ := hcs
    have hzc : zs.length = cap := by simpa using hz
    have htl : (zs.take len).length = len := by simp; omega
    refine ⟨some a, len, cap, zs.take len, rfl, htl, hl, ?_, fun n hn => hwz n (List.mem_of_mem_take hn), .inr ⟨_, hx.1⟩⟩
    intro i hi
    rw [htl] at hi
    obtain ⟨b, off, rfl, hc⟩ := ints_at hcell (by omega)
    have hci := hc i (by omega)
    refine ⟨b, off, rfl, World.block_lt_of_cell? W _ hci, ?_⟩
    rw [hci]
    simp [List.getD, List.getElem?_take, hi]

theorem sized_wide {ts : List TypeId} {ds : List (DataW H)} (h : (DataW.weightsEach Try.prog ts ds).all (· ≤ reachBytes) = true) {j : Nat} (ht : ts[j]? = some 24) {ws : List Int} {d : DataW H} (hd : ds[j]? = some d)
    (hdd : (d = .nil ∧ ws = []) ∨ ∃ spare, d = .slice (lits .i64 ws) spare) : ws.length * 8 ≤ 140737488351232 := by
  rcases hdd with ⟨rfl, rfl⟩ | ⟨spare, rfl⟩
  · simp
  · have h1 := sized_slice h ht hd Try.underlying24
    rw [bytes3] at h1
    simp [reachBytes, lits] at h1
    omega

theorem open_val {W : World} {r : Reach} {b0 : Nat} {v : Value} {d : DataW H} {p : List MemPlace} (hv : Value.okWide Try.prog W r b0 28 v) (h : DataW.Trod enc Try.prog W 0 (fun _ => true) true 28 v d p) :
    ∃ u : Val, v = .agg #[.int .i64 u.k, .int .i64 u.n, .string u.s] ∧ d = toData u ∧ (Lit.int .i64 u.k).wf = true ∧ (Lit.int .i64 u.n).wf = true ∧ u.s.size ≤ maxLen := by
  obtain ⟨v0, v1, v2, y0, y1, y2, n, rfl, rfl, _, h0, h1, h2⟩ := Joins.open_agg3 Try.underlying28 (by kernel_rfl) cells28 hv h
  obtain ⟨a, e0, rfl, w0⟩ := DataW.trod_int Try.underlying3 h0
  obtain ⟨b, e1, rfl, w1⟩ := DataW.trod_int Try.underlying2 h1
  obtain ⟨s, e2, rfl, hs⟩ := DataW.trod_string Try.underlying9 h2
  simp only [List.cons.injEq, and_true] at e0 e1 e2
  exact ⟨⟨a, b, s⟩, by simp [e0, e1, e2], rfl, w0, w1, hs⟩

theorem weights_all {P : Program} {e : TypeId} : ∀ {ds : List (DataW H)} {d : DataW H}, d ∈ ds → ∀ n ∈ d.weights P e, n ∈ DataW.weightsAll P e ds
  | d0 :: ds, d, hd, n, hn => by
    simp only [DataW.weightsAll, List.mem_append]
    rcases List.mem_cons.1 hd with rfl | hd
    · exact .inl hn
    · exact .inr (weights_all hd n hn)

theorem sized_vals {ts : List TypeId} {ds : List (DataW H)} (h : (DataW.weightsEach Try.prog ts ds).all (· ≤ reachBytes) = true) {j : Nat} (ht : ts[j]? = some 26) {vs : List Val} {d : DataW H} (hd : ds[j]? = some d)
    (hdd : (d = .nil ∧ vs = []) ∨ ∃ spare, d = .slice (vs.map toData) spare) : vs.length * 32 ≤ 140737488351232 ∧ ∀ v ∈ vs, v.s.size ≤ 140737488351232 := by
  rcases hdd with ⟨rfl, rfl⟩ | ⟨spare, rfl⟩
  · simp
  · have h1 := sized_slice h ht hd Try.underlying26
    rw [bytes28] at h1
    refine ⟨by simp [reachBytes] at h1; omega, fun v hv => ?_⟩
    have h2 := List.all_eq_true.1 h v.s.data.toList.length (DataW.weights_mem_each ht hd _ (by
      simp only [DataW.weights, Try.underlying26, List.mem_cons, List.mem_append]
      refine .inr (.inl (weights_all (List.mem_map.2 ⟨v, hv, rfl⟩) _ ?_))
      simp [toData, DataW.weights, Try.underlying28, DataW.weightsEach]))
    rw [Array.length_toList] at h2
    exact of_decide_eq_true h2
end
end Go.Proofs.Ytdifbfhmeljblaa
