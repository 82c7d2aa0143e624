/- AreaAll: a script of calls opened; the walk. -/
import Derived.Deep.DeepMust
import Derived.Test.YthcogckkeegokaaPlays
import Derived.Test.YthcogckkeegokaaFrame
namespace Go.Proofs.Ythcogckkeegokaa
set_option linter.unusedVariables false
set_option linter.unusedSimpArgs false
open Go.ChangeShapes Go.WideShapes Go.ChangeAt Go.RowKit Go.Deep

theorem cells45 : Try.prog.cellsOf 45 = 15 := by kernel_rfl
theorem bytes45 : Try.prog.bytesOf 45 = 120 := by kernel_rfl
theorem cells2' : Try.prog.cellsOf 2 = 1 := by kernel_rfl

/-- One call: its kind, two areas, two places, two numbers. -/
structure OpV where
  a0 : Int
  a1 : Int
  a2 : Int
  a3 : Int
  a4 : Int
  a5 : Int
  a6 : Int
  a7 : Int
  a8 : Int
  a9 : Int
  a10 : Int
  a11 : Int
  a12 : Int
  a13 : Int
  a14 : Int

instance : Inhabited OpV := ⟨⟨0, 0, 0, 0, 0, 0, 0, 0, 0, 0, 0, 0, 0, 0, 0⟩⟩

def OpV.cells (u : OpV) : List Value := [.int .i64 u.a0, .int .i64 u.a1, .int .i64 u.a2, .int .i64 u.a3, .int .i64 u.a4, .int .i64 u.a5, .int .i64 u.a6, .int .i64 u.a7, .int .i64 u.a8, .int .i64 u.a9, .int .i64 u.a10, .int .i64 u.a11, .int .i64 u.a12, .int .i64 u.a13, .int .i64 u.a14]

/-- The slice at address A reads as the calls us. -/
def OpsAt (W : World) (A : Option Addr) (us : List OpV) : Prop :=
  ∀ i, i < us.length → ∃ b off, A = some ⟨b, off, none⟩ ∧ b < W.heap.size ∧ W.cell? ⟨b, off + i * 15, none⟩ = some (.int .i64 (us.getD i default).a0) ∧ W.cell? ⟨b, off + i * 15 + 1, none⟩ = some (.int .i64 (us.getD i default).a1) ∧ W.cell? ⟨b, off + i * 15 + 2, none⟩ = some (.int .i64 (us.getD i default).a2) ∧ W.cell? ⟨b, off + i * 15 + 3, none⟩ = some (.int .i64 (us.getD i default).a3) ∧ W.cell? ⟨b, off + i * 15 + 4, none⟩ = some (.int .i64 (us.getD i default).a4) ∧ W.cell? ⟨b, off + i * 15 + 5, none⟩ = some (.int .i64 (us.getD i default).a5) ∧ W.cell? ⟨b, off + i * 15 + 6, none⟩ = some (.int .i64 (us.getD i default).a6) ∧ W.cell? ⟨b, off + i * 15 + 7, none⟩ = some (.int .i64 (us.getD i default).a7) ∧ W.cell? ⟨b, off + i * 15 + 8, none⟩ = some (.int .i64 (us.getD i default).a8) ∧ W.cell? ⟨b, off + i * 15 + 9, none⟩ = some (.int .i64 (us.getD i default).a9) ∧ W.cell? ⟨b, off + i * 15 + 10, none⟩ = some (.int .i64 (us.getD i default).a10) ∧ W.cell? ⟨b, off + i * 15 + 11, none⟩ = some (.int .i64 (us.getD i default).a11) ∧ W.cell? ⟨b, off + i * 15 + 12, none⟩ = some (.int .i64 (us.getD i default).a12) ∧ W.cell? ⟨b, off + i * 15 + 13, none⟩ = some (.int .i64 (us.getD i default).a13) ∧ W.cell? ⟨b, off + i * 15 + 14, none⟩ = some (.int .i64 (us.getD i default).a14)

theorem OpsAt.below {W W' : World} {A : Option Addr} {us : List OpV} (h : OpsAt W A us) (hb : Below W.heap.size W W') : OpsAt W' A us := fun i hi => by
  obtain ⟨b, off, hA, hlt, h0, h1, h2, h3, h4, h5, h6, h7, h8, h9, h10, h11, h12, h13, h14⟩ := h i hi
  exact ⟨b, off, hA, Nat.lt_of_lt_of_le hlt hb.size, cell_below h0 hb, cell_below h1 hb, cell_below h2 hb, cell_below h3 hb, cell_below h4 hb, cell_below h5 hb, cell_below h6 hb, cell_below h7 hb, cell_below h8 hb, cell_below h9 hb, cell_below h10 hb, cell_below h11 hb, cell_below h12 hb, cell_below h13 hb, cell_below h14 hb⟩

theorem list15 {α : Type} {cs : List α} (h : cs.length = 15) : ∃ c0 c1 c2 c3 c4 c5 c6 c7 c8 c9 c10 c11 c12 c13 c14, cs = [c0, c1, c2, c3, c4, c5, c6, c7, c8, c9, c10, c11, c12, c13, c14] := by
  match cs, h with
  | [c0, c1, c2, c3, c4, c5, c6, c7, c8, c9, c10, c11, c12, c13, c14], _ => exact ⟨c0, c1, c2, c3, c4, c5, c6, c7, c8, c9, c10, c11, c12, c13, c14, rfl⟩

theorem list7 {α : Type} {cs : List α} (h : cs.length = 7) : ∃ c0 c1 c2 c3 c4 c5 c6, cs = [c0, c1, c2, c3, c4, c5, c6] := by
  match cs, h with
  | [c0, c1, c2, c3, c4, c5, c6], _ => exact ⟨c0, c1, c2, c3, c4, c5, c6, rfl⟩

section
variable {H : Type} {enc : TypeId × Value → H}

theorem area_cells {W : World} {sp : Nat → Bool} {n : Nat} {cs : List Value} {z : DataW H × List MemPlace} (h : DataW.trod enc Try.prog W 0 sp true n 23 cs = some z) :
    ∃ a b c e : Int, cs = [.int .i64 a, .int .i64 b, .int .i64 c, .int .i64 e] := by
  obtain ⟨y0, y1, y2, y3, m, rfl, hl, h0, h1, h2, h3⟩ := Joins.trod_struct4 Try.underlying23 h
  rw [cells23] at hl
  match cs, hl with
  | [c0, c1, c2, c3], _ =>
    simp only [cells3, List.drop_zero, List.drop_succ_cons, List.take_succ_cons, List.take_zero] at h0 h1 h2 h3
    obtain ⟨a, e0, _, _⟩ := DataW.trod_int Try.underlying3 h0
    obtain ⟨b, e1, _, _⟩ := DataW.trod_int Try.underlying3 h1
    obtain ⟨c, e2, _, _⟩ := DataW.trod_int Try.underlying3 h2
    obtain ⟨e, e3, _, _⟩ := DataW.trod_int Try.underlying3 h3
    simp only [List.cons.injEq, and_true] at e0 e1 e2 e3
    exact ⟨a, b, c, e, by simp [e0, e1, e2, e3]⟩

theorem spot_cells {W : World} {sp : Nat → Bool} {n : Nat} {cs : List Value} {z : DataW H × List MemPlace} (h : DataW.trod enc Try.prog W 0 sp true n 30 cs = some z) :
    ∃ a b : Int, cs = [.int .i64 a, .int .i64 b] := by
  obtain ⟨y0, y1, m, rfl, hl, h0, h1⟩ := trod_struct2 Try.underlying30 h
  rw [cells30] at hl
  match cs, hl with
  | [c0, c1], _ =>
    simp only [cells3, List.drop_zero, List.drop_succ_cons, List.take_succ_cons, List.take_zero] at h0 h1
    obtain ⟨a, e0, _, _⟩ := DataW.trod_int Try.underlying3 h0
    obtain ⟨b, e1, _, _⟩ := DataW.trod_int Try.underlying3 h1
    simp only [List.cons.injEq, and_true] at e0 e1
    exact ⟨a, b, by simp [e0, e1]⟩

theorem elem_op {W : World} {sp : Nat → Bool} {n : Nat} {cs : List Value} {z : DataW H × List MemPlace} (h : DataW.trod enc Try.prog W 0 sp true n 45 cs = some z) : ∃ u : OpV, cs = u.cells := by
  obtain ⟨xs, n, _, rfl, hl, hlen, hf⟩ := DataW.trod_struct Try.underlying45 h
  rw [cells45] at hl
  obtain ⟨c0, c1, c2, c3, c4, c5, c6, c7, c8, c9, c10, c11, c12, c13, c14, rfl⟩ := list15 hl
  obtain ⟨y0, y1, y2, y3, y4, y5, y6, rfl⟩ := list7 hlen
  have h0 : DataW.trod enc Try.prog W 0 sp true n 3 ((List.drop 0 [c0, c1, c2, c3, c4, c5, c6, c7, c8, c9, c10, c11, c12, c13, c14]).take (Try.prog.cellsOf 3)) = some y0 := hf 0 _ rfl
  have h1 : DataW.trod enc Try.prog W 0 sp true n 23 ((List.drop 1 [c0, c1, c2, c3, c4, c5, c6, c7, c8, c9, c10, c11, c12, c13, c14]).take (Try.prog.cellsOf 23)) = some y1 := hf 1 _ rfl
  have h2 : DataW.trod enc Try.prog W 0 sp true n 23 ((List.drop 5 [c0, c1, c2, c3, c4, c5, c6, c7, c8, c9, c10, c11, c12, c13, c14]).take (Try.prog.cellsOf 23)) = some y2 := hf 2 _ rfl
  have h3 : DataW.trod enc Try.prog W 0 sp true n 30 ((List.drop 9 [c0, c1, c2, c3, c4, c5, c6, c7, c8, c9, c10, c11, c12, c13, c14]).take (Try.prog.cellsOf 30)) = some y3 := hf 3 _ rfl
  have h4 : DataW.trod enc Try.prog W 0 sp true n 30 ((List.drop 11 [c0, c1, c2, c3, c4, c5, c6, c7, c8, c9, c10, c11, c12, c13, c14]).take (Try.prog.cellsOf 30)) = some y4 := hf 4 _ rfl
  have h5 : DataW.trod enc Try.prog W 0 sp true n 2 ((List.drop 13 [c0, c1, c2, c3, c4, c5, c6, c7, c8, c9, c10, c11, c12, c13, c14]).take (Try.prog.cellsOf 2)) = some y5 := hf 5 _ rfl
  have h6 : DataW.trod enc Try.prog W 0 sp true n 2 ((List.drop 14 [c0, c1, c2, c3, c4, c5, c6, c7, c8, c9, c10, c11, c12, c13, c14]).take (Try.prog.cellsOf 2)) = some y6 := hf 6 _ rfl
  simp only [cells3, cells23, cells30, cells2', List.drop_zero, List.drop_succ_cons, List.take_succ_cons, List.take_zero] at h0 h1 h2 h3 h4 h5 h6
  obtain ⟨x0, e0, _, _⟩ := DataW.trod_int Try.underlying3 h0
  obtain ⟨x1, x2, x3, x4, e1⟩ := area_cells h1
  obtain ⟨x5, x6, x7, x8, e2⟩ := area_cells h2
  obtain ⟨x9, x10, e3⟩ := spot_cells h3
  obtain ⟨x11, x12, e4⟩ := spot_cells h4
  obtain ⟨x13, e5, _, _⟩ := DataW.trod_int Try.underlying2 h5
  obtain ⟨x14, e6, _, _⟩ := DataW.trod_int Try.underlying2 h6
  simp only [List.cons.injEq, and_true] at e0 e1 e2 e3 e4 e5 e6
  exact ⟨⟨x0, x1, x2, x3, x4, x5, x6, x7, x8, x9, x10, x11, x12, x13, x14⟩, by simp [OpV.cells, e0, e1, e2, e3, e4, e5, e6]⟩

theorem no_spot (W : World) (b off x : Nat) : W.cell? ⟨b, off, some x⟩ = none := by
  unfold World.cell?
  split <;> simp

theorem open_ops {W : World} {r : Reach} {b0 : Nat} {v : Value} {d : DataW H} {p : List MemPlace} (hv : Value.okWide Try.prog W r b0 42 v) (h : DataW.Trod enc Try.prog W 0 (fun _ => true) true 42 v d p) :
    ∃ A len cap us, v = .slice A len cap ∧ us.length = len ∧ len ≤ cap ∧ OpsAt W A us ∧ ((d = .nil ∧ us = []) ∨ ∃ es spare, d = .slice es spare ∧ es.length = us.length) := by
  obtain ⟨A, len, cap, rfl⟩ := okWide_slice Try.underlying42 hv
  obtain ⟨fuel, hf⟩ := h
  rcases open_slice Try.underlying42 hf with ⟨hcs, hx⟩ | ⟨a, len', cap', m, n, D, Pl, hcs, _, hl, hm, hmm, hx, hel⟩
  · simp [Value.cells] at hcs hx
    obtain ⟨rfl, rfl, rfl⟩ := hcs
    exact ⟨none, 0, 0, [], rfl, rfl, Nat.le_refl _, fun i hi => by simp at hi, .inl ⟨hx.1, rfl⟩⟩
  · simp [Value.cells] at hcs hx
    obtain ⟨rfl, rfl, rfl⟩ := hcs
    have hmc : m = cap := by simpa using hmm
    subst hmc
    rw [cells45] at hel
    obtain ⟨f, hfv⟩ := choose_lt (α := OpV) (n := m) (p := fun i u => W.cells? 0 (a.add (i * 15)) 15 = some u.cells) (fun i hi => by
      obtain ⟨cs', h1, h2⟩ := hel i hi
      obtain ⟨u, rfl⟩ := elem_op h2
      exact ⟨u, h1⟩)
    refine ⟨some a, len, m, (List.range len).map f, rfl, by simp, hl, ?_, .inr ⟨_, _, hx.1, by simp⟩⟩
    intro i hi
    simp at hi
    have hc := hfv i (by omega)
    obtain ⟨_, _, hcell⟩ := World.cells?_some hc
    have e : ((List.range len).map f).getD i default = f i := by simp [List.getD, hi]
    rw [e]
    obtain ⟨b, off, spot⟩ := a
    have hs : spot = none := by
      cases spot with
      | none => rfl
      | some x =>
        exfalso
        obtain ⟨_, _, hcell0⟩ := World.cells?_some (hfv 0 (by omega))
        have h00 := hcell0 0 (by omega)
        have e0 : ((⟨b, off, some x⟩ : Addr).add (0 * 15)).add 0 = ⟨b, off, some x⟩ := rfl
        rw [e0, no_spot] at h00
        cases h00
    subst hs
    have k0 := hcell 0 (by omega)
    have k1 := hcell 1 (by omega)
    have k2 := hcell 2 (by omega)
    have k3 := hcell 3 (by omega)
    have k4 := hcell 4 (by omega)
    have k5 := hcell 5 (by omega)
    have k6 := hcell 6 (by omega)
    have k7 := hcell 7 (by omega)
    have k8 := hcell 8 (by omega)
    have k9 := hcell 9 (by omega)
    have k10 := hcell 10 (by omega)
    have k11 := hcell 11 (by omega)
    have k12 := hcell 12 (by omega)
    have k13 := hcell 13 (by omega)
    have k14 := hcell 14 (by omega)
    simp only [add_add, Addr.add_lit, OpV.cells] at k0 k1 k2 k3 k4 k5 k6 k7 k8 k9 k10 k11 k12 k13 k14
    refine ⟨b, off, rfl, World.block_lt_of_cell? W _ (by simpa using k0), by simpa [Nat.add_assoc] using k0, by simpa [Nat.add_assoc] using k1, by simpa [Nat.add_assoc] using k2, by simpa [Nat.add_assoc] using k3, by simpa [Nat.add_assoc] using k4, by simpa [Nat.add_assoc] using k5, by simpa [Nat.add_assoc] using k6, by simpa [Nat.add_assoc] using k7, by simpa [Nat.add_assoc] using k8, by simpa [Nat.add_assoc] using k9, by simpa [Nat.add_assoc] using k10, by simpa [Nat.add_assoc] using k11, by simpa [Nat.add_assoc] using k12, by simpa [Nat.add_assoc] using k13, by simpa [Nat.add_assoc] using k14⟩

theorem sized_ops {ts : List TypeId} {ds : List (DataW H)} (h : (DataW.weightsEach Try.prog ts ds).all (· ≤ reachBytes) = true) {j : Nat} (ht : ts[j]? = some 42) {us : List OpV} {d : DataW H} (hd : ds[j]? = some d)
    (hdd : (d = .nil ∧ us = []) ∨ ∃ es spare, d = .slice es spare ∧ es.length = us.length) : us.length * 120 ≤ 140737488351232 := by
  rcases hdd with ⟨rfl, rfl⟩ | ⟨es, spare, rfl, he⟩
  · simp
  · have h1 := sized_slice h ht hd Try.underlying42
    rw [bytes45] at h1
    simp [reachBytes] at h1
    omega
end

set_option maxRecDepth 100000 in
set_option maxHeartbeats 1000000 in
theorem all_walk (A : Option Addr) (cap : Nat) (us : List OpV) (w : World) (h : OpsAt w A us) (hl : us.length * 120 ≤ 140737488351232) :
    Calls Try.prog 6 #[.slice A us.length cap] w fun e w' => e = .returned (.bool true) ∧ Below w.heap.size w w' := by
  have HV := Lib.hid h
  clear h
  go_enter Try.func6, Try.ntmps6
  go_wp2_with fail
  refine (begun8 _).mono ?_
  rintro e w1 ⟨rfl, hb1⟩
  have HB := Lib.hid hb1
  clear hb1
  go_wp2_with fail
  go_loopw [3] (fun i wr => ∃ j : Nat, j ≤ us.length ∧ i = .int .i64 j ∧ Below w.heap.size w wr) (fun i _ => us.length - (intOf i).toNat)
  case atStart => exact ⟨0, by omega, rfl, HB.out⟩
  case round =>
    obtain ⟨j, hj, rfl, hb⟩ := hrel
    clear HB
    have HB := Lib.hid hb
    clear hb
    by_cases hlt : j < us.length
    · obtain ⟨g, off, rfl, hg, h0, h1, h2, h3, h4, h5, h6, h7, h8, h9, h10, h11, h12, h13, h14⟩ := (HV.out.below HB.out) j hlt
      clear hg
      generalize us.getD j default = u at h0 h1 h2 h3 h4 h5 h6 h7 h8 h9 h10 h11 h12 h13 h14
      go_wp2_with fail
      refine (plays16 u.a0 u.a1 u.a2 u.a3 u.a4 u.a5 u.a6 u.a7 u.a8 u.a9 u.a10 u.a11 u.a12 u.a13 u.a14 _).mono ?_
      rintro e w2 ⟨rfl, hb2⟩
      replace HB := Lib.hid (HB.out.trans (hb2.mono HB.out.size))
      clear hb2 h0 h1 h2 h3 h4 h5 h6 h7 h8 h9 h10 h11 h12 h13 h14
      go_wp2_with fail
      go_roundw
      case rel => exact ⟨j + 1, by omega, by go_num, HB.out⟩
      case measure => simp [intOf]; omega
    · obtain rfl : j = us.length := by omega
      go_wp2_with fail
      go_ret
      exact ⟨rfl, HB.out⟩
end Go.Proofs.Ythcogckkeegokaa
