/- quadrillelaw23.FrameApart answers true at every input. -/
import Derived.Test.YtfbmfcipaikaoaaApart
namespace Go.Proofs.Ytfbmfcipaikaoaa
set_option linter.unusedVariables false
set_option linter.unusedSimpArgs false
open Go.RowKit Go.ChangeShapes Go.WideShapes Go.ChangeAt Go.Deep

theorem b27 : Try.prog.bytesOf 27 = 16 := by kernel_rfl

section
variable {H : Type} {enc : TypeId × Value → H}
theorem open_spots {W : World} {r : Reach} {b0 : Nat} {v : Value} {d : DataW H} {p : List MemPlace} (hv : Value.okWide Try.prog W r b0 45 v) (h : DataW.Trod enc Try.prog W 0 (fun _ => true) true 45 v d p) :
    ∃ A len cap us, v = .slice A len cap ∧ us.length = len ∧ len ≤ cap ∧ SpotsAt W A us ∧ (∀ u ∈ us, I64 u.1 ∧ I64 u.2) ∧ ((d = .nil ∧ us = []) ∨ ∃ es spare, d = .slice es spare ∧ es.length = us.length) := by
  obtain ⟨A, len, cap, rfl⟩ := okWide_slice Try.underlying45 hv
  obtain ⟨fuel, hf⟩ := h
  rcases open_slice Try.underlying45 hf with ⟨hcs, hx⟩ | ⟨a, len', cap', m, n, D, Pl, hcs, _, hl, hm, hmm, hx, hel⟩
  · simp [Value.cells] at hcs hx
    obtain ⟨rfl, rfl, rfl⟩ := hcs
    exact ⟨none, 0, 0, [], rfl, rfl, Nat.le_refl _, fun i s hi => by simp at hi, fun u hu => by simp at hu, .inl ⟨hx.1, rfl⟩⟩
  · simp [Value.cells] at hcs hx
    obtain ⟨rfl, rfl, rfl⟩ := hcs
    have hmc : m = cap := by simpa using hmm
    subst hmc
    rw [cSp] at hel
    obtain ⟨f, hfv⟩ := choose_lt (α := Int × Int) (n := m) (p := fun i u => W.cells? 0 (a.add (i * 2)) 2 = some [.int .i64 u.1, .int .i64 u.2] ∧ I64 u.1 ∧ I64 u.2) (fun i hi => by
      obtain ⟨cs', h1, h2⟩ := hel i hi
      obtain ⟨x, y, rfl, hw1, hw2⟩ := spot_cells h2
      exact ⟨(x, y), h1, wf64 hw1, wf64 hw2⟩)
    refine ⟨some a, len, m, (List.range len).map f, rfl, by simp, hl, ?_, ?_, .inr ⟨_, _, hx.1, by simp⟩⟩
    · intro i s hi
      have hi' : i < len := by have := (List.getElem?_eq_some_iff.1 hi).1; simpa using this
      have e : s = f i := by simp [hi'] at hi; exact hi.symm
      subst e
      have hc := (hfv i (by omega)).1
      obtain ⟨_, _, hcell⟩ := World.cells?_some hc
      obtain ⟨b, off, spot⟩ := a
      have hs : spot = none := by
        cases spot with
        | none => rfl
        | some x =>
          exfalso
          obtain ⟨_, _, hcell0⟩ := World.cells?_some (hfv 0 (by omega)).1
          have h00 := hcell0 0 (by omega)
          have e0 : ((⟨b, off, some x⟩ : Addr).add (0 * 2)).add 0 = ⟨b, off, some x⟩ := rfl
          rw [e0, no_spot] at h00
          cases h00
      subst hs
      have k0 := hcell 0 (by omega)
      have k1 := hcell 1 (by omega)
      simp only [add_add, Addr.add_lit] at k0 k1
      exact ⟨b, off, rfl, World.block_lt_of_cell? W _ (by simpa using k0), by simpa [Nat.add_assoc] using k0, by simpa [Nat.add_assoc] using k1⟩
    · intro u hu
      obtain ⟨i, hi, rfl⟩ := List.mem_map.1 hu
      exact (hfv i (by simp at hi; omega)).2

theorem sized_spots {ts : List TypeId} {ds : List (DataW H)} (h : (DataW.weightsEach Try.prog ts ds).all (· ≤ reachBytes) = true) {j : Nat} (ht : ts[j]? = some 45) {us : List (Int × Int)} {d : DataW H} (hd : ds[j]? = some d)
    (hdd : (d = .nil ∧ us = []) ∨ ∃ es spare, d = .slice es spare ∧ es.length = us.length) : us.length * 16 ≤ 140737488351232 := by
  rcases hdd with ⟨rfl, rfl⟩ | ⟨es, spare, rfl, he⟩
  · simp
  · have h1 := sized_slice h ht hd Try.underlying45
    rw [b27] at h1
    simp [reachBytes] at h1
    omega
end

set_option maxRecDepth 100000 in
theorem frameApart_lifted (os : Os) (started : os.Started) (H : Type) (enc : TypeId × Value → H) :
    ReturnsInHanded {} Try.checked os 4 .any (Rows.frameApartSpec.pre6 enc Try.prog Try.f4 Rows.frameApartRow.domain false) (Rows.frameApartSpec.post enc Try.prog Try.f4 false true false false) := by
  refine returnsInHanded_of_change_sized (C := Try.checked) own_knob started (by kernel_rfl) Try.func4
    (ChangeSpec.witness6 (enc := enc) (C := Try.checked) false ⟨#[], #[.slice none 0 0, .int .i64 0], []⟩ 8 (by kernel_rfl) (by kernel_rfl) (by kernel_rfl) (by kernel_rfl)) ?_
  intro W base args ds gs before hval0 hW _ hsz0 _
  have hval : ∀ (j : Nat) t v, Try.f4.params[j]? = some t → args[j]? = some v → Value.okWide Try.prog W .any base t v := hval0
  have hW' := hW
  obtain ⟨p, q, hA0, hV, rfl, _, _⟩ := hW
  have hA : DataW.TrodAll enc Try.prog W 0 (fun _ => true) true Try.f4.params.toList args.toList ds p := hA0
  obtain ⟨rfl, rfl⟩ := trodVars_none hV
  have hsz : (DataW.weightsEach Try.prog (Try.f4.params.toList ++ []) (ds ++ [])).all (· ≤ reachBytes) = true := hsz0
  simp only [List.append_nil] at hsz
  rw [Try.params4] at hA hval hsz
  obtain ⟨v0, v1, d0, d1, p0, p1, rfl, rfl, rfl, h0, h1⟩ := trodAll_two hA
  obtain ⟨A, len, cap, us, rfl, hul, hlc, hv, hvf, hd0⟩ := open_spots (hval 0 45 v0 rfl rfl) h0
  have hs0 := sized_spots hsz (j := 0) rfl rfl hd0
  obtain ⟨kd, rfl, _, _, kw⟩ := open_int Try.underlying3 (hval 1 3 v1 rfl rfl) h1
  exact calls_law laidOut (by kernel_rfl) rfl Try.underlying4 rfl hW' ⟨rfl, rfl, rfl⟩ (frameApart_walk A cap len us kd W hv hvf hul (by omega) hlc (wf64 kw))

theorem frameApart_over : Rows.frameApartRow.holds Try.pinned (OpenSpec.ofChange Rows.frameApartSpec) :=
  OpenClaim.holds_of_wide 4 Try.f4 rfl rfl rfl rfl rfl rfl rfl ⟨rfl, rfl, rfl, rfl, rfl⟩ rfl rfl rfl rfl rfl (by kernel_rfl) Try.func4 (by kernel_rfl)
    (of_decide_eq_true (by kernel_rfl)) (by unfold Func.isWrapper; first | (rw [if_pos (by decide +kernel)]; kernel_rfl) | (rw [if_neg (by decide +kernel)]; exact ⟨rfl, rfl⟩))
    (fun os started H enc _ => frameApart_lifted os started H enc)

theorem frameApart_proved : Rows.FrameApartSaid := frameApart_over
#print axioms frameApart_proved
end Go.Proofs.Ytfbmfcipaikaoaa
