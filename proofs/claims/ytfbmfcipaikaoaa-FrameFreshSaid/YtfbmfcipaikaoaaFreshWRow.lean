/- quadrillelaw23.FrameFresh answers true at every input. -/
import Derived.Test.YtfbmfcipaikaoaaFreshW
namespace Go.Proofs.Ytfbmfcipaikaoaa
set_option linter.unusedVariables false
set_option linter.unusedSimpArgs false
open Go.RowKit Go.ChangeShapes Go.WideShapes Go.ChangeAt

set_option maxRecDepth 100000 in
theorem frameFresh_lifted (os : Os) (started : os.Started) (H : Type) (enc : TypeId × Value → H) :
    ReturnsInHanded {} Try.checked os 6 .any (Rows.frameFreshSpec.pre6 enc Try.prog Try.f6 Rows.frameFreshRow.domain false) (Rows.frameFreshSpec.post enc Try.prog Try.f6 false true false false) := by
  refine returnsInHanded_of_change_sized (C := Try.checked) own_knob started (by kernel_rfl) Try.func6
    (ChangeSpec.witness6 (enc := enc) (C := Try.checked) false ⟨#[], #[.slice none 0 0], []⟩ 8 (by kernel_rfl) (by kernel_rfl) (by kernel_rfl) (by kernel_rfl)) ?_
  intro W base args ds gs before hval0 hW _ hsz0 _
  have hval : ∀ (j : Nat) t v, Try.f6.params[j]? = some t → args[j]? = some v → Value.okWide Try.prog W .any base t v := hval0
  have hW' := hW
  obtain ⟨p, q, hA0, hV, rfl, _, _⟩ := hW
  have hA : DataW.TrodAll enc Try.prog W 0 (fun _ => true) true Try.f6.params.toList args.toList ds p := hA0
  obtain ⟨rfl, rfl⟩ := trodVars_none hV
  have hsz : (DataW.weightsEach Try.prog (Try.f6.params.toList ++ []) (ds ++ [])).all (· ≤ reachBytes) = true := hsz0
  simp only [List.append_nil] at hsz
  rw [Try.params6] at hA hval hsz
  obtain ⟨v0, d0, rfl, rfl, h0⟩ := trodAll_one hA
  obtain ⟨A, len, cap, us, rfl, hul, _, hv, hvf, hd0⟩ := open_ops (hval 0 22 v0 rfl rfl) h0
  have hs0 := sized_ops hsz (j := 0) rfl rfl hd0
  exact calls_law laidOut (by kernel_rfl) rfl Try.underlying4 rfl hW' ⟨rfl, rfl, rfl⟩ (frameFresh_walk A cap len us W hv hvf hul (by omega))

theorem frameFresh_over : Rows.frameFreshRow.holds Try.pinned (OpenSpec.ofChange Rows.frameFreshSpec) :=
  OpenClaim.holds_of_wide 6 Try.f6 rfl rfl rfl rfl rfl rfl rfl ⟨rfl, rfl, rfl, rfl, rfl⟩ rfl rfl rfl rfl rfl (by kernel_rfl) Try.func6 (by kernel_rfl)
    (of_decide_eq_true (by kernel_rfl)) (by unfold Func.isWrapper; first | (rw [if_pos (by decide +kernel)]; kernel_rfl) | (rw [if_neg (by decide +kernel)]; exact ⟨rfl, rfl⟩))
    (fun os started H enc _ => frameFresh_lifted os started H enc)

theorem frameFresh_proved : Rows.FrameFreshSaid := frameFresh_over
#print axioms frameFresh_proved
end Go.Proofs.Ytfbmfcipaikaoaa
