/- quadrillelaw6.HashAll answers true at every input, and leaves its arguments as they were. No condition. -/
import Derived.Test.YtdifbfhmeljblaaAll
namespace Go.Proofs.Ytdifbfhmeljblaa
set_option linter.unusedVariables false
set_option linter.unusedSimpArgs false
open Go.RowKit

open Go.ChangeShapes Go.WideShapes Go.ChangeAt

set_option maxRecDepth 100000 in
theorem hashAll_lifted (os : Os) (started : os.Started) (H : Type) (enc : TypeId × Value → H) :
    ReturnsInHanded {} Try.checked os 4 .any (Rows.hashAllSpec.pre6 enc Try.prog Try.f4 Rows.hashAllRow.domain false) (Rows.hashAllSpec.post enc Try.prog Try.f4 false true false false) := by
  refine returnsInHanded_of_change_sized (C := Try.checked) own_knob started (by kernel_rfl) Try.func4
    (ChangeSpec.witness6 (enc := enc) (C := Try.checked) false ⟨#[], #[.slice none 0 0, .slice none 0 0], []⟩ 8 (by kernel_rfl) (by kernel_rfl) (by kernel_rfl) (by kernel_rfl)) ?_
  intro W base args ds gs before hval0 hW _ hsz0 _
  have hval : ∀ (j : Nat) t v, Try.f4.params[j]? = some t → args[j]? = some v → Value.okWide Try.prog W .any base t v := hval0
  have hW' := hW
  obtain ⟨p, q, hA0, hV, rfl, _, _⟩ := hW
  have hA : DataW.TrodAll enc Try.prog W 0 (fun _ => true) true Try.f4.params.toList args.toList ds p := hA0
  obtain ⟨rfl, rfl⟩ := trodVars_none hV
  have hsz : (DataW.weightsEach Try.prog (Try.f4.params.toList ++ []) (ds ++ [])).all (· ≤ reachBytes) = true := hsz0
  simp only [List.append_nil] at hsz
  rw [Try.params4] at hA hval hsz
  obtain ⟨v0, v1, d0, d1, p0, p1, rfl, rfl, rfl, h0, h1⟩ := trodAll_two hA
  obtain ⟨A, len, cap, vs, rfl, rfl, _, hv, hwf, hd0⟩ := open_vals (hval 0 26 v0 rfl rfl) h0
  obtain ⟨A2, len2, cap2, ws, rfl, rfl, _, hw, _, hd1⟩ := open_wide (hval 1 24 v1 rfl rfl) h1
  have hs0 := sized_vals hsz (j := 0) rfl rfl hd0
  have hs1 := sized_wide hsz (j := 1) rfl rfl hd1
  exact calls_law laidOut (by kernel_rfl) rfl Try.underlying4 rfl hW' ⟨rfl, rfl, rfl⟩
    (hashAll_walk A A2 cap cap2 vs ws W hv (fun v hv => ⟨wf64 (hwf v hv).1, wf64 (hwf v hv).2, hs0.2 v hv⟩) hs0.1 hw hs1)

theorem hashAll_over : Rows.hashAllRow.holds Try.pinned (OpenSpec.ofChange Rows.hashAllSpec) :=
  OpenClaim.holds_of_wide 4 Try.f4 rfl rfl rfl rfl rfl rfl rfl ⟨rfl, rfl, rfl, rfl, rfl⟩ rfl rfl rfl rfl rfl (by kernel_rfl) Try.func4 (by kernel_rfl)
    (of_decide_eq_true (by kernel_rfl)) (by unfold Func.isWrapper; first | (rw [if_pos (by decide +kernel)]; kernel_rfl) | (rw [if_neg (by decide +kernel)]; exact ⟨rfl, rfl⟩))
    (fun os started H enc _ => hashAll_lifted os started H enc)

theorem hashAll_proved : Rows.HashAllSaid := hashAll_over
#print axioms hashAll_proved
end Go.Proofs.Ytdifbfhmeljblaa
