/- quadrillelaw32.TrendAll answers true at every input, and leaves its arguments as they were. No condition. -/
import Derived.Test.YtcgkolaljgpphaaAll
namespace Go.Proofs.Ytcgkolaljgpphaa
set_option linter.unusedVariables false
set_option linter.unusedSimpArgs false
open Go.RowKit Go.ChangeShapes Go.WideShapes Go.ChangeAt

set_option maxRecDepth 100000 in
theorem trendAll_lifted (os : Os) (started : os.Started) (H : Type) (enc : TypeId × Value → H) :
    ReturnsInHanded {} Try.checked os 3 .any (Rows.trendAllSpec.pre6 enc Try.prog Try.f3 Rows.trendAllRow.domain false) (Rows.trendAllSpec.post enc Try.prog Try.f3 false true false false) := by
  refine returnsInHanded_of_change_sized (C := Try.checked) own_knob started (by kernel_rfl) Try.func3
    (ChangeSpec.witness6 (enc := enc) (C := Try.checked) false ⟨#[], #[.slice none 0 0], []⟩ 8 (by kernel_rfl) (by kernel_rfl) (by kernel_rfl) (by kernel_rfl)) ?_
  intro W base args ds gs before hval0 hW _ hsz0 _
  have hval : ∀ (j : Nat) t v, Try.f3.params[j]? = some t → args[j]? = some v → Value.okWide Try.prog W .any base t v := hval0
  have hW' := hW
  obtain ⟨p, q, hA0, hV, rfl, _, _⟩ := hW
  have hA : DataW.TrodAll enc Try.prog W 0 (fun _ => true) true Try.f3.params.toList args.toList ds p := hA0
  obtain ⟨rfl, rfl⟩ := trodVars_none hV
  have hsz : (DataW.weightsEach Try.prog (Try.f3.params.toList ++ []) (ds ++ [])).all (· ≤ reachBytes) = true := hsz0
  simp only [List.append_nil] at hsz
  rw [Try.params3] at hA hval hsz
  obtain ⟨v0, d0, rfl, rfl, h0⟩ := trodAll_one hA
  obtain ⟨xA, xl, xc, x, rfl, rfl, xcap, xv, xwf, xd⟩ := open_vals (hval 0 22 v0 rfl rfl) h0
  have xs := sized_vals hsz (j := 0) rfl rfl xd
  exact calls_law laidOut (by kernel_rfl) rfl Try.underlying4 rfl hW' ⟨rfl, rfl, rfl⟩ (trendAll_walk xA xc x.length x W xv (fun v hv => ⟨wf64 (xwf v hv).1, wf64 (xwf v hv).2, xs.2 v hv⟩) rfl xcap (fun e => by subst e; exact nil_vals h0))

theorem trendAll_over : Rows.trendAllRow.holds Try.pinned (OpenSpec.ofChange Rows.trendAllSpec) :=
  OpenClaim.holds_of_wide 3 Try.f3 rfl rfl rfl rfl rfl rfl rfl ⟨rfl, rfl, rfl, rfl, rfl⟩ rfl rfl rfl rfl rfl (by kernel_rfl) Try.func3 (by kernel_rfl)
    (of_decide_eq_true (by kernel_rfl)) (by unfold Func.isWrapper; first | (rw [if_pos (by decide +kernel)]; kernel_rfl) | (rw [if_neg (by decide +kernel)]; exact ⟨rfl, rfl⟩))
    (fun os started H enc _ => trendAll_lifted os started H enc)

theorem trendAll_proved : Rows.TrendAllSaid := trendAll_over
#print axioms trendAll_proved
end Go.Proofs.Ytcgkolaljgpphaa
