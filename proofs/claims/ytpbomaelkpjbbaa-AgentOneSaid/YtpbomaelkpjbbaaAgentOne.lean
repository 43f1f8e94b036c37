/- The law AgentOne of the package frankpledgelaw22 returns true for every tape, and leaves it as it was. -/
import Derived.Test.YtpbomaelkpjbbaaC23
import Derived.Test.YtpbomaelkpjbbaaFwLift
namespace Go.Proofs.Ytpbomaelkpjbbaa
open Go.Fw Go.ChangeShapes Go.WideShapes Go.ChangeAt Go.RowKit
theorem own_knob : ownKnob Try.prog.godebug = none := by kernel_rfl
theorem laid_out : laidOutB Try.prog = true := by kernel_rfl
set_option maxRecDepth 100000 in
theorem agentOne_lifted (os : Os) (started : os.Started) (H : Type) (enc : TypeId × Value → H) :
    ReturnsInHanded {} Try.checked os 9 .any (Rows.agentOneSpec.pre6 enc Try.prog Try.f9 Rows.agentOneRow.domain false) (Rows.agentOneSpec.post enc Try.prog Try.f9 false true false false) := by
  refine returnsInHanded_of_change (C := Try.checked) own_knob started (by kernel_rfl) Try.func9
    (ChangeSpec.witness6 (enc := enc) (C := Try.checked) false ⟨#[], #[.slice none 0 0], []⟩ 8 (by kernel_rfl) (by kernel_rfl) (by kernel_rfl) (by kernel_rfl)) ?_
  intro W base args ds gs before hval hW _ _
  have hW' := hW
  obtain ⟨p, q, hA0, hV, rfl, hfz, hnd⟩ := hW
  have hA : DataW.TrodAll enc Try.prog W 0 (fun _ => true) true Try.f9.params.toList args.toList ds p := hA0
  rw [Try.params9] at hA hval
  obtain ⟨v0, d0, rfl, rfl, h0⟩ := trodAll_one hA
  obtain ⟨rfl, rfl⟩ := trodVars_none hV
  obtain ⟨x, xs, hx0, hro, hb⟩ := open_row_int Try.underlying22 Try.underlying3 (by kernel_rfl) h0 (okWide_slice Try.underlying22 (hval 0 22 v0 rfl rfl))
  obtain ⟨a, n, c, hv0⟩ := okWide_slice Try.underlying22 (hval 0 22 v0 rfl rfl)
  subst hx0
  subst hv0
  refine law_post laid_out (by kernel_rfl) rfl rfl Try.underlying4 rfl hW' ?_
  exact Ctr.grown (law_AgentOne false ⟨a, n, c⟩ xs hb) (fun A hA => by
    rw [List.mem_singleton] at hA
    subst hA
    exact hro)
set_option maxRecDepth 100000 in
theorem agentOne_holds : Rows.AgentOneSaid :=
  OpenClaim.holds_of_wide 9 Try.f9 rfl rfl rfl rfl rfl rfl rfl ⟨rfl, rfl, rfl, rfl, rfl⟩ rfl rfl rfl rfl rfl (by kernel_rfl) Try.func9 (by kernel_rfl)
    (of_decide_eq_true (by kernel_rfl)) (by unfold Func.isWrapper; first | (rw [if_pos (by decide +kernel)]; kernel_rfl) | (rw [if_neg (by decide +kernel)]; exact ⟨rfl, rfl⟩))
    (fun os started H enc _ => agentOne_lifted os started H enc)
end Go.Proofs.Ytpbomaelkpjbbaa

