/- A part of the proof of: PlanPatterns: a pattern of a Call, and which of some patterns covers it, is what the document says, or the error is told. -/
import Derived.Test.YtadgboblgclfgaaGreatDoorM30
import Derived.Test.YtadgboblgclfgaaGreatDoorM31
namespace Go.Proofs.YtadgboblgclfgaaGreatDoor
open Go.RowKit Go.Proofs Go.ChangeShapes Go.WideShapes Go.ChangeAt Go.AM
variable (hk : ∃ fuel τ, AM.call tab fuel (.fn 26) [] ⟨[], 0⟩ = some (.bool true, τ)) (hlaw : PlanPatternsLaw)
include hk hlaw

theorem said : Rows.PlanPatternsSaid :=
  OpenClaim.holds_of_cond 5 Tryz.f5 rfl rfl rfl rfl rfl rfl rfl ⟨rfl, rfl, rfl, rfl, rfl⟩ rfl rfl rfl rfl rfl (by as_aux_lemma => kernel_rfl) Tryz.func5 facts
    (of_decide_eq_true (by as_aux_lemma => kernel_rfl)) (by as_aux_lemma => unfold Func.isWrapper; first | (rw [if_pos (by decide +kernel)]; kernel_rfl) | (rw [if_neg (by decide +kernel)]; exact ⟨rfl, rfl⟩))
    (fun os started H enc _ F => by rw [OpenClaim.pre_eq_preRow]; exact lifted hk hlaw os started H enc F)

end Go.Proofs.YtadgboblgclfgaaGreatDoor
