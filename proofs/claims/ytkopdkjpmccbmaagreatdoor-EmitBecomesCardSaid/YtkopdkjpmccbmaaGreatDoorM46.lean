/- A part of the proof of: EmitBecomes: what a term becomes by patterns, and a pattern's name, is what the document says, or the error is told. -/
import Derived.Test.YtkopdkjpmccbmaaGreatDoorM44
import Derived.Test.YtkopdkjpmccbmaaGreatDoorM45
namespace Go.Proofs.YtkopdkjpmccbmaaGreatDoor
open Go.RowKit Go.Proofs Go.ChangeShapes Go.WideShapes Go.ChangeAt Go.AM
variable (hk : ∃ fuel τ, AM.call tab fuel (.fn 6) [] ⟨[], 0⟩ = some (.bool true, τ)) (hlaw : EmitBecomesLaw)
include hk hlaw

theorem said : Rows.EmitBecomesSaid :=
  OpenClaim.holds_of_cond 3 Tryz.f3 rfl rfl rfl rfl rfl rfl rfl ⟨rfl, rfl, rfl, rfl, rfl⟩ rfl rfl rfl rfl rfl (by as_aux_lemma => kernel_rfl) Tryz.func3 facts
    (of_decide_eq_true (by as_aux_lemma => kernel_rfl)) (by as_aux_lemma => unfold Func.isWrapper; first | (rw [if_pos (by decide +kernel)]; kernel_rfl) | (rw [if_neg (by decide +kernel)]; exact ⟨rfl, rfl⟩))
    (fun os started H enc _ F => by rw [OpenClaim.pre_eq_preRow]; exact lifted hk hlaw os started H enc F)

end Go.Proofs.YtkopdkjpmccbmaaGreatDoor
