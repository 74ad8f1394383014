/- A part of the proof of: PlanPatterns: a pattern of a Call, and which of some patterns covers it, is what the document says, or the error is told. -/
import Derived.Test.YtadgboblgclfgaaGreatDoorM32
namespace Go.Proofs.YtadgboblgclfgaaGreatDoor
open Go.RowKit Go.Proofs Go.ChangeShapes Go.WideShapes Go.ChangeAt Go.AM
variable (hk : ∃ fuel τ, AM.call tab fuel (.fn 26) [] ⟨[], 0⟩ = some (.bool true, τ)) (hlaw : PlanPatternsLaw)
include hk hlaw

omit hk hlaw in
theorem plain (f : FuncId) (fn : Func) (hf : Tryz.pinned.checked.prog.funcNamed "finial/finiallaw18.PlanPatterns" = some f) (hfn : Tryz.pinned.checked.prog.funcs[f]? = some fn) :
    false = Tryz.pinned.checked.prog.looks [] ∧ ∀ (j : Nat) t, fn.params[j]? = some t → Tryz.pinned.checked.prog.wantsStandIn t = false := by
  obtain rfl : f = 5 := Option.some.inj ((show Tryz.prog.funcNamed "finial/finiallaw18.PlanPatterns" = some 5 by kernel_rfl).symm.trans hf) |>.symm
  obtain rfl : fn = Tryz.f5 := (Option.some.inj (Tryz.func5.symm.trans hfn)).symm
  refine ⟨by kernel_rfl, fun j t ht => ?_⟩
  rw [Tryz.params5] at ht
  match j with
  | 0 => simp at ht; subst ht; exact (show Tryz.prog.wantsStandIn 24 = false by kernel_rfl)
  | 1 => simp at ht; subst ht; exact (show Tryz.prog.wantsStandIn 22 = false by kernel_rfl)
  | n + 2 => simp at ht

theorem card : Rows.PlanPatternsCardSaid :=
  Claim7.holds_tied_plain_at .later [] _ _ _ _ (said hk hlaw) (fun _ h => by cases h) (by as_aux_lemma => kernel_rfl) (fun _ h => by cases h) planPatterns_row_tie rfl ⟨rfl, rfl⟩ (by as_aux_lemma => kernel_rfl) rfl plain (by as_aux_lemma => kernel_rfl)
end Go.Proofs.YtadgboblgclfgaaGreatDoor
