/- A part of the proof of: EmitBecomes: what a term becomes by patterns, and a pattern's name, is what the document says, or the error is told. -/
import Derived.Test.YtkopdkjpmccbmaaGreatDoorM46
namespace Go.Proofs.YtkopdkjpmccbmaaGreatDoor
open Go.RowKit Go.Proofs Go.ChangeShapes Go.WideShapes Go.ChangeAt Go.AM
variable (hk : ∃ fuel τ, AM.call tab fuel (.fn 6) [] ⟨[], 0⟩ = some (.bool true, τ)) (hlaw : EmitBecomesLaw)
include hk hlaw

omit hk hlaw in
theorem plain (f : FuncId) (fn : Func) (hf : Tryz.pinned.checked.prog.funcNamed "finial/finiallaw19.EmitBecomes" = some f) (hfn : Tryz.pinned.checked.prog.funcs[f]? = some fn) :
    false = Tryz.pinned.checked.prog.looks [] ∧ ∀ (j : Nat) t, fn.params[j]? = some t → Tryz.pinned.checked.prog.wantsStandIn t = false := by
  obtain rfl : f = 3 := Option.some.inj ((show Tryz.prog.funcNamed "finial/finiallaw19.EmitBecomes" = some 3 by kernel_rfl).symm.trans hf) |>.symm
  obtain rfl : fn = Tryz.f3 := (Option.some.inj (Tryz.func3.symm.trans hfn)).symm
  refine ⟨by kernel_rfl, fun j t ht => ?_⟩
  rw [Tryz.params3] at ht
  match j with
  | 0 => simp at ht; subst ht; exact (show Tryz.prog.wantsStandIn 22 = false by kernel_rfl)
  | 1 => simp at ht; subst ht; exact (show Tryz.prog.wantsStandIn 24 = false by kernel_rfl)
  | 2 => simp at ht; subst ht; exact (show Tryz.prog.wantsStandIn 25 = false by kernel_rfl)
  | n + 3 => simp at ht

theorem card : Rows.EmitBecomesCardSaid :=
  Claim7.holds_tied_plain_at .later [] _ _ _ _ (said hk hlaw) (fun _ h => by cases h) (by as_aux_lemma => kernel_rfl) (fun _ h => by cases h) emitBecomes_row_tie rfl ⟨rfl, rfl⟩ (by as_aux_lemma => kernel_rfl) rfl plain (by as_aux_lemma => kernel_rfl)
end Go.Proofs.YtkopdkjpmccbmaaGreatDoor
