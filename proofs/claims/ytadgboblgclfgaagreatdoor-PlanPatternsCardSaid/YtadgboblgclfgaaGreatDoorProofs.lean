/- PlanPatterns: a pattern of a Call, and which of some patterns covers it, is what the document says, or the error is told. -/
import Derived.Test.YtadgboblgclfgaaGreatDoorM33
import Derived.Test.YtadgboblgclfgaaGreatDoorM34
import Derived.Test.YtadgboblgclfgaaGreatDoorM45
namespace Go.AM
open Go.Proofs
set_option maxRecDepth 100000

theorem once_mono {cl cl' : CallF} (H : CLe cl cl') {args : List AV} {σ : St} {r : AV × St} (h : primOnce cl args σ = some r) : primOnce cl' args σ = some r := by
  revert h
  unfold primOnce onceFirst
  simp only [Bool.cond_eq_ite]
  split
  · split
    · split
      · split
        · split
          · split
            · split
              · split
                · rename_i hcl
                  rw [H _ _ _ _ hcl]; exact id
                · intro h; cases h
              · intro h; cases h
            · intro h; cases h
          · intro h; cases h
        · exact id
      · intro h; cases h
    · intro h; cases h
  · intro h; cases h
theorem tab2_mono : PrimMono tab2 := by
  intro f p hp cl cl' H args σ r h
  have h' : (bif Nat.beq f 26 then some (primBool true) else bif Nat.beq f 283 then some primOnce else none) = some p := hp
  cases hb : Nat.beq f 26 with
  | true => rw [hb] at h'; cases h'; exact h
  | false =>
    rw [hb, cond_false] at h'
    cases hb2 : Nat.beq f 283 with
    | true => rw [hb2] at h'; cases h'; exact once_mono H h
    | false => rw [hb2] at h'; cases h'
theorem h26 (h : Heap) (m : Nat) (_ : Low h m) : Spec tab2 (.fn 26) [] ⟨h, m⟩ (Ret h m (.bool true)) := ⟨1, _, _, rfl, rfl, rfl, Nat.le_refl m⟩
theorem pts : Pts tab2 where
  M := ⟨⟨⟨rfl, rfl⟩, ⟨rfl, rfl⟩, ⟨rfl, rfl⟩, ⟨rfl, rfl⟩, ⟨rfl, rfl⟩, ⟨rfl, rfl⟩, ⟨rfl, rfl⟩⟩, ⟨rfl, rfl⟩, ⟨rfl, rfl⟩, ⟨rfl, rfl⟩, ⟨rfl, rfl⟩⟩
  F := ⟨⟨rfl, rfl⟩, ⟨rfl, rfl⟩, ⟨rfl, rfl⟩, ⟨rfl, rfl⟩, ⟨rfl, rfl⟩, ⟨rfl, rfl⟩, ⟨rfl, rfl⟩, ⟨rfl, rfl⟩, ⟨rfl, rfl⟩, ⟨rfl, rfl⟩, ⟨rfl, rfl⟩, ⟨rfl, rfl⟩, ⟨rfl, rfl⟩, ⟨rfl, rfl⟩, ⟨rfl, rfl⟩, ⟨rfl, rfl⟩, ⟨rfl, rfl⟩⟩
  h33 := ⟨rfl, rfl⟩
  h28 := ⟨rfl, rfl⟩
  h27 := ⟨rfl, rfl⟩
  h68 := ⟨rfl, rfl⟩
  h47 := ⟨rfl, rfl⟩
  h110 := ⟨rfl, rfl⟩
  h111 := ⟨rfl, rfl⟩
theorem law_holds : PlanPatternsLaw := by
  intro t l wft wfl hlen
  obtain ⟨n, v, τ, h1, h2, _⟩ := law_patterns tab2_mono pts ⟨rfl, rfl⟩ h26 t l wft wfl hlen [] 0 (fun p hp => by cases hp)
  exact ⟨n, τ, by rw [h1, h2]⟩
theorem knows_runs : ∃ fuel τ, call tab fuel (.fn 26) [] ⟨[], 0⟩ = some (.bool true, τ) := by
  have h := knows_bool
  cases hc : call tab 100000 (.fn 26) [] ⟨[], 0⟩ with
  | none => rw [hc] at h; cases h
  | some q =>
    obtain ⟨v, τ⟩ := q
    rw [hc] at h
    cases v with
    | bool b =>
      cases b with
      | true => exact ⟨_, τ, hc⟩
      | false => cases h
    | _ => cases h
end Go.AM
namespace Go.Proofs.YtadgboblgclfgaaGreatDoor
/-- PlanPatterns holds. -/
theorem planPatterns : Rows.PlanPatternsCardSaid := card Go.AM.knows_runs Go.AM.law_holds
end Go.Proofs.YtadgboblgclfgaaGreatDoor
