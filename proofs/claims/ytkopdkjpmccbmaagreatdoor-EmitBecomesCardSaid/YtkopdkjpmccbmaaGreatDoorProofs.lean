/- EmitBecomes: what a term becomes by patterns, and a pattern's name, is what the document says, or the error is told. -/
import Derived.Test.YtkopdkjpmccbmaaGreatDoorM47
import Derived.Test.YtkopdkjpmccbmaaGreatDoorM48
import Derived.Test.YtkopdkjpmccbmaaGreatDoorM49
namespace Go.AM
open Go.Proofs
set_option maxRecDepth 100000

theorem once_mono {cl cl' : CallF} (H : CLe cl cl') {args : List AV} {σ : St} {r : AV × St} (h : primOnce cl args σ = some r) : primOnce cl' args σ = some r := by
  revert h
  unfold primOnce onceFirst
  simp only [Bool.cond_eq_ite]
  split
  · split
    · split
      · split
        · split
          · split
            · split
              · split
                · rename_i hcl
                  rw [H _ _ _ _ hcl]; exact id
                · intro h; cases h
              · intro h; cases h
            · intro h; cases h
          · intro h; cases h
        · exact id
      · intro h; cases h
    · intro h; cases h
  · intro h; cases h
theorem tab2_mono : PrimMono tab2 := by
  intro f p hp cl cl' H args σ r h
  have h' : (bif Nat.beq f 6 then some (primBool true) else bif Nat.beq f 30 then some primItoa else bif Nat.beq f 186 then some primOnce else none) = some p := hp
  cases hb : Nat.beq f 6 with
  | true => rw [hb] at h'; cases h'; exact h
  | false =>
    rw [hb, cond_false] at h'
    cases hb1 : Nat.beq f 30 with
    | true => rw [hb1] at h'; cases h'; exact h
    | false =>
      rw [hb1, cond_false] at h'
      cases hb2 : Nat.beq f 186 with
      | true => rw [hb2] at h'; cases h'; exact once_mono H h
      | false => rw [hb2] at h'; cases h'
theorem h6 (h : Heap) (m : Nat) (_ : Low h m) : Spec tab2 (.fn 6) [] ⟨h, m⟩ (Ret h m (.bool true)) := ⟨1, _, _, rfl, rfl, rfl, Nat.le_refl m⟩
theorem ems : Ems tab2 where
  C := ⟨⟨⟨⟨rfl, rfl⟩, ⟨rfl, rfl⟩, ⟨rfl, rfl⟩, ⟨rfl, rfl⟩, ⟨rfl, rfl⟩, ⟨rfl, rfl⟩, ⟨rfl, rfl⟩⟩, ⟨rfl, rfl⟩, ⟨rfl, rfl⟩, ⟨rfl, rfl⟩, ⟨rfl, rfl⟩⟩, ⟨rfl, rfl⟩, ⟨rfl, rfl⟩⟩
  R := ⟨⟨⟨rfl, rfl⟩, ⟨rfl, rfl⟩, ⟨rfl, rfl⟩, ⟨rfl, rfl⟩, ⟨rfl, rfl⟩, ⟨rfl, rfl⟩⟩, ⟨rfl, rfl⟩, ⟨rfl, rfl⟩, ⟨rfl, rfl⟩, ⟨rfl, rfl⟩⟩
  I := itoa_of (p := primItoa) rfl rfl
  h25 := ⟨rfl, rfl⟩
  h40 := ⟨rfl, rfl⟩
  e49 := ⟨rfl, rfl⟩
  e23 := ⟨rfl, rfl⟩
  e10 := ⟨rfl, rfl⟩
  e52 := ⟨rfl, rfl⟩
  e25 := ⟨rfl, rfl⟩
  e7 := ⟨rfl, rfl⟩
  e9 := ⟨rfl, rfl⟩
  e11 := ⟨rfl, rfl⟩
  e31 := ⟨rfl, rfl⟩
  e32 := ⟨rfl, rfl⟩
  e13 := ⟨rfl, rfl⟩
theorem law_holds : EmitBecomesLaw := by
  intro l t n wfl hlen wft hn
  obtain ⟨fuel, v, τ, h1, h2, _⟩ := law_becomes tab2_mono ems ⟨rfl, rfl⟩ h6 l t n wfl hlen wft hn [] 0 (fun p hp => by cases hp)
  exact ⟨fuel, τ, by rw [h1, h2]⟩
theorem knows_runs : ∃ fuel τ, call tab fuel (.fn 6) [] ⟨[], 0⟩ = some (.bool true, τ) := by
  have h := knows_bool
  cases hc : call tab 100000 (.fn 6) [] ⟨[], 0⟩ with
  | none => rw [hc] at h; cases h
  | some q =>
    obtain ⟨v, τ⟩ := q
    rw [hc] at h
    cases v with
    | bool b =>
      cases b with
      | true => exact ⟨_, τ, hc⟩
      | false => cases h
    | _ => cases h
end Go.AM
namespace Go.Proofs.YtkopdkjpmccbmaaGreatDoor
/-- EmitBecomes holds. -/
theorem emitBecomes : Rows.EmitBecomesCardSaid := card Go.AM.knows_runs Go.AM.law_holds
end Go.Proofs.YtkopdkjpmccbmaaGreatDoor
