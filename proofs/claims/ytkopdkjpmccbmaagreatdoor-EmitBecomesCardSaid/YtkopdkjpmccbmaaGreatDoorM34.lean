/- A part of the proof of: EmitBecomes: what a term becomes by patterns, and a pattern's name, is what the document says, or the error is told. -/
import Derived.Test.YtkopdkjpmccbmaaGreatDoorM00
namespace Go.AM

/-- One gives what the other gives. -/
def CLe (cl cl' : CallF) : Prop := ∀ c as σ r, cl c as σ = some r → cl' c as σ = some r

section
variable {cl cl' : CallF} (H : CLe cl cl')
include H

theorem actCall_mono (f : Opd) (args : List Opd) (d : Option Nat) (env : Env) (ds : List ADef) (σ : St) (r) (h : actCall f args d cl env ds σ = some r) : actCall f args d cl' env ds σ = some r := by
  unfold actCall at h ⊢
  cases h1 : callee (f.eval env) (evals env args) with
  | none => rw [h1] at h; exact absurd h (by simp)
  | some p =>
    obtain ⟨c, as⟩ := p
    rw [h1] at h
    dsimp only at h ⊢
    cases h2 : cl c as σ with
    | none => rw [h2] at h; exact absurd h (by simp)
    | some q => rw [h2] at h; rw [H c as σ q h2]; exact h

theorem act_mono (p : AOp) (d : Option Nat) (env : Env) (ds : List ADef) (σ : St) (r) (h : act p d cl env ds σ = some r) : act p d cl' env ds σ = some r := by
  cases p
  case call f args => exact actCall_mono H f args d env ds σ r h
  all_goals exact h

theorem oper_mono (o : AOper) (env : Env) (ds : List ADef) (σ : St) (r) (h : oper o cl env ds σ = some r) : oper o cl' env ds σ = some r := by
  obtain ⟨d, g, p⟩ := o
  cases g with
  | none => exact act_mono H _ _ _ _ _ _ h
  | some tb =>
    obtain ⟨t, b⟩ := tb
    have h' : operG d p t b cl env ds σ = some r := h
    show operG d p t b cl' env ds σ = some r
    unfold operG at h' ⊢
    cases hw : (aget env t).wants b with
    | none => rw [hw] at h'; exact absurd h' (by simp)
    | some w =>
      rw [hw] at h'
      cases w
      · exact h'
      · exact act_mono H _ _ _ _ _ _ h'

theorem opers_mono (l : List AOper) : ∀ (env : Env) (ds : List ADef) (σ : St) (r), opers l cl env ds σ = some r → opers l cl' env ds σ = some r := by
  induction l with
  | nil => exact fun _ _ _ _ h => h
  | cons o l ih =>
    intro env ds σ r h
    have h' : opersCons o (opers l) cl env ds σ = some r := h
    show opersCons o (opers l) cl' env ds σ = some r
    unfold opersCons at h' ⊢
    cases h1 : oper o cl env ds σ with
    | none => rw [h1] at h'; exact absurd h' (by simp)
    | some q => rw [h1] at h'; rw [oper_mono H _ _ _ _ q h1]; exact ih _ _ _ _ h'

theorem opersLog_mono (l : List AOper) : ∀ (env : Env) (ds : List ADef) (σ : St) (r), opersLog l cl env ds σ = some r → opersLog l cl' env ds σ = some r := by
  induction l with
  | nil => exact fun _ _ _ _ h => h
  | cons o l ih =>
    intro env ds σ r h
    have h' : opersLogCons o (opersLog l) cl env ds σ = some r := h
    show opersLogCons o (opersLog l) cl' env ds σ = some r
    unfold opersLogCons at h' ⊢
    cases hw : wanted env o.guard with
    | none => rw [hw] at h'; exact absurd h' (by simp)
    | some b =>
      rw [hw] at h'
      dsimp only at h' ⊢
      cases h1 : oper o cl env ds σ with
      | none => rw [h1] at h'; exact absurd h' (by simp)
      | some q =>
        obtain ⟨e1, d1, s1⟩ := q
        rw [h1] at h'; rw [oper_mono H _ _ _ _ _ h1]
        dsimp only at h' ⊢
        cases h2 : opersLog l cl e1 d1 s1 with
        | none => rw [h2] at h'; exact absurd h' (by simp)
        | some q => rw [h2] at h'; rw [ih _ _ _ _ h2]; exact h'

theorem code_mono {n n' : Nat} (hn : n ≤ n') (c : ACode) : ∀ (fr : Fr) (σ : St) (r), code c cl n fr σ = some r → code c cl' n' fr σ = some r := by
  induction c with
  | skip => exact fun _ _ _ h => h
  | region ops outs =>
    intro fr σ r h
    have h' : codeRegion ops outs cl n fr σ = some r := h
    show codeRegion ops outs cl' n' fr σ = some r
    unfold codeRegion at h' ⊢
    cases h1 : opers ops cl fr.env fr.defs σ with
    | none => rw [h1] at h'; exact absurd h' (by simp)
    | some q => rw [h1] at h'; rw [opers_mono H _ _ _ _ _ h1]; exact h'
  | draw ops chk outs =>
    intro fr σ r h
    have h' : codeDraw ops chk outs cl n fr σ = some r := h
    show codeDraw ops chk outs cl' n' fr σ = some r
    unfold codeDraw at h' ⊢
    cases h1 : opersLog ops cl fr.env fr.defs σ with
    | none => rw [h1] at h'; exact absurd h' (by simp)
    | some q => rw [h1] at h'; rw [opersLog_mono H _ _ _ _ _ h1]; exact h'
  | seq a b iha ihb =>
    intro fr σ r h
    have h' : andThen (code a cl n fr σ) (code b cl n) = some r := h
    show andThen (code a cl' n' fr σ) (code b cl' n') = some r
    cases h1 : code a cl n fr σ with
    | none => rw [h1] at h'; exact absurd h' (by simp [andThen])
    | some q =>
      obtain ⟨x, fr1, s1⟩ := q
      rw [h1] at h'; rw [iha _ _ _ h1]
      cases x
      · exact ihb _ _ _ h'
      · exact h'
      · exact h'
  | cond c a b iha ihb =>
    intro fr σ r h
    have h' : codeCond c (code a) (code b) cl n fr σ = some r := h
    show codeCond c (code a) (code b) cl' n' fr σ = some r
    unfold codeCond at h' ⊢
    cases h1 : (c.eval fr.env).bool? with
    | none => rw [h1] at h'; exact absurd h' (by simp)
    | some t =>
      rw [h1] at h'
      cases t
      · exact ihb _ _ _ h'
      · exact iha _ _ _ h'
  | block id c ih =>
    intro fr σ r h
    have h' : codeBlock id (code c) cl n fr σ = some r := h
    show codeBlock id (code c) cl' n' fr σ = some r
    unfold codeBlock at h' ⊢
    cases h1 : code c cl n fr σ with
    | none => rw [h1] at h'; exact absurd h' (by simp)
    | some q => rw [h1] at h'; rw [ih _ _ _ h1]; exact h'
  | loop c ih =>
    have : ∀ (k : Nat) (fr : Fr) (σ : St) (r), loopN (code c cl n) k fr σ = some r → ∀ k', k ≤ k' → loopN (code c cl' n') k' fr σ = some r := by
      intro k
      induction k with
      | zero => exact fun _ _ _ h => by cases h
      | succ k ihk =>
        intro fr σ r h k' hk
        cases k' with
        | zero => omega
        | succ k' =>
          have h' : andThen (code c cl n fr σ) (loopN (code c cl n) k) = some r := h
          show andThen (code c cl' n' fr σ) (loopN (code c cl' n') k') = some r
          cases h1 : code c cl n fr σ with
          | none => rw [h1] at h'; exact absurd h' (by simp [andThen])
          | some q =>
            obtain ⟨x, fr1, s1⟩ := q
            rw [h1] at h'; rw [ih _ _ _ h1]
            cases x
            · exact ihk _ _ _ h' _ (by omega)
            · exact h'
            · exact h'
    exact fun fr σ r h => this n fr σ r h n' hn
  | rangeFunc f ps as body _ _ =>
    intro fr σ r h
    have h' : codeRange f ps as body cl n fr σ = some r := h
    show codeRange f ps as body cl' n' fr σ = some r
    unfold codeRange at h' ⊢
    cases hc : callee (f.eval fr.env) [.fn (.yield (σ.next + 1)) [] []] with
    | none => rw [hc] at h'; exact absurd h' (by simp)
    | some p =>
      obtain ⟨c, args⟩ := p
      rw [hc] at h'
      cases c with
      | yield _ => exact absurd h' (by simp)
      | dfn _ => exact absurd h' (by simp)
      | fn c =>
        dsimp only at h' ⊢
        cases h2 : cl (.fn c) args ((σ.add .defs).add (.loop .ready none fr.env ps as body)) with
        | none => rw [h2] at h'; exact absurd h' (by simp)
        | some q => rw [h2] at h'; rw [H _ _ _ _ h2]; exact h'
  | exit id => exact fun _ _ _ h => h
  | ret => exact fun _ _ _ h => h

theorem runDefs_mono (ds : List ADef) : ∀ (σ : St) (r), runDefs cl ds σ = some r → runDefs cl' ds σ = some r := by
  induction ds with
  | nil => exact fun _ _ h => h
  | cons d ds ih =>
    intro σ r h
    cases d with
    | mark o =>
      unfold runDefs at h ⊢
      split at h
      · exact ih _ _ h
      · exact absurd h (by simp)
    | call f args caps =>
      unfold runDefs at h ⊢
      cases hc : calleeFn f [] caps args with
      | none => rw [hc] at h; exact absurd h (by simp)
      | some p =>
        obtain ⟨c, as⟩ := p
        rw [hc] at h
        cases c with
        | yield _ => exact absurd h (by simp)
        | dfn _ => exact absurd h (by simp)
        | fn m =>
          dsimp only at h ⊢
          cases h2 : cl (.dfn m) as σ with
          | none => rw [h2] at h; exact absurd h (by simp)
          | some q => rw [h2] at h; rw [H _ _ _ _ h2]; exact ih _ _ h

theorem enter_mono {n n' : Nat} (hn : n ≤ n') (fd : AFunc) (args : List AV) (σ : St) (r) (h : enter cl n fd args σ = some r) : enter cl' n' fd args σ = some r := by
  unfold enter at h ⊢
  cases hb : Nat.ble args.length fd.nargs with
  | false => rw [hb] at h; cases h
  | true =>
    rw [hb] at h
    simp only [cond_true] at h ⊢
    split at h
    · rename_i x fr s h1
      rw [code_mono H hn _ _ _ _ h1]
      dsimp only
      split at h
      · exact h
      · rename_i hx
        split at h
        · rename_i s2 h2
          rw [runDefs_mono H _ _ _ h2]
          cases x <;> first | exact absurd rfl (hx _) | exact h
        · exact absurd h (by simp)
    · exact absurd h (by simp)

theorem enterD_mono {n n' : Nat} (hn : n ≤ n') (fd : AFunc) (args : List AV) (σ : St) (r) (h : enterD cl n fd args σ = some r) : enterD cl' n' fd args σ = some r := by
  unfold enterD at h ⊢
  cases hb : Nat.ble args.length fd.nargs with
  | false => rw [hb] at h; cases h
  | true =>
    rw [hb] at h
    simp only [cond_true] at h ⊢
    split at h
    · rename_i x fr s h1
      rw [code_mono H hn _ _ _ _ h1]
      exact h
    · exact absurd h (by simp)

theorem round_mono {n n' : Nat} (hn : n ≤ n') (l : Nat) (args : List AV) (σ : St) (r) (h : round cl n l args σ = some r) : round cl' n' l args σ = some r := by
  unfold round at h ⊢
  cases hg : σ.get l with
  | none => rw [hg] at h; exact absurd h (by simp)
  | some o =>
    rw [hg] at h
    cases o with
    | loop st j tm ps as body =>
      dsimp only at h ⊢
      by_cases hl : args.length ≠ ps.length
      · rw [if_pos hl] at h; exact absurd h (by simp)
      rw [if_neg hl] at h ⊢
      cases h1 : code as cl n ⟨putAll tm ps args, []⟩ σ with
      | none => rw [h1] at h; exact absurd h (by simp)
      | some q =>
        obtain ⟨x, fr, s⟩ := q
        rw [h1] at h; rw [code_mono H hn _ _ _ _ h1]
        cases x with
        | exit _ => exact absurd h (by simp)
        | ret => exact absurd h (by simp)
        | normal =>
          dsimp only at h ⊢
          cases hg2 : s.get l with
          | none => rw [hg2] at h; exact absurd h (by simp)
          | some o2 =>
            rw [hg2] at h
            cases o2 with
            | loop st2 j2 tm2 ps2 as2 body2 =>
              cases st2
              case ready =>
                dsimp only at h ⊢
                cases h3 : code body cl n fr (s.set l (.loop .busy j2 tm2 ps2 as2 body2)) with
                | none => rw [h3] at h; exact absurd h (by simp)
                | some q3 => rw [h3] at h; rw [code_mono H hn _ _ _ _ h3]; exact h
              all_goals exact absurd h (by simp)
            | _ => exact absurd h (by simp)
    | _ => exact absurd h (by simp)
end

def PrimMono (T : Tab) : Prop := ∀ f p, T.prim f = some p → ∀ cl cl', CLe cl cl' → ∀ args σ r, p cl args σ = some r → p cl' args σ = some r

theorem callFn_mono {T : Tab} (hT : PrimMono T) {cl cl' : CallF} (H : CLe cl cl') {n n' : Nat} (hn : n ≤ n') (f : Nat) (args : List AV) (σ : St) (r) (h : callFn T n cl f args σ = some r) : callFn T n' cl' f args σ = some r := by
  unfold callFn at h ⊢
  cases hp : T.prim f with
  | some p => rw [hp] at h; exact hT f p hp cl cl' H _ _ _ h
  | none =>
    rw [hp] at h
    dsimp only at h ⊢
    cases hf : T.func.get f with
    | none => rw [hf] at h; cases h
    | some fd => rw [hf] at h; exact enter_mono H hn _ _ _ _ h
theorem callFnD_mono {T : Tab} {cl cl' : CallF} (H : CLe cl cl') {n n' : Nat} (hn : n ≤ n') (f : Nat) (args : List AV) (σ : St) (r) (h : callFnD T n cl f args σ = some r) : callFnD T n' cl' f args σ = some r := by
  unfold callFnD at h ⊢
  cases hp : T.prim f with
  | some p => rw [hp] at h; cases h
  | none =>
    rw [hp] at h
    dsimp only at h ⊢
    cases hf : T.func.get f with
    | none => rw [hf] at h; cases h
    | some fd => rw [hf] at h; exact enterD_mono H hn _ _ _ _ h

theorem call_le {T : Tab} (hT : PrimMono T) : ∀ n m, n ≤ m → CLe (call T n) (call T m) := by
  intro n
  induction n with
  | zero => intro m _ c as σ r h; cases h
  | succ n ih =>
    intro m hm
    cases m with
    | zero => omega
    | succ m =>
      have hle := ih m (by omega)
      intro c as σ r h
      have h' : callStep T n (call T n) c as σ = some r := h
      show callStep T m (call T m) c as σ = some r
      cases c with
      | fn f => exact callFn_mono hT hle (by omega) f as σ r h'
      | yield l => exact round_mono hle (by omega) l as σ r h'
      | dfn f => exact callFnD_mono hle (by omega) f as σ r h'

end Go.AM
