/- A part of the proof of: EmitBecomes: what a term becomes by patterns, and a pattern's name, is what the document says, or the error is told. -/
import Derived.Test.YtkopdkjpmccbmaaGreatDoorM34
namespace Go.AM

/-- What is left to do. -/
inductive K where
  | code (c : ACode)
  | ops (l : List AOper)
  | dops (l : List AOper) (acc : List Log) (chk : List (Nat × List Nat))
  | keep (old : Env) (outs : List Nat)
  | endb (id : Nat)

noncomputable def execK (T : Tab) (n : Nat) : List K → Ex → Env → List ADef → St → Option (Ex × Env × List ADef × St)
  | [], x, env, ds, σ => some (x, env, ds, σ)
  | .code c :: ks, .normal, env, ds, σ => match code c (call T n) n ⟨env, ds⟩ σ with
    | some (x, fr, σ) => execK T n ks x fr.env fr.defs σ
    | none => none
  | .ops l :: ks, .normal, env, ds, σ => match opers l (call T n) env ds σ with
    | some (env, ds, σ) => execK T n ks .normal env ds σ
    | none => none
  | .dops l acc chk :: ks, .normal, env, ds, σ => match opersLog l (call T n) env ds σ with
    | some (env, ds, σ, lg) => bif checkLog (acc.reverse ++ lg) chk then execK T n ks .normal env ds σ else none
    | none => none
  | .keep old outs :: ks, .normal, env, ds, σ => execK T n ks .normal (AM.keep old env outs) ds σ
  | .endb _ :: ks, .normal, env, ds, σ => execK T n ks .normal env ds σ
  | .endb j :: ks, .exit i, env, ds, σ => execK T n ks (bif Nat.beq i j then .normal else .exit i) env ds σ
  | _ :: ks, .exit i, env, ds, σ => execK T n ks (.exit i) env ds σ
  | _ :: ks, .ret, env, ds, σ => execK T n ks .ret env ds σ

def Run (T : Tab) (ks : List K) (x : Ex) (env : Env) (ds : List ADef) (σ : St) (Q : Ex → Env → List ADef → St → Prop) : Prop :=
  ∃ n x' env' ds' σ', execK T n ks x env ds σ = some (x', env', ds', σ') ∧ Q x' env' ds' σ'

theorem Run.of_eq {T : Tab} {ks ks' : List K} {x x' : Ex} {env env' : Env} {ds ds' : List ADef} {σ σ' : St} {Q} (h : ∀ n, execK T n ks x env ds σ = execK T n ks' x' env' ds' σ') : Run T ks x env ds σ Q = Run T ks' x' env' ds' σ' Q := by
  unfold Run; simp only [h]

section
variable {T : Tab} {ks : List K} {env : Env} {ds : List ADef} {σ : St} {Q : Ex → Env → List ADef → St → Prop}

theorem run_nil {x : Ex} : Run T [] x env ds σ Q = Q x env ds σ := by
  unfold Run; simp only [execK, Option.some.injEq, Prod.mk.injEq]
  exact propext ⟨fun ⟨_, _, _, _, _, ⟨h1, h2, h3, h4⟩, h⟩ => by subst h1 h2 h3 h4; exact h, fun h => ⟨0, _, _, _, _, ⟨rfl, rfl, rfl, rfl⟩, h⟩⟩
theorem run_skip : Run T (.code .skip :: ks) .normal env ds σ Q = Run T ks .normal env ds σ Q := Run.of_eq fun _ => rfl
theorem run_seq {a b : ACode} : Run T (.code (.seq a b) :: ks) .normal env ds σ Q = Run T (.code a :: .code b :: ks) .normal env ds σ Q := Run.of_eq fun n => by
  simp only [execK, code_seq, codeSeq]
  cases h : code a (call T n) n ⟨env, ds⟩ σ with
  | none => simp [andThen]
  | some q => obtain ⟨x, fr, s⟩ := q; cases x <;> simp [andThen, execK]
theorem run_region {ops : List AOper} {outs : List Nat} : Run T (.code (.region ops outs) :: ks) .normal env ds σ Q = Run T (.ops ops :: .keep env outs :: ks) .normal env ds σ Q := Run.of_eq fun n => by
  simp only [execK, code_region, codeRegion]
  cases h : opers ops (call T n) env ds σ with
  | none => rfl
  | some q => rfl
theorem run_draw {ops : List AOper} {chk : List (Nat × List Nat)} {outs : List Nat} : Run T (.code (.draw ops chk outs) :: ks) .normal env ds σ Q = Run T (.dops ops [] chk :: .keep env outs :: ks) .normal env ds σ Q := Run.of_eq fun n => by
  simp only [execK, code_draw, codeDraw]
  cases h : opersLog ops (call T n) env ds σ with
  | none => rfl
  | some q => obtain ⟨e1, d1, s1, lg⟩ := q; cases hc : checkLog lg chk <;> simp [hc]
theorem run_keep {old : Env} {outs : List Nat} : Run T (.keep old outs :: ks) .normal env ds σ Q = Run T ks .normal (keep old env outs) ds σ Q := Run.of_eq fun _ => rfl
theorem run_block {id : Nat} {c : ACode} : Run T (.code (.block id c) :: ks) .normal env ds σ Q = Run T (.code c :: .endb id :: ks) .normal env ds σ Q := Run.of_eq fun n => by
  simp only [execK, code_block, codeBlock]
  cases h : code c (call T n) n ⟨env, ds⟩ σ with
  | none => rfl
  | some q =>
    obtain ⟨x, fr, s⟩ := q; cases x <;> simp [execK]
theorem run_endb {id : Nat} : Run T (.endb id :: ks) .normal env ds σ Q = Run T ks .normal env ds σ Q := Run.of_eq fun _ => rfl
theorem run_exit {id : Nat} : Run T (.code (.exit id) :: ks) .normal env ds σ Q = Run T ks (.exit id) env ds σ Q := Run.of_eq fun _ => rfl
theorem run_ret : Run T (.code .ret :: ks) .normal env ds σ Q = Run T ks .ret env ds σ Q := Run.of_eq fun _ => rfl
theorem jump_ret {k : K} : Run T (k :: ks) .ret env ds σ Q = Run T ks .ret env ds σ Q := Run.of_eq fun n => by cases k <;> simp [execK]
theorem jump_code {c : ACode} {i : Nat} : Run T (.code c :: ks) (.exit i) env ds σ Q = Run T ks (.exit i) env ds σ Q := Run.of_eq fun _ => rfl
theorem jump_keep {old : Env} {outs : List Nat} {i : Nat} : Run T (.keep old outs :: ks) (.exit i) env ds σ Q = Run T ks (.exit i) env ds σ Q := Run.of_eq fun _ => rfl
theorem jump_endb {i j : Nat} : Run T (.endb j :: ks) (.exit i) env ds σ Q = Run T ks (bif Nat.beq i j then .normal else .exit i) env ds σ Q := Run.of_eq fun _ => rfl

/-- The two ways of a condition. -/
def CondK (T : Tab) (v : AV) (a b : ACode) (ks : List K) (env : Env) (ds : List ADef) (σ : St) (Q : Ex → Env → List ADef → St → Prop) : Prop :=
  ∃ t, v.bool? = some t ∧ ((t = true → Run T (.code a :: ks) .normal env ds σ Q) ∧ (t = false → Run T (.code b :: ks) .normal env ds σ Q))
theorem cond_tt {a b : ACode} : CondK T (.bool true) a b ks env ds σ Q = Run T (.code a :: ks) .normal env ds σ Q := by simp [CondK]
theorem cond_ff {a b : ACode} : CondK T (.bool false) a b ks env ds σ Q = Run T (.code b :: ks) .normal env ds σ Q := by simp [CondK]
theorem run_cond {c : Opd} {a b : ACode} : Run T (.code (.cond c a b) :: ks) .normal env ds σ Q = CondK T (c.eval env) a b ks env ds σ Q := by
  unfold CondK
  cases h : (c.eval env).bool? with
  | none => simp [Run, execK, codeCond, h]
  | some t => cases t <;> simp [Run, execK, codeCond, h]

theorem ops_nil : Run T (.ops [] :: ks) .normal env ds σ Q = Run T ks .normal env ds σ Q := Run.of_eq fun _ => rfl

/-- On behind an operation. -/
def Op (T : Tab) (r : Option (AV × St)) (d : Option Nat) (l : List AOper) (ks : List K) (env : Env) (ds : List ADef) (Q : Ex → Env → List ADef → St → Prop) : Prop :=
  ∃ v τ, r = some (v, τ) ∧ Run T (.ops l :: ks) .normal (put env d v) ds τ Q
theorem op_some {v : AV} {τ : St} {d : Option Nat} {l : List AOper} : Op T (some (v, τ)) d l ks env ds Q = Run T (.ops l :: ks) .normal (put env d v) ds τ Q := propext ⟨fun ⟨_, _, h1, h⟩ => by cases h1; exact h, fun h => ⟨_, _, rfl, h⟩⟩

theorem ops_op {d : Option Nat} {p : AOp} {f : Env → St → Option (AV × St)} {l : List AOper} (hp : act p = actOp f) : Run T (.ops (⟨d, none, p⟩ :: l) :: ks) .normal env ds σ Q = Op T (f env σ) d l ks env ds Q := by
  have h : ∀ n, execK T n (.ops (⟨d, none, p⟩ :: l) :: ks) .normal env ds σ = match f env σ with
      | some (v, τ) => execK T n (.ops l :: ks) .normal (put env d v) ds τ
      | none => none := fun n => by
    have : opers (⟨d, none, p⟩ :: l) (call T n) env ds σ = match actOp f d (call T n) env ds σ with
      | some (env, ds, σ) => opers l (call T n) env ds σ
      | none => none := by rw [← hp]; rfl
    simp only [execK, this, actOp]
    cases f env σ with
    | none => rfl
    | some q => rfl
  unfold Op Run
  simp only [h]
  cases f env σ with
  | none => simp
  | some q => exact propext ⟨fun h => ⟨q.1, q.2, rfl, h⟩, fun ⟨v, τ, h1, h⟩ => by cases h1; exact h⟩

/-- Under a condition. -/
def Grd (T : Tab) (v : AV) (b : Bool) (d : Option Nat) (p : AOp) (l : List AOper) (ks : List K) (env : Env) (ds : List ADef) (σ : St) (Q : Ex → Env → List ADef → St → Prop) : Prop :=
  ∃ w, v.wants b = some w ∧ ((w = true → Run T (.ops (⟨d, none, p⟩ :: l) :: ks) .normal env ds σ Q) ∧ (w = false → Run T (.ops l :: ks) .normal (put env d .undef) ds σ Q))
theorem ops_guard {d : Option Nat} {p : AOp} {t : Nat} {b : Bool} {l : List AOper} : Run T (.ops (⟨d, some (t, b), p⟩ :: l) :: ks) .normal env ds σ Q = Grd T (aget env t) b d p l ks env ds σ Q := by
  have h : ∀ n, execK T n (.ops (⟨d, some (t, b), p⟩ :: l) :: ks) .normal env ds σ = match (aget env t).wants b with
      | some w => bif w then execK T n (.ops (⟨d, none, p⟩ :: l) :: ks) .normal env ds σ else execK T n (.ops l :: ks) .normal (put env d .undef) ds σ
      | none => none := fun n => by
    have : opers (⟨d, some (t, b), p⟩ :: l) (call T n) env ds σ = match operG d p t b (call T n) env ds σ with
      | some (env, ds, σ) => opers l (call T n) env ds σ
      | none => none := rfl
    simp only [execK, this, operG]
    cases (aget env t).wants b with
    | none => rfl
    | some w => cases w <;> rfl
  unfold Grd
  cases hw : (aget env t).wants b with
  | none => simp [Run, h, hw]
  | some w => cases w <;> simp [Run, h, hw]
section
variable {b : Bool} {d : Option Nat} {p : AOp} {l : List AOper}
theorem grd_undef : Grd T .undef b d p l ks env ds σ Q = Run T (.ops l :: ks) .normal (put env d .undef) ds σ Q := by simp [Grd]
theorem grd_tt : Grd T (.bool true) true d p l ks env ds σ Q = Run T (.ops (⟨d, none, p⟩ :: l) :: ks) .normal env ds σ Q := by simp [Grd]
theorem grd_ff : Grd T (.bool false) false d p l ks env ds σ Q = Run T (.ops (⟨d, none, p⟩ :: l) :: ks) .normal env ds σ Q := by simp [Grd]
theorem grd_tf : Grd T (.bool true) false d p l ks env ds σ Q = Run T (.ops l :: ks) .normal (put env d .undef) ds σ Q := by simp [Grd]
theorem grd_ft : Grd T (.bool false) true d p l ks env ds σ Q = Run T (.ops l :: ks) .normal (put env d .undef) ds σ Q := by simp [Grd]
end

/-! ### Calls -/
def Spec (T : Tab) (c : Cal) (as : List AV) (σ : St) (P : AV → St → Prop) : Prop := ∃ n v τ, call T n c as σ = some (v, τ) ∧ P v τ
theorem Spec.mono {c : Cal} {as : List AV} {P P' : AV → St → Prop} (h : Spec T c as σ P) (hp : ∀ v τ, P v τ → P' v τ) : Spec T c as σ P' := by
  obtain ⟨n, v, τ, h1, h2⟩ := h; exact ⟨n, v, τ, h1, hp v τ h2⟩

theorem exec_more (hm : PrimMono T) {n n' : Nat} (hn : n ≤ n') : ∀ (ks : List K) (x : Ex) (env : Env) (ds : List ADef) (σ : St) (r), execK T n ks x env ds σ = some r → execK T n' ks x env ds σ = some r := by
  intro ks
  induction ks with
  | nil => exact fun _ _ _ _ _ h => h
  | cons k ks ih =>
    intro x env ds σ r h
    cases x with
    | ret => cases k <;> (simp only [execK] at h ⊢; exact ih _ _ _ _ _ h)
    | exit i => cases k <;> (simp only [execK] at h ⊢; exact ih _ _ _ _ _ h)
    | normal =>
      cases k with
      | code c =>
        simp only [execK] at h ⊢
        cases h1 : code c (call T n) n ⟨env, ds⟩ σ with
        | none => rw [h1] at h; exact absurd h (by simp)
        | some q => rw [h1] at h; rw [code_mono (call_le hm n n' hn) hn _ _ _ _ h1]; exact ih _ _ _ _ _ h
      | ops l =>
        simp only [execK] at h ⊢
        cases h1 : opers l (call T n) env ds σ with
        | none => rw [h1] at h; exact absurd h (by simp)
        | some q => rw [h1] at h; rw [opers_mono (call_le hm n n' hn) _ _ _ _ _ h1]; exact ih _ _ _ _ _ h
      | dops l acc chk =>
        simp only [execK] at h ⊢
        cases h1 : opersLog l (call T n) env ds σ with
        | none => rw [h1] at h; exact absurd h (by simp)
        | some q =>
          rw [h1] at h; rw [opersLog_mono (call_le hm n n' hn) _ _ _ _ _ h1]
          dsimp only at h ⊢
          cases hc : checkLog (acc.reverse ++ q.2.2.2) chk with
          | false => rw [hc] at h; cases h
          | true => rw [hc] at h; exact ih _ _ _ _ _ h
      | keep old outs => simp only [execK] at h ⊢; exact ih _ _ _ _ _ h
      | endb j => simp only [execK] at h ⊢; exact ih _ _ _ _ _ h

theorem ops_call (hm : PrimMono T) {d : Option Nat} {f : Opd} {args : List Opd} {l : List AOper} {c : Cal} {as : List AV} {P : AV → St → Prop} (hc : callee (f.eval env) (evals env args) = some (c, as)) (h : Spec T c as σ P)
    (k : ∀ v τ, P v τ → Run T (.ops l :: ks) .normal (put env d v) ds τ Q) : Run T (.ops (⟨d, none, .call f args⟩ :: l) :: ks) .normal env ds σ Q := by
  obtain ⟨n, v, τ, h1, h2⟩ := h
  obtain ⟨m, x, e, d', s, h3, h4⟩ := k v τ h2
  refine ⟨max n m, x, e, d', s, ?_, h4⟩
  have h5 := exec_more hm (Nat.le_max_right n m) _ _ _ _ _ _ h3
  have h6 := call_le hm n (max n m) (Nat.le_max_left n m) _ _ _ _ h1
  have : opers (⟨d, none, .call f args⟩ :: l) (call T (max n m)) env ds σ = opers l (call T (max n m)) (put env d v) ds τ := by
    have h7 : oper ⟨d, none, .call f args⟩ (call T (max n m)) env ds σ = some (put env d v, ds, τ) := by
      show actCall f args d (call T (max n m)) env ds σ = _
      unfold actCall
      rw [hc]; dsimp only; rw [h6]
    show opersCons _ (opers l) (call T (max n m)) env ds σ = _
    unfold opersCons
    rw [h7]
  simp only [execK, this] at h5 ⊢
  exact h5

/-! ### Drawn regions -/
theorem dops_nil {acc : List Log} {chk : List (Nat × List Nat)} : Run T (.dops [] acc chk :: ks) .normal env ds σ Q = (checkLog (acc.reverse ++ [⟨σ, none, .undef⟩]) chk = true ∧ Run T ks .normal env ds σ Q) := by
  have h : ∀ n, execK T n (.dops [] acc chk :: ks) .normal env ds σ = bif checkLog (acc.reverse ++ [⟨σ, none, .undef⟩]) chk then execK T n ks .normal env ds σ else none := fun _ => rfl
  cases hc : checkLog (acc.reverse ++ [⟨σ, none, .undef⟩]) chk <;> simp [Run, h, hc]
def DOp (T : Tab) (r : Option (AV × St)) (p : AOp) (d : Option Nat) (l : List AOper) (acc : List Log) (chk : List (Nat × List Nat)) (ks : List K) (env : Env) (ds : List ADef) (σ : St) (Q : Ex → Env → List ADef → St → Prop) : Prop :=
  ∃ v τ, r = some (v, τ) ∧ Run T (.dops l (⟨σ, some (p, env), (match d with | some _ => v | none => .undef)⟩ :: acc) chk :: ks) .normal (put env d v) ds τ Q
theorem dop_some {v : AV} {τ : St} {p : AOp} {d : Option Nat} {l : List AOper} {acc chk} : DOp T (some (v, τ)) p d l acc chk ks env ds σ Q = Run T (.dops l (⟨σ, some (p, env), (match d with | some _ => v | none => .undef)⟩ :: acc) chk :: ks) .normal (put env d v) ds τ Q := propext ⟨fun ⟨_, _, h1, h⟩ => by cases h1; exact h, fun h => ⟨_, _, rfl, h⟩⟩

theorem aget_put {d : Nat} {v : AV} : aget ((d, v) :: env) d = v := by
  show (bif Nat.beq d d then v else aget env d) = v
  rw [Nat.beq_refl]; rfl
theorem exec_dops_cons {o : AOper} {l : List AOper} {acc chk} (n : Nat) : execK T n (.dops (o :: l) acc chk :: ks) .normal env ds σ = match wanted env o.guard with
      | some b => match oper o (call T n) env ds σ with
        | some (env', ds', σ') => execK T n (.dops l (logOf o b env env' σ :: acc) chk :: ks) .normal env' ds' σ'
        | none => none
      | none => none := by
  have : opersLog (o :: l) (call T n) env ds σ = opersLogCons o (opersLog l) (call T n) env ds σ := rfl
  simp only [execK, this, opersLogCons]
  cases wanted env o.guard with
  | none => rfl
  | some b =>
    dsimp only
    cases oper o (call T n) env ds σ with
    | none => rfl
    | some q =>
      obtain ⟨e1, d1, s1⟩ := q
      dsimp only
      cases opersLog l (call T n) e1 d1 s1 with
      | none => rfl
      | some q => simp
theorem logOf_put {d : Option Nat} {p : AOp} {v : AV} : logOf ⟨d, none, p⟩ true env (put env d v) σ = ⟨σ, some (p, env), (match d with | some _ => v | none => .undef)⟩ := by
  cases d with
  | none => rfl
  | some d => simp only [logOf, put, aget_put, cond_true]

theorem dops_op {d : Option Nat} {p : AOp} {f : Env → St → Option (AV × St)} {l : List AOper} {acc chk} (hp : act p = actOp f) : Run T (.dops (⟨d, none, p⟩ :: l) acc chk :: ks) .normal env ds σ Q = DOp T (f env σ) p d l acc chk ks env ds σ Q := by
  have h : ∀ n, execK T n (.dops (⟨d, none, p⟩ :: l) acc chk :: ks) .normal env ds σ = match f env σ with
      | some (v, τ) => execK T n (.dops l (⟨σ, some (p, env), (match d with | some _ => v | none => .undef)⟩ :: acc) chk :: ks) .normal (put env d v) ds τ
      | none => none := fun n => by
    rw [exec_dops_cons]
    have h1 : oper ⟨d, none, p⟩ (call T n) env ds σ = actOp f d (call T n) env ds σ := by rw [← hp]; rfl
    rw [h1]
    show (match actOp f d (call T n) env ds σ with
        | some (env', ds', σ') => execK T n (.dops l (logOf ⟨d, none, p⟩ true env env' σ :: acc) chk :: ks) .normal env' ds' σ'
        | none => none) = _
    unfold actOp
    cases f env σ with
    | none => rfl
    | some q => simp only [logOf_put]
  unfold DOp Run
  simp only [h]
  cases f env σ with
  | none => simp
  | some q => exact propext ⟨fun h => ⟨q.1, q.2, rfl, h⟩, fun ⟨v, τ, h1, h⟩ => by cases h1; exact h⟩

theorem dops_call (hm : PrimMono T) {d : Option Nat} {f : Opd} {args : List Opd} {l : List AOper} {acc chk} {c : Cal} {as : List AV} {P : AV → St → Prop} (hc : callee (f.eval env) (evals env args) = some (c, as)) (h : Spec T c as σ P)
    (k : ∀ v τ, P v τ → Run T (.dops l (⟨σ, some (.call f args, env), (match d with | some _ => v | none => .undef)⟩ :: acc) chk :: ks) .normal (put env d v) ds τ Q) : Run T (.dops (⟨d, none, .call f args⟩ :: l) acc chk :: ks) .normal env ds σ Q := by
  obtain ⟨n, v, τ, h1, h2⟩ := h
  obtain ⟨m, x, e, d', s, h3, h4⟩ := k v τ h2
  refine ⟨max n m, x, e, d', s, ?_, h4⟩
  have h5 := exec_more hm (Nat.le_max_right n m) _ _ _ _ _ _ h3
  have h6 := call_le hm n (max n m) (Nat.le_max_left n m) _ _ _ _ h1
  rw [exec_dops_cons]
  have h7 : oper ⟨d, none, .call f args⟩ (call T (max n m)) env ds σ = some (put env d v, ds, τ) := by
    show actCall f args d (call T (max n m)) env ds σ = _
    unfold actCall
    rw [hc]; dsimp only; rw [h6]
  rw [h7]
  show execK T (max n m) (.dops l (logOf ⟨d, none, .call f args⟩ true env (put env d v) σ :: acc) chk :: ks) .normal (put env d v) ds τ = _
  rw [logOf_put]; exact h5

def GrdD (T : Tab) (v : AV) (b : Bool) (d : Option Nat) (p : AOp) (l : List AOper) (acc : List Log) (chk : List (Nat × List Nat)) (ks : List K) (env : Env) (ds : List ADef) (σ : St) (Q : Ex → Env → List ADef → St → Prop) : Prop :=
  ∃ w, v.wants b = some w ∧ ((w = true → Run T (.dops (⟨d, none, p⟩ :: l) acc chk :: ks) .normal env ds σ Q) ∧ (w = false → Run T (.dops l (⟨σ, none, .undef⟩ :: acc) chk :: ks) .normal (put env d .undef) ds σ Q))
theorem dops_guard {d : Option Nat} {p : AOp} {t : Nat} {b : Bool} {l : List AOper} {acc chk} : Run T (.dops (⟨d, some (t, b), p⟩ :: l) acc chk :: ks) .normal env ds σ Q = GrdD T (aget env t) b d p l acc chk ks env ds σ Q := by
  have h : ∀ n, execK T n (.dops (⟨d, some (t, b), p⟩ :: l) acc chk :: ks) .normal env ds σ = match (aget env t).wants b with
      | some w => bif w then execK T n (.dops (⟨d, none, p⟩ :: l) acc chk :: ks) .normal env ds σ else execK T n (.dops l (⟨σ, none, .undef⟩ :: acc) chk :: ks) .normal (put env d .undef) ds σ
      | none => none := fun n => by
    rw [exec_dops_cons]
    show (match (aget env t).wants b with | some b' => _ | none => _) = _
    have ho : oper ⟨d, some (t, b), p⟩ (call T n) env ds σ = operG d p t b (call T n) env ds σ := rfl
    rw [ho]; unfold operG
    cases hw : (aget env t).wants b with
    | none => rfl
    | some w =>
      cases w with
      | true => rw [exec_dops_cons]; rfl
      | false =>
        cases d with
        | none => rfl
        | some d => simp only [logOf, put, aget_put, cond_false]
  unfold GrdD
  cases hw : (aget env t).wants b with
  | none => simp [Run, h, hw]
  | some w => cases w <;> simp [Run, h, hw]
section
variable {b : Bool} {d : Option Nat} {p : AOp} {l : List AOper} {acc : List Log} {chk : List (Nat × List Nat)}
theorem grdD_undef : GrdD T .undef b d p l acc chk ks env ds σ Q = Run T (.dops l (⟨σ, none, .undef⟩ :: acc) chk :: ks) .normal (put env d .undef) ds σ Q := by simp [GrdD]
theorem grdD_tt : GrdD T (.bool true) true d p l acc chk ks env ds σ Q = Run T (.dops (⟨d, none, p⟩ :: l) acc chk :: ks) .normal env ds σ Q := by simp [GrdD]
theorem grdD_ff : GrdD T (.bool false) false d p l acc chk ks env ds σ Q = Run T (.dops (⟨d, none, p⟩ :: l) acc chk :: ks) .normal env ds σ Q := by simp [GrdD]
theorem grdD_tf : GrdD T (.bool true) false d p l acc chk ks env ds σ Q = Run T (.dops l (⟨σ, none, .undef⟩ :: acc) chk :: ks) .normal (put env d .undef) ds σ Q := by simp [GrdD]
theorem grdD_ft : GrdD T (.bool false) true d p l acc chk ks env ds σ Q = Run T (.dops l (⟨σ, none, .undef⟩ :: acc) chk :: ks) .normal (put env d .undef) ds σ Q := by simp [GrdD]
end

/-! ### Loops -/
theorem exec_append (n : Nat) (c : ACode) (_x : Ex) : execK T n (.code c :: ks) .normal env ds σ = match code c (call T n) n ⟨env, ds⟩ σ with
    | some (x, fr, σ) => execK T n ks x fr.env fr.defs σ
    | none => none := rfl

theorem loop_more (hm : PrimMono T) {m n' : Nat} (hn : m ≤ n') (c : ACode) {fr : Fr} {r} (h : code (.loop c) (call T m) m fr σ = some r) : ∀ k, m ≤ k → loopN (code c (call T n') n') k fr σ = some r := by
  have key : ∀ (j : Nat) (fr : Fr) (σ : St) (r), loopN (code c (call T m) m) j fr σ = some r → ∀ k, j ≤ k → loopN (code c (call T n') n') k fr σ = some r := by
    intro j
    induction j with
    | zero => exact fun _ _ _ h => by cases h
    | succ j ihj =>
      intro fr σ r h k hk
      cases k with
      | zero => omega
      | succ k =>
        have h' : andThen (code c (call T m) m fr σ) (loopN (code c (call T m) m) j) = some r := h
        show andThen (code c (call T n') n' fr σ) (loopN (code c (call T n') n') k) = some r
        cases h1 : code c (call T m) m fr σ with
        | none => rw [h1] at h'; exact absurd h' (by simp [andThen])
        | some q =>
          obtain ⟨x, fr1, s1⟩ := q
          rw [h1] at h'; rw [code_mono (call_le hm m n' hn) hn _ _ _ _ h1]
          cases x
          · exact ihj _ _ _ h' _ (by omega)
          · exact h'
          · exact h'
  exact key m fr σ r h

theorem run_loop (hm : PrimMono T) {c : ACode} (I : Nat → Env → List ADef → St → Prop)
    (step : ∀ k env ds σ, I k env ds σ → Run T [.code c] .normal env ds σ (fun x env' ds' σ' => (x = .normal ∧ ∃ k', k' < k ∧ I k' env' ds' σ') ∨ (x ≠ .normal ∧ Run T ks x env' ds' σ' Q)))
    (k : Nat) (h0 : I k env ds σ) : Run T (.code (.loop c) :: ks) .normal env ds σ Q := by
  induction k using Nat.strongRecOn generalizing env ds σ with
  | ind k ih =>
    obtain ⟨n, x, e1, d1, s1, h1, h2⟩ := step k env ds σ h0
    rw [exec_append n c .normal] at h1
    cases hcode : code c (call T n) n ⟨env, ds⟩ σ with
    | none => rw [hcode] at h1; exact absurd h1 (by simp)
    | some q =>
      obtain ⟨x', fr, s⟩ := q
      rw [hcode] at h1
      simp only [execK, Option.some.injEq, Prod.mk.injEq] at h1
      obtain ⟨rfl, rfl, rfl, rfl⟩ := h1
      rcases h2 with ⟨rfl, k', hk, hI⟩ | ⟨hx, m, x2, e2, d2, s2, h3, h4⟩
      · obtain ⟨m, x2, e2, d2, s2, h3, h4⟩ := ih k' hk hI
        refine ⟨max n m + 1, x2, e2, d2, s2, ?_, h4⟩
        rw [exec_append m _ .normal] at h3
        rw [exec_append _ _ .normal]
        cases hl : code (.loop c) (call T m) m ⟨fr.env, fr.defs⟩ s with
        | none => rw [hl] at h3; exact absurd h3 (by simp)
        | some q =>
          rw [hl] at h3
          have hq : code (.loop c) (call T (max n m + 1)) (max n m + 1) ⟨env, ds⟩ σ = some q := by
            show andThen (code c (call T (max n m + 1)) (max n m + 1) ⟨env, ds⟩ σ) (loopN (code c (call T (max n m + 1)) (max n m + 1)) (max n m)) = some q
            rw [code_mono (call_le hm n _ (by omega)) (show n ≤ max n m + 1 by omega) c _ _ _ hcode]
            show loopN (code c (call T (max n m + 1)) (max n m + 1)) (max n m) fr s = some q
            have h5 := loop_more hm (show m ≤ max n m + 1 by omega) c hl (max n m) (by omega)
            exact h5
          rw [hq]
          exact exec_more hm (show m ≤ max n m + 1 by omega) _ _ _ _ _ _ h3
      · refine ⟨max n m + 1, x2, e2, d2, s2, ?_, h4⟩
        rw [exec_append _ _ .normal]
        have hq : code (.loop c) (call T (max n m + 1)) (max n m + 1) ⟨env, ds⟩ σ = some (x', fr, s) := by
          show andThen (code c (call T (max n m + 1)) (max n m + 1) ⟨env, ds⟩ σ) (loopN (code c (call T (max n m + 1)) (max n m + 1)) (max n m)) = _
          rw [code_mono (call_le hm n _ (by omega)) (show n ≤ max n m + 1 by omega) c _ _ _ hcode]
          cases x' <;> first | exact absurd rfl hx | rfl
        rw [hq]
        exact exec_more hm (show m ≤ max n m + 1 by omega) _ _ _ _ _ _ h3

/-! ### A function from its body -/
def Fin (T : Tab) (res : List (Nat × Option (Option Nat))) (sr : Bool) (gc : Nat) (m : Nat) (P : AV → St → Prop) (x : Ex) (env : Env) (ds : List ADef) (τ : St) : Prop :=
  (match x with | .exit _ => False | _ => True) ∧ ∃ n τ', runDefs (call T n) ds τ = some τ' ∧ ∃ vs, readResults env τ' res = some vs ∧ P (bif sr then stripVal (one vs) else one vs) (τ'.gc gc m)

theorem spec_fn (hm : PrimMono T) {f : Nat} {fd : AFunc} {args : List AV} {P : AV → St → Prop} (hp : T.prim f = none) (hf : T.func.get f = some fd) (ha : Nat.ble args.length fd.nargs = true)
    (h : Run T [.code fd.body] .normal (numbered (bif fd.stripArgs then args.map stripVal else args) 0) [] σ (Fin T fd.results fd.stripRet fd.gc σ.next P)) : Spec T (.fn f) args σ P := by
  obtain ⟨n, x, e, d, s, h1, hx, m, s', h2, vs, h3, h4⟩ := h
  refine ⟨max n m + 1, _, _, ?_, h4⟩
  show callFn T (max n m) (call T (max n m)) f args σ = _
  unfold callFn
  rw [hp, hf]
  dsimp only
  unfold enter
  rw [ha, cond_true]
  rw [exec_append _ _ .normal] at h1
  cases hcode : code fd.body (call T n) n ⟨numbered (bif fd.stripArgs then args.map stripVal else args) 0, []⟩ σ with
  | none => rw [hcode] at h1; exact absurd h1 (by simp)
  | some q =>
    obtain ⟨x', fr, s0⟩ := q
    rw [hcode] at h1
    simp only [execK, Option.some.injEq, Prod.mk.injEq] at h1
    obtain ⟨rfl, rfl, rfl, rfl⟩ := h1
    rw [code_mono (call_le hm n _ (Nat.le_max_left n m)) (Nat.le_max_left n m) _ _ _ _ hcode]
    dsimp only
    rw [runDefs_mono (call_le hm m _ (Nat.le_max_right n m)) _ _ _ h2]
    cases x' with
    | exit i => exact hx.elim
    | normal => dsimp only; rw [h3]
    | ret => dsimp only; rw [h3]

/-- Without anything deferred. -/
theorem fin_ret {res : List (Nat × Option (Option Nat))} {sr : Bool} {gc m : Nat} {P : AV → St → Prop} {τ : St} : Fin T res sr gc m P .ret env [] τ = ∃ vs, readResults env τ res = some vs ∧ P (bif sr then stripVal (one vs) else one vs) (τ.gc gc m) := by
  unfold Fin
  exact propext ⟨fun ⟨_, n, τ', h1, h2⟩ => by cases h1; exact h2, fun h => ⟨trivial, 0, τ, rfl, h⟩⟩
theorem fin_normal {res : List (Nat × Option (Option Nat))} {sr : Bool} {gc m : Nat} {P : AV → St → Prop} {τ : St} : Fin T res sr gc m P .normal env [] τ = ∃ vs, readResults env τ res = some vs ∧ P (bif sr then stripVal (one vs) else one vs) (τ.gc gc m) := by
  unfold Fin
  exact propext ⟨fun ⟨_, n, τ', h1, h2⟩ => by cases h1; exact h2, fun h => ⟨trivial, 0, τ, rfl, h⟩⟩

/-- A call of a function by its number. -/
def CallK (T : Tab) (n : Nat) (as : List AV) (σ : St) (d : Option Nat) (l : List AOper) (ks : List K) (env : Env) (ds : List ADef) (Q : Ex → Env → List ADef → St → Prop) : Prop :=
  ∃ P, Spec T (.fn n) as σ P ∧ ∀ v τ, P v τ → Run T (.ops l :: ks) .normal (put env d v) ds τ Q
theorem r_call (hm : PrimMono T) {d : Option Nat} {n : Nat} {args : List Opd} {l : List AOper} : Run T (.ops (⟨d, none, .call (.f n) args⟩ :: l) :: ks) .normal env ds σ Q = CallK T n (evals env args) σ d l ks env ds Q := by
  have hc : callee ((Opd.f n).eval env) (evals env args) = some (Cal.fn n, evals env args) := by
    show some (Cal.fn n, [] ++ evals env args ++ []) = _; rw [List.nil_append, List.append_nil]
  refine propext ⟨fun ⟨m, x, e, d', s, h1, h2⟩ => ?_, fun ⟨P, h1, h2⟩ => ops_call hm hc h1 h2⟩
  have h : opers (⟨d, none, .call (.f n) args⟩ :: l) (call T m) env ds σ = match call T m (.fn n) (evals env args) σ with
      | some (v, τ) => opers l (call T m) (put env d v) ds τ
      | none => none := by
    show opersCons _ (opers l) (call T m) env ds σ = _
    unfold opersCons
    have h7 : oper ⟨d, none, .call (.f n) args⟩ (call T m) env ds σ = match call T m (.fn n) (evals env args) σ with
      | some (v, τ) => some (put env d v, ds, τ)
      | none => none := by
      show actCall (.f n) args d (call T m) env ds σ = _
      unfold actCall
      rw [hc]; rfl
    rw [h7]
    cases call T m (.fn n) (evals env args) σ with
    | none => rfl
    | some q => rfl
  cases hcall : call T m (.fn n) (evals env args) σ with
  | none => simp only [execK, h, hcall] at h1; exact absurd h1 (by simp)
  | some q =>
    obtain ⟨v, τ⟩ := q
    simp only [execK, h, hcall] at h1
    exact ⟨fun v' τ' => v' = v ∧ τ' = τ, ⟨m, v, τ, hcall, rfl, rfl⟩, fun v' τ' hv => by obtain ⟨rfl, rfl⟩ := hv; exact ⟨m, x, e, d', s, h1, h2⟩⟩
/-- The same in a drawn region. -/
def CallD (T : Tab) (n : Nat) (args : List Opd) (as : List AV) (σ : St) (d : Option Nat) (l : List AOper) (acc : List Log) (chk : List (Nat × List Nat)) (ks : List K) (env : Env) (ds : List ADef) (Q : Ex → Env → List ADef → St → Prop) : Prop :=
  PrimMono T → ∃ P, Spec T (.fn n) as σ P ∧ ∀ v τ, P v τ → Run T (.dops l (⟨σ, some (.call (.f n) args, env), (match d with | some _ => v | none => .undef)⟩ :: acc) chk :: ks) .normal (put env d v) ds τ Q
theorem q_call (hm : PrimMono T) {d : Option Nat} {n : Nat} {args : List Opd} {l : List AOper} {acc chk} : Run T (.dops (⟨d, none, .call (.f n) args⟩ :: l) acc chk :: ks) .normal env ds σ Q = CallD T n args (evals env args) σ d l acc chk ks env ds Q := by
  have hc : callee ((Opd.f n).eval env) (evals env args) = some (Cal.fn n, evals env args) := by
    show some (Cal.fn n, [] ++ evals env args ++ []) = _; rw [List.nil_append, List.append_nil]
  refine propext ⟨fun ⟨m, x, e, d', s, h1, h2⟩ => ?_, fun h => (have ⟨P, h1, h2⟩ := h hm; dops_call hm hc h1 h2)⟩
  rw [exec_dops_cons] at h1
  have h7 : oper ⟨d, none, .call (.f n) args⟩ (call T m) env ds σ = match call T m (.fn n) (evals env args) σ with
      | some (v, τ) => some (put env d v, ds, τ)
      | none => none := by
    show actCall (.f n) args d (call T m) env ds σ = _
    unfold actCall
    rw [hc]; rfl
  rw [h7] at h1
  intro _
  cases hcall : call T m (.fn n) (evals env args) σ with
  | none => rw [hcall] at h1; exact absurd h1 (by simp [wanted])
  | some q =>
    obtain ⟨v, τ⟩ := q
    rw [hcall] at h1
    have h8 : execK T m (.dops l (logOf ⟨d, none, .call (.f n) args⟩ true env (put env d v) σ :: acc) chk :: ks) .normal (put env d v) ds τ = some (x, e, d', s) := h1
    rw [logOf_put] at h8
    exact ⟨fun v' τ' => v' = v ∧ τ' = τ, ⟨m, v, τ, hcall, rfl, rfl⟩, fun v' τ' hv => by obtain ⟨rfl, rfl⟩ := hv; exact ⟨m, x, e, d', s, h8, h2⟩⟩

/-- From a call on to a call that leaves the heap as it was. -/
def Ret (h : Heap) (m : Nat) (v : AV) : AV → St → Prop := fun v' τ => v' = v ∧ τ.heap = h ∧ m ≤ τ.next
theorem CallK.ret {n m : Nat} {as : List AV} {h : Heap} {d : Option Nat} {l : List AOper} {v : AV} (hs : Spec T (.fn n) as ⟨h, m⟩ (Ret h m v)) (k : ∀ m', m ≤ m' → Run T (.ops l :: ks) .normal (put env d v) ds ⟨h, m'⟩ Q) : CallK T n as ⟨h, m⟩ d l ks env ds Q :=
  ⟨_, hs, fun v' τ hv => by obtain ⟨rfl, h1, h2⟩ := hv; obtain ⟨h', m'⟩ := τ; cases h1; exact k m' h2⟩
theorem CallD.ret {n m : Nat} {args : List Opd} {as : List AV} {h : Heap} {d : Option Nat} {l : List AOper} {acc chk} {v : AV} (hs : Spec T (.fn n) as ⟨h, m⟩ (Ret h m v)) (k : ∀ m', m ≤ m' → Run T (.dops l (⟨⟨h, m⟩, some (.call (.f n) args, env), (match d with | some _ => v | none => .undef)⟩ :: acc) chk :: ks) .normal (put env d v) ds ⟨h, m'⟩ Q) : CallD T n args as ⟨h, m⟩ d l acc chk ks env ds Q :=
  fun _ => ⟨_, hs, fun v' τ hv => by obtain ⟨rfl, h1, h2⟩ := hv; obtain ⟨h', m'⟩ := τ; cases h1; exact k m' h2⟩
structure Has (T : Tab) (n : Nat) (fd : AFunc) : Prop where
  prim : T.prim n = none
  func : T.func.get n = some fd
end
end Go.AM
