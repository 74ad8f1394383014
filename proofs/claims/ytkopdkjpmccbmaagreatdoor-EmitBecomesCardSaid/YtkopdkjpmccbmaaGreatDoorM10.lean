/- A part of the proof of: EmitBecomes: what a term becomes by patterns, and a pattern's name, is what the document says, or the error is told. -/
import Derived.Test.YtkopdkjpmccbmaaGreatDoorM09
namespace Go.AM
open Go.RowKit
variable {σ τ : St} {env : Env} {v : AV}

theorem next_add (σ : St) (o : AObj) : σ.next ≤ (σ.add o).next := Nat.le_succ _
theorem appSlice_next {es xs : List AV} {tk : Tok} {sz bytes : Nat} {hs : Bool} (h : appSlice es tk sz bytes hs xs σ = some (v, τ)) : σ.next ≤ τ.next := by
  unfold appSlice at h
  cases hc : (fits (es.length + xs.length) bytes && xs.all (elemOk sz) && headOk sz es) with
  | false => rw [hc] at h; cases h
  | true =>
    rw [hc, cond_true] at h
    cases he : xs.isEmpty with
    | true => rw [he, cond_true] at h; cases h; exact Nat.le_refl _
    | false =>
      rw [he, cond_false] at h
      cases hs with
      | true =>
        rw [cond_true] at h
        cases tk <;> first | (cases h; done) | (cases h; exact next_add _ _)
      | false =>
        rw [cond_false] at h
        unfold grow at h
        cases tk with
        | none => cases h
        | full => cases h; exact next_add _ _
        | live i g =>
          simp only at h
          cases ht : σ.tokOf i with
          | none => rw [ht] at h; cases h
          | some p =>
            obtain ⟨g', z⟩ := p
            rw [ht] at h; simp only at h
            cases hb : (Nat.beq g' g && Nat.beq z sz) with
            | false => rw [hb] at h; cases h
            | true => rw [hb] at h; cases h; exact Nat.le_refl _
theorem appHsl_next {o off len z sz bytes : Nat} {hs : Bool} {xs : List AV} (h : appHsl o off len z sz bytes hs xs σ = some (v, τ)) : σ.next ≤ τ.next := by
  unfold appHsl at h
  cases hc : (fits (len + xs.length) bytes && xs.all (elemOk sz) && Nat.beq z sz) with
  | false => rw [hc] at h; cases h
  | true =>
    rw [hc, cond_true] at h
    cases hl : σ.cells o with
    | none => rw [hl] at h; cases h
    | some l =>
      rw [hl] at h; simp only at h
      cases hs : slc l off (len * sz) with
      | none => rw [hs] at h; cases h
      | some cs => rw [hs] at h; cases h; exact Nat.le_succ _
theorem appTo_next {s : AV} {sz bytes : Nat} {hs : Bool} {xs : List AV} (h : appTo s sz bytes hs xs σ = some (v, τ)) : σ.next ≤ τ.next := by
  cases s with
  | slice es tk => exact appSlice_next (tk := tk) (es := es) h
  | hsl o off len z => exact appHsl_next (o := o) (off := off) (len := len) (z := z) (sz := sz) (bytes := bytes) (hs := hs) (xs := xs) h
  | _ => cases h

theorem op_next {p : AOp} (h : op p env σ = some (v, τ)) : σ.next ≤ τ.next := by
  have same : ∀ {x : Option AV}, ret1 x σ = some (v, τ) → σ.next ≤ τ.next := fun h => by obtain ⟨_, rfl⟩ := ret1_some h; exact Nat.le_refl _
  cases p with
  | append sz bytes hs s x =>
    have h' : op_append sz bytes hs s x env σ = some (v, τ) := h
    unfold op_append at h'
    split at h'
    · exact appTo_next h'
    · cases h'
  | append1 sz bytes s x =>
    have h' : appTo1 (s.eval env) sz bytes [x.eval env] σ = some (v, τ) := h
    generalize s.eval env = b at h'
    cases b <;> first
      | (cases h'; done)
      | exact appSlice_next h'
  | store n x y =>
    have h' : op_store n x y env σ = some (v, τ) := h
    unfold op_store at h'
    split at h'
    · rename_i hs
      cases h'
      have : ∀ (p : AV) (cs : List AV), storeCells p σ n cs = some τ → σ.next ≤ τ.next := by
        intro p cs hp
        cases p <;> first | (cases hp; done) | skip
        rename_i ob off
        have hp' : storePtr ob off σ n cs = some τ := hp
        unfold storePtr at hp'
        split at hp'
        · cases hc : (Nat.beq cs.length n && cs.all isCell) with
          | false => rw [hc] at hp'; cases hp'
          | true =>
            rw [hc, cond_true] at hp'
            split at hp'
            · cases hp'; exact Nat.le_refl _
            · cases hp'
        · cases hp'
      exact this _ _ hs
    · cases h'
  | bad => cases h
  | call f args => cases h
  | defer f args => cases h
  | load n x => exact same h
  | nilCheck x => exact same h
  | bin o x y => exact same h
  | un o x => exact same h
  | sliceSl sz x lo hi => exact same h
  | fieldAddr off x => exact same h
  | move x => cases h; exact Nat.le_refl _
  | alloc z => cases h; exact Nat.le_succ _
  | makeFunc f a b => cases h; exact Nat.le_refl _
  | makeMap ks => cases h; exact Nat.le_succ _
  | pick c x y => have h' : op_pick c x y env σ = some (v, τ) := h; unfold op_pick at h'; split at h' <;> cases h'; exact Nat.le_refl _
  | box x =>
    have h' : op_box x env σ = some (v, τ) := h
    unfold op_box at h'
    cases hk : known (x.eval env) with
    | false => rw [hk] at h'; cases h'
    | true => rw [hk] at h'; cases h'; exact Nat.le_succ _
  | build z ps => have h' : op_build z ps env σ = some (v, τ) := h; unfold op_build at h'; split at h' <;> cases h'; exact Nat.le_refl _
  | buildSlice sz len z ps hs =>
    have h' : op_buildSlice sz len z ps hs env σ = some (v, τ) := h
    unfold op_buildSlice at h'
    split at h'
    · cases hs <;> cases h'
      · exact Nat.le_refl _
      · exact Nat.le_succ _
    · cases h'
  | eqAgg neg ks x y =>
    have h' : op_eqAgg neg ks x y env σ = some (v, τ) := h
    unfold op_eqAgg at h'
    cases hp : (x.eval env).agg? with
    | none => rw [hp] at h'; cases h'
    | some a =>
      rw [hp] at h'; simp only at h'
      cases hq : (y.eval env).agg? with
      | none => rw [hq] at h'; cases h'
      | some b =>
        rw [hq] at h'; simp only at h'
        cases hc : (eqNs (shapesP a) ks && eqNs (shapesP b) ks) with
        | false => rw [hc] at h'; cases h'
        | true => rw [hc] at h'; cases h'; exact Nat.le_refl _
  | eqBool neg x y => have h' : op_eqBool neg x y env σ = some (v, τ) := h; unfold op_eqBool at h'; (repeat' split at h') <;> cases h'; exact Nat.le_refl _
  | eqNil neg kd x y => have h' : op_eqNil neg kd x y env σ = some (v, τ) := h; unfold op_eqNil at h'; (repeat' split at h') <;> cases h'; exact Nat.le_refl _
  | convInt k x => have h' : op_convInt k x env σ = some (v, τ) := h; unfold op_convInt at h'; (repeat' split at h') <;> cases h'; exact Nat.le_refl _
  | convId x => have h' : op_convId x env σ = some (v, τ) := h; unfold op_convId at h'; (repeat' split at h') <;> cases h'; exact Nat.le_refl _
  | convChar x =>
    have h' : op_convChar x env σ = some (v, τ) := h
    unfold op_convChar at h'
    split at h'
    · split at h'
      · rename_i n _
        cases hb : Nat.blt n 128 with
        | false => rw [hb] at h'; cases h'
        | true => rw [hb] at h'; cases h'; exact Nat.le_refl _
      · cases h'
    · cases h'
  | convBytes x => have h' : op_convBytes x env σ = some (v, τ) := h; unfold op_convBytes at h'; (repeat' split at h') <;> cases h'; exact Nat.le_refl _
  | makeSlice sz bytes z x y =>
    have h' : op_makeSlice sz bytes z x y env σ = some (v, τ) := h
    unfold op_makeSlice at h'
    cases hp : (x.eval env).int? with
    | none => rw [hp] at h'; cases h'
    | some l0 =>
      rw [hp] at h'; simp only at h'
      cases hq : (y.eval env).int? with
      | none => rw [hq] at h'; cases h'
      | some c =>
        rw [hq] at h'; simp only at h'
        cases hn : natI l0 with
        | none => rw [hn] at h'; cases h'
        | some l =>
          rw [hn] at h'; simp only at h'
          cases hb : (eqI c l && Nat.ble (l * bytes) most && Nat.ble (l * sz) most) with
          | false => rw [hb] at h'; cases h'
          | true => rw [hb] at h'; cases h'; exact Nat.le_succ _
  | sliceStr x lo hi => have h' : op_sliceStr x lo hi env σ = some (v, τ) := h; unfold op_sliceStr at h'; (repeat' split at h') <;> cases h'; exact Nat.le_refl _
  | field off n x =>
    have h' : op_field off n x env σ = some (v, τ) := h
    unfold op_field at h'
    split at h'
    · split at h'
      · exact same h'
      · cases h'
    · cases h'
  | indexArr len sz x i =>
    have h' : op_indexArr len sz x i env σ = some (v, τ) := h
    unfold op_indexArr at h'
    split at h'
    · split at h'
      · exact same h'
      · cases h'
    · cases h'
  | indexSl sz x i =>
    have h' : op_indexSl sz x i env σ = some (v, τ) := h
    unfold op_indexSl at h'
    split at h'
    · exact same h'
    · cases h'
  | charAt x i => have h' : op_charAt x i env σ = some (v, τ) := h; unfold op_charAt at h'; (repeat' split at h') <;> cases h'; exact Nat.le_refl _
  | lookup ks z x i ok =>
    have h' : op_lookup ks z x i ok env σ = some (v, τ) := h
    unfold op_lookup at h'
    split at h'
    · cases hk : keyOk ks (i.eval env) with
      | false => rw [hk] at h'; cases h'
      | true => rw [hk, cond_true] at h'; split at h' <;> cases h' <;> exact Nat.le_refl _
    · cases h'
  | mapUpdate ks m k x =>
    have h' : op_mapUpdate ks m k x env σ = some (v, τ) := h
    unfold op_mapUpdate at h'
    split at h'
    · split at h'
      · cases hk : (keyOk ks (k.eval env) && known (x.eval env)) with
        | false => rw [hk] at h'; cases h'
        | true => rw [hk] at h'; cases h'; exact Nat.le_refl _
      · cases h'
    · cases h'
  | delete ks m k =>
    have h' : op_delete ks m k env σ = some (v, τ) := h
    unfold op_delete at h'
    split at h'
    · split at h'
      · cases hk : keyOk ks (k.eval env) with
        | false => rw [hk] at h'; cases h'
        | true => rw [hk] at h'; cases h'; exact Nat.le_refl _
      · cases h'
    · cases h'
  | extract x i =>
    have h' : op_extract x i env σ = some (v, τ) := h
    unfold op_extract at h'
    split at h'
    · exact same h'
    · cases h'
  | lenStr x => have h' : op_lenStr x env σ = some (v, τ) := h; unfold op_lenStr at h'; (repeat' split at h') <;> cases h'; exact Nat.le_refl _
  | lenSl x => have h' : op_lenSl x env σ = some (v, τ) := h; unfold op_lenSl at h'; (repeat' split at h') <;> cases h'; exact Nat.le_refl _
  | lenMap ks x => have h' : op_lenMap ks x env σ = some (v, τ) := h; unfold op_lenMap at h'; (repeat' split at h') <;> cases h'; exact Nat.le_refl _
  | min x y => have h' : op_min x y env σ = some (v, τ) := h; unfold op_min at h'; (repeat' split at h') <;> cases h'; exact Nat.le_refl _
  | rangeStr x => have h' : op_rangeStr x env σ = some (v, τ) := h; unfold op_rangeStr at h'; split at h' <;> cases h'; exact Nat.le_succ _
  | nextStr x =>
    have h' : op_nextStr x env σ = some (v, τ) := h
    unfold op_nextStr at h'
    split at h'
    · split at h'
      · split at h'
        · cases h'; exact Nat.le_refl _
        · rename_i b _
          cases hb : Nat.blt b.toNat 128 with
          | false => rw [hb] at h'; cases h'
          | true => rw [hb] at h'; cases h'; exact Nat.le_refl _
      · cases h'
    · cases h'
  | mapLit ks ps =>
    have h' : op_mapLit ks ps env σ = some (v, τ) := h
    unfold op_mapLit at h'
    cases hk : litOk env ps with
    | false => rw [hk] at h'; cases h'
    | true => rw [hk] at h'; cases h'; exact Nat.le_succ _

end Go.AM
namespace Go.AM
open Go.RowKit
variable {P : Program} {cfg : Cfg} {C D : Ctx} {σ τ : St} {w : World} {env env' : Env} {a : Act} {o : Oper} {v : AV} {ds ds' : List ADef} {cl : CallF} {r : Option Nat} {ops : Array Oper}

theorem Fresh.sub {n m n' m' : Nat} (h : Fresh C n m) (h1 : n ≤ n') (h2 : m' ≤ m) : Fresh C n' m' := fun i a b => h i (by omega) (by omega)
/-- Behind what was done: what comes later is still to be had. -/
theorem Fresh.after {υ : St} {w' : World} (h : Fresh C σ.next υ.next) (e : Ev C σ w D τ w') : Fresh D τ.next υ.next := fun i a b => by
  have hn := e.next
  obtain ⟨h1, h2⟩ := h i (by omega) b
  refine ⟨?_, fun g => ?_⟩
  · by_cases hc : D.κ i = C.κ i
    · rw [hc]; exact h1
    · have := e.kap i hc; omega
  · by_cases hc : D.T i g = C.T i g
    · rw [hc]; exact h2 g
    · have := (e.tok i g hc).1; omega

theorem wanted_sound {t j : Nat} {b ww : Bool} {q : Oper} (he : EnvR C env a.tmps) (ho : o.guard = some (j, b)) (hq : ops[j]? = some q) (hd : q.dst = some t) (h : (aget env t).wants b = some ww) : Region.wanted o (yielded ops a.tmps) = ww := by
  unfold Region.wanted
  rw [ho]
  simp only
  have hy : yielded ops a.tmps j = match a.tmps[t]? with | some (.bool b) => some b | _ => none := by
    unfold yielded
    rw [hq, Option.bind_some, hd, Option.bind_some]
    cases a.tmps[t]? with
    | none => rfl
    | some u => cases u <;> rfl
  rw [hy]
  have hv := he t
  rw [Array.getD_eq_getD_getElem?] at hv
  generalize aget env t = x at h hv
  cases ht : a.tmps[t]? with
  | none =>
    rw [ht] at hv
    simp only [Option.getD_none] at hv
    have hu : ∀ y u, VR C y u → u = undef → y.wants b = some ww → ww = false := by
      intro y u hy hu hw
      cases hy <;> simp at hw
      · exact hw
      · cases hu
    have := hu _ _ hv rfl h
    subst this; rfl
  | some u =>
    rw [ht] at hv
    simp only [Option.getD_some] at hv
    cases hv <;> simp at h
    · subst h; rfl
    · subst h
      rename_i c
      cases b <;> cases c <;> rfl

theorem guardT_some {g : Option (Nat × Bool)} (h : guardT ops o = some g) : (g = none ∧ o.guard = none) ∨ ∃ j b q t, o.guard = some (j, b) ∧ ops[j]? = some q ∧ q.dst = some t ∧ g = some (t, b) := by
  unfold guardT at h
  split at h
  · rename_i h1; cases h; exact .inl ⟨rfl, h1⟩
  · rename_i j b h1
    split at h
    · rename_i q h2
      split at h
      · rename_i d h3; cases h; exact .inr ⟨j, b, q, d, h1, h2, h3, rfl⟩
      · cases h
    · cases h

/-- One operation of a region. -/
theorem oper_sound {fid i : Nat} (hcl : ClOk P cfg cl) (hI : Inv P cfg C σ w) (he : EnvR C env a.tmps) (hd : DefsR C ds a.defers) (hi : ops[i]? = some o)
    (h : oper (compOper P cfg fid ops o) cl env ds σ = some (env', ds', τ)) (hf : Fresh C σ.next τ.next) (hr : r = none ∨ ds' = ds) :
    ∃ v, env' = put env o.dst v ∧ ∀ K Q, Hands P cfg C σ w a o v ds' τ K → wpOpIn (FR r) 0 P ops Q i K a w := by
  have fin : ∀ {v : AV} {ww : Bool}, Region.wanted o (yielded ops a.tmps) = ww → (ww = true → ∀ K Q, Hands P cfg C σ w a o v ds' τ K → o.wpIn (FR r) 0 P a w K Q) → (ww = false → v = .undef ∧ ds' = ds ∧ τ = σ) →
      ∀ K Q, Hands P cfg C σ w a o v ds' τ K → wpOpIn (FR r) 0 P ops Q i K a w := by
    intro v ww hw h1 h2 K Q hK
    unfold wpOpIn
    rw [hi]
    simp only [hw]
    cases ww with
    | true => simp only [if_true]; exact h1 rfl K Q hK
    | false =>
      simp only [Bool.false_eq_true, if_false]
      obtain ⟨rfl, rfl, rfl⟩ := h2 rfl
      exact ⟨fun _ _ => trivial, hK C undef w a.defers (.refl _ _ _) hI .undef hd⟩
  unfold compOper at h
  cases hg : guardT ops o with
  | none => rw [hg] at h; cases h
  | some g =>
    rw [hg] at h
    rcases guardT_some hg with ⟨rfl, hgo⟩ | ⟨j, b, q, t, hgo, hq, hqd, rfl⟩
    · have h' : act (onlyPlain o.op (compOp P cfg fid o.dst o.op)) o.dst cl env ds σ = some (env', ds', τ) := h
      obtain ⟨v, h1, h2⟩ := act_sound hcl hI he hd h' hf hr
      exact ⟨v, h1, fin (ww := true) (by unfold Region.wanted; rw [hgo]) (fun _ => h2) (fun e => by cases e)⟩
    · have h' : operG o.dst (onlyPlain o.op (compOp P cfg fid o.dst o.op)) t b cl env ds σ = some (env', ds', τ) := h
      unfold operG at h'
      cases hw : (aget env t).wants b with
      | none => rw [hw] at h'; cases h'
      | some ww =>
        rw [hw] at h'; simp only at h'
        have hws := wanted_sound he hgo hq hqd hw
        cases ww with
        | true =>
          rw [cond_true] at h'
          obtain ⟨v, h1, h2⟩ := act_sound hcl hI he hd h' hf hr
          exact ⟨v, h1, fin hws (fun _ => h2) (fun e => by cases e)⟩
        | false =>
          rw [cond_false] at h'; cases h'
          exact ⟨.undef, rfl, fin hws (fun e => by cases e) (fun _ => ⟨rfl, rfl, rfl⟩)⟩

theorem act_next {p : AOp} {d : Option Nat} (hcl : ClOk P cfg cl) (h : act p d cl env ds σ = some (env', ds', τ)) : σ.next ≤ τ.next ∧ (ds' = ds ∨ ∃ x, ds' = x :: ds) := by
  cases p with
  | call f args =>
    have h' : actCall f args d cl env ds σ = some (env', ds', τ) := h
    unfold actCall at h'
    split at h'
    · split at h'
      · rename_i hc; cases h'; exact ⟨hcl.next _ _ _ _ _ hc, .inl rfl⟩
      · cases h'
    · cases h'
  | defer f args =>
    have h' : actDefer f args d cl env ds σ = some (env', ds', τ) := h
    unfold actDefer at h'
    split at h'
    · rename_i g first caps _
      cases hok : defOk g with
      | false => rw [hok] at h'; cases h'
      | true => rw [hok] at h'; cases h'; exact ⟨Nat.le_refl _, .inr ⟨_, rfl⟩⟩
    · cases h'
  | _ =>
    obtain ⟨v, h1, _, h2⟩ := act_plain rfl h
    exact ⟨op_next h1, .inl h2⟩

theorem oper_next {co : AOper} (hcl : ClOk P cfg cl) (h : oper co cl env ds σ = some (env', ds', τ)) : σ.next ≤ τ.next ∧ (ds' = ds ∨ ∃ x, ds' = x :: ds) := by
  unfold oper at h
  cases hg : co.guard with
  | none => rw [hg] at h; exact act_next hcl h
  | some p =>
    obtain ⟨t, b⟩ := p
    rw [hg] at h; simp only at h
    unfold operG at h
    cases hw : (aget env t).wants b with
    | none => rw [hw] at h; cases h
    | some ww =>
      rw [hw] at h; simp only at h
      cases ww with
      | true => exact act_next hcl h
      | false => cases h; exact ⟨Nat.le_refl _, .inl rfl⟩

theorem opers_next {l : List AOper} (hcl : ClOk P cfg cl) : ∀ {env : Env} {ds : List ADef} {σ : St}, opers l cl env ds σ = some (env', ds', τ) → σ.next ≤ τ.next ∧ ds <:+ ds' := by
  induction l with
  | nil => intro env ds σ h; cases h; exact ⟨Nat.le_refl _, List.suffix_refl _⟩
  | cons o l ih =>
    intro env ds σ h
    have h' : (match oper o cl env ds σ with | some (env, ds, σ) => opers l cl env ds σ | none => none) = some (env', ds', τ) := h
    cases ho : oper o cl env ds σ with
    | none => rw [ho] at h'; cases h'
    | some q =>
      obtain ⟨e1, d1, s1⟩ := q
      rw [ho] at h'; simp only at h'
      obtain ⟨h1, h2⟩ := oper_next hcl ho
      obtain ⟨h3, h4⟩ := ih h'
      refine ⟨Nat.le_trans h1 h3, ?_⟩
      rcases h2 with rfl | ⟨x, rfl⟩
      · exact h4
      · exact (List.suffix_cons _ _).trans h4

theorem put_size (a : Act) (d : Option Tmp) (u : Value) : (a.put d u).tmps.size = a.tmps.size := by
  cases d <;> simp [Act.put]
theorem put_defers (a : Act) (d : Option Tmp) (u : Value) : (a.put d u).defers = a.defers := by cases d <;> rfl

/-- Operations, one behind another. -/
theorem opers_sound {fid N : Nat} (hcl : ClOk P cfg cl) {Q : Exit → Act → World → Prop} (hdst : ∀ (i : Nat) (o : Oper), ops[i]? = some o → ∀ d, o.dst = some d → d < N) : ∀ (m k : Nat) (C : Ctx) (σ : St) (w : World) (env : Env) (ds : List ADef) (a : Act), k + m = ops.size →
    Inv P cfg C σ w → EnvR C env a.tmps → DefsR C ds a.defers → N ≤ a.tmps.size →
    opers ((ops.toList.drop k).map (compOper P cfg fid ops)) cl env ds σ = some (env', ds', τ) → Fresh C σ.next τ.next → (r = none ∨ ds' = ds) →
    (∀ D a' w', Ev C σ w D τ w' → Inv P cfg D τ w' → EnvR D env' a'.tmps → DefsR D ds' a'.defers → a'.tmps.size = a.tmps.size → Q .normal a' w') →
    wpOpsIn (FR r) 0 P ops Q (List.range' k m) a w := by
  intro m
  induction m with
  | zero =>
    intro k C σ w env ds a hk hI he hd hN h hf hr hQ
    rw [List.drop_of_length_le (by simp; omega)] at h
    cases h
    exact hQ C a w (.refl _ _ _) hI he hd rfl
  | succ m ih =>
    intro k C σ w env ds a hk hI he hd hN h hf hr hQ
    have hklt : k < ops.toList.length := by simp; omega
    have hko : ops[k]? = some ops[k] := Array.getElem?_eq_getElem (by omega)
    rw [List.drop_eq_getElem_cons hklt, List.map_cons] at h
    have h' : (match oper (compOper P cfg fid ops ops.toList[k]) cl env ds σ with | some (env, ds, σ) => opers ((ops.toList.drop (k + 1)).map (compOper P cfg fid ops)) cl env ds σ | none => none) = some (env', ds', τ) := h
    rw [Array.getElem_toList] at h'
    cases hop : oper (compOper P cfg fid ops ops[k]) cl env ds σ with
    | none => rw [hop] at h'; cases h'
    | some q =>
      obtain ⟨e1, d1, s1⟩ := q
      rw [hop] at h'; simp only at h'
      obtain ⟨n1, n2⟩ := oper_next hcl hop
      obtain ⟨n3, n4⟩ := opers_next hcl h'
      have hr1 : r = none ∨ d1 = ds := by
        rcases hr with h | h
        · exact .inl h
        · right
          rcases n2 with h2 | ⟨x, rfl⟩
          · exact h2
          · subst h; have := n4.length_le; simp at this; omega
      have hr2 : r = none ∨ ds' = d1 := by
        rcases hr with h | h
        · exact .inl h
        · rcases hr1 with h2 | h2
          · exact .inl h2
          · exact .inr (h.trans h2.symm)
      obtain ⟨v, hv1, hv2⟩ := oper_sound (r := r) hcl hI he hd hko hop (hf.sub (Nat.le_refl _) n3) hr1
      rw [List.range'_succ, wpOpsIn_cons]
      refine hv2 _ _ fun D u w' defs hE hI' hv hdD => ?_
      have hsz : (Act.put { a with defers := defs } ops[k].dst u).tmps.size = a.tmps.size := put_size _ _ _
      refine ih (k + 1) D s1 w' e1 d1 _ (by omega) hI' ?_ (by rw [put_defers]; exact hdD) (by rw [hsz]; exact hN) h' (hf.after hE) hr2 fun D' a' w'' hE' hI'' he' hd' hs' => hQ D' a' w'' (hE.trans hE') hI'' he' hd' (hs'.trans hsz)
      rw [hv1]
      exact EnvR.put (a := { a with defers := defs }) (he.mono hE.le) _ hv (fun t ht => Nat.lt_of_lt_of_le (hdst k _ hko t ht) hN)

end Go.AM
namespace Go.AM
open Go.RowKit
variable {P : Program} {cfg : Cfg} {C D : Ctx} {σ τ : St} {w : World} {env env' : Env} {a : Act} {v : AV} {ds ds' : List ADef} {cl : CallF} {r : Option Nat}

def Ex.to : Ex → Exit
  | .normal => .normal
  | .exit i => .exit i
  | .ret => .ret

/-- What is left behind a piece of code. -/
def Left (P : Program) (cfg : Cfg) (X : List Nat) (C : Ctx) (σ : St) (w : World) (a : Act) (env' : Env) (ds' : List ADef) (τ : St) (K : Act → World → Prop) : Prop :=
  ∀ D a' w', Ev C σ w D τ w' → Inv P cfg D τ w' → EnvR D env' a'.tmps → EnvIn X env' → DefsR D ds' a'.defers → a'.tmps.size = a.tmps.size → K a' w'

/-- A piece of code does in the machine what it does here. -/
def CodeSound (P : Program) (cfg : Cfg) (r : Option Nat) (s : Self) (c : Code) (ac : ACode) : Prop :=
  ∀ (cl : CallF) (_ : ClOk P cfg cl) (n : Nat) (env : Env) (ds : List ADef) (σ : St) (x : Ex) (env' : Env) (ds' : List ADef) (τ : St) (C : Ctx) (w : World) (a : Act) (Q : Exit → Act → World → Prop),
    code ac cl n ⟨env, ds⟩ σ = some (x, ⟨env', ds'⟩, τ) → Inv P cfg C σ w → EnvR C env a.tmps → EnvIn s.X env → DefsR C ds a.defers → s.N ≤ a.tmps.size → Fresh C σ.next τ.next → (r = none ∨ ds' = ds) →
    Left P cfg s.X C σ w a env' ds' τ (Q x.to) → c.wpIn (FR r) 0 P Q a w

def Nexts (ac : ACode) : Prop := ∀ (P : Program) (cfg : Cfg) (cl : CallF) (_ : ClOk P cfg cl) (n : Nat) (env : Env) (ds : List ADef) (σ : St) (x : Ex) (env' : Env) (ds' : List ADef) (τ : St),
  code ac cl n ⟨env, ds⟩ σ = some (x, ⟨env', ds'⟩, τ) → σ.next ≤ τ.next ∧ ds <:+ ds'

theorem suffix_mid {α : Type} {x y z : List α} (h1 : x <:+ y) (h2 : y <:+ z) (h : z = x) : y = x ∧ z = y := by
  subst h
  have := h1.length_le
  have := h2.length_le
  have e := h1.eq_of_length (by omega)
  exact ⟨e.symm, e⟩

theorem seq_sound {s : Self} {c d : Code} {ac ad : ACode} (h1 : CodeSound P cfg r s c ac) (h2 : CodeSound P cfg r s d ad) (n1 : Nexts ac) (n2 : Nexts ad) : CodeSound P cfg r s (.seq c d) (.seq ac ad) := by
  intro cl hcl n env ds σ x env' ds' τ C w a Q h hI he hx hd hN hf hr hQ
  have h' : andThen (code ac cl n ⟨env, ds⟩ σ) (code ad cl n) = some (x, ⟨env', ds'⟩, τ) := h
  unfold andThen at h'
  cases hc : code ac cl n ⟨env, ds⟩ σ with
  | none => rw [hc] at h'; cases h'
  | some q =>
    obtain ⟨x1, ⟨e1, d1⟩, s1⟩ := q
    rw [hc] at h'; simp only at h'
    obtain ⟨m1, m2⟩ := n1 P cfg cl hcl n env ds σ x1 e1 d1 s1 hc
    refine wpIn_seq ?_
    cases x1 with
    | normal =>
      simp only at h'
      obtain ⟨m3, m4⟩ := n2 P cfg cl hcl n e1 d1 s1 x env' ds' τ h'
      have hr1 : r = none ∨ d1 = ds := hr.imp id fun h => (suffix_mid m2 m4 h).1
      have hr2 : r = none ∨ ds' = d1 := hr.imp id fun h => (suffix_mid m2 m4 h).2
      refine h1 cl hcl n env ds σ .normal e1 d1 s1 C w a _ hc hI he hx hd hN (hf.sub (Nat.le_refl _) m3) hr1 fun D a' w' hE hI' he' hx' hd' hs' => ?_
      show d.wpIn (FR r) 0 P Q a' w'
      exact h2 cl hcl n e1 d1 s1 x env' ds' τ D w' a' Q h' hI' he' hx' hd' (by rw [hs']; exact hN) (hf.after hE) hr2 fun D' a'' w'' hE' hI'' he'' hx'' hd'' hs'' => hQ D' a'' w'' (hE.trans hE') hI'' he'' hx'' hd'' (hs''.trans hs')
    | exit i =>
      cases h'
      exact h1 cl hcl n env ds σ (.exit i) env' ds' τ C w a _ hc hI he hx hd hN hf hr fun D a' w' hE hI' he' hx' hd' hs' => hQ D a' w' hE hI' he' hx' hd' hs'
    | ret =>
      cases h'
      exact h1 cl hcl n env ds σ .ret env' ds' τ C w a _ hc hI he hx hd hN hf hr fun D a' w' hE hI' he' hx' hd' hs' => hQ D a' w' hE hI' he' hx' hd' hs'

theorem seq_next {ac ad : ACode} (n1 : Nexts ac) (n2 : Nexts ad) : Nexts (.seq ac ad) := by
  intro P cfg cl hcl n env ds σ x env' ds' τ h
  have h' : andThen (code ac cl n ⟨env, ds⟩ σ) (code ad cl n) = some (x, ⟨env', ds'⟩, τ) := h
  unfold andThen at h'
  cases hc : code ac cl n ⟨env, ds⟩ σ with
  | none => rw [hc] at h'; cases h'
  | some q =>
    obtain ⟨x1, ⟨e1, d1⟩, s1⟩ := q
    rw [hc] at h'; simp only at h'
    obtain ⟨m1, m2⟩ := n1 P cfg cl hcl n env ds σ x1 e1 d1 s1 hc
    cases x1 with
    | normal =>
      simp only at h'
      obtain ⟨m3, m4⟩ := n2 P cfg cl hcl n e1 d1 s1 x env' ds' τ h'
      exact ⟨Nat.le_trans m1 m3, m2.trans m4⟩
    | exit i => cases h'; exact ⟨m1, m2⟩
    | ret => cases h'; exact ⟨m1, m2⟩

theorem cond_sound {s : Self} {o : Operand} {o' : Opd} {c d : Code} {ac ad : ACode} (ho : opd o = some o') (h1 : CodeSound P cfg r s c ac) (h2 : CodeSound P cfg r s d ad) : CodeSound P cfg r s (.cond o c d) (.cond o' ac ad) := by
  intro cl hcl n env ds σ x env' ds' τ C w a Q h hI he hx hd hN hf hr hQ
  have h' : codeCond o' (code ac) (code ad) cl n ⟨env, ds⟩ σ = some (x, ⟨env', ds'⟩, τ) := h
  unfold codeCond at h'
  cases hb : (o'.eval env).bool? with
  | none => simp only [hb] at h'; cases h'
  | some t =>
    simp only [hb] at h'
    obtain ⟨_, e⟩ := bool?_VR (opd_VR ho he) hb
    cases t with
    | true => exact wpIn_cond_true e (h1 cl hcl n env ds σ x env' ds' τ C w a Q h' hI he hx hd hN hf hr hQ)
    | false => exact wpIn_cond_false e (h2 cl hcl n env ds σ x env' ds' τ C w a Q h' hI he hx hd hN hf hr hQ)

theorem block_sound {s : Self} {id : Nat} {c : Code} {ac : ACode} (h1 : CodeSound P cfg r s c ac) : CodeSound P cfg r s (.block id c) (.block id ac) := by
  intro cl hcl n env ds σ x env' ds' τ C w a Q h hI he hx hd hN hf hr hQ
  have h' : codeBlock id (code ac) cl n ⟨env, ds⟩ σ = some (x, ⟨env', ds'⟩, τ) := h
  unfold codeBlock at h'
  refine wpIn_block ?_
  cases hc : code ac cl n ⟨env, ds⟩ σ with
  | none => rw [hc] at h'; cases h'
  | some q =>
    obtain ⟨x1, fr1, s1⟩ := q
    rw [hc] at h'; simp only at h'
    cases x1 with
    | normal => cases h'; exact h1 cl hcl n env ds σ .normal env' ds' τ C w a _ hc hI he hx hd hN hf hr fun D a' w' hE hI' he' hx' hd' hs' => hQ D a' w' hE hI' he' hx' hd' hs'
    | ret => cases h'; exact h1 cl hcl n env ds σ .ret env' ds' τ C w a _ hc hI he hx hd hN hf hr fun D a' w' hE hI' he' hx' hd' hs' => hQ D a' w' hE hI' he' hx' hd' hs'
    | exit i =>
      simp only [Option.some.injEq, Prod.mk.injEq] at h'
      obtain ⟨hx1, rfl, rfl⟩ := h'
      refine h1 cl hcl n env ds σ (.exit i) env' ds' s1 C w a _ hc hI he hx hd hN hf hr fun D a' w' hE hI' he' hx' hd' hs' => ?_
      have := hQ D a' w' hE hI' he' hx' hd' hs'
      show Exit.inBlock id Q (.exit i) a' w'
      by_cases e : i = id
      · subst e
        simp only [Nat.beq_refl, cond_true] at hx1
        subst hx1
        simp only [Exit.inBlock, if_true]; exact this
      · rw [nbeq e, cond_false] at hx1
        subst hx1
        simp only [Exit.inBlock, if_neg e]; exact this

theorem wpIn_loopN {F : Fence} {n : Nat} {c : Code} {Q : Exit → Act → World → Prop} {J : Nat → Act → World → Prop} (h0 : ∀ a w, ¬J 0 a w) (round : ∀ k a w, J (k + 1) a w → c.wpIn F n P (Exit.then (J k) Q) a w) {k : Nat} {a : Act} {w : World} (h : J k a w) :
    (Code.loop c).wpIn F n P Q a w := by
  intro b k' cs hro hb hr
  have key : ∀ j a w, J j a w → ∃ e a' w', Q e a' w' ∧ ArrivesIn (Machine.fenced P F) P (lone (b.atR a (.code c :: .inLoop c :: k')) cs w) b k' cs e a' w' := by
    intro j
    induction j with
    | zero => intro a w h; exact absurd h (h0 a w)
    | succ j ih =>
      intro a w hJ
      obtain ⟨e, a₁, w₁, hq, harr⟩ := round j a w hJ b (.inLoop c :: k') cs hro hb hr
      cases e with
      | normal =>
        obtain ⟨e₂, a₂, w₂, hq₂, harr₂⟩ := ih a₁ w₁ hq
        exact ⟨e₂, a₂, w₂, hq₂, .of_steps (StepsIn.trans harr (.one (fenced_calm hb hr rfl) stepR_inLoop)) harr₂⟩
      | exit id => exact ⟨_, a₁, w₁, hq, .pass (x := .inLoop c) rfl (fun _ _ => .inl (by simp)) harr⟩
      | goto l => exact ⟨_, a₁, w₁, hq, .pass (x := .inLoop c) rfl (fun _ _ => .inl (by simp)) harr⟩
      | ret => exact ⟨_, a₁, w₁, hq, .pass (x := .inLoop c) rfl (fun _ _ => .inl (by simp)) harr⟩
      | panic ch => exact ⟨_, a₁, w₁, hq, .pass (x := .inLoop c) rfl (fun _ _ => .inl (by simp)) harr⟩
      | outgrown => exact ⟨_, a₁, w₁, hq, .pass (x := .inLoop c) rfl (fun _ _ => .inl (by simp)) harr⟩
  obtain ⟨e, a', w', hq, harr⟩ := key _ a w h
  exact ⟨e, a', w', hq, .of_steps (.one (fenced_calm hb hr rfl) stepR_loop) harr⟩

theorem loopN_next {ac : ACode} (n1 : Nexts ac) (hcl : ClOk P cfg cl) (n : Nat) : ∀ (k : Nat) (env : Env) (ds : List ADef) (σ : St) (x : Ex) (env' : Env) (ds' : List ADef) (τ : St), loopN (code ac cl n) k ⟨env, ds⟩ σ = some (x, ⟨env', ds'⟩, τ) → σ.next ≤ τ.next ∧ ds <:+ ds' := by
  intro k
  induction k with
  | zero => intro env ds σ x env' ds' τ h; cases h
  | succ k ih =>
    intro env ds σ x env' ds' τ h
    have h' : andThen (code ac cl n ⟨env, ds⟩ σ) (loopN (code ac cl n) k) = some (x, ⟨env', ds'⟩, τ) := h
    unfold andThen at h'
    cases hc : code ac cl n ⟨env, ds⟩ σ with
    | none => rw [hc] at h'; cases h'
    | some q =>
      obtain ⟨x1, ⟨e1, d1⟩, s1⟩ := q
      rw [hc] at h'; simp only at h'
      obtain ⟨m1, m2⟩ := n1 P cfg cl hcl n env ds σ x1 e1 d1 s1 hc
      cases x1 with
      | normal =>
        obtain ⟨m3, m4⟩ := ih e1 d1 s1 x env' ds' τ h'
        exact ⟨Nat.le_trans m1 m3, m2.trans m4⟩
      | exit i => cases h'; exact ⟨m1, m2⟩
      | ret => cases h'; exact ⟨m1, m2⟩

theorem loop_sound {s : Self} {c : Code} {ac : ACode} (h1 : CodeSound P cfg r s c ac) (n1 : Nexts ac) : CodeSound P cfg r s (.loop c) (.loop ac) := by
  intro cl hcl n env ds σ x env' ds' τ C w a Q h hI he hx hd hN hf hr hQ
  have h' : loopN (code ac cl n) n ⟨env, ds⟩ σ = some (x, ⟨env', ds'⟩, τ) := h
  let J : Nat → Act → World → Prop := fun k a w => ∃ (C : Ctx) (env : Env) (ds : List ADef) (σ : St), loopN (code ac cl n) k ⟨env, ds⟩ σ = some (x, ⟨env', ds'⟩, τ) ∧ Inv P cfg C σ w ∧ EnvR C env a.tmps ∧ EnvIn s.X env ∧ DefsR C ds a.defers ∧ s.N ≤ a.tmps.size ∧ Fresh C σ.next τ.next ∧ (r = none ∨ ds' = ds) ∧ Left P cfg s.X C σ w a env' ds' τ (Q x.to)
  refine wpIn_loopN (J := J) (k := n) (fun a w ⟨C, env, ds, σ, h, _⟩ => by cases h) (fun k a w ⟨C, env, ds, σ, h, hI, he, hx, hd, hN, hf, hr, hQ⟩ => ?_) ⟨C, env, ds, σ, h', hI, he, hx, hd, hN, hf, hr, hQ⟩
  have h'' : andThen (code ac cl n ⟨env, ds⟩ σ) (loopN (code ac cl n) k) = some (x, ⟨env', ds'⟩, τ) := h
  unfold andThen at h''
  cases hc : code ac cl n ⟨env, ds⟩ σ with
  | none => rw [hc] at h''; cases h''
  | some q =>
    obtain ⟨x1, ⟨e1, d1⟩, s1⟩ := q
    rw [hc] at h''; simp only at h''
    obtain ⟨m1, m2⟩ := n1 P cfg cl hcl n env ds σ x1 e1 d1 s1 hc
    cases x1 with
    | normal =>
      simp only at h''
      obtain ⟨m3, m4⟩ := loopN_next n1 hcl n k e1 d1 s1 x env' ds' τ h''
      have hr1 : r = none ∨ d1 = ds := hr.imp id fun h => (suffix_mid m2 m4 h).1
      have hr2 : r = none ∨ ds' = d1 := hr.imp id fun h => (suffix_mid m2 m4 h).2
      refine h1 cl hcl n env ds σ .normal e1 d1 s1 C w a _ hc hI he hx hd hN (hf.sub (Nat.le_refl _) m3) hr1 fun D a' w' hE hI' he' hx' hd' hs' => ?_
      exact ⟨D, e1, d1, s1, h'', hI', he', hx', hd', by rw [hs']; exact hN, hf.after hE, hr2, fun D' a'' w'' hE' hI'' he'' hx'' hd'' hs'' => hQ D' a'' w'' (hE.trans hE') hI'' he'' hx'' hd'' (hs''.trans hs')⟩
    | exit i =>
      cases h''
      exact h1 cl hcl n env ds σ (.exit i) env' ds' τ C w a _ hc hI he hx hd hN hf hr fun D a' w' hE hI' he' hx' hd' hs' => hQ D a' w' hE hI' he' hx' hd' hs'
    | ret =>
      cases h''
      exact h1 cl hcl n env ds σ .ret env' ds' τ C w a _ hc hI he hx hd hN hf hr fun D a' w' hE hI' he' hx' hd' hs' => hQ D a' w' hE hI' he' hx' hd' hs'

end Go.AM
namespace Go.AM
open Go.RowKit
variable {P : Program} {cfg : Cfg} {C D : Ctx} {σ τ : St} {w : World} {env env' : Env} {a : Act} {v : AV} {ds ds' : List ADef} {cl : CallF} {r : Option Nat} {ops : Array Oper}

theorem skip_sound {s : Self} : CodeSound P cfg r s .skip .skip := by
  intro cl hcl n env ds σ x env' ds' τ C w a Q h hI he hx hd hN hf hr hQ
  cases h
  exact wpIn_skip (hQ C a w (.refl _ _ _) hI he hx hd rfl)
theorem exit_sound {s : Self} {id : Nat} : CodeSound P cfg r s (.exit id) (.exit id) := by
  intro cl hcl n env ds σ x env' ds' τ C w a Q h hI he hx hd hN hf hr hQ
  cases h
  exact wpIn_exit (hQ C a w (.refl _ _ _) hI he hx hd rfl)
theorem ret_sound {s : Self} : CodeSound P cfg r s .ret .ret := by
  intro cl hcl n env ds σ x env' ds' τ C w a Q h hI he hx hd hN hf hr hQ
  cases h
  exact wpIn_ret (hQ C a w (.refl _ _ _) hI he hx hd rfl)

theorem bad_sound {s : Self} {c : Code} : CodeSound P cfg r s c badCode := by
  intro cl hcl n env ds σ x env' ds' τ C w a Q h hI he hx hd hN hf hr hQ
  cases h

/-- What operations do not write is as it was. -/
theorem oper_env {co : AOper} (h : oper co cl env ds σ = some (env', ds', τ)) {j : Nat} (hj : co.dst ≠ some j) : aget env' j = aget env j := by
  have hput : ∀ v, aget (put env co.dst v) j = aget env j := fun v => by
    cases hd : co.dst with
    | none => rfl
    | some d =>
      show aget ((d, v) :: env) j = _
      rw [aget_cons, if_neg (fun e => hj (by rw [hd]; exact congrArg some e))]
  have hact : act co.op co.dst cl env ds σ = some (env', ds', τ) → aget env' j = aget env j := by
    intro h
    generalize co.op = p at h
    cases p with
    | call f args =>
      have h' : actCall f args co.dst cl env ds σ = some (env', ds', τ) := h
      unfold actCall at h'
      split at h'
      · split at h'
        · cases h'; exact hput _
        · cases h'
      · cases h'
    | defer f args =>
      have h' : actDefer f args co.dst cl env ds σ = some (env', ds', τ) := h
      unfold actDefer at h'
      split at h'
      · rename_i g first caps _
        cases hok : defOk g with
        | false => rw [hok] at h'; cases h'
        | true => rw [hok] at h'; cases h'; exact hput _
      · cases h'
    | _ =>
      obtain ⟨v, _, h2, _⟩ := act_plain rfl h
      rw [h2]; exact hput _
  unfold oper at h
  cases hg : co.guard with
  | none => rw [hg] at h; exact hact h
  | some p =>
    obtain ⟨t, b⟩ := p
    rw [hg] at h; simp only at h
    unfold operG at h
    cases hw : (aget env t).wants b with
    | none => rw [hw] at h; cases h
    | some ww =>
      rw [hw] at h; simp only at h
      cases ww with
      | true => exact hact h
      | false => cases h; exact hput _

theorem opers_env {l : List AOper} : ∀ {env : Env} {ds : List ADef} {σ : St}, opers l cl env ds σ = some (env', ds', τ) → ∀ j, (∀ o ∈ l, o.dst ≠ some j) → aget env' j = aget env j := by
  induction l with
  | nil => intro env ds σ h j _; cases h; rfl
  | cons o l ih =>
    intro env ds σ h j hj
    have h' : (match oper o cl env ds σ with | some (env, ds, σ) => opers l cl env ds σ | none => none) = some (env', ds', τ) := h
    cases ho : oper o cl env ds σ with
    | none => rw [ho] at h'; cases h'
    | some q =>
      obtain ⟨e1, d1, s1⟩ := q
      rw [ho] at h'; simp only at h'
      rw [ih h' j (fun o' ho' => hj o' (by simp [ho'])), oper_env ho (hj o (by simp))]

theorem mem_outs {X : List Nat} {l : List AOper} {j : Nat} : j ∈ outsOf X l ↔ j ∈ X ∧ ∃ o ∈ l, o.dst = some j := by
  unfold outsOf
  rw [List.mem_eraseDups, List.mem_filter, List.mem_filterMap]
  constructor
  · rintro ⟨⟨o, h1, h2⟩, h3⟩; exact ⟨by simpa using h3, o, h1, h2⟩
  · rintro ⟨h1, o, h2, h3⟩; exact ⟨⟨o, h2, h3⟩, by simpa using h1⟩

/-- What is kept behind a region. -/
theorem keep_R {X : List Nat} {l : List AOper} {env1 : Env} {tm : Array Value} (h1 : EnvR C env1 tm) (hx : EnvIn X env) (hsame : ∀ j, (∀ o ∈ l, o.dst ≠ some j) → aget env1 j = aget env j) :
    EnvR C (keep env env1 (outsOf X l)) tm ∧ EnvIn X (keep env env1 (outsOf X l)) := by
  refine ⟨fun j => ?_, fun j hj => ?_⟩
  · rw [aget_keep]
    split
    · exact h1 j
    · rename_i hno
      by_cases hw : ∀ o ∈ l, o.dst ≠ some j
      · rw [← hsame j hw]; exact h1 j
      · have hjx : j ∉ X := fun hjx => hno (mem_outs.2 ⟨hjx, by
          obtain ⟨o, ho⟩ := Classical.not_forall.1 hw
          obtain ⟨h1, h2⟩ := Classical.not_imp.1 ho
          exact ⟨o, h1, Classical.not_not.1 h2⟩⟩)
        have : aget env j = .junk := Classical.byContradiction fun h => hjx (hx j h)
        rw [this]; exact .junk _
  · rw [aget_keep] at hj
    split at hj
    · rename_i hm; exact (mem_outs.1 hm).1
    · exact hx j hj

theorem compOper_dst {fid : Nat} (o : Oper) : (compOper P cfg fid ops o).dst = o.dst := by
  unfold compOper
  split <;> rfl

theorem dsts_lt {N : Nat} (h : dstsOk N ops = true) : ∀ (i : Nat) (o : Oper), ops[i]? = some o → ∀ d, o.dst = some d → d < N := by
  intro i o hi d hd
  unfold dstsOk at h
  rw [List.all_eq_true] at h
  have := h o (by rw [Array.mem_toList_iff]; exact Array.mem_of_getElem? hi)
  rw [hd] at this
  simpa using this

theorem region_sound {s : Self} {id : Nat} (hdst : dstsOk s.N ops = true) : CodeSound P cfg r s (.region id ops false) (.region (ops.toList.map (compOper P cfg s.fid ops)) (outsOf s.X (ops.toList.map (compOper P cfg s.fid ops)))) := by
  intro cl hcl n env ds σ x env' ds' τ C w a Q h hI he hx hd hN hf hr hQ
  generalize hl : ops.toList.map (compOper P cfg s.fid ops) = l at h
  have h' : codeRegion l (outsOf s.X l) cl n ⟨env, ds⟩ σ = some (x, ⟨env', ds'⟩, τ) := h
  unfold codeRegion at h'
  cases ho : opers l cl env ds σ with
  | none => simp only [ho] at h'; cases h'
  | some q =>
    obtain ⟨e1, d1, s1⟩ := q
    simp only [ho] at h'; cases h'
    refine wpIn_region ?_
    rw [List.range_eq_range']
    have ho' : opers ((ops.toList.drop 0).map (compOper P cfg s.fid ops)) cl env ds σ = some (e1, ds', τ) := by rw [List.drop_zero, hl]; exact ho
    refine opers_sound (r := r) hcl (dsts_lt hdst) ops.size 0 C σ w env ds a (by omega) hI he hd hN ho' hf hr fun D a' w' hE hI' he' hd' hs' => ?_
    obtain ⟨k1, k2⟩ := keep_R (l := l) he' hx (fun j hj => opers_env ho j hj)
    exact hQ D a' w' hE hI' k1 k2 hd' hs'

theorem region_next {l : List AOper} {outs : List Nat} : Nexts (.region l outs) := by
  intro P cfg cl hcl n env ds σ x env' ds' τ h
  have h' : codeRegion l outs cl n ⟨env, ds⟩ σ = some (x, ⟨env', ds'⟩, τ) := h
  unfold codeRegion at h'
  cases ho : opers l cl env ds σ with
  | none => simp only [ho] at h'; cases h'
  | some q =>
    obtain ⟨e1, d1, s1⟩ := q
    simp only [ho] at h'; cases h'
    exact opers_next hcl ho

end Go.AM
