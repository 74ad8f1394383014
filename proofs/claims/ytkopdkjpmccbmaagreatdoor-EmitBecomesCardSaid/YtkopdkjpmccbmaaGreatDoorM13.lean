/- A part of the proof of: EmitBecomes: what a term becomes by patterns, and a pattern's name, is what the document says, or the error is told. -/
import Derived.Test.YtkopdkjpmccbmaaGreatDoorM12
namespace Go.AM
open Go.RowKit
variable {P : Program} {cfg : Cfg} {fid : Nat} {cl : CallF} {ops : Array Oper} {l : List AOper} {env env' : Env} {ds ds' : List ADef} {σ τ : St} {v : AV} {co : AOper} {r : Option Nat}
variable {reg : Nat → Bool} {irr : Nat → Prop} {T : Trace} {S S' : Nat → Bool} {rr : Nat} {ρX : Heap} {C0 C D : Ctx} {σ0 : St} {w0 w : World} {a : Act} {N sz : Nat}

/-- How far a region is that draws its order: what is done, what there is. -/
structure DI (P : Program) (cfg : Cfg) (ops : Array Oper) (l : List AOper) (reg : Nat → Bool) (irr : Nat → Prop) (T : Trace) (C0 : Ctx) (σ0 : St) (w0 : World) (N sz : Nat) (S : Nat → Bool) (rr : Nat) (ρX : Heap) (C : Ctx) (a : Act) (w : World) : Prop where
  closed : Closed ops S
  rle : rr ≤ ops.size
  effs : ∀ (i : Nat) (co : AOper), l[i]? = some co → reg i = true → cls co.op = .eff → (S i = true ↔ i < rr)
  news : ∀ (i : Nat) (co : AOper), l[i]? = some co → reg i = true → cls co.op = .new → i < rr → S i = true
  wf : ∀ id o, (T.Sg rr).get id = some o → id < (T.Sg rr).next
  top : ∀ p ∈ ρX, (T.Sg ops.size).next ≤ p.1
  inv : Inv P cfg C ⟨ρX ++ (pend T reg S rr ops.size ++ (T.Sg rr).heap), N⟩ w
  ev : Ev C0 σ0 w0 C ⟨ρX ++ (pend T reg S rr ops.size ++ (T.Sg rr).heap), N⟩ w
  fresh : ∀ j, reg j = true → j < ops.size → S j = false → Fresh C (T.Sg j).next (T.Sg (j + 1)).next
  tmps : ∀ t, ¬irr t → ∀ k, k ≤ ops.size → (∀ (i : Nat) (co : AOper), l[i]? = some co → reg i = true → co.dst = some t → (S i = true ↔ i < k)) → VR C (aget (T.E k) t) (a.tmps.getD t undef)
  defs : DefsR C (T.D rr) a.defers
  size : a.tmps.size = sz

def withS (S : Nat → Bool) (i : Nat) : Nat → Bool := fun j => if j = i then true else S j
theorem withS_ne {i j : Nat} (h : j ≠ i) : withS S i j = S j := if_neg h
theorem withS_eq {i : Nat} : withS S i i = true := if_pos rfl

theorem Inv.low {ρ : Heap} (h : Inv P cfg C ⟨ρ ++ σ.heap, N⟩ w) (hw : ∀ id o, σ.get id = some o → id < σ.next) : Inv P cfg C σ w := by
  have back : ∀ {i o}, σ.get i = some o → St.get ⟨ρ ++ σ.heap, N⟩ i = some o := fun {i o} hi => hget_of_sub h.falls (List.sublist_append_right _ _) hi
  exact ⟨⟨h.lies, h.falls.sub (List.sublist_append_right _ _), hw, fun i o hi => h.obj i o (back hi), fun i j o o' b hi hj => h.inj i j o o' b (back hi) (back hj)⟩, fun p hp => ⟨(h.pin p hp).1, fun ⟨i, o, hi, hb⟩ => (h.pin p hp).2 ⟨i, o, back hi, hb⟩⟩⟩

/-- The temporaries that an operation names, when it is ready. -/
theorem DI.envR (H : Reg P cfg fid ops l reg irr cl T) (hD : DI P cfg ops l reg irr T C0 σ0 w0 N sz S rr ρX C a w) {i : Nat} {o : Oper} (ho : ops[i]? = some o) (hl : l[i]? = some co) (hreg : reg i = true) (hSi : S i = false)
    (hready : ∀ e ∈ o.after, Region.binds .any e = true → S e.on = true) : EnvR C (only (T.E i) (namesA co)) a.tmps := by
  intro t
  rw [aget_only]
  split
  · rename_i ht
    have hlt : i < ops.size := (Array.getElem?_eq_some_iff.1 ho).1
    refine hD.tmps t (H.irr i co hreg hl t ht) i (by omega) fun i' co' hl' hreg' hd => ?_
    rcases temps_spec H.temps hl' hl ht hd with e | hbit
    · subst e; simp [hSi]
    · by_cases hle : i' < i
      · rw [Nat.max_eq_right (by omega), Nat.min_eq_left (by omega)] at hbit
        exact ⟨fun _ => hle, fun _ => hD.closed.ready H.back ho hready hbit⟩
      · by_cases e : i' = i
        · subst e; simp [hSi]
        · rw [Nat.max_eq_left (by omega), Nat.min_eq_right (by omega)] at hbit
          refine ⟨fun h => ?_, fun h => absurd h hle⟩
          have := hD.closed.bit H.back _ _ h hbit
          rw [hSi] at this; cases this
  · exact .junk _

theorem DI.noEff (hD : DI P cfg ops l reg irr T C0 σ0 w0 N sz S rr ρX C a w) {q : Nat} {co : AOper} (hq : rr ≤ q) (hs : S q = true) (hr : reg q = true) (hl : l[q]? = some co) : cls co.op ≠ .eff := fun h => by
  have := (hD.effs q co hl hr h).1 hs; omega

/-- The lower part of what there is. -/
def low (T : Trace) (reg S : Nat → Bool) (rr m : Nat) : St := ⟨pend T reg S rr m ++ (T.Sg rr).heap, (T.Sg m).next⟩

theorem DI.wfLow (H : Reg P cfg fid ops l reg irr cl T) (hcl : ClOk P cfg cl) (hD : DI P cfg ops l reg irr T C0 σ0 w0 N sz S rr ρX C a w) {m : Nat} (hm : rr ≤ m) (hmn : m ≤ ops.size) (id : Nat) (o : AObj)
    (h : (low T reg S rr m).get id = some o) : id < (T.Sg m).next := by
  have h' : hget (pend T reg S rr m ++ (T.Sg rr).heap) id = some o := h
  rw [hget_append] at h'
  cases hp : hget (pend T reg S rr m) id with
  | none => rw [hp] at h'; exact Nat.lt_of_lt_of_le (hD.wf id o h') (H.mono hcl hm hmn)
  | some o' =>
    obtain ⟨q, h1, h2, h3, h4, h5⟩ := pend_mem (hget_mem hp)
    obtain ⟨o'', _, hl⟩ := H.oper (i := q) (by omega)
    obtain ⟨_, k2, k3⟩ := H.added hl h4 (hD.noEff h1 h3 h4 hl) h5
    simp only at k2
    have := H.mono hcl (i := q + 1) (j := m) (by omega) hmn
    omega

/-- An operation is done on the lower part, beside the rest. -/
theorem exec (H : Reg P cfg fid ops l reg irr cl T) (hcl : ClOk P cfg cl) (h0 : σ0.next ≤ (T.Sg 0).next) (hN : (T.Sg ops.size).next ≤ N)
    (hD : DI P cfg ops l reg irr T C0 σ0 w0 N sz S rr ρX C a w) {i : Nat} {o : Oper} (ho : ops[i]? = some o) (hreg : reg i = true) (hSi : S i = false)
    (hready : ∀ e ∈ o.after, Region.binds .any e = true → S e.on = true) {m mt : Nat} (hm : rr ≤ m) (hmt : m ≤ mt) (hmn : mt ≤ ops.size) (hnone : pend T reg S m mt = [])
    (hop : oper (compOper P cfg fid ops o) cl (only (T.E i) (namesA (compOper P cfg fid ops o))) (T.D rr) (low T reg S rr m) = some (env', ds', τ)) (hτ : τ.next = (T.Sg mt).next)
    (hf : Fresh C (T.Sg m).next (T.Sg mt).next) (hr : r = none ∨ ds' = T.D rr) :
    ∃ v, env' = put (only (T.E i) (namesA (compOper P cfg fid ops o))) o.dst v ∧ ∀ (K : Act → World → Prop) (Q : Exit → Act → World → Prop),
      (∀ D u w' defs, Ev C (low T reg S rr m) w D τ w' → Inv P cfg D τ w' → Inv P cfg D ⟨ρX ++ (pend T reg S mt ops.size ++ τ.heap), N⟩ w' → Ev C0 σ0 w0 D ⟨ρX ++ (pend T reg S mt ops.size ++ τ.heap), N⟩ w' → VR D v u → DefsR D ds' defs →
        K (Act.put { a with defers := defs } o.dst u) w') → wpOpIn (FR r) 0 P ops Q i K a w := by
  have hl := H.comp i o ho
  have henv := hD.envR H ho hl hreg hSi hready
  have hsplit : pend T reg S rr ops.size = pend T reg S mt ops.size ++ pend T reg S rr m := by
    rw [pend_split (m := mt) (by omega) hmn, pend_split (a := rr) (m := m) (b := mt) hm hmt, hnone, List.nil_append]
  have hheap : ρX ++ (pend T reg S rr ops.size ++ (T.Sg rr).heap) = (ρX ++ pend T reg S mt ops.size) ++ (low T reg S rr m).heap := by
    show _ = (ρX ++ pend T reg S mt ops.size) ++ (pend T reg S rr m ++ (T.Sg rr).heap)
    rw [hsplit]; simp only [List.append_assoc]
  have hinv := hD.inv; rw [hheap] at hinv
  have hev := hD.ev; rw [hheap] at hev
  have hlow : Inv P cfg C (low T reg S rr m) w := hinv.low (hD.wfLow H hcl hm (by omega))
  have hf' : Fresh C (low T reg S rr m).next τ.next := by rw [hτ]; exact hf
  obtain ⟨v, hv1, hv2⟩ := oper_sound (r := r) hcl hlow henv hD.defs ho hop hf' hr
  refine ⟨v, hv1, fun K Q hK => hv2 K Q fun D u w' defs hE hI hv hd => ?_⟩
  have hρ : ∀ p ∈ ρX ++ pend T reg S mt ops.size, τ.next ≤ p.1 := by
    intro p hp
    rw [hτ]
    rcases List.mem_append.1 hp with hp | hp
    · exact Nat.le_trans (H.mono hcl hmn (Nat.le_refl _)) (hD.top p hp)
    · obtain ⟨q, h1, h2, h3, h4, h5⟩ := pend_mem hp
      obtain ⟨o'', _, hlq⟩ := H.oper (i := q) (by omega)
      obtain ⟨_, k2, _⟩ := H.added hlq h4 (hD.noEff (by omega) h3 h4 hlq) h5
      rw [k2]
      exact H.mono hcl h1 (by omega)
  have hτN : τ.next ≤ N := by rw [hτ]; exact Nat.le_trans (H.mono hcl hmn (Nat.le_refl _)) hN
  have h0' : σ0.next ≤ (low T reg S rr m).next := Nat.le_trans h0 (H.mono hcl (Nat.zero_le m) (by omega))
  obtain ⟨k1, k2⟩ := frame hinv hE hI hρ hτN hev h0'
  rw [List.append_assoc] at k1 k2
  exact hK D u w' defs hE hI k1 k2 hv hd

/-- What is known behind an operation. -/
theorem DI.next (H : Reg P cfg fid ops l reg irr cl T) (hcl : ClOk P cfg cl) (hD : DI P cfg ops l reg irr T C0 σ0 w0 N sz S rr ρX C a w) {i : Nat} {o : Oper} (ho : ops[i]? = some o) (hl : l[i]? = some co) (hreg : reg i = true) (hSi : S i = false)
    (hready : ∀ e ∈ o.after, Region.binds .any e = true → S e.on = true) {m mt : Nat} (hmt : m ≤ mt) (hmn : mt ≤ ops.size) (hmm : m = mt ∨ (m = i ∧ mt = i + 1)) (hτ : τ.next = (T.Sg mt).next)
    {rr' : Nat} (hrle : rr' ≤ ops.size)
    (heffs : ∀ (j : Nat) (co : AOper), l[j]? = some co → reg j = true → cls co.op = .eff → (withS S i j = true ↔ j < rr'))
    (hnews : ∀ (j : Nat) (co : AOper), l[j]? = some co → reg j = true → cls co.op = .new → j < rr' → withS S i j = true)
    (hwf : ∀ id o, (T.Sg rr').get id = some o → id < (T.Sg rr').next)
    {D : Ctx} {w' : World} {u : Value} {defs : List Deferred} (hE : Ev C (low T reg S rr m) w D τ w')
    (hheap : pend T reg (withS S i) rr' ops.size ++ (T.Sg rr').heap = pend T reg S mt ops.size ++ τ.heap)
    (hinv : Inv P cfg D ⟨ρX ++ (pend T reg S mt ops.size ++ τ.heap), N⟩ w') (hev : Ev C0 σ0 w0 D ⟨ρX ++ (pend T reg S mt ops.size ++ τ.heap), N⟩ w')
    (hdst : co.dst = o.dst) (hv : ∀ d, o.dst = some d → VR D (aget (T.E (i + 1)) d) u) (hds : DefsR D (T.D rr') defs) (hlt : ∀ d, o.dst = some d → d < sz) :
    DI P cfg ops l reg irr T C0 σ0 w0 N sz (withS S i) rr' ρX D (Act.put { a with defers := defs } o.dst u) w' := by
  have hilt : i < ops.size := (Array.getElem?_eq_some_iff.1 ho).1
  refine ⟨?_, hrle, heffs, hnews, hwf, hD.top, by rw [hheap]; exact hinv, by rw [hheap]; exact hev, ?_, ?_, by rw [put_defers]; exact hds, by rw [put_size]; exact hD.size⟩
  · intro j oj hj hoj e he hb
    by_cases ej : j = i
    · subst ej; rw [ho] at hoj; cases hoj
      have := hready e he hb
      unfold withS; split <;> first | rfl | exact this
    · rw [withS_ne ej] at hj
      have := hD.closed j oj hj hoj e he hb
      unfold withS; split <;> first | rfl | exact this
  · intro j hrj hjn hSj
    have hji : j ≠ i := fun e => by subst e; rw [withS_eq] at hSj; cases hSj
    rw [withS_ne hji] at hSj
    obtain ⟨oj, hoj, hlj⟩ := H.oper hjn
    have hjm := H.next hcl hjn
    -- the interval of 'j' lies apart from that of 'i'
    have apart : ∀ id, (T.Sg m).next ≤ id → id < (T.Sg mt).next → ¬((T.Sg j).next ≤ id ∧ id < (T.Sg (j + 1)).next) := by
      intro id h1 h2 ⟨h3, h4⟩
      rcases hmm with e | ⟨e1, e2⟩
      · subst e; omega
      · subst e1; subst e2
        by_cases hlt' : j < m
        · have := H.mono hcl (i := j + 1) (j := m) (by omega) (by omega); omega
        · have := H.mono hcl (i := m + 1) (j := j) (by omega) (by omega); omega
    intro id h1 h2
    obtain ⟨f1, f2⟩ := hD.fresh j hrj hjn hSj id h1 h2
    refine ⟨?_, fun g => ?_⟩
    · by_cases hc : D.κ id = C.κ id
      · rw [hc]; exact f1
      · have := hE.kap id hc
        exact absurd ⟨h1, h2⟩ (apart id this.1 (by have := this.2; rw [hτ] at this; exact this))
    · by_cases hc : D.T id g = C.T id g
      · rw [hc]; exact f2 g
      · obtain ⟨t1, t2⟩ := hE.tok id g hc
        rw [hτ] at t1
        rcases t2 with ⟨x, t2⟩ | t2
        · exfalso
          have t2' : hget (pend T reg S rr m ++ (T.Sg rr).heap) id = some x := t2
          rw [hget_append] at t2'
          cases hp : hget (pend T reg S rr m) id with
          | none =>
            rw [hp] at t2'
            have hlt' := hD.wf id x t2'
            -- 'j' lies ahead of the last effect: it adds nothing
            by_cases hjr : j < rr
            · have hne : cls (compOper P cfg fid ops oj).op ≠ .eff := fun h => by
                have := (hD.effs j _ hlj hrj h).2 hjr; rw [hSj] at this; cases this
              obtain ⟨_, hq⟩ := H.quiet hlj hrj hne
              rcases hq with ⟨_, hq⟩ | ⟨hq, _⟩
              · rw [hq] at h2; omega
              · have := hD.news j _ hlj hrj hq hjr; rw [hSj] at this; cases this
            · have := H.mono hcl (i := rr) (j := j) (by omega) (by omega); omega
          | some x' =>
            obtain ⟨q, q1, q2, q3, q4, q5⟩ := pend_mem (hget_mem hp)
            obtain ⟨o'', _, hlq⟩ := H.oper (i := q) (by omega)
            obtain ⟨_, k2, k3⟩ := H.added hlq q4 (hD.noEff q1 q3 q4 hlq) q5
            simp only at k2
            have hqj : q ≠ j := fun e => by subst e; rw [hSj] at q3; cases q3
            by_cases hlt' : j < q
            · have := H.mono hcl (i := j + 1) (j := q) (by omega) (by omega); omega
            · have := H.mono hcl (i := q + 1) (j := j) (by omega) (by omega); omega
        · exact absurd ⟨h1, h2⟩ (apart id t2 t1)
  · intro t ht k hk hw
    have same : ∀ t', o.dst ≠ some t' → (Act.put { a with defers := defs } o.dst u).tmps.getD t' undef = a.tmps.getD t' undef := fun t' h => by
      cases hd : o.dst with
      | none => rfl
      | some d =>
        have : d ≠ t' := fun e => h (by rw [hd, e])
        simp only [Act.put]
        rw [Array.getD_eq_getD_getElem?, Array.getElem?_setIfInBounds_ne this, ← Array.getD_eq_getD_getElem?]
    by_cases hd : o.dst = some t
    · -- it was written just now
      have hik : i < k := (hw i co hl hreg (hdst.trans hd)).1 withS_eq
      have hval : (Act.put { a with defers := defs } o.dst u).tmps.getD t undef = u := by
        rw [hd]
        simp only [Act.put]
        rw [Array.getD_eq_getD_getElem?, Array.getElem?_setIfInBounds_self_of_lt (by rw [hD.size]; exact hlt t hd)]
        rfl
      rw [hval]
      -- nobody writes it between 'i' and 'k'
      have hstill : ∀ k', i + 1 ≤ k' → k' ≤ k → aget (T.E k') t = aget (T.E (i + 1)) t := by
        intro k'
        induction k' with
        | zero => intro h _; omega
        | succ k' ih =>
          intro h1 h2
          by_cases e : i + 1 = k' + 1
          · rw [← e]
          · rw [← ih (by omega) (by omega)]
            obtain ⟨oq, hoq, hlq⟩ := H.oper (i := k') (by omega)
            cases hrq : reg k' with
            | false => rw [(H.idle k' (by omega) hrq).1]
            | true =>
              refine oper_env (H.run k' _ hlq hrq) fun hdq => ?_
              have hsq := (hw k' _ hlq hrq hdq).2 (by omega)
              rw [withS_ne (by omega)] at hsq
              have hname : t ∈ namesA co := List.mem_append_right _ (by rw [hdst, hd]; simp)
              rcases temps_spec H.temps hlq hl hname hdq with e' | hbit
              · omega
              · rw [Nat.max_eq_left (by omega), Nat.min_eq_right (by omega)] at hbit
                have := hD.closed.bit H.back _ _ hsq hbit
                rw [hSi] at this; cases this
      rw [hstill k (by omega) (Nat.le_refl _)]
      exact hv t hd
    · rw [same t hd]
      refine (hD.tmps t ht k hk fun i' co' hl' hr' hd' => ?_).mono hE.le
      have hne : i' ≠ i := fun e => by
        subst e
        rw [hl] at hl'; cases hl'
        exact hd (hdst ▸ hd')
      rw [← hw i' co' hl' hr' hd', withS_ne hne]

end Go.AM
namespace Go.AM
open Go.RowKit
variable {P : Program} {cfg : Cfg} {fid : Nat} {cl : CallF} {ops : Array Oper} {l : List AOper} {env env' : Env} {ds ds' : List ADef} {σ τ : St} {v : AV} {co : AOper} {r : Option Nat}
variable {reg : Nat → Bool} {irr : Nat → Prop} {T : Trace} {S S' : Nat → Bool} {rr : Nat} {ρX : Heap} {C0 C D : Ctx} {σ0 : St} {w0 w : World} {a : Act} {N sz : Nat}

theorem put_inj {env : Env} {d : Option Nat} {u v : AV} (h : put env d u = put env d v) : ∀ t, d = some t → u = v := by
  intro t ht; subst ht
  have h' : (t, u) :: env = (t, v) :: env := h
  injection h' with h1 _
  injection h1
theorem aget_put_self {env : Env} {t : Nat} {v : AV} : aget (put env (some t) v) t = v := by
  show aget ((t, v) :: env) t = v
  rw [aget_cons, if_pos rfl]

/-- What is handed on besides: nothing above was touched. -/
def Above (M : Nat) (C D : Ctx) : Prop := ∀ id, M ≤ id → D.κ id = C.κ id ∧ ∀ g, D.T id g = C.T id g

theorem above_of (hcl : ClOk P cfg cl) (H : Reg P cfg fid ops l reg irr cl T) {w' : World} {σ : St} (hE : Ev C σ w D τ w') {mt : Nat} (hmn : mt ≤ ops.size) (hτ : τ.next = (T.Sg mt).next) : Above (T.Sg ops.size).next C D := by
  intro id hid
  have hm := H.mono hcl hmn (Nat.le_refl _)
  refine ⟨Classical.byContradiction fun h => ?_, fun g => Classical.byContradiction fun h => ?_⟩
  · have := (hE.kap id h).2; omega
  · have := (hE.tok id g h).1; omega

theorem put_other (a : Act) (defs : List Deferred) (d : Option Tmp) (u : Value) : ∀ t, d ≠ some t → (Act.put { a with defers := defs } d u).tmps.getD t undef = a.tmps.getD t undef := by
  intro t h
  cases d with
  | none => rfl
  | some d =>
    simp only [Act.put]
    rw [Array.getD_eq_getD_getElem?, Array.getElem?_setIfInBounds_ne (fun e => h (by rw [e])), ← Array.getD_eq_getD_getElem?]

/-- An operation that leaves the state. -/
theorem still_step (H : Reg P cfg fid ops l reg irr cl T) (hcl : ClOk P cfg cl) (h0 : σ0.next ≤ (T.Sg 0).next) (hN : (T.Sg ops.size).next ≤ N)
    (hD : DI P cfg ops l reg irr T C0 σ0 w0 N sz S rr ρX C a w) {i : Nat} {o : Oper} (ho : ops[i]? = some o) (hreg : reg i = true) (hSi : S i = false)
    (hready : ∀ e ∈ o.after, Region.binds .any e = true → S e.on = true) (hlt : ∀ d, o.dst = some d → d < sz) {m : Nat} (hm : rr ≤ m) (hmn : m ≤ ops.size)
    (hc : cls (compOper P cfg fid ops o).op ≠ .eff) (hadds : adds T i = [])
    (hop : oper (compOper P cfg fid ops o) cl (only (T.E i) (namesA (compOper P cfg fid ops o))) (T.D rr) (low T reg S rr m) = some (put (only (T.E i) (namesA (compOper P cfg fid ops o))) o.dst v, T.D rr, low T reg S rr m))
    (hv : ∀ d, o.dst = some d → v = aget (T.E (i + 1)) d)
    {K : Act → World → Prop} {Q : Exit → Act → World → Prop} (hK : ∀ rr' D a' w', C.Le D → Above (T.Sg ops.size).next C D → (∀ t, o.dst ≠ some t → a'.tmps.getD t undef = a.tmps.getD t undef) → DI P cfg ops l reg irr T C0 σ0 w0 N sz (withS S i) rr' ρX D a' w' → K a' w') :
    wpOpIn (FR r) 0 P ops Q i K a w := by
  have hl := H.comp i o ho
  have hilt : i < ops.size := (Array.getElem?_eq_some_iff.1 ho).1
  obtain ⟨v', hv1, hv2⟩ := exec (r := r) H hcl h0 hN hD ho hreg hSi hready hm (Nat.le_refl m) hmn (pend_ge (Nat.le_refl _)) hop rfl (fun i h1 h2 => by omega) (.inr rfl)
  refine hv2 K Q fun D u w' defs hE hI k1 k2 hvu hd => hK rr D _ w' hE.le (above_of hcl H hE hmn rfl) (put_other a defs o.dst u) ?_
  have hb : pend T reg S rr ops.size = pend T reg S m ops.size ++ pend T reg S rr m := pend_split hm hmn
  refine hD.next (τ := low T reg S rr m) H hcl ho hl hreg hSi hready (Nat.le_refl m) hmn (.inl rfl) rfl hD.rle (fun j cj hlj hrj hcj => ?_) (fun j cj hlj hrj hcj hjr => ?_) hD.wf hE ?_ k1 k2 (compOper_dst o) (fun d hdd => ?_) hd hlt
  · have hji : j ≠ i := fun e => by subst e; rw [hl] at hlj; cases hlj; exact hc hcj
    rw [withS_ne hji]; exact hD.effs j cj hlj hrj hcj
  · have := hD.news j cj hlj hrj hcj hjr
    unfold withS; split <;> first | rfl | exact this
  · have e1 : pend T reg (withS S i) rr ops.size = pend T reg S rr ops.size := pend_congr fun q _ _ _ => by
      by_cases e : q = i
      · subst e; exact .inr hadds
      · exact .inl (withS_ne e)
    rw [e1, hb, List.append_assoc]; rfl
  · rw [← hv d hdd]
    have := put_inj hv1 d hdd
    rw [this]; exact hvu

/-- The read's object lies in what there is, as it lay in the run. -/
theorem read_low (H : Reg P cfg fid ops l reg irr cl T) (hcl : ClOk P cfg cl) (hD : DI P cfg ops l reg irr T C0 σ0 w0 N sz S rr ρX C a w) {i : Nat} {o : Oper} (ho : ops[i]? = some o) (hreg : reg i = true)
    (hready : ∀ e ∈ o.after, Region.binds .any e = true → S e.on = true) (hc : cls (compOper P cfg fid ops o).op = .read) (hw : wanted (T.E i) (compOper P cfg fid ops o).guard = some true)
    {m : Nat} (hm : rr ≤ m) (hmn : m ≤ ops.size) (hmi : rr < m → m ≤ i) (hnoeff : NoEff l reg rr m) (hst : Stays T i (compOper P cfg fid ops o) m) :
    ∃ v, op (compOper P cfg fid ops o).op (T.E i) (low T reg S rr m) = some (v, low T reg S rr m) ∧ ∀ d, o.dst = some d → v = aget (T.E (i + 1)) d := by
  have hl := H.comp i o ho
  obtain ⟨v, s, h1, h2⟩ := hst
  obtain ⟨_, h3⟩ := read_at hc h1
  refine ⟨v, ?_, fun d hd => h2 d ((compOper_dst o).trans hd)⟩
  cases hid : readId (compOper P cfg fid ops o).op (T.E i) with
  | none => rw [hid] at h3; exact h3 _
  | some id =>
    rw [hid] at h3
    refine h3.2 _ ?_
    show hget (pend T reg S rr m ++ (T.Sg rr).heap) id = hget (T.Sg m).heap id
    -- an operation not yet done has not made what is read
    have hskip : ∀ (q : Nat) (cq : AOper), rr ≤ q → q < m → reg q = true → l[q]? = some cq → cls cq.op = .new → S q = false → id ≠ (T.Sg q).next := by
      intro q cq q1 q2 q3 q4 q5 q6 e
      have hqi : q < i := by have := hmi (by omega); omega
      rcases H.chk i q _ cq hreg q3 hl q4 hc (.inr q5) (by omega) with hbit | hst
      · rw [Nat.max_eq_right (by omega), Nat.min_eq_left (by omega)] at hbit
        have := hD.closed.ready H.back ho hready hbit
        rw [q6] at this; cases this
      · obtain ⟨⟨v', s', g1, _⟩, _⟩ := hst hw
        obtain ⟨_, g3⟩ := read_at hc g1
        rw [hid] at g3
        obtain ⟨⟨x, g3⟩, _⟩ := g3
        obtain ⟨z1, _⟩ := H.zone q1 (by omega) (fun q' co' a b => hnoeff q' co' a (by omega))
        have g3' : hget (T.Sg q).heap id = some x := g3
        rw [z1] at g3'
        have := H.wfZone hcl q1 (by omega) (fun q' co' a b => hnoeff q' co' a (by omega)) hD.wf _ g3'
        omega
    have key : ∀ k, rr ≤ k → k ≤ m → hget (pend T reg S rr k ++ (T.Sg rr).heap) id = hget (T.Sg k).heap id := by
      intro k
      induction k with
      | zero => intro h _; have : rr = 0 := by omega
                subst this; rfl
      | succ k ih =>
        intro k1 k2
        by_cases e : rr = k + 1
        · rw [← e, pend_ge (Nat.le_refl _)]; rfl
        · have ih' := ih (by omega) (by omega)
          obtain ⟨oq, hoq, hlq⟩ := H.oper (i := k) (by omega)
          cases hrq : reg k with
          | false =>
            rw [pend, if_neg (by rw [hrq]; simp), (H.idle k (by omega) hrq).2.2]; exact ih'
          | true =>
            obtain ⟨_, hq⟩ := H.quiet hlq hrq (hnoeff k _ (by omega) (by omega) hrq hlq)
            rcases hq with ⟨q1, q2⟩ | ⟨q0, x, q1, q2⟩
            · rw [q2, pend, q1, List.nil_append, ite_self]; exact ih'
            · rw [q2]
              show _ = hget (((T.Sg k).next, x) :: (T.Sg k).heap) id
              rw [hget_cons, pend]
              cases hsk : S k with
              | true =>
                rw [if_pos ⟨by omega, rfl, hrq⟩, q1]
                show hget (((T.Sg k).next, x) :: (pend T reg S rr k ++ (T.Sg rr).heap)) id = _
                rw [hget_cons, ih']
              | false =>
                rw [if_neg (by simp), if_neg (fun e => hskip k _ (by omega) (by omega) hrq hlq q0 hsk e.symm)]
                exact ih'
    exact key m hm (Nat.le_refl _)

/-- A place where the read can be done: behind it there are no effects up to what is done. -/
theorem read_place (H : Reg P cfg fid ops l reg irr cl T) (hD : DI P cfg ops l reg irr T C0 σ0 w0 N sz S rr ρX C a w) {i : Nat} {o : Oper} (ho : ops[i]? = some o) (hreg : reg i = true) (hSi : S i = false)
    (hready : ∀ e ∈ o.after, Region.binds .any e = true → S e.on = true) (hc : cls (compOper P cfg fid ops o).op = .read) (hw : wanted (T.E i) (compOper P cfg fid ops o).guard = some true) :
    ∃ m, rr ≤ m ∧ m ≤ ops.size ∧ (rr < m → m ≤ i) ∧ NoEff l reg rr m ∧ Stays T i (compOper P cfg fid ops o) m := by
  have hl := H.comp i o ho
  have hilt : i < ops.size := (Array.getElem?_eq_some_iff.1 ho).1
  have hst0 : Stays T i (compOper P cfg fid ops o) i ∧ T.Sg (i + 1) = T.Sg i := by
    obtain ⟨_, h2⟩ := oper_cls (H.run i _ hl hreg) (by rw [hc]; simp)
    rcases h2 with ⟨h2, _⟩ | ⟨_, v, h2, h3⟩
    · rw [hw] at h2; cases h2
    · refine ⟨⟨v, _, h3, fun d hd => ?_⟩, (read_at hc h3).1⟩
      rw [h2, hd, aget_put_self]
  by_cases hri : i < rr
  · refine ⟨rr, Nat.le_refl _, hD.rle, fun h => by omega, fun q _ h1 h2 => by omega, ?_⟩
    have key : ∀ k, i + 1 ≤ k → k ≤ rr → Stays T i (compOper P cfg fid ops o) k := by
      intro k
      induction k with
      | zero => intro h _; omega
      | succ k ih =>
        intro k1 k2
        by_cases e : i + 1 = k + 1
        · rw [← e]; unfold Stays; rw [hst0.2]; exact hst0.1
        · have ih' := ih (by omega) (by omega)
          have hkn : k < ops.size := by have := hD.rle; omega
          obtain ⟨oq, hoq, hlq⟩ := H.oper hkn
          have same : T.Sg (k + 1) = T.Sg k → Stays T i (compOper P cfg fid ops o) (k + 1) := fun h => by unfold Stays at ih' ⊢; rw [h]; exact ih'
          cases hrq : reg k with
          | false => exact same (H.idle k hkn hrq).2.2
          | true =>
            have hpart : cls (compOper P cfg fid ops oq).op = .eff ∨ cls (compOper P cfg fid ops oq).op = .new → S k = true → Stays T i (compOper P cfg fid ops o) (k + 1) := by
              intro hcq hsk
              rcases H.chk i k _ _ hreg hrq hl hlq hc hcq (by omega) with hbit | hst
              · rw [Nat.max_eq_left (by omega), Nat.min_eq_right (by omega)] at hbit
                have := hD.closed.bit H.back _ _ hsk hbit
                rw [hSi] at this; cases this
              · exact (hst hw).2
            cases hcq : cls (compOper P cfg fid ops oq).op with
            | eff => exact hpart (.inl hcq) ((hD.effs k _ hlq hrq hcq).2 (by omega))
            | new => exact hpart (.inr hcq) (hD.news k _ hlq hrq hcq (by omega))
            | pure =>
              obtain ⟨_, hq⟩ := H.quiet hlq hrq (by rw [hcq]; simp)
              rcases hq with ⟨_, q2⟩ | ⟨q0, _⟩
              · exact same q2
              · rw [hcq] at q0; cases q0
            | read =>
              obtain ⟨_, hq⟩ := H.quiet hlq hrq (by rw [hcq]; simp)
              rcases hq with ⟨_, q2⟩ | ⟨q0, _⟩
              · exact same q2
              · rw [hcq] at q0; cases q0
    exact key rr (by omega) (Nat.le_refl _)
  · -- the first effect ahead of it that is not done, if there is one
    have search : ∀ d, rr + d ≤ i → (NoEff l reg rr (rr + d)) ∨ ∃ p, rr ≤ p ∧ p < i ∧ NoEff l reg rr p ∧ ∃ cp, l[p]? = some cp ∧ reg p = true ∧ cls cp.op = .eff := by
      intro d
      induction d with
      | zero => intro _; exact .inl fun q _ h1 h2 => by omega
      | succ d ih =>
        intro hd
        rcases ih (by omega) with ih | ih
        · by_cases he : reg (rr + d) = true ∧ ∃ cp, l[rr + d]? = some cp ∧ cls cp.op = .eff
          · obtain ⟨h1, cp, h2, h3⟩ := he
            exact .inr ⟨rr + d, by omega, by omega, ih, cp, h2, h1, h3⟩
          · refine .inl fun q cq h1 h2 h3 h4 h5 => ?_
            by_cases e : q = rr + d
            · subst e; exact he ⟨h3, cq, h4, h5⟩
            · exact ih q cq h1 (by omega) h3 h4 h5
        · exact .inr ih
    rcases search (i - rr) (by omega) with h | ⟨p, p1, p2, p3, cp, p4, p5, p6⟩
    · rw [show rr + (i - rr) = i by omega] at h
      exact ⟨i, by omega, by omega, fun _ => Nat.le_refl _, h, hst0.1⟩
    · refine ⟨p, p1, by omega, fun _ => by omega, p3, ?_⟩
      rcases H.chk i p _ cp hreg p5 hl p4 hc (.inl p6) (by omega) with hbit | hst
      · rw [Nat.max_eq_right (by omega), Nat.min_eq_left (by omega)] at hbit
        have := (hD.effs p cp p4 p5 p6).1 (hD.closed.ready H.back ho hready hbit)
        omega
      · exact (hst hw).1

theorem defs_suffix (H : Reg P cfg fid ops l reg irr cl T) (hcl : ClOk P cfg cl) : ∀ {j i : Nat}, i ≤ j → j ≤ ops.size → T.D i <:+ T.D j := by
  intro j
  induction j with
  | zero => intro i h _; have : i = 0 := by omega
            subst this; exact List.suffix_refl _
  | succ j ih =>
    intro i h hj
    by_cases e : i = j + 1
    · subst e; exact List.suffix_refl _
    · refine (ih (i := i) (by omega) (by omega)).trans ?_
      obtain ⟨o, ho, hl⟩ := H.oper (i := j) (by omega)
      cases hr : reg j with
      | true =>
        rcases (oper_next hcl (H.run j _ hl hr)).2 with h | ⟨x, h⟩
        · rw [h]; exact List.suffix_refl _
        · rw [h]; exact List.suffix_cons _ _
      | false => rw [(H.idle j (by omega) hr).2.1]; exact List.suffix_refl _

/-- One operation of a region that draws its order. -/
theorem reg_step (H : Reg P cfg fid ops l reg irr cl T) (hcl : ClOk P cfg cl) (h0 : σ0.next ≤ (T.Sg 0).next) (hN : (T.Sg ops.size).next ≤ N) (hr : r = none ∨ T.D ops.size = T.D 0)
    (hD : DI P cfg ops l reg irr T C0 σ0 w0 N sz S rr ρX C a w) {i : Nat} {o : Oper} (ho : ops[i]? = some o) (hreg : reg i = true) (hSi : S i = false)
    (hready : ∀ e ∈ o.after, Region.binds .any e = true → S e.on = true) (hlt : ∀ d, o.dst = some d → d < sz)
    {K : Act → World → Prop} {Q : Exit → Act → World → Prop} (hK : ∀ rr' D a' w', C.Le D → Above (T.Sg ops.size).next C D → (∀ t, o.dst ≠ some t → a'.tmps.getD t undef = a.tmps.getD t undef) → DI P cfg ops l reg irr T C0 σ0 w0 N sz (withS S i) rr' ρX D a' w' → K a' w') :
    wpOpIn (FR r) 0 P ops Q i K a w := by
  have hl := H.comp i o ho
  have hilt : i < ops.size := (Array.getElem?_eq_some_iff.1 ho).1
  have hdst : (compOper P cfg fid ops o).dst = o.dst := compOper_dst o
  have hrun := H.run i _ hl hreg
  obtain ⟨v0, hE1, honly⟩ := oper_congr hrun
  rw [hdst] at hE1 honly
  have hE1' : ∀ d, o.dst = some d → v0 = aget (T.E (i + 1)) d := fun d hd => by rw [hE1, hd, aget_put_self]
  by_cases hc : cls (compOper P cfg fid ops o).op = .eff
  · -- an effect: all effects ahead of it are done, and all that makes something ahead of it
    have hge : rr ≤ i := by
      apply Classical.byContradiction; intro h
      have := (hD.effs i _ hl hreg hc).2 (by omega); rw [hSi] at this; cases this
    have hord : ∀ (q : Nat) (cq : AOper), q < i → reg q = true → l[q]? = some cq → cls cq.op = .eff ∨ cls cq.op = .new → S q = true := by
      intro q cq q1 q2 q3 q4
      rcases H.pairs q i cq _ q1 q2 hreg q3 hl with hbit | hpo
      · exact hD.closed.ready H.back ho hready hbit
      · unfold pairOk at hpo
        rcases q4 with q4 | q4 <;> rw [q4, hc] at hpo <;> cases hpo
    have hno : NoEff l reg rr i := fun q cq q1 q2 q3 q4 q5 => by
      have := (hD.effs q cq q4 q3 q5).1 (hord q cq q2 q3 q4 (.inl q5)); omega
    obtain ⟨z1, z2⟩ := H.zone hge (by omega) hno
    have hpend : pend T reg S rr i = pend T reg (fun _ => true) rr i := pend_congr fun q q1 q2 q3 => by
      obtain ⟨oq, hoq, hlq⟩ := H.oper (i := q) (by omega)
      obtain ⟨_, hq⟩ := H.quiet hlq q3 (hno q _ q1 q2 q3 hlq)
      rcases hq with ⟨hq, _⟩ | ⟨hq, _⟩
      · exact .inr hq
      · exact .inl (hord q _ q2 q3 hlq (.inr hq))
    have hlow : low T reg S rr i = T.Sg i := by unfold low; rw [hpend, ← z1]
    have hop : oper (compOper P cfg fid ops o) cl (only (T.E i) (namesA (compOper P cfg fid ops o))) (T.D rr) (low T reg S rr i) = some (put (only (T.E i) (namesA (compOper P cfg fid ops o))) o.dst v0, T.D (i + 1), T.Sg (i + 1)) := by
      rw [hlow, ← z2]; exact honly
    have hr' : r = none ∨ T.D (i + 1) = T.D rr := by
      rcases hr with h | h
      · exact .inl h
      · right
        rw [← z2]
        have s0 := (defs_suffix H hcl (Nat.zero_le i) (by omega)).length_le
        have s1 := defs_suffix H hcl (i := i) (j := i + 1) (by omega) (by omega)
        have s2 := (defs_suffix H hcl (i := i + 1) (j := ops.size) (by omega) (Nat.le_refl _)).length_le
        rw [h] at s2
        have := s1.length_le
        exact (s1.eq_of_length (by omega)).symm
    obtain ⟨v, hv1, hv2⟩ := exec (r := r) H hcl h0 hN hD ho hreg hSi hready hge (Nat.le_succ i) (by omega) (by rw [pend_one, if_neg (by rw [hSi]; simp)]) hop rfl (hD.fresh i hreg hilt hSi) hr'
    refine hv2 K Q fun D u w' defs hE hI k1 k2 hvu hd => hK (i + 1) D _ w' hE.le (above_of hcl H hE (mt := i + 1) (by omega) rfl) (put_other a defs o.dst u) ?_
    refine hD.next H hcl ho hl hreg hSi hready (Nat.le_succ i) (by omega) (.inr ⟨rfl, rfl⟩) rfl (by omega) (fun j cj hlj hrj hcj => ?_) (fun j cj hlj hrj hcj hjr => ?_) (fun id ob hg => hI.next id ob hg) hE ?_ k1 k2 hdst (fun d hdd => ?_) hd hlt
    · by_cases e : j = i
      · subst e; exact ⟨fun _ => by omega, fun _ => withS_eq⟩
      · rw [withS_ne e, hD.effs j cj hlj hrj hcj]
        refine ⟨fun h => by omega, fun h => ?_⟩
        by_cases h' : j < rr
        · exact h'
        · exact absurd hcj (hno j cj (by omega) (by omega) hrj hlj)
    · by_cases e : j = i
      · subst e; exact withS_eq
      · rw [withS_ne e]; exact hord j cj (by omega) hrj hlj (.inr hcj)
    · rw [pend_congr (S' := S) fun q q1 _ _ => .inl (withS_ne (by omega))]
    · rw [← hE1' d hdd]
      have := put_inj hv1 d hdd
      rw [this]; exact hvu
  · obtain ⟨d1, d2⟩ := oper_cls hrun hc
    have unwanted : wanted (T.E i) (compOper P cfg fid ops o).guard = some false → T.E (i + 1) = put (T.E i) (compOper P cfg fid ops o).dst .undef → T.Sg (i + 1) = T.Sg i → wpOpIn (FR r) 0 P ops Q i K a w := by
      intro u1 u2 u3
      refine still_step (v := .undef) H hcl h0 hN hD ho hreg hSi hready hlt (Nat.le_refl rr) hD.rle hc (adds_same u3) ?_ (fun d hd => ?_) hK
      · have := oper_off (cl := cl) (co := compOper P cfg fid ops o) (env := only (T.E i) (namesA (compOper P cfg fid ops o))) (ds := T.D rr) (σ := low T reg S rr rr) (by rw [only_wanted]; exact u1)
        rw [hdst] at this; exact this
      · rw [u2, hdst, hd, aget_put_self]
    rcases d2 with ⟨u1, u2, u3⟩ | ⟨w1, v, w2, w3⟩
    · exact unwanted u1 u2 u3
    · have hv' : ∀ d, o.dst = some d → v = aget (T.E (i + 1)) d := fun d hd => by rw [w2, hdst, hd, aget_put_self]
      have on : ∀ {σ τ : St} {u : AV}, op (compOper P cfg fid ops o).op (T.E i) σ = some (u, τ) → oper (compOper P cfg fid ops o) cl (only (T.E i) (namesA (compOper P cfg fid ops o))) (T.D rr) σ = some (put (only (T.E i) (namesA (compOper P cfg fid ops o))) o.dst u, T.D rr, τ) := fun h => by
        have := oper_on (cl := cl) (co := compOper P cfg fid ops o) (env := only (T.E i) (namesA (compOper P cfg fid ops o))) (ds := T.D rr) (by rw [only_wanted]; exact w1) (plain_of_cls hc) (by rw [only_op]; exact h)
        rw [hdst] at this; exact this
      cases hk : cls (compOper P cfg fid ops o).op with
      | eff => exact absurd hk hc
      | pure =>
        obtain ⟨p1, p2⟩ := pure_free hk _ _ _ _ w3
        exact still_step H hcl h0 hN hD ho hreg hSi hready hlt (Nat.le_refl rr) hD.rle hc (adds_same p1) (on (p2 _)) hv' hK
      | read =>
        obtain ⟨m, m1, m2, m3, m4, m5⟩ := read_place H hD ho hreg hSi hready hk w1
        obtain ⟨u, q1, q2⟩ := read_low H hcl hD ho hreg hready hk w1 m1 m2 m3 m4 m5
        exact still_step H hcl h0 hN hD ho hreg hSi hready hlt m1 m2 hc (adds_same (read_at hk w3).1) (on q1) q2 hK
      | new =>
        obtain ⟨x, n1, n2⟩ := new_adds hk w3
        have hge : rr ≤ i := by
          apply Classical.byContradiction; intro h
          have := hD.news i _ hl hreg hk (by omega); rw [hSi] at this; cases this
        obtain ⟨u, hv1, hv2⟩ := exec (r := r) (τ := (low T reg S rr i).add x) H hcl h0 hN hD ho hreg hSi hready hge (Nat.le_succ i) (by omega) (by rw [pend_one, if_neg (by rw [hSi]; simp)]) (on (n2 (low T reg S rr i) rfl)) (by rw [n1]; rfl) (hD.fresh i hreg hilt hSi) (.inr rfl)
        refine hv2 K Q fun D u' w' defs hE hI k1 k2 hvu hd => hK rr D _ w' hE.le (above_of hcl H hE (mt := i + 1) (by omega) (by rw [n1]; rfl)) (put_other a defs o.dst u') ?_
        refine hD.next H hcl ho hl hreg hSi hready (Nat.le_succ i) (by omega) (.inr ⟨rfl, rfl⟩) (by rw [n1]; rfl) hD.rle (fun j cj hlj hrj hcj => ?_) (fun j cj hlj hrj hcj hjr => ?_) hD.wf hE ?_ k1 k2 hdst (fun d hdd => ?_) hd hlt
        · have hji : j ≠ i := fun e => by subst e; rw [hl] at hlj; cases hlj; rw [hk] at hcj; cases hcj
          rw [withS_ne hji]; exact hD.effs j cj hlj hrj hcj
        · have := hD.news j cj hlj hrj hcj hjr
          unfold withS; split <;> first | rfl | exact this
        · rw [pend_split (S := withS S i) (a := rr) (m := i + 1) (b := ops.size) (by omega) (by omega), pend_congr (S := withS S i) (S' := S) (a := i + 1) fun q q1 _ _ => .inl (withS_ne (by omega)), pend, if_pos ⟨hge, withS_eq, hreg⟩,
            pend_congr (S := withS S i) (S' := S) (a := rr) (b := i) fun q _ q2 _ => .inl (withS_ne (by omega)), adds_add n1]
          simp only [List.append_assoc]
          rfl
        · rw [← hv' d hdd]
          have := put_inj hv1 d hdd
          rw [this]; exact hvu

end Go.AM
