/- A part of the proof of: EmitBecomes: what a term becomes by patterns, and a pattern's name, is what the document says, or the error is told. -/
import Derived.Test.YtkopdkjpmccbmaaGreatDoorM10
namespace Go.AM
open Go.RowKit
variable {P : Program} {cfg : Cfg} {C D : Ctx} {σ τ : St} {w : World} {env env' : Env} {a : Act} {v : AV} {ds ds' : List ADef} {cl : CallF} {r : Option Nat}

theorem run_take {b : Nat} (hb : w.heap[b]? = some (.deferred (some []))) : (Instr.takeDeferred b).run P w = .ok [] (World.putObj w b (.deferred none)) := by
  have hg : (getObj b).run P w = .ok (.deferred (some [])) w := by simp [getObj, Sem.run, hb]
  simp only [Instr.takeDeferred, Sem.run_bind, hg, Result.andThen_ok, run_setObj' _ hb (by simp), Sem.run_pure]

theorem runDefs_next (hcl : ClOk P cfg cl) : ∀ (ads : List ADef) (σ τ : St), runDefs cl ads σ = some τ → σ.next ≤ τ.next := by
  intro ads
  induction ads with
  | nil => intro σ τ h; cases h; exact Nat.le_refl _
  | cons x ads ih =>
    intro σ τ h
    cases x with
    | mark o =>
      simp only [runDefs] at h
      split at h
      · exact ih (σ.del o) τ h
      · cases h
    | call f args caps =>
      simp only [runDefs] at h
      split at h
      · split at h
        · rename_i hc; exact Nat.le_trans (hcl.next _ _ _ _ _ hc) (ih _ _ h)
        · cases h
      · cases h

/-- Leaving: marks and calls are among what was deferred. -/
theorem leaves_sound (hcl : ClOk P cfg cl) {fn : Func} {tmps : Array Value} {R : Ending → World → Prop} : ∀ (ads : List ADef) (defs : List Deferred) (C : Ctx) (σ : St) (w : World), runDefs cl ads σ = some τ → Inv P cfg C σ w → DefsR C ads defs → Fresh C σ.next τ.next →
    (∀ D w', Ev C σ w D τ w' → Inv P cfg D τ w' → ∃ v, (results fn tmps).run P w' = .ok v w' ∧ R (.returned v) w') → LeavesInM (FR none) 0 P fn tmps R defs .returning w := by
  intro ads
  induction ads with
  | nil =>
    intro defs C σ w h hI hd hf hR
    cases hd
    cases h
    exact hR C w (.refl _ _ _) hI
  | cons x ads ih =>
    intro defs C σ w h hI hd hfr hR
    cases hd with
    | cons hx ht =>
      cases hx with
      | call f hf args caps av cv ha hc =>
        simp only [runDefs] at h
        cases f <;> simp only [calleeFn] at h <;> first | (cases h; done) | skip
        · rename_i n
          cases hcv : cl (.dfn n) ([] ++ args ++ caps) σ with
          | none => rw [hcv] at h; cases h
          | some q =>
            obtain ⟨v1, s1⟩ := q
            rw [hcv] at h; simp only at h
            have n1 := hcl.next _ _ _ _ _ hcv
            have n2 := runDefs_next hcl _ _ _ h
            obtain ⟨k1, k2⟩ := hcl.dfn n _ σ v1 s1 hcv C w (av ++ cv) hI (by simpa using ha.append hc) (hfr.sub (Nat.le_refl _) n2)
            refine ⟨by simp, .inr ⟨fun h => absurd h (by simp [FR, Fence.wide]), .func n, cv, n, av ++ cv, rfl, k1, fun _ _ => trivial, (k2 .returning).mono ?_⟩⟩
            rintro e u' w' ⟨rfl, u, rfl, D, hE, hI', hv⟩
            exact ih _ D s1 w' h hI' (ht.mono hE.le) (hfr.after hE) fun D2 w2 hE2 hI2 => hR D2 w2 (hE.trans hE2) hI2
      | mark o b hκ =>
        simp only [runDefs] at h
        cases hg : σ.get o with
        | none => rw [hg] at h; cases h
        | some ob =>
          rw [hg] at h
          cases ob <;> simp only at h <;> try cases h
          obtain ⟨b', g1, g2⟩ := hI.obj _ _ hg
          rw [hκ] at g1; cases g1
          refine ⟨by simp, .inl ⟨b, _, rfl, run_take g2, ?_⟩⟩
          obtain ⟨s1, s2⟩ := MapKept.heap_set (w := w) (o' := .deferred none) g2
          -- the object is forgotten, its block changes
          have hlt : b < w.heap.size := (Array.getElem?_eq_some_iff.1 g2).1
          obtain ⟨k1, k2⟩ := hI.del o
          have hno : ¬Owned C (σ.del o) b := fun ⟨i, oi, hi, hbi⟩ => by
            have hi' : hget (hdel σ.heap o) i = some oi := hi
            rw [hget_hdel hI.falls] at hi'
            split at hi'
            · cases hi'
            · rename_i hne
              exact hne (hI.inj o i .defs oi b hg hi' (by simp [objB, hκ]) hbi)
          have hlies : ∀ b' x u, C.S b' x = some u → (World.putObj w b (.deferred none)).cell? ⟨b', x, none⟩ = some u := fun b' x u hx => by
            have h0 := hI.lies b' x u hx
            by_cases e : b' = b
            · subst e; simp [World.cell?, g2] at h0
            · rw [← h0]; exact World.cell?_of_block (s2 b' e)
          have hI' : Inv P cfg C (σ.del o) (World.putObj w b (.deferred none)) := by
            refine ⟨⟨hlies, k1.falls, k1.next, fun i oi hi => (k1.obj i oi hi).stable (.refl C) (fun b' hb' => ⟨s2 b' (fun e => hno ⟨i, oi, hi, e ▸ hb'⟩), fun x u h => h⟩) (fun _ => rfl), k1.inj⟩, fun p hp => ?_⟩
            obtain ⟨⟨e, kk, h1⟩, h2⟩ := k1.pin p hp
            exact ⟨⟨e, kk, (s2 p.1 (fun e' => by rw [e', g2] at h1; cases h1)).trans h1⟩, h2⟩
          have hE : Ev C σ w C (σ.del o) (World.putObj w b (.deferred none)) := by
            refine ⟨.refl C, k2.next, by simp [World.putObj], rfl, rfl, rfl, fun b' hb' hno' => s2 b' (fun e => hno' ⟨o, .defs, hg, by subst e; simp [objB, hκ]⟩), fun b' hb' h => k2.own b' hb' h, fun _ _ _ _ _ h => h, fun i h => absurd rfl h, fun i g h => absurd rfl h, k2.dom⟩
          exact ih _ C (σ.del o) _ h hI' ht (hfr.after hE) fun D w' hE' hI'' => hR D w' (hE.trans hE') hI''

end Go.AM
namespace Go.AM
open Go.RowKit
variable {P : Program} {cfg : Cfg} {C D : Ctx} {σ τ : St} {w : World} {env env' : Env} {a : Act} {v : AV} {ds ds' : List ADef} {cl : CallF} {r : Option Nat}

theorem results_list (hI : Inv P cfg C σ w) {tm : Array Value} (he : EnvR C env tm) : ∀ (l : List ResultVar) (rs : List (Nat × Option (Option Nat))) (vs : List AV), resultsT P l = some rs → readResults env σ rs = some vs →
    ∃ us : List Value, (l.mapM fun (x : ResultVar) => (match x with | .tmp t => pure (tm.getD t undef) | .cell a t => do loadVar t (← asAddr (tm.getD a undef)) : Sem Value)).run P w = .ok us w ∧ us.length = vs.length ∧ ∀ (i : Nat) (c : AV) (u : Value), vs[i]? = some c → us[i]? = some u → VR C c u := by
  intro l
  induction l with
  | nil => intro rs vs h1 h2; cases h1; cases h2; exact ⟨[], rfl, rfl, fun i c u h => by simp at h⟩
  | cons x l ih =>
    intro rs vs h1 h2
    cases x with
    | tmp t =>
      simp only [resultsT, Option.map_eq_some_iff] at h1
      obtain ⟨rs', h3, rfl⟩ := h1
      simp only [readResults] at h2
      cases hr : readResults env σ rs' with
      | none => rw [hr] at h2; cases h2
      | some vs' =>
        rw [hr] at h2; cases h2
        obtain ⟨us, k1, k2, k3⟩ := ih rs' vs' h3 hr
        refine ⟨tm.getD t undef :: us, ?_, by simp [k2], fun i c u hc hu => ?_⟩
        · rw [List.mapM_cons]
          simp only [Sem.run_bind, Sem.run_pure, Result.andThen_ok, k1]
        · cases i with
          | zero => simp only [List.getElem?_cons_zero, Option.some.injEq] at hc hu; subst hc; subst hu; exact he t
          | succ i => exact k3 i c u (by simpa using hc) (by simpa using hu)
    | cell b t =>
      simp only [resultsT] at h1
      cases hl : loadT P t with
      | none => rw [hl] at h1; cases h1
      | some n =>
        cases hr' : resultsT P l with
        | none => rw [hl, hr'] at h1; cases h1
        | some rs' =>
          rw [hl, hr'] at h1; cases h1
          simp only [readResults] at h2
          cases hv : loadAt σ n (aget env b) with
          | none => rw [hv] at h2; cases h2
          | some c0 =>
            rw [hv] at h2; simp only at h2
            cases hr : readResults env σ rs' with
            | none => rw [hr] at h2; cases h2
            | some vs' =>
              rw [hr] at h2; cases h2
              obtain ⟨us, k1, k2, k3⟩ := ih rs' vs' hr' hr
              obtain ⟨u0, q1, q2, bb, off, q3, q4⟩ := loadAt_sound hI hl (he b) hv
              refine ⟨u0 :: us, ?_, by simp [k2], fun i c u hc hu => ?_⟩
              · have hq : (asAddr (tm.getD b undef)).run P w = .ok ⟨bb, off, none⟩ w := by rw [q3]; rfl
                rw [List.mapM_cons]
                simp only [hq, Sem.run_bind, Sem.run_pure, Result.andThen_ok, q4, k1]
              · cases i with
                | zero => simp only [List.getElem?_cons_zero, Option.some.injEq] at hc hu; subst hc; subst hu; exact q2
                | succ i => exact k3 i c u (by simpa using hc) (by simpa using hu)

theorem results_sound {fn : Func} (hI : Inv P cfg C σ w) {tm : Array Value} (he : EnvR C env tm) {rs : List (Nat × Option (Option Nat))} {vs : List AV} (h1 : resultsT P fn.results.toList = some rs) (h2 : readResults env σ rs = some vs) :
    ∃ u, (results fn tm).run P w = .ok u w ∧ VR C (one vs) u := by
  obtain ⟨us, k1, k2, k3⟩ := results_list hI he _ _ _ h1 h2
  refine ⟨if h : us.toArray.size = 1 then us.toArray[0] else .tuple us.toArray, ?_, ?_⟩
  · unfold results
    rw [Array.mapM_eq_mapM_toList]
    simp only [Sem.run_bind, Sem.run_map, Sem.run_pure]
    erw [k1]
    rfl
  · match vs, us, k2, k3 with
    | [], [], _, _ => exact .undef
    | [v], [u], _, k3 => exact k3 0 v u rfl rfl
    | x :: y :: l, x' :: y' :: l', k2, k3 =>
      have : ¬((x' :: y' :: l').toArray.size = 1) := by simp
      rw [dif_neg this]
      exact .tup _ _ (by simpa using k2.symm) (fun i c v hc hv => k3 i c v hc (by simpa using hv))

theorem aget_numbered : ∀ (l : List AV) (k i : Nat), aget (numbered l k) i = if k ≤ i then (l[i - k]?).getD .junk else .junk := by
  intro l
  induction l with
  | nil => intro k i; show aget [] i = _; simp
  | cons v l ih =>
    intro k i
    show aget ((k, v) :: numbered l (k + 1)) i = _
    rw [aget_cons, ih]
    by_cases h : k = i
    · subst h; simp
    · by_cases h2 : k ≤ i
      · have h3 : k + 1 ≤ i := by omega
        simp only [h, if_false, h2, h3, if_true]
        have : i - k = (i - (k + 1)) + 1 := by omega
        rw [this, List.getElem?_cons_succ]
      · have h3 : ¬(k + 1 ≤ i) := by omega
        simp [h, h2, h3]

theorem VRs.strips {l : List AV} {vs : Array Value} (h : VRs C l vs) : VRs C (l.map stripVal) vs := by
  refine ⟨by simpa using h.1, fun i c v hc hv => ?_⟩
  rw [List.getElem?_map] at hc
  cases e : l[i]? with
  | none => rw [e] at hc; cases hc
  | some c' => rw [e] at hc; cases hc; exact (h.2 i c' v e hv).stripVal

/-- A function's body is sound: so are its calls. -/
theorem enter_sound {fid n : Nat} {fn : Func} {c : Code} {fd : AFunc} (hcl : ClOk P cfg cl) (hfn : P.funcs[fid]? = some fn) (hb : fn.body = some c) (hc : compFunc P cfg fid fn = some fd)
    (hs : ∀ s : Self, CodeSound P cfg none s c (comp P cfg s c)) {args : List AV} (h : enter cl n fd args σ = some (v, τ)) (hnx : ∀ x fr' τ', code fd.body cl n ⟨numbered (bif fd.stripArgs then args.map stripVal else args) 0, []⟩ σ = some (x, fr', τ') → τ'.next ≤ τ.next)
    {cargs : Array Value} (hI : Inv P cfg C σ w) (ha : VRs C args cargs) (hf : Fresh C σ.next τ.next) :
    Calls P fid cargs w (CRet P cfg C σ w v τ) := by
  unfold compFunc at hc
  rw [hb] at hc
  cases hrs : resultsT P fn.results.toList with
  | none => rw [hrs] at hc; cases hc
  | some rs =>
    rw [hrs] at hc; simp only [Option.some.injEq] at hc
    subst hc
    unfold enter at h
    simp only at h hnx
    generalize hX : (needsOf (comp P cfg ⟨fid, fn.ntmps, List.range (fn.params.size + fn.nfree) ++ paramsOf c⟩ c) ++ rs.map (·.1) ++ (List.range (fn.params.size + fn.nfree) ++ paramsOf c)).eraseDups = X at h hnx
    generalize hA : (bif !cfg.keepArgs.contains fid then args.map stripVal else args) = args' at h hnx
    have ha' : VRs C args' cargs := by
      subst hA
      cases (!cfg.keepArgs.contains fid) with
      | true => exact ha.strips
      | false => exact ha
    have hlen : args'.length = args.length := by subst hA; cases (!cfg.keepArgs.contains fid) <;> simp
    cases hle : Nat.ble args.length (fn.params.size + fn.nfree) with
    | false => rw [hle] at h; cases h
    | true =>
      rw [hle, cond_true] at h
      have hle := Nat.le_of_ble_eq_true hle
      cases hcode : code (comp P cfg ⟨fid, fn.ntmps, X⟩ c) cl n ⟨numbered args' 0, []⟩ σ with
      | none => rw [hcode] at h; cases h
      | some q =>
        obtain ⟨x, ⟨env', ds'⟩, σ'⟩ := q
        have hnx' := hnx _ _ _ hcode
        rw [hcode] at h; simp only at h
        have henv : EnvR C (numbered args' 0) (cargs ++ Array.replicate (fn.ntmps - cargs.size) undef) := fun i => by
          rw [aget_numbered, if_pos (Nat.zero_le _), Nat.sub_zero]
          cases hi : args'[i]? with
          | none => exact .junk _
          | some c0 =>
            obtain ⟨u, hu, hr⟩ := ha'.get hi
            have hlt : i < cargs.size := (Array.getElem?_eq_some_iff.1 hu).1
            rw [Option.getD_some, Array.getD_eq_getD_getElem?, Array.getElem?_append_left hlt, hu]; exact hr
        have hin : EnvIn X (numbered args' 0) := fun i hi => by
          rw [aget_numbered, if_pos (Nat.zero_le _), Nat.sub_zero] at hi
          cases hh : args'[i]? with
          | none => rw [hh] at hi; exact absurd rfl hi
          | some c0 =>
            have hlt := (List.getElem?_eq_some_iff.1 hh).1
            rw [← hX, List.mem_eraseDups]
            refine List.mem_append_right _ (List.mem_append_left _ (List.mem_range.2 (by omega)))
        have fin : (match runDefs cl ds' σ' with
            | some σ'' => match readResults env' σ'' rs with
              | some vs => some (bif !cfg.keepRet.contains fid then stripVal (one vs) else one vs, σ''.gc (if cfg.gc0.contains fid then 0 else if cfg.gc1.contains fid then 1 else 2) σ.next)
              | none => none
            | none => none) = some (v, τ) → (x = .normal ∨ x = .ret) → Calls P fid cargs w (CRet P cfg C σ w v τ) := by
          intro h hx
          cases hrd : runDefs cl ds' σ' with
          | none => rw [hrd] at h; cases h
          | some σ'' =>
            rw [hrd] at h; simp only at h
            cases hrr : readResults env' σ'' rs with
            | none => rw [hrr] at h; cases h
            | some vs =>
              rw [hrr] at h; simp only [Option.some.injEq, Prod.mk.injEq] at h
              obtain ⟨hv, hτ⟩ := h
              have hnn : σ''.next = τ.next := by rw [← hτ]; unfold St.gc; split <;> rfl
              have hf' : Fresh C σ.next σ''.next := by rw [hnn]; exact hf
              have body : ∀ (Q : Exit → Act → World → Prop), (∀ a' w', LeavesInM (FR none) 0 P fn a'.tmps (CRet P cfg C σ w v τ) a'.defers .returning w' → Q x.to a' w') →
                  c.wpIn (FR none) 0 P Q { tmps := cargs ++ Array.replicate (fn.ntmps - cargs.size) undef, defers := [] } w := by
                intro Q hQ
                refine hs ⟨fid, fn.ntmps, X⟩ cl hcl n (numbered args' 0) [] σ x env' ds' σ' C w { tmps := cargs ++ Array.replicate (fn.ntmps - cargs.size) undef, defers := [] } Q hcode hI henv hin .nil (by simp; omega) (hf.sub (Nat.le_refl _) hnx') (.inl rfl) fun D a' w' hE hI' he' hx' hd' hs' => ?_
                refine hQ a' w' (leaves_sound hcl ds' a'.defers D σ' w' hrd hI' hd' (hf'.after hE) fun D2 w2 hE2 hI2 => ?_)
                obtain ⟨u, k1, k2⟩ := results_sound hI2 (he'.mono hE2.le) hrs hrr
                obtain ⟨g1, g2⟩ := hI2.gc (if cfg.gc0.contains fid then 0 else if cfg.gc1.contains fid then 1 else 2) σ.next
                refine ⟨u, k1, u, rfl, D2, hτ ▸ (hE.trans hE2).trans g2, hτ ▸ g1, ?_⟩
                rw [← hv]
                cases (!cfg.keepRet.contains fid) with
                | true => exact k2.stripVal
                | false => exact k2
              refine (callsIn_wide (n := 0)).1 (show CallsIn (FR none) 0 P fid cargs w _ from callsIn_of_wp_marks hfn hb trivial (body _ ?_))
              intro a' w' hl
              rcases hx with rfl | rfl
              · exact hl
              · exact hl
        cases x with
        | exit i => cases h
        | normal => exact fin h (.inl rfl)
        | ret => exact fin h (.inr rfl)

end Go.AM
namespace Go.AM
open Go.RowKit
variable {e1 e2 : Env} {σ : St}

def Same (e1 e2 : Env) (l : List Nat) : Prop := ∀ t ∈ l, aget e1 t = aget e2 t
theorem Same.left {l m : List Nat} (h : Same e1 e2 (l ++ m)) : Same e1 e2 l := fun t ht => h t (List.mem_append_left _ ht)
theorem Same.right {l m : List Nat} (h : Same e1 e2 (l ++ m)) : Same e1 e2 m := fun t ht => h t (List.mem_append_right _ ht)
theorem Same.opd {x : Opd} (h : Same e1 e2 (opdT x)) : x.eval e1 = x.eval e2 := by
  cases x with
  | t i => exact h i (by simp [opdT])
  | c v => rfl
  | f n => rfl
theorem Same.opt {x : Option Opd} (h : Same e1 e2 (optT x)) : evalO e1 x = evalO e2 x := by
  cases x with
  | none => rfl
  | some x => exact congrArg some (Same.opd h)
theorem Same.opds : ∀ {l : List Opd}, Same e1 e2 (l.flatMap opdT) → evals e1 l = evals e2 l := by
  intro l
  induction l with
  | nil => intro _; rfl
  | cons x l ih =>
    intro h
    rw [List.flatMap_cons] at h
    show x.eval e1 :: evals e1 l = x.eval e2 :: evals e2 l
    rw [h.left.opd, ih h.right]
theorem Same.parts : ∀ {ps : List (Nat × Nat × Opd)}, Same e1 e2 (ps.flatMap fun (_, _, x) => opdT x) → ∀ l, fillParts e1 ps l = fillParts e2 ps l := by
  intro ps
  induction ps with
  | nil => intro _ l; rfl
  | cons p ps ih =>
    intro h l
    rw [List.flatMap_cons] at h
    have hp : p.2.2.eval e1 = p.2.2.eval e2 := h.left.opd
    show (bif Nat.beq (p.2.2.eval e1).cells.length p.2.1 && known (p.2.2.eval e1) then match splice l p.1 (p.2.2.eval e1).cells with | some l' => fillParts e1 ps l' | none => none else none) = (bif Nat.beq (p.2.2.eval e2).cells.length p.2.1 && known (p.2.2.eval e2) then match splice l p.1 (p.2.2.eval e2).cells with | some l' => fillParts e2 ps l' | none => none else none)
    rw [hp]
    cases (Nat.beq (p.2.2.eval e2).cells.length p.2.1 && known (p.2.2.eval e2)) with
    | false => rfl
    | true =>
      simp only [cond_true]
      cases splice l p.1 (p.2.2.eval e2).cells with
      | none => rfl
      | some l' => exact ih h.right l'
theorem Same.elems {sz : Nat} : ∀ {ps : List (Nat × Opd)}, Same e1 e2 (ps.flatMap fun (_, x) => opdT x) → ∀ l, setElems e1 sz ps l = setElems e2 sz ps l := by
  intro ps
  induction ps with
  | nil => intro _ l; rfl
  | cons p ps ih =>
    intro h l
    rw [List.flatMap_cons] at h
    have hp : p.2.eval e1 = p.2.eval e2 := h.left.opd
    show (bif Nat.beq (p.2.eval e1).cells.length sz && known (p.2.eval e1) then match setNth l p.1 (stripCell (p.2.eval e1)) with | some l' => setElems e1 sz ps l' | none => none else none) = (bif Nat.beq (p.2.eval e2).cells.length sz && known (p.2.eval e2) then match setNth l p.1 (stripCell (p.2.eval e2)) with | some l' => setElems e2 sz ps l' | none => none else none)
    rw [hp]
    cases (Nat.beq (p.2.eval e2).cells.length sz && known (p.2.eval e2)) with
    | false => rfl
    | true =>
      simp only [cond_true]
      cases setNth l p.1 (stripCell (p.2.eval e2)) with
      | none => rfl
      | some l' => exact ih h.right l'

theorem Same.lits : ∀ {ps : List (AV × Opd)}, Same e1 e2 (ps.flatMap fun (_, x) => opdT x) → litMap e1 ps = litMap e2 ps ∧ litOk e1 ps = litOk e2 ps := by
  intro ps
  induction ps with
  | nil => intro _; exact ⟨rfl, rfl⟩
  | cons p ps ih =>
    intro h
    rw [List.flatMap_cons] at h
    have hp : p.2.eval e1 = p.2.eval e2 := h.left.opd
    obtain ⟨h1, h2⟩ := ih h.right
    show ((p.1, stripCell (p.2.eval e1)) :: litMap e1 ps = (p.1, stripCell (p.2.eval e2)) :: litMap e2 ps) ∧ ((bif known (p.2.eval e1) then litOk e1 ps else false) = (bif known (p.2.eval e2) then litOk e2 ps else false))
    rw [hp, h1, h2]; exact ⟨rfl, rfl⟩

/-- An operation looks at the temporaries that it names. -/
theorem op_congr {p : AOp} (h : Same e1 e2 (readsOf p)) : op p e1 σ = op p e2 σ := by
  cases p with
  | bad => rfl
  | move x => show op_move x e1 σ = op_move x e2 σ; unfold op_move; rw [Same.opd h]
  | pick c a b => show op_pick c a b e1 σ = op_pick c a b e2 σ; unfold op_pick; rw [h.left.left.opd, h.left.right.opd, h.right.opd]
  | box x => show op_box x e1 σ = op_box x e2 σ; unfold op_box; rw [Same.opd h]
  | alloc z => rfl
  | build z ps => show op_build z ps e1 σ = op_build z ps e2 σ; unfold op_build; rw [Same.parts h]
  | buildSlice sz len z ps hs => show op_buildSlice sz len z ps hs e1 σ = op_buildSlice sz len z ps hs e2 σ; unfold op_buildSlice; rw [Same.elems h]
  | load n a => show op_load n a e1 σ = op_load n a e2 σ; unfold op_load; rw [Same.opd h]
  | store n a x => show op_store n a x e1 σ = op_store n a x e2 σ; unfold op_store; rw [h.left.opd, h.right.opd]
  | nilCheck x => show op_nilCheck x e1 σ = op_nilCheck x e2 σ; unfold op_nilCheck; rw [Same.opd h]
  | bin o x y => show op_bin o x y e1 σ = op_bin o x y e2 σ; unfold op_bin; rw [h.left.opd, h.right.opd]
  | eqAgg neg ks x y => show op_eqAgg neg ks x y e1 σ = op_eqAgg neg ks x y e2 σ; unfold op_eqAgg; rw [h.left.opd, h.right.opd]
  | eqBool neg x y => show op_eqBool neg x y e1 σ = op_eqBool neg x y e2 σ; unfold op_eqBool; rw [h.left.opd, h.right.opd]
  | eqNil neg kd x y => show op_eqNil neg kd x y e1 σ = op_eqNil neg kd x y e2 σ; unfold op_eqNil; rw [h.left.opd, h.right.opd]
  | un o x => show op_un o x e1 σ = op_un o x e2 σ; unfold op_un; rw [Same.opd h]
  | convInt k x => show op_convInt k x e1 σ = op_convInt k x e2 σ; unfold op_convInt; rw [Same.opd h]
  | convId x => show op_convId x e1 σ = op_convId x e2 σ; unfold op_convId; rw [Same.opd h]
  | convChar x => show op_convChar x e1 σ = op_convChar x e2 σ; unfold op_convChar; rw [Same.opd h]
  | convBytes x => show op_convBytes x e1 σ = op_convBytes x e2 σ; unfold op_convBytes; rw [Same.opd h]
  | makeFunc f a b => show op_makeFunc f a b e1 σ = op_makeFunc f a b e2 σ; unfold op_makeFunc; rw [h.left.opds, h.right.opds]
  | makeMap ks => rfl
  | makeSlice sz b z x y => show op_makeSlice sz b z x y e1 σ = op_makeSlice sz b z x y e2 σ; unfold op_makeSlice; rw [h.left.opd, h.right.opd]
  | sliceStr x lo hi => show op_sliceStr x lo hi e1 σ = op_sliceStr x lo hi e2 σ; unfold op_sliceStr; rw [h.left.left.opd, h.left.right.opt, h.right.opt]
  | sliceSl sz x lo hi => show op_sliceSl sz x lo hi e1 σ = op_sliceSl sz x lo hi e2 σ; unfold op_sliceSl; rw [h.left.left.opd, h.left.right.opt, h.right.opt]
  | fieldAddr off x => show op_fieldAddr off x e1 σ = op_fieldAddr off x e2 σ; unfold op_fieldAddr; rw [Same.opd h]
  | field off n x => show op_field off n x e1 σ = op_field off n x e2 σ; unfold op_field; rw [Same.opd h]
  | indexArr len sz x i => show op_indexArr len sz x i e1 σ = op_indexArr len sz x i e2 σ; unfold op_indexArr; rw [h.left.opd, h.right.opd]
  | indexSl sz x i => show op_indexSl sz x i e1 σ = op_indexSl sz x i e2 σ; unfold op_indexSl; rw [h.left.opd, h.right.opd]
  | charAt x i => show op_charAt x i e1 σ = op_charAt x i e2 σ; unfold op_charAt; rw [h.left.opd, h.right.opd]
  | lookup ks z x i ok => show op_lookup ks z x i ok e1 σ = op_lookup ks z x i ok e2 σ; unfold op_lookup; rw [h.left.opd, h.right.opd]
  | mapUpdate ks m k x => show op_mapUpdate ks m k x e1 σ = op_mapUpdate ks m k x e2 σ; unfold op_mapUpdate; rw [h.left.left.opd, h.left.right.opd, h.right.opd]
  | delete ks m k => show op_delete ks m k e1 σ = op_delete ks m k e2 σ; unfold op_delete; rw [h.left.opd, h.right.opd]
  | extract x i => show op_extract x i e1 σ = op_extract x i e2 σ; unfold op_extract; rw [Same.opd h]
  | call f args => rfl
  | defer f args => rfl
  | lenStr x => show op_lenStr x e1 σ = op_lenStr x e2 σ; unfold op_lenStr; rw [Same.opd h]
  | lenSl x => show op_lenSl x e1 σ = op_lenSl x e2 σ; unfold op_lenSl; rw [Same.opd h]
  | lenMap ks x => show op_lenMap ks x e1 σ = op_lenMap ks x e2 σ; unfold op_lenMap; rw [Same.opd h]
  | min x y => show op_min x y e1 σ = op_min x y e2 σ; unfold op_min; rw [h.left.opd, h.right.opd]
  | append sz b hs s x => show op_append sz b hs s x e1 σ = op_append sz b hs s x e2 σ; unfold op_append; rw [h.left.opd, h.right.opd]
  | append1 sz b s x => show op_append1 sz b s x e1 σ = op_append1 sz b s x e2 σ; unfold op_append1; rw [h.left.opd, h.right.opd]
  | rangeStr x => show op_rangeStr x e1 σ = op_rangeStr x e2 σ; unfold op_rangeStr; rw [Same.opd h]
  | nextStr x => show op_nextStr x e1 σ = op_nextStr x e2 σ; unfold op_nextStr; rw [Same.opd h]
  | mapLit ks ps => show op_mapLit ks ps e1 σ = op_mapLit ks ps e2 σ; unfold op_mapLit; obtain ⟨h1, h2⟩ := Same.lits h; rw [h1, h2]

end Go.AM
namespace Go.AM
open Go.RowKit

/-- It leaves the state, and does not look at it. -/
def Free (p : AOp) : Prop := ∀ (env : Env) (σ : St) (v : AV) (τ : St), op p env σ = some (v, τ) → τ = σ ∧ ∀ σ', op p env σ' = some (v, σ')
theorem free_of {p : AOp} (h : ∀ env σ, op p env σ = ((op p env ⟨[], 0⟩).map Prod.fst).map fun v => (v, σ)) : Free p := by
  intro env σ v τ ho
  rw [h] at ho
  cases hf : (op p env ⟨[], 0⟩).map Prod.fst with
  | none => rw [hf] at ho; cases ho
  | some u => rw [hf] at ho; cases ho; exact ⟨rfl, fun σ' => by rw [h, hf]; rfl⟩
theorem ret1_map (x : Option AV) (σ : St) : ret1 x σ = ((ret1 x ⟨[], 0⟩).map Prod.fst).map fun v => (v, σ) := by cases x <;> rfl
theorem bif_map {b : Bool} {x y : Option (AV × St)} {x' y' : Option (AV × St)} {σ : St} (h1 : x = (x'.map Prod.fst).map fun v => (v, σ)) (h2 : y = (y'.map Prod.fst).map fun v => (v, σ)) :
    (bif b then x else y) = ((bif b then x' else y').map Prod.fst).map fun v => (v, σ) := by cases b <;> assumption

theorem free_move {p : AOp} (h : ∃ x, p = .move x) : Free p := by
  obtain ⟨x, rfl⟩ := h
  refine free_of fun env σ => ?_
  show op_move x env σ = ((op_move x env ⟨[], 0⟩).map Prod.fst).map fun v => (v, σ)
  unfold op_move
  repeat' first
    | rfl
    | exact ret1_map _ _
    | exact bif_map rfl rfl
    | split
theorem free_pick {p : AOp} (h : ∃ c a b, p = .pick c a b) : Free p := by
  obtain ⟨c, a, b, rfl⟩ := h
  refine free_of fun env σ => ?_
  show op_pick c a b env σ = ((op_pick c a b env ⟨[], 0⟩).map Prod.fst).map fun v => (v, σ)
  unfold op_pick
  repeat' first
    | rfl
    | exact ret1_map _ _
    | exact bif_map rfl rfl
    | split
theorem free_build {p : AOp} (h : ∃ z ps, p = .build z ps) : Free p := by
  obtain ⟨z, ps, rfl⟩ := h
  refine free_of fun env σ => ?_
  show op_build z ps env σ = ((op_build z ps env ⟨[], 0⟩).map Prod.fst).map fun v => (v, σ)
  unfold op_build
  repeat' first
    | rfl
    | exact ret1_map _ _
    | exact bif_map rfl rfl
    | split
theorem free_nilCheck {p : AOp} (h : ∃ x, p = .nilCheck x) : Free p := by
  obtain ⟨x, rfl⟩ := h
  refine free_of fun env σ => ?_
  show op_nilCheck x env σ = ((op_nilCheck x env ⟨[], 0⟩).map Prod.fst).map fun v => (v, σ)
  unfold op_nilCheck
  repeat' first
    | rfl
    | exact ret1_map _ _
    | exact bif_map rfl rfl
    | split
theorem free_bin {p : AOp} (h : ∃ o x y, p = .bin o x y) : Free p := by
  obtain ⟨o, x, y, rfl⟩ := h
  refine free_of fun env σ => ?_
  show op_bin o x y env σ = ((op_bin o x y env ⟨[], 0⟩).map Prod.fst).map fun v => (v, σ)
  unfold op_bin
  repeat' first
    | rfl
    | exact ret1_map _ _
    | exact bif_map rfl rfl
    | split
theorem free_eqAgg {p : AOp} (h : ∃ neg ks x y, p = .eqAgg neg ks x y) : Free p := by
  obtain ⟨neg, ks, x, y, rfl⟩ := h
  refine free_of fun env σ => ?_
  show op_eqAgg neg ks x y env σ = ((op_eqAgg neg ks x y env ⟨[], 0⟩).map Prod.fst).map fun v => (v, σ)
  unfold op_eqAgg
  repeat' first
    | rfl
    | exact ret1_map _ _
    | exact bif_map rfl rfl
    | split
theorem free_eqBool {p : AOp} (h : ∃ neg x y, p = .eqBool neg x y) : Free p := by
  obtain ⟨neg, x, y, rfl⟩ := h
  refine free_of fun env σ => ?_
  show op_eqBool neg x y env σ = ((op_eqBool neg x y env ⟨[], 0⟩).map Prod.fst).map fun v => (v, σ)
  unfold op_eqBool
  repeat' first
    | rfl
    | exact ret1_map _ _
    | exact bif_map rfl rfl
    | split
theorem free_eqNil {p : AOp} (h : ∃ neg kd x y, p = .eqNil neg kd x y) : Free p := by
  obtain ⟨neg, kd, x, y, rfl⟩ := h
  refine free_of fun env σ => ?_
  show op_eqNil neg kd x y env σ = ((op_eqNil neg kd x y env ⟨[], 0⟩).map Prod.fst).map fun v => (v, σ)
  unfold op_eqNil
  repeat' first
    | rfl
    | exact ret1_map _ _
    | exact bif_map rfl rfl
    | split
theorem free_un {p : AOp} (h : ∃ o x, p = .un o x) : Free p := by
  obtain ⟨o, x, rfl⟩ := h
  refine free_of fun env σ => ?_
  show op_un o x env σ = ((op_un o x env ⟨[], 0⟩).map Prod.fst).map fun v => (v, σ)
  unfold op_un
  repeat' first
    | rfl
    | exact ret1_map _ _
    | exact bif_map rfl rfl
    | split
theorem free_convInt {p : AOp} (h : ∃ k x, p = .convInt k x) : Free p := by
  obtain ⟨k, x, rfl⟩ := h
  refine free_of fun env σ => ?_
  show op_convInt k x env σ = ((op_convInt k x env ⟨[], 0⟩).map Prod.fst).map fun v => (v, σ)
  unfold op_convInt
  repeat' first
    | rfl
    | exact ret1_map _ _
    | exact bif_map rfl rfl
    | split
theorem free_convId {p : AOp} (h : ∃ x, p = .convId x) : Free p := by
  obtain ⟨x, rfl⟩ := h
  refine free_of fun env σ => ?_
  show op_convId x env σ = ((op_convId x env ⟨[], 0⟩).map Prod.fst).map fun v => (v, σ)
  unfold op_convId
  repeat' first
    | rfl
    | exact ret1_map _ _
    | exact bif_map rfl rfl
    | split
theorem free_convChar {p : AOp} (h : ∃ x, p = .convChar x) : Free p := by
  obtain ⟨x, rfl⟩ := h
  refine free_of fun env σ => ?_
  show op_convChar x env σ = ((op_convChar x env ⟨[], 0⟩).map Prod.fst).map fun v => (v, σ)
  unfold op_convChar
  repeat' first
    | rfl
    | exact ret1_map _ _
    | exact bif_map rfl rfl
    | split
theorem free_makeFunc {p : AOp} (h : ∃ f a b, p = .makeFunc f a b) : Free p := by
  obtain ⟨f, a, b, rfl⟩ := h
  refine free_of fun env σ => ?_
  show op_makeFunc f a b env σ = ((op_makeFunc f a b env ⟨[], 0⟩).map Prod.fst).map fun v => (v, σ)
  unfold op_makeFunc
  repeat' first
    | rfl
    | exact ret1_map _ _
    | exact bif_map rfl rfl
    | split
theorem free_sliceStr {p : AOp} (h : ∃ x lo hi, p = .sliceStr x lo hi) : Free p := by
  obtain ⟨x, lo, hi, rfl⟩ := h
  refine free_of fun env σ => ?_
  show op_sliceStr x lo hi env σ = ((op_sliceStr x lo hi env ⟨[], 0⟩).map Prod.fst).map fun v => (v, σ)
  unfold op_sliceStr
  repeat' first
    | rfl
    | exact ret1_map _ _
    | exact bif_map rfl rfl
    | split
theorem free_sliceSl {p : AOp} (h : ∃ sz x lo hi, p = .sliceSl sz x lo hi) : Free p := by
  obtain ⟨sz, x, lo, hi, rfl⟩ := h
  refine free_of fun env σ => ?_
  show op_sliceSl sz x lo hi env σ = ((op_sliceSl sz x lo hi env ⟨[], 0⟩).map Prod.fst).map fun v => (v, σ)
  unfold op_sliceSl
  repeat' first
    | rfl
    | exact ret1_map _ _
    | exact bif_map rfl rfl
    | split
theorem free_fieldAddr {p : AOp} (h : ∃ off x, p = .fieldAddr off x) : Free p := by
  obtain ⟨off, x, rfl⟩ := h
  refine free_of fun env σ => ?_
  show op_fieldAddr off x env σ = ((op_fieldAddr off x env ⟨[], 0⟩).map Prod.fst).map fun v => (v, σ)
  unfold op_fieldAddr
  repeat' first
    | rfl
    | exact ret1_map _ _
    | exact bif_map rfl rfl
    | split
theorem free_field {p : AOp} (h : ∃ off n x, p = .field off n x) : Free p := by
  obtain ⟨off, n, x, rfl⟩ := h
  refine free_of fun env σ => ?_
  show op_field off n x env σ = ((op_field off n x env ⟨[], 0⟩).map Prod.fst).map fun v => (v, σ)
  unfold op_field
  repeat' first
    | rfl
    | exact ret1_map _ _
    | exact bif_map rfl rfl
    | split
theorem free_indexArr {p : AOp} (h : ∃ len sz x i, p = .indexArr len sz x i) : Free p := by
  obtain ⟨len, sz, x, i, rfl⟩ := h
  refine free_of fun env σ => ?_
  show op_indexArr len sz x i env σ = ((op_indexArr len sz x i env ⟨[], 0⟩).map Prod.fst).map fun v => (v, σ)
  unfold op_indexArr
  repeat' first
    | rfl
    | exact ret1_map _ _
    | exact bif_map rfl rfl
    | split
theorem free_indexSl {p : AOp} (h : ∃ sz x i, p = .indexSl sz x i) : Free p := by
  obtain ⟨sz, x, i, rfl⟩ := h
  refine free_of fun env σ => ?_
  show op_indexSl sz x i env σ = ((op_indexSl sz x i env ⟨[], 0⟩).map Prod.fst).map fun v => (v, σ)
  unfold op_indexSl
  repeat' first
    | rfl
    | exact ret1_map _ _
    | exact bif_map rfl rfl
    | split
theorem free_charAt {p : AOp} (h : ∃ x i, p = .charAt x i) : Free p := by
  obtain ⟨x, i, rfl⟩ := h
  refine free_of fun env σ => ?_
  show op_charAt x i env σ = ((op_charAt x i env ⟨[], 0⟩).map Prod.fst).map fun v => (v, σ)
  unfold op_charAt
  repeat' first
    | rfl
    | exact ret1_map _ _
    | exact bif_map rfl rfl
    | split
theorem free_extract {p : AOp} (h : ∃ x i, p = .extract x i) : Free p := by
  obtain ⟨x, i, rfl⟩ := h
  refine free_of fun env σ => ?_
  show op_extract x i env σ = ((op_extract x i env ⟨[], 0⟩).map Prod.fst).map fun v => (v, σ)
  unfold op_extract
  repeat' first
    | rfl
    | exact ret1_map _ _
    | exact bif_map rfl rfl
    | split
theorem free_lenStr {p : AOp} (h : ∃ x, p = .lenStr x) : Free p := by
  obtain ⟨x, rfl⟩ := h
  refine free_of fun env σ => ?_
  show op_lenStr x env σ = ((op_lenStr x env ⟨[], 0⟩).map Prod.fst).map fun v => (v, σ)
  unfold op_lenStr
  repeat' first
    | rfl
    | exact ret1_map _ _
    | exact bif_map rfl rfl
    | split
theorem free_lenSl {p : AOp} (h : ∃ x, p = .lenSl x) : Free p := by
  obtain ⟨x, rfl⟩ := h
  refine free_of fun env σ => ?_
  show op_lenSl x env σ = ((op_lenSl x env ⟨[], 0⟩).map Prod.fst).map fun v => (v, σ)
  unfold op_lenSl
  repeat' first
    | rfl
    | exact ret1_map _ _
    | exact bif_map rfl rfl
    | split
theorem free_min {p : AOp} (h : ∃ x y, p = .min x y) : Free p := by
  obtain ⟨x, y, rfl⟩ := h
  refine free_of fun env σ => ?_
  show op_min x y env σ = ((op_min x y env ⟨[], 0⟩).map Prod.fst).map fun v => (v, σ)
  unfold op_min
  repeat' first
    | rfl
    | exact ret1_map _ _
    | exact bif_map rfl rfl
    | split
theorem free_buildSlice {sz len : Nat} {z : AV} {ps : List (Nat × Opd)} : Free (.buildSlice sz len z ps false) := by
  refine free_of fun env σ => ?_
  show op_buildSlice sz len z ps false env σ = ((op_buildSlice sz len z ps false env ⟨[], 0⟩).map Prod.fst).map fun v => (v, σ)
  unfold op_buildSlice
  split <;> rfl
theorem free_none {p : AOp} (h : ∀ env σ, op p env σ = none) : Free p := fun env σ v τ ho => by rw [h] at ho; cases ho

theorem pure_free {p : AOp} (h : cls p = .pure) : Free p := by
  cases p <;> simp only [cls] at h <;> first
    | (exact absurd h (by decide))
    | skip
  · exact free_none fun _ _ => rfl
  · exact free_move ⟨_, rfl⟩
  · exact free_pick ⟨_, _, _, rfl⟩
  · exact free_build ⟨_, _, rfl⟩
  · rename_i hs; cases hs
    · exact free_buildSlice
    · exact absurd h (by decide)
  · exact free_nilCheck ⟨_, rfl⟩
  · exact free_bin ⟨_, _, _, rfl⟩
  · exact free_eqAgg ⟨_, _, _, _, rfl⟩
  · exact free_eqBool ⟨_, _, _, rfl⟩
  · exact free_eqNil ⟨_, _, _, _, rfl⟩
  · exact free_un ⟨_, _, rfl⟩
  · exact free_convInt ⟨_, _, rfl⟩
  · exact free_convId ⟨_, rfl⟩
  · exact free_convChar ⟨_, rfl⟩
  · exact free_makeFunc ⟨_, _, _, rfl⟩
  · exact free_sliceStr ⟨_, _, _, rfl⟩
  · exact free_sliceSl ⟨_, _, _, _, rfl⟩
  · exact free_fieldAddr ⟨_, _, rfl⟩
  · exact free_field ⟨_, _, _, rfl⟩
  · exact free_indexArr ⟨_, _, _, _, rfl⟩
  · exact free_indexSl ⟨_, _, _, rfl⟩
  · exact free_charAt ⟨_, _, rfl⟩
  · exact free_extract ⟨_, _, rfl⟩
  · exact free_lenStr ⟨_, rfl⟩
  · exact free_lenSl ⟨_, rfl⟩
  · exact free_min ⟨_, _, rfl⟩

end Go.AM
namespace Go.AM
open Go.RowKit
variable {σ τ : St} {env : Env} {v : AV}

/-- It adds one object, which does not hang on the state but for its number. -/
theorem new_adds {p : AOp} (h : cls p = .new) (ho : op p env σ = some (v, τ)) : ∃ x, τ = σ.add x ∧ ∀ σ', σ'.next = σ.next → op p env σ' = some (v, σ'.add x) := by
  cases p <;> simp only [cls] at h <;> first
    | (exact absurd h (by decide))
    | skip
  case box x =>
    have h' : op_box x env σ = some (v, τ) := ho
    unfold op_box at h'
    cases hk : known (x.eval env) with
    | false => rw [hk] at h'; cases h'
    | true =>
      rw [hk] at h'; cases h'
      exact ⟨_, rfl, fun σ' hn => by show op_box x env σ' = _; unfold op_box; rw [hk, hn]; rfl⟩
  case alloc z => cases ho; exact ⟨_, rfl, fun σ' hn => by show op_alloc z env σ' = _; unfold op_alloc; rw [hn]⟩
  case buildSlice sz len z ps hs =>
    cases hs with
    | false => exact absurd h (by decide)
    | true =>
      have h' : op_buildSlice sz len z ps true env σ = some (v, τ) := ho
      unfold op_buildSlice at h'
      cases hk : setElems env sz ps (rep len z) with
      | none => rw [hk] at h'; cases h'
      | some es =>
        rw [hk] at h'; cases h'
        exact ⟨_, rfl, fun σ' hn => by show op_buildSlice sz len z ps true env σ' = _; unfold op_buildSlice; rw [hk, hn]; rfl⟩
  case makeMap ks => cases ho; exact ⟨_, rfl, fun σ' hn => by show op_makeMap ks env σ' = _; unfold op_makeMap; rw [hn]⟩
  case makeSlice sz b z x y =>
    have h' : op_makeSlice sz b z x y env σ = some (v, τ) := ho
    unfold op_makeSlice at h'
    cases hp : (x.eval env).int? with
    | none => rw [hp] at h'; cases h'
    | some l0 =>
      rw [hp] at h'; simp only at h'
      cases hq : (y.eval env).int? with
      | none => rw [hq] at h'; cases h'
      | some c =>
        rw [hq] at h'; simp only at h'
        cases hn : natI l0 with
        | none => rw [hn] at h'; cases h'
        | some l =>
          rw [hn] at h'; simp only at h'
          cases hb : (eqI c l && Nat.ble (l * b) most && Nat.ble (l * sz) most) with
          | false => rw [hb] at h'; cases h'
          | true =>
            rw [hb] at h'; cases h'
            exact ⟨_, rfl, fun σ' hn' => by show op_makeSlice sz b z x y env σ' = _; unfold op_makeSlice; simp only [hp, hq, hn, hb, hn']; rfl⟩
  case rangeStr x =>
    have h' : op_rangeStr x env σ = some (v, τ) := ho
    unfold op_rangeStr at h'
    cases hk : (x.eval env).str? with
    | none => rw [hk] at h'; cases h'
    | some s =>
      rw [hk] at h'; cases h'
      exact ⟨_, rfl, fun σ' hn => by show op_rangeStr x env σ' = _; unfold op_rangeStr; rw [hk, hn]⟩
  case mapLit ks ps =>
    have h' : op_mapLit ks ps env σ = some (v, τ) := ho
    unfold op_mapLit at h'
    cases hk : litOk env ps with
    | false => rw [hk] at h'; cases h'
    | true =>
      rw [hk] at h'; cases h'
      exact ⟨_, rfl, fun σ' hn => by show op_mapLit ks ps env σ' = _; unfold op_mapLit; rw [hk, hn]; rfl⟩

end Go.AM
