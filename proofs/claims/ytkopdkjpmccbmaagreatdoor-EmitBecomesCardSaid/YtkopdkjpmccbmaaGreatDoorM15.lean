/- A part of the proof of: EmitBecomes: what a term becomes by patterns, and a pattern's name, is what the document says, or the error is told. -/
import Derived.Test.YtkopdkjpmccbmaaGreatDoorM11
import Derived.DefersIn
import Derived.Test.YtkopdkjpmccbmaaGreatDoorM14
namespace Go.AM
open Go.RowKit
variable {P : Program} {cfg : Cfg} {C D : Ctx} {σ τ : St} {w : World} {env env' : Env} {a : Act} {v : AV} {ds ds' : List ADef} {cl : CallF} {r : Option Nat}

/-- A function that is called as it was deferred. -/
theorem enterD_sound {fid n : Nat} {fn : Func} {c : Code} {fd : AFunc} (hcl : ClOk P cfg cl) (hfn : P.funcs[fid]? = some fn) (hb : fn.body = some c) (hc : compFunc P cfg fid fn = some fd)
    (hs : ∀ s : Self, CodeSound P cfg none s c (comp P cfg s c)) {args : List AV} (h : enterD cl n fd args σ = some (v, τ))
    {cargs : Array Value} (hI : Inv P cfg C σ w) (ha : VRs C args cargs) (hf : Fresh C σ.next τ.next) (u0 : FrameMode) :
    CallsDIn (FR none) 0 P fid cargs u0 w fun e u' w' => u' = u0 ∧ CRet P cfg C σ w v τ e w' := by
  unfold compFunc at hc
  rw [hb] at hc
  cases hrs : resultsT P fn.results.toList with
  | none => rw [hrs] at hc; cases hc
  | some rs =>
    rw [hrs] at hc; simp only [Option.some.injEq] at hc
    subst hc
    unfold enterD at h
    simp only at h
    generalize hX : (needsOf (comp P cfg ⟨fid, fn.ntmps, List.range (fn.params.size + fn.nfree) ++ paramsOf c⟩ c) ++ rs.map (·.1) ++ (List.range (fn.params.size + fn.nfree) ++ paramsOf c)).eraseDups = X at h
    generalize hA : (bif !cfg.keepArgs.contains fid then args.map stripVal else args) = args' at h
    have ha' : VRs C args' cargs := by
      subst hA
      cases (!cfg.keepArgs.contains fid) with
      | true => exact ha.strips
      | false => exact ha
    have hlen : args'.length = args.length := by subst hA; cases (!cfg.keepArgs.contains fid) <;> simp
    cases hle : Nat.ble args.length (fn.params.size + fn.nfree) with
    | false => rw [hle] at h; cases h
    | true =>
      rw [hle, cond_true] at h
      have hle := Nat.le_of_ble_eq_true hle
      cases hcode : code (comp P cfg ⟨fid, fn.ntmps, X⟩ c) cl n ⟨numbered args' 0, []⟩ σ with
      | none => rw [hcode] at h; cases h
      | some q =>
        obtain ⟨x, ⟨env', ds'⟩, σ'⟩ := q
        rw [hcode] at h; simp only at h
        have henv : EnvR C (numbered args' 0) (cargs ++ Array.replicate (fn.ntmps - cargs.size) undef) := fun i => by
          rw [aget_numbered, if_pos (Nat.zero_le _), Nat.sub_zero]
          cases hi : args'[i]? with
          | none => exact .junk _
          | some c0 =>
            obtain ⟨u, hu, hr⟩ := ha'.get hi
            have hlt : i < cargs.size := (Array.getElem?_eq_some_iff.1 hu).1
            rw [Option.getD_some, Array.getD_eq_getD_getElem?, Array.getElem?_append_left hlt, hu]; exact hr
        have hin : EnvIn X (numbered args' 0) := fun i hi => by
          rw [aget_numbered, if_pos (Nat.zero_le _), Nat.sub_zero] at hi
          cases hh : args'[i]? with
          | none => rw [hh] at hi; exact absurd rfl hi
          | some c0 =>
            have hlt := (List.getElem?_eq_some_iff.1 hh).1
            rw [← hX, List.mem_eraseDups]
            refine List.mem_append_right _ (List.mem_append_left _ (List.mem_range.2 (by omega)))
        cases ds' with
        | cons d ds' => cases x <;> cases h
        | nil =>
          have fin : (match readResults env' σ' rs with
              | some _ => some (.junk, σ'.gc (if cfg.gc0.contains fid then 0 else if cfg.gc1.contains fid then 1 else 2) σ.next)
              | none => none) = some (v, τ) → (x = .normal ∨ x = .ret) → CallsDIn (FR none) 0 P fid cargs u0 w fun e u' w' => u' = u0 ∧ CRet P cfg C σ w v τ e w' := by
            intro h hx
            cases hrr : readResults env' σ' rs with
            | none => rw [hrr] at h; cases h
            | some vs =>
              rw [hrr] at h; simp only [Option.some.injEq, Prod.mk.injEq] at h
              obtain ⟨hv, hτ⟩ := h
              have hnn : σ'.next = τ.next := by rw [← hτ]; unfold St.gc; split <;> rfl
              have hf' : Fresh C σ.next σ'.next := by rw [hnn]; exact hf
              refine callsDIn_of_wp hfn hb trivial ?_
              refine hs ⟨fid, fn.ntmps, X⟩ cl hcl n (numbered args' 0) [] σ x env' [] σ' C w { tmps := cargs ++ Array.replicate (fn.ntmps - cargs.size) undef, defers := [] } _ hcode hI henv hin .nil (by simp; omega) hf' (.inl rfl) fun D a' w' hE hI' he' hx' hd' hs' => ?_
              obtain ⟨u, k1, k2⟩ := results_sound hI' he' hrs hrr
              obtain ⟨g1, g2⟩ := hI'.gc (if cfg.gc0.contains fid then 0 else if cfg.gc1.contains fid then 1 else 2) σ.next
              have hde : a'.defers = [] := by generalize a'.defers = dd at hd'; cases hd'; rfl
              have hR : CRet P cfg C σ w v τ (.returned u) w' := ⟨u, rfl, D, hτ ▸ hE.trans g2, hτ ▸ g1, by rw [← hv]; exact .junk _⟩
              rcases hx with rfl | rfl
              · exact ⟨hde, u, k1, hR⟩
              · exact ⟨hde, u, k1, hR⟩
          cases x with
          | exit i => cases h
          | normal => exact fin h (.inl rfl)
          | ret => exact fin h (.inr rfl)

end Go.AM
namespace Go.AM
open Go.RowKit
variable {P : Program} {cfg : Cfg} {C D : Ctx} {σ τ : St} {w : World} {env env' : Env} {a : Act} {v : AV} {ds ds' : List ADef} {cl : CallF} {r : Option Nat}

/-- An object goes, and what lay in its block becomes another. -/
theorem del_put (hI : Inv P cfg C σ w) {o b : Nat} {ob : AObj} {x y : Obj} (hg : σ.get o = some ob) (hb : objB C o ob = some b) (hx : w.heap[b]? = some x) (hn : ∀ c e f, x ≠ .cells c e f) :
    Inv P cfg C (σ.del o) (World.putObj w b y) ∧ Ev C σ w C (σ.del o) (World.putObj w b y) := by
  obtain ⟨s1, s2⟩ := MapKept.heap_set (w := w) (o' := y) hx
  obtain ⟨k1, k2⟩ := hI.del o
  have hno : ¬Owned C (σ.del o) b := fun ⟨i, oi, hi, hbi⟩ => by
    have hi' : hget (hdel σ.heap o) i = some oi := hi
    rw [hget_hdel hI.falls] at hi'
    split at hi'
    · cases hi'
    · rename_i hne
      exact hne (hI.inj o i ob oi b hg hi' hb hbi)
  have hlies : ∀ b' x' u, C.S b' x' = some u → (World.putObj w b y).cell? ⟨b', x', none⟩ = some u := fun b' x' u hxs => by
    have h0 := hI.lies b' x' u hxs
    by_cases e : b' = b
    · subst e
      exfalso
      cases x <;> first
        | exact absurd rfl (hn _ _ _)
        | simp [World.cell?, hx] at h0
    · rw [← h0]; exact World.cell?_of_block (s2 b' e)
  refine hI.of ⟨⟨hlies, k1.falls, k1.next, fun i oi hi => (k1.obj i oi hi).stable (.refl C) (fun b' hb' => ⟨s2 b' (fun e => hno ⟨i, oi, hi, e ▸ hb'⟩), fun x u h => h⟩) (fun _ => rfl), k1.inj⟩,
    ⟨.refl C, k2.next, by simp [World.putObj], rfl, rfl, rfl, fun b' hb' hno' => s2 b' (fun e => hno' ⟨o, ob, hg, by subst e; exact hb⟩), fun b' hb' h => k2.own b' hb' h, fun _ _ _ _ _ h => h, fun i h => absurd rfl h, fun i g h => absurd rfl h, k2.dom⟩⟩

theorem run_getLoop {b : Nat} {L : Loop} (hb : w.heap[b]? = some (.loop L)) : (Instr.getLoop b).run P w = .ok L w := by
  have hg : (getObj b).run P w = .ok (.loop L) w := by simp [getObj, Sem.run, hb]
  simp only [Instr.getLoop, Sem.run_bind, hg, Result.andThen_ok, Sem.run_pure]

theorem run_endLoop {b : Nat} {L : Loop} (hb : w.heap[b]? = some (.loop L)) (hs : L.state ≠ .busy) : (Instr.endLoop b).run P w = .ok L.pending (World.putObj w b (.loop { L with state := .exhausted })) := by
  have hbeq : (L.state == LoopState.busy) = false := by
    cases h : L.state <;> first | rfl | exact absurd h hs
  simp only [Instr.endLoop, Sem.run_bind, run_getLoop hb, Result.andThen_ok, hbeq, run_setObj' _ hb (by simp), Sem.run_pure, Bool.false_eq_true, if_false]
theorem run_beginRound {b : Nat} {L : Loop} (hb : w.heap[b]? = some (.loop L)) (hs : L.state = .ready) : (Instr.beginRound b).run P w = .ok () (World.putObj w b (.loop { L with state := .busy })) := by
  simp only [Instr.beginRound, Sem.run_bind, run_getLoop hb, Result.andThen_ok, run_setObj' _ hb (by simp), hs, Sem.run_pure]
theorem run_endRound {b : Nat} {L : Loop} (hb : w.heap[b]? = some (.loop L)) (j : Option Code) :
    (Instr.endRound b j).run P w = .ok (.bool j.isNone) (World.putObj w b (.loop { L with state := if j.isNone then .ready else .done, pending := j })) := by
  simp only [Instr.endRound, Sem.run_bind, run_getLoop hb, Result.andThen_ok, run_setObj' _ hb (by simp), Sem.run_pure]
theorem run_yield {b : Nat} {L : Loop} (hb : w.heap[b]? = some (.loop L)) {args : Array Value} (hn : args.size = L.params.size) :
    (Instr.yield b args).run P w = .ok (.round b L.fn ((L.params.zip args).foldl (fun tmps (t, a) => tmps.setIfInBounds t a) L.tmps) L.assign L.body) w := by
  simp only [Instr.yield, Sem.run_bind, run_getLoop hb, Result.andThen_ok, hn, ne_eq, not_true_eq_false, if_false, Sem.run_pure]

/-- A loop's record changes. -/
theorem change_loop (hI : Inv P cfg C σ w) {id b : Nat} {st : LState} {j : Option Jump} {tm : Env} {ps : List Nat} {as body : ACode} (hg : σ.get id = some (.loop st j tm ps as body)) (hκ : C.κ id = some (.blk b)) :
    ∃ L, w.heap[b]? = some (.loop L) ∧ LoopR P cfg C st j tm ps as body L ∧ ∀ (st' : LState) (j' : Option Jump) (L' : Loop), L' = { L with state := st'.to, pending := j'.map Jump.to } →
      Inv P cfg C (σ.set id (.loop st' j' tm ps as body)) (World.putObj w b (.loop L')) ∧ Ev C σ w C (σ.set id (.loop st' j' tm ps as body)) (World.putObj w b (.loop L')) := by
  obtain ⟨b', L, h1, h2, h3⟩ := hI.obj _ _ hg
  rw [hκ] at h1; cases h1
  refine ⟨L, h2, h3, fun st' j' L' hL => ?_⟩
  subst hL
  obtain ⟨s1, s2⟩ := MapKept.heap_set (w := w) (o' := .loop { L with state := st'.to, pending := j'.map Jump.to }) h2
  refine hI.change (.refl C) hg (b := b) (by simp [objB, hκ]) (by simp [objB, hκ]) (fun _ => rfl) (fun _ _ _ => rfl) (fun _ _ _ _ h => h) (by simp [World.putObj]) rfl rfl rfl (fun b' hb' => s2 b' hb') (fun x u hx => ?_) ⟨b, _, hκ, s1, ⟨rfl, rfl, h3.env, h3.params, h3.code⟩⟩
  have := hI.lies b x u hx
  simp [World.cell?, h2] at this

/-- A call that enters a function. -/
theorem call_enters (hcl : ClOk P cfg cl) (hI : Inv P cfg C σ w) {b : AV} {u : Value} (hu : VR C b u) {as : List AV} {av : Array Value} (ha : VRs C as av) {c : Nat} {args : List AV} (hc : callee b as = some (.fn c, args)) (h : cl (.fn c) args σ = some (v, τ)) (hf : Fresh C σ.next τ.next) :
    ∃ d n cargs, (Deferred.ofValue u av).run P w = .ok d w ∧ (invoke d.target d.args).run P w = .ok (.enter n cargs) w ∧ Calls P n cargs w (CRet P cfg C σ w v τ) := by
  obtain ⟨f, first, caps, hfn, hcf⟩ := callee_some hc
  rcases fnR_inv hu hfn with ⟨fv, cv, rfl, hny, v1, v2⟩ | ⟨l, bb, rfl, rfl, rfl, rfl, hκ⟩
  · cases f <;> simp only [calleeFn] at hcf <;> first | (cases hcf; done) | skip
    · rename_i n
      cases hcf
      obtain ⟨k1, k2⟩ := hcl.fn c _ σ v τ h C w _ hI ((v1.append ha).append v2) hf
      exact ⟨{ target := .fn (.func c) cv, args := fv ++ av }, c, fv ++ av ++ cv, rfl, k1, k2⟩
    · exact absurd rfl (hny _)
  · simp only [calleeFn] at hcf
    cases hcf

/-- A range over a function. -/
theorem rangeFunc_sound {s : Self} {g : Operand} {g' : Opd} {ps : Array Tmp} {ca cb : Code} (ho : opd g = some g') (hp : (ps.toList.all fun p => decide (p < s.N) && s.X.contains p) = true) :
    CodeSound P cfg r s (.rangeFunc g ps ca cb) (.rangeFunc g' ps.toList (comp P cfg s ca) (comp P cfg s cb)) := by
  intro cl hcl n env ds σ x env' ds' τ C w a Q h hI he hx hd hN hf hr hQ
  have h' : codeRange g' ps.toList (comp P cfg s ca) (comp P cfg s cb) cl n ⟨env, ds⟩ σ = some (x, ⟨env', ds'⟩, τ) := h
  unfold codeRange at h'
  simp only at h'
  cases hc : callee (g'.eval env) [.fn (.yield (σ.next + 1)) [] []] with
  | none => rw [hc] at h'; cases h'
  | some q =>
    obtain ⟨c0, args⟩ := q
    rw [hc] at h'
    cases c0 with
    | yield l => cases h'
    | dfn l => cases h'
    | fn c =>
      simp only at h'
      cases hcv : cl (.fn c) args ((σ.add .defs).add (.loop .ready none env ps.toList (comp P cfg s ca) (comp P cfg s cb))) with
      | none => rw [hcv] at h'; cases h'
      | some q =>
        obtain ⟨v1, σ₃⟩ := q
        rw [hcv] at h'; simp only at h'
        cases hget : σ₃.get (σ.next + 1) with
        | none => rw [hget] at h'; cases h'
        | some ob =>
          rw [hget] at h'
          cases ob with
          | loop st j tm2 ps2 as2 body2 =>
            simp only at h'
            split at h'
            · cases h'
            · rename_i hst
              cases h'
              have hr : r = none := by
                rcases hr with h | h
                · exact h
                · have := congrArg List.length h; simp at this
              subst hr
              have hnx := hcl.next _ _ _ _ _ hcv
              have hnx' : σ.next + 2 ≤ σ₃.next := hnx
              refine wpIn_rangeFunc fun fn _ => ?_
              obtain ⟨i1, e1⟩ := new_obj (ob := .deferred (some [])) (x := .defs) (l := .blk w.heap.size) hI (hf.sub (Nat.le_refl _) (by show σ.next + 1 ≤ σ₃.next; omega)) ⟨w.heap.size, Ctx.at_self _ _ _, heap_new _ _⟩ (by simp [objB])
              have hsz : (w.alloc (.deferred (some []))).heap.size = w.heap.size + 1 := by show (w.heap.push _).size = _; simp
              have hf1 : Fresh (C.at_ σ.next (.blk w.heap.size)) (σ.add .defs).next ((σ.add .defs).next + 1) := (hf.after e1).sub (Nat.le_refl _) (by show σ.next + 1 + 1 ≤ σ₃.next; omega)
              obtain ⟨i2, e2⟩ := new_obj (ob := .loop { state := .ready, pending := none, fn, tmps := a.tmps, params := ps, assign := ca, body := cb, defers := w.heap.size })
                (x := .loop .ready none env ps.toList (comp P cfg s ca) (comp P cfg s cb)) (l := .blk (w.alloc (.deferred (some []))).heap.size) i1 hf1
                ⟨_, _, Ctx.at_self _ _ _, heap_new _ _, rfl, rfl, (he.mono e1.le).mono (Ctx.at_le (fresh_one hf1).1 _), rfl, s, rfl, rfl, hN, hx, fun p hpm => by
                  rw [List.all_eq_true] at hp
                  have := hp p hpm
                  simpa using this⟩ (by simp [objB])
              have e12 := e1.trans e2
              have hu := opd_VR ho (he.mono e12.le)
              have hy : VR ((C.at_ σ.next (.blk w.heap.size)).at_ (σ.add .defs).next (.blk (w.alloc (.deferred (some []))).heap.size)) (.fn (.yield (σ.next + 1)) [] []) (.func (.yield (w.alloc (.deferred (some []))).heap.size) #[] #[]) := .yield _ _ (Ctx.at_self _ _ _)
              obtain ⟨d, f, cargs, k1, k2, k3⟩ := call_enters hcl i2 hu (VRs.one hy) hc hcv (hf.after e12)
              refine ⟨(w.alloc (.deferred (some []))).heap.size, [{ target := .collected w.heap.size, args := #[] }], _, d, _, f, cargs, _, rfl, ?_, fun _ _ => trivial, k2, fun h => absurd h (by simp [FR, Fence.wide]), (callsIn_FR k3).mono ?_⟩
              · have em : (#[Operand.const (.func (.yield (w.alloc (.deferred (some []))).heap.size) #[] #[])] : Array Operand).map a.eval = #[.func (.yield (w.alloc (.deferred (some []))).heap.size) #[] #[]] := by simp [Act.eval]
                simp only [resolve]
                erw [em]
                exact k1
              · rintro e w₃ ⟨u, rfl, D3, e3, i3, _⟩
                have hκ3 : D3.κ (σ.next + 1) = some (.blk (w.alloc (.deferred (some []))).heap.size) := e3.le.κ _ _ (Ctx.at_self _ _ _)
                obtain ⟨b, L, q1, q2, q3⟩ := i3.obj _ _ hget
                rw [hκ3] at q1; cases q1
                have hsb : L.state ≠ .busy := by
                  rw [q3.st]
                  intro hh
                  cases st <;> first | exact hst rfl | (cases hh)
                refine ⟨j.map Jump.to, _, by rw [← q3.jump]; exact run_endLoop q2 hsb, ?_⟩
                obtain ⟨i4, e4⟩ := del_put (y := .loop { L with state := .exhausted }) i3 hget (show objB D3 (σ.next + 1) _ = some (w.alloc (.deferred (some []))).heap.size by simp [objB, hκ3]) q2 (by simp)
                have eall := (e12.trans e3).trans e4
                have hk : D3.κ σ.next = some (.blk w.heap.size) := (e2.le.trans e3.le).κ _ _ (Ctx.at_self _ _ _)
                have fin := hQ D3 { a with defers := [{ target := .collected w.heap.size, args := #[] }] ++ a.defers } (World.putObj w₃ (w.alloc (.deferred (some []))).heap.size (.loop { L with state := .exhausted })) eall i4 (he.mono eall.le) hx (.cons (.mark _ _ hk) (hd.mono eall.le)) rfl
                cases j with
                | none => exact fin
                | some jj =>
                  cases jj with
                  | ret => exact wpIn_ret fin
                  | exit i => exact wpIn_exit fin
          | _ => cases h'

theorem rangeFunc_next {g' : Opd} {ps : List Nat} {as body : ACode} : Nexts (.rangeFunc g' ps as body) := by
  intro P cfg cl hcl n env ds σ x env' ds' τ h
  have h' : codeRange g' ps as body cl n ⟨env, ds⟩ σ = some (x, ⟨env', ds'⟩, τ) := h
  unfold codeRange at h'
  simp only at h'
  cases hc : callee (g'.eval env) [.fn (.yield (σ.next + 1)) [] []] with
  | none => rw [hc] at h'; cases h'
  | some q =>
    obtain ⟨c0, args⟩ := q
    rw [hc] at h'
    cases c0 with
    | yield l => cases h'
    | dfn l => cases h'
    | fn c =>
      simp only at h'
      cases hcv : cl (.fn c) args ((σ.add .defs).add (.loop .ready none env ps as body)) with
      | none => rw [hcv] at h'; cases h'
      | some q =>
        obtain ⟨v1, σ₃⟩ := q
        rw [hcv] at h'; simp only at h'
        have hnx := hcl.next _ _ _ _ _ hcv
        have hnx' : σ.next + 2 ≤ σ₃.next := hnx
        cases hget : σ₃.get (σ.next + 1) with
        | none => rw [hget] at h'; cases h'
        | some ob =>
          rw [hget] at h'
          cases ob with
          | loop st j tm2 ps2 as2 body2 =>
            simp only at h'
            split at h'
            · cases h'
            · cases h'
              exact ⟨by show σ.next ≤ σ₃.next; omega, List.suffix_cons _ _⟩
          | _ => cases h'

end Go.AM
namespace Go.AM
open Go.RowKit
variable {P : Program} {cfg : Cfg} {C D : Ctx} {σ τ : St} {w : World} {env env' : Env} {a : Act} {v : AV} {ds ds' : List ADef} {cl : CallF} {r : Option Nat}

theorem putAll_R : ∀ (ps : List Nat) (args : List AV) (us : List Value) (tm : Env) (tmps : Array Value), EnvR C tm tmps → args.length = us.length → (∀ (i : Nat) (c : AV) (u : Value), args[i]? = some c → us[i]? = some u → VR C c u) → (∀ p ∈ ps, p < tmps.size) →
    EnvR C (putAll tm ps args) ((ps.zip us).foldl (fun tmps x => tmps.setIfInBounds x.1 x.2) tmps) ∧ ((ps.zip us).foldl (fun tmps x => tmps.setIfInBounds x.1 x.2) tmps).size = tmps.size := by
  intro ps
  induction ps with
  | nil => intro args us tm tmps h _ _ _; exact ⟨by simpa [putAll] using h, rfl⟩
  | cons p ps ih =>
    intro args us tm tmps h hl hv hp
    cases args with
    | nil =>
      have : us = [] := List.eq_nil_of_length_eq_zero hl.symm
      subst this
      exact ⟨by simpa [putAll] using h, rfl⟩
    | cons x args =>
      cases us with
      | nil => cases hl
      | cons u us =>
        have hpl := hp p (by simp)
        have h1 : EnvR C (upd tm p x) (tmps.setIfInBounds p u) := fun i => by
          rw [aget_upd]
          split
          · rename_i e; subst e
            rw [Array.getD_eq_getD_getElem?, Array.getElem?_setIfInBounds_self_of_lt hpl]
            exact hv 0 x u rfl rfl
          · rename_i e
            rw [Array.getD_eq_getD_getElem?, Array.getElem?_setIfInBounds_ne e, ← Array.getD_eq_getD_getElem?]
            exact h i
        obtain ⟨k1, k2⟩ := ih args us (upd tm p x) (tmps.setIfInBounds p u) h1 (by simpa using hl) (fun i c u' hc hu => hv (i + 1) c u' (by simpa using hc) (by simpa using hu)) (fun q hq => by simpa using hp q (by simp [hq]))
        exact ⟨k1, by rw [List.zip_cons_cons, List.foldl_cons, k2]; simp⟩

theorem putAll_in {X : List Nat} : ∀ (ps : List Nat) (args : List AV) (tm : Env), EnvIn X tm → (∀ p ∈ ps, p ∈ X) → EnvIn X (putAll tm ps args) := by
  intro ps
  induction ps with
  | nil => intro args tm h _; simpa [putAll] using h
  | cons p ps ih =>
    intro args tm h hp
    cases args with
    | nil => simpa [putAll] using h
    | cons x args =>
      refine ih args (upd tm p x) (fun i hi => ?_) (fun q hq => hp q (by simp [hq]))
      rw [aget_upd] at hi
      split at hi
      · rename_i e; subst e; exact hp p (by simp)
      · exact h i hi

/-- One round. -/
theorem round_sound (hcl : ClOk P cfg cl) (hs : ∀ (r : Option Nat) (s : Self) (c : Code), CodeSound P cfg r s c (comp P cfg s c)) (hn : ∀ (s : Self) (c : Code), Nexts (comp P cfg s c))
    {n l b : Nat} {args : List AV} {cargs : Array Value} (h : round cl n l args σ = some (v, τ)) (hκ : C.κ l = some (.blk b)) (hI : Inv P cfg C σ w) (ha : VRs C args cargs) (hf : Fresh C σ.next τ.next) :
    ∃ f tmps assign body w₁, (Instr.yield b cargs).run P w = .ok (.round b f tmps assign body) w₁ ∧ ∀ r, RoundIn (FR r) 0 P b f tmps assign body w₁ (CRet P cfg C σ w v τ) := by
  unfold round at h
  cases hg : σ.get l with
  | none => rw [hg] at h; cases h
  | some ob =>
    rw [hg] at h
    cases ob with
    | loop st0 j0 tm ps as body =>
      simp only at h
      split at h
      · cases h
      · rename_i hlen
        have hlen : args.length = ps.length := by simpa using hlen
        cases hc1 : code as cl n ⟨putAll tm ps args, []⟩ σ with
        | none => rw [hc1] at h; cases h
        | some q =>
          obtain ⟨x1, ⟨env1, ds1⟩, σ1⟩ := q
          rw [hc1] at h
          cases x1 with
          | exit i => cases h
          | ret => cases h
          | normal =>
            simp only at h
            cases hg1 : σ1.get l with
            | none => rw [hg1] at h; cases h
            | some ob1 =>
              rw [hg1] at h
              cases ob1 with
              | loop st1 j1 tm1 ps1 as1 body1 =>
                cases st1 with
                | busy => cases h
                | done => cases h
                | gone => cases h
                | ready =>
                  simp only at h
                  cases hc2 : code body cl n ⟨env1, ds1⟩ (σ1.set l (.loop .busy j1 tm1 ps1 as1 body1)) with
                  | none => rw [hc2] at h; cases h
                  | some q =>
                    obtain ⟨x, ⟨env2, ds2⟩, σ2⟩ := q
                    rw [hc2] at h; simp only at h
                    cases ds2 with
                    | cons d ds2 => cases h
                    | nil =>
                      simp only [List.isEmpty_nil, Bool.not_true, Bool.false_eq_true, if_false] at h
                      cases hg2 : σ2.get l with
                      | none => rw [hg2] at h; cases h
                      | some ob2 =>
                        rw [hg2] at h
                        cases ob2 with
                        | loop st2 j2 tm2 ps2 as2 body2 =>
                          simp only [Option.some.injEq, Prod.mk.injEq] at h
                          obtain ⟨hv, hτ⟩ := h
                          obtain ⟨L, q1, q2, _⟩ := change_loop hI hg hκ
                          obtain ⟨s, a1, a2, a3, a4, a5⟩ := q2.code
                          subst a1; subst a2
                          have hps : L.params.toList = ps := q2.params
                          have hsz : cargs.size = L.params.size := by
                            rw [← ha.1, hlen, ← hps]; simp
                          obtain ⟨n1, m1⟩ := hn s L.assign P cfg cl hcl n _ _ _ _ _ _ _ hc1
                          obtain ⟨n2, m2⟩ := hn s L.body P cfg cl hcl n _ _ _ _ _ _ _ hc2
                          have hd1 : ds1 = [] := by
                            have := m2.length_le
                            exact List.eq_nil_of_length_eq_zero (by simpa using this)
                          subst hd1
                          have nτ : τ.next = σ2.next := by rw [← hτ]; rfl
                          have n2' : σ1.next ≤ σ2.next := n2
                          refine ⟨_, _, _, _, _, run_yield q1 hsz, fun r => roundIn_of_wpIn trivial ?_⟩
                          obtain ⟨p1, p2⟩ := putAll_R (C := C) ps args cargs.toList tm L.tmps q2.env (by simpa using ha.1) (fun i c u hc hu => ha.2 i c u hc (by simpa using hu)) (fun p hp => by have := (a5 p hp).1; omega)
                          have efold : ((L.params.zip cargs).foldl (fun tmps (x : Tmp × Value) => tmps.setIfInBounds x.1 x.2) L.tmps) = (ps.zip cargs.toList).foldl (fun tmps x => tmps.setIfInBounds x.1 x.2) L.tmps := by
                            rw [← Array.foldl_toList, Array.toList_zip, hps]
                          have p1' : EnvR C (putAll tm ps args) ((L.params.zip cargs).foldl (fun tmps (x : Tmp × Value) => tmps.setIfInBounds x.1 x.2) L.tmps) := by rw [efold]; exact p1
                          have p2' : ((L.params.zip cargs).foldl (fun tmps (x : Tmp × Value) => tmps.setIfInBounds x.1 x.2) L.tmps).size = L.tmps.size := by rw [efold]; exact p2
                          show L.assign.wpIn (FR (some b)) 0 P _ _ _
                          refine hs (some b) s L.assign cl hcl n _ [] σ .normal env1 [] σ1 C w { tmps := _, defers := [] } _ hc1 hI p1' (putAll_in ps args tm a4 (fun p hp => (a5 p hp).2)) .nil (by show s.N ≤ Array.size _; rw [p2']; exact a3) (hf.sub (Nat.le_refl _) (by omega)) (.inr rfl) fun D1 c1 w1 e1 i1 r1 x1 d1 z1 => ?_
                          have hκ1 : D1.κ l = some (.blk b) := e1.le.κ _ _ hκ
                          obtain ⟨L1, g1, g2, g3⟩ := change_loop i1 hg1 hκ1
                          obtain ⟨i1', e1'⟩ := g3 .busy j1 { L1 with state := .busy } (by rw [← g2.jump]; rfl)
                          refine ⟨_, run_beginRound g1 g2.st, ?_⟩
                          show L.body.wpIn (FR (some b)) 0 P _ _ _
                          have z1' : c1.tmps.size = L.tmps.size := z1.trans p2'
                          refine hs (some b) s L.body cl hcl n env1 [] _ x env2 [] σ2 D1 _ c1 _ hc2 i1' r1 x1 d1 (by rw [z1']; exact a3) ((hf.after (e1.trans e1')).sub (Nat.le_refl _) (by omega)) (.inr rfl) fun D2 c2 w2 e2 i2 r2 x2 d2 z2 => ?_
                          have hκ2 : D2.κ l = some (.blk b) := e2.le.κ _ _ hκ1
                          obtain ⟨L2, f1, f2, f3⟩ := change_loop i2 hg2 hκ2
                          have fin : ∀ (jj : Option Jump), Ex.jump x = jj → ∃ u w4, (Instr.endRound b (jj.map Jump.to)).run P w2 = .ok u w4 ∧ CRet P cfg C σ w v τ (.returned u) w4 := by
                            intro jj hjj
                            obtain ⟨i3, e3⟩ := f3 (if jj.isNone then .ready else .done) jj { L2 with state := if (jj.map Jump.to).isNone then .ready else .done, pending := jj.map Jump.to } (by cases jj <;> rfl)
                            refine ⟨_, _, run_endRound f1 _, _, rfl, D2, ?_, ?_, ?_⟩
                            · rw [← hτ, hjj]
                              exact ((e1.trans e1').trans e2).trans e3
                            · rw [← hτ, hjj]; exact i3
                            · rw [← hv, hjj]
                              have : (jj.map Jump.to).isNone = jj.isNone := by cases jj <;> rfl
                              rw [this]; exact .bool _
                          cases x with
                          | normal => exact fin none rfl
                          | ret => exact fin (some .ret) rfl
                          | exit i => exact fin (some (.exit i)) rfl
                        | _ => cases h
              | _ => cases h
    | _ => cases h

end Go.AM
namespace Go.AM
open Go.RowKit
variable {P : Program} {cfg : Cfg} {C D : Ctx} {σ τ : St} {w : World} {env env' : Env} {a : Act} {v : AV} {ds ds' : List ADef} {cl : CallF} {r : Option Nat}

theorem cond_next {c : Opd} {ac ad : ACode} (n1 : Nexts ac) (n2 : Nexts ad) : Nexts (.cond c ac ad) := by
  intro P cfg cl hcl n env ds σ x env' ds' τ h
  have h' : codeCond c (code ac) (code ad) cl n ⟨env, ds⟩ σ = some (x, ⟨env', ds'⟩, τ) := h
  unfold codeCond at h'
  cases hb : (c.eval env).bool? with
  | none => simp only [hb] at h'; cases h'
  | some t =>
    simp only [hb] at h'
    cases t with
    | true => exact n1 P cfg cl hcl n env ds σ x env' ds' τ h'
    | false => exact n2 P cfg cl hcl n env ds σ x env' ds' τ h'
theorem block_next {id : Nat} {ac : ACode} (n1 : Nexts ac) : Nexts (.block id ac) := by
  intro P cfg cl hcl n env ds σ x env' ds' τ h
  have h' : codeBlock id (code ac) cl n ⟨env, ds⟩ σ = some (x, ⟨env', ds'⟩, τ) := h
  unfold codeBlock at h'
  cases hc : code ac cl n ⟨env, ds⟩ σ with
  | none => rw [hc] at h'; cases h'
  | some q =>
    obtain ⟨x1, ⟨e1, d1⟩, s1⟩ := q
    rw [hc] at h'; simp only at h'
    have := n1 P cfg cl hcl n env ds σ x1 e1 d1 s1 hc
    cases x1 <;> (simp only [Option.some.injEq, Prod.mk.injEq] at h'; obtain ⟨_, h2, rfl⟩ := h'; cases h2; exact this)
theorem loop_next {ac : ACode} (n1 : Nexts ac) : Nexts (.loop ac) := by
  intro P cfg cl hcl n env ds σ x env' ds' τ h
  exact loopN_next n1 hcl n n env ds σ x env' ds' τ h

theorem nexts : ∀ (ac : ACode), Nexts ac := by
  intro ac
  induction ac with
  | skip => intro P cfg cl hcl n env ds σ x env' ds' τ h; cases h; exact ⟨Nat.le_refl _, List.suffix_refl _⟩
  | region ops outs => exact region_next
  | draw ops chk outs => exact draw_next
  | seq a b h1 h2 => exact seq_next h1 h2
  | cond c a b h1 h2 => exact cond_next h1 h2
  | block id c h1 => exact block_next h1
  | loop c h1 => exact loop_next h1
  | rangeFunc f ps a b _ _ => exact rangeFunc_next
  | exit i => intro P cfg cl hcl n env ds σ x env' ds' τ h; cases h; exact ⟨Nat.le_refl _, List.suffix_refl _⟩
  | ret => intro P cfg cl hcl n env ds σ x env' ds' τ h; cases h; exact ⟨Nat.le_refl _, List.suffix_refl _⟩

/-- What is asked of the two patterns of regions that are brought into another form. -/
def PatOk (P : Program) (cfg : Cfg) : Prop := ∀ (r : Option Nat) (s : Self) (id : Nat) (ops : Array Oper), dstsOk s.N ops = true → CodeSound P cfg r s (.region id ops true) (compPat P s.X ops (ops.toList.map (compOper P cfg s.fid ops)))

theorem comp_sound (hm : P.follows .mixedOrders = true) (hpat : PatOk P cfg) (s : Self) : ∀ (c : Code) (r : Option Nat), CodeSound P cfg r s c (comp P cfg s c) := by
  intro c
  induction c with
  | skip => intro r; exact skip_sound
  | region id ops d =>
    intro r
    show CodeSound P cfg r s (.region id ops d) (compRegion P cfg s ops d)
    unfold compRegion
    cases hd : dstsOk s.N ops with
    | false => exact bad_sound
    | true =>
      simp only [Bool.not_true, Bool.false_eq_true, if_false]
      cases d with
      | false => exact region_sound hd
      | true =>
        simp only [Bool.not_true, Bool.false_eq_true, if_false]
        cases hok : drawOk ops (ops.toList.map (compOper P cfg s.fid ops)) with
        | true => exact draw_sound hm hd hok
        | false => exact hpat r s id ops hd
  | seq a b h1 h2 => intro r; exact seq_sound (h1 r) (h2 r) (nexts _) (nexts _)
  | cond o a b h1 h2 =>
    intro r
    show CodeSound P cfg r s (.cond o a b) (match opd o with | some c => .cond c (comp P cfg s a) (comp P cfg s b) | none => badCode)
    cases ho : opd o with
    | none => exact bad_sound
    | some o' => exact cond_sound ho (h1 r) (h2 r)
  | block id c h1 => intro r; exact block_sound (h1 r)
  | loop c h1 => intro r; exact loop_sound (h1 r) (nexts _)
  | rangeFunc f ps a b h1 h2 =>
    intro r
    show CodeSound P cfg r s (.rangeFunc f ps a b) (match opd f with | some f => if ps.toList.all (fun p => decide (p < s.N) && s.X.contains p) then .rangeFunc f ps.toList (comp P cfg s a) (comp P cfg s b) else badCode | none => badCode)
    cases ho : opd f with
    | none => exact bad_sound
    | some f' =>
      simp only
      split
      · rename_i hp; exact rangeFunc_sound ho hp
      · exact bad_sound
  | exit i => intro r; exact exit_sound
  | ret => intro r; exact ret_sound
  | scope c h1 => intro r; exact bad_sound
  | label l => intro r; exact bad_sound
  | goto l => intro r; exact bad_sound
  | refuse why => intro r; exact bad_sound

/-! ### The calls -/
/-- What stands for a function that has no text here. -/
def PrimOk (P : Program) (cfg : Cfg) (n : Nat) (p : CallF → List AV → St → Option (AV × St)) : Prop :=
  ∀ cl, ClOk P cfg cl → ∀ (args : List AV) (σ : St) (v : AV) (τ : St), p cl args σ = some (v, τ) → σ.next ≤ τ.next ∧ ∀ (C : Ctx) (w : World) (cargs : Array Value), Inv P cfg C σ w → VRs C args cargs → Fresh C σ.next τ.next →
    (callFunc n cargs).run P w = .ok (.enter n cargs) w ∧ Calls P n cargs w (CRet P cfg C σ w v τ)

def FuncOk (P : Program) (cfg : Cfg) (n : Nat) (fd : AFunc) : Prop :=
  (∀ (cargs : Array Value) (w : World), (callFunc n cargs).run P w = .ok (.enter n cargs) w) ∧ ∃ (fn : Func) (c : Code), P.funcs[n]? = some fn ∧ fn.body = some c ∧ compFunc P cfg n fn = some fd

structure TabOk (P : Program) (cfg : Cfg) (T : Tab) : Prop where
  mixed : P.follows .mixedOrders = true
  pat : PatOk P cfg
  func : ∀ (n : Nat) (fd : AFunc), T.func.get n = some fd → FuncOk P cfg n fd
  prim : ∀ (n : Nat) (p : CallF → List AV → St → Option (AV × St)), T.prim n = some p → PrimOk P cfg n p

theorem enter_next {n : Nat} {fd : AFunc} {args : List AV} (hcl : ClOk P cfg cl) (h : enter cl n fd args σ = some (v, τ)) :
    σ.next ≤ τ.next ∧ ∀ x fr' τ', code fd.body cl n ⟨numbered (bif fd.stripArgs then args.map stripVal else args) 0, []⟩ σ = some (x, fr', τ') → τ'.next ≤ τ.next := by
  unfold enter at h
  cases hle : Nat.ble args.length fd.nargs with
  | false => rw [hle] at h; cases h
  | true =>
    rw [hle, cond_true] at h
    cases hc : code fd.body cl n ⟨numbered (bif fd.stripArgs then args.map stripVal else args) 0, []⟩ σ with
    | none => rw [hc] at h; cases h
    | some q =>
      obtain ⟨x, ⟨e1, d1⟩, s1⟩ := q
      rw [hc] at h; simp only at h
      have n1 := (nexts fd.body P cfg cl hcl n _ _ _ _ _ _ _ hc).1
      have key : (match runDefs cl d1 s1 with
          | some σ'' => match readResults e1 σ'' fd.results with
            | some vs => some (bif fd.stripRet then stripVal (one vs) else one vs, σ''.gc fd.gc σ.next)
            | none => none
          | none => none) = some (v, τ) → s1.next ≤ τ.next := by
        intro h
        cases hr : runDefs cl d1 s1 with
        | none => rw [hr] at h; cases h
        | some s2 =>
          rw [hr] at h; simp only at h
          cases hrr : readResults e1 s2 fd.results with
          | none => rw [hrr] at h; cases h
          | some vs =>
            rw [hrr] at h; simp only [Option.some.injEq, Prod.mk.injEq] at h
            rw [← h.2]
            have hg : (s2.gc fd.gc σ.next).next = s2.next := by unfold St.gc; split <;> rfl
            rw [hg]; exact runDefs_next hcl _ _ _ hr
      have hk : s1.next ≤ τ.next := by
        cases x with
        | exit i => cases h
        | normal => exact key h
        | ret => exact key h
      exact ⟨Nat.le_trans n1 hk, fun x' fr' τ' he => by cases he; exact hk⟩

theorem enterD_next {n : Nat} {fd : AFunc} {args : List AV} (hcl : ClOk P cfg cl) (h : enterD cl n fd args σ = some (v, τ)) : σ.next ≤ τ.next := by
  unfold enterD at h
  cases hle : Nat.ble args.length fd.nargs with
  | false => rw [hle] at h; cases h
  | true =>
    rw [hle, cond_true] at h
    cases hc : code fd.body cl n ⟨numbered (bif fd.stripArgs then args.map stripVal else args) 0, []⟩ σ with
    | none => rw [hc] at h; cases h
    | some q =>
      obtain ⟨x, ⟨e1, d1⟩, s1⟩ := q
      rw [hc] at h; simp only at h
      have n1 := (nexts fd.body P cfg cl hcl n _ _ _ _ _ _ _ hc).1
      have hg : (s1.gc fd.gc σ.next).next = s1.next := by unfold St.gc; split <;> rfl
      cases d1 with
      | cons d d1 => cases x <;> cases h
      | nil =>
        simp only at h
        cases hrr : readResults e1 s1 fd.results with
        | none => rw [hrr] at h; cases x <;> cases h
        | some vs =>
          rw [hrr] at h
          have : s1.gc fd.gc σ.next = τ := by
            cases x with
            | exit i => cases h
            | normal => simp only [Option.some.injEq, Prod.mk.injEq] at h; exact h.2
            | ret => simp only [Option.some.injEq, Prod.mk.injEq] at h; exact h.2
          rw [← this, hg]; exact n1

theorem round_next (hcl : ClOk P cfg cl) {n l : Nat} {args : List AV} (h : round cl n l args σ = some (v, τ)) : σ.next ≤ τ.next := by
  unfold round at h
  cases hg : σ.get l with
  | none => rw [hg] at h; cases h
  | some ob =>
    rw [hg] at h
    cases ob with
    | loop st0 j0 tm ps as body =>
      simp only at h
      split at h
      · cases h
      · cases hc1 : code as cl n ⟨putAll tm ps args, []⟩ σ with
        | none => rw [hc1] at h; cases h
        | some q =>
          obtain ⟨x1, ⟨env1, ds1⟩, σ1⟩ := q
          rw [hc1] at h
          have n1 := (nexts as P cfg cl hcl n _ _ _ _ _ _ _ hc1).1
          cases x1 with
          | exit i => cases h
          | ret => cases h
          | normal =>
            simp only at h
            cases hg1 : σ1.get l with
            | none => rw [hg1] at h; cases h
            | some ob1 =>
              rw [hg1] at h
              cases ob1 with
              | loop st1 j1 tm1 ps1 as1 body1 =>
                cases st1 with
                | busy => cases h
                | done => cases h
                | gone => cases h
                | ready =>
                  simp only at h
                  cases hc2 : code body cl n ⟨env1, ds1⟩ (σ1.set l (.loop .busy j1 tm1 ps1 as1 body1)) with
                  | none => rw [hc2] at h; cases h
                  | some q =>
                    obtain ⟨x, ⟨env2, ds2⟩, σ2⟩ := q
                    rw [hc2] at h; simp only at h
                    have n2 := (nexts body P cfg cl hcl n _ _ _ _ _ _ _ hc2).1
                    have n2' : σ1.next ≤ σ2.next := n2
                    split at h
                    · cases h
                    · cases hg2 : σ2.get l with
                      | none => rw [hg2] at h; cases h
                      | some ob2 =>
                        rw [hg2] at h
                        cases ob2 with
                        | loop st2 j2 tm2 ps2 as2 body2 =>
                          simp only [Option.some.injEq, Prod.mk.injEq] at h
                          rw [← h.2]
                          show σ.next ≤ σ2.next
                          omega
                        | _ => cases h
              | _ => cases h
    | _ => cases h

/-- Whatever the abstract machine's calls answer, the machine's calls do. -/
theorem call_ok {T : Tab} (hT : TabOk P cfg T) : ∀ n, ClOk P cfg (call T n) := by
  intro n
  induction n with
  | zero => exact ⟨fun _ _ _ _ _ h => (by cases h), fun _ _ _ _ _ h => (by cases h), fun _ _ _ _ _ h => (by cases h), fun _ _ _ _ _ h => (by cases h)⟩
  | succ n ih =>
    have hs : ∀ (r : Option Nat) (s : Self) (c : Code), CodeSound P cfg r s c (comp P cfg s c) := fun r s c => comp_sound hT.mixed hT.pat s c r
    refine ⟨fun c args σ v τ h => ?_, fun f args σ v τ h => ?_, fun f args σ v τ h => ?_, fun l args σ v τ h => ?_⟩
    · have h' : callStep T n (call T n) c args σ = some (v, τ) := h
      cases c with
      | fn f =>
        have h' : callFn T n (call T n) f args σ = some (v, τ) := h
        unfold callFn at h'
        cases hp : T.prim f with
        | some p => rw [hp] at h'; exact (hT.prim f p hp _ ih args σ v τ h').1
        | none =>
          rw [hp] at h'; simp only at h'
          cases hfd : T.func.get f with
          | none => rw [hfd] at h'; cases h'
          | some fd => rw [hfd] at h'; exact (enter_next ih h').1
      | yield l => exact round_next ih h
      | dfn f =>
        have h' : callFnD T n (call T n) f args σ = some (v, τ) := h
        unfold callFnD at h'
        cases hp : T.prim f with
        | some p => rw [hp] at h'; cases h'
        | none =>
          rw [hp] at h'; simp only at h'
          cases hfd : T.func.get f with
          | none => rw [hfd] at h'; cases h'
          | some fd => rw [hfd] at h'; exact enterD_next ih h'
    · intro C w cargs hI ha hf
      have h' : callFn T n (call T n) f args σ = some (v, τ) := h
      unfold callFn at h'
      cases hp : T.prim f with
      | some p => rw [hp] at h'; exact (hT.prim f p hp _ ih args σ v τ h').2 C w cargs hI ha hf
      | none =>
        rw [hp] at h'; simp only at h'
        cases hfd : T.func.get f with
        | none => rw [hfd] at h'; cases h'
        | some fd =>
          rw [hfd] at h'; simp only at h'
          obtain ⟨k1, fn, c, k2, k3, k4⟩ := hT.func f fd hfd
          exact ⟨k1 cargs w, enter_sound ih k2 k3 k4 (fun s => hs none s c) h' (enter_next ih h').2 hI ha hf⟩
    · intro C w cargs hI ha hf
      have h' : callFnD T n (call T n) f args σ = some (v, τ) := h
      unfold callFnD at h'
      cases hp : T.prim f with
      | some p => rw [hp] at h'; cases h'
      | none =>
        rw [hp] at h'; simp only at h'
        cases hfd : T.func.get f with
        | none => rw [hfd] at h'; cases h'
        | some fd =>
          rw [hfd] at h'; simp only at h'
          obtain ⟨k1, fn, c, k2, k3, k4⟩ := hT.func f fd hfd
          exact ⟨k1 cargs w, fun u => enterD_sound ih k2 k3 k4 (fun s => hs none s c) h' hI ha hf u⟩
    · intro C w cargs b hκ hI ha hf
      have h' : round (call T n) n l args σ = some (v, τ) := h
      exact round_sound ih hs (fun s c => nexts _) h' hκ hI ha hf

/-- What a call answers, it answers in the machine. -/
theorem call_sound {T : Tab} (hT : TabOk P cfg T) {fuel f : Nat} {args : List AV} (h : call T fuel (.fn f) args σ = some (v, τ)) {cargs : Array Value} (hI : Inv P cfg C σ w) (ha : VRs C args cargs) (hf : Fresh C σ.next τ.next) :
    Calls P f cargs w (CRet P cfg C σ w v τ) := ((call_ok hT fuel).fn f args σ v τ h C w cargs hI ha hf).2

end Go.AM
