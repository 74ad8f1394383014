/- A part of the proof of: EmitBecomes: what a term becomes by patterns, and a pattern's name, is what the document says, or the error is told. -/
import Derived.Test.YtkopdkjpmccbmaaGreatDoorM13
namespace Go.AM
open Go.RowKit
variable {P : Program} {cfg : Cfg} {fid : Nat} {cl : CallF} {ops : Array Oper} {l : List AOper} {env env' : Env} {ds ds' : List ADef} {σ τ : St} {v : AV} {co : AOper} {r : Option Nat}
variable {reg : Nat → Bool} {irr : Nat → Prop} {T : Trace} {S S' : Nat → Bool} {rr : Nat} {ρX : Heap} {C0 C D : Ctx} {σ0 : St} {w0 w : World} {a : Act} {N sz : Nat}

/-- A trace of a row of operations. -/
structure Traced (l : List AOper) (cl : CallF) (env : Env) (ds : List ADef) (σ : St) (env' : Env) (ds' : List ADef) (τ : St) (T : Trace) : Prop where
  e0 : T.E 0 = env
  d0 : T.D 0 = ds
  s0 : T.Sg 0 = σ
  e1 : T.E l.length = env'
  d1 : T.D l.length = ds'
  s1 : T.Sg l.length = τ
  run : ∀ (i : Nat) (co : AOper), l[i]? = some co → oper co cl (T.E i) (T.D i) (T.Sg i) = some (T.E (i + 1), T.D (i + 1), T.Sg (i + 1))

theorem log_trace : ∀ {l : List AOper} {env : Env} {ds : List ADef} {σ : St} {lg : List Log}, opersLog l cl env ds σ = some (env', ds', τ, lg) →
    ∃ T, Traced l cl env ds σ env' ds' τ T ∧ opers l cl env ds σ = some (env', ds', τ) ∧
      (∀ (i : Nat) (co : AOper), l[i]? = some co → ∃ b, wanted (T.E i) co.guard = some b ∧ lg[i]? = some (logOf co b (T.E i) (T.E (i + 1)) (T.Sg i))) ∧
      (∀ i, i ≤ l.length → ∃ e, lg[i]? = some e ∧ e.at_ = T.Sg i) := by
  intro l
  induction l with
  | nil =>
    intro env ds σ lg h
    have h' : some (env, ds, σ, [⟨σ, none, .undef⟩]) = some (env', ds', τ, lg) := h
    cases h'
    refine ⟨⟨fun _ => env', fun _ => ds', fun _ => τ⟩, ⟨rfl, rfl, rfl, rfl, rfl, rfl, fun i co hi => (by simp at hi)⟩, rfl, fun i co hi => (by simp at hi), fun i hi => ⟨⟨τ, none, .undef⟩, ?_, rfl⟩⟩
    have : i = 0 := by simpa using hi
    subst this; rfl
  | cons o l ih =>
    intro env ds σ lg h
    have h' : opersLogCons o (opersLog l) cl env ds σ = some (env', ds', τ, lg) := h
    unfold opersLogCons at h'
    cases hw : wanted env o.guard with
    | none => rw [hw] at h'; cases h'
    | some b =>
      rw [hw] at h'; simp only at h'
      cases ho : oper o cl env ds σ with
      | none => rw [ho] at h'; cases h'
      | some q =>
        obtain ⟨e1, d1, s1⟩ := q
        rw [ho] at h'; simp only at h'
        cases hl : opersLog l cl e1 d1 s1 with
        | none => rw [hl] at h'; cases h'
        | some q =>
          obtain ⟨e2, d2, s2, lg'⟩ := q
          rw [hl] at h'; simp only at h'
          cases h'
          obtain ⟨T, hT, hop, h1, h2⟩ := ih hl
          refine ⟨⟨fun | 0 => env | i + 1 => T.E i, fun | 0 => ds | i + 1 => T.D i, fun | 0 => σ | i + 1 => T.Sg i⟩, ⟨rfl, rfl, rfl, hT.e1, hT.d1, hT.s1, fun i co hi => ?_⟩, ?_, fun i co hi => ?_, fun i hi => ?_⟩
          · cases i with
            | zero =>
              simp only [List.getElem?_cons_zero, Option.some.injEq] at hi
              subst hi
              show oper o cl env ds σ = some (T.E 0, T.D 0, T.Sg 0)
              rw [hT.e0, hT.d0, hT.s0]; exact ho
            | succ i => exact hT.run i co (by simpa using hi)
          · show opersCons o (opers l) cl env ds σ = _
            unfold opersCons
            rw [ho]; exact hop
          · cases i with
            | zero =>
              simp only [List.getElem?_cons_zero, Option.some.injEq] at hi
              subst hi
              refine ⟨b, hw, ?_⟩
              show some (logOf o b env e1 σ) = some (logOf o b env (T.E 0) σ)
              rw [hT.e0]
            | succ i => exact h1 i co (by simpa using hi)
          · cases i with
            | zero => exact ⟨_, rfl, rfl⟩
            | succ i => exact h2 i (by simpa using hi)

theorem checkRow_spec {lg : List Log} {e : Log} : ∀ {ps : List Nat}, checkRow lg e ps = true → ∀ p ∈ ps, staysAt lg e p = true ∧ staysAt lg e (p + 1) = true := by
  intro ps
  induction ps with
  | nil => intro _ p hp; cases hp
  | cons q ps ih =>
    intro h p hp
    have h' : (staysAt lg e q && staysAt lg e (q + 1) && checkRow lg e ps) = true := h
    rw [Bool.and_eq_true, Bool.and_eq_true] at h'
    rcases List.mem_cons.1 hp with rfl | hp
    · exact h'.1
    · exact ih h'.2 p hp
theorem checkLog_spec {lg : List Log} : ∀ {chk : List (Nat × List Nat)}, checkLog lg chk = true → ∀ c ∈ chk, ∃ e, lg[c.1]? = some e ∧ ∀ p ∈ c.2, staysAt lg e p = true ∧ staysAt lg e (p + 1) = true := by
  intro chk
  induction chk with
  | nil => intro _ c hc; cases hc
  | cons q chk ih =>
    intro h c hc
    have h' : ((match nth lg q.1 with | some e => checkRow lg e q.2 | none => false) && checkLog lg chk) = true := h
    rw [Bool.and_eq_true, nth_eq] at h'
    rcases List.mem_cons.1 hc with rfl | hc
    · cases he : lg[c.1]? with
      | none => rw [he] at h'; cases h'.1
      | some e => rw [he] at h'; exact ⟨e, rfl, checkRow_spec h'.1⟩
    · exact ih h'.2 c hc

/-- A check that came out right. -/
theorem stays_of {lg : List Log} {j k : Nat} {e : Log} (hT : ∃ e', lg[k]? = some e' ∧ e'.at_ = T.Sg k) (he : e = logOf co true (T.E j) (T.E (j + 1)) (T.Sg j)) (h : staysAt lg e k = true) : Stays T j co k := by
  obtain ⟨e', h1, h2⟩ := hT
  unfold staysAt at h
  rw [nth_eq, h1] at h
  simp only [h2] at h
  subst he
  unfold stays at h
  have hr : (logOf co true (T.E j) (T.E (j + 1)) (T.Sg j)).read = some (co.op, T.E j) := rfl
  rw [hr] at h
  simp only at h
  cases ho : op co.op (T.E j) (T.Sg k) with
  | none => rw [ho] at h; cases h
  | some q =>
    obtain ⟨u, s⟩ := q
    rw [ho] at h
    refine ⟨u, s, ho, fun d hd => ?_⟩
    have hv := AV.beq_eq _ _ h
    rw [hv]
    show (match co.dst with | some d => aget (T.E (j + 1)) d | none => .undef) = _
    rw [hd]

/-! ### The whole region -/
theorem setOf_listed {listed : Array Bool} {i : Nat} (hi : i < listed.size) : (fun j => (listed.setIfInBounds i true).getD j false) = withS (fun j => listed.getD j false) i := by
  funext j
  by_cases e : j = i
  · subst e
    rw [withS_eq, Array.getD_eq_getD_getElem?, Array.getElem?_setIfInBounds_self_of_lt hi]; rfl
  · rw [withS_ne e]
    exact getD_set_ne false (fun h => e h.symm)

theorem filter_lt {l : List Nat} {p q : Nat → Bool} (h : ∀ x, q x = true → p x = true) {i : Nat} (hi : i ∈ l) (hp : p i = true) (hq : q i = false) : (l.filter q).length < (l.filter p).length := by
  have le : ∀ l : List Nat, (l.filter q).length ≤ (l.filter p).length := by
    intro l
    induction l with
    | nil => exact Nat.le_refl _
    | cons x l ih =>
      rw [List.filter_cons, List.filter_cons]
      cases hx : q x with
      | true => rw [h x hx]; simpa using ih
      | false =>
        cases hy : p x with
        | true => simp; omega
        | false => simpa using ih
  induction l with
  | nil => cases hi
  | cons x l ih =>
    rw [List.filter_cons, List.filter_cons]
    rcases List.mem_cons.1 hi with rfl | hi
    · rw [hp, hq]
      have := le l
      simp; omega
    · have := ih hi
      cases hx : q x with
      | true => rw [h x hx]; simpa using this
      | false =>
        cases hy : p x with
        | true => simp; omega
        | false => simpa using this

/-- When nothing is ready, all is done. -/
theorem all_done (hb : backOk ops = true) {listed : Array Bool} (hs : listed.size = ops.size) (hr : Region.ready .any ops listed = []) : ∀ j, j < ops.size → listed.getD j false = true := by
  intro j
  induction j using Nat.strongRecOn with
  | _ j ih =>
    intro hj
    apply Classical.byContradiction
    intro hn
    have ho : ops[j]? = some ops[j] := Array.getElem?_eq_getElem hj
    have hm : j ∈ Region.ready .any ops listed := by
      rw [mem_ready]
      refine ⟨?_, ops[j], ho, fun e he hbd => ?_⟩
      · have hjl : j < listed.size := by omega
        rw [Array.getD_eq_getD_getElem?, Array.getElem?_eq_getElem hjl] at hn ⊢
        simpa using hn
      · have := back_spec hb ho e he hbd
        exact ih e.on this (by omega)
    rw [hr] at hm; cases hm

def noneIrr : Nat → Prop := fun _ => False
def allReg : Nat → Bool := fun _ => true

/-- What is left of a region, in whatever order. -/
theorem any_sound (H : Reg P cfg fid ops l allReg noneIrr cl T) (hcl : ClOk P cfg cl) (h0 : σ0.next ≤ (T.Sg 0).next) (hr : r = none ∨ T.D ops.size = T.D 0) (hdst : ∀ (i : Nat) (o : Oper), ops[i]? = some o → ∀ d, o.dst = some d → d < sz)
    {Q : Exit → Act → World → Prop}
    (hQ : ∀ D a' w', Ev C0 σ0 w0 D (T.Sg ops.size) w' → Inv P cfg D (T.Sg ops.size) w' → EnvR D (T.E ops.size) a'.tmps → DefsR D (T.D ops.size) a'.defers → a'.tmps.size = sz → Q .normal a' w') :
    ∀ (fuel : Nat) (listed : Array Bool) (rr : Nat) (C : Ctx) (a : Act) (w : World), listed.size = ops.size → ((List.range ops.size).filter fun j => !listed.getD j false).length ≤ fuel →
      DI P cfg ops l allReg noneIrr T C0 σ0 w0 (T.Sg ops.size).next sz (fun j => listed.getD j false) rr [] C a w → wpAnyIn (FR r) 0 P .any ops Q fuel listed a w := by
  have final : ∀ (listed : Array Bool) (rr : Nat) (C : Ctx) (a : Act) (w : World), listed.size = ops.size → DI P cfg ops l allReg noneIrr T C0 σ0 w0 (T.Sg ops.size).next sz (fun j => listed.getD j false) rr [] C a w → Region.ready .any ops listed = [] → Q .normal a w := by
    intro listed rr C a w hs hD hr
    have hall := all_done H.back hs hr
    have hno : NoEff l allReg rr ops.size := fun q co h1 h2 h3 h4 h5 => by
      have := (hD.effs q co h4 h3 h5).1 (hall q h2); omega
    obtain ⟨z1, z2⟩ := H.zone hD.rle (Nat.le_refl _) hno
    have hp : pend T allReg (fun j => listed.getD j false) rr ops.size = pend T allReg (fun _ => true) rr ops.size := pend_congr fun q _ h2 _ => .inl (hall q h2)
    have hst : (⟨[] ++ (pend T allReg (fun j => listed.getD j false) rr ops.size ++ (T.Sg rr).heap), (T.Sg ops.size).next⟩ : St) = T.Sg ops.size := by
      rw [hp, ← z1]; rfl
    have hI := hD.inv; rw [hst] at hI
    have hE := hD.ev; rw [hst] at hE
    refine hQ C a w hE hI (fun t => hD.tmps t (fun h => h) ops.size (Nat.le_refl _) fun i co hl _ _ => ?_) (by rw [z2]; exact hD.defs) hD.size
    have hi : i < ops.size := by have := (List.getElem?_eq_some_iff.1 hl).1; rw [H.len] at this; exact this
    exact ⟨fun _ => hi, fun _ => hall i hi⟩
  intro fuel
  induction fuel with
  | zero =>
    intro listed rr C a w hs hc hD
    have hr' : Region.ready .any ops listed = [] := by
      cases hr' : Region.ready .any ops listed with
      | nil => rfl
      | cons j rest =>
        exfalso
        have hj : j ∈ Region.ready .any ops listed := by rw [hr']; simp
        rw [mem_ready] at hj
        obtain ⟨h1, o, ho, _⟩ := hj
        have hjlt : j < ops.size := (Array.getElem?_eq_some_iff.1 ho).1
        have hm : j ∈ (List.range ops.size).filter fun j => !listed.getD j false := by
          rw [List.mem_filter, List.mem_range]
          refine ⟨hjlt, ?_⟩
          have hjl : j < listed.size := by omega
          rw [Array.getD_eq_getD_getElem?, Array.getElem?_eq_getElem hjl] at h1 ⊢
          simpa using h1
        have := List.length_pos_of_mem hm
        omega
    exact ⟨hr', final listed rr C a w hs hD hr'⟩
  | succ fuel ih =>
    intro listed rr C a w hs hc hD
    refine ⟨final listed rr C a w hs hD, fun i hi => ?_⟩
    rw [mem_ready] at hi
    obtain ⟨h1, o, ho, h2⟩ := hi
    have hilt : i < ops.size := (Array.getElem?_eq_some_iff.1 ho).1
    have hil : i < listed.size := by omega
    have hSi : listed.getD i false = false := by
      rw [Array.getD_eq_getD_getElem?, Array.getElem?_eq_getElem hil] at h1 ⊢
      simpa using h1
    refine reg_step (r := r) H hcl h0 (Nat.le_refl _) hr hD ho rfl hSi h2 (hdst i o ho) fun rr' D a' w' _ _ _ hD' => ?_
    rw [← setOf_listed hil] at hD'
    refine ih (listed.setIfInBounds i true) rr' D a' w' (by simpa using hs) ?_ hD'
    have : ((List.range ops.size).filter fun j => !(listed.setIfInBounds i true).getD j false).length < ((List.range ops.size).filter fun j => !listed.getD j false).length := by
      refine filter_lt (i := i) (fun x hx => ?_) (List.mem_range.2 hilt) (by rw [hSi]; rfl) ?_
      · by_cases e : x = i
        · subst e; rw [hSi]; rfl
        · rw [getD_set_ne false (fun h => e h.symm)] at hx; exact hx
      · rw [Array.getD_eq_getD_getElem?, Array.getElem?_setIfInBounds_self_of_lt hil]; rfl
    omega

/-- At the start nothing is done. -/
theorem DI.start (H : Reg P cfg fid ops l reg irr cl T) (hcl : ClOk P cfg cl) {N : Nat} (hN : (T.Sg ops.size).next ≤ N) (hI : Inv P cfg C (T.Sg 0) w) (he : EnvR C (T.E 0) a.tmps) (hd : DefsR C (T.D 0) a.defers) (hf : Fresh C (T.Sg 0).next (T.Sg ops.size).next) :
    DI P cfg ops l reg irr T C (T.Sg 0) w N a.tmps.size (fun j => (Array.replicate ops.size false).getD j false) 0 [] C a { w with drawn := w.drawn + 1 } := by
  have hS : ∀ j, (Array.replicate ops.size false).getD j false = false := fun j => by
    rw [Array.getD_eq_getD_getElem?]
    by_cases h : j < ops.size
    · rw [Array.getElem?_eq_getElem (by simpa using h)]; simp
    · rw [Array.getElem?_eq_none (by simpa using h)]; rfl
  have hpe : pend T reg (fun j => (Array.replicate ops.size false).getD j false) 0 ops.size = [] := by
    have : ∀ b, pend T reg (fun j => (Array.replicate ops.size false).getD j false) 0 b = [] := by
      intro b
      induction b with
      | zero => rfl
      | succ b ih => rw [pend, if_neg (by rw [hS]; simp)]; exact ih
    exact this _
  have h0N : (T.Sg 0).next ≤ N := Nat.le_trans (H.mono hcl (Nat.zero_le _) (Nat.le_refl _)) hN
  have hI' : Inv P cfg C ⟨(T.Sg 0).heap, N⟩ w := ⟨⟨hI.lies, hI.falls, fun id o ho => Nat.lt_of_lt_of_le (hI.next id o ho) h0N, hI.obj, hI.inj⟩, hI.pin⟩
  have hE' : Ev C (T.Sg 0) w C ⟨(T.Sg 0).heap, N⟩ w :=
    ⟨.refl C, h0N, Nat.le_refl _, rfl, rfl, rfl, fun _ _ _ => rfl, fun _ _ h => h, fun _ _ _ _ _ h => h, fun _ h => absurd rfl h, fun _ _ h => absurd rfl h, fun _ o h => .inl ⟨o, h⟩⟩
  refine ⟨fun j o hj => ?_, Nat.zero_le _, fun i co _ _ _ => ?_, fun i co _ _ _ h => absurd h (Nat.not_lt_zero _), hI.next, fun p hp => absurd hp List.not_mem_nil, ?_, ?_, fun j _ hj _ => ?_, fun t _ k hk hw => ?_, hd, rfl⟩
  · rw [hS] at hj; cases hj
  · rw [hS]; simp
  · rw [hpe]; exact hI'.drew _
  · rw [hpe]; exact hE'.trans (Ev.drew _ _ _ _)
  · exact hf.sub (H.mono hcl (Nat.zero_le _) (by omega)) (H.mono hcl (by omega) (Nat.le_refl _))
  · have hstill : ∀ k', k' ≤ k → aget (T.E k') t = aget (T.E 0) t := by
      intro k'
      induction k' with
      | zero => intro _; rfl
      | succ k' ih =>
        intro h
        rw [← ih (by omega)]
        obtain ⟨oq, hoq, hlq⟩ := H.oper (i := k') (by omega)
        cases hrq : reg k' with
        | false => rw [(H.idle k' (by omega) hrq).1]
        | true =>
          refine oper_env (H.run k' _ hlq hrq) fun hdq => ?_
          have := (hw k' _ hlq hrq hdq).2 (by omega)
          rw [hS] at this; cases this
    rw [hstill k (Nat.le_refl _)]; exact he t

theorem draw_pairs {bf : Array Nat} {l : List AOper} (h : ((pairsOf l.length).all fun (i, j) => !unordered bf i j || pairOk (l.getD i default).op (l.getD j default).op) = true) {i j : Nat} {ci cj : AOper} (hij : i < j) (hi : l[i]? = some ci) (hj : l[j]? = some cj) :
    (bf.getD j 0).testBit i = true ∨ pairOk ci.op cj.op = true := by
  rw [List.all_eq_true] at h
  have hjl := (List.getElem?_eq_some_iff.1 hj).1
  have hm : (i, j) ∈ pairsOf l.length := by
    unfold pairsOf
    rw [List.mem_flatMap]
    exact ⟨j, List.mem_range.2 hjl, List.mem_map.2 ⟨i, List.mem_range.2 hij, rfl⟩⟩
  have h1 := h _ hm
  simp only [unordered, Bool.not_not, Bool.or_eq_true] at h1
  rw [List.getD_eq_getElem?_getD, hi, List.getD_eq_getElem?_getD, hj] at h1
  exact h1

theorem chk_mem {l : List AOper} {j p : Nat} {cj cp : AOper} (hj : l[j]? = some cj) (hp : l[p]? = some cp) (hc : cls cj.op = .read) (hcp : cls cp.op = .eff ∨ cls cp.op = .new) (hne : p ≠ j)
    (hu : ((Region.before ops).getD (max p j) 0).testBit (min p j) = false) : ∃ ps, (j, ps) ∈ chkOf ops l ∧ p ∈ ps := by
  have hjl := (List.getElem?_eq_some_iff.1 hj).1
  have hpl := (List.getElem?_eq_some_iff.1 hp).1
  have hgj : l.getD j default = cj := by rw [List.getD_eq_getElem?_getD, hj]; rfl
  have hgp : l.getD p default = cp := by rw [List.getD_eq_getElem?_getD, hp]; rfl
  have hmem : p ∈ (List.range l.length).filter fun p => p != j && (cls (l.getD p default).op = .eff || cls (l.getD p default).op = .new) && (if p < j then unordered (Region.before ops) p j else unordered (Region.before ops) j p) := by
    rw [List.mem_filter, List.mem_range]
    refine ⟨hpl, ?_⟩
    rw [hgp]
    have h1 : (if p < j then unordered (Region.before ops) p j else unordered (Region.before ops) j p) = true := by
      unfold unordered
      by_cases h : p < j
      · rw [if_pos h]; rw [Nat.max_eq_right (by omega), Nat.min_eq_left (by omega)] at hu; rw [hu]; rfl
      · rw [if_neg h]; rw [Nat.max_eq_left (by omega), Nat.min_eq_right (by omega)] at hu; rw [hu]; rfl
    rw [h1]
    simpa [hne] using hcp
  refine ⟨_, ?_, hmem⟩
  unfold chkOf
  simp only
  rw [List.mem_filterMap]
  refine ⟨j, List.mem_range.2 hjl, ?_⟩
  rw [hgj, if_pos hc, if_neg]
  intro h
  rw [List.isEmpty_iff] at h
  rw [h] at hmem; cases hmem


theorem comp_list {i : Nat} {o : Oper} (ho : ops[i]? = some o) : (ops.toList.map (compOper P cfg fid ops))[i]? = some (compOper P cfg fid ops o) := by
  rw [List.getElem?_map]
  have : ops.toList[i]? = some o := by simpa using ho
  rw [this]; rfl

/-- The run in the order of the text, as what it is held against. -/
theorem draw_reg (hl : l = ops.toList.map (compOper P cfg fid ops)) (hok : drawOk ops l = true) {lg : List Log}
    (hlog : opersLog l cl env ds σ = some (env', ds', τ, lg)) (hchk : checkLog lg (chkOf ops l) = true) : ∃ T, Traced l cl env ds σ env' ds' τ T ∧ Reg P cfg fid ops l allReg noneIrr cl T := by
  obtain ⟨T, hT, _, h1, h2⟩ := log_trace hlog
  unfold drawOk at hok
  simp only [Bool.and_eq_true] at hok
  obtain ⟨⟨k1, k2⟩, k3⟩ := hok
  have hlen : l.length = ops.size := by rw [hl]; simp
  refine ⟨T, hT, ⟨hlen, fun i o ho => by rw [hl]; exact comp_list ho, k1, k2, fun _ _ _ _ _ _ h => h, fun i j ci cj hij _ _ hi hj => draw_pairs k3 hij hi hj, fun i co hi _ => hT.run i co hi, fun i _ h => (by cases h), fun j p cj cp _ _ hj hp hc hcp hne => ?_⟩⟩
  cases hbit : ((Region.before ops).getD (max p j) 0).testBit (min p j) with
  | true => exact .inl rfl
  | false =>
    refine .inr fun hw => ?_
    obtain ⟨ps, m1, m2⟩ := chk_mem hj hp hc hcp hne hbit
    obtain ⟨e, he, hs⟩ := checkLog_spec hchk _ m1
    obtain ⟨b, hb, hlgj⟩ := h1 j cj hj
    rw [hw] at hb; cases hb
    simp only at he
    rw [hlgj] at he
    have he' : e = logOf cj true (T.E j) (T.E (j + 1)) (T.Sg j) := by cases he; rfl
    have hpl := (List.getElem?_eq_some_iff.1 hp).1
    exact ⟨stays_of (h2 p (by omega)) he' (hs p m2).1, stays_of (h2 (p + 1) (by omega)) he' (hs p m2).2⟩

theorem opersLog_opers {lg : List Log} (h : opersLog l cl env ds σ = some (env', ds', τ, lg)) : opers l cl env ds σ = some (env', ds', τ) := by
  obtain ⟨_, _, h1, _⟩ := log_trace h; exact h1

theorem count_start : ((List.range ops.size).filter fun j => !(Array.replicate ops.size false).getD j false).length ≤ ops.size := by
  have := List.length_filter_le (fun j => !(Array.replicate ops.size false).getD j false) (List.range ops.size)
  simpa using this

/-- A region that draws its order. -/
theorem draw_sound {s : Self} {id : Nat} (hm : P.follows .mixedOrders = true) (hdst : dstsOk s.N ops = true) (hok : drawOk ops (ops.toList.map (compOper P cfg s.fid ops)) = true) :
    CodeSound P cfg r s (.region id ops true) (.draw (ops.toList.map (compOper P cfg s.fid ops)) (chkOf ops (ops.toList.map (compOper P cfg s.fid ops))) (outsOf s.X (ops.toList.map (compOper P cfg s.fid ops)))) := by
  intro cl hcl n env ds σ x env' ds' τ C w a Q h hI he hx hd hN hf hr hQ
  generalize hl : ops.toList.map (compOper P cfg s.fid ops) = l at h hok
  have h' : codeDraw l (chkOf ops l) (outsOf s.X l) cl n ⟨env, ds⟩ σ = some (x, ⟨env', ds'⟩, τ) := h
  unfold codeDraw at h'
  cases ho : opersLog l cl env ds σ with
  | none => simp only [ho] at h'; cases h'
  | some q =>
    obtain ⟨e1, d1, s1, lg⟩ := q
    simp only [ho] at h'
    cases hc : checkLog lg (chkOf ops l) with
    | false => rw [hc] at h'; cases h'
    | true =>
      rw [hc, cond_true] at h'
      cases h'
      obtain ⟨T, hT, H⟩ := draw_reg hl.symm hok ho hc
      refine wpIn_region_any hm ?_
      have hlen : l.length = ops.size := by rw [← hl]; simp
      have e0 := hT.e0; have d0 := hT.d0; have s0 := hT.s0
      have e1' := hT.e1; have d1' := hT.d1; have s1' := hT.s1
      rw [hlen] at e1' d1' s1'
      have hst := DI.start (a := a) (N := (T.Sg ops.size).next) H hcl (Nat.le_refl _) (by rw [s0]; exact hI) (by rw [e0]; exact he) (by rw [d0]; exact hd) (by rw [s0, s1']; exact hf)
      refine any_sound (r := r) H hcl (Nat.le_refl _) (by rw [d0, d1']; exact hr) (fun i o hi d hdd => Nat.lt_of_lt_of_le (dsts_lt hdst i o hi d hdd) hN) (fun D a' w' hE hI' he' hd' hs' => ?_) ops.size _ 0 C a _ (by simp) count_start hst
      rw [s0, s1'] at hE
      rw [s1'] at hI'
      rw [e1'] at he'
      rw [d1'] at hd'
      obtain ⟨k1, k2⟩ := keep_R (l := l) he' hx (fun j hj => opers_env (opersLog_opers ho) j hj)
      exact hQ D a' w' hE hI' k1 k2 hd' hs'

theorem draw_next {l : List AOper} {chk : List (Nat × List Nat)} {outs : List Nat} : Nexts (.draw l chk outs) := by
  intro P cfg cl hcl n env ds σ x env' ds' τ h
  have h' : codeDraw l chk outs cl n ⟨env, ds⟩ σ = some (x, ⟨env', ds'⟩, τ) := h
  unfold codeDraw at h'
  cases ho : opersLog l cl env ds σ with
  | none => simp only [ho] at h'; cases h'
  | some q =>
    obtain ⟨e1, d1, s1, lg⟩ := q
    simp only [ho] at h'
    cases hc : checkLog lg chk with
    | false => rw [hc] at h'; cases h'
    | true =>
      rw [hc, cond_true] at h'
      cases h'
      exact opers_next hcl (opersLog_opers ho)

end Go.AM
