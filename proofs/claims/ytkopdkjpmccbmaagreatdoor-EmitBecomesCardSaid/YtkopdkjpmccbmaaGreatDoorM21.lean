/- A part of the proof of: EmitBecomes: what a term becomes by patterns, and a pattern's name, is what the document says, or the error is told. -/
import Derived.Test.YtkopdkjpmccbmaaGreatDoorM20
import Derived.Test.YtkopdkjpmccbmaaGreatDoorM19
namespace Go.AM
open Go.RowKit
variable {P : Program} {cfg : Cfg} {C D : Ctx} {σ τ : St} {w : World} {env env' : Env} {a : Act} {o : Oper} {v : AV} {ds ds' : List ADef} {cl : CallF} {r : Option Nat} {ops : Array Oper} {l : List AOper}

def firstF (A i : Nat) : Bool := decide (i < A)
def irr4 (x : Apf) (t : Nat) : Prop := t = x.s' ∨ t = x.ad ∨ t = x.n1 ∨ t = x.p

/-- What the first four operations leave, in whatever order. -/
theorem apf_reg {fid : Nat} {X : List Nat} {x : Apf} {oA oB oC oD oE oF : Oper} (hl : l = ops.toList.map (compOper P cfg fid ops)) (F : ApfFacts P X ops l x oA oB oC oD oE oF) {e4 : Env} {d4 : List ADef} {s4 : St}
    (h : opers (l.take x.A) cl env ds σ = some (e4, d4, s4)) : ∃ T, Reg P cfg fid ops l (firstF x.A) (irr4 x) cl T ∧ T.E 0 = env ∧ T.E ops.size = e4 ∧ (∀ k, T.D k = ds) ∧ (∀ k, T.Sg k = σ) ∧ d4 = ds ∧ s4 = σ ∧
      (∀ i, x.A ≤ i → T.E i = e4) ∧ ∀ (i : Nat) (co : AOper), i < x.A → l[i]? = some co → oper co cl (T.E i) ds σ = some (T.E (i + 1), ds, σ) := by
  obtain ⟨T0, hT⟩ := opers_trace h
  have hlen : l.length = x.A + 6 := by rw [hl]; simp [F.size]
  have hl4 : (l.take x.A).length = x.A := by simp [hlen]
  have run0 : ∀ (i : Nat) (co : AOper), i < x.A → l[i]? = some co → oper co cl (T0.E i) (T0.D i) (T0.Sg i) = some (T0.E (i + 1), T0.D (i + 1), T0.Sg (i + 1)) := fun i co hi hco => hT.run i co (by rw [List.getElem?_take_of_lt hi]; exact hco)
  -- nothing turns
  have quiet : ∀ i, i < x.A → T0.D (i + 1) = T0.D i ∧ T0.Sg (i + 1) = T0.Sg i := by
    intro i hi
    obtain ⟨co, hco, hq, _⟩ := F.quiet i hi
    obtain ⟨_, q1, q2⟩ := quietA_some hq
    obtain ⟨k1, k2⟩ := oper_cls (run0 i co hi hco) q1
    refine ⟨k1, ?_⟩
    rcases k2 with ⟨_, _, k2⟩ | ⟨_, u, _, k2⟩
    · exact k2
    · cases hk : cls co.op with
      | eff => exact absurd hk q1
      | new => exact absurd hk q2
      | pure => exact (pure_free hk _ _ _ _ k2).1
      | read => exact (read_at hk k2).1
  have still : ∀ i, i ≤ x.A → T0.D i = ds ∧ T0.Sg i = σ := by
    intro i
    induction i with
    | zero => intro _; exact ⟨hT.d0, hT.s0⟩
    | succ i ih =>
      intro hi
      obtain ⟨i1, i2⟩ := ih (by omega)
      obtain ⟨q1, q2⟩ := quiet i (by omega)
      exact ⟨q1.trans i1, q2.trans i2⟩
  have e4' : T0.E x.A = e4 := by have := hT.e1; rw [hl4] at this; exact this
  have d4' : d4 = ds := by have := hT.d1; rw [hl4] at this; rw [← this]; exact (still x.A (by omega)).1
  have s4' : s4 = σ := by have := hT.s1; rw [hl4] at this; rw [← this]; exact (still x.A (by omega)).2
  have hmin : ∀ i, i < x.A → Nat.min (i + 1) x.A = i + 1 := fun i hi => Nat.min_eq_left (by omega)
  have hrun : ∀ (i : Nat) (co : AOper), i < x.A → l[i]? = some co → oper co cl (T0.E (min i x.A)) ds σ = some (T0.E (min (i + 1) x.A), ds, σ) := fun i co hi hco => by
    have := run0 i co hi hco
    rw [(still i (by omega)).1, (still i (by omega)).2, (still (i + 1) (by omega)).1, (still (i + 1) (by omega)).2] at this
    rw [Nat.min_eq_left (by omega), Nat.min_eq_left (by omega)]; exact this
  have hEsz : T0.E (min ops.size x.A) = e4 := by rw [Nat.min_eq_right (by rw [F.size]; omega)]; exact e4'
  refine ⟨⟨fun i => T0.E (min i x.A), fun _ => ds, fun _ => σ⟩, ?_, hT.e0, hEsz, fun _ => rfl, fun _ => rfl, d4', s4', fun i hi => by show T0.E (min i x.A) = e4; rw [Nat.min_eq_right hi]; exact e4', hrun⟩
  have small : ∀ {i : Nat}, firstF x.A i = true → i < x.A := fun h => by simpa [firstF] using h
  refine ⟨by rw [hl]; simp, fun i o ho => by rw [hl]; exact comp_list ho, F.back, F.temps, fun i co hr hco t ht => ?_, fun i j ci cj hij hri hrj hi hj => ?_, fun i co hco hr => hrun i co (small hr) hco, fun i _ hr => ?_, fun j p cj cp hrj hrp hj hp _ hcp => ?_⟩
  · obtain ⟨co', hco', _, q1, q2, q3, q4, _⟩ := F.quiet i (small hr)
    rw [hco] at hco'; cases hco'
    rintro (h | h | h | h)
    · subst h; exact q1 ht
    · subst h; exact q2 ht
    · subst h; exact q3 ht
    · subst h; exact q4 ht
  · obtain ⟨ci', hi', qi, _⟩ := F.quiet i (small hri)
    obtain ⟨cj', hj', qj, _⟩ := F.quiet j (small hrj)
    rw [hi] at hi'; cases hi'
    rw [hj] at hj'; cases hj'
    right
    obtain ⟨_, a1, a2⟩ := quietA_some qi
    unfold pairOk
    cases hk : cls ci.op with
    | eff => exact absurd hk a1
    | new => exact absurd hk a2
    | pure => rfl
    | read => rfl
  · have hge : x.A ≤ i := by
      have : firstF x.A i = false := hr
      simp [firstF] at this; omega
    refine ⟨?_, rfl, rfl⟩
    show T0.E (min (i + 1) x.A) = T0.E (min i x.A)
    rw [Nat.min_eq_right (by omega), Nat.min_eq_right hge]
  · exfalso
    obtain ⟨cp', hp', qp, _⟩ := F.quiet p (small hrp)
    rw [hp] at hp'; cases hp'
    obtain ⟨_, a1, a2⟩ := quietA_some qp
    rcases hcp with h | h
    · exact a1 h
    · exact a2 h

/-- What comes behind the first part, in the order of the abstract list. -/
theorem apf_two {x : Apf} {e4 ef : Env} {df : List ADef} (h : opers [⟨some x.n1, none, .nilCheck (.t x.p0)⟩, ⟨some x.p, none, .fieldAddr x.off (.t x.n1)⟩, ⟨some x.s', none, .append1 x.n x.bytes (.t x.s) (.t x.q)⟩, ⟨none, none, .store 1 (.t x.p) (.t x.s')⟩] cl e4 ds σ = some (ef, df, τ))
    (n1 : x.n1 ≠ x.s) (n2 : x.p ≠ x.s) (n3 : x.n1 ≠ x.q) (n4 : x.p ≠ x.q) :
    ∃ (v0 vf v1 : AV) (s5 : St) (es : List AV) (tk : Tok), notNil (aget e4 x.p0) = some v0 ∧ fieldOf v0 x.off = some vf ∧ aget e4 x.s = .slice es tk ∧ appSlice es tk x.n x.bytes false [aget e4 x.q] σ = some (v1, s5) ∧ ef = put (put (put e4 (some x.n1) v0) (some x.p) vf) (some x.s') v1 ∧ df = ds ∧
      op_store 1 (.t x.p) (.t x.s') (put (put (put e4 (some x.n1) v0) (some x.p) vf) (some x.s') v1) s5 = some (.undef, τ) := by
  have h1 : (match oper (⟨some x.n1, none, .nilCheck (.t x.p0)⟩ : AOper) cl e4 ds σ with
      | some (env, ds, σ) => opers [⟨some x.p, none, .fieldAddr x.off (.t x.n1)⟩, ⟨some x.s', none, .append1 x.n x.bytes (.t x.s) (.t x.q)⟩, ⟨none, none, .store 1 (.t x.p) (.t x.s')⟩] cl env ds σ | none => none) = some (ef, df, τ) := h
  cases ha : oper (⟨some x.n1, none, .nilCheck (.t x.p0)⟩ : AOper) cl e4 ds σ with
  | none => rw [ha] at h1; cases h1
  | some q =>
    obtain ⟨e5, d5, s5⟩ := q
    rw [ha] at h1; simp only at h1
    obtain ⟨v0, k1, k2, k3⟩ := act_plain (cl := cl) (p := .nilCheck (.t x.p0)) rfl ha
    have h2 : (match oper (⟨some x.p, none, .fieldAddr x.off (.t x.n1)⟩ : AOper) cl e5 d5 s5 with
      | some (env, ds, σ) => opers [⟨some x.s', none, .append1 x.n x.bytes (.t x.s) (.t x.q)⟩, ⟨none, none, .store 1 (.t x.p) (.t x.s')⟩] cl env ds σ | none => none) = some (ef, df, τ) := h1
    cases hb : oper (⟨some x.p, none, .fieldAddr x.off (.t x.n1)⟩ : AOper) cl e5 d5 s5 with
    | none => rw [hb] at h2; cases h2
    | some q =>
      obtain ⟨e6, d6, s6⟩ := q
      rw [hb] at h2; simp only at h2
      obtain ⟨vf, m1, m2, m3⟩ := act_plain (cl := cl) (p := .fieldAddr x.off (.t x.n1)) rfl hb
      have k1' : ret1 (notNil (aget e4 x.p0)) σ = some (v0, s5) := k1
      obtain ⟨k4, k5⟩ := ret1_some k1'
      have m1' : ret1 (fieldOf (aget e5 x.n1) x.off) s5 = some (vf, s6) := m1
      obtain ⟨m4, m5⟩ := ret1_some m1'
      let y : Apz := { s := x.s, z := x.z, s' := x.s', ad := x.ad, k := x.k, q := x.q, p := x.p, t := x.t, u := x.u, t5 := x.t5, t6 := x.t6, t7 := x.t7, e := x.e, e' := x.e', e5 := x.e5, n := x.n, bytes := x.bytes, zc := .junk }
      obtain ⟨v1, s7, es, tk, q1, q2, q3, q4, q5⟩ := apz_two (x := y) h2
      have e5v : aget e5 x.n1 = v0 := by rw [k2, aget_put_self]
      have e6o : ∀ t, t ≠ x.n1 → t ≠ x.p → aget e6 t = aget e4 t := fun t h1 h2 => by
        rw [m2, k2]
        show aget ((x.p, vf) :: (x.n1, v0) :: e4) t = _
        rw [aget_cons, if_neg (fun e => h2 e.symm), aget_cons, if_neg (fun e => h1 e.symm)]
      have q1' : aget e6 x.s = .slice es tk := q1
      have q2' : appSlice es tk x.n x.bytes false [aget e6 x.q] s6 = some (v1, s7) := q2
      rw [e6o x.s n1.symm n2.symm] at q1'
      rw [e6o x.q n3.symm n4.symm, m5, k5] at q2'
      refine ⟨v0, vf, v1, s7, es, tk, k4, by rw [e5v] at m4; exact m4, q1', q2', by rw [q3, m2, k2], ?_, ?_⟩
      · rw [q4, m3, k3]
      · have q5' : op_store 1 (.t x.p) (.t x.s') (put e6 (some x.s') v1) s7 = some (.undef, τ) := q5
        rw [m2, k2] at q5'; exact q5'

theorem run_nilc {x0 : Operand} {ad : Addr} (ho : o.op = .nilCheck x0) (hx : a.eval x0 = .pointer (some ad)) (w : World) : (execOp a.eval o).run P w = .ok (.value (.pointer (some ad))) w := by
  unfold execOp; rw [ho]
  simp only [hx]; rfl
theorem run_fld {t : TypeId} {x0 : Operand} {i off fz b st : Nat} (hfl : fldT P t i = some (off, fz)) (h0 : fz ≠ 0) (ho : o.op = .fieldAddr t x0 i) (hx : a.eval x0 = .pointer (some ⟨b, st, none⟩)) (w : World) : (execOp a.eval o).run P w = .ok (.value (.pointer (some ⟨b, st + off, none⟩))) w := by
  obtain ⟨fs, f, ht, hf, rfl, hn⟩ := fldT_some hfl
  unfold execOp; rw [ho]
  simp only [Instr.fieldAt, Sem.run_bind, run_und ht, Result.andThen_ok, hf, hx, Instr.sureAddr, Sem.run_pure, fieldPlace, run_size hn, if_neg h0, add_at]

/-- The pattern's region. -/
theorem apf_sound {s : Self} {id : Nat} (hm : P.follows .mixedOrders = true) (hdst : dstsOk s.N ops = true) {x : Apf} (hok : apfOk P s.X ops (ops.toList.map (compOper P cfg s.fid ops)) x = true) :
    CodeSound P cfg r s (.region id ops true) (.region (apfList (ops.toList.map (compOper P cfg s.fid ops)) x) (outsOf s.X (apfList (ops.toList.map (compOper P cfg s.fid ops)) x))) := by
  intro cl hcl n env ds σ x' env' ds' τ C w a Q h hI he hx hd hN hf hr hQ
  generalize hl : ops.toList.map (compOper P cfg s.fid ops) = l at h hok
  obtain ⟨oA, oB, oC, oD, oE, oF, F⟩ := apf_facts hok
  have h' : codeRegion (apfList l x) (outsOf s.X (apfList l x)) cl n ⟨env, ds⟩ σ = some (x', ⟨env', ds'⟩, τ) := h
  unfold codeRegion at h'
  cases hop : opers (apfList l x) cl env ds σ with
  | none => simp only [hop] at h'; cases h'
  | some q =>
  obtain ⟨ef, df, sf⟩ := q
  simp only [hop] at h'; cases h'
  have hop0 := hop
  have hlD : opAt l (x.A + 3) = ⟨some x.n1, none, .nilCheck (.t x.p0)⟩ := by unfold opAt; rw [List.getD_eq_getElem?_getD, F.lD]; rfl
  have hlE : opAt l (x.A + 4) = ⟨some x.p, none, .fieldAddr x.off (.t x.n1)⟩ := by unfold opAt; rw [List.getD_eq_getElem?_getD, F.lE]; rfl
  have hlist : apfList l x = l.take x.A ++ [⟨some x.n1, none, .nilCheck (.t x.p0)⟩, ⟨some x.p, none, .fieldAddr x.off (.t x.n1)⟩, ⟨some x.s', none, .append1 x.n x.bytes (.t x.s) (.t x.q)⟩, ⟨none, none, .store 1 (.t x.p) (.t x.s')⟩] := by unfold apfList; rw [hlD, hlE]
  rw [hlist] at hop
  obtain ⟨ne1, ne2, ne3, ne4, ne5, ne6⟩ := F.ne
  obtain ⟨k1, k2, k3⟩ := F.ne2
  obtain ⟨aS1, aS2, aS3, aS4⟩ := F.ap x.s' (.inl rfl)
  obtain ⟨aA1, aA2, aA3, aA4⟩ := F.ap x.ad (.inr (.inl rfl))
  obtain ⟨aN1, aN2, aN3, aN4⟩ := F.ap x.n1 (.inr (.inr (.inl rfl)))
  obtain ⟨aP1, aP2, aP3, aP4⟩ := F.ap x.p (.inr (.inr (.inr rfl)))
  obtain ⟨e4, d4, s4, hop1, hop2⟩ := opers_append hop
  obtain ⟨T, H, t0, t1, tD, tS, hd4, hs4, tE, trun⟩ := apf_reg hl.symm F hop1
  rw [hd4, hs4] at hop2
  obtain ⟨v0, vf, v1, s5, es, tk, hv0, hvf, hes, happ, hef, hdf, hsto⟩ := apf_two hop2 aN4 aP4 aN2 aP2
  have hE4 : T.E x.A = e4 := tE x.A (Nat.le_refl _)
  have hA2 := F.A2
  -- the length, and the row of one zero
  obtain ⟨c2, c3, zc, hc2, hc3, hl2, hb3, hzc⟩ := F.c23
  obtain ⟨l1, l2, l3⟩ := len1_some hl2
  obtain ⟨m1, m2, zz, m3⟩ := bs1_some hb3
  have r2 := trun (x.A - 2) c2 (by omega) hc2
  have r3 := trun (x.A - 1) c3 (by omega) hc3
  rw [show x.A - 2 + 1 = x.A - 1 by omega] at r2
  rw [show x.A - 1 + 1 = x.A by omega, hE4] at r3
  obtain ⟨_, r2'⟩ := oper_cls r2 (by rw [l3]; simp [cls])
  obtain ⟨_, r3'⟩ := oper_cls r3 (by rw [m3]; simp [cls])
  rcases r2' with ⟨z1, _⟩ | ⟨_, v2, z2, z3⟩
  · rw [l2] at z1; cases z1
  rcases r3' with ⟨y1, _⟩ | ⟨_, v3, y2, y3⟩
  · rw [m2] at y1; cases y1
  rw [l1] at z2; rw [m1] at y2
  rw [m3] at y3
  obtain ⟨hv3, hzl, _⟩ := bs1_value y3
  have es2 : aget (T.E (x.A - 2)) x.s = .slice es tk := by
    rw [← hes, y2]
    show _ = aget ((x.z, v3) :: T.E (x.A - 1)) x.s
    rw [aget_cons, if_neg k2, z2]
    show _ = aget ((x.k, v2) :: T.E (x.A - 2)) x.s
    rw [aget_cons, if_neg k1]
  have hk4 : aget e4 x.k = .int .i64 es.length := by
    rw [y2]
    show aget ((x.z, v3) :: T.E (x.A - 1)) x.k = _
    rw [aget_cons, if_neg k3, z2, aget_put_self]
    rw [l3] at z3
    have z3' : op_lenSl (.t x.s) (T.E (x.A - 2)) σ = some (v2, σ) := z3
    unfold op_lenSl at z3'
    have : (Opd.t x.s).eval (T.E (x.A - 2)) = .slice es tk := es2
    rw [this] at z3'
    simp only [eq_lenOf_slice] at z3'
    cases z3'; rfl
  have hz4 : aget e4 x.z = .slice [stripCell zc] .full := by rw [y2, aget_put_self, hv3]
  -- sizes
  obtain ⟨z0, hz0, hzn⟩ := Option.map_eq_some_iff.1 F.zero
  obtain ⟨i, zv, hA, hsz, hby, _⟩ := appAt_of (elemT_some F.e) (elemT_some F.e') F.n F.n0 F.bytes hz0 hzn
  generalize hE6 : put (put e4 (some x.n1) v0) (some x.p) vf = e6 at hef hsto
  have hn1 : s5.next ≤ τ.next := by
    have : op (.store 1 (.t x.p) (.t x.s')) (put e6 (some x.s') v1) s5 = some (.undef, τ) := hsto
    exact op_next this
  have hn0 : σ.next ≤ s5.next := appSlice_next happ
  have e6p : aget e6 x.p = vf := by rw [← hE6, aget_put_self]
  -- the store
  unfold op_store at hsto
  have ep : (Opd.t x.p).eval (put e6 (some x.s') v1) = vf := by
    show aget ((x.s', v1) :: e6) x.p = _
    rw [aget_cons, if_neg ne4, e6p]
  have es' : (Opd.t x.s').eval (put e6 (some x.s') v1) = v1 := aget_put_self
  rw [ep, es'] at hsto
  obtain ⟨tk1, hv1⟩ := appSlice_slice happ
  have hv1c : v1.cells = [v1] := by rw [hv1]; rfl
  refine wpIn_region_any hm ?_
  have hS0 : T.Sg 0 = σ := tS 0
  have hst := DI.start (a := a) (N := (T.Sg ops.size).next) H hcl (Nat.le_refl _) (by rw [hS0]; exact hI) (by rw [t0]; exact he) (by rw [tD]; exact hd) (by rw [hS0, tS]; exact fun i h1 h2 => by omega)
  rw [hS0] at hst
  obtain ⟨fz, hfl, hfz⟩ := F.fld
  -- the append, and what is left behind it
  have step4 : ∀ (fuel : Nat) (listed : Array Bool) (rr : Nat) (C1 : Ctx) (a1 : Act) (w1 : World), listed.size = ops.size → ((List.range ops.size).filter fun j => !(listed.setIfInBounds x.A true).getD j false).length ≤ fuel → Closed ops (fun j => (listed.setIfInBounds x.A true).getD j false) →
      (∀ j, listed.getD j false = true ↔ j < x.A) → DI P cfg ops l (firstF x.A) (irr4 x) T C σ w (T.Sg ops.size).next a.tmps.size (fun j => listed.getD j false) rr [] C1 a1 w1 →
      wpOpIn (FR r) 0 P ops Q x.A (wpAnyIn (FR r) 0 P .any ops Q fuel (listed.setIfInBounds x.A true)) a1 w1 := by
    intro fuel listed rr C1 a1 w1 hls hcnt hclo hS hD
    have hpend : pend T (firstF x.A) (fun j => listed.getD j false) rr ops.size = [] := by
      have : ∀ b, pend T (firstF x.A) (fun j => listed.getD j false) rr b = [] := by
        intro b
        induction b with
        | zero => rfl
        | succ b ih => rw [pend, adds_same (by rw [tS, tS]), ih]; simp
      exact this _
    have hstt : (⟨[] ++ (pend T (firstF x.A) (fun j => listed.getD j false) rr ops.size ++ (T.Sg rr).heap), (T.Sg ops.size).next⟩ : St) = σ := by rw [hpend, tS, tS]; rfl
    have hI1 := hD.inv; rw [hstt] at hI1
    have hE1 := hD.ev; rw [hstt] at hE1
    have hT : ∀ t, t ≠ x.s' → t ≠ x.ad → t ≠ x.n1 → t ≠ x.p → VR C1 (aget e4 t) (a1.tmps.getD t undef) := fun t h1 h2 h3 h4 => by
      have := hD.tmps t (fun h => h.elim h1 fun h => h.elim h2 fun h => h.elim h3 h4) x.A (by rw [F.size]; omega) (fun i co hli hri hdi => by
        have : i < x.A := by simpa [firstF] using hri
        exact ⟨fun _ => this, fun _ => (hS i).2 this⟩)
      rw [hE4] at this; exact this
    have hsl : x.s' < a1.tmps.size := by
      rw [hD.size]
      exact Nat.lt_of_lt_of_le (dsts_lt hdst x.A oA F.hA _ F.dA) hN
    have hadl : x.ad < a1.tmps.size := by
      rw [hD.size]
      exact Nat.lt_of_lt_of_le (dsts_lt hdst (x.A + 1) oB F.hB _ F.dB) hN
    have hnl : x.n1 < a1.tmps.size := by
      rw [hD.size]
      exact Nat.lt_of_lt_of_le (dsts_lt hdst (x.A + 3) oD F.hD _ F.dD) hN
    have hpl : x.p < a1.tmps.size := by
      rw [hD.size]
      exact Nat.lt_of_lt_of_le (dsts_lt hdst (x.A + 4) oE F.hE _ F.dE) hN
    -- which temporaries are apart
    have q_z : x.z ≠ x.s' ∧ x.z ≠ x.ad ∧ x.z ≠ x.n1 ∧ x.z ≠ x.p := by
      obtain ⟨co, hco, _, k1, k2, k3, k4, _⟩ := F.quiet (x.A - 1) (by omega)
      rw [hc3] at hco; cases hco
      have hm : x.z ∈ namesA c3 := List.mem_append_right _ (by rw [m1]; simp)
      exact ⟨fun e => k1 (e ▸ hm), fun e => k2 (e ▸ hm), fun e => k3 (e ▸ hm), fun e => k4 (e ▸ hm)⟩
    have hus := hT x.s aS4.symm aA4.symm aN4.symm aP4.symm
    rw [hes] at hus
    have huz := hT x.z q_z.1 q_z.2.1 q_z.2.2.1 q_z.2.2.2
    rw [hz4] at huz
    have hux := hT x.q aS2.symm aA2.symm aN2.symm aP2.symm
    have huk := hT x.k aS1.symm aA1.symm aN1.symm aP1.symm
    rw [hk4] at huk
    have hup := hT x.p0 aS3.symm aA3.symm aN3.symm aP3.symm
    have hzcells : (stripCell zc).cells.length = i.size := by rw [strip_cells, hzl, hsz]
    obtain ⟨adz, capz, vz, hrow⟩ := row_at hI1 huz (show elemsOf (.slice [stripCell zc] .full) σ i.size = some [stripCell zc] from rfl) hA.hp (fun e he => by simp only [List.mem_singleton] at he; subst he; exact hzcells)
    have hf5 : Fresh C1 σ.next s5.next := (hf.after hE1).sub (Nat.le_refl _) hn1
    rw [← hsz, ← hby] at happ
    obtain ⟨b, off, cap, w2, cs1, e1, hrun, _, hb1, hfit, hsize, hkeep, _, hxs, hxo, D, hE2, hI2, hvr⟩ := apz_run hA hI1 hus hrow (zcOk_cells hzc) hux happ hf5
    -- the row's variable
    generalize hupe : a1.tmps.getD x.p0 undef = up at hup
    have hup' := hup.mono hE2.le
    have hst2 : ∃ (id offp bp st lim : Nat) (lp l' : List AV), v0 = .ptr id offp ∧ vf = .ptr id (offp + x.off) ∧ up = .pointer (some ⟨bp, st + offp, none⟩) ∧ D.κ id = some (.cells bp st lim) ∧ s5.cells id = some lp ∧ splice lp (offp + x.off) [v1] = some l' ∧ τ = s5.set id (.cells l') ∧ isCell v1 = true := by
      rw [hv1c] at hsto
      generalize aget e4 x.p0 = pv at hv0 hup'
      cases hup' <;> simp at hv0
      · rename_i id offp bp st lim hκ
        subst hv0
        simp at hvf
        subst hvf
        simp only [eq_storeCells_ptr] at hsto
        unfold storePtr at hsto
        cases hlp : s5.cells id with
        | none => rw [hlp] at hsto; cases hsto
        | some lp =>
          rw [hlp] at hsto; simp only at hsto
          cases hc : (Nat.beq [v1].length 1 && [v1].all isCell) with
          | false => rw [hc] at hsto; cases hsto
          | true =>
            rw [hc, cond_true] at hsto
            cases hsp : splice lp (offp + x.off) [v1] with
            | none => rw [hsp] at hsto; cases hsto
            | some l' =>
              rw [hsp] at hsto; cases hsto
              refine ⟨id, offp, bp, st, lim, lp, l', rfl, rfl, rfl, hκ, hlp, hsp, rfl, ?_⟩
              rw [Bool.and_eq_true] at hc
              simpa using hc.2
      · rename_i hS hV
        subst hv0
        simp at hvf
        subst hvf
        simp only [eq_storeCells_eptr] at hsto
        cases hsto
    obtain ⟨idp, offp, bp, st, lim, lp, lp', hv0e, hvfe, hupv, hκp, hcp, hsp, hτ, hcell⟩ := hst2
    obtain ⟨csp, ep', hbp, hfitp, honep, hseal, hI3, hE3⟩ := store_row_at hI2 (cells_get hcp) hsp hκp (VRs.one hvr) (fun c hc => by simp only [List.mem_singleton] at hc; subst hc; exact hcell)
    -- the two blocks are apart
    have hbb : b ≠ bp := by
      intro e
      subst e
      rw [hv1] at hvr
      generalize hys : es ++ [stripCell (aget e4 x.q)] = ys at hvr
      have hyl : es.length < ys.length := by rw [← hys]; simp
      obtain ⟨m, hm⟩ : ∃ m, m = es.length + 1 := ⟨_, rfl⟩
      rw [← hm] at hvr
      cases hvr with
      | slice _ _ _ b' off' cap' size u hsz' hcap' ha' hel' hS' hV' htk' =>
        have hg := List.getElem?_eq_getElem hyl
        have hne : ys ≠ [] := fun e => by subst e; simp at hyl
        have hb' : b = b' := by have := ha' hne; simp only [Option.some.injEq, Addr.mk.injEq] at this; exact this.1
        subst hb'
        have hcl := hel' _ _ hg
        have h0 : 0 < (ys[es.length]).cells.length := by rw [hcl]; exact hsz'
        have := hS' _ _ 0 _ hg (List.getElem?_eq_getElem h0)
        rw [hseal] at this; cases this
    have hpo : st + (offp + x.off) = st + offp + x.off := by omega
    rw [hpo] at hfitp
    let X : Array Value := overC csp (st + offp + x.off) [.slice (some ⟨b, off, none⟩) (es.length + 1) cap]
    let Y : Array Value := overC cs1 (off + es.length * i.size) (a1.tmps.getD x.q undef).cells.toList
    let sv : Value := .slice (some ⟨b, off, none⟩) (es.length + 1) cap
    let ptr : Value := .pointer (some ⟨b, off + es.length * i.size, none⟩)
    let pn : Value := .pointer (some ⟨bp, st + offp, none⟩)
    let pf : Value := .pointer (some ⟨bp, st + offp + x.off, none⟩)
    let AA : Nat → Nat → Act → Prop := fun c k a' => a'.tmps.getD x.s' undef = sv ∧ (∀ t, t ≠ x.s' → t ≠ x.ad → t ≠ x.n1 → t ≠ x.p → a'.tmps.getD t undef = a1.tmps.getD t undef) ∧
      (1 ≤ c → a'.tmps.getD x.ad undef = ptr) ∧ (1 ≤ k → a'.tmps.getD x.n1 undef = pn) ∧ (2 ≤ k → a'.tmps.getD x.p undef = pf) ∧ a'.defers = a1.defers ∧ a'.tmps.size = a1.tmps.size
    let WW : Nat → Nat → World := fun c k => W2 w2 b bp X Y (decide (2 ≤ c)) (decide (3 ≤ k))
    -- the append itself
    obtain ⟨c, ho4, hcc, hca, hct⟩ := appArgs_some F.aA
    have ha' : c.args = #[.tmp x.s, .tmp x.z] := Array.ext' hca
    have hty' : c.argTypes = #[x.t, x.u] := Array.ext' hct
    have run4 : (execOp a1.eval oA).run P w1 = .ok (.value (.slice (some ⟨b, off, none⟩) (es.length + 1) cap)) w2 := by
      unfold execOp; rw [ho4]
      simp only [resolve, hcc, ha', hty', Sem.run_bind, Sem.run_pure, Result.andThen_ok, invoke, builtin, List.map_toArray, List.map_cons, List.map_nil]
      have e1 : a1.eval (.tmp x.s) = a1.tmps.getD x.s undef := rfl
      have e2 : a1.eval (.tmp x.z) = a1.tmps.getD x.z undef := rfl
      rw [e1, e2, hrun]; rfl
    refine wp_run F.hA F.gA (fun c' => by rw [ho4]; simp) run4 (.inl rfl) ?_
    rw [F.dA]
    have hAA0 : AA 0 0 (a1.put (some x.s') (.slice (some ⟨b, off, none⟩) (es.length + 1) cap)) := ⟨getD_put_eq hsl, fun t h _ _ _ => getD_put_ne (fun e => h e.symm), fun h => by omega, fun h => by omega, fun h => by omega, put_defers _ _ _, put_size _ _ _⟩
    have hwb : ∀ d7, (W2 w2 b bp X Y false d7).heap[b]? = some (.cells cs1 e1 (0, 0)) := fun d7 => by
      cases d7 with
      | false => exact hb1
      | true => exact (setRow_other w2 bp b X hbb).trans hb1
    have hwp : ∀ d6, (W2 w2 b bp X Y d6 false).heap[bp]? = some (.cells csp ep' (0, 0)) := fun d6 => by
      cases d6 with
      | true => exact hbp
      | false => exact (setRow_other w2 b bp Y hbb.symm).symm.trans hbp
    refine phase2f (r := r) (P := P) (Q := Q) F.size F.back F.b21 F.b43 F.b54 AA WW ?_ ?_ ?_ ?_ ?_ ?_ fuel (listed.setIfInBounds x.A true) 0 0 _ (by omega) (by omega) (by simpa using hls) hclo hcnt (fun j => by
        by_cases e : j = x.A
        · subst e
          rw [Array.getD_eq_getD_getElem?, Array.getElem?_setIfInBounds_self_of_lt (by rw [hls, F.size]; omega)]; simp
        · rw [getD_set_ne false (fun h => e h.symm), hS]; omega) hAA0
    · intro k a' K hk ha hK
      obtain ⟨q1, q2, q3, q4, q5, q6, q7⟩ := ha
      have e1 : a'.eval (.tmp x.s') = .slice (some ⟨b, off, none⟩) (es.length + 1) cap := q1
      have e2 : a'.eval (.tmp x.k) = .int .i64 (es.length : Int) := by
        show a'.tmps.getD x.k undef = _
        rw [q2 x.k aS1.symm aA1.symm aN1.symm aP1.symm]
        generalize a1.tmps.getD x.k undef = u at huk
        cases huk; rfl
      have hr := run_place (a := a') (elemT_some F.e5) F.n5 (idxArgs_some F.aB) e1 e2 (Nat.lt_succ_self _) (WW 0 k)
      rw [← hsz] at hr
      refine wp_run F.hB F.gB (fun c' => by rw [idxArgs_some F.aB]; simp) hr (.inl rfl) ?_
      rw [F.dB]
      exact hK _ ⟨(getD_put_ne ne1).trans q1, fun t h1 h2 h3 h4 => (getD_put_ne (fun e => h2 e.symm)).trans (q2 t h1 h2 h3 h4), fun _ => getD_put_eq (by rw [q7]; exact hadl), fun h => (getD_put_ne ne3).trans (q4 h), fun h => (getD_put_ne ne2).trans (q5 h), (put_defers _ _ _).trans q6, (put_size _ _ _).trans q7⟩
    · intro k a' K hk ha hK
      obtain ⟨q1, q2, q3, q4, q5, q6, q7⟩ := ha
      have e1 : a'.eval (.tmp x.ad) = .pointer (some ⟨b, off + es.length * i.size, none⟩) := q3 (Nat.le_refl _)
      have e2 : a'.eval (.tmp x.q) = a1.tmps.getD x.q undef := q2 x.q aS2.symm aA2.symm aN2.symm aP2.symm
      have hr := run_put (a := a') (P := P) F.n6 (storeArgs_some F.aC) e1 (by rw [e2, hxs, hsz]) (hwb (decide (3 ≤ k))) (by rw [← hsz]; exact hfit) (by rw [e2]; exact hxo)
      rw [e2] at hr
      refine wp_run F.hC F.gC (fun c' => by rw [storeArgs_some F.aC]; simp) hr (.inr ⟨rfl, rfl⟩) ?_
      rw [F.dC]
      have ew : (W2 w2 b bp X Y false (decide (3 ≤ k))).setRow b (overC cs1 (off + es.length * i.size) (a1.tmps.getD x.q undef).cells.toList) = WW 2 k := by
        show _ = W2 w2 b bp X Y true (decide (3 ≤ k))
        cases decide (3 ≤ k) with
        | false => rfl
        | true => exact setRow_comm w2 hbb.symm X Y
      rw [ew]; exact hK a' ⟨q1, q2, fun _ => q3 (Nat.le_refl _), q4, q5, q6, q7⟩
    · intro c a' K hc ha hK
      obtain ⟨q1, q2, q3, q4, q5, q6, q7⟩ := ha
      have e1 : a'.eval (.tmp x.p0) = .pointer (some ⟨bp, st + offp, none⟩) := by
        show a'.tmps.getD x.p0 undef = _
        rw [q2 x.p0 aS3.symm aA3.symm aN3.symm aP3.symm, hupe, hupv]
      have hr := run_nilc (P := P) (nilArgs_some F.aD) e1 (WW c 0)
      refine wp_run F.hD F.gD (fun c' => by rw [nilArgs_some F.aD]; simp) hr (.inl rfl) ?_
      rw [F.dD]
      exact hK _ ⟨(getD_put_ne ne5.symm).trans q1, fun t h1 h2 h3 h4 => (getD_put_ne (fun e => h3 e.symm)).trans (q2 t h1 h2 h3 h4), fun h => (getD_put_ne ne3.symm).trans (q3 h), fun _ => getD_put_eq (by rw [q7]; exact hnl), fun h => by omega, (put_defers _ _ _).trans q6, (put_size _ _ _).trans q7⟩
    · intro c a' K hc ha hK
      obtain ⟨q1, q2, q3, q4, q5, q6, q7⟩ := ha
      have e1 : a'.eval (.tmp x.n1) = .pointer (some ⟨bp, st + offp, none⟩) := q4 (Nat.le_refl _)
      have hr := run_fld (P := P) hfl hfz (fldArgs_some F.aE) e1 (WW c 1)
      refine wp_run F.hE F.gE (fun c' => by rw [fldArgs_some F.aE]; simp) hr (.inl rfl) ?_
      rw [F.dE]
      exact hK _ ⟨(getD_put_ne ne4.symm).trans q1, fun t h1 h2 h3 h4 => (getD_put_ne (fun e => h4 e.symm)).trans (q2 t h1 h2 h3 h4), fun h => (getD_put_ne ne2.symm).trans (q3 h), fun h => (getD_put_ne ne6.symm).trans (q4 (Nat.le_refl _)), fun _ => getD_put_eq (by rw [q7]; exact hpl), (put_defers _ _ _).trans q6, (put_size _ _ _).trans q7⟩
    · intro c a' K hc ha hK
      obtain ⟨q1, q2, q3, q4, q5, q6, q7⟩ := ha
      have e1 : a'.eval (.tmp x.p) = .pointer (some ⟨bp, st + offp + x.off, none⟩) := q5 (Nat.le_refl _)
      have e2 : a'.eval (.tmp x.s') = .slice (some ⟨b, off, none⟩) (es.length + 1) cap := q1
      have hr := run_put (a := a') (P := P) F.n7 (storeArgs_some F.aF) e1 (by rw [e2]; rfl) (hwp (decide (2 ≤ c))) hfitp (by rw [e2]; exact honep)
      rw [e2] at hr
      refine wp_run F.hF F.gF (fun c' => by rw [storeArgs_some F.aF]; simp) hr (.inr ⟨rfl, rfl⟩) ?_
      rw [F.dF]
      have ew : (W2 w2 b bp X Y (decide (2 ≤ c)) false).setRow bp (overC csp (st + offp + x.off) (Value.slice (some ⟨b, off, none⟩) (es.length + 1) cap).cells.toList) = WW c 3 := rfl
      rw [ew]; exact hK a' ⟨q1, q2, q3, fun _ => q4 (by omega), fun _ => q5 (Nat.le_refl _), q6, q7⟩
    · intro a' ha
      obtain ⟨q1, q2, q3, q4, q5, q6, q7⟩ := ha
      have hEf := (hE1.trans hE2).trans hE3
      have hEnv : EnvR D ef a'.tmps := fun t => by
        have hag : aget ef t = if x.s' = t then v1 else if x.p = t then vf else if x.n1 = t then v0 else aget e4 t := by
          rw [hef, ← hE6]
          show aget ((x.s', v1) :: (x.p, vf) :: (x.n1, v0) :: e4) t = _
          rw [aget_cons, aget_cons, aget_cons]
        by_cases h1 : t = x.s'
        · subst h1
          rw [q1, hag, if_pos rfl]; exact hvr
        · by_cases h2 : t = x.p
          · subst h2
            rw [q5 (by omega), hag, if_neg ne4, if_pos rfl, hvfe]
            show VR D _ (.pointer (some ⟨bp, st + offp + x.off, none⟩))
            rw [← hpo]; exact .ptr _ _ _ _ _ hκp
          · by_cases h3 : t = x.n1
            · subst h3
              rw [q4 (by omega), hag, if_neg ne5, if_neg ne6.symm, if_pos rfl, hv0e]
              exact .ptr _ _ _ _ _ hκp
            · by_cases h4 : t = x.ad
              · subst h4
                have hno : ∀ o ∈ apfList l x, o.dst ≠ some x.ad := by
                  intro o ho hdo
                  rw [hlist] at ho
                  rcases List.mem_append.1 ho with ho | ho
                  · obtain ⟨j, hj⟩ := List.mem_iff_getElem?.1 ho
                    have hj4 : j < x.A := by have := (List.getElem?_eq_some_iff.1 hj).1; simp at this; omega
                    rw [List.getElem?_take_of_lt hj4] at hj
                    obtain ⟨co, hco, _, _, k2, _⟩ := F.quiet j hj4
                    rw [hj] at hco; cases hco
                    exact k2 (List.mem_append_right _ (by rw [hdo]; simp))
                  · simp only [List.mem_cons, List.not_mem_nil, or_false] at ho
                    rcases ho with rfl | rfl | rfl | rfl
                    · simp only [Option.some.injEq] at hdo; exact ne3 hdo.symm
                    · simp only [Option.some.injEq] at hdo; exact ne2 hdo.symm
                    · simp only [Option.some.injEq] at hdo; exact ne1 hdo.symm
                    · cases hdo
                rw [opers_env hop0 x.ad hno]
                have : aget env x.ad = .junk := Classical.byContradiction fun h => F.adX (hx x.ad h)
                rw [this]; exact .junk _
              · rw [q2 t h1 h4 h3 h2, hag, if_neg (fun e => h1 e.symm), if_neg (fun e => h2 e.symm), if_neg (fun e => h3 e.symm)]
                exact (hT t h1 h4 h3 h2).mono hE2.le
      obtain ⟨k1, k2⟩ := keep_R (l := apfList l x) hEnv hx (fun j hj => opers_env hop0 j hj)
      rw [hpo] at hEf hI3
      refine hQ D _ _ (hτ ▸ hEf) (hτ ▸ hI3) k1 k2 ?_ ?_
      · rw [q6, hdf]
        have := hD.defs
        rw [tD] at this
        exact this.mono hE2.le
      · rw [q7]; exact hD.size
  -- the first part, in whatever order
  have phase1 : ∀ (fuel : Nat) (listed : Array Bool) (rr : Nat) (C1 : Ctx) (a1 : Act) (w1 : World), listed.size = ops.size → ((List.range ops.size).filter fun j => !listed.getD j false).length ≤ fuel → (∀ j, x.A ≤ j → listed.getD j false = false) →
      DI P cfg ops l (firstF x.A) (irr4 x) T C σ w (T.Sg ops.size).next a.tmps.size (fun j => listed.getD j false) rr [] C1 a1 w1 → wpAnyIn (FR r) 0 P .any ops Q fuel listed a1 w1 := by
    intro fuel
    induction fuel with
    | zero =>
      intro listed rr C1 a1 w1 hls hc hS hD
      exfalso
      have : x.A ∈ (List.range ops.size).filter fun j => !listed.getD j false := by
        rw [List.mem_filter, List.mem_range]
        exact ⟨by rw [F.size]; omega, by rw [hS x.A (Nat.le_refl _)]; rfl⟩
      have := List.length_pos_of_mem this
      omega
    | succ fuel ih =>
      intro listed rr C1 a1 w1 hls hc hS hD
      refine ⟨fun hr => ?_, fun i hi => ?_⟩
      · have := all_done F.back hls hr x.A (by rw [F.size]; omega)
        rw [hS x.A (Nat.le_refl _)] at this; cases this
      rw [mem_ready] at hi
      obtain ⟨h1, o, ho, h2⟩ := hi
      have hilt : i < ops.size := (Array.getElem?_eq_some_iff.1 ho).1
      have hil : i < listed.size := by omega
      have hSi : listed.getD i false = false := by
        rw [Array.getD_eq_getD_getElem?, Array.getElem?_eq_getElem hil] at h1 ⊢
        simpa using h1
      have hbit : ∀ j, ((Region.before ops).getD i 0).testBit j = true → listed.getD j false = true := fun j hj => hD.closed.ready F.back ho h2 hj
      have hcnt : ((List.range ops.size).filter fun j => !(listed.setIfInBounds i true).getD j false).length < ((List.range ops.size).filter fun j => !listed.getD j false).length := by
        refine filter_lt (i := i) (fun y hy => ?_) (List.mem_range.2 hilt) (by rw [hSi]; rfl) ?_
        · by_cases e : y = i
          · subst e; rw [hSi]; rfl
          · rw [getD_set_ne false (fun h => e h.symm)] at hy; exact hy
        · rw [Array.getD_eq_getD_getElem?, Array.getElem?_setIfInBounds_self_of_lt hil]; rfl
      by_cases hi4 : i < x.A
      · refine reg_step (r := r) H hcl (by rw [hS0]; exact Nat.le_refl _) (Nat.le_refl _) (.inr (by rw [tD, tD])) hD ho (by simp [firstF, hi4]) hSi h2 (fun d hdd => Nat.lt_of_lt_of_le (dsts_lt hdst i o ho d hdd) hN) fun rr' D' a' w' _ _ _ hD' => ?_
        rw [← setOf_listed hil] at hD'
        refine ih (listed.setIfInBounds i true) rr' D' a' w' (by simpa using hls) (by omega) (fun j hj => ?_) hD'
        rw [getD_set_ne false (by omega)]; exact hS j hj
      · have hi4' : i = x.A := by
          apply Classical.byContradiction
          intro hne
          have hcase : i = x.A + 1 ∨ i = x.A + 2 ∨ i = x.A + 3 ∨ i = x.A + 4 ∨ i = x.A + 5 := by have := F.size; omega
          have hno : ∀ j, x.A ≤ j → ¬((Region.before ops).getD i 0).testBit j = true := fun j hj hb => by
            have := hbit j hb
            rw [hS j hj] at this; cases this
          rcases hcase with rfl | rfl | rfl | rfl | rfl
          · exact hno x.A (by omega) F.b10
          · exact hno (x.A + 1) (by omega) F.b21
          · exact hno x.A (by omega) F.b30
          · exact hno (x.A + 3) (by omega) F.b43
          · exact hno (x.A + 4) (by omega) F.b54
        subst hi4'
        refine step4 fuel listed rr C1 a1 w1 hls (by omega) ?_ (fun j => ⟨fun h => Classical.byContradiction fun hn => absurd h (by rw [hS j (by omega)]; simp), fun h => ?_⟩) hD
        · intro j oj hj hoj e he' hbd
          by_cases ej : j = x.A
          · subst ej; rw [ho] at hoj; cases hoj
            exact getD_set_true (h2 e he' hbd)
          · have hj' : (listed.setIfInBounds x.A true).getD j false = true := hj
            rw [getD_set_ne false (fun h => ej h.symm)] at hj'
            exact getD_set_true (hD.closed j oj hj' hoj e he' hbd)
        · obtain ⟨_, _, _, _, _, _, _, hb⟩ := F.quiet j h
          exact hbit j hb
  exact phase1 ops.size _ 0 C a _ (by simp) count_start (fun j _ => by
    rw [Array.getD_eq_getD_getElem?]
    by_cases h : j < ops.size
    · rw [Array.getElem?_eq_getElem (by simpa using h)]; simp
    · rw [Array.getElem?_eq_none (by simpa using h)]; rfl) hst

end Go.AM
namespace Go.AM
variable {P : Program} {cfg : Cfg}

theorem apz_ok (hm : P.follows .mixedOrders = true) (r : Option Nat) (s : Self) (id : Nat) (ops : Array Oper) (hd : dstsOk s.N ops = true) : CodeSound P cfg r s (.region id ops true) (compApz P s.X ops (ops.toList.map (compOper P cfg s.fid ops))) := by
  unfold compApz
  cases hf : findApz P ops (ops.toList.map (compOper P cfg s.fid ops)) with
  | none => exact bad_sound
  | some x =>
    simp only
    cases hok : apzOk P s.X ops (ops.toList.map (compOper P cfg s.fid ops)) x with
    | false => exact bad_sound
    | true => exact apz_sound hm hd hok
theorem apf_ok (hm : P.follows .mixedOrders = true) (r : Option Nat) (s : Self) (id : Nat) (ops : Array Oper) (hd : dstsOk s.N ops = true) : CodeSound P cfg r s (.region id ops true) (compApf P s.X ops (ops.toList.map (compOper P cfg s.fid ops))) := by
  unfold compApf
  cases hf : findApf P ops (ops.toList.map (compOper P cfg s.fid ops)) with
  | none => exact bad_sound
  | some x =>
    simp only
    cases hok : apfOk P s.X ops (ops.toList.map (compOper P cfg s.fid ops)) x with
    | false => exact bad_sound
    | true => exact apf_sound hm hd hok
theorem pat_ok (hm : P.follows .mixedOrders = true) : PatOk P cfg := by
  intro r s id ops hd
  unfold compPat
  cases hf : findMap (ops.toList.map (compOper P cfg s.fid ops)) with
  | none =>
    simp only
    cases hb : (compApz P s.X ops (ops.toList.map (compOper P cfg s.fid ops))).isBad with
    | false => exact apz_ok hm r s id ops hd
    | true => exact apf_ok hm r s id ops hd
  | some m =>
    simp only
    cases hok : mapOk ops (ops.toList.map (compOper P cfg s.fid ops)) m with
    | false => exact apz_ok hm r s id ops hd
    | true => exact map_sound hm hd hok

/-! ### A table, by its parts -/
def TreeOk (P : Program) (cfg : Cfg) (t : Tree AFunc) : Prop := ∀ (n : Nat) (fd : AFunc), t.get n = some fd → FuncOk P cfg n fd
theorem tree_leaf : TreeOk P cfg .leaf := fun _ _ h => by cases h
theorem tree_node {n : Nat} {v : AFunc} {l r : Tree AFunc} (h : FuncOk P cfg n v) (hl : TreeOk P cfg l) (hr : TreeOk P cfg r) : TreeOk P cfg (.node n v l r) := by
  intro i fd hg
  have hg' : (bif Nat.beq i n then some v else bif Nat.blt i n then l.get i else r.get i) = some fd := hg
  cases h1 : Nat.beq i n with
  | true =>
    rw [h1] at hg'; cases hg'
    have := Nat.eq_of_beq_eq_true h1
    subst this; exact h
  | false =>
    rw [h1, cond_false] at hg'
    cases h2 : Nat.blt i n with
    | true => rw [h2] at hg'; exact hl i fd hg'
    | false => rw [h2] at hg'; exact hr i fd hg'
theorem func_ok {n : Nat} {fn : Func} {c : Code} {fd : AFunc} (h1 : ∀ (cargs : Array Value) (w : World), (callFunc n cargs).run P w = .ok (.enter n cargs) w) (h2 : P.funcs[n]? = some fn) (h3 : fn.body = some c) (h4 : compFunc P cfg n fn = some fd) : FuncOk P cfg n fd := ⟨h1, fn, c, h2, h3, h4⟩
theorem body_of {n : Nat} {fn : Func} {fd : AFunc} (h : compFunc P cfg n fn = some fd) : ∃ c, fn.body = some c := by
  unfold compFunc at h
  cases hb : fn.body with
  | none => rw [hb] at h; cases h
  | some c => exact ⟨c, rfl⟩
theorem func_ok' {n : Nat} {fn : Func} {fd : AFunc} (h1 : ∀ (cargs : Array Value) (w : World), (callFunc n cargs).run P w = .ok (.enter n cargs) w) (h2 : P.funcs[n]? = some fn) (h4 : compFunc P cfg n fn = some fd) : FuncOk P cfg n fd := by
  obtain ⟨c, hc⟩ := body_of h4
  exact func_ok h1 h2 hc h4

end Go.AM
