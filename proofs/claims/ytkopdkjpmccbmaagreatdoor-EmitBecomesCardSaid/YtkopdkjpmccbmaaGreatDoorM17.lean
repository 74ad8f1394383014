/- A part of the proof of: EmitBecomes: what a term becomes by patterns, and a pattern's name, is what the document says, or the error is told. -/
import Derived.Test.YtkopdkjpmccbmaaGreatDoorM16
namespace Go.AM
open Go.RowKit
variable {P : Program} {cfg : Cfg} {C D : Ctx} {σ τ : St} {w : World} {env env' : Env} {a : Act} {o : Oper} {v : AV} {ds ds' : List ADef} {cl : CallF} {r : Option Nat} {ops : Array Oper} {l : List AOper}

def irr2 (x : Apz) (t : Nat) : Prop := t = x.s' ∨ t = x.ad

/-- What the first four operations leave, in whatever order. -/
theorem apz_reg {fid : Nat} {X : List Nat} {x : Apz} {o4 o5 o6 o7 : Oper} (hl : l = ops.toList.map (compOper P cfg fid ops)) (F : ApzFacts P X ops l x o4 o5 o6 o7) {e4 : Env} {d4 : List ADef} {s4 : St}
    (h : opers (l.take 4) cl env ds σ = some (e4, d4, s4)) : ∃ T, Reg P cfg fid ops l first4 (irr2 x) cl T ∧ T.E 0 = env ∧ T.E ops.size = e4 ∧ (∀ k, T.D k = ds) ∧ (∀ k, T.Sg k = σ) ∧ d4 = ds ∧ s4 = σ ∧
      (∀ i, 4 ≤ i → T.E i = e4) ∧ ∀ (i : Nat) (co : AOper), i < 4 → l[i]? = some co → oper co cl (T.E i) ds σ = some (T.E (i + 1), ds, σ) := by
  obtain ⟨T0, hT⟩ := opers_trace h
  have hlen : l.length = 8 := by rw [hl]; simp [F.size]
  have hl4 : (l.take 4).length = 4 := by simp [hlen]
  have run0 : ∀ (i : Nat) (co : AOper), i < 4 → l[i]? = some co → oper co cl (T0.E i) (T0.D i) (T0.Sg i) = some (T0.E (i + 1), T0.D (i + 1), T0.Sg (i + 1)) := fun i co hi hco => hT.run i co (by rw [List.getElem?_take_of_lt hi]; exact hco)
  -- nothing turns
  have quiet : ∀ i, i < 4 → T0.D (i + 1) = T0.D i ∧ T0.Sg (i + 1) = T0.Sg i := by
    intro i hi
    obtain ⟨co, hco, hq, _⟩ := F.quiet i hi
    obtain ⟨_, q1, q2⟩ := quietA_some hq
    obtain ⟨k1, k2⟩ := oper_cls (run0 i co hi hco) q1
    refine ⟨k1, ?_⟩
    rcases k2 with ⟨_, _, k2⟩ | ⟨_, u, _, k2⟩
    · exact k2
    · cases hk : cls co.op with
      | eff => exact absurd hk q1
      | new => exact absurd hk q2
      | pure => exact (pure_free hk _ _ _ _ k2).1
      | read => exact (read_at hk k2).1
  have still : ∀ i, i ≤ 4 → T0.D i = ds ∧ T0.Sg i = σ := by
    intro i
    induction i with
    | zero => intro _; exact ⟨hT.d0, hT.s0⟩
    | succ i ih =>
      intro hi
      obtain ⟨i1, i2⟩ := ih (by omega)
      obtain ⟨q1, q2⟩ := quiet i (by omega)
      exact ⟨q1.trans i1, q2.trans i2⟩
  have e4' : T0.E 4 = e4 := by have := hT.e1; rw [hl4] at this; exact this
  have d4' : d4 = ds := by have := hT.d1; rw [hl4] at this; rw [← this]; exact (still 4 (by omega)).1
  have s4' : s4 = σ := by have := hT.s1; rw [hl4] at this; rw [← this]; exact (still 4 (by omega)).2
  have hmin : ∀ i, i < 4 → Nat.min (i + 1) 4 = i + 1 := fun i hi => Nat.min_eq_left (by omega)
  have hrun : ∀ (i : Nat) (co : AOper), i < 4 → l[i]? = some co → oper co cl (T0.E (min i 4)) ds σ = some (T0.E (min (i + 1) 4), ds, σ) := fun i co hi hco => by
    have := run0 i co hi hco
    rw [(still i (by omega)).1, (still i (by omega)).2, (still (i + 1) (by omega)).1, (still (i + 1) (by omega)).2] at this
    rw [Nat.min_eq_left (by omega), Nat.min_eq_left (by omega)]; exact this
  refine ⟨⟨fun i => T0.E (min i 4), fun _ => ds, fun _ => σ⟩, ?_, hT.e0, by rw [F.size]; exact e4', fun _ => rfl, fun _ => rfl, d4', s4', fun i hi => by show T0.E (min i 4) = e4; rw [Nat.min_eq_right hi]; exact e4', hrun⟩
  have small : ∀ {i : Nat}, first4 i = true → i < 4 := fun h => by simpa [first4] using h
  refine ⟨by rw [hl]; simp, fun i o ho => by rw [hl]; exact comp_list ho, F.back, F.temps, fun i co hr hco t ht => ?_, fun i j ci cj hij hri hrj hi hj => ?_, fun i co hco hr => hrun i co (small hr) hco, fun i _ hr => ?_, fun j p cj cp hrj hrp hj hp _ hcp => ?_⟩
  · obtain ⟨co', hco', _, q1, q2, _⟩ := F.quiet i (small hr)
    rw [hco] at hco'; cases hco'
    rintro (h | h)
    · subst h; exact q1 ht
    · subst h; exact q2 ht
  · obtain ⟨ci', hi', qi, _⟩ := F.quiet i (small hri)
    obtain ⟨cj', hj', qj, _⟩ := F.quiet j (small hrj)
    rw [hi] at hi'; cases hi'
    rw [hj] at hj'; cases hj'
    right
    obtain ⟨_, a1, a2⟩ := quietA_some qi
    unfold pairOk
    cases hk : cls ci.op with
    | eff => exact absurd hk a1
    | new => exact absurd hk a2
    | pure => rfl
    | read => rfl
  · have hge : 4 ≤ i := by
      have : first4 i = false := hr
      simp [first4] at this; omega
    refine ⟨?_, rfl, rfl⟩
    show T0.E (min (i + 1) 4) = T0.E (min i 4)
    rw [Nat.min_eq_right (by omega), Nat.min_eq_right hge]
  · exfalso
    obtain ⟨cp', hp', qp, _⟩ := F.quiet p (small hrp)
    rw [hp] at hp'; cases hp'
    obtain ⟨_, a1, a2⟩ := quietA_some qp
    rcases hcp with h | h
    · exact a1 h
    · exact a2 h

theorem appSlice_slice {es : List AV} {tk : Tok} {sz bytes : Nat} {x : AV} (h : appSlice es tk sz bytes false [x] σ = some (v, τ)) : ∃ tk', v = .slice (es ++ [stripCell x]) tk' := by
  unfold appSlice at h
  cases hc : (fits (es.length + [x].length) bytes && [x].all (elemOk sz) && headOk sz es) with
  | false => rw [hc] at h; cases h
  | true =>
    rw [hc, cond_true] at h
    have hxe : [x].isEmpty = false := rfl
    rw [hxe, cond_false, cond_false] at h
    unfold grow at h
    cases tk with
    | none => cases h
    | full => cases h; exact ⟨_, rfl⟩
    | live i g =>
      simp only at h
      cases ht : σ.tokOf i with
      | none => rw [ht] at h; cases h
      | some p =>
        obtain ⟨g', z⟩ := p
        rw [ht] at h; simp only at h
        cases hb : (Nat.beq g' g && Nat.beq z sz) with
        | false => rw [hb] at h; cases h
        | true => rw [hb] at h; cases h; exact ⟨_, rfl⟩

/-- What the two effects of the pattern come to, in the order of the text. -/
theorem apz_two {x : Apz} {e4 ef : Env} {df : List ADef} (h : opers [⟨some x.s', none, .append1 x.n x.bytes (.t x.s) (.t x.q)⟩, ⟨none, none, .store 1 (.t x.p) (.t x.s')⟩] cl e4 ds σ = some (ef, df, τ)) :
    ∃ (v1 : AV) (s5 : St) (es : List AV) (tk : Tok), aget e4 x.s = .slice es tk ∧ appSlice es tk x.n x.bytes false [aget e4 x.q] σ = some (v1, s5) ∧ ef = put e4 (some x.s') v1 ∧ df = ds ∧ op_store 1 (.t x.p) (.t x.s') (put e4 (some x.s') v1) s5 = some (.undef, τ) := by
  have h1 : (match oper (⟨some x.s', none, .append1 x.n x.bytes (.t x.s) (.t x.q)⟩ : AOper) cl e4 ds σ with
      | some (env, ds, σ) => opers [⟨none, none, .store 1 (.t x.p) (.t x.s')⟩] cl env ds σ | none => none) = some (ef, df, τ) := h
  cases hap : oper (⟨some x.s', none, .append1 x.n x.bytes (.t x.s) (.t x.q)⟩ : AOper) cl e4 ds σ with
  | none => rw [hap] at h1; cases h1
  | some q =>
    obtain ⟨e5, d5, s5⟩ := q
    rw [hap] at h1; simp only at h1
    obtain ⟨v1, k1, k2, k3⟩ := act_plain (cl := cl) (p := .append1 x.n x.bytes (.t x.s) (.t x.q)) rfl hap
    have h2 : (match oper (⟨none, none, .store 1 (.t x.p) (.t x.s')⟩ : AOper) cl e5 d5 s5 with
        | some (env, ds, σ) => some (env, ds, σ) | none => none) = some (ef, df, τ) := h1
    cases hst : oper (⟨none, none, .store 1 (.t x.p) (.t x.s')⟩ : AOper) cl e5 d5 s5 with
    | none => rw [hst] at h2; cases h2
    | some q =>
      obtain ⟨e6, d6, s6⟩ := q
      rw [hst] at h2; cases h2
      obtain ⟨v2, m1, m2, m3⟩ := act_plain (cl := cl) (p := .store 1 (.t x.p) (.t x.s')) rfl hst
      have k1' : appTo1 (aget e4 x.s) x.n x.bytes [aget e4 x.q] σ = some (v1, s5) := k1
      have hsl : ∃ es tk, aget e4 x.s = .slice es tk := by
        generalize aget e4 x.s = b at k1'
        cases b <;> first | (cases k1'; done) | exact ⟨_, _, rfl⟩
      obtain ⟨es, tk, hes⟩ := hsl
      rw [hes] at k1'
      refine ⟨v1, s5, es, tk, hes, k1', ?_, by rw [m3, k3], ?_⟩
      · rw [m2, k2]; rfl
      · have m1' : op_store 1 (.t x.p) (.t x.s') e5 s5 = some (v2, τ) := m1
        rw [← k2]
        have : v2 = .undef := by
          unfold op_store at m1'
          split at m1'
          · cases m1'; rfl
          · cases m1'
        rw [← this]; exact m1'

/-- The pattern's region. -/
theorem apz_sound {s : Self} {id : Nat} (hm : P.follows .mixedOrders = true) (hdst : dstsOk s.N ops = true) {x : Apz} (hok : apzOk P s.X ops (ops.toList.map (compOper P cfg s.fid ops)) x = true) :
    CodeSound P cfg r s (.region id ops true) (.region (apzList (ops.toList.map (compOper P cfg s.fid ops)) x) (outsOf s.X (apzList (ops.toList.map (compOper P cfg s.fid ops)) x))) := by
  intro cl hcl n env ds σ x' env' ds' τ C w a Q h hI he hx hd hN hf hr hQ
  generalize hl : ops.toList.map (compOper P cfg s.fid ops) = l at h hok
  obtain ⟨o4, o5, o6, o7, F⟩ := apz_facts hok
  have h' : codeRegion (apzList l x) (outsOf s.X (apzList l x)) cl n ⟨env, ds⟩ σ = some (x', ⟨env', ds'⟩, τ) := h
  unfold codeRegion at h'
  cases hop : opers (apzList l x) cl env ds σ with
  | none => simp only [hop] at h'; cases h'
  | some q =>
  obtain ⟨ef, df, sf⟩ := q
  simp only [hop] at h'; cases h'
  have hop0 := hop
  unfold apzList at hop
  obtain ⟨e4, d4, s4, hop1, hop2⟩ := opers_append hop
  obtain ⟨T, H, t0, t1, tD, tS, hd4, hs4, tE, trun⟩ := apz_reg hl.symm F hop1
  rw [hd4, hs4] at hop2
  obtain ⟨v1, s5, es, tk, hes, happ, hef, hdf, hsto⟩ := apz_two hop2
  have hE4 : T.E 4 = e4 := tE 4 (Nat.le_refl _)
  obtain ⟨ne1, ne2, ne3, ne4, ne5, ne6, ne7, ne8, ne9, ne10⟩ := F.ne
  -- the length, and the row of one zero
  obtain ⟨c2, c3, zc, hc2, hc3, hl2, hb3, hzc⟩ := F.c23
  obtain ⟨l1, l2, l3⟩ := len1_some hl2
  obtain ⟨m1, m2, zz, m3⟩ := bs1_some hb3
  have r2 := trun 2 c2 (by omega) hc2
  have r3 := trun 3 c3 (by omega) hc3
  obtain ⟨_, r2'⟩ := oper_cls r2 (by rw [l3]; simp [cls])
  obtain ⟨_, r3'⟩ := oper_cls r3 (by rw [m3]; simp [cls])
  rcases r2' with ⟨z1, _⟩ | ⟨_, v2, z2, z3⟩
  · rw [l2] at z1; cases z1
  rcases r3' with ⟨y1, _⟩ | ⟨_, v3, y2, y3⟩
  · rw [m2] at y1; cases y1
  rw [l1] at z2; rw [m1] at y2
  rw [m3] at y3
  obtain ⟨hv3, hzl, _⟩ := bs1_value y3
  have y2' : e4 = put (T.E 3) (some x.z) v3 := hE4 ▸ y2
  have es2 : aget (T.E 2) x.s = .slice es tk := by
    rw [← hes, y2']
    show _ = aget ((x.z, v3) :: T.E 3) x.s
    rw [aget_cons, if_neg ne9, z2]
    show _ = aget ((x.k, v2) :: T.E 2) x.s
    rw [aget_cons, if_neg ne8]
  have hk4 : aget e4 x.k = .int .i64 es.length := by
    rw [y2']
    show aget ((x.z, v3) :: T.E 3) x.k = _
    rw [aget_cons, if_neg ne10, z2, aget_put_self]
    rw [l3] at z3
    have z3' : op_lenSl (.t x.s) (T.E 2) σ = some (v2, σ) := z3
    unfold op_lenSl at z3'
    have : (Opd.t x.s).eval (T.E 2) = .slice es tk := es2
    rw [this] at z3'
    simp only [eq_lenOf_slice] at z3'
    cases z3'; rfl
  have hz4 : aget e4 x.z = .slice [stripCell zc] .full := by rw [y2', aget_put_self, hv3]
  -- sizes
  obtain ⟨z0, hz0, hzn⟩ := Option.map_eq_some_iff.1 F.zero
  obtain ⟨i, zv, hA, hsz, hby, _⟩ := appAt_of (elemT_some F.e) (elemT_some F.e') F.n F.n0 F.bytes hz0 hzn
  have hn1 : s5.next ≤ τ.next := by
    have : op (.store 1 (.t x.p) (.t x.s')) (put e4 (some x.s') v1) s5 = some (.undef, τ) := hsto
    exact op_next this
  have hn0 : σ.next ≤ s5.next := appSlice_next happ
  -- the store
  unfold op_store at hsto
  have ep : (Opd.t x.p).eval (put e4 (some x.s') v1) = aget e4 x.p := by
    show aget ((x.s', v1) :: e4) x.p = _
    rw [aget_cons, if_neg ne3]
  have es' : (Opd.t x.s').eval (put e4 (some x.s') v1) = v1 := aget_put_self
  rw [ep, es'] at hsto
  obtain ⟨tk1, hv1⟩ := appSlice_slice happ
  have hv1c : v1.cells = [v1] := by rw [hv1]; rfl
  refine wpIn_region_any hm ?_
  have hS0 : T.Sg 0 = σ := tS 0
  have hst := DI.start (a := a) (N := (T.Sg ops.size).next) H hcl (Nat.le_refl _) (by rw [hS0]; exact hI) (by rw [t0]; exact he) (by rw [tD]; exact hd) (by rw [hS0, tS]; exact fun i h1 h2 => by omega)
  rw [hS0] at hst
  -- the append, and what is left behind it
  have step4 : ∀ (fuel : Nat) (listed : Array Bool) (rr : Nat) (C1 : Ctx) (a1 : Act) (w1 : World), listed.size = ops.size → ((List.range ops.size).filter fun j => !(listed.setIfInBounds 4 true).getD j false).length ≤ fuel → Closed ops (fun j => (listed.setIfInBounds 4 true).getD j false) →
      (∀ j, listed.getD j false = true ↔ j < 4) → DI P cfg ops l first4 (irr2 x) T C σ w (T.Sg ops.size).next a.tmps.size (fun j => listed.getD j false) rr [] C1 a1 w1 →
      wpOpIn (FR r) 0 P ops Q 4 (wpAnyIn (FR r) 0 P .any ops Q fuel (listed.setIfInBounds 4 true)) a1 w1 := by
    intro fuel listed rr C1 a1 w1 hls hcnt hclo hS hD
    have hpend : pend T first4 (fun j => listed.getD j false) rr ops.size = [] := by
      have : ∀ b, pend T first4 (fun j => listed.getD j false) rr b = [] := by
        intro b
        induction b with
        | zero => rfl
        | succ b ih => rw [pend, adds_same (by rw [tS, tS]), ih]; simp
      exact this _
    have hstt : (⟨[] ++ (pend T first4 (fun j => listed.getD j false) rr ops.size ++ (T.Sg rr).heap), (T.Sg ops.size).next⟩ : St) = σ := by rw [hpend, tS, tS]; rfl
    have hI1 := hD.inv; rw [hstt] at hI1
    have hE1 := hD.ev; rw [hstt] at hE1
    have hT : ∀ t, t ≠ x.s' → t ≠ x.ad → VR C1 (aget e4 t) (a1.tmps.getD t undef) := fun t h1 h2 => by
      have := hD.tmps t (fun h => h.elim h1 h2) 4 (by rw [F.size]; omega) (fun i co hli hri hdi => by
        have : i < 4 := by simpa [first4] using hri
        exact ⟨fun _ => this, fun _ => (hS i).2 this⟩)
      rw [hE4] at this; exact this
    have hsl : x.s' < a1.tmps.size := by
      rw [hD.size]
      exact Nat.lt_of_lt_of_le (dsts_lt hdst 4 o4 F.h4 _ F.d4) hN
    have hadl : x.ad < a1.tmps.size := by
      rw [hD.size]
      exact Nat.lt_of_lt_of_le (dsts_lt hdst 5 o5 F.h5 _ F.d5) hN
    -- which temporaries are apart
    have q_s : x.s ≠ x.s' ∧ x.s ≠ x.ad := by
      obtain ⟨co, hco, _, k1, k2, _⟩ := F.quiet 2 (by omega)
      rw [hc2] at hco; cases hco
      have hm : x.s ∈ namesA c2 := List.mem_append_left _ (List.mem_append_left _ (by rw [l3]; simp [readsOf, opdT]))
      exact ⟨fun e => k1 (e ▸ hm), fun e => k2 (e ▸ hm)⟩
    have q_z : x.z ≠ x.s' ∧ x.z ≠ x.ad := by
      obtain ⟨co, hco, _, k1, k2, _⟩ := F.quiet 3 (by omega)
      rw [hc3] at hco; cases hco
      have hm : x.z ∈ namesA c3 := List.mem_append_right _ (by rw [m1]; simp)
      exact ⟨fun e => k1 (e ▸ hm), fun e => k2 (e ▸ hm)⟩
    have hus := hT x.s q_s.1 q_s.2
    rw [hes] at hus
    have huz := hT x.z q_z.1 q_z.2
    rw [hz4] at huz
    have hux := hT x.q ne6.symm ne7.symm
    have huk := hT x.k ne4.symm ne5.symm
    rw [hk4] at huk
    have hup := hT x.p ne3.symm ne2.symm
    have hzcells : (stripCell zc).cells.length = i.size := by rw [strip_cells, hzl, hsz]
    obtain ⟨adz, capz, vz, hrow⟩ := row_at hI1 huz (show elemsOf (.slice [stripCell zc] .full) σ i.size = some [stripCell zc] from rfl) hA.hp (fun e he => by simp only [List.mem_singleton] at he; subst he; exact hzcells)
    have hf5 : Fresh C1 σ.next s5.next := (hf.after hE1).sub (Nat.le_refl _) hn1
    rw [← hsz, ← hby] at happ
    obtain ⟨b, off, cap, w2, cs1, e1, hrun, _, hb1, hfit, hsize, hkeep, _, hxs, hxo, D, hE2, hI2, hvr⟩ := apz_run hA hI1 hus hrow (zcOk_cells hzc) hux happ hf5
    -- the row's variable
    generalize hupe : a1.tmps.getD x.p undef = up at hup
    have hup' := hup.mono hE2.le
    have hst2 : ∃ (id offp bp st lim : Nat) (lp l' : List AV), aget e4 x.p = .ptr id offp ∧ up = .pointer (some ⟨bp, st + offp, none⟩) ∧ D.κ id = some (.cells bp st lim) ∧ s5.cells id = some lp ∧ splice lp offp [v1] = some l' ∧ τ = s5.set id (.cells l') ∧ isCell v1 = true := by
      generalize aget e4 x.p = pv at hsto hup'
      rw [hv1c] at hsto
      cases hup' <;> simp only [eq_storeCells_junk, eq_storeCells_undef, eq_storeCells_bool, eq_storeCells_int, eq_storeCells_str, eq_storeCells_nilp, eq_storeCells_nilm, eq_storeCells_nilf, eq_storeCells_nili, eq_storeCells_agg, eq_storeCells_tup, eq_storeCells_slice, eq_storeCells_hsl, eq_storeCells_itr, eq_storeCells_eptr, eq_storeCells_map, eq_storeCells_fn, eq_storeCells_ptr] at hsto <;> first | (cases hsto; done) | skip
      rename_i id offp bp st lim hκ
      unfold storePtr at hsto
      cases hlp : s5.cells id with
      | none => rw [hlp] at hsto; cases hsto
      | some lp =>
        rw [hlp] at hsto; simp only at hsto
        cases hc : (Nat.beq [v1].length 1 && [v1].all isCell) with
        | false => rw [hc] at hsto; cases hsto
        | true =>
          rw [hc, cond_true] at hsto
          cases hsp : splice lp offp [v1] with
          | none => rw [hsp] at hsto; cases hsto
          | some l' =>
            rw [hsp] at hsto; cases hsto
            refine ⟨id, offp, bp, st, lim, lp, l', rfl, rfl, hκ, hlp, hsp, rfl, ?_⟩
            rw [Bool.and_eq_true] at hc
            simpa using hc.2
    obtain ⟨idp, offp, bp, st, lim, lp, lp', hpe, hupv, hκp, hcp, hsp, hτ, hcell⟩ := hst2
    obtain ⟨csp, ep', hbp, hfitp, honep, hseal, hI3, hE3⟩ := store_row_at hI2 (cells_get hcp) hsp hκp (VRs.one hvr) (fun c hc => by simp only [List.mem_singleton] at hc; subst hc; exact hcell)
    -- the two blocks are apart
    have hbb : b ≠ bp := by
      intro e
      subst e
      rw [hv1] at hvr
      generalize hys : es ++ [stripCell (aget e4 x.q)] = ys at hvr
      have hyl : es.length < ys.length := by rw [← hys]; simp
      obtain ⟨m, hm⟩ : ∃ m, m = es.length + 1 := ⟨_, rfl⟩
      rw [← hm] at hvr
      cases hvr with
      | slice _ _ _ b' off' cap' size u hsz' hcap' ha' hel' hS' hV' htk' =>
        have hg := List.getElem?_eq_getElem hyl
        have hne : ys ≠ [] := fun e => by subst e; simp at hyl
        have hb' : b = b' := by have := ha' hne; simp only [Option.some.injEq, Addr.mk.injEq] at this; exact this.1
        subst hb'
        have hcl := hel' _ _ hg
        have h0 : 0 < (ys[es.length]).cells.length := by rw [hcl]; exact hsz'
        have := hS' _ _ 0 _ hg (List.getElem?_eq_getElem h0)
        rw [hseal] at this; cases this
    let X : Array Value := overC csp (st + offp) [.slice (some ⟨b, off, none⟩) (es.length + 1) cap]
    let Y : Array Value := overC cs1 (off + es.length * i.size) (a1.tmps.getD x.q undef).cells.toList
    -- the append itself
    obtain ⟨c, ho4, hcc, hca, hct⟩ := appArgs_some F.a4
    have ha' : c.args = #[.tmp x.s, .tmp x.z] := Array.ext' hca
    have hty' : c.argTypes = #[x.t, x.u] := Array.ext' hct
    have run4 : (execOp a1.eval o4).run P w1 = .ok (.value (.slice (some ⟨b, off, none⟩) (es.length + 1) cap)) w2 := by
      unfold execOp; rw [ho4]
      simp only [resolve, hcc, ha', hty', Sem.run_bind, Sem.run_pure, Result.andThen_ok, invoke, builtin, List.map_toArray, List.map_cons, List.map_nil]
      have e1 : a1.eval (.tmp x.s) = a1.tmps.getD x.s undef := rfl
      have e2 : a1.eval (.tmp x.z) = a1.tmps.getD x.z undef := rfl
      rw [e1, e2, hrun]; rfl
    refine wp_run F.h4 F.g4 (fun c' => by rw [ho4]; simp) run4 (.inl rfl) ?_
    rw [F.d4]
    generalize ha2 : a1.put (some x.s') (.slice (some ⟨b, off, none⟩) (es.length + 1) cap) = a2
    have a2s : a2.tmps.getD x.s' undef = .slice (some ⟨b, off, none⟩) (es.length + 1) cap := by rw [← ha2]; exact getD_put_eq hsl
    have a2o : ∀ t, t ≠ x.s' → a2.tmps.getD t undef = a1.tmps.getD t undef := fun t ht => by rw [← ha2]; exact getD_put_ne ht.symm
    have a2z : a2.tmps.size = a1.tmps.size := by rw [← ha2]; exact put_size _ _ _
    have a2d : a2.defers = a1.defers := by rw [← ha2]; exact put_defers _ _ _
    let ptr : Value := .pointer (some ⟨b, off + es.length * i.size, none⟩)
    have A2s : ∀ d5, (A2 a2 x.ad ptr d5).tmps.getD x.s' undef = .slice (some ⟨b, off, none⟩) (es.length + 1) cap := fun d5 => by
      cases d5 with
      | false => exact a2s
      | true => exact (getD_put_ne ne1).trans a2s
    have A2o : ∀ d5 t, t ≠ x.s' → t ≠ x.ad → (A2 a2 x.ad ptr d5).tmps.getD t undef = a1.tmps.getD t undef := fun d5 t h1 h2 => by
      cases d5 with
      | false => exact a2o t h1
      | true => exact (getD_put_ne h2.symm).trans (a2o t h1)
    have A2a : (A2 a2 x.ad ptr true).tmps.getD x.ad undef = ptr := getD_put_eq (by rw [a2z]; exact hadl)
    have hwb : ∀ d7, (W2 w2 b bp X Y false d7).heap[b]? = some (.cells cs1 e1 (0, 0)) := fun d7 => by
      cases d7 with
      | false => exact hb1
      | true => exact (setRow_other w2 bp b X hbb).trans hb1
    have hwp : ∀ d6, (W2 w2 b bp X Y d6 false).heap[bp]? = some (.cells csp ep' (0, 0)) := fun d6 => by
      cases d6 with
      | true => exact hbp
      | false => exact (setRow_other w2 b bp Y hbb.symm).symm.trans hbp
    have hph := phase2 (r := r) (P := P) (Q := Q) (a1 := a2) (w1 := w2) (ad := x.ad) (ptr := ptr) (b := b) (bp := bp) (X := X) (Y := Y) F.size F.back F.b65
      (fun d6 d7 K hK => by
        have e1 : a2.eval (.tmp x.s') = .slice (some ⟨b, off, none⟩) (es.length + 1) cap := a2s
        have e2 : a2.eval (.tmp x.k) = .int .i64 (es.length : Int) := by
          have : a2.tmps.getD x.k undef = a1.tmps.getD x.k undef := a2o x.k ne4.symm
          show a2.tmps.getD x.k undef = _
          rw [this]
          generalize a1.tmps.getD x.k undef = u at huk
          cases huk; rfl
        have hr := run_place (a := a2) (elemT_some F.e5) F.n5 (idxArgs_some F.a5) e1 e2 (Nat.lt_succ_self _) (W2 w2 b bp X Y d6 d7)
        rw [← hsz] at hr
        refine wp_run F.h5 F.g5 (fun c' => by rw [idxArgs_some F.a5]; simp) hr (.inl rfl) ?_
        rw [F.d5]; exact hK)
      (fun d7 K hK => by
        have e1 : (A2 a2 x.ad ptr true).eval (.tmp x.ad) = .pointer (some ⟨b, off + es.length * i.size, none⟩) := A2a
        have e2 : (A2 a2 x.ad ptr true).eval (.tmp x.q) = a1.tmps.getD x.q undef := A2o true x.q ne6.symm ne7.symm
        have hr := run_put (a := A2 a2 x.ad ptr true) (P := P) F.n6 (storeArgs_some F.a6) e1 (by rw [e2, hxs, hsz]) (hwb d7) (by rw [← hsz]; exact hfit) (by rw [e2]; exact hxo)
        rw [e2] at hr
        refine wp_run F.h6 F.g6 (fun c' => by rw [storeArgs_some F.a6]; simp) hr (.inr ⟨rfl, rfl⟩) ?_
        rw [F.d6]
        have ew : (W2 w2 b bp X Y false d7).setRow b (overC cs1 (off + es.length * i.size) (a1.tmps.getD x.q undef).cells.toList) = W2 w2 b bp X Y true d7 := by
          cases d7 with
          | false => rfl
          | true => exact setRow_comm w2 hbb.symm X Y
        rw [ew]; exact hK)
      (fun d5 d6 K hK => by
        have e1 : (A2 a2 x.ad ptr d5).eval (.tmp x.p) = .pointer (some ⟨bp, st + offp, none⟩) := by
          have : (A2 a2 x.ad ptr d5).tmps.getD x.p undef = up := (A2o d5 x.p ne3.symm ne2.symm).trans hupe
          show (A2 a2 x.ad ptr d5).tmps.getD x.p undef = _
          rw [this, hupv]
        have e2 : (A2 a2 x.ad ptr d5).eval (.tmp x.s') = .slice (some ⟨b, off, none⟩) (es.length + 1) cap := A2s d5
        have hr := run_put (a := A2 a2 x.ad ptr d5) (P := P) F.n7 (storeArgs_some F.a7) e1 (by rw [e2]; rfl) (hwp d6) hfitp (by rw [e2]; exact honep)
        rw [e2] at hr
        refine wp_run F.h7 F.g7 (fun c' => by rw [storeArgs_some F.a7]; simp) hr (.inr ⟨rfl, rfl⟩) ?_
        rw [F.d7]
        have ew : (W2 w2 b bp X Y d6 false).setRow bp (overC csp (st + offp) (Value.slice (some ⟨b, off, none⟩) (es.length + 1) cap).cells.toList) = W2 w2 b bp X Y d6 true := rfl
        rw [ew]; exact hK)
      (by
        have hEf := (hE1.trans hE2).trans hE3
        have hEnv : EnvR D ef (A2 a2 x.ad ptr true).tmps := fun t => by
          by_cases h1 : t = x.s'
          · subst h1
            rw [A2s, hef, aget_put_self]; exact hvr
          · by_cases h2 : t = x.ad
            · subst h2
              have hno : ∀ o ∈ apzList l x, o.dst ≠ some x.ad := by
                intro o ho hdo
                unfold apzList at ho
                rcases List.mem_append.1 ho with ho | ho
                · obtain ⟨j, hj⟩ := List.mem_iff_getElem?.1 ho
                  have hj4 : j < 4 := by have := (List.getElem?_eq_some_iff.1 hj).1; simp at this; omega
                  rw [List.getElem?_take_of_lt hj4] at hj
                  obtain ⟨co, hco, _, _, k2, _⟩ := F.quiet j hj4
                  rw [hj] at hco; cases hco
                  exact k2 (List.mem_append_right _ (by rw [hdo]; simp))
                · simp only [List.mem_cons, List.not_mem_nil, or_false] at ho
                  rcases ho with rfl | rfl
                  · simp only [Option.some.injEq] at hdo; exact ne1 hdo.symm
                  · cases hdo
              rw [opers_env hop0 x.ad hno]
              have : aget env x.ad = .junk := Classical.byContradiction fun h => F.adX (hx x.ad h)
              rw [this]; exact .junk _
            · rw [A2o true t h1 h2, hef]
              show VR D (aget ((x.s', v1) :: e4) t) _
              rw [aget_cons, if_neg (fun e => h1 e.symm)]
              exact (hT t h1 h2).mono hE2.le
        obtain ⟨k1, k2⟩ := keep_R (l := apzList l x) hEnv hx (fun j hj => opers_env hop0 j hj)
        refine hQ D _ _ (hτ ▸ hEf) (hτ ▸ hI3) k1 k2 ?_ ?_
        · have : (A2 a2 x.ad ptr true).defers = a1.defers := (put_defers a2 (some x.ad) ptr).trans a2d
          rw [this, hdf]
          have := hD.defs
          rw [tD] at this
          exact this.mono hE2.le
        · have : (A2 a2 x.ad ptr true).tmps.size = a2.tmps.size := put_size a2 (some x.ad) ptr
          rw [this, a2z]; exact hD.size)
      fuel (listed.setIfInBounds 4 true) false false false (by simpa using hls) hclo hcnt (fun j => by
        by_cases e : j = 4
        · subst e
          rw [Array.getD_eq_getD_getElem?, Array.getElem?_setIfInBounds_self_of_lt (by rw [hls, F.size]; omega)]; simp
        · rw [getD_set_ne false (fun h => e h.symm), hS]; simp; omega)
    exact hph
  -- the first four, in whatever order
  have phase1 : ∀ (fuel : Nat) (listed : Array Bool) (rr : Nat) (C1 : Ctx) (a1 : Act) (w1 : World), listed.size = ops.size → ((List.range ops.size).filter fun j => !listed.getD j false).length ≤ fuel → (∀ j, 4 ≤ j → listed.getD j false = false) →
      DI P cfg ops l first4 (irr2 x) T C σ w (T.Sg ops.size).next a.tmps.size (fun j => listed.getD j false) rr [] C1 a1 w1 → wpAnyIn (FR r) 0 P .any ops Q fuel listed a1 w1 := by
    intro fuel
    induction fuel with
    | zero =>
      intro listed rr C1 a1 w1 hls hc hS hD
      exfalso
      have : 4 ∈ (List.range ops.size).filter fun j => !listed.getD j false := by
        rw [List.mem_filter, List.mem_range]
        exact ⟨by rw [F.size]; omega, by rw [hS 4 (Nat.le_refl _)]; rfl⟩
      have := List.length_pos_of_mem this
      omega
    | succ fuel ih =>
      intro listed rr C1 a1 w1 hls hc hS hD
      refine ⟨fun hr => ?_, fun i hi => ?_⟩
      · have := all_done F.back hls hr 4 (by rw [F.size]; omega)
        rw [hS 4 (Nat.le_refl _)] at this; cases this
      rw [mem_ready] at hi
      obtain ⟨h1, o, ho, h2⟩ := hi
      have hilt : i < ops.size := (Array.getElem?_eq_some_iff.1 ho).1
      have hil : i < listed.size := by omega
      have hSi : listed.getD i false = false := by
        rw [Array.getD_eq_getD_getElem?, Array.getElem?_eq_getElem hil] at h1 ⊢
        simpa using h1
      have hbit : ∀ j, ((Region.before ops).getD i 0).testBit j = true → listed.getD j false = true := fun j hj => hD.closed.ready F.back ho h2 hj
      have hcnt : ((List.range ops.size).filter fun j => !(listed.setIfInBounds i true).getD j false).length < ((List.range ops.size).filter fun j => !listed.getD j false).length := by
        refine filter_lt (i := i) (fun y hy => ?_) (List.mem_range.2 hilt) (by rw [hSi]; rfl) ?_
        · by_cases e : y = i
          · subst e; rw [hSi]; rfl
          · rw [getD_set_ne false (fun h => e h.symm)] at hy; exact hy
        · rw [Array.getD_eq_getD_getElem?, Array.getElem?_setIfInBounds_self_of_lt hil]; rfl
      by_cases hi4 : i < 4
      · refine reg_step (r := r) H hcl (by rw [hS0]; exact Nat.le_refl _) (Nat.le_refl _) (.inr (by rw [tD, tD])) hD ho (by simp [first4, hi4]) hSi h2 (fun d hdd => Nat.lt_of_lt_of_le (dsts_lt hdst i o ho d hdd) hN) fun rr' D' a' w' _ _ _ hD' => ?_
        rw [← setOf_listed hil] at hD'
        refine ih (listed.setIfInBounds i true) rr' D' a' w' (by simpa using hls) (by omega) (fun j hj => ?_) hD'
        rw [getD_set_ne false (by omega)]; exact hS j hj
      · have hi4' : i = 4 := by
          apply Classical.byContradiction
          intro hne
          have hcase : i = 5 ∨ i = 6 ∨ i = 7 := by have := F.size; omega
          have h4 : listed.getD 4 false = true := by
            rcases hcase with rfl | rfl | rfl
            · exact hbit 4 F.b54
            · exact hbit 4 F.b64
            · exact hbit 4 F.b74
          rw [hS 4 (Nat.le_refl _)] at h4; cases h4
        subst hi4'
        refine step4 fuel listed rr C1 a1 w1 hls (by omega) ?_ (fun j => ⟨fun h => Classical.byContradiction fun hn => absurd h (by rw [hS j (by omega)]; simp), fun h => ?_⟩) hD
        · intro j oj hj hoj e he' hbd
          by_cases ej : j = 4
          · subst ej; rw [ho] at hoj; cases hoj
            exact getD_set_true (h2 e he' hbd)
          · have hj' : (listed.setIfInBounds 4 true).getD j false = true := hj
            rw [getD_set_ne false (fun h => ej h.symm)] at hj'
            exact getD_set_true (hD.closed j oj hj' hoj e he' hbd)
        · obtain ⟨_, _, _, _, _, hb⟩ := F.quiet j h
          exact hbit j hb
  exact phase1 ops.size _ 0 C a _ (by simp) count_start (fun j _ => by
    rw [Array.getD_eq_getD_getElem?]
    by_cases h : j < ops.size
    · rw [Array.getElem?_eq_getElem (by simpa using h)]; simp
    · rw [Array.getElem?_eq_none (by simpa using h)]; rfl) hst

end Go.AM
namespace Go.AM
open Go.RowKit
variable {P : Program} {cfg : Cfg} {fid : Nat} {cl : CallF} {ops : Array Oper} {l : List AOper} {env env' : Env} {ds ds' : List ADef} {σ τ : St} {v : AV} {co : AOper} {r : Option Nat} {m : MapPlan}
variable {reg : Nat → Bool} {irr : Nat → Prop} {T : Trace} {S S' : Nat → Bool} {rr : Nat} {ρX : Heap} {C0 C D : Ctx} {σ0 : St} {w0 w : World} {a : Act} {N sz : Nat}

/-! ### Places -/
/-- How many of a kind stand ahead. -/
def rk (F : Nat → Bool) (i : Nat) : Nat := ((List.range i).filter F).length
theorem rk_succ (F : Nat → Bool) (i : Nat) : rk F (i + 1) = rk F i + (if F i then 1 else 0) := by
  unfold rk; rw [List.range_succ, List.filter_append, List.length_append]
  cases h : F i <;> simp [h]
theorem rk_get (F : Nat → Bool) {n i : Nat} (hi : i < n) (hF : F i = true) : ((List.range n).filter F)[rk F i]? = some i := by
  induction n with
  | zero => omega
  | succ n ih =>
    rw [List.range_succ, List.filter_append]
    by_cases h : i < n
    · have h1 := ih h
      rw [List.getElem?_append_left (List.getElem?_eq_some_iff.1 h1).1]; exact h1
    · have : i = n := by omega
      subst this
      rw [List.getElem?_append_right (by unfold rk; omega)]
      unfold rk; simp [hF]
/-! ### What is known of a plan -/
structure MapFacts (ops : Array Oper) (l : List AOper) (m : MapPlan) : Prop where
  back : backOk ops = true
  temps : tempsOk (Region.before ops) l = true
  j0e : m.j0 ≤ m.e
  elt : m.e < l.length
  eat : m.e = m.j0 ∨ insAt l m m.e = true
  mk0 : l[m.j0]? = some ⟨some m.t, none, .makeMap m.ks⟩
  fst : ∀ (i : Nat) (co : AOper), fstAt l m i = true → l[i]? = some co → m.t ∉ namesA co
  pairs : ∀ (i j : Nat) (ci cj : AOper), i < j → fstAt l m i = true → fstAt l m j = true → l[i]? = some ci → l[j]? = some cj → ((Region.before ops).getD j 0).testBit i = true ∨ pairOk ci.op cj.op = true
  lst : ∀ (j : Nat) (cj : AOper), m.e < j → l[j]? = some cj → cls cj.op = .pure ∧ ∀ i, i ≤ m.e → ((Region.before ops).getD j 0).testBit i = true
  ins : ∀ (j : Nat) (cj : AOper), insAt l m j = true → l[j]? = some cj → ∃ s x, cj = ⟨none, none, .mapUpdate m.ks (.t m.t) (.c (.str s)) x⟩ ∧ partAt l m j = (.str s, x) ∧ m.ks = [10] ∧ m.j0 < j ∧ ((Region.before ops).getD j 0).testBit m.j0 = true ∧
    ∀ u ∈ opdT x, u ≠ m.t ∧ ∀ (i : Nat) (ci : AOper), fstAt l m i = true → l[i]? = some ci → j ≤ i → ci.dst ≠ some u
  dist : distinctK (mapParts l m) = true

theorem opAt_some {i : Nat} (h : l[i]? = some co) : opAt l i = co := by unfold opAt; rw [List.getD_eq_getElem?_getD, h]; rfl
theorem opAt_lt {i : Nat} (h : i < l.length) : l[i]? = some (opAt l i) := by unfold opAt; rw [List.getD_eq_getElem?_getD, List.getElem?_eq_getElem h]; rfl
theorem insAt_lt {i : Nat} (h : insAt l m i = true) : i < l.length := by
  apply Classical.byContradiction; intro hn
  have : opAt l i = default := by unfold opAt; rw [List.getD_eq_getElem?_getD, List.getElem?_eq_none (by omega)]; rfl
  unfold insAt at h; rw [this] at h; cases h
theorem insOf_some {t : Nat} {ks : List Nat} {k : AV} {x : Opd} (h : insOf t ks co = some (k, x)) : co = ⟨none, none, .mapUpdate ks (.t t) (.c k) x⟩ := by
  obtain ⟨d, g, p⟩ := co
  unfold insOf at h
  cases d with
  | some d => cases h
  | none =>
    cases g with
    | some g => cases h
    | none =>
      cases p <;> first | (cases h; done) | skip
      rename_i ks' m' k' x'
      cases m' <;> first | (cases h; done) | skip
      cases k' <;> first | (cases h; done) | skip
      rename_i u w
      simp only at h
      split at h
      · rename_i hc
        rw [Bool.and_eq_true] at hc
        have h1 := Nat.eq_of_beq_eq_true hc.1
        have h2 : ks' = ks := by simpa using hc.2
        cases h; subst h1; subst h2; rfl
      · cases h
theorem mkOf_some {t : Nat} {ks : List Nat} (h : mkOf co = some (t, ks)) : co = ⟨some t, none, .makeMap ks⟩ := by
  obtain ⟨d, g, p⟩ := co
  unfold mkOf at h
  cases d with
  | none => cases h
  | some d =>
    cases g with
    | some g => cases h
    | none =>
      cases p <;> first | (cases h; done) | skip
      cases h; rfl
theorem insAt_some {j : Nat} (h : insAt l m j = true) : ∃ k x, partAt l m j = (k, x) ∧ opAt l j = ⟨none, none, .mapUpdate m.ks (.t m.t) (.c k) x⟩ := by
  unfold insAt at h
  cases hq : insOf m.t m.ks (opAt l j) with
  | none => rw [hq] at h; cases h
  | some q =>
    obtain ⟨k, x⟩ := q
    exact ⟨k, x, by unfold partAt; rw [hq]; rfl, insOf_some hq⟩
theorem fst_lt {i : Nat} (h : fstAt l m i = true) : i < m.e := by
  unfold fstAt at h; simp only [Bool.and_eq_true, decide_eq_true_eq] at h; exact h.1.1
theorem mem_fst {i : Nat} (he : m.e < l.length) (h : fstAt l m i = true) : i ∈ fstIdx l m := by
  unfold fstIdx; rw [List.mem_filter, List.mem_range]; exact ⟨by have := fst_lt h; omega, h⟩

theorem map_facts (h : mapOk ops l m = true) : MapFacts ops l m := by
  unfold mapOk at h
  simp only [Bool.and_eq_true, List.all_eq_true, decide_eq_true_eq] at h
  obtain ⟨⟨⟨⟨⟨⟨⟨⟨⟨⟨h1, h2⟩, h3⟩, h4⟩, h5⟩, h6⟩, h7⟩, h8⟩, h9⟩, h10⟩, h11⟩ := h
  refine ⟨h1, h2, h3, h4, ?_, ?_, fun i co hi hl ht => ?_, fun i j ci cj hij hi hj hli hlj => ?_, fun j cj hj hl => ?_, fun j cj hj hl => ?_, h11⟩
  · rw [Bool.or_eq_true] at h5
    exact h5.imp Nat.eq_of_beq_eq_true id
  · rw [opAt_lt (by omega)]
    cases hq : mkOf (opAt l m.j0) with
    | none => rw [hq] at h6; cases h6
    | some q =>
      obtain ⟨t, ks⟩ := q
      rw [hq] at h6
      simp only [Bool.and_eq_true] at h6
      have e1 := Nat.eq_of_beq_eq_true h6.1
      have e2 : ks = m.ks := by simpa using h6.2
      rw [mkOf_some hq, e1, e2]
  · have := h7 i (mem_fst h4 hi) m.t (by rw [opAt_some hl]; exact ht)
    rw [Nat.beq_refl] at this; cases this
  · have := h8 j (mem_fst h4 hj) i (mem_fst h4 hi)
    rw [opAt_some hli, opAt_some hlj] at this
    simp only [hij, decide_true, Bool.not_true, Bool.false_or, unordered, Bool.not_not, Bool.or_eq_true] at this
    exact this
  · have hjl := (List.getElem?_eq_some_iff.1 hl).1
    have := h9 j (by unfold lstIdx; rw [List.mem_filter, List.mem_range]; exact ⟨hjl, by unfold lstAt; simpa using hj⟩)
    rw [opAt_some hl] at this
    exact ⟨this.1, fun i hi => this.2 i (List.mem_range.2 (by omega))⟩
  · obtain ⟨k, x, e1, e2⟩ := insAt_some hj
    rw [opAt_some hl] at e2
    have hjl := (List.getElem?_eq_some_iff.1 hl).1
    have := h10 j (by unfold insIdx; rw [List.mem_filter, List.mem_range]; exact ⟨hjl, hj⟩)
    obtain ⟨⟨⟨k1, k2⟩, k3⟩, k4⟩ := this
    rw [e1] at k3 k4
    cases k <;> first | (cases k3; done) | skip
    rename_i s
    have hks : m.ks = [10] := by simpa [keyOkC] using k3
    refine ⟨s, x, e2, e1, hks, k1, k2, fun u hu => ?_⟩
    obtain ⟨q1, q2⟩ := k4 u hu
    refine ⟨fun e => (by rw [e, Nat.beq_refl] at q1; cases q1), fun i ci hi hli hji hd => ?_⟩
    have := q2 i (mem_fst h4 hi)
    rw [opAt_some hli, hd] at this
    simp only [Bool.or_eq_true, decide_eq_true_eq] at this
    rcases this with h | h
    · omega
    · rw [Nat.beq_refl] at h; cases h
end Go.AM
