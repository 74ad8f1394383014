/- A part of the proof of: EmitBecomes: what a term becomes by patterns, and a pattern's name, is what the document says, or the error is told. -/
import Derived.Test.YtkopdkjpmccbmaaGreatDoorM18
namespace Go.AM
open Go.RowKit
variable {P : Program} {cfg : Cfg} {fid : Nat} {cl : CallF} {ops : Array Oper} {l : List AOper} {env env' : Env} {ds ds' : List ADef} {σ τ : St} {v : AV} {co : AOper} {r : Option Nat} {m : MapPlan}
variable {T : Trace} {rr : Nat} {ρX : Heap} {C0 C D : Ctx} {σ0 : St} {w0 w : World} {a : Act} {N sz : Nat}

theorem strNe_eqK {a b : AV} (h : strNe a b = true) : eqK a b = false ∧ eqK b a = false := by
  cases a <;> first | (cases h; done) | skip
  cases b <;> first | (cases h; done) | skip
  rename_i s t
  have hne : s ≠ t := by simpa [strNe] using h
  refine ⟨?_, ?_⟩
  · show eqS s t = false
    cases hb : eqS s t with
    | false => rfl
    | true => exact absurd (by rw [eqS_eq] at hb; exact eq_of_beq hb) hne
  · show eqS t s = false
    cases hb : eqS t s with
    | false => rfl
    | true => exact absurd (by rw [eqS_eq] at hb; exact (eq_of_beq hb).symm) hne
theorem distinct_pair {ps : List (AV × Opd)} (h : distinctK ps = true) : ps.Pairwise fun p q => eqK p.1 q.1 = false ∧ eqK q.1 p.1 = false := by
  induction ps with
  | nil => exact .nil
  | cons p ps ih =>
    obtain ⟨k, x⟩ := p
    unfold distinctK at h
    rw [Bool.and_eq_true, List.all_eq_true] at h
    exact .cons (fun q hq => strNe_eqK (h.1 q hq)) (ih h.2)
theorem mput_none {es : List (AV × AV)} {k v : AV} (h : ∀ p ∈ es, eqK p.1 k = false) : mput es k v = es ++ [(k, v)] := by
  induction es with
  | nil => rfl
  | cons p es ih =>
    rw [mput_cons, if_neg (by rw [h p (by simp)]; simp), ih (fun q hq => h q (by simp [hq]))]; rfl

/-- What is laid in by an operation, in the end. -/
noncomputable def valAt (l : List AOper) (m : MapPlan) (e : Env) (j : Nat) : AV × AV := ((partAt l m j).1, stripCell ((partAt l m j).2.eval e))
theorem litMap_map (e : Env) (ps : List (AV × Opd)) : litMap e ps = ps.map fun p => (p.1, stripCell (p.2.eval e)) := by
  induction ps with
  | nil => rfl
  | cons p ps ih => show (p.1, stripCell (p.2.eval e)) :: litMap e ps = _; rw [ih]; rfl
theorem lit_val (e : Env) : litMap e (mapParts l m) = (insIdx l m).map (valAt l m e) := by
  rw [litMap_map]; unfold mapParts; rw [List.map_map]; rfl
theorem litOk_mem {e : Env} {ps : List (AV × Opd)} (h : litOk e ps = true) : ∀ p ∈ ps, known (p.2.eval e) = true := by
  induction ps with
  | nil => intro p hp; cases hp
  | cons q ps ih =>
    have h' : (bif known (q.2.eval e) then litOk e ps else false) = true := h
    cases hk : known (q.2.eval e) with
    | false => rw [hk] at h'; cases h'
    | true =>
      rw [hk, cond_true] at h'
      intro p hp
      cases hp with
      | head => exact hk
      | tail _ hp => exact ih h' p hp

/-- How far the map is. -/
def MapAt (l : List AOper) (m : MapPlan) (e : Env) (M : Nat) (S : Nat → Bool) (N : Nat) (ρX : Heap) (C : Ctx) (a : Act) : Prop :=
  (S m.j0 = false ∧ N = M ∧ ρX = [] ∧ Fresh C M (M + 1)) ∨
  (S m.j0 = true ∧ N = M + 1 ∧ ∃ es, ρX = [(M, .map m.ks es)] ∧ VR C (.map M) (a.tmps.getD m.t undef) ∧ es.Perm (((insIdx l m).filter S).map (valAt l m e)))

theorem filter_same {L : List Nat} {S S' : Nat → Bool} (h : ∀ j ∈ L, S' j = S j) : L.filter S' = L.filter S := List.filter_congr h
theorem filter_more {L : List Nat} {S : Nat → Bool} {i : Nat} (hn : L.Nodup) (hi : i ∈ L) (hS : S i = false) : (L.filter (withS S i)).Perm (i :: L.filter S) := by
  induction L with
  | nil => cases hi
  | cons j L ih =>
    rw [List.nodup_cons] at hn
    by_cases e : j = i
    · subst e
      rw [List.filter_cons_of_pos withS_eq, List.filter_cons_of_neg (by rw [hS]; simp)]
      rw [filter_same (S := S) fun q hq => withS_ne (by rintro rfl; exact hn.1 hq)]
    · have hi' : i ∈ L := by
        cases hi with
        | head => exact absurd rfl e
        | tail _ h => exact h
      have h1 := ih hn.2 hi'
      cases hSj : S j with
      | true =>
        rw [List.filter_cons_of_pos (by rw [withS_ne e]; exact hSj), List.filter_cons_of_pos hSj]
        exact (h1.cons j).trans (List.Perm.swap i j _)
      | false =>
        rw [List.filter_cons_of_neg (by rw [withS_ne e, hSj]; simp), List.filter_cons_of_neg (by rw [hSj]; simp)]
        exact h1

theorem pair_of {α : Type} {R : α → α → Prop} (hs : ∀ x y, R x y → R y x) : ∀ {L : List α}, L.Pairwise R → ∀ {x y : α}, x ∈ L → y ∈ L → x ≠ y → R x y := by
  intro L
  induction L with
  | nil => intro _ x y hx; cases hx
  | cons z L ih =>
    intro hp x y hx hy hne
    rw [List.pairwise_cons] at hp
    cases hx with
    | head =>
      cases hy with
      | head => exact absurd rfl hne
      | tail _ hy => exact hp.1 y hy
    | tail _ hx =>
      cases hy with
      | head => exact hs _ _ (hp.1 x hx)
      | tail _ hy => exact ih hp.2 hx hy hne
/-- A region that lays a map. -/
theorem map_sound {s : Self} {id : Nat} (hm : P.follows .mixedOrders = true) (hdst : dstsOk s.N ops = true) (hok : mapOk ops (ops.toList.map (compOper P cfg s.fid ops)) m = true) :
    CodeSound P cfg r s (.region id ops true) (.draw (mapList (ops.toList.map (compOper P cfg s.fid ops)) m) (mapChk ops (ops.toList.map (compOper P cfg s.fid ops)) m) (outsOf s.X (mapList (ops.toList.map (compOper P cfg s.fid ops)) m))) := by
  intro cl hcl n env ds σ x env' ds' τ C w a Q h hI he hx hd hN hf hr hQ
  generalize hl : ops.toList.map (compOper P cfg s.fid ops) = l at h hok
  have F := map_facts hok
  have hlen : l.length = ops.size := by rw [← hl]; simp
  have h' : codeDraw (mapList l m) (mapChk ops l m) (outsOf s.X (mapList l m)) cl n ⟨env, ds⟩ σ = some (x, ⟨env', ds'⟩, τ) := h
  unfold codeDraw at h'
  cases ho : opersLog (mapList l m) cl env ds σ with
  | none => simp only [ho] at h'; cases h'
  | some q =>
  obtain ⟨e1, d1, s1, lg⟩ := q
  simp only [ho] at h'
  cases hc : checkLog lg (mapChk ops l m) with
  | false => rw [hc] at h'; cases h'
  | true =>
  rw [hc, cond_true] at h'
  cases h'
  obtain ⟨T0, hT, _, g1, g2⟩ := log_trace ho
  have H := map_reg hl.symm F hT g1 g2 hc
  generalize hTF : spread T0 (fstAt l m) 0 = TF at H
  -- what the first ones leave, and the map
  have rks : rk (fstAt l m) ops.size = nF l m := by rw [nF_rk, hlen]
  have TFe : ∀ i, TF.E i = T0.E (rk (fstAt l m) i) ∧ TF.D i = T0.D (rk (fstAt l m) i) ∧ TF.Sg i = T0.Sg (rk (fstAt l m) i) := fun i => by
    rw [← hTF]; refine ⟨?_, ?_, ?_⟩
    · show T0.E (0 + _) = _; rw [Nat.zero_add]
    · show T0.D (0 + _) = _; rw [Nat.zero_add]
    · show T0.Sg (0 + _) = _; rw [Nat.zero_add]
  have hlit := hT.run _ _ (list_lit (l := l) (m := m))
  obtain ⟨vl, k1, k2, k3⟩ := act_plain (cl := cl) (p := .mapLit m.ks (mapParts l m)) rfl hlit
  have k1' : op_mapLit m.ks (mapParts l m) (T0.E (nF l m)) (T0.Sg (nF l m)) = some (vl, T0.Sg (nF l m + 1)) := k1
  unfold op_mapLit at k1'
  cases hlo : litOk (T0.E (nF l m)) (mapParts l m) with
  | false => rw [hlo] at k1'; cases k1'
  | true =>
  rw [hlo, cond_true] at k1'
  obtain ⟨hvl, hsl⟩ : vl = .map (T0.Sg (nF l m)).next ∧ T0.Sg (nF l m + 1) = (T0.Sg (nF l m)).add (.map m.ks (litMap (T0.E (nF l m)) (mapParts l m))) := by have := Option.some.inj k1'; exact ⟨(congrArg Prod.fst this).symm, (congrArg Prod.snd this).symm⟩
  have Es : TF.E ops.size = T0.E (nF l m) := by rw [(TFe _).1, rks]
  have Ds : TF.D ops.size = T0.D (nF l m) := by rw [(TFe _).2.1, rks]
  have Ss : TF.Sg ops.size = T0.Sg (nF l m) := by rw [(TFe _).2.2, rks]
  have rk0 : rk (fstAt l m) 0 = 0 := rfl
  have E0 : TF.E 0 = env := by rw [(TFe _).1, rk0]; exact hT.e0
  have D0 : TF.D 0 = ds := by rw [(TFe _).2.1, rk0]; exact hT.d0
  have S0 : TF.Sg 0 = σ := by rw [(TFe _).2.2, rk0]; exact hT.s0
  generalize hM : (T0.Sg (nF l m)).next = M at *
  have hMn : (TF.Sg ops.size).next = M := by rw [Ss, hM]
  -- the last ones, behind the map
  have lrk : ∀ i, (spread T0 (lstAt m) (nF l m + 1)).E i = T0.E (nF l m + 1 + rk (lstAt m) i) ∧ (spread T0 (lstAt m) (nF l m + 1)).D i = T0.D (nF l m + 1 + rk (lstAt m) i) ∧ (spread T0 (lstAt m) (nF l m + 1)).Sg i = T0.Sg (nF l m + 1 + rk (lstAt m) i) := fun i => ⟨rfl, rfl, rfl⟩
  have hlst : ∀ {i : Nat}, lstAt m i = true → m.e < i := fun h => by unfold lstAt at h; simpa using h
  have HB : Reg P cfg s.fid ops l (lstAt m) noneIrr cl (spread T0 (lstAt m) (nF l m + 1)) := by
    refine ⟨hlen, fun i o hio => by rw [← hl]; exact comp_list hio, F.back, F.temps, fun _ _ _ _ _ _ h => h, fun i j ci cj hij hi hj hli hlj => ?_, fun i co hli hi => ?_, fun i _ hi => spread_off hi, fun j p cj cp hrj hrp hj hp hcj hcp hne => ?_⟩
    · right; unfold pairOk; rw [(F.lst i ci (hlst hi) hli).1, (F.lst j cj (hlst hj) hlj).1]
    · obtain ⟨q1, q2, q3⟩ := spread_on (T := T0) (k := nF l m + 1) hi
      have hq := list_lst (m := m) (List.getElem?_eq_some_iff.1 hli).1 (hlst hi)
      rw [opAt_some hli] at hq
      rw [q1, q2, q3]; exact hT.run _ _ hq
    · rw [(F.lst j cj (hlst hrj) hj).1] at hcj; cases hcj
  generalize hTB : spread T0 (lstAt m) (nF l m + 1) = TB at HB
  have TBe : ∀ i, TB.E i = T0.E (nF l m + 1 + rk (lstAt m) i) ∧ TB.D i = T0.D (nF l m + 1 + rk (lstAt m) i) ∧ TB.Sg i = T0.Sg (nF l m + 1 + rk (lstAt m) i) := fun i => by rw [← hTB]; exact lrk i
  have TB0 : TB.E 0 = T0.E (nF l m + 1) ∧ TB.D 0 = T0.D (nF l m + 1) ∧ TB.Sg 0 = T0.Sg (nF l m + 1) := TBe 0
  have TBq : ∀ i, i ≤ ops.size → TB.D i = TB.D 0 ∧ TB.Sg i = TB.Sg 0 := by
    intro i
    induction i with
    | zero => intro _; exact ⟨rfl, rfl⟩
    | succ i ih =>
      intro hi
      obtain ⟨i1, i2⟩ := ih (by omega)
      cases hb : lstAt m i with
      | false => obtain ⟨_, q2, q3⟩ := HB.idle i (by omega) hb; exact ⟨q2.trans i1, q3.trans i2⟩
      | true =>
        obtain ⟨oi, hoi, hli⟩ := HB.oper (i := i) (by omega)
        have hp := (F.lst i _ (hlst hb) hli).1
        obtain ⟨q1, q2⟩ := oper_cls (HB.run i _ hli hb) (by rw [hp]; simp)
        refine ⟨q1.trans i1, ?_⟩
        rcases q2 with ⟨_, _, q2⟩ | ⟨_, u, _, q2⟩
        · exact q2.trans i2
        · exact (pure_free hp _ _ _ _ q2).1.trans i2
  have lenL : nF l m + 1 + rk (lstAt m) ops.size = (mapList l m).length := by rw [list_len, hlen]
  have TB1 : TB.E ops.size = e1 ∧ TB.D ops.size = ds' ∧ TB.Sg ops.size = τ := by
    obtain ⟨q1, q2, q3⟩ := TBe ops.size
    rw [lenL] at q1 q2 q3
    exact ⟨q1.trans hT.e1, q2.trans hT.d1, q3.trans hT.s1⟩
  have Slit : TB.Sg ops.size = ⟨(M, .map m.ks (litMap (T0.E (nF l m)) (mapParts l m))) :: (T0.Sg (nF l m)).heap, M + 1⟩ := by
    rw [(TBq _ (Nat.le_refl _)).2, TB0.2.2, hsl]; unfold St.add; rw [hM]
  have hτn : τ.next = M + 1 := by rw [← TB1.2.2, Slit]
  have hσM : σ.next ≤ M := by rw [← hMn, ← S0]; exact H.mono hcl (Nat.zero_le _) (Nat.le_refl _)
  have hdd : ∀ (i : Nat) (o : Oper), ops[i]? = some o → ∀ d, o.dst = some d → d < a.tmps.size := fun i o hi d hd => Nat.lt_of_lt_of_le (dsts_lt hdst i o hi d hd) hN
  have hnd : (insIdx l m).Nodup := by unfold insIdx; exact List.nodup_range.filter _
  have hdis : ((insIdx l m).map (valAt l m (T0.E (nF l m)))).Pairwise fun p q => eqK p.1 q.1 = false := by
    have h1 := distinct_pair F.dist
    unfold mapParts at h1
    rw [List.pairwise_map] at h1 ⊢
    exact h1.imp fun h => h.1
  refine wpIn_region_any hm ?_
  -- behind all that the map wants
  have phaseB : ∀ (fuel : Nat) (listed : Array Bool) (rr : Nat) (C1 : Ctx) (a1 : Act) (w1 : World) (N : Nat) (ρX : Heap), listed.size = ops.size → ((List.range ops.size).filter fun j => !listed.getD j false).length ≤ fuel → (∀ j, j ≤ m.e → listed.getD j false = true) → (∀ j, m.e < j → listed.getD j false = false) →
      DI P cfg ops l (fstAt l m) (fun t => t = m.t) TF C σ w N a.tmps.size (fun j => listed.getD j false) rr ρX C1 a1 w1 → MapAt l m (T0.E (nF l m)) M (fun j => listed.getD j false) N ρX C1 a1 →
      wpAnyIn (FR r) 0 P .any ops Q fuel listed a1 w1 := by
    intro fuel listed rr C1 a1 w1 N ρX hls hcnt hall hnone hD hA
    rcases hA with ⟨h1, _⟩ | ⟨_, rfl, es, rfl, hvr, hes⟩
    · have h1' : listed.getD m.j0 false = false := h1
      rw [hall _ F.j0e] at h1'; cases h1'
    have hfull : (insIdx l m).filter (fun j => listed.getD j false) = insIdx l m := List.filter_eq_self.2 fun j hj => by
      unfold insIdx at hj; rw [List.mem_filter, List.mem_range] at hj
      refine hall j (Classical.byContradiction fun hn => ?_)
      have hp := (F.lst j _ (by omega) (opAt_lt hj.1)).1
      obtain ⟨k, y, _, q2⟩ := insAt_some hj.2
      rw [q2] at hp; simp [cls] at hp
    rw [hfull] at hes
    have hno : NoEff l (fstAt l m) rr ops.size := fun q co h1 h2 h3 h4 h5 => by
      have := (hD.effs q co h4 h3 h5).1 (hall q (by have := fst_lt h3; omega)); omega
    obtain ⟨z1, z2⟩ := H.zone hD.rle (Nat.le_refl _) hno
    have hp : pend TF (fstAt l m) (fun j => listed.getD j false) rr ops.size = pend TF (fstAt l m) (fun _ => true) rr ops.size := pend_congr fun q _ _ h3 => .inl (hall q (by have := fst_lt h3; omega))
    have hheap : pend TF (fstAt l m) (fun j => listed.getD j false) rr ops.size ++ (TF.Sg rr).heap = (T0.Sg (nF l m)).heap := by
      rw [hp, ← Ss, z1]
    have hI1 := hD.inv; rw [hheap] at hI1
    have hE1 := hD.ev; rw [hheap] at hE1
    have hI2 := Inv.perm hI1 hes hdis
    have hE2 := Ev.perm (es' := (insIdx l m).map (valAt l m (T0.E (nF l m)))) hE1
    rw [← lit_val] at hI2 hE2
    have e0 : (⟨(M, .map m.ks (litMap (T0.E (nF l m)) (mapParts l m))) :: (T0.Sg (nF l m)).heap, M + 1⟩ : St) = TB.Sg 0 := by rw [← Slit, (TBq _ (Nat.le_refl _)).2]
    have hpb : ∀ b, b ≤ ops.size → pend TB (lstAt m) (fun j => listed.getD j false) 0 b = [] := by
      intro b
      induction b with
      | zero => intro _; rfl
      | succ b ih =>
        intro hb
        rw [pend, adds_same (by rw [(TBq (b + 1) (by omega)).2, (TBq b (by omega)).2]), ih (by omega)]
        simp
    have hTBn : (TB.Sg ops.size).next = M + 1 := by rw [Slit]
    have nocls : ∀ (i : Nat) (co : AOper), l[i]? = some co → lstAt m i = true → cls co.op = .pure := fun i co hli hi => (F.lst i co (hlst hi) hli).1
    have hDB : DI P cfg ops l (lstAt m) noneIrr TB C σ w (TB.Sg ops.size).next a.tmps.size (fun j => listed.getD j false) 0 [] C1 a1 w1 := by
      refine ⟨hD.closed, Nat.zero_le _, fun i co hli hi hcc => (by rw [nocls i co hli hi] at hcc; cases hcc), fun i co hli hi hcc => (by rw [nocls i co hli hi] at hcc; cases hcc), fun id o hg => ?_, fun p hp => absurd hp List.not_mem_nil, ?_, ?_, fun j hj hjn _ id h1 h2 => ?_, fun t _ k hk hw => ?_, ?_, hD.size⟩
      · rw [← e0] at hg ⊢; exact hI2.next id o hg
      · rw [hpb _ (Nat.le_refl _), hTBn]
        have : (⟨[] ++ ([] ++ (TB.Sg 0).heap), M + 1⟩ : St) = TB.Sg 0 := by rw [← e0]; rfl
        rw [this, ← e0]; exact hI2
      · rw [hpb _ (Nat.le_refl _), hTBn]
        have : (⟨[] ++ ([] ++ (TB.Sg 0).heap), M + 1⟩ : St) = TB.Sg 0 := by rw [← e0]; rfl
        rw [this, ← e0]; exact hE2
      · rw [(TBq j (by omega)).2] at h1; rw [(TBq (j + 1) (by omega)).2] at h2; omega
      · have hstill : ∀ k', k' ≤ k → aget (TB.E k') t = aget (TB.E 0) t := by
          intro k'
          induction k' with
          | zero => intro _; rfl
          | succ k' ih =>
            intro hk'
            rw [← ih (by omega)]
            obtain ⟨oq, hoq, hlq⟩ := HB.oper (i := k') (by omega)
            cases hrq : lstAt m k' with
            | false => rw [(HB.idle k' (by omega) hrq).1]
            | true =>
              refine oper_env (HB.run k' _ hlq hrq) fun hdq => ?_
              have := (hw k' _ hlq hrq hdq).2 (by omega)
              rw [hnone k' (hlst hrq)] at this; cases this
        rw [hstill k (Nat.le_refl _), TB0.1, k2, hvl]
        by_cases et : t = m.t
        · subst et; rw [aget_put_self]; exact hvr
        · show VR C1 (aget ((m.t, AV.map M) :: T0.E (nF l m)) t) _
          rw [aget_cons, if_neg (fun e => et e.symm), ← Es]
          refine hD.tmps t et ops.size (Nat.le_refl _) fun i co hli hi _ => ?_
          have hie := fst_lt hi
          have hel := F.elt
          exact ⟨fun _ => by omega, fun _ => hall i (by omega)⟩
      · rw [TB0.2.1, k3, ← Ds, z2]; exact hD.defs
    refine rest_sound (r := r) HB hcl (by rw [← e0]; exact Nat.le_succ_of_le hσM) (.inr (TBq _ (Nat.le_refl _)).1) hdd (fun D a' w' hE hI' he' hd' hs' => ?_) fuel listed 0 C1 a1 w1 hls hcnt (fun i hi hri => hall i (Classical.byContradiction fun hn => by unfold lstAt at hri; simp at hri; omega)) hDB
    rw [TB1.2.2] at hE hI'
    rw [TB1.1] at he'
    rw [TB1.2.1] at hd'
    obtain ⟨q1, q2⟩ := keep_R (l := mapList l m) he' hx (fun j hj => opers_env (opersLog_opers ho) j hj)
    exact hQ D a' w' hE hI' q1 q2 hd' hs'
  -- the first ones and the map's, in whatever order
  have hbel : ∀ {i : Nat}, fstAt l m i = true → i ≠ m.j0 ∧ insAt l m i = false ∧ i < m.e := fun {i} h => by
    have h3 := fst_lt h
    unfold fstAt at h; simp at h; exact ⟨h.1.2, h.2, h3⟩
  have hins_le : ∀ {j : Nat}, insAt l m j = true → j ≤ m.e := fun {j} hj => by
    refine Classical.byContradiction fun hn => ?_
    have hp := (F.lst j _ (by omega) (opAt_lt (insAt_lt hj))).1
    obtain ⟨k, y, _, q2⟩ := insAt_some hj
    rw [q2] at hp; simp [cls] at hp
  have hinsIdx : ∀ {j : Nat}, j ∈ insIdx l m → insAt l m j = true ∧ j < ops.size := fun {j} hj => by
    unfold insIdx at hj; rw [List.mem_filter, List.mem_range] at hj; exact ⟨hj.2, by omega⟩
  have hopAt : ∀ {i : Nat} {o : Oper}, ops[i]? = some o → compOper P cfg s.fid ops o = opAt l i := fun {i o} hio => by
    have := comp_list (cfg := cfg) (P := P) (fid := s.fid) hio
    rw [hl] at this; exact (opAt_some this).symm
  have later : ∀ {u j k : Nat}, (∀ (i : Nat) (ci : AOper), fstAt l m i = true → l[i]? = some ci → j ≤ i → ci.dst ≠ some u) → j ≤ k → k ≤ ops.size → aget (TF.E k) u = aget (TF.E j) u := by
    intro u j k hw hjk
    induction k with
    | zero => intro _; have : j = 0 := by omega
              subst this; rfl
    | succ k ih =>
      intro hk
      by_cases e : j = k + 1
      · subst e; rfl
      · rw [← ih (by omega) (by omega)]
        obtain ⟨oq, hoq, hlq⟩ := H.oper (i := k) (by omega)
        cases hrq : fstAt l m k with
        | false => rw [(H.idle k (by omega) hrq).1]
        | true => exact oper_env (H.run k _ hlq hrq) (hw k _ hrq hlq (by omega))
  have phaseA : ∀ (fuel : Nat) (listed : Array Bool) (rr : Nat) (C1 : Ctx) (a1 : Act) (w1 : World) (N : Nat) (ρX : Heap), listed.size = ops.size → ((List.range ops.size).filter fun j => !listed.getD j false).length ≤ fuel → (∀ j, m.e < j → listed.getD j false = false) →
      DI P cfg ops l (fstAt l m) (fun t => t = m.t) TF C σ w N a.tmps.size (fun j => listed.getD j false) rr ρX C1 a1 w1 → MapAt l m (T0.E (nF l m)) M (fun j => listed.getD j false) N ρX C1 a1 →
      wpAnyIn (FR r) 0 P .any ops Q fuel listed a1 w1 := by
    intro fuel
    induction fuel with
    | zero =>
      intro listed rr C1 a1 w1 N ρX hls hcnt hnone hD hA
      refine phaseB 0 listed rr C1 a1 w1 N ρX hls hcnt (fun j hj => ?_) hnone hD hA
      refine Classical.byContradiction fun hn => ?_
      have hel := F.elt
      have : j ∈ (List.range ops.size).filter fun j => !listed.getD j false := by
        rw [List.mem_filter, List.mem_range]; exact ⟨by omega, by simpa using hn⟩
      have := List.length_pos_of_mem this; omega
    | succ fuel ih =>
      intro listed rr C1 a1 w1 N ρX hls hcnt hnone hD hA
      by_cases hall : ∀ j, j ≤ m.e → listed.getD j false = true
      · exact phaseB (fuel + 1) listed rr C1 a1 w1 N ρX hls hcnt hall hnone hD hA
      refine ⟨fun hr => ?_, fun i hi => ?_⟩
      · exact absurd (fun j hj => all_done F.back hls hr j (by have := F.elt; omega)) hall
      rw [mem_ready] at hi
      obtain ⟨h1, o, hoi, h2⟩ := hi
      have hilt : i < ops.size := (Array.getElem?_eq_some_iff.1 hoi).1
      have hil : i < listed.size := by omega
      have hSi : listed.getD i false = false := by
        rw [Array.getD_eq_getD_getElem?, Array.getElem?_eq_getElem hil] at h1 ⊢
        simpa using h1
      have hli := H.comp i o hoi
      have hoe := hopAt hoi
      rw [hoe] at hli
      have hdst' : (opAt l i).dst = o.dst := by rw [← hoe]; exact compOper_dst o
      have hbit : ∀ j, ((Region.before ops).getD i 0).testBit j = true → listed.getD j false = true := fun j hj => hD.closed.ready F.back hoi h2 hj
      have hle : i ≤ m.e := Classical.byContradiction fun hn => hall fun j hj => hbit j ((F.lst i _ (by omega) hli).2 j hj)
      have hcnt' : ((List.range ops.size).filter fun j => !(listed.setIfInBounds i true).getD j false).length ≤ fuel := by
        have : ((List.range ops.size).filter fun j => !(listed.setIfInBounds i true).getD j false).length < ((List.range ops.size).filter fun j => !listed.getD j false).length := by
          refine filter_lt (i := i) (fun y hy => ?_) (List.mem_range.2 hilt) (by rw [hSi]; rfl) ?_
          · by_cases e : y = i
            · subst e; rw [hSi]; rfl
            · rw [getD_set_ne false (fun h => e h.symm)] at hy; exact hy
          · rw [Array.getD_eq_getD_getElem?, Array.getElem?_setIfInBounds_self_of_lt hil]; rfl
        omega
      have hnone' : ∀ j, m.e < j → (listed.setIfInBounds i true).getD j false = false := fun j hj => by
        rw [getD_set_ne false (by omega)]; exact hnone j hj
      have hsl := setOf_listed hil
      cases hfst : fstAt l m i with
      | true =>
        obtain ⟨n1, n2, n3⟩ := hbel hfst
        have hNM : (TF.Sg ops.size).next ≤ N := by
          rw [hMn]; rcases hA with ⟨_, rfl, _⟩ | ⟨_, rfl, _⟩ <;> omega
        have hTD : r = none ∨ TF.D ops.size = TF.D 0 := by
          rcases hr with h | h
          · exact .inl h
          · right
            have q1 := TB1.2.1; rw [(TBq _ (Nat.le_refl _)).1, TB0.2.1, k3, ← Ds] at q1
            rw [q1, h, D0]
        refine reg_step (r := r) H hcl (by rw [S0]; exact Nat.le_refl _) hNM hTD hD hoi hfst hSi h2 (hdd i o hoi) fun rr' D a' w' hle' hab hoth hD' => ?_
        rw [← hsl] at hD'
        refine ih (listed.setIfInBounds i true) rr' D a' w' N ρX (by simpa using hls) hcnt' hnone' hD' ?_
        have hdt : o.dst ≠ some m.t := fun e => F.fst i _ hfst hli (by unfold namesA; rw [hdst', e]; simp)
        have hS' : ∀ j, j ≠ i → (listed.setIfInBounds i true).getD j false = listed.getD j false := fun j hj => getD_set_ne false (fun e => hj e.symm)
        rcases hA with ⟨q1, hN1, rfl, q4⟩ | ⟨q1, rfl, es, rfl, q4, q5⟩
        · refine .inl ⟨(hS' _ (fun e => n1 e.symm)).trans q1, hN1, rfl, fun id i1 i2 => ?_⟩
          obtain ⟨b1, b2⟩ := hab id (by rw [hMn]; exact i1)
          obtain ⟨c1, c2⟩ := q4 id i1 i2
          exact ⟨b1.trans c1, fun g => (b2 g).trans (c2 g)⟩
        · refine .inr ⟨(hS' _ (fun e => n1 e.symm)).trans q1, rfl, es, rfl, by rw [hoth m.t hdt]; exact q4.mono hle', ?_⟩
          have : (insIdx l m).filter (fun j => (listed.setIfInBounds i true).getD j false) = (insIdx l m).filter (fun j => listed.getD j false) := filter_same fun j hj => hS' j (fun e => by
            have := (hinsIdx hj).1; rw [e, n2] at this; cases this)
          rw [this]; exact q5
      | false =>
        by_cases ej : i = m.j0
        · subst ej
          rcases hA with ⟨q1, hNM, rfl, q4⟩ | ⟨q1, _⟩
          · have hNM' := hNM.symm
            subst hNM'
            have hmk : opAt l m.j0 = ⟨some m.t, none, .makeMap m.ks⟩ := opAt_some F.mk0
            have hod : o.dst = some m.t := by rw [← hdst', hmk]
            refine beside (r := r) (ρX' := [(M, .map m.ks [])]) (N' := M + 1) (e := []) (env' := put [] (some m.t) (.map M)) H hcl (by rw [hMn]; exact Nat.le_refl _) hD hoi hfst h2 (hdd _ o hoi) (fun d hd => by rw [hod] at hd; cases hd; rfl) (fun t => .junk _) ?_ (fun p hp => by simp at hp; subst hp; rw [hMn]; exact Nat.le_refl _) q4 ?_
            · rw [hoe, hmk]; rfl
            · intro v D a' w' hv hle' hoth hval hD'
              rw [← hsl] at hD'
              refine ih (listed.setIfInBounds m.j0 true) rr D a' w' (M + 1) _ (by simpa using hls) hcnt' hnone' hD' (.inr ⟨?_, rfl, [], rfl, ?_, ?_⟩)
              · show (listed.setIfInBounds m.j0 true).getD m.j0 false = true
                rw [Array.getD_eq_getD_getElem?, Array.getElem?_setIfInBounds_self_of_lt hil]; rfl
              · have hv' : v = .map M := by
                  have h3 := congrArg (fun e => aget e m.t) hv
                  rw [hod] at h3
                  have h4 : aget (put [] (some m.t) (.map M)) m.t = aget (put [] (some m.t) v) m.t := h3
                  rw [aget_put_self, aget_put_self] at h4; exact h4.symm
                have := hval m.t hod
                rwa [hv'] at this
              · have : (insIdx l m).filter (fun j => (listed.setIfInBounds m.j0 true).getD j false) = [] := List.filter_eq_nil_iff.2 fun j hj => by
                  obtain ⟨b1, b2⟩ := hinsIdx hj
                  obtain ⟨_, _, _, _, _, b3, b4, _⟩ := F.ins j _ b1 (opAt_lt (by omega))
                  rw [getD_set_ne false (by omega)]
                  intro hc
                  have := hD.closed.bit F.back _ _ hc b4
                  rw [hSi] at this; cases this
                rw [this]; exact List.Perm.refl _
          · have q1' : listed.getD m.j0 false = true := q1
            rw [hSi] at q1'; cases q1'
        · have hinsi : insAt l m i = true := by
            cases hb : insAt l m i with
            | true => rfl
            | false =>
              exfalso
              have hie : i < m.e := by
                refine Classical.byContradiction fun hn => ?_
                have e : i = m.e := by omega
                rcases F.eat with q | q
                · exact ej (e.trans q)
                · rw [e, q] at hb; cases hb
              unfold fstAt at hfst
              rw [hb] at hfst; simp [hie, ej] at hfst
          obtain ⟨sk, x', c1, c2, c3, c4, c5, c6⟩ := F.ins i _ hinsi hli
          rcases hA with ⟨q1, _⟩ | ⟨q1, rfl, es, rfl, q4, q5⟩
          · have := hbit _ c5
            have q1' : listed.getD m.j0 false = false := q1
            rw [this] at q1'; cases q1'
          · have hod : o.dst = none := by rw [← hdst', c1]
            have himem : i ∈ insIdx l m := by unfold insIdx; rw [List.mem_filter, List.mem_range]; exact ⟨by omega, hinsi⟩
            -- its value is what it will be
            have hxv : x'.eval (TF.E i) = x'.eval (T0.E (nF l m)) := by
              cases x' with
              | t u => show aget (TF.E i) u = aget (T0.E (nF l m)) u; rw [← Es]; exact (later (c6 u (by simp [opdT])).2 (by omega) (Nat.le_refl _)).symm
              | c v => rfl
              | f n => rfl
            let eI : Env := (m.t, .map M) :: only (TF.E i) (opdT x')
            have hxe : x'.eval eI = x'.eval (TF.E i) := by
              cases x' with
              | t u =>
                show aget ((m.t, AV.map M) :: only (TF.E i) [u]) u = aget (TF.E i) u
                rw [aget_cons, if_neg (fun e => (c6 u (by simp [opdT])).1 e.symm), aget_only, if_pos (by simp)]
              | c v => rfl
              | f n => rfl
            have hEI : EnvR C1 eI a1.tmps := fun t => by
              show VR C1 (aget ((m.t, AV.map M) :: only (TF.E i) (opdT x')) t) _
              rw [aget_cons]
              by_cases et : m.t = t
              · rw [if_pos et, ← et]; exact q4
              · rw [if_neg et, aget_only]
                split
                · rename_i ht
                  refine hD.tmps t (fun e => et e.symm) i (by omega) fun i' co' hl' hreg' hd' => ?_
                  rcases temps_spec F.temps hl' hli (List.mem_append_left _ (List.mem_append_left _ (by rw [c1]; simp [readsOf, opdT]; exact Or.inr ht))) hd' with e | hb
                  · subst e; rw [hfst] at hreg'; cases hreg'
                  · by_cases hlt' : i' < i
                    · rw [Nat.max_eq_right (by omega), Nat.min_eq_left (by omega)] at hb
                      exact ⟨fun _ => hlt', fun _ => hbit _ hb⟩
                    · exact absurd hd' ((c6 t ht).2 i' co' hreg' hl' (by omega))
                · exact .junk _
            have hknown : known (x'.eval eI) = true := by
              rw [hxe, hxv]
              have := litOk_mem hlo (partAt l m i) (by unfold mapParts; exact List.mem_map_of_mem himem)
              rw [c2] at this; exact this
            have hkeys : ∀ p ∈ es, eqK p.1 (.str sk) = false := by
              intro p hp
              have hp' := q5.mem_iff.1 hp
              obtain ⟨j, hj, rfl⟩ := List.mem_map.1 hp'
              rw [List.mem_filter] at hj
              have hji : j ≠ i := fun e => by subst e; rw [hSi] at hj; cases hj.2
              have hall2 := distinct_pair F.dist
              unfold mapParts at hall2
              rw [List.pairwise_map] at hall2
              have := pair_of (R := fun x y => eqK (partAt l m x).1 (partAt l m y).1 = false ∧ eqK (partAt l m y).1 (partAt l m x).1 = false) (fun x y h => ⟨h.2, h.1⟩) hall2 hj.1 himem hji
              show eqK (partAt l m j).1 (.str sk) = false
              have e1 : (partAt l m i).1 = .str sk := by rw [c2]
              rw [← e1]; exact this.1
            have hput : mput es (.str sk) (stripCell (x'.eval eI)) = es ++ [valAt l m (T0.E (nF l m)) i] := by
              rw [mput_none hkeys, hxe, hxv]; unfold valAt; rw [c2]
            refine beside (r := r) (ρX' := [(M, .map m.ks (es ++ [valAt l m (T0.E (nF l m)) i]))]) (N' := M + 1) (e := eI) (env' := eI) H hcl (by rw [hMn]; exact Nat.le_succ _) hD hoi hfst h2 (hdd _ o hoi) (fun d hd => by rw [hod] at hd; cases hd) hEI ?_ (fun p hp => by simp at hp; subst hp; rw [hMn]; exact Nat.le_refl _) (fun id i1 i2 => by omega) ?_
            · rw [hoe, c1]
              show actOp (op_mapUpdate m.ks (.t m.t) (.c (.str sk)) x') none cl eI _ _ = _
              unfold actOp op_mapUpdate
              have e1 : (Opd.t m.t).eval eI = .map M := by show aget ((m.t, AV.map M) :: _) m.t = _; rw [aget_cons, if_pos rfl]
              have e2 : (Opd.c (AV.str sk)).eval eI = .str sk := rfl
              rw [e1, e2]
              have e3 : AV.map? (.map M) = some M := rfl
              rw [e3]
              have e4 : ∀ h : Heap, mapGet M ⟨[(M, AObj.map m.ks es)] ++ h, M + 1⟩ m.ks = some es := fun h => by
                unfold mapGet St.mapOf St.get
                have : hget ([(M, AObj.map m.ks es)] ++ h) M = some (.map m.ks es) := by
                  show (bif Nat.beq M M then _ else _) = _; rw [Nat.beq_refl]; rfl
                rw [this, c3]; rfl
              simp only [e4]
              have e5 : keyOk m.ks (.str sk) = true := by rw [c3]; rfl
              rw [e5, hknown, hput]
              have e6 : ∀ h : Heap, St.set ⟨[(M, AObj.map m.ks es)] ++ h, M + 1⟩ M (.map m.ks (es ++ [valAt l m (T0.E (nF l m)) i])) = ⟨[(M, .map m.ks (es ++ [valAt l m (T0.E (nF l m)) i]))] ++ h, M + 1⟩ := fun h => by
                unfold St.set
                have : hset ([(M, AObj.map m.ks es)] ++ h) M (.map m.ks (es ++ [valAt l m (T0.E (nF l m)) i])) = [(M, .map m.ks (es ++ [valAt l m (T0.E (nF l m)) i]))] ++ h := by
                  show (bif Nat.beq M M then _ else _) = _; rw [Nat.beq_refl]; rfl
                rw [this]
              rw [e6]; rfl
            · intro v D a' w' hv hle' hoth hval hD'
              rw [← hsl] at hD'
              refine ih (listed.setIfInBounds i true) rr D a' w' (M + 1) _ (by simpa using hls) hcnt' hnone' hD' (.inr ⟨?_, rfl, _, rfl, ?_, ?_⟩)
              · exact getD_set_true q1
              · rw [hoth m.t (by rw [hod]; simp)]; exact q4.mono hle'
              · have e1 : (fun j => (listed.setIfInBounds i true).getD j false) = withS (fun j => listed.getD j false) i := hsl
                rw [e1]
                refine (List.perm_append_comm.trans ?_).trans (((filter_more hnd himem (S := fun j => listed.getD j false) hSi).map (valAt l m (T0.E (nF l m)))).symm)
                show ([valAt l m (T0.E (nF l m)) i] ++ es).Perm (valAt l m (T0.E (nF l m)) i :: _)
                exact q5.cons _
  have hst := DI.start (a := a) (N := M) H hcl (by rw [hMn]; exact Nat.le_refl _) (by rw [S0]; exact hI) (by rw [E0]; exact he) (by rw [D0]; exact hd) (by rw [S0, hMn]; exact hf.sub (Nat.le_refl _) (by omega))
  rw [S0] at hst
  have hrep : ∀ j, (Array.replicate ops.size false).getD j false = false := fun j => by
    rw [Array.getD_eq_getD_getElem?]
    by_cases h : j < ops.size
    · rw [Array.getElem?_eq_getElem (by simpa using h)]; simp
    · rw [Array.getElem?_eq_none (by simpa using h)]; rfl
  exact phaseA ops.size _ 0 C a _ M [] (by simp) count_start (fun j _ => hrep j) hst (.inl ⟨hrep _, rfl, rfl, hf.sub hσM (by omega)⟩)
end Go.AM
