/- A part of the proof of: EmitBecomes: what a term becomes by patterns, and a pattern's name, is what the document says, or the error is told. -/
import Derived.Test.YtkopdkjpmccbmaaGreatDoorM17
namespace Go.AM
open Go.RowKit
variable {P : Program} {cfg : Cfg} {fid : Nat} {cl : CallF} {ops : Array Oper} {l : List AOper} {env env' : Env} {ds ds' : List ADef} {σ τ : St} {v : AV} {co : AOper} {r : Option Nat} {m : MapPlan}
variable {reg : Nat → Bool} {irr : Nat → Prop} {T : Trace} {S S' : Nat → Bool} {rr : Nat} {ρX : Heap} {C0 C D : Ctx} {σ0 : St} {w0 w : World} {a : Act} {N sz : Nat}

/-- A trace spread over the places of a kind. -/
def spread (T : Trace) (F : Nat → Bool) (k : Nat) : Trace := ⟨fun i => T.E (k + rk F i), fun i => T.D (k + rk F i), fun i => T.Sg (k + rk F i)⟩
theorem spread_on {F : Nat → Bool} {k i : Nat} (h : F i = true) : (spread T F k).E (i + 1) = T.E (k + rk F i + 1) ∧ (spread T F k).D (i + 1) = T.D (k + rk F i + 1) ∧ (spread T F k).Sg (i + 1) = T.Sg (k + rk F i + 1) := by
  have e : k + rk F (i + 1) = k + rk F i + 1 := by rw [rk_succ, h]; rfl
  refine ⟨?_, ?_, ?_⟩
  · show T.E (k + rk F (i + 1)) = _; rw [e]
  · show T.D (k + rk F (i + 1)) = _; rw [e]
  · show T.Sg (k + rk F (i + 1)) = _; rw [e]
theorem spread_off {F : Nat → Bool} {k i : Nat} (h : F i = false) : (spread T F k).E (i + 1) = (spread T F k).E i ∧ (spread T F k).D (i + 1) = (spread T F k).D i ∧ (spread T F k).Sg (i + 1) = (spread T F k).Sg i := by
  have e : k + rk F (i + 1) = k + rk F i := by rw [rk_succ, h]; rfl
  refine ⟨?_, ?_, ?_⟩
  · show T.E (k + rk F (i + 1)) = _; rw [e]; rfl
  · show T.D (k + rk F (i + 1)) = _; rw [e]; rfl
  · show T.Sg (k + rk F (i + 1)) = _; rw [e]; rfl

def nF (l : List AOper) (m : MapPlan) : Nat := (fstIdx l m).length
theorem nF_rk : nF l m = rk (fstAt l m) l.length := rfl
theorem list_fst {i : Nat} (he : m.e < l.length) (h : fstAt l m i = true) : (mapList l m)[rk (fstAt l m) i]? = some (opAt l i) := by
  have h1 := rk_get (fstAt l m) (n := l.length) (by have := fst_lt h; omega) h
  have h2 : (fstIdx l m)[rk (fstAt l m) i]? = some i := h1
  unfold mapList
  have h3 := (List.getElem?_eq_some_iff.1 h2).1
  rw [List.getElem?_append_left (by simpa using h3), List.getElem?_map, h2]; rfl
theorem list_lit : (mapList l m)[nF l m]? = some ⟨some m.t, none, .mapLit m.ks (mapParts l m)⟩ := by
  unfold mapList nF
  rw [List.getElem?_append_right (by simp)]; simp
theorem list_lst {i : Nat} (hl : i < l.length) (h : m.e < i) : (mapList l m)[nF l m + 1 + rk (lstAt m) i]? = some (opAt l i) := by
  have h1 : (lstIdx l m)[rk (lstAt m) i]? = some i := rk_get (lstAt m) hl (by unfold lstAt; simpa using h)
  unfold mapList nF
  rw [List.getElem?_append_right (by simp; omega), List.length_map]
  rw [show (fstIdx l m).length + 1 + rk (lstAt m) i - (fstIdx l m).length = rk (lstAt m) i + 1 by omega, List.getElem?_cons_succ, List.getElem?_map, h1]; rfl
theorem list_len : (mapList l m).length = nF l m + 1 + rk (lstAt m) l.length := by
  unfold mapList nF; rw [List.length_append, List.length_cons, List.length_map, List.length_map]
  show _ + ((lstIdx l m).length + 1) = _
  have : (lstIdx l m).length = rk (lstAt m) l.length := rfl
  omega

theorem map_chk_mem {j p : Nat} {cj cp : AOper} (he : m.e < l.length) (hrj : fstAt l m j = true) (hrp : fstAt l m p = true) (hj : l[j]? = some cj) (hp : l[p]? = some cp) (hc : cls cj.op = .read) (hcp : cls cp.op = .eff ∨ cls cp.op = .new) (hne : p ≠ j)
    (hu : ((Region.before ops).getD (max p j) 0).testBit (min p j) = false) : ∃ ps, (rk (fstAt l m) j, ps) ∈ mapChk ops l m ∧ rk (fstAt l m) p ∈ ps := by
  have zj : (j, rk (fstAt l m) j) ∈ (fstIdx l m).zipIdx := by
    rw [List.mem_zipIdx_iff_getElem?]; exact rk_get (fstAt l m) (n := l.length) (by have := fst_lt hrj; omega) hrj
  have zp : (p, rk (fstAt l m) p) ∈ (fstIdx l m).zipIdx := by
    rw [List.mem_zipIdx_iff_getElem?]; exact rk_get (fstAt l m) (n := l.length) (by have := fst_lt hrp; omega) hrp
  have hmem : (p, rk (fstAt l m) p) ∈ (fstIdx l m).zipIdx.filter fun (p, _) => p != j && (cls (opAt l p).op = .eff || cls (opAt l p).op = .new) && (if p < j then unordered (Region.before ops) p j else unordered (Region.before ops) j p) := by
    rw [List.mem_filter]
    refine ⟨zp, ?_⟩
    simp only
    rw [opAt_some hp]
    have h1 : (if p < j then unordered (Region.before ops) p j else unordered (Region.before ops) j p) = true := by
      unfold unordered
      by_cases h : p < j
      · rw [if_pos h]; rw [Nat.max_eq_right (by omega), Nat.min_eq_left (by omega)] at hu; rw [hu]; rfl
      · rw [if_neg h]; rw [Nat.max_eq_left (by omega), Nat.min_eq_right (by omega)] at hu; rw [hu]; rfl
    rw [h1]
    simpa [hne] using hcp
  have hmem2 := List.mem_map_of_mem (f := fun x : Nat × Nat => x.2) hmem
  refine ⟨_, ?_, hmem2⟩
  unfold mapChk
  simp only
  rw [List.mem_filterMap]
  refine ⟨(j, rk (fstAt l m) j), zj, ?_⟩
  simp only
  rw [opAt_some hj, if_pos hc, if_neg]
  intro h
  rw [List.isEmpty_iff] at h
  rw [h] at hmem2; cases hmem2

theorem stays_spread {F : Nat → Bool} {k j p : Nat} (hj : F j = true) (h : Stays T (k + rk F j) co (k + rk F p)) : Stays (spread T F k) j co p := by
  obtain ⟨v, s, h1, h2⟩ := h
  refine ⟨v, s, h1, fun d hd => ?_⟩
  rw [(spread_on hj).1]; exact h2 d hd
theorem stays_spread1 {F : Nat → Bool} {k j p : Nat} (hj : F j = true) (hp : F p = true) (h : Stays T (k + rk F j) co (k + rk F p + 1)) : Stays (spread T F k) j co (p + 1) := by
  obtain ⟨v, s, h1, h2⟩ := h
  refine ⟨v, s, ?_, fun d hd => ?_⟩
  · rw [(spread_on hp).2.2]; exact h1
  · rw [(spread_on hj).1]; exact h2 d hd

/-- The operations beside the map's, as they ran in the text's order. -/
theorem map_reg (hl : l = ops.toList.map (compOper P cfg fid ops)) (F : MapFacts ops l m) {lg : List Log} (hT : Traced (mapList l m) cl env ds σ env' ds' τ T)
    (h1 : ∀ (i : Nat) (co : AOper), (mapList l m)[i]? = some co → ∃ b, wanted (T.E i) co.guard = some b ∧ lg[i]? = some (logOf co b (T.E i) (T.E (i + 1)) (T.Sg i)))
    (h2 : ∀ i, i ≤ (mapList l m).length → ∃ e, lg[i]? = some e ∧ e.at_ = T.Sg i) (hchk : checkLog lg (mapChk ops l m) = true) :
    Reg P cfg fid ops l (fstAt l m) (fun t => t = m.t) cl (spread T (fstAt l m) 0) := by
  have hlen : l.length = ops.size := by rw [hl]; simp
  refine ⟨hlen, fun i o ho => by rw [hl]; exact comp_list ho, F.back, F.temps, fun i co hi hli t ht e => F.fst i co hi hli (e ▸ ht), fun i j ci cj hij hi hj hli hlj => F.pairs i j ci cj hij hi hj hli hlj, fun i co hli hi => ?_, fun i _ hi => ?_, fun j p cj cp hrj hrp hj hp hc hcp hne => ?_⟩
  · obtain ⟨e1, e2, e3⟩ := spread_on (T := T) (k := 0) hi
    have hq := list_fst F.elt hi
    rw [opAt_some hli] at hq
    have := hT.run _ _ hq
    rw [e1, e2, e3]
    show oper co cl (T.E (0 + rk (fstAt l m) i)) (T.D (0 + rk (fstAt l m) i)) (T.Sg (0 + rk (fstAt l m) i)) = _
    rw [Nat.zero_add]; exact this
  · exact spread_off hi
  · cases hbit : ((Region.before ops).getD (max p j) 0).testBit (min p j) with
    | true => exact .inl rfl
    | false =>
      refine .inr fun hw => ?_
      obtain ⟨ps, m1, m2⟩ := map_chk_mem F.elt hrj hrp hj hp hc hcp hne hbit
      obtain ⟨e, he, hs⟩ := checkLog_spec hchk _ m1
      have hq := list_fst F.elt hrj
      rw [opAt_some hj] at hq
      obtain ⟨b, hb, hlgj⟩ := h1 _ cj hq
      have hw' : wanted (T.E (rk (fstAt l m) j)) cj.guard = some true := by
        have : wanted (T.E (0 + rk (fstAt l m) j)) cj.guard = some true := hw
        rwa [Nat.zero_add] at this
      rw [hw'] at hb; cases hb
      simp only at he
      rw [hlgj] at he
      have he' : e = logOf cj true (T.E (rk (fstAt l m) j)) (T.E (rk (fstAt l m) j + 1)) (T.Sg (rk (fstAt l m) j)) := by cases he; rfl
      have hqp := list_fst F.elt hrp
      have hpl := (List.getElem?_eq_some_iff.1 hqp).1
      refine ⟨stays_spread hrj ?_, stays_spread1 hrj hrp ?_⟩
      · rw [Nat.zero_add, Nat.zero_add]; exact stays_of (h2 _ (by omega)) he' (hs _ m2).1
      · rw [Nat.zero_add, Nat.zero_add]; exact stays_of (h2 _ (by omega)) he' (hs _ m2).2

/-- What is left of a region in which all else is done, in whatever order. -/
theorem rest_sound (H : Reg P cfg fid ops l reg noneIrr cl T) (hcl : ClOk P cfg cl) (h0 : σ0.next ≤ (T.Sg 0).next) (hr : r = none ∨ T.D ops.size = T.D 0) (hdst : ∀ (i : Nat) (o : Oper), ops[i]? = some o → ∀ d, o.dst = some d → d < sz)
    {Q : Exit → Act → World → Prop}
    (hQ : ∀ D a' w', Ev C0 σ0 w0 D (T.Sg ops.size) w' → Inv P cfg D (T.Sg ops.size) w' → EnvR D (T.E ops.size) a'.tmps → DefsR D (T.D ops.size) a'.defers → a'.tmps.size = sz → Q .normal a' w') :
    ∀ (fuel : Nat) (listed : Array Bool) (rr : Nat) (C : Ctx) (a : Act) (w : World), listed.size = ops.size → ((List.range ops.size).filter fun j => !listed.getD j false).length ≤ fuel → (∀ i, i < ops.size → reg i = false → listed.getD i false = true) →
      DI P cfg ops l reg noneIrr T C0 σ0 w0 (T.Sg ops.size).next sz (fun j => listed.getD j false) rr [] C a w → wpAnyIn (FR r) 0 P .any ops Q fuel listed a w := by
  have final : ∀ (listed : Array Bool) (rr : Nat) (C : Ctx) (a : Act) (w : World), listed.size = ops.size → DI P cfg ops l reg noneIrr T C0 σ0 w0 (T.Sg ops.size).next sz (fun j => listed.getD j false) rr [] C a w → Region.ready .any ops listed = [] → Q .normal a w := by
    intro listed rr C a w hs hD hr
    have hall := all_done H.back hs hr
    have hno : NoEff l reg rr ops.size := fun q co h1 h2 h3 h4 h5 => by
      have := (hD.effs q co h4 h3 h5).1 (hall q h2); omega
    obtain ⟨z1, z2⟩ := H.zone hD.rle (Nat.le_refl _) hno
    have hp : pend T reg (fun j => listed.getD j false) rr ops.size = pend T reg (fun _ => true) rr ops.size := pend_congr fun q _ h2 _ => .inl (hall q h2)
    have hst : (⟨[] ++ (pend T reg (fun j => listed.getD j false) rr ops.size ++ (T.Sg rr).heap), (T.Sg ops.size).next⟩ : St) = T.Sg ops.size := by
      rw [hp, ← z1]; rfl
    have hI := hD.inv; rw [hst] at hI
    have hE := hD.ev; rw [hst] at hE
    refine hQ C a w hE hI (fun t => hD.tmps t (fun h => h) ops.size (Nat.le_refl _) fun i co hl _ _ => ?_) (by rw [z2]; exact hD.defs) hD.size
    have hi : i < ops.size := by have := (List.getElem?_eq_some_iff.1 hl).1; rw [H.len] at this; exact this
    exact ⟨fun _ => hi, fun _ => hall i hi⟩
  intro fuel
  induction fuel with
  | zero =>
    intro listed rr C a w hs hc _ hD
    have hr' : Region.ready .any ops listed = [] := by
      cases hr' : Region.ready .any ops listed with
      | nil => rfl
      | cons j rest =>
        exfalso
        have hj : j ∈ Region.ready .any ops listed := by rw [hr']; simp
        rw [mem_ready] at hj
        obtain ⟨h1, o, ho, _⟩ := hj
        have hjlt : j < ops.size := (Array.getElem?_eq_some_iff.1 ho).1
        have hm : j ∈ (List.range ops.size).filter fun j => !listed.getD j false := by
          rw [List.mem_filter, List.mem_range]
          refine ⟨hjlt, ?_⟩
          have hjl : j < listed.size := by omega
          rw [Array.getD_eq_getD_getElem?, Array.getElem?_eq_getElem hjl] at h1 ⊢
          simpa using h1
        have := List.length_pos_of_mem hm
        omega
    exact ⟨hr', final listed rr C a w hs hD hr'⟩
  | succ fuel ih =>
    intro listed rr C a w hs hc hreg hD
    refine ⟨final listed rr C a w hs hD, fun i hi => ?_⟩
    rw [mem_ready] at hi
    obtain ⟨h1, o, ho, h2⟩ := hi
    have hilt : i < ops.size := (Array.getElem?_eq_some_iff.1 ho).1
    have hil : i < listed.size := by omega
    have hSi : listed.getD i false = false := by
      rw [Array.getD_eq_getD_getElem?, Array.getElem?_eq_getElem hil] at h1 ⊢
      simpa using h1
    have hri : reg i = true := by
      cases hb : reg i with
      | true => rfl
      | false => have := hreg i hilt hb; rw [hSi] at this; cases this
    refine reg_step (r := r) H hcl h0 (Nat.le_refl _) hr hD ho hri hSi h2 (hdst i o ho) fun rr' D a' w' _ _ _ hD' => ?_
    rw [← setOf_listed hil] at hD'
    refine ih (listed.setIfInBounds i true) rr' D a' w' (by simpa using hs) ?_ (fun q hq hrq => ?_) hD'
    · have : ((List.range ops.size).filter fun j => !(listed.setIfInBounds i true).getD j false).length < ((List.range ops.size).filter fun j => !listed.getD j false).length := by
        refine filter_lt (i := i) (fun x hx => ?_) (List.mem_range.2 hilt) (by rw [hSi]; rfl) ?_
        · by_cases e : x = i
          · subst e; rw [hSi]; rfl
          · rw [getD_set_ne false (fun h => e h.symm)] at hx; exact hx
        · rw [Array.getD_eq_getD_getElem?, Array.getElem?_setIfInBounds_self_of_lt hil]; rfl
      omega
    · exact getD_set_true (hreg q hq hrq)

/-- What an operation that is not done is to make is not there. -/
theorem DI.unborn (H : Reg P cfg fid ops l reg irr cl T) (hcl : ClOk P cfg cl) (hD : DI P cfg ops l reg irr T C0 σ0 w0 N sz S rr ρX C a w) {j : Nat} (hrj : reg j = true) (hjn : j < ops.size) (hSj : S j = false) {id : Nat} (h1 : (T.Sg j).next ≤ id) (h2 : id < (T.Sg (j + 1)).next) :
    hget (ρX ++ (pend T reg S rr ops.size ++ (T.Sg rr).heap)) id = none := by
  obtain ⟨oj, hoj, hlj⟩ := H.oper hjn
  rw [hget_append]
  cases hρ : hget ρX id with
  | some x =>
    exfalso
    have := hD.top _ (hget_mem hρ)
    simp only at this
    have := H.mono hcl (i := j + 1) (j := ops.size) (by omega) (Nat.le_refl _)
    omega
  | none =>
    simp only
    rw [hget_append]
    cases hp : hget (pend T reg S rr ops.size) id with
    | some x =>
      exfalso
      obtain ⟨q, q1, q2, q3, q4, q5⟩ := pend_mem (hget_mem hp)
      obtain ⟨o'', _, hlq⟩ := H.oper (i := q) (by omega)
      obtain ⟨_, k2, k3⟩ := H.added hlq q4 (hD.noEff q1 q3 q4 hlq) q5
      simp only at k2
      have hqj : q ≠ j := fun e => by subst e; rw [hSj] at q3; cases q3
      by_cases hlt' : j < q
      · have := H.mono hcl (i := j + 1) (j := q) (by omega) (by omega); omega
      · have := H.mono hcl (i := q + 1) (j := j) (by omega) (by omega); omega
    | none =>
      simp only
      cases hh : hget (T.Sg rr).heap id with
      | none => rfl
      | some x =>
        exfalso
        have hlt' := hD.wf id x hh
        by_cases hjr : j < rr
        · have hne : cls (compOper P cfg fid ops oj).op ≠ .eff := fun h => by
            have := (hD.effs j _ hlj hrj h).2 hjr; rw [hSj] at this; cases this
          obtain ⟨_, hq⟩ := H.quiet hlj hrj hne
          rcases hq with ⟨_, hq⟩ | ⟨hq, _⟩
          · rw [hq] at h2; omega
          · have := hD.news j _ hlj hrj hq hjr; rw [hSj] at this; cases this
        · have := H.mono hcl (i := rr) (j := j) (by omega) (by omega); omega
end Go.AM
namespace Go.AM
open Go.RowKit
variable {P : Program} {cfg : Cfg} {fid : Nat} {cl : CallF} {ops : Array Oper} {l : List AOper} {env env' : Env} {ds ds' : List ADef} {σ τ : St} {v : AV} {co : AOper} {r : Option Nat} {m : MapPlan}
variable {reg : Nat → Bool} {irr : Nat → Prop} {T : Trace} {S S' : Nat → Bool} {rr : Nat} {ρX : Heap} {C0 C D : Ctx} {σ0 : St} {w0 w : World} {a : Act} {N sz : Nat}

/-- An operation beside the others, on all there is. -/
theorem beside (H : Reg P cfg fid ops l reg irr cl T) (hcl : ClOk P cfg cl) (hN : (T.Sg ops.size).next ≤ N)
    (hD : DI P cfg ops l reg irr T C0 σ0 w0 N sz S rr ρX C a w) {i : Nat} {o : Oper} (ho : ops[i]? = some o) (hreg : reg i = false)
    (hready : ∀ e ∈ o.after, Region.binds .any e = true → S e.on = true) (hlt : ∀ d, o.dst = some d → d < sz) (hirr : ∀ d, o.dst = some d → irr d)
    {e env' : Env} {N' : Nat} {ρX' : Heap} (he : EnvR C e a.tmps)
    (hop : oper (compOper P cfg fid ops o) cl e (T.D rr) ⟨ρX ++ (pend T reg S rr ops.size ++ (T.Sg rr).heap), N⟩ = some (env', T.D rr, ⟨ρX' ++ (pend T reg S rr ops.size ++ (T.Sg rr).heap), N'⟩))
    (htop : ∀ p ∈ ρX', (T.Sg ops.size).next ≤ p.1) (hf : Fresh C N N')
    {K : Act → World → Prop} {Q : Exit → Act → World → Prop}
    (hK : ∀ v D a' w', env' = put e o.dst v → C.Le D → (∀ t, o.dst ≠ some t → a'.tmps.getD t undef = a.tmps.getD t undef) → (∀ d, o.dst = some d → VR D v (a'.tmps.getD d undef)) →
      DI P cfg ops l reg irr T C0 σ0 w0 N' sz (withS S i) rr ρX' D a' w' → K a' w') : wpOpIn (FR r) 0 P ops Q i K a w := by
  obtain ⟨v, hv1, hv2⟩ := oper_sound (r := r) hcl hD.inv he hD.defs ho hop hf (.inr rfl)
  refine hv2 K Q fun D u w' defs hE hI hv hd => hK v D _ w' hv1 hE.le (put_other a defs o.dst u) (fun d hdd => ?_) ?_
  · have : (Act.put { a with defers := defs } o.dst u).tmps.getD d undef = u := by
      rw [hdd]; exact getD_put_eq (a := { a with defers := defs }) (by show d < a.tmps.size; rw [hD.size]; exact hlt d hdd)
    rw [this]; exact hv
  · have hne : ∀ j, reg j = true → j ≠ i := fun j hj e => by subst e; rw [hreg] at hj; cases hj
    have hpe : pend T reg (withS S i) rr ops.size = pend T reg S rr ops.size := pend_congr fun q _ _ hq => .inl (withS_ne (hne q hq))
    refine ⟨?_, hD.rle, fun j cj hlj hrj hcj => by rw [withS_ne (hne j hrj)]; exact hD.effs j cj hlj hrj hcj, fun j cj hlj hrj hcj hjr => by rw [withS_ne (hne j hrj)]; exact hD.news j cj hlj hrj hcj hjr, hD.wf, htop, by rw [hpe]; exact hI, by rw [hpe]; exact hD.ev.trans hE, ?_, ?_, by rw [put_defers]; exact hd, by rw [put_size]; exact hD.size⟩
    · intro j oj hj hoj e he hb
      by_cases ej : j = i
      · subst ej; rw [ho] at hoj; cases hoj
        have := hready e he hb
        unfold withS; split <;> first | rfl | exact this
      · rw [withS_ne ej] at hj
        have := hD.closed j oj hj hoj e he hb
        unfold withS; split <;> first | rfl | exact this
    · intro j hrj hjn hSj id h1 h2
      rw [withS_ne (hne j hrj)] at hSj
      obtain ⟨f1, f2⟩ := hD.fresh j hrj hjn hSj id h1 h2
      have hun := hD.unborn H hcl hrj hjn hSj h1 h2
      have hidN : id < N := by have := H.mono hcl (i := j + 1) (j := ops.size) (by omega) (Nat.le_refl _); omega
      refine ⟨?_, fun g => ?_⟩
      · by_cases hc : D.κ id = C.κ id
        · rw [hc]; exact f1
        · have := (hE.kap id hc).1
          exact absurd hidN (by simp at this; omega)
      · by_cases hc : D.T id g = C.T id g
        · rw [hc]; exact f2 g
        · obtain ⟨_, t2⟩ := hE.tok id g hc
          rcases t2 with ⟨x, t2⟩ | t2
          · have t2' : hget (ρX ++ (pend T reg S rr ops.size ++ (T.Sg rr).heap)) id = some x := t2
            rw [hun] at t2'; cases t2'
          · exact absurd hidN (by simp at t2; omega)
    · intro t ht k hk hw
      have hdt : o.dst ≠ some t := fun h => ht (hirr t h)
      rw [put_other a defs o.dst u t hdt]
      exact (hD.tmps t ht k hk fun i' co hl' hr' hd' => by
        have := hw i' co hl' hr' hd'
        rwa [withS_ne (hne i' hr')] at this).mono hE.le

/-- A map's entries in another order. -/
theorem MapR.perm {ks : List Nat} {es es' : List (AV × AV)} {ents : List MapEntry} (h : MapR C ks es ents) (p : es.Perm es') (hd : es'.Pairwise fun p q => eqK p.1 q.1 = false) : MapR C ks es' ents := by
  obtain ⟨fs, h1, h2, h3, h4, _⟩ := h
  exact ⟨fs, h1.trans p, h2, h3, fun q hq => h4 q (p.mem_iff.2 hq), hd⟩
theorem Inv.perm {M : Nat} {ks : List Nat} {es es' : List (AV × AV)} {h : Heap} (hI : Inv P cfg C ⟨(M, .map ks es) :: h, N⟩ w) (p : es.Perm es') (hd : es'.Pairwise fun p q => eqK p.1 q.1 = false) : Inv P cfg C ⟨(M, .map ks es') :: h, N⟩ w := by
  have hg : ∀ {id : Nat} {o : AObj}, hget ((M, .map ks es') :: h) id = some o → (id = M ∧ o = .map ks es') ∨ (id ≠ M ∧ hget ((M, .map ks es) :: h) id = some o) := fun {id o} hh => by
    have e : ∀ x : AObj, hget ((M, x) :: h) id = bif Nat.beq M id then some x else hget h id := fun x => rfl
    rw [e] at hh
    cases hb : Nat.beq M id with
    | true => rw [hb] at hh; cases hh; exact .inl ⟨(Nat.eq_of_beq_eq_true hb).symm, rfl⟩
    | false => rw [hb] at hh; exact .inr ⟨fun e' => (by subst e'; rw [Nat.beq_refl] at hb; cases hb), by rw [e, hb]; exact hh⟩
  have hM : hget ((M, AObj.map ks es) :: h) M = some (.map ks es) := by
    show (bif Nat.beq M M then _ else _) = _; rw [Nat.beq_refl]; rfl
  have hB : ∀ {id : Nat} {o : AObj}, hget ((M, .map ks es') :: h) id = some o → ∃ o', hget ((M, .map ks es) :: h) id = some o' ∧ objB C id o' = objB C id o := fun {id o} hh => by
    rcases hg hh with ⟨rfl, rfl⟩ | ⟨_, h2⟩
    · exact ⟨_, hM, rfl⟩
    · exact ⟨o, h2, rfl⟩
  refine ⟨⟨hI.lies, ?_, fun id o ho => ?_, fun id o ho => ?_, fun i j o o' b hi hj h1 h2 => ?_⟩, fun p hp => ⟨(hI.pin p hp).1, fun ⟨i, o, h1, h2⟩ => by
    obtain ⟨o', q1, q2⟩ := hB h1
    exact (hI.pin p hp).2 ⟨i, o', q1, q2.trans h2⟩⟩⟩
  · exact falls_keys (l := (M, .map ks es) :: h) rfl hI.falls
  · obtain ⟨o', h1, _⟩ := hB ho; exact hI.next id o' h1
  · rcases hg ho with ⟨rfl, rfl⟩ | ⟨_, h2⟩
    · obtain ⟨b, ents, clock, h1, h2, h3⟩ := hI.obj _ _ hM
      exact ⟨b, ents, clock, h1, h2, h3.perm p hd⟩
    · exact hI.obj id o h2
  · obtain ⟨p1, q1, q2⟩ := hB hi
    obtain ⟨p2, q3, q4⟩ := hB hj
    exact hI.inj i j p1 p2 b q1 q3 (q2.trans h1) (q4.trans h2)
theorem Ev.perm {M : Nat} {ks : List Nat} {es es' : List (AV × AV)} {h : Heap} {σ : St} (hE : Ev C0 σ w0 C ⟨(M, .map ks es) :: h, N⟩ w) : Ev C0 σ w0 C ⟨(M, .map ks es') :: h, N⟩ w := by
  have hB : ∀ {id : Nat} {o : AObj}, hget ((M, .map ks es') :: h) id = some o → ∃ o', hget ((M, .map ks es) :: h) id = some o' ∧ objB C id o' = objB C id o := fun {id o} hh => by
    have e : ∀ x : AObj, hget ((M, x) :: h) id = bif Nat.beq M id then some x else hget h id := fun x => rfl
    rw [e] at hh
    cases hb : Nat.beq M id with
    | true => rw [hb] at hh; cases hh; exact ⟨.map ks es, by rw [e, hb]; rfl, rfl⟩
    | false => rw [hb] at hh; exact ⟨o, by rw [e, hb]; exact hh, rfl⟩
  exact ⟨hE.le, hE.next, hE.size, hE.os, hE.tape, hE.output, hE.keep, fun b hb ⟨i, o, h1, h2⟩ => by
    obtain ⟨o', q1, q2⟩ := hB h1
    exact hE.own b hb ⟨i, o', q1, q2.trans h2⟩, hE.seals, hE.kap, hE.tok, fun i o h1 => by
    obtain ⟨o', q1, _⟩ := hB h1; exact hE.dom i o' q1⟩
end Go.AM
