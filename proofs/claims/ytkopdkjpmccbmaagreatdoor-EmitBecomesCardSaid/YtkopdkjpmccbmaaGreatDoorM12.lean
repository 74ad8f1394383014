/- A part of the proof of: EmitBecomes: what a term becomes by patterns, and a pattern's name, is what the document says, or the error is told. -/
import Derived.Test.YtkopdkjpmccbmaaGreatDoorM11
namespace Go.AM
open Go.RowKit

/-! ### Values that are found alike are one -/
mutual
theorem AV.beq_eq : ∀ (a b : AV), AV.beq a b = true → a = b := by
  intro a b h
  match a with
  | .junk => cases b <;> simp [AV.beq] at h ⊢
  | .undef => cases b <;> simp [AV.beq] at h ⊢
  | .bool x => cases b <;> simp [AV.beq] at h ⊢; exact h
  | .int k x => cases b <;> simp [AV.beq] at h ⊢; exact h
  | .str x => cases b <;> simp [AV.beq] at h ⊢; exact h
  | .nilp => cases b <;> simp [AV.beq] at h ⊢
  | .nilm => cases b <;> simp [AV.beq] at h ⊢
  | .nilf => cases b <;> simp [AV.beq] at h ⊢
  | .nili => cases b <;> simp [AV.beq] at h ⊢
  | .agg x => cases b <;> simp [AV.beq] at h ⊢; exact AV.beqs_eq _ _ h
  | .tup x => cases b <;> simp [AV.beq] at h ⊢; exact AV.beqs_eq _ _ h
  | .slice x t => cases b <;> simp [AV.beq] at h ⊢; exact ⟨AV.beqs_eq _ _ h.2, h.1⟩
  | .hsl x y z u => cases b <;> simp [AV.beq] at h ⊢; exact ⟨h.1.1.1, h.1.1.2, h.1.2, h.2⟩
  | .ptr x y => cases b <;> simp [AV.beq] at h ⊢; exact h
  | .eptr x i => cases b <;> simp [AV.beq] at h ⊢; exact ⟨AV.beqs_eq _ _ h.2, h.1⟩
  | .map x => cases b <;> simp [AV.beq] at h ⊢; exact h
  | .itr x => cases b <;> simp [AV.beq] at h ⊢; exact h
  | .fn f x y => cases b <;> simp [AV.beq] at h ⊢; exact ⟨h.1.1, AV.beqs_eq _ _ h.1.2, AV.beqs_eq _ _ h.2⟩
  | .iface t x => cases b <;> simp [AV.beq] at h ⊢; exact ⟨h.1, AV.beq_eq _ _ h.2⟩
theorem AV.beqs_eq : ∀ (a b : List AV), AV.beqs a b = true → a = b := by
  intro a b h
  match a with
  | [] => cases b <;> simp [AV.beqs] at h ⊢
  | x :: l => cases b <;> simp [AV.beqs] at h ⊢; exact ⟨AV.beq_eq _ _ h.1, AV.beqs_eq _ _ h.2⟩
end

/-! ### What stands ahead of what -/
def befStep (acc : Array Nat) (o : Oper) : Array Nat :=
  acc.push (o.after.foldl (fun s e => if Region.binds .any e then s ||| 2 ^ e.on ||| acc.getD e.on 0 else s) 0)
theorem before_list (l : List Oper) : Region.before l.toArray = l.foldl befStep #[] := by
  unfold Region.before
  simp only [List.foldl_toArray]
  rfl
theorem bef_size (l : List Oper) : ∀ acc : Array Nat, (l.foldl befStep acc).size = acc.size + l.length := by
  induction l with
  | nil => intro acc; rfl
  | cons o l ih => intro acc; rw [List.foldl_cons, ih]; simp [befStep]; omega
theorem bef_keep (l : List Oper) : ∀ (acc : Array Nat) (j : Nat), j < acc.size → (l.foldl befStep acc).getD j 0 = acc.getD j 0 := by
  induction l with
  | nil => intro acc j _; rfl
  | cons o l ih =>
    intro acc j hj
    rw [List.foldl_cons, ih _ _ (by simp [befStep]; omega)]
    simp only [befStep, Array.getD_eq_getD_getElem?]
    rw [Array.getElem?_push_lt hj, Array.getElem?_eq_getElem hj]
theorem testBit_foldl {acc : Array Nat} {i : Nat} (l : List Edge) : ∀ s : Nat, (l.foldl (fun s e => if Region.binds .any e then s ||| 2 ^ e.on ||| acc.getD e.on 0 else s) s).testBit i = true →
    s.testBit i = true ∨ ∃ e ∈ l, Region.binds .any e = true ∧ (e.on = i ∨ (acc.getD e.on 0).testBit i = true) := by
  induction l with
  | nil => intro s h; exact .inl h
  | cons e l ih =>
    intro s h
    rw [List.foldl_cons] at h
    rcases ih _ h with h | ⟨e', h1, h2⟩
    · split at h
      · rename_i hb
        rw [Nat.testBit_or, Nat.testBit_or, Nat.testBit_two_pow, Bool.or_eq_true, Bool.or_eq_true] at h
        rcases h with (h | h) | h
        · exact .inl h
        · exact .inr ⟨e, by simp, hb, .inl (by simpa using h)⟩
        · exact .inr ⟨e, by simp, hb, .inr h⟩
      · exact .inl h
    · exact .inr ⟨e', by simp [h1], h2⟩

theorem back_spec {ops : Array Oper} (h : backOk ops = true) {j : Nat} {o : Oper} (ho : ops[j]? = some o) : ∀ e ∈ o.after, Region.binds .any e = true → e.on < j := by
  intro e he hb
  unfold backOk at h
  rw [List.all_eq_true] at h
  have hm : (o, j) ∈ ops.toList.zipIdx := by
    rw [List.mem_zipIdx_iff_getElem?]
    simpa using ho
  have := h _ hm
  simp only [Array.all_eq_true_iff_forall_mem] at this
  have := this e he
  simpa [hb] using this

theorem before_spec {ops : Array Oper} (h : backOk ops = true) {i j : Nat} (ht : ((Region.before ops).getD j 0).testBit i = true) :
    ∃ o, ops[j]? = some o ∧ ∃ e ∈ o.after, Region.binds .any e = true ∧ (e.on = i ∨ ((Region.before ops).getD e.on 0).testBit i = true) := by
  have hlt : j < ops.size := by
    apply Classical.byContradiction
    intro hn
    have hs : (Region.before ops).size = ops.size := by
      rw [show ops = ops.toList.toArray from rfl, before_list, bef_size]; simp
    have : (Region.before ops).getD j 0 = 0 := by
      rw [Array.getD_eq_getD_getElem?, Array.getElem?_eq_none (by omega)]; rfl
    rw [this] at ht; simp at ht
  obtain ⟨o, ho⟩ : ∃ o, ops[j]? = some o := ⟨_, Array.getElem?_eq_getElem hlt⟩
  refine ⟨o, ho, ?_⟩
  have hll : ops.toList = ops.toList.take j ++ o :: ops.toList.drop (j + 1) := by
    have hlt' : j < ops.toList.length := by simpa using hlt
    have e : ops.toList[j] = o := by
      have : ops.toList[j]? = some o := by simpa using ho
      exact (List.getElem?_eq_some_iff.1 this).2
    rw [← e, List.getElem_cons_drop, List.take_append_drop]
  have hb : Region.before ops = (ops.toList.drop (j + 1)).foldl befStep (befStep ((ops.toList.take j).foldl befStep #[]) o) := by
    have h1 : Region.before ops = ops.toList.foldl befStep #[] := before_list ops.toList
    rw [h1]
    conv => lhs; rw [hll]
    rw [List.foldl_append, List.foldl_cons]
  generalize hA : (ops.toList.take j).foldl befStep #[] = A at hb
  have hAs : A.size = j := by rw [← hA, bef_size]; simp; omega
  have h1 : (Region.before ops).getD j 0 = (befStep A o).getD j 0 := by
    rw [hb, bef_keep _ _ _ (by simp [befStep]; omega)]
  have h2 : ∀ k, k < j → (Region.before ops).getD k 0 = A.getD k 0 := by
    intro k hk
    rw [hb, bef_keep _ _ _ (by simp [befStep]; omega)]
    simp only [befStep, Array.getD_eq_getD_getElem?]
    rw [Array.getElem?_push_lt (by omega), Array.getElem?_eq_getElem (by omega)]
  have h3 : (befStep A o).getD j 0 = o.after.foldl (fun s e => if Region.binds .any e then s ||| 2 ^ e.on ||| A.getD e.on 0 else s) 0 := by
    subst hAs
    simp only [befStep]
    rw [Array.getD_eq_getD_getElem?, Array.getElem?_push_size]
    rfl
  rw [h1, h3, ← Array.foldl_toList] at ht
  rcases testBit_foldl _ _ ht with h' | ⟨e, he, hbd, hor⟩
  · simp at h'
  · have he' : e ∈ o.after := by simpa using he
    refine ⟨e, he', hbd, ?_⟩
    rw [h2 _ (back_spec h ho e he' hbd)]
    exact hor

/-- Closed: what a thing of a set waits for is in it. -/
def Closed (ops : Array Oper) (S : Nat → Bool) : Prop := ∀ (j : Nat) (o : Oper), S j = true → ops[j]? = some o → ∀ e ∈ o.after, Region.binds .any e = true → S e.on = true
theorem Closed.bit {ops : Array Oper} {S : Nat → Bool} (hb : backOk ops = true) (h : Closed ops S) : ∀ (j i : Nat), S j = true → ((Region.before ops).getD j 0).testBit i = true → S i = true := by
  intro j
  induction j using Nat.strongRecOn with
  | _ j ih =>
    intro i hj ht
    obtain ⟨o, ho, e, he, hbd, hor⟩ := before_spec hb ht
    have hs := h j o hj ho e he hbd
    rcases hor with rfl | ht'
    · exact hs
    · exact ih e.on (back_spec hb ho e he hbd) i hs ht'
/-- Of one that is ready: what stands ahead of it is done. -/
theorem Closed.ready {ops : Array Oper} {S : Nat → Bool} (hb : backOk ops = true) (h : Closed ops S) {j : Nat} {o : Oper} (ho : ops[j]? = some o) (hr : ∀ e ∈ o.after, Region.binds .any e = true → S e.on = true) {i : Nat}
    (ht : ((Region.before ops).getD j 0).testBit i = true) : S i = true := by
  obtain ⟨o', ho', e, he, hbd, hor⟩ := before_spec hb ht
  rw [ho] at ho'; cases ho'
  have hs := hr e he hbd
  rcases hor with rfl | ht'
  · exact hs
  · exact h.bit hb _ _ hs ht'

theorem temps_spec {bf : Array Nat} {l : List AOper} (h : tempsOk bf l = true) {i j : Nat} {q o : AOper} {t : Nat} (hi : l[i]? = some q) (hj : l[j]? = some o) (ht : t ∈ namesA o) (hd : q.dst = some t) :
    i = j ∨ (bf.getD (max i j) 0).testBit (min i j) = true := by
  unfold tempsOk at h
  rw [List.all_eq_true] at h
  have h1 := h (o, j) (List.mem_zipIdx_iff_getElem?.2 hj)
  simp only [List.all_eq_true] at h1
  have h2 := h1 t ht (q, i) (List.mem_zipIdx_iff_getElem?.2 hi)
  simp only [hd, Nat.beq_refl, cond_true] at h2
  by_cases e : i = j
  · exact .inl e
  · rw [nbeq e, cond_false] at h2
    exact .inr h2

/-! ### What an operation looks at -/
noncomputable def only (env : Env) (ts : List Nat) : Env := ts.map fun t => (t, aget env t)
theorem aget_only (env : Env) (ts : List Nat) (t : Nat) : aget (only env ts) t = if t ∈ ts then aget env t else .junk := by
  induction ts with
  | nil => rfl
  | cons s ts ih =>
    show aget ((s, aget env s) :: only env ts) t = _
    rw [aget_cons, ih]
    by_cases h : s = t
    · subst h; simp
    · simp [h, ne' h]

variable {cl : CallF} {env e1 e2 env' : Env} {ds ds' : List ADef} {σ τ : St} {v : AV}

theorem actOp_some {f : Env → St → Option (AV × St)} {d : Option Nat} (h : f env σ = some (v, τ)) : actOp f d cl env ds σ = some (put env d v, ds, τ) := by
  unfold actOp; rw [h]
theorem act_congr {p : AOp} {d : Option Nat} (h : Same e1 e2 (readsOf p)) (ha : act p d cl e1 ds σ = some (env', ds', τ)) :
    ∃ v, env' = put e1 d v ∧ act p d cl e2 ds σ = some (put e2 d v, ds', τ) := by
  cases p with
  | call f args =>
    have h' : actCall f args d cl e1 ds σ = some (env', ds', τ) := ha
    show ∃ v, env' = put e1 d v ∧ actCall f args d cl e2 ds σ = _
    unfold actCall at h' ⊢
    rw [h.left.opd, h.right.opds] at h'
    cases hc : callee (f.eval e2) (evals e2 args) with
    | none => rw [hc] at h'; cases h'
    | some q =>
      obtain ⟨c, as⟩ := q
      rw [hc] at h'; simp only at h'
      cases hcv : cl c as σ with
      | none => rw [hcv] at h'; cases h'
      | some q =>
        obtain ⟨v, s⟩ := q
        rw [hcv] at h'; simp only at h'
        cases h'
        refine ⟨v, rfl, ?_⟩
        simp only [hcv]
  | defer f args =>
    have h' : actDefer f args d cl e1 ds σ = some (env', ds', τ) := ha
    show ∃ v, env' = put e1 d v ∧ actDefer f args d cl e2 ds σ = _
    unfold actDefer at h' ⊢
    rw [h.left.opd, h.right.opds] at h'
    cases hc : (f.eval e2).fn? with
    | none => rw [hc] at h'; cases h'
    | some q =>
      obtain ⟨g, fs, cs⟩ := q
      rw [hc] at h'; simp only at h'
      cases hk : defOk g with
      | false => rw [hk] at h'; cases h'
      | true =>
        rw [hk, cond_true] at h'
        cases h'
        refine ⟨.undef, rfl, ?_⟩
        simp only [hk, cond_true]
  | bad => cases ha
  | _ =>
    obtain ⟨v, q1, q2, rfl⟩ := act_plain rfl ha
    refine ⟨v, q2, ?_⟩
    rw [op_congr h] at q1
    exact actOp_some (cl := cl) q1

/-- An operation goes by the temporaries that it names. -/
theorem oper_congr {co : AOper} (h : oper co cl env ds σ = some (env', ds', τ)) :
    ∃ v, env' = put env co.dst v ∧ oper co cl (only env (namesA co)) ds σ = some (put (only env (namesA co)) co.dst v, ds', τ) := by
  have hs : Same env (only env (namesA co)) (readsOf co.op) := fun t ht => by
    rw [aget_only, if_pos (show t ∈ namesA co from List.mem_append_left _ (List.mem_append_left _ ht))]
  unfold oper at h ⊢
  cases hg : co.guard with
  | none =>
    rw [hg] at h
    exact act_congr hs h
  | some p =>
    obtain ⟨t, b⟩ := p
    rw [hg] at h; simp only at h ⊢
    unfold operG at h ⊢
    have ht : aget (only env (namesA co)) t = aget env t := by
      have hm : t ∈ namesA co := List.mem_append_left _ (List.mem_append_right _ (by rw [hg]; simp))
      rw [aget_only, if_pos hm]
    rw [ht]
    cases hw : (aget env t).wants b with
    | none => rw [hw] at h; cases h
    | some ww =>
      rw [hw] at h; simp only at h ⊢
      cases ww with
      | true => rw [cond_true] at h ⊢; exact act_congr hs h
      | false => rw [cond_false] at h ⊢; cases h; exact ⟨.undef, rfl, rfl⟩

/-! ### Reads -/
def idOf : AV → Option Nat
  | .ptr o _ => some o
  | .map o => some o
  | .hsl o _ _ _ => some o
  | _ => none
/-- The object that a read looks at. -/
noncomputable def readId (p : AOp) (env : Env) : Option Nat :=
  match p with
  | .load _ x => idOf (x.eval env)
  | .lookup _ _ x _ _ => idOf (x.eval env)
  | .lenMap _ x => idOf (x.eval env)
  | .convBytes x => idOf (x.eval env)
  | _ => none

theorem cells_same {o : Nat} {σ σ' : St} (h : σ'.get o = σ.get o) : σ'.cells o = σ.cells o := by unfold St.cells; rw [h]
theorem mapOf_same {o : Nat} {σ σ' : St} (h : σ'.get o = σ.get o) : σ'.mapOf o = σ.mapOf o := by unfold St.mapOf; rw [h]
theorem get_of_cells {o : Nat} {σ : St} {l : List AV} (h : σ.cells o = some l) : ∃ x, σ.get o = some x := by
  unfold St.cells at h
  cases hg : σ.get o with
  | none => rw [hg] at h; cases h
  | some x => exact ⟨x, rfl⟩
theorem get_of_mapOf {o : Nat} {σ : St} {l : List Nat × List (AV × AV)} (h : σ.mapOf o = some l) : ∃ x, σ.get o = some x := by
  unfold St.mapOf at h
  cases hg : σ.get o with
  | none => rw [hg] at h; cases h
  | some x => exact ⟨x, rfl⟩


/-- What is read hangs on one object, or on none. -/
def Fetch {α : Type} (a : AV) (σ : St) (F : AV → St → Option α) (r : α) : Prop :=
  match idOf a with
  | none => ∀ σ', F a σ' = some r
  | some o => (∃ x, σ.get o = some x) ∧ ∀ σ', σ'.get o = σ.get o → F a σ' = some r

theorem readCells_fetch {a : AV} {n : Nat} {r : List AV} (h : readCells a σ n = some r) : Fetch a σ (fun a σ => readCells a σ n) r := by
  cases a with
  | ptr o off =>
    have h' : readPtr o off σ n = some r := h
    unfold readPtr at h'
    cases hc : σ.cells o with
    | none => rw [hc] at h'; cases h'
    | some l =>
      rw [hc] at h'
      refine ⟨get_of_cells hc, fun σ' hs => ?_⟩
      show readPtr o off σ' n = some r
      unfold readPtr
      rw [cells_same hs, hc]; exact h'
  | eptr cs off => intro σ'; exact h
  | _ => cases h
theorem mapVals_fetch {a : AV} {ks : List Nat} {r : List (AV × AV)} (h : mapVals a σ ks = some r) : Fetch a σ (fun a σ => mapVals a σ ks) r := by
  cases a with
  | map o =>
    have h' : mapGet o σ ks = some r := h
    unfold mapGet at h'
    cases hc : σ.mapOf o with
    | none => rw [hc] at h'; cases h'
    | some l =>
      rw [hc] at h'
      refine ⟨get_of_mapOf hc, fun σ' hs => ?_⟩
      show mapGet o σ' ks = some r
      unfold mapGet
      rw [mapOf_same hs, hc]; exact h'
  | nilm => intro σ'; exact h
  | _ => cases h
theorem elemsOf_fetch {a : AV} {sz : Nat} {r : List AV} (h : elemsOf a σ sz = some r) : Fetch a σ (fun a σ => elemsOf a σ sz) r := by
  cases a with
  | hsl o off len z =>
    have h' : hslElems o off len z σ sz = some r := h
    have hg : ∃ x, σ.get o = some x := by
      unfold hslElems at h'
      cases hc : σ.cells o with
      | none => rw [hc] at h'; cases h'
      | some l => exact get_of_cells hc
    refine ⟨hg, fun σ' hs => ?_⟩
    show hslElems o off len z σ' sz = some r
    unfold hslElems at h' ⊢
    rw [cells_same hs]; exact h'
  | slice es tk => intro σ'; exact h
  | _ => cases h

theorem read_at {p : AOp} (h : cls p = .read) (ho : op p env σ = some (v, τ)) : τ = σ ∧ (match readId p env with
    | none => ∀ σ', op p env σ' = some (v, σ')
    | some o => (∃ x, σ.get o = some x) ∧ ∀ σ', σ'.get o = σ.get o → op p env σ' = some (v, σ')) := by
  cases p <;> simp only [cls] at h <;> first
    | (exact absurd h (by decide))
    | skip
  case buildSlice hs => cases hs <;> exact absurd h (by decide)
  case load n x =>
    have h' : ret1 (loadAt σ n (x.eval env)) σ = some (v, τ) := ho
    obtain ⟨h1, rfl⟩ := ret1_some h'
    refine ⟨rfl, ?_⟩
    unfold loadAt at h1
    cases hc : readCells (x.eval env) τ (n.getD 1) with
    | none => rw [hc] at h1; cases h1
    | some cs =>
      rw [hc] at h1; simp only at h1
      have hf := readCells_fetch hc
      unfold Fetch at hf
      show (match idOf (x.eval env) with
        | none => ∀ σ', op_load n x env σ' = some (v, σ')
        | some o => (∃ x, τ.get o = some x) ∧ ∀ σ', σ'.get o = τ.get o → op_load n x env σ' = some (v, σ'))
      have fin : ∀ σ', readCells (x.eval env) σ' (n.getD 1) = some cs → op_load n x env σ' = some (v, σ') := fun σ' hh => by
        unfold op_load loadAt; rw [hh]; simp only [h1]; rfl
      cases hi : idOf (x.eval env) with
      | none => rw [hi] at hf; exact fun σ' => fin σ' (hf σ')
      | some o => rw [hi] at hf; exact ⟨hf.1, fun σ' hs => fin σ' (hf.2 σ' hs)⟩
  case lookup ks z x i ok =>
    have h' : op_lookup ks z x i ok env σ = some (v, τ) := ho
    show τ = σ ∧ (match idOf (x.eval env) with
        | none => ∀ σ', op_lookup ks z x i ok env σ' = some (v, σ')
        | some o => (∃ x, σ.get o = some x) ∧ ∀ σ', σ'.get o = σ.get o → op_lookup ks z x i ok env σ' = some (v, σ'))
    unfold op_lookup at h' ⊢
    cases hc : mapVals (x.eval env) σ ks with
    | none => rw [hc] at h'; cases h'
    | some es =>
      rw [hc] at h'; simp only at h'
      have hf := mapVals_fetch hc
      unfold Fetch at hf
      cases hk : keyOk ks (i.eval env) with
      | false => rw [hk] at h'; cases h'
      | true =>
        rw [hk, cond_true] at h'
        have fin : τ = σ ∧ ∀ σ', mapVals (x.eval env) σ' ks = some es → (match mapVals (x.eval env) σ' ks with
            | some es => bif true then match mfind es (i.eval env) with
                | some v => some (bif ok then .tup [v, .bool true] else v, σ')
                | none => some (bif ok then .tup [z, .bool false] else z, σ')
              else none
            | none => none) = some (v, σ') := by
          cases hm : mfind es (i.eval env) with
          | none => rw [hm] at h'; cases h'; exact ⟨rfl, fun σ' hh => by rw [hh]; simp only [hm, cond_true]⟩
          | some u => rw [hm] at h'; cases h'; exact ⟨rfl, fun σ' hh => by rw [hh]; simp only [hm, cond_true]⟩
        refine ⟨fin.1, ?_⟩
        cases hi : idOf (x.eval env) with
        | none => rw [hi] at hf; exact fun σ' => fin.2 σ' (hf σ')
        | some o => rw [hi] at hf; exact ⟨hf.1, fun σ' hs => fin.2 σ' (hf.2 σ' hs)⟩
  case lenMap ks x =>
    have h' : op_lenMap ks x env σ = some (v, τ) := ho
    show τ = σ ∧ (match idOf (x.eval env) with
        | none => ∀ σ', op_lenMap ks x env σ' = some (v, σ')
        | some o => (∃ x, σ.get o = some x) ∧ ∀ σ', σ'.get o = σ.get o → op_lenMap ks x env σ' = some (v, σ'))
    unfold op_lenMap at h' ⊢
    cases hc : mapVals (x.eval env) σ ks with
    | none => rw [hc] at h'; cases h'
    | some es =>
      rw [hc] at h'; simp only at h'
      cases h'
      refine ⟨rfl, ?_⟩
      have hf := mapVals_fetch hc
      unfold Fetch at hf
      cases hi : idOf (x.eval env) with
      | none => rw [hi] at hf; exact fun σ' => by rw [show mapVals (x.eval env) σ' ks = some es from hf σ']
      | some o => rw [hi] at hf; exact ⟨hf.1, fun σ' hs => by rw [show mapVals (x.eval env) σ' ks = some es from hf.2 σ' hs]⟩
  case convBytes x =>
    have h' : op_convBytes x env σ = some (v, τ) := ho
    show τ = σ ∧ (match idOf (x.eval env) with
        | none => ∀ σ', op_convBytes x env σ' = some (v, σ')
        | some o => (∃ x, σ.get o = some x) ∧ ∀ σ', σ'.get o = σ.get o → op_convBytes x env σ' = some (v, σ'))
    unfold op_convBytes at h' ⊢
    cases hc : elemsOf (x.eval env) σ 1 with
    | none => rw [hc] at h'; cases h'
    | some es =>
      rw [hc] at h'; simp only at h'
      have hf := elemsOf_fetch hc
      unfold Fetch at hf
      cases hb : bytesOf es with
      | none => rw [hb] at h'; cases h'
      | some s =>
        rw [hb] at h'; cases h'
        refine ⟨rfl, ?_⟩
        cases hi : idOf (x.eval env) with
        | none => rw [hi] at hf; exact fun σ' => by rw [show elemsOf (x.eval env) σ' 1 = some es from hf σ']; simp only [hb]
        | some o => rw [hi] at hf; exact ⟨hf.1, fun σ' hs => by rw [show elemsOf (x.eval env) σ' 1 = some es from hf.2 σ' hs]; simp only [hb]⟩

end Go.AM
namespace Go.AM
open Go.RowKit
variable {P : Program} {cfg : Cfg} {fid : Nat} {cl : CallF} {ops : Array Oper} {l : List AOper} {env env' : Env} {ds ds' : List ADef} {σ τ : St} {v : AV} {co : AOper}

theorem plain_of_cls {p : AOp} (h : cls p ≠ .eff) : plainA p = true := by
  cases p <;> first | rfl | exact absurd rfl h

theorem act_of_op {p : AOp} {d : Option Nat} (hp : plainA p = true) (h : op p env σ = some (v, τ)) : act p d cl env ds σ = some (put env d v, ds, τ) := by
  cases p <;> first
    | (exact actOp_some (cl := cl) h)
    | (cases h; done)
    | (exact absurd hp (by simp [plainA]))

theorem oper_on (hw : wanted env co.guard = some true) (hp : plainA co.op = true) (h : op co.op env σ = some (v, τ)) : oper co cl env ds σ = some (put env co.dst v, ds, τ) := by
  unfold oper
  cases hg : co.guard with
  | none => exact act_of_op hp h
  | some p =>
    obtain ⟨t, b⟩ := p
    rw [hg] at hw
    have hw' : (aget env t).wants b = some true := hw
    simp only
    unfold operG
    rw [hw']
    exact act_of_op hp h
theorem oper_off (hw : wanted env co.guard = some false) : oper co cl env ds σ = some (put env co.dst .undef, ds, σ) := by
  unfold oper
  cases hg : co.guard with
  | none => rw [hg] at hw; cases hw
  | some p =>
    obtain ⟨t, b⟩ := p
    rw [hg] at hw
    have hw' : (aget env t).wants b = some false := hw
    simp only
    unfold operG
    rw [hw']
    rfl
/-- What is done, by its guard. -/
theorem oper_cls (h : oper co cl env ds σ = some (env', ds', τ)) (hc : cls co.op ≠ .eff) :
    ds' = ds ∧ ((wanted env co.guard = some false ∧ env' = put env co.dst .undef ∧ τ = σ) ∨ (wanted env co.guard = some true ∧ ∃ v, env' = put env co.dst v ∧ op co.op env σ = some (v, τ))) := by
  have hp := plain_of_cls hc
  unfold oper at h
  cases hg : co.guard with
  | none =>
    rw [hg] at h
    obtain ⟨v, h1, h2, h3⟩ := act_plain hp h
    exact ⟨h3, .inr ⟨rfl, v, h2, h1⟩⟩
  | some p =>
    obtain ⟨t, b⟩ := p
    rw [hg] at h; simp only at h
    unfold operG at h
    cases hw : (aget env t).wants b with
    | none => rw [hw] at h; cases h
    | some ww =>
      rw [hw] at h; simp only at h
      cases ww with
      | true =>
        obtain ⟨v, h1, h2, h3⟩ := act_plain hp h
        exact ⟨h3, .inr ⟨hw, v, h2, h1⟩⟩
      | false => cases h; exact ⟨rfl, .inl ⟨hw, rfl, rfl⟩⟩

theorem only_wanted : wanted (only env (namesA co)) co.guard = wanted env co.guard := by
  cases hg : co.guard with
  | none => rfl
  | some p =>
    obtain ⟨t, b⟩ := p
    show (aget (only env (namesA co)) t).wants b = (aget env t).wants b
    rw [aget_only, if_pos]
    exact List.mem_append_left _ (List.mem_append_right _ (by rw [hg]; simp))
theorem only_op : op co.op (only env (namesA co)) σ = op co.op env σ := by
  symm
  refine op_congr fun t ht => ?_
  rw [aget_only, if_pos]
  exact List.mem_append_left _ (List.mem_append_left _ ht)

/-- A region's run in the order of the text: what there is ahead of each operation. -/
structure Trace where
  E : Nat → Env
  D : Nat → List ADef
  Sg : Nat → St

/-- May the read at 'j' be done at another place as well? -/
def Stays (T : Trace) (j : Nat) (co : AOper) (k : Nat) : Prop := ∃ v s, op co.op (T.E j) (T.Sg k) = some (v, s) ∧ ∀ d, co.dst = some d → v = aget (T.E (j + 1)) d

structure Reg (P : Program) (cfg : Cfg) (fid : Nat) (ops : Array Oper) (l : List AOper) (reg : Nat → Bool) (irr : Nat → Prop) (cl : CallF) (T : Trace) : Prop where
  len : l.length = ops.size
  comp : ∀ (i : Nat) (o : Oper), ops[i]? = some o → l[i]? = some (compOper P cfg fid ops o)
  back : backOk ops = true
  temps : tempsOk (Region.before ops) l = true
  irr : ∀ (i : Nat) (co : AOper), reg i = true → l[i]? = some co → ∀ t ∈ namesA co, ¬irr t
  pairs : ∀ (i j : Nat) (ci cj : AOper), i < j → reg i = true → reg j = true → l[i]? = some ci → l[j]? = some cj → ((Region.before ops).getD j 0).testBit i = true ∨ pairOk ci.op cj.op = true
  run : ∀ (i : Nat) (co : AOper), l[i]? = some co → reg i = true → oper co cl (T.E i) (T.D i) (T.Sg i) = some (T.E (i + 1), T.D (i + 1), T.Sg (i + 1))
  idle : ∀ (i : Nat), i < ops.size → reg i = false → T.E (i + 1) = T.E i ∧ T.D (i + 1) = T.D i ∧ T.Sg (i + 1) = T.Sg i
  chk : ∀ (j p : Nat) (co cp : AOper), reg j = true → reg p = true → l[j]? = some co → l[p]? = some cp → cls co.op = .read → cls cp.op = .eff ∨ cls cp.op = .new → p ≠ j →
    ((Region.before ops).getD (max p j) 0).testBit (min p j) = true ∨ (wanted (T.E j) co.guard = some true → Stays T j co p ∧ Stays T j co (p + 1))

variable {reg : Nat → Bool} {irr : Nat → Prop} {T : Trace}

theorem Reg.oper (H : Reg P cfg fid ops l reg irr cl T) {i : Nat} (hi : i < ops.size) : ∃ o, ops[i]? = some o ∧ l[i]? = some (compOper P cfg fid ops o) := by
  have h := Array.getElem?_eq_getElem hi
  exact ⟨ops[i], h, H.comp i _ h⟩

theorem Reg.next (H : Reg P cfg fid ops l reg irr cl T) (hcl : ClOk P cfg cl) {i : Nat} (hi : i < ops.size) : (T.Sg i).next ≤ (T.Sg (i + 1)).next := by
  obtain ⟨o, ho, hl⟩ := H.oper hi
  cases hr : reg i with
  | true => exact (oper_next hcl (H.run i _ hl hr)).1
  | false => rw [(H.idle i hi hr).2.2]; exact Nat.le_refl _
theorem Reg.mono (H : Reg P cfg fid ops l reg irr cl T) (hcl : ClOk P cfg cl) : ∀ {j i : Nat}, i ≤ j → j ≤ ops.size → (T.Sg i).next ≤ (T.Sg j).next := by
  intro j
  induction j with
  | zero => intro i h _; have : i = 0 := by omega
            subst this; exact Nat.le_refl _
  | succ j ih =>
    intro i h hj
    by_cases e : i = j + 1
    · subst e; exact Nat.le_refl _
    · exact Nat.le_trans (ih (i := i) (by omega) (by omega)) (H.next hcl (by omega))

def adds (T : Trace) (i : Nat) : Heap := (T.Sg (i + 1)).heap.take ((T.Sg (i + 1)).heap.length - (T.Sg i).heap.length)

theorem adds_same {i : Nat} (h : T.Sg (i + 1) = T.Sg i) : adds T i = [] := by unfold adds; rw [h]; simp
theorem adds_add {i : Nat} {x : AObj} (h : T.Sg (i + 1) = (T.Sg i).add x) : adds T i = [((T.Sg i).next, x)] := by
  unfold adds; rw [h]
  have e : ((T.Sg i).add x).heap.length - (T.Sg i).heap.length = 1 := by simp [St.add]
  rw [e]; rfl

/-- What an operation that is no effect leaves: the state, or one object more. -/
theorem Reg.quiet (H : Reg P cfg fid ops l reg irr cl T) {i : Nat} {co : AOper} (hi : l[i]? = some co) (hr : reg i = true) (hc : cls co.op ≠ .eff) :
    T.D (i + 1) = T.D i ∧ ((adds T i = [] ∧ T.Sg (i + 1) = T.Sg i) ∨ (cls co.op = .new ∧ ∃ x, adds T i = [((T.Sg i).next, x)] ∧ T.Sg (i + 1) = (T.Sg i).add x)) := by
  obtain ⟨h1, h2⟩ := oper_cls (H.run i co hi hr) hc
  refine ⟨h1, ?_⟩
  rcases h2 with ⟨_, _, h2⟩ | ⟨_, v, _, h2⟩
  · exact .inl ⟨adds_same h2, h2⟩
  · cases hk : cls co.op with
    | eff => exact absurd hk hc
    | pure => have := (pure_free hk _ _ _ _ h2).1; exact .inl ⟨adds_same this, this⟩
    | read => have := (read_at hk h2).1; exact .inl ⟨adds_same this, this⟩
    | new => obtain ⟨x, hx, _⟩ := new_adds hk h2; exact .inr ⟨rfl, x, adds_add hx, hx⟩

/-- What was added between two places by what is done. -/
def pend (T : Trace) (reg S : Nat → Bool) (a : Nat) : Nat → Heap
  | 0 => []
  | b + 1 => if a ≤ b ∧ S b = true ∧ reg b = true then adds T b ++ pend T reg S a b else pend T reg S a b

variable {S S' : Nat → Bool}
theorem pend_ge {a b : Nat} (h : b ≤ a) : pend T reg S a b = [] := by
  induction b with
  | zero => rfl
  | succ b ih => rw [pend, if_neg (by omega)]; exact ih (by omega)
theorem pend_split {a m : Nat} (h1 : a ≤ m) : ∀ {b : Nat}, m ≤ b → pend T reg S a b = pend T reg S m b ++ pend T reg S a m := by
  intro b
  induction b with
  | zero => intro h; have : m = 0 := by omega
            subst this; rfl
  | succ b ih =>
    intro h
    by_cases e : m = b + 1
    · subst e; rw [pend_ge (Nat.le_refl _)]; rfl
    · rw [pend, pend, ih (by omega)]
      by_cases hs : S b = true ∧ reg b = true
      · rw [if_pos ⟨by omega, hs⟩, if_pos ⟨by omega, hs⟩, List.append_assoc]
      · rw [if_neg (fun h => hs h.2), if_neg (fun h => hs h.2)]
theorem pend_congr {a : Nat} : ∀ {b : Nat}, (∀ q, a ≤ q → q < b → reg q = true → S q = S' q ∨ adds T q = []) → pend T reg S a b = pend T reg S' a b := by
  intro b
  induction b with
  | zero => intro _; rfl
  | succ b ih =>
    intro h
    rw [pend, pend, ih (fun q h1 h2 => h q h1 (by omega))]
    by_cases h1 : a ≤ b ∧ reg b = true
    · rcases h b h1.1 (by omega) h1.2 with h2 | h2
      · rw [h2]
      · rw [h2, List.nil_append, ite_self, ite_self]
    · rw [if_neg (fun h => h1 ⟨h.1, h.2.2⟩), if_neg (fun h => h1 ⟨h.1, h.2.2⟩)]
theorem pend_mem {a : Nat} : ∀ {b : Nat} {p : Nat × AObj}, p ∈ pend T reg S a b → ∃ q, a ≤ q ∧ q < b ∧ S q = true ∧ reg q = true ∧ p ∈ adds T q := by
  intro b
  induction b with
  | zero => intro p h; cases h
  | succ b ih =>
    intro p h
    rw [pend] at h
    split at h
    · rename_i hc
      rcases List.mem_append.1 h with h | h
      · exact ⟨b, hc.1, by omega, hc.2.1, hc.2.2, h⟩
      · obtain ⟨q, h1, h2, h3⟩ := ih h; exact ⟨q, h1, by omega, h3⟩
    · obtain ⟨q, h1, h2, h3⟩ := ih h; exact ⟨q, h1, by omega, h3⟩
theorem pend_one {a : Nat} : pend T reg S a (a + 1) = if S a = true ∧ reg a = true then adds T a else [] := by
  rw [pend, pend_ge (Nat.le_refl _)]
  by_cases h : S a = true ∧ reg a = true
  · rw [if_pos ⟨Nat.le_refl _, h⟩, if_pos h, List.append_nil]
  · rw [if_neg (fun k => h k.2), if_neg h]

/-- No effect among what is done between two places. -/
def NoEff (l : List AOper) (reg : Nat → Bool) (a b : Nat) : Prop := ∀ (q : Nat) (co : AOper), a ≤ q → q < b → reg q = true → l[q]? = some co → cls co.op ≠ .eff

theorem Reg.added (H : Reg P cfg fid ops l reg irr cl T) {q : Nat} {co : AOper} (hq : l[q]? = some co) (hr : reg q = true) (hc : cls co.op ≠ .eff) {p : Nat × AObj} (hp : p ∈ adds T q) :
    cls co.op = .new ∧ p.1 = (T.Sg q).next ∧ (T.Sg (q + 1)).next = (T.Sg q).next + 1 := by
  obtain ⟨_, h2⟩ := H.quiet hq hr hc
  rcases h2 with ⟨h2, _⟩ | ⟨hn, x, h2, h3⟩
  · rw [h2] at hp; cases hp
  · rw [h2] at hp
    simp only [List.mem_singleton] at hp
    subst hp
    exact ⟨hn, rfl, by rw [h3]; rfl⟩

/-- Where there are no effects, the state is what was added, on top. -/
theorem Reg.zone (H : Reg P cfg fid ops l reg irr cl T) {a : Nat} : ∀ {b : Nat}, a ≤ b → b ≤ ops.size → NoEff l reg a b →
    (T.Sg b).heap = pend T reg (fun _ => true) a b ++ (T.Sg a).heap ∧ T.D b = T.D a := by
  intro b
  induction b with
  | zero => intro h _ _; have : a = 0 := by omega
            subst this; exact ⟨rfl, rfl⟩
  | succ b ih =>
    intro h hb hn
    by_cases e : a = b + 1
    · subst e; rw [pend_ge (Nat.le_refl _)]; exact ⟨rfl, rfl⟩
    · obtain ⟨i1, i2⟩ := ih (by omega) (by omega) (fun q co h1 h2 => hn q co h1 (by omega))
      obtain ⟨o, ho, hl⟩ := H.oper (i := b) (by omega)
      cases hr : reg b with
      | false =>
        obtain ⟨_, k2, k3⟩ := H.idle b (by omega) hr
        rw [k2, k3, pend, if_neg (by rw [hr]; simp)]
        exact ⟨i1, i2⟩
      | true =>
        obtain ⟨k1, k2⟩ := H.quiet hl hr (hn b _ (by omega) (by omega) hr hl)
        rw [k1, pend, if_pos ⟨by omega, rfl, hr⟩]
        refine ⟨?_, i2⟩
        rcases k2 with ⟨k2, k3⟩ | ⟨_, x, k2, k3⟩
        · rw [k2, k3]; exact i1
        · rw [k2, k3, List.append_assoc, ← i1]; rfl

theorem Reg.wfZone (H : Reg P cfg fid ops l reg irr cl T) (hcl : ClOk P cfg cl) {a b : Nat} (hab : a ≤ b) (hb : b ≤ ops.size) (hn : NoEff l reg a b) (hw : ∀ id o, (T.Sg a).get id = some o → id < (T.Sg a).next)
    (S : Nat → Bool) {id : Nat} {o : AObj} (h : hget (pend T reg S a b ++ (T.Sg a).heap) id = some o) : id < (T.Sg b).next := by
  rw [hget_append] at h
  have base : hget (T.Sg a).heap id = some o → id < (T.Sg b).next := fun h => Nat.lt_of_lt_of_le (hw id o h) (H.mono hcl hab hb)
  cases hp : hget (pend T reg S a b) id with
  | none => rw [hp] at h; exact base h
  | some o' =>
    obtain ⟨q, h1, h2, h3, h4, h5⟩ := pend_mem (hget_mem hp)
    obtain ⟨o'', _, hl⟩ := H.oper (i := q) (by omega)
    obtain ⟨_, k2, k3⟩ := H.added hl h4 (hn q _ h1 h2 h4 hl) h5
    simp only at k2
    have := H.mono hcl (i := q + 1) (j := b) (by omega) hb
    omega

end Go.AM
