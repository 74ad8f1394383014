/- A part of the proof of: EmitBecomes: what a term becomes by patterns, and a pattern's name, is what the document says, or the error is told. -/
import Derived.Test.YtkopdkjpmccbmaaGreatDoorM01
import Derived.Below
import Derived.OrdersIn
import Derived.RangeFuncIn
import Derived.DefersIn
namespace Go.AM
open Go.RowKit

theorem nbeq {a b : Nat} (h : ¬a = b) : Nat.beq a b = false := by
  cases e : Nat.beq a b with
  | false => rfl
  | true => exact absurd (Nat.eq_of_beq_eq_true e) h
theorem ne' {a b : Nat} (h : ¬a = b) : ¬b = a := fun e => h e.symm

/-! ### Lists -/
@[simp] theorem aget_nil (i : Nat) : aget [] i = .junk := rfl
theorem aget_cons (p : Nat × AV) (l : Env) (i : Nat) : aget (p :: l) i = if p.1 = i then p.2 else aget l i := by
  show (bif Nat.beq p.1 i then p.2 else aget l i) = _
  by_cases h : p.1 = i
  · subst h; simp
  · simp [nbeq h, h]
theorem hget_cons (p : Nat × AObj) (l : Heap) (i : Nat) : hget (p :: l) i = if p.1 = i then some p.2 else hget l i := by
  show (bif Nat.beq p.1 i then some p.2 else hget l i) = _
  by_cases h : p.1 = i
  · subst h; simp
  · simp [nbeq h, h]
@[simp] theorem hget_nil (i : Nat) : hget [] i = none := rfl
theorem aget_upd (l : Env) (i : Nat) (v : AV) (j : Nat) : aget (upd l i v) j = if i = j then v else aget l j := by
  induction l with
  | nil => show aget [(i, v)] j = _; rw [aget_cons]
  | cons p l ih =>
    show aget (bif Nat.beq p.1 i then (i, v) :: l else p :: upd l i v) j = _
    by_cases h : p.1 = i
    · subst h
      simp only [Nat.beq_refl, cond_true, aget_cons]
      split <;> rfl
    · have hb := nbeq h
      simp only [hb, cond_false, aget_cons, ih]
      by_cases hj : p.1 = j
      · subst hj; simp [ne' h]
      · simp [hj]
theorem aget_keep (old new : Env) (outs : List Nat) (j : Nat) : aget (keep old new outs) j = if j ∈ outs then aget new j else aget old j := by
  induction outs with
  | nil => simp [keep]
  | cons k outs ih =>
    show aget (upd (keep old new outs) k (aget new k)) j = _
    rw [aget_upd, ih]
    by_cases h : k = j
    · subst h; simp
    · simp [h, ne' h]
theorem hget_hset (l : Heap) (i : Nat) (o : AObj) (j : Nat) : hget (hset l i o) j = if i = j then (hget l i).map (fun _ => o) else hget l j := by
  induction l with
  | nil => simp [hset]
  | cons p l ih =>
    show hget (bif Nat.beq p.1 i then (i, o) :: l else p :: hset l i o) j = _
    by_cases h : p.1 = i
    · subst h
      simp only [Nat.beq_refl, cond_true, hget_cons]
      by_cases hj : p.1 = j <;> simp [hj]
    · have hb := nbeq h
      simp only [hb, cond_false, hget_cons, ih]
      by_cases hj : p.1 = j
      · subst hj; simp [ne' h]
      · simp [hj, h]

/-- The heap's numbers fall. -/
def Falls (l : Heap) : Prop := l.Pairwise fun p q => q.1 < p.1
theorem Falls.lt {p : Nat × AObj} {l : Heap} (h : Falls (p :: l)) {i : Nat} {o : AObj} (hi : hget l i = some o) : i < p.1 := by
  have h1 := List.pairwise_cons.1 h
  clear h
  induction l with
  | nil => simp at hi
  | cons q l ih =>
    rw [hget_cons] at hi
    split at hi
    · rename_i e; subst e; exact h1.1 q (by simp)
    · exact ih hi ⟨fun a ha => h1.1 a (by simp [ha]), (List.pairwise_cons.1 h1.2).2⟩
theorem Falls.tail {p : Nat × AObj} {l : Heap} (h : Falls (p :: l)) : Falls l := (List.pairwise_cons.1 h).2
theorem hset_keys (l : Heap) (i : Nat) (o : AObj) : (hset l i o).map Prod.fst = l.map Prod.fst := by
  induction l with
  | nil => rfl
  | cons p l ih =>
    show List.map Prod.fst (bif Nat.beq p.1 i then (i, o) :: l else p :: hset l i o) = _
    by_cases h : p.1 = i
    · subst h; simp
    · have hb := nbeq h
      simp [hb, ih]
theorem falls_keys {l m : Heap} (h : l.map Prod.fst = m.map Prod.fst) (hl : Falls l) : Falls m := by
  have : (l.map Prod.fst).Pairwise (fun a b => b < a) := List.pairwise_map.2 hl
  rw [h] at this
  exact List.pairwise_map.1 this
theorem Falls.hset {l : Heap} (h : Falls l) (i : Nat) (o : AObj) : Falls (hset l i o) := falls_keys (hset_keys l i o).symm h
theorem hget_hdel {l : Heap} (h : Falls l) (i j : Nat) : hget (hdel l i) j = if i = j then none else hget l j := by
  induction l with
  | nil => simp [hdel]
  | cons p l ih =>
    show hget (bif Nat.beq p.1 i then l else p :: hdel l i) j = _
    by_cases hp : p.1 = i
    · subst hp
      simp only [Nat.beq_refl, cond_true, hget_cons]
      by_cases hj : p.1 = j
      · subst hj
        simp only [if_true]
        cases hx : hget l p.1 with
        | none => rfl
        | some o => have := h.lt hx; omega
      · simp [hj]
    · have hb := nbeq hp
      simp only [hb, cond_false, hget_cons, ih h.tail]
      by_cases hj : p.1 = j
      · subst hj; simp [ne' hp]
      · simp [hj]
theorem hdel_sub (l : Heap) (i : Nat) : (hdel l i).Sublist l := by
  induction l with
  | nil => exact List.Sublist.refl _
  | cons p l ih =>
    show List.Sublist (bif Nat.beq p.1 i then l else p :: hdel l i) _
    cases Nat.beq p.1 i
    · exact ih.cons_cons p
    · exact List.sublist_cons_self p l
theorem Falls.sub {l m : Heap} (h : Falls l) (s : m.Sublist l) : Falls m := List.Pairwise.sublist s h
theorem hgc_sub (l : Heap) (n : Nat) : (hgc l n).Sublist l := by
  induction l with
  | nil => exact List.Sublist.refl _
  | cons p l ih =>
    show List.Sublist (bif Nat.ble n p.1 then hgc l n else p :: l) _
    cases Nat.ble n p.1
    · exact List.Sublist.refl _
    · exact ih.cons p
theorem hgc1_sub (l : Heap) (n : Nat) : (hgc1 l n).Sublist l := by
  induction l with
  | nil => exact List.Sublist.refl _
  | cons p l ih =>
    show List.Sublist (bif Nat.ble n p.1 then (bif p.2.stays then p :: hgc1 l n else hgc1 l n) else p :: l) _
    cases Nat.ble n p.1
    · exact List.Sublist.refl _
    · cases p.2.stays
      · exact ih.cons p
      · exact ih.cons_cons p
theorem hget_mem {l : Heap} {i : Nat} {o : AObj} (h : hget l i = some o) : (i, o) ∈ l := by
  induction l with
  | nil => simp at h
  | cons p l ih =>
    rw [hget_cons] at h
    split at h
    · rename_i e; obtain ⟨a, b⟩ := p; simp at h e; subst e; subst h; simp
    · exact List.mem_cons_of_mem _ (ih h)
theorem hget_of_mem {l : Heap} (hl : Falls l) {i : Nat} {o : AObj} (h : (i, o) ∈ l) : hget l i = some o := by
  induction l with
  | nil => simp at h
  | cons p l ih =>
    rw [hget_cons]
    rcases List.mem_cons.1 h with h | h
    · subst h; simp
    · have h1 := (List.pairwise_cons.1 hl).1 _ h
      simp only at h1
      rw [if_neg (by omega)]
      exact ih hl.tail h
theorem hget_of_sub {l m : Heap} (hl : Falls l) (s : m.Sublist l) {i : Nat} {o : AObj} (h : hget m i = some o) : hget l i = some o :=
  hget_of_mem hl (s.subset (hget_mem h))

/-! ### Where abstract things lie -/
inductive Loc where
  | cells (b st lim : Nat)
  | blk (b : Nat)
  deriving DecidableEq

/-- Cells that are written no more, and what they hold; where objects lie; where what a token allows begins and ends. -/
structure Ctx where
  S : Nat → Nat → Option Value
  κ : Nat → Option Loc
  T : Nat → Nat → Option (Nat × Nat × Nat × Nat)

structure Ctx.Le (C D : Ctx) : Prop where
  S : ∀ b x u, C.S b x = some u → D.S b x = some u
  κ : ∀ i l, C.κ i = some l → D.κ i = some l
  T : ∀ i g r, C.T i g = some r → D.T i g = some r
theorem Ctx.Le.refl (C : Ctx) : C.Le C := ⟨fun _ _ _ h => h, fun _ _ h => h, fun _ _ _ h => h⟩
theorem Ctx.Le.trans {C D E : Ctx} (h : C.Le D) (k : D.Le E) : C.Le E :=
  ⟨fun b x u e => k.S b x u (h.S b x u e), fun i l e => k.κ i l (h.κ i l e), fun i g r e => k.T i g r (h.T i g r e)⟩

def tokR (C : Ctx) (tk : Tok) (a : Option Addr) (b off len cap size : Nat) : Prop :=
  match tk with
  | .none => True
  | .full => cap = len
  | .live i g => a = some ⟨b, off, none⟩ ∧ C.T i g = some (b, off + len * size, off + cap * size, size)

/-- A value of the machine's for an abstract one. -/
inductive VR (C : Ctx) : AV → Value → Prop
  | junk (v : Value) : VR C .junk v
  | undef : VR C .undef (.tuple #[])
  | bool (b : Bool) : VR C (.bool b) (.bool b)
  | int (k : IntKind) (n : Int) : VR C (.int k n) (.int k n)
  | str (s : List UInt8) : VR C (.str s) (.string ⟨s.toArray⟩)
  | nilp : VR C .nilp (.pointer none)
  | nilm : VR C .nilm (.map none)
  | nilf : VR C .nilf .nilFunc
  | nili : VR C .nili .nilIface
  | agg (cs : List AV) (vs : Array Value) (hl : cs.length = vs.size) (h : ∀ (i : Nat) (c : AV) (v : Value), cs[i]? = some c → vs[i]? = some v → VR C c v) : VR C (.agg cs) (.agg vs)
  | tup (cs : List AV) (vs : Array Value) (hl : cs.length = vs.size) (h : ∀ (i : Nat) (c : AV) (v : Value), cs[i]? = some c → vs[i]? = some v → VR C c v) : VR C (.tup cs) (.tuple vs)
  | slice (es : List AV) (tk : Tok) (a : Option Addr) (b off cap size : Nat) (u : Nat → Nat → Value) (hsz : 0 < size) (hcap : es.length ≤ cap)
      (ha : es ≠ [] → a = some ⟨b, off, none⟩)
      (hel : ∀ (i : Nat) (e : AV), es[i]? = some e → e.cells.length = size)
      (hS : ∀ (i : Nat) (e : AV) (j : Nat) (c : AV), es[i]? = some e → e.cells[j]? = some c → C.S b (off + i * size + j) = some (u i j))
      (hV : ∀ (i : Nat) (e : AV) (j : Nat) (c : AV), es[i]? = some e → e.cells[j]? = some c → VR C c (u i j))
      (htk : tokR C tk a b off es.length cap size) : VR C (.slice es tk) (.slice a es.length cap)
  | hsl (o off len sz b st lim cap : Nat) (hκ : C.κ o = some (.cells b st lim)) (hsz : 0 < sz) (hcap : len ≤ cap) (hlim : st + off + cap * sz = lim) :
      VR C (.hsl o off len sz) (.slice (some ⟨b, st + off, none⟩) len cap)
  | ptr (o off b st lim : Nat) (hκ : C.κ o = some (.cells b st lim)) : VR C (.ptr o off) (.pointer (some ⟨b, st + off, none⟩))
  | itr (o b : Nat) (hκ : C.κ o = some (.blk b)) : VR C (.itr o) (.pointer (some ⟨b, 0, none⟩))
  | eptr (cs : List AV) (off b base : Nat) (u : Nat → Value)
      (hS : ∀ (j : Nat) (c : AV), cs[j]? = some c → C.S b (base + j) = some (u j)) (hV : ∀ (j : Nat) (c : AV), cs[j]? = some c → VR C c (u j)) :
      VR C (.eptr cs off) (.pointer (some ⟨b, base + off, none⟩))
  | map (o b : Nat) (hκ : C.κ o = some (.blk b)) : VR C (.map o) (.map (some b))
  | fn (f : Fn) (hf : ∀ l, f ≠ .yield l) (first caps : List AV) (fv cv : Array Value) (h1 : first.length = fv.size) (h2 : caps.length = cv.size)
      (hv1 : ∀ (i : Nat) (c : AV) (v : Value), first[i]? = some c → fv[i]? = some v → VR C c v) (hv2 : ∀ (i : Nat) (c : AV) (v : Value), caps[i]? = some c → cv[i]? = some v → VR C c v) :
      VR C (.fn f first caps) (.func f fv cv)
  | yield (l b : Nat) (hκ : C.κ l = some (.blk b)) : VR C (.fn (.yield l) [] []) (.func (.yield b) #[] #[])

theorem tokR.mono {C D : Ctx} (h : C.Le D) {tk : Tok} {a : Option Addr} {b off len cap size : Nat} (k : tokR C tk a b off len cap size) : tokR D tk a b off len cap size := by
  cases tk with
  | none => trivial
  | full => exact k
  | live i g => exact ⟨k.1, h.T _ _ _ k.2⟩

theorem VR.mono {C D : Ctx} (h : C.Le D) {a : AV} {v : Value} (k : VR C a v) : VR D a v := by
  induction k with
  | junk v => exact .junk v
  | undef => exact .undef
  | bool b => exact .bool b
  | int k n => exact .int k n
  | str s => exact .str s
  | nilp => exact .nilp
  | nilm => exact .nilm
  | nilf => exact .nilf
  | nili => exact .nili
  | agg cs vs hl _ ih => exact .agg cs vs hl ih
  | tup cs vs hl _ ih => exact .tup cs vs hl ih
  | slice es tk a b off cap size u hsz hcap ha hel hS _ htk ih =>
    exact .slice es tk a b off cap size u hsz hcap ha hel (fun i e j c h1 h2 => h.S _ _ _ (hS i e j c h1 h2)) ih (htk.mono h)
  | hsl o off len sz b st lim cap hκ hsz hcap hlim => exact .hsl o off len sz b st lim cap (h.κ _ _ hκ) hsz hcap hlim
  | ptr o off b st lim hκ => exact .ptr o off b st lim (h.κ _ _ hκ)
  | itr o b hκ => exact .itr o b (h.κ _ _ hκ)
  | eptr cs off b base u hS _ ih => exact .eptr cs off b base u (fun j c h1 => h.S _ _ _ (hS j c h1)) ih
  | map o b hκ => exact .map o b (h.κ _ _ hκ)
  | fn f hf first caps fv cv h1 h2 _ _ ih1 ih2 => exact .fn f hf first caps fv cv h1 h2 ih1 ih2
  | yield l b hκ => exact .yield l b (h.κ _ _ hκ)

/-- A row of values. -/
def VRs (C : Ctx) (l : List AV) (vs : Array Value) : Prop := l.length = vs.size ∧ ∀ (i : Nat) (c : AV) (v : Value), l[i]? = some c → vs[i]? = some v → VR C c v
theorem VRs.mono {C D : Ctx} (h : C.Le D) {l : List AV} {vs : Array Value} (k : VRs C l vs) : VRs D l vs := ⟨k.1, fun i c v h1 h2 => (k.2 i c v h1 h2).mono h⟩

theorem VRs.one {C : Ctx} {a : AV} {v : Value} (h : VR C a v) : VRs C [a] #[v] := by
  refine ⟨rfl, fun i c v h1 h2 => ?_⟩
  cases i with
  | zero => simp at h1 h2; subst h1; subst h2; exact h
  | succ i => simp at h1

/-- What is in a struct, or the one value itself. -/
theorem VR.cells {C : Ctx} {a : AV} {v : Value} (h : VR C a v) (hk : known a = true) : VRs C a.cells v.cells := by
  have one := VRs.one h
  cases h with
  | junk => simp at hk
  | agg cs vs hl h => exact ⟨hl, h⟩
  | _ => exact one

theorem VR.oneCell {C : Ctx} {a : AV} {v : Value} (h : VR C a v) (hk : isCell a = true) : v.oneCell' = true := by
  cases h <;> first | rfl | simp at hk

theorem VRs.get {C : Ctx} {l : List AV} {vs : Array Value} (h : VRs C l vs) {i : Nat} {c : AV} (hi : l[i]? = some c) : ∃ v, vs[i]? = some v ∧ VR C c v := by
  have hlt : i < vs.size := by
    have := (List.getElem?_eq_some_iff.1 hi).1
    have := h.1; omega
  exact ⟨vs[i], Array.getElem?_eq_getElem hlt, h.2 i c _ hi (Array.getElem?_eq_getElem hlt)⟩

/-- Temporaries, so far as they are known. -/
def EnvR (C : Ctx) (env : Env) (tm : Array Value) : Prop := ∀ i, VR C (aget env i) (tm.getD i undef)
theorem EnvR.mono {C D : Ctx} (h : C.Le D) {env : Env} {tm : Array Value} (k : EnvR C env tm) : EnvR D env tm := fun i => (k i).mono h
theorem EnvR.put {C : Ctx} {env : Env} {a : Act} (h : EnvR C env a.tmps) (d : Option Nat) {v : AV} {u : Value} (hv : VR C v u) (hd : ∀ t, d = some t → t < a.tmps.size) :
    EnvR C (put env d v) (a.put d u).tmps := by
  cases d with
  | none => exact h
  | some t =>
    intro i
    simp only [AM.put, Act.put, aget_cons]
    by_cases e : t = i
    · subst e
      have := hd t rfl
      simp only [if_true]
      rw [Array.getD_eq_getD_getElem?, Array.getElem?_setIfInBounds_self_of_lt this]
      exact hv
    · simp only [if_neg e]
      rw [Array.getD_eq_getD_getElem?, Array.getElem?_setIfInBounds_ne e, ← Array.getD_eq_getD_getElem?]
      exact h i
theorem EnvR.keep {C : Ctx} {old new : Env} {tm : Array Value} (h1 : EnvR C new tm) (h2 : ∀ i, VR C (aget old i) (tm.getD i undef)) (outs : List Nat) : EnvR C (keep old new outs) tm := by
  intro i
  rw [aget_keep]
  split
  · exact h1 i
  · exact h2 i

end Go.AM
namespace Go.AM
open Go.RowKit



def EnvIn (X : List Nat) (env : Env) : Prop := ∀ i, aget env i ≠ .junk → i ∈ X

/-- Where an object lies. -/
def objB (C : Ctx) (id : Nat) (o : AObj) : Option Nat :=
  match o with
  | .cells _ => match C.κ id with
    | some (.cells b _ _) => some b
    | _ => none
  | .tok g _ => (C.T id g).map (·.1)
  | _ => match C.κ id with
    | some (.blk b) => some b
    | _ => none

/-- A map's entries, in whatever order. -/
def MapR (C : Ctx) (ks : List Nat) (es : List (AV × AV)) (ents : List MapEntry) : Prop :=
  ∃ fs : List (AV × AV), fs.Perm es ∧ fs.length = ents.length ∧
    (∀ (i : Nat) (p : AV × AV) (e : MapEntry), fs[i]? = some p → ents[i]? = some e → VR C p.1 e.key ∧ VR C p.2 e.val) ∧
    (∀ p ∈ es, shapeOf p.1 = ks) ∧ es.Pairwise fun p q => eqK p.1 q.1 = false

def LState.to : LState → LoopState
  | .ready => .ready
  | .busy => .busy
  | .done => .done
  | .gone => .exhausted
def Jump.to : Jump → Code
  | .ret => .ret
  | .exit i => .exit i

variable (P : Program) (cfg : Cfg)

structure LoopR (C : Ctx) (st : LState) (j : Option Jump) (tm : Env) (ps : List Nat) (as body : ACode) (L : Loop) : Prop where
  st : L.state = st.to
  jump : L.pending = j.map Jump.to
  env : EnvR C tm L.tmps
  params : L.params.toList = ps
  code : ∃ s : Self, as = comp P cfg s L.assign ∧ body = comp P cfg s L.body ∧ s.N ≤ L.tmps.size ∧ EnvIn s.X tm ∧ ∀ p ∈ ps, p < s.N ∧ p ∈ s.X

def ObjR (C : Ctx) (w : World) (id : Nat) : AObj → Prop
  | .cells l => ∃ (b st lim : Nat) (cs : Array Value) (e : TypeId), C.κ id = some (.cells b st lim) ∧ w.heap[b]? = some (.cells cs e (0, 0)) ∧ st + l.length ≤ lim ∧ lim ≤ cs.size ∧
      (∀ (j : Nat) (c : AV), l[j]? = some c → ∃ u, cs[st + j]? = some u ∧ VR C c u) ∧ ∀ x, C.S b x = none
  | .map ks es => ∃ (b : Nat) (ents : Array MapEntry) (clock : Nat), C.κ id = some (.blk b) ∧ w.heap[b]? = some (.map ents clock) ∧ MapR C ks es ents.toList
  | .tok g sz => ∃ (b e lim : Nat) (cs : Array Value) (el : TypeId), C.T id g = some (b, e, lim, sz) ∧ w.heap[b]? = some (.cells cs el (0, 0)) ∧ e ≤ lim ∧ lim ≤ cs.size ∧
      (∀ x, e ≤ x → x < lim → C.S b x = none) ∧ ∀ h, g < h → C.T id h = none
  | .iter s pos => ∃ b : Nat, C.κ id = some (.blk b) ∧ w.heap[b]? = some (.stringIter ⟨s.toArray⟩ pos)
  | .loop st j tm ps as body => ∃ (b : Nat) (L : Loop), C.κ id = some (.blk b) ∧ w.heap[b]? = some (.loop L) ∧ LoopR P cfg C st j tm ps as body L
  | .defs => ∃ b : Nat, C.κ id = some (.blk b) ∧ w.heap[b]? = some (.deferred (some []))

structure Inv0 (C : Ctx) (σ : St) (w : World) : Prop where
  lies : ∀ b x u, C.S b x = some u → w.cell? ⟨b, x, none⟩ = some u
  falls : Falls σ.heap
  next : ∀ id o, σ.get id = some o → id < σ.next
  obj : ∀ id o, σ.get id = some o → ObjR P cfg C w id o
  inj : ∀ i j o o' b, σ.get i = some o → σ.get j = some o' → objB C i o = some b → objB C j o' = some b → i = j

def Owned (C : Ctx) (σ : St) (b : Nat) : Prop := ∃ i o, σ.get i = some o ∧ objB C i o = some b

/-- The tables that nobody writes. -/
def Pin (cfg : Cfg) (C : Ctx) (σ : St) (w : World) : Prop := ∀ p ∈ cfg.pins, (∃ e k, w.heap[p.1]? = some (.cells p.2 e k)) ∧ ¬Owned C σ p.1
structure Inv (C : Ctx) (σ : St) (w : World) : Prop extends Inv0 P cfg C σ w where
  pin : Pin cfg C σ w

structure Ev (C : Ctx) (σ : St) (w : World) (D : Ctx) (τ : St) (w' : World) : Prop where
  le : C.Le D
  next : σ.next ≤ τ.next
  size : w.heap.size ≤ w'.heap.size
  os : w'.os = w.os
  tape : w'.tape = w.tape
  output : w'.output = w.output
  keep : ∀ b, b < w.heap.size → ¬Owned C σ b → w'.heap[b]? = w.heap[b]?
  own : ∀ b, b < w.heap.size → Owned D τ b → Owned C σ b
  seals : ∀ b x u, b < w.heap.size → ¬Owned C σ b → D.S b x = some u → C.S b x = some u
  kap : ∀ i, D.κ i ≠ C.κ i → σ.next ≤ i ∧ i < τ.next
  tok : ∀ i g, D.T i g ≠ C.T i g → i < τ.next ∧ ((∃ o, σ.get i = some o) ∨ σ.next ≤ i)
  dom : ∀ i o, τ.get i = some o → (∃ o', σ.get i = some o') ∨ σ.next ≤ i

variable {P cfg}

theorem Ev.refl (C : Ctx) (σ : St) (w : World) : Ev C σ w C σ w :=
  ⟨.refl C, Nat.le_refl _, Nat.le_refl _, rfl, rfl, rfl, fun _ _ _ => rfl, fun _ _ h => h, fun _ _ _ _ _ h => h, fun _ h => absurd rfl h, fun _ _ h => absurd rfl h, fun _ o h => .inl ⟨o, h⟩⟩

theorem Ev.trans {C D E : Ctx} {σ τ υ : St} {w w1 w2 : World} (h : Ev C σ w D τ w1) (k : Ev D τ w1 E υ w2) : Ev C σ w E υ w2 where
  le := h.le.trans k.le
  next := Nat.le_trans h.next k.next
  size := Nat.le_trans h.size k.size
  os := k.os.trans h.os
  tape := k.tape.trans h.tape
  output := k.output.trans h.output
  keep := fun b hb ho => (k.keep b (Nat.lt_of_lt_of_le hb h.size) (fun e => ho (h.own b hb e))).trans (h.keep b hb ho)
  own := fun b hb ho => h.own b hb (k.own b (Nat.lt_of_lt_of_le hb h.size) ho)
  seals := fun b x u hb ho hs => h.seals b x u hb ho (k.seals b x u (Nat.lt_of_lt_of_le hb h.size) (fun e => ho (h.own b hb e)) hs)
  kap := fun i hi => by
    by_cases e : E.κ i = D.κ i
    · have := h.kap i (fun e' => hi (e.trans e'))
      have := k.next; omega
    · have := k.kap i e
      have := h.next; omega
  tok := fun i g hi => by
    by_cases e : E.T i g = D.T i g
    · obtain ⟨h1, h2⟩ := h.tok i g (fun e' => hi (e.trans e'))
      have := k.next
      exact ⟨by omega, h2⟩
    · obtain ⟨h1, h2⟩ := k.tok i g e
      refine ⟨h1, ?_⟩
      rcases h2 with ⟨o, h2⟩ | h2
      · exact h.dom i o h2
      · right; have := h.next; omega
  dom := fun i o hi => by
    rcases k.dom i o hi with ⟨o', h2⟩ | h2
    · exact h.dom i o' h2
    · right; have := h.next; omega

/-- A draw of the tape's. -/
theorem Inv0.drew {C : Ctx} {σ : St} {w : World} (h : Inv0 P cfg C σ w) (n : Nat) : Inv0 P cfg C σ { w with drawn := n } := by
  refine ⟨h.lies, h.falls, h.next, fun id o ho => ?_, h.inj⟩
  have := h.obj id o ho
  cases o <;> exact this
theorem Ev.drew (C : Ctx) (σ : St) (w : World) (n : Nat) : Ev C σ w C σ { w with drawn := n } :=
  ⟨.refl C, Nat.le_refl _, Nat.le_refl _, rfl, rfl, rfl, fun _ _ _ => rfl, fun _ _ h => h, fun _ _ _ _ _ h => h, fun _ h => absurd rfl h, fun _ _ h => absurd rfl h, fun _ o h => .inl ⟨o, h⟩⟩

theorem MapR.mono {C D : Ctx} (h : C.Le D) {ks : List Nat} {es : List (AV × AV)} {ents : List MapEntry} (k : MapR C ks es ents) : MapR D ks es ents := by
  obtain ⟨fs, h1, h2, h3, h4, h5⟩ := k
  exact ⟨fs, h1, h2, fun i p e hp he => ⟨(h3 i p e hp he).1.mono h, (h3 i p e hp he).2.mono h⟩, h4, h5⟩
theorem LoopR.mono {C D : Ctx} (h : C.Le D) {st : LState} {j : Option Jump} {tm : Env} {ps : List Nat} {as body : ACode} {L : Loop} (k : LoopR P cfg C st j tm ps as body L) :
    LoopR P cfg D st j tm ps as body L := ⟨k.st, k.jump, k.env.mono h, k.params, k.code⟩

/-- An object that is not touched. -/
theorem ObjR.stable {C D : Ctx} {w w' : World} {id : Nat} {o : AObj} (h : ObjR P cfg C w id o) (hle : C.Le D)
    (hb : ∀ b, objB C id o = some b → w'.heap[b]? = w.heap[b]? ∧ ∀ x u, D.S b x = some u → C.S b x = some u) (hT : ∀ g, D.T id g = C.T id g) : ObjR P cfg D w' id o := by
  have none_of : ∀ {b x}, (∀ u, D.S b x = some u → C.S b x = some u) → C.S b x = none → D.S b x = none := by
    intro b x h1 h2
    cases e : D.S b x with
    | none => rfl
    | some u => rw [h1 u e] at h2; cases h2
  cases o with
  | cells l =>
    obtain ⟨b, st, lim, cs, e, h1, h2, h3, h4, h5, h6⟩ := h
    have hb := hb b (by simp [objB, h1])
    exact ⟨b, st, lim, cs, e, hle.κ _ _ h1, hb.1.trans h2, h3, h4, fun j c hc => let ⟨u, a, v⟩ := h5 j c hc; ⟨u, a, v.mono hle⟩, fun x => none_of (hb.2 x) (h6 x)⟩
  | map ks es =>
    obtain ⟨b, ents, clock, h1, h2, h3⟩ := h
    have hb := hb b (by simp [objB, h1])
    exact ⟨b, ents, clock, hle.κ _ _ h1, hb.1.trans h2, h3.mono hle⟩
  | tok g sz =>
    obtain ⟨b, e, lim, cs, el, h1, h2, h3, h4, h5, h6⟩ := h
    have hb := hb b (by simp [objB, h1])
    exact ⟨b, e, lim, cs, el, hle.T _ _ _ h1, hb.1.trans h2, h3, h4, fun x hx hy => none_of (hb.2 x) (h5 x hx hy), fun g' hg' => (hT g').trans (h6 g' hg')⟩
  | iter s pos =>
    obtain ⟨b, h1, h2⟩ := h
    have hb := hb b (by simp [objB, h1])
    exact ⟨b, hle.κ _ _ h1, hb.1.trans h2⟩
  | loop st j tm ps as body =>
    obtain ⟨b, L, h1, h2, h3⟩ := h
    have hb := hb b (by simp [objB, h1])
    exact ⟨b, L, hle.κ _ _ h1, hb.1.trans h2, h3.mono hle⟩
  | defs =>
    obtain ⟨b, h1, h2⟩ := h
    have hb := hb b (by simp [objB, h1])
    exact ⟨b, hle.κ _ _ h1, hb.1.trans h2⟩

theorem ObjR.block {C : Ctx} {w : World} {id : Nat} {o : AObj} (h : ObjR P cfg C w id o) : ∃ b, objB C id o = some b ∧ b < w.heap.size := by
  have lt : ∀ {b : Nat} {x : Obj}, w.heap[b]? = some x → b < w.heap.size := fun h => (Array.getElem?_eq_some_iff.1 h).1
  cases o with
  | cells l => obtain ⟨b, st, lim, cs, e, h1, h2, _⟩ := h; exact ⟨b, by simp [objB, h1], lt h2⟩
  | map ks es => obtain ⟨b, ents, clock, h1, h2, h3⟩ := h; exact ⟨b, by simp [objB, h1], lt h2⟩
  | tok g sz => obtain ⟨b, e, lim, cs, el, h1, h2, _⟩ := h; exact ⟨b, by simp [objB, h1], lt h2⟩
  | iter s pos => obtain ⟨b, h1, h2⟩ := h; exact ⟨b, by simp [objB, h1], lt h2⟩
  | loop st j tm ps as body => obtain ⟨b, L, h1, h2, h3⟩ := h; exact ⟨b, by simp [objB, h1], lt h2⟩
  | defs => obtain ⟨b, h1, h2⟩ := h; exact ⟨b, by simp [objB, h1], lt h2⟩

theorem objB_mono {C D : Ctx} (h : C.Le D) {id b : Nat} {o : AObj} (k : objB C id o = some b) : objB D id o = some b := by
  cases o <;> simp only [objB] at k ⊢
  case tok g sz =>
    cases e : C.T id g with
    | none => rw [e] at k; cases k
    | some r => rw [e] at k; rw [h.T _ _ _ e]; exact k
  all_goals
    cases e : C.κ id with
    | none => rw [e] at k; cases k
    | some l => rw [e] at k; rw [h.κ _ _ e]; exact k

theorem Inv0.ownedLt {C : Ctx} {σ : St} {w : World} (h : Inv0 P cfg C σ w) {b : Nat} (ho : Owned C σ b) : b < w.heap.size := by
  obtain ⟨i, o, h1, h2⟩ := ho
  obtain ⟨b', h3, h4⟩ := (h.obj i o h1).block
  rw [h2] at h3; cases h3; exact h4

theorem objB_back {C D : Ctx} {w : World} (hle : C.Le D) {id b : Nat} {o : AObj} (ho : ObjR P cfg C w id o) (h : objB D id o = some b) : objB C id o = some b := by
  obtain ⟨b', h1, _⟩ := ho.block
  rw [objB_mono hle h1] at h; cases h; exact h1

theorem get_add (σ : St) (o : AObj) (i : Nat) : (σ.add o).get i = if σ.next = i then some o else σ.get i := hget_cons _ _ _
theorem get_set (σ : St) (i : Nat) (o : AObj) (j : Nat) : (σ.set i o).get j = if i = j then (σ.get i).map (fun _ => o) else σ.get j := by
  have := hget_hset σ.heap i o j
  unfold St.set St.get
  rw [this]

/-- A new object, in a new block. -/
theorem Inv0.new {C D : Ctx} {σ : St} {w w' : World} {o : AObj} (h : Inv0 P cfg C σ w) (hle : C.Le D)
    (hκ : ∀ i, i ≠ σ.next → D.κ i = C.κ i) (hT : ∀ i g, i ≠ σ.next → D.T i g = C.T i g)
    (hS : ∀ b x u, b < w.heap.size → D.S b x = some u → C.S b x = some u)
    (hsize : w.heap.size ≤ w'.heap.size) (hos : w'.os = w.os) (htape : w'.tape = w.tape) (hout : w'.output = w.output)
    (hw : ∀ b, b < w.heap.size → w'.heap[b]? = w.heap[b]?)
    (hseal : ∀ b x u, w.heap.size ≤ b → D.S b x = some u → w'.cell? ⟨b, x, none⟩ = some u)
    (hobj : ObjR P cfg D w' σ.next o) (hb : ∀ b, objB D σ.next o = some b → w.heap.size ≤ b) :
    Inv0 P cfg D (σ.add o) w' ∧ Ev C σ w D (σ.add o) w' := by
  have old : ∀ {i o'}, σ.get i = some o' → i ≠ σ.next := fun hi e => by have := h.next _ _ hi; omega
  have oldB : ∀ {i o' b}, σ.get i = some o' → objB D i o' = some b → objB C i o' = some b ∧ b < w.heap.size := fun hi hb' => by
    have h1 := objB_back hle (h.obj _ _ hi) hb'
    obtain ⟨b'', h2, h3⟩ := (h.obj _ _ hi).block
    rw [h1] at h2; cases h2
    exact ⟨h1, h3⟩
  refine ⟨⟨fun b x u hs => ?_, ?_, fun id o' ho => ?_, fun id o' ho => ?_, fun i j oi oj b hi hj hbi hbj => ?_⟩, ⟨hle, by simp [St.add], hsize, hos, htape, hout, fun b hb' _ => hw b hb', fun b hb' ⟨i, o', hi, ho⟩ => ?_, fun b x u hb' _ => hS b x u hb', fun i hi => ?_, fun i g hi => ?_, fun i o' hi => ?_⟩⟩
  · by_cases e : b < w.heap.size
    · have := h.lies b x u (hS b x u e hs)
      rw [← this]; exact World.cell?_of_block (hw b e)
    · exact hseal b x u (by omega) hs
  · refine List.pairwise_cons.2 ⟨fun q hq => ?_, h.falls⟩
    have := h.next q.1 q.2 (hget_of_mem h.falls hq)
    exact this
  · rw [get_add] at ho
    split at ho
    · rename_i e; show id < σ.next + 1; omega
    · have := h.next _ _ ho; show id < σ.next + 1; omega
  · rw [get_add] at ho
    split at ho
    · rename_i e; subst e; cases ho; exact hobj
    · refine (h.obj _ _ ho).stable hle (fun b hb' => ?_) (fun g => hT id g (old ho))
      obtain ⟨b'', h2, h3⟩ := (h.obj _ _ ho).block
      rw [hb'] at h2; cases h2
      exact ⟨hw b h3, fun x u => hS b x u h3⟩
  · rw [get_add] at hi hj
    split at hi <;> split at hj
    · omega
    · rename_i e1 e2; subst e1; cases hi
      have := hb b hbi; have := (oldB hj hbj).2; omega
    · rename_i e1 e2; subst e2; cases hj
      have := hb b hbj; have := (oldB hi hbi).2; omega
    · exact h.inj i j oi oj b hi hj (oldB hi hbi).1 (oldB hj hbj).1
  · rw [get_add] at hi
    split at hi
    · rename_i e; subst e; cases hi
      have := hb b ho; omega
    · exact ⟨i, o', hi, (oldB hi ho).1⟩
  · have : i = σ.next := Classical.byContradiction fun e => hi (hκ i e)
    show σ.next ≤ i ∧ i < σ.next + 1
    omega
  · have : i = σ.next := Classical.byContradiction fun e => hi (hT i g e)
    exact ⟨by show i < σ.next + 1; omega, .inr (by omega)⟩
  · rw [get_add] at hi
    split at hi
    · right; omega
    · exact .inl ⟨o', hi⟩

/-- An object that becomes another one, in its block. -/
theorem Inv0.change {C D : Ctx} {σ : St} {w w' : World} {id b : Nat} {o o' : AObj} (h : Inv0 P cfg C σ w) (hle : C.Le D)
    (ho : σ.get id = some o) (hbo : objB C id o = some b) (hbo' : objB D id o' = some b)
    (hκ : ∀ i, D.κ i = C.κ i) (hT : ∀ i g, i ≠ id → D.T i g = C.T i g)
    (hS : ∀ b' x u, b' ≠ b → D.S b' x = some u → C.S b' x = some u)
    (hsize : w.heap.size = w'.heap.size) (hos : w'.os = w.os) (htape : w'.tape = w.tape) (hout : w'.output = w.output)
    (hw : ∀ b', b' ≠ b → w'.heap[b']? = w.heap[b']?)
    (hseal : ∀ x u, D.S b x = some u → w'.cell? ⟨b, x, none⟩ = some u)
    (hobj : ObjR P cfg D w' id o') :
    Inv0 P cfg D (σ.set id o') w' ∧ Ev C σ w D (σ.set id o') w' := by
  have oldB : ∀ {i oi bi}, σ.get i = some oi → objB D i oi = some bi → objB C i oi = some bi := fun hi hb' => objB_back hle (h.obj _ _ hi) hb'
  have gets : ∀ {i oi}, (σ.set id o').get i = some oi → (i = id ∧ oi = o') ∨ (i ≠ id ∧ σ.get i = some oi) := fun {i oi} hi => by
    rw [get_set] at hi
    split at hi
    · rename_i e; subst e; rw [ho] at hi; simp at hi; exact .inl ⟨rfl, hi.symm⟩
    · rename_i e; exact .inr ⟨fun e' => e e'.symm, hi⟩
  refine ⟨⟨fun b' x u hs => ?_, h.falls.hset _ _, fun i oi hi => ?_, fun i oi hi => ?_, fun i j oi oj b' hi hj hbi hbj => ?_⟩, ⟨hle, Nat.le_refl _, Nat.le_of_eq hsize, hos, htape, hout, fun b' hb' hno => hw b' (fun e => hno ⟨id, o, ho, e ▸ hbo⟩), fun b' hb' ⟨i, oi, hi, hbi⟩ => ?_, fun b' x u hb' hno => hS b' x u (fun e => hno ⟨id, o, ho, e ▸ hbo⟩), fun i hi => absurd (hκ i) hi, fun i g hi => ?_, fun i oi hi => ?_⟩⟩
  · by_cases e : b' = b
    · subst e; exact hseal x u hs
    · have := h.lies b' x u (hS b' x u e hs)
      rw [← this]; exact World.cell?_of_block (hw b' e)
  · rcases gets hi with ⟨rfl, rfl⟩ | ⟨_, hi⟩
    · exact h.next _ _ ho
    · exact h.next _ _ hi
  · rcases gets hi with ⟨rfl, rfl⟩ | ⟨hne, hi⟩
    · exact hobj
    · refine (h.obj _ _ hi).stable hle (fun b' hb' => ?_) (fun g => hT i g hne)
      have : b' ≠ b := fun e => hne (h.inj i id oi o b hi ho (e ▸ hb') hbo)
      exact ⟨hw b' this, fun x u => hS b' x u this⟩
  · rcases gets hi with ⟨e1, e2⟩ | ⟨hni, hi'⟩ <;> rcases gets hj with ⟨e3, e4⟩ | ⟨hnj, hj'⟩
    · rw [e1, e3]
    · rw [e1, e2, hbo'] at hbi; cases hbi
      exact absurd (h.inj j id oj o b hj' ho (oldB hj' hbj) hbo) hnj
    · rw [e3, e4, hbo'] at hbj; cases hbj
      exact absurd (h.inj i id oi o b hi' ho (oldB hi' hbi) hbo) hni
    · exact h.inj i j oi oj b' hi' hj' (oldB hi' hbi) (oldB hj' hbj)
  · rcases gets hi with ⟨rfl, rfl⟩ | ⟨hni, hi⟩
    · rw [hbo'] at hbi; cases hbi
      exact ⟨i, o, ho, hbo⟩
    · exact ⟨i, oi, hi, oldB hi hbi⟩
  · have e : i = id := Classical.byContradiction fun e => hi (hT i g e)
    subst e; exact ⟨h.next _ _ ho, .inl ⟨o, ho⟩⟩
  · rcases gets hi with ⟨rfl, rfl⟩ | ⟨hni, hi⟩
    · exact .inl ⟨o, ho⟩
    · exact .inl ⟨oi, hi⟩

/-- An object that goes, and one that comes: in its block or in a new one. -/
theorem Inv0.step {C D : Ctx} {σ τ : St} {w w' : World} {id n b bn : Nat} {o x : AObj} (h : Inv0 P cfg C σ w) (hle : C.Le D)
    (ho : σ.get id = some o) (hbo : objB C id o = some b) (hn : n = id ∨ n = σ.next) (hbn : bn = b ∨ w.heap.size ≤ bn) (hbx : objB D n x = some bn)
    (hget : ∀ i oi, τ.get i = some oi → (i = n ∧ oi = x) ∨ (i ≠ n ∧ i ≠ id ∧ σ.get i = some oi)) (hf : Falls τ.heap) (hnx : σ.next ≤ τ.next) (hnn : n < τ.next)
    (hκ : ∀ i, i ≠ n → D.κ i = C.κ i) (hκn : D.κ n ≠ C.κ n → n = σ.next) (hT : ∀ i g, i ≠ n → D.T i g = C.T i g)
    (hS : ∀ b' x u, b' ≠ b → b' < w.heap.size → D.S b' x = some u → C.S b' x = some u)
    (hsize : w.heap.size ≤ w'.heap.size) (hos : w'.os = w.os) (htape : w'.tape = w.tape) (hout : w'.output = w.output)
    (hw : ∀ b', b' ≠ b → b' < w.heap.size → w'.heap[b']? = w.heap[b']?)
    (hseal : ∀ b' x u, (b' = b ∨ w.heap.size ≤ b') → D.S b' x = some u → w'.cell? ⟨b', x, none⟩ = some u)
    (hobj : ObjR P cfg D w' n x) :
    Inv0 P cfg D τ w' ∧ Ev C σ w D τ w' := by
  have oldB : ∀ {i oi bi}, σ.get i = some oi → objB D i oi = some bi → objB C i oi = some bi ∧ bi < w.heap.size := fun hi hb' => by
    have h1 := objB_back hle (h.obj _ _ hi) hb'
    obtain ⟨b'', h2, h3⟩ := (h.obj _ _ hi).block
    rw [h1] at h2; cases h2
    exact ⟨h1, h3⟩
  have hblt := h.ownedLt ⟨id, o, ho, hbo⟩
  have other : ∀ {i oi bi}, i ≠ id → σ.get i = some oi → objB C i oi = some bi → bi ≠ b := fun hne hi hbi e => hne (h.inj _ id _ o b hi ho (e ▸ hbi) hbo)
  refine ⟨⟨fun b' y u hs => ?_, hf, fun i oi hi => ?_, fun i oi hi => ?_, fun i j oi oj b' hi hj hbi hbj => ?_⟩, ⟨hle, hnx, hsize, hos, htape, hout, fun b' hb' hno => hw b' (fun e => hno ⟨id, o, ho, e ▸ hbo⟩) hb', fun b' hb' ⟨i, oi, hi, hbi⟩ => ?_, fun b' y u hb' hno => hS b' y u (fun e => hno ⟨id, o, ho, e ▸ hbo⟩) hb', fun i hi => ?_, fun i g hi => ?_, fun i oi hi => ?_⟩⟩
  · by_cases e : b' = b
    · exact hseal b' y u (.inl e) hs
    · by_cases e' : b' < w.heap.size
      · have := h.lies b' y u (hS b' y u e e' hs)
        rw [← this]; exact World.cell?_of_block (hw b' e e')
      · exact hseal b' y u (.inr (by omega)) hs
  · rcases hget i oi hi with ⟨rfl, rfl⟩ | ⟨_, _, hi⟩
    · exact hnn
    · have := h.next _ _ hi; omega
  · rcases hget i oi hi with ⟨rfl, rfl⟩ | ⟨hni, hne, hi⟩
    · exact hobj
    · refine (h.obj _ _ hi).stable hle (fun b' hb' => ?_) (fun g => hT i g hni)
      obtain ⟨b'', h2, h3⟩ := (h.obj _ _ hi).block
      rw [hb'] at h2; cases h2
      have := other hne hi hb'
      exact ⟨hw b' this h3, fun y u => hS b' y u this h3⟩
  · rcases hget i oi hi with ⟨e1, e2⟩ | ⟨hni, hni', hi'⟩ <;> rcases hget j oj hj with ⟨e3, e4⟩ | ⟨hnj, hnj', hj'⟩
    · rw [e1, e3]
    · rw [e1, e2, hbx] at hbi; cases hbi
      have := oldB hj' hbj
      rcases hbn with e | e
      · exact absurd e (other hnj' hj' this.1)
      · omega
    · rw [e3, e4, hbx] at hbj; cases hbj
      have := oldB hi' hbi
      rcases hbn with e | e
      · exact absurd e (other hni' hi' this.1)
      · omega
    · exact h.inj i j oi oj b' hi' hj' (oldB hi' hbi).1 (oldB hj' hbj).1
  · rcases hget i oi hi with ⟨e1, e2⟩ | ⟨hni, hne, hi⟩
    · rw [e1, e2, hbx] at hbi; cases hbi
      rcases hbn with e | e
      · exact ⟨id, o, ho, e ▸ hbo⟩
      · omega
    · exact ⟨i, oi, hi, (oldB hi hbi).1⟩
  · have : i = n := Classical.byContradiction fun e => hi (hκ i e)
    subst this
    have := hκn hi
    omega
  · have : i = n := Classical.byContradiction fun e => hi (hT i g e)
    subst this
    refine ⟨hnn, ?_⟩
    rcases hn with e | e
    · subst e; exact .inl ⟨o, ho⟩
    · exact .inr (Nat.le_of_eq e.symm)
  · rcases hget i oi hi with ⟨rfl, _⟩ | ⟨_, _, hi⟩
    · rcases hn with e | e
      · subst e; exact .inl ⟨o, ho⟩
      · exact .inr (Nat.le_of_eq e.symm)
    · exact .inl ⟨oi, hi⟩

/-- Some objects are forgotten. -/
theorem Inv0.forget {C : Ctx} {σ τ : St} {w : World} (h : Inv0 P cfg C σ w) (hn : τ.next = σ.next) (hs : τ.heap.Sublist σ.heap) : Inv0 P cfg C τ w ∧ Ev C σ w C τ w := by
  have back : ∀ {i o}, τ.get i = some o → σ.get i = some o := fun hi => hget_of_sub h.falls hs hi
  refine ⟨⟨h.lies, h.falls.sub hs, fun i o hi => hn ▸ h.next i o (back hi), fun i o hi => h.obj i o (back hi), fun i j o o' b hi hj => h.inj i j o o' b (back hi) (back hj)⟩,
    ⟨.refl C, Nat.le_of_eq hn.symm, Nat.le_refl _, rfl, rfl, rfl, fun _ _ _ => rfl, fun b _ ⟨i, o, hi, ho⟩ => ⟨i, o, back hi, ho⟩, fun _ _ _ _ _ h => h, fun _ h => absurd rfl h, fun _ _ h => absurd rfl h, fun i o hi => .inl ⟨o, back hi⟩⟩⟩
theorem Pin.ev {C D : Ctx} {σ τ : St} {w w' : World} (h : Pin cfg C σ w) (hE : Ev C σ w D τ w') : Pin cfg D τ w' := fun p hp => by
  obtain ⟨⟨e, k, h1⟩, h2⟩ := h p hp
  have hlt : p.1 < w.heap.size := (Array.getElem?_eq_some_iff.1 h1).1
  exact ⟨⟨e, k, (hE.keep p.1 hlt h2).trans h1⟩, fun ho => h2 (hE.own p.1 hlt ho)⟩
theorem Inv.of {C D : Ctx} {σ τ : St} {w w' : World} (h : Inv P cfg C σ w) (k : Inv0 P cfg D τ w' ∧ Ev C σ w D τ w') : Inv P cfg D τ w' ∧ Ev C σ w D τ w' := ⟨⟨k.1, h.pin.ev k.2⟩, k.2⟩
theorem Inv.drew {C : Ctx} {σ : St} {w : World} (h : Inv P cfg C σ w) (n : Nat) : Inv P cfg C σ { w with drawn := n } := (h.of ⟨h.toInv0.drew n, .drew C σ w n⟩).1
theorem Inv.new {C D : Ctx} {σ : St} {w w' : World} {o : AObj} (h : Inv P cfg C σ w) (hle : C.Le D)
    (hκ : ∀ i, i ≠ σ.next → D.κ i = C.κ i) (hT : ∀ i g, i ≠ σ.next → D.T i g = C.T i g)
    (hS : ∀ b x u, b < w.heap.size → D.S b x = some u → C.S b x = some u)
    (hsize : w.heap.size ≤ w'.heap.size) (hos : w'.os = w.os) (htape : w'.tape = w.tape) (hout : w'.output = w.output)
    (hw : ∀ b, b < w.heap.size → w'.heap[b]? = w.heap[b]?)
    (hseal : ∀ b x u, w.heap.size ≤ b → D.S b x = some u → w'.cell? ⟨b, x, none⟩ = some u)
    (hobj : ObjR P cfg D w' σ.next o) (hb : ∀ b, objB D σ.next o = some b → w.heap.size ≤ b) :
    Inv P cfg D (σ.add o) w' ∧ Ev C σ w D (σ.add o) w' := h.of (h.toInv0.new hle hκ hT hS hsize hos htape hout hw hseal hobj hb)
theorem Inv.change {C D : Ctx} {σ : St} {w w' : World} {id b : Nat} {o o' : AObj} (h : Inv P cfg C σ w) (hle : C.Le D)
    (ho : σ.get id = some o) (hbo : objB C id o = some b) (hbo' : objB D id o' = some b)
    (hκ : ∀ i, D.κ i = C.κ i) (hT : ∀ i g, i ≠ id → D.T i g = C.T i g)
    (hS : ∀ b' x u, b' ≠ b → D.S b' x = some u → C.S b' x = some u)
    (hsize : w.heap.size = w'.heap.size) (hos : w'.os = w.os) (htape : w'.tape = w.tape) (hout : w'.output = w.output)
    (hw : ∀ b', b' ≠ b → w'.heap[b']? = w.heap[b']?)
    (hseal : ∀ x u, D.S b x = some u → w'.cell? ⟨b, x, none⟩ = some u)
    (hobj : ObjR P cfg D w' id o') :
    Inv P cfg D (σ.set id o') w' ∧ Ev C σ w D (σ.set id o') w' := h.of (h.toInv0.change hle ho hbo hbo' hκ hT hS hsize hos htape hout hw hseal hobj)
theorem Inv.step {C D : Ctx} {σ τ : St} {w w' : World} {id n b bn : Nat} {o x : AObj} (h : Inv P cfg C σ w) (hle : C.Le D)
    (ho : σ.get id = some o) (hbo : objB C id o = some b) (hn : n = id ∨ n = σ.next) (hbn : bn = b ∨ w.heap.size ≤ bn) (hbx : objB D n x = some bn)
    (hget : ∀ i oi, τ.get i = some oi → (i = n ∧ oi = x) ∨ (i ≠ n ∧ i ≠ id ∧ σ.get i = some oi)) (hf : Falls τ.heap) (hnx : σ.next ≤ τ.next) (hnn : n < τ.next)
    (hκ : ∀ i, i ≠ n → D.κ i = C.κ i) (hκn : D.κ n ≠ C.κ n → n = σ.next) (hT : ∀ i g, i ≠ n → D.T i g = C.T i g)
    (hS : ∀ b' x u, b' ≠ b → b' < w.heap.size → D.S b' x = some u → C.S b' x = some u)
    (hsize : w.heap.size ≤ w'.heap.size) (hos : w'.os = w.os) (htape : w'.tape = w.tape) (hout : w'.output = w.output)
    (hw : ∀ b', b' ≠ b → b' < w.heap.size → w'.heap[b']? = w.heap[b']?)
    (hseal : ∀ b' x u, (b' = b ∨ w.heap.size ≤ b') → D.S b' x = some u → w'.cell? ⟨b', x, none⟩ = some u)
    (hobj : ObjR P cfg D w' n x) :
    Inv P cfg D τ w' ∧ Ev C σ w D τ w' := h.of (h.toInv0.step hle ho hbo hn hbn hbx hget hf hnx hnn hκ hκn hT hS hsize hos htape hout hw hseal hobj)
theorem Inv.forget {C : Ctx} {σ τ : St} {w : World} (h : Inv P cfg C σ w) (hn : τ.next = σ.next) (hs : τ.heap.Sublist σ.heap) : Inv P cfg C τ w ∧ Ev C σ w C τ w := h.of (h.toInv0.forget hn hs)
theorem Inv.gc {C : Ctx} {σ : St} {w : World} (h : Inv P cfg C σ w) (how n : Nat) : Inv P cfg C (σ.gc how n) w ∧ Ev C σ w C (σ.gc how n) w := by
  unfold St.gc
  split
  · exact ⟨h, .refl _ _ _⟩
  · exact h.forget rfl (hgc1_sub _ _)
  · exact h.forget rfl (hgc_sub _ _)
theorem Inv.del {C : Ctx} {σ : St} {w : World} (h : Inv P cfg C σ w) (i : Nat) : Inv P cfg C (σ.del i) w ∧ Ev C σ w C (σ.del i) w := h.forget rfl (hdel_sub _ _)

def Fresh (C : Ctx) (n m : Nat) : Prop := ∀ i, n ≤ i → i < m → C.κ i = none ∧ ∀ g, C.T i g = none

/-- What an operation or a call leaves. -/
def Done (C : Ctx) (σ : St) (w : World) (v : AV) (τ : St) (u : Value) (w' : World) (P : Program) (cfg : Cfg) : Prop :=
  ∃ D, Ev C σ w D τ w' ∧ Inv P cfg D τ w' ∧ VR D v u

theorem Done.same {C : Ctx} {σ : St} {w : World} {v : AV} {u : Value} (h : Inv P cfg C σ w) (hv : VR C v u) : Done C σ w v σ u w P cfg := ⟨C, .refl _ _ _, h, hv⟩

end Go.AM
