/- A part of the proof of: EmitBecomes: what a term becomes by patterns, and a pattern's name, is what the document says, or the error is told. -/
import Derived.Test.YtkopdkjpmccbmaaGreatDoorM17
namespace Go.AM
open Go.RowKit
variable {P : Program} {cfg : Cfg} {fid : Nat} {cl : CallF} {ops : Array Oper} {l : List AOper} {env env' : Env} {ds ds' : List ADef} {σ τ : St} {v : AV} {co : AOper} {o : Oper} {r : Option Nat} {a : Act}
variable {Q : Exit → Act → World → Prop}

/-- The append is done: its place and its value, the pointer and the row, in whatever order. -/
theorem phase2f {A : Nat} (hsz : ops.size = A + 6) (hb : backOk ops = true)
    (b21 : ((Region.before ops).getD (A + 2) 0).testBit (A + 1) = true) (b43 : ((Region.before ops).getD (A + 4) 0).testBit (A + 3) = true) (b54 : ((Region.before ops).getD (A + 5) 0).testBit (A + 4) = true)
    (AA : Nat → Nat → Act → Prop) (WW : Nat → Nat → World)
    (hB : ∀ (k : Nat) (a' : Act) (K : Act → World → Prop), k ≤ 3 → AA 0 k a' → (∀ a'', AA 1 k a'' → K a'' (WW 1 k)) → wpOpIn (FR r) 0 P ops Q (A + 1) K a' (WW 0 k))
    (hC : ∀ (k : Nat) (a' : Act) (K : Act → World → Prop), k ≤ 3 → AA 1 k a' → (∀ a'', AA 2 k a'' → K a'' (WW 2 k)) → wpOpIn (FR r) 0 P ops Q (A + 2) K a' (WW 1 k))
    (hD : ∀ (c : Nat) (a' : Act) (K : Act → World → Prop), c ≤ 2 → AA c 0 a' → (∀ a'', AA c 1 a'' → K a'' (WW c 1)) → wpOpIn (FR r) 0 P ops Q (A + 3) K a' (WW c 0))
    (hE : ∀ (c : Nat) (a' : Act) (K : Act → World → Prop), c ≤ 2 → AA c 1 a' → (∀ a'', AA c 2 a'' → K a'' (WW c 2)) → wpOpIn (FR r) 0 P ops Q (A + 4) K a' (WW c 1))
    (hF : ∀ (c : Nat) (a' : Act) (K : Act → World → Prop), c ≤ 2 → AA c 2 a' → (∀ a'', AA c 3 a'' → K a'' (WW c 3)) → wpOpIn (FR r) 0 P ops Q (A + 5) K a' (WW c 2))
    (hQ : ∀ a', AA 2 3 a' → Q .normal a' (WW 2 3)) :
    ∀ (fuel : Nat) (listed : Array Bool) (c k : Nat) (a' : Act), c ≤ 2 → k ≤ 3 → listed.size = ops.size → Closed ops (fun j => listed.getD j false) → ((List.range ops.size).filter fun j => !listed.getD j false).length ≤ fuel →
      (∀ j, listed.getD j false = true ↔ j ≤ A ∨ (A + 1 ≤ j ∧ j < A + 1 + c) ∨ (A + 3 ≤ j ∧ j < A + 3 + k)) → AA c k a' → wpAnyIn (FR r) 0 P .any ops Q fuel listed a' (WW c k) := by
  have done : ∀ (listed : Array Bool) (c k : Nat) (a' : Act), c ≤ 2 → k ≤ 3 → (∀ j, j < ops.size → listed.getD j false = true) → (∀ j, listed.getD j false = true ↔ j ≤ A ∨ (A + 1 ≤ j ∧ j < A + 1 + c) ∨ (A + 3 ≤ j ∧ j < A + 3 + k)) → AA c k a' → Q .normal a' (WW c k) := by
    intro listed c k a' hc hk hall hS ha
    have e1 : c = 2 := by have := (hS (A + 2)).1 (hall (A + 2) (by omega)); omega
    have e2 : k = 3 := by have := (hS (A + 5)).1 (hall (A + 5) (by omega)); omega
    subst e1; subst e2; exact hQ a' ha
  intro fuel
  induction fuel with
  | zero =>
    intro listed c k a' hc hk hs hcl hcnt hS ha
    have hall : ∀ j, j < ops.size → listed.getD j false = true := fun j hj => by
      cases h : listed.getD j false with
      | true => rfl
      | false =>
        have : j ∈ (List.range ops.size).filter fun j => !listed.getD j false := by rw [List.mem_filter, List.mem_range]; exact ⟨hj, by rw [h]; rfl⟩
        have := List.length_pos_of_mem this
        omega
    refine ⟨?_, done listed c k a' hc hk hall hS ha⟩
    cases hr : Region.ready .any ops listed with
    | nil => rfl
    | cons j rest =>
      have hj : j ∈ Region.ready .any ops listed := by rw [hr]; simp
      rw [mem_ready] at hj
      obtain ⟨h1, o, ho, _⟩ := hj
      have hjlt : j < ops.size := (Array.getElem?_eq_some_iff.1 ho).1
      have hjl : j < listed.size := by omega
      have := hall j hjlt
      rw [Array.getD_eq_getD_getElem?, Array.getElem?_eq_getElem hjl] at h1 this
      simp at h1 this
      rw [h1] at this; cases this
  | succ fuel ih =>
    intro listed c k a' hc hk hs hcl hcnt hS ha
    refine ⟨fun hr => done listed c k a' hc hk (all_done hb hs hr) hS ha, fun i hi => ?_⟩
    rw [mem_ready] at hi
    obtain ⟨h1, o, ho, h2⟩ := hi
    have hilt : i < ops.size := (Array.getElem?_eq_some_iff.1 ho).1
    have hil : i < listed.size := by omega
    have hSi : listed.getD i false = false := by
      rw [Array.getD_eq_getD_getElem?, Array.getElem?_eq_getElem hil] at h1 ⊢
      simpa using h1
    have hbit : ∀ j, ((Region.before ops).getD i 0).testBit j = true → listed.getD j false = true := fun j hj => hcl.ready hb ho h2 hj
    have hcnt' : ((List.range ops.size).filter fun j => !(listed.setIfInBounds i true).getD j false).length < ((List.range ops.size).filter fun j => !listed.getD j false).length := by
      refine filter_lt (i := i) (fun x hx => ?_) (List.mem_range.2 hilt) (by rw [hSi]; rfl) ?_
      · by_cases e : x = i
        · subst e; rw [hSi]; rfl
        · rw [getD_set_ne false (fun h => e h.symm)] at hx; exact hx
      · rw [Array.getD_eq_getD_getElem?, Array.getElem?_setIfInBounds_self_of_lt hil]; rfl
    have hcl' : Closed ops (fun j => (listed.setIfInBounds i true).getD j false) := by
      intro j oj hj hoj e he hbd
      by_cases ej : j = i
      · subst ej; rw [ho] at hoj; cases hoj
        exact getD_set_true (h2 e he hbd)
      · have hj' : (listed.setIfInBounds i true).getD j false = true := hj
        rw [getD_set_ne false (fun h => ej h.symm)] at hj'
        exact getD_set_true (hcl j oj hj' hoj e he hbd)
    have hset : ∀ j, (listed.setIfInBounds i true).getD j false = true ↔ j = i ∨ listed.getD j false = true := fun j => by
      by_cases e : j = i
      · subst e
        rw [Array.getD_eq_getD_getElem?, Array.getElem?_setIfInBounds_self_of_lt hil]; simp
      · rw [getD_set_ne false (fun h => e h.symm)]; simp [e]
    have hnot : ¬(i ≤ A ∨ (A + 1 ≤ i ∧ i < A + 1 + c) ∨ (A + 3 ≤ i ∧ i < A + 3 + k)) := fun h => by
      have := (hS i).2 h; rw [hSi] at this; cases this
    have next : ∀ (c' k' : Nat) (a'' : Act), c' ≤ 2 → k' ≤ 3 → (∀ j, (j = i ∨ (j ≤ A ∨ (A + 1 ≤ j ∧ j < A + 1 + c) ∨ (A + 3 ≤ j ∧ j < A + 3 + k))) ↔ (j ≤ A ∨ (A + 1 ≤ j ∧ j < A + 1 + c') ∨ (A + 3 ≤ j ∧ j < A + 3 + k'))) → AA c' k' a'' →
        wpAnyIn (FR r) 0 P .any ops Q fuel (listed.setIfInBounds i true) a'' (WW c' k') := fun c' k' a'' h1 h2 he ha' =>
      ih (listed.setIfInBounds i true) c' k' a'' h1 h2 (by simpa using hs) hcl' (by omega) (fun j => by rw [hset, hS, he]) ha'
    have hi' : i = A + 1 ∨ i = A + 2 ∨ i = A + 3 ∨ i = A + 4 ∨ i = A + 5 := by omega
    rcases hi' with rfl | rfl | rfl | rfl | rfl
    · have e : c = 0 := by omega
      subst e
      exact hB k a' _ hk ha fun a'' h => next 1 k a'' (by omega) hk (fun j => by omega) h
    · have := (hS _).1 (hbit _ b21)
      have e : c = 1 := by omega
      subst e
      exact hC k a' _ hk ha fun a'' h => next 2 k a'' (by omega) hk (fun j => by omega) h
    · have e : k = 0 := by omega
      subst e
      exact hD c a' _ hc ha fun a'' h => next c 1 a'' hc (by omega) (fun j => by omega) h
    · have := (hS _).1 (hbit _ b43)
      have e : k = 1 := by omega
      subst e
      exact hE c a' _ hc ha fun a'' h => next c 2 a'' hc (by omega) (fun j => by omega) h
    · have := (hS _).1 (hbit _ b54)
      have e : k = 2 := by omega
      subst e
      exact hF c a' _ hc ha fun a'' h => next c 3 a'' hc (by omega) (fun j => by omega) h

/-- What the check says. -/
structure ApfFacts (P : Program) (X : List Nat) (ops : Array Oper) (l : List AOper) (x : Apf) (oA oB oC oD oE oF : Oper) : Prop where
  size : ops.size = x.A + 6
  A2 : 2 ≤ x.A
  hA : ops[x.A]? = some oA
  hB : ops[x.A + 1]? = some oB
  hC : ops[x.A + 2]? = some oC
  hD : ops[x.A + 3]? = some oD
  hE : ops[x.A + 4]? = some oE
  hF : ops[x.A + 5]? = some oF
  aA : appArgs? oA.op = some (x.s, x.z, x.t, x.u)
  dA : oA.dst = some x.s'
  gA : oA.guard = none
  aB : idxArgs? oB.op = some (x.t5, x.s', x.k)
  dB : oB.dst = some x.ad
  gB : oB.guard = none
  aC : storeArgs? oC.op = some (x.t6, x.ad, x.q)
  dC : oC.dst = none
  gC : oC.guard = none
  aD : nilArgs? oD.op = some x.p0
  dD : oD.dst = some x.n1
  gD : oD.guard = none
  aE : fldArgs? oE.op = some (x.tf, x.n1, x.fi)
  dE : oE.dst = some x.p
  gE : oE.guard = none
  aF : storeArgs? oF.op = some (x.t7, x.p, x.s')
  dF : oF.dst = none
  gF : oF.guard = none
  e : elemT P x.t = some x.e
  e' : elemT P x.u = some x.e'
  e5 : elemT P x.t5 = some x.e5
  n : sizeT P x.e = some x.n
  bytes : bytesT P x.e = some x.bytes
  n5 : sizeT P x.e5 = some x.n
  n6 : sizeT P x.t6 = some x.n
  n7 : sizeT P x.t7 = some 1
  n0 : x.n ≠ 0
  zero : (zeroT P x.e).map ncells = some x.n
  c23 : ∃ (c2 c3 : AOper) (zc : AV), l[x.A - 2]? = some c2 ∧ l[x.A - 1]? = some c3 ∧ len1? c2 = some (x.k, x.s) ∧ bs1? c3 = some (x.z, x.n, zc) ∧ zcOk zc = true
  lD : l[x.A + 3]? = some ⟨some x.n1, none, .nilCheck (.t x.p0)⟩
  lE : l[x.A + 4]? = some ⟨some x.p, none, .fieldAddr x.off (.t x.n1)⟩
  fld : ∃ fz, fldT P x.tf x.fi = some (x.off, fz) ∧ fz ≠ 0
  quiet : ∀ i, i < x.A → ∃ co, l[i]? = some co ∧ quietA co = true ∧ x.s' ∉ namesA co ∧ x.ad ∉ namesA co ∧ x.n1 ∉ namesA co ∧ x.p ∉ namesA co ∧ ((Region.before ops).getD x.A 0).testBit i = true
  b10 : ((Region.before ops).getD (x.A + 1) 0).testBit x.A = true
  b21 : ((Region.before ops).getD (x.A + 2) 0).testBit (x.A + 1) = true
  b30 : ((Region.before ops).getD (x.A + 3) 0).testBit x.A = true
  b43 : ((Region.before ops).getD (x.A + 4) 0).testBit (x.A + 3) = true
  b54 : ((Region.before ops).getD (x.A + 5) 0).testBit (x.A + 4) = true
  adX : x.ad ∉ X
  ne : x.ad ≠ x.s' ∧ x.ad ≠ x.p ∧ x.ad ≠ x.n1 ∧ x.s' ≠ x.p ∧ x.s' ≠ x.n1 ∧ x.n1 ≠ x.p
  ap : ∀ u, u = x.s' ∨ u = x.ad ∨ u = x.n1 ∨ u = x.p → u ≠ x.k ∧ u ≠ x.q ∧ u ≠ x.p0 ∧ u ≠ x.s
  ne2 : x.k ≠ x.s ∧ x.z ≠ x.s ∧ x.z ≠ x.k
  temps : tempsOk (Region.before ops) l = true
  back : backOk ops = true

theorem nil1_some {d x : Nat} (h : nil1? co = some (d, x)) : co = ⟨some d, none, .nilCheck (.t x)⟩ := by
  obtain ⟨d', g, p⟩ := co
  unfold nil1? at h
  cases d' with
  | none => cases h
  | some d' =>
    cases g with
    | some g => cases h
    | none =>
      cases p <;> first | (cases h; done) | skip
      rename_i y; cases y <;> first | (cases h; done) | skip
      cases h; rfl
theorem fld1_some {d k x : Nat} (h : fld1? co = some (d, k, x)) : co = ⟨some d, none, .fieldAddr k (.t x)⟩ := by
  obtain ⟨d', g, p⟩ := co
  unfold fld1? at h
  cases d' with
  | none => cases h
  | some d' =>
    cases g with
    | some g => cases h
    | none =>
      cases p <;> first | (cases h; done) | skip
      rename_i k' y; cases y <;> first | (cases h; done) | skip
      cases h; rfl
theorem nilArgs_some {q : Op} {x : Nat} (h : nilArgs? q = some x) : q = .nilCheck (.tmp x) := by
  unfold nilArgs? at h
  split at h
  · cases h; rfl
  · cases h
theorem fldArgs_some {q : Op} {t : TypeId} {x i : Nat} (h : fldArgs? q = some (t, x, i)) : q = .fieldAddr t (.tmp x) i := by
  unfold fldArgs? at h
  split at h
  · cases h; rfl
  · cases h
theorem fldT_some {t : TypeId} {i off fz : Nat} (h : fldT P t i = some (off, fz)) : ∃ fs f, P.underlying t = some (.struct fs) ∧ fs[i]? = some f ∧ f.offset = off ∧ sizeT P f.type = some fz := by
  unfold fldT at h
  split at h
  · rename_i fs hu
    split at h
    · rename_i f hf
      obtain ⟨n, hn, he⟩ := Option.map_eq_some_iff.1 h
      cases he; exact ⟨fs, f, hu, hf, rfl, hn⟩
    · cases h
  · cases h
theorem apf_facts {X : List Nat} {x : Apf} (h : apfOk P X ops l x = true) : ∃ oA oB oC oD oE oF, ApfFacts P X ops l x oA oB oC oD oE oF := by
  unfold apfOk at h
  simp only [Bool.and_eq_true] at h
  obtain ⟨⟨⟨⟨⟨⟨⟨⟨⟨⟨⟨⟨⟨⟨h1, h1'⟩, h2⟩, h3⟩, h4⟩, h5⟩, h6⟩, h7⟩, h8⟩, h9⟩, h10⟩, h11⟩, h12⟩, h13⟩, h14⟩ := h
  split at h2
  · rename_i oA oB oC oD oE oF qA qB qC qD qE qF
    simp only [Bool.and_eq_true, decide_eq_true_eq, Option.isNone_iff_eq_none] at h2 h3 h4 h5
    obtain ⟨⟨⟨⟨⟨⟨⟨a1, a2⟩, a3⟩, ⟨b1, b2⟩, b3⟩, ⟨c1, c2⟩, c3⟩, ⟨d1, d2⟩, d3⟩, ⟨e1, e2⟩, e3⟩, ⟨f1, f2⟩, f3⟩ := h2
    split at h6
    · rename_i k s z n zc q2 q3
      simp only [Bool.and_eq_true, decide_eq_true_eq] at h6
      obtain ⟨⟨⟨⟨rfl, rfl⟩, rfl⟩, rfl⟩, hzc⟩ := h6
      simp only [Option.bind_eq_some_iff] at q2 q3
      obtain ⟨c2', q2, q2'⟩ := q2
      obtain ⟨c3', q3, q3'⟩ := q3
      split at h7
      · rename_i d y d' kk y' off fz r1 r2 r3
        simp only [Bool.and_eq_true, decide_eq_true_eq] at h7
        obtain ⟨⟨⟨⟨⟨⟨rfl, rfl⟩, rfl⟩, rfl⟩, rfl⟩, rfl⟩, hfz⟩ := h7
        simp only [Option.bind_eq_some_iff] at r1 r2
        obtain ⟨g1, r1, r1'⟩ := r1
        obtain ⟨g2, r2, r2'⟩ := r2
        simp only [bne_iff_ne, ne_eq] at h10 h12
        obtain ⟨⟨⟨⟨⟨⟨n0, n1⟩, n2⟩, n3⟩, n4⟩, n5⟩, n6⟩ := h10
        obtain ⟨⟨⟨⟨bb1, bb2⟩, bb3⟩, bb4⟩, bb5⟩ := h9
        refine ⟨oA, oB, oC, oD, oE, oF, of_decide_eq_true h1, of_decide_eq_true h1', qA, qB, qC, qD, qE, qF, a1, a2, a3, b1, b2, b3, c1, c2, c3, d1, d2, d3, e1, e2, e3, f1, f2, f3, h3.1.1, h3.1.2, h3.2, h4.1.1.1.1, h4.1.1.1.2, h4.1.1.2, h4.1.2, h4.2, h5.1, h5.2,
          ⟨c2', c3', zc, q2, q3, q2', q3', hzc⟩, by rw [r1, nil1_some r1'], by rw [r2, fld1_some r2'], ⟨fz, r3, hfz⟩, fun i hi => ?_, bb1, bb2, bb3, bb4, bb5, by simpa using n0, ⟨n1, n2, n3, n4, n5, n6⟩, fun u hu => ?_, ⟨h12.1.1, h12.1.2, h12.2⟩, h13, h14⟩
        · rw [List.all_eq_true] at h8
          have := h8 i (List.mem_range.2 hi)
          split at this
          · rename_i co hco
            simp only [Bool.and_eq_true, List.all_cons, List.all_nil, Bool.and_true, Bool.not_eq_true', List.contains_eq_mem, decide_eq_false_iff_not] at this
            exact ⟨co, hco, this.1.1, this.1.2.1, this.1.2.2.1, this.1.2.2.2.1, this.1.2.2.2.2, this.2⟩
          · cases this
        · simp only [List.all_cons, List.all_nil, Bool.and_true, Bool.and_eq_true, bne_iff_ne, ne_eq] at h11
          obtain ⟨k1, k2, k3, k4⟩ := h11
          rcases hu with rfl | rfl | rfl | rfl
          · exact ⟨k1.1.1.1, k1.1.1.2, k1.1.2, k1.2⟩
          · exact ⟨k2.1.1.1, k2.1.1.2, k2.1.2, k2.2⟩
          · exact ⟨k3.1.1.1, k3.1.1.2, k3.1.2, k3.2⟩
          · exact ⟨k4.1.1.1, k4.1.1.2, k4.1.2, k4.2⟩
      · cases h7
    · cases h6
  · cases h2
end Go.AM
