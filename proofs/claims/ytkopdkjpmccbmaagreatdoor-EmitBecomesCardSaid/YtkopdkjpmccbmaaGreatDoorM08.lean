/- A part of the proof of: EmitBecomes: what a term becomes by patterns, and a pattern's name, is what the document says, or the error is told. -/
import Derived.Test.YtkopdkjpmccbmaaGreatDoorM07
namespace Go.AM
open Go.RowKit
variable {P : Program} {cfg : Cfg} {C : Ctx} {σ τ : St} {w : World} {env : Env} {a : Act} {o : Oper} {v : AV}

/-- What growing elsewhere runs to. -/
theorem app_run {t u e e' : TypeId} {i : TypeInfo} {z : Value} (hA : AppAt P t u e e' i z) {es xs : List AV} {us ux : Value} {ad ad' : Option Addr} {cap cap' : Nat} {vs vs' : List Value}
    (h1 : RowAt C w es i.size us ad cap vs) (h2 : RowAt C w xs i.size ux ad' cap' vs') (hgrow : cap < es.length + xs.length) (hb : es.length + xs.length ≤ 4294967296) (hby : i.bytes ≤ 256) :
    ∃ (cs : Array Value) (newCap : Nat), (∀ ty, (Builtin.append_ #[t, u] ty #[us, ux]).run P w = .ok (.slice (some ⟨w.heap.size, 0, none⟩) (es.length + xs.length) newCap) (w.drew.alloc (.cells cs e))) ∧
      es.length + xs.length ≤ newCap ∧ cs.size = newCap * i.size ∧ ElR C (es ++ xs) i.size cs ∧ ElR C (es ++ xs.map stripCell) i.size cs := by
  have r1 := h1.first (P := P) (w' := w.drew) (fun _ _ => rfl)
  have r2 := h2.first (P := P) (w' := w.drew) (fun _ _ => rfl)
  rw [h1.val] at r1; rw [h2.val] at r2
  have hge : es.length + xs.length ≤ grownCap w (es.length + xs.length) cap e := grownCap_ge w _ _ _
  have hlv := h1.len
  have hlv' := h2.len
  refine ⟨_, _, fun ty => by rw [h1.val, h2.val, run_append_new hA.ht hA.hu hA.hi hA.hz hgrow r1 r2 hb hby], hge, ?_, h1.rel.append hlv h2.rel hlv' _, h1.rel.append hlv h2.rel.stripCells (by simpa using hlv') _⟩
  simp only [Array.size_append, List.size_toArray, zeroCells_size, hA.hzs, hlv, hlv', ← Nat.add_mul]
  congr 1; omega

theorem live_done (hI : Inv P cfg C σ w) {ys : List AV} {sz need newCap : Nat} {cs : Array Value} (hp : 0 < sz) (hlen : ys.length = need) (hge : need ≤ newCap) (hsz : cs.size = newCap * sz) (hR : ElR C ys sz cs) (e : TypeId)
    {id g : Nat} (htok : σ.get id = some (.tok g sz)) :
    Done C σ w (.slice ys (.live id (g + 1))) (σ.set id (.tok (g + 1) sz)) (.slice (some ⟨w.heap.size, 0, none⟩) need newCap) (w.drew.alloc (.cells cs e)) P cfg := by
  obtain ⟨b, e0, lim, cs0, el, t1, t2, t3, t4, t5, t6⟩ := hI.obj _ _ htok
  have hno : ∀ x, C.S w.heap.size x = none := fun x => sealed_new hI (Nat.le_refl _)
  let D := C.ext w.heap.size (firstN cs (need * sz)) id (g + 1) (w.heap.size, need * sz, newCap * sz, sz)
  have hle : C.Le D := Ctx.ext_le (fun x u _ => hno x) (t6 _ (Nat.lt_succ_self _))
  have hmul : need * sz ≤ newCap * sz := Nat.mul_le_mul_right _ hge
  obtain ⟨k1, k2⟩ := hI.step (D := D) (τ := σ.set id (.tok (g + 1) sz)) (w' := w.drew.alloc (.cells cs e)) (n := id) (b := b) (bn := w.heap.size) (x := .tok (g + 1) sz) hle htok
    (by simp [objB, t1]) (.inl rfl) (.inr (Nat.le_refl _)) (by show (D.T id (g + 1)).map (·.1) = _; rw [Ctx.ext_T]; rfl)
    (fun j oj hj => by
      rw [get_set] at hj
      split at hj
      · rename_i e; subst e; rw [htok] at hj; cases hj; exact .inl ⟨rfl, rfl⟩
      · rename_i e; exact .inr ⟨fun e' => e e'.symm, fun e' => e e'.symm, hj⟩)
    (hI.falls.hset _ _) (Nat.le_refl _) (hI.next _ _ htok) (fun _ _ => rfl) (fun h => absurd rfl h) (fun i' g hi => Ctx.ext_T' (fun h => hi h.1))
    (fun b' x u _ hb' h => by
      rcases Ctx.ext_back h with ⟨e, _⟩ | h
      · omega
      · exact h) (by show w.heap.size ≤ (w.heap.push _).size; simp) rfl rfl rfl (fun b' _ hb' => Below.heap_alloc w _ b' hb')
    (fun b' x u hb' h => by
      rcases Ctx.ext_back h with ⟨e1, h'⟩ | h'
      · have hx := (firstN_some h').2
        subst e1
        have : (w.drew.alloc (.cells cs e)).heap[w.heap.size]? = some (.cells cs e (0, 0)) := heap_new w.drew _
        simp only [World.cell?, this]; simpa using hx
      · have hlt := sealed_lt hI h'
        rw [← hI.lies _ _ _ h']
        exact World.cell?_of_block (Below.heap_alloc w _ b' hlt))
    ⟨w.heap.size, _, _, cs, e, Ctx.ext_T, heap_new w.drew _, hmul, by rw [hsz]; exact Nat.le_refl _, ⟨fun x hx _ => by
      cases hs : D.S w.heap.size x with
      | none => rfl
      | some u =>
        rcases Ctx.ext_back hs with ⟨_, h⟩ | h
        · have := (firstN_some h).1; omega
        · rw [hno] at h; exact absurd h (by simp), fun h hh => by
      show D.T _ _ = none
      rw [Ctx.ext_T' (fun e => by have := e.2; omega)]; exact t6 h (by omega)⟩⟩
  refine ⟨D, k2, k1, ?_⟩
  exact grown_VR (hR.mono hle) hp hlen hge (fun x hx u hu => Ctx.ext_S (firstN_of hx hu)) Ctx.ext_T

def between (vs : List Value) (e0 x : Nat) : Option Value := if e0 ≤ x then vs[x - e0]? else none
theorem between_some {vs : List Value} {e0 x : Nat} {u : Value} (h : between vs e0 x = some u) : e0 ≤ x ∧ x < e0 + vs.length ∧ vs[x - e0]? = some u := by
  unfold between at h
  split at h
  · have := (List.getElem?_eq_some_iff.1 h).1; exact ⟨by assumption, by omega, h⟩
  · cases h
theorem between_of {vs : List Value} {e0 k : Nat} {u : Value} (h : vs[k]? = some u) : between vs e0 (e0 + k) = some u := by
  unfold between; rw [if_pos (by omega), show e0 + k - e0 = k by omega, h]

/-- Cells laid over from a place on. -/
theorem laid_over {cs : Array Value} {vs : List Value} {e0 : Nat} (h : e0 + vs.length ≤ cs.size) :
    (cs.toList.take e0 ++ vs ++ cs.toList.drop (e0 + vs.length)).toArray.size = cs.size ∧
    (∀ x, x < e0 ∨ e0 + vs.length ≤ x → (cs.toList.take e0 ++ vs ++ cs.toList.drop (e0 + vs.length)).toArray[x]? = cs[x]?) ∧
    ∀ k, k < vs.length → (cs.toList.take e0 ++ vs ++ cs.toList.drop (e0 + vs.length)).toArray[e0 + k]? = vs[k]? := by
  refine ⟨by simp; omega, fun x hx => ?_, fun k hk => ?_⟩
  · rw [List.getElem?_toArray]
    rcases hx with hx | hx
    · rw [List.append_assoc, List.getElem?_append_left (by simp; omega), List.getElem?_take_of_lt hx]; simp
    · rw [List.getElem?_append_right (by simp; omega), List.getElem?_drop]
      simp only [List.length_append, List.length_take, Array.length_toList, Array.getElem?_toList]
      congr 1; omega
  · rw [List.getElem?_toArray, List.append_assoc, List.getElem?_append_right (by simp; omega), List.getElem?_append_left (by simp; omega)]
    congr 1; simp; omega

theorem in_done (hI : Inv P cfg C σ w) {es ys : List AV} {sz b off cap : Nat} {vs' : List Value} {u0 : Nat → Nat → Value} (hp : 0 < sz)
    (hel : ∀ (j : Nat) (e : AV), es[j]? = some e → e.cells.length = sz)
    (hS : ∀ (k : Nat) (e : AV) (j : Nat) (c : AV), es[k]? = some e → e.cells[j]? = some c → C.S b (off + k * sz + j) = some (u0 k j))
    (hV : ∀ (k : Nat) (e : AV) (j : Nat) (c : AV), es[k]? = some e → e.cells[j]? = some c → VR C c (u0 k j))
    (hR : ElR C ys sz vs'.toArray) (hlv : vs'.length = ys.length * sz) (hroom : es.length + ys.length ≤ cap) {id g : Nat} (htok : σ.get id = some (.tok g sz)) (hT : C.T id g = some (b, off + es.length * sz, off + cap * sz, sz))
    {cs : Array Value} {el : TypeId} (t2 : w.heap[b]? = some (.cells cs el (0, 0))) :
    off + es.length * sz + vs'.length ≤ cs.size ∧
    Done C σ w (.slice (es ++ ys) (.live id (g + 1))) (σ.set id (.tok (g + 1) sz)) (.slice (some ⟨b, off, none⟩) (es.length + ys.length) cap)
      (w.setRow b (cs.toList.take (off + es.length * sz) ++ vs' ++ cs.toList.drop (off + es.length * sz + vs'.length)).toArray) P cfg := by
  obtain ⟨b', e0, lim, cs1, el1, t1, t2', t3, t4, t5, t6⟩ := hI.obj _ _ htok
  rw [hT] at t1; cases t1
  rw [t2] at t2'; cases t2'
  have hmul : es.length * sz + ys.length * sz ≤ cap * sz := by rw [← Nat.add_mul]; exact Nat.mul_le_mul_right _ hroom
  have hfit : off + es.length * sz + vs'.length ≤ cs.size := by omega
  refine ⟨hfit, ?_⟩
  obtain ⟨l1, l2, l3⟩ := laid_over hfit
  generalize hcs' : (cs.toList.take (off + es.length * sz) ++ vs' ++ cs.toList.drop (off + es.length * sz + vs'.length)).toArray = cs' at l1 l2 l3 ⊢
  let D := C.ext b (between vs' (off + es.length * sz)) id (g + 1) (b, off + (es.length + ys.length) * sz, off + cap * sz, sz)
  have hadd : (es.length + ys.length) * sz = es.length * sz + ys.length * sz := Nat.add_mul _ _ _
  have hle : C.Le D := Ctx.ext_le (fun x u hx => by
    obtain ⟨q1, q2, _⟩ := between_some hx
    exact t5 x q1 (by omega)) (t6 _ (Nat.lt_succ_self _))
  obtain ⟨k1, k2⟩ := hI.change (D := D) (w' := w.setRow b cs') (o' := .tok (g + 1) sz) (b := b) hle htok (by simp [objB, hT]) (by show (D.T id (g + 1)).map (·.1) = _; rw [Ctx.ext_T]; rfl)
    (fun _ => rfl) (fun i' g hi => Ctx.ext_T' (fun h => hi h.1)) (fun b' x u hb' h => by
      rcases Ctx.ext_back h with ⟨e, _⟩ | h
      · exact absurd e hb'
      · exact h) (by simp) rfl rfl rfl (fun b' hb' => setRow_other w b b' cs' hb') (fun x u h => by
      rw [cell_setRow_same w b x cs cs' el _ t2]
      rcases Ctx.ext_back h with ⟨_, h'⟩ | h'
      · obtain ⟨q1, q2, q3⟩ := between_some h'
        have := l3 (x - (off + es.length * sz)) (by omega)
        rw [show off + es.length * sz + (x - (off + es.length * sz)) = x by omega] at this
        rw [this]; exact q3
      · have hl := hI.lies _ _ _ h'
        have hx : cs[x]? = some u := by simpa [World.cell?, t2] using hl
        rw [l2 x]
        · exact hx
        · by_cases q : x < off + es.length * sz
          · exact .inl q
          · right
            rcases Nat.lt_or_ge x (off + cap * sz) with q' | q'
            · rw [t5 x (by omega) q'] at h'; exact absurd h' (by simp)
            · omega)
    ⟨b, _, _, cs', el, Ctx.ext_T, setRow_heap w b cs cs' el _ t2, by omega, by omega, ⟨fun x hx hx' => by
      cases hs : D.S b x with
      | none => rfl
      | some u =>
        rcases Ctx.ext_back hs with ⟨_, h⟩ | h
        · have := (between_some h).2.1; omega
        · rw [t5 x (by omega) hx'] at h; exact absurd h (by simp), fun h hh => by
      show D.T _ _ = none
      rw [Ctx.ext_T' (fun e => by have := e.2; omega)]; exact t6 h (by omega)⟩⟩
  refine ⟨D, k2, k1, ?_⟩
  have hlen : (es ++ ys).length = es.length + ys.length := by simp
  have each : ∀ (k : Nat) (e : AV) (j : Nat) (c : AV), (es ++ ys)[k]? = some e → e.cells[j]? = some c → ∃ uu, D.S b (off + k * sz + j) = some uu ∧ VR D c uu := by
    intro k e j c he hc
    by_cases hk : k < es.length
    · rw [List.getElem?_append_left hk] at he
      exact ⟨_, hle.S _ _ _ (hS k e j c he hc), (hV k e j c he hc).mono hle⟩
    · rw [List.getElem?_append_right (by omega)] at he
      obtain ⟨uu, hu, hr⟩ := (hR.2 _ e he).2 j c hc
      refine ⟨uu, ?_, hr.mono hle⟩
      have hmul2 : (k - es.length) * sz + es.length * sz = k * sz := by rw [← Nat.add_mul]; congr 1; omega
      rw [show off + k * sz + j = off + es.length * sz + ((k - es.length) * sz + j) by omega]
      exact Ctx.ext_S (between_of (by rw [← List.getElem?_toArray]; exact hu))
  rw [← hlen]
  refine .slice _ _ _ b off cap sz (fun k j => (D.S b (off + k * sz + j)).getD undef) hp (by rw [hlen]; exact hroom) (fun _ => rfl) (fun k e he => ?_) (fun k e j c he hc => ?_) (fun k e j c he hc => ?_) ⟨rfl, by rw [hlen]; exact Ctx.ext_T⟩
  · by_cases hk : k < es.length
    · rw [List.getElem?_append_left hk] at he; exact hel k e he
    · rw [List.getElem?_append_right (by omega)] at he; exact (hR.2 _ e he).1
  · obtain ⟨uu, h1, h2⟩ := each k e j c he hc
    rw [h1]; rfl
  · obtain ⟨uu, h1, h2⟩ := each k e j c he hc
    rw [h1]; exact h2

end Go.AM
namespace Go.AM
open Go.RowKit
variable {P : Program} {cfg : Cfg} {C : Ctx} {σ τ : St} {w : World} {env : Env} {a : Act} {o : Oper} {v : AV}

theorem flat_rel {es : List AV} {sz : Nat} {cs : Array Value} (h : ElR C es sz cs) (hsz : 0 < sz) : (es.flatMap AV.cells).length = es.length * sz ∧ ∀ (k : Nat) (c : AV), (es.flatMap AV.cells)[k]? = some c → ∃ u, cs[k]? = some u ∧ VR C c u := by
  obtain ⟨h1, h2⟩ := flat_get (es := es) (sz := sz) (fun e he => by obtain ⟨i, hi, rfl⟩ := List.mem_iff_getElem.1 he; exact (h.2 i _ (List.getElem?_eq_getElem hi)).1)
  refine ⟨h1, fun k c hc => ?_⟩
  have hk : k < es.length * sz := by rw [← h1]; exact (List.getElem?_eq_some_iff.1 hc).1
  have hm : k % sz < sz := Nat.mod_lt _ hsz
  have hd : k / sz < es.length := Nat.div_lt_of_lt_mul (by rw [Nat.mul_comm]; exact hk)
  have hk' : k / sz * sz + k % sz = k := by rw [Nat.mul_comm]; exact Nat.div_add_mod k sz
  have he := List.getElem?_eq_getElem hd
  have := h2 _ _ _ he hm
  rw [hk'] at this
  rw [this] at hc
  obtain ⟨u, hu, hr⟩ := (h.2 _ _ he).2 _ _ hc
  rw [hk'] at hu
  exact ⟨u, hu, hr⟩

/-- A new row of cells, of which not all are spoken of. -/
theorem new_part (hI : Inv P cfg C σ w) (hf : Fresh C σ.next (σ.next + 1)) {l : List AV} {cs : Array Value} (hl : l.length ≤ cs.size) (hv : ∀ (j : Nat) (c : AV), l[j]? = some c → ∃ u, cs[j]? = some u ∧ VR C c u) (e : TypeId) :
    Inv P cfg (C.at_ σ.next (.cells w.heap.size 0 cs.size)) (σ.add (.cells l)) (w.alloc (.cells cs e)) ∧
    Ev C σ w (C.at_ σ.next (.cells w.heap.size 0 cs.size)) (σ.add (.cells l)) (w.alloc (.cells cs e)) := by
  refine new_obj hI hf ⟨w.heap.size, 0, cs.size, cs, e, Ctx.at_self _ _ _, heap_new _ _, by omega, Nat.le_refl _, fun j c hc => ?_, fun x => sealed_new hI (Nat.le_refl _)⟩ (by simp [objB])
  obtain ⟨u, hu, hr⟩ := hv j c hc
  exact ⟨u, by rw [Nat.zero_add]; exact hu, hr.mono (Ctx.at_le (fresh_one hf).1 _)⟩

theorem app_hs {t u e e' : TypeId} {i : TypeInfo} {z : Value} (hA : AppAt P t u e e' i z) (hI : Inv P cfg C σ w) {es xs : List AV} {us ux : Value} {ad ad' : Option Addr} {cap cap' : Nat} {vs vs' : List Value}
    (h1 : RowAt C w es i.size us ad cap vs) (h2 : RowAt C w xs i.size ux ad' cap' vs') (hgrow : cap < es.length + xs.length) (hb : es.length + xs.length ≤ 4294967296) (hby : i.bytes ≤ 256)
    (hf : Fresh C σ.next (σ.next + 1)) :
    ∃ u' w', (∀ ty, (Builtin.append_ #[t, u] ty #[us, ux]).run P w = .ok u' w') ∧ Done C σ w (.hsl σ.next 0 (es.length + xs.length) i.size) (σ.add (.cells ((es ++ xs).flatMap AV.cells))) u' w' P cfg := by
  obtain ⟨cs, newCap, hrun, hge, hsz, hR, _⟩ := app_run hA h1 h2 hgrow hb hby
  refine ⟨_, _, hrun, ?_⟩
  obtain ⟨f1, f2⟩ := flat_rel hR hA.hp
  have hle : ((es ++ xs).flatMap AV.cells).length ≤ cs.size := by rw [f1, hsz, List.length_append]; exact Nat.mul_le_mul_right _ hge
  obtain ⟨k1, k2⟩ := new_part (hI.drew (w.drawn + 1)) hf hle f2 e
  refine ⟨_, (Ev.drew C σ w _).trans k2, k1, ?_⟩
  exact VR.hsl σ.next 0 _ i.size w.heap.size 0 cs.size newCap (Ctx.at_self _ _ _) hA.hp hge (by rw [hsz]; omega)

/-- A row that may be written into, to which is appended. -/
theorem app_hsl {t u e e' : TypeId} {i : TypeInfo} {z : Value} (hA : AppAt P t u e e' i z) (hI : Inv P cfg C σ w) {xs : List AV} {ux : Value} {ad' : Option Addr} {cap' : Nat} {vs' : List Value}
    (h2 : RowAt C w xs i.size ux ad' cap' vs') (hone : ∀ x ∈ vs', x.oneCell' = true)
    {ob off len : Nat} {b st lim cap : Nat} (hκ : C.κ ob = some (.cells b st lim)) (hlim : st + off + cap * i.size = lim) {l cs : List AV} (hg : σ.get ob = some (.cells l)) (hs : slc l off (len * i.size) = some cs)
    (hb : len + xs.length ≤ 4294967296) (hby : i.bytes ≤ 256) (hf : Fresh C σ.next (σ.next + 1)) :
    ∃ u' w', (∀ ty, (Builtin.append_ #[t, u] ty #[.slice (some ⟨b, st + off, none⟩) len cap, ux]).run P w = .ok u' w') ∧ Done C σ w (.hsl σ.next 0 (len + xs.length) i.size) ((σ.del ob).add (.cells (cs ++ xs.flatMap AV.cells))) u' w' P cfg := by
  have r2 := h2.first (P := P) (w' := w) (fun _ _ => rfl)
  rw [h2.val] at r2
  have hlv := h2.len
  obtain ⟨s1, s2, s3⟩ := slc_some hs
  obtain ⟨b', st', lim', cs0, el, g1, g2, g3, g4, g5, g6⟩ := hI.obj _ _ hg
  rw [hκ] at g1; cases g1
  obtain ⟨f1, f2⟩ := flat_rel h2.rel hA.hp
  have hadd : (len + xs.length) * i.size = len * i.size + xs.length * i.size := Nat.add_mul _ _ _
  have hne : ob ≠ σ.next := fun e => by have := hI.next _ _ hg; omega
  have hget : ∀ (x : AObj) j oj, ((σ.del ob).add x).get j = some oj → (j = σ.next ∧ oj = x) ∨ (j ≠ σ.next ∧ j ≠ ob ∧ σ.get j = some oj) := fun x j oj hj => by
    rw [get_add] at hj
    split at hj
    · rename_i e; cases hj; exact .inl ⟨e.symm, rfl⟩
    · rename_i e
      have hj' : hget (hdel σ.heap ob) j = some oj := hj
      rw [hget_hdel hI.falls] at hj'
      split at hj'
      · cases hj'
      · rename_i e'; exact .inr ⟨fun h => e h.symm, fun h => e' h.symm, hj'⟩
  have hfalls : ∀ x, Falls ((σ.del ob).add x).heap := fun x => by
    refine List.pairwise_cons.2 ⟨fun q hq => ?_, hI.falls.sub (hdel_sub _ _)⟩
    exact hI.next q.1 q.2 (hget_of_mem hI.falls ((hdel_sub _ _).subset hq))
  obtain ⟨fr1, fr2⟩ := fresh_one hf
  by_cases hroom : len + xs.length ≤ cap
  · have hmul : (len + xs.length) * i.size ≤ cap * i.size := Nat.mul_le_mul_right _ hroom
    have hfit : st + off + len * i.size + vs'.length ≤ cs0.size := by omega
    have hst := run_storeCells_at P b (st + off + len * i.size) el vs' 0 cs0 w g2 (by simpa using hfit) hone
    simp only [Nat.add_zero] at hst
    obtain ⟨l1, l2, l3⟩ := laid_over hfit
    generalize hcs' : (cs0.toList.take (st + off + len * i.size) ++ vs' ++ cs0.toList.drop (st + off + len * i.size + vs'.length)).toArray = cs' at hst l1 l2 l3
    refine ⟨_, _, fun ty => by rw [h2.val]; exact run_append_in hA.ht hA.hu hA.hi hroom r2 (by simp only [add_at]; exact hst), ?_⟩
    let D := C.at_ σ.next (.cells b (st + off) lim)
    have hle : C.Le D := Ctx.at_le fr1 _
    obtain ⟨k1, k2⟩ := hI.step (D := D) (τ := (σ.del ob).add (.cells (cs ++ xs.flatMap AV.cells))) (w' := w.setRow b cs') (n := σ.next) (b := b) (bn := b) (x := .cells (cs ++ xs.flatMap AV.cells)) hle hg
      (by simp [objB, hκ]) (.inr rfl) (.inl rfl) (by simp [objB, D]) (hget _) (hfalls _) (by simp [St.add, St.del]) (by simp [St.add, St.del])
      (fun j hj => Ctx.at_other C _ hj) (fun _ => rfl) (fun _ _ _ => rfl) (fun _ _ _ _ _ h => h) (by simp) rfl rfl rfl (fun b' hb' _ => setRow_other w b b' cs' hb')
      (fun b' x u hb' h => by
        have h' : C.S b' x = some u := h
        have hlt := sealed_lt hI h'
        have hne' : b' ≠ b := fun e => by subst e; rw [g6 x] at h'; cases h'
        rw [← hI.lies _ _ _ h']
        exact World.cell?_of_block (setRow_other w b b' cs' hne'))
      ⟨b, st + off, lim, cs', el, Ctx.at_self _ _ _, setRow_heap w b cs0 cs' el _ g2, by rw [List.length_append, s2, f1]; omega, by omega, fun j c hj => by
        by_cases hjl : j < len * i.size
        · rw [List.getElem?_append_left (by omega), s3 j hjl] at hj
          obtain ⟨u, hu, hr⟩ := g5 (off + j) c hj
          refine ⟨u, ?_, hr.mono hle⟩
          rw [show st + off + j = st + (off + j) by omega, l2 _ (.inl (by omega))]; exact hu
        · rw [List.getElem?_append_right (by omega), s2] at hj
          have hjx : j - len * i.size < vs'.length := by have := (List.getElem?_eq_some_iff.1 hj).1; rw [f1] at this; omega
          obtain ⟨u, hu, hr⟩ := f2 _ c hj
          refine ⟨u, ?_, hr.mono hle⟩
          have := l3 _ hjx
          rw [show st + off + len * i.size + (j - len * i.size) = st + off + j by omega] at this
          rw [this, ← List.getElem?_toArray]; exact hu, fun x => g6 x⟩
    refine ⟨D, k2, k1, ?_⟩
    exact VR.hsl (C := D) σ.next 0 _ i.size b (st + off) lim cap (Ctx.at_self _ _ _) hA.hp hroom (by omega)
  · have hcell : ∀ (j : Nat) (c : AV), cs[j]? = some c → ∃ u, w.cell? ⟨b, st + off + j, none⟩ = some u ∧ VR C c u := fun j c hj => by
      have hjl : j < len * i.size := by have := (List.getElem?_eq_some_iff.1 hj).1; omega
      rw [s3 j hjl] at hj
      obtain ⟨u, hu, hr⟩ := g5 (off + j) c hj
      refine ⟨u, ?_, hr⟩
      simp only [World.cell?, g2]
      rw [show st + off + j = st + (off + j) by omega]; simpa using hu
    obtain ⟨vs, v1, v2, v3⟩ := choose_values cs hcell
    have r1 : (Builtin.firstCells i.size len (.slice (some ⟨b, st + off, none⟩) len cap)).run P w.drew = .ok vs.toArray w.drew := by
      have := run_loadCells (P := P) (w := w.drew) (b := b) (off := st + off) vs (fun j v hj => v2 j v hj)
      simp only [Builtin.firstCells]
      rw [← s2, ← v1, this]
    have r2' := h2.first (P := P) (w' := w.drew) (fun _ _ => rfl)
    rw [h2.val] at r2'
    have hge : len + xs.length ≤ grownCap w (len + xs.length) cap e := grownCap_ge w _ _ _
    refine ⟨_, _, fun ty => by rw [h2.val]; exact run_append_new hA.ht hA.hu hA.hi hA.hz (by omega) r1 r2' hb hby, ?_⟩
    generalize grownCap w (len + xs.length) cap e = newCap at hge ⊢
    generalize hnc : vs.toArray ++ vs'.toArray ++ Builtin.zeroCells z.cells (newCap - (len + xs.length)) = nc
    have hsz : nc.size = newCap * i.size := by
      subst hnc
      simp only [Array.size_append, List.size_toArray, zeroCells_size, hA.hzs, v1, s2, hlv, ← Nat.add_mul]
      congr 1; omega
    have hmul : (len + xs.length) * i.size ≤ newCap * i.size := Nat.mul_le_mul_right _ hge
    let D := C.at_ σ.next (.cells w.heap.size 0 nc.size)
    have hle : C.Le D := Ctx.at_le fr1 _
    obtain ⟨k1, k2⟩ := hI.step (D := D) (τ := (σ.del ob).add (.cells (cs ++ xs.flatMap AV.cells))) (w' := w.drew.alloc (.cells nc e)) (n := σ.next) (b := b) (bn := w.heap.size) (x := .cells (cs ++ xs.flatMap AV.cells)) hle hg
      (by simp [objB, hκ]) (.inr rfl) (.inr (Nat.le_refl _)) (by simp [objB, D]) (hget _) (hfalls _) (by simp [St.add, St.del]) (by simp [St.add, St.del])
      (fun j hj => Ctx.at_other C _ hj) (fun _ => rfl) (fun _ _ _ => rfl) (fun _ _ _ _ _ h => h) (by show w.heap.size ≤ (w.heap.push _).size; simp) rfl rfl rfl (fun b' _ hb' => Below.heap_alloc w _ b' hb')
      (fun b' x u hb' h => by
        have h' : C.S b' x = some u := h
        have hlt := sealed_lt hI h'
        rw [← hI.lies _ _ _ h']
        exact World.cell?_of_block (Below.heap_alloc w _ b' hlt))
      ⟨w.heap.size, 0, nc.size, nc, e, Ctx.at_self _ _ _, heap_new w.drew _, by rw [List.length_append, s2, f1, hsz]; omega, Nat.le_refl _, fun j c hj => by
        rw [Nat.zero_add]
        subst hnc
        by_cases hjl : j < len * i.size
        · rw [List.getElem?_append_left (by omega)] at hj
          have hlt : j < vs.length := by omega
          refine ⟨vs[j], ?_, (v3 j c _ hj (List.getElem?_eq_getElem hlt)).mono hle⟩
          rw [Array.append_assoc, Array.getElem?_append_left (by simpa using hlt)]; simp [hlt]
        · rw [List.getElem?_append_right (by omega), s2] at hj
          have hjx : j - len * i.size < vs'.length := by have := (List.getElem?_eq_some_iff.1 hj).1; rw [f1] at this; omega
          obtain ⟨u, hu, hr⟩ := f2 _ c hj
          refine ⟨u, ?_, hr.mono hle⟩
          rw [Array.getElem?_append_left (by simp; omega), Array.getElem?_append_right (by simp; omega)]
          simp only [List.size_toArray, v1, s2]; exact hu, fun x => sealed_new hI (Nat.le_refl _)⟩
    refine ⟨D, k2, k1, ?_⟩
    exact VR.hsl (C := D) σ.next 0 _ i.size w.heap.size 0 nc.size newCap (Ctx.at_self _ _ _) hA.hp hge (by rw [hsz]; omega)

end Go.AM
namespace Go.AM
open Go.RowKit
variable {P : Program} {cfg : Cfg} {C : Ctx} {σ τ : St} {w : World} {env : Env} {a : Act} {o : Oper} {v : AV}

theorem elemOk_iff {sz : Nat} {xs : List AV} (h : xs.all (elemOk sz) = true) : (∀ e ∈ xs, e.cells.length = sz) ∧ ∀ e ∈ xs, ∀ c ∈ e.cells, isCell c = true := by
  have h' : ∀ e ∈ xs, elemOk sz e = true := by simpa using h
  refine ⟨fun e he => ?_, fun e he => ?_⟩
  · have := h' e he
    unfold elemOk at this
    rw [Bool.and_eq_true] at this
    exact Nat.eq_of_beq_eq_true this.1
  · have := h' e he
    unfold elemOk at this
    rw [Bool.and_eq_true] at this
    exact all_mem this.2

/-- A row's elements are of one size. -/
theorem head_all {es : List AV} {sz size : Nat} (h : headOk sz es = true) (hel : ∀ (i : Nat) (e : AV), es[i]? = some e → e.cells.length = size) : es ≠ [] → size = sz := fun hne => by
  cases es with
  | nil => exact absurd rfl hne
  | cons x r => have := hel 0 x rfl; have := Nat.eq_of_beq_eq_true h; omega

theorem app_sound {t u e e' : TypeId} {i : TypeInfo} {z : Value} (hA : AppAt P t u e e' i z) (hI : Inv P cfg C σ w) {as ax : AV} {us ux : Value} {xs : List AV} {hs : Bool} (hvs : VR C as us) (hvx : VR C ax ux)
    (hx : elemsOf ax σ i.size = some xs) (h : appTo as i.size i.bytes hs xs σ = some (v, τ)) (hf : Fresh C σ.next τ.next) :
    ∃ u' w', (∀ ty, (Builtin.append_ #[t, u] ty #[us, ux]).run P w = .ok u' w') ∧ Done C σ w v τ u' w' P cfg := by
  cases hvs <;> simp only [eq_appTo_junk, eq_appTo_undef, eq_appTo_bool, eq_appTo_int, eq_appTo_str, eq_appTo_nilp, eq_appTo_nilm, eq_appTo_nilf, eq_appTo_nili, eq_appTo_agg, eq_appTo_tup, eq_appTo_slice, eq_appTo_hsl, eq_appTo_ptr, eq_appTo_eptr, eq_appTo_map, eq_appTo_itr, eq_appTo_fn] at h <;> first | (cases h; done) | skip
  · rename_i es tk ad b off cap size u0 hsz hcap ha hel hS hV htk
    have hV0 : VR C (.slice es tk) (.slice ad es.length cap) := .slice es tk ad b off cap size u0 hsz hcap ha hel hS hV htk
    unfold appSlice at h
    cases hc : (fits (es.length + xs.length) i.bytes && xs.all (elemOk i.size) && headOk i.size es) with
    | false => rw [hc] at h; cases h
    | true =>
      rw [hc, cond_true] at h
      simp only [Bool.and_eq_true, fits] at hc
      obtain ⟨⟨⟨hb1, hb2⟩, hx1⟩, hh⟩ := hc
      have hb1 := Nat.le_of_ble_eq_true hb1
      have hb2 := Nat.le_of_ble_eq_true hb2
      obtain ⟨x1, x2⟩ := elemOk_iff hx1
      obtain ⟨ad', cap', vs', h2⟩ := row_at hI hvx hx hA.hp x1
      have hsame := head_all hh hel
      have hallS : ∀ e ∈ es, e.cells.length = i.size := fun e he => by
        obtain ⟨j, hj⟩ := List.mem_iff_getElem?.1 he
        rw [hel j e hj]; exact hsame (fun e' => by subst e'; cases he)
      by_cases hxe : xs = []
      · subst hxe
        cases h
        have r2 := h2.first (P := P) (w' := w) (fun _ _ => rfl)
        rw [h2.val] at r2
        have hv0 : vs' = [] := List.eq_nil_of_length_eq_zero (by rw [h2.len]; simp)
        subst hv0
        refine ⟨_, w, fun ty => by rw [h2.val]; exact run_append_in hA.ht hA.hu hA.hi (by simpa using hcap) r2 (by cases ad <;> rfl), ?_⟩
        exact .same hI hV0
      · have hne : xs.isEmpty = false := by cases xs <;> simp at hxe ⊢
        rw [hne, cond_false] at h
        have hxl : 0 < xs.length := List.length_pos_iff.2 hxe
        have row1 : ∃ vs, RowAt C w es i.size (.slice ad es.length cap) ad cap vs := by
          obtain ⟨vs, v1, v2, v3⟩ := slice_row hA.hp hel hallS hS hV
          exact ⟨vs, rfl, hcap, v1, v2, fun hne => ⟨b, off, ha hne, fun j v hj => hI.lies _ _ _ (v3 j v hj)⟩⟩
        obtain ⟨vs, h1⟩ := row1
        cases hs with
        | true =>
          rw [cond_true] at h
          cases tk with
          | none => cases h
          | live id g => cases h
          | full =>
            cases h
            have hfull : cap = es.length := htk
            exact app_hs hA hI h1 h2 (by omega) hb1 hb2 hf
        | false =>
          rw [cond_false] at h
          cases tk with
          | none => cases h
          | full =>
            cases h
            have hfull : cap = es.length := htk
            obtain ⟨cs, newCap, hrun, hge, hcsz, _, hR⟩ := app_run hA h1 h2 (by omega) hb1 hb2
            exact ⟨_, _, hrun, full_done hI hA.hp (by simp) hge hcsz hR hf e⟩
          | live id g =>
            simp only [grow] at h
            cases hto : σ.tokOf id with
            | none => rw [hto] at h; cases h
            | some p =>
              obtain ⟨g', z'⟩ := p
              rw [hto] at h; simp only at h
              cases hgz : (Nat.beq g' g && Nat.beq z' i.size) with
              | false => rw [hgz] at h; cases h
              | true =>
                rw [hgz] at h; cases h
                rw [Bool.and_eq_true] at hgz
                have e1 := Nat.eq_of_beq_eq_true hgz.1
                have e2 := Nat.eq_of_beq_eq_true hgz.2
                subst e1; subst e2
                have htok := tok_get hto
                obtain ⟨q1, q2⟩ := htk
                have hszeq : size = i.size := by
                  obtain ⟨b', e0, lim, cs0, el, t1, _⟩ := hI.obj _ _ htok
                  rw [q2] at t1
                  simp only [Option.some.injEq, Prod.mk.injEq] at t1
                  exact t1.2.2.2
                subst hszeq
                by_cases hroom : es.length + xs.length ≤ cap
                · obtain ⟨b', e0, lim, cs0, el, t1, t2, _⟩ := hI.obj _ _ htok
                  rw [q2] at t1; cases t1
                  have r2 := h2.first (P := P) (w' := w) (fun _ _ => rfl)
                  rw [h2.val] at r2
                  have hlv := h2.len
                  obtain ⟨d1, d2⟩ := in_done hI hA.hp hel hS hV h2.rel.stripCells (by simpa using hlv) (by simpa using hroom) htok q2 t2
                  have hst := run_storeCells_at P b (off + es.length * i.size) el vs' 0 cs0 w t2 (by simpa using d1) (oneCells h2.rel hlv hA.hp x2)
                  simp only [Nat.add_zero] at hst
                  subst q1
                  simp only [List.length_map] at d2
                  exact ⟨_, _, fun ty => by rw [h2.val]; exact run_append_in hA.ht hA.hu hA.hi hroom r2 (by simp only [add_at]; exact hst), d2⟩
                · obtain ⟨cs, newCap, hrun, hge, hcsz, _, hR⟩ := app_run hA h1 h2 (by omega) hb1 hb2
                  exact ⟨_, _, hrun, live_done hI hA.hp (by simp) hge hcsz hR e htok⟩
  · rename_i ob off len zz b st lim cap hκ hsz hcap hlim
    unfold appHsl at h
    cases hc : (fits (len + xs.length) i.bytes && xs.all (elemOk i.size) && Nat.beq zz i.size) with
    | false => rw [hc] at h; cases h
    | true =>
      rw [hc, cond_true] at h
      simp only [Bool.and_eq_true, fits] at hc
      obtain ⟨⟨⟨hb1, hb2⟩, hx1⟩, hzz⟩ := hc
      have hb1 := Nat.le_of_ble_eq_true hb1
      have hb2 := Nat.le_of_ble_eq_true hb2
      have := Nat.eq_of_beq_eq_true hzz; subst this
      obtain ⟨x1, x2⟩ := elemOk_iff hx1
      obtain ⟨ad', cap', vs', h2⟩ := row_at hI hvx hx hA.hp x1
      cases hl : σ.cells ob with
      | none => rw [hl] at h; cases h
      | some l =>
        rw [hl] at h; simp only at h
        cases hsl : slc l off (len * i.size) with
        | none => rw [hsl] at h; cases h
        | some cs =>
          rw [hsl] at h; cases h
          exact app_hsl hA hI h2 (oneCells h2.rel h2.len hA.hp x2) hκ hlim (cells_get hl) hsl hb1 hb2 (fun i h1 h2 => hf i h1 (by simpa [St.add, St.del] using h2))

theorem appAt_of {t u e e' : TypeId} {sz bytes : Nat} {z : AV} (ht : P.underlying t = some (.slice e)) (hu : P.underlying u = some (.slice e')) (hn : sizeT P e = some sz) (h0 : sz ≠ 0) (hb : bytesT P e = some bytes)
    (hz : zeroT P e = some z) (hzn : ncells z = sz) : ∃ i zv, AppAt P t u e e' i zv ∧ i.size = sz ∧ i.bytes = bytes ∧ conv zv = some z := by
  obtain ⟨i, zv, h1, h2, h3⟩ := info_of_zero hz
  obtain ⟨i', h1', h1''⟩ := info_of_size hn
  rw [h1] at h1'; cases h1'; subst h1''
  have hbb : i.bytes = bytes := by unfold bytesT at hb; rw [h1] at hb; cases hb; rfl
  obtain ⟨h4, h4'⟩ := conv_VR h3 (⟨fun _ _ => none, fun _ => none, fun _ _ => none⟩ : Ctx)
  exact ⟨i, zv, ⟨ht, hu, h1, h2, Nat.pos_of_ne_zero h0, by rw [← (h4.cells h4').1]; exact ncells_eq hzn⟩, rfl, hbb, h3⟩

theorem s_append {t u e e' : TypeId} {sz bytes : Nat} {z : AV} {hs : Bool} {c : Call} {s x : Operand} {s' x' : Opd} (hI : Inv P cfg C σ w) (he : EnvR C env a.tmps)
    (ht : P.underlying t = some (.slice e)) (hu : P.underlying u = some (.slice e')) (hn : sizeT P e = some sz) (h0 : sz ≠ 0) (hb : bytesT P e = some bytes) (hz : zeroT P e = some z) (hzn : ncells z = sz)
    (hsx : opd s = some s') (hx : opd x = some x') (ho : o.op = .call c) (hc : c.callee = .builtin .append) (ha : c.args.toList = [s, x]) (hty : c.argTypes.toList = [t, u])
    (h : op_append sz bytes hs s' x' env σ = some (v, τ)) (hf : Fresh C σ.next τ.next) : Runs P cfg C σ w (execOp a.eval o) v τ := by
  unfold op_append at h
  cases hel : elemsOf (x'.eval env) σ sz with
  | none => rw [hel] at h; cases h
  | some xs =>
    rw [hel] at h; simp only at h
    obtain ⟨i, zv, hA, rfl, rfl, _⟩ := appAt_of ht hu hn h0 hb hz hzn
    obtain ⟨u', w', r1, r2⟩ := app_sound hA hI (opd_VR hsx he) (opd_VR hx he) hel h hf
    have ha' : c.args = #[s, x] := Array.ext' ha
    have hty' : c.argTypes = #[t, u] := Array.ext' hty
    unfold execOp; rw [ho]
    refine ⟨.value u', w', u', ?_, .inl rfl, r2⟩
    simp only [resolve, hc, ha', hty', Sem.run_bind, Sem.run_pure, Result.andThen_ok, invoke, builtin, List.map_toArray, List.map_cons, List.map_nil, r1]

end Go.AM
namespace Go.AM
open Go.RowKit
variable {P : Program} {cfg : Cfg} {C : Ctx} {σ τ : St} {w : World} {env : Env} {a : Act} {o : Oper} {v : AV}

theorem bytes_rel {xs : List AV} {s : List UInt8} (h : bytesOf xs = some s) : (∀ e ∈ xs, e.cells.length = 1) ∧ xs.length = s.length ∧ ∀ (j : Nat) (e : AV), xs[j]? = some e → ∃ (n : Int) (b : UInt8), e = .int .u8 n ∧ s[j]? = some b ∧ b = UInt8.ofNat n.toNat := by
  induction xs generalizing s with
  | nil => cases h; simp
  | cons x xs ih =>
    have h' : (match x.u8 with | some b => (match bytesOf xs with | some r => some (b :: r) | none => none) | none => none) = some s := h
    cases hb : x.u8 with
    | none => rw [hb] at h'; cases h'
    | some b =>
      rw [hb] at h'; simp only at h'
      cases hr : bytesOf xs with
      | none => rw [hr] at h'; cases h'
      | some r =>
        rw [hr] at h'; cases h'
        obtain ⟨h1, h2, h3⟩ := ih hr
        have hx : ∃ n : Int, x = .int .u8 n ∧ b = UInt8.ofNat n.toNat := by
          cases x <;> simp [AV.u8] at hb
          rename_i k n
          cases k <;> simp at hb
          exact ⟨n, rfl, hb.symm⟩
        obtain ⟨n, rfl, rfl⟩ := hx
        refine ⟨fun e he => ?_, by simp [h2], fun j e he => ?_⟩
        · rcases List.mem_cons.1 he with rfl | he
          · rfl
          · exact h1 e he
        · cases j with
          | zero => simp at he; subst he; exact ⟨n, _, rfl, rfl, rfl⟩
          | succ j => obtain ⟨n', b', q1, q2, q3⟩ := h3 j e (by simpa using he); exact ⟨n', b', q1, by simpa using q2, q3⟩

theorem fold_bytes : ∀ (ns : List Int) (r : List UInt8), ns.foldl (fun (r : ByteArray) n => r.push (UInt8.ofNat n.toNat)) ⟨r.toArray⟩ = ⟨(r ++ ns.map fun n => UInt8.ofNat n.toNat).toArray⟩ := by
  intro ns
  induction ns with
  | nil => intro r; simp
  | cons n ns ih =>
    intro r
    simp only [List.foldl_cons]
    have : (⟨r.toArray⟩ : ByteArray).push (UInt8.ofNat n.toNat) = ⟨(r ++ [UInt8.ofNat n.toNat]).toArray⟩ := by
      apply ByteArray.ext; simp [ByteArray.push]
    rw [this, ih]; simp

theorem s_convBytes {s d e : TypeId} {x : Operand} {y : Opd} (hI : Inv P cfg C σ w) (he : EnvR C env a.tmps) (hs : P.underlying s = some (.slice e)) (hd : P.underlying d = some .string) (hu : P.underlying e = some (.int .u8))
    (hx : opd x = some y) (ho : o.op = .convert s d x) (h : op_convBytes y env σ = some (v, τ)) : Runs P cfg C σ w (execOp a.eval o) v τ := by
  unfold op_convBytes at h
  cases hel : elemsOf (y.eval env) σ 1 with
  | none => rw [hel] at h; cases h
  | some xs =>
    rw [hel] at h; simp only at h
    cases hb : bytesOf xs with
    | none => rw [hb] at h; cases h
    | some bs =>
      rw [hb] at h; cases h
      obtain ⟨b1, b2, b3⟩ := bytes_rel hb
      obtain ⟨ad, cap, vs, hr⟩ := row_at hI (opd_VR hx he) hel (by decide) b1
      have hlen := hr.len
      have key : (Conv.bytesToString (a.eval x)).run P w = .ok (.string ⟨bs.toArray⟩) w := by
        rw [hr.val]
        by_cases hxe : xs = []
        · subst hxe
          have : bs = [] := List.eq_nil_of_length_eq_zero (by rw [← b2]; rfl)
          subst this
          cases ad with
          | none => rfl
          | some ad => simp [Conv.bytesToString, loadCells, loadCellsFrom]; rfl
        · obtain ⟨b, off, rfl, h2⟩ := hr.at_ hxe
          have hns : ∃ ns : List Int, vs = ns.map (Value.int .u8) ∧ (ns.map fun n => UInt8.ofNat n.toNat) = bs := by
            refine ⟨vs.map fun v => match v with | .int _ n => n | _ => 0, ?_, ?_⟩
            · apply List.ext_getElem?
              intro j
              rw [List.map_map, List.getElem?_map]
              cases hj : vs[j]? with
              | none => rfl
              | some v =>
                have hjl : j < xs.length := by have := (List.getElem?_eq_some_iff.1 hj).1; omega
                obtain ⟨n, b', q1, q2, q3⟩ := b3 j _ (List.getElem?_eq_getElem hjl)
                obtain ⟨u, hu', hru⟩ := (hr.rel.2 j _ (List.getElem?_eq_getElem hjl)).2 0 (.int .u8 n) (by rw [q1]; rfl)
                simp only [Nat.mul_one, Nat.add_zero, List.getElem?_toArray] at hu'
                rw [hj] at hu'; cases hu'
                cases hru; rfl
            · apply List.ext_getElem?
              intro j
              rw [List.map_map, List.getElem?_map]
              cases hj : vs[j]? with
              | none =>
                have : vs.length ≤ j := List.getElem?_eq_none_iff.1 hj
                symm; simp only [Option.map_none]; rw [List.getElem?_eq_none_iff]; omega
              | some v =>
                have hjl : j < xs.length := by have := (List.getElem?_eq_some_iff.1 hj).1; omega
                obtain ⟨n, b', q1, q2, q3⟩ := b3 j _ (List.getElem?_eq_getElem hjl)
                obtain ⟨u, hu', hru⟩ := (hr.rel.2 j _ (List.getElem?_eq_getElem hjl)).2 0 (.int .u8 n) (by rw [q1]; rfl)
                simp only [Nat.mul_one, Nat.add_zero, List.getElem?_toArray] at hu'
                rw [hj] at hu'; cases hu'
                cases hru
                rw [q2, q3]; rfl
          obtain ⟨ns, hns1, hns2⟩ := hns
          have hl := run_loadCells (P := P) (w := w) (b := b) (off := off) vs h2
          have hvl : vs.length = xs.length := by omega
          rw [hvl] at hl
          rw [run_bytesToString w _ xs.length cap ns (by rw [hl, hns1])]
          have : (ByteArray.empty) = ⟨([] : List UInt8).toArray⟩ := rfl
          rw [this, fold_bytes, List.nil_append, hns2]
      unfold execOp; rw [ho]
      refine .val (u := .string ⟨bs.toArray⟩) ?_ (.same hI (.str _))
      rw [hr.val] at key ⊢
      simp only [convert, Sem.run_bind, run_und hs, run_und hd, Result.andThen_ok, run_und hu]
      exact key

theorem s_nextStr {x : Operand} {y : Opd} (hI : Inv P cfg C σ w) (he : EnvR C env a.tmps) (hx : opd x = some y) (ho : o.op = .next x true)
    (h : op_nextStr y env σ = some (v, τ)) : Runs P cfg C σ w (execOp a.eval o) v τ := by
  unfold op_nextStr at h
  cases hi : (y.eval env).itr? with
  | none => rw [hi] at h; cases h
  | some id =>
    rw [hi] at h; simp only at h
    have hv := opd_VR hx he
    obtain ⟨b, e1, hκ⟩ : ∃ b, a.eval x = .pointer (some ⟨b, 0, none⟩) ∧ C.κ id = some (.blk b) := by
      generalize y.eval env = c at hi hv
      generalize a.eval x = ux at hv
      cases hv <;> simp at hi
      rename_i hκ; subst hi; exact ⟨_, rfl, hκ⟩
    cases hg : σ.get id with
    | none => rw [hg] at h; cases h
    | some ob =>
      rw [hg] at h
      cases ob <;> simp only at h <;> try cases h
      rename_i s pos
      obtain ⟨b', g1, g2⟩ := hI.obj _ _ hg
      rw [hκ] at g1; cases g1
      rw [nth_eq] at h
      have hsz : (⟨s.toArray⟩ : ByteArray).size = s.length := by simp [ByteArray.size]
      have hget : (getObj b).run P w = .ok (.stringIter ⟨s.toArray⟩ pos) w := by simp [getObj, Sem.run, g2]
      unfold execOp; rw [ho]
      cases hb : s[pos]? with
      | none =>
        rw [hb] at h; cases h
        have hge : ¬pos < s.length := fun e => by rw [List.getElem?_eq_getElem e] at hb; cases hb
        refine .val (u := .tuple #[.bool false]) ?_ (.same hI (.tup _ _ rfl fun i c v hc hv => ?_))
        · simp only [Instr.next, e1, Sem.run_bind, hget, Result.andThen_ok, hsz, if_neg hge, Sem.run_pure]
        · cases i with
          | zero => simp at hc hv; subst hc; subst hv; exact .bool _
          | succ i => simp at hc
      | some c =>
        rw [hb] at h; simp only [blt_eq] at h
        by_cases hlt : c.toNat < 128
        · rw [decide_eq_true hlt, cond_true] at h; cases h
          obtain ⟨hpos, hcc⟩ := List.getElem?_eq_some_iff.1 hb
          have hdec : Utf8.decode ⟨s.toArray⟩ pos = (c.toNat, 1) := by
            have hg0 : ((⟨s.toArray⟩ : ByteArray).get! pos).toNat = c.toNat := by
              simp [ByteArray.get!, hpos, hcc]
            simp only [Utf8.decode, Nat.add_zero, hg0]
            rw [if_pos (by omega)]
          have hrun : (Instr.next (a.eval x) true o.type).run P w = .ok (.tuple #[.bool true, goInt pos, .int .i32 c.toNat]) (World.putObj w b (.stringIter ⟨s.toArray⟩ (pos + 1))) := by
            simp only [Instr.next, e1, Sem.run_bind, hget, Result.andThen_ok, hsz, if_pos hpos, hdec, run_setObj' _ g2 (by simp), Sem.run_pure]
          obtain ⟨s1, s2⟩ := MapKept.heap_set (w := w) (o' := .stringIter ⟨s.toArray⟩ (pos + 1)) g2
          obtain ⟨k1, k2⟩ := hI.change (w' := World.putObj w b (.stringIter ⟨s.toArray⟩ (pos + 1))) (o' := .iter s (pos + 1)) (.refl C) hg (b := b) (by simp [objB, hκ]) (by simp [objB, hκ]) (fun _ => rfl) (fun _ _ _ => rfl) (fun _ _ _ _ h => h) (by simp [World.putObj]) rfl rfl rfl (fun b' hb' => s2 b' hb') (fun x u hx => by
            have := hI.lies b x u hx
            simp [World.cell?, g2] at this) ⟨b, hκ, s1⟩
          refine .val hrun ⟨C, k2, k1, .tup _ _ rfl fun i c' v hc hv => ?_⟩
          match i, hc, hv with
          | 0, hc, hv => simp at hc hv; subst hc; subst hv; exact .bool _
          | 1, hc, hv => simp [goInt] at hc hv; subst hc; subst hv; exact .int _ _
          | 2, hc, hv => simp at hc hv; subst hc; subst hv; exact .int _ _
        · rw [decide_eq_false hlt, cond_false] at h; cases h

end Go.AM
