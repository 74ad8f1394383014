/- A part of the proof of: EmitBecomes: what a term becomes by patterns, and a pattern's name, is what the document says, or the error is told. -/
import Derived.Test.YtkopdkjpmccbmaaGreatDoorM06
import Derived.Laws.Append
import Derived.Laws.BytesString
import Derived.Laws.AppendOwn
namespace Go.AM
open Go.RowKit Go.MapKept
variable {P : Program} {cfg : Cfg} {C : Ctx} {σ τ : St} {w : World} {env : Env} {a : Act} {o : Oper} {v : AV}

def World.putObj (w : World) (b : Nat) (o : Obj) : World := { w with heap := w.heap.setIfInBounds b o }

/-- A map that has changed. -/
theorem change_map (hI : Inv P cfg C σ w) {id b : Nat} {ks : List Nat} {es es' : List (AV × AV)} {ents ents' : Array MapEntry} {clock clock' : Nat} (hg : σ.get id = some (.map ks es)) (hκ : C.κ id = some (.blk b)) (hb : w.heap[b]? = some (.map ents clock))
    (hm : MapR C ks es' ents'.toList) :
    Inv P cfg C (σ.set id (.map ks es')) (World.putObj w b (.map ents' clock')) ∧ Ev C σ w C (σ.set id (.map ks es')) (World.putObj w b (.map ents' clock')) := by
  obtain ⟨s1, s2⟩ := MapKept.heap_set (w := w) (o' := .map ents' clock') hb
  refine hI.change (.refl C) hg (b := b) (by simp [objB, hκ]) (by simp [objB, hκ]) (fun _ => rfl) (fun _ _ _ => rfl) (fun _ _ _ _ h => h) (by simp [World.putObj]) rfl rfl rfl (fun b' hb' => s2 b' hb') (fun x u hx => ?_) ⟨b, ents', clock', hκ, s1, hm⟩
  have := hI.lies b x u hx
  simp [World.cell?, hb] at this

theorem eqK_false_of {l : List (AV × AV)} (h : (l.map Prod.fst).Nodup) (hk : ∀ p ∈ l, ∀ q ∈ l, eqK p.1 q.1 = true ↔ p.1 = q.1) : l.Pairwise fun p q => eqK p.1 q.1 = false := by
  rw [List.Nodup, List.pairwise_map] at h
  refine h.imp_of_mem fun {p q} hp hq hpq => ?_
  cases hb : eqK p.1 q.1 with
  | false => rfl
  | true => exact absurd ((hk p hp q hq).1 hb) hpq

/-- Pairs whose keys have values behind them. -/
theorem eqK_all {kt : TypeId} {l : List (AV × AV)} (h : ∀ p ∈ l, ∃ u, KeyK P C kt p.1 u) : ∀ p ∈ l, ∀ q ∈ l, eqK p.1 q.1 = true ↔ p.1 = q.1 := fun p hp q hq => by
  obtain ⟨u, hu⟩ := h p hp
  obtain ⟨u', hu'⟩ := h q hq
  exact (key_equal (w := default) hu hu' 0).2

theorem has_of_rel {kt : TypeId} {fs : List (AV × AV)} {ents : List MapEntry} (hlen : fs.length = ents.length)
    (hr : ∀ (i : Nat) (p : AV × AV) (e : MapEntry), fs[i]? = some p → ents[i]? = some e → KeyK P C kt p.1 e.key ∧ VR C p.2 e.val) : ∀ p ∈ fs, ∃ u, KeyK P C kt p.1 u := fun p hp => by
  obtain ⟨i, hi⟩ := List.mem_iff_getElem?.1 hp
  have hlt := (List.getElem?_eq_some_iff.1 hi).1
  exact ⟨_, (hr i p _ hi (List.getElem?_eq_getElem (by omega))).1⟩

theorem nodup_mput {l : List (AV × AV)} {x v : AV} (h : Keys l x) : ((mput l x v).map Prod.fst).Nodup := by
  rw [((mput_filter h).map Prod.fst).nodup_iff]
  simp only [List.map_cons, List.nodup_cons]
  refine ⟨fun hm => ?_, (List.filter_sublist.map _).nodup h.nodup⟩
  obtain ⟨p, hp, e⟩ := List.mem_map.1 hm
  obtain ⟨hp1, hp2⟩ := List.mem_filter.1 hp
  rw [(h.iff p hp1).2 e] at hp2
  cases hp2

theorem mem_mput {l : List (AV × AV)} {x v : AV} (h : Keys l x) {p : AV × AV} (hp : p ∈ mput l x v) : p = (x, v) ∨ p ∈ l := by
  rcases List.mem_cons.1 ((mput_filter h).mem_iff.1 hp) with h | h
  · exact .inl h
  · exact .inr (List.mem_filter.1 h).1

theorem CellK.vr {c : Nat} {x : AV} {u : Value} (h : CellK C c x u) : VR C x u := by
  cases h with
  | int k n => exact .int k n
  | str s => exact .str s
  | bool b => exact .bool b
theorem CellsK.vr {ks : List Nat} {xs : List AV} {us : List Value} (h : CellsK C ks xs us) : ∀ (i : Nat) (c : AV) (v : Value), xs[i]? = some c → us[i]? = some v → VR C c v := by
  induction h with
  | nil => intro i c v h; simp at h
  | cons h t ih =>
    intro i c v hc hv
    cases i with
    | zero => simp at hc hv; subst hc; subst hv; exact h.vr
    | succ i => exact ih i c v (by simpa using hc) (by simpa using hv)
theorem KeyK.vr {t : TypeId} {x : AV} {u : Value} (h : KeyK P C t x u) : VR C x u := by
  cases h with
  | cell hk h => exact h.vr
  | struct hk h => exact .agg _ _ (by have := h.len; simp at this; omega) (fun i c v hc hv => h.vr i c v hc (by simpa using hv))
  | arr hk h => exact .agg _ _ (by have := h.len; simp at this; omega) (fun i c v hc hv => h.vr i c v hc (by simpa using hv))

/-- An entry that is put. -/
theorem MapR.put {kt : TypeId} {ks : List Nat} (hk : keyT P kt = some ks) {es : List (AV × AV)} {ents ents' : List MapEntry} (h : MapR C ks es ents) {x y : AV} {u u' : Value} (hx : KeyK P C kt x u) (hsx : shapeOf x = ks) (hy : VR C y u')
    (hnew : (∃ b, ents' = ents ++ [⟨u, u', b⟩] ∧ ∀ e ∈ ents, e.key ≠ u) ∨ (∃ j e, ents[j]? = some e ∧ e.key = u ∧ ents' = ents.set j ⟨u, u', e.born⟩)) : MapR C ks (mput es x y) ents' := by
  obtain ⟨fs, f1, f2, f3, f4, f5⟩ := h.keys hk hx
  obtain ⟨_, _, _, _, h4, _⟩ := h
  have hrel : ∀ (fs' : List (AV × AV)) , fs'.Perm (mput es x y) → fs'.length = ents'.length → (∀ (i : Nat) (p : AV × AV) (e : MapEntry), fs'[i]? = some p → ents'[i]? = some e → KeyK P C kt p.1 e.key ∧ VR C p.2 e.val) → MapR C ks (mput es x y) ents' := by
    intro fs' p1 p2 p3
    refine ⟨fs', p1, p2, fun i p e hp he => ⟨(p3 i p e hp he).1.vr, (p3 i p e hp he).2⟩, fun p hp => ?_, ?_⟩
    · rcases mem_mput f4 hp with rfl | hp
      · exact hsx
      · exact h4 p hp
    · refine eqK_false_of (nodup_mput f4) (eqK_all (P := P) (C := C) (kt := kt) fun p hp => ?_)
      rcases mem_mput f4 hp with rfl | hp
      · exact ⟨u, hx⟩
      · exact has_of_rel f2 f5 p (f1.mem_iff.2 hp)
  have hperm := mput_perm (v := y) f4 f1
  rcases hnew with ⟨b, rfl, hno⟩ | ⟨j, e, hj, hje, rfl⟩
  · have hnof : ∀ p ∈ fs, p.1 ≠ x := fun p hp e' => by
      obtain ⟨i, hi⟩ := List.mem_iff_getElem?.1 hp
      have hlt := (List.getElem?_eq_some_iff.1 hi).1
      have he : ents[i]? = some (ents[i]'(by omega)) := List.getElem?_eq_getElem _
      exact hno _ (List.mem_of_getElem? he) (((f5 i p _ hi he).1.det hx).1 e')
    rw [mput_new f3 hnof] at hperm
    refine hrel _ hperm (by simp [f2]) fun i p e hp he => ?_
    by_cases hi : i < fs.length
    · rw [List.getElem?_append_left hi] at hp
      rw [List.getElem?_append_left (by omega)] at he
      exact f5 i p e hp he
    · rw [List.getElem?_append_right (by omega)] at hp
      rw [List.getElem?_append_right (by omega)] at he
      rw [f2] at hp
      generalize i - ents.length = q at hp he
      cases q with
      | zero => simp at hp he; subst hp; subst he; exact ⟨hx, hy⟩
      | succ q => simp at hp
  · have hlt := (List.getElem?_eq_some_iff.1 hj).1
    have hf : fs[j]? = some (fs[j]'(by omega)) := List.getElem?_eq_getElem _
    have hk1 := (f5 j _ e hf hj).1
    have hfx : (fs[j]'(by omega)).1 = x := (hk1.det hx).2 hje
    have hf' : fs[j]? = some (x, (fs[j]'(by omega)).2) := by rw [hf, ← hfx]
    rw [mput_old f3 hf'] at hperm
    refine hrel _ hperm (by simp [f2]) fun i p e' hp he => ?_
    by_cases hi : j = i
    · subst hi
      rw [List.getElem?_set_self (by omega)] at hp
      rw [List.getElem?_set_self hlt] at he
      cases hp; cases he; exact ⟨hx, hy⟩
    · rw [List.getElem?_set_ne hi] at hp he
      exact f5 i p e' hp he

theorem MapR.del {kt : TypeId} {ks : List Nat} (hk : keyT P kt = some ks) {es : List (AV × AV)} {ents ents' : List MapEntry} (h : MapR C ks es ents) {x : AV} {u : Value} (hx : KeyK P C kt x u)
    (hnew : (ents' = ents ∧ ∀ e ∈ ents, e.key ≠ u) ∨ (∃ j e, ents[j]? = some e ∧ e.key = u ∧ ents' = ents.eraseIdx j)) : MapR C ks (mdel es x) ents' := by
  obtain ⟨fs, f1, f2, f3, f4, f5⟩ := h.keys hk hx
  obtain ⟨_, _, _, _, h4, h5⟩ := h
  have hsub : (mdel es x).Sublist es := by rw [mdel_filter f4]; exact List.filter_sublist
  have hrel : ∀ (fs' : List (AV × AV)) , fs'.Perm (mdel es x) → fs'.length = ents'.length → (∀ (i : Nat) (p : AV × AV) (e : MapEntry), fs'[i]? = some p → ents'[i]? = some e → KeyK P C kt p.1 e.key ∧ VR C p.2 e.val) → MapR C ks (mdel es x) ents' := by
    intro fs' p1 p2 p3
    exact ⟨fs', p1, p2, fun i p e hp he => ⟨(p3 i p e hp he).1.vr, (p3 i p e hp he).2⟩, fun p hp => h4 p (hsub.subset hp), h5.sublist hsub⟩
  have hperm := mdel_perm f4 f1
  rcases hnew with ⟨rfl, hno⟩ | ⟨j, e, hj, hje, rfl⟩
  · have hnof : ∀ p ∈ fs, p.1 ≠ x := fun p hp e' => by
      obtain ⟨i, hi⟩ := List.mem_iff_getElem?.1 hp
      have hlt := (List.getElem?_eq_some_iff.1 hi).1
      have he : ents'[i]? = some (ents'[i]'(by omega)) := List.getElem?_eq_getElem _
      exact hno _ (List.mem_of_getElem? he) (((f5 i p _ hi he).1.det hx).1 e')
    rw [mdel_new f3 hnof] at hperm
    exact hrel _ hperm f2 f5
  · have hlt := (List.getElem?_eq_some_iff.1 hj).1
    have hf : fs[j]? = some (fs[j]'(by omega)) := List.getElem?_eq_getElem _
    have hk1 := (f5 j _ e hf hj).1
    have hfx : (fs[j]'(by omega)).1 = x := (hk1.det hx).2 hje
    have hf' : fs[j]? = some (x, (fs[j]'(by omega)).2) := by rw [hf, ← hfx]
    rw [mdel_old f3 hf'] at hperm
    refine hrel _ hperm (by rw [List.length_eraseIdx, List.length_eraseIdx, f2]) fun i p e' hp he => ?_
    rw [List.getElem?_eraseIdx] at hp he
    split at hp
    · rename_i hi; rw [if_pos hi] at he; exact f5 i p e' hp he
    · rename_i hi; rw [if_neg hi] at he; exact f5 _ p e' hp he

theorem run_setObj' {b : Nat} {x : Obj} (o' : Obj) (hb : w.heap[b]? = some x) (hn : ∀ c e f, x ≠ .cells c e f) : (setObj b o').run P w = .ok () (World.putObj w b o') := by
  cases x <;> first
    | exact absurd rfl (hn _ _ _)
    | simp [setObj, Sem.run, hb, World.putObj]

theorem stays_key {t : TypeId} {x : AV} {u : Value} (h : KeyK P C t x u) : (Instr.keyThatStays u u).run P w = .ok u w := by
  have := key_bits h 9999
  unfold Instr.keyThatStays
  rw [if_pos this]; rfl

theorem mapGet_get {id : Nat} {ks : List Nat} {es : List (AV × AV)} (hg : mapGet id σ ks = some es) : σ.get id = some (.map ks es) := by
  unfold mapGet at hg
  cases hq : σ.mapOf id with
  | none => rw [hq] at hg; cases hg
  | some q =>
    obtain ⟨k1, l⟩ := q
    rw [hq] at hg; simp only at hg
    cases hb : eqNs k1 ks with
    | false => rw [hb] at hg; cases hg
    | true => rw [hb] at hg; cases hg; rw [← eqNs_eq.1 hb]; exact map_get hq

theorem s_mapUpdate {t kt el : TypeId} {ks : List Nat} {m k x : Operand} {m' k' x' : Opd} (hI : Inv P cfg C σ w) (he : EnvR C env a.tmps) (ht : P.underlying t = some (.map kt el)) (hk : keyT P kt = some ks)
    (hm : opd m = some m') (hkx : opd k = some k') (hx : opd x = some x') (ho : o.op = .mapUpdate t m k x ∨ o.op = .insert t m k x) (h : op_mapUpdate ks m' k' x' env σ = some (v, τ)) : Runs P cfg C σ w (execOp a.eval o) v τ := by
  unfold op_mapUpdate at h
  have hvm := opd_VR hm he
  have hvk := opd_VR hkx he
  have hvx := (opd_VR hx he).stripCell
  cases hmm : (m'.eval env).map? with
  | none => rw [hmm] at h; cases h
  | some id =>
    rw [hmm] at h; simp only at h
    cases hg : mapGet id σ ks with
    | none => rw [hg] at h; cases h
    | some es =>
      rw [hg] at h; simp only at h
      cases hko : (keyOk ks (k'.eval env) && known (x'.eval env)) with
      | false => rw [hko] at h; cases h
      | true =>
        rw [hko] at h; cases h
        rw [Bool.and_eq_true] at hko
        have hs := keyOk_iff hko.1
        have hkk := keyK hk hvk hs
        obtain ⟨b, e1, hκ⟩ : ∃ b, a.eval m = .map (some b) ∧ C.κ id = some (.blk b) := by
          generalize m'.eval env = c at hmm hvm
          generalize a.eval m = ux at hvm
          cases hvm <;> simp at hmm
          rename_i hκ; subst hmm; exact ⟨_, rfl, hκ⟩
        have hgo := mapGet_get hg
        obtain ⟨b', ents, clock, g1, g2, g3⟩ := hI.obj _ _ hgo
        rw [hκ] at g1; cases g1
        obtain ⟨fs, f1, f2, f3, f4, f5⟩ := g3.keys hk hkk
        obtain ⟨r, r1, r2⟩ := map_found (w := w) f2 hkk f5
        have hck := key_check (P := P) (w := w) hkk false 9998
        have key : ∃ ents' clock', (Instr.mapUpdate t (a.eval m) (a.eval k) (a.eval x)).run P w = .ok () (World.putObj w b (.map ents' clock')) ∧ MapR C ks (mput es (k'.eval env) (stripCell (x'.eval env))) ents'.toList := by
          rcases r2 with ⟨rfl, hno⟩ | ⟨j, e, y, rfl, h2, h3, h4, h5⟩
          · refine ⟨ents.push ⟨a.eval k, a.eval x, clock⟩, clock + 1, ?_, g3.put hk hkk hs hvx (.inl ⟨clock, by simp, fun e he e' => ?_⟩)⟩
            · rw [e1]
              simp only [Instr.mapUpdate, Sem.run_bind, run_und ht, Result.andThen_ok, MapKept.run_getObj_map g2, hck, r1, run_setObj' _ g2 (by simp)]
            · obtain ⟨i, hi⟩ := List.mem_iff_getElem?.1 he
              have hlt := (List.getElem?_eq_some_iff.1 hi).1
              have hf : fs[i]? = some (fs[i]'(by omega)) := List.getElem?_eq_getElem _
              exact hno _ (List.mem_of_getElem? hf) (((f5 i _ e hf hi).1.det hkk).2 e')
          · have hlt := (List.getElem?_eq_some_iff.1 h2).1
            have hj : ents[j]? = some e := by simpa using h2
            refine ⟨ents.modify j fun e => { e with key := a.eval k, val := a.eval x }, clock, ?_, g3.put hk hkk hs hvx (.inr ⟨j, e, h2, h3, ?_⟩)⟩
            · rw [e1]
              simp only [Instr.mapUpdate, Sem.run_bind, run_und ht, Result.andThen_ok, MapKept.run_getObj_map g2, hck, r1, hj, Option.map_some, Option.getD_some, h3, stays_key hkk, run_setObj' _ g2 (by simp)]
            · apply List.ext_getElem?
              intro i
              simp only [Array.toList_modify, List.getElem?_modify, List.getElem?_set]
              by_cases hij : j = i
              · subst hij
                have hlt' : j < ents.size := by simpa using hlt
                have he' : ents[j] = e := by rw [Array.getElem?_eq_getElem hlt'] at hj; exact Option.some.inj hj
                simp [hlt', he']
              · simp [hij]
        obtain ⟨ents', clock', k1, k2⟩ := key
        obtain ⟨i1, i2⟩ := change_map (clock' := clock') hI hgo hκ g2 k2
        unfold execOp
        refine ⟨.skip, _, undef, ?_, .inr ⟨rfl, rfl⟩, C, i2, i1, .undef⟩
        rcases ho with ho | ho
        · rw [ho]; simp only [Sem.run_bind, k1, Result.andThen_ok, Sem.run_pure]
        · rw [ho]; simp only [Sem.run_bind, k1, Result.andThen_ok, Sem.run_pure]

theorem s_delete {t kt el : TypeId} {ks : List Nat} {c : Call} {m k : Operand} {m' k' : Opd} {t' : TypeId} (hI : Inv P cfg C σ w) (he : EnvR C env a.tmps) (ht : P.underlying t = some (.map kt el)) (hk : keyT P kt = some ks)
    (hm : opd m = some m') (hkx : opd k = some k') (ho : o.op = .call c) (hc : c.callee = .builtin .delete) (ha : c.args.toList = [m, k]) (hty : c.argTypes.toList = [t, t']) (h : op_delete ks m' k' env σ = some (v, τ)) : Runs P cfg C σ w (execOp a.eval o) v τ := by
  unfold op_delete at h
  have hvm := opd_VR hm he
  have hvk := opd_VR hkx he
  cases hmm : (m'.eval env).map? with
  | none => rw [hmm] at h; cases h
  | some id =>
    rw [hmm] at h; simp only at h
    cases hg : mapGet id σ ks with
    | none => rw [hg] at h; cases h
    | some es =>
      rw [hg] at h; simp only at h
      cases hko : keyOk ks (k'.eval env) with
      | false => rw [hko] at h; cases h
      | true =>
        rw [hko] at h; cases h
        have hkk := keyK hk hvk (keyOk_iff hko)
        obtain ⟨b, e1, hκ⟩ : ∃ b, a.eval m = .map (some b) ∧ C.κ id = some (.blk b) := by
          generalize m'.eval env = c at hmm hvm
          generalize a.eval m = ux at hvm
          cases hvm <;> simp at hmm
          rename_i hκ; subst hmm; exact ⟨_, rfl, hκ⟩
        have hgo := mapGet_get hg
        obtain ⟨b', ents, clock, g1, g2, g3⟩ := hI.obj _ _ hgo
        rw [hκ] at g1; cases g1
        obtain ⟨fs, f1, f2, f3, f4, f5⟩ := g3.keys hk hkk
        obtain ⟨r, r1, r2⟩ := map_found (w := w) f2 hkk f5
        have hck := key_check (P := P) (w := w) hkk ents.isEmpty 9998
        have key : ∃ ents' : Array MapEntry, (∀ ty, (Builtin.delete_ #[t, t'] ty #[a.eval m, a.eval k]).run P w = .ok (.tuple #[]) (World.putObj w b (.map ents' clock))) ∧ MapR C ks (mdel es (k'.eval env)) ents'.toList := by
          rcases r2 with ⟨rfl, hno⟩ | ⟨j, e, y, rfl, h2, h3, h4, h5⟩
          · refine ⟨ents, fun ty => ?_, g3.del hk hkk (.inl ⟨rfl, fun e he e' => ?_⟩)⟩
            · rw [e1]
              simp [Builtin.delete_, run_und ht, MapKept.run_getObj_map g2, hck, r1, run_setObj' _ g2 (by simp)]
            · obtain ⟨i, hi⟩ := List.mem_iff_getElem?.1 he
              have hlt := (List.getElem?_eq_some_iff.1 hi).1
              have hf : fs[i]? = some (fs[i]'(by omega)) := List.getElem?_eq_getElem _
              exact hno _ (List.mem_of_getElem? hf) (((f5 i _ e hf hi).1.det hkk).2 e')
          · have hlt := (List.getElem?_eq_some_iff.1 h2).1
            have hlt' : j < ents.size := by simpa using hlt
            refine ⟨ents.eraseIdxIfInBounds j, fun ty => ?_, g3.del hk hkk (.inr ⟨j, e, h2, h3, ?_⟩)⟩
            · rw [e1]
              simp [Builtin.delete_, run_und ht, MapKept.run_getObj_map g2, hck, r1, run_setObj' _ g2 (by simp)]
            · unfold Array.eraseIdxIfInBounds
              rw [dif_pos hlt', Array.toList_eraseIdx]
        obtain ⟨ents', k1, k2⟩ := key
        obtain ⟨i1, i2⟩ := change_map (clock' := clock) hI hgo hκ g2 k2
        have ha' : c.args = #[m, k] := Array.ext' ha
        have hty' : c.argTypes = #[t, t'] := Array.ext' hty
        unfold execOp; rw [ho]
        refine ⟨.value (.tuple #[]), _, _, ?_, .inl rfl, C, i2, i1, .undef⟩
        simp only [resolve, hc, ha', hty', Sem.run_bind, Sem.run_pure, Result.andThen_ok, invoke, builtin, List.map_toArray, List.map_cons, List.map_nil, k1]

theorem s_lenMap {t kt el : TypeId} {ks : List Nat} {c : Call} {x : Operand} {y : Opd} (hI : Inv P cfg C σ w) (he : EnvR C env a.tmps) (ht : P.underlying t = some (.map kt el)) (hx : opd x = some y)
    (ho : o.op = .call c) (hc : c.callee = .builtin .len) (ha : c.args.toList = [x]) (hty : c.argTypes.toList = [t]) (h : op_lenMap ks y env σ = some (v, τ)) : Runs P cfg C σ w (execOp a.eval o) v τ := by
  unfold op_lenMap at h
  cases hm : mapVals (y.eval env) σ ks with
  | none => rw [hm] at h; cases h
  | some es =>
    rw [hm] at h; cases h
    have hv := opd_VR hx he
    have key : ∀ ty, (Builtin.len_ #[t] ty #[a.eval x]).run P w = .ok (goInt es.length) w := by
      intro ty
      generalize y.eval env = q at hm hv
      generalize a.eval x = ux at hv
      cases hv <;> simp only [eq_mapVals_junk, eq_mapVals_undef, eq_mapVals_bool, eq_mapVals_int, eq_mapVals_str, eq_mapVals_nilp, eq_mapVals_nilm, eq_mapVals_nilf, eq_mapVals_nili, eq_mapVals_agg, eq_mapVals_tup, eq_mapVals_slice, eq_mapVals_hsl, eq_mapVals_ptr, eq_mapVals_eptr, eq_mapVals_map, eq_mapVals_itr, eq_mapVals_fn] at hm <;> first | (cases hm; done) | skip
      · cases hm
        simp [Builtin.len_, run_und ht]
      · rename_i id b hκ
        have hgo := mapGet_get hm
        obtain ⟨b', ents, clock, g1, g2, fs, g3, g4, _⟩ := hI.obj _ _ hgo
        rw [hκ] at g1; cases g1
        have hl : ents.size = es.length := by rw [← g3.length_eq, g4]; simp
        simp [Builtin.len_, run_und ht, MapKept.run_getObj_map g2, hl]
    have ha' : c.args = #[x] := Array.ext' ha
    have hty' : c.argTypes = #[t] := Array.ext' hty
    unfold execOp; rw [ho]
    refine ⟨.value (.int .i64 es.length), w, _, ?_, .inl rfl, .same hI (.int _ _)⟩
    simp only [resolve, hc, ha', hty', Sem.run_bind, Sem.run_pure, Result.andThen_ok, invoke, builtin, List.map_toArray, List.map_cons, List.map_nil, key]
    simp [goInt]

theorem s_eqAgg {t s : TypeId} {x y : Operand} {x' y' : Opd} {neg : Bool} {ks : List Nat} (hI : Inv P cfg C σ w) (he : EnvR C env a.tmps) (ht : plainStruct P t = some ks)
    (hx : opd x = some x') (hy : opd y = some y') (ho : o.op = .binOp (if neg then .neq else .eql) t x y s) (h : op_eqAgg neg ks x' y' env σ = some (v, τ)) : Runs P cfg C σ w (execOp a.eval o) v τ := by
  unfold op_eqAgg at h
  cases hp : (x'.eval env).agg? with
  | none => rw [hp] at h; cases h
  | some p =>
    rw [hp] at h; simp only at h
    cases hq : (y'.eval env).agg? with
    | none => rw [hq] at h; cases h
    | some q =>
      rw [hq] at h; simp only at h
      cases hb : (eqNs (shapesP p) ks && eqNs (shapesP q) ks) with
      | false => rw [hb] at h; cases h
      | true =>
        rw [hb] at h; cases h
        rw [Bool.and_eq_true] at hb
        have h1 := eqNs_eq.1 hb.1
        have h2 := eqNs_eq.1 hb.2
        obtain ⟨us, e1, v1⟩ := agg?_VR (opd_VR hx he) hp
        obtain ⟨vs, e2, v2⟩ := agg?_VR (opd_VR hy he) hq
        obtain ⟨fs, hu, hst, hg, hkf⟩ := plainStruct_some ht
        have hne := kindsF_ne hkf
        have c1 : CellsK C ks p us.toList := h1 ▸ cellsK (by simpa using v1.1) (fun i c v hc hv => v1.2 i c v hc (by simpa using hv)) (by rw [h1]; exact hne)
        have c2 : CellsK C ks q vs.toList := h2 ▸ cellsK (by simpa using v2.1) (fun i c v hc hv => v2.2 i c v hc (by simpa using hv)) (by rw [h2]; exact hne)
        have hfs : P.fieldsOf t = fs := by simp [Program.fieldsOf, hu]
        have hq : (Op.equalIn 10000 t (.agg us) (.agg vs)).run P w = .ok (eqPs p q) w := by
          rw [show (10000 : Nat) = 9999 + 1 from rfl, run_equalIn_agg w 9999 t _ _ (by rw [hfs]; exact hu) hst, hfs]
          exact eqFields_sound (P := P) (w := w) 9998 fs.toList 0 _ _ _ hkf c1 c2
        have hgd : ∀ op, (eqGuard op t x y (.agg us) (.agg vs)).run P w = .ok () w := fun op => run_eqGuard_agg w op t x y us vs hg
        unfold execOp; rw [ho]
        refine .val (u := .bool (eqPs p q != neg)) ?_ (.same hI (.bool _))
        rw [e1, e2, Sem.run_bind, hgd, Result.andThen_ok]
        cases neg
        · show (binOp .eql t _ _).run P w = _
          rw [run_eql_struct, hq]; simp
        · show (binOp .neq t _ _).run P w = _
          rw [run_neq_struct, hq]; simp

end Go.AM
namespace Go.AM
open Go.RowKit
variable {P : Program} {cfg : Cfg} {C : Ctx} {σ τ : St} {w : World} {env : Env} {a : Act} {o : Oper} {v : AV}

theorem chunk_cells {l : List AV} {sz : Nat} (h0 : 0 < sz) (h : sz ≤ l.length) :
    (bif Nat.beq sz 1 then (bif isCell (l.headD .junk) then l.headD .junk else .agg [l.headD .junk]) else .agg (l.take sz) : AV).cells = l.take sz := by
  by_cases h1 : sz = 1
  · subst h1
    cases l with
    | nil => simp at h
    | cons c r =>
      simp only [Nat.beq_refl, cond_true, List.headD_cons]
      cases hc : isCell c with
      | false => rfl
      | true =>
        rw [cond_true]
        cases c <;> first | rfl | simp at hc
  · rw [nbeq h1]; rfl

theorem chunks_get : ∀ (n sz : Nat) (l : List AV), 0 < sz → l.length = n * sz → (chunks sz n l).length = n ∧ ∀ (i : Nat) (e : AV), (chunks sz n l)[i]? = some e → e.cells.length = sz ∧ ∀ j, j < sz → e.cells[j]? = l[i * sz + j]? := by
  intro n sz
  induction n with
  | zero => intro l _ _; exact ⟨rfl, fun i e h => by have h' : ([] : List AV)[i]? = some e := h; simp at h'⟩
  | succ n ih =>
    intro l h0 hl
    rw [Nat.succ_mul] at hl
    have e1 : chunks sz (n + 1) l = (bif Nat.beq sz 1 then (bif isCell (l.headD .junk) then l.headD .junk else .agg [l.headD .junk]) else .agg (l.take sz)) :: chunks sz n (l.drop sz) := rfl
    obtain ⟨h1, h2⟩ := ih (l.drop sz) h0 (by simp; omega)
    rw [e1]
    refine ⟨by simp [h1], fun i e hi => ?_⟩
    cases i with
    | zero =>
      simp only [List.getElem?_cons_zero, Option.some.injEq] at hi
      subst hi
      rw [chunk_cells h0 (by omega)]
      refine ⟨by simp; omega, fun j hj => ?_⟩
      rw [List.getElem?_take_of_lt hj]; simp
    | succ i =>
      simp only [List.getElem?_cons_succ] at hi
      obtain ⟨h3, h4⟩ := h2 i e hi
      refine ⟨h3, fun j hj => ?_⟩
      rw [h4 j hj, List.getElem?_drop, Nat.succ_mul]
      congr 1; omega

/-- A row's cells, where it lies. -/
structure RowAt (C : Ctx) (w : World) (xs : List AV) (sz : Nat) (u : Value) (ad : Option Addr) (cap : Nat) (vs : List Value) : Prop where
  val : u = .slice ad xs.length cap
  cap : xs.length ≤ cap
  len : vs.length = xs.length * sz
  rel : ElR C xs sz vs.toArray
  at_ : xs ≠ [] → ∃ b off, ad = some ⟨b, off, none⟩ ∧ ∀ (j : Nat) (v : Value), vs[j]? = some v → w.cell? ⟨b, off + j, none⟩ = some v

theorem range_map_get {n : Nat} (f : Nat → Value) {k : Nat} (h : k < n) : ((List.range n).map f)[k]? = some (f k) := by simp [h]

theorem slice_row {es : List AV} {sz size b off : Nat} {u : Nat → Nat → Value} (hsz : 0 < sz) (hel : ∀ (i : Nat) (e : AV), es[i]? = some e → e.cells.length = size) (hlen : ∀ e ∈ es, e.cells.length = sz)
    (hS : ∀ (i : Nat) (e : AV) (j : Nat) (c : AV), es[i]? = some e → e.cells[j]? = some c → C.S b (off + i * size + j) = some (u i j))
    (hV : ∀ (i : Nat) (e : AV) (j : Nat) (c : AV), es[i]? = some e → e.cells[j]? = some c → VR C c (u i j)) :
    ∃ vs : List Value, vs.length = es.length * sz ∧ ElR C es sz vs.toArray ∧ ∀ (j : Nat) (v : Value), vs[j]? = some v → C.S b (off + j) = some v := by
  refine ⟨(List.range (es.length * sz)).map fun k => u (k / sz) (k % sz), by simp, ⟨by simp, fun i e he => ⟨hlen e (List.mem_of_getElem? he), fun j c hc => ?_⟩⟩, fun k v hv => ?_⟩
  · have hi := (List.getElem?_eq_some_iff.1 he).1
    have hj : j < sz := by have := (List.getElem?_eq_some_iff.1 hc).1; rw [hlen e (List.mem_of_getElem? he)] at this; exact this
    refine ⟨u i j, ?_, hV i e j c he hc⟩
    rw [List.getElem?_toArray, range_map_get _ (idx_lt hi hj), (divmod hj).1, (divmod hj).2]
  · have hk : k < es.length * sz := by have := (List.getElem?_eq_some_iff.1 hv).1; simpa using this
    rw [range_map_get _ hk] at hv; cases hv
    have hd : k / sz < es.length := Nat.div_lt_of_lt_mul (by rw [Nat.mul_comm]; exact hk)
    have he := List.getElem?_eq_getElem hd
    have h1 := hel _ _ he
    have h2 := hlen _ (List.mem_of_getElem? he)
    have : size = sz := by omega
    subst this
    have hm : k % size < (es[k / size]).cells.length := by rw [h2]; exact Nat.mod_lt _ hsz
    have := hS _ _ _ _ he (List.getElem?_eq_getElem hm)
    rw [Nat.add_assoc, show k / size * size + k % size = k by rw [Nat.mul_comm]; exact Nat.div_add_mod k size] at this
    exact this

theorem row_at (hI : Inv P cfg C σ w) {x : AV} {u : Value} {sz : Nat} {xs : List AV} (hv : VR C x u) (h : elemsOf x σ sz = some xs) (hsz : 0 < sz) (hlen : ∀ e ∈ xs, e.cells.length = sz) :
    ∃ ad cap vs, RowAt C w xs sz u ad cap vs := by
  cases hv <;> simp only [eq_elemsOf_junk, eq_elemsOf_undef, eq_elemsOf_bool, eq_elemsOf_int, eq_elemsOf_str, eq_elemsOf_nilp, eq_elemsOf_nilm, eq_elemsOf_nilf, eq_elemsOf_nili, eq_elemsOf_agg, eq_elemsOf_tup, eq_elemsOf_slice, eq_elemsOf_hsl, eq_elemsOf_ptr, eq_elemsOf_eptr, eq_elemsOf_map, eq_elemsOf_itr, eq_elemsOf_fn] at h <;> first | (cases h; done) | skip
  · rename_i tk ad b off cap size u hsz' hcap ha hel hS hV htk
    cases h
    obtain ⟨vs, h1, h2, h3⟩ := slice_row hsz hel hlen hS hV
    exact ⟨ad, cap, vs, rfl, hcap, h1, h2, fun hne => ⟨b, off, ha hne, fun j v hj => hI.lies _ _ _ (h3 j v hj)⟩⟩
  · rename_i ob off len z b st lim cap hκ hsz' hcap hlim
    unfold hslElems at h
    cases hc : σ.cells ob with
    | none => rw [hc] at h; cases h
    | some l =>
      rw [hc] at h; simp only at h
      cases hb : Nat.beq z sz with
      | false => rw [hb] at h; cases h
      | true =>
        rw [hb, cond_true] at h
        have := Nat.eq_of_beq_eq_true hb; subst this
        cases hsl : slc l off (len * z) with
        | none => rw [hsl] at h; cases h
        | some cs =>
          rw [hsl] at h; cases h
          obtain ⟨s1, s2, s3⟩ := slc_some hsl
          obtain ⟨c1, c2⟩ := chunks_get len z cs hsz s2
          obtain ⟨b', st', lim', ds, e, g1, g2, g3, g4, g5, g6⟩ := hI.obj _ _ (cells_get hc)
          rw [hκ] at g1; cases g1
          have hcell : ∀ (j : Nat) (c : AV), cs[j]? = some c → ∃ u, w.cell? ⟨b, st + off + j, none⟩ = some u ∧ VR C c u := fun j c hj => by
            have hjl : j < len * z := by have := (List.getElem?_eq_some_iff.1 hj).1; omega
            rw [s3 j hjl] at hj
            obtain ⟨u, hu, hr⟩ := g5 (off + j) c hj
            refine ⟨u, ?_, hr⟩
            simp only [World.cell?, g2]
            rw [show st + off + j = st + (off + j) by omega]; simpa using hu
          obtain ⟨vs, v1, v2, v3⟩ := choose_values cs hcell
          refine ⟨_, cap, vs, by rw [c1], by rw [c1]; exact hcap, by rw [c1, v1, s2], ⟨by rw [c1]; simp [v1, s2], fun i e he => ⟨(c2 i e he).1, fun j c hcc => ?_⟩⟩, fun _ => ⟨b, st + off, rfl, v2⟩⟩
          have hj : j < z := by have := (List.getElem?_eq_some_iff.1 hcc).1; rw [(c2 i e he).1] at this; exact this
          have hi : i < len := by have := (List.getElem?_eq_some_iff.1 he).1; rw [c1] at this; exact this
          rw [(c2 i e he).2 j hj] at hcc
          have hlt : i * z + j < vs.length := by rw [v1, s2]; exact idx_lt hi hj
          refine ⟨vs[i * z + j], by simp [hlt], v3 _ _ _ hcc (List.getElem?_eq_getElem hlt)⟩

theorem RowAt.first {xs : List AV} {sz : Nat} {u : Value} {ad : Option Addr} {cap : Nat} {vs : List Value} (h : RowAt C w xs sz u ad cap vs) {w' : World} (hw : ∀ b off : Nat, w'.cell? ⟨b, off, none⟩ = w.cell? ⟨b, off, none⟩) :
    (Builtin.firstCells sz xs.length u).run P w' = .ok vs.toArray w' := by
  rw [h.val]
  by_cases hx : xs = []
  · subst hx
    have : vs = [] := List.eq_nil_of_length_eq_zero (by rw [h.len]; simp)
    subst this
    cases ad with
    | none => rfl
    | some ad => simp [Builtin.firstCells, loadCells, loadCellsFrom]
  · obtain ⟨b, off, rfl, h2⟩ := h.at_ hx
    have := run_loadCells (P := P) (w := w') (b := b) (off := off) vs (fun j v hj => by rw [hw]; exact h2 j v hj)
    simp only [Builtin.firstCells]
    rw [← h.len, this]

end Go.AM
namespace Go.AM
open Go.RowKit
variable {P : Program} {cfg : Cfg} {C : Ctx} {σ τ : St} {w : World} {env : Env} {a : Act} {o : Oper} {v : AV}

theorem run_append_in {t u ty e e' : TypeId} {i : TypeInfo} (ht : P.underlying t = some (.slice e)) (hu : P.underlying u = some (.slice e')) (hi : P.info? e = some i)
    {base : Option Addr} {n cap m : Nat} {ad : Option Addr} {c : Nat} {vs : List Value} {w' : World} (hneed : n + m ≤ cap) (hf : (Builtin.firstCells i.size m (.slice ad m c)).run P w = .ok vs.toArray w)
    (hst : match base with | some b => (Go.storeCells (b.add (n * i.size)) vs).run P w = .ok () w' | none => w' = w) :
    (Builtin.append_ #[t, u] ty #[.slice base n cap, .slice ad m c]).run P w = .ok (.slice base (n + m) cap) w' := by
  cases base with
  | none =>
    simp only at hst; subst hst
    simp [Builtin.append_, run_underlying ht, run_underlying hu, sizeOf, typeInfo, hi, Builtin.lenOf, hneed, hf]
  | some b =>
    simp only at hst
    simp [Builtin.append_, run_underlying ht, run_underlying hu, sizeOf, typeInfo, hi, Builtin.lenOf, hneed, hf, hst]

theorem run_append_new {t u ty e e' : TypeId} {i : TypeInfo} {z : Value} (ht : P.underlying t = some (.slice e)) (hu : P.underlying u = some (.slice e')) (hi : P.info? e = some i) (hz : i.zero = some z)
    {base : Option Addr} {n cap m : Nat} {ad : Option Addr} {c : Nat} {olds news : List Value} (hneed : cap < n + m)
    (hfo : (Builtin.firstCells i.size n (.slice base n cap)).run P w.drew = .ok olds.toArray w.drew) (hfn : (Builtin.firstCells i.size m (.slice ad m c)).run P w.drew = .ok news.toArray w.drew)
    (hb : n + m ≤ 4294967296) (hby : i.bytes ≤ 256) :
    (Builtin.append_ #[t, u] ty #[.slice base n cap, .slice ad m c]).run P w = .ok (.slice (some ⟨w.heap.size, 0, none⟩) (n + m) (grownCap w (n + m) cap e))
      (w.drew.alloc (.cells (olds.toArray ++ news.toArray ++ Builtin.zeroCells z.cells (grownCap w (n + m) cap e - (n + m))) e)) := by
  have hn : ¬(n + m ≤ cap) := by omega
  have h63 : ¬(9223372036854775807 < ((n : Int) + (m : Int))) := by omega
  have h48 : ¬(281474976710656 < Builtin.nextslicecap (n + m) cap * i.bytes) := by
    have h1 := nextslicecap_le hneed
    have h2 : Builtin.nextslicecap (n + m) cap * i.bytes ≤ (2 * (n + m)) * 256 := Nat.mul_le_mul h1 hby
    omega
  simp [Builtin.append_, run_underlying ht, run_underlying hu, sizeOf, typeInfo, zeroValue, hi, hz, Builtin.lenOf, hn, h63, h48, Question.forced, hfo, hfn, newRow, grownCap]
  congr 2
  apply Array.ext'
  simp [List.append_assoc]

theorem ElR.append {es xs : List AV} {sz : Nat} {vs us : List Value} (h1 : ElR C es sz vs.toArray) (hl : vs.length = es.length * sz) (h2 : ElR C xs sz us.toArray) (hl2 : us.length = xs.length * sz) (rest : Array Value) :
    ElR C (es ++ xs) sz (vs.toArray ++ us.toArray ++ rest) := by
  refine ⟨by simp [hl, hl2, Nat.add_mul], fun i e he => ?_⟩
  by_cases hi : i < es.length
  · rw [List.getElem?_append_left hi] at he
    refine ⟨(h1.2 i e he).1, fun j c hc => ?_⟩
    have hj : j < sz := by have := (List.getElem?_eq_some_iff.1 hc).1; rw [(h1.2 i e he).1] at this; exact this
    obtain ⟨u, hu, hr⟩ := (h1.2 i e he).2 j c hc
    have hlt := idx_lt hi hj
    refine ⟨u, ?_, hr⟩
    rw [Array.append_assoc, Array.getElem?_append_left (by simp [hl]; exact hlt)]; exact hu
  · rw [List.getElem?_append_right (by omega)] at he
    refine ⟨(h2.2 _ e he).1, fun j c hc => ?_⟩
    have hj : j < sz := by have := (List.getElem?_eq_some_iff.1 hc).1; rw [(h2.2 _ e he).1] at this; exact this
    obtain ⟨u, hu, hr⟩ := (h2.2 _ e he).2 j c hc
    have hlt2 := idx_lt (List.getElem?_eq_some_iff.1 he).1 hj
    have hmul : (i - es.length) * sz + es.length * sz = i * sz := by rw [← Nat.add_mul]; congr 1; omega
    refine ⟨u, ?_, hr⟩
    rw [Array.getElem?_append_left (by simp [hl, hl2]; omega), Array.getElem?_append_right (by simp [hl]; omega)]
    simp only [List.size_toArray, hl]
    rw [show i * sz + j - es.length * sz = (i - es.length) * sz + j by omega]; exact hu

theorem ElR.stripCells {xs : List AV} {sz : Nat} {us : Array Value} (h : ElR C xs sz us) : ElR C (xs.map stripCell) sz us := by
  refine ⟨by simpa using h.1, fun i e he => ?_⟩
  rw [List.getElem?_map] at he
  cases hx : xs[i]? with
  | none => rw [hx] at he; cases he
  | some x =>
    rw [hx] at he; cases he
    refine ⟨by rw [strip_cells]; exact (h.2 i x hx).1, fun j c hc => ?_⟩
    have key : ∀ (y : AV), (stripCell y).cells[j]? = some c → ∃ c', y.cells[j]? = some c' ∧ (c = c' ∨ c = strip c') := by
      intro y hy
      cases y <;> simp only [eq_stripCell_junk, eq_stripCell_undef, eq_stripCell_bool, eq_stripCell_int, eq_stripCell_str, eq_stripCell_nilp, eq_stripCell_nilm, eq_stripCell_nilf, eq_stripCell_nili, eq_stripCell_agg, eq_stripCell_tup, eq_stripCell_slice, eq_stripCell_hsl, eq_stripCell_ptr, eq_stripCell_eptr, eq_stripCell_map, eq_stripCell_itr, eq_stripCell_fn, eq_stripCell_iface] at hy <;> first | exact ⟨c, hy, .inl rfl⟩ | skip
      · rename_i cs
        simp only [eq_AV_cells_agg, List.getElem?_map, Option.map_eq_some_iff] at hy
        obtain ⟨c', h1, rfl⟩ := hy
        exact ⟨c', h1, .inr rfl⟩
      · rename_i es tk
        simp only [eq_AV_cells_slice] at hy ⊢
        cases j with
        | zero => simp at hy; exact ⟨_, rfl, .inr hy.symm⟩
        | succ j => simp at hy
    obtain ⟨c', h1, h2⟩ := key x hc
    obtain ⟨u, hu, hr⟩ := (h.2 i x hx).2 j c' h1
    refine ⟨u, hu, ?_⟩
    rcases h2 with rfl | rfl
    · exact hr
    · exact hr.strip

theorem oneCells {xs : List AV} {sz : Nat} {vs : List Value} (h : ElR C xs sz vs.toArray) (hl : vs.length = xs.length * sz) (hsz : 0 < sz) (hc : ∀ e ∈ xs, ∀ c ∈ e.cells, isCell c = true) : ∀ x ∈ vs, x.oneCell' = true := by
  intro x hx
  obtain ⟨k, hk⟩ := List.mem_iff_getElem?.1 hx
  have hlt : k < xs.length * sz := by rw [← hl]; exact (List.getElem?_eq_some_iff.1 hk).1
  have hd : k / sz < xs.length := Nat.div_lt_of_lt_mul (by rw [Nat.mul_comm]; exact hlt)
  have he := List.getElem?_eq_getElem hd
  have hm : k % sz < (xs[k / sz]).cells.length := by rw [(h.2 _ _ he).1]; exact Nat.mod_lt _ hsz
  have hcc := List.getElem?_eq_getElem hm
  obtain ⟨u, hu, hr⟩ := (h.2 _ _ he).2 _ _ hcc
  rw [show k / sz * sz + k % sz = k by rw [Nat.mul_comm]; exact Nat.div_add_mod k sz] at hu
  rw [List.getElem?_toArray, hk] at hu; cases hu
  exact hr.oneCell (hc _ (List.mem_of_getElem? he) _ (List.mem_of_getElem? hcc))

/-- More cells that nobody writes any more, and a token for what lies behind. -/
def Ctx.ext (C : Ctx) (b : Nat) (f : Nat → Option Value) (i g : Nat) (r : Nat × Nat × Nat × Nat) : Ctx :=
  { C with S := fun b' x => if b' = b then (f x).orElse (fun _ => C.S b' x) else C.S b' x, T := fun i' g' => if i' = i ∧ g' = g then some r else C.T i' g' }
theorem Ctx.ext_le {C : Ctx} {b : Nat} {f : Nat → Option Value} {i g : Nat} {r : Nat × Nat × Nat × Nat} (hf : ∀ x u, f x = some u → C.S b x = none) (hT : C.T i g = none) : C.Le (C.ext b f i g r) := by
  refine ⟨fun b' x u h => ?_, fun _ _ h => h, fun i' g' r' h => ?_⟩
  · show (if b' = b then (f x).orElse (fun _ => C.S b' x) else C.S b' x) = some u
    split
    · rename_i e; subst e
      cases hx : f x with
      | none => exact h
      | some u' => rw [hf x u' hx] at h; cases h
    · exact h
  · show (if i' = i ∧ g' = g then some r else C.T i' g') = some r'
    rw [if_neg (fun ⟨e1, e2⟩ => by subst e1; subst e2; rw [hT] at h; cases h)]; exact h
theorem Ctx.ext_S {C : Ctx} {b : Nat} {f : Nat → Option Value} {i g : Nat} {r : Nat × Nat × Nat × Nat} {x : Nat} {u : Value} (h : f x = some u) : (C.ext b f i g r).S b x = some u := by
  show (if b = b then (f x).orElse (fun _ => C.S b x) else C.S b x) = some u
  rw [if_pos rfl, h]; rfl
theorem Ctx.ext_T {C : Ctx} {b : Nat} {f : Nat → Option Value} {i g : Nat} {r : Nat × Nat × Nat × Nat} : (C.ext b f i g r).T i g = some r := if_pos ⟨rfl, rfl⟩
theorem Ctx.ext_back {C : Ctx} {b : Nat} {f : Nat → Option Value} {i g : Nat} {r : Nat × Nat × Nat × Nat} {b' x : Nat} {u : Value} (h : (C.ext b f i g r).S b' x = some u) : (b' = b ∧ f x = some u) ∨ C.S b' x = some u := by
  have h' : (if b' = b then (f x).orElse (fun _ => C.S b' x) else C.S b' x) = some u := h
  split at h'
  · rename_i e
    cases hx : f x with
    | none => rw [hx] at h'; exact .inr h'
    | some u' => rw [hx] at h'; exact .inl ⟨e, h'⟩
  · exact .inr h'
theorem Ctx.ext_T' {C : Ctx} {b : Nat} {f : Nat → Option Value} {i g : Nat} {r : Nat × Nat × Nat × Nat} {i' g' : Nat} (h : ¬(i' = i ∧ g' = g)) : (C.ext b f i g r).T i' g' = C.T i' g' := if_neg h

/-- What a row that has grown elsewhere is. -/
theorem grown_VR {D : Ctx} {es : List AV} {sz b need cap i g : Nat} {cs : Array Value} (h : ElR D es sz cs) (hsz : 0 < sz) (hn : es.length = need) (hcap : need ≤ cap)
    (hS : ∀ x, x < need * sz → ∀ u, cs[x]? = some u → D.S b x = some u) (hT : D.T i g = some (b, need * sz, cap * sz, sz)) :
    VR D (.slice es (.live i g)) (.slice (some ⟨b, 0, none⟩) need cap) := by
  subst hn
  refine .slice es _ _ b 0 cap sz (fun i j => cs.getD (i * sz + j) undef) hsz hcap (fun _ => rfl) (fun i e he => (h.2 i e he).1) (fun i e j c he hc => ?_) (fun i e j c he hc => (h.get_value he hc).2) ⟨rfl, by rw [hT, Nat.zero_add, Nat.zero_add]⟩
  have hj : j < sz := by have := (List.getElem?_eq_some_iff.1 hc).1; rw [(h.2 i e he).1] at this; exact this
  rw [Nat.zero_add]
  exact hS _ (idx_lt (List.getElem?_eq_some_iff.1 he).1 hj) _ (h.get_value he hc).1

end Go.AM
namespace Go.AM
open Go.RowKit
variable {P : Program} {cfg : Cfg} {C : Ctx} {σ τ : St} {w : World} {env : Env} {a : Act} {o : Oper} {v : AV}

/-- What an append is told of. -/
structure AppAt (P : Program) (t u e e' : TypeId) (i : TypeInfo) (z : Value) : Prop where
  ht : P.underlying t = some (.slice e)
  hu : P.underlying u = some (.slice e')
  hi : P.info? e = some i
  hz : i.zero = some z
  hp : 0 < i.size
  hzs : z.cells.size = i.size

theorem zeroCells_size (z : Array Value) (n : Nat) : (Builtin.zeroCells z n).size = n * z.size := by simp [Builtin.zeroCells]

def firstN (cs : Array Value) (n x : Nat) : Option Value := if x < n then cs[x]? else none
theorem firstN_some {cs : Array Value} {n x : Nat} {u : Value} (h : firstN cs n x = some u) : x < n ∧ cs[x]? = some u := by
  unfold firstN at h
  split at h
  · exact ⟨by assumption, h⟩
  · cases h
theorem firstN_of {cs : Array Value} {n x : Nat} {u : Value} (h : x < n) (hu : cs[x]? = some u) : firstN cs n x = some u := by
  unfold firstN; rw [if_pos h, hu]

/-- A new row, from what was not appended to. -/
theorem full_done (hI : Inv P cfg C σ w) {ys : List AV} {sz need newCap : Nat} {cs : Array Value} (hp : 0 < sz) (hlen : ys.length = need) (hge : need ≤ newCap) (hsz : cs.size = newCap * sz) (hR : ElR C ys sz cs) (hf : Fresh C σ.next (σ.next + 1)) (e : TypeId) :
    Done C σ w (.slice ys (.live σ.next 0)) (σ.add (.tok 0 sz)) (.slice (some ⟨w.heap.size, 0, none⟩) need newCap) (w.drew.alloc (.cells cs e)) P cfg := by
  obtain ⟨f1, f2⟩ := fresh_one hf
  have hno : ∀ x, C.S w.heap.size x = none := fun x => sealed_new hI (Nat.le_refl _)
  let D := C.ext w.heap.size (firstN cs (need * sz)) σ.next 0 (w.heap.size, need * sz, newCap * sz, sz)
  have hle : C.Le D := Ctx.ext_le (fun x u _ => hno x) (f2 0)
  have hmul : need * sz ≤ newCap * sz := Nat.mul_le_mul_right _ hge
  obtain ⟨k1, k2⟩ := hI.new (D := D) (w' := w.drew.alloc (.cells cs e)) (o := .tok 0 sz) hle (fun _ _ => rfl) (fun i' g hi => Ctx.ext_T' (fun h => hi h.1)) (fun b x u hb h => by
      rcases Ctx.ext_back h with ⟨e, _⟩ | h
      · omega
      · exact h) (by show w.heap.size ≤ (w.heap.push _).size; simp) rfl rfl rfl (fun b hb => Below.heap_alloc w _ b hb) (fun b x u hb h => by
      rcases Ctx.ext_back h with ⟨e1, h'⟩ | h'
      · have hx := (firstN_some h').2
        subst e1
        have : (w.drew.alloc (.cells cs e)).heap[w.heap.size]? = some (.cells cs e (0, 0)) := heap_new w.drew _
        simp only [World.cell?, this]; simpa using hx
      · rw [sealed_new hI hb] at h'; cases h')
    ⟨w.heap.size, _, _, cs, e, Ctx.ext_T, heap_new w.drew _, hmul, by rw [hsz]; exact Nat.le_refl _, ⟨fun x hx _ => by
      cases hs : D.S w.heap.size x with
      | none => rfl
      | some u =>
        rcases Ctx.ext_back hs with ⟨_, h⟩ | h
        · have := (firstN_some h).1; omega
        · rw [hno] at h; exact absurd h (by simp), fun h hh => by
      show D.T _ _ = none
      rw [Ctx.ext_T' (fun e => by have := e.2; omega)]; exact f2 h⟩⟩
    (fun b hb => by
      have : (D.T σ.next 0).map (·.1) = some b := hb
      rw [Ctx.ext_T] at this; cases this; exact Nat.le_refl _)
  refine ⟨D, k2, k1, ?_⟩
  exact grown_VR (hR.mono hle) hp hlen hge (fun x hx u hu => Ctx.ext_S (firstN_of hx hu)) Ctx.ext_T


end Go.AM
