/- A part of the proof of: EmitBecomes: what a term becomes by patterns, and a pattern's name, is what the document says, or the error is told. -/
import Derived.Test.YtkopdkjpmccbmaaGreatDoorM15
namespace Go.AM
open Go.RowKit
variable {P : Program} {cfg : Cfg} {C : Ctx} {σ τ : St} {w : World} {env : Env} {a : Act} {o : Oper} {v : AV}

/-- Cells laid over others. -/
def overC (cs : Array Value) (e0 : Nat) (vs : List Value) : Array Value := (cs.toList.take e0 ++ vs ++ cs.toList.drop (e0 + vs.length)).toArray

theorem overC_over (cs : Array Value) (e0 : Nat) (us vs : List Value) (h : us.length = vs.length) (hf : e0 + us.length ≤ cs.size) : overC (overC cs e0 us) e0 vs = overC cs e0 vs := by
  unfold overC
  have h1 : (cs.toList.take e0).length = e0 := by simp; omega
  congr 1
  have e1 : (cs.toList.take e0 ++ us ++ cs.toList.drop (e0 + us.length)).toArray.toList = cs.toList.take e0 ++ (us ++ cs.toList.drop (e0 + us.length)) := by simp
  rw [e1]
  rw [List.take_append_of_le_length (by omega), List.take_of_length_le (by omega), ← h]
  rw [List.drop_append, List.drop_eq_nil_of_le (by omega), List.nil_append, h1, show e0 + us.length - e0 = us.length by omega, List.drop_append, List.drop_eq_nil_of_le (Nat.le_refl _), List.nil_append, Nat.sub_self, List.drop_zero]

theorem alloc_setRow (w : World) (cs cs' : Array Value) (e : TypeId) : (w.alloc (.cells cs e)).setRow w.heap.size cs' = w.alloc (.cells cs' e) := by
  unfold World.setRow World.alloc
  simp only [World.mk.injEq, and_true]
  apply Array.ext
  · simp
  · intro i h1 h2
    simp only [Array.getElem_modify, Array.getElem_push]
    by_cases hi : i = w.heap.size
    · subst hi; simp
    · have : i < w.heap.size := by simp at h2; omega
      rw [if_neg (fun e => hi e.symm), dif_pos this, dif_pos this]
theorem setRow_setRow (w : World) (b : Nat) (cs cs' : Array Value) : (w.setRow b cs).setRow b cs' = w.setRow b cs' := by
  unfold World.setRow
  simp only [World.mk.injEq, and_true]
  apply Array.ext
  · simp
  · intro i h1 h2
    simp only [Array.getElem_modify]
    by_cases hi : b = i
    · have hi' : i < w.heap.size := by simpa using h1
      simp only [hi, if_true]
      cases w.heap[i] <;> rfl
    · simp [hi]
theorem setRow_comm (w : World) {b c : Nat} (h : b ≠ c) (cs cs' : Array Value) : (w.setRow b cs).setRow c cs' = (w.setRow c cs').setRow b cs := by
  unfold World.setRow
  simp only [World.mk.injEq, and_true]
  apply Array.ext
  · simp
  · intro i h1 h2
    simp only [Array.getElem_modify]
    by_cases hb : b = i
    · subst hb
      have hcb : ¬c = b := fun e => h e.symm
      simp only [if_neg hcb, if_true]
    · simp [hb]


theorem overC_spec {cs : Array Value} {e0 : Nat} {vs : List Value} (h : e0 + vs.length ≤ cs.size) :
    (overC cs e0 vs).size = cs.size ∧ (∀ x, x < e0 ∨ e0 + vs.length ≤ x → (overC cs e0 vs)[x]? = cs[x]?) ∧ ∀ k, k < vs.length → (overC cs e0 vs)[e0 + k]? = vs[k]? := laid_over h

/-- The last element laid over by another one. -/
theorem ElR.last {es : List AV} {y x : AV} {sz : Nat} {cs : Array Value} {ux : Array Value} (h : ElR C (es ++ [y]) sz cs) (hx : VRs C x.cells ux) (hl : x.cells.length = sz) : ElR C (es ++ [stripCell x]) sz (overC cs (es.length * sz) ux.toList) ∧ es.length * sz + sz ≤ cs.size := by
  have hlen : (es ++ [y]).length * sz = es.length * sz + sz := by simp [Nat.add_mul]
  have hfit : es.length * sz + ux.toList.length ≤ cs.size := by
    have := h.1; rw [hlen] at this
    have := hx.1
    simp only [Array.length_toList]; omega
  have hul : ux.toList.length = sz := by rw [Array.length_toList, ← hx.1]; exact hl
  obtain ⟨l1, l2, l3⟩ := overC_spec hfit
  have hone : ElR C [x] sz ux := ⟨by simp [← hx.1, hl], fun i e he => by
    cases i with
    | zero =>
      simp only [List.getElem?_cons_zero, Option.some.injEq] at he; subst he
      exact ⟨hl, fun j c hc => by
        obtain ⟨u, hu, hr⟩ := hx.get hc
        exact ⟨u, by simpa using hu, hr⟩⟩
    | succ i => simp at he⟩
  have hs := hone.stripCells
  refine ⟨⟨by rw [l1]; simpa using h.1, fun i e he => ?_⟩, by omega⟩
  by_cases hi : i < es.length
  · rw [List.getElem?_append_left hi] at he
    have he' : (es ++ [y])[i]? = some e := by rw [List.getElem?_append_left hi]; exact he
    obtain ⟨k1, k2⟩ := h.2 i e he'
    refine ⟨k1, fun j c hc => ?_⟩
    obtain ⟨u, hu, hr⟩ := k2 j c hc
    have hj : j < sz := by have := (List.getElem?_eq_some_iff.1 hc).1; omega
    refine ⟨u, ?_, hr⟩
    rw [l2 _ (.inl (idx_lt hi hj))]; exact hu
  · rw [List.getElem?_append_right (by omega)] at he
    have h0 : i - es.length = 0 := by
      have := (List.getElem?_eq_some_iff.1 he).1; simp at this; omega
    have hie : i = es.length := by omega
    subst hie
    obtain ⟨k1, k2⟩ := hs.2 0 e (by rw [← h0]; exact he)
    refine ⟨k1, fun j c hc => ?_⟩
    obtain ⟨u, hu, hr⟩ := k2 j c hc
    have hj : j < sz := by have := (List.getElem?_eq_some_iff.1 hc).1; omega
    refine ⟨u, ?_, hr⟩
    rw [l3 j (by omega)]
    simpa using hu

theorem one_strip {x : AV} {ux : Array Value} {sz : Nat} (hx : VRs C x.cells ux) (hl : x.cells.length = sz) : ElR C [stripCell x] sz ux.toList.toArray := by
  have hone : ElR C [x] sz ux := ⟨by simp [← hx.1, hl], fun i e he => by
    cases i with
    | zero =>
      simp only [List.getElem?_cons_zero, Option.some.injEq] at he; subst he
      exact ⟨hl, fun j c hc => by
        obtain ⟨u, hu, hr⟩ := hx.get hc
        exact ⟨u, by simpa using hu, hr⟩⟩
    | succ i => simp at he⟩
  have := hone.stripCells
  simpa using this

/-- The append of a zero, and what comes of it when the element is stored. -/
theorem apz_run {t u e e' : TypeId} {i : TypeInfo} {z : Value} (hA : AppAt P t u e e' i z) (hI : Inv P cfg C σ w) {es : List AV} {tk : Tok} {us : Value} (hvs : VR C (.slice es tk) us)
    {uz : Value} {zr : AV} {adz : Option Addr} {capz : Nat} {vz : List Value} (hz : RowAt C w [zr] i.size uz adz capz vz) (hzc : ∀ c ∈ zr.cells, isCell c = true)
    {x : AV} {ux : Value} (hx : VR C x ux) (h : appSlice es tk i.size i.bytes false [x] σ = some (v, τ)) (hf : Fresh C σ.next τ.next) :
    ∃ (b off cap : Nat) (w1 : World) (cs1 : Array Value) (e1 : TypeId), (∀ ty, (Builtin.append_ #[t, u] ty #[us, uz]).run P w = .ok (.slice (some ⟨b, off, none⟩) (es.length + 1) cap) w1) ∧
      us = .slice (match us with | .slice a _ _ => a | _ => none) es.length (match us with | .slice _ _ c => c | _ => 0) ∧
      w1.heap[b]? = some (.cells cs1 e1 (0, 0)) ∧ off + es.length * i.size + i.size ≤ cs1.size ∧ w.heap.size ≤ w1.heap.size ∧
      (∀ b', b' < w.heap.size → b' ≠ b → w1.heap[b']? = w.heap[b']?) ∧
      (∀ id ob b', σ.get id = some ob → (∀ g s, ob ≠ .tok g s) → objB C id ob = some b' → b' ≠ b) ∧
      ux.cells.size = i.size ∧ (∀ y ∈ ux.cells.toList, y.oneCell' = true) ∧
      Done C σ w v τ (.slice (some ⟨b, off, none⟩) (es.length + 1) cap) (w1.setRow b (overC cs1 (off + es.length * i.size) ux.cells.toList)) P cfg := by
  cases hvs with
  | slice _ _ ad b off cap size u0 hsz hcap ha hel hS hV htk =>
    unfold appSlice at h
    cases hc : (fits (es.length + [x].length) i.bytes && [x].all (elemOk i.size) && headOk i.size es) with
    | false => rw [hc] at h; cases h
    | true =>
      rw [hc, cond_true] at h
      simp only [Bool.and_eq_true, fits] at hc
      obtain ⟨⟨⟨hb1, hb2⟩, hx1⟩, hh⟩ := hc
      have hb1 := Nat.le_of_ble_eq_true hb1
      have hb2 := Nat.le_of_ble_eq_true hb2
      obtain ⟨x1, x2⟩ := elemOk_iff hx1
      have x1 := x1 x (by simp)
      have x2 := x2 x (by simp)
      have hxv := hx.cells (known_cells x2)
      have hxs : ux.cells.size = i.size := by rw [← hxv.1]; exact x1
      have hxo : ∀ y ∈ ux.cells.toList, y.oneCell' = true := fun y hy => by
        obtain ⟨k, hk⟩ := List.mem_iff_getElem?.1 hy
        have hkl : k < x.cells.length := by have := (List.getElem?_eq_some_iff.1 hk).1; rw [Array.length_toList, hxs, ← x1] at this; exact this
        exact (hxv.2 k _ y (List.getElem?_eq_getElem hkl) (by simpa using hk)).oneCell (x2 _ (List.getElem_mem hkl))
      have hsame := head_all hh hel
      have hallS : ∀ e ∈ es, e.cells.length = i.size := fun e he => by
        obtain ⟨j, hj⟩ := List.mem_iff_getElem?.1 he
        rw [hel j e hj]; exact hsame (fun e' => by subst e'; cases he)
      obtain ⟨vs, v1, v2, v3⟩ := slice_row hA.hp hel hallS hS hV
      have h1 : RowAt C w es i.size (.slice ad es.length cap) ad cap vs := ⟨rfl, hcap, v1, v2, fun hne => ⟨b, off, ha hne, fun j v hj => hI.lies _ _ _ (v3 j v hj)⟩⟩
      have grown : cap < es.length + 1 → (∀ (cs : Array Value) (newCap : Nat), es.length + 1 ≤ newCap → cs.size = newCap * i.size → ElR C (es ++ [stripCell x]) i.size cs → Done C σ w v τ (.slice (some ⟨w.heap.size, 0, none⟩) (es.length + 1) newCap) (w.drew.alloc (.cells cs e)) P cfg) →
          ∃ (b off' cap' : Nat) (w1 : World) (cs1 : Array Value) (e1 : TypeId), (∀ ty, (Builtin.append_ #[t, u] ty #[.slice ad es.length cap, uz]).run P w = .ok (.slice (some ⟨b, off', none⟩) (es.length + 1) cap') w1) ∧
            Value.slice ad es.length cap = .slice ad es.length cap ∧
            w1.heap[b]? = some (.cells cs1 e1 (0, 0)) ∧ off' + es.length * i.size + i.size ≤ cs1.size ∧ w.heap.size ≤ w1.heap.size ∧
            (∀ b', b' < w.heap.size → b' ≠ b → w1.heap[b']? = w.heap[b']?) ∧
            (∀ id ob b', σ.get id = some ob → (∀ g s, ob ≠ .tok g s) → objB C id ob = some b' → b' ≠ b) ∧
            ux.cells.size = i.size ∧ (∀ y ∈ ux.cells.toList, y.oneCell' = true) ∧
            Done C σ w v τ (.slice (some ⟨b, off', none⟩) (es.length + 1) cap') (w1.setRow b (overC cs1 (off' + es.length * i.size) ux.cells.toList)) P cfg := by
        intro hgrow hdone
        obtain ⟨cs, newCap, hrun, hge, hcsz, hR, _⟩ := app_run hA h1 hz (by simpa using hgrow) (by simpa using hb1) hb2
        obtain ⟨r1, r2⟩ := hR.last hxv x1
        have hov : (overC cs (es.length * i.size) ux.cells.toList).size = cs.size := (overC_spec (by simp only [Array.length_toList]; omega)).1
        refine ⟨w.heap.size, 0, newCap, _, cs, e, hrun, rfl, heap_new w.drew _, by omega, by show w.heap.size ≤ (w.heap.push _).size; simp, fun b' hb' _ => Below.heap_alloc w _ b' hb', fun id ob b' hg _ hb' => ?_, hxs, hxo, ?_⟩
        · have := hI.ownedLt ⟨id, ob, hg, hb'⟩; omega
        · rw [Nat.zero_add]
          have := hdone _ newCap (by simpa using hge) (by rw [hov]; exact hcsz) r1
          have ea : (w.drew.alloc (.cells cs e)).setRow w.heap.size (overC cs (es.length * i.size) ux.cells.toList) = w.drew.alloc (.cells (overC cs (es.length * i.size) ux.cells.toList) e) := alloc_setRow w.drew _ _ _
          rw [ea]; exact this
      have hxe : [x].isEmpty = false := rfl
      rw [hxe, cond_false, cond_false] at h
      cases tk with
      | none => cases h
      | full =>
        cases h
        have hfull : cap = es.length := htk
        exact grown (by omega) fun cs newCap hge hcsz hR => full_done hI hA.hp (by simp) hge hcsz hR hf e
      | live id g =>
        simp only [grow] at h
        cases hto : σ.tokOf id with
        | none => rw [hto] at h; cases h
        | some p =>
          obtain ⟨g', z'⟩ := p
          rw [hto] at h; simp only at h
          cases hgz : (Nat.beq g' g && Nat.beq z' i.size) with
          | false => rw [hgz] at h; cases h
          | true =>
            rw [hgz] at h; cases h
            rw [Bool.and_eq_true] at hgz
            have e1 := Nat.eq_of_beq_eq_true hgz.1
            have e2 := Nat.eq_of_beq_eq_true hgz.2
            subst e1; subst e2
            have htok := tok_get hto
            obtain ⟨q1, q2⟩ := htk
            have hszeq : size = i.size := by
              obtain ⟨b', e0, lim, cs0, el, t1, _⟩ := hI.obj _ _ htok
              rw [q2] at t1
              simp only [Option.some.injEq, Prod.mk.injEq] at t1
              exact t1.2.2.2
            subst hszeq
            by_cases hroom : es.length + 1 ≤ cap
            · obtain ⟨b', e0, lim, cs0, el, t1, t2, _⟩ := hI.obj _ _ htok
              rw [q2] at t1; cases t1
              have r2 := hz.first (P := P) (w' := w) (fun _ _ => rfl)
              rw [hz.val] at r2
              have hlz : vz.length = i.size := by rw [hz.len]; simp
              have hux : ux.cells.toList.length = i.size := by rw [Array.length_toList]; exact hxs
              obtain ⟨d1, d2⟩ := in_done hI hA.hp hel hS hV (one_strip hxv x1) (by simpa using hux) (by simpa using hroom) htok q2 t2
              have d1' : off + es.length * i.size + i.size ≤ cs0.size := by rw [hux] at d1; exact d1
              have hzo : ∀ y ∈ vz, y.oneCell' = true := oneCells hz.rel hz.len hA.hp (by simpa using hzc)
              have hst := run_storeCells_at P b (off + es.length * i.size) el vz 0 cs0 w t2 (by omega) hzo
              simp only [Nat.add_zero] at hst
              subst q1
              have hov : (overC cs0 (off + es.length * i.size) vz).size = cs0.size := (overC_spec (by omega)).1
              refine ⟨b, off, cap, _, overC cs0 (off + es.length * i.size) vz, el, fun ty => by rw [hz.val]; exact run_append_in hA.ht hA.hu hA.hi hroom r2 (by simp only [add_at]; exact hst), rfl, setRow_heap w b cs0 _ el _ t2, by rw [hov]; exact d1', by simp, fun b' _ hb' => setRow_other w b b' _ hb', fun id' ob b' hg hno hb' => ?_, hxs, hxo, ?_⟩
              · intro ebb
                subst ebb
                have := hI.inj id' id ob _ b' hg htok hb' (by simp [objB, q2])
                subst this
                rw [htok] at hg; cases hg
                exact hno _ _ rfl
              · rw [setRow_setRow, overC_over _ _ _ _ (by rw [hlz, hux]) (by omega)]
                exact d2
            · exact grown (by omega) fun cs newCap hge hcsz hR => live_done hI hA.hp (by simp) hge hcsz hR e htok

end Go.AM
namespace Go.AM
open Go.RowKit
variable {P : Program} {cfg : Cfg} {C D : Ctx} {σ τ : St} {w : World} {env env' : Env} {a : Act} {o : Oper} {v : AV} {ds ds' : List ADef} {cl : CallF} {r : Option Nat} {ops : Array Oper} {l : List AOper}

theorem opers_append : ∀ {l1 l2 : List AOper} {env : Env} {ds : List ADef} {σ : St} {q : Env × List ADef × St}, opers (l1 ++ l2) cl env ds σ = some q → ∃ e1 d1 s1, opers l1 cl env ds σ = some (e1, d1, s1) ∧ opers l2 cl e1 d1 s1 = some q := by
  intro l1
  induction l1 with
  | nil => intro l2 env ds σ q h; exact ⟨env, ds, σ, rfl, h⟩
  | cons o l1 ih =>
    intro l2 env ds σ q h
    have h' : (match oper o cl env ds σ with | some (env, ds, σ) => opers (l1 ++ l2) cl env ds σ | none => none) = some q := h
    cases ho : oper o cl env ds σ with
    | none => rw [ho] at h'; cases h'
    | some p =>
      obtain ⟨e1, d1, s1⟩ := p
      rw [ho] at h'; simp only at h'
      obtain ⟨e2, d2, s2, h1, h2⟩ := ih h'
      refine ⟨e2, d2, s2, ?_, h2⟩
      show (match oper o cl env ds σ with | some (env, ds, σ) => opers l1 cl env ds σ | none => none) = _
      rw [ho]; exact h1

theorem opers_trace : ∀ {l : List AOper} {env : Env} {ds : List ADef} {σ : St}, opers l cl env ds σ = some (env', ds', τ) → ∃ T, Traced l cl env ds σ env' ds' τ T := by
  intro l
  induction l with
  | nil =>
    intro env ds σ h
    cases h
    exact ⟨⟨fun _ => env', fun _ => ds', fun _ => τ⟩, ⟨rfl, rfl, rfl, rfl, rfl, rfl, fun i co hi => (by simp at hi)⟩⟩
  | cons o l ih =>
    intro env ds σ h
    have h' : (match oper o cl env ds σ with | some (env, ds, σ) => opers l cl env ds σ | none => none) = some (env', ds', τ) := h
    cases ho : oper o cl env ds σ with
    | none => rw [ho] at h'; cases h'
    | some p =>
      obtain ⟨e1, d1, s1⟩ := p
      rw [ho] at h'; simp only at h'
      obtain ⟨T, hT⟩ := ih h'
      refine ⟨⟨fun | 0 => env | i + 1 => T.E i, fun | 0 => ds | i + 1 => T.D i, fun | 0 => σ | i + 1 => T.Sg i⟩, ⟨rfl, rfl, rfl, hT.e1, hT.d1, hT.s1, fun i co hi => ?_⟩⟩
      cases i with
      | zero =>
        simp only [List.getElem?_cons_zero, Option.some.injEq] at hi
        subst hi
        show oper o cl env ds σ = some (T.E 0, T.D 0, T.Sg 0)
        rw [hT.e0, hT.d0, hT.s0]; exact ho
      | succ i => exact hT.run i co (by simpa using hi)

/-- An operation by what it runs to. -/
theorem wp_run {i : Nat} {K : Act → World → Prop} {Q : Exit → Act → World → Prop} (hi : ops[i]? = some o) (hg : o.guard = none) (hnd : ∀ c, o.op ≠ .defer c) {nx : Next} {u : Value} {w' : World}
    (h : (execOp a.eval o).run P w = .ok nx w') (hx : nx = .value u ∨ (nx = .skip ∧ u = undef)) (hK : K (a.put o.dst u) w') : wpOpIn (FR r) 0 P ops Q i K a w := by
  unfold wpOpIn
  rw [hi]
  simp only
  have hw : Region.wanted o (yielded ops a.tmps) = true := by unfold Region.wanted; rw [hg]
  rw [hw]
  simp only [if_true]
  refine ⟨fun _ _ => trivial, ?_⟩
  rw [show (FR r).round = r from rfl, Oper.semAt_eq r a.eval o hnd, h]
  rcases hx with rfl | ⟨rfl, rfl⟩
  · exact hK
  · exact hK

theorem appArgs_some {q : Op} {s z : Nat} {t u : TypeId} (h : appArgs? q = some (s, z, t, u)) : ∃ c : Call, q = .call c ∧ c.callee = .builtin .append ∧ c.args.toList = [.tmp s, .tmp z] ∧ c.argTypes.toList = [t, u] := by
  unfold appArgs? at h
  split at h
  · rename_i args tys
    split at h
    · rename_i h1 h2
      cases h
      exact ⟨_, rfl, rfl, h1, h2⟩
    · cases h
  · cases h
theorem idxArgs_some {q : Op} {s k : Nat} {t : TypeId} (h : idxArgs? q = some (t, s, k)) : q = .indexAddr t (.tmp s) (.tmp k) := by
  unfold idxArgs? at h
  split at h
  · cases h; rfl
  · cases h
theorem storeArgs_some {q : Op} {s k : Nat} {t : TypeId} (h : storeArgs? q = some (t, s, k)) : q = .store t (.tmp s) (.tmp k) := by
  unfold storeArgs? at h
  split at h
  · cases h; rfl
  · cases h
theorem elemT_some {t e : TypeId} (h : elemT P t = some e) : P.underlying t = some (.slice e) := by
  unfold elemT at h
  split at h
  · rename_i h1; cases h; exact h1
  · cases h
theorem bs1_some {co : AOper} {z n : Nat} {zc : AV} (h : bs1? co = some (z, n, zc)) : co.dst = some z ∧ co.guard = none ∧ ∃ zz, co.op = .buildSlice n 1 zz [(0, .c zc)] false := by
  unfold bs1? at h
  split at h
  · rename_i h1 h2 h3; cases h; exact ⟨h1, h2, _, h3⟩
  · cases h
theorem len1_some {co : AOper} {k s : Nat} (h : len1? co = some (k, s)) : co.dst = some k ∧ co.guard = none ∧ co.op = .lenSl (.t s) := by
  unfold len1? at h
  split at h
  · rename_i h1 h2 h3; cases h; exact ⟨h1, h2, h3⟩
  · cases h
theorem zcOk_cells {zc : AV} (h : zcOk zc = true) : ∀ c ∈ (stripCell zc).cells, isCell c = true := by
  have one : ∀ y : AV, cellOk y = true → isCell (strip y) = true := fun y hy => by
    cases y <;> first | rfl | cases hy
  cases zc with
  | agg cs =>
    have h' : cs.all cellOk = true := h
    rw [List.all_eq_true] at h'
    intro c hc
    have hc' : c ∈ cs.map strip := hc
    obtain ⟨y, hy, rfl⟩ := List.mem_map.1 hc'
    exact one y (h' y hy)
  | slice es tk => intro c hc; have : c ∈ [AV.slice es .none] := hc; simp only [List.mem_singleton] at this; subst this; rfl
  | junk => cases h
  | undef => cases h
  | tup vs => cases h
  | iface t y => cases h
  | _ => intro c hc; simp at hc; subst hc; rfl

/-! ### The second part: the place, the element's store, the row's store -/
section
variable {Q : Exit → Act → World → Prop} {a1 : Act} {w1 : World} {ad : Nat} {ptr : Value} {b bp : Nat} {X Y : Array Value}

def A2 (a1 : Act) (ad : Nat) (ptr : Value) (d5 : Bool) : Act := if d5 then a1.put (some ad) ptr else a1
def W2 (w1 : World) (b bp : Nat) (X Y : Array Value) (d6 d7 : Bool) : World :=
  if d7 then (if d6 then w1.setRow b Y else w1).setRow bp X else (if d6 then w1.setRow b Y else w1)

theorem phase2 (hsz : ops.size = 8) (hb : backOk ops = true)
    (b65 : ((Region.before ops).getD 6 0).testBit 5 = true)
    (h5 : ∀ (d6 d7 : Bool) (K : Act → World → Prop), K (A2 a1 ad ptr true) (W2 w1 b bp X Y d6 d7) → wpOpIn (FR r) 0 P ops Q 5 K a1 (W2 w1 b bp X Y d6 d7))
    (h6 : ∀ (d7 : Bool) (K : Act → World → Prop), K (A2 a1 ad ptr true) (W2 w1 b bp X Y true d7) → wpOpIn (FR r) 0 P ops Q 6 K (A2 a1 ad ptr true) (W2 w1 b bp X Y false d7))
    (h7 : ∀ (d5 d6 : Bool) (K : Act → World → Prop), K (A2 a1 ad ptr d5) (W2 w1 b bp X Y d6 true) → wpOpIn (FR r) 0 P ops Q 7 K (A2 a1 ad ptr d5) (W2 w1 b bp X Y d6 false))
    (hQ : Q .normal (A2 a1 ad ptr true) (W2 w1 b bp X Y true true)) :
    ∀ (fuel : Nat) (listed : Array Bool) (d5 d6 d7 : Bool), listed.size = ops.size → Closed ops (fun j => listed.getD j false) → ((List.range ops.size).filter fun j => !listed.getD j false).length ≤ fuel →
      (∀ j, listed.getD j false = true ↔ j < 5 ∨ (j = 5 ∧ d5 = true) ∨ (j = 6 ∧ d6 = true) ∨ (j = 7 ∧ d7 = true)) →
      wpAnyIn (FR r) 0 P .any ops Q fuel listed (A2 a1 ad ptr d5) (W2 w1 b bp X Y d6 d7) := by
  have done : ∀ (listed : Array Bool) (d5 d6 d7 : Bool), (∀ j, j < ops.size → listed.getD j false = true) → (∀ j, listed.getD j false = true ↔ j < 5 ∨ (j = 5 ∧ d5 = true) ∨ (j = 6 ∧ d6 = true) ∨ (j = 7 ∧ d7 = true)) → Q .normal (A2 a1 ad ptr d5) (W2 w1 b bp X Y d6 d7) := by
    intro listed d5 d6 d7 hall hS
    have e5 : d5 = true := by rcases (hS 5).1 (hall 5 (by omega)) with h | h | h | h <;> first | omega | exact h.2
    have e6 : d6 = true := by rcases (hS 6).1 (hall 6 (by omega)) with h | h | h | h <;> first | omega | exact h.2
    have e7 : d7 = true := by rcases (hS 7).1 (hall 7 (by omega)) with h | h | h | h <;> first | omega | exact h.2
    subst e5; subst e6; subst e7; exact hQ
  intro fuel
  induction fuel with
  | zero =>
    intro listed d5 d6 d7 hs hcl hc hS
    have hall : ∀ j, j < ops.size → listed.getD j false = true := fun j hj => by
      cases h : listed.getD j false with
      | true => rfl
      | false =>
        have : j ∈ (List.range ops.size).filter fun j => !listed.getD j false := by rw [List.mem_filter, List.mem_range]; exact ⟨hj, by rw [h]; rfl⟩
        have := List.length_pos_of_mem this
        omega
    refine ⟨?_, done listed d5 d6 d7 hall hS⟩
    cases hr : Region.ready .any ops listed with
    | nil => rfl
    | cons j rest =>
      have hj : j ∈ Region.ready .any ops listed := by rw [hr]; simp
      rw [mem_ready] at hj
      obtain ⟨h1, o, ho, _⟩ := hj
      have hjlt : j < ops.size := (Array.getElem?_eq_some_iff.1 ho).1
      have hjl : j < listed.size := by omega
      have := hall j hjlt
      rw [Array.getD_eq_getD_getElem?, Array.getElem?_eq_getElem hjl] at h1 this
      simp at h1 this
      rw [h1] at this; cases this
  | succ fuel ih =>
    intro listed d5 d6 d7 hs hcl hc hS
    refine ⟨fun hr => done listed d5 d6 d7 (all_done hb hs hr) hS, fun i hi => ?_⟩
    rw [mem_ready] at hi
    obtain ⟨h1, o, ho, h2⟩ := hi
    have hilt : i < ops.size := (Array.getElem?_eq_some_iff.1 ho).1
    have hil : i < listed.size := by omega
    have hSi : listed.getD i false = false := by
      rw [Array.getD_eq_getD_getElem?, Array.getElem?_eq_getElem hil] at h1 ⊢
      simpa using h1
    have hbit : ∀ j, ((Region.before ops).getD i 0).testBit j = true → listed.getD j false = true := fun j hj => hcl.ready hb ho h2 hj
    have hcnt : ((List.range ops.size).filter fun j => !(listed.setIfInBounds i true).getD j false).length < ((List.range ops.size).filter fun j => !listed.getD j false).length := by
      refine filter_lt (i := i) (fun x hx => ?_) (List.mem_range.2 hilt) (by rw [hSi]; rfl) ?_
      · by_cases e : x = i
        · subst e; rw [hSi]; rfl
        · rw [getD_set_ne false (fun h => e h.symm)] at hx; exact hx
      · rw [Array.getD_eq_getD_getElem?, Array.getElem?_setIfInBounds_self_of_lt hil]; rfl
    have hcl' : Closed ops (fun j => (listed.setIfInBounds i true).getD j false) := by
      intro j oj hj hoj e he hbd
      by_cases ej : j = i
      · subst ej; rw [ho] at hoj; cases hoj
        exact getD_set_true (h2 e he hbd)
      · have hj' : (listed.setIfInBounds i true).getD j false = true := hj
        rw [getD_set_ne false (fun h => ej h.symm)] at hj'
        exact getD_set_true (hcl j oj hj' hoj e he hbd)
    have hset : ∀ j, (listed.setIfInBounds i true).getD j false = true ↔ j = i ∨ listed.getD j false = true := fun j => by
      by_cases e : j = i
      · subst e
        rw [Array.getD_eq_getD_getElem?, Array.getElem?_setIfInBounds_self_of_lt hil]; simp
      · rw [getD_set_ne false (fun h => e h.symm)]; simp [e]
    have hnot : ¬(i < 5 ∨ (i = 5 ∧ d5 = true) ∨ (i = 6 ∧ d6 = true) ∨ (i = 7 ∧ d7 = true)) := fun h => by
      have := (hS i).2 h; rw [hSi] at this; cases this
    have next : ∀ (d5' d6' d7' : Bool), (∀ j, (j = i ∨ (j < 5 ∨ (j = 5 ∧ d5 = true) ∨ (j = 6 ∧ d6 = true) ∨ (j = 7 ∧ d7 = true))) ↔ (j < 5 ∨ (j = 5 ∧ d5' = true) ∨ (j = 6 ∧ d6' = true) ∨ (j = 7 ∧ d7' = true))) →
        wpAnyIn (FR r) 0 P .any ops Q fuel (listed.setIfInBounds i true) (A2 a1 ad ptr d5') (W2 w1 b bp X Y d6' d7') := fun d5' d6' d7' he =>
      ih (listed.setIfInBounds i true) d5' d6' d7' (by simpa using hs) hcl' (by omega) (fun j => by rw [hset, hS, he])
    have hi' : i = 5 ∨ i = 6 ∨ i = 7 := by omega
    rcases hi' with rfl | rfl | rfl
    · have e5 : d5 = false := by cases d5 <;> simp at hnot ⊢
      subst e5
      refine h5 d6 d7 _ (next true d6 d7 fun j => ?_)
      cases d6 <;> cases d7 <;> simp <;> omega
    · have e6 : d6 = false := by cases d6 <;> simp at hnot ⊢
      subst e6
      have e5 : d5 = true := by rcases (hS 5).1 (hbit 5 b65) with h | h | h | h <;> first | omega | exact h.2
      subst e5
      refine h6 d7 _ (next true true d7 fun j => ?_)
      cases d7 <;> simp <;> omega
    · have e7 : d7 = false := by cases d7 <;> simp at hnot ⊢
      subst e7
      refine h7 d5 d6 _ (next d5 d6 true fun j => ?_)
      cases d5 <;> cases d6 <;> simp <;> omega
end

end Go.AM
namespace Go.AM
open Go.RowKit
variable {P : Program} {cfg : Cfg} {C D : Ctx} {σ τ : St} {w : World} {env env' : Env} {a : Act} {o : Oper} {v : AV} {ds ds' : List ADef} {cl : CallF} {r : Option Nat} {ops : Array Oper} {l : List AOper}

def first4 (i : Nat) : Bool := decide (i < 4)

/-- What the check says. -/
structure ApzFacts (P : Program) (X : List Nat) (ops : Array Oper) (l : List AOper) (x : Apz) (o4 o5 o6 o7 : Oper) : Prop where
  size : ops.size = 8
  h4 : ops[4]? = some o4
  h5 : ops[5]? = some o5
  h6 : ops[6]? = some o6
  h7 : ops[7]? = some o7
  a4 : appArgs? o4.op = some (x.s, x.z, x.t, x.u)
  d4 : o4.dst = some x.s'
  g4 : o4.guard = none
  a5 : idxArgs? o5.op = some (x.t5, x.s', x.k)
  d5 : o5.dst = some x.ad
  g5 : o5.guard = none
  a6 : storeArgs? o6.op = some (x.t6, x.ad, x.q)
  d6 : o6.dst = none
  g6 : o6.guard = none
  a7 : storeArgs? o7.op = some (x.t7, x.p, x.s')
  d7 : o7.dst = none
  g7 : o7.guard = none
  e : elemT P x.t = some x.e
  e' : elemT P x.u = some x.e'
  e5 : elemT P x.t5 = some x.e5
  n : sizeT P x.e = some x.n
  bytes : bytesT P x.e = some x.bytes
  n5 : sizeT P x.e5 = some x.n
  n6 : sizeT P x.t6 = some x.n
  n7 : sizeT P x.t7 = some 1
  n0 : x.n ≠ 0
  zero : (zeroT P x.e).map ncells = some x.n
  c23 : ∃ (c2 c3 : AOper) (zc : AV), l[2]? = some c2 ∧ l[3]? = some c3 ∧ len1? c2 = some (x.k, x.s) ∧ bs1? c3 = some (x.z, x.n, zc) ∧ zcOk zc = true
  quiet : ∀ i, i < 4 → ∃ co, l[i]? = some co ∧ quietA co = true ∧ x.s' ∉ namesA co ∧ x.ad ∉ namesA co ∧ ((Region.before ops).getD 4 0).testBit i = true
  b54 : ((Region.before ops).getD 5 0).testBit 4 = true
  b65 : ((Region.before ops).getD 6 0).testBit 5 = true
  b74 : ((Region.before ops).getD 7 0).testBit 4 = true
  b64 : ((Region.before ops).getD 6 0).testBit 4 = true
  adX : x.ad ∉ X
  ne : x.ad ≠ x.s' ∧ x.ad ≠ x.p ∧ x.s' ≠ x.p ∧ x.s' ≠ x.k ∧ x.ad ≠ x.k ∧ x.s' ≠ x.q ∧ x.ad ≠ x.q ∧ x.k ≠ x.s ∧ x.z ≠ x.s ∧ x.z ≠ x.k
  temps : tempsOk (Region.before ops) l = true
  back : backOk ops = true

theorem apz_facts {X : List Nat} {x : Apz} (h : apzOk P X ops l x = true) : ∃ o4 o5 o6 o7, ApzFacts P X ops l x o4 o5 o6 o7 := by
  unfold apzOk at h
  simp only [Bool.and_eq_true] at h
  obtain ⟨⟨⟨⟨⟨⟨⟨⟨⟨⟨h1, h2⟩, h3⟩, h4⟩, h5⟩, h6⟩, h7⟩, h8⟩, h9⟩, h10⟩, h11⟩ := h
  split at h2
  · rename_i o4 o5 o6 o7 e4 e5 e6 e7
    simp only [Bool.and_eq_true, decide_eq_true_eq, Option.isNone_iff_eq_none] at h2 h3 h4 h5
    split at h6
    · rename_i k s z n zc q2 q3
      simp only [Bool.and_eq_true, decide_eq_true_eq] at h6
      obtain ⟨⟨⟨⟨rfl, rfl⟩, rfl⟩, rfl⟩, hzc⟩ := h6
      simp only [Option.bind_eq_some_iff] at q2 q3
      obtain ⟨c2, q2, q2'⟩ := q2
      obtain ⟨c3, q3, q3'⟩ := q3
      have hne : x.ad ≠ x.s' ∧ x.ad ≠ x.p ∧ x.s' ≠ x.p ∧ x.s' ≠ x.k ∧ x.ad ≠ x.k ∧ x.s' ≠ x.q ∧ x.ad ≠ x.q ∧ x.k ≠ x.s ∧ x.z ≠ x.s ∧ x.z ≠ x.k := by
        simp only [bne_iff_ne, ne_eq] at h9
        obtain ⟨⟨⟨⟨⟨⟨⟨⟨⟨⟨_, a1⟩, a2⟩, a3⟩, a4⟩, a5⟩, a6⟩, a7⟩, a8⟩, a9⟩, a10⟩ := h9
        exact ⟨a1, a2, a3, a4, a5, a6, a7, a8, a9, a10⟩
      have hX : x.ad ∉ X := by
        obtain ⟨⟨⟨⟨⟨⟨⟨⟨⟨⟨a0, _⟩, _⟩, _⟩, _⟩, _⟩, _⟩, _⟩, _⟩, _⟩, _⟩ := h9
        simpa using a0
      obtain ⟨⟨⟨b1, b2⟩, b3⟩, b4⟩ := h8
      refine ⟨o4, o5, o6, o7, by simpa using h1, e4, e5, e6, e7, h2.1.1.1.1.1, h2.1.1.1.1.2, h2.1.1.1.2, h2.1.1.2.1.1, h2.1.1.2.1.2, h2.1.1.2.2, h2.1.2.1.1, h2.1.2.1.2, h2.1.2.2, h2.2.1.1, h2.2.1.2, h2.2.2,
        h3.1.1, h3.1.2, h3.2, h4.1.1.1.1, h4.1.1.1.2, h4.1.1.2, h4.1.2, h4.2, h5.1, h5.2, ⟨c2, c3, zc, q2, q3, q2', q3', hzc⟩, fun i hi => ?_, b1, b2, b3, b4, hX, hne, h10, h11⟩
      rw [List.all_eq_true] at h7
      have := h7 i (List.mem_range.2 hi)
      split at this
      · rename_i co hco
        simp only [Bool.and_eq_true, Bool.not_eq_true', List.contains_eq_mem, decide_eq_false_iff_not] at this
        exact ⟨co, hco, this.1.1.1, this.1.1.2, this.1.2, this.2⟩
      · cases this
    · cases h6
  · cases h2

theorem quietA_some {co : AOper} (h : quietA co = true) : co.guard = none ∧ cls co.op ≠ .eff ∧ cls co.op ≠ .new := by
  unfold quietA at h
  simp only [Bool.and_eq_true, Option.isNone_iff_eq_none, Bool.or_eq_true, decide_eq_true_eq] at h
  refine ⟨h.1, ?_, ?_⟩ <;> rcases h.2 with h | h <;> rw [h] <;> simp

theorem getD_put_ne {a : Act} {t t' : Nat} {u : Value} (h : t ≠ t') : (a.put (some t) u).tmps.getD t' undef = a.tmps.getD t' undef := by
  simp only [Act.put]
  rw [Array.getD_eq_getD_getElem?, Array.getElem?_setIfInBounds_ne h, ← Array.getD_eq_getD_getElem?]
theorem getD_put_eq {a : Act} {t : Nat} {u : Value} (h : t < a.tmps.size) : (a.put (some t) u).tmps.getD t undef = u := by
  simp only [Act.put]
  rw [Array.getD_eq_getD_getElem?, Array.getElem?_setIfInBounds_self_of_lt h]; rfl

/-- The place of an element. -/
theorem run_place {t e : TypeId} {sz : Nat} {x i : Operand} {b off n cap j : Nat} (ht : P.underlying t = some (.slice e)) (hn : sizeT P e = some sz) (ho : o.op = .indexAddr t x i) (hx : a.eval x = .slice (some ⟨b, off, none⟩) n cap) {k : IntKind} (hi : a.eval i = .int k j) (hj : j < n) (w : World) :
    (execOp a.eval o).run P w = .ok (.value (.pointer (some ⟨b, off + j * sz, none⟩))) w := by
  unfold execOp; rw [ho]
  simp only [Instr.indexAt, hx, hi, asIntOf, Sem.run_bind, Sem.run_pure, Result.andThen_ok, run_und ht]
  rw [if_pos ⟨by omega, by omega⟩]
  simp only [Sem.run_bind, run_size hn, Result.andThen_ok, Sem.run_pure, Int.toNat_natCast, add_at]

/-- A store. -/
theorem run_put {t : TypeId} {n : Nat} {x y : Operand} {b off : Nat} (hn : sizeT P t = some n) (ho : o.op = .store t x y) (hx : a.eval x = .pointer (some ⟨b, off, none⟩)) (hsz : (a.eval y).cells.size = n) {cs : Array Value} {e : TypeId} (hb : w.heap[b]? = some (.cells cs e (0, 0)))
    (hfit : off + n ≤ cs.size) (hone : ∀ u ∈ (a.eval y).cells.toList, u.oneCell' = true) : (execOp a.eval o).run P w = .ok .skip (w.setRow b (overC cs off (a.eval y).cells.toList)) := by
  have hrun := run_storeCells_at P b off e (a.eval y).cells.toList 0 cs w hb (by simp only [Array.length_toList]; omega) hone
  simp only [Nat.add_zero] at hrun
  unfold execOp; rw [ho]
  simp only [hx, Instr.storeAt, Instr.sureAddr, Sem.run_bind, Sem.run_pure, Result.andThen_ok, storeVar, run_size hn, hsz, ne_eq, not_true_eq_false, if_false, hrun]
  rfl

/-- The temporary that holds a row's one element. -/
theorem bs1_value {n : Nat} {zz zc : AV} {env : Env} {σ τ : St} {v : AV} (h : op (.buildSlice n 1 zz [(0, .c zc)] false) env σ = some (v, τ)) : v = .slice [stripCell zc] .full ∧ zc.cells.length = n ∧ τ = σ := by
  have h' : op_buildSlice n 1 zz [(0, .c zc)] false env σ = some (v, τ) := h
  unfold op_buildSlice at h'
  have he : setElems env n [(0, .c zc)] (rep 1 zz) = (bif Nat.beq zc.cells.length n && known zc then some [stripCell zc] else none) := rfl
  rw [he] at h'
  cases hb : (Nat.beq zc.cells.length n && known zc) with
  | false => rw [hb] at h'; cases h'
  | true =>
    rw [hb, cond_true] at h'
    cases h'
    rw [Bool.and_eq_true] at hb
    exact ⟨rfl, Nat.eq_of_beq_eq_true hb.1, rfl⟩

end Go.AM
