/- A part of the proof of: EmitBecomes: what a term becomes by patterns, and a pattern's name, is what the document says, or the error is told. -/
import Derived.Test.YtkopdkjpmccbmaaGreatDoorM04
import Derived.Laws.MakeOwn
namespace Go.AM
open Go.RowKit
variable {P : Program} {cfg : Cfg} {C : Ctx} {σ τ : St} {w : World} {env : Env} {a : Act} {o : Oper} {v : AV}

theorem block_other {i k j sz : Nat} (h : i ≠ k) (hj : j < sz) : ¬(k * sz ≤ i * sz + j ∧ i * sz + j < k * sz + sz) := by
  intro ⟨h1, h2⟩
  rcases Nat.lt_or_gt_of_ne h with h' | h'
  · have : (i + 1) * sz ≤ k * sz := Nat.mul_le_mul_right sz h'
    rw [Nat.succ_mul] at this; omega
  · have : (k + 1) * sz ≤ i * sz := Nat.mul_le_mul_right sz h'
    rw [Nat.succ_mul] at this; omega

theorem setElems_sound (he : EnvR C env a.tmps) {sz : Nat} : ∀ (ps : List (Nat × Operand)) (qs : List (Nat × Opd)) (es es' : List AV) (cells : Array Value),
    elemsC ps = some qs → setElems env sz qs es = some es' → ElR C es sz cells → 
    ∃ cells', Instr.fill (fun i => some (i * sz, sz)) cells (ps.map fun (i, x) => (i, a.eval x)) = some cells' ∧ ElR C es' sz cells' ∧ es'.length = es.length ∧ cells'.size = cells.size := by
  intro ps
  induction ps with
  | nil => intro qs es es' cells h1 h2 h3; cases h1; cases h2; exact ⟨cells, rfl, h3, rfl, rfl⟩
  | cons p ps ih =>
    intro qs es es' cells h1 h2 h3
    obtain ⟨i, x⟩ := p
    simp only [elemsC] at h1
    cases hx : opd x with
    | none => rw [hx] at h1; cases h1
    | some y =>
      cases hr : elemsC ps with
      | none => rw [hx, hr] at h1; cases h1
      | some qs' =>
        rw [hx, hr] at h1; cases h1
        have h2' : (bif Nat.beq (y.eval env).cells.length sz && known (y.eval env) then match setNth es i (stripCell (y.eval env)) with | some l' => setElems env sz qs' l' | none => none else none) = some es' := h2
        cases hb : (Nat.beq (y.eval env).cells.length sz && known (y.eval env)) with
        | false => rw [hb] at h2'; cases h2'
        | true =>
          rw [hb, cond_true] at h2'
          rw [Bool.and_eq_true] at hb
          have hn := Nat.eq_of_beq_eq_true hb.1
          have hv := ((opd_VR hx he).stripCell).cells (by rw [strip_known]; exact hb.2)
          rw [setNth_eq] at h2'
          by_cases hi : i < es.length
          · rw [if_pos hi] at h2'
            have hsz : (a.eval x).cells.size = sz := by rw [← hv.1, strip_cells]; exact hn
            have hle : (i + 1) * sz ≤ es.length * sz := Nat.mul_le_mul_right sz hi
            rw [Nat.succ_mul] at hle
            have h31 := h3.1
            obtain ⟨c1, g1, g2, g3⟩ := fill_step (place := fun i => some (i * sz, sz)) (i := i) (rest := ps.map fun (i, x) => (i, a.eval x)) rfl hsz (cells := cells) (by omega)
            obtain ⟨c2, k1, k2, k3, k4⟩ := ih qs' (es.set i (stripCell (y.eval env))) es' c1 hr h2' ⟨by rw [g2]; simpa using h3.1, fun k e hk => by
              by_cases e1 : i = k
              · subst e1
                rw [List.getElem?_set_self hi] at hk; cases hk
                refine ⟨by rw [strip_cells]; exact hn, fun j c hc => ?_⟩
                have hj : j < sz := by have := (List.getElem?_eq_some_iff.1 hc).1; rw [strip_cells] at this; omega
                obtain ⟨u, hu, hr⟩ := hv.get hc
                refine ⟨u, ?_, hr⟩
                rw [g3, if_pos ⟨by omega, by omega⟩, show i * sz + j - i * sz = j by omega]; exact hu
              · rw [List.getElem?_set_ne e1] at hk
                refine ⟨(h3.2 k e hk).1, fun j c hc => ?_⟩
                have hj : j < sz := by have := (List.getElem?_eq_some_iff.1 hc).1; rw [(h3.2 k e hk).1] at this; omega
                rw [g3, if_neg (block_other (fun e => e1 e.symm) hj)]
                exact (h3.2 k e hk).2 j c hc⟩
            exact ⟨c2, g1.trans k1, k2, by rw [k3]; simp, by rw [k4, g2]⟩
          · rw [if_neg hi] at h2'; cases h2'

theorem zero_row {z : AV} {zv : Value} (h : VRs C z.cells zv.cells) {sz : Nat} (hz : z.cells.length = sz) (len : Nat) :
    ElR C (List.replicate len z) sz ((Array.range (len * sz)).map (zv.cells[· % zv.cells.size]!)) := by
  refine ⟨by simp, fun i e he => ?_⟩
  have hi : i < len := by have := (List.getElem?_eq_some_iff.1 he).1; simpa using this
  rw [List.getElem?_replicate, if_pos hi] at he; cases he
  refine ⟨hz, fun j c hc => ?_⟩
  have hj : j < sz := by have := (List.getElem?_eq_some_iff.1 hc).1; omega
  obtain ⟨u, hu, hr⟩ := h.get hc
  refine ⟨u, ?_, hr⟩
  have hs : zv.cells.size = sz := by rw [← h.1]; exact hz
  rw [Array.getElem?_map, Array.getElem?_range, if_pos (idx_lt hi hj)]
  simp only [Option.map_some, Option.some.injEq]
  rw [hs, (divmod hj).2, getElem!_def, hu]

theorem ncells_eq {z : AV} {sz : Nat} (h : ncells z = sz) : z.cells.length = sz := by
  cases z <;> exact h

theorem s_buildSlice {t e : TypeId} {len sz : Nat} {ps : Array (Nat × Operand)} {z : AV} {qs : List (Nat × Opd)} {hs : Bool} (hI : Inv P cfg C σ w) (he : EnvR C env a.tmps)
    (ht : P.underlying t = some (.slice e)) (hsz : sizeT P e = some sz) (hok : ¬(sz = 0 ∨ len * sz > 2 ^ 24)) (hz : zeroT P e = some z) (hzn : ncells z = sz) (hq : elemsC ps.toList = some qs)
    (ho : o.op = .buildSlice t len ps) (h : op_buildSlice sz len z qs hs env σ = some (v, τ)) (hf : Fresh C σ.next τ.next) : Runs P cfg C σ w (execOp a.eval o) v τ := by
  unfold op_buildSlice at h
  rw [rep_eq] at h
  cases hse : setElems env sz qs (List.replicate len z) with
  | none => rw [hse] at h; cases h
  | some es =>
    rw [hse] at h; simp only at h
    obtain ⟨i, zv, h1, h2, h3⟩ := info_of_zero hz
    obtain ⟨i', h1', h1''⟩ := info_of_size hsz
    rw [h1] at h1'; cases h1'; subst h1''
    obtain ⟨h4, h4'⟩ := conv_VR h3 C
    have hzr := zero_row (h4.cells h4') (ncells_eq hzn) len
    obtain ⟨cells, k1, k2, k3, k4⟩ := setElems_sound he ps.toList qs _ es _ hq hse hzr
    simp only [List.length_replicate] at k3
    have hrun : (Instr.buildSlice t len (ps.map fun (i, x) => (i, a.eval x))).run P w = .ok (.slice (some ⟨w.heap.size, 0, none⟩) len len) (w.alloc (.cells cells e)) := by
      by_cases h0 : len * i.size = 0
      · have hlen : len = 0 := by
          rcases Nat.mul_eq_zero.1 h0 with h | h
          · exact h
          · exact absurd (.inl h) hok
        subst hlen
        simp only [Nat.zero_mul] at k1
        simp only [Instr.buildSlice, Sem.run_bind, run_underlying ht, Result.andThen_ok, run_size hsz, map_parts, Nat.zero_mul, if_true, Sem.run_pure, show ¬(0 > 2 ^ 24) by decide, if_false]
        rw [show (Array.range 0).map (fun x => (#[] : Array Value)[x % (#[] : Array Value).size]!) = (Array.range 0).map (fun x => zv.cells[x % zv.cells.size]!) by simp, k1]
        rfl
      · exact run_buildSlice w t e len _ cells i zv ht h1 h2 (fun h => hok (.inr h)) h0 (by rw [map_parts]; exact k1)
    unfold execOp; rw [ho]
    cases hs with
    | false =>
      cases h
      refine .val hrun ?_
      rw [← k3]
      exact slice_of_row hI (Nat.pos_of_ne_zero fun e => hok (.inl e)) k2 e
    | true =>
      cases h
      have hp : 0 < i.size := Nat.pos_of_ne_zero fun e => hok (.inl e)
      have hcs : cells.size = es.length * i.size := by rw [k4, k3]; simp
      obtain ⟨g1, g2⟩ := new_cells hI hf (flat_VRs k2 hcs hp) e
      refine .val hrun ⟨_, g2, g1, ?_⟩
      have := VR.hsl (C := C.at_ σ.next (.cells w.heap.size 0 cells.size)) σ.next 0 len i.size w.heap.size 0 cells.size len (Ctx.at_self _ _ _) hp (Nat.le_refl _) (by rw [hcs, k3]; simp)
      exact this

theorem repCells_flat (n : Nat) (z : AV) : repCells n z.cells = (List.replicate n z).flatMap AV.cells := by
  induction n with
  | zero => rfl
  | succ n ih => show z.cells ++ repCells n z.cells = _; rw [ih, List.replicate_succ, List.flatMap_cons]
theorem s_makeSlice {t e : TypeId} {x y : Operand} {x' y' : Opd} {sz bytes : Nat} {z : AV} (hI : Inv P cfg C σ w) (he : EnvR C env a.tmps)
    (ht : P.underlying t = some (.slice e)) (hsz : sizeT P e = some sz) (hp : sz ≠ 0) (hb : bytesT P e = some bytes) (hz : zeroT P e = some z) (hzn : ncells z = sz) (hx : opd x = some x') (hy : opd y = some y')
    (ho : o.op = .makeSlice t x y) (h : op_makeSlice sz bytes z x' y' env σ = some (v, τ)) (hf : Fresh C σ.next τ.next) : Runs P cfg C σ w (execOp a.eval o) v τ := by
  unfold op_makeSlice at h
  cases hl : (x'.eval env).int? with
  | none => rw [hl] at h; cases h
  | some l =>
    rw [hl] at h; simp only at h
    cases hc : (y'.eval env).int? with
    | none => rw [hc] at h; cases h
    | some c =>
      rw [hc] at h; simp only at h
      cases hn : natI l with
      | none => rw [hn] at h; cases h
      | some n =>
        rw [hn] at h; simp only at h
        cases hcond : (eqI c n && Nat.ble (n * bytes) most && Nat.ble (n * sz) most) with
        | false => rw [hcond] at h; cases h
        | true =>
          rw [hcond] at h; cases h
          simp only [Bool.and_eq_true, eqI_eq, beq_iff_eq] at hcond
          obtain ⟨⟨hc1, hc2⟩, hc3⟩ := hcond
          have hc2 := Nat.le_of_ble_eq_true hc2
          have hc3 := Nat.le_of_ble_eq_true hc3
          have := natI_some hn; subst this; subst hc1
          obtain ⟨k1, _, e1⟩ := int?_VR (opd_VR hx he) hl
          obtain ⟨k2, _, e2⟩ := int?_VR (opd_VR hy he) hc
          obtain ⟨i, zv, h1, h2, h3⟩ := info_of_zero hz
          obtain ⟨i', h1', h1''⟩ := info_of_size hsz
          rw [h1] at h1'; cases h1'; subst h1''
          have hbb : i.bytes = bytes := by unfold bytesT at hb; rw [h1] at hb; cases hb; rfl
          subst hbb
          obtain ⟨h4, h4'⟩ := conv_VR h3 C
          have hzr := zero_row (h4.cells h4') (ncells_eq hzn) n
          have hpos : 0 < i.size := Nat.pos_of_ne_zero hp
          have hnm : n ≤ n * i.size := Nat.le_mul_of_pos_right n hpos
          have hm : most = 1099511627776 := rfl
          have hw : IntKind.i64.wrap (n : Int) = n := wrap_i64_id (by omega) (by omega)
          have hrun : (Instr.makeSlice t (a.eval x) (a.eval y)).run P w = .ok (.slice (some ⟨w.heap.size, 0, none⟩) n n) (w.alloc (.cells ((Array.range (n * i.size)).map (zv.cells[· % zv.cells.size]!)) e)) := by
            rw [e1, e2]
            have hbig : (i.bytes : Int) * (n : Int) ≤ 281474976710656 := by
              rw [← Int.natCast_mul, Nat.mul_comm]
              omega
            have := run_make (P := P) w t e i zv ht h1 h2 k1 k2 (n : Int) (n : Int) (by omega) (Int.le_refl _) hbig (by omega)
            simpa [madeCells] using this
          have hfr := flat_VRs hzr (by simp) hpos
          have hrep := repCells_flat n z
          obtain ⟨g1, g2⟩ := new_cells hI hf (hrep ▸ hfr) e
          unfold execOp; rw [ho]
          refine .val hrun ⟨_, g2, g1, ?_⟩
          exact VR.hsl σ.next 0 n i.size w.heap.size 0 _ n (Ctx.at_self _ _ _) hpos (Nat.le_refl _) (by simp)

/-! ### Cuts, places, parts -/
theorem intOr_some {x : Option Opd} {y : Option Operand} (he : EnvR C env a.tmps) (hx : optOpd y = some x) {d n : Nat} (h : intOr (evalO env x) d = some n) :
    (x = none ∧ y = none ∧ n = d) ∨ (∃ z k, y = some z ∧ a.eval z = .int k (n : Int) ∧ x ≠ none) := by
  cases y with
  | none => cases hx; cases h; exact .inl ⟨rfl, rfl, rfl⟩
  | some z =>
    simp only [optOpd] at hx
    cases hz : opd z with
    | none => rw [hz] at hx; cases hx
    | some q =>
      rw [hz] at hx; cases hx
      simp only [evalO, intOr] at h
      cases hi : (q.eval env).int? with
      | none => rw [hi] at h; cases h
      | some m =>
        rw [hi] at h
        obtain ⟨k, _, e⟩ := int?_VR (opd_VR hz he) hi
        have := natI_some h; subst this
        exact .inr ⟨z, k, rfl, e, by simp⟩

theorem run_sliceBound {u : Value} {k : IntKind} {n y : Nat} {code : BoundsCode} (hu : u = .int k (n : Int)) (hn : n ≤ y) : (Instr.sliceBound u y code).run P w = .ok n w := by
  subst hu
  simp only [Instr.sliceBound, Sem.run_bind, asIntOf, Sem.run_pure, Result.andThen_ok]
  rw [if_pos ⟨by omega, by omega⟩]
  simp

theorem run_cut {lo hi : Option Operand} {lo' hi' : Option Opd} (he : EnvR C env a.tmps) (h1 : optOpd lo = some lo') (h2 : optOpd hi = some hi') {len cap l h : Nat} (hcap : len ≤ cap)
    (hc : cut len (evalO env lo') (evalO env hi') = some (l, h)) (isSlice : Bool) :
    (Instr.sliceBounds isSlice len cap (lo.map a.eval) (hi.map a.eval) none).run P w = .ok (l, h, cap) w ∧ l ≤ h ∧ h ≤ len := by
  unfold cut at hc
  cases hh : intOr (evalO env hi') len with
  | none => rw [hh] at hc; cases hc
  | some h' =>
    rw [hh] at hc; simp only at hc
    cases hl : intOr (evalO env lo') 0 with
    | none => rw [hl] at hc; cases hc
    | some l' =>
      rw [hl] at hc; simp only at hc
      cases hb : (Nat.ble h' len && Nat.ble l' h') with
      | false => rw [hb] at hc; cases hc
      | true =>
        rw [hb] at hc; cases hc
        rw [Bool.and_eq_true] at hb
        have b1 := Nat.le_of_ble_eq_true hb.1
        have b2 := Nat.le_of_ble_eq_true hb.2
        refine ⟨?_, b2, b1⟩
        rcases intOr_some he h2 hh with ⟨rfl, rfl, rfl⟩ | ⟨z, k, rfl, e, _⟩
        · rcases intOr_some he h1 hl with ⟨rfl, rfl, rfl⟩ | ⟨z', k', rfl, e', _⟩
          · rfl
          · simp only [Instr.sliceBounds, Option.map_none, Option.map_some, Sem.run_bind, Sem.run_pure, Result.andThen_ok, Option.isSome_none, Bool.false_eq_true, if_false]
            rw [run_sliceBound e' b2]; rfl
        · rcases intOr_some he h1 hl with ⟨rfl, rfl, rfl⟩ | ⟨z', k', rfl, e', _⟩
          · simp only [Instr.sliceBounds, Option.map_none, Option.map_some, Sem.run_bind, Sem.run_pure, Result.andThen_ok]
            rw [run_sliceBound e (Nat.le_trans b1 hcap)]; rfl
          · simp only [Instr.sliceBounds, Option.map_some, Sem.run_bind, Sem.run_pure, Result.andThen_ok, Option.isSome_none, Bool.false_eq_true, if_false]
            rw [run_sliceBound e (Nat.le_trans b1 hcap), Result.andThen_ok, run_sliceBound e' b2]; rfl

end Go.AM
namespace Go.AM
open Go.RowKit
variable {P : Program} {cfg : Cfg} {C : Ctx} {σ τ : St} {w : World} {env : Env} {a : Act} {o : Oper} {v : AV}

theorem s_sliceStr {t : TypeId} {x : Operand} {x' : Opd} {lo hi : Option Operand} {lo' hi' : Option Opd} (hI : Inv P cfg C σ w) (he : EnvR C env a.tmps) (ht : P.underlying t = some .string)
    (hx : opd x = some x') (h1 : optOpd lo = some lo') (h2 : optOpd hi = some hi') (ho : o.op = .slice t x lo hi none) (h : op_sliceStr x' lo' hi' env σ = some (v, τ)) : Runs P cfg C σ w (execOp a.eval o) v τ := by
  unfold op_sliceStr at h
  cases hs : (x'.eval env).str? with
  | none => rw [hs] at h; cases h
  | some s =>
    rw [hs] at h; simp only at h
    cases hc : cut s.length (evalO env lo') (evalO env hi') with
    | none => rw [hc] at h; cases h
    | some p =>
      obtain ⟨l, hh⟩ := p
      rw [hc] at h; cases h
      obtain ⟨_, e⟩ := str?_VR (opd_VR hx he) hs
      obtain ⟨r1, r2, r3⟩ := run_cut (P := P) (w := w) (cap := s.length) he h1 h2 (Nat.le_refl _) hc false
      unfold execOp; rw [ho]
      refine .val (u := .string ⟨((s.take hh).drop l).toArray⟩) ?_ (.same hI (.str _))
      have hsz : (⟨s.toArray⟩ : ByteArray).size = s.length := by simp [ByteArray.size]
      have hex : (⟨s.toArray⟩ : ByteArray).extract l hh = ⟨((s.take hh).drop l).toArray⟩ := by
        apply ByteArray.ext
        simp only [ByteArray.data_extract]
        apply Array.ext'
        simp [List.drop_take]
      simp only [Instr.sliceAt, Instr.slice, Sem.run_bind, run_und ht, Result.andThen_ok, e, Option.map_none, Option.isSome_none, Bool.false_eq_true, if_false, Sem.run_pure, hsz, r1, hex]

theorem ofCells_VR {cs l : List AV} {vs : Array Value} {off : Nat} {n : Option Nat} {t : TypeId} (h : VRs C cs vs) (hl : slc cs off (n.getD 1) = some l) (ht : loadT P t = some n) (ho : ofCells n l = some v) :
    ∃ u, (part t vs off).run P w = .ok u w ∧ VR C v u := by
  obtain ⟨s1, s2, s3⟩ := slc_some hl
  rcases loadT_some ht with ⟨k, rfl, hagg, hsz⟩ | ⟨rfl, hagg⟩
  · simp only [Option.getD_some] at s1 s2 s3
    cases ho
    refine ⟨.agg (vs.extract off (off + k)), ?_, .agg _ _ ?_ fun i c v hc hv => ?_⟩
    · simp only [part, Sem.run_bind, run_isAgg hagg, Result.andThen_ok, if_true, run_size hsz, Sem.run_pure]
    · have := h.1; simp only [Array.size_extract]; omega
    · have hi : i < k := by have := (List.getElem?_eq_some_iff.1 hc).1; omega
      rw [s3 i hi] at hc
      have := h.1
      rw [Array.getElem?_extract, if_pos (by omega)] at hv
      exact h.2 _ _ _ hc hv
  · simp only [Option.getD_none] at s1 s2 s3
    cases l with
    | nil => cases ho
    | cons x r =>
      cases r with
      | cons _ _ => cases ho
      | nil =>
        cases ho
        have := s3 0 (by decide)
        simp only [List.getElem?_cons_zero, Nat.add_zero] at this
        obtain ⟨u, hu, hr⟩ := h.get this.symm
        exact ⟨u, by simp only [part, Sem.run_bind, run_isAgg hagg, Result.andThen_ok, Bool.false_eq_true, if_false, hu, Sem.run_pure], hr⟩

theorem s_field {t : TypeId} {x : Operand} {y : Opd} {fs : Array Field} {f : Field} {i : Nat} {n : Option Nat} (hI : Inv P cfg C σ w) (he : EnvR C env a.tmps) (ht : P.underlying t = some (.struct fs)) (hf : fs[i]? = some f)
    (hn : loadT P f.type = some n) (hx : opd x = some y) (ho : o.op = .field t x i) (h : op_field f.offset n y env σ = some (v, τ)) : Runs P cfg C σ w (execOp a.eval o) v τ := by
  unfold op_field at h
  cases hs : (y.eval env).agg? with
  | none => rw [hs] at h; cases h
  | some cs =>
    rw [hs] at h; simp only at h
    cases hl : slc cs f.offset (n.getD 1) with
    | none => rw [hl] at h; cases h
    | some l =>
      rw [hl] at h; simp only at h
      obtain ⟨h1, rfl⟩ := ret1_some h
      obtain ⟨vs, e, hv⟩ := agg?_VR (opd_VR hx he) hs
      obtain ⟨u, r1, r2⟩ := ofCells_VR (P := P) (w := w) hv hl hn h1
      unfold execOp; rw [ho]
      refine .val (u := u) ?_ (.same hI r2)
      simp only [Instr.field, Sem.run_bind, run_und ht, Result.andThen_ok, hf, e, asAgg, Sem.run_pure, r1]

theorem s_indexArr {t e : TypeId} {len sz : Nat} {x i : Operand} {x' i' : Opd} (hI : Inv P cfg C σ w) (he : EnvR C env a.tmps) (ht : P.underlying t = some (.array len e)) (hn : sizeT P e = some sz)
    (hx : opd x = some x') (hi : opd i = some i') (ho : o.op = .indexAddr t x i) (h : op_indexArr len sz x' i' env σ = some (v, τ)) : Runs P cfg C σ w (execOp a.eval o) v τ := by
  unfold op_indexArr at h
  cases hs : (i'.eval env).int? with
  | none => rw [hs] at h; cases h
  | some m =>
    rw [hs] at h; simp only at h
    cases hr : inRange len m with
    | none => rw [hr] at h; cases h
    | some j =>
      rw [hr] at h; simp only at h
      obtain ⟨h1, rfl⟩ := ret1_some h
      obtain ⟨rfl, hj⟩ := inRange_some hr
      obtain ⟨k, _, e1⟩ := int?_VR (opd_VR hi he) hs
      have hv := opd_VR hx he
      have key : ∃ b off, a.eval x = .pointer (some ⟨b, off, none⟩) ∧ VR C v (.pointer (some ⟨b, off + j * sz, none⟩)) := by
        generalize x'.eval env = c at h1 hv
        generalize a.eval x = u at hv
        cases hv <;> simp at h1
        · rename_i hκ; subst h1; exact ⟨_, _, rfl, by rw [Nat.add_assoc]; exact .ptr _ _ _ _ _ hκ⟩
        · rename_i hS hV; subst h1; exact ⟨_, _, rfl, by rw [Nat.add_assoc]; exact .eptr _ _ _ _ _ hS hV⟩
      obtain ⟨b, off, e2, hr⟩ := key
      unfold execOp; rw [ho]
      refine .val (u := .pointer (some ⟨b, off + j * sz, none⟩)) ?_ (.same hI hr)
      simp only [Instr.indexAt, e1, e2, asIntOf, Sem.run_bind, Sem.run_pure, Result.andThen_ok, run_und ht, Instr.sureAddr]
      rw [if_pos ⟨by omega, by omega⟩]
      simp only [Sem.run_bind, run_size hn, Result.andThen_ok, Sem.run_pure, Int.toNat_natCast, add_at]

theorem s_indexSl {t e : TypeId} {sz : Nat} {x i : Operand} {x' i' : Opd} (hI : Inv P cfg C σ w) (he : EnvR C env a.tmps) (ht : P.underlying t = some (.slice e)) (hn : sizeT P e = some sz)
    (hx : opd x = some x') (hi : opd i = some i') (ho : o.op = .indexAddr t x i) (h : op_indexSl sz x' i' env σ = some (v, τ)) : Runs P cfg C σ w (execOp a.eval o) v τ := by
  unfold op_indexSl at h
  cases hs : (i'.eval env).int? with
  | none => rw [hs] at h; cases h
  | some m =>
    rw [hs] at h; simp only at h
    obtain ⟨h1, rfl⟩ := ret1_some h
    obtain ⟨k, _, e1⟩ := int?_VR (opd_VR hi he) hs
    have hv := opd_VR hx he
    have key : ∃ (b off n cap j : Nat), a.eval x = .slice (some ⟨b, off, none⟩) n cap ∧ m = (j : Int) ∧ j < n ∧ VR C v (.pointer (some ⟨b, off + j * sz, none⟩)) := by
      generalize x'.eval env = c at h1 hv
      generalize a.eval x = u at hv
      cases hv <;> simp only [eq_elemOfRow_junk, eq_elemOfRow_undef, eq_elemOfRow_bool, eq_elemOfRow_int, eq_elemOfRow_str, eq_elemOfRow_nilp, eq_elemOfRow_nilm, eq_elemOfRow_nilf, eq_elemOfRow_nili, eq_elemOfRow_agg, eq_elemOfRow_tup, eq_elemOfRow_slice, eq_elemOfRow_hsl, eq_elemOfRow_ptr, eq_elemOfRow_eptr, eq_elemOfRow_map, eq_elemOfRow_itr, eq_elemOfRow_fn] at h1 <;> first | (cases h1; done) | skip
      · rename_i es tk ad b off cap size u hsz hcap ha hel hS hV htk
        unfold elemSlice at h1
        cases hj : natI m with
        | none => rw [hj] at h1; cases h1
        | some j =>
          rw [hj] at h1; simp only [nth_eq] at h1
          cases hej : es[j]? with
          | none => rw [hej] at h1; cases h1
          | some e' =>
            rw [hej] at h1; simp only at h1
            cases hb : Nat.beq e'.cells.length sz with
            | false => rw [hb] at h1; cases h1
            | true =>
              rw [hb] at h1; cases h1
              have hsz' := Nat.eq_of_beq_eq_true hb
              have h3 := hel j e' hej
              have : size = sz := by omega
              subst this
              have hlt := (List.getElem?_eq_some_iff.1 hej).1
              have hne : es ≠ [] := fun e => by subst e; simp at hej
              refine ⟨b, off, es.length, cap, j, by rw [ha hne], natI_some hj, hlt, ?_⟩
              exact .eptr e'.cells 0 b (off + j * size) (fun q => u j q) (fun q c hc => hS j e' q c hej hc) (fun q c hc => hV j e' q c hej hc)
      · rename_i ob off len z b st lim cap hκ hsz hcap hlim
        unfold elemHsl at h1
        cases hj : inRange len m with
        | none => rw [hj] at h1; cases h1
        | some j =>
          rw [hj] at h1; simp only at h1
          cases hb : Nat.beq z sz with
          | false => rw [hb] at h1; cases h1
          | true =>
            rw [hb] at h1; cases h1
            have := Nat.eq_of_beq_eq_true hb; subst this
            obtain ⟨rfl, hlt⟩ := inRange_some hj
            exact ⟨b, st + off, len, cap, j, rfl, rfl, hlt, by rw [Nat.add_assoc]; exact .ptr _ _ _ _ _ hκ⟩
    obtain ⟨b, off, n, cap, j, e2, rfl, hj, hr⟩ := key
    unfold execOp; rw [ho]
    refine .val (u := .pointer (some ⟨b, off + j * sz, none⟩)) ?_ (.same hI hr)
    simp only [Instr.indexAt, e1, e2, asIntOf, Sem.run_bind, Sem.run_pure, Result.andThen_ok, run_und ht]
    rw [if_pos ⟨by omega, by omega⟩]
    simp only [Sem.run_bind, run_size hn, Result.andThen_ok, Sem.run_pure, Int.toNat_natCast, add_at]

theorem s_charAt {t : TypeId} {x i : Operand} {x' i' : Opd} (hI : Inv P cfg C σ w) (he : EnvR C env a.tmps) (ht : P.underlying t = some .string)
    (hx : opd x = some x') (hi : opd i = some i') (ho : o.op = .index t x i) (h : op_charAt x' i' env σ = some (v, τ)) : Runs P cfg C σ w (execOp a.eval o) v τ := by
  unfold op_charAt at h
  cases hs : (x'.eval env).str? with
  | none => rw [hs] at h; cases h
  | some s =>
    rw [hs] at h; simp only at h
    cases hm : (i'.eval env).int? with
    | none => rw [hm] at h; cases h
    | some m =>
      rw [hm] at h; simp only at h
      cases hj : natI m with
      | none => rw [hj] at h; cases h
      | some j =>
        rw [hj] at h; simp only [nth_eq] at h
        cases hb : s[j]? with
        | none => rw [hb] at h; cases h
        | some b =>
          rw [hb] at h; cases h
          obtain ⟨_, e1⟩ := str?_VR (opd_VR hx he) hs
          obtain ⟨k, _, e2⟩ := int?_VR (opd_VR hi he) hm
          have := natI_some hj; subst this
          unfold execOp; rw [ho]
          refine .val (u := .int .u8 b.toNat) ?_ (.same hI (.int _ _))
          have hsz : (⟨s.toArray⟩ : ByteArray)[j]? = some b := by
            obtain ⟨hl, hb'⟩ := List.getElem?_eq_some_iff.1 hb
            have hl' : j < (⟨s.toArray⟩ : ByteArray).size := by simpa [ByteArray.size] using hl
            rw [getElem?_pos (⟨s.toArray⟩ : ByteArray) j hl']
            simp only [Option.some.injEq]
            rw [← hb']; rfl
          simp only [Instr.index, e1, e2, asIntOf, Sem.run_bind, Sem.run_pure, Result.andThen_ok, run_und ht]
          rw [if_pos (by omega : (0 : Int) ≤ (j : Int))]
          simp only [Int.toNat_natCast, hsz, Sem.run_pure]

theorem s_min {c : Call} {x y : Operand} {x' y' : Opd} (hI : Inv P cfg C σ w) (he : EnvR C env a.tmps) (hx : opd x = some x') (hy : opd y = some y')
    (ho : o.op = .call c) (hc : c.callee = .builtin .min) (ha : c.args.toList = [x, y]) (h : op_min x' y' env σ = some (v, τ)) : Runs P cfg C σ w (execOp a.eval o) v τ := by
  unfold op_min at h
  cases hm : (x'.eval env).int? with
  | none => rw [hm] at h; cases h
  | some m =>
    rw [hm] at h; simp only at h
    cases hn : (y'.eval env).int? with
    | none => rw [hn] at h; cases h
    | some n =>
      rw [hn] at h; simp only at h
      obtain ⟨k1, e1, e2⟩ := int?_VR (opd_VR hx he) hm
      obtain ⟨k2, e3, e4⟩ := int?_VR (opd_VR hy he) hn
      rw [e1, e3] at h
      simp only [eq_binL_int, eq_binR_int_int, binInt, ifK] at h
      cases hk : Nat.beq (kcode k1) (kcode k2) with
      | false => rw [hk] at h; cases h
      | true =>
        rw [hk] at h; cases h
        have := kcode_inj hk; subst this
        unfold execOp; rw [ho]
        have ha' : c.args = #[x, y] := Array.ext' ha
        refine ⟨.value (.int k1 (if n < m then n else m)), w, _, ?_, .inl rfl, .same hI ?_⟩
        · simp only [resolve, hc, ha', Sem.run_bind, Sem.run_pure, Result.andThen_ok, invoke, builtin, List.map_toArray, List.map_cons, List.map_nil, e2, e4]
          rfl
        · rw [ltI_eq]
          by_cases hlt : n < m
          · simp only [hlt, decide_true, cond_true, if_true]; exact .int _ _
          · simp only [hlt, decide_false, cond_false, if_false]; exact .int _ _

theorem cutTok_R {tk : Tok} {ad : Option Addr} {b off n cap size l h : Nat} (hcap : n ≤ cap) (hl : l ≤ h) (hh : h ≤ n) (ha : n ≠ 0 → ad = some ⟨b, off, none⟩) (ht : tokR C tk ad b off n cap size) :
    tokR C (cutTok tk l n (Nat.beq h n)) (if cap = l then ad else ad.map (·.add (l * size))) b (off + l * size) (h - l) (cap - l) size := by
  unfold cutTok
  by_cases e : h = n
  · subst e
    rw [Nat.beq_refl, cond_true]
    cases tk with
    | none => trivial
    | full =>
      simp only [tokR] at ht
      by_cases h0 : l = 0
      · subst h0; simp only [Nat.beq_refl, cond_true, tokR]; omega
      · simp only [nbeq h0, cond_false, tokR]
    | live i g =>
      obtain ⟨h1, h2⟩ := ht
      simp only
      cases hc : (Nat.beq l 0 || Nat.blt l h) with
      | false => trivial
      | true =>
        simp only [cond_true, tokR]
        have hll : l = 0 ∨ l < h := by
          rw [Bool.or_eq_true] at hc
          rcases hc with hc | hc
          · exact .inl (Nat.eq_of_beq_eq_true hc)
          · rw [blt_eq] at hc; exact .inr (by simpa using hc)
        refine ⟨?_, ?_⟩
        · by_cases e1 : cap = l
          · have : l = 0 := by omega
            subst this; simp [h1, e1]
          · rw [if_neg e1, h1, Option.map_some, add_at]
        · rw [h2]
          have e1 : off + l * size + (h - l) * size = off + h * size := by
            rw [Nat.add_assoc, ← Nat.add_mul]; congr 2; omega
          have e2 : off + l * size + (cap - l) * size = off + cap * size := by
            rw [Nat.add_assoc, ← Nat.add_mul]; congr 2; omega
          rw [e1, e2]
  · rw [nbeq e, cond_false]; trivial

theorem s_sliceSl {t e : TypeId} {sz : Nat} {x : Operand} {x' : Opd} {lo hi : Option Operand} {lo' hi' : Option Opd} (hI : Inv P cfg C σ w) (he : EnvR C env a.tmps) (ht : P.underlying t = some (.slice e)) (hn : sizeT P e = some sz)
    (hx : opd x = some x') (h1 : optOpd lo = some lo') (h2 : optOpd hi = some hi') (ho : o.op = .slice t x lo hi none) (h : op_sliceSl sz x' lo' hi' env σ = some (v, τ)) : Runs P cfg C σ w (execOp a.eval o) v τ := by
  obtain ⟨h3, rfl⟩ := ret1_some h
  have hv := opd_VR hx he
  have key : ∃ u, (Instr.sliceAt t (a.eval x) (lo.map a.eval) (hi.map a.eval) none).run P w = .ok u w ∧ VR C v u := by
    generalize x'.eval env = c at h3 hv
    generalize a.eval x = ux at hv
    have run : ∀ (ad : Option Addr) (n cap l h : Nat), n ≤ cap → cut n (evalO env lo') (evalO env hi') = some (l, h) →
        (Instr.sliceAt t (.slice ad n cap) (lo.map a.eval) (hi.map a.eval) none).run P w = .ok (.slice (if cap = l then ad else ad.map (·.add (l * sz))) (h - l) (cap - l)) w ∧ l ≤ h ∧ h ≤ n := by
      intro ad n cap l h hc hcut
      obtain ⟨r1, r2, r3⟩ := run_cut (P := P) (w := w) he h1 h2 hc hcut true
      exact ⟨by simp only [Instr.sliceAt, Instr.slice, Sem.run_bind, run_und ht, Result.andThen_ok, r1, run_size hn, Sem.run_pure], r2, r3⟩
    cases hv <;> simp only [eq_cutRow_junk, eq_cutRow_undef, eq_cutRow_bool, eq_cutRow_int, eq_cutRow_str, eq_cutRow_nilp, eq_cutRow_nilm, eq_cutRow_nilf, eq_cutRow_nili, eq_cutRow_agg, eq_cutRow_tup, eq_cutRow_slice, eq_cutRow_hsl, eq_cutRow_ptr, eq_cutRow_eptr, eq_cutRow_map, eq_cutRow_itr, eq_cutRow_fn] at h3 <;> first | (cases h3; done) | skip
    · rename_i es tk ad b off cap size u hsz hcap ha hel hS hV htk
      unfold cutSlice at h3
      cases hc : cut es.length (evalO env lo') (evalO env hi') with
      | none => rw [hc] at h3; cases h3
      | some p =>
        obtain ⟨l, r⟩ := p
        rw [hc] at h3; simp only at h3
        cases hh : headOk sz es with
        | false => rw [hh] at h3; cases h3
        | true =>
          rw [hh] at h3; cases h3
          obtain ⟨r1, r2, r3⟩ := run ad es.length cap l r hcap hc
          refine ⟨_, r1, ?_⟩
          have hsize : es ≠ [] → size = sz := fun hne => by
            cases es with
            | nil => exact absurd rfl hne
            | cons x r => have := hel 0 x rfl; have := Nat.eq_of_beq_eq_true hh; omega
          have hlen : ((es.take r).drop l).length = r - l := by simp; omega
          have hget : ∀ i, ((es.take r).drop l)[i]? = if i < r - l then es[l + i]? else none := fun i => by
            by_cases hi : i < r - l
            · rw [if_pos hi, List.getElem?_drop, List.getElem?_take_of_lt (by omega)]
            · rw [if_neg hi, List.getElem?_eq_none (by omega)]
          have hmul : l * size = l * sz ∨ l = 0 := by
            by_cases e0 : es = []
            · subst e0; simp at r3; exact .inr (by omega)
            · rw [hsize e0]; exact .inl rfl
          have hls : l * sz = l * size := by
            rcases hmul with h | h
            · exact h.symm
            · subst h; simp
          rw [hls, ← hlen]
          refine .slice _ _ _ b (off + l * size) (cap - l) size (fun i j => u (l + i) j) hsz (by omega) (fun hne => ?_) (fun i e he => ?_) (fun i e j c he hc => ?_) (fun i e j c he hc => ?_) ?_
          · have hlt : l < r := by
              rcases Nat.lt_or_ge l r with h' | h'
              · exact h'
              · exact absurd (List.eq_nil_of_length_eq_zero (by omega)) hne
            rw [if_neg (by omega), ha (fun e0 => by subst e0; simp at r3; omega), Option.map_some, add_at]
          · rw [hget] at he
            split at he
            · exact hel _ _ he
            · cases he
          · rw [hget] at he
            split at he
            · have := hS _ _ _ _ he hc
              rw [Nat.add_mul, ← Nat.add_assoc] at this; exact this
            · cases he
          · rw [hget] at he
            split at he
            · exact hV _ _ _ _ he hc
            · cases he
          · rw [hlen]
            exact cutTok_R hcap r2 r3 (fun hn => ha (fun e0 => by subst e0; exact hn rfl)) htk
    · rename_i ob off len z b st lim cap hκ hsz hcap hlim
      unfold cutHsl at h3
      cases hc : cut len (evalO env lo') (evalO env hi') with
      | none => rw [hc] at h3; cases h3
      | some p =>
        obtain ⟨l, r⟩ := p
        rw [hc] at h3; simp only at h3
        cases hh : Nat.beq z sz with
        | false => rw [hh] at h3; cases h3
        | true =>
          rw [hh] at h3; cases h3
          have := Nat.eq_of_beq_eq_true hh; subst this
          obtain ⟨r1, r2, r3⟩ := run _ len cap l r hcap hc
          refine ⟨_, r1, ?_⟩
          cases hb : (Nat.beq l 0 || Nat.blt l len) with
          | true =>
            rw [cond_true]
            have hll : l = 0 ∨ l < len := by
              rw [Bool.or_eq_true] at hb
              rcases hb with hb | hb
              · exact .inl (Nat.eq_of_beq_eq_true hb)
              · rw [blt_eq] at hb; exact .inr (by simpa using hb)
            have hmul : l * z + (cap - l) * z = cap * z := by rw [← Nat.add_mul]; congr 1; omega
            have := VR.hsl (C := C) ob (off + l * z) (r - l) z b st lim (cap - l) hκ hsz (by omega) (by omega)
            by_cases e1 : cap = l
            · have : l = 0 := by omega
              subst this
              have h0 : r = 0 := by omega
              subst h0; subst e1
              simpa using this
            · rw [if_neg e1, Option.map_some, add_at, Nat.add_assoc]; exact this
          | false =>
            rw [cond_false]
            have hll : r - l = 0 := by
              rw [Bool.or_eq_false_iff] at hb
              have := hb.2
              rw [blt_eq] at this
              simp at this; omega
            rw [hll]
            exact .slice [] .none _ 0 0 (cap - l) 1 (fun _ _ => .nilFunc) (by decide) (by simp) (fun h => absurd rfl h) (fun i e h => by simp at h) (fun i e j c h => by simp at h) (fun i e j c h => by simp at h) trivial
  obtain ⟨u, r1, r2⟩ := key
  unfold execOp; rw [ho]
  exact .val r1 (.same hI r2)

end Go.AM
