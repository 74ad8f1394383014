/- A part of the proof of: EmitBecomes: what a term becomes by patterns, and a pattern's name, is what the document says, or the error is told. -/
import Derived.Test.YtkopdkjpmccbmaaGreatDoorM17
import Derived.Test.YtkopdkjpmccbmaaGreatDoorM31
namespace Go.AM
open Go.RowKit Go.Proofs
variable {cfg : Cfg} {C D : Ctx} {σ τ : St} {w : World} {v : AV} {cl : CallF}

theorem over_one {cs : Array Value} {i : Nat} {x : Value} (h : i + 1 ≤ cs.size) : (cs.toList.take i ++ [x] ++ cs.toList.drop (i + 1)).toArray = cs.setIfInBounds i x := by
  have hs : (cs.toList.take i ++ [x] ++ cs.toList.drop (i + 1)) = (cs.setIfInBounds i x).toList := by
    rw [Array.toList_setIfInBounds, List.set_eq_take_append_cons_drop]
    rw [if_pos (by simp; omega)]
    simp
  rw [hs]

/-- One cell of an object that is written. -/
theorem store_cell {P : Program} (hI : Inv P cfg C σ w) {id off : Nat} {l l' : List AV} {c : AV} {x : Value} (hg : σ.cells id = some l) (hs : splice l off [c] = some l')
    {b st lim : Nat} (hκ : C.κ id = some (.cells b st lim)) (hv : VR C c x) (hc : isCell c = true) :
    Inv P cfg C (σ.set id (.cells l')) (w.setCell ⟨b, st + off, none⟩ x) ∧ Ev C σ w C (σ.set id (.cells l')) (w.setCell ⟨b, st + off, none⟩ x) := by
  obtain ⟨cs, e, h1, h2, _, _, h3, h4⟩ := store_row_at hI (cells_get hg) hs hκ (VRs.one hv) (fun y hy => by simp only [List.mem_singleton] at hy; subst hy; exact hc)
  have e1 : w.setRow b (cs.toList.take (st + off) ++ (#[x] : Array Value).toList ++ cs.toList.drop (st + off + (#[x] : Array Value).size)).toArray = w.setCell ⟨b, st + off, none⟩ x := by
    rw [setCell_eq_setRow w b (st + off) cs e (0, 0) x h1, ← over_one h2]; rfl
  rw [e1] at h3 h4
  exact ⟨h3, h4⟩

/-- A cell of an object. -/
theorem cell_of {P : Program} (hI : Inv P cfg C σ w) {id off : Nat} {l : List AV} {c : AV} (hg : σ.cells id = some l) (hc : nth l off = some c) {b st lim : Nat} (hκ : C.κ id = some (.cells b st lim)) :
    ∃ u, w.cell? ⟨b, st + off, none⟩ = some u ∧ VR C c u ∧ w.frozen? ⟨b, st + off, none⟩ = false := by
  obtain ⟨b', st', lim', cs, e, g1, g2, g3, g4, g5, g6⟩ := hI.obj _ _ (cells_get hg)
  rw [hκ] at g1; cases g1
  rw [nth_eq] at hc
  obtain ⟨u, hu, hr⟩ := g5 off c hc
  refine ⟨u, by simp [World.cell?, g2, hu], hr, ?_⟩
  simp [World.frozen?, g2]

theorem int_u {k : IntKind} {n : Int} {u : Value} (h : VR C (.int k n) u) : u = .int k n := by cases h; rfl

theorem hset_hset (l : Heap) (i : Nat) (x y : AObj) : hset (hset l i x) i y = hset l i y := by
  induction l with
  | nil => rfl
  | cons p l ih =>
    show hset (bif Nat.beq p.1 i then (i, x) :: l else p :: hset l i x) i y = bif Nat.beq p.1 i then (i, y) :: l else p :: hset l i y
    cases h : Nat.beq p.1 i with
    | true =>
      simp only [cond_true]
      show (bif Nat.beq i i then (i, y) :: l else (i, x) :: hset l i y) = _
      rw [Nat.beq_refl, cond_true]
    | false =>
      simp only [cond_false]
      show (bif Nat.beq p.1 i then (i, y) :: hset l i x else p :: hset (hset l i x) i y) = _
      rw [h, cond_false, ih]
theorem set_set (σ : St) (i : Nat) (x y : AObj) : (σ.set i x).set i y = σ.set i y := by
  unfold St.set; rw [hset_hset]
theorem cells_set {σ : St} {i : Nat} {l : List AV} (h : σ.cells i = some l) (l' : List AV) : (σ.set i (.cells l')).cells i = some l' := by
  unfold St.cells
  rw [get_set, if_pos rfl, cells_get h]; rfl

theorem two_args {a b : AV} {cargs : Array Value} (ha : VRs C [a, b] cargs) : ∃ u0 u1, cargs = #[u0, u1] ∧ VR C a u0 ∧ VR C b u1 := by
  obtain ⟨u0, hu0, hr0⟩ := ha.get (i := 0) rfl
  obtain ⟨u1, hu1, hr1⟩ := ha.get (i := 1) rfl
  refine ⟨u0, u1, ?_, hr0, hr1⟩
  apply Array.ext'
  have h2 := ha.1
  have : cargs.toList.length = 2 := by simpa using h2.symm
  match hm : cargs.toList, this with
  | [x, y], _ =>
    have e0 : cargs.toList[0]? = some u0 := by simpa using hu0
    have e1 : cargs.toList[1]? = some u1 := by simpa using hu1
    rw [hm] at e0 e1
    simp at e0 e1
    rw [e0, e1]

/-- The call, and what is laid behind it. -/
theorem once_first {o off : Nat} {l : List AV} {f : AV} (h : onceFirst cl o off l f σ = some (v, τ)) : ∃ (l1 : List AV) (c : Nat) (asv : List AV) (v1 : AV) (σ1 : St) (l2 l3 l4 : List AV), nth l (off + 1) = some (.int .i32 0) ∧ splice l (off + 1) [.int .i32 1] = some l1 ∧
    callee f [] = some (.fn c, asv) ∧ cl (.fn c) asv (σ.set o (.cells l1)) = some (v1, σ1) ∧ σ1.cells o = some l2 ∧ nth l2 (off + 1) = some (.int .i32 1) ∧ splice l2 off [.int .u32 1] = some l3 ∧ splice l3 (off + 1) [.int .i32 0] = some l4 ∧ v = .undef ∧ τ = σ1.set o (.cells l4) := by
  unfold onceFirst at h
  cases hn1 : nth l (off + 1) with
  | none => rw [hn1] at h; cases h
  | some x1 =>
    cases hl1 : splice l (off + 1) [.int .i32 1] with
    | none => rw [hn1, hl1] at h; cases x1 <;> first | cases h | (rename_i k n; cases k <;> cases h)
    | some l1 =>
      rw [hn1, hl1] at h
      have key : ∀ n : Int, (bif eqI n 0 then match callee f [] with
          | some (.fn c, asv) => match cl (.fn c) asv (σ.set o (.cells l1)) with
            | some (_, σ1) => onceDone o off σ1
            | none => none
          | _ => none
          else none) = some (v, τ) → n = 0 ∧ ∃ (c : Nat) (asv : List AV) (v1 : AV) (σ1 : St), callee f [] = some (.fn c, asv) ∧ cl (.fn c) asv (σ.set o (.cells l1)) = some (v1, σ1) ∧ onceDone o off σ1 = some (v, τ) := by
        intro n h
        cases hz : eqI n 0 with
        | false => rw [hz] at h; cases h
        | true =>
          rw [hz, cond_true] at h
          refine ⟨by rw [eqI_eq] at hz; simpa using hz, ?_⟩
          cases hc : callee f [] with
          | none => rw [hc] at h; cases h
          | some q =>
            obtain ⟨c, asv⟩ := q
            rw [hc] at h
            cases c with
            | yield i => cases h
            | dfn i => cases h
            | fn c =>
              simp only at h
              cases hcv : cl (.fn c) asv (σ.set o (.cells l1)) with
              | none => rw [hcv] at h; cases h
              | some q =>
                obtain ⟨v1, σ1⟩ := q
                rw [hcv] at h
                exact ⟨c, asv, v1, σ1, rfl, hcv, h⟩
      have hx : ∃ n, x1 = .int .i32 n := by
        cases x1 <;> first | (cases h; done) | skip
        rename_i k n
        cases k <;> first | (cases h; done) | exact ⟨n, rfl⟩
      obtain ⟨n, rfl⟩ := hx
      obtain ⟨rfl, c, asv, v1, σ1, h1, h2, h3⟩ := key n h
      unfold onceDone at h3
      cases hl2 : σ1.cells o with
      | none => rw [hl2] at h3; cases h3
      | some l2 =>
        rw [hl2] at h3; simp only at h3
        cases hn2 : nth l2 (off + 1) with
        | none => rw [hn2] at h3; cases h3
        | some x2 =>
          cases hl3 : splice l2 off [.int .u32 1] with
          | none => rw [hn2, hl3] at h3; cases x2 <;> first | cases h3 | (rename_i k n; cases k <;> cases h3)
          | some l3 =>
            rw [hn2, hl3] at h3
            have hx2 : ∃ n, x2 = .int .i32 n := by
              cases x2 <;> first | (cases h3; done) | skip
              rename_i k n
              cases k <;> first | (cases h3; done) | exact ⟨n, rfl⟩
            obtain ⟨n2, rfl⟩ := hx2
            simp only at h3
            cases hz2 : eqI n2 1 with
            | false => rw [hz2] at h3; cases h3
            | true =>
              rw [hz2] at h3
              have : n2 = 1 := by rw [eqI_eq] at hz2; simpa using hz2
              subst this
              cases hl4 : splice l3 (off + 1) [.int .i32 0] with
              | none => rw [hl4] at h3; cases h3
              | some l4 =>
                rw [hl4] at h3; cases h3
                exact ⟨l1, c, asv, v1, σ1, l2, l3, l4, rfl, rfl, h1, h2, hl2, hn2, hl3, hl4, rfl, rfl⟩

theorem once_ok : PrimOk Tryz.prog cfg 186 primOnce := by
  intro cl hcl args σ v τ h
  unfold primOnce at h
  split at h
  · rename_i o off f
    cases hl : σ.cells o with
    | none => rw [hl] at h; cases h
    | some l =>
      rw [hl] at h; simp only at h
      split at h
      · rename_i n hn
        cases hz : eqI n 0 with
        | false =>
          rw [hz] at h; cases h
          refine ⟨Nat.le_refl _, fun C w cargs hI ha hf => ⟨Tryz.call186 cargs w, ?_⟩⟩
          obtain ⟨u0, u1, rfl, hr0, hr1⟩ := two_args ha
          cases hr0 with
          | ptr _ _ b st lim hκ =>
            obtain ⟨u, hc, hr, _⟩ := cell_of hI hl hn hκ
            have := int_u hr
            subst this
            refine (do_done ⟨b, st + off, none⟩ n (fun e => by rw [eqI_eq, e] at hz; cases hz) u1 w hc).mono ?_
            rintro e w' ⟨rfl, rfl⟩
            exact ⟨_, rfl, .same hI .undef⟩
        | true =>
          rw [hz, cond_true] at h
          have hn0 : n = 0 := by rw [eqI_eq] at hz; simpa using hz
          subst hn0
          obtain ⟨l1, c, asv, v1, σ1, l2, l3, l4, hn1, hl1, hcal, hcv, hl2, hn2, hl3, hl4, rfl, rfl⟩ := once_first h
          have hnx := hcl.next _ _ _ _ _ hcv
          refine ⟨hnx, fun C w cargs hI ha hf => ⟨Tryz.call186 cargs w, ?_⟩⟩
          obtain ⟨u0, u1, rfl, hr0, hr1⟩ := two_args ha
          cases hr0 with
          | ptr _ _ b st lim hκ =>
            obtain ⟨x0, c0, r0, f0⟩ := cell_of hI hl hn hκ
            obtain ⟨x1, c1, r1, f1⟩ := cell_of hI hl hn1 hκ
            have := int_u r0; subst this
            have := int_u r1; subst this
            obtain ⟨i1, e1⟩ := store_cell hI hl hl1 hκ (.int .i32 1) rfl
            rw [← Nat.add_assoc] at c1 f1 i1 e1
            obtain ⟨ff, first, caps, hfn, hcf⟩ := callee_some hcal
            rcases fnR_inv hr1 hfn with ⟨fv, cv, rfl, hny, v1', v2'⟩ | ⟨l', bb, rfl, rfl, rfl, rfl, hκ'⟩
            · cases ff <;> simp only [calleeFn] at hcf <;> first | (cases hcf; done) | skip
              · rename_i m
                cases hcf
                have hvs : VRs C (first ++ [] ++ caps) (fv ++ cv) := by rw [List.append_nil]; exact v1'.append v2'
                have hf1 : Fresh C (σ.set o (.cells l1)).next σ1.next := hf
                obtain ⟨k1, k2⟩ := hcl.fn c _ _ v1 σ1 hcv C _ (fv ++ cv) i1 hvs hf1
                refine (do_first b (st + off) c fv cv (fun w2 => ∃ D, Ev C (σ.set o (.cells l1)) (w.setCell ⟨b, st + off + 1, none⟩ (.int .i32 1)) D σ1 w2 ∧ Inv Tryz.prog cfg D σ1 w2) w c0 c1 f1 k1 (k2.mono ?_) ?_).mono ?_
                · rintro e w2 ⟨u, rfl, D, hE, hI2, _⟩
                  exact ⟨⟨u, rfl⟩, D, hE, hI2⟩
                · rintro w2 ⟨D, hE, hI2⟩
                  have hκD := hE.le.κ _ _ hκ
                  obtain ⟨s1, _⟩ := splice_some hl3
                  have hx : ∃ y, nth l2 off = some y := by
                    rw [nth_eq]
                    have : off < l2.length := by simp at s1; omega
                    exact ⟨_, List.getElem?_eq_getElem this⟩
                  obtain ⟨y, hy⟩ := hx
                  obtain ⟨y0, d0, _, g0⟩ := cell_of hI2 hl2 hy hκD
                  obtain ⟨y1, d1, r1', g1⟩ := cell_of hI2 hl2 hn2 hκD
                  have := int_u r1'; subst this
                  rw [← Nat.add_assoc] at d1 g1
                  exact ⟨⟨y0, d0⟩, d1, g0, g1⟩
                · rintro e w' ⟨rfl, w2, ⟨D, hE, hI2⟩, rfl⟩
                  have hκD := hE.le.κ _ _ hκ
                  have hId := hI2.drew (w2.drawn + 1)
                  have hEd := Ev.drew D σ1 w2 (w2.drawn + 1)
                  obtain ⟨i3, e3⟩ := store_cell hId hl2 hl3 hκD (.int .u32 1) rfl
                  obtain ⟨i4, e4⟩ := store_cell i3 (cells_set hl2 l3) hl4 hκD (.int .i32 0) rfl
                  rw [set_set] at i4 e4
                  rw [← Nat.add_assoc] at i4 e4
                  exact ⟨_, rfl, D, (((e1.trans hE).trans hEd).trans e3).trans e4, i4, .undef⟩
              · exact absurd rfl (hny _)
            · simp only [calleeFn] at hcf
              cases hcf
      · cases h
  · cases h

end Go.AM
