/- A part of the proof of: EmitBecomes: what a term becomes by patterns, and a pattern's name, is what the document says, or the error is told. -/
import Derived.Test.YtkopdkjpmccbmaaGreatDoorM05
import Derived.ChangeKeysEq
import Derived.MapKept
import Derived.WideKeyRuns
namespace Go.AM
open Go.RowKit
variable {P : Program} {cfg : Cfg} {C : Ctx} {w : World}

theorem kcode_lt (k : IntKind) : kcode k < 8 := by cases k <;> decide

/-- A cell of a key. -/
inductive CellK (C : Ctx) : Nat → AV → Value → Prop
  | int (k : IntKind) (n : Int) : CellK C (kshape k) (.int k n) (.int k n)
  | str (s : List UInt8) : CellK C 10 (.str s) (.string ⟨s.toArray⟩)
  | bool (b : Bool) : CellK C 11 (.bool b) (.bool b)

theorem cellK {x : AV} {u : Value} (h : VR C x u) (hs : shapeP x ≠ 0) : CellK C (shapeP x) x u := by
  cases h <;> first
    | exact .int _ _
    | exact .str _
    | exact .bool _
    | exact absurd rfl hs

theorem kind_int {t : TypeId} {k : IntKind} (h : kindP P t = some (kshape k)) : P.underlying t = some (.int k) := by
  unfold kindP at h
  split at h <;> first
    | (rename_i e; revert h; cases k <;> first | (intro _; exact e) | (intro h; exact absurd h (by decide)))
    | (exfalso; revert h; cases k <;> intro h <;> exact absurd h (by decide))
    | cases h
theorem kind_str {t : TypeId} (h : kindP P t = some 10) : P.underlying t = some .string := by
  unfold kindP at h
  split at h <;> first
    | (exact absurd h (by decide))
    | assumption
theorem kind_bool {t : TypeId} (h : kindP P t = some 11) : P.underlying t = some .bool := by
  unfold kindP at h
  split at h <;> first
    | (exact absurd h (by decide))
    | assumption
theorem kind_plain {t : TypeId} {c : Nat} (h : kindP P t = some c) : c ≠ 0 ∧ aggT P t = some false ∧ P.plainKey t = true := by
  unfold kindP at h
  unfold aggT Program.plainKey
  split at h <;> first
    | (rename_i e; cases h; rw [e]; exact ⟨by decide, rfl, rfl⟩)
    | cases h

theorem cell_equal {t : TypeId} {c : Nat} (hk : kindP P t = some c) {x y : AV} {u v : Value} (hx : CellK C c x u) (hy : CellK C c y v) (d : Nat) :
    (Op.equalIn (d + 1) t u v).run P w = .ok (eqP x y) w ∧ eqK x y = eqP x y ∧ (eqP x y = true ↔ x = y) := by
  cases hx with
  | int k n =>
    generalize hc : kshape k = c at hk hy
    cases hy with
    | int k' m =>
      have : k = k' := kcode_inj (by unfold kshape at hc; rw [show kcode k = kcode k' by omega]; exact Nat.beq_refl _)
      subst this
      have hb : eqP (.int k n) (.int k m) = (n == m) := eqI_eq n m
      rw [hb]
      exact ⟨run_equalIn_int w d t k k n m (kind_int hk), hb, by simp⟩
    | str s => have := kcode_lt k; unfold kshape at hc; omega
    | bool b => have := kcode_lt k; unfold kshape at hc; omega
  | str s =>
    generalize hc : 10 = c at hk hy
    cases hy with
    | int k' m => have := kcode_lt k'; unfold kshape at hc; omega
    | str r =>
      have hb : eqP (.str s) (.str r) = (s == r) := eqS_eq s r
      rw [hb]
      refine ⟨?_, hb, by simp⟩
      rw [run_equalIn_string w d t _ _ (kind_str hk), ba_toList, ba_toList]
    | bool b => omega
  | bool b =>
    generalize hc : 11 = c at hk hy
    cases hy with
    | int k' m => have := kcode_lt k'; unfold kshape at hc; omega
    | str r => omega
    | bool b' =>
      have hb : eqP (.bool b) (.bool b') = (b == b') := rfl
      rw [hb]
      exact ⟨run_equalIn_bool' w d t b b' (kind_bool hk), hb, by simp⟩

theorem eqPs_cons (x y : AV) (a b : List AV) : eqPs (x :: a) (y :: b) = (eqP x y && eqPs a b) := by
  show (bif eqP x y then eqPs a b else false) = _
  cases eqP x y <;> rfl

theorem cell_same {c : Nat} {x y : AV} {u v : Value} (h : CellK C c x u) (h' : CellK C c y v) : eqP x y = true ↔ x = y := by
  cases h with
  | int k n => generalize hc : kshape k = c at h'; cases h' with
    | int k' m =>
      have : k = k' := kcode_inj (by unfold kshape at hc; rw [show kcode k = kcode k' by omega]; exact Nat.beq_refl _)
      subst this
      have hb : eqP (.int k n) (.int k m) = (n == m) := eqI_eq n m
      rw [hb]; simp
    | str s => have := kcode_lt k; unfold kshape at hc; omega
    | bool b => have := kcode_lt k; unfold kshape at hc; omega
  | str s => generalize hc : 10 = c at h'; cases h' with
    | int k' m => have := kcode_lt k'; unfold kshape at hc; omega
    | str r =>
      have hb : eqP (.str s) (.str r) = (s == r) := eqS_eq s r
      rw [hb]; simp
    | bool b => omega
  | bool b => generalize hc : 11 = c at h'; cases h' with
    | int k' m => have := kcode_lt k'; unfold kshape at hc; omega
    | str r => omega
    | bool b' =>
      have hb : eqP (.bool b) (.bool b') = (b == b') := rfl
      rw [hb]; simp

/-- Cells of such kinds. -/
inductive CellsK (C : Ctx) : List Nat → List AV → List Value → Prop
  | nil : CellsK C [] [] []
  | cons {c : Nat} {x : AV} {u : Value} {cs : List Nat} {xs : List AV} {us : List Value} (h : CellK C c x u) (t : CellsK C cs xs us) : CellsK C (c :: cs) (x :: xs) (u :: us)

theorem cellsK : ∀ {xs : List AV} {us : List Value}, xs.length = us.length → (∀ (i : Nat) (c : AV) (v : Value), xs[i]? = some c → us[i]? = some v → VR C c v) → (∀ c ∈ shapesP xs, c ≠ 0) → CellsK C (shapesP xs) xs us := by
  intro xs
  induction xs with
  | nil => intro us h _ _; cases us with | nil => exact .nil | cons _ _ => simp at h
  | cons x xs ih =>
    intro us h h1 h2
    cases us with
    | nil => simp at h
    | cons u us =>
      have e : shapesP (x :: xs) = shapeP x :: shapesP xs := rfl
      rw [e] at h2 ⊢
      exact .cons (cellK (h1 0 x u rfl rfl) (h2 _ (by simp))) (ih (by simpa using h) (fun i c v hc hv => h1 (i + 1) c v hc hv) (fun c hc => h2 c (by simp [hc])))

theorem CellsK.same {ks : List Nat} {xs ys : List AV} {us vs : List Value} (hx : CellsK C ks xs us) (hy : CellsK C ks ys vs) : eqPs xs ys = true ↔ xs = ys := by
  induction hx generalizing ys vs with
  | nil => cases hy; simp [eqPs]
  | cons h t ih =>
    cases hy with
    | cons h' t' =>
      rw [eqPs_cons, Bool.and_eq_true, ih t']
      rw [cell_same h h']; simp

theorem CellsK.len {ks : List Nat} {xs : List AV} {us : List Value} (h : CellsK C ks xs us) : xs.length = ks.length ∧ us.length = ks.length := by
  induction h with
  | nil => exact ⟨rfl, rfl⟩
  | cons _ _ ih => simp [ih.1, ih.2]

theorem run_part1 {t : TypeId} (ht : aggT P t = some false) {vs : Array Value} {off : Nat} {u : Value} (h : vs[off]? = some u) : (part t vs off).run P w = .ok u w := by
  simp only [part, Sem.run_bind, run_isAgg ht, Result.andThen_ok, Bool.false_eq_true, if_false, h, Sem.run_pure]

/-- What stands at a place, and behind. -/
theorem drop_head {vs : Array Value} {i : Nat} {u : Value} {us : List Value} (h : vs.toList.drop i = u :: us) : vs[i]? = some u ∧ vs.toList.drop (i + 1) = us := by
  constructor
  · have : (vs.toList.drop i)[0]? = some u := by rw [h]; rfl
    rw [List.getElem?_drop] at this; simpa using this
  · rw [← List.drop_drop, h]; rfl

theorem eqFields_sound {us vs : Array Value} (d : Nat) : ∀ (fs : List Field) (i : Nat) (ks : List Nat) (xs ys : List AV), kindsF P i fs = some ks → CellsK C ks xs (us.toList.drop i) → CellsK C ks ys (vs.toList.drop i) →
    (Op.eqFields (d + 1) us vs fs).run P w = .ok (eqPs xs ys) w := by
  intro fs
  induction fs with
  | nil =>
    intro i ks xs ys h h1 h2
    cases h
    generalize us.toList.drop i = l at h1
    generalize vs.toList.drop i = l' at h2
    cases h1; cases h2; rfl
  | cons f fs ih =>
    intro i ks xs ys h h1 h2
    simp only [kindsF] at h
    cases hk : kindP P f.type with
    | none => rw [hk] at h; cases h
    | some k =>
      cases hr : kindsF P (i + 1) fs with
      | none => rw [hk, hr] at h; cases h
      | some l =>
        rw [hk, hr] at h; simp only at h
        split at h
        · rename_i hc
          cases h
          simp only [Bool.and_eq_true, bne_iff_ne, ne_eq, beq_iff_eq] at hc
          obtain ⟨⟨hn, ho⟩, hsz⟩ := hc
          generalize hu : us.toList.drop i = lu at h1
          generalize hv : vs.toList.drop i = lv at h2
          cases h1 with
          | cons c1 t1 =>
            cases h2 with
            | cons c2 t2 =>
              obtain ⟨u1, u2⟩ := drop_head hu
              obtain ⟨v1, v2⟩ := drop_head hv
              obtain ⟨_, ha, _⟩ := kind_plain hk
              have he := (cell_equal (P := P) (w := w) hk c1 c2 d).1
              simp only [Op.eqFields, ne_eq, hn, not_false_eq_true, if_true, Sem.run_bind, ho, run_part1 ha u1, run_part1 ha v1, Result.andThen_ok, he]
              rw [eqPs_cons]
              cases hb : eqP _ _ with
              | false => simp
              | true =>
                simp only [Bool.not_true, Bool.false_eq_true, if_false, Bool.true_and]
                exact ih (i + 1) l _ _ hr (u2 ▸ t1) (v2 ▸ t2)
        · cases h

theorem eqItems_sound {us vs : Array Value} {e : TypeId} {k : Nat} (hk : kindP P e = some k) (hs : P.cellsOf e = 1) (d : Nat) : ∀ (m i : Nat) (xs ys : List AV), CellsK C (List.replicate m k) xs (us.toList.drop i) → CellsK C (List.replicate m k) ys (vs.toList.drop i) →
    (Op.eqItems (d + 1) e (P.cellsOf e) us vs (List.range' i m)).run P w = .ok (eqPs xs ys) w := by
  intro m
  induction m with
  | zero =>
    intro i xs ys h1 h2
    generalize us.toList.drop i = l at h1
    generalize vs.toList.drop i = l' at h2
    cases h1; cases h2; rfl
  | succ m ih =>
    intro i xs ys h1 h2
    rw [List.replicate_succ] at h1 h2
    generalize hu : us.toList.drop i = lu at h1
    generalize hv : vs.toList.drop i = lv at h2
    cases h1 with
    | cons c1 t1 =>
      cases h2 with
      | cons c2 t2 =>
        obtain ⟨u1, u2⟩ := drop_head hu
        obtain ⟨v1, v2⟩ := drop_head hv
        obtain ⟨_, ha, _⟩ := kind_plain hk
        have he := (cell_equal (P := P) (w := w) hk c1 c2 d).1
        rw [List.range'_succ]
        simp only [Op.eqItems, Sem.run_bind, hs, Nat.mul_one, run_part1 ha u1, run_part1 ha v1, Result.andThen_ok, he]
        rw [eqPs_cons]
        cases hb : eqP _ _ with
        | false => simp
        | true =>
          simp only [Bool.not_true, Bool.false_eq_true, if_false, Bool.true_and]
          have := ih (i + 1) _ _ (u2 ▸ t1) (v2 ▸ t2)
          rw [hs] at this; exact this

/-- A key, of such kinds. -/
inductive KeyK (P : Program) (C : Ctx) (t : TypeId) : AV → Value → Prop
  | cell {c : Nat} {x : AV} {u : Value} (hk : kindP P t = some c) (h : CellK C c x u) : KeyK P C t x u
  | struct {l : List Nat} {cs : List AV} {us : Array Value} (hk : plainStruct P t = some l) (h : CellsK C l cs us.toList) : KeyK P C t (.agg cs) (.agg us)
  | arr {l : List Nat} {cs : List AV} {us : Array Value} (hk : plainArr P t = some l) (h : CellsK C l cs us.toList) : KeyK P C t (.agg cs) (.agg us)

theorem shape_cell {x : AV} {c : Nat} (h : shapeOf x = [c]) (hc : c ≠ 0) : shapeP x = c := by
  cases x <;> simp [shapeOf] at h
  · subst h; rfl
  · subst h; rfl
  · subst h; rfl
  · obtain ⟨rfl, _⟩ := h; exact absurd rfl hc
theorem shape_agg {x : AV} {l : List Nat} (h : shapeOf x = 0 :: l) : ∃ cs, x = .agg cs ∧ shapesP cs = l := by
  cases x <;> simp [shapeOf, kshape] at h
  · rename_i cs; exact ⟨cs, rfl, h⟩

theorem kindsF_ne : ∀ {fs : List Field} {i : Nat} {l : List Nat}, kindsF P i fs = some l → ∀ c ∈ l, c ≠ 0 := by
  intro fs
  induction fs with
  | nil => intro i l h c hc; cases h; cases hc
  | cons f fs ih =>
    intro i l h c hc
    simp only [kindsF] at h
    cases hk : kindP P f.type with
    | none => rw [hk] at h; cases h
    | some k =>
      cases hr : kindsF P (i + 1) fs with
      | none => rw [hk, hr] at h; cases h
      | some l' =>
        rw [hk, hr] at h; simp only at h
        split at h
        · cases h
          rcases List.mem_cons.1 hc with rfl | hc
          · exact (kind_plain hk).1
          · exact ih hr c hc
        · cases h

theorem plainStruct_some {t : TypeId} {l : List Nat} (h : plainStruct P t = some l) : ∃ fs, P.underlying t = some (.struct fs) ∧ P.stoodInHeld t = false ∧ P.eqGuardType P.depth t = false ∧ kindsF P 0 fs.toList = some l := by
  unfold plainStruct at h
  split at h
  · rename_i fs hu
    split at h
    · rename_i hc
      simp only [Bool.and_eq_true, Bool.not_eq_true'] at hc
      exact ⟨fs, hu, hc.1, hc.2, h⟩
    · cases h
  · cases h
theorem plainArr_some {t : TypeId} {l : List Nat} (h : plainArr P t = some l) : ∃ n e k, P.underlying t = some (.array n e) ∧ kindP P e = some k ∧ sizeT P e = some 1 ∧ l = List.replicate n k := by
  unfold plainArr at h
  split at h
  · rename_i n e hu
    split at h
    · rename_i k hk
      split at h
      · rename_i hs
        cases h
        exact ⟨n, e, k, hu, hk, by simpa using hs, rfl⟩
      · cases h
    · cases h
  · cases h

theorem keyK {t : TypeId} {ks : List Nat} (hk : keyT P t = some ks) {x : AV} {u : Value} (hv : VR C x u) (hs : shapeOf x = ks) : KeyK P C t x u := by
  unfold keyT at hk
  cases h1 : kindP P t with
  | some c =>
    rw [h1] at hk; cases hk
    have h0 := (kind_plain h1).1
    have := shape_cell hs h0
    exact .cell h1 (this ▸ cellK hv (by rw [this]; exact h0))
  | none =>
    rw [h1] at hk; simp only at hk
    cases h2 : plainStruct P t with
    | some l =>
      rw [h2] at hk; cases hk
      obtain ⟨cs, rfl, rfl⟩ := shape_agg hs
      obtain ⟨us, rfl, hvs⟩ := agg?_VR hv rfl
      obtain ⟨fs, _, _, _, h3⟩ := plainStruct_some h2
      exact .struct h2 (cellsK (by simpa using hvs.1) (fun i c v hc hv' => hvs.2 i c v hc (by simpa using hv')) (kindsF_ne h3))
    | none =>
      rw [h2] at hk; simp only [Option.map_eq_some_iff] at hk
      obtain ⟨l, h3, rfl⟩ := hk
      obtain ⟨cs, rfl, rfl⟩ := shape_agg hs
      obtain ⟨us, rfl, hvs⟩ := agg?_VR hv rfl
      obtain ⟨n, e, k, _, h4, _, h5⟩ := plainArr_some h3
      exact .arr h3 (cellsK (by simpa using hvs.1) (fun i c v hc hv' => hvs.2 i c v hc (by simpa using hv')) (fun c hc => by
        rw [h5] at hc
        rw [List.eq_of_mem_replicate hc]; exact (kind_plain h4).1))

theorem key_equal {t : TypeId} {x y : AV} {u v : Value} (hx : KeyK P C t x u) (hy : KeyK P C t y v) (d : Nat) :
    (Op.equalIn (d + 2) t u v).run P w = .ok (eqK x y) w ∧ (eqK x y = true ↔ x = y) := by
  cases hx with
  | cell hk h =>
    cases hy with
    | cell hk' h' =>
      rw [hk] at hk'; cases hk'
      obtain ⟨a, b, c⟩ := cell_equal (P := P) (w := w) hk h h' (d + 1)
      rw [b]; exact ⟨a, c⟩
    | struct hk' h' =>
      obtain ⟨fs, e, _⟩ := plainStruct_some hk'
      unfold kindP at hk; rw [e] at hk; cases hk
    | arr hk' h' =>
      obtain ⟨n, e', k, e, _⟩ := plainArr_some hk'
      unfold kindP at hk; rw [e] at hk; cases hk
  | @struct l cs us hk h =>
    obtain ⟨fs, hu, hst, _, hkf⟩ := plainStruct_some hk
    cases hy with
    | cell hk' h' => unfold kindP at hk'; rw [hu] at hk'; cases hk'
    | arr hk' h' => unfold plainArr at hk'; rw [hu] at hk'; cases hk'
    | @struct l' cs' us' hk' h' =>
      rw [hk] at hk'; cases hk'
      have hfs : P.fieldsOf t = fs := by simp [Program.fieldsOf, hu]
      rw [run_equalIn_agg w (d + 1) t _ _ (by rw [hfs]; exact hu) hst, hfs]
      have := eqFields_sound (P := P) (w := w) (us := us) (vs := us') d fs.toList 0 _ _ _ hkf h h'
      exact ⟨this, by simpa using h.same h'⟩
  | @arr l cs us hk h =>
    obtain ⟨n, e, k, hu, hke, hs1, rfl⟩ := plainArr_some hk
    cases hy with
    | cell hk' h' => unfold kindP at hk'; rw [hu] at hk'; cases hk'
    | struct hk' h' => unfold plainStruct at hk'; rw [hu] at hk'; cases hk'
    | @arr l' cs' us' hk' h' =>
      rw [hk] at hk'; cases hk'
      obtain ⟨i, hi, h1⟩ := info_of_size hs1
      have hc : P.cellsOf e = 1 := by simp [Program.cellsOf, hi, h1]
      rw [run_equalIn_array w (d + 1) us us' hu hi, List.range_eq_range']
      have := eqItems_sound (P := P) (w := w) (us := us) (vs := us') hke hc d n 0 _ _ h h'
      exact ⟨this, by simpa using h.same h'⟩

theorem cell_check {t : TypeId} {c : Nat} (hk : kindP P t = some c) {x : AV} {u : Value} (hx : CellK C c x u) (em : Bool) (n : Nat) : (Instr.checkKey em (n + 1) t u).run P w = .ok () w := by
  cases hx with
  | int k m => simp [Instr.checkKey, run_und (kind_int hk)]
  | str s => simp [Instr.checkKey, run_und (kind_str hk)]
  | bool b => simp [Instr.checkKey, run_und (kind_bool hk)]

end Go.AM
namespace Go.AM
open Go.RowKit Go.MapKept
variable {P : Program} {cfg : Cfg} {C : Ctx} {σ τ : St} {w : World} {env : Env} {a : Act} {o : Oper} {v : AV}

theorem items_check {us : Array Value} {e : TypeId} {k : Nat} {ie : TypeInfo} (hk : kindP P e = some k) (hi : P.info? e = some ie) (hs : ie.size = 1) (em : Bool) (d : Nat) : ∀ (m i : Nat) (xs : List AV), CellsK C (List.replicate m k) xs (us.toList.drop i) →
    (forIn (List.range' i m) PUnit.unit fun (j : Nat) (_ : PUnit) => (do Instr.checkKey em (d + 1) e (← part e us (j * (← sizeOf e))); pure (ForInStep.yield PUnit.unit) : Sem (ForInStep PUnit))).run P w = .ok PUnit.unit w := by
  intro m
  induction m with
  | zero => intro i xs h1; rfl
  | succ m ih =>
    intro i xs h1
    rw [List.replicate_succ] at h1
    generalize hu : us.toList.drop i = lu at h1
    cases h1 with
    | cons c1 t1 =>
      obtain ⟨u1, u2⟩ := drop_head hu
      obtain ⟨_, ha, _⟩ := kind_plain hk
      have hck := cell_check (P := P) (w := w) hk c1 em d
      have hsz : (sizeOf e).run P w = .ok 1 w := by rw [run_size (n := 1)]; unfold sizeT; rw [hi]; simp [hs]
      rw [List.range'_succ]
      simp only [List.forIn_cons, Sem.run_bind, hsz, Nat.mul_one, run_part1 ha u1, Result.andThen_ok, hck, Sem.run_pure]
      exact ih (i + 1) _ (u2 ▸ t1)

theorem key_check {t : TypeId} {x : AV} {u : Value} (hx : KeyK P C t x u) (em : Bool) (n : Nat) : (Instr.checkKey em (n + 2) t u).run P w = .ok () w := by
  cases hx with
  | cell hk h => exact cell_check hk h em (n + 1)
  | @struct l cs us hk h =>
    obtain ⟨fs, hu, hst, _, hkf⟩ := plainStruct_some hk
    rw [show n + 2 = (n + 1) + 1 from rfl, Instr.checkKey]
    simp only [Sem.run_bind, run_underlying hu, Result.andThen_ok]
    rw [← Array.forIn_toList]
    have h' : CellsK C l cs (us.toList.drop 0) := h
    clear h hu
    generalize fs.toList = L at hkf ⊢
    generalize 0 = i at hkf h'
    clear hk
    induction L generalizing i l cs with
    | nil => simp
    | cons f L ih =>
      simp only [kindsF] at hkf
      cases hk : kindP P f.type with
      | none => rw [hk] at hkf; cases hkf
      | some k =>
        cases hr : kindsF P (i + 1) L with
        | none => rw [hk, hr] at hkf; cases hkf
        | some l' =>
          rw [hk, hr] at hkf; simp only at hkf
          split at hkf
          · rename_i hc
            cases hkf
            simp only [Bool.and_eq_true, bne_iff_ne, ne_eq, beq_iff_eq] at hc
            obtain ⟨⟨hn, ho⟩, hsz⟩ := hc
            generalize hu : us.toList.drop i = lu at h'
            cases h' with
            | cons c1 t1 =>
              obtain ⟨u1, u2⟩ := drop_head hu
              obtain ⟨_, ha, _⟩ := kind_plain hk
              have hck := cell_check (P := P) (w := w) hk c1 em n
              simp only [List.forIn_cons, ne_eq, hn, not_false_eq_true, if_true, Sem.run_bind, ho, run_part1 ha u1, Result.andThen_ok, hck, Sem.run_pure]
              exact ih (i + 1) hr (u2 ▸ t1)
          · cases hkf
  | @arr l cs us hk h =>
    obtain ⟨m, e, k, hu, hke, hs1, rfl⟩ := plainArr_some hk
    obtain ⟨i, hi, h1⟩ := info_of_size hs1
    rw [show n + 2 = (n + 1) + 1 from rfl, Instr.checkKey]
    simp only [Sem.run_bind, run_underlying hu, Result.andThen_ok]
    simp only [Std.Legacy.Range.forIn_eq_forIn_range', Std.Legacy.Range.size, Nat.sub_zero, Nat.add_one_sub_one, Nat.div_one]
    have := items_check (P := P) (w := w) (us := us) hke hi h1 em n m 0 _ h
    simp only [Sem.run_pure] at this ⊢
    rw [this]; rfl

theorem CellK.det {c c' : Nat} {x y : AV} {u v : Value} (h : CellK C c x u) (h' : CellK C c' y v) : x = y ↔ u = v := by
  cases h <;> cases h' <;> simp
theorem CellsK.det {ks : List Nat} {xs ys : List AV} {us vs : List Value} (hx : CellsK C ks xs us) (hy : CellsK C ks ys vs) : xs = ys ↔ us = vs := by
  induction hx generalizing ys vs with
  | nil => cases hy; simp
  | cons h t ih => cases hy with | cons h' t' => simp only [List.cons.injEq]; rw [ih t', h.det h']
theorem KeyK.det {t : TypeId} {x y : AV} {u v : Value} (hx : KeyK P C t x u) (hy : KeyK P C t y v) : x = y ↔ u = v := by
  cases hx with
  | cell hk h =>
    cases hy with
    | cell hk' h' => exact h.det h'
    | struct hk' h' => cases h <;> simp
    | arr hk' h' => cases h <;> simp
  | @struct l cs us hk h =>
    cases hy with
    | cell hk' h' => cases h' <;> simp
    | @struct l' cs' us' hk' h' =>
      rw [hk] at hk'; cases hk'
      simp only [AV.agg.injEq, Value.agg.injEq, h.det h']
      exact ⟨fun e => Array.ext' e, fun e => by rw [e]⟩
    | arr hk' h' =>
      obtain ⟨fs, e, _⟩ := plainStruct_some hk
      unfold plainArr at hk'; rw [e] at hk'; cases hk'
  | @arr l cs us hk h =>
    cases hy with
    | cell hk' h' => cases h' <;> simp
    | @struct l' cs' us' hk' h' =>
      obtain ⟨fs, e, _⟩ := plainStruct_some hk'
      unfold plainArr at hk; rw [e] at hk; cases hk
    | @arr l' cs' us' hk' h' =>
      rw [hk] at hk'; cases hk'
      simp only [AV.agg.injEq, Value.agg.injEq, h.det h']
      exact ⟨fun e => Array.ext' e, fun e => by rw [e]⟩

theorem cell_bits {c : Nat} {x : AV} {u : Value} (h : CellK C c x u) (n : Nat) : Instr.sameBits n u u = true := by
  cases h with
  | int k m => cases n <;> simp [Instr.sameBits]
  | str s =>
    have : ((⟨s.toArray⟩ : ByteArray) == ⟨s.toArray⟩) = true := (bytes_beq _ _).2 rfl
    cases n <;> simpa [Instr.sameBits] using this
  | bool b => cases n <;> simp [Instr.sameBits]
theorem cells_bits {ks : List Nat} {xs : List AV} {us : List Value} (h : CellsK C ks xs us) (n : Nat) : ((us.zip us).all fun (x, y) => Instr.sameBits n x y) = true := by
  induction h with
  | nil => rfl
  | cons h t ih => simp only [List.zip_cons_cons, List.all_cons, Bool.and_eq_true]; exact ⟨cell_bits h n, ih⟩
theorem key_bits {t : TypeId} {x : AV} {u : Value} (h : KeyK P C t x u) (n : Nat) : Instr.sameBits (n + 1) u u = true := by
  cases h with
  | cell hk h => exact cell_bits h _
  | struct hk h => simp only [Instr.sameBits, BEq.rfl, Bool.true_and]; exact cells_bits h n
  | arr hk h => simp only [Instr.sameBits, BEq.rfl, Bool.true_and]; exact cells_bits h n

/-- An entry's place by its key. -/
def Found (u : Value) (es : List MapEntry) (r : Option (Nat × Value)) : Prop :=
  (r = none ∧ ∀ e ∈ es, e.key ≠ u) ∨ ∃ j e, r = some (j, e.val) ∧ es[j]? = some e ∧ e.key = u

theorem run_asking {t : TypeId} {x : AV} {u : Value} (hx : KeyK P C t x u) : ∀ (es : List MapEntry) (i : Nat), (∀ e ∈ es, ∃ y, KeyK P C t y e.key) →
    ((Instr.findAsking t u es i).run P w = .ok none w ∧ ∀ e ∈ es, e.key ≠ u) ∨ ∃ j e, (Instr.findAsking t u es i).run P w = .ok (some (i + j, e.val)) w ∧ es[j]? = some e ∧ e.key = u := by
  intro es
  induction es with
  | nil => intro i _; exact .inl ⟨by simp [Instr.findAsking], by simp⟩
  | cons e es ih =>
    intro i h
    obtain ⟨y, hy⟩ := h e (by simp)
    have hq := key_equal (P := P) (w := w) hx hy 9998
    have hrun : (Op.equal t u e.key).run P w = .ok (eqK x y) w := hq.1
    cases hb : eqK x y with
    | false =>
      rw [hb] at hrun
      have hne : e.key ≠ u := fun e' => by
        have := (hx.det hy).2 e'.symm
        have := hq.2.2 this
        rw [hb] at this; cases this
      rcases ih (i + 1) (fun y hy => h y (by simp [hy])) with ⟨h1, h2⟩ | ⟨j, e', h1, h2, h3⟩
      · left
        refine ⟨by simp [Instr.findAsking, hrun, h1], fun y hy => ?_⟩
        rcases List.mem_cons.1 hy with rfl | hy
        · exact hne
        · exact h2 y hy
      · right
        exact ⟨j + 1, e', by simp [Instr.findAsking, hrun, h1, Nat.add_assoc, Nat.add_comm 1 j], by simpa using h2, h3⟩
    | true =>
      rw [hb] at hrun
      right
      exact ⟨0, e, by simp [Instr.findAsking, hrun], rfl, ((hx.det hy).1 (hq.2.1 hb)).symm⟩

theorem isKey {c : Nat} {t : TypeId} {d : TypeDesc} (hk : kindP P t = some c) (hd : P.underlying t = some d) {x : AV} {u : Value} (h : CellK C c x u) : IsKey d u := by
  cases h with
  | int k n => rw [kind_int hk] at hd; cases hd; rfl
  | str s => rw [kind_str hk] at hd; cases hd; trivial
  | bool b => rw [kind_bool hk] at hd; cases hd; trivial

theorem run_find {t : TypeId} {x : AV} {u : Value} (hx : KeyK P C t x u) {es : List MapEntry} (h : ∀ e ∈ es, ∃ y, KeyK P C t y e.key) :
    ∃ r, (Instr.findKey t u es).run P w = .ok r w ∧ Found u es r := by
  have wide : (match P.underlying t with | some (.array _ _) | some (.struct _) => true | _ => false) = true → ∃ r, (Instr.findKey t u es).run P w = .ok r w ∧ Found u es r := by
    intro hw
    rw [run_findKey_eq w hw]
    rcases run_asking (w := w) hx es 0 h with ⟨h1, h2⟩ | ⟨j, e, h1, h2, h3⟩
    · exact ⟨_, h1, .inl ⟨rfl, h2⟩⟩
    · exact ⟨_, h1, .inr ⟨j, e, by rw [Nat.zero_add], h2, h3⟩⟩
  cases hx with
  | @cell c x u hk hc =>
    have hd : ∃ d, P.underlying t = some d := by
      unfold kindP at hk
      cases e : P.underlying t with
      | none => rw [e] at hk; cases hk
      | some d => exact ⟨d, rfl⟩
    obtain ⟨d, hd⟩ := hd
    rcases findNow_spec (isKey hk hd hc) es 0 (fun e he => by
      obtain ⟨y, hy⟩ := h e he
      generalize e.key = q at hy ⊢
      cases hy with
      | cell hk' hc' => rw [hk] at hk'; cases hk'; exact isKey hk hd hc'
      | struct hk' _ => obtain ⟨fs, e, _⟩ := plainStruct_some hk'; unfold kindP at hk; rw [e] at hk; cases hk
      | arr hk' _ => obtain ⟨_, _, _, e, _⟩ := plainArr_some hk'; unfold kindP at hk; rw [e] at hk; cases hk) with ⟨h1, h2⟩ | ⟨j, e, h1, h2, h3⟩
    · exact ⟨_, run_findKey hd h1, .inl ⟨rfl, h2⟩⟩
    · exact ⟨_, run_findKey hd h1, .inr ⟨j, e, by rw [Nat.zero_add], h2, h3⟩⟩
  | struct hk _ => obtain ⟨fs, e, _⟩ := plainStruct_some hk; exact wide (by rw [e])
  | arr hk _ => obtain ⟨_, _, _, e, _⟩ := plainArr_some hk; exact wide (by rw [e])

theorem Found.of {u : Value} {es : List MapEntry} {r : Option (Nat × Value)} (h : Found u es r) : (r = none ∧ ∀ e ∈ es, e.key ≠ u) ∨ ∃ j e, r = some (j, e.val) ∧ es[j]? = some e ∧ e.key = u := h

/-! ### Rows of pairs -/
theorem mfind_cons (p : AV × AV) (l : List (AV × AV)) (x : AV) : mfind (p :: l) x = if eqK p.1 x = true then some p.2 else mfind l x := by
  show (bif eqK p.1 x then some p.2 else mfind l x) = _
  cases eqK p.1 x <;> rfl
theorem mput_cons (p : AV × AV) (l : List (AV × AV)) (x v : AV) : mput (p :: l) x v = if eqK p.1 x = true then (p.1, v) :: l else p :: mput l x v := by
  show (bif eqK p.1 x then (p.1, v) :: l else p :: mput l x v) = _
  cases eqK p.1 x <;> rfl
theorem mdel_cons (p : AV × AV) (l : List (AV × AV)) (x : AV) : mdel (p :: l) x = if eqK p.1 x = true then l else p :: mdel l x := by
  show (bif eqK p.1 x then l else p :: mdel l x) = _
  cases eqK p.1 x <;> rfl

/-- Keys, each once: 'eqK' says whether two are the same. -/
structure Keys (l : List (AV × AV)) (x : AV) : Prop where
  iff : ∀ p ∈ l, eqK p.1 x = true ↔ p.1 = x
  nodup : (l.map Prod.fst).Nodup

theorem Keys.tail {p : AV × AV} {l : List (AV × AV)} {x : AV} (h : Keys (p :: l) x) : Keys l x := ⟨fun q hq => h.iff q (by simp [hq]), (List.nodup_cons.1 h.nodup).2⟩
theorem Keys.perm {l m : List (AV × AV)} {x : AV} (h : Keys l x) (p : m.Perm l) : Keys m x := ⟨fun q hq => h.iff q (p.mem_iff.1 hq), (p.map Prod.fst).nodup_iff.2 h.nodup⟩

theorem mfind_some {l : List (AV × AV)} {x v : AV} (h : Keys l x) (hf : mfind l x = some v) : (x, v) ∈ l := by
  induction l with
  | nil => cases hf
  | cons p l ih =>
    rw [mfind_cons] at hf
    split at hf
    · rename_i e
      have := (h.iff p (by simp)).1 e
      cases hf; subst this; simp
    · exact List.mem_cons_of_mem _ (ih h.tail hf)
theorem mfind_none {l : List (AV × AV)} {x : AV} (h : Keys l x) (hf : mfind l x = none) : ∀ p ∈ l, p.1 ≠ x := by
  induction l with
  | nil => simp
  | cons p l ih =>
    rw [mfind_cons] at hf
    split at hf
    · cases hf
    · rename_i e
      intro q hq
      rcases List.mem_cons.1 hq with rfl | hq
      · exact fun e' => e ((h.iff _ (by simp)).2 e')
      · exact ih h.tail hf q hq

theorem nodup_val {l : List (AV × AV)} (h : (l.map Prod.fst).Nodup) {x v v' : AV} (h1 : (x, v) ∈ l) (h2 : (x, v') ∈ l) : v = v' := by
  induction l with
  | nil => simp at h1
  | cons p l ih =>
    simp only [List.map_cons, List.nodup_cons, List.mem_map, Prod.exists, exists_and_right, exists_eq_right, not_exists] at h
    rcases List.mem_cons.1 h1 with e1 | h1 <;> rcases List.mem_cons.1 h2 with e2 | h2
    · rw [← e1] at e2; cases e2; rfl
    · rw [← e1] at h; exact absurd h2 (h.1 v')
    · rw [← e2] at h; exact absurd h1 (h.1 v)
    · exact ih h.2 h1 h2

/-- What putting comes to, in a row whose keys differ. -/
theorem mput_old {l : List (AV × AV)} {x v w : AV} (h : Keys l x) {j : Nat} (hj : l[j]? = some (x, w)) : mput l x v = l.set j (x, v) := by
  induction l generalizing j with
  | nil => simp at hj
  | cons p l ih =>
    rw [mput_cons]
    cases j with
    | zero =>
      simp at hj; subst hj
      rw [if_pos ((h.iff _ (by simp)).2 rfl)]; rfl
    | succ j =>
      have hm : (x, w) ∈ l := List.mem_of_getElem? (by simpa using hj)
      have hne : ¬eqK p.1 x = true := fun e => by
        have := (h.iff p (by simp)).1 e
        have h2 := (List.nodup_cons.1 h.nodup).1
        rw [this] at h2
        exact h2 (List.mem_map.2 ⟨_, hm, rfl⟩)
      rw [if_neg hne, ih h.tail (by simpa using hj)]; rfl
theorem mput_new {l : List (AV × AV)} {x v : AV} (h : Keys l x) (hn : ∀ p ∈ l, p.1 ≠ x) : mput l x v = l ++ [(x, v)] := by
  induction l with
  | nil => rfl
  | cons p l ih =>
    rw [mput_cons, if_neg (fun e => hn p (by simp) ((h.iff p (by simp)).1 e)), ih h.tail (fun q hq => hn q (by simp [hq]))]; rfl
theorem mdel_old {l : List (AV × AV)} {x w : AV} (h : Keys l x) {j : Nat} (hj : l[j]? = some (x, w)) : mdel l x = l.eraseIdx j := by
  induction l generalizing j with
  | nil => simp at hj
  | cons p l ih =>
    rw [mdel_cons]
    cases j with
    | zero =>
      simp at hj; subst hj
      rw [if_pos ((h.iff _ (by simp)).2 rfl)]; rfl
    | succ j =>
      have hm : (x, w) ∈ l := List.mem_of_getElem? (by simpa using hj)
      have hne : ¬eqK p.1 x = true := fun e => by
        have := (h.iff p (by simp)).1 e
        have h2 := (List.nodup_cons.1 h.nodup).1
        rw [this] at h2
        exact h2 (List.mem_map.2 ⟨_, hm, rfl⟩)
      rw [if_neg hne, ih h.tail (by simpa using hj)]; rfl
theorem mdel_new {l : List (AV × AV)} {x : AV} (h : Keys l x) (hn : ∀ p ∈ l, p.1 ≠ x) : mdel l x = l := by
  induction l with
  | nil => rfl
  | cons p l ih =>
    rw [mdel_cons, if_neg (fun e => hn p (by simp) ((h.iff p (by simp)).1 e)), ih h.tail (fun q hq => hn q (by simp [hq]))]

/-- Putting goes with any order. -/
theorem mput_filter {l : List (AV × AV)} {x v : AV} : Keys l x → (mput l x v).Perm ((x, v) :: l.filter fun q => !eqK q.1 x) := by
    induction l with
    | nil => intro _; exact .refl _
    | cons q l ih =>
      intro h
      rw [mput_cons, List.filter_cons]
      split
      · rename_i e
        have e' := (h.iff q (by simp)).1 e
        rw [e]
        simp only [Bool.not_true, Bool.false_eq_true, if_false]
        rw [e']
        have : l.filter (fun q => !eqK q.1 x) = l := by
          rw [List.filter_eq_self]
          intro r hr
          have h2 := (List.nodup_cons.1 h.nodup).1
          rw [e'] at h2
          cases hb : eqK r.1 x with
          | false => rfl
          | true => exact absurd (List.mem_map.2 ⟨r, hr, (h.iff r (by simp [hr])).1 hb⟩) h2
        rw [this]
      · rename_i e
        have : eqK q.1 x = false := by cases hb : eqK q.1 x <;> simp_all
        rw [this]
        simp only [Bool.not_false, if_true]
        exact ((ih h.tail).cons q).trans (.swap _ _ _)
theorem mput_perm {l m : List (AV × AV)} {x v : AV} (h : Keys l x) (p : m.Perm l) : (mput m x v).Perm (mput l x v) :=
  (mput_filter (h.perm p)).trans (((p.filter _).cons _).trans (mput_filter h).symm)
theorem mdel_filter {l : List (AV × AV)} {x : AV} : Keys l x → mdel l x = l.filter fun q => !eqK q.1 x := by
    induction l with
    | nil => intro _; rfl
    | cons q l ih =>
      intro h
      rw [mdel_cons, List.filter_cons]
      split
      · rename_i e
        have e' := (h.iff q (by simp)).1 e
        rw [e]
        simp only [Bool.not_true, Bool.false_eq_true, if_false]
        symm
        rw [List.filter_eq_self]
        intro r hr
        have h2 := (List.nodup_cons.1 h.nodup).1
        rw [e'] at h2
        cases hb : eqK r.1 x with
        | false => rfl
        | true => exact absurd (List.mem_map.2 ⟨r, hr, (h.iff r (by simp [hr])).1 hb⟩) h2
      · rename_i e
        have : eqK q.1 x = false := by cases hb : eqK q.1 x <;> simp_all
        rw [this, ih h.tail]
        simp
theorem mdel_perm {l m : List (AV × AV)} {x : AV} (h : Keys l x) (p : m.Perm l) : (mdel m x).Perm (mdel l x) := by
  rw [mdel_filter (h.perm p), mdel_filter h]
  exact p.filter _

end Go.AM
namespace Go.AM
open Go.RowKit Go.MapKept
variable {P : Program} {cfg : Cfg} {C : Ctx} {σ τ : St} {w : World} {env : Env} {a : Act} {o : Oper} {v : AV}

theorem keyOk_iff {ks : List Nat} {x : AV} (h : keyOk ks x = true) : shapeOf x = ks := eqNs_eq.1 h

/-- What a map's entries are, key by key. -/
theorem MapR.keys {kt : TypeId} {ks : List Nat} (hk : keyT P kt = some ks) {es : List (AV × AV)} {ents : List MapEntry} (h : MapR C ks es ents) {x : AV} {u : Value} (hx : KeyK P C kt x u) :
    ∃ fs : List (AV × AV), fs.Perm es ∧ fs.length = ents.length ∧ Keys fs x ∧ Keys es x ∧
      ∀ (i : Nat) (p : AV × AV) (e : MapEntry), fs[i]? = some p → ents[i]? = some e → KeyK P C kt p.1 e.key ∧ VR C p.2 e.val := by
  obtain ⟨fs, h1, h2, h3, h4, h5⟩ := h
  have hkk : ∀ (i : Nat) (p : AV × AV) (e : MapEntry), fs[i]? = some p → ents[i]? = some e → KeyK P C kt p.1 e.key := fun i p e hp he =>
    keyK hk (h3 i p e hp he).1 (h4 p (h1.mem_iff.1 (List.mem_of_getElem? hp)))
  have has : ∀ p ∈ es, ∃ u', KeyK P C kt p.1 u' := fun p hp => by
    obtain ⟨i, hi, e⟩ := List.mem_iff_getElem.1 (h1.mem_iff.2 hp)
    have hi' : i < ents.length := by omega
    have := hkk i p ents[i] (by rw [← e]; exact List.getElem?_eq_getElem hi) (List.getElem?_eq_getElem hi')
    exact ⟨_, this⟩
  have hkeys : Keys es x := by
    refine ⟨fun p hp => ?_, ?_⟩
    · obtain ⟨u', hu'⟩ := has p hp
      exact (key_equal (w := default) hu' hx 0).2
    · rw [List.Nodup, List.pairwise_map]
      refine h5.imp_of_mem ?_
      intro p q hp hq hpq e
      obtain ⟨u', hu'⟩ := has p hp
      obtain ⟨u'', hu''⟩ := has q hq
      have := (key_equal (w := default) hu' hu'' 0).2.2 e
      rw [hpq] at this; cases this
  exact ⟨fs, h1, h2, hkeys.perm h1, hkeys, fun i p e hp he => ⟨hkk i p e hp he, (h3 i p e hp he).2⟩⟩

/-- What is found of a key, in both. -/
theorem map_found {kt : TypeId} {fs : List (AV × AV)} {ents : List MapEntry} {x : AV} {u : Value} (hlen : fs.length = ents.length) (hx : KeyK P C kt x u)
    (hr : ∀ (i : Nat) (p : AV × AV) (e : MapEntry), fs[i]? = some p → ents[i]? = some e → KeyK P C kt p.1 e.key ∧ VR C p.2 e.val) {w : World} :
    ∃ r, (Instr.findKey kt u ents).run P w = .ok r w ∧ ((r = none ∧ ∀ p ∈ fs, p.1 ≠ x) ∨ ∃ j e y, r = some (j, e.val) ∧ ents[j]? = some e ∧ e.key = u ∧ fs[j]? = some (x, y) ∧ VR C y e.val) := by
  have at_ : ∀ (j : Nat) (e : MapEntry), ents[j]? = some e → ∃ p, fs[j]? = some p := fun j e he => by
    have := (List.getElem?_eq_some_iff.1 he).1
    exact ⟨_, List.getElem?_eq_getElem (by omega)⟩
  obtain ⟨r, h1, h2⟩ := run_find (w := w) hx (es := ents) (fun e he => by
    obtain ⟨j, hj⟩ := List.mem_iff_getElem?.1 he
    obtain ⟨p, hp⟩ := at_ j e hj
    exact ⟨_, (hr j p e hp hj).1⟩)
  refine ⟨r, h1, ?_⟩
  rcases h2 with ⟨rfl, h2⟩ | ⟨j, e, rfl, h3, h4⟩
  · refine .inl ⟨rfl, fun p hp e' => ?_⟩
    obtain ⟨j, hj⟩ := List.mem_iff_getElem?.1 hp
    have hlt := (List.getElem?_eq_some_iff.1 hj).1
    have he : ents[j]? = some (ents[j]'(by omega)) := List.getElem?_eq_getElem _
    have := (hr j p _ hj he).1.det hx
    exact h2 _ (List.mem_of_getElem? he) (this.1 e')
  · obtain ⟨p, hp⟩ := at_ j e h3
    have hk := hr j p e hp h3
    have hpx : p.1 = x := (hk.1.det hx).2 h4
    obtain ⟨p1, p2⟩ := p
    simp only at hpx hk; subst hpx
    exact .inr ⟨j, e, p2, rfl, h3, h4, hp, hk.2⟩

theorem s_lookup {t kt el : TypeId} {ks : List Nat} {z : AV} {ok : Bool} {x i : Operand} {x' i' : Opd} (hI : Inv P cfg C σ w) (he : EnvR C env a.tmps) (ht : P.underlying t = some (.map kt el)) (hk : keyT P kt = some ks) (hz : zeroT P el = some z)
    (hx : opd x = some x') (hi : opd i = some i') (ho : o.op = .lookup t x i ok) (h : op_lookup ks z x' i' ok env σ = some (v, τ)) : Runs P cfg C σ w (execOp a.eval o) v τ := by
  unfold op_lookup at h
  have hvx := opd_VR hx he
  have hvi := opd_VR hi he
  cases hm : mapVals (x'.eval env) σ ks with
  | none => rw [hm] at h; cases h
  | some es =>
    rw [hm] at h; simp only at h
    cases hko : keyOk ks (i'.eval env) with
    | false => rw [hko] at h; cases h
    | true =>
      rw [hko, cond_true] at h
      have hkk := keyK hk hvi (keyOk_iff hko)
      obtain ⟨zv, hz1, hz2⟩ := run_zero hz w
      have hzr := (conv_VR hz2 C).1
      have tail : ∀ (y : AV) (u : Value) (b : Bool), VR C y u → VR C (bif ok then .tup [y, .bool b] else y) (if ok = true then .tuple #[u, .bool b] else u) := by
        intro y u b hy
        cases ok
        · exact hy
        · refine .tup _ _ rfl fun i c v hc hv => ?_
          match i, hc, hv with
          | 0, hc, hv => simp at hc hv; subst hc; subst hv; exact hy
          | 1, hc, hv => simp at hc hv; subst hc; subst hv; exact .bool _
      have key : ∃ (mv : Value) (ents : Array MapEntry), a.eval x = mv ∧ (mv = .map none ∧ ents = #[] ∨ ∃ b clock, mv = .map (some b) ∧ w.heap[b]? = some (.map ents clock)) ∧ MapR C ks es ents.toList := by
        generalize x'.eval env = c at hm hvx
        generalize hux : a.eval x = ux at hvx
        cases hvx <;> simp only [eq_mapVals_junk, eq_mapVals_undef, eq_mapVals_bool, eq_mapVals_int, eq_mapVals_str, eq_mapVals_nilp, eq_mapVals_nilm, eq_mapVals_nilf, eq_mapVals_nili, eq_mapVals_agg, eq_mapVals_tup, eq_mapVals_slice, eq_mapVals_hsl, eq_mapVals_ptr, eq_mapVals_eptr, eq_mapVals_map, eq_mapVals_itr, eq_mapVals_fn] at hm <;> first | (cases hm; done) | skip
        · cases hm
          exact ⟨_, #[], rfl, .inl ⟨rfl, rfl⟩, [], .refl _, rfl, fun i p e h => by simp at h, fun p h => by simp at h, .nil⟩
        · rename_i id b hκ
          unfold mapGet at hm
          cases hg : σ.mapOf id with
          | none => rw [hg] at hm; cases hm
          | some q =>
            obtain ⟨k', l⟩ := q
            rw [hg] at hm; simp only at hm
            cases hb : eqNs k' ks with
            | false => rw [hb] at hm; cases hm
            | true =>
              rw [hb] at hm; cases hm
              have := eqNs_eq.1 hb; subst this
              obtain ⟨b', ents, clock, g1, g2, g3⟩ := hI.obj _ _ (map_get hg)
              rw [hκ] at g1; cases g1
              exact ⟨_, ents, rfl, .inr ⟨b, clock, rfl, g2⟩, g3⟩
      obtain ⟨mv, ents, e1, hmv, hmr⟩ := key
      obtain ⟨fs, f1, f2, f3, f4, f5⟩ := hmr.keys hk hkk
      obtain ⟨r, r1, r2⟩ := map_found (w := w) f2 hkk f5
      have hck := key_check (P := P) (w := w) hkk ents.isEmpty 9998
      have hrun : ∀ (u : Value) (b : Bool), (r = none → u = zv ∧ b = false) → (∀ j u', r = some (j, u') → u = u' ∧ b = true) →
          (Instr.lookup t (a.eval x) (a.eval i) ok).run P w = .ok (if ok = true then .tuple #[u, .bool b] else u) w := by
        intro u b h1 h2
        rw [e1]
        rcases hmv with ⟨rfl, rfl⟩ | ⟨bb, clock, rfl, hb⟩
        · simp only [Instr.lookup, Sem.run_bind, run_und ht, Result.andThen_ok, Sem.run_pure, hck, r1]
          cases r with
          | none => obtain ⟨rfl, rfl⟩ := h1 rfl; simp only [Sem.run_bind, hz1, Result.andThen_ok, Sem.run_pure]
          | some p => obtain ⟨j, u'⟩ := p; obtain ⟨rfl, rfl⟩ := h2 j u' rfl; simp only [Sem.run_bind, Sem.run_pure, Result.andThen_ok]
        · simp only [Instr.lookup, Sem.run_bind, run_und ht, Result.andThen_ok, MapKept.run_getObj_map hb, Sem.run_pure, hck, r1]
          cases r with
          | none => obtain ⟨rfl, rfl⟩ := h1 rfl; simp only [Sem.run_bind, hz1, Result.andThen_ok, Sem.run_pure]
          | some p => obtain ⟨j, u'⟩ := p; obtain ⟨rfl, rfl⟩ := h2 j u' rfl; simp only [Sem.run_bind, Sem.run_pure, Result.andThen_ok]
      unfold execOp; rw [ho]
      cases hf : mfind es (i'.eval env) with
      | none =>
        rw [hf] at h; cases h
        have hno : r = none := by
          rcases r2 with ⟨h, _⟩ | ⟨j, e, y, _, _, _, h4, _⟩
          · exact h
          · exact absurd rfl (mfind_none f4 hf _ (f1.mem_iff.1 (List.mem_of_getElem? h4)))
        subst hno
        exact .val (hrun zv false (fun _ => ⟨rfl, rfl⟩) (fun j u' h => by cases h)) (.same hI (tail z zv false hzr))
      | some y =>
        rw [hf] at h; cases h
        have hin := mfind_some f4 hf
        rcases r2 with ⟨rfl, h⟩ | ⟨j, e, y', rfl, h2, h3, h4, h5⟩
        · exact absurd rfl (h _ (f1.mem_iff.2 hin))
        · have : y = y' := nodup_val f4.nodup hin (f1.mem_iff.1 (List.mem_of_getElem? h4))
          subst this
          exact .val (hrun e.val true (fun h => by cases h) (fun j u' h => by cases h; exact ⟨rfl, rfl⟩)) (.same hI (tail y e.val true h5))

end Go.AM
