/- A part of the proof of: EmitBecomes: what a term becomes by patterns, and a pattern's name, is what the document says, or the error is told. -/
import Derived.Test.YtkopdkjpmccbmaaGreatDoorM03
import Derived.Laws.StructEq
import Derived.Laws.CopyRow
import Derived.Laws.Tables
import Derived.Great.FillDense
import Derived.Great.BuildSlice
namespace Go.AM
open Go.RowKit
variable {P : Program} {cfg : Cfg} {C : Ctx} {σ τ : St} {w : World} {env : Env} {a : Act} {o : Oper} {v : AV}

theorem eqGuard_other {op : BinOp} {t : TypeId} {x y : Operand} {u u' : Value} (w : World) (h1 : ∀ c, u ≠ .agg c) (h2 : u ≠ .nilIface) : (eqGuard op t x y u u').run P w = .ok () w := by
  cases u <;> first
    | exact absurd rfl h2
    | exact absurd rfl (h1 _)
    | (cases op <;> rfl)

/-- '==' and '!=' by what 'equal' says. -/
theorem run_eq {t : TypeId} {u u' : Value} {b : Bool} {neg : Bool} (hu : ∀ d : Nat, (Op.equalIn (d + 1) t u u').run P w = .ok b w)
    (h1 : binOp .eql t u u' = (do pure (.bool (← Op.equal t u u')))) (h2 : binOp .neq t u u' = (do pure (.bool (!(← Op.equal t u u'))))) :
    (binOp (if neg then .neq else .eql) t u u').run P w = .ok (.bool (b != neg)) w := by
  have hq : (Op.equal t u u').run P w = .ok b w := hu 9999
  cases neg
  · show (binOp .eql t u u').run P w = _
    rw [h1]
    simp only [Sem.run_bind, hq, Result.andThen_ok, Sem.run_pure]; simp
  · show (binOp .neq t u u').run P w = _
    rw [h2]
    simp only [Sem.run_bind, hq, Result.andThen_ok, Sem.run_pure]; simp

theorem s_eqBool {t s : TypeId} {x y : Operand} {x' y' : Opd} {neg : Bool} (hI : Inv P cfg C σ w) (he : EnvR C env a.tmps) (ht : P.underlying t = some .bool)
    (hx : opd x = some x') (hy : opd y = some y') (ho : o.op = .binOp (if neg then .neq else .eql) t x y s) (h : op_eqBool neg x' y' env σ = some (v, τ)) : Runs P cfg C σ w (execOp a.eval o) v τ := by
  unfold op_eqBool at h
  cases hp : (x'.eval env).bool? with
  | none => rw [hp] at h; cases h
  | some p =>
    cases hq : (y'.eval env).bool? with
    | none => rw [hp] at h; simp only [hq] at h; cases h
    | some q =>
      rw [hp] at h; simp only [hq] at h; cases h
      obtain ⟨_, e1⟩ := bool?_VR (opd_VR hx he) hp
      obtain ⟨_, e2⟩ := bool?_VR (opd_VR hy he) hq
      unfold execOp; rw [ho]
      refine .val (u := .bool ((p == q) != neg)) ?_ (.same hI (.bool _))
      rw [e1, e2, Sem.run_bind, eqGuard_other w (by simp) (by simp), Result.andThen_ok]
      exact run_eq (fun d => run_equalIn_bool' w d t p q ht) rfl rfl

theorem nilEq_some {kd m n : Nat} {b : Bool} (h : nilEq kd m n = some b) : (m = kd ∧ n = kd ∧ b = true) ∨ (m = kd ∧ n = kd + 1 ∧ b = false) ∨ (m = kd + 1 ∧ n = kd ∧ b = false) := by
  unfold nilEq at h
  by_cases h1 : m = kd
  · subst h1
    rw [Nat.beq_refl, cond_true] at h
    by_cases h2 : n = m
    · subst h2; rw [Nat.beq_refl, cond_true] at h; cases h; exact .inl ⟨rfl, rfl, rfl⟩
    · rw [nbeq h2, cond_false] at h
      by_cases h3 : n = m + 1
      · subst h3; rw [Nat.beq_refl, cond_true] at h; cases h; exact .inr (.inl ⟨rfl, rfl, rfl⟩)
      · rw [nbeq h3, cond_false] at h; cases h
  · rw [nbeq h1, cond_false] at h
    by_cases h2 : m = kd + 1
    · by_cases h3 : n = kd
      · subst h2; subst h3; simp at h; subst h; exact .inr (.inr ⟨rfl, rfl, rfl⟩)
      · rw [nbeq h3, Bool.and_false, cond_false] at h; cases h
    · rw [nbeq h2, Bool.false_and, cond_false] at h; cases h

theorem code_ptr {b : AV} {u : Value} (h : VR C b u) : (nilCode b = 1 → u = .pointer none) ∧ (nilCode b = 2 → ∃ ad, u = .pointer (some ad)) ∧ (nilCode b = 3 → u = .map none) ∧
    (nilCode b = 4 → ∃ m, u = .map (some m)) ∧ (nilCode b = 5 → u = .nilFunc) ∧ (nilCode b = 6 → ∃ f g k, u = .func f g k) := by
  cases h <;> simp

theorem eq_ptr {t el : TypeId} (hu : P.underlying t = some (.pointer el)) {u u' : Value} {m n : Nat} {b : Bool} (hp : nilEq 1 m n = some b)
    (h1 : (m = 1 → u = .pointer none) ∧ (m = 2 → ∃ ad, u = .pointer (some ad))) (h2 : (n = 1 → u' = .pointer none) ∧ (n = 2 → ∃ ad, u' = .pointer (some ad))) (neg : Bool) :
    (binOp (if neg then .neq else .eql) t u u').run P w = .ok (.bool (b != neg)) w ∧ (∀ c, u ≠ .agg c) ∧ u ≠ .nilIface := by
  rcases nilEq_some hp with ⟨rfl, rfl, rfl⟩ | ⟨rfl, rfl, rfl⟩ | ⟨rfl, rfl, rfl⟩
  · rw [h1.1 rfl, h2.1 rfl]
    exact ⟨run_eq (fun d => by simp [Op.equalIn, run_und hu]) rfl rfl, by simp, by simp⟩
  · obtain ⟨ad, e⟩ := h2.2 rfl
    rw [h1.1 rfl, e]
    exact ⟨run_eq (fun d => by simp [Op.equalIn, run_und hu]) rfl rfl, by simp, by simp⟩
  · obtain ⟨ad, e⟩ := h1.2 rfl
    rw [h2.1 rfl, e]
    exact ⟨run_eq (fun d => by simp [Op.equalIn, run_und hu]) rfl rfl, by simp, by simp⟩
theorem eq_map {t k el : TypeId} (hu : P.underlying t = some (.map k el)) {u u' : Value} {m n : Nat} {b : Bool} (hp : nilEq 3 m n = some b)
    (h1 : (m = 3 → u = .map none) ∧ (m = 4 → ∃ ad, u = .map (some ad))) (h2 : (n = 3 → u' = .map none) ∧ (n = 4 → ∃ ad, u' = .map (some ad))) (neg : Bool) :
    (binOp (if neg then .neq else .eql) t u u').run P w = .ok (.bool (b != neg)) w ∧ (∀ c, u ≠ .agg c) ∧ u ≠ .nilIface := by
  rcases nilEq_some hp with ⟨rfl, rfl, rfl⟩ | ⟨rfl, rfl, rfl⟩ | ⟨rfl, rfl, rfl⟩
  · rw [h1.1 rfl, h2.1 rfl]
    exact ⟨run_eq (fun d => by simp [Op.equalIn, run_und hu]) rfl rfl, by simp, by simp⟩
  · obtain ⟨ad, e⟩ := h2.2 rfl
    rw [h1.1 rfl, e]
    exact ⟨run_eq (fun d => by simp [Op.equalIn, run_und hu]) rfl rfl, by simp, by simp⟩
  · obtain ⟨ad, e⟩ := h1.2 rfl
    rw [h2.1 rfl, e]
    exact ⟨run_eq (fun d => by simp [Op.equalIn, run_und hu]) rfl rfl, by simp, by simp⟩
theorem eq_fun {t : TypeId} {ps rs : Array TypeId} {vr : Bool} (hu : P.underlying t = some (.func ps rs vr)) {u u' : Value} {m n : Nat} {b : Bool} (hp : nilEq 5 m n = some b)
    (h1 : (m = 5 → u = .nilFunc) ∧ (m = 6 → ∃ f g k, u = .func f g k)) (h2 : (n = 5 → u' = .nilFunc) ∧ (n = 6 → ∃ f g k, u' = .func f g k)) (neg : Bool) :
    (binOp (if neg then .neq else .eql) t u u').run P w = .ok (.bool (b != neg)) w ∧ (∀ c, u ≠ .agg c) ∧ u ≠ .nilIface := by
  rcases nilEq_some hp with ⟨rfl, rfl, rfl⟩ | ⟨rfl, rfl, rfl⟩ | ⟨rfl, rfl, rfl⟩
  · rw [h1.1 rfl, h2.1 rfl]
    exact ⟨run_eq (fun d => by simp [Op.equalIn, run_und hu]) rfl rfl, by simp, by simp⟩
  · obtain ⟨f, g, k, e⟩ := h2.2 rfl
    rw [h1.1 rfl, e]
    exact ⟨run_eq (fun d => by simp [Op.equalIn, run_und hu]) rfl rfl, by simp, by simp⟩
  · obtain ⟨f, g, k, e⟩ := h1.2 rfl
    rw [h2.1 rfl, e]
    exact ⟨run_eq (fun d => by simp [Op.equalIn, run_und hu]) rfl rfl, by simp, by simp⟩

theorem s_eqNil {t s : TypeId} {x y : Operand} {x' y' : Opd} {neg : Bool} {kd : Nat} (hI : Inv P cfg C σ w) (he : EnvR C env a.tmps) (ht : nilT P t = some kd)
    (hx : opd x = some x') (hy : opd y = some y') (ho : o.op = .binOp (if neg then .neq else .eql) t x y s) (h : op_eqNil neg kd x' y' env σ = some (v, τ)) : Runs P cfg C σ w (execOp a.eval o) v τ := by
  unfold op_eqNil at h
  cases hp : nilEq kd (nilCode (x'.eval env)) (nilCode (y'.eval env)) with
  | none => rw [hp] at h; cases h
  | some b =>
    rw [hp] at h; cases h
    have h1 := code_ptr (opd_VR hx he)
    have h2 := code_ptr (opd_VR hy he)
    generalize nilCode (x'.eval env) = m at h1 hp
    generalize nilCode (y'.eval env) = n at h2 hp
    unfold execOp; rw [ho]
    refine .val (u := .bool (b != neg)) ?_ (.same hI (.bool _))
    have key : (binOp (if neg then .neq else .eql) t (a.eval x) (a.eval y)).run P w = .ok (.bool (b != neg)) w ∧ (∀ c, a.eval x ≠ .agg c) ∧ a.eval x ≠ .nilIface := by
      unfold nilT at ht
      split at ht
      · rename_i hu; cases ht; exact eq_ptr hu hp ⟨h1.1, h1.2.1⟩ ⟨h2.1, h2.2.1⟩ neg
      · rename_i hu; cases ht; exact eq_map hu hp ⟨h1.2.2.1, h1.2.2.2.1⟩ ⟨h2.2.2.1, h2.2.2.2.1⟩ neg
      · rename_i hu; cases ht; exact eq_fun hu hp ⟨h1.2.2.2.2.1, h1.2.2.2.2.2⟩ ⟨h2.2.2.2.2.1, h2.2.2.2.2.2⟩ neg
      · cases ht
    rw [Sem.run_bind, eqGuard_other w key.2.1 key.2.2, Result.andThen_ok]
    exact key.1

theorem s_un {t : TypeId} {op : UnOp} {x : Operand} {y : Opd} (hI : Inv P cfg C σ w) (he : EnvR C env a.tmps) (hx : opd x = some y) (ho : o.op = .unOp op t x)
    (h : op_un op y env σ = some (v, τ)) : Runs P cfg C σ w (execOp a.eval o) v τ := by
  obtain ⟨h1, rfl⟩ := ret1_some h
  have hv := opd_VR hx he
  have key : ∃ u, (Op.unary op (a.eval x)).run P w = .ok u w ∧ VR C v u := by
    generalize y.eval env = b at h1 hv
    generalize a.eval x = u at hv
    cases hv <;> simp only [unV] at h1 <;> try (cases h1; done)
    · cases op <;> simp at h1
      subst h1; exact ⟨_, rfl, .bool _⟩
    · cases op <;> simp at h1
      subst h1; exact ⟨_, rfl, by rw [wrapK_eq, ← Int.zero_sub]; exact .int _ _⟩
  obtain ⟨u, h2, h3⟩ := key
  unfold execOp; rw [ho]
  exact .val h2 (.same hI h3)

theorem s_convInt {s d : TypeId} {j k : IntKind} {x : Operand} {y : Opd} (hI : Inv P cfg C σ w) (he : EnvR C env a.tmps) (hs : P.underlying s = some (.int j)) (hd : P.underlying d = some (.int k))
    (hx : opd x = some y) (ho : o.op = .convert s d x) (h : op_convInt k y env σ = some (v, τ)) : Runs P cfg C σ w (execOp a.eval o) v τ := by
  unfold op_convInt at h
  cases hn : (y.eval env).int? with
  | none => rw [hn] at h; cases h
  | some n =>
    rw [hn] at h; cases h
    obtain ⟨i, _, e⟩ := int?_VR (opd_VR hx he) hn
    unfold execOp; rw [ho]
    refine .val (u := .int k (k.wrap n)) ?_ (.same hI (by rw [wrapK_eq]; exact .int _ _))
    rw [e]
    simp only [convert, Sem.run_bind, run_und hs, run_und hd, Result.andThen_ok]
    rfl

theorem s_convId {s d : TypeId} {x : Operand} {y : Opd} (hI : Inv P cfg C σ w) (he : EnvR C env a.tmps) (hs : P.underlying s = some .string) (hd : P.underlying d = some .string)
    (hx : opd x = some y) (ho : o.op = .convert s d x) (h : op_convId y env σ = some (v, τ)) : Runs P cfg C σ w (execOp a.eval o) v τ := by
  unfold op_convId at h
  cases hn : (y.eval env).str? with
  | none => rw [hn] at h; cases h
  | some n =>
    rw [hn] at h; cases h
    obtain ⟨_, e⟩ := str?_VR (opd_VR hx he) hn
    unfold execOp; rw [ho]
    refine .val (u := .string ⟨n.toArray⟩) ?_ (.same hI (.str _))
    rw [e]
    simp only [convert, Sem.run_bind, run_und hs, run_und hd, Result.andThen_ok]
    rfl

theorem s_convChar {s d : TypeId} {j : IntKind} {x : Operand} {y : Opd} (hI : Inv P cfg C σ w) (he : EnvR C env a.tmps) (hs : P.underlying s = some (.int j)) (hd : P.underlying d = some .string)
    (hx : opd x = some y) (ho : o.op = .convert s d x) (h : op_convChar y env σ = some (v, τ)) : Runs P cfg C σ w (execOp a.eval o) v τ := by
  unfold op_convChar at h
  cases hn : (y.eval env).int? with
  | none => rw [hn] at h; cases h
  | some n =>
    rw [hn] at h; simp only at h
    cases hm : natI n with
    | none => rw [hm] at h; cases h
    | some m =>
      rw [hm] at h; simp only [blt_eq] at h
      by_cases hlt : m < 128
      · rw [decide_eq_true hlt, cond_true] at h; cases h
        obtain ⟨i, _, e⟩ := int?_VR (opd_VR hx he) hn
        have := natI_some hm; subst this
        unfold execOp; rw [ho]
        refine .val (u := .string ⟨#[UInt8.ofNat m]⟩) ?_ (.same hI (.str [UInt8.ofNat m]))
        rw [e]
        simp only [convert, Sem.run_bind, run_und hs, run_und hd, Result.andThen_ok, Conv.intToString, Sem.run_pure]
        have hv : Utf8.valid (m : Int) = true := by
          simp only [Utf8.valid, Bool.or_eq_true, Bool.and_eq_true, decide_eq_true_eq]
          left; omega
        have : Utf8.encode (m : Int) = ⟨#[UInt8.ofNat m]⟩ := by
          simp only [Utf8.encode, hv, if_true, Int.toNat_natCast]
          rw [if_pos (by omega)]
        rw [this]
      · rw [decide_eq_false hlt, cond_false] at h; cases h

theorem s_makeFunc {f : Fn} {first caps : Array Operand} {fs cs : List Opd} (hI : Inv P cfg C σ w) (he : EnvR C env a.tmps) (hf : ∀ l, f ≠ .yield l) (h1 : opds first.toList = some fs) (h2 : opds caps.toList = some cs)
    (ho : o.op = .makeFunc f first caps) (h : op_makeFunc f fs cs env σ = some (v, τ)) : Runs P cfg C σ w (execOp a.eval o) v τ := by
  cases h
  obtain ⟨g1, g2⟩ := opds_VR h1 he
  obtain ⟨g3, g4⟩ := opds_VR h2 he
  unfold execOp; rw [ho]
  refine .val (u := .func f (first.map a.eval) (caps.map a.eval)) rfl (.same hI ?_)
  refine .fn f hf _ _ _ _ (by simpa using g1) (by simpa using g3) (fun i c v hc hv => g2 i c v hc ?_) (fun i c v hc hv => g4 i c v hc ?_)
  · simpa using hv
  · simpa using hv

theorem VRs.ofEvals {l : List Operand} {ys : List Opd} (h : opds l = some ys) (he : EnvR C env a.tmps) : VRs C (evals env ys) (l.map a.eval).toArray := by
  obtain ⟨g1, g2⟩ := opds_VR h he
  exact ⟨by simp [g1], fun i c v hc hv => g2 i c v hc (by simpa using hv)⟩

theorem s_extract {x : Operand} {y : Opd} {i : Nat} (hI : Inv P cfg C σ w) (he : EnvR C env a.tmps) (hx : opd x = some y) (ho : o.op = .extract x i)
    (h : op_extract y i env σ = some (v, τ)) : Runs P cfg C σ w (execOp a.eval o) v τ := by
  unfold op_extract at h
  cases hn : (y.eval env).tup? with
  | none => rw [hn] at h; cases h
  | some cs =>
    rw [hn] at h
    obtain ⟨h1, rfl⟩ := ret1_some h
    rw [nth_eq] at h1
    obtain ⟨vs, e, hl⟩ := tup?_VR (opd_VR hx he) hn
    obtain ⟨u, hu, hr⟩ := hl.get h1
    unfold execOp; rw [ho]
    refine .val (u := u) ?_ (.same hI hr)
    rw [e]
    simp only [Instr.extract, hu, Sem.run_pure]

theorem run_len_str {t ty : TypeId} (ht : P.underlying t = some .string) (s : ByteArray) : (Builtin.len_ #[t] ty #[.string s]).run P w = .ok (goInt s.size) w := by
  simp [Builtin.len_, run_und ht]
theorem run_len_sl {t ty el : TypeId} (ht : P.underlying t = some (.slice el)) (b : Option Addr) (n c : Nat) : (Builtin.len_ #[t] ty #[.slice b n c]).run P w = .ok (goInt n) w := by
  simp [Builtin.len_, run_und ht]

theorem s_lenStr {t : TypeId} {c : Call} {x : Operand} {y : Opd} (hI : Inv P cfg C σ w) (he : EnvR C env a.tmps) (ht : P.underlying t = some .string) (hx : opd x = some y)
    (ho : o.op = .call c) (hc : c.callee = .builtin .len) (ha : c.args.toList = [x]) (hty : c.argTypes.toList = [t])
    (h : op_lenStr y env σ = some (v, τ)) : Runs P cfg C σ w (execOp a.eval o) v τ := by
  unfold op_lenStr at h
  cases hn : (y.eval env).str? with
  | none => rw [hn] at h; cases h
  | some s =>
    rw [hn] at h; cases h
    obtain ⟨_, e⟩ := str?_VR (opd_VR hx he) hn
    have ha' : c.args = #[x] := Array.ext' ha
    have hty' : c.argTypes = #[t] := Array.ext' hty
    unfold execOp; rw [ho]
    refine ⟨.value (.int .i64 s.length), w, _, ?_, .inl rfl, .same hI (.int _ _)⟩
    simp only [resolve, hc, ha', hty', Sem.run_bind, Sem.run_pure, Result.andThen_ok, invoke, builtin, List.map_toArray, List.map_cons, List.map_nil, e]
    rw [run_len_str ht, Result.andThen_ok]
    simp [goInt, ByteArray.size]

theorem s_lenSl {t el : TypeId} {c : Call} {x : Operand} {y : Opd} (hI : Inv P cfg C σ w) (he : EnvR C env a.tmps) (ht : P.underlying t = some (.slice el)) (hx : opd x = some y)
    (ho : o.op = .call c) (hc : c.callee = .builtin .len) (ha : c.args.toList = [x]) (hty : c.argTypes.toList = [t])
    (h : op_lenSl y env σ = some (v, τ)) : Runs P cfg C σ w (execOp a.eval o) v τ := by
  unfold op_lenSl at h
  cases hn : lenOf (y.eval env) with
  | none => rw [hn] at h; cases h
  | some n =>
    rw [hn] at h; cases h
    have hv := opd_VR hx he
    obtain ⟨ad, cap, e⟩ : ∃ ad cap, a.eval x = .slice ad n cap := by
      generalize y.eval env = b at hn hv
      generalize a.eval x = u at hv
      cases hv <;> simp at hn
      · subst hn; exact ⟨_, _, rfl⟩
      · subst hn; exact ⟨_, _, rfl⟩
    have ha' : c.args = #[x] := Array.ext' ha
    have hty' : c.argTypes = #[t] := Array.ext' hty
    unfold execOp; rw [ho]
    refine ⟨.value (.int .i64 n), w, _, ?_, .inl rfl, .same hI (.int _ _)⟩
    simp only [resolve, hc, ha', hty', Sem.run_bind, Sem.run_pure, Result.andThen_ok, invoke, builtin, List.map_toArray, List.map_cons, List.map_nil, e]
    rw [run_len_sl ht, Result.andThen_ok]
    simp [goInt]

end Go.AM
namespace Go.AM
open Go.RowKit
variable {P : Program} {cfg : Cfg} {C : Ctx} {σ τ : St} {w : World} {env : Env} {a : Act} {o : Oper} {v : AV}

/-- Cells of an object that are written. -/
theorem store_row_at (hI : Inv P cfg C σ w) {id off : Nat} {l l' ns : List AV} (hg : σ.get id = some (.cells l)) (hs : splice l off ns = some l')
    {b st lim : Nat} (hκ : C.κ id = some (.cells b st lim)) {vs : Array Value} (hv : VRs C ns vs) (hc : ∀ c ∈ ns, isCell c = true) :
    ∃ (cs : Array Value) (e : TypeId), w.heap[b]? = some (.cells cs e (0, 0)) ∧ st + off + vs.size ≤ cs.size ∧ (∀ x ∈ vs.toList, x.oneCell' = true) ∧ (∀ x, C.S b x = none) ∧
      Inv P cfg C (σ.set id (.cells l')) (w.setRow b (cs.toList.take (st + off) ++ vs.toList ++ cs.toList.drop (st + off + vs.size)).toArray) ∧
      Ev C σ w C (σ.set id (.cells l')) (w.setRow b (cs.toList.take (st + off) ++ vs.toList ++ cs.toList.drop (st + off + vs.size)).toArray) := by
  obtain ⟨b', st', lim', cs, e, g1, g2, g3, g4, g5, g6⟩ := hI.obj _ _ hg
  rw [hκ] at g1; cases g1
  obtain ⟨s1, s2, s3, s4⟩ := splice_some hs
  have h1 : ∀ x ∈ vs.toList, x.oneCell' = true := by
    intro x hx
    obtain ⟨i, hi, hxi⟩ := List.mem_iff_getElem.1 hx
    have hi' : i < ns.length := by rw [hv.1]; simpa using hi
    have := hv.2 i ns[i] x (List.getElem?_eq_getElem hi') (by rw [← hxi]; simp at hi ⊢)
    exact this.oneCell (hc _ (List.getElem_mem hi'))
  have hlen : vs.size = ns.length := hv.1.symm
  refine ⟨cs, e, g2, by omega, h1, g6, ?_⟩
  generalize hcs' : (cs.toList.take (st + off) ++ vs.toList ++ cs.toList.drop (st + off + vs.size)).toArray = cs'
  have hsz : cs'.size = cs.size := by subst hcs'; simp; omega
  have low : ∀ x, x < st + off → cs'[x]? = cs[x]? := fun x hx => by
    subst hcs'
    rw [List.getElem?_toArray, List.append_assoc, List.getElem?_append_left (by simp; omega), List.getElem?_take_of_lt hx]; simp
  have mid : ∀ j, j < ns.length → cs'[st + off + j]? = vs[j]? := fun j hj => by
    subst hcs'
    rw [List.getElem?_toArray, List.append_assoc, List.getElem?_append_right (by simp; omega), List.getElem?_append_left (by simp; omega)]
    simp only [List.length_take, Array.length_toList, Array.getElem?_toList]
    congr 1; omega
  have high : ∀ x, st + off + ns.length ≤ x → cs'[x]? = cs[x]? := fun x hx => by
    subst hcs'
    rw [List.getElem?_toArray, List.getElem?_append_right (by simp; omega), List.getElem?_drop]
    simp only [List.length_append, List.length_take, Array.length_toList, Array.getElem?_toList]
    congr 1; omega
  refine hI.change (.refl C) hg (b := b) (by simp [objB, hκ]) (by simp [objB, hκ]) (fun _ => rfl) (fun _ _ _ => rfl) (fun _ _ _ _ h => h) (by simp) rfl rfl rfl (fun b' hb' => setRow_other w b b' cs' hb') (fun x u hx => by rw [g6 x] at hx; cases hx) ?_
  refine ⟨b, st, lim, cs', e, hκ, setRow_heap w b cs cs' e _ g2, by omega, by omega, fun j c hj => ?_, g6⟩
  by_cases hj1 : j < off
  · rw [s3 j (.inl hj1)] at hj
    rw [low (st + j) (by omega)]
    exact g5 j c hj
  · by_cases hj2 : off + ns.length ≤ j
    · rw [s3 j (.inr hj2)] at hj
      rw [high (st + j) (by omega)]
      exact g5 j c hj
    · obtain ⟨k, rfl⟩ : ∃ k, j = off + k := ⟨j - off, by omega⟩
      have hk : k < ns.length := by omega
      rw [s4 k hk] at hj
      obtain ⟨u, hu, hr⟩ := hv.get hj
      refine ⟨u, ?_, hr⟩
      rw [show st + (off + k) = st + off + k by omega, mid k hk]; exact hu

/-- Cells of an object that are written. -/
theorem store_row (hI : Inv P cfg C σ w) {id off : Nat} {l l' ns : List AV} (hg : σ.get id = some (.cells l)) (hs : splice l off ns = some l')
    {b st lim : Nat} (hκ : C.κ id = some (.cells b st lim)) {vs : Array Value} (hv : VRs C ns vs) (hc : ∀ c ∈ ns, isCell c = true) :
    ∃ w', (Go.storeCells ⟨b, st + off, none⟩ vs.toList).run P w = .ok () w' ∧ Inv P cfg C (σ.set id (.cells l')) w' ∧ Ev C σ w C (σ.set id (.cells l')) w' := by
  obtain ⟨cs, e, g2, h2, h1, _, h3⟩ := store_row_at hI hg hs hκ hv hc
  have hrun := run_storeCells_at P b (st + off) e vs.toList 0 cs w g2 (by simp only [Array.length_toList]; omega) h1
  simp only [Nat.add_zero, Array.length_toList] at hrun
  exact ⟨_, hrun, h3⟩

theorem cells_get {id : Nat} {l : List AV} (hl : σ.cells id = some l) : σ.get id = some (.cells l) := by
  unfold St.cells at hl
  cases hg : σ.get id with
  | none => rw [hg] at hl; cases hl
  | some x => rw [hg] at hl; cases x <;> simp [AObj.cells?] at hl; subst hl; rfl
theorem map_get {id : Nat} {ks : List Nat} {l : List (AV × AV)} (hl : σ.mapOf id = some (ks, l)) : σ.get id = some (.map ks l) := by
  unfold St.mapOf at hl
  cases hg : σ.get id with
  | none => rw [hg] at hl; cases hl
  | some x => rw [hg] at hl; cases x <;> simp [AObj.map?] at hl; obtain ⟨rfl, rfl⟩ := hl; rfl
theorem tok_get {id g sz : Nat} (hl : σ.tokOf id = some (g, sz)) : σ.get id = some (.tok g sz) := by
  unfold St.tokOf at hl
  cases hg : σ.get id with
  | none => rw [hg] at hl; cases hl
  | some x => rw [hg] at hl; cases x <;> simp [AObj.tok?] at hl; obtain ⟨rfl, rfl⟩ := hl; rfl

theorem all_mem {l : List AV} {f : AV → Bool} (h : l.all f = true) : ∀ c ∈ l, f c = true := by simpa using h

theorem known_cells {v : AV} (h : ∀ c ∈ v.cells, isCell c = true) : known v = true := by
  cases v <;> simp at h ⊢

theorem s_store {t : TypeId} {x y : Operand} {x' y' : Opd} {n : Nat} (hI : Inv P cfg C σ w) (he : EnvR C env a.tmps) (hn : sizeT P t = some n) (hx : opd x = some x') (hy : opd y = some y') (ho : o.op = .store t x y)
    (h : op_store n x' y' env σ = some (v, τ)) : Runs P cfg C σ w (execOp a.eval o) v τ := by
  have hvx := opd_VR hx he
  have hvy := opd_VR hy he
  unfold op_store at h
  generalize x'.eval env = p at h hvx
  generalize hux : a.eval x = ux at hvx
  cases hst : storeCells p σ n (y'.eval env).cells with
  | none => rw [hst] at h; cases h
  | some σ' =>
    rw [hst] at h; cases h
    cases hvx <;> simp only [eq_storeCells_junk, eq_storeCells_undef, eq_storeCells_bool, eq_storeCells_int, eq_storeCells_str, eq_storeCells_nilp, eq_storeCells_nilm, eq_storeCells_nilf, eq_storeCells_nili, eq_storeCells_agg, eq_storeCells_tup, eq_storeCells_slice, eq_storeCells_hsl, eq_storeCells_itr, eq_storeCells_eptr, eq_storeCells_map, eq_storeCells_fn, eq_storeCells_ptr] at hst <;> first | (cases hst; done) | skip
    rename_i id off b st lim hκ
    unfold storePtr at hst
    cases hl : σ.cells id with
    | none => rw [hl] at hst; cases hst
    | some l =>
      rw [hl] at hst; simp only at hst
      cases hc : (Nat.beq (y'.eval env).cells.length n && (y'.eval env).cells.all isCell) with
      | false => rw [hc] at hst; cases hst
      | true =>
        rw [hc, cond_true] at hst
        cases hsp : splice l off (y'.eval env).cells with
        | none => rw [hsp] at hst; cases hst
        | some l' =>
          rw [hsp] at hst; cases hst
          rw [Bool.and_eq_true] at hc
          have hlen := Nat.eq_of_beq_eq_true hc.1
          have hcell := all_mem hc.2
          have hg := cells_get hl
          have hv := hvy.cells (known_cells hcell)
          obtain ⟨w', h1, h2, h3⟩ := store_row hI hg hsp hκ hv hcell
          unfold execOp; rw [ho]
          refine ⟨.skip, w', undef, ?_, .inr ⟨rfl, rfl⟩, C, h3, h2, .undef⟩
          have hsz : (a.eval y).cells.size = n := by rw [← hv.1]; exact hlen
          simp only [hux, Instr.storeAt, Instr.sureAddr, Sem.run_bind, Sem.run_pure, Result.andThen_ok, storeVar, run_size hn, hsz, ne_eq, not_true_eq_false, if_false, h1]

theorem VR.strip {c : AV} {u : Value} (h : VR C c u) : VR C (strip c) u := by
  cases h with
  | slice es tk a b off cap size u hsz hcap ha hel hS hV htk => exact .slice es .none a b off cap size u hsz hcap ha hel hS hV trivial
  | _ => first
    | exact .junk _ | exact .undef | exact .bool _ | exact .int _ _ | exact .str _ | exact .nilp | exact .nilm | exact .nilf | exact .nili
    | (rename_i hl h; exact .agg _ _ hl h) | (rename_i hl h; exact .tup _ _ hl h)
    | (rename_i hκ hsz hcap hlim; exact .hsl _ _ _ _ _ _ _ _ hκ hsz hcap hlim)
    | (rename_i hκ; exact .ptr _ _ _ _ _ hκ) | (rename_i hκ; exact .itr _ _ hκ) | (rename_i hS hV; exact .eptr _ _ _ _ _ hS hV) | (rename_i hκ; exact .map _ _ hκ)
    | (rename_i f hf first caps fv cv h1 h2 hv1 hv2; exact .fn f hf first caps fv cv h1 h2 hv1 hv2) | (rename_i hκ; exact .yield _ _ hκ)
theorem VR.aggStrip {cs : List AV} {vs : Array Value} (hl : cs.length = vs.size) (h : ∀ (i : Nat) (c : AV) (v : Value), cs[i]? = some c → vs[i]? = some v → VR C c v) : VR C (.agg (cs.map AM.strip)) (.agg vs) := by
  refine .agg _ _ (by simpa using hl) fun i c v hc hv => ?_
  rw [List.getElem?_map] at hc
  cases e : cs[i]? with
  | none => rw [e] at hc; cases hc
  | some c' => rw [e] at hc; cases hc; exact (h i c' v e hv).strip
theorem VR.stripCell {c : AV} {u : Value} (h : VR C c u) : VR C (stripCell c) u := by
  have k := h.strip
  cases h with
  | agg cs vs hl h => exact VR.aggStrip hl h
  | slice => exact k
  | _ => exact k
theorem VR.stripAgg {c : AV} {u : Value} (h : VR C c u) : VR C (stripAgg c) u := by
  cases h with
  | agg cs vs hl h => exact VR.aggStrip hl h
  | slice es tk a b off cap size u hsz hcap ha hel hS hV htk => exact .slice es tk a b off cap size u hsz hcap ha hel hS hV htk
  | _ => first
    | exact .junk _ | exact .undef | exact .bool _ | exact .int _ _ | exact .str _ | exact .nilp | exact .nilm | exact .nilf | exact .nili
    | (rename_i hl h; exact .tup _ _ hl h)
    | (rename_i hκ hsz hcap hlim; exact .hsl _ _ _ _ _ _ _ _ hκ hsz hcap hlim)
    | (rename_i hκ; exact .ptr _ _ _ _ _ hκ) | (rename_i hκ; exact .itr _ _ hκ) | (rename_i hS hV; exact .eptr _ _ _ _ _ hS hV) | (rename_i hκ; exact .map _ _ hκ)
    | (rename_i f hf first caps fv cv h1 h2 hv1 hv2; exact .fn f hf first caps fv cv h1 h2 hv1 hv2) | (rename_i hκ; exact .yield _ _ hκ)
theorem VR.stripVal {c : AV} {u : Value} (h : VR C c u) : VR C (stripVal c) u := by
  have k := h.stripAgg
  cases h with
  | agg cs vs hl h => exact VR.aggStrip hl h
  | tup cs vs hl h =>
    refine .tup _ _ (by simpa using hl) fun i c v hc hv => ?_
    rw [List.getElem?_map] at hc
    cases e : cs[i]? with
    | none => rw [e] at hc; cases hc
    | some c' => rw [e] at hc; cases hc; exact (h i c' v e hv).stripAgg
  | slice => exact k
  | _ => exact k
theorem strip_known (v : AV) : known (stripCell v) = known v := by cases v <;> rfl
theorem strip_cells (v : AV) : (stripCell v).cells.length = v.cells.length := by cases v <;> simp

/-! ### Parts -/
theorem fill_step {place : Nat → Option (Nat × Nat)} {cells : Array Value} {i off n : Nat} {u : Value} {rest : List (Nat × Value)} (hp : place i = some (off, n)) (hn : u.cells.size = n) (hl : off + n ≤ cells.size) :
    ∃ cells' : Array Value, Instr.fill place cells ((i, u) :: rest) = Instr.fill place cells' rest ∧ cells'.size = cells.size ∧
      ∀ k, cells'[k]? = if off ≤ k ∧ k < off + n then u.cells[k - off]? else cells[k]? := by
  obtain ⟨g1, g2⟩ := Great.foldl_set off u.cells.toList 0 cells
  refine ⟨(u.cells.toList.zipIdx 0).foldl (fun cs (x : Value × Nat) => cs.setIfInBounds (off + x.2) x.1) cells, ?_, g1, fun k => ?_⟩
  · show (match place i with | none => none | some (off, size) => if u.cells.size ≠ size || off + u.cells.size > cells.size then none else Instr.fill place (u.cells.zipIdx.foldl (fun cs (c, j) => cs.setIfInBounds (off + j) c) cells) rest) = _
    rw [hp]
    have hc : (decide (u.cells.size ≠ n) || decide (off + u.cells.size > cells.size)) = false := by
      simp only [Bool.or_eq_false_iff, decide_eq_false_iff_not]; omega
    simp only [hc, Bool.false_eq_true, if_false]
    congr 1
    rw [← Array.foldl_toList, Array.toList_zipIdx]
  · rw [g2 k]
    simp only [Nat.add_zero, Array.length_toList, Array.getElem?_toList]
    by_cases hk : off ≤ k ∧ k < off + n
    · rw [if_pos hk, if_pos (by omega)]
    · rw [if_neg hk, if_neg (by omega)]

theorem fillParts_sound (he : EnvR C env a.tmps) {place : Nat → Option (Nat × Nat)} : ∀ (ps : List (Nat × Operand)) (qs : List (Nat × Nat × Opd)) (l l' : List AV) (cells : Array Value),
    partsT place ps = some qs → fillParts env qs l = some l' → VRs C l cells → ∃ cells', Instr.fill place cells (ps.map fun (i, x) => (i, a.eval x)) = some cells' ∧ VRs C l' cells' := by
  intro ps
  induction ps with
  | nil => intro qs l l' cells h1 h2 h3; cases h1; cases h2; exact ⟨cells, rfl, h3⟩
  | cons p ps ih =>
    intro qs l l' cells h1 h2 h3
    obtain ⟨i, x⟩ := p
    simp only [partsT] at h1
    cases hp : place i with
    | none => rw [hp] at h1; cases h1
    | some r =>
      obtain ⟨off, n⟩ := r
      cases hx : opd x with
      | none => rw [hp, hx] at h1; cases h1
      | some y =>
        cases hr : partsT place ps with
        | none => rw [hp, hx, hr] at h1; cases h1
        | some qs' =>
          rw [hp, hx, hr] at h1; cases h1
          have h2' : (bif Nat.beq (y.eval env).cells.length n && known (y.eval env) then match splice l off (y.eval env).cells with | some l' => fillParts env qs' l' | none => none else none) = some l' := h2
          cases hb : (Nat.beq (y.eval env).cells.length n && known (y.eval env)) with
          | false => rw [hb] at h2'; cases h2'
          | true =>
            rw [hb, cond_true] at h2'
            rw [Bool.and_eq_true] at hb
            have hn := Nat.eq_of_beq_eq_true hb.1
            have hv := (opd_VR hx he).cells hb.2
            cases hs : splice l off (y.eval env).cells with
            | none => rw [hs] at h2'; cases h2'
            | some l1 =>
              rw [hs] at h2'
              obtain ⟨s1, s2, s3, s4⟩ := splice_some hs
              have hsz : (a.eval x).cells.size = n := by rw [← hv.1]; exact hn
              obtain ⟨c1, g1, g2, g3⟩ := fill_step (rest := ps.map fun (i, x) => (i, a.eval x)) hp hsz (cells := cells) (by rw [← h3.1]; omega)
              obtain ⟨c2, k1, k2⟩ := ih qs' l1 l' c1 hr h2' ⟨by rw [s2, g2]; exact h3.1, fun k c v hc hv' => by
                rw [g3 k] at hv'
                by_cases hk : off ≤ k ∧ k < off + n
                · rw [if_pos hk] at hv'
                  obtain ⟨j, rfl⟩ : ∃ j, k = off + j := ⟨k - off, by omega⟩
                  rw [s4 j (by omega)] at hc
                  rw [show off + j - off = j by omega] at hv'
                  exact hv.2 j c v hc hv'
                · rw [if_neg hk] at hv'
                  rw [s3 k (by omega)] at hc
                  exact h3.2 k c v hc hv'⟩
              exact ⟨c2, g1.trans k1, k2⟩

end Go.AM
namespace Go.AM
open Go.RowKit
variable {P : Program} {cfg : Cfg} {C : Ctx} {σ τ : St} {w : World} {env : Env} {a : Act} {o : Oper} {v : AV}

theorem info_of_size {t : TypeId} {n : Nat} (h : sizeT P t = some n) : ∃ i, P.info? t = some i ∧ i.size = n := by
  unfold sizeT at h
  cases e : P.info? t with
  | none => rw [e] at h; cases h
  | some i => rw [e] at h; cases h; exact ⟨i, rfl, rfl⟩
theorem info_of_zero {t : TypeId} {z : AV} (h : zeroT P t = some z) : ∃ i zv, P.info? t = some i ∧ i.zero = some zv ∧ conv zv = some z := by
  unfold zeroT at h
  cases e : P.info? t with
  | none => rw [e] at h; cases h
  | some i =>
    rw [e] at h
    cases hz : i.zero with
    | none => rw [Option.bind_some, hz] at h; cases h
    | some zv => rw [Option.bind_some, hz] at h; exact ⟨i, zv, rfl, hz, h⟩

theorem fieldsT_mapM : ∀ {fs : List Field} {pl : List (Nat × Nat)}, fieldsT P fs = some pl → fs.mapM (fun f => (P.info? f.type).map fun i => (f.offset, i.size)) = some pl := by
  intro fs
  induction fs with
  | nil => intro pl h; cases h; rfl
  | cons f fs ih =>
    intro pl h
    simp only [fieldsT] at h
    cases hs : sizeT P f.type with
    | none => rw [hs] at h; cases h
    | some n =>
      cases hr : fieldsT P fs with
      | none => rw [hs, hr] at h; cases h
      | some l =>
        rw [hs, hr] at h; cases h
        obtain ⟨i, hi, rfl⟩ := info_of_size hs
        simp [List.mapM_cons, hi, ih hr]

theorem map_parts (a : Act) (parts : Array (Nat × Operand)) : (parts.map fun (i, x) => (i, a.eval x)).toList = parts.toList.map fun (i, x) => (i, a.eval x) := by simp

theorem s_build {t : TypeId} {ps : Array (Nat × Operand)} {z : List AV} {qs : List (Nat × Nat × Opd)} (hI : Inv P cfg C σ w) (he : EnvR C env a.tmps) (hz : zeroT P t = some (.agg z))
    (ht : (∃ fs pl, P.underlying t = some (.struct fs) ∧ fieldsT P fs.toList = some pl ∧ partsT (pl[·]?) ps.toList = some qs) ∨
      (∃ n e sz, P.underlying t = some (.array n e) ∧ sizeT P e = some sz ∧ partsT (fun i => some (i * sz, sz)) ps.toList = some qs))
    (ho : o.op = .build t ps) (h : op_build z qs env σ = some (v, τ)) : Runs P cfg C σ w (execOp a.eval o) v τ := by
  unfold op_build at h
  cases hf : fillParts env qs z with
  | none => rw [hf] at h; cases h
  | some cs =>
    rw [hf] at h; cases h
    obtain ⟨i, zv, h1, h2, h3⟩ := info_of_zero hz
    obtain ⟨h4, _⟩ := conv_VR h3 C
    have hzc : VRs C z zv.cells := h4.cells rfl
    have key : ∃ cells, P.built t (ps.map fun (i, x) => (i, a.eval x)).toList = some cells ∧ VRs C cs cells := by
      rw [map_parts]
      rcases ht with ⟨fs, pl, g1, g2, g3⟩ | ⟨n, e, sz, g1, g2, g3⟩
      · obtain ⟨cells, k1, k2⟩ := fillParts_sound he ps.toList qs z cs zv.cells g3 hf hzc
        refine ⟨cells, ?_, k2⟩
        unfold Program.built
        rw [h1, g1]
        simp only [h2, fieldsT_mapM g2]
        simpa using k1
      · obtain ⟨cells, k1, k2⟩ := fillParts_sound he ps.toList qs z cs zv.cells g3 hf hzc
        obtain ⟨j, hj, rfl⟩ := info_of_size g2
        refine ⟨cells, ?_, k2⟩
        unfold Program.built
        rw [h1, g1]
        simp only [h2, hj]
        exact k1
    obtain ⟨cells, k1, k2⟩ := key
    unfold execOp; rw [ho]
    exact .val (u := .agg cells) (run_build w t _ cells k1) (.same hI (.agg _ _ k2.1 k2.2))

/-! ### Rows of elements -/
/-- Elements of so many cells, in a row of cells. -/
def ElR (C : Ctx) (es : List AV) (sz : Nat) (cs : Array Value) : Prop :=
  es.length * sz ≤ cs.size ∧ ∀ (i : Nat) (e : AV), es[i]? = some e → e.cells.length = sz ∧ ∀ (j : Nat) (c : AV), e.cells[j]? = some c → ∃ u, cs[i * sz + j]? = some u ∧ VR C c u
theorem ElR.mono {C D : Ctx} (h : C.Le D) {es : List AV} {sz : Nat} {cs : Array Value} (k : ElR C es sz cs) : ElR D es sz cs :=
  ⟨k.1, fun i e he => ⟨(k.2 i e he).1, fun j c hc => let ⟨u, a, b⟩ := (k.2 i e he).2 j c hc; ⟨u, a, b.mono h⟩⟩⟩

theorem idx_lt {i j sz n : Nat} (hi : i < n) (hj : j < sz) : i * sz + j < n * sz := by
  have : (i + 1) * sz ≤ n * sz := Nat.mul_le_mul_right sz hi
  rw [Nat.succ_mul] at this; omega

theorem divmod {i j sz : Nat} (hj : j < sz) : (i * sz + j) / sz = i ∧ (i * sz + j) % sz = j := by
  have h0 : 0 < sz := by omega
  constructor
  · rw [Nat.mul_comm, Nat.mul_add_div h0, Nat.div_eq_of_lt hj, Nat.add_zero]
  · rw [Nat.mul_comm, Nat.mul_add_mod, Nat.mod_eq_of_lt hj]

theorem flat_get : ∀ {es : List AV} {sz : Nat}, (∀ e ∈ es, e.cells.length = sz) → (es.flatMap AV.cells).length = es.length * sz ∧
    ∀ (i : Nat) (e : AV) (j : Nat), es[i]? = some e → j < sz → (es.flatMap AV.cells)[i * sz + j]? = e.cells[j]? := by
  intro es
  induction es with
  | nil => intro sz _; exact ⟨by simp, fun i e j h => by simp at h⟩
  | cons x es ih =>
    intro sz h
    have hx := h x (by simp)
    obtain ⟨h1, h2⟩ := ih (sz := sz) (fun e he => h e (by simp [he]))
    rw [List.flatMap_cons]
    refine ⟨by simp only [List.length_append, h1, hx, List.length_cons, Nat.succ_mul]; omega, fun i e j hi hj => ?_⟩
    cases i with
    | zero =>
      simp at hi; subst hi
      rw [Nat.zero_mul, Nat.zero_add, List.getElem?_append_left (by omega)]
    | succ i =>
      rw [List.getElem?_append_right (by rw [Nat.succ_mul]; omega), hx, Nat.succ_mul, show i * sz + sz + j - sz = i * sz + j by omega]
      exact h2 i e j (by simpa using hi) hj

theorem flat_VRs {es : List AV} {sz : Nat} {cs : Array Value} (h : ElR C es sz cs) (hs : cs.size = es.length * sz) (hsz : 0 < sz) : VRs C (es.flatMap AV.cells) cs := by
  obtain ⟨h1, h2⟩ := flat_get (es := es) (sz := sz) (fun e he => by obtain ⟨i, hi, rfl⟩ := List.mem_iff_getElem.1 he; exact (h.2 i _ (List.getElem?_eq_getElem hi)).1)
  refine ⟨by rw [h1, hs], fun k c v hc hv => ?_⟩
  have hk : k < es.length * sz := by rw [← h1]; exact (List.getElem?_eq_some_iff.1 hc).1
  have hm : k % sz < sz := Nat.mod_lt _ hsz
  have hd : k / sz < es.length := Nat.div_lt_of_lt_mul (by rw [Nat.mul_comm]; exact hk)
  have hk' : k / sz * sz + k % sz = k := by rw [Nat.mul_comm]; exact Nat.div_add_mod k sz
  have he := List.getElem?_eq_getElem hd
  have := h2 _ _ _ he hm
  rw [hk'] at this
  rw [this] at hc
  obtain ⟨u, hu, hr⟩ := (h.2 _ _ he).2 _ _ hc
  rw [hk', hv] at hu; cases hu; exact hr

theorem ElR.get_value {es : List AV} {sz : Nat} {cs : Array Value} (h : ElR C es sz cs) {i : Nat} {e : AV} (he : es[i]? = some e) {j : Nat} {c : AV} (hc : e.cells[j]? = some c) :
    cs[i * sz + j]? = some (cs.getD (i * sz + j) undef) ∧ VR C c (cs.getD (i * sz + j) undef) := by
  obtain ⟨u, hu, hr⟩ := (h.2 i e he).2 j c hc
  have : cs.getD (i * sz + j) undef = u := by rw [Array.getD_eq_getD_getElem?, hu]; rfl
  rw [this]; exact ⟨hu, hr⟩

/-- Cells that nobody writes any more, in a new block. -/
def Ctx.row (C : Ctx) (b : Nat) (f : Nat → Option Value) : Ctx := { C with S := fun b' x => if b' = b then f x else C.S b' x }
theorem new_row (hI : Inv P cfg C σ w) (cs : Array Value) (e : TypeId) (f : Nat → Option Value) (hf : ∀ x u, f x = some u → cs[x]? = some u) :
    C.Le (C.row w.heap.size f) ∧ Inv P cfg (C.row w.heap.size f) σ (w.alloc (.cells cs e)) ∧ Ev C σ w (C.row w.heap.size f) σ (w.alloc (.cells cs e)) := by
  have le : C.Le (C.row w.heap.size f) := ⟨fun b x u h => by
    have := sealed_lt hI h
    show (if b = w.heap.size then f x else C.S b x) = some u
    rw [if_neg (by omega)]; exact h, fun _ _ h => h, fun _ _ _ h => h⟩
  have back : ∀ b x u, b < w.heap.size → (C.row w.heap.size f).S b x = some u → C.S b x = some u := fun b x u hb h => by
    have h' : (if b = w.heap.size then f x else C.S b x) = some u := h
    rw [if_neg (by omega)] at h'; exact h'
  have hw : ∀ b, b < w.heap.size → (w.alloc (.cells cs e)).heap[b]? = w.heap[b]? := fun b hb => Below.heap_alloc w _ b hb
  have stable : ∀ id o, σ.get id = some o → ObjR P cfg (C.row w.heap.size f) (w.alloc (.cells cs e)) id o := fun id o ho => by
    refine (hI.obj id o ho).stable le (fun b hb => ?_) (fun _ => rfl)
    obtain ⟨b', h1, h2⟩ := (hI.obj id o ho).block
    rw [hb] at h1; cases h1
    exact ⟨hw b h2, fun x u => back b x u h2⟩
  refine ⟨le, hI.of ⟨⟨fun b x u h => ?_, hI.falls, hI.next, stable, fun i j o o' b hi hj hbi hbj => hI.inj i j o o' b hi hj (objB_back le (hI.obj _ _ hi) hbi) (objB_back le (hI.obj _ _ hj) hbj)⟩,
    ⟨le, Nat.le_refl _, by show w.heap.size ≤ (w.heap.push _).size; simp, rfl, rfl, rfl, fun b hb _ => hw b hb, fun b _ ⟨i, o', hi, ho⟩ => ⟨i, o', hi, objB_back le (hI.obj _ _ hi) ho⟩, fun b x u hb _ => back b x u hb, fun _ h => absurd rfl h, fun _ _ h => absurd rfl h, fun _ o h => .inl ⟨o, h⟩⟩⟩⟩
  by_cases hb : b = w.heap.size
  · subst hb
    have h' : (if w.heap.size = w.heap.size then f x else C.S w.heap.size x) = some u := h
    rw [if_pos rfl] at h'
    simp only [World.cell?, heap_new]
    simpa using hf x u h'
  · have h' : (if b = w.heap.size then f x else C.S b x) = some u := h
    rw [if_neg hb] at h'
    rw [← hI.lies b x u h']
    exact World.cell?_of_block (hw b (sealed_lt hI h'))

/-- A new row of elements. -/
theorem slice_of_row (hI : Inv P cfg C σ w) {es : List AV} {sz : Nat} (hsz : 0 < sz) {cs : Array Value} (h : ElR C es sz cs) (e : TypeId) :
    Done C σ w (.slice es .full) σ (.slice (some ⟨w.heap.size, 0, none⟩) es.length es.length) (w.alloc (.cells cs e)) P cfg := by
  obtain ⟨h1, h2, h3⟩ := new_row hI cs e (fun x => cs[x]?) (fun _ _ h => h)
  refine ⟨_, h3, h2, ?_⟩
  refine .slice es .full _ w.heap.size 0 es.length sz (fun i j => cs.getD (i * sz + j) undef) hsz (Nat.le_refl _) (fun _ => rfl) (fun i e he => (h.2 i e he).1) (fun i e j c he hc => ?_) (fun i e j c he hc => (h.get_value he hc).2.mono h1) rfl
  show (if w.heap.size = w.heap.size then _ else _) = _
  rw [if_pos rfl, Nat.zero_add]
  exact (h.get_value he hc).1

end Go.AM
