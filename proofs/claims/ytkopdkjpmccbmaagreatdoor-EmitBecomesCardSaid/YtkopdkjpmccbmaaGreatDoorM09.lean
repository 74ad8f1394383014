/- A part of the proof of: EmitBecomes: what a term becomes by patterns, and a pattern's name, is what the document says, or the error is told. -/
import Derived.Test.YtkopdkjpmccbmaaGreatDoorM08
import Derived.RangeFuncIn
import Derived.RangeFuncLeaves
namespace Go.AM
open Go.RowKit
variable {P : Program} {cfg : Cfg} {C : Ctx} {σ τ : St} {w : World} {env : Env} {a : Act} {o : Oper} {v : AV}

theorem orBad_some {x : Option AOp} {r : AV × St} (h : op (orBad x) env σ = some r) : ∃ p, x = some p ∧ op p env σ = some r := by
  cases x with
  | none => cases h
  | some p => exact ⟨p, rfl, h⟩
theorem ok_some {b : Bool} {u : Unit} (h : AM.ok b = some u) : b = true := by
  unfold AM.ok at h
  split at h
  · assumption
  · cases h
theorem bind_some {α β : Type} {x : Option α} {f : α → Option β} {b : β} (h : (x >>= f) = some b) : ∃ y, x = some y ∧ f y = some b := by
  cases x with
  | none => cases h
  | some y => exact ⟨y, rfl, h⟩
theorem not_dec {p : Prop} [Decidable p] (h : (!decide p) = true) : ¬p := by simpa using h

/-- One operand. -/
theorem one_opd {x : Operand} {f : Opd → AOp} {p : AOp} (h : (opd x >>= fun y => pure (f y)) = some p) : ∃ y, opd x = some y ∧ p = f y := by
  obtain ⟨y, h1, h2⟩ := bind_some h
  cases h2; exact ⟨y, h1, rfl⟩
theorem two_opd {x y : Operand} {f : Opd → Opd → AOp} {p : AOp} (h : (do pure (f (← opd x) (← opd y))) = some p) : ∃ x' y', opd x = some x' ∧ opd y = some y' ∧ p = f x' y' := by
  obtain ⟨x', h1, h⟩ := bind_some h
  obtain ⟨y', h2, h⟩ := bind_some h
  cases h; exact ⟨x', y', h1, h2, rfl⟩

theorem c_build {fid : Nat} {dst : Option Tmp} {t : TypeId} {ps : Array (Nat × Operand)} (hI : Inv P cfg C σ w) (he : EnvR C env a.tmps) (ho : o.op = .build t ps) (h : op (compOp P cfg fid dst (.build t ps)) env σ = some (v, τ)) : Runs P cfg C σ w (execOp a.eval o) v τ := by
  obtain ⟨p, hx, h⟩ := orBad_some h
  obtain ⟨z, hz, hx⟩ := bind_some hx
  cases z <;> simp only at hx <;> first | (cases hx; done) | skip
  rename_i z
  cases hu : P.underlying t with
  | none => rw [hu] at hx; cases hx
  | some d =>
    rw [hu] at hx
    cases d <;> simp only at hx <;> first | (cases hx; done) | skip
    · rename_i n e
      obtain ⟨sz, h1, hx⟩ := bind_some hx
      obtain ⟨qs, h2, hx⟩ := bind_some hx
      cases hx
      exact s_build hI he hz (.inr ⟨n, e, sz, hu, h1, h2⟩) ho h
    · rename_i fs
      obtain ⟨pl, h1, hx⟩ := bind_some hx
      obtain ⟨qs, h2, hx⟩ := bind_some hx
      cases hx
      exact s_build hI he hz (.inl ⟨fs, pl, hu, h1, h2⟩) ho h

theorem c_buildSlice {fid : Nat} {dst : Option Tmp} {t : TypeId} {len : Nat} {ps : Array (Nat × Operand)} (hI : Inv P cfg C σ w) (he : EnvR C env a.tmps) (ho : o.op = .buildSlice t len ps) (h : op (compOp P cfg fid dst (.buildSlice t len ps)) env σ = some (v, τ)) (hf : Fresh C σ.next τ.next) : Runs P cfg C σ w (execOp a.eval o) v τ := by
  obtain ⟨p, hx, h⟩ := orBad_some h
  cases hu : P.underlying t with
  | none => rw [hu] at hx; cases hx
  | some d =>
    rw [hu] at hx
    cases d <;> simp only at hx <;> first | (cases hx; done) | skip
    rename_i e
    obtain ⟨sz, h1, hx⟩ := bind_some hx
    obtain ⟨_, h2, hx⟩ := bind_some hx
    obtain ⟨z, h3, hx⟩ := bind_some hx
    obtain ⟨_, h4, hx⟩ := bind_some hx
    obtain ⟨qs, h5, hx⟩ := bind_some hx
    cases hx
    have h4 := not_dec (ok_some h4)
    exact s_buildSlice hI he hu h1 (not_dec (ok_some h2)) h3 (by simpa using h4) h5 ho h hf

theorem c_bin {fid : Nat} {dst : Option Tmp} {op' : BinOp} {t s : TypeId} {x y : Operand} (hI : Inv P cfg C σ w) (he : EnvR C env a.tmps) (ho : o.op = .binOp op' t x y s) (h : op (compOp P cfg fid dst (.binOp op' t x y s)) env σ = some (v, τ)) : Runs P cfg C σ w (execOp a.eval o) v τ := by
  obtain ⟨p, hx, h⟩ := orBad_some h
  have nils : ∀ (q : Option AOp), (q = (do
      let kd ← nilT P t
      match op' with
      | .eql => pure (.eqNil false kd (← opd x) (← opd y))
      | .neq => pure (.eqNil true kd (← opd x) (← opd y))
      | _ => none)) → q = some p → Runs P cfg C σ w (execOp a.eval o) v τ := by
    intro q h1 h2
    rw [h1] at h2
    obtain ⟨kd, h3, h2⟩ := bind_some h2
    cases op' <;> simp only at h2 <;> first | (cases h2; done) | skip
    · obtain ⟨x', y', q1, q2, rfl⟩ := two_opd h2
      exact s_eqNil (neg := false) hI he h3 q1 q2 ho h
    · obtain ⟨x', y', q1, q2, rfl⟩ := two_opd h2
      exact s_eqNil (neg := true) hI he h3 q1 q2 ho h
  cases hu : P.underlying t with
  | none => rw [hu] at hx; exact nils _ rfl hx
  | some d =>
    rw [hu] at hx
    cases d <;> simp only at hx <;> first | (exact nils _ rfl hx) | skip
    · cases op' <;> simp only at hx <;> first | (cases hx; done) | skip
      · obtain ⟨x', y', q1, q2, rfl⟩ := two_opd hx
        exact s_eqBool (neg := false) hI he hu q1 q2 ho h
      · obtain ⟨x', y', q1, q2, rfl⟩ := two_opd hx
        exact s_eqBool (neg := true) hI he hu q1 q2 ho h
    · rename_i k
      obtain ⟨x', y', q1, q2, rfl⟩ := two_opd hx
      exact s_bin hI he (.inl ⟨k, hu⟩) q1 q2 ho h
    · obtain ⟨x', y', q1, q2, rfl⟩ := two_opd hx
      exact s_bin hI he (.inr hu) q1 q2 ho h
    · obtain ⟨ks, h3, hx⟩ := bind_some hx
      cases op' <;> simp only at hx <;> first | (cases hx; done) | skip
      · obtain ⟨x', y', q1, q2, rfl⟩ := two_opd hx
        exact s_eqAgg (neg := false) hI he h3 q1 q2 ho h
      · obtain ⟨x', y', q1, q2, rfl⟩ := two_opd hx
        exact s_eqAgg (neg := true) hI he h3 q1 q2 ho h

theorem c_convert {fid : Nat} {dst : Option Tmp} {s d : TypeId} {x : Operand} (hI : Inv P cfg C σ w) (he : EnvR C env a.tmps) (ho : o.op = .convert s d x) (h : op (compOp P cfg fid dst (.convert s d x)) env σ = some (v, τ)) : Runs P cfg C σ w (execOp a.eval o) v τ := by
  obtain ⟨p, hx, h⟩ := orBad_some h
  split at hx
  · rename_i j k h1 h2
    obtain ⟨y, q1, rfl⟩ := one_opd hx
    exact s_convInt hI he h1 h2 q1 ho h
  · rename_i h1 h2
    obtain ⟨y, q1, rfl⟩ := one_opd hx
    exact s_convId hI he h1 h2 q1 ho h
  · rename_i j h1 h2
    obtain ⟨y, q1, rfl⟩ := one_opd hx
    exact s_convChar hI he h1 h2 q1 ho h
  · rename_i e h1 h2
    split at hx
    · rename_i h3
      obtain ⟨y, q1, rfl⟩ := one_opd hx
      exact s_convBytes hI he h1 h2 h3 q1 ho h
    · cases hx
  · cases hx

theorem c_makeSlice {fid : Nat} {dst : Option Tmp} {t : TypeId} {x y : Operand} (hI : Inv P cfg C σ w) (he : EnvR C env a.tmps) (ho : o.op = .makeSlice t x y) (h : op (compOp P cfg fid dst (.makeSlice t x y)) env σ = some (v, τ)) (hf : Fresh C σ.next τ.next) : Runs P cfg C σ w (execOp a.eval o) v τ := by
  obtain ⟨p, hx, h⟩ := orBad_some h
  cases hu : P.underlying t with
  | none => rw [hu] at hx; cases hx
  | some d =>
    rw [hu] at hx
    cases d <;> simp only at hx <;> first | (cases hx; done) | skip
    rename_i e
    obtain ⟨sz, h1, hx⟩ := bind_some hx
    obtain ⟨_, h2, hx⟩ := bind_some hx
    obtain ⟨z, h3, hx⟩ := bind_some hx
    obtain ⟨_, h4, hx⟩ := bind_some hx
    obtain ⟨bytes, h5, hx⟩ := bind_some hx
    obtain ⟨x', y', h6, h7, rfl⟩ := two_opd hx
    have h4 := not_dec (ok_some h4)
    exact s_makeSlice hI he hu h1 (not_dec (ok_some h2)) h5 h3 (by simpa using h4) h6 h7 ho h hf

theorem c_slice {fid : Nat} {dst : Option Tmp} {t : TypeId} {x : Operand} {lo hi : Option Operand} (hI : Inv P cfg C σ w) (he : EnvR C env a.tmps) (ho : o.op = .slice t x lo hi none) (h : op (compOp P cfg fid dst (.slice t x lo hi none)) env σ = some (v, τ)) : Runs P cfg C σ w (execOp a.eval o) v τ := by
  obtain ⟨p, hx, h⟩ := orBad_some h
  split at hx
  · rename_i h1
    obtain ⟨x', q1, hx⟩ := bind_some hx
    obtain ⟨lo', q2, hx⟩ := bind_some hx
    obtain ⟨hi', q3, hx⟩ := bind_some hx
    cases hx
    exact s_sliceStr hI he h1 q1 q2 q3 ho h
  · rename_i e h1
    obtain ⟨sz, q0, hx⟩ := bind_some hx
    obtain ⟨x', q1, hx⟩ := bind_some hx
    obtain ⟨lo', q2, hx⟩ := bind_some hx
    obtain ⟨hi', q3, hx⟩ := bind_some hx
    cases hx
    exact s_sliceSl hI he h1 q0 q1 q2 q3 ho h
  · cases hx

theorem c_fieldAddr {fid : Nat} {dst : Option Tmp} {t : TypeId} {x : Operand} {f : Nat} (hI : Inv P cfg C σ w) (he : EnvR C env a.tmps) (ho : o.op = .fieldAddr t x f) (h : op (compOp P cfg fid dst (.fieldAddr t x f)) env σ = some (v, τ)) : Runs P cfg C σ w (execOp a.eval o) v τ := by
  obtain ⟨p, hx, h⟩ := orBad_some h
  split at hx
  · rename_i fs h1
    obtain ⟨fd, q1, hx⟩ := bind_some hx
    obtain ⟨n, q2, hx⟩ := bind_some hx
    obtain ⟨_, q3, hx⟩ := bind_some hx
    obtain ⟨y, q4, rfl⟩ := one_opd hx
    exact s_fieldAddr hI he h1 q1 q2 (not_dec (ok_some q3)) q4 ho h
  · cases hx
theorem c_field {fid : Nat} {dst : Option Tmp} {t : TypeId} {x : Operand} {f : Nat} (hI : Inv P cfg C σ w) (he : EnvR C env a.tmps) (ho : o.op = .field t x f) (h : op (compOp P cfg fid dst (.field t x f)) env σ = some (v, τ)) : Runs P cfg C σ w (execOp a.eval o) v τ := by
  obtain ⟨p, hx, h⟩ := orBad_some h
  split at hx
  · rename_i fs h1
    obtain ⟨fd, q1, hx⟩ := bind_some hx
    obtain ⟨n, q2, hx⟩ := bind_some hx
    obtain ⟨y, q4, rfl⟩ := one_opd hx
    exact s_field hI he h1 q1 q2 q4 ho h
  · cases hx
theorem c_indexAddr {fid : Nat} {dst : Option Tmp} {t : TypeId} {x i : Operand} (hI : Inv P cfg C σ w) (he : EnvR C env a.tmps) (ho : o.op = .indexAddr t x i) (h : op (compOp P cfg fid dst (.indexAddr t x i)) env σ = some (v, τ)) : Runs P cfg C σ w (execOp a.eval o) v τ := by
  obtain ⟨p, hx, h⟩ := orBad_some h
  split at hx
  · rename_i len e h1
    obtain ⟨n, q2, hx⟩ := bind_some hx
    obtain ⟨x', y', q1, q3, rfl⟩ := two_opd hx
    exact s_indexArr hI he h1 q2 q1 q3 ho h
  · rename_i e h1
    obtain ⟨n, q2, hx⟩ := bind_some hx
    obtain ⟨_, q4, hx⟩ := bind_some hx
    obtain ⟨x', y', q1, q3, rfl⟩ := two_opd hx
    exact s_indexSl hI he h1 q2 q1 q3 ho h
  · cases hx
theorem c_index {fid : Nat} {dst : Option Tmp} {t : TypeId} {x i : Operand} (hI : Inv P cfg C σ w) (he : EnvR C env a.tmps) (ho : o.op = .index t x i) (h : op (compOp P cfg fid dst (.index t x i)) env σ = some (v, τ)) : Runs P cfg C σ w (execOp a.eval o) v τ := by
  obtain ⟨p, hx, h⟩ := orBad_some h
  split at hx
  · rename_i h1
    obtain ⟨x', y', q1, q3, rfl⟩ := two_opd hx
    exact s_charAt hI he h1 q1 q3 ho h
  · cases hx
theorem c_lookup {fid : Nat} {dst : Option Tmp} {t : TypeId} {x i : Operand} {ok : Bool} (hI : Inv P cfg C σ w) (he : EnvR C env a.tmps) (ho : o.op = .lookup t x i ok) (h : op (compOp P cfg fid dst (.lookup t x i ok)) env σ = some (v, τ)) : Runs P cfg C σ w (execOp a.eval o) v τ := by
  obtain ⟨p, hx, h⟩ := orBad_some h
  split at hx
  · rename_i k e h1
    obtain ⟨ks, q2, hx⟩ := bind_some hx
    obtain ⟨z, q4, hx⟩ := bind_some hx
    obtain ⟨x', q1, hx⟩ := bind_some hx
    obtain ⟨y', q3, hx⟩ := bind_some hx
    cases hx
    exact s_lookup hI he h1 q2 q4 q1 q3 ho h
  · cases hx
theorem c_mapUpdate {fid : Nat} {dst : Option Tmp} {t : TypeId} {m k x : Operand} (hI : Inv P cfg C σ w) (he : EnvR C env a.tmps) (ho : o.op = .mapUpdate t m k x ∨ o.op = .insert t m k x) (h : op (compOp P cfg fid dst (.mapUpdate t m k x)) env σ = some (v, τ)) : Runs P cfg C σ w (execOp a.eval o) v τ := by
  obtain ⟨p, hx, h⟩ := orBad_some h
  split at hx
  · rename_i kt e h1
    obtain ⟨ks, q2, hx⟩ := bind_some hx
    obtain ⟨m', q1, hx⟩ := bind_some hx
    obtain ⟨k', q3, hx⟩ := bind_some hx
    obtain ⟨x', q4, hx⟩ := bind_some hx
    cases hx
    exact s_mapUpdate hI he h1 q2 q1 q3 q4 ho h
  · cases hx
theorem c_range {fid : Nat} {dst : Option Tmp} {t : TypeId} {x : Operand} (hI : Inv P cfg C σ w) (he : EnvR C env a.tmps) (ho : o.op = .range t x) (h : op (compOp P cfg fid dst (.range t x)) env σ = some (v, τ)) (hf : Fresh C σ.next τ.next) : Runs P cfg C σ w (execOp a.eval o) v τ := by
  obtain ⟨p, hx, h⟩ := orBad_some h
  split at hx
  · rename_i h1
    obtain ⟨x', q1, rfl⟩ := one_opd hx
    exact s_rangeStr hI he h1 q1 ho h hf
  · cases hx

end Go.AM
namespace Go.AM
open Go.RowKit
variable {P : Program} {cfg : Cfg} {C : Ctx} {σ τ : St} {w : World} {env : Env} {a : Act} {o : Oper} {v : AV}

theorem c_builtin {fid : Nat} {dst : Option Tmp} {b : Builtin} {args : Array Operand} {tys : Array TypeId} (hI : Inv P cfg C σ w) (he : EnvR C env a.tmps) (ho : o.op = .call ⟨.builtin b, args, tys⟩)
    (h : op (compOp P cfg fid dst (.call ⟨.builtin b, args, tys⟩)) env σ = some (v, τ)) (hf : Fresh C σ.next τ.next) : Runs P cfg C σ w (execOp a.eval o) v τ := by
  obtain ⟨p, hx, h⟩ := orBad_some h
  split at hx
  · rename_i x t ha hty
    split at hx
    · rename_i hu
      obtain ⟨x', q1, rfl⟩ := one_opd hx
      exact s_lenStr hI he hu q1 ho rfl ha hty h
    · rename_i e hu
      obtain ⟨x', q1, rfl⟩ := one_opd hx
      exact s_lenSl hI he hu q1 ho rfl ha hty h
    · rename_i k e hu
      obtain ⟨ks, q0, hx⟩ := bind_some hx
      obtain ⟨x', q1, rfl⟩ := one_opd hx
      exact s_lenMap hI he hu q1 ho rfl ha hty h
    · cases hx
  · rename_i s x t u ha hty
    split at hx
    · rename_i e e' h1 h2
      obtain ⟨n, q1, hx⟩ := bind_some hx
      obtain ⟨_, q2, hx⟩ := bind_some hx
      obtain ⟨z, q3, hx⟩ := bind_some hx
      obtain ⟨_, q4, hx⟩ := bind_some hx
      obtain ⟨bytes, q5, hx⟩ := bind_some hx
      obtain ⟨s', x', q6, q7, rfl⟩ := two_opd hx
      have q4 := not_dec (ok_some q4)
      exact s_append hI he h1 h2 q1 (not_dec (ok_some q2)) q5 q3 (by simpa using q4) q6 q7 ho rfl ha hty h hf
    · cases hx
  · rename_i x y t u ha hty
    obtain ⟨x', y', q6, q7, rfl⟩ := two_opd hx
    exact s_min hI he q6 q7 ho rfl ha h
  · rename_i m k t u ha hty
    split at hx
    · rename_i kt e h1
      obtain ⟨ks, q0, hx⟩ := bind_some hx
      obtain ⟨m', k', q6, q7, rfl⟩ := two_opd hx
      exact s_delete hI he h1 q0 q6 q7 ho rfl ha hty h
    · cases hx
  · cases hx

theorem c_makeMap {fid : Nat} {dst : Option Tmp} {t : TypeId} {r : Option Operand} (hI : Inv P cfg C σ w) (ho : o.op = .makeMap t r)
    (h : op (compOp P cfg fid dst (.makeMap t r)) env σ = some (v, τ)) (hf : Fresh C σ.next τ.next) : Runs P cfg C σ w (execOp a.eval o) v τ := by
  have key : ∀ (p : AOp), (match P.underlying t with | some (.map k _) => (do pure (.makeMap (← keyT P k))) | _ => none : Option AOp) = some p → op p env σ = some (v, τ) → (r = none ∨ ∃ kk n, r = some (.const (.int kk n))) → Runs P cfg C σ w (execOp a.eval o) v τ := by
    intro p hx h hr
    split at hx
    · rename_i k e h1
      obtain ⟨ks, q0, hx⟩ := bind_some hx
      cases hx
      exact s_makeMap (env := env) hI h1 hr ho h hf
    · cases hx
  cases r with
  | none =>
    obtain ⟨p, hx, h⟩ := orBad_some h
    exact key p hx h (.inl rfl)
  | some r =>
    cases r with
    | const c =>
      cases c with
      | int kk n =>
        obtain ⟨p, hx, h⟩ := orBad_some h
        exact key p hx h (.inr ⟨kk, n, rfl⟩)
      | _ => cases h
    | _ => cases h

/-- An operation that calls nothing does in the machine what it does here. -/
theorem op_sound {fid : Nat} {dst : Option Tmp} (hI : Inv P cfg C σ w) (he : EnvR C env a.tmps) (h : op (compOp P cfg fid dst o.op) env σ = some (v, τ)) (hf : Fresh C σ.next τ.next) : Runs P cfg C σ w (execOp a.eval o) v τ := by
  generalize ho : o.op = q at h
  cases q with
  | move x =>
    obtain ⟨p, hx, h⟩ := orBad_some h
    obtain ⟨y, h1, rfl⟩ := Option.map_eq_some_iff.1 hx
    exact s_move hI he h1 (.inl ho) h
  | assign x =>
    obtain ⟨p, hx, h⟩ := orBad_some h
    obtain ⟨y, h1, rfl⟩ := Option.map_eq_some_iff.1 hx
    exact s_move hI he h1 (.inr ho) h
  | pick c x y =>
    obtain ⟨p, hx, h⟩ := orBad_some h
    obtain ⟨c', q1, hx⟩ := bind_some hx
    obtain ⟨x', y', q2, q3, rfl⟩ := two_opd hx
    exact s_pick hI he q1 q2 q3 ho h
  | alloc t =>
    obtain ⟨p, hx, h⟩ := orBad_some h
    obtain ⟨z, q1, hx⟩ := bind_some hx
    cases hx
    exact s_alloc (env := env) hI q1 ho h hf
  | box t x =>
    obtain ⟨p, hx, h⟩ := orBad_some h
    obtain ⟨x', q1, rfl⟩ := one_opd hx
    exact s_box hI he q1 ho h hf
  | build t ps => exact c_build hI he ho h
  | buildSlice t len ps => exact c_buildSlice hI he ho h hf
  | load t x =>
    obtain ⟨p, hx, h⟩ := orBad_some h
    obtain ⟨n, q1, hx⟩ := bind_some hx
    obtain ⟨x', q2, rfl⟩ := one_opd hx
    exact s_load hI he q1 q2 ho h
  | store t x y =>
    obtain ⟨p, hx, h⟩ := orBad_some h
    obtain ⟨n, q1, hx⟩ := bind_some hx
    obtain ⟨x', y', q2, q3, rfl⟩ := two_opd hx
    exact s_store hI he q1 q2 q3 ho h
  | nilCheck x =>
    obtain ⟨p, hx, h⟩ := orBad_some h
    obtain ⟨x', q1, rfl⟩ := one_opd hx
    exact s_nilCheck hI he q1 ho h
  | binOp op' t x y s => exact c_bin hI he ho h
  | unOp op' t x =>
    obtain ⟨p, hx, h⟩ := orBad_some h
    obtain ⟨x', q1, rfl⟩ := one_opd hx
    exact s_un hI he q1 ho h
  | convert s d x => exact c_convert hI he ho h
  | makeFunc f first caps =>
    obtain ⟨p, hx, h⟩ := orBad_some h
    obtain ⟨_, q0, hx⟩ := bind_some hx
    obtain ⟨fs, q1, hx⟩ := bind_some hx
    obtain ⟨cs, q2, hx⟩ := bind_some hx
    cases hx
    exact s_makeFunc hI he (fun l e => by subst e; exact absurd (ok_some q0) (by simp [notYield])) q1 q2 ho h
  | makeMap t r => exact c_makeMap hI ho h hf
  | makeSlice t x y => exact c_makeSlice hI he ho h hf
  | slice t x lo hi mx =>
    cases mx with
    | none => exact c_slice hI he ho h
    | some _ => cases h
  | fieldAddr t x f => exact c_fieldAddr hI he ho h
  | field t x f => exact c_field hI he ho h
  | indexAddr t x i => exact c_indexAddr hI he ho h
  | index t x i => exact c_index hI he ho h
  | lookup t x i ok => exact c_lookup hI he ho h
  | mapUpdate t m k x => exact c_mapUpdate hI he (.inl ho) h
  | insert t m k x => exact c_mapUpdate (fid := fid) (dst := dst) hI he (.inr ho) h
  | extract x i =>
    obtain ⟨p, hx, h⟩ := orBad_some h
    obtain ⟨x', q1, rfl⟩ := one_opd hx
    exact s_extract hI he q1 ho h
  | range t x => exact c_range hI he ho h hf
  | next x isString =>
    cases isString with
    | true =>
      obtain ⟨p, hx, h⟩ := orBad_some h
      obtain ⟨x', q1, rfl⟩ := one_opd hx
      exact s_nextStr hI he q1 ho h
    | false => cases h
  | call c =>
    obtain ⟨cal, args, tys⟩ := c
    cases cal with
    | builtin b => exact c_builtin hI he ho h hf
    | value f =>
      obtain ⟨p, hx, h⟩ := orBad_some h
      obtain ⟨x', q1, hx⟩ := bind_some hx
      obtain ⟨ys, q2, hx⟩ := bind_some hx
      cases hx; cases h
    | invoke r n => cases h
  | defer c =>
    obtain ⟨cal, args, tys⟩ := c
    cases cal with
    | builtin b => cases h
    | value f =>
      obtain ⟨p, hx, h⟩ := orBad_some h
      obtain ⟨x', q1, hx⟩ := bind_some hx
      obtain ⟨ys, q2, hx⟩ := bind_some hx
      cases hx; cases h
    | invoke r n => cases h
  | _ => cases h

end Go.AM
namespace Go.AM
open Go.RowKit
variable {P : Program} {cfg : Cfg} {C D C0 : Ctx} {σ τ σ0 : St} {w w' w0 : World}

theorem hget_append {ρ l : Heap} (i : Nat) : hget (ρ ++ l) i = match hget ρ i with | some o => some o | none => hget l i := by
  induction ρ with
  | nil => rfl
  | cons p ρ ih =>
    rw [List.cons_append, hget_cons, hget_cons]
    split
    · rfl
    · exact ih

/-- What is done beside other objects. -/
theorem frame {ρ : Heap} {N : Nat} (h : Inv P cfg C ⟨ρ ++ σ.heap, N⟩ w) (e : Ev C σ w D τ w') (hi : Inv P cfg D τ w') (hρ : ∀ p ∈ ρ, τ.next ≤ p.1) (hN : τ.next ≤ N)
    (e0 : Ev C0 σ0 w0 C ⟨ρ ++ σ.heap, N⟩ w) (h0 : σ0.next ≤ σ.next) :
    Inv P cfg D ⟨ρ ++ τ.heap, N⟩ w' ∧ Ev C0 σ0 w0 D ⟨ρ ++ τ.heap, N⟩ w' := by
  have hfall := h.falls
  have fρ : Falls ρ := hfall.sub (List.sublist_append_left _ _)
  have getρ : ∀ {i o}, hget ρ i = some o → St.get ⟨ρ ++ σ.heap, N⟩ i = some o ∧ τ.next ≤ i := fun {i o} hg => by
    refine ⟨?_, hρ _ (hget_mem hg)⟩
    show hget (ρ ++ σ.heap) i = some o
    rw [hget_append, hg]
  have getσ : ∀ {i o}, σ.get i = some o → St.get ⟨ρ ++ σ.heap, N⟩ i = some o := fun {i o} hg => by
    show hget (ρ ++ σ.heap) i = some o
    have hm : (i, o) ∈ ρ ++ σ.heap := List.mem_append_right _ (hget_mem hg)
    exact hget_of_mem hfall hm
  have getτ : ∀ {i o}, St.get ⟨ρ ++ τ.heap, N⟩ i = some o → hget ρ i = some o ∨ (hget ρ i = none ∧ τ.get i = some o) := fun {i o} hg => by
    have hg' : hget (ρ ++ τ.heap) i = some o := hg
    rw [hget_append] at hg'
    cases hr : hget ρ i with
    | some x => rw [hr] at hg'; exact .inl hg'
    | none => rw [hr] at hg'; exact .inr ⟨rfl, hg'⟩
  -- the others' blocks
  have other : ∀ {i o b}, hget ρ i = some o → objB C i o = some b → b < w.heap.size ∧ ¬Owned C σ b := fun {i o b} hg hb => by
    obtain ⟨g1, g2⟩ := getρ hg
    refine ⟨h.ownedLt ⟨i, o, g1, hb⟩, fun ⟨j, o', hj, hbj⟩ => ?_⟩
    have := h.inj i j o o' b g1 (getσ hj) hb hbj
    subst this
    -- 'i' lies in both: the heap's numbers fall
    have hm1 : (i, o) ∈ ρ := hget_mem hg
    have hm2 : (i, o') ∈ σ.heap := hget_mem hj
    have := (List.pairwise_append.1 hfall).2.2 _ hm1 _ hm2
    simp only at this; omega
  have objρ : ∀ {i o}, hget ρ i = some o → ObjR P cfg D w' i o := fun {i o} hg => by
    obtain ⟨g1, g2⟩ := getρ hg
    refine (h.obj i o g1).stable e.le (fun b hb => ?_) (fun g => Classical.byContradiction fun hne => by have := e.tok i g hne; omega)
    obtain ⟨o1, o2⟩ := other hg hb
    exact ⟨e.keep b o1 o2, fun x u => e.seals b x u o1 o2⟩
  have backρ : ∀ {i o b}, hget ρ i = some o → objB D i o = some b → objB C i o = some b := fun hg hb => objB_back e.le (h.obj _ _ (getρ hg).1) hb
  have pinn : Pin cfg D ⟨ρ ++ τ.heap, N⟩ w' := fun p hp => ⟨(hi.pin p hp).1, fun ⟨i, o, hg, hb⟩ => by
    rcases getτ hg with hr | ⟨_, hr⟩
    · exact (h.pin p hp).2 ⟨i, o, (getρ hr).1, backρ hr hb⟩
    · exact (hi.pin p hp).2 ⟨i, o, hr, hb⟩⟩
  refine ⟨⟨⟨hi.lies, ?_, fun i o hg => ?_, fun i o hg => ?_, fun i j o o' b hgi hgj hbi hbj => ?_⟩, pinn⟩, ⟨e0.le.trans e.le, e0.next, Nat.le_trans e0.size e.size, e.os.trans e0.os, e.tape.trans e0.tape, e.output.trans e0.output, fun b hb ho => ?_, fun b hb ⟨i, o, hg, hbo⟩ => ?_, fun b x u hb ho hs => ?_, fun i hne => ?_, fun i g hne => ?_, fun i o hg => ?_⟩⟩
  · refine List.pairwise_append.2 ⟨fρ, hi.falls, fun p hp q hq => ?_⟩
    have h1 := hρ p hp
    have h2 := hi.next q.1 q.2 (hget_of_mem hi.falls hq)
    omega
  · rcases getτ hg with hr | ⟨_, hr⟩
    · exact h.next i o (getρ hr).1
    · exact Nat.lt_of_lt_of_le (hi.next i o hr) hN
  · rcases getτ hg with hr | ⟨_, hr⟩
    · exact objρ hr
    · exact hi.obj i o hr
  · rcases getτ hgi with h1 | ⟨n1, h1⟩ <;> rcases getτ hgj with h2 | ⟨n2, h2⟩
    · exact h.inj i j o o' b (getρ h1).1 (getρ h2).1 (backρ h1 hbi) (backρ h2 hbj)
    · obtain ⟨o1, o2⟩ := other h1 (backρ h1 hbi)
      exact absurd (e.own b o1 ⟨j, o', h2, hbj⟩) o2
    · obtain ⟨o1, o2⟩ := other h2 (backρ h2 hbj)
      exact absurd (e.own b o1 ⟨i, o, h1, hbi⟩) o2
    · exact hi.inj i j o o' b h1 h2 hbi hbj
  · have hb' := Nat.lt_of_lt_of_le hb e0.size
    have hno : ¬Owned C σ b := fun ⟨i, o, hg, hbo⟩ => ho (e0.own b hb ⟨i, o, getσ hg, hbo⟩)
    exact (e.keep b hb' hno).trans (e0.keep b hb ho)
  · have hb' := Nat.lt_of_lt_of_le hb e0.size
    rcases getτ hg with hr | ⟨_, hr⟩
    · exact e0.own b hb ⟨i, o, (getρ hr).1, backρ hr hbo⟩
    · obtain ⟨i', o', hg', hbo'⟩ := e.own b hb' ⟨i, o, hr, hbo⟩
      exact e0.own b hb ⟨i', o', getσ hg', hbo'⟩
  · have hb' := Nat.lt_of_lt_of_le hb e0.size
    have hno : ¬Owned C σ b := fun ⟨i, o, hg, hbo⟩ => ho (e0.own b hb ⟨i, o, getσ hg, hbo⟩)
    exact e0.seals b x u hb ho (e.seals b x u hb' hno hs)
  · by_cases hc : D.κ i = C.κ i
    · exact e0.kap i (fun e' => hne (hc.trans e'))
    · have := e.kap i hc
      exact ⟨by omega, by show i < N; omega⟩
  · by_cases hc : D.T i g = C.T i g
    · exact e0.tok i g (fun e' => hne (hc.trans e'))
    · obtain ⟨h1, h2⟩ := e.tok i g hc
      refine ⟨by show i < N; omega, ?_⟩
      rcases h2 with ⟨o, h2⟩ | h2
      · exact e0.dom i o (getσ h2)
      · right; omega
  · rcases getτ hg with hr | ⟨_, hr⟩
    · exact e0.dom i o (getρ hr).1
    · rcases e.dom i o hr with ⟨o', h2⟩ | h2
      · exact e0.dom i o' (getσ h2)
      · right; omega

end Go.AM
namespace Go.AM
open Go.RowKit
variable {P : Program} {cfg : Cfg} {C D : Ctx} {σ τ : St} {w : World} {env env' : Env} {a : Act} {o : Oper} {v : AV}

/-- A fence that lets everything in; of a round's frames, or of functions'. -/
def FR (r : Option Nat) : Fence := { Fence.wide with round := r }
theorem callsIn_FR {r : Option Nat} {n : Nat} {f : FuncId} {args : Array Value} {R : Ending → World → Prop} (h : Calls P f args w R) : CallsIn (FR r) n P f args w R :=
  (callsIn_wide (n := n)).2 h

inductive DefR (C : Ctx) : ADef → Deferred → Prop
  | call (f : Fn) (hf : ∀ l, f ≠ .yield l) (args caps : List AV) (av cv : Array Value) (ha : VRs C args av) (hc : VRs C caps cv) : DefR C (.call f args caps) { target := .fn f cv, args := av }
  | mark (o b : Nat) (hκ : C.κ o = some (.blk b)) : DefR C (.mark o) { target := .collected b, args := #[] }
theorem DefR.mono (h : C.Le D) {x : ADef} {d : Deferred} (k : DefR C x d) : DefR D x d := by
  cases k with
  | call f hf args caps av cv ha hc => exact .call f hf args caps av cv (ha.mono h) (hc.mono h)
  | mark o b hκ => exact .mark o b (h.κ _ _ hκ)
inductive DefsR (C : Ctx) : List ADef → List Deferred → Prop
  | nil : DefsR C [] []
  | cons {x : ADef} {d : Deferred} {xs : List ADef} {ds : List Deferred} (h : DefR C x d) (t : DefsR C xs ds) : DefsR C (x :: xs) (d :: ds)
theorem DefsR.mono (h : C.Le D) {xs : List ADef} {ds : List Deferred} (k : DefsR C xs ds) : DefsR D xs ds := by
  induction k with
  | nil => exact .nil
  | cons h1 _ ih => exact .cons (h1.mono h) ih

/-- A call has come back. -/
def CRet (P : Program) (cfg : Cfg) (C : Ctx) (σ : St) (w : World) (v : AV) (τ : St) : Ending → World → Prop :=
  fun e w' => ∃ u, e = .returned u ∧ Done C σ w v τ u w' P cfg

/-- What calls of the abstract machine's stand for. -/
structure ClOk (P : Program) (cfg : Cfg) (cl : CallF) : Prop where
  next : ∀ (c : Cal) (args : List AV) (σ : St) (v : AV) (τ : St), cl c args σ = some (v, τ) → σ.next ≤ τ.next
  fn : ∀ (n : Nat) (args : List AV) (σ : St) (v : AV) (τ : St), cl (.fn n) args σ = some (v, τ) → ∀ (C : Ctx) (w : World) (cargs : Array Value), Inv P cfg C σ w → VRs C args cargs → Fresh C σ.next τ.next →
    (callFunc n cargs).run P w = .ok (.enter n cargs) w ∧ Calls P n cargs w (CRet P cfg C σ w v τ)
  dfn : ∀ (n : Nat) (args : List AV) (σ : St) (v : AV) (τ : St), cl (.dfn n) args σ = some (v, τ) → ∀ (C : Ctx) (w : World) (cargs : Array Value), Inv P cfg C σ w → VRs C args cargs → Fresh C σ.next τ.next →
    (callFunc n cargs).run P w = .ok (.enter n cargs) w ∧ ∀ u, CallsDIn (FR none) 0 P n cargs u w fun e u' w' => u' = u ∧ CRet P cfg C σ w v τ e w'
  yield : ∀ (l : Nat) (args : List AV) (σ : St) (v : AV) (τ : St), cl (.yield l) args σ = some (v, τ) → ∀ (C : Ctx) (w : World) (cargs : Array Value) (b : Nat), C.κ l = some (.blk b) → Inv P cfg C σ w → VRs C args cargs → Fresh C σ.next τ.next →
    ∃ f tmps assign body w₁, (Instr.yield b cargs).run P w = .ok (.round b f tmps assign body) w₁ ∧ ∀ r, RoundIn (FR r) 0 P b f tmps assign body w₁ (CRet P cfg C σ w v τ)

theorem VRs.append {l m : List AV} {x y : Array Value} (h : VRs C l x) (k : VRs C m y) : VRs C (l ++ m) (x ++ y) := by
  refine ⟨by simp [h.1, k.1], fun i c v hc hv => ?_⟩
  by_cases hi : i < l.length
  · rw [List.getElem?_append_left hi] at hc
    rw [Array.getElem?_append_left (by rw [← h.1]; exact hi)] at hv
    exact h.2 i c v hc hv
  · rw [List.getElem?_append_right (by omega)] at hc
    rw [Array.getElem?_append_right (by rw [← h.1]; omega)] at hv
    rw [← h.1] at hv
    exact k.2 _ c v hc hv

theorem VRs.evals {args : Array Operand} {ys : List Opd} (h : opds args.toList = some ys) (he : EnvR C env a.tmps) : VRs C (evals env ys) (args.map a.eval) := by
  have := VRs.ofEvals h he
  have e : (args.toList.map a.eval).toArray = args.map a.eval := by apply Array.ext'; simp
  rw [e] at this; exact this

theorem onlyPlain_other {q : Op} {p : AOp} (h1 : ∀ f args tys, q ≠ .call ⟨.value f, args, tys⟩) (h2 : ∀ c, q ≠ .defer c) : onlyPlain q p = if plainA p then p else .bad := by
  unfold onlyPlain
  split
  · rename_i f args tys; exact absurd rfl (h1 _ _ _)
  · rename_i c; exact absurd rfl (h2 c)
  · rfl

theorem act_plain {p : AOp} (hp : plainA p = true) {d : Option Nat} {cl : CallF} {ds ds' : List ADef} (h : act p d cl env ds σ = some (env', ds', τ)) : ∃ v, op p env σ = some (v, τ) ∧ env' = put env d v ∧ ds' = ds := by
  have key : ∀ f : Env → St → Option (AV × St), actOp f d cl env ds σ = some (env', ds', τ) → ∃ v, f env σ = some (v, τ) ∧ env' = put env d v ∧ ds' = ds := by
    intro f hf
    unfold actOp at hf
    cases hr : f env σ with
    | none => rw [hr] at hf; cases hf
    | some r => obtain ⟨v, σ'⟩ := r; rw [hr] at hf; cases hf; exact ⟨v, rfl, rfl, rfl⟩
  cases p <;> first
    | (exact key _ h)
    | (cases h; done)
    | (exact absurd hp (by simp [plainA]))

end Go.AM
namespace Go.AM
open Go.RowKit
variable {P : Program} {cfg : Cfg} {C D : Ctx} {σ τ : St} {w : World} {env env' : Env} {a : Act} {o : Oper} {v : AV} {ds ds' : List ADef} {cl : CallF} {r : Option Nat}

/-- What an operation hands on. -/
def Hands (P : Program) (cfg : Cfg) (C : Ctx) (σ : St) (w : World) (a : Act) (o : Oper) (v : AV) (ds' : List ADef) (τ : St) (K : Act → World → Prop) : Prop :=
  ∀ D u w' defs, Ev C σ w D τ w' → Inv P cfg D τ w' → VR D v u → DefsR D ds' defs → K (Act.put { a with defers := defs } o.dst u) w'

theorem runs_wp {K : Act → World → Prop} {Q : Exit → Act → World → Prop} (hnd : ∀ c, o.op ≠ .defer c) (habout : ∀ f, o.about P w a.eval = some f → (FR r).fn f) (h : Runs P cfg C σ w (execOp a.eval o) v τ) (hd : DefsR C ds a.defers)
    (hK : Hands P cfg C σ w a o v ds τ K) : o.wpIn (FR r) 0 P a w K Q := by
  obtain ⟨nx, w', u, h1, h2, D, hE, hI, hv⟩ := h
  refine ⟨habout, ?_⟩
  rw [show (FR r).round = r from rfl, Oper.semAt_eq r a.eval o hnd, h1]
  have := hK D u w' a.defers hE hI hv (hd.mono hE.le)
  rcases h2 with rfl | ⟨rfl, rfl⟩
  · exact this
  · exact this

theorem fnR_inv {b : AV} {u : Value} (h : VR C b u) {f : Fn} {first caps : List AV} (hf : b.fn? = some (f, first, caps)) :
    (∃ fv cv, u = .func f fv cv ∧ (∀ l, f ≠ .yield l) ∧ VRs C first fv ∧ VRs C caps cv) ∨ ∃ l bb, f = .yield l ∧ first = [] ∧ caps = [] ∧ u = .func (.yield bb) #[] #[] ∧ C.κ l = some (.blk bb) := by
  cases h <;> simp at hf
  · rename_i f' hnf first' caps' fv cv h1 h2 hv1 hv2
    obtain ⟨rfl, rfl, rfl⟩ := hf
    exact .inl ⟨fv, cv, rfl, hnf, ⟨h1, hv1⟩, ⟨h2, hv2⟩⟩
  · rename_i l bb hκ
    obtain ⟨rfl, rfl, rfl⟩ := hf
    exact .inr ⟨l, bb, rfl, rfl, rfl, rfl, hκ⟩

theorem callee_some {b : AV} {as : List AV} {c : Cal} {args : List AV} (h : callee b as = some (c, args)) : ∃ f first caps, b.fn? = some (f, first, caps) ∧ calleeFn f first caps as = some (c, args) := by
  cases b <;> simp only [eq_callee_junk, eq_callee_undef, eq_callee_bool, eq_callee_int, eq_callee_str, eq_callee_nilp, eq_callee_nilm, eq_callee_nilf, eq_callee_nili, eq_callee_agg, eq_callee_tup, eq_callee_slice, eq_callee_hsl, eq_callee_ptr, eq_callee_eptr, eq_callee_map, eq_callee_itr, eq_callee_iface, eq_callee_fn] at h <;> first | (cases h; done) | exact ⟨_, _, _, rfl, h⟩

/-- The call itself: what the value called leads to. -/
theorem call_leads (hcl : ClOk P cfg cl) (hI : Inv P cfg C σ w) {b : AV} {u : Value} (hu : VR C b u) {as : List AV} {av : Array Value} (ha : VRs C as av) {c : Cal} {args : List AV} (hc : callee b as = some (c, args)) (h : cl c args σ = some (v, τ)) (hf : Fresh C σ.next τ.next) :
    ∃ d, (Deferred.ofValue u av).run P w = .ok d w ∧
      ((∃ n cargs, (invoke d.target d.args).run P w = .ok (.enter n cargs) w ∧ Calls P n cargs w (CRet P cfg C σ w v τ)) ∨
       (∃ l f tmps assign body w₁, (invoke d.target d.args).run P w = .ok (.round l f tmps assign body) w₁ ∧ ∀ r, RoundIn (FR r) 0 P l f tmps assign body w₁ (CRet P cfg C σ w v τ))) := by
  obtain ⟨f, first, caps, hfn, hcf⟩ := callee_some hc
  rcases fnR_inv hu hfn with ⟨fv, cv, rfl, hny, v1, v2⟩ | ⟨l, bb, rfl, rfl, rfl, rfl, hκ⟩
  · cases f <;> simp only [calleeFn] at hcf <;> first | (cases hcf; done) | skip
    · rename_i n
      cases hcf
      obtain ⟨k1, k2⟩ := hcl.fn n _ σ v τ h C w _ hI ((v1.append ha).append v2) hf
      exact ⟨{ target := .fn (.func n) cv, args := fv ++ av }, rfl, .inl ⟨n, fv ++ av ++ cv, k1, k2⟩⟩
    · exact absurd rfl (hny _)
  · simp only [calleeFn] at hcf
    cases hcf
    obtain ⟨f, tmps, assign, body, w₁, h1, h2⟩ := hcl.yield l as σ v τ h C w av bb hκ hI ha hf
    refine ⟨{ target := .fn (.yield bb) #[], args := #[] ++ av }, rfl, .inr ⟨bb, f, tmps, assign, body, w₁, ?_, h2⟩⟩
    rw [Array.empty_append]; exact h1

theorem wpIn_call {K : Act → World → Prop} {Q : Exit → Act → World → Prop} (hcl : ClOk P cfg cl) (hI : Inv P cfg C σ w) (he : EnvR C env a.tmps) (hd : DefsR C ds a.defers) {f : Operand} {args : Array Operand} {tys : Array TypeId} {f' : Opd} {ys : List Opd}
    (ho : o.op = .call ⟨.value f, args, tys⟩) (hf : opd f = some f') (hy : opds args.toList = some ys) {c : Cal} {as : List AV} (hc : callee (f'.eval env) (evals env ys) = some (c, as)) (h : cl c as σ = some (v, τ)) (hfr : Fresh C σ.next τ.next)
    (hK : Hands P cfg C σ w a o v ds τ K) : o.wpIn (FR r) 0 P a w K Q := by
  obtain ⟨d, h1, h2⟩ := call_leads hcl hI (opd_VR hf he) (VRs.evals hy he) hc h hfr
  refine ⟨fun _ _ => trivial, ?_⟩
  rw [show (FR r).round = r from rfl, Oper.semAt_eq r a.eval o (fun c => by rw [ho]; simp)]
  have hex : (execOp a.eval o).run P w = (invoke d.target d.args).run P w := by
    unfold execOp; rw [ho]
    simp only [resolve, Sem.run_bind, h1, Result.andThen_ok]
  rw [hex]
  have fin : ∀ e w', CRet P cfg C σ w v τ e w' → (match e with | .returned v => K (a.put o.dst v) w' | .panicked chain => Q (.panic chain) a w' | .outgrown => LetsOut Q) := by
    rintro e w' ⟨u, rfl, D, hE, hI', hv⟩
    exact hK D u w' a.defers hE hI' hv (hd.mono hE.le)
  rcases h2 with ⟨n, cargs, h3, h4⟩ | ⟨l, g, tmps, assign, body, w₁, h3, h4⟩
  · rw [h3, Oper.uponIn_enter]
    refine ⟨fun h => absurd h (by simp [FR, Fence.wide]), (callsIn_FR h4).mono fun e w' he => ?_⟩
    have := fin e w' he
    cases e <;> exact this
  · rw [h3, Oper.uponIn_round]
    refine ⟨fun h => absurd h (by simp [FR, Fence.wide]), (h4 r).mono fun e w' he => ?_⟩
    have := fin e w' he
    cases e <;> exact this

theorem wpIn_defer {K : Act → World → Prop} {Q : Exit → Act → World → Prop} (hr : r = none) (hI : Inv P cfg C σ w) (he : EnvR C env a.tmps) (hd : DefsR C ds a.defers) {f : Operand} {args : Array Operand} {tys : Array TypeId} {f' : Opd} {ys : List Opd}
    (ho : o.op = .defer ⟨.value f, args, tys⟩) (hf : opd f = some f') (hy : opds args.toList = some ys) {g : Fn} {first caps : List AV} (hg : (f'.eval env).fn? = some (g, first, caps)) (hny : ∀ l, g ≠ .yield l)
    (hK : Hands P cfg C σ w a o .undef (.call g (first ++ evals env ys) caps :: ds) σ K) : o.wpIn (FR r) 0 P a w K Q := by
  subst hr
  refine ⟨fun _ _ => trivial, ?_⟩
  rw [show (FR none).round = none from rfl, Oper.semAt_none]
  rcases fnR_inv (opd_VR hf he) hg with ⟨fv, cv, e1, _, v1, v2⟩ | ⟨l, bb, rfl, _⟩
  · have hex : (execOp a.eval o).run P w = .ok (.defer { target := .fn g cv, args := fv ++ args.map a.eval }) w := by
      unfold execOp; rw [ho]
      simp only [resolve, e1, Deferred.ofValue, Sem.run_bind, Sem.run_pure, Result.andThen_ok]
    rw [hex, Oper.uponIn_defer]
    exact hK C undef w _ (.refl _ _ _) hI .undef (.cons (.call g hny _ _ _ _ (v1.append (VRs.evals hy he)) v2) hd)
  · exact absurd rfl (hny l)

/-- An operation that is carried out. -/
theorem act_sound {fid : Nat} {d : Option Nat} (hcl : ClOk P cfg cl) (hI : Inv P cfg C σ w) (he : EnvR C env a.tmps) (hd : DefsR C ds a.defers)
    (h : act (onlyPlain o.op (compOp P cfg fid o.dst o.op)) d cl env ds σ = some (env', ds', τ)) (hf : Fresh C σ.next τ.next) (hr : r = none ∨ ds' = ds) :
    ∃ v, env' = put env d v ∧ ∀ K Q, Hands P cfg C σ w a o v ds' τ K → o.wpIn (FR r) 0 P a w K Q := by
  by_cases h1 : ∃ f args tys, o.op = .call ⟨.value f, args, tys⟩
  · obtain ⟨f, args, tys, ho⟩ := h1
    rw [ho] at h
    have h' : act (compOp P cfg fid o.dst (.call ⟨.value f, args, tys⟩)) d cl env ds σ = some (env', ds', τ) := h
    have hb : ∀ x : Option AOp, act (orBad x) d cl env ds σ = some (env', ds', τ) → ∃ p, x = some p ∧ act p d cl env ds σ = some (env', ds', τ) := by
      intro x hx
      cases x with
      | none => cases hx
      | some p => exact ⟨p, rfl, hx⟩
    obtain ⟨p, hx, h'⟩ := hb _ h'
    obtain ⟨f', q1, hx⟩ := bind_some hx
    obtain ⟨ys, q2, hx⟩ := bind_some hx
    cases hx
    have h'' : actCall f' ys d cl env ds σ = some (env', ds', τ) := h'
    unfold actCall at h''
    cases hc : callee (f'.eval env) (evals env ys) with
    | none => rw [hc] at h''; cases h''
    | some q =>
      obtain ⟨c, as⟩ := q
      rw [hc] at h''; simp only at h''
      cases hcv : cl c as σ with
      | none => rw [hcv] at h''; cases h''
      | some q =>
        obtain ⟨v, σ'⟩ := q
        rw [hcv] at h''; cases h''
        exact ⟨v, rfl, fun K Q hK => wpIn_call hcl hI he hd ho q1 q2 hc hcv hf hK⟩
  · by_cases h2 : ∃ c, o.op = .defer c
    · obtain ⟨c, ho⟩ := h2
      obtain ⟨cal, args, tys⟩ := c
      rw [ho] at h
      cases cal with
      | builtin b => cases h
      | invoke r n => cases h
      | value f =>
        have h' : act (compOp P cfg fid o.dst (.defer ⟨.value f, args, tys⟩)) d cl env ds σ = some (env', ds', τ) := h
        have hb : ∀ x : Option AOp, act (orBad x) d cl env ds σ = some (env', ds', τ) → ∃ p, x = some p ∧ act p d cl env ds σ = some (env', ds', τ) := by
          intro x hx
          cases x with
          | none => cases hx
          | some p => exact ⟨p, rfl, hx⟩
        obtain ⟨p, hx, h'⟩ := hb _ h'
        obtain ⟨f', q1, hx⟩ := bind_some hx
        obtain ⟨ys, q2, hx⟩ := bind_some hx
        cases hx
        have h'' : actDefer f' ys d cl env ds σ = some (env', ds', τ) := h'
        unfold actDefer at h''
        cases hc : (f'.eval env).fn? with
        | none => rw [hc] at h''; cases h''
        | some q =>
          obtain ⟨g, first, caps⟩ := q
          rw [hc] at h''; simp only at h''
          cases hok : defOk g with
          | false => rw [hok] at h''; cases h''
          | true =>
          rw [hok] at h''; cases h''
          have hr' : r = none := by
            rcases hr with h | h
            · exact h
            · have := congrArg List.length h; simp at this
          exact ⟨.undef, rfl, fun K Q hK => wpIn_defer hr' hI he hd ho q1 q2 hc (fun l e => by subst e; simp [defOk] at hok) hK⟩
    · have hp := onlyPlain_other (q := o.op) (p := compOp P cfg fid o.dst o.op) (fun f args tys e => h1 ⟨f, args, tys, e⟩) (fun c e => h2 ⟨c, e⟩)
      rw [hp] at h
      split at h
      · rename_i hpl
        obtain ⟨v, q1, q2, rfl⟩ := act_plain hpl h
        exact ⟨v, q2, fun K Q hK => runs_wp (fun c e => h2 ⟨c, e⟩) (fun _ _ => trivial) (op_sound hI he q1 hf) hd hK⟩
      · cases h

end Go.AM
