/- A part of the proof of: EmitBecomes: what a term becomes by patterns, and a pattern's name, is what the document says, or the error is told. -/
import Derived.Test.YtkopdkjpmccbmaaGreatDoorM36
import Derived.Test.YtkopdkjpmccbmaaGreatDoorM24
import Derived.Test.YtkopdkjpmccbmaaGreatDoorM25
namespace Go.AM
variable {T : Tab}
open Classical
mutual
def Tm.beq : Tm → Tm → Bool
  | .mk k s n l, .mk k' s' n' l' => decide (k = k') && decide (n = n') && decide (s = s') && Tm.beqs l l'
def Tm.beqs : List Tm → List Tm → Bool
  | [], [] => true
  | a :: l, b :: m => Tm.beq a b && Tm.beqs l m
  | _, _ => false
end
theorem beqs_len {l m : List Tm} (h : l.length ≠ m.length) : Tm.beqs l m = false := by
  induction l generalizing m with
  | nil => cases m with
    | nil => exact absurd rfl h
    | cons b m => rw [Tm.beqs]; simp; simp
  | cons a l ih => cases m with
    | nil => rw [Tm.beqs]; simp; simp
    | cons b m => rw [Tm.beqs, ih (by simpa using h)]; simp
theorem beq_eq (a : Tm) : ∀ b, Tm.beq a b = true ↔ a = b := by
  refine Tm.ind (M := fun a => ∀ b, Tm.beq a b = true ↔ a = b) (fun k s n l ih b => ?_) a
  obtain ⟨k', s', n', l'⟩ := b
  have : ∀ (l : List Tm), (∀ x ∈ l, ∀ b, Tm.beq x b = true ↔ x = b) → ∀ l', Tm.beqs l l' = true ↔ l = l' := by
    intro l
    induction l with
    | nil => intro _ l'; cases l' with
      | nil => simp [Tm.beqs]
      | cons b m => rw [Tm.beqs] <;> simp
    | cons a l ihl =>
      intro ih l'
      cases l' with
      | nil => rw [Tm.beqs] <;> simp
      | cons b m =>
        rw [Tm.beqs, Bool.and_eq_true, ih a (by simp), ihl (fun x hx => ih x (by simp [hx]))]
        simp
  rw [Tm.beq]
  simp only [Bool.and_eq_true, decide_eq_true_eq, this l ih]
  constructor
  · rintro ⟨⟨⟨rfl, rfl⟩, rfl⟩, rfl⟩; rfl
  · intro h; cases h; simp

theorem same_spec (hm : PrimMono T) (h31 : Has T 12 a12) (t : Tm) (wf : t.Wf) : ∀ (u : Tm) (h : Heap) (m : Nat) (_hl : Low h m), Spec T (.fn 12) [t.av, u.av] ⟨h, m⟩ (Ret h m (.bool (t.beq u))) := by
  refine Tm.ind (M := fun t => t.Wf → ∀ (u : Tm) (h : Heap) (m : Nat) (hl : Low h m), Spec T (.fn 12) [t.av, u.av] ⟨h, m⟩ (Ret h m (.bool (t.beq u)))) (fun k s n l ih wf u h m hl => ?_) t wf
  obtain ⟨_, _, hsl, hll, hwf⟩ := wf
  obtain ⟨k', s', n', l'⟩ := u
  refine spec_fn hm h31.prim h31.func rfl ?_
  rw [Tm.beq]
  by_cases c1 : k = k'
  rotate_left
  · simp (disch := omega) [a12, c1, Ret, hl.gc]; try omega
  by_cases c2 : n = n'
  rotate_left
  · simp (disch := omega) [a12, c1, c2, Ret, hl.gc]; try omega
  by_cases c3 : s = s'
  rotate_left
  · simp (disch := omega) [a12, c1, c2, c3, Ret, hl.gc]; try omega
  by_cases c4 : l.length = l'.length
  rotate_left
  · have c4' : ¬ (l.length : Int) = l'.length := by omega
    simp (disch := omega) [a12, c1, c2, c3, c4', beqs_len c4, Ret, hl.gc]; try omega
  subst c1 c2 c3
  simp (disch := omega) [a12, c4]
  let I : Nat → Env → List ADef → St → Prop := fun q env ds σ => ds = [] ∧ ∃ (i m' : Nat), i ≤ l.length ∧ q = l.length - i ∧ m + 1 < m' ∧
    σ = ⟨(m + 1, .cells [.int .i64 k, .str s, .int .i64 n, .slice (Tm.avs l') .none]) :: (m, .cells [.int .i64 k, .str s, .int .i64 n, .slice (Tm.avs l) .none]) :: h, m'⟩ ∧ aget env 2 = .ptr m 0 ∧ aget env 3 = .ptr (m + 1) 0 ∧ aget env 5 = .int .i64 i ∧
    Tm.beqs (l.drop i) (l'.drop i) = Tm.beqs l l'
  refine run_loop hm I ?_ l.length ?_
  · rintro q env ds σ ⟨rfl, i, m', hi, rfl, hmm, rfl, e2, e3, e5, hf⟩
    by_cases d1 : i < l.length
    · have d1' : i < l'.length := by omega
      rw [List.drop_eq_getElem_cons d1, List.drop_eq_getElem_cons d1', Tm.beqs] at hf
      simp (disch := omega) [q_call hm, e2, e3, e5, d1', c4]
      refine CallD.ret (ih _ (List.getElem_mem d1) (hwf _ (List.getElem_mem d1)) _ _ _ ((hl.cons (n := m + 1) (by omega)).cons hmm)) (fun m2 hm2 => ?_)
      cases d2 : l[i].beq l'[i] with
      | true =>
        simp (disch := omega) [e5, unV, checkLog]
        exact ⟨l.length - (i + 1), by omega, rfl, i + 1, m2, by omega, rfl, by omega, rfl, by simp [e2], by simp [e3], by simp, by rw [← hf]; simp [d2]⟩
      | false =>
        have hno : Tm.beqs l l' = false := by rw [← hf]; simp [d2]
        simp (disch := omega) [unV, checkLog, Ret, hl.gc, hno]
        omega
    · have hfa : Tm.beqs l l' = true := by rw [← hf, List.drop_eq_nil_of_le (by omega), List.drop_eq_nil_of_le (by omega)]; rfl
      have d1' : ¬ i < l'.length := by omega
      simp (disch := omega) [e2, e5, d1', c4, Ret, hl.gc, hfa]
      omega
  · exact ⟨rfl, 0, m + 1 + 1, by simp, by simp [c4], by omega, rfl, by simp, by simp, by simp, by simp⟩
end Go.AM
