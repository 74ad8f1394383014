/- A part of the proof of: EmitBecomes: what a term becomes by patterns, and a pattern's name, is what the document says, or the error is told. -/
import Derived.Test.YtkopdkjpmccbmaaGreatDoorM36
import Derived.Test.YtkopdkjpmccbmaaGreatDoorM24
import Derived.Test.YtkopdkjpmccbmaaGreatDoorM25
namespace Go.AM
mutual
def Tm.few : Tm → Int → Int → Int
  | .mk _ s _ l, most, deep => if most - 1 < 0 ∨ deep < 1 ∨ (100 : Int) < s.length then -1 else Tm.fews l (most - 1) (deep - 1)
def Tm.fews : List Tm → Int → Int → Int
  | [], most, _ => most
  | t :: l, most, deep => if most < 0 then most else Tm.fews l (t.few most deep) deep
end
theorem few_le (t : Tm) : ∀ most deep, -1 ≤ most → -1 ≤ t.few most deep ∧ t.few most deep ≤ most := by
  refine Tm.ind (M := fun t => ∀ most deep, -1 ≤ most → -1 ≤ t.few most deep ∧ t.few most deep ≤ most) (fun k s n l ih most deep h => ?_) t
  rw [Tm.few]
  split
  · omega
  · rename_i c
    have : ∀ (l : List Tm), (∀ x ∈ l, ∀ most deep, -1 ≤ most → -1 ≤ x.few most deep ∧ x.few most deep ≤ most) → ∀ most deep, -1 ≤ most → -1 ≤ Tm.fews l most deep ∧ Tm.fews l most deep ≤ most := by
      intro l
      induction l with
      | nil => intro _ most deep h; rw [Tm.fews]; omega
      | cons t l ihl =>
        intro ih most deep h
        rw [Tm.fews]
        split
        · omega
        · have h1 := ih t (by simp) most deep h
          have h2 := ihl (fun x hx => ih x (by simp [hx])) _ deep h1.1
          omega
    have := this l ih (most - 1) (deep - 1) (by omega)
    omega

theorem few_spec {T : Tab} (hm : PrimMono T) (h40 : Has T 19 a19) (t : Tm) (wf : t.Wf) : ∀ (most deep : Int) (h : Heap) (m : Nat) (_hl : Low h m) (_h1 : -1 ≤ most ∧ most ≤ 4000) (_h2 : 0 ≤ deep ∧ deep ≤ 200), Spec T (.fn 19) [t.av, .int .i64 most, .int .i64 deep] ⟨h, m⟩ (Ret h m (.int .i64 (t.few most deep))) := by
  refine Tm.ind (M := fun t => t.Wf → ∀ (most deep : Int) (h : Heap) (m : Nat) (hl : Low h m) (h1 : -1 ≤ most ∧ most ≤ 4000) (h2 : 0 ≤ deep ∧ deep ≤ 200), Spec T (.fn 19) [t.av, .int .i64 most, .int .i64 deep] ⟨h, m⟩ (Ret h m (.int .i64 (t.few most deep)))) (fun k s n l ih wf most deep h m hl h1 h2 => ?_) t wf
  obtain ⟨_, _, hsl, hll, hwf⟩ := wf
  refine spec_fn hm h40.prim h40.func rfl ?_
  rw [Tm.few]
  by_cases c : most - 1 < 0 ∨ deep < 1 ∨ (100 : Int) < s.length
  · rw [if_pos c]
    by_cases c1 : most - 1 < 0
    · simp (disch := omega) [a19, c1, Ret, hl.gc]
    · by_cases c2 : deep < 1
      · simp (disch := omega) [a19, c1, c2, Ret, hl.gc]
      · have c3 : (100 : Int) < s.length := by omega
        simp (disch := omega) [a19, c1, c2, c3, Ret, hl.gc]
  · rw [if_neg c]
    have c1 : ¬ most - 1 < 0 := by omega
    have c2 : ¬ deep < 1 := by omega
    have c3 : ¬ (100 : Int) < s.length := by omega
    simp (disch := omega) only [a19]
    simp (disch := omega) [c1, c2, c3]
    let I : Nat → Env → List ADef → St → Prop := fun q env ds σ => ds = [] ∧ ∃ (i : Nat) (most' : Int) (m' : Nat), i ≤ l.length ∧ q = l.length - i ∧ m < m' ∧
      σ = ⟨(m, .cells [.int .i64 k, .str s, .int .i64 n, .slice (Tm.avs l) .none]) :: h, m'⟩ ∧ aget env 1 = .int .i64 most' ∧ aget env 2 = .int .i64 deep ∧ aget env 3 = .ptr m 0 ∧ aget env 7 = .int .i64 i ∧
      -1 ≤ most' ∧ most' ≤ 4000 ∧ Tm.fews (l.drop i) most' (deep - 1) = Tm.fews l (most - 1) (deep - 1)
    refine run_loop hm I ?_ l.length ?_
    · rintro q env ds σ ⟨rfl, i, most', m', hi, rfl, hmm, rfl, e1, e2, e3, e7, b1, b2, hf⟩
      by_cases d1 : i < l.length
      · rw [List.drop_eq_getElem_cons d1, Tm.fews] at hf
        by_cases d2 : most' < 0
        · rw [if_pos d2] at hf
          rw [← hf]
          simp (disch := omega) [e1, e3, e7, d1, d2, Ret, hl.gc]
          omega
        · rw [if_neg d2] at hf
          simp (disch := omega) [r_call hm, e1, e2, e3, e7, d1, d2]
          have hb := few_le l[i] most' (deep - 1) b1
          refine CallK.ret (ih _ (List.getElem_mem d1) (hwf _ (List.getElem_mem d1)) _ _ _ _ (hl.cons hmm) (by omega) (by omega)) (fun m2 hm2 => ?_)
          simp (disch := omega) [e7, wrapK_id]
          exact ⟨l.length - (i + 1), by omega, rfl, i + 1, _, m2, by omega, rfl, by omega, rfl, by simp, by simp [e2], by simp [e3], by simp, hb.1, by omega, hf⟩
      · rw [List.drop_eq_nil_of_le (by omega), Tm.fews] at hf
        simp (disch := omega) [e1, e3, e7, d1, Ret, hl.gc, hf]
        omega
    · exact ⟨rfl, 0, most - 1, m + 1, by simp, by simp, by omega, rfl, by simp, by simp, by simp, by simp, by omega, by omega, by simp⟩
end Go.AM
