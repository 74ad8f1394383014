/- A part of the proof of: PlanPatterns: a pattern of a Call, and which of some patterns covers it, is what the document says, or the error is told. -/
import Derived.Test.YtadgboblgclfgaaGreatDoorM41
import Derived.Test.YtadgboblgclfgaaGreatDoorM37
import Derived.Test.YtadgboblgclfgaaGreatDoorM20
import Derived.Test.YtadgboblgclfgaaGreatDoorM21
namespace Go.AM
variable {T : Tab}
open Classical

def nameOk (s : List UInt8) : Prop := chars s ∧ (1 : Int) ≤ s.length ∧ (s.length : Int) ≤ 20
theorem named_spec (hm : PrimMono T) (h144 : Has T 144 a144) (s : List UInt8) (hsl : s.length ≤ 9223372036854775807) (h : Heap) (m : Nat) (hl : Low h m) : Spec T (.fn 144) [.str s] ⟨h, m⟩ (Ret h m (.bool (decide (nameOk s)))) := by
  refine spec_fn hm h144.prim h144.func rfl ?_
  simp (disch := omega) [a144]
  let I : Nat → Env → List ADef → St → Prop := fun q env ds σ => ds = [] ∧ ∃ (i : Nat), i ≤ s.length ∧ q = s.length - i ∧
    σ = ⟨h, m⟩ ∧ aget env 0 = .str s ∧ aget env 5 = .int .i64 s.length ∧ aget env 6 = .int .i64 i ∧ (chars (s.drop i) ↔ chars s)
  refine run_loop hm I ?_ s.length ?_
  · rintro q env ds σ ⟨rfl, i, hi, rfl, rfl, e0, e5, e6, hf⟩
    by_cases d1 : i < s.length
    · rw [List.drop_eq_getElem_cons d1] at hf
      by_cases d2 : (s[i].toNat : Int) < 32
      · have hno : ¬ chars s := by
          rw [← hf]; intro hc; have := (hc s[i] List.mem_cons_self).1; omega
        simp (disch := omega) [e0, e5, e6, d1, d2, Ret, hl.gc, nameOk, hno]
      · by_cases d3 : 126 < (s[i].toNat : Int)
        · have hno : ¬ chars s := by
            rw [← hf]; intro hc; have := (hc s[i] List.mem_cons_self).2; omega
          simp (disch := omega) [e0, e5, e6, d1, d2, d3, Ret, hl.gc, nameOk, hno]
        · simp (disch := omega) [e0, e5, e6, d1, d2, d3]
          refine ⟨s.length - (i + 1), by omega, rfl, i + 1, by omega, rfl, rfl, by simp [e0], by simp [e5], by simp, ?_⟩
          rw [← hf]; exact ⟨fun hc b hb => by cases hb with | head => omega | tail _ hb => exact hc b hb, fun hc b hb => hc b (List.mem_cons_of_mem _ hb)⟩
    · have hch : chars s := by rw [← hf, List.drop_eq_nil_of_le (by omega)]; intro b hb; cases hb
      by_cases d2 : (s.length : Int) < 1
      · simp (disch := omega) [e0, e5, e6, d1, d2, Ret, hl.gc, nameOk, hch]
        omega
      · by_cases d3 : (20 : Int) < s.length
        · simp (disch := omega) [e0, e5, e6, d1, d2, d3, Ret, hl.gc, nameOk, hch]
          try omega
        · simp (disch := omega) [e0, e5, e6, d1, d2, d3, Ret, hl.gc, nameOk, hch]
          omega
  · exact ⟨rfl, 0, by simp, by simp, rfl, by simp, by simp, by simp, by simp⟩

/-- A term's own fields may be. -/
def ownP : Tm → Prop
  | .mk k s n l => if k = 1 then 0 ≤ n ∧ n < 1000000 ∧ s = [] ∧ l = [] else if k = 2 then s = [] ∧ l = [] else k = 3 ∧ n = 0 ∧ nameOk s ∧ (l.length : Int) ≤ 8
theorem own_spec (hm : PrimMono T) (h96 : Has T 96 a96) (h144 : Has T 144 a144) (t : Tm) (wf : t.Wf) (h : Heap) (m : Nat) (hl : Low h m) : Spec T (.fn 96) [t.av] ⟨h, m⟩ (Ret h m (.bool (decide (ownP t)))) := by
  refine spec_fn hm h96.prim h96.func rfl ?_
  obtain ⟨k, s, n, l⟩ := t
  obtain ⟨_, _, hsl, hll, hwf⟩ := wf
  by_cases k1 : k = 1
  · subst k1
    by_cases c1 : n < 0
    · simp (disch := omega) [a96, c1, Ret, hl.gc, ownP]; try omega
    by_cases c2 : n < 1000000
    rotate_left
    · simp (disch := omega) [a96, c1, c2, Ret, hl.gc, ownP]; try omega
    by_cases c3 : s = []
    rotate_left
    · simp (disch := omega) [a96, c1, c2, c3, Ret, hl.gc, ownP]; try omega
    by_cases c4 : l = []
    rotate_left
    · simp (disch := omega) [a96, c1, c2, c3, c4, Ret, hl.gc, ownP]; try omega
    simp (disch := omega) [a96, c1, c2, c3, c4, Ret, hl.gc, ownP]; try omega
  by_cases k2 : k = 2
  · subst k2
    by_cases c3 : s = []
    rotate_left
    · simp (disch := omega) [a96, c3, Ret, hl.gc, ownP]; try omega
    by_cases c4 : l = []
    rotate_left
    · simp (disch := omega) [a96, c3, c4, Ret, hl.gc, ownP]; try omega
    simp (disch := omega) [a96, c3, c4, Ret, hl.gc, ownP]; try omega
  by_cases k3 : k = 3
  rotate_left
  · simp (disch := omega) [a96, k1, k2, k3, Ret, hl.gc, ownP]; try omega
  subst k3
  by_cases c1 : n = 0
  rotate_left
  · simp (disch := omega) [a96, c1, Ret, hl.gc, ownP]; try omega
  simp (disch := omega) [a96, r_call hm, c1]
  refine CallK.ret (named_spec hm h144 s hsl _ _ (hl.cons (Nat.lt_succ_self m))) (fun m2 hm2 => ?_)
  by_cases c2 : nameOk s
  rotate_left
  · simp (disch := omega) [c2, Ret, hl.gc, ownP]; try omega
  by_cases c3 : (8 : Int) < l.length
  · simp (disch := omega) [c2, c3, Ret, hl.gc, ownP]; try omega
  · simp (disch := omega) [c2, c3, Ret, hl.gc, ownP]; try omega
end Go.AM
namespace Go.AM
variable {T : Tab} {α β : Type}

def Ex.ofJump : Jump → Ex | .ret => .ret | .exit i => .exit i
theorem jump_of (j : Jump) : Ex.jump (Ex.ofJump j) = some j := by cases j <;> rfl
theorem ex_of (j : Jump) : Jump.ex (some j) = Ex.ofJump j := by cases j <;> rfl
/-- A loop's object: it goes on, or has been left. -/
def lob (tm : Env) (ps : List Nat) (as body : ACode) (j : Jump) (c : Bool) : AObj := match c with
  | true => .loop .ready none tm ps as body
  | false => .loop .done (some j) tm ps as body
def Post (l m : Nat) (h : Heap) (o : Bool → AObj) (Q : Bool → α → List (Nat × AObj) → Prop) (r : Bool × α) (n : Nat) (H : Heap) : AV → St → Prop := fun v τ => v = .bool r.1 ∧ n ≤ τ.next ∧ Wd l m h (o r.1) (Q r.1 r.2) τ ∧ Kp l H τ.heap
def StepOk (T : Tab) (l m : Nat) (h : Heap) (o : Bool → AObj) (Q : Bool → α → List (Nat × AObj) → Prop) (R : α → β → Bool × α) (args : β → List AV) (ok : α → β → Prop) : Prop :=
  ∀ a x H n, ok a x → Wd l m h (o true) (Q true a) ⟨H, n⟩ → Spec T (.yield l) (args x) ⟨H, n⟩ (Post l m h o Q (R a x) n H)

theorem Wd.setl {l m : Nat} {h : Heap} {o o' : AObj} {Q} {τ : St} (w : Wd l m h o Q τ) (hl : Low h m) (hml : m ≤ l) : Wd l m h o' Q (τ.set l o') :=
  ⟨w.over.set hl hml, w.low.set, w.lt, by show hget (hset τ.heap l o') l = _; have h0 : hget τ.heap l = _ := w.obj; rw [hget_set, if_pos rfl, h0]; rfl, by obtain ⟨F, g, f, q⟩ := w.known; exact ⟨F, g, f.set fun p hp => (g p hp).1, q⟩⟩

theorem step_ok (hm : PrimMono T) {l m : Nat} {h : Heap} {tm : Env} {ps : List Nat} {as body : ACode} {j : Jump} {Q : Bool → α → List (Nat × AObj) → Prop} {R : α → β → Bool × α} {args : β → List AV} {ok : α → β → Prop} (hl : Low h m) (hml : m ≤ l)
    (hlen : ∀ x, (args x).length = ps.length)
    (H0 : ∀ a x H n, ok a x → Wd l m h (.loop .ready none tm ps as body) (Q true a) ⟨H, n⟩ → Run T [.code as] .normal (putAll tm ps (args x)) [] ⟨H, n⟩ fun ex env ds σ => ex = .normal ∧ hget σ.heap l = some (.loop .ready none tm ps as body) ∧
      Run T [.code body] .normal env ds (σ.set l (.loop .busy none tm ps as body)) fun ex _ ds σ => ds = [] ∧ ((R a x).1 = true ∧ ex = .normal ∨ (R a x).1 = false ∧ ex = Ex.ofJump j) ∧ n ≤ σ.next ∧ Wd l m h (.loop .busy none tm ps as body) (Q (R a x).1 (R a x).2) σ ∧ Kp l H σ.heap) :
    StepOk T l m h (lob tm ps as body j) Q R args ok := by
  intro a x H n hx w
  refine spec_yield hm w.obj (hlen x) ?_
  obtain ⟨f1, x1, e1, d1, s1, h1, h2, h3, f2, x2, e2, d2, s2, h4, h5, h6, h7, h8, h9⟩ := H0 a x H n hx w
  refine ⟨f1, x1, e1, d1, s1, h1, h2, h3, f2, x2, e2, d2, s2, h4, h5, h8.obj, ?_⟩
  rcases h6 with ⟨h6, rfl⟩ | ⟨h6, rfl⟩
  · refine ⟨by rw [h6]; rfl, h7, ?_, h9.set (Nat.le_refl l)⟩
    rw [h6] at h8 ⊢; exact h8.setl hl hml
  · refine ⟨by rw [h6, jump_of]; rfl, h7, ?_, h9.set (Nat.le_refl l)⟩
    rw [h6] at h8; rw [h6, jump_of]; exact h8.setl hl hml

/-! ### All of a term -/
mutual
def walkF (R : α → Int × Tm → Bool × α) : Int → Tm → α → Bool × α
  | d, .mk k s n l, a => if (R a (d, .mk k s n l)).1 then walkFs R (d + 1) l (R a (d, .mk k s n l)).2 else (false, (R a (d, .mk k s n l)).2)
def walkFs (R : α → Int × Tm → Bool × α) : Int → List Tm → α → Bool × α
  | _, [], a => (true, a)
  | d, t :: l, a => if (walkF R d t a).1 then walkFs R d l (walkF R d t a).2 else (false, (walkF R d t a).2)
end
mutual
/-- All along a walk something holds. -/
def okW (R : α → Int × Tm → Bool × α) (ok : α → Int × Tm → Prop) : Int → Tm → α → Prop
  | d, .mk k s n l, a => ok a (d, .mk k s n l) ∧ ((R a (d, .mk k s n l)).1 = true → okWs R ok (d + 1) l (R a (d, .mk k s n l)).2)
def okWs (R : α → Int × Tm → Bool × α) (ok : α → Int × Tm → Prop) : Int → List Tm → α → Prop
  | _, [], _ => True
  | d, t :: l, a => okW R ok d t a ∧ ((walkF R d t a).1 = true → okWs R ok d l (walkF R d t a).2)
end
def itm (x : Int × Tm) : List AV := [.int .i64 x.1, x.2.av]
def itmOk (x : Int × Tm) : Prop := x.2.Wf ∧ x.2.size ≤ 4000 ∧ 0 ≤ x.1 ∧ x.1 ≤ 8000

theorem Kp.gc1 {l n : Nat} {H H' : Heap} {o : AObj} (hL : Low H n) (a : Kp l ((n, o) :: H) H') : Kp l H (hgc1 H' n) := fun j c hj h => by
  have h1 := hL.lt h
  exact hgc1_keep (a j c hj (by rw [hget_ne _ _ (by omega)]; exact h)) (.inl h1)

theorem CallV.intro {T : Tab} {fv : AV} {as : List AV} {σ : St} {d : Option Nat} {l : List AOper} {ks : List K} {env : Env} {ds : List ADef} {Q : Ex → Env → List ADef → St → Prop} {c : Cal} {as' : List AV} {P : AV → St → Prop} (hc : callee fv as = some (c, as')) (hs : Spec T c as' σ P) (k : ∀ v τ, P v τ → Run T (.ops l :: ks) .normal (put env d v) ds τ Q) : CallV T fv as σ d l ks env ds Q := ⟨c, as', P, hc, hs, k⟩

variable {l m : Nat} {h : Heap} {o : Bool → AObj} {Q : Bool → α → List (Nat × AObj) → Prop} {R : α → Int × Tm → Bool × α} {ok : α → Int × Tm → Prop}

theorem okW_itm (t : Tm) : ∀ (d : Int) (a : α), t.Wf → t.size ≤ 4000 → 0 ≤ d → d + t.size ≤ 8000 → okW R (fun _ x => itmOk x) d t a := by
  refine Tm.ind (M := fun t => ∀ (d : Int) (a : α), t.Wf → t.size ≤ 4000 → 0 ≤ d → d + t.size ≤ 8000 → okW R (fun _ x => itmOk x) d t a) (fun k s n l ih d a wf hs hd0 hd => ?_) t
  have hp := size_pos (.mk k s n l)
  rw [okW]
  refine ⟨⟨wf, hs, hd0, by show d ≤ 8000; omega⟩, fun _ => ?_⟩
  rw [Tm.size] at hs hd
  have hwf := Wf.args wf
  have : ∀ (l : List Tm), (∀ x ∈ l, ∀ (d : Int) (a : α), x.Wf → x.size ≤ 4000 → 0 ≤ d → d + x.size ≤ 8000 → okW R (fun _ x => itmOk x) d x a) → (∀ x ∈ l, x.Wf) → ∀ (d : Int) (a : α), Tm.sizes l ≤ 4000 → 0 ≤ d → d + Tm.sizes l ≤ 8000 → okWs R (fun _ x => itmOk x) d l a := by
    intro l
    induction l with
    | nil => intro _ _ d a _ _ _; rw [okWs]; trivial
    | cons t l ihl =>
      intro ih hwf d a hs hd0 hd
      rw [Tm.sizes] at hs hd
      rw [okWs]
      exact ⟨ih t (by simp) d a (hwf t (by simp)) (by omega) hd0 (by omega), fun _ => ihl (fun x hx => ih x (by simp [hx])) (fun x hx => hwf x (by simp [hx])) d _ (by omega) hd0 (by omega)⟩
  exact this l ih hwf (d + 1) _ (by omega) (by omega) (by omega)

theorem all1_spec (hm : PrimMono T) (h214 : Has T 214 a214) (hl : Low h m) (hml : m ≤ l) (hstep : StepOk T l m h o Q R itm ok) (t : Tm) (wf : t.Wf) (hs : t.size ≤ 4000) :
    ∀ (d : Int) (_hd0 : 0 ≤ d) (_hd : d + t.size ≤ 8000) (a : α) (_hok : okW R ok d t a) (H : Heap) (n yb wb : Nat) (_hly : l < yb) (_hlw : l < wb) (_hy : hget H yb = some (.cells [.fn (.yield l) [] []])) (_hw : hget H wb = some (.cells [.fn (.func 214) [] [.ptr yb 0, .ptr wb 0]])) (_w : Wd l m h (o true) (Q true a) ⟨H, n⟩),
      Spec T (.fn 214) [t.av, .int .i64 d, .ptr yb 0, .ptr wb 0] ⟨H, n⟩ (Post l m h o Q (walkF R d t a) n H) := by
  refine Tm.ind (M := fun t => t.Wf → t.size ≤ 4000 → ∀ (d : Int) (hd0 : 0 ≤ d) (hd : d + t.size ≤ 8000) (a : α) (hok : okW R ok d t a) (H : Heap) (n yb wb : Nat) (hly : l < yb) (hlw : l < wb) (hy : hget H yb = some (.cells [.fn (.yield l) [] []])) (hw : hget H wb = some (.cells [.fn (.func 214) [] [.ptr yb 0, .ptr wb 0]])) (w : Wd l m h (o true) (Q true a) ⟨H, n⟩),
      Spec T (.fn 214) [t.av, .int .i64 d, .ptr yb 0, .ptr wb 0] ⟨H, n⟩ (Post l m h o Q (walkF R d t a) n H)) (fun k s nn as ih wf hs d hd0 hd a hok H n yb wb hly hlw hy hw w => ?_) t wf hs
  refine spec_fn hm h214.prim h214.func rfl ?_
  rw [okW] at hok
  rw [Tm.size] at hs hd
  have hlen := sizes_len as
  have hyn := w.low.lt hy
  have hwn := w.low.lt hw
  have hln := w.lt
  have hmn : m ≤ n := by simp at hln; omega
  have hwf := Wf.args wf
  simp at hyn hwn hln
  simp (disch := omega) [a214, r_callt hm, hy]
  refine CallV.intro rfl (hstep a (d, .mk k s nn as) _ _ hok.1 (w.cons hmn)) ?_
  rintro v ⟨H1, n1⟩ ⟨rfl, hn1, w1, k1⟩
  rw [walkF]
  cases hc : (R a (d, .mk k s nn as)).1 with
  | false =>
    rw [hc] at w1
    simp (disch := omega) [unV]
    refine ⟨rfl, by simp at hn1 ⊢; omega, w1.gc1 hl hln hmn, k1.gc1 w.low⟩
  | true =>
    rw [hc] at w1
    have g1 := k1 n _ (by omega) (hget_eq _ _ _)
    simp (disch := omega) [unV, g1]
    let I : Nat → Env → List ADef → St → Prop := fun q env ds σ => ds = [] ∧ ∃ (i : Nat) (n' : Nat) (H' : Heap) (a' : α), i ≤ as.length ∧ q = as.length - i ∧ n < n' ∧
      σ = ⟨H', n'⟩ ∧ aget env 1 = .int .i64 d ∧ aget env 3 = .ptr wb 0 ∧ aget env 15 = .slice (Tm.avs as) .none ∧ aget env 16 = .int .i64 as.length ∧ aget env 17 = .int .i64 i ∧
      Wd l m h (o true) (Q true a') ⟨H', n'⟩ ∧ Kp l ((n, .cells [.int .i64 k, .str s, .int .i64 nn, .slice (Tm.avs as) .none]) :: H) H' ∧ walkFs R (d + 1) (as.drop i) a' = walkFs R (d + 1) as (R a (d, .mk k s nn as)).2 ∧ okWs R ok (d + 1) (as.drop i) a'
    refine run_loop hm I ?_ as.length ?_
    · rintro q env ds σ ⟨rfl, i, n', H', a', hi, rfl, hnn, rfl, e1, e3, e15, e16, e17, w', k', hf, ho⟩
      have hy' := k' yb _ hly (by rw [hget_ne _ _ (by omega)]; exact hy)
      have hw' := k' wb _ hlw (by rw [hget_ne _ _ (by omega)]; exact hw)
      by_cases d1 : i < as.length
      · have hle := sizes_mem (List.getElem_mem d1)
        rw [List.drop_eq_getElem_cons d1, walkFs] at hf
        rw [List.drop_eq_getElem_cons d1, okWs] at ho
        have w2 := w'.cons (o' := .cells as[i].av.cells) (by omega)
        simp (disch := omega) [r_callt hm, e1, e3, e15, e16, e17, d1, hw', cells_all, splice_av]
        refine CallV.intro rfl (ih as[i] (List.getElem_mem d1) (hwf _ (List.getElem_mem d1)) (by omega) (d + 1) (by omega) (by omega) a' ho.1 _ _ yb wb hly hlw (by rw [hget_ne _ _ (by omega)]; exact hy') (by rw [hget_ne _ _ (by omega)]; exact hw') w2) ?_
        rintro v ⟨H2, n2⟩ ⟨rfl, hn2, w3, k3⟩
        have k4 : Kp l ((n, .cells [.int .i64 k, .str s, .int .i64 nn, .slice (Tm.avs as) .none]) :: H) H2 := fun j c hj hh => k3 j c hj (by have := k' j c hj hh; have := w'.low.lt this; simp at this; rw [hget_ne _ _ (by omega)]; assumption)
        cases hc2 : (walkF R (d + 1) as[i] a').1 with
        | true =>
          rw [hc2] at w3
          simp only [hc2, if_true] at hf
          simp (disch := omega) [e17, unV]
          exact ⟨as.length - (i + 1), by omega, rfl, i + 1, n2, H2, _, by omega, rfl, by simp at hn2; omega, rfl, by simp [e1], by simp [e3], by simp [e15], by simp [e16], by simp, w3, k4, hf, ho.2 hc2⟩
        | false =>
          rw [hc2] at w3
          simp [hc2] at hf
          simp (disch := omega) [unV]
          rw [← hf]
          exact ⟨rfl, by simp at hn2 ⊢; omega, w3.gc1 hl hln hmn, k4.gc1 w.low⟩
      · rw [List.drop_eq_nil_of_le (by omega), walkFs] at hf
        simp (disch := omega) [e16, e17, d1]
        rw [← hf]
        exact ⟨rfl, by simp; omega, w'.gc1 hl hln hmn, k'.gc1 w.low⟩
    · exact ⟨rfl, 0, n1, H1, _, by simp, by simp, by simp at hn1; omega, rfl, by simp, by simp, by simp, by simp, by simp, w1, k1, by simp, by simpa using hok.2 hc⟩
end Go.AM
namespace Go.AM
variable {T : Tab} {α β : Type} {l m : Nat} {h : Heap} {o : Bool → AObj} {Q : Bool → α → List (Nat × AObj) → Prop} {R : α → Int × Tm → Bool × α} {ok : α → Int × Tm → Prop}

theorem Kp.gc1' {l n n' : Nat} {H H' : Heap} (hL : Low H n) (hn : n ≤ n') (a : Kp l H H') : Kp l H (hgc1 H' n') := fun j c hj h => by
  have h1 := hL.lt h
  exact hgc1_keep (a j c hj h) (.inl (by omega))
theorem all_spec (hm : PrimMono T) (h143 : Has T 143 a143) (h214 : Has T 214 a214) (hl : Low h m) (hml : m ≤ l) (hstep : StepOk T l m h o Q R itm ok) (t : Tm) (wf : t.Wf) (hs : t.size ≤ 4000) (a : α) (hok : okW R ok 1 t a) (H : Heap) (n : Nat) (w : Wd l m h (o true) (Q true a) ⟨H, n⟩) :
    Spec T (.fn 143) [t.av, .fn (.yield l) [] []] ⟨H, n⟩ (Post l m h o Q (walkF R 1 t a) n H) := by
  refine spec_fn hm h143.prim h143.func rfl ?_
  have hln := w.lt
  simp at hln
  have hmn : m ≤ n := by omega
  have w3 : Wd l m h (o true) (Q true a) ⟨(n + 1 + 1, .cells [.fn (.func 214) [] [.ptr (n + 1) 0, .ptr (n + 1 + 1) 0]]) :: (n + 1, .cells [.fn (.yield l) [] []]) :: (n, .cells t.av.cells) :: H, n + 1 + 1 + 1⟩ :=
    ((w.cons hmn).cons (by omega)).cons (by omega)
  simp (disch := omega) [a143, r_callt hm]
  refine CallV.intro rfl (all1_spec hm h214 hl hml hstep t wf hs 1 (by omega) (by omega) a hok _ _ (n + 1) (n + 1 + 1) (by omega) (by omega) (by simp (disch := omega)) (by simp (disch := omega)) w3) ?_
  rintro v ⟨H1, n1⟩ ⟨rfl, hn1, w1, k1⟩
  simp at hn1
  simp
  refine ⟨rfl, by simp; omega, w1.gc1 hl hln hmn, fun j c hj hh => ?_⟩
  have := w.low.lt hh
  simp at this
  exact hgc1_keep (k1 j c hj (by rw [hget_ne _ _ (by omega), hget_ne _ _ (by omega), hget_ne _ _ (by omega)]; exact hh)) (.inl this)
/-- Behind a walk: what it answered is not told. -/
def PostU (l m : Nat) (h : Heap) (o : Bool → AObj) (Q : Bool → α → List (Nat × AObj) → Prop) (r : Bool × α) (n : Nat) : AV → St → Prop := fun _ τ => n ≤ τ.next ∧ Wd l m h (o r.1) (Q r.1 r.2) τ
theorem each1_spec (hm : PrimMono T) (h142 : Has T 142 a142) (h143 : Has T 143 a143) (h214 : Has T 214 a214) (hl : Low h m) (hml : m ≤ l) (hstep : StepOk T l m h o Q R itm ok) (t : Tm) (wf : t.Wf) (hs : t.size ≤ 4000) (a : α) (hok : okW R ok 1 t a) (H : Heap) (n b : Nat) (hb : hget H b = some (.cells t.av.cells)) (w : Wd l m h (o true) (Q true a) ⟨H, n⟩) :
    Spec T (.fn 142) [.fn (.yield l) [] [], .ptr b 0] ⟨H, n⟩ (PostU l m h o Q (walkF R 1 t a) n) := by
  refine spec_fn hm h142.prim h142.func rfl ?_
  have hln := w.lt
  simp at hln
  have hmn : m ≤ n := by omega
  simp (disch := omega) [a142, r_call hm, hb]
  refine ⟨_, all_spec hm h143 h214 hl hml hstep t wf hs a hok H n w, ?_⟩
  rintro v ⟨H1, n1⟩ ⟨rfl, hn1, w1, k1⟩
  simp at hn1
  simp
  exact ⟨by simp; omega, w1.gc1 hl hln hmn⟩
theorem each_spec (hm : PrimMono T) (h95 : Has T 95 a95) (t : Tm) (H : Heap) (n : Nat) : Spec T (.fn 95) [t.av] ⟨H, n⟩ (fun v τ => v = .fn (.func 142) [] [.ptr n 0] ∧ τ = ⟨(n, .cells t.av.cells) :: H, n + 1⟩) := by
  refine spec_fn hm h95.prim h95.func rfl ?_
  simp [a95]

theorem run_range (hm : PrimMono T) {ks : List K} {env : Env} {ds : List ADef} {Q : Ex → Env → List ADef → St → Prop} {f : Opd} {ps : List Nat} {as body : ACode} {H : Heap} {n c : Nat} {args : List AV} {P : AV → St → Prop}
    (hc : callee (f.eval env) [.fn (.yield (n + 1)) [] []] = some (.fn c, args)) (hs : Spec T (.fn c) args ⟨(n + 1, .loop .ready none env ps as body) :: (n, .defs) :: H, n + 1 + 1⟩ P)
    (k : ∀ v τ, P v τ → ∃ st j tm' ps' as' body', hget τ.heap (n + 1) = some (.loop st j tm' ps' as' body') ∧ st ≠ .busy ∧ Run T ks (Jump.ex j) env (.mark n :: ds) ⟨hdel τ.heap (n + 1), τ.next⟩ Q) :
    Run T (.code (.rangeFunc f ps as body) :: ks) .normal env ds ⟨H, n⟩ Q := by
  obtain ⟨f1, v, τ, h1, h2⟩ := hs
  obtain ⟨st, j, tm', ps', as', body', h3, h4, f2, x, e, d, s, h5, h6⟩ := k v τ h2
  refine ⟨max f1 f2, x, e, d, s, ?_, h6⟩
  have h7 := exec_more hm (Nat.le_max_right f1 f2) _ _ _ _ _ _ h5
  have h8 := call_le hm f1 _ (Nat.le_max_left f1 f2) _ _ _ _ h1
  rw [exec_append _ _ .normal]
  have : code (.rangeFunc f ps as body) (call T (max f1 f2)) (max f1 f2) ⟨env, ds⟩ ⟨H, n⟩ = some (Jump.ex j, ⟨env, .mark n :: ds⟩, ⟨hdel τ.heap (n + 1), τ.next⟩) := by
    show codeRange f ps as body (call T (max f1 f2)) (max f1 f2) ⟨env, ds⟩ ⟨H, n⟩ = _
    unfold codeRange
    dsimp only
    rw [hc]
    dsimp only
    have h9 : (St.add (St.add ⟨H, n⟩ .defs) (.loop .ready none env ps as body)) = ⟨(n + 1, .loop .ready none env ps as body) :: (n, .defs) :: H, n + 1 + 1⟩ := rfl
    rw [h9, h8]
    dsimp only
    have h10 : τ.get (n + 1) = some (.loop st j tm' ps' as' body') := h3
    rw [h10]
    dsimp only
    rw [if_neg h4]
    rfl
  rw [this]
  exact h7

theorem hget_del {H : Heap} {i j : Nat} (hij : i ≠ j) : hget (hdel H i) j = hget H j := by
  induction H with
  | nil => rfl
  | cons q l ih =>
    obtain ⟨k, x⟩ := q
    have e : hdel ((k, x) :: l) i = bif Nat.beq k i then l else (k, x) :: hdel l i := rfl
    rw [e]
    by_cases hk : k = i
    · subst hk; rw [Nat.beq_refl, cond_true, hget_ne _ _ hij]
    · rw [beq_ne hk, cond_false]
      by_cases hkj : k = j
      · subst hkj; rw [hget_eq, hget_eq]
      · rw [hget_ne _ _ hkj, hget_ne _ _ hkj, ih]
theorem hdel_mem {H : Heap} {i : Nat} : ∀ p ∈ hdel H i, p ∈ H := by
  induction H with
  | nil => intro p hp; cases hp
  | cons q l ih =>
    obtain ⟨k, x⟩ := q
    have e : hdel ((k, x) :: l) i = bif Nat.beq k i then l else (k, x) :: hdel l i := rfl
    rw [e]
    intro p hp
    by_cases hk : k = i
    · subst hk; rw [Nat.beq_refl, cond_true] at hp; exact List.mem_cons_of_mem _ hp
    · rw [beq_ne hk, cond_false] at hp
      cases hp with
      | head => exact List.mem_cons_self
      | tail _ hp => exact List.mem_cons_of_mem _ (ih p hp)
theorem Low.del {H : Heap} {n i : Nat} (hL : Low H n) : Low (hdel H i) n := fun p hp => hL p (hdel_mem p hp)
theorem hdel_low {h : Heap} {i : Nat} (hl : Low h i) : hdel h i = h := by
  induction h with
  | nil => rfl
  | cons q l ih =>
    obtain ⟨k, x⟩ := q
    have e : hdel ((k, x) :: l) i = bif Nat.beq k i then l else (k, x) :: hdel l i := rfl
    have hk : k < i := hl (k, x) List.mem_cons_self
    rw [e, beq_ne (by omega), cond_false, ih (fun p hp => hl p (List.mem_cons_of_mem _ hp))]
theorem Over.del {m i : Nat} {h H : Heap} (hO : Over m h H) (hl : Low h m) (hi : m ≤ i) : Over m h (hdel H i) := by
  obtain ⟨pre, rfl, hp⟩ := hO
  induction pre with
  | nil => rw [List.nil_append, hdel_low (hl.mono hi)]; exact Over.refl m h
  | cons q l ih =>
    obtain ⟨k, x⟩ := q
    have e : hdel ((k, x) :: l ++ h) i = bif Nat.beq k i then l ++ h else (k, x) :: hdel (l ++ h) i := rfl
    have hl' := ih (fun p hp' => hp p (List.mem_cons_of_mem _ hp'))
    rw [e]
    by_cases hk : k = i
    · subst hk; rw [Nat.beq_refl, cond_true]; exact ⟨l, rfl, fun p hp' => hp p (List.mem_cons_of_mem _ hp')⟩
    · rw [beq_ne hk, cond_false]; exact hl'.cons (hp (k, x) List.mem_cons_self)
theorem Facts.del {F : List (Nat × AObj)} {H : Heap} {i : Nat} (h : Facts F H) (hi : ∀ p ∈ F, p.1 ≠ i) : Facts F (hdel H i) := fun p hp => by
  rw [hget_del (fun h' => hi p hp h'.symm)]; exact h p hp

/-- A range over all of a term. -/
theorem each_range (hm : PrimMono T) (h142 : Has T 142 a142) (h143 : Has T 143 a143) (h214 : Has T 214 a214) {m : Nat} {h : Heap} {Q : Bool → α → List (Nat × AObj) → Prop} {R : α → Int × Tm → Bool × α} {ok : α → Int × Tm → Prop}
    {ks : List K} {env : Env} {ds : List ADef} {Q' : Ex → Env → List ADef → St → Prop} {f : Opd} {ps : List Nat} {as body : ACode} {H : Heap} {n b : Nat} (t : Tm) (wf : t.Wf) (hs : t.size ≤ 4000) (j : Jump) (a : α) (hok : okW R ok 1 t a)
    (hl : Low h m) (hO : Over m h H) (hL : Low H n) (hmn : m ≤ n) (hf : f.eval env = .fn (.func 142) [] [.ptr b 0]) (hb : hget H b = some (.cells t.av.cells)) (hQ : ∃ F, Facts F ((n, .defs) :: H) ∧ Q true a F)
    (hstep : StepOk T (n + 1) m h (lob env ps as body j) Q R itm ok)
    (k : ∀ H' n', n + 2 ≤ n' → Over m h H' → Low H' n' → (∃ F, Good (n + 1) F ∧ Facts F H' ∧ Q (walkF R 1 t a).1 (walkF R 1 t a).2 F) → Run T ks (if (walkF R 1 t a).1 then .normal else Ex.ofJump j) env (.mark n :: ds) ⟨H', n'⟩ Q') :
    Run T (.code (.rangeFunc f ps as body) :: ks) .normal env ds ⟨H, n⟩ Q' := by
  have hbn := hL.lt hb
  obtain ⟨F, hF, hq⟩ := hQ
  have hL1 : Low ((n, AObj.defs) :: H) (n + 1) := hL.cons (Nat.lt_succ_self n)
  refine run_range hm (c := 142) (args := [.fn (.yield (n + 1)) [] [], .ptr b 0]) (by rw [hf]; rfl) (each1_spec hm h142 h143 h214 hl (by omega) hstep t wf hs a hok _ _ b ?_ ⟨(hO.cons hmn).cons (by omega), hL1.cons (Nat.lt_succ_self _), Nat.lt_succ_self _, hget_eq _ _ _, F, fun p hp => ?_, hF.cons hL1, hq⟩) ?_
  · rw [hget_ne _ _ (by omega), hget_ne _ _ (by omega)]; exact hb
  · have := hL1.lt (hF p hp); omega
  · rintro v ⟨H', n'⟩ ⟨hn', w⟩
    have hobj := w.obj
    obtain ⟨F', g', f', q'⟩ := w.known
    have hk := k (hdel H' (n + 1)) n' hn' (w.over.del hl (by omega)) w.low.del ⟨F', g', f'.del (fun p hp => (g' p hp).1), q'⟩
    cases hc : (walkF R 1 t a).1 with
    | true => rw [hc] at hobj hk; exact ⟨_, _, _, _, _, _, hobj, by simp, hk⟩
    | false => rw [hc] at hobj hk; exact ⟨_, _, _, _, _, _, hobj, by simp, by rw [ex_of]; exact hk⟩

theorem Wd.setk {l m n i : Nat} {h H : Heap} {o o' : AObj} {Q Q' : List (Nat × AObj) → Prop} (w : Wd l m h o Q ⟨H, n⟩) (hl : Low h m) (hil : i ≠ l) (hmi : m ≤ i) (hF : ∃ F, Good l F ∧ Facts F (hset H i o') ∧ Q' F) : Wd l m h o Q' ⟨hset H i o', n⟩ :=
  ⟨w.over.set hl hmi, w.low.set, w.lt, by show hget (hset H i o') l = _; rw [hget_set, if_neg hil]; exact w.obj, hF⟩
theorem Wd.weak {l m : Nat} {h : Heap} {o : AObj} {Q Q' : List (Nat × AObj) → Prop} {τ : St} (w : Wd l m h o Q τ) (hF : ∃ F, Good l F ∧ Facts F τ.heap ∧ Q' F) : Wd l m h o Q' τ := ⟨w.over, w.low, w.lt, w.obj, hF⟩

/-- A round whose assignment lays the item into a box. -/
theorem step_box (hm : PrimMono T) {l m : Nat} {h : Heap} {tm : Env} {ps : List Nat} {as body : ACode} {j : Jump} {Q : Bool → α → List (Nat × AObj) → Prop} {R : α → β → Bool × α} {args : β → List AV} {ok : α → β → Prop} (bx : β → List AV) (E : β → Nat → Env → Prop) (hl : Low h m) (hml : m ≤ l)
    (hlen : ∀ x, (args x).length = ps.length)
    (H1 : ∀ a x H n, ok a x → l < n → Run T [.code as] .normal (putAll tm ps (args x)) [] ⟨H, n⟩ fun ex env ds σ => ex = .normal ∧ ds = [] ∧ σ = ⟨(n, .cells (bx x)) :: H, n + 1⟩ ∧ E x n env)
    (H2 : ∀ ob a x H n env, ob.tok? = none → ok a x → E x n env → l < n → Low H n → Wd l m h ob (Q true a) ⟨(n, .cells (bx x)) :: H, n + 1⟩ →
      Run T [.code body] .normal env [] ⟨(n, .cells (bx x)) :: H, n + 1⟩ fun ex _ ds σ => ds = [] ∧ ((R a x).1 = true ∧ ex = .normal ∨ (R a x).1 = false ∧ ex = Ex.ofJump j) ∧ n ≤ σ.next ∧ Wd l m h ob (Q (R a x).1 (R a x).2) σ ∧ Kp l H σ.heap) :
    StepOk T l m h (lob tm ps as body j) Q R args ok := by
  refine step_ok hm hl hml hlen fun a x H n hx w => ?_
  have hln := w.lt
  obtain ⟨f, ex, env, ds, σ, h1, rfl, rfl, rfl, h2⟩ := H1 a x H n hx hln
  simp at hln
  refine ⟨f, _, _, _, _, h1, rfl, by show hget ((n, _) :: H) l = _; rw [hget_ne _ _ (by omega)]; exact w.obj, ?_⟩
  have w1 := w.setl (o' := .loop .busy none tm ps as body) hl hml
  have e : St.set ⟨(n, .cells (bx x)) :: H, n + 1⟩ l (.loop .busy none tm ps as body) = ⟨(n, .cells (bx x)) :: hset H l (.loop .busy none tm ps as body), n + 1⟩ := by
    rw [st_set, hset_ne _ _ _ (by omega)]
  rw [e]
  obtain ⟨f2, ex2, env2, ds2, σ2, g1, g2, g3, g4, g5, g6⟩ := H2 _ a x _ n env rfl hx h2 hln w1.low (Wd.cons (n := n) w1 (by omega))
  exact ⟨f2, ex2, env2, ds2, σ2, g1, g2, g3, g4, g5, ((Kp.refl l H).set (Nat.le_refl l)).trans g6⟩

/-! ### What is deferred at the end: marks -/
theorem runDefs_marks {cl : CallF} : ∀ (os : List Nat) (H : Heap) (n : Nat), os.Nodup → (∀ o ∈ os, hget H o = some .defs) → runDefs cl (os.map .mark) ⟨H, n⟩ = some ⟨os.foldl hdel H, n⟩ := by
  intro os
  induction os with
  | nil => intro H n _ _; rfl
  | cons o os ih =>
    intro H n hnd hd
    show runDefs cl (.mark o :: os.map .mark) ⟨H, n⟩ = _
    unfold runDefs
    have h0 : St.get ⟨H, n⟩ o = some .defs := hd o List.mem_cons_self
    rw [h0]
    dsimp only
    rw [List.nodup_cons] at hnd
    exact ih (hdel H o) n hnd.2 (fun o' ho' => by
      rw [hget_del (by rintro rfl; exact hnd.1 ho')]; exact hd o' (List.mem_cons_of_mem _ ho'))
theorem foldl_del_get {j : Nat} : ∀ (os : List Nat) (H : Heap), j ∉ os → hget (os.foldl hdel H) j = hget H j := by
  intro os
  induction os with
  | nil => intro H _; rfl
  | cons o os ih => intro H hj; simp at hj; rw [List.foldl_cons, ih _ (by simp [hj]), hget_del (fun h => hj.1 h.symm)]
theorem foldl_del_over {m : Nat} {h : Heap} (hl : Low h m) : ∀ (os : List Nat) (H : Heap), (∀ o ∈ os, m ≤ o) → Over m h H → Over m h (os.foldl hdel H) := by
  intro os
  induction os with
  | nil => intro H _ hO; exact hO
  | cons o os ih => intro H hos hO; exact ih _ (fun o' h' => hos o' (List.mem_cons_of_mem _ h')) (hO.del hl (hos o List.mem_cons_self))
/-- At the end, marks deferred. -/
theorem fin_marks {T : Tab} {res : List (Nat × Option (Option Nat))} {sr : Bool} {gc m : Nat} {P : AV → St → Prop} {x : Ex} {env : Env} {os : List Nat} {H : Heap} {n : Nat} (hx : x = .ret ∨ x = .normal) (hnd : os.Nodup) (hd : ∀ o ∈ os, hget H o = some .defs)
    (hk : ∃ vs, readResults env ⟨os.foldl hdel H, n⟩ res = some vs ∧ P (bif sr then stripVal (one vs) else one vs) (St.gc ⟨os.foldl hdel H, n⟩ gc m)) : Fin T res sr gc m P x env (os.map .mark) ⟨H, n⟩ := by
  refine ⟨by rcases hx with rfl | rfl <;> trivial, 0, ⟨os.foldl hdel H, n⟩, runDefs_marks os H n hnd hd, hk⟩
end Go.AM
namespace Go.AM
variable {T : Tab}
open Classical

noncomputable def rightR (a : Int) (x : Int × Tm) : Bool × Int := if 100 < x.1 ∨ 3000 < a + 1 ∨ ¬ ownP x.2 then (false, a) else (true, a + 1)
theorem fair_own (k : Int) (s : List UInt8) (n : Int) (l : List Tm) : (Tm.mk k s n l).fair ↔ ownP (.mk k s n l) ∧ Tm.fairs l := by
  rw [Tm.fair, ownOk, ownP, nameOk]
  by_cases k1 : k = 1
  · subst k1; simp only [if_true]
    constructor
    · rintro ⟨_, h2, h3⟩; exact ⟨h3, h2⟩
    · rintro ⟨h1, h2⟩; exact ⟨by rw [h1.2.2.1]; exact chars_nil, h2, h1⟩
  · rw [if_neg k1, if_neg k1]
    by_cases k2 : k = 2
    · subst k2; simp only [if_true]
      constructor
      · rintro ⟨_, h2, h3⟩; exact ⟨h3, h2⟩
      · rintro ⟨h1, h2⟩; exact ⟨by rw [h1.1]; exact chars_nil, h2, h1⟩
    · rw [if_neg k2, if_neg k2]
      constructor
      · rintro ⟨h1, h2, h3, h4, h5, h6, h7⟩; exact ⟨⟨h3, h4, ⟨h1, by omega, by omega⟩, by omega⟩, h2⟩
      · rintro ⟨⟨h3, h4, ⟨h1, h5, h6⟩, h7⟩, h2⟩; exact ⟨h1, h2, h3, h4, by omega, by omega, by omega⟩
theorem right_walk (t : Tm) : ∀ (d a : Int), 1 ≤ d → 0 ≤ a → a ≤ 3000 → ((walkF rightR d t a).1 = true ↔ t.fair ∧ a + t.size ≤ 3000 ∧ d - 1 + t.deep ≤ 100) ∧ ((walkF rightR d t a).1 = true → (walkF rightR d t a).2 = a + t.size) := by
  refine Tm.ind (M := fun t => ∀ (d a : Int), 1 ≤ d → 0 ≤ a → a ≤ 3000 → ((walkF rightR d t a).1 = true ↔ t.fair ∧ a + t.size ≤ 3000 ∧ d - 1 + t.deep ≤ 100) ∧ ((walkF rightR d t a).1 = true → (walkF rightR d t a).2 = a + t.size)) (fun k s n l ih d a hd ha0 ha => ?_) t
  have key : ∀ (l : List Tm), (∀ x ∈ l, ∀ (d a : Int), 1 ≤ d → 0 ≤ a → a ≤ 3000 → ((walkF rightR d x a).1 = true ↔ x.fair ∧ a + x.size ≤ 3000 ∧ d - 1 + x.deep ≤ 100) ∧ ((walkF rightR d x a).1 = true → (walkF rightR d x a).2 = a + x.size)) →
      ∀ (d a : Int), 1 ≤ d → d ≤ 101 → 0 ≤ a → a ≤ 3000 → ((walkFs rightR d l a).1 = true ↔ Tm.fairs l ∧ a + Tm.sizes l ≤ 3000 ∧ d - 1 + Tm.deeps l ≤ 100) ∧ ((walkFs rightR d l a).1 = true → (walkFs rightR d l a).2 = a + Tm.sizes l) := by
    intro l
    induction l with
    | nil => intro _ d a hd hd1 ha0 ha; rw [walkFs, Tm.fairs, Tm.sizes, Tm.deeps]; simp; omega
    | cons t l ihl =>
      intro ih d a hd hd1 ha0 ha
      obtain ⟨i1, i2⟩ := ih t (by simp) d a hd ha0 ha
      rw [walkFs, Tm.fairs, Tm.sizes, Tm.deeps]
      by_cases hc : (walkF rightR d t a).1 = true
      · rw [if_pos hc, i2 hc]
        have j := i1.mp hc
        obtain ⟨j1, j2⟩ := ihl (fun x hx => ih x (by simp [hx])) d (a + t.size) hd hd1 (by omega) j.2.1
        refine ⟨j1.trans ⟨fun q => ⟨⟨j.1, q.1⟩, by omega, by omega⟩, fun q => ⟨q.1.2, by omega, by omega⟩⟩, fun hh => ?_⟩
        rw [j2 hh]; omega
      · rw [if_neg hc]
        refine ⟨⟨fun q => (by cases q), fun q => absurd (i1.mpr ⟨q.1.1, by omega, by omega⟩) hc⟩, fun q => (by cases q)⟩
  rw [walkF, fair_own, Tm.size, Tm.deep]
  by_cases hc : 100 < d ∨ 3000 < a + 1 ∨ ¬ ownP (.mk k s n l)
  · have e : rightR a (d, .mk k s n l) = (false, a) := by unfold rightR; rw [if_pos hc]
    rw [e]
    simp only [Bool.false_eq_true, if_false]
    refine ⟨⟨fun q => (by cases q), fun q => ?_⟩, fun q => (by cases q)⟩
    rcases hc with hc | hc | hc
    · omega
    · omega
    · exact absurd q.1.1 hc
  · have e : rightR a (d, .mk k s n l) = (true, a + 1) := by unfold rightR; rw [if_neg hc]
    rw [e]
    simp only [if_true]
    have h1 : d ≤ 100 := by omega
    have h2 : a + 1 ≤ 3000 := by omega
    have h3 : ownP (.mk k s n l) := Classical.byContradiction fun h => hc (.inr (.inr h))
    obtain ⟨j1, j2⟩ := key l ih (d + 1) (a + 1) (by omega) (by omega) (by omega) h2
    refine ⟨j1.trans ⟨fun q => ⟨⟨h3, q.1⟩, by omega, by omega⟩, fun q => ⟨q.1.2, by omega, by omega⟩⟩, fun hh => ?_⟩
    rw [j2 hh]; omega
theorem right_walk1 (t : Tm) : (walkF rightR 1 t 0).1 = decide t.right := by
  have h := (right_walk t 1 0 (by omega) (by omega) (by omega)).1
  have hr : t.right ↔ t.fair ∧ t.size ≤ 3000 ∧ t.deep ≤ 100 := Iff.rfl
  by_cases hc : (walkF rightR 1 t 0).1 = true
  · have := h.mp hc; rw [hc]; symm; rw [decide_eq_true_eq, hr]; exact ⟨this.1, by omega, by omega⟩
  · have h2 : (walkF rightR 1 t 0).1 = false := by simpa using hc
    rw [h2]; symm; rw [decide_eq_false_iff_not, hr]; intro q; exact hc (h.mpr ⟨q.1, by omega, by omega⟩)

def rightQ (m : Nat) : Bool → Int → List (Nat × AObj) → Prop
  | true, a, F => 0 ≤ a ∧ a ≤ 3000 ∧ F = [(m + 1, .cells [.bool false]), (m + 1 + 1, .cells [.int .i64 a]), (m + 1 + 1 + 1 + 1, .defs)]
  | false, _, F => F = [(m + 1, .cells [.bool false]), (m + 1 + 1 + 1 + 1, .defs)]

theorem right2_spec (hm : PrimMono T) (h45 : Has T 45 a45) (h95 : Has T 95 a95) (h142 : Has T 142 a142) (h143 : Has T 143 a143) (h214 : Has T 214 a214) (h96 : Has T 96 a96) (h144 : Has T 144 a144) (t : Tm) (wf : t.Wf) (hs : t.size ≤ 4000) (h : Heap) (m : Nat) (hl : Low h m) :
    Spec T (.fn 45) [t.av] ⟨h, m⟩ (Ret h m (.bool (decide t.right))) := by
  refine spec_fn hm h45.prim h45.func rfl ?_
  simp (disch := omega) [a45, r_call hm]
  refine ⟨_, each_spec hm h95 t _ _, ?_⟩
  rintro v τ ⟨rfl, rfl⟩
  simp
  have hO : Over m h ((m + 1 + 1 + 1, .cells t.av.cells) :: (m + 1 + 1, .cells [.int .i64 0]) :: (m + 1, .cells [.bool false]) :: (m, .cells t.av.cells) :: h) :=
    ((((Over.refl m h).cons (Nat.le_refl m)).cons (by omega)).cons (by omega)).cons (by omega)
  have hL : Low ((m + 1 + 1 + 1, .cells t.av.cells) :: (m + 1 + 1, .cells [.int .i64 0]) :: (m + 1, .cells [.bool false]) :: (m, .cells t.av.cells) :: h) (m + 1 + 1 + 1 + 1) :=
    (((hl.cons (Nat.lt_succ_self m)).cons (Nat.lt_succ_self _)).cons (Nat.lt_succ_self _)).cons (Nat.lt_succ_self _)
  refine each_range hm h142 h143 h214 (Q := rightQ m) (R := rightR) (b := m + 1 + 1 + 1) t wf hs .ret 0 (okW_itm t 1 0 wf hs (by omega) (by omega)) hl hO hL (by omega) (by simp) (hget_eq _ _ _) ⟨[(m + 1, .cells [.bool false]), (m + 1 + 1, .cells [.int .i64 0]), (m + 1 + 1 + 1 + 1, .defs)], ?_, by omega, by omega, rfl⟩ ?_ ?_
  · intro p hp
    simp at hp
    rcases hp with rfl | rfl | rfl <;> simp (disch := omega)
  · let E : Int × Tm → Nat → Env → Prop := fun x n env => aget env 2 = .ptr (m + 1) 0 ∧ aget env 3 = .ptr (m + 1 + 1) 0 ∧ aget env 4 = .int .i64 x.1 ∧ aget env 5 = .ptr n 0
    refine step_box hm (fun x => x.2.av.cells) E hl (by omega) (fun _ => rfl) ?_ ?_
    · rintro _ ⟨d, x⟩ H n ⟨xw, xs, xd0, xd1⟩ hln
      simp (disch := omega) [itm, putAll, cells_all, splice_av]
      exact ⟨by simp, by simp, by simp, by simp⟩
    · rintro ob a ⟨d, x⟩ H n env _ ⟨xw, xs, xd0, xd1⟩ ⟨e2, e3, e4, e5⟩ hln hL w
      obtain ⟨F, hg, hF, q0, q1, rfl⟩ := w.known
      have g1 := hF (m + 1, .cells [.bool false]) (by simp)
      have g2 := hF (m + 1 + 1, .cells [.int .i64 a]) (by simp)
      simp (disch := omega) at g1 g2 xd0 xd1 e4
      have g3 := hF (m + 1 + 1 + 1 + 1, .defs) (by simp)
      simp (disch := omega) at g3
      have hO := w.over
      have hw : Wd (m + 1 + 1 + 1 + 1 + 1) m h ob _ ⟨(n, .cells x.av.cells) :: H, n + 1⟩ := w
      have r1 : ¬ 3000 < a + 1 → Wd (m + 1 + 1 + 1 + 1 + 1) m h ob (rightQ m true (a + 1)) ⟨(n, .cells x.av.cells) :: hset H (m + 1 + 1) (.cells [.int .i64 (a + 1)]), n + 1⟩ := fun c => by
        have := hw.setk (i := m + 1 + 1) (o' := .cells [.int .i64 (a + 1)]) (Q' := rightQ m true (a + 1)) hl (by omega) (by omega) ⟨_, ?_, ?_, by omega, by omega, rfl⟩
        · rw [hset_ne _ _ _ (by omega)] at this; exact this
        · intro p hp; simp at hp; rcases hp with rfl | rfl | rfl <;> simp
        · intro p hp; simp at hp; rcases hp with rfl | rfl | rfl <;> simp (disch := omega) [hget_set, g1, g2, g3]
      have r2 : Wd (m + 1 + 1 + 1 + 1 + 1) m h ob (rightQ m false a) ⟨(n, .cells x.av.cells) :: hset (hset H (m + 1 + 1) (.cells [.int .i64 (a + 1)])) (m + 1) (.cells [.bool false]), n + 1⟩ := by
        have v1 := hw.setk (i := m + 1 + 1) (o' := .cells [.int .i64 (a + 1)]) (Q' := rightQ m false a) hl (by omega) (by omega) ⟨_, ?_, ?_, rfl⟩
        · rw [hset_ne _ _ _ (by omega)] at v1
          have v2 := v1.setk (i := m + 1) (o' := .cells [.bool false]) (Q' := rightQ m false a) hl (by omega) (by omega) ⟨_, ?_, ?_, rfl⟩
          · rw [hset_ne _ _ _ (by omega)] at v2; exact v2
          · intro p hp; simp at hp; rcases hp with rfl | rfl <;> simp
          · intro p hp; simp at hp; rcases hp with rfl | rfl <;> simp (disch := omega) [hget_set, g1, g3]
        · intro p hp; simp at hp; rcases hp with rfl | rfl <;> simp
        · intro p hp; simp at hp; rcases hp with rfl | rfl <;> simp (disch := omega) [hget_set, g1, g3]
      have k1 : Kp (m + 1 + 1 + 1 + 1 + 1) H (hset H (m + 1 + 1) (.cells [.int .i64 (a + 1)])) := (Kp.refl _ H).set (by omega)
      have k2 : Kp (m + 1 + 1 + 1 + 1 + 1) H ((n, .cells x.av.cells) :: hset H (m + 1 + 1) (.cells [.int .i64 (a + 1)])) := k1.cons hL.set
      have k3 : Kp (m + 1 + 1 + 1 + 1 + 1) H ((n, .cells x.av.cells) :: hset (hset H (m + 1 + 1) (.cells [.int .i64 (a + 1)])) (m + 1) (.cells [.bool false])) := (k1.set (by omega)).cons hL.set.set
      have stop : (100 < d ∨ 3000 < a + 1 ∨ ¬ ownP x) → rightR a (d, x) = (false, a) := fun c => if_pos c
      by_cases c1 : 100 < d
      · rw [stop (.inl c1)]
        simp (disch := omega) [e2, e3, e4, g1, g2, c1, hget_set, Ex.ofJump]
        exact ⟨r2, k3⟩
      by_cases c2 : 3000 < a + 1
      · rw [stop (.inr (.inl c2))]
        simp (disch := omega) [e2, e3, e4, g1, g2, c1, c2, hget_set, Ex.ofJump]
        exact ⟨r2, k3⟩
      simp (disch := omega) [e3, e4, e5, g2, c1, c2, hget_set, r_call hm]
      have w3 := (r1 c2)
      refine CallK.ret (own_spec hm h96 h144 x xw _ _ w3.low) (fun m2 hm2 => ?_)
      by_cases c3 : ownP x
      · have e : rightR a (d, x) = (true, a + 1) := if_neg (by rintro (h | h | h); exact c1 h; exact c2 h; exact h c3)
        rw [e]
        simp (disch := omega) [c3, unV]
        exact ⟨by omega, w3.next hm2, k2⟩
      · rw [stop (.inr (.inr c3))]
        simp (disch := omega) [e2, g1, c3, hget_set, Ex.ofJump, unV]
        exact ⟨by omega, r2.next hm2, k3⟩
  · intro H' n' hn' hO' hL' hF
    rw [right_walk1]
    obtain ⟨F, hg, hF, hq⟩ := hF
    by_cases hr : t.right
    · rw [right_walk1, decide_eq_true hr] at hq
      obtain ⟨_, _, rfl⟩ := hq
      have g1 := hF (m + 1, .cells [.bool false]) (by simp)
      have g3 := hF (m + 1 + 1 + 1 + 1, .defs) (by simp)
      simp at g1 g3
      simp (disch := omega) [hr, g1]
      refine fin_marks (os := [m + 1 + 1 + 1 + 1]) (.inl rfl) (by simp) (by simp (disch := omega) [hget_set, g3]) ?_
      simp (disch := omega) [hget_set, hget_del, g1, Ret]
      exact ⟨((hO'.set hl (by omega)).del hl (by omega)).gc hl, by omega⟩
    · rw [right_walk1, decide_eq_false hr] at hq
      obtain rfl := hq
      have g1 := hF (m + 1, .cells [.bool false]) (by simp)
      have g3 := hF (m + 1 + 1 + 1 + 1, .defs) (by simp)
      simp at g1 g3
      simp (disch := omega) [hr, Ex.ofJump]
      refine fin_marks (os := [m + 1 + 1 + 1 + 1]) (.inl rfl) (by simp) (by simp (disch := omega) [g3]) ?_
      simp (disch := omega) [hget_del, g1, Ret]
      exact ⟨(hO'.del hl (by omega)).gc hl, by omega⟩
end Go.AM
