/- A part of the proof of: EmitBecomes: what a term becomes by patterns, and a pattern's name, is what the document says, or the error is told. -/
import Derived.Test.YtkopdkjpmccbmaaGreatDoorM40
import Derived.Test.YtkopdkjpmccbmaaGreatDoorM24
import Derived.Test.YtkopdkjpmccbmaaGreatDoorM25
namespace Go.AM
variable {T : Tab} {α β : Type} {l m : Nat} {h : Heap} {o : Bool → AObj} {Q : Bool → α → List (Nat × AObj) → Prop} {R : α → Int × Tm → Bool × α} {ok : α → Int × Tm → Prop}

theorem all_spec (hm : PrimMono T) (h143 : Has T 92 a92) (h214 : Has T 128 a128) (hl : Low h m) (hml : m ≤ l) (hstep : StepOk T l m h o Q R itm ok) (t : Tm) (wf : t.Wf) (hs : t.size ≤ 4000) (a : α) (hok : okW R ok 1 t a) (H : Heap) (n : Nat) (w : Wd l m h (o true) (Q true a) ⟨H, n⟩) :
    Spec T (.fn 92) [t.av, .fn (.yield l) [] []] ⟨H, n⟩ (Post l m h o Q (walkF R 1 t a) n H) := by
  refine spec_fn hm h143.prim h143.func rfl ?_
  have hln := w.lt
  simp at hln
  have hmn : m ≤ n := by omega
  have w3 : Wd l m h (o true) (Q true a) ⟨(n + 1 + 1, .cells [.fn (.func 128) [] [.ptr (n + 1) 0, .ptr (n + 1 + 1) 0]]) :: (n + 1, .cells [.fn (.yield l) [] []]) :: (n, .cells t.av.cells) :: H, n + 1 + 1 + 1⟩ :=
    ((w.cons hmn).cons (by omega)).cons (by omega)
  simp (disch := omega) [a92, r_callt hm]
  refine CallV.intro rfl (all1_spec hm h214 hl hml hstep t wf hs 1 (by omega) (by omega) a hok _ _ (n + 1) (n + 1 + 1) (by omega) (by omega) (by simp (disch := omega)) (by simp (disch := omega)) w3) ?_
  rintro v ⟨H1, n1⟩ ⟨rfl, hn1, w1, k1⟩
  simp at hn1
  simp
  refine ⟨rfl, by simp; omega, w1.gc1 hl hln hmn, fun j c hj hh => ?_⟩
  have := w.low.lt hh
  simp at this
  exact hgc1_keep (k1 j c hj (by rw [hget_ne _ _ (by omega), hget_ne _ _ (by omega), hget_ne _ _ (by omega)]; exact hh)) (.inl this)
/-- Behind a walk: what it answered is not told. -/
def PostU (l m : Nat) (h : Heap) (o : Bool → AObj) (Q : Bool → α → List (Nat × AObj) → Prop) (r : Bool × α) (n : Nat) : AV → St → Prop := fun _ τ => n ≤ τ.next ∧ Wd l m h (o r.1) (Q r.1 r.2) τ
theorem each1_spec (hm : PrimMono T) (h142 : Has T 91 a91) (h143 : Has T 92 a92) (h214 : Has T 128 a128) (hl : Low h m) (hml : m ≤ l) (hstep : StepOk T l m h o Q R itm ok) (t : Tm) (wf : t.Wf) (hs : t.size ≤ 4000) (a : α) (hok : okW R ok 1 t a) (H : Heap) (n b : Nat) (hb : hget H b = some (.cells t.av.cells)) (w : Wd l m h (o true) (Q true a) ⟨H, n⟩) :
    Spec T (.fn 91) [.fn (.yield l) [] [], .ptr b 0] ⟨H, n⟩ (PostU l m h o Q (walkF R 1 t a) n) := by
  refine spec_fn hm h142.prim h142.func rfl ?_
  have hln := w.lt
  simp at hln
  have hmn : m ≤ n := by omega
  simp (disch := omega) [a91, r_call hm, hb]
  refine ⟨_, all_spec hm h143 h214 hl hml hstep t wf hs a hok H n w, ?_⟩
  rintro v ⟨H1, n1⟩ ⟨rfl, hn1, w1, k1⟩
  simp at hn1
  simp
  exact ⟨by simp; omega, w1.gc1 hl hln hmn⟩
theorem each_spec (hm : PrimMono T) (h95 : Has T 50 a50) (t : Tm) (H : Heap) (n : Nat) : Spec T (.fn 50) [t.av] ⟨H, n⟩ (fun v τ => v = .fn (.func 91) [] [.ptr n 0] ∧ τ = ⟨(n, .cells t.av.cells) :: H, n + 1⟩) := by
  refine spec_fn hm h95.prim h95.func rfl ?_
  simp [a50]

theorem run_range (hm : PrimMono T) {ks : List K} {env : Env} {ds : List ADef} {Q : Ex → Env → List ADef → St → Prop} {f : Opd} {ps : List Nat} {as body : ACode} {H : Heap} {n c : Nat} {args : List AV} {P : AV → St → Prop}
    (hc : callee (f.eval env) [.fn (.yield (n + 1)) [] []] = some (.fn c, args)) (hs : Spec T (.fn c) args ⟨(n + 1, .loop .ready none env ps as body) :: (n, .defs) :: H, n + 1 + 1⟩ P)
    (k : ∀ v τ, P v τ → ∃ st j tm' ps' as' body', hget τ.heap (n + 1) = some (.loop st j tm' ps' as' body') ∧ st ≠ .busy ∧ Run T ks (Jump.ex j) env (.mark n :: ds) ⟨hdel τ.heap (n + 1), τ.next⟩ Q) :
    Run T (.code (.rangeFunc f ps as body) :: ks) .normal env ds ⟨H, n⟩ Q := by
  obtain ⟨f1, v, τ, h1, h2⟩ := hs
  obtain ⟨st, j, tm', ps', as', body', h3, h4, f2, x, e, d, s, h5, h6⟩ := k v τ h2
  refine ⟨max f1 f2, x, e, d, s, ?_, h6⟩
  have h7 := exec_more hm (Nat.le_max_right f1 f2) _ _ _ _ _ _ h5
  have h8 := call_le hm f1 _ (Nat.le_max_left f1 f2) _ _ _ _ h1
  rw [exec_append _ _ .normal]
  have : code (.rangeFunc f ps as body) (call T (max f1 f2)) (max f1 f2) ⟨env, ds⟩ ⟨H, n⟩ = some (Jump.ex j, ⟨env, .mark n :: ds⟩, ⟨hdel τ.heap (n + 1), τ.next⟩) := by
    show codeRange f ps as body (call T (max f1 f2)) (max f1 f2) ⟨env, ds⟩ ⟨H, n⟩ = _
    unfold codeRange
    dsimp only
    rw [hc]
    dsimp only
    have h9 : (St.add (St.add ⟨H, n⟩ .defs) (.loop .ready none env ps as body)) = ⟨(n + 1, .loop .ready none env ps as body) :: (n, .defs) :: H, n + 1 + 1⟩ := rfl
    rw [h9, h8]
    dsimp only
    have h10 : τ.get (n + 1) = some (.loop st j tm' ps' as' body') := h3
    rw [h10]
    dsimp only
    rw [if_neg h4]
    rfl
  rw [this]
  exact h7

theorem hget_del {H : Heap} {i j : Nat} (hij : i ≠ j) : hget (hdel H i) j = hget H j := by
  induction H with
  | nil => rfl
  | cons q l ih =>
    obtain ⟨k, x⟩ := q
    have e : hdel ((k, x) :: l) i = bif Nat.beq k i then l else (k, x) :: hdel l i := rfl
    rw [e]
    by_cases hk : k = i
    · subst hk; rw [Nat.beq_refl, cond_true, hget_ne _ _ hij]
    · rw [beq_ne hk, cond_false]
      by_cases hkj : k = j
      · subst hkj; rw [hget_eq, hget_eq]
      · rw [hget_ne _ _ hkj, hget_ne _ _ hkj, ih]
theorem hdel_mem {H : Heap} {i : Nat} : ∀ p ∈ hdel H i, p ∈ H := by
  induction H with
  | nil => intro p hp; cases hp
  | cons q l ih =>
    obtain ⟨k, x⟩ := q
    have e : hdel ((k, x) :: l) i = bif Nat.beq k i then l else (k, x) :: hdel l i := rfl
    rw [e]
    intro p hp
    by_cases hk : k = i
    · subst hk; rw [Nat.beq_refl, cond_true] at hp; exact List.mem_cons_of_mem _ hp
    · rw [beq_ne hk, cond_false] at hp
      cases hp with
      | head => exact List.mem_cons_self
      | tail _ hp => exact List.mem_cons_of_mem _ (ih p hp)
theorem Low.del {H : Heap} {n i : Nat} (hL : Low H n) : Low (hdel H i) n := fun p hp => hL p (hdel_mem p hp)
theorem hdel_low {h : Heap} {i : Nat} (hl : Low h i) : hdel h i = h := by
  induction h with
  | nil => rfl
  | cons q l ih =>
    obtain ⟨k, x⟩ := q
    have e : hdel ((k, x) :: l) i = bif Nat.beq k i then l else (k, x) :: hdel l i := rfl
    have hk : k < i := hl (k, x) List.mem_cons_self
    rw [e, beq_ne (by omega), cond_false, ih (fun p hp => hl p (List.mem_cons_of_mem _ hp))]
theorem Over.del {m i : Nat} {h H : Heap} (hO : Over m h H) (hl : Low h m) (hi : m ≤ i) : Over m h (hdel H i) := by
  obtain ⟨pre, rfl, hp⟩ := hO
  induction pre with
  | nil => rw [List.nil_append, hdel_low (hl.mono hi)]; exact Over.refl m h
  | cons q l ih =>
    obtain ⟨k, x⟩ := q
    have e : hdel ((k, x) :: l ++ h) i = bif Nat.beq k i then l ++ h else (k, x) :: hdel (l ++ h) i := rfl
    have hl' := ih (fun p hp' => hp p (List.mem_cons_of_mem _ hp'))
    rw [e]
    by_cases hk : k = i
    · subst hk; rw [Nat.beq_refl, cond_true]; exact ⟨l, rfl, fun p hp' => hp p (List.mem_cons_of_mem _ hp')⟩
    · rw [beq_ne hk, cond_false]; exact hl'.cons (hp (k, x) List.mem_cons_self)
theorem Facts.del {F : List (Nat × AObj)} {H : Heap} {i : Nat} (h : Facts F H) (hi : ∀ p ∈ F, p.1 ≠ i) : Facts F (hdel H i) := fun p hp => by
  rw [hget_del (fun h' => hi p hp h'.symm)]; exact h p hp

/-- A range over all of a term. -/
theorem each_range (hm : PrimMono T) (h142 : Has T 91 a91) (h143 : Has T 92 a92) (h214 : Has T 128 a128) {m : Nat} {h : Heap} {Q : Bool → α → List (Nat × AObj) → Prop} {R : α → Int × Tm → Bool × α} {ok : α → Int × Tm → Prop}
    {ks : List K} {env : Env} {ds : List ADef} {Q' : Ex → Env → List ADef → St → Prop} {f : Opd} {ps : List Nat} {as body : ACode} {H : Heap} {n b : Nat} (t : Tm) (wf : t.Wf) (hs : t.size ≤ 4000) (j : Jump) (a : α) (hok : okW R ok 1 t a)
    (hl : Low h m) (hO : Over m h H) (hL : Low H n) (hmn : m ≤ n) (hf : f.eval env = .fn (.func 91) [] [.ptr b 0]) (hb : hget H b = some (.cells t.av.cells)) (hQ : ∃ F, Facts F ((n, .defs) :: H) ∧ Q true a F)
    (hstep : StepOk T (n + 1) m h (lob env ps as body j) Q R itm ok)
    (k : ∀ H' n', n + 2 ≤ n' → Over m h H' → Low H' n' → (∃ F, Good (n + 1) F ∧ Facts F H' ∧ Q (walkF R 1 t a).1 (walkF R 1 t a).2 F) → Run T ks (if (walkF R 1 t a).1 then .normal else Ex.ofJump j) env (.mark n :: ds) ⟨H', n'⟩ Q') :
    Run T (.code (.rangeFunc f ps as body) :: ks) .normal env ds ⟨H, n⟩ Q' := by
  have hbn := hL.lt hb
  obtain ⟨F, hF, hq⟩ := hQ
  have hL1 : Low ((n, AObj.defs) :: H) (n + 1) := hL.cons (Nat.lt_succ_self n)
  refine run_range hm (c := 91) (args := [.fn (.yield (n + 1)) [] [], .ptr b 0]) (by rw [hf]; rfl) (each1_spec hm h142 h143 h214 hl (by omega) hstep t wf hs a hok _ _ b ?_ ⟨(hO.cons hmn).cons (by omega), hL1.cons (Nat.lt_succ_self _), Nat.lt_succ_self _, hget_eq _ _ _, F, fun p hp => ?_, hF.cons hL1, hq⟩) ?_
  · rw [hget_ne _ _ (by omega), hget_ne _ _ (by omega)]; exact hb
  · have := hL1.lt (hF p hp); omega
  · rintro v ⟨H', n'⟩ ⟨hn', w⟩
    have hobj := w.obj
    obtain ⟨F', g', f', q'⟩ := w.known
    have hk := k (hdel H' (n + 1)) n' hn' (w.over.del hl (by omega)) w.low.del ⟨F', g', f'.del (fun p hp => (g' p hp).1), q'⟩
    cases hc : (walkF R 1 t a).1 with
    | true => rw [hc] at hobj hk; exact ⟨_, _, _, _, _, _, hobj, by simp, hk⟩
    | false => rw [hc] at hobj hk; exact ⟨_, _, _, _, _, _, hobj, by simp, by rw [ex_of]; exact hk⟩

theorem Wd.setk {l m n i : Nat} {h H : Heap} {o o' : AObj} {Q Q' : List (Nat × AObj) → Prop} (w : Wd l m h o Q ⟨H, n⟩) (hl : Low h m) (hil : i ≠ l) (hmi : m ≤ i) (hF : ∃ F, Good l F ∧ Facts F (hset H i o') ∧ Q' F) : Wd l m h o Q' ⟨hset H i o', n⟩ :=
  ⟨w.over.set hl hmi, w.low.set, w.lt, by show hget (hset H i o') l = _; rw [hget_set, if_neg hil]; exact w.obj, hF⟩
/-- A round whose assignment lays the item into a box. -/
theorem step_box (hm : PrimMono T) {l m : Nat} {h : Heap} {tm : Env} {ps : List Nat} {as body : ACode} {j : Jump} {Q : Bool → α → List (Nat × AObj) → Prop} {R : α → β → Bool × α} {args : β → List AV} {ok : α → β → Prop} (bx : β → List AV) (E : β → Nat → Env → Prop) (hl : Low h m) (hml : m ≤ l)
    (hlen : ∀ x, (args x).length = ps.length)
    (H1 : ∀ a x H n, ok a x → l < n → Run T [.code as] .normal (putAll tm ps (args x)) [] ⟨H, n⟩ fun ex env ds σ => ex = .normal ∧ ds = [] ∧ σ = ⟨(n, .cells (bx x)) :: H, n + 1⟩ ∧ E x n env)
    (H2 : ∀ ob a x H n env, ob.tok? = none → ok a x → E x n env → l < n → Low H n → Wd l m h ob (Q true a) ⟨(n, .cells (bx x)) :: H, n + 1⟩ →
      Run T [.code body] .normal env [] ⟨(n, .cells (bx x)) :: H, n + 1⟩ fun ex _ ds σ => ds = [] ∧ ((R a x).1 = true ∧ ex = .normal ∨ (R a x).1 = false ∧ ex = Ex.ofJump j) ∧ n ≤ σ.next ∧ Wd l m h ob (Q (R a x).1 (R a x).2) σ ∧ Kp l H σ.heap) :
    StepOk T l m h (lob tm ps as body j) Q R args ok := by
  refine step_ok hm hl hml hlen fun a x H n hx w => ?_
  have hln := w.lt
  obtain ⟨f, ex, env, ds, σ, h1, rfl, rfl, rfl, h2⟩ := H1 a x H n hx hln
  simp at hln
  refine ⟨f, _, _, _, _, h1, rfl, by show hget ((n, _) :: H) l = _; rw [hget_ne _ _ (by omega)]; exact w.obj, ?_⟩
  have w1 := w.setl (o' := .loop .busy none tm ps as body) hl hml
  have e : St.set ⟨(n, .cells (bx x)) :: H, n + 1⟩ l (.loop .busy none tm ps as body) = ⟨(n, .cells (bx x)) :: hset H l (.loop .busy none tm ps as body), n + 1⟩ := by
    rw [st_set, hset_ne _ _ _ (by omega)]
  rw [e]
  obtain ⟨f2, ex2, env2, ds2, σ2, g1, g2, g3, g4, g5, g6⟩ := H2 _ a x _ n env rfl hx h2 hln w1.low (Wd.cons (n := n) w1 (by omega))
  exact ⟨f2, ex2, env2, ds2, σ2, g1, g2, g3, g4, g5, ((Kp.refl l H).set (Nat.le_refl l)).trans g6⟩

/-! ### What is deferred at the end: marks -/
theorem runDefs_marks {cl : CallF} : ∀ (os : List Nat) (H : Heap) (n : Nat), os.Nodup → (∀ o ∈ os, hget H o = some .defs) → runDefs cl (os.map .mark) ⟨H, n⟩ = some ⟨os.foldl hdel H, n⟩ := by
  intro os
  induction os with
  | nil => intro H n _ _; rfl
  | cons o os ih =>
    intro H n hnd hd
    show runDefs cl (.mark o :: os.map .mark) ⟨H, n⟩ = _
    unfold runDefs
    have h0 : St.get ⟨H, n⟩ o = some .defs := hd o List.mem_cons_self
    rw [h0]
    dsimp only
    rw [List.nodup_cons] at hnd
    exact ih (hdel H o) n hnd.2 (fun o' ho' => by
      rw [hget_del (by rintro rfl; exact hnd.1 ho')]; exact hd o' (List.mem_cons_of_mem _ ho'))
theorem foldl_del_over {m : Nat} {h : Heap} (hl : Low h m) : ∀ (os : List Nat) (H : Heap), (∀ o ∈ os, m ≤ o) → Over m h H → Over m h (os.foldl hdel H) := by
  intro os
  induction os with
  | nil => intro H _ hO; exact hO
  | cons o os ih => intro H hos hO; exact ih _ (fun o' h' => hos o' (List.mem_cons_of_mem _ h')) (hO.del hl (hos o List.mem_cons_self))
/-- At the end, marks deferred. -/
theorem fin_marks {T : Tab} {res : List (Nat × Option (Option Nat))} {sr : Bool} {gc m : Nat} {P : AV → St → Prop} {x : Ex} {env : Env} {os : List Nat} {H : Heap} {n : Nat} (hx : x = .ret ∨ x = .normal) (hnd : os.Nodup) (hd : ∀ o ∈ os, hget H o = some .defs)
    (hk : ∃ vs, readResults env ⟨os.foldl hdel H, n⟩ res = some vs ∧ P (bif sr then stripVal (one vs) else one vs) (St.gc ⟨os.foldl hdel H, n⟩ gc m)) : Fin T res sr gc m P x env (os.map .mark) ⟨H, n⟩ := by
  refine ⟨by rcases hx with rfl | rfl <;> trivial, 0, ⟨os.foldl hdel H, n⟩, runDefs_marks os H n hnd hd, hk⟩
end Go.AM
namespace Go.AM
variable {T : Tab}
open Classical

noncomputable def rightR (a : Int) (x : Int × Tm) : Bool × Int := if 100 < x.1 ∨ 3000 < a + 1 ∨ ¬ ownP x.2 then (false, a) else (true, a + 1)
theorem fair_own (k : Int) (s : List UInt8) (n : Int) (l : List Tm) : (Tm.mk k s n l).fair ↔ ownP (.mk k s n l) ∧ Tm.fairs l := by
  rw [Tm.fair, ownOk, ownP, nameOk]
  by_cases k1 : k = 1
  · subst k1; simp only [if_true]
    constructor
    · rintro ⟨_, h2, h3⟩; exact ⟨h3, h2⟩
    · rintro ⟨h1, h2⟩; exact ⟨by rw [h1.2.2.1]; exact chars_nil, h2, h1⟩
  · rw [if_neg k1, if_neg k1]
    by_cases k2 : k = 2
    · subst k2; simp only [if_true]
      constructor
      · rintro ⟨_, h2, h3⟩; exact ⟨h3, h2⟩
      · rintro ⟨h1, h2⟩; exact ⟨by rw [h1.1]; exact chars_nil, h2, h1⟩
    · rw [if_neg k2, if_neg k2]
      constructor
      · rintro ⟨h1, h2, h3, h4, h5, h6, h7⟩; exact ⟨⟨h3, h4, ⟨h1, by omega, by omega⟩, by omega⟩, h2⟩
      · rintro ⟨⟨h3, h4, ⟨h1, h5, h6⟩, h7⟩, h2⟩; exact ⟨h1, h2, h3, h4, by omega, by omega, by omega⟩
theorem right_walk (t : Tm) : ∀ (d a : Int), 1 ≤ d → 0 ≤ a → a ≤ 3000 → ((walkF rightR d t a).1 = true ↔ t.fair ∧ a + t.size ≤ 3000 ∧ d - 1 + t.deep ≤ 100) ∧ ((walkF rightR d t a).1 = true → (walkF rightR d t a).2 = a + t.size) := by
  refine Tm.ind (M := fun t => ∀ (d a : Int), 1 ≤ d → 0 ≤ a → a ≤ 3000 → ((walkF rightR d t a).1 = true ↔ t.fair ∧ a + t.size ≤ 3000 ∧ d - 1 + t.deep ≤ 100) ∧ ((walkF rightR d t a).1 = true → (walkF rightR d t a).2 = a + t.size)) (fun k s n l ih d a hd ha0 ha => ?_) t
  have key : ∀ (l : List Tm), (∀ x ∈ l, ∀ (d a : Int), 1 ≤ d → 0 ≤ a → a ≤ 3000 → ((walkF rightR d x a).1 = true ↔ x.fair ∧ a + x.size ≤ 3000 ∧ d - 1 + x.deep ≤ 100) ∧ ((walkF rightR d x a).1 = true → (walkF rightR d x a).2 = a + x.size)) →
      ∀ (d a : Int), 1 ≤ d → d ≤ 101 → 0 ≤ a → a ≤ 3000 → ((walkFs rightR d l a).1 = true ↔ Tm.fairs l ∧ a + Tm.sizes l ≤ 3000 ∧ d - 1 + Tm.deeps l ≤ 100) ∧ ((walkFs rightR d l a).1 = true → (walkFs rightR d l a).2 = a + Tm.sizes l) := by
    intro l
    induction l with
    | nil => intro _ d a hd hd1 ha0 ha; rw [walkFs, Tm.fairs, Tm.sizes, Tm.deeps]; simp; omega
    | cons t l ihl =>
      intro ih d a hd hd1 ha0 ha
      obtain ⟨i1, i2⟩ := ih t (by simp) d a hd ha0 ha
      rw [walkFs, Tm.fairs, Tm.sizes, Tm.deeps]
      by_cases hc : (walkF rightR d t a).1 = true
      · rw [if_pos hc, i2 hc]
        have j := i1.mp hc
        obtain ⟨j1, j2⟩ := ihl (fun x hx => ih x (by simp [hx])) d (a + t.size) hd hd1 (by omega) j.2.1
        refine ⟨j1.trans ⟨fun q => ⟨⟨j.1, q.1⟩, by omega, by omega⟩, fun q => ⟨q.1.2, by omega, by omega⟩⟩, fun hh => ?_⟩
        rw [j2 hh]; omega
      · rw [if_neg hc]
        refine ⟨⟨fun q => (by cases q), fun q => absurd (i1.mpr ⟨q.1.1, by omega, by omega⟩) hc⟩, fun q => (by cases q)⟩
  rw [walkF, fair_own, Tm.size, Tm.deep]
  by_cases hc : 100 < d ∨ 3000 < a + 1 ∨ ¬ ownP (.mk k s n l)
  · have e : rightR a (d, .mk k s n l) = (false, a) := by unfold rightR; rw [if_pos hc]
    rw [e]
    simp only [Bool.false_eq_true, if_false]
    refine ⟨⟨fun q => (by cases q), fun q => ?_⟩, fun q => (by cases q)⟩
    rcases hc with hc | hc | hc
    · omega
    · omega
    · exact absurd q.1.1 hc
  · have e : rightR a (d, .mk k s n l) = (true, a + 1) := by unfold rightR; rw [if_neg hc]
    rw [e]
    simp only [if_true]
    have h1 : d ≤ 100 := by omega
    have h2 : a + 1 ≤ 3000 := by omega
    have h3 : ownP (.mk k s n l) := Classical.byContradiction fun h => hc (.inr (.inr h))
    obtain ⟨j1, j2⟩ := key l ih (d + 1) (a + 1) (by omega) (by omega) (by omega) h2
    refine ⟨j1.trans ⟨fun q => ⟨⟨h3, q.1⟩, by omega, by omega⟩, fun q => ⟨q.1.2, by omega, by omega⟩⟩, fun hh => ?_⟩
    rw [j2 hh]; omega
theorem right_walk1 (t : Tm) : (walkF rightR 1 t 0).1 = decide t.right := by
  have h := (right_walk t 1 0 (by omega) (by omega) (by omega)).1
  have hr : t.right ↔ t.fair ∧ t.size ≤ 3000 ∧ t.deep ≤ 100 := Iff.rfl
  by_cases hc : (walkF rightR 1 t 0).1 = true
  · have := h.mp hc; rw [hc]; symm; rw [decide_eq_true_eq, hr]; exact ⟨this.1, by omega, by omega⟩
  · have h2 : (walkF rightR 1 t 0).1 = false := by simpa using hc
    rw [h2]; symm; rw [decide_eq_false_iff_not, hr]; intro q; exact hc (h.mpr ⟨q.1, by omega, by omega⟩)

def rightQ (m : Nat) : Bool → Int → List (Nat × AObj) → Prop
  | true, a, F => 0 ≤ a ∧ a ≤ 3000 ∧ F = [(m + 1, .cells [.bool false]), (m + 1 + 1, .cells [.int .i64 a]), (m + 1 + 1 + 1 + 1, .defs)]
  | false, _, F => F = [(m + 1, .cells [.bool false]), (m + 1 + 1 + 1 + 1, .defs)]

theorem right2_spec (hm : PrimMono T) (h45 : Has T 24 a24) (h95 : Has T 50 a50) (h142 : Has T 91 a91) (h143 : Has T 92 a92) (h214 : Has T 128 a128) (h96 : Has T 51 a51) (h144 : Has T 93 a93) (t : Tm) (wf : t.Wf) (hs : t.size ≤ 4000) (h : Heap) (m : Nat) (hl : Low h m) :
    Spec T (.fn 24) [t.av] ⟨h, m⟩ (Ret h m (.bool (decide t.right))) := by
  refine spec_fn hm h45.prim h45.func rfl ?_
  simp (disch := omega) [a24, r_call hm]
  refine ⟨_, each_spec hm h95 t _ _, ?_⟩
  rintro v τ ⟨rfl, rfl⟩
  simp
  have hO : Over m h ((m + 1 + 1 + 1, .cells t.av.cells) :: (m + 1 + 1, .cells [.int .i64 0]) :: (m + 1, .cells [.bool false]) :: (m, .cells t.av.cells) :: h) :=
    ((((Over.refl m h).cons (Nat.le_refl m)).cons (by omega)).cons (by omega)).cons (by omega)
  have hL : Low ((m + 1 + 1 + 1, .cells t.av.cells) :: (m + 1 + 1, .cells [.int .i64 0]) :: (m + 1, .cells [.bool false]) :: (m, .cells t.av.cells) :: h) (m + 1 + 1 + 1 + 1) :=
    (((hl.cons (Nat.lt_succ_self m)).cons (Nat.lt_succ_self _)).cons (Nat.lt_succ_self _)).cons (Nat.lt_succ_self _)
  refine each_range hm h142 h143 h214 (Q := rightQ m) (R := rightR) (b := m + 1 + 1 + 1) t wf hs .ret 0 (okW_itm t 1 0 wf hs (by omega) (by omega)) hl hO hL (by omega) (by simp) (hget_eq _ _ _) ⟨[(m + 1, .cells [.bool false]), (m + 1 + 1, .cells [.int .i64 0]), (m + 1 + 1 + 1 + 1, .defs)], ?_, by omega, by omega, rfl⟩ ?_ ?_
  · intro p hp
    simp at hp
    rcases hp with rfl | rfl | rfl <;> simp (disch := omega)
  · let E : Int × Tm → Nat → Env → Prop := fun x n env => aget env 2 = .ptr (m + 1) 0 ∧ aget env 3 = .ptr (m + 1 + 1) 0 ∧ aget env 4 = .int .i64 x.1 ∧ aget env 5 = .ptr n 0
    refine step_box hm (fun x => x.2.av.cells) E hl (by omega) (fun _ => rfl) ?_ ?_
    · rintro _ ⟨d, x⟩ H n ⟨xw, xs, xd0, xd1⟩ hln
      simp (disch := omega) [itm, putAll, cells_all, splice_av]
      exact ⟨by simp, by simp, by simp, by simp⟩
    · rintro ob a ⟨d, x⟩ H n env _ ⟨xw, xs, xd0, xd1⟩ ⟨e2, e3, e4, e5⟩ hln hL w
      obtain ⟨F, hg, hF, q0, q1, rfl⟩ := w.known
      have g1 := hF (m + 1, .cells [.bool false]) (by simp)
      have g2 := hF (m + 1 + 1, .cells [.int .i64 a]) (by simp)
      simp (disch := omega) at g1 g2 xd0 xd1 e4
      have g3 := hF (m + 1 + 1 + 1 + 1, .defs) (by simp)
      simp (disch := omega) at g3
      have hO := w.over
      have hw : Wd (m + 1 + 1 + 1 + 1 + 1) m h ob _ ⟨(n, .cells x.av.cells) :: H, n + 1⟩ := w
      have r1 : ¬ 3000 < a + 1 → Wd (m + 1 + 1 + 1 + 1 + 1) m h ob (rightQ m true (a + 1)) ⟨(n, .cells x.av.cells) :: hset H (m + 1 + 1) (.cells [.int .i64 (a + 1)]), n + 1⟩ := fun c => by
        have := hw.setk (i := m + 1 + 1) (o' := .cells [.int .i64 (a + 1)]) (Q' := rightQ m true (a + 1)) hl (by omega) (by omega) ⟨_, ?_, ?_, by omega, by omega, rfl⟩
        · rw [hset_ne _ _ _ (by omega)] at this; exact this
        · intro p hp; simp at hp; rcases hp with rfl | rfl | rfl <;> simp
        · intro p hp; simp at hp; rcases hp with rfl | rfl | rfl <;> simp (disch := omega) [hget_set, g1, g2, g3]
      have r2 : Wd (m + 1 + 1 + 1 + 1 + 1) m h ob (rightQ m false a) ⟨(n, .cells x.av.cells) :: hset (hset H (m + 1 + 1) (.cells [.int .i64 (a + 1)])) (m + 1) (.cells [.bool false]), n + 1⟩ := by
        have v1 := hw.setk (i := m + 1 + 1) (o' := .cells [.int .i64 (a + 1)]) (Q' := rightQ m false a) hl (by omega) (by omega) ⟨_, ?_, ?_, rfl⟩
        · rw [hset_ne _ _ _ (by omega)] at v1
          have v2 := v1.setk (i := m + 1) (o' := .cells [.bool false]) (Q' := rightQ m false a) hl (by omega) (by omega) ⟨_, ?_, ?_, rfl⟩
          · rw [hset_ne _ _ _ (by omega)] at v2; exact v2
          · intro p hp; simp at hp; rcases hp with rfl | rfl <;> simp
          · intro p hp; simp at hp; rcases hp with rfl | rfl <;> simp (disch := omega) [hget_set, g1, g3]
        · intro p hp; simp at hp; rcases hp with rfl | rfl <;> simp
        · intro p hp; simp at hp; rcases hp with rfl | rfl <;> simp (disch := omega) [hget_set, g1, g3]
      have k1 : Kp (m + 1 + 1 + 1 + 1 + 1) H (hset H (m + 1 + 1) (.cells [.int .i64 (a + 1)])) := (Kp.refl _ H).set (by omega)
      have k2 : Kp (m + 1 + 1 + 1 + 1 + 1) H ((n, .cells x.av.cells) :: hset H (m + 1 + 1) (.cells [.int .i64 (a + 1)])) := k1.cons hL.set
      have k3 : Kp (m + 1 + 1 + 1 + 1 + 1) H ((n, .cells x.av.cells) :: hset (hset H (m + 1 + 1) (.cells [.int .i64 (a + 1)])) (m + 1) (.cells [.bool false])) := (k1.set (by omega)).cons hL.set.set
      have stop : (100 < d ∨ 3000 < a + 1 ∨ ¬ ownP x) → rightR a (d, x) = (false, a) := fun c => if_pos c
      by_cases c1 : 100 < d
      · rw [stop (.inl c1)]
        simp (disch := omega) [e2, e3, e4, g1, g2, c1, hget_set, Ex.ofJump]
        exact ⟨r2, k3⟩
      by_cases c2 : 3000 < a + 1
      · rw [stop (.inr (.inl c2))]
        simp (disch := omega) [e2, e3, e4, g1, g2, c1, c2, hget_set, Ex.ofJump]
        exact ⟨r2, k3⟩
      simp (disch := omega) [e3, e4, e5, g2, c1, c2, hget_set, r_call hm]
      have w3 := (r1 c2)
      refine CallK.ret (own_spec hm h96 h144 x xw _ _ w3.low) (fun m2 hm2 => ?_)
      by_cases c3 : ownP x
      · have e : rightR a (d, x) = (true, a + 1) := if_neg (by rintro (h | h | h); exact c1 h; exact c2 h; exact h c3)
        rw [e]
        simp (disch := omega) [c3, unV]
        exact ⟨by omega, w3.next hm2, k2⟩
      · rw [stop (.inr (.inr c3))]
        simp (disch := omega) [e2, g1, c3, hget_set, Ex.ofJump, unV]
        exact ⟨by omega, r2.next hm2, k3⟩
  · intro H' n' hn' hO' hL' hF
    rw [right_walk1]
    obtain ⟨F, hg, hF, hq⟩ := hF
    by_cases hr : t.right
    · rw [right_walk1, decide_eq_true hr] at hq
      obtain ⟨_, _, rfl⟩ := hq
      have g1 := hF (m + 1, .cells [.bool false]) (by simp)
      have g3 := hF (m + 1 + 1 + 1 + 1, .defs) (by simp)
      simp at g1 g3
      simp (disch := omega) [hr, g1]
      refine fin_marks (os := [m + 1 + 1 + 1 + 1]) (.inl rfl) (by simp) (by simp (disch := omega) [hget_set, g3]) ?_
      simp (disch := omega) [hget_set, hget_del, g1, Ret]
      exact ⟨((hO'.set hl (by omega)).del hl (by omega)).gc hl, by omega⟩
    · rw [right_walk1, decide_eq_false hr] at hq
      obtain rfl := hq
      have g1 := hF (m + 1, .cells [.bool false]) (by simp)
      have g3 := hF (m + 1 + 1 + 1 + 1, .defs) (by simp)
      simp at g1 g3
      simp (disch := omega) [hr, Ex.ofJump]
      refine fin_marks (os := [m + 1 + 1 + 1 + 1]) (.inl rfl) (by simp) (by simp (disch := omega) [g3]) ?_
      simp (disch := omega) [hget_del, g1, Ret]
      exact ⟨(hO'.del hl (by omega)).gc hl, by omega⟩
end Go.AM
namespace Go.AM
variable {T : Tab}
open Classical

/-- Appending, what stays of other objects. -/
theorem app1g {H h : Heap} {n m sz bytes : Nat} {es : List AV} {x : AV} {tk : Tok} (hA : AppOk H m tk sz) (hO : Over m h H) (hl : Low h m) (hL : Low H n) (hn : m ≤ n) (hf : fits (es.length + 1) bytes = true) (hx : elemOk sz x = true) (hh : headOk sz es = true) :
    ∃ tk' H' n', appSlice es tk sz bytes false [x] ⟨H, n⟩ = some (.slice (es ++ [stripCell x]) tk', ⟨H', n'⟩) ∧ AppOk H' m tk' sz ∧ Over m h H' ∧ Low H' n' ∧ n ≤ n' ∧ ∀ j o, o.tok? = none → hget H j = some o → hget H' j = some o := by
  have e : appSlice es tk sz bytes false [x] ⟨H, n⟩ = grow es [stripCell x] tk sz ⟨H, n⟩ := by
    unfold appSlice
    simp [hf, hx, hh]
  rw [e]
  rcases hA with rfl | ⟨i, g, h1, rfl, h3⟩
  · refine ⟨.live n 0, (n, .tok 0 sz) :: H, n + 1, rfl, .inr ⟨n, 0, hn, rfl, hget_eq _ _ _⟩, hO.cons hn, hL.cons (Nat.lt_succ_self n), Nat.le_succ n, fun j c _ hj => ?_⟩
    have := hL.lt hj
    rw [hget_ne _ _ (by omega)]; exact hj
  · refine ⟨.live i (g + 1), hset H i (.tok (g + 1) sz), n, ?_, .inr ⟨i, g + 1, h1, rfl, by rw [hget_set, if_pos rfl, h3]; rfl⟩, hO.set hl h1, hL.set, Nat.le_refl n, fun j c hc hj => ?_⟩
    · unfold grow
      simp only [st_tokOf, h3, Option.bind_some, tok_tok, Nat.beq_refl, Bool.and_self, cond_true, st_set]
    · have : i ≠ j := fun hij => by subst hij; rw [h3] at hj; cases hj; cases hc
      rw [hget_set, if_neg this]; exact hj
/-- What is known of a slice's bearer. -/
def tokOk (m : Nat) (tk : Tok) (sz : Nat) (F : List (Nat × AObj)) : Prop := (tk = .full ∧ F = []) ∨ ∃ i g, m ≤ i ∧ tk = .live i g ∧ F = [(i, .tok g sz)]
theorem tokOk.app {m : Nat} {tk : Tok} {sz : Nat} {F : List (Nat × AObj)} {H : Heap} (h : tokOk m tk sz F) (hF : Facts F H) : AppOk H m tk sz := by
  rcases h with ⟨rfl, _⟩ | ⟨i, g, h1, rfl, rfl⟩
  · exact .inl rfl
  · exact .inr ⟨i, g, h1, rfl, hF (i, .tok g sz) (by simp)⟩
theorem AppOk.facts {m : Nat} {tk : Tok} {sz : Nat} {H : Heap} (h : AppOk H m tk sz) : ∃ F, tokOk m tk sz F ∧ Facts F H := by
  rcases h with rfl | ⟨i, g, h1, rfl, h3⟩
  · exact ⟨[], .inl ⟨rfl, rfl⟩, fun p hp => by cases hp⟩
  · exact ⟨[(i, .tok g sz)], .inr ⟨i, g, h1, rfl, rfl⟩, fun p hp => by simp at hp; subst hp; exact h3⟩
theorem tokOk.tok {m : Nat} {tk : Tok} {sz : Nat} {F : List (Nat × AObj)} (h : tokOk m tk sz F) : ∀ p ∈ F, p.2.stays = true ∧ p.2.tok? ≠ none := by
  rcases h with ⟨rfl, rfl⟩ | ⟨i, g, h1, rfl, rfl⟩
  · intro p hp; cases hp
  · intro p hp; simp at hp; subst hp; exact ⟨rfl, by simp⟩
theorem Facts.app {F G : List (Nat × AObj)} {H : Heap} (h : Facts F H) (g : Facts G H) : Facts (F ++ G) H := fun p hp => (List.mem_append.mp hp).elim (h p) (g p)
theorem Facts.left {F G : List (Nat × AObj)} {H : Heap} (h : Facts (F ++ G) H) : Facts F H := fun p hp => h p (List.mem_append_left _ hp)
theorem Facts.right {F G : List (Nat × AObj)} {H : Heap} (h : Facts (F ++ G) H) : Facts G H := fun p hp => h p (List.mem_append_right _ hp)
/-- Tokens are elsewhere than other objects. -/
theorem tokOk.set {m i : Nat} {tk : Tok} {sz : Nat} {F : List (Nat × AObj)} {H : Heap} {o o' : AObj} (h : tokOk m tk sz F) (hF : Facts F H) (hi : hget H i = some o) (ho : o.tok? = none) : Facts F (hset H i o') := hF.set fun p hp hpi => by
  have h1 := hF p hp
  rw [hpi, hi] at h1; cases h1
  exact (h.tok p hp).2 ho
theorem tokOk.good {m l : Nat} {tk : Tok} {sz : Nat} {F : List (Nat × AObj)} {H : Heap} {o : AObj} (h : tokOk m tk sz F) (hF : Facts F H) (hi : hget H l = some o) (ho : o.tok? = none) : Good l F := fun p hp => ⟨fun hpi => by
  have h1 := hF p hp
  rw [hpi, hi] at h1; cases h1
  exact (h.tok p hp).2 ho, .inr (h.tok p hp).1⟩
theorem Good.app {l : Nat} {F G : List (Nat × AObj)} (h : Good l F) (g : Good l G) : Good l (F ++ G) := fun p hp => (List.mem_append.mp hp).elim (h p) (g p)
theorem Good.left {l : Nat} {F G : List (Nat × AObj)} (h : Good l (F ++ G)) : Good l F := fun p hp => h p (List.mem_append_left _ hp)
theorem Good.right {l : Nat} {F G : List (Nat × AObj)} (h : Good l (F ++ G)) : Good l G := fun p hp => h p (List.mem_append_right _ hp)

theorem hget_sne {H : Heap} {i j : Nat} {o : AObj} (h : i ≠ j) : hget (hset H i o) j = hget H j := by rw [hget_set, if_neg h]
theorem hget_seq {H : Heap} {i : Nat} {o o0 : AObj} (h : hget H i = some o0) : hget (hset H i o) i = some o := by rw [hget_set, if_pos rfl, h]; rfl
/-! ### Sets of numbers, as maps -/
def ents (l : List Int) : List (AV × AV) := l.map fun n => (.int .i64 n, .bool true)
@[simp] theorem mapVals_map (o : Nat) (σ : St) (ks : List Nat) : mapVals (.map o) σ ks = mapGet o σ ks := rfl
@[simp] theorem keyOk4 (n : Int) : keyOk [4] (.int .i64 n) = true := rfl
@[simp] theorem eqNs44 : eqNs [4] [4] = true := rfl
theorem eqK_int (a b : Int) : eqK (.int .i64 a) (.int .i64 b) = decide (a = b) := by
  show eqI a b = _
  exact eqI_eqK a b
theorem mfind_consK (a b : AV) (l : List (AV × AV)) (x : AV) : mfind ((a, b) :: l) x = bif eqK a x then some b else mfind l x := rfl
theorem mput_consK (a b : AV) (l : List (AV × AV)) (x v : AV) : mput ((a, b) :: l) x v = bif eqK a x then (a, v) :: l else (a, b) :: mput l x v := rfl
theorem mfind_ents (l : List Int) (n : Int) : mfind (ents l) (.int .i64 n) = if n ∈ l then some (.bool true) else none := by
  induction l with
  | nil => rfl
  | cons a l ih =>
    show mfind ((.int .i64 a, .bool true) :: ents l) _ = _
    rw [mfind_consK, eqK_int, ih]
    by_cases h : a = n
    · subst h; simp
    · have : n ≠ a := fun h' => h h'.symm
      simp [h, this]
theorem mput_ents (l : List Int) (n : Int) (hn : n ∉ l) : mput (ents l) (.int .i64 n) (.bool true) = ents (l ++ [n]) := by
  induction l with
  | nil => rfl
  | cons a l ih =>
    simp at hn
    show mput ((.int .i64 a, .bool true) :: ents l) _ _ = _
    rw [mput_consK, eqK_int, ih hn.2]
    have : a ≠ n := fun h' => hn.1 h'.symm
    simp [this, ents]

noncomputable def varsR (acc : List Int) (x : Int × Tm) : Bool × List Int := match x.2 with
  | .mk k _ n _ => (true, if k = 1 ∧ n ∉ acc then acc ++ [n] else acc)
def varsQ (m : Nat) (os : List Nat) (c : Bool) (acc : List Int) (F : List (Nat × AObj)) : Prop :=
  c = true ∧ ∃ tk TF, tokOk m tk 1 TF ∧ F = [(m, .map [4] (ents acc)), (m + 1, .cells [.map m]), (m + 1 + 1, .cells [.slice (ints acc) tk])] ++ TF ++ os.map fun o => (o, .defs)

theorem varsR_true (acc : List Int) (x : Int × Tm) : (varsR acc x).1 = true := by obtain ⟨d, k, s, n, l⟩ := x; rfl
theorem varsR_len (acc : List Int) (x : Int × Tm) : (varsR acc x).2.length ≤ acc.length + 1 := by
  obtain ⟨d, k, s, n, l⟩ := x
  show (if k = 1 ∧ n ∉ acc then acc ++ [n] else acc).length ≤ _
  split <;> simp
theorem vars_walk (t : Tm) : ∀ (d : Int) (acc : List Int), (walkF varsR d t acc).1 = true ∧ (walkF varsR d t acc).2.length ≤ acc.length + t.size := by
  refine Tm.ind (M := fun t => ∀ (d : Int) (acc : List Int), (walkF varsR d t acc).1 = true ∧ (walkF varsR d t acc).2.length ≤ acc.length + t.size) (fun k s n l ih d acc => ?_) t
  rw [walkF, if_pos (varsR_true _ _), Tm.size]
  have : ∀ (l : List Tm), (∀ x ∈ l, ∀ (d : Int) (acc : List Int), (walkF varsR d x acc).1 = true ∧ (walkF varsR d x acc).2.length ≤ acc.length + x.size) → ∀ (d : Int) (acc : List Int), (walkFs varsR d l acc).1 = true ∧ (walkFs varsR d l acc).2.length ≤ acc.length + Tm.sizes l := by
    intro l
    induction l with
    | nil => intro _ d acc; rw [walkFs, Tm.sizes]; simp
    | cons t l ihl =>
      intro ih d acc
      rw [walkFs, Tm.sizes, if_pos (ih t (by simp) d acc).1]
      have h1 := (ih t (by simp) d acc).2
      have h2 := ihl (fun x hx => ih x (by simp [hx])) d (walkF varsR d t acc).2
      exact ⟨h2.1, by omega⟩
  have h1 := varsR_len acc (d, .mk k s n l)
  have h2 := this l ih (d + 1) (varsR acc (d, .mk k s n l)).2
  exact ⟨h2.1, by omega⟩
theorem vars_ok (t : Tm) : ∀ (d : Int) (acc : List Int), acc.length + t.size ≤ 8000 → okW varsR (fun acc _ => acc.length ≤ 8000) d t acc := by
  refine Tm.ind (M := fun t => ∀ (d : Int) (acc : List Int), acc.length + t.size ≤ 8000 → okW varsR (fun acc _ => acc.length ≤ 8000) d t acc) (fun k s n l ih d acc h => ?_) t
  rw [Tm.size] at h
  rw [okW]
  have : ∀ (l : List Tm), (∀ x ∈ l, ∀ (d : Int) (acc : List Int), acc.length + x.size ≤ 8000 → okW varsR (fun acc _ => acc.length ≤ 8000) d x acc) → ∀ (d : Int) (acc : List Int), acc.length + Tm.sizes l ≤ 8000 → okWs varsR (fun acc _ => acc.length ≤ 8000) d l acc := by
    intro l
    induction l with
    | nil => intro _ d acc _; rw [okWs]; trivial
    | cons t l ihl =>
      intro ih d acc h
      rw [Tm.sizes] at h
      rw [okWs]
      have h1 := (vars_walk t d acc).2
      exact ⟨ih t (by simp) d acc (by omega), fun _ => ihl (fun x hx => ih x (by simp [hx])) d _ (by omega)⟩
  have h1 := varsR_len acc (d, .mk k s n l)
  exact ⟨by show acc.length ≤ 8000; omega, fun _ => this l ih (d + 1) _ (by omega)⟩
noncomputable def varsAll (acc : List Int) : List Tm → List Int
  | [] => acc
  | t :: l => varsAll (walkF varsR 1 t acc).2 l

theorem defs_facts {os : List Nat} {H : Heap} : Facts (os.map fun o => (o, .defs)) H ↔ ∀ o ∈ os, hget H o = some .defs := by
  constructor
  · intro h o ho; exact h (o, .defs) (List.mem_map.mpr ⟨o, ho, rfl⟩)
  · intro h p hp; obtain ⟨o, ho, rfl⟩ := List.mem_map.mp hp; exact h o ho

set_option maxHeartbeats 1000000 in
theorem vars2_spec (hm : PrimMono T) (h47 : Has T 49 a49) (h95 : Has T 50 a50) (h142 : Has T 91 a91) (h143 : Has T 92 a92) (h214 : Has T 128 a128) (l : List Tm) (wf : ∀ x ∈ l, x.Wf) (hs : Tm.sizes l ≤ 4000) (tk0 : Tok) (h : Heap) (m : Nat) (hl : Low h m) :
    Spec T (.fn 49) [.slice (Tm.avs l) tk0] ⟨h, m⟩ (RetS h m (ints (varsAll [] l))) := by
  refine spec_fn hm h47.prim h47.func rfl ?_
  have hlen := sizes_len l
  simp (disch := omega) [a49]
  let I : Nat → Env → List ADef → St → Prop := fun q env ds σ => ∃ (os : List Nat) (i : Nat) (acc : List Int) (tk : Tok) (TF : List (Nat × AObj)) (H : Heap) (m' : Nat), ds = os.map .mark ∧ i ≤ l.length ∧ q = l.length - i ∧ m + 1 + 1 < m' ∧
    σ = ⟨H, m'⟩ ∧ aget env 3 = .ptr (m + 1) 0 ∧ aget env 4 = .ptr (m + 1 + 1) 0 ∧ aget env 10 = .slice (Tm.avs l) tk0 ∧ aget env 11 = .int .i64 l.length ∧ aget env 12 = .int .i64 i ∧
    Over m h H ∧ Low H m' ∧ os.Nodup ∧ (∀ o ∈ os, m + 1 + 1 < o) ∧ tokOk m tk 1 TF ∧ Facts ([(m, .map [4] (ents acc)), (m + 1, .cells [.map m]), (m + 1 + 1, .cells [.slice (ints acc) tk])] ++ TF ++ os.map fun o => (o, .defs)) H ∧
    acc.length + Tm.sizes (l.drop i) ≤ 4000 ∧ varsAll acc (l.drop i) = varsAll [] l
  refine run_loop hm I ?_ l.length ?_
  · rintro q env ds σ ⟨os, i, acc, tk, TF, H, m', rfl, hi, rfl, hmm, rfl, e3, e4, e10, e11, e12, hO, hL, hnd, hos, htk, hF, hb, hf⟩
    have hd := defs_facts.mp hF.right
    have hosm : ∀ o ∈ os, o < m' := fun o ho => hL.lt (hd o ho)
    by_cases d1 : i < l.length
    · have hle := sizes_mem (List.getElem_mem d1)
      rw [List.drop_eq_getElem_cons d1, varsAll] at hf
      rw [sizes_get d1] at hb
      have w := wf _ (List.getElem_mem d1)
      simp (disch := omega) [r_call hm, e10, e11, e12, d1, cells_all, splice_av]
      refine ⟨_, each_spec hm h95 l[i] _ _, ?_⟩
      rintro v τ ⟨rfl, rfl⟩
      simp
      generalize l[i] = t at *
      have hO2 : Over m h ((m' + 1, .cells t.av.cells) :: (m', .cells t.av.cells) :: H) := (hO.cons (by omega)).cons (by omega)
      have hL1 : Low ((m', AObj.cells t.av.cells) :: H) (m' + 1) := hL.cons (Nat.lt_succ_self _)
      have hL2 : Low ((m' + 1, AObj.cells t.av.cells) :: (m', .cells t.av.cells) :: H) (m' + 1 + 1) := hL1.cons (Nat.lt_succ_self _)
      have hosm' : ∀ o ∈ (m' + 1 + 1) :: os, m + 1 + 1 < o ∧ o < m' + 1 + 1 + 1 := fun o ho => by
        cases ho with
        | head => omega
        | tail _ ho => have := hos o ho; have := hosm o ho; omega
      refine each_range hm h142 h143 h214 (Q := varsQ m ((m' + 1 + 1) :: os)) (R := varsR) (b := m' + 1) t w (by omega) .ret acc (vars_ok t 1 acc (by omega)) hl hO2 hL2 (by omega) (by simp) (hget_eq _ _ _) ⟨_, ?_, rfl, tk, TF, htk, rfl⟩ ?_ ?_
      · have hF2 := ((hF.cons hL).cons hL1).cons (o := .defs) hL2
        refine hF2.left.app (defs_facts.mpr fun o ho => ?_)
        cases ho with
        | head => exact hget_eq _ _ _
        | tail _ ho => exact defs_facts.mp hF2.right o ho
      · let E : Int × Tm → Nat → Env → Prop := fun x n env => aget env 3 = .ptr (m + 1) 0 ∧ aget env 4 = .ptr (m + 1 + 1) 0 ∧ aget env 8 = .ptr n 0
        refine step_box hm (fun x => x.2.av.cells) E hl (by omega) (fun _ => rfl) ?_ ?_
        · rintro _ ⟨d, x⟩ H n _ hln
          simp (disch := omega) [itm, putAll, cells_all, splice_av]
          exact ⟨by simp [e3], by simp [e4], by simp⟩
        · rintro ob acc ⟨d, k, s, v, xl⟩ H n env hob hacc ⟨e3, e4, e8⟩ hln hL w
          have hacc : acc.length ≤ 8000 := hacc
          obtain ⟨F, hg, hF, _, tk, TF, htk, rfl⟩ := w.known
          have g0 := hF (m, .map [4] (ents acc)) (by simp)
          have g1 := hF (m + 1, .cells [.map m]) (by simp)
          have g2 := hF (m + 1 + 1, .cells [.slice (ints acc) tk]) (by simp)
          simp (disch := omega) at g0 g1 g2
          by_cases c1 : k = 1
          rotate_left
          · have e : varsR acc (d, .mk k s v xl) = (true, acc) := by show (true, if k = 1 ∧ v ∉ acc then acc ++ [v] else acc) = _; rw [if_neg (fun h => c1 h.1)]
            rw [e]
            simp (disch := omega) [e8, c1]
            exact ⟨w, (Kp.refl _ H).cons hL⟩
          by_cases c2 : v ∈ acc
          · have e : varsR acc (d, .mk k s v xl) = (true, acc) := by show (true, if k = 1 ∧ v ∉ acc then acc ++ [v] else acc) = _; rw [if_neg (fun h => h.2 c2)]
            rw [e]
            subst c1
            simp (disch := omega) [e3, e8, g0, g1, c2, mapGet, mfind_ents, unV]
            exact ⟨w, (Kp.refl _ H).cons hL⟩
          have e : varsR acc (d, .mk k s v xl) = (true, acc ++ [v]) := by show (true, if k = 1 ∧ v ∉ acc then acc ++ [v] else acc) = _; rw [if_pos ⟨c1, c2⟩]
          rw [e]
          subst c1
          have b0 := hF (m, .map [4] (ents acc)) (by simp)
          have F1 := htk.set (o' := .map [4] (ents (acc ++ [v]))) hF.left.right b0 rfl
          obtain ⟨tk', H', n', s1, s2, s3, s4, s5, s6⟩ := app1g (x := .int .i64 v) (es := ints acc) (bytes := 8) (htk.app F1) (w.over.set hl (Nat.le_refl m)) hl w.low.set (by show m ≤ n + 1; omega) (by unfold fits; simp; omega) rfl (ints_head _)
          have s5 : n + 1 ≤ n' := s5
          have b1 := s6 _ _ rfl ((hget_sne (by omega)).trans (hF (m + 1, .cells [.map m]) (by simp)))
          have b2 := s6 _ _ rfl ((hget_sne (by omega)).trans (hF (m + 1 + 1, .cells [.slice (ints acc) tk]) (by simp)))
          have b3 := s6 _ _ rfl (hget_seq (o := .map [4] (ents (acc ++ [v]))) b0)
          have bo := s6 _ _ hob ((hget_sne (by omega)).trans w.obj)
          have bd : ∀ o ∈ (m' + 1 + 1) :: os, hget H' o = some .defs := fun o ho => s6 _ _ rfl ((hget_sne (by have := hosm' o ho; omega)).trans (defs_facts.mp hF.right o ho))
          have hk : Kp (m' + 1 + 1 + 1) H H' := fun j c hj hh => s6 _ _ rfl ((hget_sne (by omega)).trans ((hget_ne _ _ (by have := hL.lt hh; omega)).trans hh))
          simp (disch := omega) only [hset_ne, cells_av] at s1
          simp (disch := omega) [e3, e4, e8, g0, g1, g2, c2, mapGet, mfind_ents, unV, mput_ents, hget_sne, s1, b2]
          have e2 : AV.slice (ints acc ++ [stripCell (.int .i64 v)]) tk' = .slice (ints (acc ++ [v])) tk' := by rw [← ints_app]; rfl
          obtain ⟨TF', t1, t2⟩ := s2.facts
          refine ⟨by omega, ⟨s3.set hl (by omega), s4.set, by show _ < n'; omega, (hget_sne (by omega)).trans bo, _, ?_, ?_, rfl, tk', TF', t1, rfl⟩, hk.set (by omega)⟩
          · refine Good.app (Good.app ?_ (t1.good t2 bo hob)) ?_
            · intro p hp; simp at hp; rcases hp with rfl | rfl | rfl <;> simp <;> omega
            · intro p hp; obtain ⟨o, ho, rfl⟩ := List.mem_map.mp hp; have := hosm' o ho; simp only [AObj.stays]; omega
          · refine Facts.app (Facts.app ?_ (t1.set t2 b2 rfl)) ?_
            · intro p hp; simp at hp; rcases hp with rfl | rfl | rfl
              · exact (hget_sne (by omega)).trans b3
              · exact (hget_sne (by omega)).trans b1
              · rw [← e2]; exact hget_seq b2
            · exact defs_facts.mpr fun o ho => (hget_sne (by have := hosm' o ho; omega)).trans (bd o ho)
      · intro H' n' hn' hO' hL' hF'
        rw [(vars_walk t 1 acc).1] at hF' ⊢
        have hlen2 := (vars_walk t 1 acc).2
        generalize (walkF varsR 1 t acc).2 = acc' at *
        obtain ⟨F', hg', hF', _, tk', TF', t1, rfl⟩ := hF'
        simp (disch := omega) [e4, e12]
        exact ⟨l.length - (i + 1), by omega, (m' + 1 + 1) :: os, i + 1, acc', tk', TF', H', n', rfl, by omega, rfl, by omega, rfl, by simp [e3], by simp [e4], by simp [e10], by simp [e11], by simp, hO', hL', List.nodup_cons.mpr ⟨fun hm => by have := hosm _ hm; omega, hnd⟩, fun o ho => (hosm' o ho).1, t1, hF', by omega, hf⟩
    · rw [List.drop_eq_nil_of_le (by omega), varsAll] at hf
      have g2 := hF (m + 1 + 1, .cells [.slice (ints acc) tk]) (by simp)
      simp at g2
      simp (disch := omega) [e4, e11, e12, d1, g2]
      refine fin_marks (os := os) (.inl rfl) hnd hd ?_
      simp (disch := omega) [RetS, hf]
      exact ⟨(foldl_del_over hl os H (fun o ho => by have := hos o ho; omega) hO).gc hl, by omega⟩
  · refine ⟨[], 0, [], .full, [], _, m + 1 + 1 + 1, rfl, by simp, by simp, by omega, rfl, by simp, by simp, by simp, by simp, by simp, ((((Over.refl m h).cons (Nat.le_refl m)).cons (by omega)).cons (by omega)), (((hl.cons (Nat.lt_succ_self m)).cons (Nat.lt_succ_self _)).cons (Nat.lt_succ_self _)), by simp, fun o ho => (by cases ho), .inl ⟨rfl, rfl⟩, ?_, by simp; omega, by simp⟩
    intro p hp; simp at hp; rcases hp with rfl | rfl | rfl <;> simp (disch := omega) [ents]
end Go.AM
