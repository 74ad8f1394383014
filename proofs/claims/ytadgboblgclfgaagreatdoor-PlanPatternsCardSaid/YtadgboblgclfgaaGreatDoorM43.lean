/- A part of the proof of: PlanPatterns: a pattern of a Call, and which of some patterns covers it, is what the document says, or the error is told. -/
import Derived.Test.YtadgboblgclfgaaGreatDoorM42
namespace Go.AM
variable {T : Tab}
open Classical

/-- Appending, what stays of other objects. -/
theorem app1g {H h : Heap} {n m sz bytes : Nat} {es : List AV} {x : AV} {tk : Tok} (hA : AppOk H m tk sz) (hO : Over m h H) (hl : Low h m) (hL : Low H n) (hn : m ≤ n) (hf : fits (es.length + 1) bytes = true) (hx : elemOk sz x = true) (hh : headOk sz es = true) :
    ∃ tk' H' n', appSlice es tk sz bytes false [x] ⟨H, n⟩ = some (.slice (es ++ [stripCell x]) tk', ⟨H', n'⟩) ∧ AppOk H' m tk' sz ∧ Over m h H' ∧ Low H' n' ∧ n ≤ n' ∧ ∀ j o, o.tok? = none → hget H j = some o → hget H' j = some o := by
  have e : appSlice es tk sz bytes false [x] ⟨H, n⟩ = grow es [stripCell x] tk sz ⟨H, n⟩ := by
    unfold appSlice
    simp [hf, hx, hh]
  rw [e]
  rcases hA with rfl | ⟨i, g, h1, rfl, h3⟩
  · refine ⟨.live n 0, (n, .tok 0 sz) :: H, n + 1, rfl, .inr ⟨n, 0, hn, rfl, hget_eq _ _ _⟩, hO.cons hn, hL.cons (Nat.lt_succ_self n), Nat.le_succ n, fun j c _ hj => ?_⟩
    have := hL.lt hj
    rw [hget_ne _ _ (by omega)]; exact hj
  · refine ⟨.live i (g + 1), hset H i (.tok (g + 1) sz), n, ?_, .inr ⟨i, g + 1, h1, rfl, by rw [hget_set, if_pos rfl, h3]; rfl⟩, hO.set hl h1, hL.set, Nat.le_refl n, fun j c hc hj => ?_⟩
    · unfold grow
      simp only [st_tokOf, h3, Option.bind_some, tok_tok, Nat.beq_refl, Bool.and_self, cond_true, st_set]
    · have : i ≠ j := fun hij => by subst hij; rw [h3] at hj; cases hj; cases hc
      rw [hget_set, if_neg this]; exact hj
/-- What is known of a slice's bearer. -/
def tokOk (m : Nat) (tk : Tok) (sz : Nat) (F : List (Nat × AObj)) : Prop := (tk = .full ∧ F = []) ∨ ∃ i g, m ≤ i ∧ tk = .live i g ∧ F = [(i, .tok g sz)]
theorem tokOk.app {m : Nat} {tk : Tok} {sz : Nat} {F : List (Nat × AObj)} {H : Heap} (h : tokOk m tk sz F) (hF : Facts F H) : AppOk H m tk sz := by
  rcases h with ⟨rfl, _⟩ | ⟨i, g, h1, rfl, rfl⟩
  · exact .inl rfl
  · exact .inr ⟨i, g, h1, rfl, hF (i, .tok g sz) (by simp)⟩
theorem AppOk.facts {m : Nat} {tk : Tok} {sz : Nat} {H : Heap} (h : AppOk H m tk sz) : ∃ F, tokOk m tk sz F ∧ Facts F H := by
  rcases h with rfl | ⟨i, g, h1, rfl, h3⟩
  · exact ⟨[], .inl ⟨rfl, rfl⟩, fun p hp => by cases hp⟩
  · exact ⟨[(i, .tok g sz)], .inr ⟨i, g, h1, rfl, rfl⟩, fun p hp => by simp at hp; subst hp; exact h3⟩
theorem tokOk.tok {m : Nat} {tk : Tok} {sz : Nat} {F : List (Nat × AObj)} (h : tokOk m tk sz F) : ∀ p ∈ F, p.2.stays = true ∧ p.2.tok? ≠ none := by
  rcases h with ⟨rfl, rfl⟩ | ⟨i, g, h1, rfl, rfl⟩
  · intro p hp; cases hp
  · intro p hp; simp at hp; subst hp; exact ⟨rfl, by simp⟩
theorem Facts.app {F G : List (Nat × AObj)} {H : Heap} (h : Facts F H) (g : Facts G H) : Facts (F ++ G) H := fun p hp => (List.mem_append.mp hp).elim (h p) (g p)
theorem Facts.left {F G : List (Nat × AObj)} {H : Heap} (h : Facts (F ++ G) H) : Facts F H := fun p hp => h p (List.mem_append_left _ hp)
theorem Facts.right {F G : List (Nat × AObj)} {H : Heap} (h : Facts (F ++ G) H) : Facts G H := fun p hp => h p (List.mem_append_right _ hp)
/-- Tokens are elsewhere than other objects. -/
theorem tokOk.set {m i : Nat} {tk : Tok} {sz : Nat} {F : List (Nat × AObj)} {H : Heap} {o o' : AObj} (h : tokOk m tk sz F) (hF : Facts F H) (hi : hget H i = some o) (ho : o.tok? = none) : Facts F (hset H i o') := hF.set fun p hp hpi => by
  have h1 := hF p hp
  rw [hpi, hi] at h1; cases h1
  exact (h.tok p hp).2 ho
theorem tokOk.good {m l : Nat} {tk : Tok} {sz : Nat} {F : List (Nat × AObj)} {H : Heap} {o : AObj} (h : tokOk m tk sz F) (hF : Facts F H) (hi : hget H l = some o) (ho : o.tok? = none) : Good l F := fun p hp => ⟨fun hpi => by
  have h1 := hF p hp
  rw [hpi, hi] at h1; cases h1
  exact (h.tok p hp).2 ho, .inr (h.tok p hp).1⟩
theorem Good.app {l : Nat} {F G : List (Nat × AObj)} (h : Good l F) (g : Good l G) : Good l (F ++ G) := fun p hp => (List.mem_append.mp hp).elim (h p) (g p)
theorem Good.left {l : Nat} {F G : List (Nat × AObj)} (h : Good l (F ++ G)) : Good l F := fun p hp => h p (List.mem_append_left _ hp)
theorem Good.right {l : Nat} {F G : List (Nat × AObj)} (h : Good l (F ++ G)) : Good l G := fun p hp => h p (List.mem_append_right _ hp)

theorem hget_sne {H : Heap} {i j : Nat} {o : AObj} (h : i ≠ j) : hget (hset H i o) j = hget H j := by rw [hget_set, if_neg h]
theorem hget_seq {H : Heap} {i : Nat} {o o0 : AObj} (h : hget H i = some o0) : hget (hset H i o) i = some o := by rw [hget_set, if_pos rfl, h]; rfl
/-! ### Sets of numbers, as maps -/
def ents (l : List Int) : List (AV × AV) := l.map fun n => (.int .i64 n, .bool true)
@[simp] theorem mapVals_map (o : Nat) (σ : St) (ks : List Nat) : mapVals (.map o) σ ks = mapGet o σ ks := rfl
@[simp] theorem keyOk4 (n : Int) : keyOk [4] (.int .i64 n) = true := rfl
@[simp] theorem eqNs44 : eqNs [4] [4] = true := rfl
theorem eqK_int (a b : Int) : eqK (.int .i64 a) (.int .i64 b) = decide (a = b) := by
  show eqI a b = _
  exact eqI_eqK a b
theorem mfind_consK (a b : AV) (l : List (AV × AV)) (x : AV) : mfind ((a, b) :: l) x = bif eqK a x then some b else mfind l x := rfl
theorem mput_consK (a b : AV) (l : List (AV × AV)) (x v : AV) : mput ((a, b) :: l) x v = bif eqK a x then (a, v) :: l else (a, b) :: mput l x v := rfl
theorem mfind_ents (l : List Int) (n : Int) : mfind (ents l) (.int .i64 n) = if n ∈ l then some (.bool true) else none := by
  induction l with
  | nil => rfl
  | cons a l ih =>
    show mfind ((.int .i64 a, .bool true) :: ents l) _ = _
    rw [mfind_consK, eqK_int, ih]
    by_cases h : a = n
    · subst h; simp
    · have : n ≠ a := fun h' => h h'.symm
      simp [h, this]
theorem mput_ents (l : List Int) (n : Int) (hn : n ∉ l) : mput (ents l) (.int .i64 n) (.bool true) = ents (l ++ [n]) := by
  induction l with
  | nil => rfl
  | cons a l ih =>
    simp at hn
    show mput ((.int .i64 a, .bool true) :: ents l) _ _ = _
    rw [mput_consK, eqK_int, ih hn.2]
    have : a ≠ n := fun h' => hn.1 h'.symm
    simp [this, ents]

noncomputable def varsR (acc : List Int) (x : Int × Tm) : Bool × List Int := match x.2 with
  | .mk k _ n _ => (true, if k = 1 ∧ n ∉ acc then acc ++ [n] else acc)
def varsQ (m : Nat) (os : List Nat) (c : Bool) (acc : List Int) (F : List (Nat × AObj)) : Prop :=
  c = true ∧ ∃ tk TF, tokOk m tk 1 TF ∧ F = [(m, .map [4] (ents acc)), (m + 1, .cells [.map m]), (m + 1 + 1, .cells [.slice (ints acc) tk])] ++ TF ++ os.map fun o => (o, .defs)

theorem varsR_true (acc : List Int) (x : Int × Tm) : (varsR acc x).1 = true := by obtain ⟨d, k, s, n, l⟩ := x; rfl
theorem varsR_len (acc : List Int) (x : Int × Tm) : (varsR acc x).2.length ≤ acc.length + 1 := by
  obtain ⟨d, k, s, n, l⟩ := x
  show (if k = 1 ∧ n ∉ acc then acc ++ [n] else acc).length ≤ _
  split <;> simp
theorem vars_walk (t : Tm) : ∀ (d : Int) (acc : List Int), (walkF varsR d t acc).1 = true ∧ (walkF varsR d t acc).2.length ≤ acc.length + t.size := by
  refine Tm.ind (M := fun t => ∀ (d : Int) (acc : List Int), (walkF varsR d t acc).1 = true ∧ (walkF varsR d t acc).2.length ≤ acc.length + t.size) (fun k s n l ih d acc => ?_) t
  rw [walkF, if_pos (varsR_true _ _), Tm.size]
  have : ∀ (l : List Tm), (∀ x ∈ l, ∀ (d : Int) (acc : List Int), (walkF varsR d x acc).1 = true ∧ (walkF varsR d x acc).2.length ≤ acc.length + x.size) → ∀ (d : Int) (acc : List Int), (walkFs varsR d l acc).1 = true ∧ (walkFs varsR d l acc).2.length ≤ acc.length + Tm.sizes l := by
    intro l
    induction l with
    | nil => intro _ d acc; rw [walkFs, Tm.sizes]; simp
    | cons t l ihl =>
      intro ih d acc
      rw [walkFs, Tm.sizes, if_pos (ih t (by simp) d acc).1]
      have h1 := (ih t (by simp) d acc).2
      have h2 := ihl (fun x hx => ih x (by simp [hx])) d (walkF varsR d t acc).2
      exact ⟨h2.1, by omega⟩
  have h1 := varsR_len acc (d, .mk k s n l)
  have h2 := this l ih (d + 1) (varsR acc (d, .mk k s n l)).2
  exact ⟨h2.1, by omega⟩
theorem vars_ok (t : Tm) : ∀ (d : Int) (acc : List Int), acc.length + t.size ≤ 8000 → okW varsR (fun acc _ => acc.length ≤ 8000) d t acc := by
  refine Tm.ind (M := fun t => ∀ (d : Int) (acc : List Int), acc.length + t.size ≤ 8000 → okW varsR (fun acc _ => acc.length ≤ 8000) d t acc) (fun k s n l ih d acc h => ?_) t
  rw [Tm.size] at h
  rw [okW]
  have : ∀ (l : List Tm), (∀ x ∈ l, ∀ (d : Int) (acc : List Int), acc.length + x.size ≤ 8000 → okW varsR (fun acc _ => acc.length ≤ 8000) d x acc) → ∀ (d : Int) (acc : List Int), acc.length + Tm.sizes l ≤ 8000 → okWs varsR (fun acc _ => acc.length ≤ 8000) d l acc := by
    intro l
    induction l with
    | nil => intro _ d acc _; rw [okWs]; trivial
    | cons t l ihl =>
      intro ih d acc h
      rw [Tm.sizes] at h
      rw [okWs]
      have h1 := (vars_walk t d acc).2
      exact ⟨ih t (by simp) d acc (by omega), fun _ => ihl (fun x hx => ih x (by simp [hx])) d _ (by omega)⟩
  have h1 := varsR_len acc (d, .mk k s n l)
  exact ⟨by show acc.length ≤ 8000; omega, fun _ => this l ih (d + 1) _ (by omega)⟩
noncomputable def varsAll (acc : List Int) : List Tm → List Int
  | [] => acc
  | t :: l => varsAll (walkF varsR 1 t acc).2 l

theorem defs_facts {os : List Nat} {H : Heap} : Facts (os.map fun o => (o, .defs)) H ↔ ∀ o ∈ os, hget H o = some .defs := by
  constructor
  · intro h o ho; exact h (o, .defs) (List.mem_map.mpr ⟨o, ho, rfl⟩)
  · intro h p hp; obtain ⟨o, ho, rfl⟩ := List.mem_map.mp hp; exact h o ho

set_option maxHeartbeats 1000000 in
theorem vars2_spec (hm : PrimMono T) (h47 : Has T 47 a47) (h95 : Has T 95 a95) (h142 : Has T 142 a142) (h143 : Has T 143 a143) (h214 : Has T 214 a214) (l : List Tm) (wf : ∀ x ∈ l, x.Wf) (hs : Tm.sizes l ≤ 4000) (tk0 : Tok) (h : Heap) (m : Nat) (hl : Low h m) :
    Spec T (.fn 47) [.slice (Tm.avs l) tk0] ⟨h, m⟩ (RetS h m (ints (varsAll [] l))) := by
  refine spec_fn hm h47.prim h47.func rfl ?_
  have hlen := sizes_len l
  simp (disch := omega) [a47]
  let I : Nat → Env → List ADef → St → Prop := fun q env ds σ => ∃ (os : List Nat) (i : Nat) (acc : List Int) (tk : Tok) (TF : List (Nat × AObj)) (H : Heap) (m' : Nat), ds = os.map .mark ∧ i ≤ l.length ∧ q = l.length - i ∧ m + 1 + 1 < m' ∧
    σ = ⟨H, m'⟩ ∧ aget env 3 = .ptr (m + 1) 0 ∧ aget env 4 = .ptr (m + 1 + 1) 0 ∧ aget env 10 = .slice (Tm.avs l) tk0 ∧ aget env 11 = .int .i64 l.length ∧ aget env 12 = .int .i64 i ∧
    Over m h H ∧ Low H m' ∧ os.Nodup ∧ (∀ o ∈ os, m + 1 + 1 < o) ∧ tokOk m tk 1 TF ∧ Facts ([(m, .map [4] (ents acc)), (m + 1, .cells [.map m]), (m + 1 + 1, .cells [.slice (ints acc) tk])] ++ TF ++ os.map fun o => (o, .defs)) H ∧
    acc.length + Tm.sizes (l.drop i) ≤ 4000 ∧ varsAll acc (l.drop i) = varsAll [] l
  refine run_loop hm I ?_ l.length ?_
  · rintro q env ds σ ⟨os, i, acc, tk, TF, H, m', rfl, hi, rfl, hmm, rfl, e3, e4, e10, e11, e12, hO, hL, hnd, hos, htk, hF, hb, hf⟩
    have hd := defs_facts.mp hF.right
    have hosm : ∀ o ∈ os, o < m' := fun o ho => hL.lt (hd o ho)
    by_cases d1 : i < l.length
    · have hle := sizes_mem (List.getElem_mem d1)
      rw [List.drop_eq_getElem_cons d1, varsAll] at hf
      rw [sizes_get d1] at hb
      have w := wf _ (List.getElem_mem d1)
      simp (disch := omega) [r_call hm, e10, e11, e12, d1, cells_all, splice_av]
      refine ⟨_, each_spec hm h95 l[i] _ _, ?_⟩
      rintro v τ ⟨rfl, rfl⟩
      simp
      generalize l[i] = t at *
      have hO2 : Over m h ((m' + 1, .cells t.av.cells) :: (m', .cells t.av.cells) :: H) := (hO.cons (by omega)).cons (by omega)
      have hL1 : Low ((m', AObj.cells t.av.cells) :: H) (m' + 1) := hL.cons (Nat.lt_succ_self _)
      have hL2 : Low ((m' + 1, AObj.cells t.av.cells) :: (m', .cells t.av.cells) :: H) (m' + 1 + 1) := hL1.cons (Nat.lt_succ_self _)
      have hosm' : ∀ o ∈ (m' + 1 + 1) :: os, m + 1 + 1 < o ∧ o < m' + 1 + 1 + 1 := fun o ho => by
        cases ho with
        | head => omega
        | tail _ ho => have := hos o ho; have := hosm o ho; omega
      refine each_range hm h142 h143 h214 (Q := varsQ m ((m' + 1 + 1) :: os)) (R := varsR) (b := m' + 1) t w (by omega) .ret acc (vars_ok t 1 acc (by omega)) hl hO2 hL2 (by omega) (by simp) (hget_eq _ _ _) ⟨_, ?_, rfl, tk, TF, htk, rfl⟩ ?_ ?_
      · have hF2 := ((hF.cons hL).cons hL1).cons (o := .defs) hL2
        refine hF2.left.app (defs_facts.mpr fun o ho => ?_)
        cases ho with
        | head => exact hget_eq _ _ _
        | tail _ ho => exact defs_facts.mp hF2.right o ho
      · let E : Int × Tm → Nat → Env → Prop := fun x n env => aget env 3 = .ptr (m + 1) 0 ∧ aget env 4 = .ptr (m + 1 + 1) 0 ∧ aget env 8 = .ptr n 0
        refine step_box hm (fun x => x.2.av.cells) E hl (by omega) (fun _ => rfl) ?_ ?_
        · rintro _ ⟨d, x⟩ H n _ hln
          simp (disch := omega) [itm, putAll, cells_all, splice_av]
          exact ⟨by simp [e3], by simp [e4], by simp⟩
        · rintro ob acc ⟨d, k, s, v, xl⟩ H n env hob hacc ⟨e3, e4, e8⟩ hln hL w
          have hacc : acc.length ≤ 8000 := hacc
          obtain ⟨F, hg, hF, _, tk, TF, htk, rfl⟩ := w.known
          have g0 := hF (m, .map [4] (ents acc)) (by simp)
          have g1 := hF (m + 1, .cells [.map m]) (by simp)
          have g2 := hF (m + 1 + 1, .cells [.slice (ints acc) tk]) (by simp)
          simp (disch := omega) at g0 g1 g2
          by_cases c1 : k = 1
          rotate_left
          · have e : varsR acc (d, .mk k s v xl) = (true, acc) := by show (true, if k = 1 ∧ v ∉ acc then acc ++ [v] else acc) = _; rw [if_neg (fun h => c1 h.1)]
            rw [e]
            simp (disch := omega) [e8, c1]
            exact ⟨w, (Kp.refl _ H).cons hL⟩
          by_cases c2 : v ∈ acc
          · have e : varsR acc (d, .mk k s v xl) = (true, acc) := by show (true, if k = 1 ∧ v ∉ acc then acc ++ [v] else acc) = _; rw [if_neg (fun h => h.2 c2)]
            rw [e]
            subst c1
            simp (disch := omega) [e3, e8, g0, g1, c2, mapGet, mfind_ents, unV]
            exact ⟨w, (Kp.refl _ H).cons hL⟩
          have e : varsR acc (d, .mk k s v xl) = (true, acc ++ [v]) := by show (true, if k = 1 ∧ v ∉ acc then acc ++ [v] else acc) = _; rw [if_pos ⟨c1, c2⟩]
          rw [e]
          subst c1
          have b0 := hF (m, .map [4] (ents acc)) (by simp)
          have F1 := htk.set (o' := .map [4] (ents (acc ++ [v]))) hF.left.right b0 rfl
          obtain ⟨tk', H', n', s1, s2, s3, s4, s5, s6⟩ := app1g (x := .int .i64 v) (es := ints acc) (bytes := 8) (htk.app F1) (w.over.set hl (Nat.le_refl m)) hl w.low.set (by show m ≤ n + 1; omega) (by unfold fits; simp; omega) rfl (ints_head _)
          have s5 : n + 1 ≤ n' := s5
          have b1 := s6 _ _ rfl ((hget_sne (by omega)).trans (hF (m + 1, .cells [.map m]) (by simp)))
          have b2 := s6 _ _ rfl ((hget_sne (by omega)).trans (hF (m + 1 + 1, .cells [.slice (ints acc) tk]) (by simp)))
          have b3 := s6 _ _ rfl (hget_seq (o := .map [4] (ents (acc ++ [v]))) b0)
          have bo := s6 _ _ hob ((hget_sne (by omega)).trans w.obj)
          have bd : ∀ o ∈ (m' + 1 + 1) :: os, hget H' o = some .defs := fun o ho => s6 _ _ rfl ((hget_sne (by have := hosm' o ho; omega)).trans (defs_facts.mp hF.right o ho))
          have hk : Kp (m' + 1 + 1 + 1) H H' := fun j c hj hh => s6 _ _ rfl ((hget_sne (by omega)).trans ((hget_ne _ _ (by have := hL.lt hh; omega)).trans hh))
          simp (disch := omega) only [hset_ne, cells_av] at s1
          simp (disch := omega) [e3, e4, e8, g0, g1, g2, c2, mapGet, mfind_ents, unV, mput_ents, hget_sne, s1, b2]
          have e2 : AV.slice (ints acc ++ [stripCell (.int .i64 v)]) tk' = .slice (ints (acc ++ [v])) tk' := by rw [← ints_app]; rfl
          obtain ⟨TF', t1, t2⟩ := s2.facts
          refine ⟨by omega, ⟨s3.set hl (by omega), s4.set, by show _ < n'; omega, (hget_sne (by omega)).trans bo, _, ?_, ?_, rfl, tk', TF', t1, rfl⟩, hk.set (by omega)⟩
          · refine Good.app (Good.app ?_ (t1.good t2 bo hob)) ?_
            · intro p hp; simp at hp; rcases hp with rfl | rfl | rfl <;> simp <;> omega
            · intro p hp; obtain ⟨o, ho, rfl⟩ := List.mem_map.mp hp; have := hosm' o ho; simp only [AObj.stays]; omega
          · refine Facts.app (Facts.app ?_ (t1.set t2 b2 rfl)) ?_
            · intro p hp; simp at hp; rcases hp with rfl | rfl | rfl
              · exact (hget_sne (by omega)).trans b3
              · exact (hget_sne (by omega)).trans b1
              · rw [← e2]; exact hget_seq b2
            · exact defs_facts.mpr fun o ho => (hget_sne (by have := hosm' o ho; omega)).trans (bd o ho)
      · intro H' n' hn' hO' hL' hF'
        rw [(vars_walk t 1 acc).1] at hF' ⊢
        have hlen2 := (vars_walk t 1 acc).2
        generalize (walkF varsR 1 t acc).2 = acc' at *
        obtain ⟨F', hg', hF', _, tk', TF', t1, rfl⟩ := hF'
        simp (disch := omega) [e4, e12]
        exact ⟨l.length - (i + 1), by omega, (m' + 1 + 1) :: os, i + 1, acc', tk', TF', H', n', rfl, by omega, rfl, by omega, rfl, by simp [e3], by simp [e4], by simp [e10], by simp [e11], by simp, hO', hL', List.nodup_cons.mpr ⟨fun hm => by have := hosm _ hm; omega, hnd⟩, fun o ho => (hosm' o ho).1, t1, hF', by omega, hf⟩
    · rw [List.drop_eq_nil_of_le (by omega), varsAll] at hf
      have g2 := hF (m + 1 + 1, .cells [.slice (ints acc) tk]) (by simp)
      simp at g2
      simp (disch := omega) [e4, e11, e12, d1, g2]
      refine fin_marks (os := os) (.inl rfl) hnd hd ?_
      simp (disch := omega) [RetS, hf]
      exact ⟨(foldl_del_over hl os H (fun o ho => by have := hos o ho; omega) hO).gc hl, by omega⟩
  · refine ⟨[], 0, [], .full, [], _, m + 1 + 1 + 1, rfl, by simp, by simp, by omega, rfl, by simp, by simp, by simp, by simp, by simp, ((((Over.refl m h).cons (Nat.le_refl m)).cons (by omega)).cons (by omega)), (((hl.cons (Nat.lt_succ_self m)).cons (Nat.lt_succ_self _)).cons (Nat.lt_succ_self _)), by simp, fun o ho => (by cases ho), .inl ⟨rfl, rfl⟩, ?_, by simp; omega, by simp⟩
    intro p hp; simp at hp; rcases hp with rfl | rfl | rfl <;> simp (disch := omega) [ents]
end Go.AM
namespace Go.AM
variable {T : Tab}
open Classical

def ACode.fst : ACode → ACode | .seq a _ => a | c => c
def ACode.snd : ACode → ACode | .seq _ b => b | c => c
/-- What lay there lies there still, and more. -/
def RetO (h : Heap) (m : Nat) (v : AV) : AV → St → Prop := fun v' τ => v' = v ∧ Over m h τ.heap ∧ Low τ.heap τ.next ∧ m ≤ τ.next
section
variable {ks : List K} {env : Env} {ds : List ADef} {Q : Ex → Env → List ADef → St → Prop} {n m : Nat} {as : List AV} {h : Heap} {d : Option Nat} {l : List AOper} {v : AV}
theorem CallK.reto (hs : Spec T (.fn n) as ⟨h, m⟩ (RetO h m v)) (k : ∀ H m', m ≤ m' → Over m h H → Low H m' → Run T (.ops l :: ks) .normal (put env d v) ds ⟨H, m'⟩ Q) : CallK T n as ⟨h, m⟩ d l ks env ds Q :=
  ⟨_, hs, fun v' τ hv => by obtain ⟨rfl, h1, h2, h3⟩ := hv; exact k τ.heap τ.next h3 h1 h2⟩
theorem CallD.reto {args : List Opd} {acc chk} (hs : Spec T (.fn n) as ⟨h, m⟩ (RetO h m v)) (k : ∀ H m', m ≤ m' → Over m h H → Low H m' → Run T (.dops l (⟨⟨h, m⟩, some (.call (.f n) args, env), (match d with | some _ => v | none => .undef)⟩ :: acc) chk :: ks) .normal (put env d v) ds ⟨H, m'⟩ Q) : CallD T n args as ⟨h, m⟩ d l acc chk ks env ds Q :=
  fun _ => ⟨_, hs, fun v' τ hv => by obtain ⟨rfl, h1, h2, h3⟩ := hv; exact k τ.heap τ.next h3 h1 h2⟩
end
theorem AppOk.over {H H' : Heap} {m n sz : Nat} {tk : Tok} (h : AppOk H m tk sz) (hL : Low H n) (hO : Over n H H') : AppOk H' m tk sz := by
  rcases h with rfl | ⟨i, g, h1, rfl, h3⟩
  · exact .inl rfl
  · exact .inr ⟨i, g, h1, rfl, (hO.old (hL.lt h3)).trans h3⟩
theorem Over.get {m i : Nat} {h H : Heap} {o : AObj} (hO : Over m h H) (hL : Low h m) (hi : hget h i = some o) : hget H i = some o := (hO.old (hL.lt hi)).trans hi
theorem Over.facts {m : Nat} {h H : Heap} {F : List (Nat × AObj)} (hO : Over m h H) (hL : Low h m) (hF : Facts F h) : Facts F H := fun p hp => hO.get hL (hF p hp)

mutual
def Tm.turnP (f : Int → Int) : Tm → Tm
  | .mk k s n l => .mk k s (if k = 1 then f n else n) (Tm.turnPs f l)
def Tm.turnPs (f : Int → Int) : List Tm → List Tm
  | [] => []
  | t :: l => Tm.turnP f t :: Tm.turnPs f l
end
theorem turnPs_map (f : Int → Int) (l : List Tm) : Tm.turnPs f l = l.map (Tm.turnP f) := by
  induction l with
  | nil => rw [Tm.turnPs]; rfl
  | cons t l ih => rw [Tm.turnPs, ih]; rfl
/-- A function value that answers a number. -/
def FnOk (T : Tab) (fv : AV) (f : Int → Int) (G : List (Nat × AObj)) : Prop := ∀ H n k, Low H n → Facts G H → ∃ c as', callee fv [.int .i64 k] = some (c, as') ∧ Spec T c as' ⟨H, n⟩ (Ret H n (.int .i64 (f k)))

set_option maxHeartbeats 1000000 in
theorem turned_spec (hm : PrimMono T) (h110 : Has T 110 a110) {fv : AV} {f : Int → Int} {G : List (Nat × AObj)} (hkn : stripVal fv = fv) (hfv : FnOk T fv f G) (t : Tm) (hs : t.size ≤ 4000) : ∀ (h : Heap) (m : Nat) (_hl : Low h m) (_hG : Facts G h), Spec T (.fn 110) [t.av, fv] ⟨h, m⟩ (RetO h m (t.turnP f).av) := by
  refine Tm.ind (M := fun t => t.size ≤ 4000 → ∀ (h : Heap) (m : Nat) (hl : Low h m) (hG : Facts G h), Spec T (.fn 110) [t.av, fv] ⟨h, m⟩ (RetO h m (t.turnP f).av)) (fun k s n l ih hs h m hl hG => ?_) t hs
  refine spec_fn hm h110.prim h110.func rfl ?_
  rw [Tm.size] at hs
  have hlen := sizes_len l
  rw [Tm.turnP]
  have main : ∀ (n' : Int) (env : Env) (m1 : Nat), m + 1 + 1 ≤ m1 → aget env 1 = fv → aget env 2 = .ptr m 0 → aget env 4 = .ptr (m + 1) 0 →
      Run T [.code a110.body.snd.snd] .normal env [] ⟨(m + 1, .cells [.int .i64 0, .str [], .int .i64 0, .slice [] .full]) :: (m, .cells [.int .i64 k, .str s, .int .i64 n', .slice (Tm.avs l) .none]) :: h, m1⟩
        (Fin T a110.results a110.stripRet a110.gc m (RetO h m (Tm.mk k s n' (Tm.turnPs f l)).av)) := by
    intro n' env m1 hm1 e1 e2 e4
    simp (disch := omega) [a110, ACode.snd, e2]
    let I : Nat → Env → List ADef → St → Prop := fun q env ds σ => ds = [] ∧ ∃ (i : Nat) (tk2 : Tok) (H : Heap) (m' : Nat), i ≤ l.length ∧ q = l.length - i ∧ m + 1 < m' ∧
      σ = ⟨H, m'⟩ ∧ aget env 1 = fv ∧ aget env 2 = .ptr m 0 ∧ aget env 4 = .ptr (m + 1) 0 ∧ aget env 19 = .slice (Tm.avs l) .none ∧ aget env 20 = .int .i64 l.length ∧ aget env 21 = .int .i64 i ∧
      Over m h H ∧ Low H m' ∧ (∃ z, hget H (m + 1) = some (.cells z) ∧ z = [.int .i64 0, .str [], .int .i64 0, .slice [] .full]) ∧
      hget H m = some (.cells [.int .i64 k, .str s, .int .i64 n', .slice (Tm.avs (Tm.turnPs f (l.take i))) tk2]) ∧ AppOk H m tk2 4
    refine run_loop hm I ?_ l.length ?_
    · rintro q env ds σ ⟨rfl, i, tk2, H, m', hi, rfl, hmm, rfl, e1, e2, e4, e19, e20, e21, hO, hL, ⟨z, g1, rfl⟩, g0, hA⟩
      by_cases d1 : i < l.length
      · have hle := sizes_mem (List.getElem_mem d1)
        have hL1 := hL.cons (o := .cells l[i].av.cells) (Nat.lt_succ_self m')
        simp (disch := omega) [q_call hm, e1, e2, e19, e20, e21, d1, g0, cells_all, splice_av]
        refine CallD.reto (ih _ (List.getElem_mem d1) (by omega) _ _ hL1 ((hO.facts hl hG).cons hL)) (fun H2 m2 hm2 hO2 hL2 => ?_)
        have hO3 : Over m h H2 := hO2.trans (hO.cons (by omega))
        have g0' := hO2.get hL1 ((hget_ne (.cells l[i].av.cells) H (show m' ≠ m by omega)).trans g0)
        have g1' := hO2.get hL1 ((hget_ne (.cells l[i].av.cells) H (show m' ≠ m + 1 by omega)).trans g1)
        have hA2 : AppOk H2 m tk2 4 := (hA.cons (o := .cells l[i].av.cells) hL).over hL1 hO2
        have hlen3 : (Tm.turnPs f (l.take i)).length = i := by rw [turnPs_map]; simp; omega
        obtain ⟨tk3, H3, m3, s1, s2, s3, s4, s5, s6⟩ := app1 (x := (l[i].turnP f).av) (es := Tm.avs (Tm.turnPs f (l.take i))) (bytes := 56) hA2 hO3 hl hL2 (by omega) (by unfold fits; simp; omega) (elemOk_av _) (head_avs _)
        rw [strip_cell_av] at s1
        have f0 := s6 m _ g0'
        have f1 := s6 (m + 1) _ g1'
        simp (disch := omega) [e2, e21, g0, g0', s1, f0, strip_cell_av]
        refine ⟨l.length - (i + 1), by omega, rfl, i + 1, tk3, _, _, by omega, rfl, by omega, rfl, by simp [e1], by simp [e2], by simp [e4], by simp [e19], by simp [e20], by simp, s3.set hl (Nat.le_refl m), s4.set, ⟨_, ?_, rfl⟩, ?_, s2.set f0⟩
        · rw [hget_set, if_neg (by omega)]; exact f1
        · have e : Tm.avs (Tm.turnPs f (l.take i)) ++ [(l[i].turnP f).av] = Tm.avs (Tm.turnPs f (l.take (i + 1))) := by rw [List.take_succ_eq_append_getElem d1, turnPs_map, turnPs_map, List.map_append, ← avs_app]; rfl
          rw [hget_set, if_pos rfl, f0, ← e]; rfl
      · simp (disch := omega) [e2, e4, e20, e21, d1, g0, g1, hget_set]
        refine ⟨?_, (hO.set hl (Nat.le_succ m)).gc1 hl (Nat.le_refl m), hL.set.gc1, by show m ≤ m'; omega⟩
        rw [List.take_of_length_le (by omega)]
    · exact ⟨rfl, 0, .full, _, m1, by simp, by simp, by omega, rfl, by simp [e1], by simp [e2], by simp [e4], by simp, by simp, by simp, ((Over.refl m h).cons (Nat.le_refl m)).cons (by omega), ((hl.cons (Nat.lt_succ_self m)).cons (Nat.lt_succ_self _)).mono hm1, ⟨_, hget_eq _ _ _, rfl⟩, by simp (disch := omega) [Tm.avs, Tm.turnPs], .inl rfl⟩
  have eb : a110.body = .seq a110.body.fst (.seq a110.body.snd.fst a110.body.snd.snd) := rfl
  rw [eb, run_seq]
  generalize a110.body.snd.snd = C at *
  have hL2 : Low ((m + 1, AObj.cells [.int .i64 0, .str [], .int .i64 0, .slice [] .full]) :: (m, .cells [.int .i64 k, .str s, .int .i64 n, .slice (Tm.avs l) .none]) :: h) (m + 1 + 1) := (hl.cons (Nat.lt_succ_self m)).cons (Nat.lt_succ_self _)
  by_cases c1 : k = 1
  · subst c1
    rw [if_pos rfl]
    obtain ⟨c, as', q1, q2⟩ := hfv _ _ n hL2 ((hG.cons hl).cons (hl.cons (Nat.lt_succ_self m)))
    simp (disch := omega) [a110, ACode.fst, ACode.snd, r_callt hm, hkn]
    refine CallV.intro q1 q2 ?_
    rintro v ⟨H1, n1⟩ ⟨rfl, rfl, hn1⟩
    simp (disch := omega)
    exact main (f n) _ n1 hn1 (by simp) (by simp) (by simp)
  · rw [if_neg c1]
    simp (disch := omega) [a110, ACode.fst, ACode.snd, hkn, c1]
    exact main n _ _ (Nat.le_refl _) (by simp) (by simp) (by simp)
end Go.AM
namespace Go.AM
variable {T : Tab}
open Classical

/-- Numbers and their places, as a map. -/
def entsF : List Int → Nat → List (AV × AV)
  | [], _ => []
  | v :: l, i => (.int .i64 v, .int .i64 i) :: entsF l (i + 1)
theorem entsF_len (l : List Int) (i : Nat) : (entsF l i).length = l.length := by
  induction l generalizing i with
  | nil => rfl
  | cons v l ih => show (_ :: entsF l (i + 1)).length = _; simp [ih]
theorem mfind_entsF (l : List Int) (i : Nat) (k : Int) : mfind (entsF l i) (.int .i64 k) = if idx l k < 0 then none else some (.int .i64 (idx l k + i)) := by
  induction l generalizing i with
  | nil => rfl
  | cons v l ih =>
    have hr := idx_range l k
    show mfind ((.int .i64 v, .int .i64 i) :: entsF l (i + 1)) _ = _
    rw [mfind_consK, eqK_int, ih, idx]
    by_cases h : v = k
    · subst h; simp
    · simp only [h, decide_false, cond_false, if_false]
      by_cases h2 : idx l k < 0
      · simp [h2]
      · have : ¬ idx l k + 1 < 0 := by omega
        simp only [h2, this, if_false]
        congr 2; push_cast; omega
theorem mput_entsF (l : List Int) (i : Nat) (v : Int) (hv : v ∉ l) : mput (entsF l i) (.int .i64 v) (.int .i64 ((i + l.length : Nat) : Int)) = entsF (l ++ [v]) i := by
  induction l generalizing i with
  | nil => rfl
  | cons a l ih =>
    simp at hv
    show mput ((.int .i64 a, .int .i64 i) :: entsF l (i + 1)) _ _ = (_ :: entsF (l ++ [v]) (i + 1))
    have : a ≠ v := fun h' => hv.1 h'.symm
    rw [mput_consK, eqK_int, ← ih (i + 1) hv.2]
    simp only [this, decide_false, cond_false, List.length_cons]
    rw [show i + 1 + l.length = i + (l.length + 1) by omega]
/-- A number's place, 0 if there is none. -/
def placeF (vs : List Int) (k : Int) : Int := if idx vs k < 0 then 0 else idx vs k
theorem place_fn (hm : PrimMono T) (h111 : Has T 111 a111) (b mo : Nat) (vs : List Int) : FnOk T (.fn (.func 111) [] [.ptr b 0]) (placeF vs) [(b, .cells [.map mo]), (mo, .map [4] (entsF vs 0))] := by
  intro H n k hL hG
  refine ⟨.fn 111, [.int .i64 k, .ptr b 0], rfl, spec_fn hm h111.prim h111.func rfl ?_⟩
  have g1 := hG (b, .cells [.map mo]) (by simp)
  have g2 := hG (mo, .map [4] (entsF vs 0)) (by simp)
  simp at g1 g2
  by_cases c : idx vs k < 0
  · simp (disch := omega) [a111, g1, g2, mapGet, mfind_entsF, c, Ret, placeF, hL.gc1_id]
  · simp (disch := omega) [a111, g1, g2, mapGet, mfind_entsF, c, Ret, placeF, hL.gc1_id]
theorem varsR_nodup (acc : List Int) (x : Int × Tm) (h : acc.Nodup) : (varsR acc x).2.Nodup := by
  obtain ⟨d, k, s, n, l⟩ := x
  show (if k = 1 ∧ n ∉ acc then acc ++ [n] else acc).Nodup
  split
  · rename_i hc
    rw [List.nodup_append]; exact ⟨h, by simp, fun a ha b hb => by simp at hb; subst hb; exact fun hab => hc.2 (hab ▸ ha)⟩
  · exact h
theorem vars_nodup (t : Tm) : ∀ (d : Int) (acc : List Int), acc.Nodup → (walkF varsR d t acc).2.Nodup := by
  refine Tm.ind (M := fun t => ∀ (d : Int) (acc : List Int), acc.Nodup → (walkF varsR d t acc).2.Nodup) (fun k s n l ih d acc h => ?_) t
  rw [walkF, if_pos (varsR_true _ _)]
  have : ∀ (l : List Tm), (∀ x ∈ l, ∀ (d : Int) (acc : List Int), acc.Nodup → (walkF varsR d x acc).2.Nodup) → ∀ (d : Int) (acc : List Int), acc.Nodup → (walkFs varsR d l acc).2.Nodup := by
    intro l
    induction l with
    | nil => intro _ d acc h; rw [walkFs]; exact h
    | cons t l ihl =>
      intro ih d acc h
      rw [walkFs, if_pos (vars_walk t d acc).1]
      exact ihl (fun x hx => ih x (by simp [hx])) d _ (ih t (by simp) d acc h)
  exact this l ih _ _ (varsR_nodup _ _ h)
theorem varsAll_nodup (l : List Tm) : ∀ acc : List Int, acc.Nodup → (varsAll acc l).Nodup := by
  induction l with
  | nil => intro acc h; rw [varsAll]; exact h
  | cons t l ih => intro acc h; rw [varsAll]; exact ih _ (vars_nodup t 1 acc h)
theorem varsAll_len (l : List Tm) : ∀ acc : List Int, (varsAll acc l).length ≤ acc.length + Tm.sizes l := by
  induction l with
  | nil => intro acc; rw [varsAll, Tm.sizes]; omega
  | cons t l ih => intro acc; rw [varsAll, Tm.sizes]; have := ih (walkF varsR 1 t acc).2; have := (vars_walk t 1 acc).2; omega

/-- Terms renumbered, how many variables there are; an error. -/
def RetN (h : Heap) (m : Nat) (o : Option (List Tm × Nat)) : AV → St → Prop := fun v τ => (∃ tk, v = match o with | some r => .tup [.slice (Tm.avs r.1) tk, .int .i64 r.2, .int .i64 0] | none => .tup [.slice [] tk, .int .i64 0, .int .i64 1]) ∧ τ.heap = h ∧ m ≤ τ.next
def allRight (l : List Tm) : Prop := ∀ x ∈ l, x.right
noncomputable def numbP (l : List Tm) : Option (List Tm × Nat) := if allRight l then some (Tm.turnPs (placeF (varsAll [] l)) l, (varsAll [] l).length) else none

structure Rts (T : Tab) : Prop where
  h45 : Has T 45 a45
  h95 : Has T 95 a95
  h142 : Has T 142 a142
  h143 : Has T 143 a143
  h214 : Has T 214 a214
  h96 : Has T 96 a96
  h144 : Has T 144 a144
theorem Rts.right (r : Rts T) (hm : PrimMono T) (t : Tm) (wf : t.Wf) (hs : t.size ≤ 4000) (h : Heap) (m : Nat) (hl : Low h m) : Spec T (.fn 45) [t.av] ⟨h, m⟩ (Ret h m (.bool (decide t.right))) :=
  right2_spec hm r.h45 r.h95 r.h142 r.h143 r.h214 r.h96 r.h144 t wf hs h m hl

set_option maxHeartbeats 2000000 in
theorem number_spec (hm : PrimMono T) (R : Rts T) (h68 : Has T 68 a68) (h47 : Has T 47 a47) (h110 : Has T 110 a110) (h111 : Has T 111 a111) (l : List Tm) (wf : ∀ x ∈ l, x.Wf) (hs : Tm.sizes l ≤ 4000) (tk : Tok) (h : Heap) (m : Nat) (hl : Low h m) :
    Spec T (.fn 68) [.slice (Tm.avs l) tk] ⟨h, m⟩ (RetN h m (numbP l)) := by
  refine spec_fn hm h68.prim h68.func rfl ?_
  have hlen := sizes_len l
  simp (disch := omega) [a68]
  let I : Nat → Env → List ADef → St → Prop := fun q env ds σ => ds = [] ∧ ∃ (i : Nat) (H : Heap) (m' : Nat), i ≤ l.length ∧ q = l.length - i ∧ m ≤ m' ∧
    σ = ⟨H, m'⟩ ∧ aget env 0 = .slice (Tm.avs l) tk ∧ aget env 13 = .slice (Tm.avs l) tk ∧ aget env 14 = .int .i64 l.length ∧ aget env 15 = .int .i64 i ∧
    Over m h H ∧ Low H m' ∧ allRight (l.take i)
  refine run_loop hm I ?_ l.length ?_
  · rintro q env ds σ ⟨rfl, i, H, m', hi, rfl, hmm, rfl, e0, e13, e14, e15, hO, hL, hf⟩
    by_cases d1 : i < l.length
    · have hle := sizes_mem (List.getElem_mem d1)
      have hL1 := hL.cons (o := .cells l[i].av.cells) (Nat.lt_succ_self m')
      have hO1 := hO.cons (o := .cells l[i].av.cells) hmm
      simp (disch := omega) [r_call hm, e13, e14, e15, d1, cells_all, splice_av]
      refine CallK.ret (R.right hm l[i] (wf _ (List.getElem_mem d1)) (by omega) _ _ hL1) (fun m2 hm2 => ?_)
      by_cases d2 : l[i].right
      · simp (disch := omega) [e0, e15, d2, unV]
        exact ⟨l.length - (i + 1), by omega, rfl, i + 1, _, m2, by omega, rfl, by omega, rfl, by simp [e0], by simp [e13], by simp [e14], by simp, hO1, hL1.mono hm2, fun x hx => by
          rw [List.take_succ_eq_append_getElem d1] at hx
          rcases List.mem_append.mp hx with hx | hx
          · exact hf x hx
          · simp at hx; subst hx; exact d2⟩
      · have hno : numbP l = none := if_neg fun ha => d2 (ha _ (List.getElem_mem d1))
        simp (disch := omega) [d2, unV, RetN, hno, hO1.gc hl]
        omega
    · have hall : allRight l := by rw [List.take_of_length_le (by omega)] at hf; exact hf
      have hyes : numbP l = some (Tm.turnPs (placeF (varsAll [] l)) l, (varsAll [] l).length) := if_pos hall
      rw [hyes]
      have hvl := varsAll_len l []
      have hvn := varsAll_nodup l [] (by simp)
      simp at hvl
      simp (disch := omega) [r_call hm, e0, e14, e15, d1]
      have hL3 : Low ((m' + 1, AObj.cells [.map m']) :: (m', .map [4] []) :: H) (m' + 1 + 1) := (hL.cons (Nat.lt_succ_self m')).cons (Nat.lt_succ_self _)
      have hO3 : Over m h ((m' + 1, AObj.cells [.map m']) :: (m', .map [4] []) :: H) := (hO.cons hmm).cons (by omega)
      refine CallK.rets (vars2_spec hm h47 R.h95 R.h142 R.h143 R.h214 l wf hs _ _ _ hL3) (fun tkv m2 hm2 => ?_)
      generalize varsAll [] l = vs at *
      simp (disch := omega)
      let J : Nat → Env → List ADef → St → Prop := fun q env ds σ => ds = [] ∧ ∃ (i : Nat) (H : Heap) (m2 : Nat), i ≤ vs.length ∧ q = vs.length - i ∧ m' + 1 + 1 ≤ m2 ∧
        σ = ⟨H, m2⟩ ∧ aget env 0 = .slice (Tm.avs l) tk ∧ aget env 7 = .ptr (m' + 1) 0 ∧ aget env 25 = .slice (ints vs) tkv ∧ aget env 26 = .int .i64 vs.length ∧ aget env 27 = .int .i64 i ∧
        Over m h H ∧ Low H m2 ∧ hget H (m' + 1) = some (.cells [.map m']) ∧ hget H m' = some (.map [4] (entsF (vs.take i) 0))
      refine run_loop hm J ?_ vs.length ?_
      · clear hO hL e0 e13 e14 e15 hO3 hL3 hf d1
        rintro q env ds σ ⟨rfl, i, H, m2, hi, rfl, hmm2, rfl, e0, e7, e25, e26, e27, hO, hL, g1, g0⟩
        by_cases d1 : i < vs.length
        · have hni : vs[i] ∉ vs.take i := by
            intro hmem
            have hsp : vs = vs.take i ++ vs[i] :: vs.drop (i + 1) := by rw [← List.drop_eq_getElem_cons d1, List.take_append_drop]
            rw [hsp, List.nodup_append] at hvn
            exact hvn.2.2 _ hmem _ List.mem_cons_self rfl
          have hput := mput_entsF (vs.take i) 0 vs[i] hni
          rw [List.length_take, Nat.min_eq_left (by omega), Nat.zero_add] at hput
          simp (disch := omega) [e0, e7, e25, e26, e27, d1, g0, g1, mapGet, hput]
          refine ⟨vs.length - (i + 1), by omega, rfl, i + 1, _, m2, by omega, rfl, by omega, rfl, by simp [e0], by simp [e7], by simp [e25], by simp [e26], by simp, hO.set hl hmm, hL.set, (hget_sne (by omega)).trans g1, ?_⟩
          rw [List.take_succ_eq_append_getElem d1]; exact hget_seq g0
        · rw [List.take_of_length_le (by omega)] at g0
          simp (disch := omega) [e0, e26, e27, d1]
          let L : Nat → Env → List ADef → St → Prop := fun q env ds σ => ds = [] ∧ ∃ (i : Nat) (H : Heap) (m3 : Nat) (tk2 : Tok), i ≤ l.length ∧ q = l.length - i ∧ m' + 1 + 1 ≤ m3 ∧
            σ = ⟨H, m3⟩ ∧ aget env 7 = .ptr (m' + 1) 0 ∧ aget env 10 = .slice (Tm.avs (Tm.turnPs (placeF vs) (l.take i))) tk2 ∧ aget env 36 = .slice (Tm.avs l) tk ∧ aget env 37 = .int .i64 l.length ∧ aget env 38 = .int .i64 i ∧
            Over m h H ∧ Low H m3 ∧ hget H (m' + 1) = some (.cells [.map m']) ∧ hget H m' = some (.map [4] (entsF vs 0)) ∧ AppOk H m tk2 4
          refine run_loop hm L ?_ l.length ?_
          · clear hO hL e0 e7 e25 e26 e27 g0 g1 d1
            rintro q env ds σ ⟨rfl, i, H, m3, tk2, hi, rfl, hmm3, rfl, e7, e10, e36, e37, e38, hO, hL, g1, g0, hA⟩
            by_cases d1 : i < l.length
            · have hle := sizes_mem (List.getElem_mem d1)
              have hL1 := hL.cons (o := .cells l[i].av.cells) (Nat.lt_succ_self m3)
              have hO1 := hO.cons (o := .cells l[i].av.cells) (show m ≤ m3 by omega)
              have q1 := (hget_ne (.cells l[i].av.cells) H (show m3 ≠ m' + 1 by omega)).trans g1
              have q0 := (hget_ne (.cells l[i].av.cells) H (show m3 ≠ m' by omega)).trans g0
              simp (disch := omega) [r_call hm, e7, e10, e36, e37, e38, d1, cells_all, splice_av]
              refine CallK.reto (turned_spec hm h110 rfl (place_fn hm h111 (m' + 1) m' vs) l[i] (by omega) _ _ hL1 (fun p hp => by simp at hp; rcases hp with rfl | rfl; exact q1; exact q0)) (fun H2 m4 hm4 hO2 hL2 => ?_)
              have hO3 : Over m h H2 := hO2.trans hO1
              have g1' := hO2.get hL1 q1
              have g0' := hO2.get hL1 q0
              have hA2 : AppOk H2 m tk2 4 := (hA.cons (o := .cells l[i].av.cells) hL).over hL1 hO2
              have hlen3 : (Tm.turnPs (placeF vs) (l.take i)).length = i := by rw [turnPs_map]; simp; omega
              obtain ⟨tk3, H3, m5, s1, s2, s3, s4, s5, s6⟩ := app1g (x := (l[i].turnP (placeF vs)).av) (es := Tm.avs (Tm.turnPs (placeF vs) (l.take i))) (bytes := 56) hA2 hO3 hl hL2 (by omega) (by unfold fits; simp; omega) (elemOk_av _) (head_avs _)
              rw [strip_cell_av] at s1
              simp (disch := omega) [e7, e38, s1, strip_cell_av]
              refine ⟨l.length - (i + 1), by omega, rfl, i + 1, H3, m5, tk3, by omega, rfl, by omega, rfl, by simp [e7], ?_, by simp [e36], by simp [e37], by simp, s3, s4, s6 _ _ rfl g1', s6 _ _ rfl g0', s2⟩
              have e : Tm.avs (Tm.turnPs (placeF vs) (l.take i)) ++ [(l[i].turnP (placeF vs)).av] = Tm.avs (Tm.turnPs (placeF vs) (l.take (i + 1))) := by rw [List.take_succ_eq_append_getElem d1, turnPs_map, turnPs_map, List.map_append, ← avs_app]; rfl
              simp [e]
            · rw [List.take_of_length_le (by omega)] at e10
              simp (disch := omega) [e7, e10, e37, e38, d1, g0, g1, mapGet, entsF_len, RetN, hO.gc hl]
              omega
          · exact ⟨rfl, 0, H, m2, .full, by simp, by simp, by omega, rfl, by simp [e7], by simp [Tm.turnPs, Tm.avs], by simp, by simp, by simp, hO, hL, g1, g0, .inl rfl⟩
      · exact ⟨rfl, 0, _, m2, by simp, by simp, by omega, rfl, by simp [e0], by simp, by simp, by simp, by simp, hO3, hL3.mono hm2, hget_eq _ _ _, by simp (disch := omega) [entsF]⟩
  · exact ⟨rfl, 0, h, m, by simp, by simp, by omega, rfl, by simp, by simp, by simp, by simp, Over.refl m h, hl, fun x hx => by simp at hx⟩
end Go.AM
