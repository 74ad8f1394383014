/- A part of the proof of: PlanPatterns: a pattern of a Call, and which of some patterns covers it, is what the document says, or the error is told. -/
import Derived.Test.YtadgboblgclfgaaGreatDoorM44
namespace Go.AM
open Classical

/-! ### Matching at once, and in two steps -/
theorem mrg_app (x y : List Bd) : ∀ r, mrg r (x ++ y) = match mrg r x with
    | some r' => mrg r' y
    | none => none := by
  induction x with
  | nil => intro r; rfl
  | cons b x ih =>
    intro r
    show (match put1 r b with | some o => mrg o (x ++ y) | none => none) = _
    rw [show mrg r (b :: x) = (match put1 r b with | some o => mrg o x | none => none) from rfl]
    cases put1 r b with
    | none => rfl
    | some o => exact ih o
theorem fit_coll (p : Tm) : ∀ t r, Tm.fit r p t = match p.coll t with
    | some x => mrg r x
    | none => none := by
  refine Tm.ind (M := fun p => ∀ t r, Tm.fit r p t = match p.coll t with | some x => mrg r x | none => none) (fun k s n l ih t r => ?_) p
  obtain ⟨k', s', n', l'⟩ := t
  rw [Tm.fit, Tm.coll]
  split
  · show put1 r _ = (match put1 r _ with | some o => some o | none => none)
    cases put1 r (n, Tm.mk k' s' n' l') <;> rfl
  · split
    · rename_i hc
      have : ∀ (l : List Tm), (∀ x ∈ l, ∀ t r, Tm.fit r x t = match x.coll t with | some x => mrg r x | none => none) → ∀ l' r, l.length = l'.length → Tm.fits r l l' = match Tm.colls l l' with | some x => mrg r x | none => none := by
        intro l
        induction l with
        | nil => intro _ l' r _; rw [fits_nil, colls_nil]; rfl
        | cons a l ihl =>
          intro ih l' r hlen
          cases l' with
          | nil => simp at hlen
          | cons b m =>
            rw [fits_cons, colls_cons, ih a (by simp) b r]
            cases h1 : a.coll b with
            | none => rfl
            | some x =>
              dsimp only
              have ih2 := ihl (fun x hx => ih x (by simp [hx])) m
              cases h2 : Tm.colls l m with
              | none =>
                cases mrg r x with
                | none => rfl
                | some r' => dsimp only; rw [ih2 r' (by simpa using hlen), h2]
              | some y =>
                dsimp only
                rw [mrg_app]
                cases mrg r x with
                | none => rfl
                | some r' => dsimp only; rw [ih2 r' (by simpa using hlen), h2]
      exact this l ih l' r hc.2.2.2
    · rfl
theorem fit_mtch (p t : Tm) : Tm.fit [] p t = p.mtch t := fit_coll p t []
theorem inst_covers (t p : Tm) : instOk t p ↔ covers t p := by
  unfold instOk covers Tm.inst
  rw [fit_mtch]
  by_cases h : p.right ∧ t.right
  · rw [if_pos h]; simp [h]
  · rw [if_neg h]; simp; intro _ h1 h2; exact h ⟨h1, h2⟩

/-! ### Variables, gone through in both ways -/
theorem fair_var {k : Int} {s : List UInt8} {n : Int} {l : List Tm} (h : (Tm.mk k s n l).fair) (hk : k = 1) : s = [] ∧ l = [] ∧ 0 ≤ n ∧ n < 1000000 := by
  subst hk
  rw [Tm.fair, ownOk, if_pos rfl] at h
  exact ⟨h.2.2.2.2.1, h.2.2.2.2.2, h.2.2.1, h.2.2.2.1⟩
theorem fair_args {k : Int} {s : List UInt8} {n : Int} {l : List Tm} (h : (Tm.mk k s n l).fair) : Tm.fairs l := by rw [Tm.fair] at h; exact h.2.1
theorem fairs_iff (l : List Tm) : Tm.fairs l ↔ ∀ x ∈ l, x.fair := by
  induction l with
  | nil => simp
  | cons t l ih => rw [Tm.fairs, ih]; simp
theorem vars_with (t : Tm) : t.fair → ∀ d acc, (walkF varsR d t acc).2 = Tm.withV acc t := by
  refine Tm.ind (M := fun t => t.fair → ∀ d acc, (walkF varsR d t acc).2 = Tm.withV acc t) (fun k s n l ih hf d acc => ?_) t
  rw [walkF, if_pos (varsR_true _ _), Tm.withV]
  have e : (varsR acc (d, .mk k s n l)).2 = if k = 1 ∧ n ∉ acc then acc ++ [n] else acc := rfl
  rw [e]
  by_cases hk : k = 1
  · obtain ⟨rfl, rfl, _, _⟩ := fair_var hf hk
    rw [walkFs, if_pos hk]
    by_cases hn : n ∈ acc
    · simp [hk, hn]
    · simp [hk, hn]
  · rw [if_neg hk, if_neg (fun h => hk h.1)]
    have : ∀ (l : List Tm), (∀ x ∈ l, x.fair → ∀ d acc, (walkF varsR d x acc).2 = Tm.withV acc x) → (∀ x ∈ l, x.fair) → ∀ d acc, (walkFs varsR d l acc).2 = Tm.withVs acc l := by
      intro l
      induction l with
      | nil => intro _ _ d acc; rw [walkFs, Tm.withVs]
      | cons t l ihl =>
        intro ih hf d acc
        rw [walkFs, if_pos (vars_walk t d acc).1, Tm.withVs, ih t (by simp) (hf t (by simp)) d acc]
        exact ihl (fun x hx => ih x (by simp [hx])) (fun x hx => hf x (by simp [hx])) d _
    exact this l ih ((fairs_iff l).mp (fair_args hf)) _ _
theorem varsAll_with (l : List Tm) : (∀ x ∈ l, x.fair) → ∀ acc, varsAll acc l = Tm.withVs acc l := by
  induction l with
  | nil => intro _ acc; rw [varsAll, Tm.withVs]
  | cons t l ih => intro hf acc; rw [varsAll, Tm.withVs, vars_with t (hf t (by simp))]; exact ih (fun x hx => hf x (by simp [hx])) _

/-! ### Renaming -/
theorem turn_congr (f g : Int → Int) (vs : List Int) (hfg : ∀ v ∈ vs, f v = g v) (t : Tm) : t.fair → Tm.inV vs t → t.turnP f = t.turn g := by
  refine Tm.ind (M := fun t => t.fair → Tm.inV vs t → t.turnP f = t.turn g) (fun k s n l ih hf hin => ?_) t
  rw [Tm.turnP, Tm.turn]
  rw [Tm.inV] at hin
  by_cases hk : k = 1
  · obtain ⟨rfl, rfl, _, _⟩ := fair_var hf hk
    rw [if_pos hk, if_pos hk, Tm.turnPs]
    rw [if_pos hk] at hin
    rw [hfg n hin, hk]
  · rw [if_neg hk, if_neg hk]
    rw [if_neg hk] at hin
    have hfs := (fairs_iff l).mp (fair_args hf)
    have : Tm.turnPs f l = Tm.turns g l := by
      rw [turnPs_map, turns_map]
      exact List.map_congr_left fun x hx => ih x hx (hfs x hx) (inVs_mem hin x hx)
    rw [this]
theorem upto_get {n i : Nat} (h : i < n) : (upto n)[i]? = some (i : Int) := by
  unfold upto; rw [List.getElem?_map, List.getElem?_range h]; rfl
theorem place_turn (vs : List Int) (v : Int) (h : v ∈ vs) : placeF vs v = turnN vs (upto vs.length) v := by
  have h1 := mt (idx_neg vs v).mp (by simpa using h)
  have h2 := idx_range vs v
  unfold placeF turnN
  rw [if_neg h1, upto_get (by omega)]
  simp; omega
def injOn (f : Int → Int) (vs : List Int) : Prop := ∀ a ∈ vs, ∀ b ∈ vs, f a = f b → a = b
theorem turnN_inj (vs : List Int) : injOn (turnN vs (upto vs.length)) vs := by
  intro a ha b hb h
  rw [← place_turn vs a ha, ← place_turn vs b hb] at h
  have h1 := mt (idx_neg vs a).mp (by simpa using ha)
  have h2 := mt (idx_neg vs b).mp (by simpa using hb)
  unfold placeF at h
  rw [if_neg h1, if_neg h2] at h
  have r1 := idx_range vs a
  obtain ⟨j, hj⟩ := Int.eq_ofNat_of_zero_le (show 0 ≤ idx vs a by omega)
  have g1 := idx_get (n := a) (i := j) hj
  have g2 := idx_get (l := vs) (n := b) (i := j) (by rw [← h]; exact hj)
  rw [g1] at g2; exact Option.some.inj g2
theorem turnN_range (vs : List Int) (v : Int) (h : v ∈ vs) : 0 ≤ turnN vs (upto vs.length) v ∧ turnN vs (upto vs.length) v < vs.length := by
  rw [← place_turn vs v h]
  have h1 := mt (idx_neg vs v).mp (by simpa using h)
  have h2 := idx_range vs v
  unfold placeF; rw [if_neg h1]; omega
theorem mem_map_inj {f : Int → Int} {vs acc : List Int} {v : Int} (hi : injOn f vs) (ha : ∀ x ∈ acc, x ∈ vs) (hv : v ∈ vs) : f v ∈ acc.map f ↔ v ∈ acc := by
  constructor
  · intro h; obtain ⟨a, h1, h2⟩ := List.mem_map.mp h
    have := hi a (ha a h1) v hv h2; subst this; exact h1
  · intro h; exact List.mem_map.mpr ⟨v, h, rfl⟩
theorem withV_sub {vs : List Int} (t : Tm) : Tm.inV vs t → ∀ acc, (∀ x ∈ acc, x ∈ vs) → ∀ x ∈ Tm.withV acc t, x ∈ vs := by
  refine Tm.ind (M := fun t => Tm.inV vs t → ∀ acc, (∀ x ∈ acc, x ∈ vs) → ∀ x ∈ Tm.withV acc t, x ∈ vs) (fun k s n l ih hin acc ha => ?_) t
  rw [Tm.withV]
  rw [Tm.inV] at hin
  split
  · rename_i hk
    rw [if_pos hk] at hin
    split
    · exact ha
    · intro x hx
      rcases List.mem_append.mp hx with hx | hx
      · exact ha x hx
      · simp at hx; subst hx; exact hin
  · rename_i hk
    rw [if_neg hk] at hin
    have : ∀ (l : List Tm), (∀ x ∈ l, Tm.inV vs x → ∀ acc, (∀ x ∈ acc, x ∈ vs) → ∀ y ∈ Tm.withV acc x, y ∈ vs) → Tm.inVs vs l → ∀ acc, (∀ x ∈ acc, x ∈ vs) → ∀ x ∈ Tm.withVs acc l, x ∈ vs := by
      intro l
      induction l with
      | nil => intro _ _ acc ha; rw [Tm.withVs]; exact ha
      | cons t l ihl =>
        intro ih hin acc ha
        rw [Tm.inVs] at hin
        rw [Tm.withVs]
        exact ihl (fun x hx => ih x (by simp [hx])) hin.2 _ (ih t (by simp) hin.1 acc ha)
    exact this l ih hin acc ha
theorem withV_turn {f : Int → Int} {vs : List Int} (hi : injOn f vs) (t : Tm) : Tm.inV vs t → ∀ acc, (∀ x ∈ acc, x ∈ vs) → Tm.withV (acc.map f) (t.turn f) = (Tm.withV acc t).map f := by
  refine Tm.ind (M := fun t => Tm.inV vs t → ∀ acc, (∀ x ∈ acc, x ∈ vs) → Tm.withV (acc.map f) (t.turn f) = (Tm.withV acc t).map f) (fun k s n l ih hin acc ha => ?_) t
  rw [Tm.turn, Tm.withV]
  rw [Tm.inV] at hin
  by_cases hk : k = 1
  · rw [if_pos hk, if_pos hk, Tm.withV, if_pos rfl]
    rw [if_pos hk] at hin
    have := mem_map_inj hi ha hin
    by_cases hn : n ∈ acc
    · rw [if_pos hn, if_pos (this.mpr hn)]
    · rw [if_neg hn, if_neg (mt this.mp hn), List.map_append]; rfl
  · rw [if_neg hk, if_neg hk, Tm.withV, if_neg hk]
    rw [if_neg hk] at hin
    have : ∀ (l : List Tm), (∀ x ∈ l, Tm.inV vs x → ∀ acc, (∀ x ∈ acc, x ∈ vs) → Tm.withV (acc.map f) (x.turn f) = (Tm.withV acc x).map f) → Tm.inVs vs l → ∀ acc, (∀ x ∈ acc, x ∈ vs) → Tm.withVs (acc.map f) (Tm.turns f l) = (Tm.withVs acc l).map f := by
      intro l
      induction l with
      | nil => intro _ _ acc ha; rw [Tm.turns, Tm.withVs, Tm.withVs]
      | cons t l ihl =>
        intro ih hin acc ha
        rw [Tm.inVs] at hin
        rw [Tm.turns, Tm.withVs, Tm.withVs, ih t (by simp) hin.1 acc ha]
        exact ihl (fun x hx => ih x (by simp [hx])) hin.2 _ (withV_sub t hin.1 acc ha)
    exact this l ih hin acc ha
theorem numb1_vars (t : Tm) : (Tm.withVs [] [t.numb1]).length = (Tm.withVs [] [t]).length := by
  have hin : Tm.inV (Tm.withVs [] [t]) t := by have := inVs_of [t] []; rw [Tm.inVs] at this; exact this.1
  have h := withV_turn (turnN_inj (Tm.withVs [] [t])) t hin [] (fun x hx => by cases hx)
  unfold Tm.numb1
  rw [show Tm.withVs [] [t.turn (turnN (Tm.withVs [] [t]) (upto (Tm.withVs [] [t]).length))] = Tm.withV [] (t.turn (turnN (Tm.withVs [] [t]) (upto (Tm.withVs [] [t]).length))) by rw [Tm.withVs, Tm.withVs]]
  rw [List.map_nil] at h
  rw [h, List.length_map, Tm.withVs, Tm.withVs]

/-- The program's pattern is the document's. -/
theorem patt_eq (t : Tm) (hr : t.right) : ∀ k s n l, t = .mk k s n l → k = 3 → t.pattP = some t.patt := by
  rintro k s n l rfl hk
  have hfs : ∀ x ∈ [Tm.mk k s n l], x.fair := fun x hx => by simp at hx; subst hx; exact hr.1
  have hin : Tm.inV (Tm.withVs [] [Tm.mk k s n l]) (.mk k s n l) := by have := inVs_of [Tm.mk k s n l] []; rw [Tm.inVs] at this; exact this.1
  rw [Tm.pattP, Tm.patt, if_pos ⟨hk, hr⟩, varsAll_with _ hfs, numb1_vars, turn_congr _ (turnN (Tm.withVs [] [Tm.mk k s n l]) (upto (Tm.withVs [] [Tm.mk k s n l]).length)) _ (fun v hv => place_turn _ v hv) _ hr.1 hin]
  rfl
end Go.AM
namespace Go.AM
open Classical

theorem turn_right {f : Int → Int} {vs : List Int} (hf : ∀ v ∈ vs, 0 ≤ f v ∧ f v < 1000000) (t : Tm) : t.fair → Tm.inV vs t → (t.turn f).fair ∧ (t.turn f).size = t.size ∧ (t.turn f).deep = t.deep := by
  refine Tm.ind (M := fun t => t.fair → Tm.inV vs t → (t.turn f).fair ∧ (t.turn f).size = t.size ∧ (t.turn f).deep = t.deep) (fun k s n l ih hfa hin => ?_) t
  rw [Tm.turn]
  rw [Tm.inV] at hin
  by_cases hk : k = 1
  · obtain ⟨rfl, rfl, _, _⟩ := fair_var hfa hk
    rw [if_pos hk] at hin ⊢
    obtain ⟨h1, h2⟩ := hf n hin
    subst hk
    refine ⟨?_, by rw [Tm.size, Tm.size], by rw [Tm.deep, Tm.deep]⟩
    rw [Tm.fair, ownOk, if_pos rfl]
    exact ⟨chars_nil, fairs_nil, h1, h2, rfl, rfl⟩
  · rw [if_neg hk] at hin ⊢
    have key : ∀ (l : List Tm), (∀ x ∈ l, x.fair → Tm.inV vs x → (x.turn f).fair ∧ (x.turn f).size = x.size ∧ (x.turn f).deep = x.deep) → Tm.fairs l → Tm.inVs vs l → Tm.fairs (Tm.turns f l) ∧ Tm.sizes (Tm.turns f l) = Tm.sizes l ∧ Tm.deeps (Tm.turns f l) = Tm.deeps l ∧ (Tm.turns f l).length = l.length := by
      intro l
      induction l with
      | nil => intro _ _ _; rw [Tm.turns]; exact ⟨fairs_nil, rfl, rfl, rfl⟩
      | cons t l ihl =>
        intro ih hfa hin
        rw [Tm.fairs] at hfa
        rw [Tm.inVs] at hin
        obtain ⟨a1, a2, a3⟩ := ih t (by simp) hfa.1 hin.1
        obtain ⟨b1, b2, b3, b4⟩ := ihl (fun x hx => ih x (by simp [hx])) hfa.2 hin.2
        rw [Tm.turns, Tm.fairs, Tm.sizes, Tm.sizes, Tm.deeps, Tm.deeps, a2, b2, a3, b3]
        exact ⟨⟨a1, b1⟩, rfl, rfl, by simp [b4]⟩
    obtain ⟨b1, b2, b3, b4⟩ := key l ih (fair_args hfa) hin
    rw [Tm.fair, ownOk, if_neg hk] at hfa ⊢
    have hl0 : (Tm.turns f l = [] ↔ l = []) := by rw [turns_map]; simp
    refine ⟨⟨hfa.1, b1, ?_⟩, by rw [Tm.size, Tm.size, b2], by rw [Tm.deep, Tm.deep, b3]⟩
    rw [hl0, b4]; exact hfa.2.2

/-- A bind of a new number to an old variable. -/
def reb (f : Int → Int) (v : Int) : Bd := (f v, var v)
theorem fit_turn {f : Int → Int} {vs : List Int} (hi : injOn f vs) (t : Tm) : t.fair → Tm.inV vs t → ∀ acc, (∀ x ∈ acc, x ∈ vs) → Tm.fit (acc.map (reb f)) (t.turn f) t = some ((Tm.withV acc t).map (reb f)) := by
  refine Tm.ind (M := fun t => t.fair → Tm.inV vs t → ∀ acc, (∀ x ∈ acc, x ∈ vs) → Tm.fit (acc.map (reb f)) (t.turn f) t = some ((Tm.withV acc t).map (reb f))) (fun k s n l ih hfa hin acc ha => ?_) t
  rw [Tm.turn, Tm.withV]
  rw [Tm.inV] at hin
  have hmm : (acc.map (reb f)).map (·.1) = acc.map f := by rw [List.map_map]; rfl
  by_cases hk : k = 1
  · obtain ⟨rfl, rfl, _, _⟩ := fair_var hfa hk
    rw [if_pos hk] at hin
    subst hk
    rw [if_pos rfl, if_pos rfl, Tm.fit, if_pos rfl]
    unfold put1
    rw [hmm]
    have hmem := mem_map_inj hi ha hin
    by_cases hn : n ∈ acc
    · rw [if_pos hn]
      have h1 : ¬ idx (acc.map f) (f n) < 0 := mt (idx_neg _ _).mp (by simpa using hmem.mpr hn)
      rw [if_neg h1]
      have r1 := idx_range (acc.map f) (f n)
      obtain ⟨j, hj⟩ := Int.eq_ofNat_of_zero_le (show 0 ≤ idx (acc.map f) (f n) by omega)
      have g1 := idx_get hj
      rw [List.getElem?_map] at g1
      rw [hj, Int.toNat_natCast, List.getElem?_map]
      cases hg : acc[j]? with
      | none => rw [hg] at g1; cases g1
      | some a =>
        rw [hg] at g1
        have e : f a = f n := by simpa using g1
        have hav : a = n := hi a (ha a (List.mem_of_getElem? hg)) n hin e
        subst hav
        have : (var a).beq (Tm.mk 1 [] a []) = true := (beq_eq _ _).mpr rfl
        show (if (var a).beq (Tm.mk 1 [] a []) = true then _ else _) = _
        rw [if_pos this]
    · rw [if_neg hn, if_pos ((idx_neg _ _).mpr (mt hmem.mp hn)), List.map_append]; rfl
  · rw [if_neg hk] at hin
    rw [if_neg hk, if_neg hk, Tm.fit, if_neg hk, if_pos ⟨rfl, rfl, rfl, by rw [turns_map]; simp⟩]
    have : ∀ (l : List Tm), (∀ x ∈ l, x.fair → Tm.inV vs x → ∀ acc, (∀ x ∈ acc, x ∈ vs) → Tm.fit (acc.map (reb f)) (x.turn f) x = some ((Tm.withV acc x).map (reb f))) → (∀ x ∈ l, x.fair) → Tm.inVs vs l → ∀ acc, (∀ x ∈ acc, x ∈ vs) → Tm.fits (acc.map (reb f)) (Tm.turns f l) l = some ((Tm.withVs acc l).map (reb f)) := by
      intro l
      induction l with
      | nil => intro _ _ _ acc _; rw [Tm.turns, fits_nil, Tm.withVs]
      | cons t l ihl =>
        intro ih hfa hin acc ha
        rw [Tm.inVs] at hin
        rw [Tm.turns, fits_cons, ih t (by simp) (hfa t (by simp)) hin.1 acc ha, Tm.withVs]
        exact ihl (fun x hx => ih x (by simp [hx])) (fun x hx => hfa x (by simp [hx])) hin.2 _ (withV_sub t hin.1 acc ha)
    exact this l ih ((fairs_iff l).mp (fair_args hfa)) hin acc ha

theorem idx_nil_of {l : List Int} {n : Int} (h : n ∉ l) : idx l n < 0 := (idx_neg l n).mpr h
theorem fit_vars (l : List Tm) : ∀ (i : Nat) (r : List Bd), (∀ b ∈ r, b.1 < i) → (Tm.fits r ((List.range' i l.length).map fun j : Nat => var (j : Int)) l).isSome = true := by
  induction l with
  | nil => intro i r _; rw [List.length_nil]; show (Tm.fits r [] []).isSome = true; rw [fits_nil]; rfl
  | cons t l ih =>
    intro i r hr
    rw [List.length_cons, List.range'_succ, List.map_cons, fits_cons]
    obtain ⟨k', s', n', l'⟩ := t
    have e : (var (i : Int)).fit r (.mk k' s' n' l') = some (r ++ [((i : Int), Tm.mk k' s' n' l')]) := by
      show Tm.fit r (.mk 1 [] i []) _ = _
      rw [Tm.fit, if_pos rfl, put1, if_pos (idx_nil_of ?_)]
      intro hm
      obtain ⟨b, hb, h2⟩ := List.mem_map.mp hm
      have h3 := hr b hb
      have h2' : b.1 = (i : Int) := h2
      omega
    rw [e]
    exact ih (i + 1) _ (fun b hb => by
      rcases List.mem_append.mp hb with hb | hb
      · have := hr b hb; push_cast; omega
      · simp at hb; subst hb; push_cast; show (i : Int) < _; omega)
theorem vars_list_right (l : List Int) (hl : ∀ x ∈ l, 0 ≤ x ∧ x < 1000000) : Tm.fairs (l.map var) ∧ Tm.sizes (l.map var) = l.length ∧ Tm.deeps (l.map var) ≤ 1 := by
  induction l with
  | nil => exact ⟨fairs_nil, rfl, Nat.zero_le _⟩
  | cons v l ih =>
    obtain ⟨a, b, c⟩ := ih (fun x hx => hl x (by simp [hx]))
    have hv := hl v (by simp)
    rw [List.map_cons, Tm.fairs, Tm.sizes, Tm.deeps, b]
    refine ⟨⟨?_, a⟩, ?_, ?_⟩
    · rw [var, Tm.fair, ownOk, if_pos rfl]; exact ⟨chars_nil, fairs_nil, hv.1, hv.2, rfl, rfl⟩
    · rw [var, Tm.size, Tm.sizes, List.length_cons]; omega
    · rw [var, Tm.deep, Tm.deeps]; omega
theorem upto_range' (n : Nat) : (upto n).map var = (List.range' 0 n).map fun j : Nat => var (j : Int) := by
  unfold upto; rw [List.map_map, List.range_eq_range']; rfl

/-- A term is one of its own pattern's. -/
theorem patt_inst (t : Tm) (hr : t.right) : ∀ k s n l, t = .mk k s n l → k = 3 → instOk t t.patt := by
  rintro k s n l rfl rfl
  rw [inst_covers]
  have hfa := hr.1
  have hsz := hr.2.1
  have hin : Tm.inV (Tm.withVs [] [Tm.mk 3 s n l]) (.mk 3 s n l) := by have := inVs_of [Tm.mk 3 s n l] []; rw [Tm.inVs] at this; exact this.1
  unfold covers
  rw [← fit_mtch, Tm.patt]
  split
  · rename_i hlen
    rw [numb1_vars] at hlen
    have h1 := turn_right (f := turnN (Tm.withVs [] [Tm.mk 3 s n l]) (upto (Tm.withVs [] [Tm.mk 3 s n l]).length)) (fun v hv => by have := turnN_range _ v hv; omega) (.mk 3 s n l) hfa hin
    have h2 := fit_turn (turnN_inj (Tm.withVs [] [Tm.mk 3 s n l])) (.mk 3 s n l) hfa hin [] (fun x hx => by cases hx)
    rw [List.map_nil] at h2
    unfold Tm.numb1
    rw [h2]
    exact ⟨rfl, ⟨h1.1, by rw [h1.2.1]; exact hr.2.1, by rw [h1.2.2]; exact hr.2.2⟩, hr⟩
  · have hown := hfa
    rw [Tm.fair, ownOk, if_neg (by decide), if_neg (by decide)] at hown
    obtain ⟨hch, _, _, hn, h5, h6, h7⟩ := hown
    subst hn
    have hl8 : l.length ≤ 8 := by omega
    obtain ⟨a, b, c⟩ := vars_list_right (upto l.length) (fun x hx => by
      unfold upto at hx; obtain ⟨i, hi, rfl⟩ := List.mem_map.mp hx; rw [List.mem_range] at hi; simp; omega)
    refine ⟨?_, ⟨?_, ?_, ?_⟩, hr⟩
    · rw [Tm.fit, if_neg (by decide), if_pos ⟨rfl, rfl, rfl, by simp⟩, upto_range']
      exact fit_vars l 0 [] (fun b hb => by cases hb)
    · rw [Tm.fair, ownOk, if_neg (by decide), if_neg (by decide)]
      exact ⟨hch, a, rfl, rfl, h5, h6, by simp; omega⟩
    · rw [Tm.size, b]; simp; omega
    · rw [Tm.deep]; omega
end Go.AM
namespace Go.AM
variable {T : Tab}
open Classical

/-- The functions that the document's answers of layer 18's patterns reach. -/
structure Rfs (T : Tab) : Prop where
  h40 : Has T 40 a40
  h25 : Has T 25 a25
  h30 : Has T 30 a30
  h70 : Has T 70 a70
  h71 : Has T 71 a71
  h72 : Has T 72 a72
  h31 : Has T 31 a31
  h105 : Has T 105 a105
  h58 : Has T 58 a58
  h59 : Has T 59 a59
  h20 : Has T 20 a20
  h57 : Has T 57 a57
  h17 : Has T 17 a17
  h32 : Has T 32 a32
  h112 : Has T 112 a112
  h69 : Has T 69 a69
  h29 : Has T 29 a29
structure Pts (T : Tab) : Prop where
  M : Mts T
  F : Rfs T
  h33 : Has T 33 a33
  h28 : Has T 28 a28
  h27 : Has T 27 a27
  h68 : Has T 68 a68
  h47 : Has T 47 a47
  h110 : Has T 110 a110
  h111 : Has T 111 a111

theorem turn_wf {f : Int → Int} {vs : List Int} (hf : ∀ v ∈ vs, inI64 (f v)) (t : Tm) : t.Wf → Tm.inV vs t → (t.turn f).Wf := by
  refine Tm.ind (M := fun t => t.Wf → Tm.inV vs t → (t.turn f).Wf) (fun k s n l ih wf hin => ?_) t
  rw [Tm.turn]
  rw [Tm.inV] at hin
  obtain ⟨hk, hn, hsl, hll, hwf⟩ := wf
  by_cases h1 : k = 1
  · rw [if_pos h1] at hin ⊢
    exact .mk (by unfold inI64; omega) (hf n hin) (by simp) (by simp) (fun x hx => by cases hx)
  · rw [if_neg h1] at hin ⊢
    refine .mk hk hn hsl (by rw [turns_map]; simpa using hll) (fun x hx => ?_)
    rw [turns_map] at hx
    obtain ⟨y, hy, rfl⟩ := List.mem_map.mp hx
    exact ih y hy (hwf y hy) (inVs_mem hin y hy)
theorem patt_wf (t : Tm) (wf : t.Wf) (hs : t.size ≤ 4000) : t.patt.Wf := by
  obtain ⟨k, s, n, l⟩ := t
  have hv := withVs_len [Tm.mk k s n l] []
  have hin : Tm.inV (Tm.withVs [] [Tm.mk k s n l]) (.mk k s n l) := by have := inVs_of [Tm.mk k s n l] []; rw [Tm.inVs] at this; exact this.1
  rw [Tm.sizes, Tm.sizes] at hv
  simp at hv
  rw [Tm.patt]
  split
  · exact turn_wf (fun v hv => by have := turnN_range _ v hv; unfold inI64; omega) _ wf hin
  · obtain ⟨hk, hn, hsl, hll, hwf⟩ := wf
    refine .mk (by unfold inI64; omega) (by unfold inI64; omega) hsl (by simpa using hll) (fun x hx => ?_)
    obtain ⟨v, hv, rfl⟩ := List.mem_map.mp hx
    unfold upto at hv
    obtain ⟨i, hi, rfl⟩ := List.mem_map.mp hv
    rw [List.mem_range] at hi
    exact .mk (by unfold inI64; omega) (by unfold inI64; simp; omega) (by simp) (by simp) (fun x hx => by cases hx)
theorem zero_wf : zero.Wf := .mk (by unfold inI64; omega) (by unfold inI64; omega) (by simp) (by simp) (fun x hx => by cases hx)
theorem patt_size (t : Tm) (hs : t.size ≤ 4000) : t.patt.size ≤ 4000 := by
  obtain ⟨k, s, n, l⟩ := t
  have hlen := sizes_len l
  rw [Tm.patt]
  split
  · have := turn_size (turnN (Tm.withVs [] [Tm.mk k s n l]) (upto (Tm.withVs [] [Tm.mk k s n l]).length)) (.mk k s n l)
    unfold Tm.numb1; omega
  · rw [Tm.size] at hs ⊢
    have : Tm.sizes ((upto l.length).map var) ≤ l.length := by
      have : ∀ l : List Int, Tm.sizes (l.map var) ≤ l.length := by
        intro l
        induction l with
        | nil => exact Nat.le_refl _
        | cons v l ih => rw [List.map_cons, Tm.sizes, List.length_cons, var, Tm.size, Tm.sizes]; omega
      have := this (upto l.length); simpa using this
    omega
/-- Arguments are handed on without leave to append. -/
theorem spec_args {f : Nat} {fd : AFunc} {as bs : List AV} {σ : St} {P : AV → St → Prop} (h : Has T f fd) (hs : fd.stripArgs = true) (he : as.map stripVal = bs.map stripVal) (hb : Spec T (.fn f) bs σ P) : Spec T (.fn f) as σ P := by
  obtain ⟨n, v, τ, h1, h2⟩ := hb
  refine ⟨n, v, τ, ?_, h2⟩
  cases n with
  | zero => cases h1
  | succ n =>
    have hlen : as.length = bs.length := by have := congrArg List.length he; simpa using this
    have h3 : callFn T n (call T n) f bs σ = some (v, τ) := h1
    show callFn T n (call T n) f as σ = some (v, τ)
    rw [← h3]
    unfold callFn
    rw [h.prim, h.func]
    dsimp only
    unfold enter
    rw [hs, cond_true, cond_true, he, hlen]
set_option maxHeartbeats 4000000 in
theorem law_patterns (hm : PrimMono T) (P : Pts T) (h5 : Has T 5 a5) (h26 : ∀ h m, Low h m → Spec T (.fn 26) [] ⟨h, m⟩ (Ret h m (.bool true))) (t : Tm) (l : List Tm) (wft : t.Wf) (wfl : ∀ x ∈ l, x.Wf) (hlen : l.length ≤ 9223372036854775807) (h : Heap) (m : Nat) (hl : Low h m) :
    Spec T (.fn 5) [t.av, .slice (Tm.avs l) .none] ⟨h, m⟩ (Ret h m (.bool true)) := by
  refine spec_fn hm h5.prim h5.func rfl ?_
  have hL : ∀ m', m < m' → Low ((m, .cells t.av.cells) :: h) m' := fun m' hm' => hl.cons hm'
  have hwf1 : ∀ x ∈ [t], x.Wf := fun x hx => by simp at hx; subst hx; exact wft
  simp (disch := omega) [a5, r_call hm, strip_cell_av]
  refine CallK.ret (some_spec hm P.F.h25 P.F.h40 [t] hwf1 (by simp) .full _ _ (hL _ (Nat.lt_succ_self m))) (fun m1 hm1 => ?_)
  by_cases s1 : someOk [t]
  rotate_left
  · simp (disch := omega) [s1, unV, r_call hm]
    refine CallK.ret (h26 _ _ (hL _ hm1)) (fun m2 hm2 => ?_)
    simp (disch := omega) [Ret, hl.gc]
    omega
  simp (disch := omega) [s1, unV, r_call hm]
  refine CallK.ret (some_spec hm P.F.h25 P.F.h40 l wfl hlen .none _ _ (hL _ (by omega))) (fun m2 hm2 => ?_)
  by_cases s2 : someOk l
  rotate_left
  · simp (disch := omega) [s2, unV, r_call hm]
    refine CallK.ret (h26 _ _ (hL _ (by omega))) (fun m3 hm3 => ?_)
    simp (disch := omega) [Ret, hl.gc]
    omega
  have hst : t.size ≤ 4000 := by have := (some_sizes s1).1; rw [Tm.sizes, Tm.sizes] at this; omega
  have hsl := (some_sizes s2).1
  simp (disch := omega) [s2, unV, r_call hm]
  refine CallK.ret (pattern2_spec hm P.M.R P.h27 P.h68 P.h47 P.h110 P.h111 t wft hst _ _ (hL _ (by omega))) (fun m3 hm3 => ?_)
  unfold retE
  simp (disch := omega) [q_call hm, cells_all, splice_av]
  have hL3 : ∀ (x : Tm) m', m3 < m' → Low ((m3, .cells x.av.cells) :: (m, .cells t.av.cells) :: h) m' := fun x m' hm' => (hL m3 (by omega)).cons hm'
  refine CallD.ret (cover2_spec hm P.M P.h28 P.h33 l hsl wfl t hst wft .none _ _ (hL3 _ _ (Nat.lt_succ_self _))) (fun m4 hm4 => ?_)
  simp (disch := omega) [q_call hm]
  refine CallD.ret (cover_spec hm P.F.h29 P.F.h69 P.F.h112 P.F.h58 P.F.h31 P.F.h30 P.F.h70 P.F.h71 P.F.h72 l hsl wfl t hst wft .none _ _ (hL3 _ _ (by omega))) (fun m5 hm5 => ?_)
  have hcov : firstI (instOk t) l = firstI (covers t) l := firstI_congr fun x _ => inst_covers t x
  simp (disch := omega) [hcov, r_call hm]
  refine CallK.ret (right_spec hm P.F.h30 P.F.h70 P.F.h71 P.F.h72 t wft hst _ _ (hL3 _ _ (by omega))) (fun m6 hm6 => ?_)
  obtain ⟨k, s, n, al⟩ := t
  have hz : AV.agg [.int .i64 0, .str [], .int .i64 0, .slice [] .none] = zero.av := rfl
  have hzz : zero.beq zero = true := (beq_eq _ _).mpr rfl
  by_cases c1 : (Tm.mk k s n al).right ∧ k = 3
  rotate_left
  · have hp : (Tm.mk k s n al).pattP = none := by rw [Tm.pattP, if_neg (fun h => c1 ⟨h.2, h.1⟩)]
    have hsame : ∀ m', m6 ≤ m' → Spec T (.fn 31) [zero.av, AV.agg [.int .i64 0, .str [], .int .i64 0, .slice [] .full]] ⟨(m3, .cells zero.av.cells) :: (m, .cells [.int .i64 k, .str s, .int .i64 n, .slice (Tm.avs al) .none]) :: h, m'⟩ (Ret ((m3, .cells zero.av.cells) :: (m, .cells [.int .i64 k, .str s, .int .i64 n, .slice (Tm.avs al) .none]) :: h) m' (.bool (zero.beq zero))) :=
      fun m' hm' => spec_args (bs := [zero.av, zero.av]) P.F.h31 rfl rfl (same_spec hm P.F.h31 zero zero_wf zero _ _ (hL3 zero m' (by omega)))
    rw [hzz] at hsame
    by_cases c2 : (Tm.mk k s n al).right
    · have c3 : k ≠ 3 := fun h => c1 ⟨c2, h⟩
      simp (disch := omega) [c2, c3, unV, r_call hm, hp]
      refine CallK.ret (hsame m6 (Nat.le_refl _)) (fun m7 hm7 => ?_)
      simp (disch := omega) [r_call hm]
      refine CallK.ret (h26 _ _ (hL3 zero m7 (by omega))) (fun m8 hm8 => ?_)
      simp (disch := omega) [Ret, hl.gc]
      omega
    · simp (disch := omega) [c2, unV, r_call hm, hp]
      refine CallK.ret (hsame m6 (Nat.le_refl _)) (fun m7 hm7 => ?_)
      simp (disch := omega) [r_call hm]
      refine CallK.ret (h26 _ _ (hL3 zero m7 (by omega))) (fun m8 hm8 => ?_)
      simp (disch := omega) [Ret, hl.gc]
      omega
  · obtain ⟨c2, c3⟩ := c1
    have hp := patt_eq _ c2 k s n al rfl c3
    have hi := patt_inst _ c2 k s n al rfl c3
    have hw := patt_wf _ wft hst
    have hsz := patt_size _ hst
    subst c3
    simp (disch := omega) [c2, unV, q_call hm, hp]
    refine CallD.ret (pattern_spec hm P.F.h32 P.F.h17 P.F.h20 P.F.h59 P.F.h57 P.F.h105 _ hst _ _ (hL3 (Tm.mk 3 s n al).patt m6 (by omega))) (fun m7 hm7 => ?_)
    generalize hx : (Tm.mk 3 s n al).patt = x at *
    have hxx : x.beq x = true := (beq_eq _ _).mpr rfl
    simp (disch := omega) [q_call hm]
    refine CallD.ret (same_spec hm P.F.h31 x hw x _ _ (hL3 x m7 (by omega))) (fun m8 hm8 => ?_)
    simp (disch := omega) [q_call hm, hxx]
    refine CallD.ret (instance_spec hm P.M P.h33 (.mk 3 s n al) x wft hw hst hsz _ _ (hL3 x m8 (by omega))) (fun m9 hm9 => ?_)
    simp (disch := omega) [q_call hm, hi]
    refine CallD.ret (h26 _ _ (hL3 x m9 (by omega))) (fun m10 hm10 => ?_)
    simp (disch := omega) [Ret, hl.gc]
    omega
end Go.AM
