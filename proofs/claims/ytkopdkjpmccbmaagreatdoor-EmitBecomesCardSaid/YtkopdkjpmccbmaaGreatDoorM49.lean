/- A part of the proof of: EmitBecomes: what a term becomes by patterns, and a pattern's name, is what the document says, or the error is told. -/
import Derived.Test.YtkopdkjpmccbmaaGreatDoorM42
namespace Go.AM
open Classical

/-! ### Matching at once, and in two steps -/
theorem mrg_app (x y : List Bd) : ∀ r, mrg r (x ++ y) = match mrg r x with
    | some r' => mrg r' y
    | none => none := by
  induction x with
  | nil => intro r; rfl
  | cons b x ih =>
    intro r
    show (match put1 r b with | some o => mrg o (x ++ y) | none => none) = _
    rw [show mrg r (b :: x) = (match put1 r b with | some o => mrg o x | none => none) from rfl]
    cases put1 r b with
    | none => rfl
    | some o => exact ih o
theorem fit_coll (p : Tm) : ∀ t r, Tm.fit r p t = match p.coll t with
    | some x => mrg r x
    | none => none := by
  refine Tm.ind (M := fun p => ∀ t r, Tm.fit r p t = match p.coll t with | some x => mrg r x | none => none) (fun k s n l ih t r => ?_) p
  obtain ⟨k', s', n', l'⟩ := t
  rw [Tm.fit, Tm.coll]
  split
  · show put1 r _ = (match put1 r _ with | some o => some o | none => none)
    cases put1 r (n, Tm.mk k' s' n' l') <;> rfl
  · split
    · rename_i hc
      have : ∀ (l : List Tm), (∀ x ∈ l, ∀ t r, Tm.fit r x t = match x.coll t with | some x => mrg r x | none => none) → ∀ l' r, l.length = l'.length → Tm.fits r l l' = match Tm.colls l l' with | some x => mrg r x | none => none := by
        intro l
        induction l with
        | nil => intro _ l' r _; rw [fits_nil, colls_nil]; rfl
        | cons a l ihl =>
          intro ih l' r hlen
          cases l' with
          | nil => simp at hlen
          | cons b m =>
            rw [fits_cons, colls_cons, ih a (by simp) b r]
            cases h1 : a.coll b with
            | none => rfl
            | some x =>
              dsimp only
              have ih2 := ihl (fun x hx => ih x (by simp [hx])) m
              cases h2 : Tm.colls l m with
              | none =>
                cases mrg r x with
                | none => rfl
                | some r' => dsimp only; rw [ih2 r' (by simpa using hlen), h2]
              | some y =>
                dsimp only
                rw [mrg_app]
                cases mrg r x with
                | none => rfl
                | some r' => dsimp only; rw [ih2 r' (by simpa using hlen), h2]
      exact this l ih l' r hc.2.2.2
    · rfl
theorem fit_mtch (p t : Tm) : Tm.fit [] p t = p.mtch t := fit_coll p t []
theorem inst_covers (t p : Tm) : instOk t p ↔ covers t p := by
  unfold instOk covers Tm.inst
  rw [fit_mtch]
  by_cases h : p.right ∧ t.right
  · rw [if_pos h]; simp [h]
  · rw [if_neg h]; simp; intro _ h1 h2; exact h ⟨h1, h2⟩

/-! ### Variables, gone through in both ways -/
theorem fair_var {k : Int} {s : List UInt8} {n : Int} {l : List Tm} (h : (Tm.mk k s n l).fair) (hk : k = 1) : s = [] ∧ l = [] ∧ 0 ≤ n ∧ n < 1000000 := by
  subst hk
  rw [Tm.fair, ownOk, if_pos rfl] at h
  exact ⟨h.2.2.2.2.1, h.2.2.2.2.2, h.2.2.1, h.2.2.2.1⟩
theorem fair_args {k : Int} {s : List UInt8} {n : Int} {l : List Tm} (h : (Tm.mk k s n l).fair) : Tm.fairs l := by rw [Tm.fair] at h; exact h.2.1
theorem fairs_iff (l : List Tm) : Tm.fairs l ↔ ∀ x ∈ l, x.fair := by
  induction l with
  | nil => simp
  | cons t l ih => rw [Tm.fairs, ih]; simp
theorem vars_with (t : Tm) : t.fair → ∀ d acc, (walkF varsR d t acc).2 = Tm.withV acc t := by
  refine Tm.ind (M := fun t => t.fair → ∀ d acc, (walkF varsR d t acc).2 = Tm.withV acc t) (fun k s n l ih hf d acc => ?_) t
  rw [walkF, if_pos (varsR_true _ _), Tm.withV]
  have e : (varsR acc (d, .mk k s n l)).2 = if k = 1 ∧ n ∉ acc then acc ++ [n] else acc := rfl
  rw [e]
  by_cases hk : k = 1
  · obtain ⟨rfl, rfl, _, _⟩ := fair_var hf hk
    rw [walkFs, if_pos hk]
    by_cases hn : n ∈ acc
    · simp [hk, hn]
    · simp [hk, hn]
  · rw [if_neg hk, if_neg (fun h => hk h.1)]
    have : ∀ (l : List Tm), (∀ x ∈ l, x.fair → ∀ d acc, (walkF varsR d x acc).2 = Tm.withV acc x) → (∀ x ∈ l, x.fair) → ∀ d acc, (walkFs varsR d l acc).2 = Tm.withVs acc l := by
      intro l
      induction l with
      | nil => intro _ _ d acc; rw [walkFs, Tm.withVs]
      | cons t l ihl =>
        intro ih hf d acc
        rw [walkFs, if_pos (vars_walk t d acc).1, Tm.withVs, ih t (by simp) (hf t (by simp)) d acc]
        exact ihl (fun x hx => ih x (by simp [hx])) (fun x hx => hf x (by simp [hx])) d _
    exact this l ih ((fairs_iff l).mp (fair_args hf)) _ _
theorem varsAll_with (l : List Tm) : (∀ x ∈ l, x.fair) → ∀ acc, varsAll acc l = Tm.withVs acc l := by
  induction l with
  | nil => intro _ acc; rw [varsAll, Tm.withVs]
  | cons t l ih => intro hf acc; rw [varsAll, Tm.withVs, vars_with t (hf t (by simp))]; exact ih (fun x hx => hf x (by simp [hx])) _

/-! ### Renaming -/
def injOn (f : Int → Int) (vs : List Int) : Prop := ∀ a ∈ vs, ∀ b ∈ vs, f a = f b → a = b
end Go.AM
namespace Go.AM
variable {T : Tab}
open Classical

/-- The reference's rights and variables. -/
structure Rfs (T : Tab) : Prop where
  h30 : Has T 8 a8
  h70 : Has T 26 a26
  h71 : Has T 27 a27
  h72 : Has T 28 a28
  h20 : Has T 29 a29
  h59 : Has T 53 a53
theorem Rfs.right (r : Rfs T) (hm : PrimMono T) (t : Tm) (wf : t.Wf) (hs : t.size ≤ 4000) (h : Heap) (m : Nat) (hl : Low h m) : Spec T (.fn 8) [t.av] ⟨h, m⟩ (Ret h m (.bool (decide t.right))) :=
  right_spec hm r.h30 r.h70 r.h71 r.h72 t wf hs h m hl
/-- May a term be a pattern? -/
def Tm.pat (t : Tm) : Prop := t.right ∧ (Tm.withVs [] [t]).length ≤ 8
theorem refPat_spec (hm : PrimMono T) (R : Rfs T) (h9 : Has T 9 a9) (t : Tm) (wf : t.Wf) (hs : t.size ≤ 4000) (h : Heap) (m : Nat) (hl : Low h m) : Spec T (.fn 9) [t.av] ⟨h, m⟩ (Ret h m (.bool (decide t.pat))) := by
  refine spec_fn hm h9.prim h9.func rfl ?_
  have hL := hl.cons (o := .cells t.av.cells) (Nat.lt_succ_self m)
  have hO : Over m h ((m, .cells t.av.cells) :: h) := (Over.refl m h).cons (Nat.le_refl m)
  simp (disch := omega) [a9, r_call hm]
  refine CallK.ret (R.right hm t wf hs _ _ hL) (fun m1 hm1 => ?_)
  have hsz : Tm.sizes [t] ≤ 4000 := by rw [Tm.sizes, Tm.sizes]; omega
  have hv := withVs_len [t] []
  simp at hv
  by_cases c : t.right
  · simp (disch := omega) [c, r_call hm, strip_cell_av, av_slice1]
    refine CallK.rets (vars_spec hm R.h20 R.h59 [t] hsz _ _ _ (hL.mono hm1)) (fun tk2 m2 hm2 => ?_)
    simp (disch := omega) [c, Ret, hO.gc hl, Tm.pat]
    exact ⟨by by_cases c8 : (Tm.withVs [] [t]).length ≤ 8 <;> simp [c8] <;> omega, by omega⟩
  · simp (disch := omega) [c, Ret, hO.gc hl, Tm.pat]
    omega
theorem emPat_spec (hm : PrimMono T) (R : Rts T) (h47 : Has T 49 a49) (h23 : Has T 23 a23) (t : Tm) (wf : t.Wf) (hs : t.size ≤ 4000) (h : Heap) (m : Nat) (hl : Low h m) : Spec T (.fn 23) [t.av] ⟨h, m⟩ (Ret h m (.bool (decide t.pat))) := by
  refine spec_fn hm h23.prim h23.func rfl ?_
  have hL := hl.cons (o := .cells t.av.cells) (Nat.lt_succ_self m)
  have hO : Over m h ((m, .cells t.av.cells) :: h) := (Over.refl m h).cons (Nat.le_refl m)
  simp (disch := omega) [a23, r_call hm]
  refine CallK.ret (R.right hm t wf hs _ _ hL) (fun m1 hm1 => ?_)
  have hsz : Tm.sizes [t] ≤ 4000 := by rw [Tm.sizes, Tm.sizes]; omega
  have hv := withVs_len [t] []
  simp at hv
  by_cases c : t.right
  · simp (disch := omega) [c, r_call hm, strip_cell_av, av_slice1]
    refine CallK.rets (vars2_spec hm h47 R.h95 R.h142 R.h143 R.h214 [t] (by simpa using wf) hsz _ _ _ (hL.mono hm1)) (fun tk2 m2 hm2 => ?_)
    have hw : varsAll [] [t] = Tm.withVs [] [t] := varsAll_with [t] (by simpa using c.1) []
    simp (disch := omega) [c, Ret, hO.gc hl, Tm.pat, hw]
    exact ⟨by by_cases c8 : (Tm.withVs [] [t]).length ≤ 8 <;> simp [c8] <;> omega, by omega⟩
  · simp (disch := omega) [c, Ret, hO.gc hl, Tm.pat]
    omega
end Go.AM
namespace Go.AM
variable {T : Tab}
open Classical

/-- A term of a pattern's binds. -/
def asT (n : Nat) (r : List Bd) : Tm := .mk 3 (nameL n) 0 (r.map (·.2))
/-- A term, and whether there is one. -/
def RetA (h : Heap) (m : Nat) (o : Option Tm) : AV → St → Prop := fun v τ => v = .tup [(o.getD zero).av, .bool o.isSome] ∧ τ.heap = h ∧ m ≤ τ.next
theorem CallK.reta {ks : List K} {env : Env} {ds : List ADef} {Q : Ex → Env → List ADef → St → Prop} {n m : Nat} {as : List AV} {h : Heap} {d : Option Nat} {l : List AOper} {o : Option Tm} (hs : Spec T (.fn n) as ⟨h, m⟩ (RetA h m o)) (k : ∀ m', m ≤ m' → Run T (.ops l :: ks) .normal (put env d (.tup [(o.getD zero).av, .bool o.isSome])) ds ⟨h, m'⟩ Q) : CallK T n as ⟨h, m⟩ d l ks env ds Q :=
  ⟨_, hs, fun v' τ hv => by obtain ⟨rfl, h1, h2⟩ := hv; obtain ⟨h', m'⟩ := τ; cases h1; exact k m' h2⟩
theorem CallD.reta {ks : List K} {env : Env} {ds : List ADef} {Q : Ex → Env → List ADef → St → Prop} {n m : Nat} {args : List Opd} {as : List AV} {h : Heap} {d : Option Nat} {l : List AOper} {acc chk} {o : Option Tm} (hs : Spec T (.fn n) as ⟨h, m⟩ (RetA h m o)) (k : ∀ m', m ≤ m' → Run T (.dops l (⟨⟨h, m⟩, some (.call (.f n) args, env), (match d with | some _ => (.tup [(o.getD zero).av, .bool o.isSome]) | none => .undef)⟩ :: acc) chk :: ks) .normal (put env d (.tup [(o.getD zero).av, .bool o.isSome])) ds ⟨h, m'⟩ Q) : CallD T n args as ⟨h, m⟩ d l acc chk ks env ds Q :=
  fun _ => ⟨_, hs, fun v' τ hv => by obtain ⟨rfl, h1, h2⟩ := hv; obtain ⟨h', m'⟩ := τ; cases h1; exact k m' h2⟩
theorem BdOk.len {m : Nat} {r : List Bd} {x : AV} {H : Heap} (h : BdOk m r x H) : lenOf x = some r.length := by
  rcases h with ⟨rfl, tk, rfl⟩ | ⟨o, _, rfl, _⟩ <;> rfl
theorem BdOk.keep {m : Nat} {r : List Bd} {x : AV} {H H' : Heap} (h : BdOk m r x H) (k : ∀ j c, hget H j = some (.cells c) → m ≤ j → hget H' j = some (.cells c)) : BdOk m r x H' := h.imp id fun ⟨o, a, b, c⟩ => ⟨o, a, b, k o _ c a⟩

theorem slc_flat5 (r : List Bd) (i : Nat) (h : i < r.length) : slc (flat r) (i * 5) 5 = some (bd r[i]).cells := by
  induction r generalizing i with
  | nil => simp at h
  | cons b r ih =>
    rw [flat_cons]
    cases i with
    | zero => obtain ⟨n, ⟨k, s, nn, l⟩⟩ := b; rw [Nat.zero_mul]; cases flat r <;> rfl
    | succ i =>
      have := ih i (by simpa using h)
      obtain ⟨n, ⟨k, s, nn, l⟩⟩ := b
      rw [show (i + 1) * 5 = i * 5 + 5 by omega]
      exact this
theorem splice_bd (a b c d e v : AV) (t : Tm) : splice [a, b, c, d, e] 0 (v :: t.av.cells) = some (v :: t.av.cells) := by cases t; rfl
set_option maxHeartbeats 2000000 in
theorem as_spec (hm : PrimMono T) (M : Mts T) (h10 : Has T 10 a10) (hI : Itoa T) (h52 : Has T 52 a52) (n : Nat) (hn : n < 1000000) (p t : Tm) (wfp : p.Wf) (wft : t.Wf) (hsp : p.size ≤ 4000) (hst : t.size ≤ 4000) (h : Heap) (m : Nat) (hl : Low h m) :
    Spec T (.fn 52) [.int .i64 n, p.av, t.av] ⟨h, m⟩ (RetA h m ((p.matched t).map (asT n))) := by
  refine spec_fn hm h52.prim h52.func rfl ?_
  have hL : Low ((m + 1 + 1, .cells [.int .i64 0, .str [], .int .i64 0, .slice [] .full]) :: (m + 1, .cells t.av.cells) :: (m, .cells p.av.cells) :: h) (m + 1 + 1 + 1) := ((hl.cons (Nat.lt_succ_self m)).cons (Nat.lt_succ_self _)).cons (Nat.lt_succ_self _)
  have hO : Over m h ((m + 1 + 1, .cells [.int .i64 0, .str [], .int .i64 0, .slice [] .full]) :: (m + 1, .cells t.av.cells) :: (m, .cells p.av.cells) :: h) := (((Over.refl m h).cons (Nat.le_refl m)).cons (by omega)).cons (by omega)
  simp (disch := omega) [a52, r_call hm]
  refine CallK.mat (match_spec hm M.R M.h73 M.h113 M.h114 M.h115 p t wfp wft hsp hst _ _ hL) (fun x H m1 hx hO1 hL1 hm1 => ?_)
  have hO2 := hO1.trans hO (by omega)
  have g6 : hget H (m + 1 + 1) = some (.cells [.int .i64 0, .str [], .int .i64 0, .slice [] .full]) := (hO1.old (by omega)).trans (hget_eq _ _ _)
  by_cases c : p.right ∧ t.right
  rotate_left
  · have e : p.matched t = none := if_neg c
    rw [e]
    simp (disch := omega) [c, RetA, hget_set, g6]
    exact ⟨rfl, (hO2.set hl (by omega)).gc hl, by omega⟩
  · have e : p.matched t = p.fit [] t := if_pos c
    have fl := fit_len p t []
    cases hr : p.matched t with
    | none =>
      simp (disch := omega) [c, RetA, hget_set, g6]
      exact ⟨rfl, (hO2.set hl (by omega)).gc hl, by omega⟩
    | some r =>
      have hrl := fl r (e ▸ hr)
      have hx := hx r hr
      simp at hrl
      simp (disch := omega) [c, r_call hm]
      refine CallK.ret (name_spec hm h10 hI n hn _ _ hL1) (fun m2 hm2 => ?_)
      simp (disch := omega) [hx.len]
      have hx2 := hx.keep (H' := (m2, .cells [.int .i64 3, .str (nameL n), .int .i64 0, .slice [] .full]) :: H) (fun j c hj _ => by have := hL1.lt hj; rw [hget_ne _ _ (by omega)]; exact hj)
      have hno : notOut x m2 := by
        rcases hx with ⟨rfl, tk, rfl⟩ | ⟨o, _, rfl, hg⟩
        · intro a b c h; cases h
        · have := hL1.lt hg; intro a b c h; cases h; omega
      obtain ⟨l, hle⟩ : ∃ l : List Tm, l = r.map (·.2) := ⟨_, rfl⟩
      have hll : l.length = r.length := by rw [hle, List.length_map]
      have hget5 : ∀ i (hi : i < r.length), r[i].2 = l[i]'(by omega) := fun i hi => by subst hle; simp
      let I : Nat → Env → List ADef → St → Prop := fun q env ds σ => ds = [] ∧ ∃ (i : Nat) (tk2 : Tok) (H : Heap) (m' : Nat), i ≤ r.length ∧ q = r.length - i ∧ m2 < m' ∧
        σ = ⟨H, m'⟩ ∧ aget env 6 = .ptr (m + 1 + 1) 0 ∧ aget env 11 = .ptr m2 0 ∧ aget env 31 = x ∧ aget env 32 = .int .i64 r.length ∧ aget env 33 = .int .i64 i ∧
        Over m h H ∧ Low H m' ∧ BdOk (m + 1 + 1 + 1) r x H ∧ hget H (m + 1 + 1) = some (.cells [.int .i64 0, .str [], .int .i64 0, .slice [] .full]) ∧
        hget H m2 = some (.cells [.int .i64 3, .str (nameL n), .int .i64 0, .slice (Tm.avs (l.take i)) tk2]) ∧ AppOk H m tk2 4
      refine run_loop hm I ?_ r.length ?_
      · clear hx2 hx
        rintro q env ds σ ⟨rfl, i, tk2, H, m', hi, rfl, hmm, rfl, e6, e11, e31, e32, e33, hO, hL, hx, g2, g0, hA⟩
        by_cases d1 : i < r.length
        · rcases hx with ⟨rfl, _⟩ | ⟨o, hfo, rfl, hg⟩
          · simp at d1
          · have hbl : Nat.blt i r.length = true := Nat.ble_eq_true_of_le d1
            have hO2 : Over m h ((m', .cells (AV.int .i64 r[i].1 :: l[i].av.cells)) :: H) := hO.cons (by omega)
            obtain ⟨tk3, H3, m3, s1, s2, s3, s4, s5, s6⟩ := app1 (x := l[i].av) (es := Tm.avs (l.take i)) (bytes := 56) (hA.cons (o := .cells (AV.int .i64 r[i].1 :: l[i].av.cells)) hL) hO2 hl (hL.cons (Nat.lt_succ_self m')) (by omega) (by unfold fits; simp; omega) (elemOk_av _) (head_avs _)
            rw [strip_cell_av] at s1
            have hom : o ≠ m2 := fun e => hno 0 r.length 5 (by rw [e])
            have f0 := s6 m2 _ ((hget_ne _ _ (by omega)).trans g0)
            have f2 := s6 (m + 1 + 1) _ ((hget_ne _ _ (by omega)).trans g2)
            have f5 := s6 o _ ((hget_ne _ _ (by have := hL.lt hg; omega)).trans hg)
            have h5 := hget5 i d1
            simp (disch := omega) [e11, e31, e32, e33, d1, elemHsl, hbl, hg, g0, slc_flat5 r i d1, splice_bd, slc_bd1, cells_all, h5, strip_cell_av, s1, f0]
            refine ⟨r.length - (i + 1), by omega, rfl, i + 1, tk3, _, _, by omega, rfl, by omega, rfl, by simp [e6], by simp [e11], by simp [e31], by simp [e32], by simp, s3.set hl (by omega), s4.set, .inr ⟨o, hfo, rfl, (hget_sne (by omega)).trans f5⟩, (hget_sne (by omega)).trans f2, ?_, s2.set f0⟩
            have e : Tm.avs (l.take i) ++ [l[i].av] = Tm.avs (l.take (i + 1)) := by rw [List.take_succ_eq_append_getElem (by omega), ← avs_app]; rfl
            rw [hget_set, if_pos rfl, f0, ← e]; rfl
        · simp (disch := omega) [e6, e11, e32, e33, d1, RetA, hget_set, g0, g2]
          refine ⟨?_, (hO.set hl (by omega)).gc hl, by omega⟩
          rw [List.take_of_length_le (by omega), asT, hle]
      · exact ⟨rfl, 0, .full, _, m2 + 1, by simp, by simp, by omega, rfl, by simp, by simp, by simp, by simp, by simp, hO2.cons (by omega), (hL1.mono hm2).cons (Nat.lt_succ_self _), hx2, (hget_ne _ _ (by omega)).trans g6, by simp (disch := omega) [Tm.avs], .inl rfl⟩
end Go.AM
namespace Go.AM
variable {T : Tab}
open Classical

/-- The reference's matching. -/
structure Rms (T : Tab) : Prop extends Rfs T where
  h69 : Has T 55 a55
  h112 : Has T 96 a96
  h58 : Has T 97 a97
  h31 : Has T 12 a12
noncomputable def Tm.refM (p t : Tm) : Option (List Bd) := if t.right then p.mtch t else none

set_option maxHeartbeats 2000000 in
theorem refAs_spec (hm : PrimMono T) (R : Rms T) (h11 : Has T 11 a11) (h32 : Has T 32 a32) (n : Nat) (hn : n < 1000000) (p t : Tm) (wft : t.Wf) (hsp : p.size ≤ 4000) (hst : t.size ≤ 4000) (h : Heap) (m : Nat) (hl : Low h m) :
    Spec T (.fn 32) [.int .i64 n, p.av, t.av] ⟨h, m⟩ (RetA h m ((p.refM t).map (asT n))) := by
  refine spec_fn hm h32.prim h32.func rfl ?_
  have hL : Low ((m + 1 + 1, .cells [.int .i64 0, .str [], .int .i64 0, .slice [] .full]) :: (m + 1, .cells t.av.cells) :: (m, .cells p.av.cells) :: h) (m + 1 + 1 + 1) := ((hl.cons (Nat.lt_succ_self m)).cons (Nat.lt_succ_self _)).cons (Nat.lt_succ_self _)
  have hO : Over m h ((m + 1 + 1, .cells [.int .i64 0, .str [], .int .i64 0, .slice [] .full]) :: (m + 1, .cells t.av.cells) :: (m, .cells p.av.cells) :: h) := (((Over.refl m h).cons (Nat.le_refl m)).cons (by omega)).cons (by omega)
  simp (disch := omega) [a32, r_call hm]
  refine CallK.retb (mtch_spec hm R.h69 R.h112 R.h58 R.h31 p t hsp wft _ _ hL) (fun tk m1 hm1 => ?_)
  have hrl := fit_len p t []
  rw [fit_mtch] at hrl
  cases hr : p.mtch t with
  | none =>
    have e : p.refM t = none := by unfold Tm.refM; rw [hr]; split <;> rfl
    simp (disch := omega) [RetA, unV, e]
    exact ⟨rfl, hl.gc, by omega⟩
  | some r =>
    have hrl := hrl r hr
    simp at hrl
    simp (disch := omega) [unV, r_call hm]
    refine CallK.ret (R.right hm t wft hst _ _ (hL.mono hm1)) (fun m2 hm2 => ?_)
    by_cases c : t.right
    rotate_left
    · have e : p.refM t = none := if_neg c
      simp (disch := omega) [RetA, unV, e, c]
      exact ⟨rfl, hl.gc, by omega⟩
    have e : p.refM t = some r := (if_pos c).trans hr
    simp (disch := omega) [c, unV, e, r_call hm]
    refine CallK.ret (refName_spec hm h11 n hn _ _ (hL.mono (by omega))) (fun m3 hm3 => ?_)
    simp (disch := omega)
    obtain ⟨l, hle⟩ : ∃ l : List Tm, l = r.map (·.2) := ⟨_, rfl⟩
    have hll : l.length = r.length := by rw [hle, List.length_map]
    have hget5 : ∀ i (hi : i < r.length), r[i].2 = l[i]'(by omega) := fun i hi => by subst hle; simp
    let I : Nat → Env → List ADef → St → Prop := fun q env ds σ => ds = [] ∧ ∃ (i : Nat) (tk2 : Tok) (H : Heap) (m' : Nat), i ≤ r.length ∧ q = r.length - i ∧ m3 < m' ∧
      σ = ⟨H, m'⟩ ∧ aget env 6 = .ptr (m + 1 + 1) 0 ∧ aget env 10 = .ptr m3 0 ∧ aget env 8 = .slice (bds r) tk ∧ aget env 11 = .int .i64 i ∧
      Over m h H ∧ Low H m' ∧ hget H (m + 1 + 1) = some (.cells [.int .i64 0, .str [], .int .i64 0, .slice [] .full]) ∧
      hget H m3 = some (.cells [.int .i64 3, .str (nameL n), .int .i64 0, .slice (Tm.avs (l.take i)) tk2]) ∧ AppOk H m tk2 4
    refine run_loop hm I ?_ r.length ?_
    · rintro q env ds σ ⟨rfl, i, tk2, H, m', hi, rfl, hmm, rfl, e6, e10, e8, e11, hO, hL, g2, g0, hA⟩
      by_cases d1 : i < r.length
      · have h5 := hget5 i d1
        obtain ⟨tk3, H3, m4, s1, s2, s3, s4, s5, s6⟩ := app1 (x := l[i].av) (es := Tm.avs (l.take i)) (bytes := 56) hA hO hl hL (by omega) (by unfold fits; simp; omega) (elemOk_av _) (head_avs _)
        rw [strip_cell_av] at s1
        have f0 := s6 m3 _ g0
        have f2 := s6 (m + 1 + 1) _ g2
        simp (disch := omega) [e10, e8, e11, d1, g0, h5, strip_cell_av, s1, f0]
        refine ⟨r.length - (i + 1), by omega, rfl, i + 1, tk3, _, _, by omega, rfl, by omega, rfl, by simp [e6], by simp [e10], by simp [e8], by simp, s3.set hl (by omega), s4.set, (hget_sne (by omega)).trans f2, ?_, s2.set f0⟩
        have e : Tm.avs (l.take i) ++ [l[i].av] = Tm.avs (l.take (i + 1)) := by rw [List.take_succ_eq_append_getElem (by omega), ← avs_app]; rfl
        rw [hget_set, if_pos rfl, f0, ← e]; rfl
      · simp (disch := omega) [e6, e10, e8, e11, d1, RetA, hget_set, g0, g2]
        refine ⟨?_, (hO.set hl (by omega)).gc hl, by omega⟩
        rw [List.take_of_length_le (by omega), asT, hle]
    · exact ⟨rfl, 0, .full, _, m3 + 1, by simp, by simp, by omega, rfl, by simp, by simp, by simp, by simp, hO.cons (by omega), (hL.mono (by omega)).cons (Nat.lt_succ_self _), by simp (disch := omega), by simp (disch := omega) [Tm.avs], .inl rfl⟩
end Go.AM
namespace Go.AM
variable {T : Tab}
open Classical

theorem stripa_av (t : Tm) : stripAgg t.av = t.av := by cases t; rfl
theorem firstI_get (P : Tm → Prop) (l : List Tm) (h : ¬ firstI P l < 0) : ∃ (i : Nat) (hi : i < l.length), firstI P l = i ∧ P l[i] := by
  induction l with
  | nil => simp [firstI] at h
  | cons x l ih =>
    rw [firstI] at h ⊢
    by_cases c : P x
    · rw [if_pos c] at h ⊢; exact ⟨0, by simp, by simp, c⟩
    · rw [if_neg c] at h ⊢
      by_cases c2 : firstI P l < 0
      · rw [if_pos c2] at h; omega
      · rw [if_neg c2]
        obtain ⟨i, hi, e, hp⟩ := ih c2
        exact ⟨i + 1, by simpa using hi, by rw [e]; push_cast; rfl, by simpa using hp⟩
/-- What a term becomes, and the error. -/
noncomputable def bec (l : List Tm) (t : Tm) : Tm × Int := if firstI (covers t) l < 0 then (zero, 10) else (asT (firstI (covers t) l).toNat (((l.getD (firstI (covers t) l).toNat zero).mtch t).getD []), 0)
/-- A term, and an error. -/
def RetT (h : Heap) (m : Nat) (x : Tm × Int) : AV → St → Prop := fun v τ => v = .tup [x.1.av, .int .i64 x.2] ∧ τ.heap = h ∧ m ≤ τ.next
theorem CallK.rett {ks : List K} {env : Env} {ds : List ADef} {Q : Ex → Env → List ADef → St → Prop} {n m : Nat} {as : List AV} {h : Heap} {d : Option Nat} {l : List AOper} {x : Tm × Int} (hs : Spec T (.fn n) as ⟨h, m⟩ (RetT h m x)) (k : ∀ m', m ≤ m' → Run T (.ops l :: ks) .normal (put env d (.tup [x.1.av, .int .i64 x.2])) ds ⟨h, m'⟩ Q) : CallK T n as ⟨h, m⟩ d l ks env ds Q :=
  ⟨_, hs, fun v' τ hv => by obtain ⟨rfl, h1, h2⟩ := hv; obtain ⟨h', m'⟩ := τ; cases h1; exact k m' h2⟩

/-- What the program's cover needs. -/
structure Cvs (T : Tab) : Prop where
  M : Mts T
  h28 : Has T 47 a47
  h33 : Has T 88 a88
set_option maxHeartbeats 2000000 in
theorem become_spec (hm : PrimMono T) (C : Cvs T) (h10 : Has T 10 a10) (hI : Itoa T) (h52 : Has T 52 a52) (h25 : Has T 25 a25) (l : List Tm) (hs : Tm.sizes l ≤ 4000) (wfl : ∀ x ∈ l, x.Wf) (t : Tm) (hst : t.size ≤ 4000) (wf : t.Wf) (tk : Tok) (h : Heap) (m : Nat) (hl : Low h m) :
    Spec T (.fn 25) [.slice (Tm.avs l) tk, t.av] ⟨h, m⟩ (RetT h m (bec l t)) := by
  refine spec_fn hm h25.prim h25.func rfl ?_
  have hlen := sizes_len l
  have hL : Low ((m + 1, .cells [.int .i64 0, .str [], .int .i64 0, .slice [] .full]) :: (m, .cells t.av.cells) :: h) (m + 1 + 1) := (hl.cons (Nat.lt_succ_self m)).cons (Nat.lt_succ_self _)
  have hO : Over m h ((m + 1, .cells [.int .i64 0, .str [], .int .i64 0, .slice [] .full]) :: (m, .cells t.av.cells) :: h) := ((Over.refl m h).cons (Nat.le_refl m)).cons (by omega)
  simp (disch := omega) [a25, r_call hm]
  refine CallK.ret (cover2_spec hm C.M C.h28 C.h33 l hs wfl t hst wf _ _ _ hL) (fun m1 hm1 => ?_)
  rw [firstI_congr fun x _ => inst_covers t x]
  by_cases c : firstI (covers t) l < 0
  · have e : bec l t = (zero, 10) := if_pos c
    simp (disch := omega) [c, RetT, e]
    exact ⟨rfl, hl.gc, by omega⟩
  · obtain ⟨i, hi, e, hc1, hc2, hc3⟩ := firstI_get _ l c
    have eb : bec l t = (asT i ((l[i].mtch t).getD []), 0) := by
      unfold bec; rw [if_neg c, e, Int.toNat_natCast, List.getD_eq_getElem?_getD, List.getElem?_eq_getElem hi]; rfl
    have hle := sizes_mem (List.getElem_mem hi)
    have em : l[i].matched t = l[i].mtch t := (if_pos ⟨hc2, hc3⟩).trans (fit_mtch _ _)
    rw [e, eb]
    obtain ⟨r, hr⟩ := Option.isSome_iff_exists.mp hc1
    rw [hr]
    have hi0 : ¬ (i : Int) < 0 := by omega
    simp (disch := omega) [q_call hm, hi0]
    refine CallD.reta (as_spec hm C.M h10 hI h52 i (by omega) l[i] t (wfl _ (List.getElem_mem hi)) wf (by omega) hst _ _ (hL.mono hm1)) (fun m2 hm2 => ?_)
    rw [em, hr]
    simp (disch := omega) [cells_all, splice_av]
    exact ⟨by rw [stripa_av], hl.gc, by show m ≤ m2 + 1; omega⟩
set_option maxHeartbeats 2000000 in
theorem refBec_spec (hm : PrimMono T) (R : Rms T) (h29 : Has T 31 a31) (h11 : Has T 11 a11) (h32 : Has T 32 a32) (h13 : Has T 13 a13) (l : List Tm) (hs : Tm.sizes l ≤ 4000) (wfl : ∀ x ∈ l, x.Wf) (t : Tm) (hst : t.size ≤ 4000) (wf : t.Wf) (tk : Tok) (h : Heap) (m : Nat) (hl : Low h m) :
    Spec T (.fn 13) [.slice (Tm.avs l) tk, t.av] ⟨h, m⟩ (RetT h m (bec l t)) := by
  refine spec_fn hm h13.prim h13.func rfl ?_
  have hlen := sizes_len l
  have hL : Low ((m + 1, .cells [.int .i64 0, .str [], .int .i64 0, .slice [] .full]) :: (m, .cells t.av.cells) :: h) (m + 1 + 1) := (hl.cons (Nat.lt_succ_self m)).cons (Nat.lt_succ_self _)
  simp (disch := omega) [a13, r_call hm]
  refine CallK.ret (cover_spec hm h29 R.h69 R.h112 R.h58 R.h31 R.h30 R.h70 R.h71 R.h72 l hs wfl t hst wf _ _ _ hL) (fun m1 hm1 => ?_)
  by_cases c : firstI (covers t) l < 0
  · have e : bec l t = (zero, 10) := if_pos c
    simp (disch := omega) [c, RetT, e]
    exact ⟨rfl, hl.gc, by omega⟩
  · obtain ⟨i, hi, e, hc1, hc2, hc3⟩ := firstI_get _ l c
    have eb : bec l t = (asT i ((l[i].mtch t).getD []), 0) := by
      unfold bec; rw [if_neg c, e, Int.toNat_natCast, List.getD_eq_getElem?_getD, List.getElem?_eq_getElem hi]; rfl
    have hle := sizes_mem (List.getElem_mem hi)
    have em : l[i].refM t = l[i].mtch t := if_pos hc3
    rw [e, eb]
    obtain ⟨r, hr⟩ := Option.isSome_iff_exists.mp hc1
    rw [hr]
    have hi0 : ¬ (i : Int) < 0 := by omega
    simp (disch := omega) [q_call hm, hi0]
    refine CallD.reta (refAs_spec hm R h11 h32 i (by omega) l[i] t wf (by omega) hst _ _ (hL.mono hm1)) (fun m2 hm2 => ?_)
    rw [em, hr]
    simp (disch := omega) [cells_all, splice_av]
    exact ⟨by rw [stripa_av], hl.gc, by show m ≤ m2 + 1; omega⟩

/-- What a term becomes by any terms, and the error. -/
noncomputable def becA (l : List Tm) (t : Tm) : Tm × Int := if (∀ p ∈ l, p.pat) ∧ t.right then bec l t else (zero, 1)
set_option maxHeartbeats 2000000 in
theorem Become_spec (hm : PrimMono T) (C : Cvs T) (h47 : Has T 49 a49) (h23 : Has T 23 a23) (h10 : Has T 10 a10) (hI : Itoa T) (h52 : Has T 52 a52) (h25 : Has T 25 a25) (h7 : Has T 7 a7) (l : List Tm) (hs : Tm.sizes l ≤ 4000) (wfl : ∀ x ∈ l, x.Wf) (t : Tm) (hst : t.size ≤ 4000) (wf : t.Wf) (tk : Tok) (h : Heap) (m : Nat) (hl : Low h m) :
    Spec T (.fn 7) [.slice (Tm.avs l) tk, t.av] ⟨h, m⟩ (RetT h m (becA l t)) := by
  refine spec_fn hm h7.prim h7.func rfl ?_
  have hlen := sizes_len l
  simp (disch := omega) [a7]
  let I : Nat → Env → List ADef → St → Prop := fun q env ds σ => ds = [] ∧ ∃ (i : Nat) (m' : Nat) (H : Heap), i ≤ l.length ∧ q = l.length - i ∧ m + 1 < m' ∧
    σ = ⟨H, m'⟩ ∧ aget env 0 = .slice (Tm.avs l) tk ∧ aget env 3 = .ptr m 0 ∧ aget env 4 = .ptr (m + 1) 0 ∧ aget env 8 = .slice (Tm.avs l) tk ∧ aget env 9 = .int .i64 l.length ∧ aget env 10 = .int .i64 i ∧
    Over m h H ∧ Low H m' ∧ hget H m = some (.cells t.av.cells) ∧ hget H (m + 1) = some (.cells [.int .i64 0, .str [], .int .i64 0, .slice [] .full]) ∧ ∀ p ∈ l.take i, p.pat
  refine run_loop hm I ?_ l.length ?_
  · rintro q env ds σ ⟨rfl, i, m', H, hi, rfl, hmm, rfl, e0, e3, e4, e8, e9, e10, hO, hL, g0, g1, hp⟩
    by_cases d1 : i < l.length
    · have hle := sizes_mem (List.getElem_mem d1)
      have w := wfl _ (List.getElem_mem d1)
      have hL1 := hL.cons (o := .cells l[i].av.cells) (Nat.lt_succ_self m')
      have hO1 := hO.cons (o := .cells l[i].av.cells) (show m ≤ m' by omega)
      simp (disch := omega) [r_call hm, e8, e9, e10, d1, cells_all, splice_av]
      refine CallK.ret (emPat_spec hm C.M.R h47 h23 l[i] w (by omega) _ _ hL1) (fun m1 hm1 => ?_)
      by_cases c : l[i].pat
      · simp (disch := omega) [unV, c, e10]
        refine ⟨l.length - (i + 1), by omega, rfl, i + 1, m1, _, by omega, rfl, by omega, rfl, by simp [e0], by simp [e3], by simp [e4], by simp [e8], by simp [e9], by simp, hO1, hL1.mono hm1, (hget_ne _ _ (by omega)).trans g0, (hget_ne _ _ (by omega)).trans g1, fun p hp' => ?_⟩
        rw [List.take_succ_eq_append_getElem d1] at hp'
        rcases List.mem_append.mp hp' with hp' | hp'
        · exact hp p hp'
        · simp at hp'; subst hp'; exact c
      · have e : becA l t = (zero, 1) := if_neg fun h => c (h.1 _ (List.getElem_mem d1))
        simp (disch := omega) [unV, c, e4, g1, RetT, e, hget_set]
        exact ⟨rfl, (hO.set hl (by omega)).gc hl, by omega⟩
    · rw [List.take_of_length_le (by omega)] at hp
      simp (disch := omega) [r_call hm, e3, e9, e10, d1, g0]
      refine CallK.ret (C.M.R.right hm t wf hst _ _ hL) (fun m1 hm1 => ?_)
      by_cases c : t.right
      · have e : becA l t = bec l t := if_pos ⟨hp, c⟩
        simp (disch := omega) [unV, c, r_call hm, e0, e3, g0]
        refine CallK.rett (become_spec hm C h10 hI h52 h25 l hs wfl t hst wf _ _ _ (hL.mono hm1)) (fun m2 hm2 => ?_)
        simp (disch := omega) [e4, g1, RetT, e, hget_set, cells_all, splice_av]
        exact ⟨by rw [stripa_av], (hO.set hl (by omega)).gc hl, by omega⟩
      · have e : becA l t = (zero, 1) := if_neg fun h => c h.2
        simp (disch := omega) [unV, c, e4, g1, RetT, e, hget_set]
        exact ⟨rfl, (hO.set hl (by omega)).gc hl, by omega⟩
  · exact ⟨rfl, 0, m + 1 + 1, _, by simp, by simp, by omega, rfl, by simp, by simp, by simp, by simp, by simp, by simp, ((Over.refl m h).cons (Nat.le_refl m)).cons (by omega), (hl.cons (Nat.lt_succ_self m)).cons (Nat.lt_succ_self _), by simp (disch := omega), by simp (disch := omega), by simp⟩
end Go.AM
namespace Go.AM
variable {T : Tab}
open Classical

theorem zero_wf : zero.Wf := .mk (by unfold inI64; omega) (by unfold inI64; omega) (by simp) (by simp) (fun x hx => by cases hx)
theorem spec_args {f : Nat} {fd : AFunc} {as bs : List AV} {σ : St} {P : AV → St → Prop} (h : Has T f fd) (hs : fd.stripArgs = true) (he : as.map stripVal = bs.map stripVal) (hb : Spec T (.fn f) bs σ P) : Spec T (.fn f) as σ P := by
  obtain ⟨n, v, τ, h1, h2⟩ := hb
  refine ⟨n, v, τ, ?_, h2⟩
  cases n with
  | zero => cases h1
  | succ n =>
    have hlen : as.length = bs.length := by have := congrArg List.length he; simpa using this
    have h3 : callFn T n (call T n) f bs σ = some (v, τ) := h1
    show callFn T n (call T n) f as σ = some (v, τ)
    rw [← h3]
    unfold callFn
    rw [h.prim, h.func]
    dsimp only
    unfold enter
    rw [hs, cond_true, cond_true, he, hlen]
theorem put1_wf {r r' : List Bd} {b : Bd} (h : put1 r b = some r') (hr : ∀ c ∈ r, c.2.Wf) (hb : b.2.Wf) : ∀ c ∈ r', c.2.Wf := by
  unfold put1 at h
  split at h
  · cases h; intro c hc
    rcases List.mem_append.mp hc with hc | hc
    · exact hr c hc
    · simp at hc; subst hc; exact hb
  · split at h
    · split at h
      · cases h; exact hr
      · cases h
    · cases h
theorem mrg_wf (l : List Bd) : ∀ r r', mrg r l = some r' → (∀ c ∈ r, c.2.Wf) → (∀ c ∈ l, c.2.Wf) → ∀ c ∈ r', c.2.Wf := by
  induction l with
  | nil => intro r r' h hr _; rw [mrg] at h; cases h; exact hr
  | cons b l ih =>
    intro r r' h hr hl
    rw [mrg] at h
    cases hp : put1 r b with
    | none => rw [hp] at h; cases h
    | some o =>
      rw [hp] at h
      exact ih o r' h (put1_wf hp hr (hl b (by simp))) (fun c hc => hl c (by simp [hc]))
theorem mtch_wf (p t : Tm) (wf : t.Wf) (r : List Bd) (h : p.mtch t = some r) : ∀ b ∈ r, b.2.Wf := by
  unfold Tm.mtch at h
  cases hc : p.coll t with
  | none => rw [hc] at h; cases h
  | some o => rw [hc] at h; exact mrg_wf o [] r h (fun c hc => by cases hc) (coll_wf p t wf o hc)
theorem asT_wf {n : Nat} (hn : n < 1000000) {r : List Bd} (hr : r.length ≤ 1000000) (h : ∀ b ∈ r, b.2.Wf) : (asT n r).Wf := by
  refine .mk (by unfold inI64; omega) (by unfold inI64; omega) ?_ (by simp; omega) (fun x hx => ?_)
  · have := dig_le hn; unfold nameL; simp; omega
  · obtain ⟨b, hb, rfl⟩ := List.mem_map.mp hx
    exact h b hb
theorem bec_wf {l : List Tm} (hs : Tm.sizes l ≤ 4000) {t : Tm} (wf : t.Wf) : (bec l t).1.Wf := by
  unfold bec
  have hlen := sizes_len l
  split
  · exact zero_wf
  · rename_i c
    obtain ⟨i, hi, e, hc1, _⟩ := firstI_get _ l c
    rw [e, Int.toNat_natCast, List.getD_eq_getElem?_getD, List.getElem?_eq_getElem hi]
    obtain ⟨r, hr⟩ := Option.isSome_iff_exists.mp hc1
    have hf := fit_len l[i] t [] r ((fit_mtch _ _).trans hr)
    have hle := sizes_mem (List.getElem_mem hi)
    show (asT i ((l[i].mtch t).getD [])).Wf
    rw [hr]
    refine asT_wf (by omega) ?_ (mtch_wf _ t wf r hr)
    show r.length ≤ _
    simp at hf; omega

/-- What the law of becoming reaches. -/
structure Ems (T : Tab) : Prop where
  C : Cvs T
  R : Rms T
  I : Itoa T
  h25 : Has T 5 a5
  h40 : Has T 19 a19
  e49 : Has T 49 a49
  e23 : Has T 23 a23
  e10 : Has T 10 a10
  e52 : Has T 52 a52
  e25 : Has T 25 a25
  e7 : Has T 7 a7
  e9 : Has T 9 a9
  e11 : Has T 11 a11
  e31 : Has T 31 a31
  e32 : Has T 32 a32
  e13 : Has T 13 a13

set_option maxHeartbeats 4000000 in
theorem law_becomes (hm : PrimMono T) (E : Ems T) (h3 : Has T 3 a3) (h6 : ∀ h m, Low h m → Spec T (.fn 6) [] ⟨h, m⟩ (Ret h m (.bool true))) (l : List Tm) (t : Tm) (n : Nat) (wfl : ∀ x ∈ l, x.Wf) (hlen : l.length ≤ 9223372036854775807) (wft : t.Wf) (hn : n < 65536) (h : Heap) (m : Nat) (hl : Low h m) :
    Spec T (.fn 3) [.slice (Tm.avs l) .none, t.av, .int .u16 n] ⟨h, m⟩ (Ret h m (.bool true)) := by
  refine spec_fn hm h3.prim h3.func rfl ?_
  have hL : ∀ m', m < m' → Low ((m, .cells t.av.cells) :: h) m' := fun m' hm' => hl.cons hm'
  have hwf1 : ∀ x ∈ [t], x.Wf := fun x hx => by simp at hx; subst hx; exact wft
  simp (disch := omega) [a3, r_call hm]
  refine CallK.ret (some_spec hm E.h25 E.h40 l wfl hlen .none _ _ (hL _ (Nat.lt_succ_self m))) (fun m1 hm1 => ?_)
  by_cases s1 : someOk l
  rotate_left
  · simp (disch := omega) [s1, unV, r_call hm]
    refine CallK.ret (h6 _ _ (hL _ hm1)) (fun m2 hm2 => ?_)
    simp (disch := omega) [Ret, hl.gc]
    omega
  simp (disch := omega) [s1, unV, r_call hm, strip_cell_av]
  refine CallK.ret (some_spec hm E.h25 E.h40 [t] hwf1 (by simp) .full _ _ (hL _ (by omega))) (fun m2 hm2 => ?_)
  by_cases s2 : someOk [t]
  rotate_left
  · simp (disch := omega) [s2, unV, r_call hm]
    refine CallK.ret (h6 _ _ (hL _ (by omega))) (fun m3 hm3 => ?_)
    simp (disch := omega) [Ret, hl.gc]
    omega
  have hst : t.size ≤ 4000 := by have := (some_sizes s2).1; rw [Tm.sizes, Tm.sizes] at this; omega
  have hsl := (some_sizes s1).1
  simp (disch := omega) [s2, unV, r_call hm]
  refine CallK.rett (Become_spec hm E.C E.e49 E.e23 E.e10 E.I E.e52 E.e25 E.e7 l hsl wfl t hst wft _ _ _ (hL _ (by omega))) (fun m3 hm3 => ?_)
  have wb : (becA l t).1.Wf := by
    unfold becA; split
    · exact bec_wf hsl wft
    · exact zero_wf
  simp (disch := omega) [cells_all, splice_av, r_call hm]
  have hL3 : ∀ m', m3 < m' → Low ((m3, .cells (becA l t).1.av.cells) :: (m, .cells t.av.cells) :: h) m' := fun m' hm' => (hL m3 (by omega)).cons hm'
  refine CallK.ret (E.R.right hm t wft hst _ _ (hL3 _ (Nat.lt_succ_self _))) (fun m4 hm4 => ?_)
  simp (disch := omega)
  have hz : AV.agg [.int .i64 0, .str [], .int .i64 0, .slice [] .none] = zero.av := rfl
  have hsame : ∀ (x y : Tm) H m', x.Wf → Low H m' → Spec T (.fn 12) [x.av, y.av] ⟨H, m'⟩ (Ret H m' (.bool (x.beq y))) := fun x y H m' hx hl' => same_spec hm E.R.h31 x hx y _ _ hl'
  have hbe : ∀ x : Tm, x.beq x = true := fun x => (beq_eq _ _).mpr rfl
  let I : Nat → Env → List ADef → St → Prop := fun q env ds σ => ds = [] ∧ ∃ (i : Nat) (m' : Nat), i ≤ l.length ∧ q = l.length - i ∧ m3 < m' ∧
    σ = ⟨(m3, .cells (becA l t).1.av.cells) :: (m, .cells t.av.cells) :: h, m'⟩ ∧ aget env 0 = .slice (Tm.avs l) .none ∧ aget env 2 = .int .u16 n ∧ aget env 4 = .ptr m 0 ∧ aget env 7 = .ptr m3 0 ∧ aget env 8 = .int .i64 (becA l t).2 ∧ aget env 9 = .bool (decide (t.right ∧ ∀ p ∈ l.take i, p.pat)) ∧ aget env 10 = .int .i64 i
  refine run_loop hm I ?_ l.length ?_
  · rintro q env ds σ ⟨rfl, i, m', hi, rfl, hmm, rfl, e0, e2, e4, e7, e8, e9, e10⟩
    by_cases d1 : i < l.length
    · have hle := sizes_mem (List.getElem_mem d1)
      have w := wfl _ (List.getElem_mem d1)
      have hcons : (t.right ∧ ∀ p ∈ l.take (i + 1), p.pat) ↔ (t.right ∧ ∀ p ∈ l.take i, p.pat) ∧ l[i].pat := by
        rw [List.take_succ_eq_append_getElem d1]
        constructor
        · rintro ⟨a, b⟩; exact ⟨⟨a, fun p hp => b p (List.mem_append_left _ hp)⟩, b _ (List.mem_append_right _ (by simp))⟩
        · rintro ⟨⟨a, b⟩, c⟩
          refine ⟨a, fun p hp => ?_⟩
          rcases List.mem_append.mp hp with hp | hp
          · exact b p hp
          · simp at hp; subst hp; exact c
      by_cases c : t.right ∧ ∀ p ∈ l.take i, p.pat
      · rw [decide_eq_true c] at e9
        simp (disch := omega) [r_call hm, e0, e9, e10, d1]
        refine CallK.ret (refPat_spec hm E.R.toRfs E.e9 l[i] w (by omega) _ _ (hL3 _ hmm)) (fun m5 hm5 => ?_)
        simp (disch := omega) [e10]
        refine ⟨l.length - (i + 1), by omega, rfl, i + 1, m5, by omega, rfl, by omega, rfl, by simp [e0], by simp [e2], by simp [e4], by simp [e7], by simp [e8], ?_, by simp⟩
        by_cases c2 : l[i].pat
        · rw [decide_eq_true (hcons.mpr ⟨c, c2⟩)]; simp [c2]
        · rw [decide_eq_false (fun h => c2 (hcons.mp h).2)]; simp [c2]
      · rw [decide_eq_false c] at e9
        simp (disch := omega) [e0, e9, e10, d1]
        refine ⟨l.length - (i + 1), by omega, rfl, i + 1, m', by omega, rfl, by omega, rfl, by simp [e0], by simp [e2], by simp [e4], by simp [e7], by simp [e8], ?_, by simp⟩
        rw [decide_eq_false (fun h => c (hcons.mp h).1)]; simp
    · rw [List.take_of_length_le (by omega)] at e9
      simp (disch := omega) [e0, e10, e2, d1]
      rw [op_convInt_some (k' := .u16) (n := (n : Int)) (by simp (disch := omega))]
      simp (disch := omega) [r_call hm]
      refine CallK.ret (name_spec hm E.e10 E.I n (by omega) _ _ (hL3 _ hmm)) (fun m5 hm5 => ?_)
      simp (disch := omega) [e2]
      rw [op_convInt_some (k' := .u16) (n := (n : Int)) (by simp (disch := omega))]
      simp (disch := omega) [r_call hm]
      refine CallK.ret (refName_spec hm E.e11 n (by omega) _ _ (hL3 _ (by omega))) (fun m6 hm6 => ?_)
      by_cases c : t.right ∧ ∀ p ∈ l, p.pat
      · rw [decide_eq_true c] at e9
        have e : becA l t = bec l t := if_pos ⟨c.2, c.1⟩
        simp (disch := omega) [r_call hm, e0, e4, e9, unV]
        refine CallK.rett (refBec_spec hm E.R E.e31 E.e11 E.e32 E.e13 l hsl wfl t hst wft _ _ _ (hL3 _ (by omega))) (fun m7 hm7 => ?_)
        rw [e] at hL3 wb ⊢
        have hL4 : ∀ m', m7 < m' → Low ((m7, .cells (bec l t).1.av.cells) :: (m3, .cells (bec l t).1.av.cells) :: (m, .cells t.av.cells) :: h) m' := fun m' hm' => (hL3 m7 (by omega)).cons hm'
        simp (disch := omega) [r_call hm, e7, cells_all, splice_av]
        have hs1 := hsame (bec l t).1 (bec l t).1 _ (m7 + 1) wb (hL4 _ (Nat.lt_succ_self _))
        rw [hbe] at hs1
        refine CallK.ret hs1 (fun m8 hm8 => ?_)
        simp (disch := omega) [r_call hm, e8, e]
        refine CallK.ret (h6 _ _ (hL4 _ (by omega))) (fun m9 hm9 => ?_)
        simp (disch := omega) [Ret, hl.gc]
        omega
      · rw [decide_eq_false c] at e9
        have e : becA l t = (zero, 1) := if_neg fun h => c ⟨h.2, h.1⟩
        rw [e] at hL3 wb e8 ⊢
        simp (disch := omega) [r_call hm, e7, e9, unV]
        have hs1 : Spec T (.fn 12) [zero.av, AV.agg [.int .i64 0, .str [], .int .i64 0, .slice [] .full]] ⟨(m3, .cells zero.av.cells) :: (m, .cells t.av.cells) :: h, m6⟩ (Ret _ _ (.bool true)) :=
          spec_args (bs := [zero.av, zero.av]) E.R.h31 rfl rfl (by have := hsame zero zero _ m6 wb (hL3 m6 (by omega)); rw [hbe] at this; exact this)
        refine CallK.ret hs1 (fun m8 hm8 => ?_)
        simp (disch := omega) [r_call hm, e8]
        refine CallK.ret (h6 _ _ (hL3 _ (by omega))) (fun m9 hm9 => ?_)
        simp (disch := omega) [Ret, hl.gc]
        omega
  · exact ⟨rfl, 0, m4, by simp, by simp, by omega, rfl, by simp, by simp, by simp, by simp, by simp, by simp, by simp⟩
end Go.AM
