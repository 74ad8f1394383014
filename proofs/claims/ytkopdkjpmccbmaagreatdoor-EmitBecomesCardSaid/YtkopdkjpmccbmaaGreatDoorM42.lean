/- A part of the proof of: EmitBecomes: what a term becomes by patterns, and a pattern's name, is what the document says, or the error is told. -/
import Derived.Test.YtkopdkjpmccbmaaGreatDoorM41
namespace Go.AM
variable {T : Tab}
open Classical

def ACode.fst : ACode → ACode | .seq a _ => a | c => c
def ACode.snd : ACode → ACode | .seq _ b => b | c => c
/-- What lay there lies there still, and more. -/
def RetO (h : Heap) (m : Nat) (v : AV) : AV → St → Prop := fun v' τ => v' = v ∧ Over m h τ.heap ∧ Low τ.heap τ.next ∧ m ≤ τ.next
section
variable {ks : List K} {env : Env} {ds : List ADef} {Q : Ex → Env → List ADef → St → Prop} {n m : Nat} {as : List AV} {h : Heap} {d : Option Nat} {l : List AOper} {v : AV}
theorem CallK.reto (hs : Spec T (.fn n) as ⟨h, m⟩ (RetO h m v)) (k : ∀ H m', m ≤ m' → Over m h H → Low H m' → Run T (.ops l :: ks) .normal (put env d v) ds ⟨H, m'⟩ Q) : CallK T n as ⟨h, m⟩ d l ks env ds Q :=
  ⟨_, hs, fun v' τ hv => by obtain ⟨rfl, h1, h2, h3⟩ := hv; exact k τ.heap τ.next h3 h1 h2⟩
theorem CallD.reto {args : List Opd} {acc chk} (hs : Spec T (.fn n) as ⟨h, m⟩ (RetO h m v)) (k : ∀ H m', m ≤ m' → Over m h H → Low H m' → Run T (.dops l (⟨⟨h, m⟩, some (.call (.f n) args, env), (match d with | some _ => v | none => .undef)⟩ :: acc) chk :: ks) .normal (put env d v) ds ⟨H, m'⟩ Q) : CallD T n args as ⟨h, m⟩ d l acc chk ks env ds Q :=
  fun _ => ⟨_, hs, fun v' τ hv => by obtain ⟨rfl, h1, h2, h3⟩ := hv; exact k τ.heap τ.next h3 h1 h2⟩
end
theorem AppOk.over {H H' : Heap} {m n sz : Nat} {tk : Tok} (h : AppOk H m tk sz) (hL : Low H n) (hO : Over n H H') : AppOk H' m tk sz := by
  rcases h with rfl | ⟨i, g, h1, rfl, h3⟩
  · exact .inl rfl
  · exact .inr ⟨i, g, h1, rfl, (hO.old (hL.lt h3)).trans h3⟩
theorem Over.get {m i : Nat} {h H : Heap} {o : AObj} (hO : Over m h H) (hL : Low h m) (hi : hget h i = some o) : hget H i = some o := (hO.old (hL.lt hi)).trans hi
theorem Over.facts {m : Nat} {h H : Heap} {F : List (Nat × AObj)} (hO : Over m h H) (hL : Low h m) (hF : Facts F h) : Facts F H := fun p hp => hO.get hL (hF p hp)

mutual
def Tm.turnP (f : Int → Int) : Tm → Tm
  | .mk k s n l => .mk k s (if k = 1 then f n else n) (Tm.turnPs f l)
def Tm.turnPs (f : Int → Int) : List Tm → List Tm
  | [] => []
  | t :: l => Tm.turnP f t :: Tm.turnPs f l
end
/-- A function value that answers a number. -/
def FnOk (T : Tab) (fv : AV) (f : Int → Int) (G : List (Nat × AObj)) : Prop := ∀ H n k, Low H n → Facts G H → ∃ c as', callee fv [.int .i64 k] = some (c, as') ∧ Spec T c as' ⟨H, n⟩ (Ret H n (.int .i64 (f k)))

end Go.AM
namespace Go.AM
variable {T : Tab}
open Classical

/-- Numbers and their places, as a map. -/
def entsF : List Int → Nat → List (AV × AV)
  | [], _ => []
  | v :: l, i => (.int .i64 v, .int .i64 i) :: entsF l (i + 1)
theorem mfind_entsF (l : List Int) (i : Nat) (k : Int) : mfind (entsF l i) (.int .i64 k) = if idx l k < 0 then none else some (.int .i64 (idx l k + i)) := by
  induction l generalizing i with
  | nil => rfl
  | cons v l ih =>
    have hr := idx_range l k
    show mfind ((.int .i64 v, .int .i64 i) :: entsF l (i + 1)) _ = _
    rw [mfind_consK, eqK_int, ih, idx]
    by_cases h : v = k
    · subst h; simp
    · simp only [h, decide_false, cond_false, if_false]
      by_cases h2 : idx l k < 0
      · simp [h2]
      · have : ¬ idx l k + 1 < 0 := by omega
        simp only [h2, this, if_false]
        congr 2; push_cast; omega
theorem mput_entsF (l : List Int) (i : Nat) (v : Int) (hv : v ∉ l) : mput (entsF l i) (.int .i64 v) (.int .i64 ((i + l.length : Nat) : Int)) = entsF (l ++ [v]) i := by
  induction l generalizing i with
  | nil => rfl
  | cons a l ih =>
    simp at hv
    show mput ((.int .i64 a, .int .i64 i) :: entsF l (i + 1)) _ _ = (_ :: entsF (l ++ [v]) (i + 1))
    have : a ≠ v := fun h' => hv.1 h'.symm
    rw [mput_consK, eqK_int, ← ih (i + 1) hv.2]
    simp only [this, decide_false, cond_false, List.length_cons]
    rw [show i + 1 + l.length = i + (l.length + 1) by omega]
/-- A number's place, 0 if there is none. -/
def placeF (vs : List Int) (k : Int) : Int := if idx vs k < 0 then 0 else idx vs k
/-- Terms renumbered, how many variables there are; an error. -/
def RetN (h : Heap) (m : Nat) (o : Option (List Tm × Nat)) : AV → St → Prop := fun v τ => (∃ tk, v = match o with | some r => .tup [.slice (Tm.avs r.1) tk, .int .i64 r.2, .int .i64 0] | none => .tup [.slice [] tk, .int .i64 0, .int .i64 1]) ∧ τ.heap = h ∧ m ≤ τ.next
def allRight (l : List Tm) : Prop := ∀ x ∈ l, x.right
noncomputable def numbP (l : List Tm) : Option (List Tm × Nat) := if allRight l then some (Tm.turnPs (placeF (varsAll [] l)) l, (varsAll [] l).length) else none

structure Rts (T : Tab) : Prop where
  h45 : Has T 24 a24
  h95 : Has T 50 a50
  h142 : Has T 91 a91
  h143 : Has T 92 a92
  h214 : Has T 128 a128
  h96 : Has T 51 a51
  h144 : Has T 93 a93
theorem Rts.right (r : Rts T) (hm : PrimMono T) (t : Tm) (wf : t.Wf) (hs : t.size ≤ 4000) (h : Heap) (m : Nat) (hl : Low h m) : Spec T (.fn 24) [t.av] ⟨h, m⟩ (Ret h m (.bool (decide t.right))) :=
  right2_spec hm r.h45 r.h95 r.h142 r.h143 r.h214 r.h96 r.h144 t wf hs h m hl

end Go.AM
namespace Go.AM
variable {T : Tab}
open Classical

def zero : Tm := .mk 0 [] 0 []
noncomputable def Tm.pattP : Tm → Option Tm
  | .mk k s n l => if k = 3 ∧ (Tm.mk k s n l).right then some (if (varsAll [] [Tm.mk k s n l]).length ≤ 8 then (Tm.mk k s n l).turnP (placeF (varsAll [] [Tm.mk k s n l])) else .mk 3 s 0 ((upto l.length).map var)) else none
/-- A term and an error. -/
def retE (o : Option Tm) : AV := .tup [(o.getD zero).av, .int .i64 (if o.isSome then 0 else 1)]
end Go.AM
namespace Go.AM
variable {T : Tab}
open Classical

/-- Binds, cell by cell. -/
noncomputable def flat (r : List Bd) : List AV := (bds r).flatMap AV.cells
theorem flat_cons (b : Bd) (r : List Bd) : flat (b :: r) = .int .i64 b.1 :: (b.2.av.cells ++ flat r) := rfl
theorem flat_app (r : List Bd) (b : Bd) : flat (r ++ [b]) = flat r ++ (bd b).cells := by
  unfold flat; rw [← bds_app, List.flatMap_append]; show _ ++ ((bd b).cells ++ []) = _; rw [List.append_nil]
theorem slc_flat (r : List Bd) (i : Nat) (h : i < r.length) : slc (flat r) (i * 5 + 1) 4 = some r[i].2.av.cells := by
  induction r generalizing i with
  | nil => simp at h
  | cons b r ih =>
    obtain ⟨v, k, s, n, l⟩ := b
    cases i with
    | zero => rw [Nat.zero_mul, flat_cons]; cases flat r <;> rfl
    | succ i =>
      rw [show (i + 1) * 5 + 1 = (i * 5 + 1) + 1 + 1 + 1 + 1 + 1 by omega]
      show slc (flat r) (i * 5 + 1) 4 = _
      rw [ih i (by simpa using h)]; rfl
theorem slc_flat_all (r : List Bd) : slc (flat r) 0 (r.length * 5) = some (flat r) := by
  have hlen : (flat r).length = r.length * 5 := by
    induction r with
    | nil => rfl
    | cons b r ih => obtain ⟨v, k, s, n, l⟩ := b; show (flat r).length + 5 = _; rw [ih]; simp; omega
  have key : ∀ (l : List AV) n, l.length = n → takeN l n = some l := by
    intro l
    induction l with
    | nil => intro n h; subst h; rfl
    | cons x l ih => intro n h; subst h; show (match takeN l l.length with | some r => some (x :: r) | none => none) = _; rw [ih _ rfl]
  rw [← hlen]
  cases hf : flat r with
  | nil => rfl
  | cons x l => exact key (x :: l) _ rfl
theorem splice_flat (r : List Bd) (i : Nat) (h : i < r.length) : splice (flat r) (i * 5 + 1) r[i].2.av.cells = some (flat r) := by
  induction r generalizing i with
  | nil => simp at h
  | cons b r ih =>
    obtain ⟨v, k, s, n, l⟩ := b
    cases i with
    | zero => rw [Nat.zero_mul, flat_cons]; cases flat r <;> rfl
    | succ i =>
      rw [show (i + 1) * 5 + 1 = (i * 5 + 1) + 1 + 1 + 1 + 1 + 1 by omega]
      have e := ih i (by simpa using h)
      simp only [List.getElem_cons_succ]
      have : ∀ (a b c d e : AV) (x : List AV) (k : Nat) (y z : List AV), splice x k y = some z → splice (a :: b :: c :: d :: e :: x) (k + 1 + 1 + 1 + 1 + 1) y = some (a :: b :: c :: d :: e :: z) := by
        intro a b c d e x k y z hxy
        simp only [splice] at hxy ⊢
        simp only [hxy]
      exact this _ _ _ _ _ _ _ _ _ e

def notOut (v : AV) (j : Nat) : Prop := ∀ a l s, v ≠ .hsl j a l s
structure FS (m pb mo ob fb : Nat) (h : Heap) (r : List Bd) (v : AV) (τ : St) : Prop where
  over : Over m h τ.heap
  low : Low τ.heap τ.next
  hp : hget τ.heap pb = some (.cells [.map mo])
  hmo : hget τ.heap mo = some (.map [4] (entsF (r.map (·.1)) 0))
  ho : hget τ.heap ob = some (.cells [v])
  hf : hget τ.heap fb = some (.cells [.fn (.func 129) [] [.ptr pb 0, .ptr ob 0, .ptr fb 0]])
  out : (r = [] ∧ v = .slice [] .full) ∨ ∃ o, r ≠ [] ∧ fb < o ∧ v = .hsl o 0 r.length 5 ∧ hget τ.heap o = some (.cells (flat r))
  nodup : (r.map (·.1)).Nodup
  wf : ∀ b ∈ r, b.2.Wf
def KM (fb : Nat) (v v' : AV) (H H' : Heap) : Prop := ∀ j c, fb < j → notOut v j → hget H j = some (.cells c) → hget H' j = some (.cells c) ∧ notOut v' j
theorem KM.refl (fb : Nat) (v : AV) (H : Heap) : KM fb v v H H := fun _ _ _ h1 h2 => ⟨h2, h1⟩
theorem KM.trans {fb : Nat} {v v' v'' : AV} {H H' H'' : Heap} (a : KM fb v v' H H') (b : KM fb v' v'' H' H'') : KM fb v v'' H H'' := fun j c hj h1 h2 => by
  obtain ⟨h3, h4⟩ := a j c hj h1 h2; exact b j c hj h4 h3
theorem KM.cons {fb n : Nat} {v : AV} {H : Heap} {o : AObj} (hL : Low H n) : KM fb v v H ((n, o) :: H) := fun j c _ h1 h2 => ⟨by have := hL.lt h2; rw [hget_ne _ _ (by omega)]; exact h2, h1⟩
theorem FS.cons {m pb mo ob fb n : Nat} {h H : Heap} {r : List Bd} {v : AV} {o' : AObj} (f : FS m pb mo ob fb h r v ⟨H, n⟩) (hmn : m ≤ n) : FS m pb mo ob fb h r v ⟨(n, o') :: H, n + 1⟩ := by
  have key : ∀ {i : Nat} {o : AObj}, hget H i = some o → hget ((n, o') :: H) i = some o := fun hi => by
    have := f.low.lt hi; simp at this; rw [hget_ne _ _ (by omega)]; exact hi
  exact ⟨f.over.cons hmn, f.low.cons (Nat.lt_succ_self n), key f.hp, key f.hmo, key f.ho, key f.hf, f.out.imp id fun ⟨o, a, b, c, d⟩ => ⟨o, a, b, c, key d⟩, f.nodup, f.wf⟩
theorem FS.next {m pb mo ob fb n n' : Nat} {h H : Heap} {r : List Bd} {v : AV} (f : FS m pb mo ob fb h r v ⟨H, n⟩) (hn : n ≤ n') : FS m pb mo ob fb h r v ⟨H, n'⟩ :=
  ⟨f.over, f.low.mono hn, f.hp, f.hmo, f.ho, f.hf, f.out, f.nodup, f.wf⟩
theorem FS.len {m pb mo ob fb : Nat} {h : Heap} {r : List Bd} {v : AV} {τ : St} (f : FS m pb mo ob fb h r v τ) : lenOf v = some r.length := by
  rcases f.out with ⟨rfl, rfl⟩ | ⟨o, _, _, rfl, _⟩ <;> rfl
/-- Where the binds lie. -/
def OutOk (fb : Nat) (r : List Bd) (v : AV) (H : Heap) : Prop := (r = [] ∧ v = .slice [] .full) ∨ ∃ o, r ≠ [] ∧ fb < o ∧ v = .hsl o 0 r.length 5 ∧ hget H o = some (.cells (flat r))
theorem OutOk.keep {fb : Nat} {r : List Bd} {v : AV} {H H' : Heap} (h : OutOk fb r v H) (k : ∀ j c, fb < j → hget H j = some (.cells c) → hget H' j = some (.cells c)) : OutOk fb r v H' := h.imp id fun ⟨o, a, b, c, d⟩ => ⟨o, a, b, c, k o _ b d⟩
/-- Appending one bind. -/
theorem OutOk.app {m fb n : Nat} {h H : Heap} {r : List Bd} {v : AV} (out : OutOk fb r v H) (hO : Over m h H) (hL : Low H n) (hl : Low h m) (hmn : m ≤ n) (_hfn : fb < n) (hmfb : m ≤ fb) (b : Bd) (hlen : r.length ≤ 100000) :
    ∃ H', appTo v 5 64 true [bd b] ⟨H, n⟩ = some (.hsl n 0 (r.length + 1) 5, ⟨H', n + 1⟩) ∧ Over m h H' ∧ Low H' (n + 1) ∧ hget H' n = some (.cells (flat (r ++ [b]))) ∧
      (∀ j o, notOut v j → hget H j = some o → hget H' j = some o) := by
  have hfit : fits (r.length + 1) 64 = true := by unfold fits; simp; omega
  have hok := elemOk_bd b
  rcases out with ⟨rfl, rfl⟩ | ⟨o, hr, hfo, rfl, hg⟩
  · refine ⟨(n, .cells (flat [b])) :: H, ?_, hO.cons hmn, hL.cons (Nat.lt_succ_self n), hget_eq _ _ _, fun j o _ hj => ?_⟩
    · show appSlice [] .full 5 64 true [bd b] ⟨H, n⟩ = _
      unfold appSlice
      have hfit' : fits (([] : List AV).length + [bd b].length) 64 = true := hfit
      rw [hfit']; simp only [List.all_cons, List.all_nil, hok, Bool.and_true, cond_true, headOk, List.isEmpty_cons, cond_false]; rfl
    · have := hL.lt hj; rw [hget_ne _ _ (by omega)]; exact hj
  · refine ⟨(n, .cells (flat (r ++ [b]))) :: hdel H o, ?_, (hO.del hl (by omega)).cons hmn, hL.del.cons (Nat.lt_succ_self n), hget_eq _ _ _, fun j o' hno hj => ?_⟩
    · show appHsl o 0 r.length 5 5 64 true [bd b] ⟨H, n⟩ = _
      unfold appHsl
      have hfit' : fits (r.length + [bd b].length) 64 = true := hfit
      rw [hfit']
      have hg' : St.cells ⟨H, n⟩ o = some (flat r) := by show (hget H o).bind AObj.cells? = _; rw [hg]; rfl
      simp only [List.all_cons, List.all_nil, hok, Bool.and_true, hg', slc_flat_all, st_del, st_add]
      rw [flat_app]; show some (_, St.mk ((n, .cells (flat r ++ ((bd b).cells ++ []))) :: _) _) = _; rw [List.append_nil]; rfl
    · have := hL.lt hj
      have hjo : o ≠ j := fun h' => by subst h'; exact hno _ _ _ rfl
      rw [hget_ne _ _ (by omega), hget_del hjo]; exact hj
end Go.AM
namespace Go.AM
variable {T : Tab}
open Classical

mutual
/-- Matching, bind by bind. -/
def Tm.fit : List Bd → Tm → Tm → Option (List Bd)
  | r, .mk k s n l, .mk k' s' n' l' => if k = 1 then put1 r (n, .mk k' s' n' l') else if k = k' ∧ n = n' ∧ s = s' ∧ l.length = l'.length then Tm.fits r l l' else none
def Tm.fits : List Bd → List Tm → List Tm → Option (List Bd)
  | r, a :: l, b :: m => match Tm.fit r a b with
    | some r' => Tm.fits r' l m
    | none => none
  | r, _, _ => some r
end
theorem fits_cons (r : List Bd) (a b : Tm) (l m : List Tm) : Tm.fits r (a :: l) (b :: m) = match Tm.fit r a b with
    | some r' => Tm.fits r' l m
    | none => none := by rw [Tm.fits]
theorem fits_nil (r : List Bd) (m : List Tm) : Tm.fits r [] m = some r := by cases m <;> (rw [Tm.fits]; intros; contradiction)
theorem put1_len {r r' : List Bd} {b : Bd} (h : put1 r b = some r') : r'.length ≤ r.length + 1 := by
  unfold put1 at h
  split at h
  · cases h; simp
  · split at h
    · split at h
      · cases h; omega
      · cases h
    · cases h
theorem fit_len (p : Tm) : ∀ t r r', Tm.fit r p t = some r' → r'.length ≤ r.length + p.size := by
  refine Tm.ind (M := fun p => ∀ t r r', Tm.fit r p t = some r' → r'.length ≤ r.length + p.size) (fun k s n l ih t r r' h => ?_) p
  obtain ⟨k', s', n', l'⟩ := t
  rw [Tm.fit] at h
  rw [Tm.size]
  split at h
  · have := put1_len h; omega
  · split at h
    · have : ∀ (l : List Tm), (∀ x ∈ l, ∀ t r r', Tm.fit r x t = some r' → r'.length ≤ r.length + x.size) → ∀ l' r r', Tm.fits r l l' = some r' → r'.length ≤ r.length + Tm.sizes l := by
        intro l
        induction l with
        | nil => intro _ l' r r' h; rw [fits_nil] at h; cases h; omega
        | cons a l ihl =>
          intro ih l' r r' h
          cases l' with
          | nil => (rw [Tm.fits] at h; cases h; omega); intros; contradiction
          | cons b m =>
            rw [fits_cons] at h
            rw [Tm.sizes]
            cases h1 : Tm.fit r a b with
            | none => rw [h1] at h; cases h
            | some x =>
              rw [h1] at h; dsimp only at h
              have := ih a (by simp) b r x h1
              have := ihl (fun x hx => ih x (by simp [hx])) m x r' h
              omega
      have := this l ih l' r r' h; omega
    · cases h

@[simp] theorem lenOf_slice (es : List AV) (tk : Tok) : lenOf (.slice es tk) = some es.length := rfl
@[simp] theorem elemOfRow_hsl (o off len z sz : Nat) (i : Int) : elemOfRow (.hsl o off len z) sz i = elemHsl o off len z sz i := rfl
def PF (m pb mo ob fb : Nat) (h : Heap) (v0 : AV) (H : Heap) (n : Nat) (res : Option (List Bd)) : AV → St → Prop := fun x τ => x = .bool res.isSome ∧ n ≤ τ.next ∧ Over m h τ.heap ∧ Low τ.heap τ.next ∧ ∀ r', res = some r' → ∃ v', FS m pb mo ob fb h r' v' τ ∧ KM fb v0 v' H τ.heap

variable {m pb mo ob fb : Nat} {h : Heap}
set_option maxHeartbeats 4000000 in
theorem fit_spec (hm : PrimMono T) (h113 : Has T 129 a129) (h114 : Has T 130 a130) (hl : Low h m) (hmo : m ≤ mo) (hmop : mo < pb) (hpb : pb < ob) (hob : ob < fb) (p : Tm) (hs : p.size ≤ 4000) :
    ∀ (t : Tm) (_wf : t.Wf) (r : List Bd) (v : AV) (H : Heap) (n : Nat) (_hrl : r.length + p.size ≤ 8000) (_f : FS m pb mo ob fb h r v ⟨H, n⟩), Spec T (.fn 129) [p.av, t.av, .ptr pb 0, .ptr ob 0, .ptr fb 0] ⟨H, n⟩ (PF m pb mo ob fb h v H n (p.fit r t)) := by
  refine Tm.ind (M := fun p => p.size ≤ 4000 → ∀ (t : Tm) (wf : t.Wf) (r : List Bd) (v : AV) (H : Heap) (n : Nat) (hrl : r.length + p.size ≤ 8000) (f : FS m pb mo ob fb h r v ⟨H, n⟩), Spec T (.fn 129) [p.av, t.av, .ptr pb 0, .ptr ob 0, .ptr fb 0] ⟨H, n⟩ (PF m pb mo ob fb h v H n (p.fit r t))) (fun k s nn l ih hs t wf r v H n hrl f => ?_) p hs
  obtain ⟨k', s', n', l'⟩ := t
  refine spec_fn hm h113.prim h113.func rfl ?_
  rw [Tm.size] at hs hrl
  have hlen := sizes_len l
  rw [Tm.fit]
  have hfn := f.low.lt f.hf
  simp at hfn
  have fr := (f.cons (o' := .cells [.int .i64 k, .str s, .int .i64 nn, .slice (Tm.avs l) .none]) (by omega)).cons (o' := .cells [.int .i64 k', .str s', .int .i64 n', .slice (Tm.avs l') .none]) (by omega)
  have km : KM fb v v H ((n + 1, .cells [.int .i64 k', .str s', .int .i64 n', .slice (Tm.avs l') .none]) :: (n, .cells [.int .i64 k, .str s, .int .i64 nn, .slice (Tm.avs l) .none]) :: H) := (KM.cons f.low).trans (KM.cons (f.low.cons (Nat.lt_succ_self n)))
  have hno2 : ∀ j, n ≤ j → notOut v j := fun j hj => by
    rcases f.out with ⟨_, rfl⟩ | ⟨o, _, _, rfl, ho⟩
    · intro a b c h; cases h
    · have := f.low.lt ho; simp at this; intro a b c h; cases h; omega
  have gp := f.hp
  have gm := f.hmo
  have go := f.ho
  have gf := f.hf
  simp at gp gm go gf
  by_cases c0 : k = 1
  · subst c0
    rw [if_pos rfl]
    have hix := mfind_entsF (r.map (·.1)) 0 nn
    have hr1 := idx_range (r.map (·.1)) nn
    by_cases c1 : idx (r.map (·.1)) nn < 0
    · rw [if_pos c1] at hix
      have hput := mput_entsF (r.map (·.1)) 0 nn ((idx_neg _ _).mp c1)
      have e : put1 r (nn, .mk k' s' n' l') = some (r ++ [(nn, .mk k' s' n' l')]) := if_pos c1
      rw [e]
      simp only [List.length_map, Nat.zero_add] at hput
      have hk : ∀ j c, fb < j → hget ((n + 1, .cells [.int .i64 k', .str s', .int .i64 n', .slice (Tm.avs l') .none]) :: (n, .cells [.int .i64 1, .str s, .int .i64 nn, .slice (Tm.avs l) .none]) :: H) j = some (.cells c) → hget ((n + 1, .cells [.int .i64 k', .str s', .int .i64 n', .slice (Tm.avs l') .none]) :: (n, .cells [.int .i64 1, .str s, .int .i64 nn, .slice (Tm.avs l) .none]) :: hset H mo (.map [4] (entsF (List.map (fun x => x.fst) r ++ [nn]) 0))) j = some (.cells c) := fun j c hj hh => by
        rw [← hset_ne _ _ _ (show n ≠ mo by omega), ← hset_ne _ _ _ (show n + 1 ≠ mo by omega), hget_sne (by omega)]; exact hh
      have out := OutOk.keep fr.out hk
      have hO : Over m h ((n + 1, .cells [.int .i64 k', .str s', .int .i64 n', .slice (Tm.avs l') .none]) :: (n, .cells [.int .i64 1, .str s, .int .i64 nn, .slice (Tm.avs l) .none]) :: hset H mo (.map [4] (entsF (List.map (fun x => x.fst) r ++ [nn]) 0))) := ((f.over.set hl hmo).cons (by omega)).cons (by omega)
      have hL : Low ((n + 1, .cells [.int .i64 k', .str s', .int .i64 n', .slice (Tm.avs l') .none]) :: (n, .cells [.int .i64 1, .str s, .int .i64 nn, .slice (Tm.avs l) .none]) :: hset H mo (.map [4] (entsF (List.map (fun x => x.fst) r ++ [nn]) 0))) (n + 1 + 1) := ((f.low.set).cons (Nat.lt_succ_self n)).cons (Nat.lt_succ_self _)
      obtain ⟨H', s1, s2, s3, s4, s5⟩ := out.app hO hL hl (by omega) (by omega) (by omega) (nn, .mk k' s' n' l') (by omega)
      simp only [one_bd] at s1
      have hno : ∀ j, j ≤ fb → notOut v j := fun j hj => by
        rcases f.out with ⟨_, rfl⟩ | ⟨o, _, ho, rfl, _⟩
        · intro a b c h; cases h
        · intro a b c h; cases h; omega
      have q1 := s5 pb _ (hno pb (by omega)) (show hget _ pb = some (.cells [.map mo]) by simp (disch := omega) [hget_sne, gp])
      have q2 := s5 mo _ (hno mo (by omega)) (show hget _ mo = some (.map [4] (entsF (List.map (fun x => x.fst) r ++ [nn]) 0)) by simp (disch := omega) [hget_seq gm])
      have q3 := s5 ob _ (hno ob (by omega)) (show hget _ ob = some (.cells [v]) by simp (disch := omega) [hget_sne, go])
      have q4 := s5 fb _ (hno fb (by omega)) (show hget _ fb = some (.cells [.fn (.func 129) [] [.ptr pb 0, .ptr ob 0, .ptr fb 0]]) by simp (disch := omega) [hget_sne, gf])
      simp (disch := omega) [a129, gp, gm, go, mapGet, hix, f.len, hget_sne, hput, s1, q3]
      refine ⟨rfl, by show n ≤ n + 1 + 1 + 1; omega, s2.set hl (by omega), s3.set, fun r' hr' => ?_⟩
      cases hr'
      refine ⟨.hsl (n + 1 + 1) 0 (r.length + 1) 5, ⟨s2.set hl (by omega), s3.set, (hget_sne (by omega)).trans q1, ?_, hget_seq q3, (hget_sne (by omega)).trans q4, .inr ⟨n + 1 + 1, by simp, by omega, by simp, (hget_sne (by omega)).trans s4⟩, ?_, fun b hb => ?_⟩, fun j c hj h1 h2 => ?_⟩
      · rw [List.map_append]; exact (hget_sne (by omega)).trans q2
      · rw [List.map_append, List.nodup_append]
        exact ⟨f.nodup, by simp, fun a ha b hb => by simp at hb; subst hb; exact fun hab => (idx_neg _ _).mp c1 (hab ▸ ha)⟩
      · rcases List.mem_append.mp hb with hb | hb
        · exact f.wf b hb
        · simp at hb; subst hb; exact wf
      · obtain ⟨h3, h4⟩ := km j c hj h1 h2
        have hjn := f.low.lt h2
        simp at hjn
        exact ⟨(hget_sne (by omega)).trans (s5 j _ h1 (hk j c hj h3)), fun a b c h => by cases h; omega⟩
    · rw [if_neg c1] at hix
      obtain ⟨j, hj⟩ := Int.eq_ofNat_of_zero_le (show 0 ≤ idx (r.map (·.1)) nn by omega)
      have hj2 : j < r.length := by simp at hr1; omega
      have e : put1 r (nn, .mk k' s' n' l') = if r[j].2.beq (.mk k' s' n' l') then some r else none := by
        unfold put1
        rw [if_neg c1, hj, Int.toNat_natCast, List.getElem?_eq_getElem hj2]
      rw [e]
      rw [hj] at hix
      rcases f.out with ⟨rfl, rfl⟩ | ⟨o, hr, hfo, rfl, hg⟩
      · simp at hj2
      · have hbl : Nat.blt j r.length = true := Nat.ble_eq_true_of_le hj2
        have hon := f.low.lt hg
        simp at hg hon
        simp (disch := omega) [a129, q_call hm, gp, gm, go, mapGet, hix, elemHsl, hbl, hg, slc_flat r j hj2]
        have hL2 := fr.low
        refine CallD.ret (same2_spec hm h114 _ (f.wf _ (List.getElem_mem hj2)) _ _ _ hL2) (fun m2 hm2 => ?_)
        simp (disch := omega) [PF]
        exact ⟨by cases r[j].2.beq (.mk k' s' n' l') <;> rfl, by omega, fr.over, fr.low.mono hm2, fun _ => ⟨_, fr.next hm2, km⟩⟩
  · by_cases c1 : k = k'
    rotate_left
    · simp (disch := omega) [a129, c0, c1, PF]
      exact ⟨by omega, fr.over, fr.low⟩
    subst c1
    by_cases c2 : nn = n'
    rotate_left
    · simp (disch := omega) [a129, c0, c2, PF]
      exact ⟨by omega, fr.over, fr.low⟩
    subst c2
    by_cases c3 : s = s'
    rotate_left
    · simp (disch := omega) [a129, c0, c3, PF]
      exact ⟨by omega, fr.over, fr.low⟩
    subst c3
    by_cases c4 : l.length = l'.length
    rotate_left
    · have c4' : ¬ (l.length : Int) = l'.length := by omega
      simp (disch := omega) [a129, c0, c4, c4', PF]
      exact ⟨by omega, fr.over, fr.low⟩
    rw [if_neg c0, if_pos ⟨rfl, rfl, rfl, c4⟩]
    simp (disch := omega) [a129, c0, c4]
    let I : Nat → Env → List ADef → St → Prop := fun q env ds σ => ds = [] ∧ ∃ (i : Nat) (m' : Nat) (H' : Heap) (r' : List Bd) (v' : AV), i ≤ l.length ∧ q = l.length - i ∧ n + 1 < m' ∧
      σ = ⟨H', m'⟩ ∧ aget env 4 = .ptr fb 0 ∧ aget env 6 = .ptr (n + 1) 0 ∧ aget env 71 = .slice (Tm.avs l) .none ∧ aget env 72 = .int .i64 l'.length ∧ aget env 73 = .int .i64 i ∧
      FS m pb mo ob fb h r' v' ⟨H', m'⟩ ∧ KM fb v v' ((n + 1, .cells [.int .i64 k, .str s, .int .i64 nn, .slice (Tm.avs l') .none]) :: (n, .cells [.int .i64 k, .str s, .int .i64 nn, .slice (Tm.avs l) .none]) :: H) H' ∧
      r'.length + Tm.sizes (l.drop i) ≤ 7999 ∧ Tm.fits r' (l.drop i) (l'.drop i) = Tm.fits r l l'
    refine run_loop hm I ?_ l.length ?_
    · rintro q env ds σ ⟨rfl, i, m', H', r', v', hi, rfl, hmm, rfl, e4, e6, e71, e72, e73, f', km', hb, hf⟩
      obtain ⟨b1, no1⟩ := km' (n + 1) _ (by omega) (hno2 _ (by omega)) (hget_eq _ _ _)
      have gf' := f'.hf
      simp at gf'
      by_cases d1 : i < l.length
      · have d1' : i < l'.length := by omega
        rw [List.drop_eq_getElem_cons d1, List.drop_eq_getElem_cons d1', fits_cons] at hf
        rw [sizes_get d1] at hb
        have hle := sizes_mem (List.getElem_mem d1)
        have f2 := f'.cons (o' := .cells l[i].av.cells) (by omega)
        simp (disch := omega) [q_callt hm, e4, e6, e71, e72, e73, d1', b1, gf', cells_all, splice_av]
        refine ⟨_, _, _, rfl, ih l[i] (List.getElem_mem d1) (by omega) l'[i] (Wf.args wf _ (List.getElem_mem d1')) r' v' _ _ (by omega) f2, ?_⟩
        rintro x ⟨H2, n2⟩ ⟨rfl, hn2, hO2, hL2, hk2⟩
        have fl := fit_len l[i] l'[i] r'
        cases hc : l[i].fit r' l'[i] with
        | some r2 =>
          rw [hc] at hf
          have fl := fl r2 hc
          obtain ⟨v2, f3, km3⟩ := hk2 r2 hc
          simp (disch := omega) [e73, unV]
          exact ⟨l.length - (i + 1), by omega, rfl, i + 1, n2, H2, r2, v2, by omega, rfl, by simp at hn2; omega, rfl, by simp [e4], by simp [e6], by simp [e71], by simp [e72], by simp, f3, (km'.trans (KM.cons f'.low)).trans km3, by omega, hf⟩
        | none =>
          rw [hc] at hf
          simp (disch := omega) [unV, PF, ← hf]
          exact ⟨by simp at hn2; omega, hO2, hL2⟩
      · have d1' : ¬ i < l'.length := by omega
        rw [List.drop_eq_nil_of_le (by omega), fits_nil] at hf
        simp (disch := omega) [e72, e73, d1', PF, ← hf]
        exact ⟨by omega, f'.over, f'.low, v', f', km.trans km'⟩
    · exact ⟨rfl, 0, n + 1 + 1, _, r, v, by simp, by simp, by omega, rfl, by simp, by simp, by simp, by simp, by simp, fr, KM.refl _ _ _, by simp; omega, by simp⟩
end Go.AM
namespace Go.AM
variable {T : Tab}
open Classical

/-- Whether a term is one of a pattern's, and the error. -/
noncomputable def Tm.inst (p t : Tm) : Bool × Int := if p.right ∧ t.right then ((p.fit [] t).isSome, 0) else (false, 1)
/-- Binds, as a row or in the heap. -/
def BdOk (m : Nat) (r : List Bd) (x : AV) (H : Heap) : Prop := (r = [] ∧ ∃ tk, x = .slice [] tk) ∨ ∃ o, m ≤ o ∧ x = .hsl o 0 r.length 5 ∧ hget H o = some (.cells (flat r))
/-- What it answers: the binds lie behind what was there. -/
def RetMo (h : Heap) (m : Nat) (ok : Bool) (res : Option (List Bd)) : AV → St → Prop := fun v τ => (∃ x, v = .tup [x, .bool res.isSome, .int .i64 (if ok then 0 else 1)] ∧ ∀ r, res = some r → BdOk m r x τ.heap) ∧ Over m h τ.heap ∧ Low τ.heap τ.next ∧ m ≤ τ.next
noncomputable def Tm.matched (p t : Tm) : Option (List Bd) := if p.right ∧ t.right then p.fit [] t else none
@[simp] theorem stripv_tup (vs : List AV) : stripVal (.tup vs) = .tup (vs.map stripAgg) := rfl
@[simp] theorem stripa_int (k : IntKind) (n : Int) : stripAgg (.int k n) = .int k n := rfl
@[simp] theorem stripa_bool (b : Bool) : stripAgg (.bool b) = .bool b := rfl

@[simp] theorem gc0 (σ : St) (n : Nat) : σ.gc 0 n = σ := rfl
@[simp] theorem stripa_hsl (a b c d : Nat) : stripAgg (.hsl a b c d) = .hsl a b c d := rfl
theorem put1_size {N : Nat} {r r' : List Bd} {b : Bd} (h : put1 r b = some r') (hr : ∀ c ∈ r, c.2.size ≤ N) (hb : b.2.size ≤ N) : ∀ c ∈ r', c.2.size ≤ N := by
  unfold put1 at h
  split at h
  · cases h; intro c hc
    rcases List.mem_append.mp hc with hc | hc
    · exact hr c hc
    · simp at hc; subst hc; exact hb
  · split at h
    · split at h
      · cases h; exact hr
      · cases h
    · cases h
theorem fit_size {N : Nat} (p : Tm) : ∀ t r r', Tm.fit r p t = some r' → (∀ c ∈ r, c.2.size ≤ N) → t.size ≤ N → ∀ c ∈ r', c.2.size ≤ N := by
  refine Tm.ind (M := fun p => ∀ t r r', Tm.fit r p t = some r' → (∀ c ∈ r, c.2.size ≤ N) → t.size ≤ N → ∀ c ∈ r', c.2.size ≤ N) (fun k s n l ih t r r' h hr ht => ?_) p
  obtain ⟨k', s', n', l'⟩ := t
  rw [Tm.fit] at h
  split at h
  · exact put1_size h hr ht
  · split at h
    · rw [Tm.size] at ht
      have : ∀ (l : List Tm), (∀ x ∈ l, ∀ t r r', Tm.fit r x t = some r' → (∀ c ∈ r, c.2.size ≤ N) → t.size ≤ N → ∀ c ∈ r', c.2.size ≤ N) → ∀ l' r r', Tm.fits r l l' = some r' → (∀ c ∈ r, c.2.size ≤ N) → Tm.sizes l' ≤ N → ∀ c ∈ r', c.2.size ≤ N := by
        intro l
        induction l with
        | nil => intro _ l' r r' h hr _; rw [fits_nil] at h; cases h; exact hr
        | cons a l ihl =>
          intro ih l' r r' h hr hs
          cases l' with
          | nil => (rw [Tm.fits] at h; cases h; exact hr); intros; contradiction
          | cons b m =>
            rw [fits_cons] at h
            rw [Tm.sizes] at hs
            cases h1 : Tm.fit r a b with
            | none => rw [h1] at h; cases h
            | some x =>
              rw [h1] at h; dsimp only at h
              exact ihl (fun x hx => ih x (by simp [hx])) m x r' h (ih a (by simp) b r x h1 hr (by omega)) (by omega)
      exact this l ih l' r r' h hr (by omega)
    · cases h
set_option maxHeartbeats 4000000 in
theorem match_spec (hm : PrimMono T) (R : Rts T) (h73 : Has T 94 a94) (h113 : Has T 129 a129) (h114 : Has T 130 a130) (h115 : Has T 131 a131) (p t : Tm) (wfp : p.Wf) (wft : t.Wf) (hsp : p.size ≤ 4000) (hst : t.size ≤ 4000) (h : Heap) (m : Nat) (hl : Low h m) :
    Spec T (.fn 94) [p.av, t.av] ⟨h, m⟩ (RetMo h m (decide (p.right ∧ t.right)) (p.matched t)) := by
  refine spec_fn hm h73.prim h73.func rfl ?_
  have hL : Low ((m + 1, .cells t.av.cells) :: (m, .cells p.av.cells) :: h) (m + 1 + 1) := (hl.cons (Nat.lt_succ_self m)).cons (Nat.lt_succ_self _)
  have hO : Over m h ((m + 1, .cells t.av.cells) :: (m, .cells p.av.cells) :: h) := ((Over.refl m h).cons (Nat.le_refl m)).cons (by omega)
  simp (disch := omega) [a94, r_call hm]
  refine CallK.ret (R.right hm p wfp hsp _ _ hL) (fun m1 hm1 => ?_)
  unfold Tm.matched
  by_cases c1 : p.right
  rotate_left
  · rw [if_neg (fun h => c1 h.1)]
    simp (disch := omega) [c1, unV, RetMo, gc0]
    exact ⟨hO, hL.mono hm1, by omega⟩
  simp (disch := omega) [c1, unV, r_call hm]
  refine CallK.ret (R.right hm t wft hst _ _ (hL.mono hm1)) (fun m2 hm2 => ?_)
  by_cases c2 : t.right
  rotate_left
  · rw [if_neg c2]
    simp (disch := omega) [c2, unV, RetMo, gc0]
    exact ⟨hO, hL.mono (by omega), by omega⟩
  rw [if_pos c2]
  simp (disch := omega) [c2, unV, r_callt hm]
  have f : FS m (m2 + 1) m2 (m2 + 1 + 1) (m2 + 1 + 1 + 1) h [] (.slice [] .full) ⟨(m2 + 1 + 1 + 1, .cells [.fn (.func 129) [] [.ptr (m2 + 1) 0, .ptr (m2 + 1 + 1) 0, .ptr (m2 + 1 + 1 + 1) 0]]) :: (m2 + 1 + 1, .cells [.slice [] .full]) :: (m2 + 1, .cells [.map m2]) :: (m2, .map [4] []) :: (m + 1, .cells t.av.cells) :: (m, .cells p.av.cells) :: h, m2 + 1 + 1 + 1 + 1⟩ :=
    ⟨((((hO.cons (by omega)).cons (by omega)).cons (by omega)).cons (by omega)), ((((hL.mono (by omega : m + 1 + 1 ≤ m2)).cons (Nat.lt_succ_self _)).cons (Nat.lt_succ_self _)).cons (Nat.lt_succ_self _)).cons (Nat.lt_succ_self _), by simp (disch := omega), by simp (disch := omega) [entsF], by simp (disch := omega), by simp (disch := omega), .inl ⟨rfl, rfl⟩, by simp, fun b hb => by cases hb⟩
  refine CallV.intro rfl (fit_spec hm h113 h114 hl (by omega) (by omega) (by omega) (by omega) p hsp t wft [] _ _ _ (by simp; omega) f) ?_
  rintro x ⟨H1, n1⟩ ⟨rfl, hn1, hO1, hL1, hk⟩
  simp at hn1 hO1 hL1
  have fl := fit_len p t []
  cases hc : p.fit [] t with
  | none =>
    simp (disch := omega) [unV, RetMo, gc0]
    exact ⟨hO1, hL1, by omega⟩
  | some r =>
    have fl := fl r hc
    simp at fl
    have hsz := fit_size (N := 4000) p t [] r hc (fun c hc => by cases hc) hst
    obtain ⟨v, f1, _⟩ := hk r hc
    have go := f1.ho
    simp at go
    simp (disch := omega) [unV, go, f1.len]
    let I : Nat → Env → List ADef → St → Prop := fun q env ds σ => ds = [] ∧ ∃ (i : Nat) (m' : Nat) (H : Heap), i ≤ r.length ∧ q = r.length - i ∧ m2 + 1 + 1 + 1 + 1 ≤ m' ∧
      σ = ⟨H, m'⟩ ∧ aget env 8 = .ptr (m2 + 1 + 1) 0 ∧ aget env 27 = .int .i64 r.length ∧ aget env 28 = .int .i64 i ∧
      Over m h H ∧ Low H m' ∧ hget H (m2 + 1 + 1) = some (.cells [v]) ∧ OutOk (m2 + 1 + 1 + 1) r v H
    refine run_loop hm I ?_ r.length ?_
    · clear hO hL f hO1 hL1 hk go f1
      rintro q env ds σ ⟨rfl, i, m', H, hi, rfl, hmm, rfl, e8, e27, e28, hO, hL, go, out⟩
      by_cases d1 : i < r.length
      · rcases out with ⟨rfl, rfl⟩ | ⟨o, hr, hfo, rfl, hg⟩
        · simp at d1
        · have hbl : Nat.blt i r.length = true := Nat.ble_eq_true_of_le d1
          have hs2 : r[i].2.size ≤ 4000 := hsz _ (List.getElem_mem d1)
          simp (disch := omega) [q_call hm, e8, e27, e28, d1, go, hg, elemHsl, hbl, slc_flat r i d1]
          refine CallD.ret (copied_spec hm h115 r[i].2 hs2 _ _ hL) (fun m3 hm3 => ?_)
          simp (disch := omega) [e8, e28, go, hg, elemHsl, hbl, splice_flat r i d1, cells_all, hget_sne]
          exact ⟨r.length - (i + 1), by omega, rfl, i + 1, m3, _, by omega, rfl, by omega, rfl, by simp [e8], by simp [e27], by simp, hO.set hl (by omega), (hL.mono hm3).set, (hget_sne (by omega)).trans go, .inr ⟨o, hr, hfo, rfl, hget_seq hg⟩⟩
      · simp (disch := omega) [e8, e27, e28, d1, go, RetMo, gc0]
        refine ⟨?_, hO, hL, by omega⟩
        rcases out with ⟨rfl, rfl⟩ | ⟨o, _, ho, rfl, hg⟩
        · exact .inl ⟨rfl, _, rfl⟩
        · exact .inr ⟨o, by omega, rfl, hg⟩
    · exact ⟨rfl, 0, n1, H1, by simp, by simp, by omega, rfl, by simp, by simp, by simp, hO1, hL1, go, f1.out⟩

/-- What the program's matching needs. -/
structure Mts (T : Tab) : Prop where
  R : Rts T
  h73 : Has T 94 a94
  h113 : Has T 129 a129
  h114 : Has T 130 a130
  h115 : Has T 131 a131
def instOk (t p : Tm) : Prop := (p.inst t).1 = true ∧ (p.inst t).2 = 0
theorem CallK.mat {T : Tab} {ks : List K} {env : Env} {ds : List ADef} {Q : Ex → Env → List ADef → St → Prop} {n m : Nat} {as : List AV} {h : Heap} {d : Option Nat} {l : List AOper} {ok : Bool} {res : Option (List Bd)} (hs : Spec T (.fn n) as ⟨h, m⟩ (RetMo h m ok res))
    (k : ∀ x H m', (∀ r, res = some r → BdOk m r x H) → Over m h H → Low H m' → m ≤ m' → Run T (.ops l :: ks) .normal (put env d (.tup [x, .bool res.isSome, .int .i64 (if ok then 0 else 1)])) ds ⟨H, m'⟩ Q) : CallK T n as ⟨h, m⟩ d l ks env ds Q :=
  ⟨_, hs, fun v' τ hv => by obtain ⟨⟨x, rfl, hx⟩, h1, h2, h3⟩ := hv; obtain ⟨h', m'⟩ := τ; exact k x h' m' hx h1 h2 h3⟩
theorem instOk_iff (t p : Tm) : instOk t p ↔ ((p.right ∧ t.right) ∧ (p.matched t).isSome = true) := by
  unfold instOk Tm.inst Tm.matched
  by_cases c : p.right ∧ t.right
  · simp [c]
  · simp [if_neg c]
theorem instance_spec (hm : PrimMono T) (M : Mts T) (h33 : Has T 88 a88) (t p : Tm) (wft : t.Wf) (wfp : p.Wf) (hst : t.size ≤ 4000) (hsp : p.size ≤ 4000) (h : Heap) (m : Nat) (hl : Low h m) :
    Spec T (.fn 88) [t.av, p.av] ⟨h, m⟩ (Ret h m (.bool (decide (instOk t p)))) := by
  refine spec_fn hm h33.prim h33.func rfl ?_
  have hL : Low ((m + 1, .cells p.av.cells) :: (m, .cells t.av.cells) :: h) (m + 1 + 1) := (hl.cons (Nat.lt_succ_self m)).cons (Nat.lt_succ_self _)
  have hO : Over m h ((m + 1, .cells p.av.cells) :: (m, .cells t.av.cells) :: h) := ((Over.refl m h).cons (Nat.le_refl m)).cons (by omega)
  simp (disch := omega) [a88, r_call hm]
  refine CallK.mat (match_spec hm M.R M.h73 M.h113 M.h114 M.h115 p t wfp wft hsp hst _ _ hL) (fun x H m1 hx hO1 hL1 hm1 => ?_)
  have hO2 := hO1.trans hO (by omega)
  rw [show decide (instOk t p) = (decide (p.right ∧ t.right) && (p.matched t).isSome) by rw [← Bool.decide_coe ((p.matched t).isSome), ← Bool.decide_and]; exact decide_eq_decide.mpr (instOk_iff t p)]
  cases c1 : (p.matched t).isSome with
  | false =>
    simp (disch := omega) [Ret, hO2.gc hl]
    omega
  | true =>
    by_cases c2 : p.right ∧ t.right
    · simp (disch := omega) [Ret, hO2.gc hl, c2]
      omega
    · simp (disch := omega) [Ret, hO2.gc hl, c2]
      omega
theorem cover2_spec (hm : PrimMono T) (M : Mts T) (h28 : Has T 47 a47) (h33 : Has T 88 a88)
    (l : List Tm) (hs : Tm.sizes l ≤ 4000) (wfl : ∀ x ∈ l, x.Wf) (t : Tm) (hst : t.size ≤ 4000) (wf : t.Wf) (tk : Tok) (h : Heap) (m : Nat) (hl : Low h m) : Spec T (.fn 47) [.slice (Tm.avs l) tk, t.av] ⟨h, m⟩ (Ret h m (.int .i64 (firstI (instOk t) l))) := by
  refine spec_fn hm h28.prim h28.func rfl ?_
  have hlen := sizes_len l
  simp (disch := omega) [a47]
  let I : Nat → Env → List ADef → St → Prop := fun q env ds σ => ds = [] ∧ ∃ (i : Nat) (m' : Nat) (H : Heap), i ≤ l.length ∧ q = l.length - i ∧ m < m' ∧
    σ = ⟨H, m'⟩ ∧ aget env 3 = .ptr m 0 ∧ aget env 7 = .slice (Tm.avs l) tk ∧ aget env 8 = .int .i64 l.length ∧ aget env 9 = .int .i64 i ∧
    Over m h H ∧ Low H m' ∧ hget H m = some (.cells t.av.cells) ∧
    (if firstI (instOk t) (l.drop i) < 0 then -1 else firstI (instOk t) (l.drop i) + i) = firstI (instOk t) l
  refine run_loop hm I ?_ l.length ?_
  · rintro q env ds σ ⟨rfl, i, m', H, hi, rfl, hmm, rfl, e3, e7, e8, e9, hO, hL, g, hf⟩
    by_cases d1 : i < l.length
    · have hle := sizes_mem (List.getElem_mem d1)
      have w := wfl _ (List.getElem_mem d1)
      have hL1 := hL.cons (o := .cells l[i].av.cells) (Nat.lt_succ_self m')
      have hO1 := hO.cons (o := .cells l[i].av.cells) (show m ≤ m' by omega)
      simp (disch := omega) [r_call hm, e3, e7, e8, e9, d1, g, cells_all, splice_av]
      refine CallK.ret (instance_spec hm M h33 t l[i] wf w hst (by omega) _ _ hL1) (fun m1 hm1 => ?_)
      rw [List.drop_eq_getElem_cons d1, firstI] at hf
      by_cases c : instOk t l[i]
      · rw [if_pos c, if_neg (by omega)] at hf
        have hf' : firstI (instOk t) l = i := by omega
        simp (disch := omega) [c, Ret, hO1.gc hl, hf']
        omega
      · rw [if_neg c] at hf
        simp (disch := omega) [e9, c]
        exact ⟨l.length - (i + 1), by omega, rfl, i + 1, m1, _, by omega, rfl, by omega, rfl, by simp [e3], by simp [e7], by simp [e8], by simp, hO1, hL1.mono hm1, (hget_ne _ _ (by omega)).trans g, by rw [← hf]; push_cast; split <;> split <;> omega⟩
    · rw [List.drop_eq_nil_of_le (by omega)] at hf
      have hf' : firstI (instOk t) l = -1 := by rw [← hf]; simp [firstI]
      simp (disch := omega) [e8, e9, d1, Ret, hO.gc hl, hf']
      omega
  · exact ⟨rfl, 0, m + 1, _, by simp, by simp, by omega, rfl, by simp, by simp, by simp, by simp, (Over.refl m h).cons (Nat.le_refl m), hl.cons (Nat.lt_succ_self m), hget_eq _ _ _, by simp; have := firstI_range (instOk t) l; omega⟩
end Go.AM
namespace Go.AM
variable {T : Tab}
open Classical

/-- A digit. -/
def chr10 (d : Nat) : UInt8 := UInt8.ofNat (48 + d)
/-- A number's digits. -/
def dig (n : Nat) : List UInt8 := if n < 10 then [chr10 n] else dig (n / 10) ++ [chr10 (n % 10)]
decreasing_by omega
def nameL (n : Nat) : List UInt8 := [115, 95] ++ dig n

variable {ks : List K} {env : Env} {ds : List ADef} {σ : St} {Q : Ex → Env → List ADef → St → Prop} {l : List AOper} {d : Option Nat}
@[simp] theorem r_convInt {k x} : Run T (.ops (⟨d, none, .convInt k x⟩ :: l) :: ks) .normal env ds σ Q = Op T (op_convInt k x env σ) d l ks env ds Q := ops_op rfl
@[simp] theorem r_convBytes {x} : Run T (.ops (⟨d, none, .convBytes x⟩ :: l) :: ks) .normal env ds σ Q = Op T (op_convBytes x env σ) d l ks env ds Q := ops_op rfl
theorem op_convInt_some {k : IntKind} {x : Opd} {n : Int} {k' : IntKind} (h : x.eval env = .int k' n) : op_convInt k x env σ = some (.int k (wrapK k n), σ) := by
  unfold op_convInt; rw [h]; rfl
theorem dig_u8 : ∀ d : Nat, d < 10 → bytesOf [.int .u8 (wrapK .u8 (48 + (d : Int)))] = some [chr10 d] := by decide
theorem op_conv_dig {x : Opd} {d : Nat} (hd : d < 10) {tk : Tok} (h : x.eval env = .slice [.int .u8 (wrapK .u8 (48 + (d : Int)))] tk) : op_convBytes x env σ = some (.str [chr10 d], σ) := by
  unfold op_convBytes; rw [h, show elemsOf (AV.slice [.int .u8 (wrapK .u8 (48 + (d : Int)))] tk) σ 1 = some [.int .u8 (wrapK .u8 (48 + (d : Int)))] from rfl]
  simp only [dig_u8 d hd]
theorem dig_len (n : Nat) : ∀ k, n < 10 ^ (k + 1) → (dig n).length ≤ k + 1 := by
  induction n using Nat.strongRecOn with
  | _ n ih =>
    intro k hk
    rw [dig]
    split
    · simp
    · rename_i h
      cases k with
      | zero => omega
      | succ k =>
        have := ih (n / 10) (by omega) k (by rw [Nat.pow_succ] at hk; omega)
        rw [List.length_append]; simp; omega
theorem dig_le {n : Nat} (h : n < 1000000) : (dig n).length ≤ 6 := dig_len n 5 (by simpa using h)
theorem wrap64 {n : Int} (h0 : 0 ≤ n) (h1 : n < 1000000) : IntKind.i64.wrap n = n := by
  show (if (true && decide (n % 18446744073709551616 ≥ 9223372036854775808)) = true then n % 18446744073709551616 - 18446744073709551616 else n % 18446744073709551616) = n
  rw [Int.emod_eq_of_lt h0 (by omega), if_neg (by simp; omega)]
theorem refName_spec (hm : PrimMono T) (h11 : Has T 11 a11) (n : Nat) (hn : n < 1000000) (h : Heap) (m : Nat) (hl : Low h m) : Spec T (.fn 11) [.int .i64 n] ⟨h, m⟩ (Ret h m (.str (nameL n))) := by
  refine spec_fn hm h11.prim h11.func rfl ?_
  simp (disch := omega) [a11]
  have hdl := dig_le hn
  let I : Nat → Env → List ADef → St → Prop := fun q env ds σ => ds = [] ∧ ∃ (k : Nat) (s : List UInt8), q = k ∧ k ≤ n ∧ σ = ⟨h, m⟩ ∧ aget env 0 = .int .i64 k ∧ aget env 3 = .str s ∧ dig k ++ s = dig n
  refine run_loop hm I ?_ n ?_
  · rintro q env ds σ ⟨rfl, k, s, rfl, hk, rfl, e0, e3, hs⟩
    have hsl : s.length ≤ 6 := by have := congrArg List.length hs; rw [List.length_append] at this; omega
    have et : (q : Int).tmod 10 = ((q % 10 : Nat) : Int) := (Int.ofNat_tmod q 10).symm
    have eq : (q : Int).tdiv 10 = ((q / 10 : Nat) : Int) := (Int.ofNat_tdiv q 10).symm
    have h10 : q % 10 < 10 := Nat.mod_lt _ (by omega)
    generalize hd : q % 10 = d at *
    simp (disch := omega) [e0, et]
    rw [op_convInt_some (k' := .i64) (n := 48 + (d : Int)) (by simp (disch := omega))]
    simp (disch := omega)
    rw [op_conv_dig h10 (tk := .full) (by simp)]
    have hb : (1 + s.length).ble 9223372036854775807 = true := Nat.ble_eq_true_of_le (by omega)
    have hb2 : (2 + (1 + s.length)).ble 9223372036854775807 = true := Nat.ble_eq_true_of_le (by omega)
    simp (disch := omega) [e0, e3, eq, hb]
    rw [wrap64 (by omega) (by omega)]
    by_cases c : (q : Int) / 10 = 0
    · have c2 : q < 10 := by omega
      have e2 : chr10 d :: s = dig n := by rw [← hs, dig, if_pos c2, ← hd, Nat.mod_eq_of_lt c2]; rfl
      have hb3 : (2 + (dig n).length).ble 9223372036854775807 = true := Nat.ble_eq_true_of_le (by omega)
      simp (disch := omega) [c, hb3, Ret, hl.gc, nameL, e2]
    · have c2 : ¬ q < 10 := by omega
      have e2 : dig (q / 10) ++ chr10 d :: s = dig n := by rw [← hs]; conv => rhs; rw [dig, if_neg c2]
                                                           rw [hd]; simp
      simp (disch := omega) [c]
      exact ⟨q / 10, by omega, rfl, q / 10, _, rfl, by omega, rfl, by simp, by simp, e2⟩
  · exact ⟨rfl, n, [], rfl, Nat.le_refl _, rfl, by simp, by simp, by simp⟩

/-- Go's own numeral. -/
def primItoa : CallF → List AV → St → Option (AV × St) := fun _ args σ => match args with
  | [.int .i64 (.ofNat n)] => if n < 1000000 then some (.str (dig n), σ) else none
  | _ => none
/-- Go's own numeral, as a contract. -/
def Itoa (T : Tab) : Prop := ∀ (n : Nat), n < 1000000 → ∀ h m, Low h m → Spec T (.fn 30) [.int .i64 n] ⟨h, m⟩ (Ret h m (.str (dig n)))
theorem itoa_of {p : CallF → List AV → St → Option (AV × St)} (hp : T.prim 30 = some p) (e : p = primItoa) : Itoa T := fun n hn h m _ => ⟨1, .str (dig n), ⟨h, m⟩, by
  show callFn T 0 (call T 0) 30 [.int .i64 n] ⟨h, m⟩ = _
  unfold callFn; rw [hp, e]
  show (if n < 1000000 then some (AV.str (dig n), (⟨h, m⟩ : St)) else none) = _
  rw [if_pos hn], rfl, rfl, Nat.le_refl m⟩
theorem name_spec (hm : PrimMono T) (h10 : Has T 10 a10) (hI : Itoa T) (n : Nat) (hn : n < 1000000) (h : Heap) (m : Nat) (hl : Low h m) : Spec T (.fn 10) [.int .i64 n] ⟨h, m⟩ (Ret h m (.str (nameL n))) := by
  refine spec_fn hm h10.prim h10.func rfl ?_
  have hdl := dig_le hn
  have hb3 : (2 + (dig n).length).ble 9223372036854775807 = true := Nat.ble_eq_true_of_le (by omega)
  simp (disch := omega) [a10, r_call hm]
  refine CallK.ret (hI n hn _ _ hl) (fun m1 hm1 => ?_)
  simp (disch := omega) [hb3, Ret, hl.gc, nameL]
  omega
end Go.AM
