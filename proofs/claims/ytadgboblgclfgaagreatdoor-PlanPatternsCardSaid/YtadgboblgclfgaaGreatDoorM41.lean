/- A part of the proof of: PlanPatterns: a pattern of a Call, and which of some patterns covers it, is what the document says, or the error is told. -/
import Derived.Test.YtadgboblgclfgaaGreatDoorM40
import Derived.Test.YtadgboblgclfgaaGreatDoorM38
namespace Go.AM
variable {T : Tab}

/-- 0, 1, 2, .. -/
def upto (n : Nat) : List Int := (List.range n).map Int.ofNat
@[simp] theorem upto_len (n : Nat) : (upto n).length = n := by simp [upto]
theorem upto_succ (n : Nat) : upto (n + 1) = upto n ++ [(n : Int)] := by simp [upto, List.range_succ]
theorem withVs_mem {l : List Tm} (ih : ∀ x ∈ l, ∀ acc, ∀ v ∈ acc, v ∈ Tm.withV acc x) : ∀ acc, ∀ v ∈ acc, v ∈ Tm.withVs acc l := by
  induction l with
  | nil => intro acc v hv; rw [Tm.withVs]; exact hv
  | cons t l ihl =>
    intro acc v hv
    rw [Tm.withVs]
    exact ihl (fun x hx => ih x (List.mem_cons_of_mem _ hx)) _ v (ih t List.mem_cons_self acc v hv)
theorem withV_mem (t : Tm) : ∀ acc, ∀ v ∈ acc, v ∈ Tm.withV acc t := by
  refine Tm.ind (M := fun t => ∀ acc, ∀ v ∈ acc, v ∈ Tm.withV acc t) (fun k s n l ih acc v hv => ?_) t
  rw [Tm.withV]
  split
  · split
    · exact hv
    · exact List.mem_append_left _ hv
  · exact withVs_mem ih acc v hv
theorem inVs_mono' {a b : List Int} {l : List Tm} (ih : ∀ x ∈ l, Tm.inV a x → Tm.inV b x) : Tm.inVs a l → Tm.inVs b l := by
  induction l with
  | nil => exact id
  | cons t l ihl =>
    intro h
    rw [Tm.inVs] at h ⊢
    exact ⟨ih t List.mem_cons_self h.1, ihl (fun x hx => ih x (List.mem_cons_of_mem _ hx)) h.2⟩
theorem inV_mono {a b : List Int} (hab : ∀ v ∈ a, v ∈ b) (t : Tm) : Tm.inV a t → Tm.inV b t := by
  refine Tm.ind (M := fun t => Tm.inV a t → Tm.inV b t) (fun k s n l ih h => ?_) t
  rw [Tm.inV] at h ⊢
  split at h
  · rename_i hk; rw [if_pos hk]; exact hab n h
  · rename_i hk; rw [if_neg hk]; exact inVs_mono' ih h
theorem inVs_of' {l : List Tm} (ih : ∀ x ∈ l, ∀ acc, Tm.inV (Tm.withV acc x) x) : ∀ acc, Tm.inVs (Tm.withVs acc l) l := by
  induction l with
  | nil => intro acc; rw [Tm.inVs]; trivial
  | cons t l ihl =>
    intro acc
    rw [Tm.inVs, Tm.withVs]
    exact ⟨inV_mono (withVs_mem (fun x _ acc v hv => withV_mem x acc v hv) _) t (ih t List.mem_cons_self acc), ihl (fun x hx => ih x (List.mem_cons_of_mem _ hx)) _⟩
theorem inV_of (t : Tm) : ∀ acc, Tm.inV (Tm.withV acc t) t := by
  refine Tm.ind (M := fun t => ∀ acc, Tm.inV (Tm.withV acc t) t) (fun k s n l ih acc => ?_) t
  rw [Tm.withV, Tm.inV]
  split
  · rename_i hk
    split
    · assumption
    · exact List.mem_append_right _ (List.mem_singleton.mpr rfl)
  · exact inVs_of' ih acc
theorem inVs_of (l : List Tm) (acc : List Int) : Tm.inVs (Tm.withVs acc l) l := inVs_of' (fun x _ acc => inV_of x acc) acc
theorem withVs_len (l : List Tm) : ∀ acc, (Tm.withVs acc l).length ≤ acc.length + Tm.sizes l := by
  induction l with
  | nil => intro acc; rw [Tm.withVs]; omega
  | cons t l ih =>
    intro acc; rw [Tm.withVs, Tm.sizes]
    have := withV_len t acc
    have := ih (Tm.withV acc t)
    omega
def Tm.numb (l : List Tm) : List Tm := Tm.turns (turnN (Tm.withVs [] l) (upto (Tm.withVs [] l).length)) l

theorem numb_spec (hm : PrimMono T) (h17 : Has T 17 a17) (h20 : Has T 20 a20) (h59 : Has T 59 a59) (h57 : Has T 57 a57) (h105 : Has T 105 a105) (l : List Tm) (hs : Tm.sizes l ≤ 4000) (tk : Tok) (h : Heap) (m : Nat) (hl : Low h m) : Spec T (.fn 17) [.slice (Tm.avs l) tk] ⟨h, m⟩ (RetS h m (Tm.avs (Tm.numb l))) := by
  refine spec_fn hm h17.prim h17.func rfl ?_
  have hlen := sizes_len l
  have hin := inVs_of l []
  have hv : (Tm.withVs [] l).length ≤ 4000 := by have := withVs_len l []; simp at this; omega
  simp (disch := omega) [a17, r_call hm]
  refine CallK.rets (vars_spec hm h20 h59 l hs _ _ _ hl) (fun tk1 m1 hm1 => ?_)
  unfold Tm.numb
  generalize Tm.withVs [] l = vs at *
  simp (disch := omega)
  let I : Nat → Env → List ADef → St → Prop := fun q env ds σ => ds = [] ∧ ∃ (i : Nat) (tk2 : Tok) (H : Heap) (m' : Nat), i ≤ vs.length ∧ q = vs.length - i ∧ m ≤ m' ∧
    σ = ⟨H, m'⟩ ∧ aget env 0 = .slice (Tm.avs l) tk ∧ aget env 3 = .slice (ints vs) tk1 ∧ aget env 4 = .slice (ints (upto i)) tk2 ∧ aget env 5 = .int .i64 i ∧
    Over m h H ∧ Low H m' ∧ AppOk H m tk2 1
  refine run_loop hm I ?_ vs.length ?_
  · rintro q env ds σ ⟨rfl, i, tk2, H, m', hi, rfl, hmm, rfl, e0, e3, e4, e5, hO, hL, hA⟩
    by_cases d1 : i < vs.length
    · obtain ⟨tk3, H3, m3, s1, s2, s3, s4, s5, s6⟩ := app1 (x := .int .i64 i) (es := ints (upto i)) (bytes := 8) hA hO hl hL (by omega) (by unfold fits; simp; omega) rfl (ints_head _)
      simp (disch := omega) [e3, e4, e5, d1, s1]
      exact ⟨vs.length - (i + 1), by omega, rfl, i + 1, tk3, H3, m3, by omega, rfl, by omega, rfl, by simp [e0], by simp [e3], by simp [upto_succ, ← ints_app]; rfl, by simp, s3, s4, s2⟩
    · have hi' : i = vs.length := by omega
      subst hi'
      simp (disch := omega) [e3, e5]
      let J : Nat → Env → List ADef → St → Prop := fun q env ds σ => ds = [] ∧ ∃ (i : Nat) (tk4 : Tok) (H : Heap) (m' : Nat) (r : List Tm), i ≤ l.length ∧ q = l.length - i ∧ m ≤ m' ∧
        σ = ⟨H, m'⟩ ∧ aget env 0 = .slice (Tm.avs l) tk ∧ aget env 3 = .slice (ints vs) tk1 ∧ aget env 4 = .slice (ints (upto vs.length)) tk2 ∧ aget env 6 = .slice (Tm.avs r) tk4 ∧ aget env 7 = .int .i64 i ∧
        Over m h H ∧ Low H m' ∧ AppOk H m tk4 4 ∧ r.length = i ∧ r ++ Tm.turns (turnN vs (upto vs.length)) (l.drop i) = Tm.turns (turnN vs (upto vs.length)) l
      refine run_loop hm J ?_ l.length ?_
      · clear e0 e3 e4 e5 hO hL hA hmm
        rintro q env ds σ ⟨rfl, i, tk4, H, m', r, hi, rfl, hmm, rfl, e0, e3, e4, e6, e7, hO, hL, hA, hr, hf⟩
        by_cases d1 : i < l.length
        · have hle := sizes_mem (List.getElem_mem d1)
          simp (disch := omega) [r_call hm, e0, e3, e4, e6, e7, d1]
          refine CallK.ret (turn_spec hm h57 h105 l[i] (by omega) vs (upto vs.length) (by omega) (by simp) (inVs_mem hin _ (List.getElem_mem d1)) tk1 tk2 _ _ hL) (fun m2 hm2 => ?_)
          obtain ⟨tk3, H3, m3, s1, s2, s3, s4, s5, s6⟩ := app1 (x := ((l[i]).turn (turnN vs (upto vs.length))).av) (es := Tm.avs r) (bytes := 56) hA hO hl (hL.mono hm2) (by omega) (by unfold fits; simp; omega) (elemOk_av _) (head_avs _)
          rw [strip_cell_av] at s1
          simp (disch := omega) [e7, s1, strip_cell_av]
          rw [List.drop_eq_getElem_cons d1, Tm.turns] at hf
          exact ⟨l.length - (i + 1), by omega, rfl, i + 1, tk3, H3, m3, r ++ [(l[i]).turn (turnN vs (upto vs.length))], by omega, rfl, by omega, rfl, by simp [e0], by simp [e3], by simp [e4], by simp [← avs_app]; rfl, by simp, s3, s4, s2, by simp [hr], by rw [← hf]; simp⟩
        · rw [List.drop_eq_nil_of_le (by omega), Tm.turns, List.append_nil] at hf
          simp (disch := omega) [e0, e6, e7, d1]
          exact ⟨⟨_, by rw [← hf]⟩, hO.gc hl, hmm⟩
      · exact ⟨rfl, 0, .full, H, m', [], by simp, by simp, hmm, rfl, by simp [e0], by simp [e3], by simp [e4], by simp [Tm.avs], by simp, hO, hL, .inl rfl, rfl, by simp⟩
  · exact ⟨rfl, 0, .full, h, m1, by simp, by simp, hm1, rfl, by simp, by simp, by simp [upto], by simp, .refl m h, hl.mono hm1, .inl rfl⟩
end Go.AM
namespace Go.AM
variable {T : Tab}
theorem turn_size (f : Int → Int) (t : Tm) : (t.turn f).size ≤ t.size := by
  refine Tm.ind (M := fun t => (t.turn f).size ≤ t.size) (fun k s n l ih => ?_) t
  rw [Tm.turn]
  split
  · rw [Tm.size, Tm.size, Tm.sizes]; omega
  · rw [Tm.size, Tm.size]
    have : ∀ (l : List Tm), (∀ x ∈ l, (x.turn f).size ≤ x.size) → Tm.sizes (Tm.turns f l) ≤ Tm.sizes l := by
      intro l
      induction l with
      | nil => intro _; rw [Tm.turns]; exact Nat.le_refl _
      | cons t l ihl =>
        intro ih; rw [Tm.turns, Tm.sizes, Tm.sizes]
        have := ih t (by simp)
        have := ihl (fun x hx => ih x (by simp [hx]))
        omega
    have := this l ih; omega

/-- A term, its variables numbered anew. -/
def Tm.numb1 (t : Tm) : Tm := t.turn (turnN (Tm.withVs [] [t]) (upto (Tm.withVs [] [t]).length))
theorem numb_one (t : Tm) : Tm.numb [t] = [t.numb1] := by
  unfold Tm.numb Tm.numb1; rw [Tm.turns, Tm.turns]
def var (n : Int) : Tm := .mk 1 [] n []
def Tm.patt : Tm → Tm
  | .mk k s n l => if (Tm.withVs [] [(Tm.mk k s n l).numb1]).length ≤ 8 then (Tm.mk k s n l).numb1 else .mk 3 s 0 ((upto l.length).map var)
theorem av_slice1 (t : Tm) : [t.av] = Tm.avs [t] := rfl
theorem elem0 (t : Tm) : elemSlice (Tm.avs [t]) 4 0 = some (.eptr t.av.cells 0) := by
  show (bif Nat.beq t.av.cells.length 4 then some (AV.eptr t.av.cells 0) else none) = _
  rw [len_av]; rfl
theorem cells_all (t : Tm) : t.av.cells.all isCell = true := by cases t; rfl
theorem splice_av (a b c d : AV) (t : Tm) : splice [a, b, c, d] 0 t.av.cells = some t.av.cells := by cases t; rfl
theorem pattern_spec (hm : PrimMono T) (h32 : Has T 32 a32) (h17 : Has T 17 a17) (h20 : Has T 20 a20) (h59 : Has T 59 a59) (h57 : Has T 57 a57) (h105 : Has T 105 a105) (t : Tm) (hs : t.size ≤ 4000) (h : Heap) (m : Nat) (hl : Low h m) : Spec T (.fn 32) [t.av] ⟨h, m⟩ (Ret h m t.patt.av) := by
  refine spec_fn hm h32.prim h32.func rfl ?_
  have hs1 : Tm.sizes [t] ≤ 4000 := by rw [Tm.sizes, Tm.sizes]; omega
  have hs2 : Tm.sizes [t.numb1] ≤ 4000 := by rw [Tm.sizes, Tm.sizes]; have := turn_size (turnN (Tm.withVs [] [t]) (upto (Tm.withVs [] [t]).length)) t; unfold Tm.numb1; omega
  obtain ⟨k, s, n, l⟩ := t
  rw [Tm.patt]
  have hlen : l.length ≤ 4000 := by rw [Tm.size] at hs; have := sizes_len l; omega
  have hL : Low ((m + 1, .cells [.int .i64 0, .str [], .int .i64 0, .slice [] .full]) :: (m, .cells [.int .i64 k, .str s, .int .i64 n, .slice (Tm.avs l) .none]) :: h) (m + 1 + 1) := (hl.cons (Nat.lt_succ_self m)).cons (Nat.lt_succ_self _)
  simp (disch := omega) [a32, r_call hm, strip_cell_av]
  have h1 := numb_spec hm h17 h20 h59 h57 h105 [.mk k s n l] hs1 .full _ _ hL
  rw [numb_one] at h1
  refine CallK.rets h1 (fun tk1 m1 hm1 => ?_)
  simp (disch := omega) [r_call hm]
  refine CallK.rets (vars_spec hm h20 h59 _ hs2 _ _ _ (hL.mono hm1)) (fun tk2 m2 hm2 => ?_)
  generalize (Tm.mk k s n l).numb1 = nt at *
  by_cases c1 : (8 : Int) < (Tm.withVs [] [nt]).length
  · rw [if_neg (by omega)]
    simp (disch := omega) [c1]
    let I : Nat → Env → List ADef → St → Prop := fun q env ds σ => ds = [] ∧ ∃ (i : Nat) (tk3 : Tok) (H : Heap) (m' : Nat), i ≤ l.length ∧ q = l.length - i ∧ m2 < m' ∧
      σ = ⟨H, m'⟩ ∧ aget env 1 = .ptr m 0 ∧ aget env 2 = .ptr (m + 1) 0 ∧ aget env 4 = .ptr m2 0 ∧ aget env 5 = .int .i64 i ∧
      Over m h H ∧ Low H m' ∧ hget H m = some (.cells [.int .i64 k, .str s, .int .i64 n, .slice (Tm.avs l) .none]) ∧
      (∃ z, hget H (m + 1) = some (.cells z) ∧ z = [.int .i64 0, .str [], .int .i64 0, .slice [] .full]) ∧
      hget H m2 = some (.cells [.int .i64 3, .str s, .int .i64 0, .slice (Tm.avs ((upto i).map var)) tk3]) ∧ AppOk H m tk3 4
    refine run_loop hm I ?_ l.length ?_
    · rintro q env ds σ ⟨rfl, i, tk3, H, m', hi, rfl, hmm, rfl, e1, e2, e4, e5, hO, hLL, g0, ⟨z, g1, rfl⟩, g2, hA⟩
      by_cases d1 : i < l.length
      · obtain ⟨tk4, H3, m3, s1, s2, s3, s4, s5, s6⟩ := app1 (x := (var i).av) (es := Tm.avs ((upto i).map var)) (bytes := 56) hA hO hl hLL (by omega) (by unfold fits; simp; omega) (elemOk_av _) (head_avs _)
        rw [strip_cell_av] at s1
        have f0 := s6 _ _ g0
        have f1 := s6 _ _ g1
        have f2 := s6 _ _ g2
        have hv : AV.agg [.int .i64 1, .str [], .int .i64 i, .slice [] .none] = (var i).av := rfl
        simp (disch := omega) [e1, e2, e4, e5, d1, g0, g2, f1, f2, hget_set, hv, s1]
        refine ⟨l.length - (i + 1), by omega, rfl, i + 1, tk4, _, _, by omega, rfl, by omega, rfl, by simp [e1], by simp [e2], by simp [e4], by simp, s3.set hl (by omega), s4.set, ?_, ⟨_, ?_, rfl⟩, ?_, s2.set f2⟩
        · rw [hget_set, if_neg (by omega)]; exact f0
        · rw [hget_set, if_neg (by omega)]; exact f1
        · rw [hget_set, if_pos rfl, f2]; simp [upto_succ, ← avs_app]; rfl
      · simp (disch := omega) [e1, e2, e4, e5, d1, g0, g1, g2, hget_set]
        have hi' : i = l.length := by omega
        subst hi'
        exact ⟨rfl, (hO.set hl (by omega)).gc hl, by show m ≤ m'; omega⟩
    · exact ⟨rfl, 0, .full, _, m2 + 1, by simp, by simp, by omega, rfl, by simp, by simp, by simp, by simp, (((Over.refl m h).cons (Nat.le_refl m)).cons (by omega)).cons (by omega), (hL.mono (by omega)).cons (Nat.lt_succ_self _), by simp (disch := omega), ⟨_, by simp (disch := omega), rfl⟩, by simp (disch := omega) [upto, Tm.avs], .inl rfl⟩
  · rw [if_pos (by omega)]
    simp (disch := omega) [c1, Ret, hl.gc, -elemSlice, elem0, cells_all, splice_av]
    try omega
end Go.AM
namespace Go.AM
variable {T : Tab}

theorem same2_spec (hm : PrimMono T) (h114 : Has T 114 a114) (t : Tm) (wf : t.Wf) : ∀ (u : Tm) (h : Heap) (m : Nat) (_hl : Low h m), Spec T (.fn 114) [t.av, u.av] ⟨h, m⟩ (Ret h m (.bool (t.beq u))) := by
  refine Tm.ind (M := fun t => t.Wf → ∀ (u : Tm) (h : Heap) (m : Nat) (hl : Low h m), Spec T (.fn 114) [t.av, u.av] ⟨h, m⟩ (Ret h m (.bool (t.beq u)))) (fun k s n l ih wf u h m hl => ?_) t wf
  obtain ⟨_, _, hsl, hll, hwf⟩ := wf
  obtain ⟨k', s', n', l'⟩ := u
  refine spec_fn hm h114.prim h114.func rfl ?_
  rw [Tm.beq]
  by_cases c1 : k = k'
  rotate_left
  · simp (disch := omega) [a114, c1, Ret, hl.gc]; try omega
  by_cases c2 : n = n'
  rotate_left
  · simp (disch := omega) [a114, c1, c2, Ret, hl.gc]; try omega
  by_cases c3 : s = s'
  rotate_left
  · simp (disch := omega) [a114, c1, c2, c3, Ret, hl.gc]; try omega
  by_cases c4 : l.length = l'.length
  rotate_left
  · have c4' : ¬ (l.length : Int) = l'.length := by omega
    simp (disch := omega) [a114, c1, c2, c3, c4', beqs_len c4, Ret, hl.gc]; try omega
  subst c1 c2 c3
  simp (disch := omega) [a114, c4]
  let I : Nat → Env → List ADef → St → Prop := fun q env ds σ => ds = [] ∧ ∃ (i m' : Nat) (H : Heap), i ≤ l.length ∧ q = l.length - i ∧ m + 1 < m' ∧
    σ = ⟨H, m'⟩ ∧ aget env 3 = .ptr (m + 1) 0 ∧ aget env 36 = .slice (Tm.avs l) .none ∧ aget env 37 = .int .i64 l'.length ∧ aget env 38 = .int .i64 i ∧
    Over m h H ∧ Low H m' ∧ hget H (m + 1) = some (.cells [.int .i64 k, .str s, .int .i64 n, .slice (Tm.avs l') .none]) ∧
    Tm.beqs (l.drop i) (l'.drop i) = Tm.beqs l l'
  refine run_loop hm I ?_ l.length ?_
  · rintro q env ds σ ⟨rfl, i, m', H, hi, rfl, hmm, rfl, e3, e36, e37, e38, hO, hL, g1, hf⟩
    by_cases d1 : i < l.length
    · have d1' : i < l'.length := by omega
      rw [List.drop_eq_getElem_cons d1, List.drop_eq_getElem_cons d1', Tm.beqs] at hf
      simp (disch := omega) [q_call hm, e3, e36, e37, e38, d1', c4, g1, cells_all, splice_av]
      refine CallD.ret (ih _ (List.getElem_mem d1) (hwf _ (List.getElem_mem d1)) _ _ _ (hL.cons (Nat.lt_succ_self m'))) (fun m2 hm2 => ?_)
      have hO2 : Over m h ((m', .cells l[i].av.cells) :: H) := hO.cons (by omega)
      cases d2 : l[i].beq l'[i] with
      | true =>
        simp (disch := omega) [e38, unV]
        exact ⟨l.length - (i + 1), by omega, rfl, i + 1, m2, _, by omega, rfl, by omega, rfl, by simp [e3], by simp [e36], by simp [e37], by simp, hO2, (hL.cons (Nat.lt_succ_self m')).mono hm2, by rw [hget_ne _ _ (by omega)]; exact g1, by rw [← hf]; simp [d2]⟩
      | false =>
        have hno : Tm.beqs l l' = false := by rw [← hf]; simp [d2]
        simp (disch := omega) [unV, Ret, hno, hO.gc hl]
        omega
    · have hfa : Tm.beqs l l' = true := by rw [← hf, List.drop_eq_nil_of_le (by omega), List.drop_eq_nil_of_le (by omega)]; rfl
      have d1' : ¬ i < l'.length := by omega
      simp (disch := omega) [e37, e38, d1', c4, Ret, hO.gc hl, hfa]
      omega
  · exact ⟨rfl, 0, m + 1 + 1, _, by simp, by simp [c4], by omega, rfl, by simp, by simp, by simp, by simp, ((Over.refl m h).cons (Nat.le_refl m)).cons (by omega), (hl.cons (Nat.lt_succ_self m)).cons (Nat.lt_succ_self _), hget_eq _ _ _, by simp⟩
end Go.AM
namespace Go.AM
variable {T : Tab}
theorem copied_spec (hm : PrimMono T) (h115 : Has T 115 a115) (t : Tm) (hs : t.size ≤ 4000) : ∀ (h : Heap) (m : Nat) (_hl : Low h m), Spec T (.fn 115) [t.av] ⟨h, m⟩ (Ret h m t.av) := by
  refine Tm.ind (M := fun t => t.size ≤ 4000 → ∀ (h : Heap) (m : Nat) (hl : Low h m), Spec T (.fn 115) [t.av] ⟨h, m⟩ (Ret h m t.av)) (fun k s n l ih hs h m hl => ?_) t hs
  refine spec_fn hm h115.prim h115.func rfl ?_
  rw [Tm.size] at hs
  have hlen := sizes_len l
  simp (disch := omega) [a115]
  let I : Nat → Env → List ADef → St → Prop := fun q env ds σ => ds = [] ∧ ∃ (i : Nat) (tk2 : Tok) (H : Heap) (m' : Nat), i ≤ l.length ∧ q = l.length - i ∧ m + 1 < m' ∧
    σ = ⟨H, m'⟩ ∧ aget env 1 = .ptr m 0 ∧ aget env 2 = .ptr (m + 1) 0 ∧ aget env 9 = .slice (Tm.avs l) .none ∧ aget env 10 = .int .i64 l.length ∧ aget env 11 = .int .i64 i ∧
    Over m h H ∧ Low H m' ∧ (∃ z, hget H (m + 1) = some (.cells z) ∧ z = [.int .i64 0, .str [], .int .i64 0, .slice [] .full]) ∧
    hget H m = some (.cells [.int .i64 k, .str s, .int .i64 n, .slice (Tm.avs (l.take i)) tk2]) ∧ AppOk H m tk2 4
  refine run_loop hm I ?_ l.length ?_
  · rintro q env ds σ ⟨rfl, i, tk2, H, m', hi, rfl, hmm, rfl, e1, e2, e9, e10, e11, hO, hL, ⟨z, g1, rfl⟩, g0, hA⟩
    by_cases d1 : i < l.length
    · have hle := sizes_mem (List.getElem_mem d1)
      simp (disch := omega) [q_call hm, e1, e9, e10, e11, d1, g0, cells_all, splice_av]
      refine CallD.ret (ih _ (List.getElem_mem d1) (by omega) _ _ (hL.cons (Nat.lt_succ_self m'))) (fun m2 hm2 => ?_)
      have hO2 : Over m h ((m', .cells l[i].av.cells) :: H) := hO.cons (by omega)
      obtain ⟨tk3, H3, m3, s1, s2, s3, s4, s5, s6⟩ := app1 (x := l[i].av) (es := Tm.avs (l.take i)) (bytes := 56) (hA.cons (o := .cells l[i].av.cells) hL) hO2 hl ((hL.cons (Nat.lt_succ_self m')).mono hm2) (by omega) (by unfold fits; simp; omega) (elemOk_av _) (head_avs _)
      rw [strip_cell_av] at s1
      have f0 := s6 m _ ((hget_ne _ _ (by omega)).trans g0)
      have f1 := s6 (m + 1) _ ((hget_ne _ _ (by omega)).trans g1)
      have hk : ∀ x : Option AObj, (hget ((m', AObj.cells l[i].av.cells) :: H) m) = some (.cells [.int .i64 k, .str s, .int .i64 n, .slice (Tm.avs (l.take i)) tk2]) := fun _ => (hget_ne _ _ (by omega)).trans g0
      simp (disch := omega) [e1, e2, e11, g0, s1, f0, f1, strip_cell_av, hget_set]
      refine ⟨l.length - (i + 1), by omega, rfl, i + 1, tk3, _, _, by omega, rfl, by omega, rfl, by simp [e1], by simp [e2], by simp [e9], by simp [e10], by simp, s3.set hl (Nat.le_refl m), s4.set, ⟨_, ?_, rfl⟩, ?_, s2.set f0⟩
      · rw [hget_set, if_neg (by omega)]; exact f1
      · have e : Tm.avs (l.take i) ++ [l[i].av] = Tm.avs (l.take (i + 1)) := by rw [List.take_succ_eq_append_getElem d1, ← avs_app]; rfl
        rw [hget_set, if_pos rfl, f0, ← e]; rfl
    · simp (disch := omega) [e1, e2, e10, e11, d1, g0, g1, hget_set]
      exact ⟨by rw [List.take_of_length_le (by omega)], (hO.set hl (by omega)).gc hl, by show m ≤ m'; omega⟩
  · exact ⟨rfl, 0, .full, _, m + 1 + 1, by simp, by simp, by omega, rfl, by simp, by simp, by simp, by simp, by simp, ((Over.refl m h).cons (Nat.le_refl m)).cons (by omega), (hl.cons (Nat.lt_succ_self m)).cons (Nat.lt_succ_self _), ⟨_, hget_eq _ _ _, rfl⟩, by simp (disch := omega) [Tm.avs], .inl rfl⟩
end Go.AM
namespace Go.AM
variable {T : Tab}

@[simp] theorem bds_nil : bds [] = [] := rfl
mutual
/-- What stands in a term where a pattern has variables. -/
def Tm.coll : Tm → Tm → Option (List Bd)
  | .mk k s n l, .mk k' s' n' l' => if k = 1 then some [(n, .mk k' s' n' l')] else if k = k' ∧ n = n' ∧ s = s' ∧ l.length = l'.length then Tm.colls l l' else none
def Tm.colls : List Tm → List Tm → Option (List Bd)
  | a :: l, b :: m => match Tm.coll a b with
    | some x => (match Tm.colls l m with | some y => some (x ++ y) | none => none)
    | none => none
  | _, _ => some []
end
theorem colls_cons (a b : Tm) (l m : List Tm) : Tm.colls (a :: l) (b :: m) = match Tm.coll a b with
    | some x => (match Tm.colls l m with | some y => some (x ++ y) | none => none)
    | none => none := by rw [Tm.colls]
theorem colls_nil (m : List Tm) : Tm.colls [] m = some [] := by cases m <;> (rw [Tm.colls]; intros; contradiction)
theorem coll_len (p : Tm) : ∀ t r, Tm.coll p t = some r → r.length ≤ p.size := by
  refine Tm.ind (M := fun p => ∀ t r, Tm.coll p t = some r → r.length ≤ p.size) (fun k s n l ih t r h => ?_) p
  obtain ⟨k', s', n', l'⟩ := t
  rw [Tm.coll] at h
  rw [Tm.size]
  split at h
  · cases h; simp
  · split at h
    · have : ∀ (l : List Tm), (∀ x ∈ l, ∀ t r, Tm.coll x t = some r → r.length ≤ x.size) → ∀ l' r, Tm.colls l l' = some r → r.length ≤ Tm.sizes l := by
        intro l
        induction l with
        | nil => intro _ l' r h; rw [colls_nil] at h; cases h; exact Nat.zero_le _
        | cons a l ihl =>
          intro ih l' r h
          cases l' with
          | nil => (rw [Tm.colls] at h; cases h; exact Nat.zero_le _); intros; contradiction
          | cons b m =>
            rw [colls_cons] at h
            rw [Tm.sizes]
            cases h1 : Tm.coll a b with
            | none => rw [h1] at h; cases h
            | some x =>
              rw [h1] at h; dsimp only at h
              cases h2 : Tm.colls l m with
              | none => rw [h2] at h; cases h
              | some y =>
                rw [h2] at h; cases h
                have := ih a (by simp) b x h1
                have := ihl (fun x hx => ih x (by simp [hx])) m y h2
                rw [List.length_append]; omega
      have := this l ih l' r h; omega
    · cases h

@[simp] theorem splice_5_0 (a b c d e v : AV) : splice [a, b, c, d, e] 0 [v] = some [v, b, c, d, e] := rfl
@[simp] theorem splice_5_14 (a b c d e w x y z : AV) : splice [a, b, c, d, e] 1 [w, x, y, z] = some [a, w, x, y, z] := rfl
@[simp] theorem fold_bd (v k : Int) (s : List UInt8) (n : Int) (l : List Tm) : AV.agg [.int .i64 v, .int .i64 k, .str s, .int .i64 n, .slice (Tm.avs l) .none] = bd (v, .mk k s n l) := rfl
@[simp] theorem known_bd (b : Bd) : known (bd b) = true := rfl
@[simp] theorem one_bd (b : Bd) : [bd b] = bds [b] := rfl
@[simp] theorem stripv_slice (es : List AV) (tk : Tok) : stripAgg (.slice es tk) = .slice es tk := rfl
theorem bds_app (l m : List Bd) : bds l ++ bds m = bds (l ++ m) := (List.map_append).symm
@[simp] theorem strip_bd (b : Bd) : stripCell (bd b) = bd b := by obtain ⟨n, t⟩ := b; cases t; rfl
theorem bds_strip (l : List Bd) : (bds l).map stripCell = bds l := by
  unfold bds; rw [List.map_map]; exact List.map_congr_left fun b _ => strip_bd b
theorem elemOk_bd (b : Bd) : elemOk 5 (bd b) = true := by obtain ⟨n, t⟩ := b; cases t; rfl
theorem bds_ok (l : List Bd) : (bds l).all (elemOk 5) = true := by
  rw [List.all_eq_true]; intro x hx; unfold bds at hx; rw [List.mem_map] at hx; obtain ⟨b, _, rfl⟩ := hx; exact elemOk_bd b
theorem head_bds (l : List Bd) : headOk 5 (bds l) = true := by
  cases l with
  | nil => rfl
  | cons b l => obtain ⟨n, t⟩ := b; cases t; rfl

/-- Appending a row. -/
theorem appN {H h : Heap} {n m sz bytes : Nat} {es xs : List AV} {tk : Tok} (hA : AppOk H m tk sz) (hO : Over m h H) (hl : Low h m) (hL : Low H n) (hn : m ≤ n) (hf : fits (es.length + xs.length) bytes = true) (hx : xs.all (elemOk sz) = true) (hs : xs.map stripCell = xs) (hh : headOk sz es = true) :
    ∃ tk' H' n', appSlice es tk sz bytes false xs ⟨H, n⟩ = some (.slice (es ++ xs) tk', ⟨H', n'⟩) ∧ AppOk H' m tk' sz ∧ Over m h H' ∧ Low H' n' ∧ n ≤ n' ∧ ∀ j c, hget H j = some (.cells c) → hget H' j = some (.cells c) := by
  cases xs with
  | nil =>
    refine ⟨tk, H, n, ?_, hA, hO, hL, Nat.le_refl _, fun _ _ h => h⟩
    unfold appSlice; simp at hf; simp [hf, hh]
  | cons x xs =>
    have e : appSlice es tk sz bytes false (x :: xs) ⟨H, n⟩ = grow es (x :: xs) tk sz ⟨H, n⟩ := by
      unfold appSlice; rw [hs]; rw [hf, hx, hh]; rfl
    rw [e]
    rcases hA with rfl | ⟨i, g, h1, rfl, h3⟩
    · refine ⟨.live n 0, (n, .tok 0 sz) :: H, n + 1, rfl, .inr ⟨n, 0, hn, rfl, hget_eq _ _ _⟩, hO.cons hn, hL.cons (Nat.lt_succ_self n), Nat.le_succ n, fun j c hj => ?_⟩
      have := hL.lt hj
      rw [hget_ne _ _ (by omega)]; exact hj
    · refine ⟨.live i (g + 1), hset H i (.tok (g + 1) sz), n, ?_, .inr ⟨i, g + 1, h1, rfl, by rw [hget_set, if_pos rfl, h3]; rfl⟩, hO.set hl h1, hL.set, Nat.le_refl n, fun j c hj => ?_⟩
      · unfold grow
        simp only [st_tokOf, h3, Option.bind_some, tok_tok, Nat.beq_refl, Bool.and_self, cond_true, st_set]
      · have : i ≠ j := fun hij => by subst hij; rw [h3] at hj; cases hj
        rw [hget_set, if_neg this]; exact hj

/-- Binds, and whether there are any. -/
def RetB (h : Heap) (m : Nat) (o : Option (List Bd)) : AV → St → Prop := fun v τ => (∃ tk, v = .tup [.slice (bds (o.getD [])) tk, .bool o.isSome]) ∧ τ.heap = h ∧ m ≤ τ.next
theorem CallK.retb {T : Tab} {ks : List K} {env : Env} {ds : List ADef} {Q : Ex → Env → List ADef → St → Prop} {n m : Nat} {as : List AV} {h : Heap} {d : Option Nat} {l : List AOper} {o : Option (List Bd)} (hs : Spec T (.fn n) as ⟨h, m⟩ (RetB h m o)) (k : ∀ tk m', m ≤ m' → Run T (.ops l :: ks) .normal (put env d (.tup [.slice (bds (o.getD [])) tk, .bool o.isSome])) ds ⟨h, m'⟩ Q) : CallK T n as ⟨h, m⟩ d l ks env ds Q :=
  ⟨_, hs, fun v' τ hv => by obtain ⟨⟨tk, rfl⟩, h1, h2⟩ := hv; obtain ⟨h', m'⟩ := τ; cases h1; exact k tk m' h2⟩
theorem CallD.retb {T : Tab} {ks : List K} {env : Env} {ds : List ADef} {Q : Ex → Env → List ADef → St → Prop} {n m : Nat} {args : List Opd} {as : List AV} {h : Heap} {d : Option Nat} {l : List AOper} {acc chk} {o : Option (List Bd)} (hs : Spec T (.fn n) as ⟨h, m⟩ (RetB h m o)) (k : ∀ tk m', m ≤ m' → Run T (.dops l (⟨⟨h, m⟩, some (.call (.f n) args, env), (match d with | some _ => (.tup [.slice (bds (o.getD [])) tk, .bool o.isSome]) | none => .undef)⟩ :: acc) chk :: ks) .normal (put env d (.tup [.slice (bds (o.getD [])) tk, .bool o.isSome])) ds ⟨h, m'⟩ Q) : CallD T n args as ⟨h, m⟩ d l acc chk ks env ds Q :=
  fun _ => ⟨_, hs, fun v' τ hv => by obtain ⟨⟨tk, rfl⟩, h1, h2⟩ := hv; obtain ⟨h', m'⟩ := τ; cases h1; exact k tk m' h2⟩

set_option maxHeartbeats 1000000 in
theorem coll_spec (hm : PrimMono T) (h112 : Has T 112 a112) (t : Tm) (hs : t.size ≤ 4000) : ∀ (u : Tm) (h : Heap) (m : Nat) (_hl : Low h m), Spec T (.fn 112) [t.av, u.av] ⟨h, m⟩ (RetB h m (t.coll u)) := by
  refine Tm.ind (M := fun t => t.size ≤ 4000 → ∀ (u : Tm) (h : Heap) (m : Nat) (hl : Low h m), Spec T (.fn 112) [t.av, u.av] ⟨h, m⟩ (RetB h m (t.coll u))) (fun k s n l ih hs u h m hl => ?_) t hs
  obtain ⟨k', s', n', l'⟩ := u
  refine spec_fn hm h112.prim h112.func rfl ?_
  rw [Tm.size] at hs
  have hlen := sizes_len l
  rw [Tm.coll]
  by_cases c0 : k = 1
  · subst c0
    simp (disch := omega) [a112, RetB, hl.gc]
    omega
  by_cases c1 : k = k'
  rotate_left
  · simp (disch := omega) [a112, c0, c1, RetB, hl.gc]; try omega
  subst c1
  by_cases c2 : n = n'
  rotate_left
  · simp (disch := omega) [a112, c0, c2, RetB, hl.gc]; try omega
  subst c2
  by_cases c3 : s = s'
  rotate_left
  · simp (disch := omega) [a112, c0, c3, RetB, hl.gc]; try omega
  subst c3
  by_cases c4 : l.length = l'.length
  rotate_left
  · have c4' : ¬ (l.length : Int) = l'.length := by omega
    simp (disch := omega) [a112, c0, c4, c4', RetB, hl.gc]; try omega
  simp (disch := omega) [a112, c0, c4]
  let I : Nat → Env → List ADef → St → Prop := fun q env ds σ => ds = [] ∧ ∃ (i : Nat) (m' : Nat) (H : Heap) (tk : Tok) (r : List Bd), i ≤ l.length ∧ q = l.length - i ∧ m + 1 < m' ∧
    σ = ⟨H, m'⟩ ∧ aget env 2 = .ptr m 0 ∧ aget env 3 = .ptr (m + 1) 0 ∧ aget env 6 = .slice (bds r) tk ∧ aget env 7 = .int .i64 i ∧
    Over m h H ∧ Low H m' ∧ hget H m = some (.cells [.int .i64 k, .str s, .int .i64 n, .slice (Tm.avs l) .none]) ∧ hget H (m + 1) = some (.cells [.int .i64 k, .str s, .int .i64 n, .slice (Tm.avs l') .none]) ∧ AppOk H m tk 5 ∧
    r.length + Tm.sizes (l.drop i) ≤ 4000 ∧ (match Tm.colls (l.drop i) (l'.drop i) with | some y => some (r ++ y) | none => none) = Tm.colls l l'
  refine run_loop hm I ?_ l.length ?_
  · rintro q env ds σ ⟨rfl, i, m', H, tk, r, hi, rfl, hmm, rfl, e2, e3, e6, e7, hO, hL, g0, g1, hA, hb, hf⟩
    by_cases d1 : i < l.length
    · have d1' : i < l'.length := by omega
      rw [List.drop_eq_getElem_cons d1, List.drop_eq_getElem_cons d1', colls_cons] at hf
      rw [sizes_get d1] at hb
      simp (disch := omega) [q_call hm, e2, e3, e7, d1, g0, g1]
      refine CallD.retb (ih _ (List.getElem_mem d1) (by omega) _ _ _ hL) (fun tk2 m2 hm2 => ?_)
      cases d2 : l[i].coll l'[i] with
      | some x =>
        have hx := coll_len _ _ _ d2
        rw [d2] at hf
        obtain ⟨tk3, H3, m3, s1, s2, s3, s4, s5, s6⟩ := appN (xs := bds x) (es := bds r) (bytes := 64) hA hO hl (hL.mono hm2) (by omega) (by unfold fits; simp; omega) (bds_ok _) (bds_strip _) (head_bds _)
        simp (disch := omega) [e6, e7, unV, s1]
        refine ⟨l.length - (i + 1), by omega, rfl, i + 1, m3, H3, tk3, r ++ x, by omega, rfl, by omega, rfl, by simp [e2], by simp [e3], by simp [← bds_app], by simp, s3, s4, s6 _ _ g0, s6 _ _ g1, s2, by simp; omega, ?_⟩
        rw [← hf]; dsimp only
        cases Tm.colls (l.drop (i + 1)) (l'.drop (i + 1)) <;> simp
      | none =>
        rw [d2] at hf
        simp (disch := omega) [unV, RetB, hO.gc hl, ← hf]
        omega
    · rw [List.drop_eq_nil_of_le (by omega), colls_nil] at hf
      have d1' : ¬ i < l'.length := by omega
      simp (disch := omega) [e2, e6, e7, d1', c4, RetB, hO.gc hl, ← hf, g0]
      omega
  · exact ⟨rfl, 0, m + 1 + 1, _, .full, [], by simp, by simp, by omega, rfl, by simp, by simp, by simp [bds], by simp, ((Over.refl m h).cons (Nat.le_refl m)).cons (by omega), (hl.cons (Nat.lt_succ_self m)).cons (Nat.lt_succ_self _), by simp (disch := omega), hget_eq _ _ _, .inl rfl, by simp; omega, by simp; cases Tm.colls l l' <;> rfl⟩
end Go.AM
namespace Go.AM
variable {T : Tab}

/-- One bind more. -/
def put1 (out : List Bd) (b : Bd) : Option (List Bd) :=
  if idx (out.map (·.1)) b.1 < 0 then some (out ++ [b]) else
  match out[(idx (out.map (·.1)) b.1).toNat]? with
  | some c => if c.2.beq b.2 then some out else none
  | none => none
def mrg : List Bd → List Bd → Option (List Bd)
  | out, [] => some out
  | out, b :: l => match put1 out b with
    | some o => mrg o l
    | none => none
def Tm.mtch (p t : Tm) : Option (List Bd) := match p.coll t with
  | some r => mrg [] r
  | none => none
theorem Wf.args {k : Int} {s : List UInt8} {n : Int} {l : List Tm} (h : (Tm.mk k s n l).Wf) : ∀ x ∈ l, x.Wf := by cases h; assumption
theorem colls_wf {l : List Tm} (ih : ∀ x ∈ l, ∀ t : Tm, t.Wf → ∀ r, Tm.coll x t = some r → ∀ b ∈ r, b.2.Wf) : ∀ l' : List Tm, (∀ x ∈ l', x.Wf) → ∀ r, Tm.colls l l' = some r → ∀ b ∈ r, b.2.Wf := by
  induction l with
  | nil => intro l' _ r h; rw [colls_nil] at h; cases h; intro b hb; cases hb
  | cons a l ihl =>
    intro l' hw r h
    cases l' with
    | nil => (rw [Tm.colls] at h; cases h; intro b hb; cases hb); intros; contradiction
    | cons b m =>
      rw [colls_cons] at h
      cases h1 : Tm.coll a b with
      | none => rw [h1] at h; cases h
      | some x =>
        rw [h1] at h; dsimp only at h
        cases h2 : Tm.colls l m with
        | none => rw [h2] at h; cases h
        | some y =>
          rw [h2] at h; cases h
          intro c hc
          rcases List.mem_append.mp hc with hc | hc
          · exact ih a (by simp) b (hw b (by simp)) x h1 c hc
          · exact ihl (fun x hx => ih x (by simp [hx])) m (fun x hx => hw x (by simp [hx])) y h2 c hc
theorem coll_wf (p : Tm) : ∀ t : Tm, t.Wf → ∀ r, Tm.coll p t = some r → ∀ b ∈ r, b.2.Wf := by
  refine Tm.ind (M := fun p => ∀ t : Tm, t.Wf → ∀ r, Tm.coll p t = some r → ∀ b ∈ r, b.2.Wf) (fun k s n l ih t ht r h => ?_) p
  obtain ⟨k', s', n', l'⟩ := t
  rw [Tm.coll] at h
  split at h
  · cases h; intro b hb; simp at hb; subst hb; exact ht
  · split at h
    · exact colls_wf ih l' (Wf.args ht) r h
    · cases h
@[simp] theorem fold_bd2 (b : Bd) : AV.agg (.int .i64 b.1 :: b.2.av.cells) = bd b := rfl

set_option maxHeartbeats 1000000 in
theorem mtch_spec (hm : PrimMono T) (h69 : Has T 69 a69) (h112 : Has T 112 a112) (h58 : Has T 58 a58) (h31 : Has T 31 a31) (p t : Tm) (hs : p.size ≤ 4000) (wf : t.Wf) (h : Heap) (m : Nat) (hl : Low h m) : Spec T (.fn 69) [p.av, t.av] ⟨h, m⟩ (RetB h m (p.mtch t)) := by
  refine spec_fn hm h69.prim h69.func rfl ?_
  have hL : Low ((m + 1, .cells t.av.cells) :: (m, .cells p.av.cells) :: h) (m + 1 + 1) := (hl.cons (Nat.lt_succ_self m)).cons (Nat.lt_succ_self _)
  have hO : Over m h ((m + 1, .cells t.av.cells) :: (m, .cells p.av.cells) :: h) := ((Over.refl m h).cons (Nat.le_refl m)).cons (by omega)
  simp (disch := omega) [a69, r_call hm]
  refine CallK.retb (coll_spec hm h112 p hs t _ _ hL) (fun tk1 m1 hm1 => ?_)
  have hlen := coll_len p t
  have hwf := coll_wf p t wf
  unfold Tm.mtch
  cases hc : p.coll t with
  | none =>
    simp (disch := omega) [unV, RetB, hl.gc]
    omega
  | some all =>
    have hlen := hlen all hc
    have hwf := hwf all hc
    simp (disch := omega) [unV]
    let I : Nat → Env → List ADef → St → Prop := fun q env ds σ => ds = [] ∧ ∃ (i : Nat) (m' : Nat) (H : Heap) (tk : Tok) (r : List Bd), i ≤ all.length ∧ q = all.length - i ∧ m + 1 < m' ∧
      σ = ⟨H, m'⟩ ∧ aget env 6 = .slice (bds all) tk1 ∧ aget env 8 = .slice (bds r) tk ∧ aget env 9 = .int .i64 i ∧
      Over m h H ∧ Low H m' ∧ AppOk H m tk 5 ∧ r.length ≤ i ∧ (∀ b ∈ r, b.2.Wf) ∧ mrg r (all.drop i) = mrg [] all
    refine run_loop hm I ?_ all.length ?_
    · clear hO hL
      rintro q env ds σ ⟨rfl, i, m', H, tk, r, hi, rfl, hmm, rfl, e6, e8, e9, hO, hL, hA, hr, hrw, hf⟩
      by_cases d1 : i < all.length
      · rw [List.drop_eq_getElem_cons d1, mrg, put1] at hf
        simp (disch := omega) [r_call hm, e6, e8, e9, d1]
        refine CallK.ret (place_spec hm h58 r (by omega) _ _ _ _ hL) (fun m2 hm2 => ?_)
        have hi1 := idx_range (r.map (·.1)) all[i].1
        by_cases d2 : idx (r.map (·.1)) all[i].1 < 0
        · rw [if_pos d2] at hf
          obtain ⟨tk3, H3, m3, s1, s2, s3, s4, s5, s6⟩ := app1 (x := bd all[i]) (es := bds r) (bytes := 64) hA hO hl (hL.mono hm2) (by omega) (by unfold fits; simp; omega) (elemOk_bd _) (head_bds _)
          simp only [strip_bd, one_bd] at s1
          simp (disch := omega) [e6, e8, e9, d2, s1]
          exact ⟨all.length - (i + 1), by omega, rfl, i + 1, m3, H3, tk3, r ++ [all[i]], by omega, rfl, by omega, rfl, by simp [e6], by simp [← bds_app], by simp, s3, s4, s2, by simp; omega, fun b hb => by
            rcases List.mem_append.mp hb with hb | hb
            · exact hrw b hb
            · simp at hb; subst hb; exact hwf _ (List.getElem_mem d1), hf⟩
        · rw [if_neg d2] at hf
          obtain ⟨j, hj⟩ := Int.eq_ofNat_of_zero_le (show 0 ≤ idx (r.map (·.1)) all[i].1 by omega)
          have hj2 : j < r.length := by simp at hi1; omega
          rw [hj, Int.toNat_natCast, List.getElem?_eq_getElem hj2] at hf
          have hj0 : ¬ (j : Int) < 0 := by omega
          rw [hj]
          simp (disch := omega) [q_call hm, e6, e8, e9, hj0]
          refine CallD.ret (same_spec hm h31 _ (hrw _ (List.getElem_mem hj2)) _ _ _ (hL.mono hm2)) (fun m3 hm3 => ?_)
          cases d3 : r[j].2.beq all[i].2 with
          | true =>
            simp only [d3, if_true] at hf
            simp (disch := omega) [e8, e9, unV]
            exact ⟨all.length - (i + 1), by omega, rfl, i + 1, m3, H, tk, r, by omega, rfl, by omega, rfl, by simp [e6], by simp [e8], by simp, hO, hL.mono (by omega), hA, by omega, hrw, hf⟩
          | false =>
            simp [d3] at hf
            simp (disch := omega) [unV, RetB, hO.gc hl, ← hf]
            omega
      · rw [List.drop_eq_nil_of_le (by omega), mrg] at hf
        simp (disch := omega) [e6, e8, e9, d1, RetB, hO.gc hl, ← hf]
        omega
    · exact ⟨rfl, 0, m1, _, .full, [], by simp, by simp, by omega, rfl, by simp, by simp, by simp, hO, hL.mono hm1, .inl rfl, by simp, fun b hb => by (cases hb), by simp⟩
end Go.AM
namespace Go.AM
variable {T : Tab}
open Classical

/-- The first place where something holds; below 0: nowhere. -/
noncomputable def firstI (P : Tm → Prop) : List Tm → Int
  | [] => -1
  | x :: l => if P x then 0 else if firstI P l < 0 then -1 else firstI P l + 1
theorem firstI_range (P : Tm → Prop) (l : List Tm) : -1 ≤ firstI P l ∧ firstI P l < l.length := by
  induction l with
  | nil => simp [firstI]
  | cons x l ih => rw [firstI, List.length_cons]; split <;> (try split) <;> omega
theorem firstI_congr {P Q : Tm → Prop} {l : List Tm} (h : ∀ x ∈ l, (P x ↔ Q x)) : firstI P l = firstI Q l := by
  induction l with
  | nil => rfl
  | cons x l ih =>
    rw [firstI, firstI, ih (fun x hx => h x (by simp [hx]))]
    simp only [h x (by simp)]
def covers (t p : Tm) : Prop := (p.mtch t).isSome = true ∧ p.right ∧ t.right

set_option maxHeartbeats 1000000 in
theorem cover_spec (hm : PrimMono T) (h29 : Has T 29 a29) (h69 : Has T 69 a69) (h112 : Has T 112 a112) (h58 : Has T 58 a58) (h31 : Has T 31 a31) (h30 : Has T 30 a30) (h70 : Has T 70 a70) (h71 : Has T 71 a71) (h72 : Has T 72 a72)
    (l : List Tm) (hs : Tm.sizes l ≤ 4000) (wfl : ∀ x ∈ l, x.Wf) (t : Tm) (hst : t.size ≤ 4000) (wf : t.Wf) (tk : Tok) (h : Heap) (m : Nat) (hl : Low h m) : Spec T (.fn 29) [.slice (Tm.avs l) tk, t.av] ⟨h, m⟩ (Ret h m (.int .i64 (firstI (covers t) l))) := by
  refine spec_fn hm h29.prim h29.func rfl ?_
  have hlen := sizes_len l
  have hl1 : ∀ m', m < m' → Low ((m, .cells t.av.cells) :: h) m' := fun m' hm' => hl.cons hm'
  simp (disch := omega) [a29]
  let I : Nat → Env → List ADef → St → Prop := fun q env ds σ => ds = [] ∧ ∃ (i : Nat) (m' : Nat), i ≤ l.length ∧ q = l.length - i ∧ m < m' ∧
    σ = ⟨(m, .cells t.av.cells) :: h, m'⟩ ∧ aget env 0 = .slice (Tm.avs l) tk ∧ aget env 3 = .ptr m 0 ∧ aget env 5 = .int .i64 i ∧
    (if firstI (covers t) (l.drop i) < 0 then -1 else firstI (covers t) (l.drop i) + i) = firstI (covers t) l
  refine run_loop hm I ?_ l.length ?_
  · rintro q env ds σ ⟨rfl, i, m', hi, rfl, hmm, rfl, e0, e3, e5, hf⟩
    by_cases d1 : i < l.length
    · have hle := sizes_mem (List.getElem_mem d1)
      have w := wfl _ (List.getElem_mem d1)
      have next : ¬ covers t l[i] → (if firstI (covers t) (l.drop (i + 1)) < 0 then -1 else firstI (covers t) (l.drop (i + 1)) + ((i + 1 : Nat) : Int)) = firstI (covers t) l := fun hn => by
        rw [List.drop_eq_getElem_cons d1, firstI, if_neg hn] at hf
        rw [← hf]; push_cast; split <;> split <;> omega
      simp (disch := omega) [q_call hm, e0, e3, e5, d1]
      refine CallD.retb (mtch_spec hm h69 h112 h58 h31 l[i] t (by omega) wf _ _ (hl1 _ hmm)) (fun tk1 m1 hm1 => ?_)
      by_cases b1 : (l[i].mtch t).isSome = true
      rotate_left
      · have b1' : (l[i].mtch t).isSome = false := by simpa using b1
        simp (disch := omega) [e5, b1']
        exact ⟨l.length - (i + 1), by omega, rfl, i + 1, m1, by omega, rfl, by omega, rfl, by simp [e0], by simp [e3], by simp, next (fun hc => b1 hc.1)⟩
      simp (disch := omega) [r_call hm, e0, e5, b1]
      refine CallK.ret (right_spec hm h30 h70 h71 h72 l[i] w (by omega) _ _ (hl1 _ (by omega))) (fun m2 hm2 => ?_)
      by_cases b2 : l[i].right
      rotate_left
      · simp (disch := omega) [e5, b2]
        exact ⟨l.length - (i + 1), by omega, rfl, i + 1, m2, by omega, rfl, by omega, rfl, by simp [e0], by simp [e3], by simp, next (fun hc => b2 hc.2.1)⟩
      simp (disch := omega) [r_call hm, e3, b2]
      refine CallK.ret (right_spec hm h30 h70 h71 h72 t wf hst _ _ (hl1 _ (by omega))) (fun m3 hm3 => ?_)
      by_cases b3 : t.right
      rotate_left
      · simp (disch := omega) [e5, b3]
        exact ⟨l.length - (i + 1), by omega, rfl, i + 1, m3, by omega, rfl, by omega, rfl, by simp [e0], by simp [e3], by simp, next (fun hc => b3 hc.2.2)⟩
      have hf' : firstI (covers t) l = i := by
        rw [List.drop_eq_getElem_cons d1, firstI, if_pos (show covers t l[i] from ⟨b1, b2, b3⟩), if_neg (by omega)] at hf; omega
      simp (disch := omega) [e5, b3, Ret, hl.gc, hf']
      omega
    · rw [List.drop_eq_nil_of_le (by omega)] at hf
      have hf' : firstI (covers t) l = -1 := by rw [← hf]; simp [firstI]
      simp (disch := omega) [e0, e5, d1, Ret, hl.gc, hf']
      omega
  · exact ⟨rfl, 0, m + 1, by simp, by simp, by omega, rfl, by simp, by simp, by simp, by simp; have := firstI_range (covers t) l; omega⟩
end Go.AM
