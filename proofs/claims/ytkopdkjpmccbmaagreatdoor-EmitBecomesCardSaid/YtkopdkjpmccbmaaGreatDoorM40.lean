/- A part of the proof of: EmitBecomes: what a term becomes by patterns, and a pattern's name, is what the document says, or the error is told. -/
import Derived.Test.YtkopdkjpmccbmaaGreatDoorM39
import Derived.Test.YtkopdkjpmccbmaaGreatDoorM36
namespace Go.AM
variable {T : Tab}

@[simp] theorem bds_nil : bds [] = [] := rfl
mutual
/-- What stands in a term where a pattern has variables. -/
def Tm.coll : Tm → Tm → Option (List Bd)
  | .mk k s n l, .mk k' s' n' l' => if k = 1 then some [(n, .mk k' s' n' l')] else if k = k' ∧ n = n' ∧ s = s' ∧ l.length = l'.length then Tm.colls l l' else none
def Tm.colls : List Tm → List Tm → Option (List Bd)
  | a :: l, b :: m => match Tm.coll a b with
    | some x => (match Tm.colls l m with | some y => some (x ++ y) | none => none)
    | none => none
  | _, _ => some []
end
theorem colls_cons (a b : Tm) (l m : List Tm) : Tm.colls (a :: l) (b :: m) = match Tm.coll a b with
    | some x => (match Tm.colls l m with | some y => some (x ++ y) | none => none)
    | none => none := by rw [Tm.colls]
theorem colls_nil (m : List Tm) : Tm.colls [] m = some [] := by cases m <;> (rw [Tm.colls]; intros; contradiction)
theorem coll_len (p : Tm) : ∀ t r, Tm.coll p t = some r → r.length ≤ p.size := by
  refine Tm.ind (M := fun p => ∀ t r, Tm.coll p t = some r → r.length ≤ p.size) (fun k s n l ih t r h => ?_) p
  obtain ⟨k', s', n', l'⟩ := t
  rw [Tm.coll] at h
  rw [Tm.size]
  split at h
  · cases h; simp
  · split at h
    · have : ∀ (l : List Tm), (∀ x ∈ l, ∀ t r, Tm.coll x t = some r → r.length ≤ x.size) → ∀ l' r, Tm.colls l l' = some r → r.length ≤ Tm.sizes l := by
        intro l
        induction l with
        | nil => intro _ l' r h; rw [colls_nil] at h; cases h; exact Nat.zero_le _
        | cons a l ihl =>
          intro ih l' r h
          cases l' with
          | nil => (rw [Tm.colls] at h; cases h; exact Nat.zero_le _); intros; contradiction
          | cons b m =>
            rw [colls_cons] at h
            rw [Tm.sizes]
            cases h1 : Tm.coll a b with
            | none => rw [h1] at h; cases h
            | some x =>
              rw [h1] at h; dsimp only at h
              cases h2 : Tm.colls l m with
              | none => rw [h2] at h; cases h
              | some y =>
                rw [h2] at h; cases h
                have := ih a (by simp) b x h1
                have := ihl (fun x hx => ih x (by simp [hx])) m y h2
                rw [List.length_append]; omega
      have := this l ih l' r h; omega
    · cases h

@[simp] theorem splice_5_0 (a b c d e v : AV) : splice [a, b, c, d, e] 0 [v] = some [v, b, c, d, e] := rfl
@[simp] theorem splice_5_14 (a b c d e w x y z : AV) : splice [a, b, c, d, e] 1 [w, x, y, z] = some [a, w, x, y, z] := rfl
@[simp] theorem fold_bd (v k : Int) (s : List UInt8) (n : Int) (l : List Tm) : AV.agg [.int .i64 v, .int .i64 k, .str s, .int .i64 n, .slice (Tm.avs l) .none] = bd (v, .mk k s n l) := rfl
@[simp] theorem known_bd (b : Bd) : known (bd b) = true := rfl
@[simp] theorem one_bd (b : Bd) : [bd b] = bds [b] := rfl
@[simp] theorem stripv_slice (es : List AV) (tk : Tok) : stripAgg (.slice es tk) = .slice es tk := rfl
theorem bds_app (l m : List Bd) : bds l ++ bds m = bds (l ++ m) := (List.map_append).symm
@[simp] theorem strip_bd (b : Bd) : stripCell (bd b) = bd b := by obtain ⟨n, t⟩ := b; cases t; rfl
theorem bds_strip (l : List Bd) : (bds l).map stripCell = bds l := by
  unfold bds; rw [List.map_map]; exact List.map_congr_left fun b _ => strip_bd b
theorem elemOk_bd (b : Bd) : elemOk 5 (bd b) = true := by obtain ⟨n, t⟩ := b; cases t; rfl
theorem bds_ok (l : List Bd) : (bds l).all (elemOk 5) = true := by
  rw [List.all_eq_true]; intro x hx; unfold bds at hx; rw [List.mem_map] at hx; obtain ⟨b, _, rfl⟩ := hx; exact elemOk_bd b
theorem head_bds (l : List Bd) : headOk 5 (bds l) = true := by
  cases l with
  | nil => rfl
  | cons b l => obtain ⟨n, t⟩ := b; cases t; rfl

/-- Appending a row. -/
theorem appN {H h : Heap} {n m sz bytes : Nat} {es xs : List AV} {tk : Tok} (hA : AppOk H m tk sz) (hO : Over m h H) (hl : Low h m) (hL : Low H n) (hn : m ≤ n) (hf : fits (es.length + xs.length) bytes = true) (hx : xs.all (elemOk sz) = true) (hs : xs.map stripCell = xs) (hh : headOk sz es = true) :
    ∃ tk' H' n', appSlice es tk sz bytes false xs ⟨H, n⟩ = some (.slice (es ++ xs) tk', ⟨H', n'⟩) ∧ AppOk H' m tk' sz ∧ Over m h H' ∧ Low H' n' ∧ n ≤ n' ∧ ∀ j c, hget H j = some (.cells c) → hget H' j = some (.cells c) := by
  cases xs with
  | nil =>
    refine ⟨tk, H, n, ?_, hA, hO, hL, Nat.le_refl _, fun _ _ h => h⟩
    unfold appSlice; simp at hf; simp [hf, hh]
  | cons x xs =>
    have e : appSlice es tk sz bytes false (x :: xs) ⟨H, n⟩ = grow es (x :: xs) tk sz ⟨H, n⟩ := by
      unfold appSlice; rw [hs]; rw [hf, hx, hh]; rfl
    rw [e]
    rcases hA with rfl | ⟨i, g, h1, rfl, h3⟩
    · refine ⟨.live n 0, (n, .tok 0 sz) :: H, n + 1, rfl, .inr ⟨n, 0, hn, rfl, hget_eq _ _ _⟩, hO.cons hn, hL.cons (Nat.lt_succ_self n), Nat.le_succ n, fun j c hj => ?_⟩
      have := hL.lt hj
      rw [hget_ne _ _ (by omega)]; exact hj
    · refine ⟨.live i (g + 1), hset H i (.tok (g + 1) sz), n, ?_, .inr ⟨i, g + 1, h1, rfl, by rw [hget_set, if_pos rfl, h3]; rfl⟩, hO.set hl h1, hL.set, Nat.le_refl n, fun j c hj => ?_⟩
      · unfold grow
        simp only [st_tokOf, h3, Option.bind_some, tok_tok, Nat.beq_refl, Bool.and_self, cond_true, st_set]
      · have : i ≠ j := fun hij => by subst hij; rw [h3] at hj; cases hj
        rw [hget_set, if_neg this]; exact hj

/-- Binds, and whether there are any. -/
def RetB (h : Heap) (m : Nat) (o : Option (List Bd)) : AV → St → Prop := fun v τ => (∃ tk, v = .tup [.slice (bds (o.getD [])) tk, .bool o.isSome]) ∧ τ.heap = h ∧ m ≤ τ.next
theorem CallK.retb {T : Tab} {ks : List K} {env : Env} {ds : List ADef} {Q : Ex → Env → List ADef → St → Prop} {n m : Nat} {as : List AV} {h : Heap} {d : Option Nat} {l : List AOper} {o : Option (List Bd)} (hs : Spec T (.fn n) as ⟨h, m⟩ (RetB h m o)) (k : ∀ tk m', m ≤ m' → Run T (.ops l :: ks) .normal (put env d (.tup [.slice (bds (o.getD [])) tk, .bool o.isSome])) ds ⟨h, m'⟩ Q) : CallK T n as ⟨h, m⟩ d l ks env ds Q :=
  ⟨_, hs, fun v' τ hv => by obtain ⟨⟨tk, rfl⟩, h1, h2⟩ := hv; obtain ⟨h', m'⟩ := τ; cases h1; exact k tk m' h2⟩
theorem CallD.retb {T : Tab} {ks : List K} {env : Env} {ds : List ADef} {Q : Ex → Env → List ADef → St → Prop} {n m : Nat} {args : List Opd} {as : List AV} {h : Heap} {d : Option Nat} {l : List AOper} {acc chk} {o : Option (List Bd)} (hs : Spec T (.fn n) as ⟨h, m⟩ (RetB h m o)) (k : ∀ tk m', m ≤ m' → Run T (.dops l (⟨⟨h, m⟩, some (.call (.f n) args, env), (match d with | some _ => (.tup [.slice (bds (o.getD [])) tk, .bool o.isSome]) | none => .undef)⟩ :: acc) chk :: ks) .normal (put env d (.tup [.slice (bds (o.getD [])) tk, .bool o.isSome])) ds ⟨h, m'⟩ Q) : CallD T n args as ⟨h, m⟩ d l acc chk ks env ds Q :=
  fun _ => ⟨_, hs, fun v' τ hv => by obtain ⟨⟨tk, rfl⟩, h1, h2⟩ := hv; obtain ⟨h', m'⟩ := τ; cases h1; exact k tk m' h2⟩

set_option maxHeartbeats 1000000 in
theorem coll_spec (hm : PrimMono T) (h112 : Has T 96 a96) (t : Tm) (hs : t.size ≤ 4000) : ∀ (u : Tm) (h : Heap) (m : Nat) (_hl : Low h m), Spec T (.fn 96) [t.av, u.av] ⟨h, m⟩ (RetB h m (t.coll u)) := by
  refine Tm.ind (M := fun t => t.size ≤ 4000 → ∀ (u : Tm) (h : Heap) (m : Nat) (hl : Low h m), Spec T (.fn 96) [t.av, u.av] ⟨h, m⟩ (RetB h m (t.coll u))) (fun k s n l ih hs u h m hl => ?_) t hs
  obtain ⟨k', s', n', l'⟩ := u
  refine spec_fn hm h112.prim h112.func rfl ?_
  rw [Tm.size] at hs
  have hlen := sizes_len l
  rw [Tm.coll]
  by_cases c0 : k = 1
  · subst c0
    simp (disch := omega) [a96, RetB, hl.gc]
    omega
  by_cases c1 : k = k'
  rotate_left
  · simp (disch := omega) [a96, c0, c1, RetB, hl.gc]; try omega
  subst c1
  by_cases c2 : n = n'
  rotate_left
  · simp (disch := omega) [a96, c0, c2, RetB, hl.gc]; try omega
  subst c2
  by_cases c3 : s = s'
  rotate_left
  · simp (disch := omega) [a96, c0, c3, RetB, hl.gc]; try omega
  subst c3
  by_cases c4 : l.length = l'.length
  rotate_left
  · have c4' : ¬ (l.length : Int) = l'.length := by omega
    simp (disch := omega) [a96, c0, c4, c4', RetB, hl.gc]; try omega
  simp (disch := omega) [a96, c0, c4]
  let I : Nat → Env → List ADef → St → Prop := fun q env ds σ => ds = [] ∧ ∃ (i : Nat) (m' : Nat) (H : Heap) (tk : Tok) (r : List Bd), i ≤ l.length ∧ q = l.length - i ∧ m + 1 < m' ∧
    σ = ⟨H, m'⟩ ∧ aget env 2 = .ptr m 0 ∧ aget env 3 = .ptr (m + 1) 0 ∧ aget env 6 = .slice (bds r) tk ∧ aget env 7 = .int .i64 i ∧
    Over m h H ∧ Low H m' ∧ hget H m = some (.cells [.int .i64 k, .str s, .int .i64 n, .slice (Tm.avs l) .none]) ∧ hget H (m + 1) = some (.cells [.int .i64 k, .str s, .int .i64 n, .slice (Tm.avs l') .none]) ∧ AppOk H m tk 5 ∧
    r.length + Tm.sizes (l.drop i) ≤ 4000 ∧ (match Tm.colls (l.drop i) (l'.drop i) with | some y => some (r ++ y) | none => none) = Tm.colls l l'
  refine run_loop hm I ?_ l.length ?_
  · rintro q env ds σ ⟨rfl, i, m', H, tk, r, hi, rfl, hmm, rfl, e2, e3, e6, e7, hO, hL, g0, g1, hA, hb, hf⟩
    by_cases d1 : i < l.length
    · have d1' : i < l'.length := by omega
      rw [List.drop_eq_getElem_cons d1, List.drop_eq_getElem_cons d1', colls_cons] at hf
      rw [sizes_get d1] at hb
      simp (disch := omega) [q_call hm, e2, e3, e7, d1, g0, g1]
      refine CallD.retb (ih _ (List.getElem_mem d1) (by omega) _ _ _ hL) (fun tk2 m2 hm2 => ?_)
      cases d2 : l[i].coll l'[i] with
      | some x =>
        have hx := coll_len _ _ _ d2
        rw [d2] at hf
        obtain ⟨tk3, H3, m3, s1, s2, s3, s4, s5, s6⟩ := appN (xs := bds x) (es := bds r) (bytes := 64) hA hO hl (hL.mono hm2) (by omega) (by unfold fits; simp; omega) (bds_ok _) (bds_strip _) (head_bds _)
        simp (disch := omega) [e6, e7, unV, s1]
        refine ⟨l.length - (i + 1), by omega, rfl, i + 1, m3, H3, tk3, r ++ x, by omega, rfl, by omega, rfl, by simp [e2], by simp [e3], by simp [← bds_app], by simp, s3, s4, s6 _ _ g0, s6 _ _ g1, s2, by simp; omega, ?_⟩
        rw [← hf]; dsimp only
        cases Tm.colls (l.drop (i + 1)) (l'.drop (i + 1)) <;> simp
      | none =>
        rw [d2] at hf
        simp (disch := omega) [unV, RetB, hO.gc hl, ← hf]
        omega
    · rw [List.drop_eq_nil_of_le (by omega), colls_nil] at hf
      have d1' : ¬ i < l'.length := by omega
      simp (disch := omega) [e2, e6, e7, d1', c4, RetB, hO.gc hl, ← hf, g0]
      omega
  · exact ⟨rfl, 0, m + 1 + 1, _, .full, [], by simp, by simp, by omega, rfl, by simp, by simp, by simp [bds], by simp, ((Over.refl m h).cons (Nat.le_refl m)).cons (by omega), (hl.cons (Nat.lt_succ_self m)).cons (Nat.lt_succ_self _), by simp (disch := omega), hget_eq _ _ _, .inl rfl, by simp; omega, by simp; cases Tm.colls l l' <;> rfl⟩
end Go.AM
namespace Go.AM
variable {T : Tab}

/-- One bind more. -/
def put1 (out : List Bd) (b : Bd) : Option (List Bd) :=
  if idx (out.map (·.1)) b.1 < 0 then some (out ++ [b]) else
  match out[(idx (out.map (·.1)) b.1).toNat]? with
  | some c => if c.2.beq b.2 then some out else none
  | none => none
def mrg : List Bd → List Bd → Option (List Bd)
  | out, [] => some out
  | out, b :: l => match put1 out b with
    | some o => mrg o l
    | none => none
def Tm.mtch (p t : Tm) : Option (List Bd) := match p.coll t with
  | some r => mrg [] r
  | none => none
theorem Wf.args {k : Int} {s : List UInt8} {n : Int} {l : List Tm} (h : (Tm.mk k s n l).Wf) : ∀ x ∈ l, x.Wf := by cases h; assumption
theorem colls_wf {l : List Tm} (ih : ∀ x ∈ l, ∀ t : Tm, t.Wf → ∀ r, Tm.coll x t = some r → ∀ b ∈ r, b.2.Wf) : ∀ l' : List Tm, (∀ x ∈ l', x.Wf) → ∀ r, Tm.colls l l' = some r → ∀ b ∈ r, b.2.Wf := by
  induction l with
  | nil => intro l' _ r h; rw [colls_nil] at h; cases h; intro b hb; cases hb
  | cons a l ihl =>
    intro l' hw r h
    cases l' with
    | nil => (rw [Tm.colls] at h; cases h; intro b hb; cases hb); intros; contradiction
    | cons b m =>
      rw [colls_cons] at h
      cases h1 : Tm.coll a b with
      | none => rw [h1] at h; cases h
      | some x =>
        rw [h1] at h; dsimp only at h
        cases h2 : Tm.colls l m with
        | none => rw [h2] at h; cases h
        | some y =>
          rw [h2] at h; cases h
          intro c hc
          rcases List.mem_append.mp hc with hc | hc
          · exact ih a (by simp) b (hw b (by simp)) x h1 c hc
          · exact ihl (fun x hx => ih x (by simp [hx])) m (fun x hx => hw x (by simp [hx])) y h2 c hc
theorem coll_wf (p : Tm) : ∀ t : Tm, t.Wf → ∀ r, Tm.coll p t = some r → ∀ b ∈ r, b.2.Wf := by
  refine Tm.ind (M := fun p => ∀ t : Tm, t.Wf → ∀ r, Tm.coll p t = some r → ∀ b ∈ r, b.2.Wf) (fun k s n l ih t ht r h => ?_) p
  obtain ⟨k', s', n', l'⟩ := t
  rw [Tm.coll] at h
  split at h
  · cases h; intro b hb; simp at hb; subst hb; exact ht
  · split at h
    · exact colls_wf ih l' (Wf.args ht) r h
    · cases h
@[simp] theorem fold_bd2 (b : Bd) : AV.agg (.int .i64 b.1 :: b.2.av.cells) = bd b := rfl

set_option maxHeartbeats 1000000 in
theorem mtch_spec (hm : PrimMono T) (h69 : Has T 55 a55) (h112 : Has T 96 a96) (h58 : Has T 97 a97) (h31 : Has T 12 a12) (p t : Tm) (hs : p.size ≤ 4000) (wf : t.Wf) (h : Heap) (m : Nat) (hl : Low h m) : Spec T (.fn 55) [p.av, t.av] ⟨h, m⟩ (RetB h m (p.mtch t)) := by
  refine spec_fn hm h69.prim h69.func rfl ?_
  have hL : Low ((m + 1, .cells t.av.cells) :: (m, .cells p.av.cells) :: h) (m + 1 + 1) := (hl.cons (Nat.lt_succ_self m)).cons (Nat.lt_succ_self _)
  have hO : Over m h ((m + 1, .cells t.av.cells) :: (m, .cells p.av.cells) :: h) := ((Over.refl m h).cons (Nat.le_refl m)).cons (by omega)
  simp (disch := omega) [a55, r_call hm]
  refine CallK.retb (coll_spec hm h112 p hs t _ _ hL) (fun tk1 m1 hm1 => ?_)
  have hlen := coll_len p t
  have hwf := coll_wf p t wf
  unfold Tm.mtch
  cases hc : p.coll t with
  | none =>
    simp (disch := omega) [unV, RetB, hl.gc]
    omega
  | some all =>
    have hlen := hlen all hc
    have hwf := hwf all hc
    simp (disch := omega) [unV]
    let I : Nat → Env → List ADef → St → Prop := fun q env ds σ => ds = [] ∧ ∃ (i : Nat) (m' : Nat) (H : Heap) (tk : Tok) (r : List Bd), i ≤ all.length ∧ q = all.length - i ∧ m + 1 < m' ∧
      σ = ⟨H, m'⟩ ∧ aget env 6 = .slice (bds all) tk1 ∧ aget env 8 = .slice (bds r) tk ∧ aget env 9 = .int .i64 i ∧
      Over m h H ∧ Low H m' ∧ AppOk H m tk 5 ∧ r.length ≤ i ∧ (∀ b ∈ r, b.2.Wf) ∧ mrg r (all.drop i) = mrg [] all
    refine run_loop hm I ?_ all.length ?_
    · clear hO hL
      rintro q env ds σ ⟨rfl, i, m', H, tk, r, hi, rfl, hmm, rfl, e6, e8, e9, hO, hL, hA, hr, hrw, hf⟩
      by_cases d1 : i < all.length
      · rw [List.drop_eq_getElem_cons d1, mrg, put1] at hf
        simp (disch := omega) [r_call hm, e6, e8, e9, d1]
        refine CallK.ret (place_spec hm h58 r (by omega) _ _ _ _ hL) (fun m2 hm2 => ?_)
        have hi1 := idx_range (r.map (·.1)) all[i].1
        by_cases d2 : idx (r.map (·.1)) all[i].1 < 0
        · rw [if_pos d2] at hf
          obtain ⟨tk3, H3, m3, s1, s2, s3, s4, s5, s6⟩ := app1 (x := bd all[i]) (es := bds r) (bytes := 64) hA hO hl (hL.mono hm2) (by omega) (by unfold fits; simp; omega) (elemOk_bd _) (head_bds _)
          simp only [strip_bd, one_bd] at s1
          simp (disch := omega) [e6, e8, e9, d2, s1]
          exact ⟨all.length - (i + 1), by omega, rfl, i + 1, m3, H3, tk3, r ++ [all[i]], by omega, rfl, by omega, rfl, by simp [e6], by simp [← bds_app], by simp, s3, s4, s2, by simp; omega, fun b hb => by
            rcases List.mem_append.mp hb with hb | hb
            · exact hrw b hb
            · simp at hb; subst hb; exact hwf _ (List.getElem_mem d1), hf⟩
        · rw [if_neg d2] at hf
          obtain ⟨j, hj⟩ := Int.eq_ofNat_of_zero_le (show 0 ≤ idx (r.map (·.1)) all[i].1 by omega)
          have hj2 : j < r.length := by simp at hi1; omega
          rw [hj, Int.toNat_natCast, List.getElem?_eq_getElem hj2] at hf
          have hj0 : ¬ (j : Int) < 0 := by omega
          rw [hj]
          simp (disch := omega) [q_call hm, e6, e8, e9, hj0]
          refine CallD.ret (same_spec hm h31 _ (hrw _ (List.getElem_mem hj2)) _ _ _ (hL.mono hm2)) (fun m3 hm3 => ?_)
          cases d3 : r[j].2.beq all[i].2 with
          | true =>
            simp only [d3, if_true] at hf
            simp (disch := omega) [e8, e9, unV]
            exact ⟨all.length - (i + 1), by omega, rfl, i + 1, m3, H, tk, r, by omega, rfl, by omega, rfl, by simp [e6], by simp [e8], by simp, hO, hL.mono (by omega), hA, by omega, hrw, hf⟩
          | false =>
            simp [d3] at hf
            simp (disch := omega) [unV, RetB, hO.gc hl, ← hf]
            omega
      · rw [List.drop_eq_nil_of_le (by omega), mrg] at hf
        simp (disch := omega) [e6, e8, e9, d1, RetB, hO.gc hl, ← hf]
        omega
    · exact ⟨rfl, 0, m1, _, .full, [], by simp, by simp, by omega, rfl, by simp, by simp, by simp, hO, hL.mono hm1, .inl rfl, by simp, fun b hb => by (cases hb), by simp⟩
end Go.AM
namespace Go.AM
variable {T : Tab}
open Classical

/-- The first place where something holds; below 0: nowhere. -/
noncomputable def firstI (P : Tm → Prop) : List Tm → Int
  | [] => -1
  | x :: l => if P x then 0 else if firstI P l < 0 then -1 else firstI P l + 1
theorem firstI_range (P : Tm → Prop) (l : List Tm) : -1 ≤ firstI P l ∧ firstI P l < l.length := by
  induction l with
  | nil => simp [firstI]
  | cons x l ih => rw [firstI, List.length_cons]; split <;> (try split) <;> omega
theorem firstI_congr {P Q : Tm → Prop} {l : List Tm} (h : ∀ x ∈ l, (P x ↔ Q x)) : firstI P l = firstI Q l := by
  induction l with
  | nil => rfl
  | cons x l ih =>
    rw [firstI, firstI, ih (fun x hx => h x (by simp [hx]))]
    simp only [h x (by simp)]
def covers (t p : Tm) : Prop := (p.mtch t).isSome = true ∧ p.right ∧ t.right

set_option maxHeartbeats 1000000 in
theorem cover_spec (hm : PrimMono T) (h29 : Has T 31 a31) (h69 : Has T 55 a55) (h112 : Has T 96 a96) (h58 : Has T 97 a97) (h31 : Has T 12 a12) (h30 : Has T 8 a8) (h70 : Has T 26 a26) (h71 : Has T 27 a27) (h72 : Has T 28 a28)
    (l : List Tm) (hs : Tm.sizes l ≤ 4000) (wfl : ∀ x ∈ l, x.Wf) (t : Tm) (hst : t.size ≤ 4000) (wf : t.Wf) (tk : Tok) (h : Heap) (m : Nat) (hl : Low h m) : Spec T (.fn 31) [.slice (Tm.avs l) tk, t.av] ⟨h, m⟩ (Ret h m (.int .i64 (firstI (covers t) l))) := by
  refine spec_fn hm h29.prim h29.func rfl ?_
  have hlen := sizes_len l
  have hl1 : ∀ m', m < m' → Low ((m, .cells t.av.cells) :: h) m' := fun m' hm' => hl.cons hm'
  simp (disch := omega) [a31]
  let I : Nat → Env → List ADef → St → Prop := fun q env ds σ => ds = [] ∧ ∃ (i : Nat) (m' : Nat), i ≤ l.length ∧ q = l.length - i ∧ m < m' ∧
    σ = ⟨(m, .cells t.av.cells) :: h, m'⟩ ∧ aget env 0 = .slice (Tm.avs l) tk ∧ aget env 3 = .ptr m 0 ∧ aget env 5 = .int .i64 i ∧
    (if firstI (covers t) (l.drop i) < 0 then -1 else firstI (covers t) (l.drop i) + i) = firstI (covers t) l
  refine run_loop hm I ?_ l.length ?_
  · rintro q env ds σ ⟨rfl, i, m', hi, rfl, hmm, rfl, e0, e3, e5, hf⟩
    by_cases d1 : i < l.length
    · have hle := sizes_mem (List.getElem_mem d1)
      have w := wfl _ (List.getElem_mem d1)
      have next : ¬ covers t l[i] → (if firstI (covers t) (l.drop (i + 1)) < 0 then -1 else firstI (covers t) (l.drop (i + 1)) + ((i + 1 : Nat) : Int)) = firstI (covers t) l := fun hn => by
        rw [List.drop_eq_getElem_cons d1, firstI, if_neg hn] at hf
        rw [← hf]; push_cast; split <;> split <;> omega
      simp (disch := omega) [q_call hm, e0, e3, e5, d1]
      refine CallD.retb (mtch_spec hm h69 h112 h58 h31 l[i] t (by omega) wf _ _ (hl1 _ hmm)) (fun tk1 m1 hm1 => ?_)
      by_cases b1 : (l[i].mtch t).isSome = true
      rotate_left
      · have b1' : (l[i].mtch t).isSome = false := by simpa using b1
        simp (disch := omega) [e5, b1']
        exact ⟨l.length - (i + 1), by omega, rfl, i + 1, m1, by omega, rfl, by omega, rfl, by simp [e0], by simp [e3], by simp, next (fun hc => b1 hc.1)⟩
      simp (disch := omega) [r_call hm, e0, e5, b1]
      refine CallK.ret (right_spec hm h30 h70 h71 h72 l[i] w (by omega) _ _ (hl1 _ (by omega))) (fun m2 hm2 => ?_)
      by_cases b2 : l[i].right
      rotate_left
      · simp (disch := omega) [e5, b2]
        exact ⟨l.length - (i + 1), by omega, rfl, i + 1, m2, by omega, rfl, by omega, rfl, by simp [e0], by simp [e3], by simp, next (fun hc => b2 hc.2.1)⟩
      simp (disch := omega) [r_call hm, e3, b2]
      refine CallK.ret (right_spec hm h30 h70 h71 h72 t wf hst _ _ (hl1 _ (by omega))) (fun m3 hm3 => ?_)
      by_cases b3 : t.right
      rotate_left
      · simp (disch := omega) [e5, b3]
        exact ⟨l.length - (i + 1), by omega, rfl, i + 1, m3, by omega, rfl, by omega, rfl, by simp [e0], by simp [e3], by simp, next (fun hc => b3 hc.2.2)⟩
      have hf' : firstI (covers t) l = i := by
        rw [List.drop_eq_getElem_cons d1, firstI, if_pos (show covers t l[i] from ⟨b1, b2, b3⟩), if_neg (by omega)] at hf; omega
      simp (disch := omega) [e5, b3, Ret, hl.gc, hf']
      omega
    · rw [List.drop_eq_nil_of_le (by omega)] at hf
      have hf' : firstI (covers t) l = -1 := by rw [← hf]; simp [firstI]
      simp (disch := omega) [e0, e5, d1, Ret, hl.gc, hf']
      omega
  · exact ⟨rfl, 0, m + 1, by simp, by simp, by omega, rfl, by simp, by simp, by simp, by simp; have := firstI_range (covers t) l; omega⟩
end Go.AM
namespace Go.AM
variable {T : Tab}
open Classical

def nameOk (s : List UInt8) : Prop := chars s ∧ (1 : Int) ≤ s.length ∧ (s.length : Int) ≤ 20
theorem named_spec (hm : PrimMono T) (h144 : Has T 93 a93) (s : List UInt8) (hsl : s.length ≤ 9223372036854775807) (h : Heap) (m : Nat) (hl : Low h m) : Spec T (.fn 93) [.str s] ⟨h, m⟩ (Ret h m (.bool (decide (nameOk s)))) := by
  refine spec_fn hm h144.prim h144.func rfl ?_
  simp (disch := omega) [a93]
  let I : Nat → Env → List ADef → St → Prop := fun q env ds σ => ds = [] ∧ ∃ (i : Nat), i ≤ s.length ∧ q = s.length - i ∧
    σ = ⟨h, m⟩ ∧ aget env 0 = .str s ∧ aget env 5 = .int .i64 s.length ∧ aget env 6 = .int .i64 i ∧ (chars (s.drop i) ↔ chars s)
  refine run_loop hm I ?_ s.length ?_
  · rintro q env ds σ ⟨rfl, i, hi, rfl, rfl, e0, e5, e6, hf⟩
    by_cases d1 : i < s.length
    · rw [List.drop_eq_getElem_cons d1] at hf
      by_cases d2 : (s[i].toNat : Int) < 32
      · have hno : ¬ chars s := by
          rw [← hf]; intro hc; have := (hc s[i] List.mem_cons_self).1; omega
        simp (disch := omega) [e0, e5, e6, d1, d2, Ret, hl.gc, nameOk, hno]
      · by_cases d3 : 126 < (s[i].toNat : Int)
        · have hno : ¬ chars s := by
            rw [← hf]; intro hc; have := (hc s[i] List.mem_cons_self).2; omega
          simp (disch := omega) [e0, e5, e6, d1, d2, d3, Ret, hl.gc, nameOk, hno]
        · simp (disch := omega) [e0, e5, e6, d1, d2, d3]
          refine ⟨s.length - (i + 1), by omega, rfl, i + 1, by omega, rfl, rfl, by simp [e0], by simp [e5], by simp, ?_⟩
          rw [← hf]; exact ⟨fun hc b hb => by cases hb with | head => omega | tail _ hb => exact hc b hb, fun hc b hb => hc b (List.mem_cons_of_mem _ hb)⟩
    · have hch : chars s := by rw [← hf, List.drop_eq_nil_of_le (by omega)]; intro b hb; cases hb
      by_cases d2 : (s.length : Int) < 1
      · simp (disch := omega) [e0, e5, e6, d1, d2, Ret, hl.gc, nameOk, hch]
        omega
      · by_cases d3 : (20 : Int) < s.length
        · simp (disch := omega) [e0, e5, e6, d1, d2, d3, Ret, hl.gc, nameOk, hch]
          try omega
        · simp (disch := omega) [e0, e5, e6, d1, d2, d3, Ret, hl.gc, nameOk, hch]
          omega
  · exact ⟨rfl, 0, by simp, by simp, rfl, by simp, by simp, by simp, by simp⟩

/-- A term's own fields may be. -/
def ownP : Tm → Prop
  | .mk k s n l => if k = 1 then 0 ≤ n ∧ n < 1000000 ∧ s = [] ∧ l = [] else if k = 2 then s = [] ∧ l = [] else k = 3 ∧ n = 0 ∧ nameOk s ∧ (l.length : Int) ≤ 8
theorem own_spec (hm : PrimMono T) (h96 : Has T 51 a51) (h144 : Has T 93 a93) (t : Tm) (wf : t.Wf) (h : Heap) (m : Nat) (hl : Low h m) : Spec T (.fn 51) [t.av] ⟨h, m⟩ (Ret h m (.bool (decide (ownP t)))) := by
  refine spec_fn hm h96.prim h96.func rfl ?_
  obtain ⟨k, s, n, l⟩ := t
  obtain ⟨_, _, hsl, hll, hwf⟩ := wf
  by_cases k1 : k = 1
  · subst k1
    by_cases c1 : n < 0
    · simp (disch := omega) [a51, c1, Ret, hl.gc, ownP]; try omega
    by_cases c2 : n < 1000000
    rotate_left
    · simp (disch := omega) [a51, c1, c2, Ret, hl.gc, ownP]; try omega
    by_cases c3 : s = []
    rotate_left
    · simp (disch := omega) [a51, c1, c2, c3, Ret, hl.gc, ownP]; try omega
    by_cases c4 : l = []
    rotate_left
    · simp (disch := omega) [a51, c1, c2, c3, c4, Ret, hl.gc, ownP]; try omega
    simp (disch := omega) [a51, c1, c2, c3, c4, Ret, hl.gc, ownP]; try omega
  by_cases k2 : k = 2
  · subst k2
    by_cases c3 : s = []
    rotate_left
    · simp (disch := omega) [a51, c3, Ret, hl.gc, ownP]; try omega
    by_cases c4 : l = []
    rotate_left
    · simp (disch := omega) [a51, c3, c4, Ret, hl.gc, ownP]; try omega
    simp (disch := omega) [a51, c3, c4, Ret, hl.gc, ownP]; try omega
  by_cases k3 : k = 3
  rotate_left
  · simp (disch := omega) [a51, k1, k2, k3, Ret, hl.gc, ownP]; try omega
  subst k3
  by_cases c1 : n = 0
  rotate_left
  · simp (disch := omega) [a51, c1, Ret, hl.gc, ownP]; try omega
  simp (disch := omega) [a51, r_call hm, c1]
  refine CallK.ret (named_spec hm h144 s hsl _ _ (hl.cons (Nat.lt_succ_self m))) (fun m2 hm2 => ?_)
  by_cases c2 : nameOk s
  rotate_left
  · simp (disch := omega) [c2, Ret, hl.gc, ownP]; try omega
  by_cases c3 : (8 : Int) < l.length
  · simp (disch := omega) [c2, c3, Ret, hl.gc, ownP]; try omega
  · simp (disch := omega) [c2, c3, Ret, hl.gc, ownP]; try omega
end Go.AM
namespace Go.AM
variable {T : Tab} {α β : Type}

def Ex.ofJump : Jump → Ex | .ret => .ret | .exit i => .exit i
theorem jump_of (j : Jump) : Ex.jump (Ex.ofJump j) = some j := by cases j <;> rfl
theorem ex_of (j : Jump) : Jump.ex (some j) = Ex.ofJump j := by cases j <;> rfl
/-- A loop's object: it goes on, or has been left. -/
def lob (tm : Env) (ps : List Nat) (as body : ACode) (j : Jump) (c : Bool) : AObj := match c with
  | true => .loop .ready none tm ps as body
  | false => .loop .done (some j) tm ps as body
def Post (l m : Nat) (h : Heap) (o : Bool → AObj) (Q : Bool → α → List (Nat × AObj) → Prop) (r : Bool × α) (n : Nat) (H : Heap) : AV → St → Prop := fun v τ => v = .bool r.1 ∧ n ≤ τ.next ∧ Wd l m h (o r.1) (Q r.1 r.2) τ ∧ Kp l H τ.heap
def StepOk (T : Tab) (l m : Nat) (h : Heap) (o : Bool → AObj) (Q : Bool → α → List (Nat × AObj) → Prop) (R : α → β → Bool × α) (args : β → List AV) (ok : α → β → Prop) : Prop :=
  ∀ a x H n, ok a x → Wd l m h (o true) (Q true a) ⟨H, n⟩ → Spec T (.yield l) (args x) ⟨H, n⟩ (Post l m h o Q (R a x) n H)

theorem Wd.setl {l m : Nat} {h : Heap} {o o' : AObj} {Q} {τ : St} (w : Wd l m h o Q τ) (hl : Low h m) (hml : m ≤ l) : Wd l m h o' Q (τ.set l o') :=
  ⟨w.over.set hl hml, w.low.set, w.lt, by show hget (hset τ.heap l o') l = _; have h0 : hget τ.heap l = _ := w.obj; rw [hget_set, if_pos rfl, h0]; rfl, by obtain ⟨F, g, f, q⟩ := w.known; exact ⟨F, g, f.set fun p hp => (g p hp).1, q⟩⟩

theorem step_ok (hm : PrimMono T) {l m : Nat} {h : Heap} {tm : Env} {ps : List Nat} {as body : ACode} {j : Jump} {Q : Bool → α → List (Nat × AObj) → Prop} {R : α → β → Bool × α} {args : β → List AV} {ok : α → β → Prop} (hl : Low h m) (hml : m ≤ l)
    (hlen : ∀ x, (args x).length = ps.length)
    (H0 : ∀ a x H n, ok a x → Wd l m h (.loop .ready none tm ps as body) (Q true a) ⟨H, n⟩ → Run T [.code as] .normal (putAll tm ps (args x)) [] ⟨H, n⟩ fun ex env ds σ => ex = .normal ∧ hget σ.heap l = some (.loop .ready none tm ps as body) ∧
      Run T [.code body] .normal env ds (σ.set l (.loop .busy none tm ps as body)) fun ex _ ds σ => ds = [] ∧ ((R a x).1 = true ∧ ex = .normal ∨ (R a x).1 = false ∧ ex = Ex.ofJump j) ∧ n ≤ σ.next ∧ Wd l m h (.loop .busy none tm ps as body) (Q (R a x).1 (R a x).2) σ ∧ Kp l H σ.heap) :
    StepOk T l m h (lob tm ps as body j) Q R args ok := by
  intro a x H n hx w
  refine spec_yield hm w.obj (hlen x) ?_
  obtain ⟨f1, x1, e1, d1, s1, h1, h2, h3, f2, x2, e2, d2, s2, h4, h5, h6, h7, h8, h9⟩ := H0 a x H n hx w
  refine ⟨f1, x1, e1, d1, s1, h1, h2, h3, f2, x2, e2, d2, s2, h4, h5, h8.obj, ?_⟩
  rcases h6 with ⟨h6, rfl⟩ | ⟨h6, rfl⟩
  · refine ⟨by rw [h6]; rfl, h7, ?_, h9.set (Nat.le_refl l)⟩
    rw [h6] at h8 ⊢; exact h8.setl hl hml
  · refine ⟨by rw [h6, jump_of]; rfl, h7, ?_, h9.set (Nat.le_refl l)⟩
    rw [h6] at h8; rw [h6, jump_of]; exact h8.setl hl hml

/-! ### All of a term -/
mutual
def walkF (R : α → Int × Tm → Bool × α) : Int → Tm → α → Bool × α
  | d, .mk k s n l, a => if (R a (d, .mk k s n l)).1 then walkFs R (d + 1) l (R a (d, .mk k s n l)).2 else (false, (R a (d, .mk k s n l)).2)
def walkFs (R : α → Int × Tm → Bool × α) : Int → List Tm → α → Bool × α
  | _, [], a => (true, a)
  | d, t :: l, a => if (walkF R d t a).1 then walkFs R d l (walkF R d t a).2 else (false, (walkF R d t a).2)
end
mutual
/-- All along a walk something holds. -/
def okW (R : α → Int × Tm → Bool × α) (ok : α → Int × Tm → Prop) : Int → Tm → α → Prop
  | d, .mk k s n l, a => ok a (d, .mk k s n l) ∧ ((R a (d, .mk k s n l)).1 = true → okWs R ok (d + 1) l (R a (d, .mk k s n l)).2)
def okWs (R : α → Int × Tm → Bool × α) (ok : α → Int × Tm → Prop) : Int → List Tm → α → Prop
  | _, [], _ => True
  | d, t :: l, a => okW R ok d t a ∧ ((walkF R d t a).1 = true → okWs R ok d l (walkF R d t a).2)
end
def itm (x : Int × Tm) : List AV := [.int .i64 x.1, x.2.av]
def itmOk (x : Int × Tm) : Prop := x.2.Wf ∧ x.2.size ≤ 4000 ∧ 0 ≤ x.1 ∧ x.1 ≤ 8000

theorem Kp.gc1 {l n : Nat} {H H' : Heap} {o : AObj} (hL : Low H n) (a : Kp l ((n, o) :: H) H') : Kp l H (hgc1 H' n) := fun j c hj h => by
  have h1 := hL.lt h
  exact hgc1_keep (a j c hj (by rw [hget_ne _ _ (by omega)]; exact h)) (.inl h1)

theorem CallV.intro {T : Tab} {fv : AV} {as : List AV} {σ : St} {d : Option Nat} {l : List AOper} {ks : List K} {env : Env} {ds : List ADef} {Q : Ex → Env → List ADef → St → Prop} {c : Cal} {as' : List AV} {P : AV → St → Prop} (hc : callee fv as = some (c, as')) (hs : Spec T c as' σ P) (k : ∀ v τ, P v τ → Run T (.ops l :: ks) .normal (put env d v) ds τ Q) : CallV T fv as σ d l ks env ds Q := ⟨c, as', P, hc, hs, k⟩

variable {l m : Nat} {h : Heap} {o : Bool → AObj} {Q : Bool → α → List (Nat × AObj) → Prop} {R : α → Int × Tm → Bool × α} {ok : α → Int × Tm → Prop}

theorem okW_itm (t : Tm) : ∀ (d : Int) (a : α), t.Wf → t.size ≤ 4000 → 0 ≤ d → d + t.size ≤ 8000 → okW R (fun _ x => itmOk x) d t a := by
  refine Tm.ind (M := fun t => ∀ (d : Int) (a : α), t.Wf → t.size ≤ 4000 → 0 ≤ d → d + t.size ≤ 8000 → okW R (fun _ x => itmOk x) d t a) (fun k s n l ih d a wf hs hd0 hd => ?_) t
  have hp := size_pos (.mk k s n l)
  rw [okW]
  refine ⟨⟨wf, hs, hd0, by show d ≤ 8000; omega⟩, fun _ => ?_⟩
  rw [Tm.size] at hs hd
  have hwf := Wf.args wf
  have : ∀ (l : List Tm), (∀ x ∈ l, ∀ (d : Int) (a : α), x.Wf → x.size ≤ 4000 → 0 ≤ d → d + x.size ≤ 8000 → okW R (fun _ x => itmOk x) d x a) → (∀ x ∈ l, x.Wf) → ∀ (d : Int) (a : α), Tm.sizes l ≤ 4000 → 0 ≤ d → d + Tm.sizes l ≤ 8000 → okWs R (fun _ x => itmOk x) d l a := by
    intro l
    induction l with
    | nil => intro _ _ d a _ _ _; rw [okWs]; trivial
    | cons t l ihl =>
      intro ih hwf d a hs hd0 hd
      rw [Tm.sizes] at hs hd
      rw [okWs]
      exact ⟨ih t (by simp) d a (hwf t (by simp)) (by omega) hd0 (by omega), fun _ => ihl (fun x hx => ih x (by simp [hx])) (fun x hx => hwf x (by simp [hx])) d _ (by omega) hd0 (by omega)⟩
  exact this l ih hwf (d + 1) _ (by omega) (by omega) (by omega)

theorem all1_spec (hm : PrimMono T) (h214 : Has T 128 a128) (hl : Low h m) (hml : m ≤ l) (hstep : StepOk T l m h o Q R itm ok) (t : Tm) (wf : t.Wf) (hs : t.size ≤ 4000) :
    ∀ (d : Int) (_hd0 : 0 ≤ d) (_hd : d + t.size ≤ 8000) (a : α) (_hok : okW R ok d t a) (H : Heap) (n yb wb : Nat) (_hly : l < yb) (_hlw : l < wb) (_hy : hget H yb = some (.cells [.fn (.yield l) [] []])) (_hw : hget H wb = some (.cells [.fn (.func 128) [] [.ptr yb 0, .ptr wb 0]])) (_w : Wd l m h (o true) (Q true a) ⟨H, n⟩),
      Spec T (.fn 128) [t.av, .int .i64 d, .ptr yb 0, .ptr wb 0] ⟨H, n⟩ (Post l m h o Q (walkF R d t a) n H) := by
  refine Tm.ind (M := fun t => t.Wf → t.size ≤ 4000 → ∀ (d : Int) (hd0 : 0 ≤ d) (hd : d + t.size ≤ 8000) (a : α) (hok : okW R ok d t a) (H : Heap) (n yb wb : Nat) (hly : l < yb) (hlw : l < wb) (hy : hget H yb = some (.cells [.fn (.yield l) [] []])) (hw : hget H wb = some (.cells [.fn (.func 128) [] [.ptr yb 0, .ptr wb 0]])) (w : Wd l m h (o true) (Q true a) ⟨H, n⟩),
      Spec T (.fn 128) [t.av, .int .i64 d, .ptr yb 0, .ptr wb 0] ⟨H, n⟩ (Post l m h o Q (walkF R d t a) n H)) (fun k s nn as ih wf hs d hd0 hd a hok H n yb wb hly hlw hy hw w => ?_) t wf hs
  refine spec_fn hm h214.prim h214.func rfl ?_
  rw [okW] at hok
  rw [Tm.size] at hs hd
  have hlen := sizes_len as
  have hyn := w.low.lt hy
  have hwn := w.low.lt hw
  have hln := w.lt
  have hmn : m ≤ n := by simp at hln; omega
  have hwf := Wf.args wf
  simp at hyn hwn hln
  simp (disch := omega) [a128, r_callt hm, hy]
  refine CallV.intro rfl (hstep a (d, .mk k s nn as) _ _ hok.1 (w.cons hmn)) ?_
  rintro v ⟨H1, n1⟩ ⟨rfl, hn1, w1, k1⟩
  rw [walkF]
  cases hc : (R a (d, .mk k s nn as)).1 with
  | false =>
    rw [hc] at w1
    simp (disch := omega) [unV]
    refine ⟨rfl, by simp at hn1 ⊢; omega, w1.gc1 hl hln hmn, k1.gc1 w.low⟩
  | true =>
    rw [hc] at w1
    have g1 := k1 n _ (by omega) (hget_eq _ _ _)
    simp (disch := omega) [unV, g1]
    let I : Nat → Env → List ADef → St → Prop := fun q env ds σ => ds = [] ∧ ∃ (i : Nat) (n' : Nat) (H' : Heap) (a' : α), i ≤ as.length ∧ q = as.length - i ∧ n < n' ∧
      σ = ⟨H', n'⟩ ∧ aget env 1 = .int .i64 d ∧ aget env 3 = .ptr wb 0 ∧ aget env 15 = .slice (Tm.avs as) .none ∧ aget env 16 = .int .i64 as.length ∧ aget env 17 = .int .i64 i ∧
      Wd l m h (o true) (Q true a') ⟨H', n'⟩ ∧ Kp l ((n, .cells [.int .i64 k, .str s, .int .i64 nn, .slice (Tm.avs as) .none]) :: H) H' ∧ walkFs R (d + 1) (as.drop i) a' = walkFs R (d + 1) as (R a (d, .mk k s nn as)).2 ∧ okWs R ok (d + 1) (as.drop i) a'
    refine run_loop hm I ?_ as.length ?_
    · rintro q env ds σ ⟨rfl, i, n', H', a', hi, rfl, hnn, rfl, e1, e3, e15, e16, e17, w', k', hf, ho⟩
      have hy' := k' yb _ hly (by rw [hget_ne _ _ (by omega)]; exact hy)
      have hw' := k' wb _ hlw (by rw [hget_ne _ _ (by omega)]; exact hw)
      by_cases d1 : i < as.length
      · have hle := sizes_mem (List.getElem_mem d1)
        rw [List.drop_eq_getElem_cons d1, walkFs] at hf
        rw [List.drop_eq_getElem_cons d1, okWs] at ho
        have w2 := w'.cons (o' := .cells as[i].av.cells) (by omega)
        simp (disch := omega) [r_callt hm, e1, e3, e15, e16, e17, d1, hw', cells_all, splice_av]
        refine CallV.intro rfl (ih as[i] (List.getElem_mem d1) (hwf _ (List.getElem_mem d1)) (by omega) (d + 1) (by omega) (by omega) a' ho.1 _ _ yb wb hly hlw (by rw [hget_ne _ _ (by omega)]; exact hy') (by rw [hget_ne _ _ (by omega)]; exact hw') w2) ?_
        rintro v ⟨H2, n2⟩ ⟨rfl, hn2, w3, k3⟩
        have k4 : Kp l ((n, .cells [.int .i64 k, .str s, .int .i64 nn, .slice (Tm.avs as) .none]) :: H) H2 := fun j c hj hh => k3 j c hj (by have := k' j c hj hh; have := w'.low.lt this; simp at this; rw [hget_ne _ _ (by omega)]; assumption)
        cases hc2 : (walkF R (d + 1) as[i] a').1 with
        | true =>
          rw [hc2] at w3
          simp only [hc2, if_true] at hf
          simp (disch := omega) [e17, unV]
          exact ⟨as.length - (i + 1), by omega, rfl, i + 1, n2, H2, _, by omega, rfl, by simp at hn2; omega, rfl, by simp [e1], by simp [e3], by simp [e15], by simp [e16], by simp, w3, k4, hf, ho.2 hc2⟩
        | false =>
          rw [hc2] at w3
          simp [hc2] at hf
          simp (disch := omega) [unV]
          rw [← hf]
          exact ⟨rfl, by simp at hn2 ⊢; omega, w3.gc1 hl hln hmn, k4.gc1 w.low⟩
      · rw [List.drop_eq_nil_of_le (by omega), walkFs] at hf
        simp (disch := omega) [e16, e17, d1]
        rw [← hf]
        exact ⟨rfl, by simp; omega, w'.gc1 hl hln hmn, k'.gc1 w.low⟩
    · exact ⟨rfl, 0, n1, H1, _, by simp, by simp, by simp at hn1; omega, rfl, by simp, by simp, by simp, by simp, by simp, w1, k1, by simp, by simpa using hok.2 hc⟩
end Go.AM
