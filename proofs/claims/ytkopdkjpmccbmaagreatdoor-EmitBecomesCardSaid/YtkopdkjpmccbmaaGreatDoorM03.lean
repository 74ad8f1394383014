/- A part of the proof of: EmitBecomes: what a term becomes by patterns, and a pattern's name, is what the document says, or the error is told. -/
import Derived.Test.YtkopdkjpmccbmaaGreatDoorM02
import Derived.Laws.Entries
import Derived.Laws.Strings
namespace Go.AM

theorem nth_eq {α : Type} (l : List α) (n : Nat) : nth l n = l[n]? := by
  induction l generalizing n with
  | nil => rfl
  | cons x l ih =>
    cases n with
    | zero => rfl
    | succ n => show nth l n = _; rw [ih]; simp

theorem takeN_eq (l : List AV) (n : Nat) : takeN l n = if n ≤ l.length then some (l.take n) else none := by
  induction l generalizing n with
  | nil =>
    show (bif Nat.beq n 0 then some [] else none) = _
    cases n with
    | zero => rfl
    | succ n => rfl
  | cons x l ih =>
    cases n with
    | zero => rfl
    | succ n =>
      show (match takeN l n with | some r => some (x :: r) | none => none) = _
      rw [ih]
      by_cases h : n ≤ l.length
      · simp [h]
      · simp [h]

theorem slc_eq (l : List AV) (off n : Nat) : slc l off n = if off + n ≤ l.length then some ((l.drop off).take n) else none := by
  induction l generalizing off with
  | nil =>
    show (bif Nat.beq (off + n) 0 then some [] else none) = _
    by_cases h : off + n = 0
    · simp [h]
    · rw [nbeq h]; simp
      omega
  | cons x l ih =>
    cases off with
    | zero => show takeN (x :: l) n = _; rw [takeN_eq]; simp
    | succ off => show slc l off n = _; rw [ih]; simp only [List.length_cons, List.drop_succ_cons]; congr 1; simp; omega

theorem slc_some {l cs : List AV} {off n : Nat} (h : slc l off n = some cs) : off + n ≤ l.length ∧ cs.length = n ∧ ∀ j, j < n → cs[j]? = l[off + j]? := by
  rw [slc_eq] at h
  split at h
  · rename_i hl
    cases h
    refine ⟨hl, by simp; omega, fun j hj => ?_⟩
    rw [List.getElem?_take_of_lt hj, List.getElem?_drop]
  · cases h

theorem over_eq (l n : List AV) : over l n = if n.length ≤ l.length then some (n ++ l.drop n.length) else none := by
  induction l generalizing n with
  | nil => cases n <;> rfl
  | cons x l ih =>
    cases n with
    | nil => rfl
    | cons y n =>
      show (match over l n with | some t => some (y :: t) | none => none) = _
      rw [ih]
      by_cases h : n.length ≤ l.length <;> simp [h]

theorem splice_eq (l : List AV) (off : Nat) (m : List AV) : splice l off m = if off + m.length ≤ l.length then some (l.take off ++ m ++ l.drop (off + m.length)) else none := by
  induction l generalizing off with
  | nil =>
    show (match m with | [] => bif Nat.beq off 0 then some [] else none | _ :: _ => none) = _
    cases m with
    | nil =>
      by_cases h : off = 0
      · subst h; rfl
      · simp only [nbeq h, cond_false]; simp [h]
    | cons y m => simp
  | cons x l ih =>
    cases off with
    | zero => show over (x :: l) m = _; rw [over_eq]; simp
    | succ off =>
      show (match splice l off m with | some t => some (x :: t) | none => none) = _
      rw [ih]
      by_cases h : off + m.length ≤ l.length
      · have h' : off + 1 + m.length ≤ (x :: l).length := by simp; omega
        rw [if_pos h, if_pos h']
        have : off + 1 + m.length = (off + m.length) + 1 := by omega
        simp [this]
      · have h' : ¬(off + 1 + m.length ≤ (x :: l).length) := by simp; omega
        rw [if_neg h, if_neg h']

theorem splice_some {l m r : List AV} {off : Nat} (h : splice l off m = some r) : off + m.length ≤ l.length ∧ r.length = l.length ∧
    (∀ j, j < off ∨ off + m.length ≤ j → r[j]? = l[j]?) ∧ ∀ j, j < m.length → r[off + j]? = m[j]? := by
  rw [splice_eq] at h
  split at h
  · rename_i hl
    cases h
    have hlt : (l.take off).length = off := by simp; omega
    refine ⟨hl, by simp; omega, fun j hj => ?_, fun j hj => ?_⟩
    · rcases hj with hj | hj
      · rw [List.append_assoc, List.getElem?_append_left (by omega), List.getElem?_take_of_lt hj]
      · rw [List.getElem?_append_right (by simp; omega), List.getElem?_drop]
        congr 1; simp; omega
    · rw [List.append_assoc, List.getElem?_append_right (by omega), List.getElem?_append_left (by omega)]
      congr 1; omega
  · cases h

theorem setNth_eq (l : List AV) (n : Nat) (v : AV) : setNth l n v = if n < l.length then some (l.set n v) else none := by
  induction l generalizing n with
  | nil => rfl
  | cons x l ih =>
    cases n with
    | zero => rfl
    | succ n =>
      show (match setNth l n v with | some t => some (x :: t) | none => none) = _
      rw [ih]
      by_cases h : n < l.length <;> simp [h]

theorem rep_eq {α : Type} (n : Nat) (v : α) : rep n v = List.replicate n v := by
  induction n with
  | zero => rfl
  | succ n ih => show v :: rep n v = _; rw [ih]; rfl

theorem eqNs_eq {a b : List Nat} : eqNs a b = true ↔ a = b := by
  induction a generalizing b with
  | nil => cases b <;> simp [eqNs]
  | cons x a ih =>
    cases b with
    | nil => simp [eqNs]
    | cons y b =>
      show (bif Nat.beq x y then eqNs a b else false) = true ↔ _
      by_cases h : x = y
      · subst h; simp [ih]
      · simp [nbeq h, h]

theorem u8_toNat_inj {a b : UInt8} (h : a.toNat = b.toNat) : a = b := UInt8.toNat_inj.1 h
theorem eqS_eq (a b : List UInt8) : eqS a b = (a == b) := by
  induction a generalizing b with
  | nil => cases b <;> rfl
  | cons x a ih =>
    cases b with
    | nil => rfl
    | cons y b =>
      show (bif Nat.beq x.toNat y.toNat then eqS a b else false) = _
      by_cases h : x.toNat = y.toNat
      · have := u8_toNat_inj h; subst this; simp [ih]
      · have : x ≠ y := fun e => h (e ▸ rfl)
        rw [nbeq h]; simp [this]

theorem eqI_eq (x y : Int) : eqI x y = (x == y) := by
  cases x with
  | ofNat a =>
    cases y with
    | ofNat b =>
      show Nat.beq a b = _
      by_cases h : a = b
      · subst h; simp
      · rw [nbeq h]; symm; rw [beq_eq_false_iff_ne]; exact fun e => h (by injection e)
    | negSucc b => rfl
  | negSucc a =>
    cases y with
    | ofNat b => rfl
    | negSucc b =>
      show Nat.beq a b = _
      by_cases h : a = b
      · subst h; simp
      · rw [nbeq h]; symm; rw [beq_eq_false_iff_ne]; exact fun e => h (by injection e)

theorem ble_true {a b : Nat} (h : a ≤ b) : Nat.ble a b = true := Nat.ble_eq_true_of_le h
theorem ble_false {a b : Nat} (h : ¬a ≤ b) : Nat.ble a b = false := Bool.eq_false_iff.2 fun e => h (Nat.le_of_ble_eq_true e)
theorem blt_eq (a b : Nat) : Nat.blt a b = decide (a < b) := by
  by_cases h : a < b
  · rw [decide_eq_true h]; exact ble_true h
  · rw [decide_eq_false h]; exact ble_false h
theorem ltI_eq (x y : Int) : ltI x y = decide (x < y) := by
  cases x with
  | ofNat a =>
    cases y with
    | ofNat b => show Nat.blt a b = _; rw [blt_eq]; simp
    | negSucc b => show false = _; symm; rw [decide_eq_false_iff_not]; simp only [Int.ofNat_eq_natCast]; omega
  | negSucc a =>
    cases y with
    | ofNat b => show true = _; symm; rw [decide_eq_true_eq]; simp only [Int.ofNat_eq_natCast]; omega
    | negSucc b => show Nat.blt b a = _; rw [blt_eq]; congr 1; apply propext; omega

theorem natI_some {x : Int} {n : Nat} (h : natI x = some n) : x = n := by
  cases x with
  | ofNat a => cases h; rfl
  | negSucc a => cases h
theorem inRange_some {len : Nat} {i : Int} {n : Nat} (h : inRange len i = some n) : i = n ∧ n < len := by
  cases i with
  | ofNat a =>
    simp only [inRange, blt_eq] at h
    by_cases hl : a < len
    · simp [hl] at h; subst h; exact ⟨rfl, hl⟩
    · simp [hl] at h
  | negSucc a => cases h

theorem wrap_i64_id {n : Int} (h1 : -9223372036854775808 ≤ n) (h2 : n ≤ 9223372036854775807) : IntKind.i64.wrap n = n := by
  unfold IntKind.wrap
  have e : ((2 : Int) ^ IntKind.i64.bits) = 18446744073709551616 := by decide
  have e' : ((2 : Int) ^ (IntKind.i64.bits - 1)) = 9223372036854775808 := by decide
  simp only [e, e', IntKind.signed, Bool.true_and, decide_eq_true_eq]
  split <;> omega
theorem wrapK_eq (k : IntKind) (n : Int) : wrapK k n = k.wrap n := by
  cases k <;> try rfl
  show wrapI64 n = _
  cases n with
  | ofNat m =>
    show (bif Nat.ble m 9223372036854775807 then Int.ofNat m else _) = _
    by_cases h : m ≤ 9223372036854775807
    · rw [ble_true h, cond_true]; exact (wrap_i64_id (by simp only [Int.ofNat_eq_natCast]; omega) (by simp only [Int.ofNat_eq_natCast]; omega)).symm
    · rw [ble_false h, cond_false]
  | negSucc m =>
    show (bif Nat.ble m 9223372036854775807 then Int.negSucc m else _) = _
    by_cases h : m ≤ 9223372036854775807
    · rw [ble_true h, cond_true]; exact (wrap_i64_id (by omega) (by omega)).symm
    · rw [ble_false h, cond_false]

theorem kcode_inj {k k' : IntKind} (h : Nat.beq (kcode k) (kcode k') = true) : k = k' := by
  revert h; cases k <;> cases k' <;> first | (intro _; rfl) | (intro h; exact absurd h (by decide))

end Go.AM
namespace Go.AM
open Go.RowKit
variable {P : Program} {cfg : Cfg} {C : Ctx} {σ τ : St} {w : World}

theorem VR.nilSlice (C : Ctx) : VR C (.slice [] .full) (.slice none 0 0) :=
  .slice [] .full none 0 0 0 1 (fun _ _ => .nilFunc) (by decide) (Nat.le_refl _) (fun h => absurd rfl h) (fun i e h => by simp at h) (fun i e j c h => by simp at h) (fun i e j c h => by simp at h) rfl

theorem conv1_VR {v : Value} {a : AV} (h : conv1 v = some a) (C : Ctx) : VR C a v ∧ known a = true := by
  unfold conv1 at h
  split at h <;> first
    | (cases h; exact ⟨.bool _, rfl⟩)
    | (cases h; exact ⟨.int _ _, rfl⟩)
    | (rename_i s; cases h; exact ⟨by have := VR.str (C := C) s.data.toList; simpa using this, rfl⟩)
    | (cases h; exact ⟨.nilp, rfl⟩)
    | (cases h; exact ⟨.nilm, rfl⟩)
    | (cases h; exact ⟨.nilf, rfl⟩)
    | (cases h; exact ⟨.nili, rfl⟩)
    | (cases h; exact ⟨.nilSlice C, rfl⟩)
    | (split at h
       · rename_i vs hv
         cases h
         have : vs = #[] := by simpa using hv
         subst this; exact ⟨.undef, rfl⟩
       · cases h)
    | cases h

theorem convs_VR {l : List Value} {as : List AV} (h : convs l = some as) (C : Ctx) : as.length = l.length ∧ ∀ (i : Nat) (a : AV) (v : Value), as[i]? = some a → l[i]? = some v → VR C a v := by
  induction l generalizing as with
  | nil => simp [convs] at h; subst h; simp
  | cons v l ih =>
    simp only [convs] at h
    split at h
    · rename_i a r h1 h2
      cases h
      obtain ⟨h3, h4⟩ := ih h2
      refine ⟨by simp [h3], fun i a' v' ha hv => ?_⟩
      cases i with
      | zero => simp at ha hv; subst ha; subst hv; exact (conv1_VR h1 C).1
      | succ i => simp at ha hv; exact h4 i a' v' ha hv
    · cases h

theorem conv_VR {v : Value} {a : AV} (h : conv v = some a) (C : Ctx) : VR C a v ∧ known a = true := by
  unfold conv at h
  split at h
  · rename_i cs
    cases hc : convs cs.toList with
    | none => rw [hc] at h; cases h
    | some as =>
      rw [hc] at h; cases h
      obtain ⟨h1, h2⟩ := convs_VR hc C
      exact ⟨.agg as cs (by simpa using h1) (fun i a v ha hv => h2 i a v ha (by simpa using hv)), rfl⟩
  · rename_i vs
    split at h
    · rename_i hv
      cases h
      have : vs = #[] := by simpa using hv
      subst this; exact ⟨.undef, rfl⟩
    · cases hc : convs vs.toList with
      | none => rw [hc] at h; cases h
      | some as =>
        rw [hc] at h; cases h
        obtain ⟨h1, h2⟩ := convs_VR hc C
        exact ⟨.tup as vs (by simpa using h1) (fun i a v ha hv => h2 i a v ha (by simpa using hv)), rfl⟩
  · exact conv1_VR h C

theorem opd_VR {x : Operand} {y : Opd} (h : opd x = some y) {env : Env} {a : Act} (he : EnvR C env a.tmps) : VR C (y.eval env) (a.eval x) := by
  cases x with
  | tmp t => cases h; exact he t
  | const v =>
    simp only [opd] at h
    cases hc : conv v with
    | none => rw [hc] at h; cases h
    | some b => rw [hc] at h; cases h; exact (conv_VR hc C).1
  | global g => cases h
  | func f => cases h; exact .fn (.func f) (fun l => by simp) [] [] #[] #[] rfl rfl (fun i c v h => by simp at h) (fun i c v h => by simp at h)

theorem opds_VR {l : List Operand} {ys : List Opd} (h : opds l = some ys) {env : Env} {a : Act} (he : EnvR C env a.tmps) :
    (evals env ys).length = l.length ∧ ∀ (i : Nat) (c : AV) (v : Value), (evals env ys)[i]? = some c → (l.map a.eval)[i]? = some v → VR C c v := by
  induction l generalizing ys with
  | nil => simp [opds] at h; subst h; simp [evals]
  | cons x l ih =>
    simp only [opds] at h
    split at h
    · rename_i y r h1 h2
      cases h
      obtain ⟨h3, h4⟩ := ih h2
      have e : evals env (y :: r) = y.eval env :: evals env r := rfl
      refine ⟨by rw [e]; simp [h3], fun i c v hc hv => ?_⟩
      rw [e] at hc
      cases i with
      | zero => simp at hc hv; subst hc; subst hv; exact opd_VR h1 he
      | succ i => simp at hc hv; exact h4 i c v hc (by simpa using hv)
    · cases h

/-! ### The program's tables -/
theorem run_und {t : TypeId} {d : TypeDesc} (h : P.underlying t = some d) (w : World) : (underlying t).run P w = .ok d w := run_underlying h w
theorem run_size {t : TypeId} {n : Nat} (h : sizeT P t = some n) (w : World) : (sizeOf t).run P w = .ok n w := by
  unfold sizeT at h
  cases hi : P.info? t with
  | none => rw [hi] at h; cases h
  | some i => rw [hi] at h; cases h; simp [sizeOf, typeInfo, hi]
theorem run_zero {t : TypeId} {z : AV} (h : zeroT P t = some z) (w : World) : ∃ zv, (zeroValue t).run P w = .ok zv w ∧ conv zv = some z := by
  unfold zeroT at h
  cases hi : P.info? t with
  | none => rw [hi] at h; cases h
  | some i =>
    rw [hi] at h
    cases hz : i.zero with
    | none => rw [Option.bind_some, hz] at h; cases h
    | some zv =>
      rw [Option.bind_some, hz] at h
      exact ⟨zv, by simp [zeroValue, typeInfo, hi, hz], h⟩
theorem run_isAgg {t : TypeId} {b : Bool} (h : aggT P t = some b) (w : World) : (isAgg t).run P w = .ok b w := by
  unfold aggT at h
  cases hd : P.underlying t with
  | none => rw [hd] at h; cases h
  | some d =>
    rw [hd] at h
    simp only [isAgg, Sem.run_bind, run_und hd, Result.andThen_ok]
    cases d <;> simp at h <;> subst h <;> rfl
theorem loadT_some {t : TypeId} {n : Option Nat} (h : loadT P t = some n) : (∃ k, n = some k ∧ aggT P t = some true ∧ sizeT P t = some k) ∨ (n = none ∧ aggT P t = some false) := by
  unfold loadT at h
  split at h
  · rename_i k h1 h2; cases h; exact .inl ⟨k, rfl, h1, h2⟩
  · rename_i k h1 h2; cases h; exact .inr ⟨rfl, h1⟩
  · cases h

/-! ### Cells -/
theorem add_at (b off j : Nat) : (⟨b, off, none⟩ : Addr).add j = ⟨b, off + j, none⟩ := by
  unfold Addr.add; split <;> simp_all

/-- What an address leads to. -/
theorem readCells_sound (hI : Inv P cfg C σ w) {a : AV} {v : Value} (hv : VR C a v) {n : Nat} {cs : List AV} (h : readCells a σ n = some cs) :
    ∃ b off, v = .pointer (some ⟨b, off, none⟩) ∧ cs.length = n ∧ ∀ (j : Nat) (c : AV), cs[j]? = some c → ∃ u, w.cell? ⟨b, off + j, none⟩ = some u ∧ VR C c u := by
  cases hv <;> simp only [readCells] at h
  all_goals first
    | cases h
    | skip
  case ptr o off b st lim hκ =>
    simp only [readPtr, St.cells] at h
    cases hg : σ.get o with
    | none => rw [hg] at h; cases h
    | some x =>
      rw [hg] at h
      cases x <;> simp only [Option.bind_some, AObj.cells?] at h <;> try cases h
      rename_i l
      obtain ⟨h1, h2, h3⟩ := slc_some h
      obtain ⟨b', st', lim', ds, e, g1, g2, g3, g4, g5, g6⟩ := hI.obj _ _ hg
      rw [hκ] at g1; cases g1
      refine ⟨b, st + off, rfl, h2, fun j c hc => ?_⟩
      have hj : j < n := by have := (List.getElem?_eq_some_iff.1 hc).1; omega
      rw [h3 j hj] at hc
      obtain ⟨u, hu, hr⟩ := g5 (off + j) c hc
      refine ⟨u, ?_, hr⟩
      simp only [World.cell?, g2]
      rw [show st + off + j = st + (off + j) by omega]; simpa using hu
  case eptr ds off b base u hS hV =>
    obtain ⟨h1, h2, h3⟩ := slc_some h
    refine ⟨b, base + off, rfl, h2, fun j c hc => ?_⟩
    have hj : j < n := by have := (List.getElem?_eq_some_iff.1 hc).1; omega
    rw [h3 j hj] at hc
    refine ⟨u (off + j), ?_, hV _ _ hc⟩
    rw [show base + off + j = base + (off + j) by omega]
    exact hI.lies _ _ _ (hS _ _ hc)

theorem run_loadCellsFrom {b off : Nat} (l : List Value) : ∀ (i : Nat) (acc : Array Value), (∀ (j : Nat) (u : Value), l[j]? = some u → w.cell? ⟨b, off + (i + j), none⟩ = some u) →
    (loadCellsFrom ⟨b, off, none⟩ i l.length acc).run P w = .ok (acc ++ l.toArray) w := by
  induction l with
  | nil => intro i acc _; simp [loadCellsFrom]
  | cons u l ih =>
    intro i acc h
    have h0 := h 0 u rfl
    simp only [List.length_cons, loadCellsFrom, Sem.run_bind, run_load, add_at]
    rw [Nat.add_zero] at h0
    rw [h0]
    simp only [Result.andThen_ok]
    rw [ih (i + 1) (acc.push u) (fun j v hj => by have := h (j + 1) v (by simpa using hj); rw [show i + 1 + j = i + (j + 1) by omega]; exact this)]
    simp

theorem run_loadCells {b off : Nat} (l : List Value) (h : ∀ (j : Nat) (u : Value), l[j]? = some u → w.cell? ⟨b, off + j, none⟩ = some u) :
    (loadCells ⟨b, off, none⟩ l.length).run P w = .ok l.toArray w := by
  have := run_loadCellsFrom (P := P) (w := w) (b := b) (off := off) l 0 #[] (fun j u hj => by rw [Nat.zero_add]; exact h j u hj)
  simpa [loadCells] using this

/-- The values behind a row of cells. -/
theorem choose_values {C : Ctx} {w : World} {b off : Nat} : ∀ (cs : List AV), (∀ (j : Nat) (c : AV), cs[j]? = some c → ∃ u, w.cell? ⟨b, off + j, none⟩ = some u ∧ VR C c u) →
    ∃ l : List Value, l.length = cs.length ∧ (∀ (j : Nat) (u : Value), l[j]? = some u → w.cell? ⟨b, off + j, none⟩ = some u) ∧
      ∀ (j : Nat) (c : AV) (u : Value), cs[j]? = some c → l[j]? = some u → VR C c u := by
  intro cs
  induction cs generalizing off with
  | nil => intro _; exact ⟨[], rfl, fun j u h => by simp at h, fun j c u h => by simp at h⟩
  | cons c cs ih =>
    intro h
    obtain ⟨u, h1, h2⟩ := h 0 c rfl
    obtain ⟨l, h3, h4, h5⟩ := ih (off := off + 1) (fun j c' hc => by have := h (j + 1) c' (by simpa using hc); rw [show off + 1 + j = off + (j + 1) by omega]; exact this)
    refine ⟨u :: l, by simp [h3], fun j v hj => ?_, fun j c' v hc hv => ?_⟩
    · cases j with
      | zero => simp at hj; subst hj; simpa using h1
      | succ j => have := h4 j v (by simpa using hj); rw [show off + (j + 1) = off + 1 + j by omega]; exact this
    · cases j with
      | zero => simp at hc hv; subst hc; subst hv; exact h2
      | succ j => exact h5 j c' v (by simpa using hc) (by simpa using hv)

theorem loadAt_sound (hI : Inv P cfg C σ w) {t : TypeId} {n : Option Nat} (ht : loadT P t = some n) {a : AV} {v : Value} (hv : VR C a v) {c : AV} (h : loadAt σ n a = some c) :
    ∃ u, (Instr.loadAt t v).run P w = .ok u w ∧ VR C c u ∧ ∃ b off, v = .pointer (some ⟨b, off, none⟩) ∧ (loadVar t ⟨b, off, none⟩).run P w = .ok u w := by
  unfold loadAt at h
  split at h
  · rename_i cs hcs
    obtain ⟨b, off, rfl, hlen, hcells⟩ := readCells_sound hI hv hcs
    obtain ⟨l, g1, g2, g3⟩ := choose_values cs hcells
    rcases loadT_some ht with ⟨k, rfl, hagg, hsz⟩ | ⟨rfl, hagg⟩
    · simp only [ofCells, Option.getD_some] at h hlen
      cases h
      have hk : k = l.length := by omega
      have run : (loadVar t ⟨b, off, none⟩).run P w = .ok (.agg l.toArray) w := by
        simp only [loadVar, Sem.run_bind, run_isAgg hagg, Result.andThen_ok, if_true, run_size hsz]
        rw [hk, run_loadCells l g2]
        rfl
      refine ⟨.agg l.toArray, ?_, .agg _ _ (by simp [g1]) (fun i c u hc hu => g3 i c u hc (by simpa using hu)), b, off, rfl, run⟩
      simp only [Instr.loadAt, Instr.sureAddr, Sem.run_bind, Sem.run_pure, Result.andThen_ok, run]
    · simp only [ofCells, Option.getD_none] at h hlen
      cases cs with
      | nil => cases h
      | cons c0 r =>
        cases r with
        | cons c1 r => cases h
        | nil =>
          cases h
          obtain ⟨u, hu, hr⟩ := hcells 0 c rfl
          rw [Nat.add_zero] at hu
          have run : (loadVar t ⟨b, off, none⟩).run P w = .ok u w := by
            simp only [loadVar, Sem.run_bind, run_isAgg hagg, Result.andThen_ok, Bool.false_eq_true, if_false, run_load, hu]
          exact ⟨u, by simp only [Instr.loadAt, Instr.sureAddr, Sem.run_bind, Sem.run_pure, Result.andThen_ok, run], hr, b, off, rfl, run⟩
  · cases h

end Go.AM
namespace Go.AM
open Go.RowKit
variable {P : Program} {cfg : Cfg} {C : Ctx} {σ τ : St} {w : World} {env : Env} {a : Act} {o : Oper} {v : AV}

/-- A run that comes to what the abstract one came to. -/
def Runs (P : Program) (cfg : Cfg) (C : Ctx) (σ : St) (w : World) (s : Sem Next) (v : AV) (τ : St) : Prop :=
  ∃ nx w' u, s.run P w = .ok nx w' ∧ (nx = .value u ∨ (nx = .skip ∧ u = undef)) ∧ Done C σ w v τ u w' P cfg

theorem Runs.val {s : Sem Value} {u : Value} {w' : World} (h : s.run P w = .ok u w') (hd : Done C σ w v τ u w' P cfg) :
    Runs P cfg C σ w (do pure (.value (← s))) v τ := ⟨.value u, w', u, by simp [h], .inl rfl, hd⟩
theorem Runs.pure {u : Value} (hI : Inv P cfg C σ w) (hv : VR C v u) : Runs P cfg C σ w (Pure.pure (.value u)) v σ := ⟨.value u, w, u, rfl, .inl rfl, .same hI hv⟩

theorem ret1_some {x : Option AV} {σ τ : St} {v : AV} (h : ret1 x σ = some (v, τ)) : x = some v ∧ τ = σ := by
  cases x with
  | none => cases h
  | some y => cases h; exact ⟨rfl, rfl⟩

theorem int?_VR {b : AV} {u : Value} (h : VR C b u) {n : Int} (hn : b.int? = some n) : ∃ k, b = .int k n ∧ u = .int k n := by
  cases h <;> simp at hn
  subst hn; exact ⟨_, rfl, rfl⟩
theorem bool?_VR {b : AV} {u : Value} (h : VR C b u) {n : Bool} (hn : b.bool? = some n) : b = .bool n ∧ u = .bool n := by
  cases h <;> simp at hn
  subst hn; exact ⟨rfl, rfl⟩
theorem str?_VR {b : AV} {u : Value} (h : VR C b u) {s : List UInt8} (hn : b.str? = some s) : b = .str s ∧ u = .string ⟨s.toArray⟩ := by
  cases h <;> simp at hn
  subst hn; exact ⟨rfl, rfl⟩
theorem agg?_VR {b : AV} {u : Value} (h : VR C b u) {cs : List AV} (hn : b.agg? = some cs) : ∃ vs, u = .agg vs ∧ VRs C cs vs := by
  cases h <;> simp at hn
  rename_i hl hh
  subst hn; exact ⟨_, rfl, hl, hh⟩
theorem tup?_VR {b : AV} {u : Value} (h : VR C b u) {cs : List AV} (hn : b.tup? = some cs) : ∃ vs, u = .tuple vs ∧ VRs C cs vs := by
  cases h <;> simp at hn
  rename_i hl hh
  subst hn; exact ⟨_, rfl, hl, hh⟩

theorem s_move {x : Operand} {y : Opd} (hI : Inv P cfg C σ w) (he : EnvR C env a.tmps) (hx : opd x = some y) (ho : o.op = .move x ∨ o.op = .assign x)
    (h : op_move y env σ = some (v, τ)) : Runs P cfg C σ w (execOp a.eval o) v τ := by
  cases h
  rcases ho with ho | ho <;> (unfold execOp; rw [ho]; exact .pure hI (opd_VR hx he))

theorem s_pick {c x y : Operand} {c' x' y' : Opd} (hI : Inv P cfg C σ w) (he : EnvR C env a.tmps) (hc : opd c = some c') (hx : opd x = some x') (hy : opd y = some y') (ho : o.op = .pick c x y)
    (h : op_pick c' x' y' env σ = some (v, τ)) : Runs P cfg C σ w (execOp a.eval o) v τ := by
  unfold op_pick at h
  cases hb : (c'.eval env).bool? with
  | none => rw [hb] at h; cases h
  | some b =>
    rw [hb] at h; cases h
    obtain ⟨_, e⟩ := bool?_VR (opd_VR hc he) hb
    unfold execOp; rw [ho]
    refine ⟨.value (if b then a.eval x else a.eval y), w, _, ?_, .inl rfl, .same hI ?_⟩
    · simp only [e, asBool, Sem.run_bind, Sem.run_pure, Result.andThen_ok]
    · cases b
      · exact opd_VR hy he
      · exact opd_VR hx he

theorem s_load {t : TypeId} {x : Operand} {y : Opd} {n : Option Nat} (hI : Inv P cfg C σ w) (he : EnvR C env a.tmps) (ht : loadT P t = some n) (hx : opd x = some y) (ho : o.op = .load t x)
    (h : op_load n y env σ = some (v, τ)) : Runs P cfg C σ w (execOp a.eval o) v τ := by
  obtain ⟨h1, rfl⟩ := ret1_some h
  obtain ⟨u, h2, h3, _⟩ := loadAt_sound hI ht (opd_VR hx he) h1
  unfold execOp; rw [ho]
  exact .val h2 (.same hI h3)

theorem s_nilCheck {x : Operand} {y : Opd} (hI : Inv P cfg C σ w) (he : EnvR C env a.tmps) (hx : opd x = some y) (ho : o.op = .nilCheck x)
    (h : op_nilCheck y env σ = some (v, τ)) : Runs P cfg C σ w (execOp a.eval o) v τ := by
  obtain ⟨h1, rfl⟩ := ret1_some h
  have hv := opd_VR hx he
  have key : ∃ ad, a.eval x = .pointer (some ad) ∧ VR C v (a.eval x) := by
    generalize y.eval env = b at h1 hv
    generalize a.eval x = u at hv
    cases hv <;> simp at h1
    · rename_i hκ; subst h1; exact ⟨_, rfl, .ptr _ _ _ _ _ hκ⟩
    · rename_i hS hV; subst h1; exact ⟨_, rfl, .eptr _ _ _ _ _ hS hV⟩
  obtain ⟨ad, e, hr⟩ := key
  unfold execOp; rw [ho]
  refine ⟨.value (a.eval x), w, _, ?_, .inl rfl, .same hI hr⟩
  simp only [e]; rfl

theorem s_fieldAddr {t : TypeId} {x : Operand} {y : Opd} {fs : Array Field} {f : Field} {i n : Nat} (hI : Inv P cfg C σ w) (he : EnvR C env a.tmps) (ht : P.underlying t = some (.struct fs)) (hf : fs[i]? = some f)
    (hn : sizeT P f.type = some n) (hn0 : n ≠ 0) (hx : opd x = some y) (ho : o.op = .fieldAddr t x i)
    (h : op_fieldAddr f.offset y env σ = some (v, τ)) : Runs P cfg C σ w (execOp a.eval o) v τ := by
  obtain ⟨h1, rfl⟩ := ret1_some h
  have hv := opd_VR hx he
  have key : ∃ b off, a.eval x = .pointer (some ⟨b, off, none⟩) ∧ VR C v (.pointer (some ⟨b, off + f.offset, none⟩)) := by
    generalize y.eval env = c at h1 hv
    generalize a.eval x = u at hv
    cases hv <;> simp at h1
    · rename_i hκ; subst h1; exact ⟨_, _, rfl, by rw [Nat.add_assoc]; exact .ptr _ _ _ _ _ hκ⟩
    · rename_i hS hV; subst h1; exact ⟨_, _, rfl, by rw [Nat.add_assoc]; exact .eptr _ _ _ _ _ hS hV⟩
  obtain ⟨b, off, e, hr⟩ := key
  unfold execOp; rw [ho]
  refine .val (u := .pointer (some ⟨b, off + f.offset, none⟩)) ?_ (.same hI hr)
  simp only [Instr.fieldAt, Sem.run_bind, run_und ht, Result.andThen_ok, hf, e, Instr.sureAddr, Sem.run_pure, fieldPlace, run_size hn, if_neg hn0, add_at]

end Go.AM
namespace Go.AM
open Go.RowKit
variable {P : Program} {cfg : Cfg} {C : Ctx} {σ τ : St} {w : World} {env : Env} {a : Act} {o : Oper} {v : AV}

/-! ### New objects -/
def Ctx.at_ (C : Ctx) (id : Nat) (l : Loc) : Ctx := { C with κ := fun i => if i = id then some l else C.κ i }
theorem Ctx.at_le {C : Ctx} {id : Nat} (h : C.κ id = none) (l : Loc) : C.Le (C.at_ id l) :=
  ⟨fun _ _ _ h => h, fun i l' hi => by
    show (if i = id then some l else C.κ i) = some l'
    rw [if_neg (fun e => by subst e; rw [h] at hi; cases hi)]; exact hi, fun _ _ _ h => h⟩
@[simp] theorem Ctx.at_self (C : Ctx) (id : Nat) (l : Loc) : (C.at_ id l).κ id = some l := by simp [Ctx.at_]
theorem Ctx.at_other (C : Ctx) {id i : Nat} (l : Loc) (h : i ≠ id) : (C.at_ id l).κ i = C.κ i := by simp [Ctx.at_, h]
theorem fresh_one (hf : Fresh C σ.next (σ.next + 1)) : C.κ σ.next = none ∧ ∀ g, C.T σ.next g = none := hf _ (Nat.le_refl _) (Nat.lt_succ_self _)

theorem sealed_lt (hI : Inv P cfg C σ w) {b x : Nat} {u : Value} (h : C.S b x = some u) : b < w.heap.size :=
  World.block_lt_of_cell? w ⟨b, x, none⟩ (hI.lies b x u h)
theorem sealed_new (hI : Inv P cfg C σ w) {b x : Nat} (hb : w.heap.size ≤ b) : C.S b x = none := by
  cases e : C.S b x with
  | none => rfl
  | some u => have := sealed_lt hI e; omega

/-- A new object in a block of its own: no cells are held against writing. -/
theorem new_obj (hI : Inv P cfg C σ w) (hf : Fresh C σ.next (σ.next + 1)) {x : AObj} {ob : Obj} {l : Loc}
    (hobj : ObjR P cfg (C.at_ σ.next l) (w.alloc ob) σ.next x) (hb : objB (C.at_ σ.next l) σ.next x = some w.heap.size) :
    Inv P cfg (C.at_ σ.next l) (σ.add x) (w.alloc ob) ∧ Ev C σ w (C.at_ σ.next l) (σ.add x) (w.alloc ob) :=
  hI.new (Ctx.at_le (fresh_one hf).1 l) (fun i hi => Ctx.at_other C l hi) (fun _ _ _ => rfl) (fun _ _ _ _ h => h)
    (by show w.heap.size ≤ (w.heap.push ob).size; simp) rfl rfl rfl (fun b hb => Below.heap_alloc w ob b hb) (fun b x u hb' h => by
      have : C.S b x = some u := h
      rw [sealed_new hI hb'] at this; cases this) hobj (fun b hb' => by rw [hb] at hb'; cases hb'; exact Nat.le_refl _)

theorem heap_new (w : World) (o : Obj) : (w.alloc o).heap[w.heap.size]? = some o := by show (w.heap.push o)[w.heap.size]? = _; simp

/-- A new variable, or row, of cells. -/
theorem new_cells (hI : Inv P cfg C σ w) (hf : Fresh C σ.next (σ.next + 1)) {l : List AV} {cs : Array Value} (hl : VRs C l cs) (e : TypeId) :
    Inv P cfg (C.at_ σ.next (.cells w.heap.size 0 cs.size)) (σ.add (.cells l)) (w.alloc (.cells cs e)) ∧
    Ev C σ w (C.at_ σ.next (.cells w.heap.size 0 cs.size)) (σ.add (.cells l)) (w.alloc (.cells cs e)) := by
  refine new_obj hI hf ⟨w.heap.size, 0, cs.size, cs, e, Ctx.at_self _ _ _, heap_new _ _, by rw [hl.1]; omega, Nat.le_refl _, fun j c hc => ?_, fun x => sealed_new hI (Nat.le_refl _)⟩ (by simp [objB])
  obtain ⟨u, hu, hr⟩ := hl.get hc
  exact ⟨u, by rw [Nat.zero_add]; exact hu, hr.mono (Ctx.at_le (fresh_one hf).1 _)⟩

theorem run_newVar (t : TypeId) (u : Value) (w : World) : (newVar t u).run P w = .ok ⟨w.heap.size, 0, none⟩ (w.alloc (.cells u.cells t)) := rfl
theorem s_box {t : TypeId} {x : Operand} {y : Opd} (hI : Inv P cfg C σ w) (he : EnvR C env a.tmps) (hx : opd x = some y) (ho : o.op = .box t x)
    (h : op_box y env σ = some (v, τ)) (hf : Fresh C σ.next τ.next) : Runs P cfg C σ w (execOp a.eval o) v τ := by
  unfold op_box at h
  cases hk : known (y.eval env) with
  | false => rw [hk] at h; cases h
  | true =>
    rw [hk] at h; cases h
    have hc := (opd_VR hx he).cells hk
    obtain ⟨h1, h2⟩ := new_cells hI hf hc t
    unfold execOp; rw [ho]
    refine .val (u := .pointer (some ⟨w.heap.size, 0, none⟩)) (w' := w.alloc (.cells (a.eval x).cells t)) ?_ ⟨_, h2, h1, ?_⟩
    · simp only [Instr.box, Sem.run_bind, run_newVar, Result.andThen_ok, Sem.run_pure]
    · exact .ptr σ.next 0 _ 0 _ (Ctx.at_self _ _ _)

theorem s_alloc {t : TypeId} {z : AV} (hI : Inv P cfg C σ w) (hz : zeroT P t = some z) (ho : o.op = .alloc t)
    (h : op_alloc z env σ = some (v, τ)) (hf : Fresh C σ.next τ.next) : Runs P cfg C σ w (execOp a.eval o) v τ := by
  cases h
  obtain ⟨zv, h1, h2⟩ := run_zero hz w
  obtain ⟨h3, h4⟩ := conv_VR h2 C
  obtain ⟨h5, h6⟩ := new_cells hI hf (h3.cells h4) t
  unfold execOp; rw [ho]
  refine .val (u := .pointer (some ⟨w.heap.size, 0, none⟩)) (w' := w.alloc (.cells zv.cells t)) ?_ ⟨_, h6, h5, ?_⟩
  · simp only [Instr.alloc, Sem.run_bind, h1, run_newVar, Result.andThen_ok, Sem.run_pure]
  · exact .ptr σ.next 0 _ 0 _ (Ctx.at_self _ _ _)

theorem s_makeMap {t k e : TypeId} {r : Option Operand} {ks : List Nat} (hI : Inv P cfg C σ w) (ht : P.underlying t = some (.map k e)) (hr : r = none ∨ ∃ kk n, r = some (.const (.int kk n)))
    (ho : o.op = .makeMap t r) (h : op_makeMap ks env σ = some (v, τ)) (hf : Fresh C σ.next τ.next) : Runs P cfg C σ w (execOp a.eval o) v τ := by
  cases h
  obtain ⟨h5, h6⟩ := new_obj hI hf (x := .map ks []) (ob := .map #[] 0) (l := .blk w.heap.size) ⟨w.heap.size, #[], 0, Ctx.at_self _ _ _, heap_new _ _, [], .refl _, rfl, fun i p e h => by simp at h, fun p h => by simp at h, .nil⟩ (by simp [objB])
  unfold execOp; rw [ho]
  refine .val (u := .map (some w.heap.size)) (w' := w.alloc (.map #[] 0)) ?_ ⟨_, h6, h5, .map _ _ (Ctx.at_self _ _ _)⟩
  rcases hr with rfl | ⟨kk, n, rfl⟩
  · rfl
  · simp only [Option.map_some, Instr.makeMap, Sem.run_bind, run_und ht, Result.andThen_ok, Act.eval, asInt, asIntOf, Sem.run_pure]
    rfl

theorem s_rangeStr {t : TypeId} {x : Operand} {y : Opd} (hI : Inv P cfg C σ w) (he : EnvR C env a.tmps) (ht : P.underlying t = some .string) (hx : opd x = some y) (ho : o.op = .range t x)
    (h : op_rangeStr y env σ = some (v, τ)) (hf : Fresh C σ.next τ.next) : Runs P cfg C σ w (execOp a.eval o) v τ := by
  unfold op_rangeStr at h
  cases hs : (y.eval env).str? with
  | none => rw [hs] at h; cases h
  | some s =>
    rw [hs] at h; cases h
    obtain ⟨_, e⟩ := str?_VR (opd_VR hx he) hs
    obtain ⟨h5, h6⟩ := new_obj hI hf (x := .iter s 0) (ob := .stringIter ⟨s.toArray⟩ 0) (l := .blk w.heap.size) ⟨w.heap.size, Ctx.at_self _ _ _, heap_new _ _⟩ (by simp [objB])
    unfold execOp; rw [ho]
    refine .val (u := .pointer (some ⟨w.heap.size, 0, none⟩)) (w' := w.alloc (.stringIter ⟨s.toArray⟩ 0)) ?_ ⟨_, h6, h5, .itr _ _ (Ctx.at_self _ _ _)⟩
    simp only [Instr.range, Sem.run_bind, run_und ht, Result.andThen_ok, e, Sem.run_pure]
    rfl

/-! ### Values of numbers and texts -/
theorem bin_num {k k' : IntKind} {x y : Int} {op : BinOp} (h : binInt op k x k' y = some v) (t : TypeId) (w : World) :
    ∃ u, (binOp op t (.int k x) (.int k' y)).run P w = .ok u w ∧ ∀ C, VR C v u := by
  have ifk : ∀ {z : AV}, ifK k k' z = some v → k = k' ∧ z = v := by
    intro z hz
    unfold ifK at hz
    cases e : Nat.beq (kcode k) (kcode k') with
    | false => rw [e] at hz; cases hz
    | true => rw [e] at hz; cases hz; exact ⟨kcode_inj e, rfl⟩
  cases op <;> simp only [binInt] at h
  case and | or | xor | andNot => cases h
  case shl =>
    cases e : natI y with
    | none => rw [e] at h; cases h
    | some n =>
      rw [e] at h; cases h
      have := natI_some e; subst this
      refine ⟨_, ?_, fun C => .int _ _⟩
      have h0 : ¬((n : Int) < 0) := by omega
      simp only [binOp, Op.shift, if_neg h0, Int.toNat_natCast, Sem.run_pure]
  case shr =>
    cases e : natI y with
    | none => rw [e] at h; cases h
    | some n =>
      rw [e] at h; cases h
      have := natI_some e; subst this
      refine ⟨_, ?_, fun C => .int _ _⟩
      have h0 : ¬((n : Int) < 0) := by omega
      simp only [binOp, Op.shift, if_neg h0, Int.toNat_natCast, Sem.run_pure]
  case quo =>
    rw [eqI_eq] at h
    by_cases h0 : y = 0
    · subst h0; cases h
    · have : (y == 0) = false := by simpa using h0
      rw [this] at h
      obtain ⟨rfl, rfl⟩ := ifk h
      exact ⟨_, by simp only [binOp, ne_eq, not_true_eq_false, if_false, Op.intDiv, if_neg h0, Sem.run_pure], fun C => .int _ _⟩
  case rem =>
    rw [eqI_eq] at h
    by_cases h0 : y = 0
    · subst h0; cases h
    · have : (y == 0) = false := by simpa using h0
      rw [this] at h
      obtain ⟨rfl, rfl⟩ := ifk h
      exact ⟨_, by simp only [binOp, ne_eq, not_true_eq_false, if_false, Op.intDiv, if_neg h0, Sem.run_pure], fun C => .int _ _⟩
  case add | sub | mul =>
    obtain ⟨rfl, rfl⟩ := ifk h
    refine ⟨_, by simp only [binOp, ne_eq, not_true_eq_false, if_false, Op.intArith, Sem.run_pure]; rfl, fun C => ?_⟩
    rw [wrapK_eq]; exact .int _ _
  all_goals
    obtain ⟨rfl, rfl⟩ := ifk h
    refine ⟨_, by simp only [binOp, ne_eq, not_true_eq_false, if_false, Op.intCmp, Sem.run_pure]; rfl, fun C => ?_⟩
    simp only [eqI_eq, ltI_eq]
    first
      | exact .bool _
      | (have : ∀ (b c : Bool), b = c → VR C (.bool b) (.bool c) := fun b c e => e ▸ .bool _
         apply this
         by_cases hh : x < y <;> by_cases hh' : y < x <;> simp [hh, hh'] <;> omega)

theorem ba_toList (l : List UInt8) : (⟨l.toArray⟩ : ByteArray).toList = l := ByteArray.toList_mk l

theorem bytesLt_eq (a b : List UInt8) : bytesLt a b = Op.bytesLess a b := by
  induction a generalizing b with
  | nil => cases b <;> rfl
  | cons x a ih =>
    cases b with
    | nil => rfl
    | cons y b =>
      show (bif Nat.blt x.toNat y.toNat then true else bif Nat.beq x.toNat y.toNat then bytesLt a b else false) = (decide (x < y) || (x == y && Op.bytesLess a b))
      rw [blt_eq, ih]
      by_cases h : x < y
      · have : x.toNat < y.toNat := UInt8.lt_iff_toNat_lt.1 h
        simp [h, this]
      · have h' : ¬(x.toNat < y.toNat) := fun e => h (UInt8.lt_iff_toNat_lt.2 e)
        by_cases e : x = y
        · subst e; simp
        · have e' : ¬(x.toNat = y.toNat) := fun e' => e (u8_toNat_inj e')
          simp [h, h', nbeq e', e]

theorem bin_str {x y : List UInt8} {op : BinOp} (h : binStr op x y = some v) (t : TypeId) (w : World) :
    ∃ u, (binOp op t (.string ⟨x.toArray⟩) (.string ⟨y.toArray⟩)).run P w = .ok u w ∧ ∀ C, VR C v u := by
  have vb : ∀ (b c : Bool), b = c → ∀ C, VR C (.bool b) (.bool c) := fun b c e C => e ▸ .bool _
  cases op <;> simp only [binStr] at h
  case add =>
    cases e : Nat.ble (x.length + y.length) 9223372036854775807 with
    | false => rw [e] at h; cases h
    | true =>
      rw [e] at h; cases h
      have hle := Nat.le_of_ble_eq_true e
      refine ⟨.string ⟨(x ++ y).toArray⟩, ?_, fun C => .str _⟩
      have hs : ¬(((x.length + y.length : Nat) : Int) > IntKind.i64.max) := by
        have : IntKind.i64.max = 9223372036854775807 := by decide
        rw [this]; omega
      have hx : (⟨x.toArray⟩ : ByteArray).size = x.length := by simp [ByteArray.size]
      have hy : (⟨y.toArray⟩ : ByteArray).size = y.length := by simp [ByteArray.size]
      simp only [binOp, Op.stringOp, hx, hy, if_neg hs, Sem.run_pure]
      have e : (⟨x.toArray⟩ : ByteArray) ++ ⟨y.toArray⟩ = ⟨(x ++ y).toArray⟩ := by apply ByteArray.ext; simp
      rw [e]
  all_goals first
    | (cases h; done)
    | (cases h
       refine ⟨_, by simp only [binOp, Op.stringOp, Sem.run_pure]; rfl, ?_⟩
       apply vb
       simp only [ba_toList, eqS_eq, bytesLt_eq])

theorem s_bin {t s : TypeId} {x y : Operand} {x' y' : Opd} {op : BinOp} (hI : Inv P cfg C σ w) (he : EnvR C env a.tmps) (_ht : (∃ k, P.underlying t = some (.int k)) ∨ P.underlying t = some .string)
    (hx : opd x = some x') (hy : opd y = some y') (ho : o.op = .binOp op t x y s) (h : op_bin op x' y' env σ = some (v, τ)) : Runs P cfg C σ w (execOp a.eval o) v τ := by
  obtain ⟨h1, rfl⟩ := ret1_some h
  have hx := opd_VR hx he
  have hy := opd_VR hy he
  have key : ∃ u, (binOp op t (a.eval x) (a.eval y)).run P w = .ok u w ∧ VR C v u ∧ (eqGuard op t x y (a.eval x) (a.eval y)).run P w = .ok () w := by
    generalize x'.eval env = p at h1 hx
    generalize y'.eval env = q at h1 hy
    have guard_ok : ∀ (u u' : Value), (∀ c, u ≠ .agg c) → u ≠ .nilIface → (eqGuard op t x y u u').run P w = .ok () w := by
      intro u u' h1 h2
      cases u <;> first
        | exact absurd rfl h2
        | exact absurd rfl (h1 _)
        | (cases op <;> rfl)
    cases p <;> try (simp only [eq_binL_junk, eq_binL_undef, eq_binL_bool, eq_binL_nilp, eq_binL_nilm, eq_binL_nilf, eq_binL_nili, eq_binL_agg, eq_binL_tup, eq_binL_slice, eq_binL_hsl, eq_binL_ptr, eq_binL_eptr, eq_binL_map, eq_binL_itr, eq_binL_fn, eq_binL_iface] at h1)
    all_goals try cases h1
    · rename_i k n
      simp only [eq_binL_int] at h1
      cases q <;> simp at h1
      rename_i k' n'
      generalize a.eval x = ux at hx
      generalize a.eval y = uy at hy
      cases hx; cases hy
      obtain ⟨u, h2, h3⟩ := bin_num (P := P) h1 t w
      exact ⟨u, h2, h3 C, guard_ok _ _ (by simp) (by simp)⟩
    · rename_i s
      simp only [eq_binL_str] at h1
      cases q <;> simp at h1
      rename_i s'
      generalize a.eval x = ux at hx
      generalize a.eval y = uy at hy
      cases hx; cases hy
      obtain ⟨u, h2, h3⟩ := bin_str (P := P) h1 t w
      exact ⟨u, h2, h3 C, guard_ok _ _ (by simp) (by simp)⟩
  obtain ⟨u, h2, h3, h4⟩ := key
  unfold execOp; rw [ho]
  refine .val (u := u) ?_ (.same hI h3)
  simp only [Sem.run_bind, h4, Result.andThen_ok, h2]

end Go.AM
