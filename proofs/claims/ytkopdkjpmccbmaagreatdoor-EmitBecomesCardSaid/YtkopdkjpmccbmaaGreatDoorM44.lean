/- A part of the proof of: EmitBecomes: what a term becomes by patterns, and a pattern's name, is what the document says, or the error is told. -/
import Derived.Test.YtkopdkjpmccbmaaGreatDoorM23
import Derived.Test.YtkopdkjpmccbmaaGreatDoorM33
import Derived.Test.YtkopdkjpmccbmaaGreatDoorM43
import Derived.Test.YtkopdkjpmccbmaaGreatDoorCards
import Derived.Test.YtkopdkjpmccbmaaGreatDoorTie
import Derived.WalkKit
import Derived.ProofKit
import Derived.OpenShut
import Derived.Deep.DeepHandedRow
import Derived.Lib.LaidTab
import Derived.SevenTiedAt
namespace Go.AM
open Go.RowKit Go.Proofs Go.ChangeShapes Go.WideShapes Go.ChangeAt
variable {P : Program} {cfg : Cfg} {C : Ctx} {σ : St} {w w' : World}

/-- A function without arguments that answers one bool, whatever there is. -/
def primBool (b : Bool) : CallF → List AV → St → Option (AV × St) := fun _ args σ => match args with
  | [] => some (.bool b, σ)
  | _ => none

theorem prim_closed {T : Tab} (hT : TabOk P cfg T) {fuel f : Nat} {b : Bool} {τ : St} (hcall : ∀ (args : Array Value) (w : World), (callFunc f args).run P w = .ok (.enter f args) w) (h : call T fuel (.fn f) [] ⟨[], 0⟩ = some (.bool b, τ)) : PrimOk P cfg f (primBool b) := by
  intro cl hcl args σ v τ' hp
  cases args with
  | cons x r => cases hp
  | nil =>
    cases hp
    refine ⟨Nat.le_refl _, fun C w cargs hI ha hf => ⟨hcall _ _, ?_⟩⟩
    have hI0 : Inv P cfg ⟨fun _ _ => none, fun _ => none, fun _ _ => none⟩ ⟨[], 0⟩ w := ⟨⟨fun _ _ _ h => (by cases h), List.Pairwise.nil, fun _ _ h => (by cases h), fun _ _ h => (by cases h), fun _ _ _ _ _ h => (by cases h)⟩, fun p hp => ⟨(hI.pin p hp).1, fun ⟨_, _, h, _⟩ => by cases h⟩⟩
    have hc0 : cargs = #[] := by
      have := ha.1; simp at this; exact Array.eq_empty_of_size_eq_zero this.symm
    subst hc0
    refine (call_sound hT h hI0 ⟨rfl, fun i c v h => by simp at h⟩ (fun _ _ _ => ⟨rfl, fun _ => rfl⟩)).mono ?_
    rintro e w' ⟨u, rfl, D, hE, _, hv⟩
    have hno : ∀ b, ¬Owned (⟨fun _ _ => none, fun _ => none, fun _ _ => none⟩ : Ctx) ⟨[], 0⟩ b := fun b ⟨i, o, h, _⟩ => by cases h
    obtain ⟨g1, g2⟩ := hI.grown hE.size (fun b hb => hE.keep b hb (hno b)) hE.os hE.tape hE.output
    have hu : u = .bool b := by cases hv; rfl
    subst hu
    exact ⟨_, rfl, C, g2, g1, .bool _⟩

noncomputable def prim2 (n : Nat) : Option (CallF → List AV → St → Option (AV × St)) := bif Nat.beq n 6 then some (primBool true) else bif Nat.beq n 30 then some primItoa else bif Nat.beq n 186 then some primOnce else none
/-- The table, and that the examples come out right is known. -/
noncomputable def tab2 : Tab := ⟨func, prim2⟩
theorem pins_eq : AM.cfg.pins = [(0, (List.map (fun z => Value.int .u64 z) Lib.pow10Tab).toArray)] := rfl

theorem tab2_ok {fuel : Nat} {τ : St} (h : call tab fuel (.fn 6) [] ⟨[], 0⟩ = some (.bool true, τ)) : TabOk Tryz.prog AM.cfg tab2 where
  mixed := mixed
  pat := pat_ok mixed
  func := func_tree
  prim := fun n p hp => by
    have h' : (bif Nat.beq n 6 then some (primBool true) else bif Nat.beq n 30 then some primItoa else bif Nat.beq n 186 then some primOnce else none) = some p := hp
    cases hb : Nat.beq n 6 with
    | true =>
      rw [hb] at h'; cases h'
      have := Nat.eq_of_beq_eq_true hb
      subst this; exact prim_closed tab_ok Tryz.call6 h
    | false =>
      rw [hb, cond_false] at h'
      cases hb1 : Nat.beq n 30 with
      | true =>
        rw [hb1] at h'; cases h'
        have := Nat.eq_of_beq_eq_true hb1
        subst this; exact itoa_ok pins_eq Tryz.call30
      | false =>
        rw [hb1, cond_false] at h'
        cases hb2 : Nat.beq n 186 with
        | true =>
          rw [hb2] at h'; cases h'
          have := Nat.eq_of_beq_eq_true hb2
          subst this; exact once_ok
        | false => rw [hb2] at h'; cases h'

def EmitBecomesLaw : Prop := ∀ (l : List Tm) (t : Tm) (n : Nat), (∀ x ∈ l, x.Wf) → l.length ≤ 9223372036854775807 → t.Wf → n < 65536 → ∃ fuel τ, call tab2 fuel (.fn 3) [.slice (Tm.avs l) .none, t.av, .int .u16 n] ⟨[], 0⟩ = some (.bool true, τ)

/-- Behind a call from nothing: what lay there lies there still. -/
theorem below_of {D : Ctx} {τ : St} (h : Ev (Ctx.all w) ⟨[], 0⟩ w D τ w') : Below w.heap.size w w' := by
  have hno : ∀ b, ¬Owned (Ctx.all w) ⟨[], 0⟩ b := fun b ⟨i, o, h, _⟩ => by cases h
  exact ⟨h.os, h.tape, h.output, h.size, fun k hk => h.keep k hk (hno k)⟩

theorem law_calls (hk : ∃ fuel τ, call tab fuel (.fn 6) [] ⟨[], 0⟩ = some (.bool true, τ)) (hlaw : EmitBecomesLaw) {W : World} (hpin : ∀ p ∈ AM.cfg.pins, ∃ e k, W.heap[p.1]? = some (.cells p.2 e k)) {v0 v1 : Value} {t : Tm} {l : List Tm} {n : Nat} (ht : t.Wf) (hl : ∀ x ∈ l, x.Wf) (hn : l.length ≤ 9223372036854775807) (hn2 : n < 65536)
    (h0 : VR (Ctx.all W) (.slice (Tm.avs l) .none) v0) (h1 : VR (Ctx.all W) t.av v1) :
    Calls Tryz.prog 3 #[v0, v1, .int .u16 n] W fun e w' => e = .returned (.bool true) ∧ Below W.heap.size W w' := by
  obtain ⟨f0, τ0, hk⟩ := hk
  obtain ⟨fuel, τ, h⟩ := hlaw l t n hl hn ht hn2
  refine (call_sound (tab2_ok hk) h (inv_all W hpin) ⟨rfl, fun i c v hc hv => ?_⟩ (fun _ _ _ => ⟨rfl, fun _ => rfl⟩)).mono ?_
  · match i with
    | 0 => simp at hc hv; subst hc; subst hv; exact h0
    | 1 => simp at hc hv; subst hc; subst hv; exact h1
    | 2 => simp at hc hv; subst hc; subst hv; exact .int _ _
    | n + 3 => simp at hc
  · rintro e w' ⟨u, rfl, D, hE, _, hv⟩
    have hu : u = .bool true := by cases hv; rfl
    subst hu
    exact ⟨rfl, below_of hE⟩

/-- The row's last step, where new blocks alone are known of, of a row that does not say 'again'. -/
theorem post_below {H : Type} {enc : TypeId × Value → H} {P : Program} {f : Func} {s : ChangeSpec} {apart fresh handsOn : Bool} {W W' : World} {args : Array Value} {v : Value} {ds gs : List (DataW H)} {before pa pv : List MemPlace}
    (hW : DataW.Whole enc P f.params.toList s.vars apart W args.toList ds gs before)
    (hres : ∀ (b : Nat) (sp : Nat → Bool) (hd : Bool), DataW.TrodAll enc P W' b sp hd f.resultTypes.toList (v.resultList f.resultTypes.size) (s.fn H (ds ++ gs)).results [])
    (hargs : DataW.TrodAll enc P W' 0 (fun b => decide (b < W.heap.size)) true f.params.toList args.toList (s.fn H (ds ++ gs)).args pa)
    (hvars : DataW.TrodVars enc P W' (fun b => decide (b < W.heap.size)) s.vars (s.fn H (ds ++ gs)).vars pv)
    (hps : before = pa ++ pv) (hb : Below W.heap.size W W') :
    s.post enc P f apart fresh handsOn false W args v W' := by
  refine ⟨ds, gs, before, [], pa, pv, hW, hres _ _ _, hargs, hvars, World.keptBut_mono (fun p hp => ⟨hp, ?_⟩) (hb.frame (· ∈ before)), fun h => absurd h (by simp)⟩
  rw [hps, List.mem_append] at hp
  exact Or.inr hp
end Go.AM

namespace Go.Proofs.YtkopdkjpmccbmaaGreatDoor
open Go.RowKit Go.Proofs Go.ChangeShapes Go.WideShapes Go.ChangeAt Go.AM
theorem own : ownKnob Tryz.prog.godebug = none := by kernel_rfl
theorem laidOut : laidOutB Tryz.prog = true := by kernel_rfl

set_option maxRecDepth 100000 in
theorem contract (hk : ∃ fuel τ, AM.call tab fuel (.fn 6) [] ⟨[], 0⟩ = some (.bool true, τ)) (hlaw : EmitBecomesLaw) (H : Type) (enc : TypeId × Value → H) (W : World) (hpin : ∀ p ∈ AM.cfg.pins, ∃ e k, W.heap[p.1]? = some (.cells p.2 e k)) (base : Nat) (args : Array Value) (ds gs : List (DataW H)) (before : List MemPlace)
    (hval : ∀ (j : Nat) t v, Tryz.f3.params[j]? = some t → args[j]? = some v → Value.okWide Tryz.prog W .any base t v)
    (hW : DataW.Whole enc Tryz.prog Tryz.f3.params.toList Rows.emitBecomesSpec.vars false W args.toList ds gs before) :
    Calls Tryz.prog 3 args W fun e W' => ∃ v, e = .returned v ∧ Rows.emitBecomesSpec.post enc Tryz.prog Tryz.f3 false true false false W args v W' := by
  have hW' := hW
  obtain ⟨p, q, hA0, hV, rfl, hfz, hnd⟩ := hW
  have hA : DataW.TrodAll enc Tryz.prog W 0 (fun _ => true) true Tryz.f3.params.toList args.toList ds p := hA0
  rw [Tryz.params3] at hA hval
  obtain ⟨v0, v1, v2, d0, d1, d2, p0, p1, p2, rfl, rfl, rfl, h0, h1, h2⟩ := trodAll_three hA
  obtain ⟨rfl, rfl⟩ := trodVars_none hV
  simp only [List.append_nil] at hW'
  obtain ⟨cs, hv1, _⟩ := okWide_struct Tryz.underlying24 (hval 1 24 v1 rfl rfl)
  obtain ⟨a, len, cap, hv0⟩ := okWide_slice Tryz.underlying22 (hval 0 22 v0 rfl rfl)
  obtain ⟨t, t1, t2⟩ := trod_term h1 ⟨cs, hv1⟩
  obtain ⟨l, l1, l2, l3⟩ := trod_terms h0 (by rw [hv0]; rfl)
  obtain ⟨n, rfl, hn⟩ : ∃ n : Nat, v2 = .int .u16 (n : Int) ∧ n < 65536 := by
    obtain ⟨fuel, hf⟩ := h2
    obtain ⟨z, e0, _, w0⟩ := DataW.trod_int Tryz.underlying25 hf
    have w1 : (decide (IntKind.min .u16 ≤ z) && decide (z ≤ IntKind.max .u16)) = true := w0
    rw [Bool.and_eq_true] at w1
    have h1 := of_decide_eq_true w1.1
    have h2 := of_decide_eq_true w1.2
    have e1 : IntKind.min .u16 = 0 := by decide
    have e2 : IntKind.max .u16 = 65535 := by decide
    rw [e1] at h1; rw [e2] at h2
    refine ⟨z.toNat, ?_, by omega⟩
    rw [Int.toNat_of_nonneg h1]
    have hcell : ∀ v : Value, v.cells.toList = [.int .u16 z] → (∃ k, v = .int .u16 k) → v = .int .u16 z := fun v hv ⟨k, hk⟩ => by subst hk; simpa [Value.cells] using hv
    exact hcell v2 e0 (okWide_int Tryz.underlying25 (hval 2 25 v2 rfl rfl))
  refine (law_calls hk hlaw hpin t1 l1 l2 hn l3 t2).mono ?_
  rintro e W' ⟨rfl, hb⟩
  have hlt : ∀ x ∈ p0 ++ (p1 ++ p2), x.block < W.heap.size := fun x hx => hW'.lt x (by simpa using hx)
  have g0 : DataW.Trod enc Tryz.prog W' 0 (fun b => decide (b < W.heap.size)) true 22 v0 d0 p0 := Below.trod laidOut (by kernel_rfl) (of_decide_eq_true (by kernel_rfl)) h0 hb (fun x hx => hlt x (by simp [hx]))
  have g1 : DataW.Trod enc Tryz.prog W' 0 (fun b => decide (b < W.heap.size)) true 24 v1 d1 p1 := Below.trod laidOut (by kernel_rfl) (of_decide_eq_true (by kernel_rfl)) h1 hb (fun x hx => hlt x (by simp [hx]))
  have g2 : DataW.Trod enc Tryz.prog W' 0 (fun b => decide (b < W.heap.size)) true 25 (.int .u16 n) d2 p2 := Below.trod laidOut (by kernel_rfl) (of_decide_eq_true (by kernel_rfl)) h2 hb (fun x hx => hlt x (by simp [hx]))
  exact ⟨_, rfl, post_below (pv := []) hW' (fun _ _ _ => trodAll_cons_mk (shut_bool Tryz.underlying4 _) trodAll_mk0) (by rw [Tryz.params3]; exact trodAll_mk3 g0 g1 g2) rfl (by simp) hb⟩

end Go.Proofs.YtkopdkjpmccbmaaGreatDoor
namespace Go.Proofs.YtkopdkjpmccbmaaGreatDoor
open Go.RowKit Go.Proofs Go.ChangeShapes Go.WideShapes Go.ChangeAt Go.AM

/-! ### A world for the witness -/
def lit1 : DataW Unit → List Value
  | .lit (.int k n) => [.int k n]
  | _ => []
def lit2 : DataW Unit → List Value
  | .agg l => l.flatMap lit1
  | d => lit1 d
def lit3 (d : DataW Unit) : Array Value := (match d with
  | .agg l => l.flatMap lit2
  | d => lit1 d).toArray
def lay (h : Array Obj) (g : Nat) (d : DataW Unit) : Array Obj := h.modify g fun
  | .cells _ t frozen => .cells (lit3 d) t frozen
  | o => o
def layAll (P : Program) : List (String × DataW Unit) → Array Obj → Array Obj
  | [], h => h
  | (n, d) :: r, h => layAll P r (match P.globalNamed n with | some g => lay h g d | none => h)
def arg0 : Value := .agg #[.int .i64 0, .string ⟨#[]⟩, .int .i64 0, .slice none 0 0]
noncomputable def laidWorld (os : Os) : World :=
  { World.holding Tryz.prog os ⟨#[], #[], []⟩ with heap := layAll Tryz.prog Rows.emitBecomesRow.laid (World.holding Tryz.prog os ⟨#[], #[], []⟩).heap }
set_option maxRecDepth 100000 in
theorem laid_met (os : Os) : laidMet Tryz.prog Rows.emitBecomesRow.laid ((laidWorld os).forCall (fun _ _ => 0) ⟨#[], #[.slice none 0 0, arg0, .int .u16 0], []⟩).memory :=
  laidMet_of_run' 8 (by kernel_rfl) (by kernel_rfl)
theorem reads (os : Os) {H : Type} (enc : TypeId × Value → H) : ∃ ds places, DataW.whole enc Tryz.prog ((laidWorld os).forCall (fun _ _ => 0) ⟨#[], #[.slice none 0 0, arg0, .int .u16 0], []⟩).memory Tryz.f3.params.toList Rows.emitBecomesSpec.vars false #[.slice none 0 0, arg0, .int .u16 0].toList 8 = some (ds, [], places) :=
  ⟨[.nil, .agg [.lit (.int .i64 0), .lit (.string []), .lit (.int .i64 0), .nil], .lit (.int .u16 0)], [], by kernel_rfl⟩
end Go.Proofs.YtkopdkjpmccbmaaGreatDoor
namespace Go.Proofs.YtkopdkjpmccbmaaGreatDoor
open Go.RowKit Go.Proofs Go.ChangeShapes Go.WideShapes Go.ChangeAt Go.AM
variable (hk : ∃ fuel τ, AM.call tab fuel (.fn 6) [] ⟨[], 0⟩ = some (.bool true, τ)) (hlaw : EmitBecomesLaw)
include hk hlaw

omit hk hlaw in
theorem tabType : (Tryz.prog.globals[0]?).map (·.type) = some 262 := by kernel_rfl
omit hk hlaw in
theorem noHandles : (Rows.emitBecomesRow.laid.filter fun x => x.2.handleName?.isSome) = [] := by kernel_rfl
set_option maxRecDepth 100000 in
omit hk hlaw in
/-- The table lies in its block. -/
theorem pin_of_laid {W : World} (h : laidMetH Tryz.prog Rows.emitBecomesRow.laid W) : ∀ p ∈ AM.cfg.pins, ∃ e k, W.heap[p.1]? = some (.cells p.2 e k) := by
  unfold laidMetH at h
  rw [noHandles] at h
  obtain ⟨ps, ⟨_, _, _, _, _, _, _, _, _, _, ⟨_, _, _, _, _, _, _, _, _, _, ⟨g, t, cs, fuel, p, q, hg, ht, hvar, hd, _, _⟩, _⟩, _⟩, _⟩ := h
  obtain rfl := Option.some.inj (Tryz.tabNamed.symm.trans hg)
  obtain rfl := Option.some.inj (tabType.symm.trans ht)
  have hcs := Lib.cells_of_tab (zs := Lib.pow10Tab) (k := .u64) Tryz.underlying262 Tryz.underlying221 (by kernel_rfl) (by kernel_rfl) hd
  intro p hp
  rw [pins_eq] at hp
  simp only [List.mem_singleton] at hp
  subst hp
  unfold World.var? at hvar
  rw [Tryz.tabNamed] at hvar
  have hv' : (match W.heap[0]? with | some (Obj.cells cs _ _) => some cs | _ => none) = some cs := hvar
  cases h0 : W.heap[0]? with
  | none => rw [h0] at hv'; cases hv'
  | some o =>
    rw [h0] at hv'
    cases o <;> try (cases hv'; done)
    rename_i c e k
    simp only [Option.some.injEq] at hv'
    subst hv'
    refine ⟨e, k, ?_⟩
    show some (Obj.cells c e k) = some (Obj.cells (List.map (fun z => Value.int .u64 z) Lib.pow10Tab).toArray e k)
    rw [← hcs]

set_option maxRecDepth 100000 in
theorem lifted (os : Os) (started : os.Started) (H : Type) (enc : TypeId × Value → H) (F : Stop.Interp) :
    ReturnsInHanded {} Tryz.checked os 3 .any ((OpenSpec.ofChange Rows.emitBecomesSpec).preRow enc Tryz.prog Tryz.f3 Rows.emitBecomesRow.domain false Rows.emitBecomesRow.laid) (((OpenSpec.ofChange Rows.emitBecomesSpec).at F).post enc Tryz.prog Tryz.f3 false true false false) := by
  obtain ⟨ds, places, hx⟩ := reads os enc
  refine returnsInHanded_of_row (C := Tryz.checked) (s := OpenSpec.ofChange Rows.emitBecomesSpec) own started (by kernel_rfl) Tryz.func3
    (witness_row_at (enc := enc) (C := Tryz.checked) false (laidWorld os) #[.slice none 0 0, arg0, .int .u16 0] rfl (by kernel_rfl) (by kernel_rfl) (by kernel_rfl)
      (OpenSpec.preRow_of_cond 8 hx (by kernel_rfl) (fun k hk => by cases hk) (by kernel_rfl) (laid_met os))) ?_
  intro W base args ds gs before hval hW _ _ _ hlaid _ _
  exact contract hk hlaw H enc W (pin_of_laid hlaid) base args ds gs before hval hW

end Go.Proofs.YtkopdkjpmccbmaaGreatDoor
