/- A part of the proof of: EmitBecomes: what a term becomes by patterns, and a pattern's name, is what the document says, or the error is told. -/
import Derived.Test.YtkopdkjpmccbmaaGreatDoorM21
import Derived.Test.YtkopdkjpmccbmaaGreatDoorM22
import Derived.Test.YtkopdkjpmccbmaaGreatDoorProg
import Derived.ChangeArms
import Derived.ChangeSame
import Derived.Carry
namespace Go.AM
open Go.RowKit Go.Proofs

/-- All that lies in a world, held against writing. -/
def Ctx.all (w : World) : Ctx := ⟨fun b x => w.cell? ⟨b, x, none⟩, fun _ => none, fun _ _ => none⟩

theorem inv_all {P : Program} {cfg : Cfg} (w : World) (hp : ∀ p ∈ cfg.pins, ∃ e k, w.heap[p.1]? = some (.cells p.2 e k)) : Inv P cfg (Ctx.all w) ⟨[], 0⟩ w :=
  ⟨⟨fun b x u h => h, List.Pairwise.nil, fun id o h => (by cases h), fun id o h => (by cases h), fun i j o o' b h => (by cases h)⟩, fun p hp' => ⟨hp p hp', fun ⟨i, o, h, _⟩ => by cases h⟩⟩

theorem lit_wf {n : Int} (h : (Lit.int .i64 n).wf = true) : inI64 n := by
  have h' : (decide (IntKind.min .i64 ≤ n) && decide (n ≤ IntKind.max .i64)) = true := h
  rw [Bool.and_eq_true] at h'
  have h1 := of_decide_eq_true h'.1
  have h2 := of_decide_eq_true h'.2
  have e1 : IntKind.min .i64 = -9223372036854775808 := by decide
  have e2 : IntKind.max .i64 = 9223372036854775807 := by decide
  rw [e1] at h1; rw [e2] at h2
  exact ⟨h1, h2⟩

theorem ce24 : Tryz.prog.cellsOf 24 = 4 := by kernel_rfl
theorem ce22 : Tryz.prog.cellsOf 22 = 1 := by kernel_rfl
theorem ce3 : Tryz.prog.cellsOf 3 = 1 := by kernel_rfl
theorem ce9 : Tryz.prog.cellsOf 9 = 1 := by kernel_rfl

section
variable {H : Type} {enc : TypeId × Value → H} {w : World} {base : Nat} {spare : Nat → Bool} {held : Bool}

/-- Cells that are there. -/
theorem cells_there {a : Addr} {n : Nat} {cs : List Value} (h : w.cells? base a n = some cs) : cs.length = n ∧ ∀ i, i < n → w.cell? (a.add i) = cs[i]? := by
  unfold World.cells? at h
  split at h
  · have hl : ∀ (l : List Nat) (cs : List Value), l.mapM (fun i => w.cell? (a.add i)) = some cs → cs.length = l.length ∧ ∀ (i k : Nat), l[i]? = some k → w.cell? (a.add k) = cs[i]? := by
      intro l
      induction l with
      | nil => intro cs h; simp at h; subst h; exact ⟨rfl, fun i k h => by simp at h⟩
      | cons x l ih =>
        intro cs h
        rw [List.mapM_cons] at h
        cases hx : w.cell? (a.add x) with
        | none => rw [hx] at h; cases h
        | some v =>
          rw [hx] at h
          cases hm : l.mapM (fun i => w.cell? (a.add i)) with
          | none => rw [hm] at h; cases h
          | some r =>
            rw [hm] at h; cases h
            obtain ⟨i1, i2⟩ := ih r hm
            refine ⟨by simp [i1], fun i k hk => ?_⟩
            cases i with
            | zero => simp at hk; subst hk; simpa using hx
            | succ i => simpa using i2 i k (by simpa using hk)
    obtain ⟨h1, h2⟩ := hl _ _ h
    refine ⟨by simpa using h1, fun i hi => h2 i i (by simp [hi])⟩
  · cases h

theorem spot_none {a : Addr} {v : Value} (h : w.cell? a = some v) : a.spot = none := by
  unfold World.cell? at h
  split at h
  · split at h
    · cases h
    · rename_i hs; simpa using hs
  · cases h

def Tm.cells : Tm → List AV
  | .mk k s n l => [.int .i64 k, .str s, .int .i64 n, .slice (Tm.avs l) .none]
theorem Tm.av_cells (t : Tm) : t.av.cells = t.cells := by cases t; rfl

theorem vrs_four {C : Ctx} {a b c d : AV} {x y z u : Value} (h1 : VR C a x) (h2 : VR C b y) (h3 : VR C c z) (h4 : VR C d u) : VRs C [a, b, c, d] #[x, y, z, u] := by
  refine ⟨rfl, fun i e v he hv => ?_⟩
  match i with
  | 0 => simp at he hv; subst he; subst hv; exact h1
  | 1 => simp at he hv; subst he; subst hv; exact h2
  | 2 => simp at he hv; subst he; subst hv; exact h3
  | 3 => simp at he hv; subst he; subst hv; exact h4
  | n + 4 => simp at he

theorem four_list {α : Type} {l : List α} (h : l.length = 4) : ∃ a b c d, l = [a, b, c, d] := by
  match l, h with
  | [a, b, c, d], _ => exact ⟨a, b, c, d, rfl⟩

/-- Rows of terms that came in, and terms. -/
theorem trod_both : ∀ (fuel : Nat), (∀ (cs : List Value) (x : DataW H × List MemPlace), DataW.trod enc Tryz.prog w base spare held fuel 22 cs = some x → ∃ (l : List Tm) (v : Value), cs = [v] ∧ (∀ t ∈ l, t.Wf) ∧ l.length ≤ 9223372036854775807 ∧ VR (Ctx.all w) (.slice (Tm.avs l) .none) v) ∧
    (∀ (cs : List Value) (x : DataW H × List MemPlace), DataW.trod enc Tryz.prog w base spare held fuel 24 cs = some x → ∃ t : Tm, t.Wf ∧ VRs (Ctx.all w) t.cells cs.toArray) := by
  intro fuel
  induction fuel with
  | zero => exact ⟨fun cs x h => by simp [DataW.trod] at h, fun cs x h => by simp [DataW.trod] at h⟩
  | succ fuel ih =>
    refine ⟨fun cs x h => ?_, fun cs x h => ?_⟩
    · rcases DataW.trod_slice Tryz.underlying22 h with ⟨rfl, _⟩ | ⟨a, len, cap, elems, rest, n, hn, rfl, _, _, hl, hm, hlen, hel, _⟩
      · refine ⟨[], _, rfl, fun t ht => absurd ht List.not_mem_nil, by simp, ?_⟩
        exact .slice [] .none none 0 0 0 1 (fun _ _ => undef) (by omega) (Nat.le_refl _) (fun h => absurd rfl h) (fun i e h => by cases h) (fun i e j c h => by cases h) (fun i e j c h => by cases h) trivial
      · have hn' : n = fuel := by omega
        subst hn'
        -- each element is a term
        have each : ∀ i, i < len → ∃ (t : Tm) (cs : List Value), t.Wf ∧ VRs (Ctx.all w) t.cells cs.toArray ∧ cs.length = 4 ∧ ∀ j, j < 4 → w.cell? ((a.add (i * 4)).add j) = cs[j]? := by
          intro i hi
          have h1 := hel i hi
          rw [ce24, List.getElem?_eq_getElem (by omega)] at h1
          rw [Option.bind_eq_some_iff] at h1
          obtain ⟨cs, h2, h3⟩ := h1
          obtain ⟨t, t1, t2⟩ := ih.2 cs _ h3
          obtain ⟨k1, k2⟩ := cells_there h2
          exact ⟨t, cs, t1, t2, k1, k2⟩
        have key : ∀ m, m ≤ len → ∃ l : List Tm, l.length = m ∧ ∀ i t, l[i]? = some t → t.Wf ∧ ∃ cs : List Value, VRs (Ctx.all w) t.cells cs.toArray ∧ cs.length = 4 ∧ ∀ j, j < 4 → w.cell? ((a.add (i * 4)).add j) = cs[j]? := by
          intro m
          induction m with
          | zero => intro _; exact ⟨[], rfl, fun i t h => by simp at h⟩
          | succ m ihm =>
            intro hm'
            obtain ⟨l, l1, l2⟩ := ihm (by omega)
            obtain ⟨t, cs, e1, e2, e3, e4⟩ := each m (by omega)
            refine ⟨l ++ [t], by simp [l1], fun i t' ht => ?_⟩
            by_cases hi : i < m
            · rw [List.getElem?_append_left (by omega)] at ht
              exact l2 i t' ht
            · rw [List.getElem?_append_right (by omega)] at ht
              have : i - l.length = 0 := by
                have := (List.getElem?_eq_some_iff.1 ht).1; simp at this; omega
              rw [this] at ht
              simp at ht; subst ht
              have hie : i = m := by omega
              subst hie
              exact ⟨e1, cs, e2, e3, e4⟩
        obtain ⟨l, l1, l2⟩ := key len (Nat.le_refl _)
        refine ⟨l, _, rfl, fun t ht => ?_, by rw [l1]; have : cap ≤ 9223372036854775807 := hm; omega, ?_⟩
        · obtain ⟨i, hi⟩ := List.mem_iff_getElem?.1 ht
          exact (l2 i t hi).1
        · -- where it lies
          have hspot : l ≠ [] → a = ⟨a.block, a.off, none⟩ := fun hne => by
            have h0 : 0 < l.length := List.length_pos_iff.2 hne
            obtain ⟨_, cs, _, c2, c3⟩ := l2 0 _ (List.getElem?_eq_getElem h0)
            have := c3 0 (by omega)
            rw [List.getElem?_eq_getElem (by omega)] at this
            have hs : a.spot = none := by
              have e : (a.add (0 * 4)).add 0 = a := by simp [Addr.add]
              rw [e] at this; exact spot_none this
            cases a; simp at hs; subst hs; rfl
          have hcell : ∀ (i : Nat) (e : AV) (j : Nat) (c : AV), (Tm.avs l)[i]? = some e → e.cells[j]? = some c → ∃ u, w.cell? ⟨a.block, a.off + i * 4 + j, none⟩ = some u ∧ VR (Ctx.all w) c u := by
            intro i e j c he hc
            obtain ⟨t, ht, rfl⟩ := Tm.avs_get he
            obtain ⟨_, cs, c1, c2, c3⟩ := l2 i t ht
            rw [Tm.av_cells] at hc
            obtain ⟨u, hu, hr⟩ := c1.get hc
            have hj : j < 4 := by have := (Array.getElem?_eq_some_iff.1 hu).1; simp at this; omega
            have hne : l ≠ [] := fun e => by subst e; simp at ht
            refine ⟨u, ?_, hr⟩
            have h1 := c3 j hj
            have hu' : cs[j]? = some u := by simpa using hu
            rw [hu'] at h1
            rw [← h1, hspot hne]
            rw [add_at, add_at]
          refine (show VR (Ctx.all w) (.slice (Tm.avs l) .none) (.slice (some a) len cap) from ?_)
          have hll : (Tm.avs l).length = len := by rw [Tm.avs_len, l1]
          rw [← hll]
          refine .slice (Tm.avs l) .none (some a) a.block a.off cap 4 (fun i j => (w.cell? ⟨a.block, a.off + i * 4 + j, none⟩).getD undef) (by omega) (by rw [hll]; exact hl) (fun hne => ?_) (fun i e he => ?_) (fun i e j c he hc => ?_) (fun i e j c he hc => ?_) trivial
          · have hne' : l ≠ [] := fun e => by subst e; exact hne rfl
            exact congrArg some (hspot hne')
          · obtain ⟨t, _, rfl⟩ := Tm.avs_get he
            rw [Tm.av_cells]; cases t; rfl
          · obtain ⟨u, hu, _⟩ := hcell i e j c he hc
            show w.cell? _ = _
            rw [hu]; rfl
          · obtain ⟨u, hu, hr⟩ := hcell i e j c he hc
            rw [hu]; exact hr
    · obtain ⟨xs, n, hn, _, hlen, hxl, hf⟩ := DataW.trod_struct Tryz.underlying24 h
      have hn' : n = fuel := by omega
      subst hn'
      rw [ce24] at hlen
      obtain ⟨v0, v1, v2, v3, rfl⟩ := four_list hlen
      · skip
        have f0 : DataW.trod enc Tryz.prog w base spare held n 3 ((List.drop 0 [v0, v1, v2, v3]).take (Tryz.prog.cellsOf 3)) = xs[0]? := hf 0 _ rfl
        have f1 : DataW.trod enc Tryz.prog w base spare held n 9 ((List.drop 1 [v0, v1, v2, v3]).take (Tryz.prog.cellsOf 9)) = xs[1]? := hf 1 _ rfl
        have f2 : DataW.trod enc Tryz.prog w base spare held n 3 ((List.drop 2 [v0, v1, v2, v3]).take (Tryz.prog.cellsOf 3)) = xs[2]? := hf 2 _ rfl
        have f3 : DataW.trod enc Tryz.prog w base spare held n 22 ((List.drop 3 [v0, v1, v2, v3]).take (Tryz.prog.cellsOf 22)) = xs[3]? := hf 3 _ rfl
        rw [ce3] at f0 f2
        rw [ce9] at f1
        rw [ce22] at f3
        simp only [List.drop_zero, List.take_succ_cons, List.take_zero, List.drop_succ_cons] at f0 f1 f2 f3
        have hxl4 : xs.length = 4 := hxl
        rw [List.getElem?_eq_getElem (by omega)] at f0 f1 f2 f3
        obtain ⟨k, e0, _, w0⟩ := DataW.trod_int Tryz.underlying3 f0
        obtain ⟨s, e1, _, w1⟩ := DataW.trod_string Tryz.underlying9 f1
        obtain ⟨m, e2, _, w2⟩ := DataW.trod_int Tryz.underlying3 f2
        obtain ⟨l, v, e3, l1, l2, l3⟩ := ih.1 _ _ f3
        simp only [List.cons.injEq, and_true] at e0 e1 e2 e3
        subst e0; subst e1; subst e2; subst e3
        refine ⟨.mk k s.data.toList m l, .mk (lit_wf w0) (lit_wf w2) ?_ l2 l1, ?_⟩
        · have : s.size ≤ 9223372036854775807 := w1
          simpa using this
        · refine vrs_four (.int _ _) ?_ (.int _ _) l3
          have : VR (Ctx.all w) (.str s.data.toList) (.string ⟨s.data.toList.toArray⟩) := .str _
          simpa using this

theorem trod_term {v : Value} {d : DataW H} {ps : List MemPlace} (h : DataW.Trod enc Tryz.prog w base spare held 24 v d ps) (hv : ∃ cs, v = .agg cs) : ∃ t : Tm, t.Wf ∧ VR (Ctx.all w) t.av v := by
  obtain ⟨fuel, hf⟩ := h
  obtain ⟨t, t1, t2⟩ := (trod_both fuel).2 _ _ hf
  obtain ⟨cs, rfl⟩ := hv
  refine ⟨t, t1, ?_⟩
  have e : (Value.agg cs).cells.toList.toArray = cs := by simp [Value.cells]
  rw [e] at t2
  cases t with
  | mk k s n l => exact .agg _ _ t2.1 t2.2
theorem trod_terms {v : Value} {d : DataW H} {ps : List MemPlace} (h : DataW.Trod enc Tryz.prog w base spare held 22 v d ps) (hv : v.cells.toList = [v]) : ∃ l : List Tm, (∀ t ∈ l, t.Wf) ∧ l.length ≤ 9223372036854775807 ∧ VR (Ctx.all w) (.slice (Tm.avs l) .none) v := by
  obtain ⟨fuel, hf⟩ := h
  obtain ⟨l, v', e, l1, l2, l3⟩ := (trod_both fuel).1 _ _ hf
  rw [hv] at e
  simp only [List.cons.injEq, and_true] at e
  subst e
  exact ⟨l, l1, l2, l3⟩
end

end Go.AM
