/- A part of the proof of: EmitBecomes: what a term becomes by patterns, and a pattern's name, is what the document says, or the error is told. -/
import Derived.Test.YtkopdkjpmccbmaaGreatDoorM15
import Derived.Test.YtkopdkjpmccbmaaGreatDoorM42
import Derived.Shelf.Strconv.Itoa3
import Derived.Shelf.Lay
import Derived.Ground.NamesProg
import Derived.Test.YtkopdkjpmccbmaaGreatDoorProg
import Derived.KernelRfl
namespace Go.Proofs
open Go.Shelf
shelf_lay LaysM.n171 Nm 171 at Tryz as Tryz.laysItoa
theorem Tryz.itoa_laid (n : Int) (h0 : -9223372036854775808 ≤ n) (h1 : n ≤ 9223372036854775807) (w : World) (htab : Lib.TabIs Tryz.prog w "internal/strconv.uint64pow10" .u64 Lib.pow10Tab) :
    Calls Tryz.prog 30 #[.int .i64 n] w fun e w' => e = .returned (.string ⟨(Lib.itoa n).toArray⟩) ∧ ∃ k os, w' = Sort.grow (w.drewN k) os := Any.strconv_Itoa Tryz.laysItoa n h0 h1 w htab
theorem Tryz.tabNamed : Tryz.prog.globalNamed "internal/strconv.uint64pow10" = some 0 := by kernel_rfl
end Go.Proofs
namespace Go.AM
open Go.RowKit Go.Proofs
variable {P : Program} {cfg : Cfg} {C : Ctx} {σ : St} {w w' : World}

/-- New blocks alone. -/
theorem Inv.grown (h : Inv P cfg C σ w) (hs : w.heap.size ≤ w'.heap.size) (hw : ∀ b, b < w.heap.size → w'.heap[b]? = w.heap[b]?) (ho : w'.os = w.os) (ht : w'.tape = w.tape) (hu : w'.output = w.output) : Inv P cfg C σ w' ∧ Ev C σ w C σ w' := by
  refine h.of ⟨⟨fun b x u hx => ?_, h.falls, h.next, fun id o hg => ?_, h.inj⟩, ⟨.refl C, Nat.le_refl _, hs, ho, ht, hu, fun b hb _ => hw b hb, fun _ _ h => h, fun _ _ _ _ _ h => h, fun _ h => absurd rfl h, fun _ _ h => absurd rfl h, fun _ o h => .inl ⟨o, h⟩⟩⟩
  · have h0 := h.lies b x u hx
    rw [← h0]
    exact World.cell?_of_block (hw b (World.block_lt_of_cell? w ⟨b, x, none⟩ h0))
  · refine (h.obj id o hg).stable (.refl C) (fun b hb => ?_) (fun _ => rfl)
    obtain ⟨b', h1, h2⟩ := (h.obj id o hg).block
    rw [hb] at h1; cases h1
    exact ⟨hw b h2, fun _ _ h => h⟩

theorem dec_dig (n : Nat) : Lib.decDigits n = dig n := by
  induction n using Nat.strongRecOn with
  | _ n ih =>
    rw [Lib.decDigits, dig]
    by_cases h : n < 10
    · rw [dif_pos h, if_pos h]; rfl
    · rw [dif_neg h, if_neg h, ih (n / 10) (by omega)]; rfl

theorem itoa_ok (hp : cfg.pins = [(0, (List.map (fun z => Value.int .u64 z) Lib.pow10Tab).toArray)]) (henter : ∀ (args : Array Value) (w : World), (callFunc 30 args).run Tryz.prog w = .ok (.enter 30 args) w) : PrimOk Tryz.prog cfg 30 primItoa := by
  intro cl hcl args σ v τ h
  have key : ∃ n : Nat, n < 1000000 ∧ args = [.int .i64 (.ofNat n)] ∧ v = .str (dig n) ∧ τ = σ := by
    unfold primItoa at h
    split at h
    · rename_i n
      split at h
      · rename_i hn; cases h; exact ⟨n, hn, rfl, rfl, rfl⟩
      · cases h
    · cases h
  obtain ⟨n, hn, rfl, rfl, rfl⟩ := key
  refine ⟨Nat.le_refl _, fun C w cargs hI ha hf => ⟨henter _ _, ?_⟩⟩
  obtain ⟨u, hu, hr⟩ := ha.get (i := 0) rfl
  have hc : cargs = #[u] := by
    have hsz : cargs.size = 1 := ha.1.symm
    apply Array.ext
    · simpa using hsz
    · intro i h1 h2
      have : i = 0 := by omega
      subst this
      simpa using (Array.getElem?_eq_some_iff.1 hu).2
  subst hc
  have hu : u = .int .i64 (n : Int) := by cases hr; rfl
  subst hu
  obtain ⟨⟨e, k, h0⟩, _⟩ := hI.pin (0, (List.map (fun z => Value.int .u64 z) Lib.pow10Tab).toArray) (by rw [hp]; simp)
  have htab : Lib.TabIs Tryz.prog w "internal/strconv.uint64pow10" .u64 Lib.pow10Tab := by
    unfold Lib.TabIs World.var?
    rw [Tryz.tabNamed]
    show (match w.heap[0]? with | some (.cells cs _ _) => some cs | _ => none) = _
    rw [h0]
  refine (Tryz.itoa_laid (n : Int) (by omega) (by omega) w htab).mono ?_
  rintro e w' ⟨rfl, k, os, rfl⟩
  obtain ⟨g1, g2⟩ := hI.grown (w' := Sort.grow (w.drewN k) os) (by show w.heap.size ≤ (w.heap ++ os).size; simp) (fun b hb => by show (w.heap ++ os)[b]? = _; exact Array.getElem?_append_left hb) rfl rfl rfl
  have hd : Lib.itoa (n : Int) = dig n := by unfold Lib.itoa; rw [if_neg (by omega), Int.toNat_natCast, dec_dig]
  rw [hd]
  exact ⟨_, rfl, C, g2, g1, .str _⟩
end Go.AM
