/- A part of the proof of: EmitBecomes: what a term becomes by patterns, and a pattern's name, is what the document says, or the error is told. -/
import Derived.Test.YtkopdkjpmccbmaaGreatDoorM30
namespace Go.Proofs

set_option maxRecDepth 100000 in
set_option maxHeartbeats 1600000 in
theorem load_zero (a : Addr) (w : World) (h0 : w.cell? a = some (.int .u32 0)) :
    Calls Tryz.prog 203 #[.pointer (some a)] w fun e w' => e = .returned (.bool false) ∧ w' = w := by
  have hl := run_call_load (P := Tryz.prog) Tryz.func233 (by kernel_rfl) (by kernel_rfl) (by kernel_rfl) .u32 (by kernel_rfl) h0
  go_enter Tryz.func203, Tryz.ntmps203
  go_wp2
  go_ret
  exact ⟨rfl, rfl⟩

set_option maxRecDepth 100000 in
set_option maxHeartbeats 1600000 in
theorem slow_any (b off : Nat) (m : FuncId) (fv cv : Array Value) (W : World → Prop) (w : World)
    (h0 : w.cell? ⟨b, off, none⟩ = some (.int .u32 0)) (h1 : w.cell? ⟨b, off + 1, none⟩ = some (.int .i32 0))
    (f1 : w.frozen? ⟨b, off + 1, none⟩ = false)
    (hent : (callFunc m (fv ++ cv)).run Tryz.prog (w.setCell ⟨b, off + 1, none⟩ (.int .i32 1)) = .ok (.enter m (fv ++ cv)) (w.setCell ⟨b, off + 1, none⟩ (.int .i32 1)))
    (hcall : Calls Tryz.prog m (fv ++ cv) (w.setCell ⟨b, off + 1, none⟩ (.int .i32 1)) fun e w2 => (∃ u, e = .returned u) ∧ W w2)
    (hWc : ∀ w2, W w2 → (∃ x0, w2.cell? ⟨b, off, none⟩ = some x0) ∧ w2.cell? ⟨b, off + 1, none⟩ = some (.int .i32 1) ∧ w2.frozen? ⟨b, off, none⟩ = false ∧ w2.frozen? ⟨b, off + 1, none⟩ = false) :
    Calls Tryz.prog 204 #[.pointer (some ⟨b, off, none⟩), .func (.func m) fv cv] w fun e w' => e = .returned (.tuple #[]) ∧ ∃ w2, W w2 ∧ w' = (w2.drew.setCell ⟨b, off, none⟩ (.int .u32 1)).setCell ⟨b, off + 1, none⟩ (.int .i32 0) := by
  have hnot : ∀ (x : Bool) (w : World), (Op.unary .not (.bool x)).run Tryz.prog w = .ok (.bool (!x)) w := fun _ _ => rfl
  go_enter_defers Tryz.func204, Tryz.ntmps204
  go_wp2_with (first | (go_at_call 234; refine (lock_free ⟨b, off + 1, none⟩ _ (by go_simp) (by go_simp)).mono ?_; rintro e w' ⟨rfl, rfl⟩) | (go_at_call 203; refine (load_zero ⟨b, off, none⟩ _ ((World.cell?_setCell_other _ ⟨b, off + 1, none⟩ ⟨b, off, none⟩ _ (by simp)).trans h0)).mono ?_; rintro e w' ⟨rfl, rfl⟩))
  refine hcall.mono ?_
  rintro e w2 ⟨⟨u, rfl⟩, hW⟩
  obtain ⟨⟨x0, c0⟩, c1, g0, g1⟩ := hWc w2 hW
  go_wp2
  refine leaves_cons (f := 236) (args := #[.pointer (some ⟨b, off, none⟩), .bool true]) (by simp) (by simp [go_sem]) ?_
  refine (store_deferred ⟨b, off, none⟩ x0 .returning _ c0 g0).mono ?_
  rintro e u' w'' ⟨rfl, rfl, rfl⟩
  refine leaves_cons (f := 235) (args := #[.pointer (some ⟨b, off + 1, none⟩)]) (by simp [settle]) (by simp [go_sem]) ?_
  refine (unlock_deferred ⟨b, off + 1, none⟩ _ _ ?_ (by simp [g1])).mono ?_
  · refine (World.cell?_setCell_other _ ⟨b, off, none⟩ ⟨b, off + 1, none⟩ _ (by simp)).trans ?_
    rw [World.cell?_drew]; exact c1
  rintro e u' w'' ⟨rfl, rfl, rfl⟩
  simp only [Leaves, settle, results, Tryz.results204]
  refine ⟨.tuple #[], by simp, rfl, w2, hW, rfl⟩

set_option maxRecDepth 100000 in
set_option maxHeartbeats 1600000 in
/-- '(*sync.Once).Do', not yet done, the lock free. -/
theorem do_first (b off : Nat) (m : FuncId) (fv cv : Array Value) (W : World → Prop) (w : World)
    (h0 : w.cell? ⟨b, off, none⟩ = some (.int .u32 0)) (h1 : w.cell? ⟨b, off + 1, none⟩ = some (.int .i32 0))
    (f1 : w.frozen? ⟨b, off + 1, none⟩ = false)
    (hent : (callFunc m (fv ++ cv)).run Tryz.prog (w.setCell ⟨b, off + 1, none⟩ (.int .i32 1)) = .ok (.enter m (fv ++ cv)) (w.setCell ⟨b, off + 1, none⟩ (.int .i32 1)))
    (hcall : Calls Tryz.prog m (fv ++ cv) (w.setCell ⟨b, off + 1, none⟩ (.int .i32 1)) fun e w2 => (∃ u, e = .returned u) ∧ W w2)
    (hWc : ∀ w2, W w2 → (∃ x0, w2.cell? ⟨b, off, none⟩ = some x0) ∧ w2.cell? ⟨b, off + 1, none⟩ = some (.int .i32 1) ∧ w2.frozen? ⟨b, off, none⟩ = false ∧ w2.frozen? ⟨b, off + 1, none⟩ = false) :
    Calls Tryz.prog 186 #[.pointer (some ⟨b, off, none⟩), .func (.func m) fv cv] w fun e w' => e = .returned (.tuple #[]) ∧ ∃ w2, W w2 ∧ w' = (w2.drew.setCell ⟨b, off, none⟩ (.int .u32 1)).setCell ⟨b, off + 1, none⟩ (.int .i32 0) := by
  have hnot : ∀ (x : Bool) (w : World), (Op.unary .not (.bool x)).run Tryz.prog w = .ok (.bool (!x)) w := fun _ _ => rfl
  go_enter Tryz.func186, Tryz.ntmps186
  go_wp2_with (first | (go_at_call 204; refine (slow_any b off m fv cv W _ h0 h1 f1 hent hcall hWc).mono ?_; rintro e w' ⟨rfl, w2, hW, rfl⟩) | (go_at_call 203; refine (load_zero ⟨b, off, none⟩ _ h0).mono ?_; rintro e w' ⟨rfl, rfl⟩))
  go_end0
  exact ⟨rfl, w2, hW, rfl⟩
end Go.Proofs
