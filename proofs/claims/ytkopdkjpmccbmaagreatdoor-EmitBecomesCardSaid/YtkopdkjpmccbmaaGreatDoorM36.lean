/- A part of the proof of: EmitBecomes: what a term becomes by patterns, and a pattern's name, is what the document says, or the error is told. -/
import Derived.Test.YtkopdkjpmccbmaaGreatDoorM35
import Derived.Test.YtkopdkjpmccbmaaGreatDoorM22
namespace Go.AM

theorem beq_ne {i j : Nat} (h : i ≠ j) : Nat.beq i j = false := by
  cases hb : Nat.beq i j with
  | false => rfl
  | true => exact absurd (Nat.eq_of_beq_eq_true hb) h

attribute [simp] run_nil run_skip run_seq run_region run_draw run_keep run_block run_endb run_exit run_ret jump_ret jump_code jump_keep jump_endb cond_tt cond_ff run_cond ops_nil op_some ops_guard grd_undef grd_tt grd_ff grd_tf grd_ft dops_nil dop_some dops_guard grdD_undef grdD_tt grdD_ff grdD_tf grdD_ft

section
variable {T : Tab} {ks : List K} {env : Env} {ds : List ADef} {σ : St} {Q : Ex → Env → List ADef → St → Prop} {d : Option Nat} {l : List AOper} {acc : List Log} {chk : List (Nat × List Nat)}
@[simp] theorem r_move {x} : Run T (.ops (⟨d, none, .move x⟩ :: l) :: ks) .normal env ds σ Q = Run T (.ops l :: ks) .normal (put env d (x.eval env)) ds σ Q := (ops_op (f := op_move x) rfl).trans op_some
@[simp] theorem r_pick {c a b} : Run T (.ops (⟨d, none, .pick c a b⟩ :: l) :: ks) .normal env ds σ Q = Op T (op_pick c a b env σ) d l ks env ds Q := ops_op rfl
@[simp] theorem r_box {x} : Run T (.ops (⟨d, none, .box x⟩ :: l) :: ks) .normal env ds σ Q = Op T (op_box x env σ) d l ks env ds Q := ops_op rfl
@[simp] theorem r_alloc {x} : Run T (.ops (⟨d, none, .alloc x⟩ :: l) :: ks) .normal env ds σ Q = Op T (op_alloc x env σ) d l ks env ds Q := ops_op rfl
@[simp] theorem r_build {z ps} : Run T (.ops (⟨d, none, .build z ps⟩ :: l) :: ks) .normal env ds σ Q = Op T (op_build z ps env σ) d l ks env ds Q := ops_op rfl
@[simp] theorem r_buildSlice {sz n z ps hs} : Run T (.ops (⟨d, none, .buildSlice sz n z ps hs⟩ :: l) :: ks) .normal env ds σ Q = Op T (op_buildSlice sz n z ps hs env σ) d l ks env ds Q := ops_op rfl
@[simp] theorem r_load {n a} : Run T (.ops (⟨d, none, .load n a⟩ :: l) :: ks) .normal env ds σ Q = Op T (op_load n a env σ) d l ks env ds Q := ops_op rfl
@[simp] theorem r_store {n a x} : Run T (.ops (⟨d, none, .store n a x⟩ :: l) :: ks) .normal env ds σ Q = Op T (op_store n a x env σ) d l ks env ds Q := ops_op rfl
@[simp] theorem r_nilCheck {x} : Run T (.ops (⟨d, none, .nilCheck x⟩ :: l) :: ks) .normal env ds σ Q = Op T (op_nilCheck x env σ) d l ks env ds Q := ops_op rfl
@[simp] theorem r_bin {o x y} : Run T (.ops (⟨d, none, .bin o x y⟩ :: l) :: ks) .normal env ds σ Q = Op T (op_bin o x y env σ) d l ks env ds Q := ops_op rfl
@[simp] theorem r_eqBool {o x y} : Run T (.ops (⟨d, none, .eqBool o x y⟩ :: l) :: ks) .normal env ds σ Q = Op T (op_eqBool o x y env σ) d l ks env ds Q := ops_op rfl
@[simp] theorem r_eqNil {o k x y} : Run T (.ops (⟨d, none, .eqNil o k x y⟩ :: l) :: ks) .normal env ds σ Q = Op T (op_eqNil o k x y env σ) d l ks env ds Q := ops_op rfl
@[simp] theorem r_un {o x} : Run T (.ops (⟨d, none, .un o x⟩ :: l) :: ks) .normal env ds σ Q = Op T (op_un o x env σ) d l ks env ds Q := ops_op rfl
@[simp] theorem r_makeFunc {f a b} : Run T (.ops (⟨d, none, .makeFunc f a b⟩ :: l) :: ks) .normal env ds σ Q = Op T (op_makeFunc f a b env σ) d l ks env ds Q := ops_op rfl
@[simp] theorem r_makeMap {a} : Run T (.ops (⟨d, none, .makeMap a⟩ :: l) :: ks) .normal env ds σ Q = Op T (op_makeMap a env σ) d l ks env ds Q := ops_op rfl
@[simp] theorem r_fieldAddr {n x} : Run T (.ops (⟨d, none, .fieldAddr n x⟩ :: l) :: ks) .normal env ds σ Q = Op T (op_fieldAddr n x env σ) d l ks env ds Q := ops_op rfl
@[simp] theorem r_field {o n x} : Run T (.ops (⟨d, none, .field o n x⟩ :: l) :: ks) .normal env ds σ Q = Op T (op_field o n x env σ) d l ks env ds Q := ops_op rfl
@[simp] theorem r_indexSl {n x y} : Run T (.ops (⟨d, none, .indexSl n x y⟩ :: l) :: ks) .normal env ds σ Q = Op T (op_indexSl n x y env σ) d l ks env ds Q := ops_op rfl
@[simp] theorem r_charAt {x y} : Run T (.ops (⟨d, none, .charAt x y⟩ :: l) :: ks) .normal env ds σ Q = Op T (op_charAt x y env σ) d l ks env ds Q := ops_op rfl
@[simp] theorem r_lookup {a b x y o} : Run T (.ops (⟨d, none, .lookup a b x y o⟩ :: l) :: ks) .normal env ds σ Q = Op T (op_lookup a b x y o env σ) d l ks env ds Q := ops_op rfl
@[simp] theorem r_mapUpdate {a b x y} : Run T (.ops (⟨d, none, .mapUpdate a b x y⟩ :: l) :: ks) .normal env ds σ Q = Op T (op_mapUpdate a b x y env σ) d l ks env ds Q := ops_op rfl
@[simp] theorem r_extract {x i} : Run T (.ops (⟨d, none, .extract x i⟩ :: l) :: ks) .normal env ds σ Q = Op T (op_extract x i env σ) d l ks env ds Q := ops_op rfl
@[simp] theorem r_lenStr {x} : Run T (.ops (⟨d, none, .lenStr x⟩ :: l) :: ks) .normal env ds σ Q = Op T (op_lenStr x env σ) d l ks env ds Q := ops_op rfl
@[simp] theorem r_lenSl {x} : Run T (.ops (⟨d, none, .lenSl x⟩ :: l) :: ks) .normal env ds σ Q = Op T (op_lenSl x env σ) d l ks env ds Q := ops_op rfl
@[simp] theorem r_lenMap {a x} : Run T (.ops (⟨d, none, .lenMap a x⟩ :: l) :: ks) .normal env ds σ Q = Op T (op_lenMap a x env σ) d l ks env ds Q := ops_op rfl
@[simp] theorem r_append {a b c x y} : Run T (.ops (⟨d, none, .append a b c x y⟩ :: l) :: ks) .normal env ds σ Q = Op T (op_append a b c x y env σ) d l ks env ds Q := ops_op rfl
@[simp] theorem r_append1 {a b x y} : Run T (.ops (⟨d, none, .append1 a b x y⟩ :: l) :: ks) .normal env ds σ Q = Op T (op_append1 a b x y env σ) d l ks env ds Q := ops_op rfl

@[simp] theorem q_move {x} : Run T (.dops (⟨d, none, .move x⟩ :: l) acc chk :: ks) .normal env ds σ Q = DOp T (op_move x env σ) (.move x) d l acc chk ks env ds σ Q := dops_op rfl
@[simp] theorem q_pick {c a b} : Run T (.dops (⟨d, none, .pick c a b⟩ :: l) acc chk :: ks) .normal env ds σ Q = DOp T (op_pick c a b env σ) (.pick c a b) d l acc chk ks env ds σ Q := dops_op rfl
@[simp] theorem q_load {n a} : Run T (.dops (⟨d, none, .load n a⟩ :: l) acc chk :: ks) .normal env ds σ Q = DOp T (op_load n a env σ) (.load n a) d l acc chk ks env ds σ Q := dops_op rfl
@[simp] theorem q_store {n a x} : Run T (.dops (⟨d, none, .store n a x⟩ :: l) acc chk :: ks) .normal env ds σ Q = DOp T (op_store n a x env σ) (.store n a x) d l acc chk ks env ds σ Q := dops_op rfl
@[simp] theorem q_bin {o x y} : Run T (.dops (⟨d, none, .bin o x y⟩ :: l) acc chk :: ks) .normal env ds σ Q = DOp T (op_bin o x y env σ) (.bin o x y) d l acc chk ks env ds σ Q := dops_op rfl
@[simp] theorem q_un {o x} : Run T (.dops (⟨d, none, .un o x⟩ :: l) acc chk :: ks) .normal env ds σ Q = DOp T (op_un o x env σ) (.un o x) d l acc chk ks env ds σ Q := dops_op rfl
@[simp] theorem q_fieldAddr {n x} : Run T (.dops (⟨d, none, .fieldAddr n x⟩ :: l) acc chk :: ks) .normal env ds σ Q = DOp T (op_fieldAddr n x env σ) (.fieldAddr n x) d l acc chk ks env ds σ Q := dops_op rfl
@[simp] theorem q_indexSl {n x y} : Run T (.dops (⟨d, none, .indexSl n x y⟩ :: l) acc chk :: ks) .normal env ds σ Q = DOp T (op_indexSl n x y env σ) (.indexSl n x y) d l acc chk ks env ds σ Q := dops_op rfl
@[simp] theorem q_extract {x i} : Run T (.dops (⟨d, none, .extract x i⟩ :: l) acc chk :: ks) .normal env ds σ Q = DOp T (op_extract x i env σ) (.extract x i) d l acc chk ks env ds σ Q := dops_op rfl
@[simp] theorem q_lenSl {x} : Run T (.dops (⟨d, none, .lenSl x⟩ :: l) acc chk :: ks) .normal env ds σ Q = DOp T (op_lenSl x env σ) (.lenSl x) d l acc chk ks env ds σ Q := dops_op rfl
@[simp] theorem q_append {a b c x y} : Run T (.dops (⟨d, none, .append a b c x y⟩ :: l) acc chk :: ks) .normal env ds σ Q = DOp T (op_append a b c x y env σ) (.append a b c x y) d l acc chk ks env ds σ Q := dops_op rfl
@[simp] theorem q_buildSlice {sz n z ps hs} : Run T (.dops (⟨d, none, .buildSlice sz n z ps hs⟩ :: l) acc chk :: ks) .normal env ds σ Q = DOp T (op_buildSlice sz n z ps hs env σ) (.buildSlice sz n z ps hs) d l acc chk ks env ds σ Q := dops_op rfl
@[simp] theorem q_box {x} : Run T (.dops (⟨d, none, .box x⟩ :: l) acc chk :: ks) .normal env ds σ Q = DOp T (op_box x env σ) (.box x) d l acc chk ks env ds σ Q := dops_op rfl
@[simp] theorem q_alloc {x} : Run T (.dops (⟨d, none, .alloc x⟩ :: l) acc chk :: ks) .normal env ds σ Q = DOp T (op_alloc x env σ) (.alloc x) d l acc chk ks env ds σ Q := dops_op rfl
@[simp] theorem q_lenStr {x} : Run T (.dops (⟨d, none, .lenStr x⟩ :: l) acc chk :: ks) .normal env ds σ Q = DOp T (op_lenStr x env σ) (.lenStr x) d l acc chk ks env ds σ Q := dops_op rfl
@[simp] theorem q_charAt {x y} : Run T (.dops (⟨d, none, .charAt x y⟩ :: l) acc chk :: ks) .normal env ds σ Q = DOp T (op_charAt x y env σ) (.charAt x y) d l acc chk ks env ds σ Q := dops_op rfl
@[simp] theorem q_build {z ps} : Run T (.dops (⟨d, none, .build z ps⟩ :: l) acc chk :: ks) .normal env ds σ Q = DOp T (op_build z ps env σ) (.build z ps) d l acc chk ks env ds σ Q := dops_op rfl
end

/-! ### Temporaries -/
@[simp] theorem aget_nilK (j : Nat) : aget [] j = .junk := rfl
@[simp] theorem aget_consK (i : Nat) (v : AV) (l : Env) (j : Nat) : aget ((i, v) :: l) j = if i = j then v else aget l j := by
  show (bif Nat.beq i j then v else aget l j) = _
  by_cases h : i = j
  · subst h; rw [if_pos rfl, Nat.beq_refl]; rfl
  · rw [if_neg h, beq_ne h]; rfl
@[simp] theorem upd_nil (j : Nat) (w : AV) : upd [] j w = [(j, w)] := rfl
@[simp] theorem upd_cons (i : Nat) (v : AV) (l : Env) (j : Nat) (w : AV) : upd ((i, v) :: l) j w = if i = j then (i, w) :: l else (i, v) :: upd l j w := by
  show (bif Nat.beq i j then (j, w) :: l else (i, v) :: upd l j w) = _
  by_cases h : i = j
  · subst h; rw [if_pos rfl, Nat.beq_refl]; rfl
  · rw [if_neg h, beq_ne h]; rfl
@[simp] theorem aget_updK (l : Env) (i : Nat) (v : AV) (j : Nat) : aget (upd l i v) j = if i = j then v else aget l j := by
  induction l with
  | nil => simp
  | cons p l ih =>
    obtain ⟨a, w⟩ := p
    rw [upd_cons]
    by_cases h : a = i
    · subst h; simp only [if_pos, aget_consK]; split <;> simp_all
    · rw [if_neg h, aget_consK, ih, aget_consK]
      by_cases h2 : a = j
      · subst h2; simp [Ne.symm h]
      · simp [h2]
@[simp] theorem keep_nil (old env : Env) : keep old env [] = old := rfl
@[simp] theorem keep_cons (old env : Env) (k : Nat) (r : List Nat) : keep old env (k :: r) = upd (keep old env r) k (aget env k) := rfl
attribute [simp] put Opd.eval
@[simp] theorem evals_nil (tm : Env) : evals tm [] = [] := rfl
@[simp] theorem evals_cons (tm : Env) (x : Opd) (l : List Opd) : evals tm (x :: l) = x.eval tm :: evals tm l := rfl
@[simp] theorem numbered_nil (i : Nat) : numbered [] i = [] := rfl
@[simp] theorem numbered_cons (v : AV) (l : List AV) (i : Nat) : numbered (v :: l) i = (i, v) :: numbered l (i + 1) := rfl

/-! ### Lists -/
@[simp] theorem nth_nil {α : Type} (n : Nat) : nth ([] : List α) n = none := rfl
theorem nth_eqK {α : Type} (l : List α) (n : Nat) : nth l n = l[n]? := by
  induction l generalizing n with
  | nil => rfl
  | cons x l ih => cases n with
    | zero => rfl
    | succ n => exact ih n
@[simp high] theorem nth_0 {α : Type} (x0 : α) (l : List α) : nth (x0 :: l) 0 = some x0 := rfl
@[simp high] theorem nth_1 {α : Type} (x0 x1 : α) (l : List α) : nth (x0 :: x1 :: l) 1 = some x1 := rfl
@[simp high] theorem nth_2 {α : Type} (x0 x1 x2 : α) (l : List α) : nth (x0 :: x1 :: x2 :: l) 2 = some x2 := rfl
@[simp high] theorem nth_3 {α : Type} (x0 x1 x2 x3 : α) (l : List α) : nth (x0 :: x1 :: x2 :: x3 :: l) 3 = some x3 := rfl
@[simp high] theorem nth_4 {α : Type} (x0 x1 x2 x3 x4 : α) (l : List α) : nth (x0 :: x1 :: x2 :: x3 :: x4 :: l) 4 = some x4 := rfl
@[simp high] theorem nth_5 {α : Type} (x0 x1 x2 x3 x4 x5 : α) (l : List α) : nth (x0 :: x1 :: x2 :: x3 :: x4 :: x5 :: l) 5 = some x5 := rfl
@[simp high] theorem nth_6 {α : Type} (x0 x1 x2 x3 x4 x5 x6 : α) (l : List α) : nth (x0 :: x1 :: x2 :: x3 :: x4 :: x5 :: x6 :: l) 6 = some x6 := rfl
@[simp high] theorem nth_7 {α : Type} (x0 x1 x2 x3 x4 x5 x6 x7 : α) (l : List α) : nth (x0 :: x1 :: x2 :: x3 :: x4 :: x5 :: x6 :: x7 :: l) 7 = some x7 := rfl
@[simp high] theorem nth_8 {α : Type} (x0 x1 x2 x3 x4 x5 x6 x7 x8 : α) (l : List α) : nth (x0 :: x1 :: x2 :: x3 :: x4 :: x5 :: x6 :: x7 :: x8 :: l) 8 = some x8 := rfl
@[simp high] theorem nth_9 {α : Type} (x0 x1 x2 x3 x4 x5 x6 x7 x8 x9 : α) (l : List α) : nth (x0 :: x1 :: x2 :: x3 :: x4 :: x5 :: x6 :: x7 :: x8 :: x9 :: l) 9 = some x9 := rfl
@[simp high] theorem nth_10 {α : Type} (x0 x1 x2 x3 x4 x5 x6 x7 x8 x9 x10 : α) (l : List α) : nth (x0 :: x1 :: x2 :: x3 :: x4 :: x5 :: x6 :: x7 :: x8 :: x9 :: x10 :: l) 10 = some x10 := rfl
@[simp high] theorem nth_11 {α : Type} (x0 x1 x2 x3 x4 x5 x6 x7 x8 x9 x10 x11 : α) (l : List α) : nth (x0 :: x1 :: x2 :: x3 :: x4 :: x5 :: x6 :: x7 :: x8 :: x9 :: x10 :: x11 :: l) 11 = some x11 := rfl
@[simp high] theorem nth_12 {α : Type} (x0 x1 x2 x3 x4 x5 x6 x7 x8 x9 x10 x11 x12 : α) (l : List α) : nth (x0 :: x1 :: x2 :: x3 :: x4 :: x5 :: x6 :: x7 :: x8 :: x9 :: x10 :: x11 :: x12 :: l) 12 = some x12 := rfl
@[simp high] theorem nth_13 {α : Type} (x0 x1 x2 x3 x4 x5 x6 x7 x8 x9 x10 x11 x12 x13 : α) (l : List α) : nth (x0 :: x1 :: x2 :: x3 :: x4 :: x5 :: x6 :: x7 :: x8 :: x9 :: x10 :: x11 :: x12 :: x13 :: l) 13 = some x13 := rfl
@[simp high] theorem nth_14 {α : Type} (x0 x1 x2 x3 x4 x5 x6 x7 x8 x9 x10 x11 x12 x13 x14 : α) (l : List α) : nth (x0 :: x1 :: x2 :: x3 :: x4 :: x5 :: x6 :: x7 :: x8 :: x9 :: x10 :: x11 :: x12 :: x13 :: x14 :: l) 14 = some x14 := rfl
@[simp high] theorem nth_15 {α : Type} (x0 x1 x2 x3 x4 x5 x6 x7 x8 x9 x10 x11 x12 x13 x14 x15 : α) (l : List α) : nth (x0 :: x1 :: x2 :: x3 :: x4 :: x5 :: x6 :: x7 :: x8 :: x9 :: x10 :: x11 :: x12 :: x13 :: x14 :: x15 :: l) 15 = some x15 := rfl
@[simp high] theorem nth_16 {α : Type} (x0 x1 x2 x3 x4 x5 x6 x7 x8 x9 x10 x11 x12 x13 x14 x15 x16 : α) (l : List α) : nth (x0 :: x1 :: x2 :: x3 :: x4 :: x5 :: x6 :: x7 :: x8 :: x9 :: x10 :: x11 :: x12 :: x13 :: x14 :: x15 :: x16 :: l) 16 = some x16 := rfl
@[simp high] theorem nth_17 {α : Type} (x0 x1 x2 x3 x4 x5 x6 x7 x8 x9 x10 x11 x12 x13 x14 x15 x16 x17 : α) (l : List α) : nth (x0 :: x1 :: x2 :: x3 :: x4 :: x5 :: x6 :: x7 :: x8 :: x9 :: x10 :: x11 :: x12 :: x13 :: x14 :: x15 :: x16 :: x17 :: l) 17 = some x17 := rfl
@[simp high] theorem nth_18 {α : Type} (x0 x1 x2 x3 x4 x5 x6 x7 x8 x9 x10 x11 x12 x13 x14 x15 x16 x17 x18 : α) (l : List α) : nth (x0 :: x1 :: x2 :: x3 :: x4 :: x5 :: x6 :: x7 :: x8 :: x9 :: x10 :: x11 :: x12 :: x13 :: x14 :: x15 :: x16 :: x17 :: x18 :: l) 18 = some x18 := rfl
@[simp high] theorem nth_19 {α : Type} (x0 x1 x2 x3 x4 x5 x6 x7 x8 x9 x10 x11 x12 x13 x14 x15 x16 x17 x18 x19 : α) (l : List α) : nth (x0 :: x1 :: x2 :: x3 :: x4 :: x5 :: x6 :: x7 :: x8 :: x9 :: x10 :: x11 :: x12 :: x13 :: x14 :: x15 :: x16 :: x17 :: x18 :: x19 :: l) 19 = some x19 := rfl
@[simp] theorem slc_4_0_4 (a b c d : AV) : slc [a, b, c, d] 0 4 = some [a, b, c, d] := rfl
@[simp] theorem slc_4_0 (a b c d : AV) : slc [a, b, c, d] 0 1 = some [a] := rfl
@[simp] theorem slc_4_1 (a b c d : AV) : slc [a, b, c, d] 1 1 = some [b] := rfl
@[simp] theorem slc_4_2 (a b c d : AV) : slc [a, b, c, d] 2 1 = some [c] := rfl
@[simp] theorem slc_4_3 (a b c d : AV) : slc [a, b, c, d] 3 1 = some [d] := rfl
@[simp] theorem slc_1_0 (a : AV) : slc [a] 0 1 = some [a] := rfl
@[simp] theorem splice_4_0_4 (a b c d a' b' c' d' : AV) : splice [a, b, c, d] 0 [a', b', c', d'] = some [a', b', c', d'] := rfl
@[simp] theorem splice_4_0 (a b c d v : AV) : splice [a, b, c, d] 0 [v] = some [v, b, c, d] := rfl
@[simp] theorem splice_4_1 (a b c d v : AV) : splice [a, b, c, d] 1 [v] = some [a, v, c, d] := rfl
@[simp] theorem splice_4_2 (a b c d v : AV) : splice [a, b, c, d] 2 [v] = some [a, b, v, d] := rfl
@[simp] theorem splice_4_3 (a b c d v : AV) : splice [a, b, c, d] 3 [v] = some [a, b, c, v] := rfl
@[simp] theorem splice_1_0 (a v : AV) : splice [a] 0 [v] = some [v] := rfl

/-! ### The state -/
theorem hget_eq (i : Nat) (o : AObj) (l : Heap) : hget ((i, o) :: l) i = some o := by
  show (bif Nat.beq i i then some o else hget l i) = _
  rw [Nat.beq_refl]; rfl
theorem hget_ne {i j : Nat} (o : AObj) (l : Heap) (h : i ≠ j) : hget ((i, o) :: l) j = hget l j := by
  show (bif Nat.beq i j then some o else hget l j) = _
  rw [beq_ne h]; rfl
theorem hset_eq (i : Nat) (o o' : AObj) (l : Heap) : hset ((i, o) :: l) i o' = (i, o') :: l := by
  show (bif Nat.beq i i then (i, o') :: l else (i, o) :: hset l i o') = _
  rw [Nat.beq_refl]; rfl
theorem hset_ne {i j : Nat} (o o' : AObj) (l : Heap) (h : i ≠ j) : hset ((i, o) :: l) j o' = (i, o) :: hset l j o' := by
  show (bif Nat.beq i j then (j, o') :: l else (i, o) :: hset l j o') = _
  rw [beq_ne h]; rfl
theorem hgc_hi {i m : Nat} (o : AObj) (l : Heap) (h : m ≤ i) : hgc ((i, o) :: l) m = hgc l m := by
  show (bif Nat.ble m i then hgc l m else (i, o) :: l) = _
  rw [Nat.ble_eq_true_of_le h]; rfl
/-- All that lies there is older. -/
def Low (h : Heap) (m : Nat) : Prop := ∀ p ∈ h, p.1 < m
theorem Low.gc {h : Heap} {m : Nat} (H : Low h m) : hgc h m = h := by
  cases h with
  | nil => rfl
  | cons p l =>
    have h1 := H p (List.mem_cons_self)
    show (bif Nat.ble m p.1 then hgc l m else p :: l) = _
    have : Nat.ble m p.1 = false := by
      cases hb : Nat.ble m p.1 with
      | false => rfl
      | true => exact absurd (Nat.le_of_ble_eq_true hb) (by omega)
    rw [this]; rfl
theorem Low.mono {h : Heap} {m n : Nat} (H : Low h m) (hn : m ≤ n) : Low h n := fun p hp => Nat.lt_of_lt_of_le (H p hp) hn
theorem Low.cons {h : Heap} {m n : Nat} {o : AObj} (H : Low h m) (hn : m < n) : Low ((m, o) :: h) n := fun p hp => by
  cases hp with
  | head => exact hn
  | tail _ hp => exact Nat.lt_trans (H p hp) hn
theorem hget_memK {H : Heap} {i : Nat} {o : AObj} (h : hget H i = some o) : ∃ p ∈ H, p.1 = i := by
  induction H with
  | nil => cases h
  | cons p l ih =>
    obtain ⟨j, x⟩ := p
    by_cases hj : j = i
    · exact ⟨_, List.mem_cons_self, hj⟩
    · rw [hget_ne x l hj] at h
      obtain ⟨p, hp, hi⟩ := ih h
      exact ⟨p, List.mem_cons_of_mem _ hp, hi⟩
theorem Low.lt {H : Heap} {n i : Nat} {o : AObj} (hL : Low H n) (h : hget H i = some o) : i < n := by
  obtain ⟨p, hp, rfl⟩ := hget_memK h; exact hL p hp

/-- What a function has laid over what it met. -/
def Over (m : Nat) (h H : Heap) : Prop := ∃ pre, H = pre ++ h ∧ ∀ p ∈ pre, m ≤ p.1
theorem Over.refl (m : Nat) (h : Heap) : Over m h h := ⟨[], rfl, fun p hp => by cases hp⟩
theorem Over.cons {m n : Nat} {h H : Heap} {o : AObj} (hO : Over m h H) (hn : m ≤ n) : Over m h ((n, o) :: H) := by
  obtain ⟨pre, rfl, hp⟩ := hO
  refine ⟨(n, o) :: pre, rfl, fun p h => ?_⟩
  cases h with
  | head => exact hn
  | tail _ h => exact hp p h
theorem Over.trans {m n : Nat} {h H H' : Heap} (h2 : Over n H H') (h1 : Over m h H) (hmn : m ≤ n := by omega) : Over m h H' := by
  obtain ⟨p1, rfl, q1⟩ := h1
  obtain ⟨p2, rfl, q2⟩ := h2
  refine ⟨p2 ++ p1, (List.append_assoc _ _ _).symm, fun p hp => ?_⟩
  rcases List.mem_append.mp hp with hp | hp
  · exact Nat.le_trans hmn (q2 p hp)
  · exact q1 p hp
theorem Over.gc {m : Nat} {h H : Heap} (hO : Over m h H) (hL : Low h m) : hgc H m = h := by
  obtain ⟨pre, rfl, hp⟩ := hO
  induction pre with
  | nil => exact hL.gc
  | cons p l ih =>
    obtain ⟨j, x⟩ := p
    rw [List.cons_append, hgc_hi x _ (hp _ List.mem_cons_self)]
    exact ih (fun p h => hp p (List.mem_cons_of_mem _ h))
theorem Over.old {m i : Nat} {h H : Heap} (hO : Over m h H) (hi : i < m) : hget H i = hget h i := by
  obtain ⟨pre, rfl, hp⟩ := hO
  induction pre with
  | nil => rfl
  | cons p l ih =>
    obtain ⟨j, x⟩ := p
    have := hp _ (List.mem_cons_self)
    rw [List.cons_append, hget_ne x _ (by simp at this; omega)]
    exact ih (fun p h => hp p (List.mem_cons_of_mem _ h))
theorem hset_fst (H : Heap) (i : Nat) (o : AObj) : ∀ p ∈ hset H i o, ∃ q ∈ H, q.1 = p.1 := by
  induction H with
  | nil => intro p hp; cases hp
  | cons q l ih =>
    obtain ⟨j, x⟩ := q
    by_cases hj : j = i
    · subst hj; rw [hset_eq]; intro p hp
      cases hp with
      | head => exact ⟨_, List.mem_cons_self, rfl⟩
      | tail _ hp => exact ⟨p, List.mem_cons_of_mem _ hp, rfl⟩
    · rw [hset_ne x o l hj]; intro p hp
      cases hp with
      | head => exact ⟨_, List.mem_cons_self, rfl⟩
      | tail _ hp =>
        obtain ⟨q, hq, h1⟩ := ih p hp
        exact ⟨q, List.mem_cons_of_mem _ hq, h1⟩
theorem Low.set {H : Heap} {n i : Nat} {o : AObj} (hL : Low H n) : Low (hset H i o) n := fun p hp => by
  obtain ⟨q, hq, h1⟩ := hset_fst H i o p hp; rw [← h1]; exact hL q hq
theorem Over.set {m i : Nat} {h H : Heap} {o : AObj} (hO : Over m h H) (hL : Low h m) (hi : m ≤ i) : Over m h (hset H i o) := by
  obtain ⟨pre, rfl, hp⟩ := hO
  have hno : ∀ (l : Heap), Low l m → hset l i o = l := by
    intro l hl
    induction l with
    | nil => rfl
    | cons q l ih =>
      obtain ⟨j, x⟩ := q
      have := hl _ (List.mem_cons_self)
      rw [hset_ne x o l (by simp at this; omega), ih (fun p hp => hl p (List.mem_cons_of_mem _ hp))]
  refine ⟨hset pre i o, ?_, fun p hp' => ?_⟩
  · induction pre with
    | nil => exact hno h hL
    | cons q l ih =>
      obtain ⟨j, x⟩ := q
      by_cases hj : j = i
      · subst hj; rw [List.cons_append, hset_eq, hset_eq]; rfl
      · rw [List.cons_append, hset_ne x o _ hj, hset_ne x o _ hj, ih (fun p h => hp p (List.mem_cons_of_mem _ h))]; rfl
  · obtain ⟨q, hq, h1⟩ := hset_fst pre i o p hp'; rw [← h1]; exact hp q hq
theorem hget_set {H : Heap} {i j : Nat} {o : AObj} : hget (hset H i o) j = if i = j then (hget H j).map (fun _ => o) else hget H j := by
  induction H with
  | nil => simp [hset, hget]
  | cons q l ih =>
    obtain ⟨k, x⟩ := q
    by_cases hk : k = i
    · subst hk; rw [hset_eq]
      by_cases hj : k = j
      · subst hj; rw [hget_eq, hget_eq]; simp
      · rw [hget_ne _ _ hj, hget_ne _ _ hj, if_neg hj]
    · rw [hset_ne x o l hk]
      by_cases hj : k = j
      · subst hj; rw [hget_eq, hget_eq, if_neg (fun h => hk h.symm)]
      · rw [hget_ne _ _ hj, hget_ne _ _ hj, ih]

@[simp] theorem st_cells (h : Heap) (n o : Nat) : St.cells ⟨h, n⟩ o = (hget h o).bind AObj.cells? := rfl
@[simp] theorem st_get (h : Heap) (n o : Nat) : St.get ⟨h, n⟩ o = hget h o := rfl
@[simp] theorem st_mapOf (h : Heap) (n o : Nat) : St.mapOf ⟨h, n⟩ o = (hget h o).bind AObj.map? := rfl
@[simp] theorem st_tokOf (h : Heap) (n o : Nat) : St.tokOf ⟨h, n⟩ o = (hget h o).bind AObj.tok? := rfl
@[simp] theorem st_add (h : Heap) (n : Nat) (o : AObj) : St.add ⟨h, n⟩ o = ⟨(n, o) :: h, n + 1⟩ := rfl
@[simp] theorem st_set (h : Heap) (n i : Nat) (o : AObj) : St.set ⟨h, n⟩ i o = ⟨hset h i o, n⟩ := rfl
@[simp] theorem st_del (h : Heap) (n i : Nat) : St.del ⟨h, n⟩ i = ⟨hdel h i, n⟩ := rfl
@[simp] theorem st_gc2 (h : Heap) (n m : Nat) : St.gc ⟨h, n⟩ 2 m = ⟨hgc h m, n⟩ := rfl
@[simp] theorem st_gc1 (h : Heap) (n m : Nat) : St.gc ⟨h, n⟩ 1 m = ⟨hgc1 h m, n⟩ := rfl
@[simp] theorem st_gc0 (h : Heap) (n m : Nat) : St.gc ⟨h, n⟩ 0 m = ⟨h, n⟩ := rfl
@[simp] theorem cells_cells (l : List AV) : AObj.cells? (.cells l) = some l := rfl
@[simp] theorem map_map (k : List Nat) (l : List (AV × AV)) : AObj.map? (.map k l) = some (k, l) := rfl
@[simp] theorem tok_tok (a b : Nat) : AObj.tok? (.tok a b) = some (a, b) := rfl

attribute [simp] ret1 op_move op_pick op_box op_alloc op_build op_buildSlice op_load op_store op_nilCheck op_bin op_eqBool op_eqNil op_un op_makeFunc op_makeMap op_fieldAddr op_field op_indexSl op_charAt op_lookup op_mapUpdate op_extract op_lenStr op_lenSl op_lenMap op_append op_append1
attribute [simp] loadAt readPtr ofCells storePtr elemSlice inRange calleeFn binInt binStr ifK kcode one
@[simp] theorem fill_nil (tm : Env) (l : List AV) : fillParts tm [] l = some l := rfl
@[simp] theorem fill_cons (tm : Env) (p : Nat × Nat × Opd) (ps) (l : List AV) : fillParts tm (p :: ps) l = bif Nat.beq (p.2.2.eval tm).cells.length p.2.1 && known (p.2.2.eval tm) then match splice l p.1 (p.2.2.eval tm).cells with
      | some l' => fillParts tm ps l'
      | none => none else none := rfl
@[simp] theorem setElems_nil (tm : Env) (sz : Nat) (l : List AV) : setElems tm sz [] l = some l := rfl
@[simp] theorem setElems_cons (tm : Env) (sz : Nat) (p : Nat × Opd) (ps) (l : List AV) : setElems tm sz (p :: ps) l = bif Nat.beq (p.2.eval tm).cells.length sz && known (p.2.eval tm) then match setNth l p.1 (stripCell (p.2.eval tm)) with
      | some l' => setElems tm sz ps l'
      | none => none else none := rfl
@[simp] theorem setNth_zero (x v : AV) (l : List AV) : setNth (x :: l) 0 v = some (v :: l) := rfl
@[simp] theorem rep_one {α : Type} (v : α) : rep 1 v = [v] := rfl
@[simp] theorem rep_zero {α : Type} (v : α) : rep 0 v = [] := rfl

@[simp] theorem natI_cast (n : Nat) : natI (n : Int) = some n := rfl
@[simp high] theorem natI_zero : natI 0 = some 0 := rfl
@[simp high] theorem natI_one : natI 1 = some 1 := rfl

/-! ### Terms -/
@[simp] theorem avs_len (l : List Tm) : (Tm.avs l).length = l.length := Tm.avs_len l
attribute [simp] nth_eqK
@[simp] theorem avs_nth (l : List Tm) (i : Nat) : (Tm.avs l)[i]? = (l[i]?).map Tm.av := by rw [Tm.avs_map, List.getElem?_map]
@[simp] theorem slc_av (t : Tm) : slc t.av.cells 0 4 = some t.av.cells := by cases t; rfl
@[simp] theorem agg_av (t : Tm) : AV.agg t.av.cells = t.av := by cases t; rfl
@[simp] theorem len_av (t : Tm) : t.av.cells.length = 4 := by cases t; rfl
@[simp] theorem fold_av (k : Int) (s : List UInt8) (n : Int) (l : List Tm) : AV.agg [.int .i64 k, .str s, .int .i64 n, .slice (Tm.avs l) .none] = (Tm.mk k s n l).av := rfl
@[simp] theorem cells_av (k : Int) (s : List UInt8) (n : Int) (l : List Tm) : (Tm.mk k s n l).av.cells = [.int .i64 k, .str s, .int .i64 n, .slice (Tm.avs l) .none] := rfl
@[simp] theorem known_av (t : Tm) : known t.av = true := by cases t; rfl
@[simp] theorem strip_av (t : Tm) : stripVal t.av = t.av := by cases t; rfl
/-! ### Numbers -/
theorem wrapK_id {n : Int} (h1 : -9223372036854775808 ≤ n) (h2 : n ≤ 9223372036854775807) : wrapK .i64 n = n := by
  show wrapI64 n = n
  unfold wrapI64
  cases n with
  | ofNat m =>
    have : Nat.ble m 9223372036854775807 = true := Nat.ble_eq_true_of_le (by simp at h2; omega)
    simp only [this, cond_true]
  | negSucc m =>
    have : Nat.ble m 9223372036854775807 = true := Nat.ble_eq_true_of_le (by omega)
    simp only [this, cond_true]
@[simp] theorem ltI_eqK (x y : Int) : ltI x y = decide (x < y) := by
  cases x <;> cases y <;> simp only [ltI]
  · rename_i a b; cases h : Nat.blt a b
    · have := mt Nat.ble_eq_true_of_le (show ¬ (Nat.ble (a+1) b = true) by rw [show Nat.ble (a+1) b = Nat.blt a b from rfl, h]; simp)
      simp; omega
    · have := Nat.le_of_ble_eq_true h; simp; omega
  · simp; omega
  · simp; omega
  · rename_i a b; cases h : Nat.blt b a
    · have := mt Nat.ble_eq_true_of_le (show ¬ (Nat.ble (b+1) a = true) by rw [show Nat.ble (b+1) a = Nat.blt b a from rfl, h]; simp)
      simp; omega
    · have := Nat.le_of_ble_eq_true h; simp; omega
@[simp] theorem eqI_eqK (x y : Int) : eqI x y = decide (x = y) := by
  cases x <;> cases y <;> simp only [eqI]
  · rename_i a b; by_cases h : a = b
    · subst h; simp [Nat.beq_refl]
    · rw [beq_ne h]; simp; omega
  · simp
  · simp
  · rename_i a b; by_cases h : a = b
    · subst h; simp [Nat.beq_refl]
    · rw [beq_ne h]; simp; omega
@[simp] theorem eqS_eqK (x y : List UInt8) : eqS x y = decide (x = y) := by
  induction x generalizing y with
  | nil => cases y <;> simp [eqS]
  | cons a x ih =>
    cases y with
    | nil => simp [eqS]
    | cons b y =>
      show (bif Nat.beq a.toNat b.toNat then eqS x y else false) = _
      by_cases h : a = b
      · subst h; rw [Nat.beq_refl, cond_true, ih]; simp
      · rw [beq_ne (fun h' => h (UInt8.toNat_inj.mp h')), cond_false]; simp [h]
attribute [simp] fin_ret fin_normal readResults
attribute [simp] hget_eq hget_ne hset_eq hset_ne hgc_hi wrapK_id

/-! ### The checks of a drawn region -/
@[simp] theorem check_nil (l : List Log) : checkLog l [] = true := rfl
@[simp] theorem check_cons (l : List Log) (c : Nat × List Nat) (r : List (Nat × List Nat)) : checkLog l (c :: r) = ((match nth l c.1 with | some e => checkRow l e c.2 | none => false) && checkLog l r) := rfl
@[simp] theorem checkRow_nil (l : List Log) (e : Log) : checkRow l e [] = true := rfl
@[simp] theorem checkRow_cons (l : List Log) (e : Log) (p : Nat) (ps : List Nat) : checkRow l e (p :: ps) = (staysAt l e p && staysAt l e (p + 1) && checkRow l e ps) := rfl
@[simp] theorem staysAt_eq (l : List Log) (e : Log) (p : Nat) : staysAt l e p = (match nth l p with | some a => stays e a.at_ | none => false) := rfl
@[simp] theorem stays_none (σ τ : St) (v : AV) : stays ⟨σ, none, v⟩ τ = true := rfl
@[simp] theorem stays_some (σ τ : St) (p : AOp) (tm : Env) (v : AV) : stays ⟨σ, some (p, tm), v⟩ τ = (match op p tm τ with | some (u, _) => AV.beq u v | none => false) := rfl
mutual
theorem beq_self : ∀ v : AV, AV.beq v v = true
  | .junk | .undef | .nilp | .nilm | .nilf | .nili => by simp [AV.beq]
  | .bool _ | .int _ _ | .str _ | .hsl _ _ _ _ | .ptr _ _ | .map _ | .itr _ => by simp [AV.beq]
  | .agg l => by simp [AV.beq, beqs_self l]
  | .tup l => by simp [AV.beq, beqs_self l]
  | .slice l _ => by simp [AV.beq, beqs_self l]
  | .eptr l _ => by simp [AV.beq, beqs_self l]
  | .fn _ a b => by simp [AV.beq, beqs_self a, beqs_self b]
  | .iface _ v => by simp [AV.beq, beq_self v]
theorem beqs_self : ∀ l : List AV, AV.beqs l l = true
  | [] => by simp [AV.beqs]
  | a :: l => by simp [AV.beqs, beq_self a, beqs_self l]
end
attribute [simp] beq_self

/-! ### Appending -/
/-- A slice may be appended to: it is full, or bears the number of its bearer. -/
def AppOk (H : Heap) (m : Nat) (tk : Tok) (sz : Nat) : Prop := tk = .full ∨ ∃ i g, m ≤ i ∧ tk = .live i g ∧ hget H i = some (.tok g sz)
theorem AppOk.cons {H : Heap} {m n : Nat} {tk : Tok} {sz : Nat} {o : AObj} (h : AppOk H m tk sz) (hL : Low H n) : AppOk ((n, o) :: H) m tk sz := by
  rcases h with rfl | ⟨i, g, h1, h2, h3⟩
  · exact .inl rfl
  · have := hL.lt h3
    exact .inr ⟨i, g, h1, h2, by rw [hget_ne o H (by omega)]; exact h3⟩
theorem app1 {H h : Heap} {n m sz bytes : Nat} {es : List AV} {x : AV} {tk : Tok} (hA : AppOk H m tk sz) (hO : Over m h H) (hl : Low h m) (hL : Low H n) (hn : m ≤ n) (hf : fits (es.length + 1) bytes = true) (hx : elemOk sz x = true) (hh : headOk sz es = true) :
    ∃ tk' H' n', appSlice es tk sz bytes false [x] ⟨H, n⟩ = some (.slice (es ++ [stripCell x]) tk', ⟨H', n'⟩) ∧ AppOk H' m tk' sz ∧ Over m h H' ∧ Low H' n' ∧ n ≤ n' ∧ ∀ j c, hget H j = some (.cells c) → hget H' j = some (.cells c) := by
  have e : appSlice es tk sz bytes false [x] ⟨H, n⟩ = grow es [stripCell x] tk sz ⟨H, n⟩ := by
    unfold appSlice
    simp [hf, hx, hh]
  rw [e]
  rcases hA with rfl | ⟨i, g, h1, rfl, h3⟩
  · refine ⟨.live n 0, (n, .tok 0 sz) :: H, n + 1, rfl, .inr ⟨n, 0, hn, rfl, hget_eq _ _ _⟩, hO.cons hn, hL.cons (Nat.lt_succ_self n), Nat.le_succ n, fun j c hj => ?_⟩
    have := hL.lt hj
    rw [hget_ne _ _ (by omega)]; exact hj
  · refine ⟨.live i (g + 1), hset H i (.tok (g + 1) sz), n, ?_, .inr ⟨i, g + 1, h1, rfl, by rw [hget_set, if_pos rfl, h3]; rfl⟩, hO.set hl h1, hL.set, Nat.le_refl n, fun j c hj => ?_⟩
    · unfold grow
      simp only [st_tokOf, h3, Option.bind_some, tok_tok, Nat.beq_refl, Bool.and_self, cond_true, st_set]
    · have : i ≠ j := fun hij => by subst hij; rw [h3] at hj; cases hj
      rw [hget_set, if_neg this]; exact hj
end Go.AM
namespace Go.AM
variable {T : Tab}

/-! ### A call of what a temporary holds -/
section
variable {ks : List K} {env : Env} {ds : List ADef} {σ : St} {Q : Ex → Env → List ADef → St → Prop}
def CallV (T : Tab) (fv : AV) (as : List AV) (σ : St) (d : Option Nat) (l : List AOper) (ks : List K) (env : Env) (ds : List ADef) (Q : Ex → Env → List ADef → St → Prop) : Prop :=
  ∃ c as' P, callee fv as = some (c, as') ∧ Spec T c as' σ P ∧ ∀ v τ, P v τ → Run T (.ops l :: ks) .normal (put env d v) ds τ Q
theorem r_callt (hm : PrimMono T) {d : Option Nat} {i : Nat} {args : List Opd} {l : List AOper} : Run T (.ops (⟨d, none, .call (.t i) args⟩ :: l) :: ks) .normal env ds σ Q = CallV T (aget env i) (evals env args) σ d l ks env ds Q := by
  refine propext ⟨fun ⟨m, x, e, d', s, h1, h2⟩ => ?_, fun ⟨c, as', P, h0, h1, h2⟩ => ops_call hm (f := .t i) h0 h1 h2⟩
  have h : opers (⟨d, none, .call (.t i) args⟩ :: l) (call T m) env ds σ = match callee (aget env i) (evals env args) with
      | some (c, as) => (match call T m c as σ with
        | some (v, τ) => opers l (call T m) (put env d v) ds τ
        | none => none)
      | none => none := by
    show opersCons _ (opers l) (call T m) env ds σ = _
    unfold opersCons
    have h7 : oper ⟨d, none, .call (.t i) args⟩ (call T m) env ds σ = match callee (aget env i) (evals env args) with
        | some (c, as) => (match call T m c as σ with
          | some (v, τ) => some (put env d v, ds, τ)
          | none => none)
        | none => none := rfl
    rw [h7]
    cases callee (aget env i) (evals env args) with
    | none => rfl
    | some q =>
      dsimp only
      cases call T m q.1 q.2 σ with
      | none => rfl
      | some q => rfl
  cases hcal : callee (aget env i) (evals env args) with
  | none => simp only [execK, h, hcal] at h1; exact absurd h1 (by simp)
  | some q =>
    obtain ⟨c, as⟩ := q
    cases hcall : call T m c as σ with
    | none => simp only [execK, h, hcal, hcall] at h1; exact absurd h1 (by simp)
    | some q =>
      obtain ⟨v, τ⟩ := q
      simp only [execK, h, hcal, hcall] at h1
      exact ⟨c, as, fun v' τ' => v' = v ∧ τ' = τ, hcal, ⟨m, v, τ, hcall, rfl, rfl⟩, fun v' τ' hv => by obtain ⟨rfl, rfl⟩ := hv; exact ⟨m, x, e, d', s, h1, h2⟩⟩
def CallVD (T : Tab) (fv : AV) (f : Opd) (args : List Opd) (as : List AV) (σ : St) (d : Option Nat) (l : List AOper) (acc : List Log) (chk : List (Nat × List Nat)) (ks : List K) (env : Env) (ds : List ADef) (Q : Ex → Env → List ADef → St → Prop) : Prop :=
  ∃ c as' P, callee fv as = some (c, as') ∧ Spec T c as' σ P ∧ ∀ v τ, P v τ → Run T (.dops l (⟨σ, some (.call f args, env), (match d with | some _ => v | none => .undef)⟩ :: acc) chk :: ks) .normal (put env d v) ds τ Q
theorem q_callt (hm : PrimMono T) {d : Option Nat} {i : Nat} {args : List Opd} {l : List AOper} {acc chk} : Run T (.dops (⟨d, none, .call (.t i) args⟩ :: l) acc chk :: ks) .normal env ds σ Q = CallVD T (aget env i) (.t i) args (evals env args) σ d l acc chk ks env ds Q := by
  refine propext ⟨fun ⟨m, x, e, d', s, h1, h2⟩ => ?_, fun ⟨c, as', P, h0, h1, h2⟩ => dops_call hm (f := .t i) h0 h1 h2⟩
  rw [exec_dops_cons] at h1
  have h7 : oper ⟨d, none, .call (.t i) args⟩ (call T m) env ds σ = match callee (aget env i) (evals env args) with
      | some (c, as) => (match call T m c as σ with
        | some (v, τ) => some (put env d v, ds, τ)
        | none => none)
      | none => none := rfl
  rw [h7] at h1
  cases hcal : callee (aget env i) (evals env args) with
  | none => rw [hcal] at h1; exact absurd h1 (by simp [wanted])
  | some q =>
    obtain ⟨c, as⟩ := q
    rw [hcal] at h1; dsimp only at h1
    cases hcall : call T m c as σ with
    | none => rw [hcall] at h1; exact absurd h1 (by simp [wanted])
    | some q =>
      obtain ⟨v, τ⟩ := q
      rw [hcall] at h1
      have h8 : execK T m (.dops l (logOf ⟨d, none, .call (.t i) args⟩ true env (put env d v) σ :: acc) chk :: ks) .normal (put env d v) ds τ = some (x, e, d', s) := h1
      rw [logOf_put] at h8
      exact ⟨c, as, fun v' τ' => v' = v ∧ τ' = τ, hcal, ⟨m, v, τ, hcall, rfl, rfl⟩, fun v' τ' hv => by obtain ⟨rfl, rfl⟩ := hv; exact ⟨m, x, e, d', s, h8, h2⟩⟩
end

/-! ### What stays -/
/-- Objects that lie in a heap. -/
def Facts (F : List (Nat × AObj)) (H : Heap) : Prop := ∀ p ∈ F, hget H p.1 = some p.2
/-- What is known of a loop's surroundings: older than its object, or no variable. -/
def Good (l : Nat) (F : List (Nat × AObj)) : Prop := ∀ p ∈ F, p.1 ≠ l ∧ (p.1 < l ∨ p.2.stays = true)

theorem Facts.cons {F : List (Nat × AObj)} {H : Heap} {n : Nat} {o : AObj} (h : Facts F H) (hL : Low H n) : Facts F ((n, o) :: H) := fun p hp => by
  have := hL.lt (h p hp); rw [hget_ne o H (by omega)]; exact h p hp
theorem Facts.set {F : List (Nat × AObj)} {H : Heap} {i : Nat} {o : AObj} (h : Facts F H) (hi : ∀ p ∈ F, p.1 ≠ i) : Facts F (hset H i o) := fun p hp => by
  rw [hget_set, if_neg (fun h' => hi p hp h'.symm)]; exact h p hp
theorem hgc1_hi {i m : Nat} (o : AObj) (l : Heap) (h : m ≤ i) : hgc1 ((i, o) :: l) m = bif o.stays then (i, o) :: hgc1 l m else hgc1 l m := by
  show (bif Nat.ble m i then (bif o.stays then (i, o) :: hgc1 l m else hgc1 l m) else (i, o) :: l) = _
  rw [Nat.ble_eq_true_of_le h]; rfl
theorem hgc1_lo {i m : Nat} (o : AObj) (l : Heap) (h : i < m) : hgc1 ((i, o) :: l) m = (i, o) :: l := by
  show (bif Nat.ble m i then (bif o.stays then (i, o) :: hgc1 l m else hgc1 l m) else (i, o) :: l) = _
  have : Nat.ble m i = false := by
    cases hb : Nat.ble m i with
    | false => rfl
    | true => exact absurd (Nat.le_of_ble_eq_true hb) (by omega)
  rw [this]; rfl
theorem hgc1_keep {H : Heap} {i m : Nat} {o : AObj} (h : hget H i = some o) (hk : i < m ∨ o.stays = true) : hget (hgc1 H m) i = some o := by
  induction H with
  | nil => cases h
  | cons q l ih =>
    obtain ⟨j, x⟩ := q
    by_cases hj : m ≤ j
    · rw [hgc1_hi x l hj]
      by_cases hij : j = i
      · subst hij
        rw [hget_eq] at h; cases h
        have : o.stays = true := hk.resolve_left (by omega)
        rw [this, cond_true, hget_eq]
      · rw [hget_ne x l hij] at h
        cases x.stays
        · exact ih h
        · rw [cond_true, hget_ne _ _ hij]; exact ih h
    · rw [hgc1_lo x l (by omega)]; exact h
theorem hgc1_mem {H : Heap} {m : Nat} : ∀ p ∈ hgc1 H m, p ∈ H := by
  induction H with
  | nil => intro p hp; cases hp
  | cons q l ih =>
    obtain ⟨j, x⟩ := q
    intro p hp
    by_cases hj : m ≤ j
    · rw [hgc1_hi x l hj] at hp
      cases hx : x.stays with
      | false => rw [hx] at hp; exact List.mem_cons_of_mem _ (ih p hp)
      | true =>
        rw [hx, cond_true] at hp
        cases hp with
        | head => exact List.mem_cons_self
        | tail _ hp => exact List.mem_cons_of_mem _ (ih p hp)
    · rw [hgc1_lo x l (by omega)] at hp; exact hp
theorem Low.gc1 {H : Heap} {n m : Nat} (hL : Low H n) : Low (hgc1 H m) n := fun p hp => hL p (hgc1_mem p hp)
theorem Low.gc1_id {h : Heap} {m : Nat} (H : Low h m) : hgc1 h m = h := by
  cases h with
  | nil => rfl
  | cons p l => obtain ⟨j, x⟩ := p; exact hgc1_lo x l (H _ List.mem_cons_self)
theorem Over.gc1 {m n : Nat} {h H : Heap} (hO : Over m h H) (hl : Low h m) (hn : m ≤ n) : Over m h (hgc1 H n) := by
  obtain ⟨pre, rfl, hp⟩ := hO
  induction pre with
  | nil => rw [List.nil_append, (hl.mono hn).gc1_id]; exact Over.refl m h
  | cons p l ih =>
    obtain ⟨j, x⟩ := p
    have hlp := ih (fun p h => hp p (List.mem_cons_of_mem _ h))
    rw [List.cons_append]
    by_cases hj : n ≤ j
    · rw [hgc1_hi x _ hj]
      cases x.stays
      · exact hlp
      · exact hlp.cons (by have := hp _ List.mem_cons_self; simpa using this)
    · rw [hgc1_lo x _ (by omega)]; exact ⟨(j, x) :: l, rfl, hp⟩
theorem Facts.gc1 {F : List (Nat × AObj)} {H : Heap} {l m : Nat} (h : Facts F H) (hg : Good l F) (hm : l < m) : Facts F (hgc1 H m) := fun p hp =>
  hgc1_keep (h p hp) ((hg p hp).2.imp (fun h => by omega) id)

/-! ### Rounds -/
def Ex.isN : Ex → Bool | .normal => true | _ => false
/-- A loop's surroundings: what it lies over, what is known of them. -/
structure Wd (l m : Nat) (h : Heap) (o : AObj) (Q : List (Nat × AObj) → Prop) (τ : St) : Prop where
  over : Over m h τ.heap
  low : Low τ.heap τ.next
  lt : l < τ.next
  obj : hget τ.heap l = some o
  known : ∃ F, Good l F ∧ Facts F τ.heap ∧ Q F
/-- Variables above a place stay. -/
def Kp (l : Nat) (H H' : Heap) : Prop := ∀ j c, l < j → hget H j = some (.cells c) → hget H' j = some (.cells c)
theorem Kp.refl (l : Nat) (H : Heap) : Kp l H H := fun _ _ _ h => h
theorem Kp.trans {l : Nat} {H H' H'' : Heap} (a : Kp l H H') (b : Kp l H' H'') : Kp l H H'' := fun j c hj h => b j c hj (a j c hj h)
theorem Kp.cons {l n : Nat} {H H' : Heap} {o : AObj} (a : Kp l H H') (hL : Low H' n) : Kp l H ((n, o) :: H') := fun j c hj h => by
  have := a j c hj h; have h2 := hL.lt this; rw [hget_ne _ _ (by omega)]; exact this
theorem Kp.set {l i : Nat} {H H' : Heap} {o : AObj} (a : Kp l H H') (hi : i ≤ l) : Kp l H (hset H' i o) := fun j c hj h => by
  rw [hget_set, if_neg (by omega)]; exact a j c hj h

theorem Wd.cons {l m n : Nat} {h H : Heap} {o o' : AObj} {Q} (w : Wd l m h o Q ⟨H, n⟩) (hmn : m ≤ n) : Wd l m h o Q ⟨(n, o') :: H, n + 1⟩ :=
  ⟨w.over.cons hmn, w.low.cons (Nat.lt_succ_self n), Nat.lt_succ_of_lt w.lt, by have := w.lt; show hget ((n, o') :: H) l = _; rw [hget_ne _ _ (Nat.ne_of_gt this)]; exact w.obj, by obtain ⟨F, g, f, q⟩ := w.known; exact ⟨F, g, f.cons w.low, q⟩⟩
theorem Wd.next {l m n n' : Nat} {h H : Heap} {o : AObj} {Q} (w : Wd l m h o Q ⟨H, n⟩) (hn : n ≤ n') : Wd l m h o Q ⟨H, n'⟩ :=
  ⟨w.over, w.low.mono hn, Nat.lt_of_lt_of_le w.lt hn, w.obj, w.known⟩
theorem Wd.gc1 {l m n i : Nat} {h H : Heap} {o : AObj} {Q} (w : Wd l m h o Q ⟨H, n⟩) (hl : Low h m) (hli : l < i) (hmi : m ≤ i) : Wd l m h o Q ⟨hgc1 H i, n⟩ :=
  ⟨w.over.gc1 hl hmi, w.low.gc1, w.lt, hgc1_keep w.obj (.inl hli), by obtain ⟨F, g, f, q⟩ := w.known; exact ⟨F, g, f.gc1 g hli, q⟩⟩

theorem spec_yield (hm : PrimMono T) {l n : Nat} {H : Heap} {args : List AV} {tm : Env} {ps : List Nat} {as body : ACode} {P : AV → St → Prop}
    (h0 : hget H l = some (.loop .ready none tm ps as body)) (hlen : args.length = ps.length)
    (h : Run T [.code as] .normal (putAll tm ps args) [] ⟨H, n⟩ fun x env ds σ => x = .normal ∧ hget σ.heap l = some (.loop .ready none tm ps as body) ∧
      Run T [.code body] .normal env ds (σ.set l (.loop .busy none tm ps as body)) fun x _ ds σ => ds = [] ∧ hget σ.heap l = some (.loop .busy none tm ps as body) ∧
        P (.bool (Ex.jump x).isNone) (σ.set l (.loop (if (Ex.jump x).isNone then .ready else .done) (Ex.jump x) tm ps as body))) : Spec T (.yield l) args ⟨H, n⟩ P := by
  obtain ⟨f1, x1, e1, d1, s1, h1, rfl, h2, f2, x2, e2, d2, s2, h3, rfl, h4, h5⟩ := h
  refine ⟨max f1 f2 + 1, _, _, ?_, h5⟩
  show round (call T (max f1 f2)) (max f1 f2) l args ⟨H, n⟩ = _
  unfold round
  have hl : St.get ⟨H, n⟩ l = some (.loop .ready none tm ps as body) := h0
  rw [hl]
  dsimp only
  rw [if_neg (by omega)]
  rw [exec_append _ _ .normal] at h1 h3
  cases hc1 : code as (call T f1) f1 ⟨putAll tm ps args, []⟩ ⟨H, n⟩ with
  | none => rw [hc1] at h1; exact absurd h1 (by simp)
  | some q =>
    obtain ⟨x, fr, s⟩ := q
    rw [hc1] at h1
    simp only [execK, Option.some.injEq, Prod.mk.injEq] at h1
    obtain ⟨rfl, rfl, rfl, rfl⟩ := h1
    rw [code_mono (call_le hm f1 _ (Nat.le_max_left f1 f2)) (Nat.le_max_left f1 f2) _ _ _ _ hc1]
    dsimp only
    have hl2 : s.get l = some (.loop .ready none tm ps as body) := h2
    rw [hl2]
    dsimp only
    cases hc2 : code body (call T f2) f2 ⟨fr.env, fr.defs⟩ (s.set l (.loop .busy none tm ps as body)) with
    | none => rw [hc2] at h3; exact absurd h3 (by simp)
    | some q =>
      obtain ⟨x', fr', s'⟩ := q
      rw [hc2] at h3
      simp only [execK, Option.some.injEq, Prod.mk.injEq] at h3
      obtain ⟨rfl, rfl, hd, rfl⟩ := h3
      have hc3 := code_mono (call_le hm f2 _ (Nat.le_max_right f1 f2)) (Nat.le_max_right f1 f2) _ _ _ _ hc2
      have hfr : fr = ⟨fr.env, fr.defs⟩ := rfl
      rw [← hfr] at hc3
      rw [hc3]
      dsimp only
      rw [hd]
      have hl3 : s'.get l = some (.loop .busy none tm ps as body) := h4
      rw [hl3]
      rfl
end Go.AM
