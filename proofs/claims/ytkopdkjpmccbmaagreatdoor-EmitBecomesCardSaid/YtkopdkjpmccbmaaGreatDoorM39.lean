/- A part of the proof of: EmitBecomes: what a term becomes by patterns, and a pattern's name, is what the document says, or the error is told. -/
import Derived.Test.YtkopdkjpmccbmaaGreatDoorM36
import Derived.Test.YtkopdkjpmccbmaaGreatDoorM24
import Derived.Test.YtkopdkjpmccbmaaGreatDoorM25
import Derived.Test.YtkopdkjpmccbmaaGreatDoorM38
import Derived.Test.YtkopdkjpmccbmaaGreatDoorM37
namespace Go.AM
variable {T : Tab}

mutual
def Tm.size : Tm → Nat
  | .mk _ _ _ l => 1 + Tm.sizes l
def Tm.sizes : List Tm → Nat
  | [] => 0
  | t :: l => t.size + Tm.sizes l
end
mutual
def Tm.deep : Tm → Nat
  | .mk _ _ _ l => Tm.deeps l + 1
def Tm.deeps : List Tm → Nat
  | [] => 0
  | t :: l => max t.deep (Tm.deeps l)
end
theorem sizes_mem {l : List Tm} {x : Tm} (h : x ∈ l) : x.size ≤ Tm.sizes l := by
  induction l with
  | nil => cases h
  | cons t l ih =>
    rw [Tm.sizes]
    cases h with
    | head => omega
    | tail _ h => have := ih h; omega
theorem sizes_get {l : List Tm} {i : Nat} (h : i < l.length) : Tm.sizes (l.drop i) = (l[i]).size + Tm.sizes (l.drop (i + 1)) := by
  rw [List.drop_eq_getElem_cons h, Tm.sizes]
theorem size_pos (t : Tm) : 1 ≤ t.size := by cases t; rw [Tm.size]; omega
theorem sizes_len (l : List Tm) : l.length ≤ Tm.sizes l := by
  induction l with
  | nil => exact Nat.le_refl _
  | cons t l ih => rw [Tm.sizes, List.length_cons]; have := size_pos t; omega
theorem size_spec (hm : PrimMono T) (h71 : Has T 27 a27) (t : Tm) (hs : t.size ≤ 4000) (h : Heap) (m : Nat) (hl : Low h m) : Spec T (.fn 27) [t.av] ⟨h, m⟩ (Ret h m (.int .i64 t.size)) := by
  refine Tm.ind (M := fun t => t.size ≤ 4000 → ∀ (h : Heap) (m : Nat) (hl : Low h m), Spec T (.fn 27) [t.av] ⟨h, m⟩ (Ret h m (.int .i64 t.size))) (fun k s n l ih hs h m hl => ?_) t hs h m hl
  refine spec_fn hm h71.prim h71.func rfl ?_
  rw [Tm.size] at hs ⊢
  simp (disch := omega) [a27]
  have hlen := sizes_len l
  let I : Nat → Env → List ADef → St → Prop := fun q env ds σ => ds = [] ∧ ∃ (i v : Nat) (m' : Nat), i ≤ l.length ∧ q = l.length - i ∧ m < m' ∧
    σ = ⟨(m, .cells [.int .i64 k, .str s, .int .i64 n, .slice (Tm.avs l) .none]) :: h, m'⟩ ∧ aget env 1 = .ptr m 0 ∧ aget env 3 = .int .i64 v ∧ aget env 4 = .int .i64 i ∧
    v + Tm.sizes (l.drop i) = 1 + Tm.sizes l
  refine run_loop hm I ?_ l.length ?_
  · rintro q env ds σ ⟨rfl, i, v, m', hi, rfl, hmm, rfl, e1, e3, e4, hf⟩
    by_cases d1 : i < l.length
    · rw [sizes_get d1] at hf
      have hle := sizes_mem (List.getElem_mem d1)
      simp (disch := omega) [r_call hm, e1, e3, e4, d1]
      refine CallK.ret (ih _ (List.getElem_mem d1) (by omega) _ _ (hl.cons hmm)) (fun m2 hm2 => ?_)
      simp (disch := omega) [e4]
      exact ⟨l.length - (i + 1), by omega, rfl, i + 1, v + l[i].size, m2, by omega, rfl, by omega, rfl, by simp [e1], by simp, by simp, by omega⟩
    · rw [List.drop_eq_nil_of_le (by omega), Tm.sizes] at hf
      simp (disch := omega) [e1, e3, e4, d1, Ret, hl.gc]
      omega
  · exact ⟨rfl, 0, 1, m + 1, by simp, by simp, by omega, rfl, by simp, by simp, by simp, by simp⟩

theorem deep_size (t : Tm) : t.deep ≤ t.size := by
  refine Tm.ind (M := fun t => t.deep ≤ t.size) (fun k s n l ih => ?_) t
  have : ∀ (l : List Tm), (∀ x ∈ l, x.deep ≤ x.size) → Tm.deeps l ≤ Tm.sizes l := by
    intro l
    induction l with
    | nil => intro _; exact Nat.le_refl _
    | cons t l ihl => intro ih; rw [Tm.deeps, Tm.sizes]; have := ih t (by simp); have := ihl (fun x hx => ih x (by simp [hx])); omega
  have := this l ih
  rw [Tm.deep, Tm.size]; omega

theorem deep_spec (hm : PrimMono T) (h72 : Has T 28 a28) (t : Tm) (hs : t.size ≤ 4000) (h : Heap) (m : Nat) (hl : Low h m) : Spec T (.fn 28) [t.av] ⟨h, m⟩ (Ret h m (.int .i64 t.deep)) := by
  refine Tm.ind (M := fun t => t.size ≤ 4000 → ∀ (h : Heap) (m : Nat) (hl : Low h m), Spec T (.fn 28) [t.av] ⟨h, m⟩ (Ret h m (.int .i64 t.deep))) (fun k s n l ih hs h m hl => ?_) t hs h m hl
  refine spec_fn hm h72.prim h72.func rfl ?_
  have hd := deep_size (.mk k s n l)
  rw [Tm.deep] at hd ⊢
  rw [Tm.size] at hs hd
  simp (disch := omega) [a28]
  have hlen := sizes_len l
  let I : Nat → Env → List ADef → St → Prop := fun q env ds σ => ds = [] ∧ ∃ (i v : Nat) (m' : Nat), i ≤ l.length ∧ q = l.length - i ∧ m < m' ∧
    σ = ⟨(m, .cells [.int .i64 k, .str s, .int .i64 n, .slice (Tm.avs l) .none]) :: h, m'⟩ ∧ aget env 1 = .ptr m 0 ∧ aget env 3 = .int .i64 v ∧ aget env 4 = .int .i64 i ∧
    max v (Tm.deeps (l.drop i)) = Tm.deeps l
  refine run_loop hm I ?_ l.length ?_
  · rintro q env ds σ ⟨rfl, i, v, m', hi, rfl, hmm, rfl, e1, e3, e4, hf⟩
    by_cases d1 : i < l.length
    · rw [List.drop_eq_getElem_cons d1, Tm.deeps] at hf
      have hle := sizes_mem (List.getElem_mem d1)
      simp (disch := omega) [r_call hm, e1, e4, d1]
      refine CallK.ret (ih _ (List.getElem_mem d1) (by omega) _ _ (hl.cons hmm)) (fun m2 hm2 => ?_)
      by_cases d2 : v < l[i].deep
      · simp (disch := omega) [e3, e4, d2]
        exact ⟨l.length - (i + 1), by omega, rfl, i + 1, l[i].deep, m2, by omega, rfl, by omega, rfl, by simp [e1], by simp, by simp, by omega⟩
      · simp (disch := omega) [e3, e4, d2]
        exact ⟨l.length - (i + 1), by omega, rfl, i + 1, v, m2, by omega, rfl, by omega, rfl, by simp [e1], by simp [e3], by simp, by omega⟩
    · rw [List.drop_eq_nil_of_le (by omega), Tm.deeps] at hf
      simp (disch := omega) [e1, e3, e4, d1, Ret, hl.gc]
      omega
  · exact ⟨rfl, 0, 0, m + 1, by simp, by simp, by omega, rfl, by simp, by simp, by simp, by simp⟩
end Go.AM
namespace Go.AM
variable {T : Tab}
open Classical

def chars (s : List UInt8) : Prop := ∀ b ∈ s, 32 ≤ (b.toNat : Int) ∧ (b.toNat : Int) ≤ 126
def ownOk (k : Int) (s : List UInt8) (n : Int) (l : List Tm) : Prop :=
  if k = 1 then 0 ≤ n ∧ n < 1000000 ∧ s = [] ∧ l = [] else if k = 2 then s = [] ∧ l = [] else k = 3 ∧ n = 0 ∧ ¬ (s.length : Int) < 1 ∧ ¬ (20 : Int) < s.length ∧ ¬ (8 : Int) < l.length
mutual
def Tm.fair : Tm → Prop
  | .mk k s n l => chars s ∧ Tm.fairs l ∧ ownOk k s n l
def Tm.fairs : List Tm → Prop
  | [] => True
  | t :: l => t.fair ∧ Tm.fairs l
end

@[simp] theorem chars_nil : chars [] := fun b hb => by cases hb
@[simp] theorem fairs_nil : Tm.fairs [] := by rw [Tm.fairs]; trivial
set_option maxHeartbeats 4000000 in
theorem fair_spec (hm : PrimMono T) (h70 : Has T 26 a26) (t : Tm) (wf : t.Wf) (h : Heap) (m : Nat) (hl : Low h m) : Spec T (.fn 26) [t.av] ⟨h, m⟩ (Ret h m (.bool (decide t.fair))) := by
  refine Tm.ind (M := fun t => t.Wf → ∀ (h : Heap) (m : Nat) (hl : Low h m), Spec T (.fn 26) [t.av] ⟨h, m⟩ (Ret h m (.bool (decide t.fair)))) (fun k s n l ih wf h m hl => ?_) t wf h m hl
  obtain ⟨_, _, hsl, hll, hwf⟩ := wf
  refine spec_fn hm h70.prim h70.func rfl ?_
  simp (disch := omega) [a26]
  let I : Nat → Env → List ADef → St → Prop := fun q env ds σ => ds = [] ∧ ∃ (i : Nat), i ≤ s.length ∧ q = s.length - i ∧
    σ = ⟨(m, .cells [.int .i64 k, .str s, .int .i64 n, .slice (Tm.avs l) .none]) :: h, m + 1⟩ ∧ aget env 1 = .ptr m 0 ∧ aget env 3 = .int .i64 i ∧
    (chars (s.drop i) ↔ chars s)
  refine run_loop hm I ?_ s.length ?_
  · rintro q env ds σ ⟨rfl, i, hi, rfl, rfl, e1, e3, hf⟩
    by_cases d1 : i < s.length
    · rw [List.drop_eq_getElem_cons d1] at hf
      by_cases d2 : (s[i].toNat : Int) < 32
      · have hno : ¬ chars s := by
          rw [← hf]; intro hc; have := (hc s[i] List.mem_cons_self).1; omega
        simp (disch := omega) [e1, e3, d1, d2, Ret, hl.gc, Tm.fair, hno]
      · by_cases d3 : 126 < (s[i].toNat : Int)
        · have hno : ¬ chars s := by
            rw [← hf]; intro hc; have := (hc s[i] List.mem_cons_self).2; omega
          simp (disch := omega) [e1, e3, d1, d2, d3, Ret, hl.gc, Tm.fair, hno]
        · simp (disch := omega) [e1, e3, d1, d2, d3]
          refine ⟨s.length - (i + 1), by omega, rfl, i + 1, by omega, rfl, rfl, by simp [e1], by simp, ?_⟩
          rw [← hf]; exact ⟨fun hc b hb => by cases hb with | head => omega | tail _ hb => exact hc b hb, fun hc b hb => hc b (List.mem_cons_of_mem _ hb)⟩
    · have hch : chars s := by rw [← hf, List.drop_eq_nil_of_le (by omega)]; intro b hb; cases hb
      simp (disch := omega) [e1, e3, d1]
      let J : Nat → Env → List ADef → St → Prop := fun q env ds σ => ds = [] ∧ ∃ (i m' : Nat), i ≤ l.length ∧ q = l.length - i ∧ m < m' ∧
        σ = ⟨(m, .cells [.int .i64 k, .str s, .int .i64 n, .slice (Tm.avs l) .none]) :: h, m'⟩ ∧ aget env 1 = .ptr m 0 ∧ aget env 4 = .int .i64 i ∧
        (Tm.fairs (l.drop i) ↔ Tm.fairs l)
      refine run_loop hm J ?_ l.length ?_
      · clear hf d1 hi e1 e3
        rintro q env ds σ ⟨rfl, i, m', hi, rfl, hmm, rfl, e1, e4, hf⟩
        by_cases d1 : i < l.length
        · rw [List.drop_eq_getElem_cons d1, Tm.fairs] at hf
          simp (disch := omega) [r_call hm, e1, e4, d1]
          refine CallK.ret (ih _ (List.getElem_mem d1) (hwf _ (List.getElem_mem d1)) _ _ (hl.cons hmm)) (fun m2 hm2 => ?_)
          by_cases d2 : l[i].fair
          · simp (disch := omega) [e1, e4, d2, unV]
            exact ⟨l.length - (i + 1), by omega, rfl, i + 1, m2, by omega, rfl, by omega, rfl, by simp [e1], by simp, by rw [← hf]; simp [d2]⟩
          · have hno : ¬ Tm.fairs l := by rw [← hf]; simp [d2]
            simp (disch := omega) [d2, unV, Ret, hl.gc, Tm.fair, hno]
            omega
        · have hfa : Tm.fairs l := by rw [← hf, List.drop_eq_nil_of_le (by omega), Tm.fairs]; trivial
          have hi0 : ¬ (i : Int) < 0 := by omega
          by_cases k1 : k = 1
          · subst k1
            by_cases c1 : n < 0
            · (simp (disch := omega) [e1, e4, d1, c1, Ret, hl.gc, Tm.fair, hfa, hch, ownOk]; try omega)
            by_cases c2 : n < 1000000
            rotate_left
            · (simp (disch := omega) [e1, e4, d1, c1, c2, Ret, hl.gc, Tm.fair, hfa, hch, ownOk]; try omega)
            by_cases c3 : s = []
            rotate_left
            · (simp (disch := omega) [e1, e4, d1, c1, c2, c3, Ret, hl.gc, Tm.fair, hfa, hch, ownOk]; try omega)
            by_cases c4 : l = []
            rotate_left
            · (simp (disch := omega) [e1, e4, d1, c1, c2, c3, c4, Ret, hl.gc, Tm.fair, hfa, ownOk]; try omega)
            (simp (disch := omega) [e1, e4, hi0, c1, c2, c3, c4, Ret, hl.gc, Tm.fair, ownOk]; try omega)
          by_cases k2 : k = 2
          · subst k2
            by_cases c3 : s = []
            rotate_left
            · (simp (disch := omega) [e1, e4, d1, c3, Ret, hl.gc, Tm.fair, hfa, hch, ownOk]; try omega)
            by_cases c4 : l = []
            rotate_left
            · (simp (disch := omega) [e1, e4, d1, c3, c4, Ret, hl.gc, Tm.fair, hfa, ownOk]; try omega)
            (simp (disch := omega) [e1, e4, hi0, c3, c4, Ret, hl.gc, Tm.fair, ownOk]; try omega)
          by_cases k3 : k = 3
          rotate_left
          · (simp (disch := omega) [e1, e4, d1, k1, k2, k3, Ret, hl.gc, Tm.fair, hfa, hch, ownOk]; try omega)
          by_cases c1 : n = 0
          rotate_left
          · (simp (disch := omega) [e1, e4, d1, k3, c1, Ret, hl.gc, Tm.fair, hfa, hch, ownOk]; try omega)
          by_cases c2 : (s.length : Int) < 1
          · (simp (disch := omega) [e1, e4, d1, k3, c1, c2, Ret, hl.gc, Tm.fair, hfa, hch, ownOk]; try omega)
          by_cases c3 : (20 : Int) < s.length
          · (simp (disch := omega) [e1, e4, d1, k3, c1, c2, c3, Ret, hl.gc, Tm.fair, hfa, hch, ownOk]; try omega)
          by_cases c4 : (8 : Int) < l.length
          · (simp (disch := omega) [e1, e4, d1, k3, c1, c2, c3, c4, Ret, hl.gc, Tm.fair, hfa, hch, ownOk]; try omega)
          (simp (disch := omega) [e1, e4, d1, k3, c1, c2, c3, c4, Ret, hl.gc, Tm.fair, hfa, hch, ownOk]; try omega)
      · exact ⟨rfl, 0, m + 1, by simp, by simp, by omega, rfl, by simp [e1], by simp, by simp⟩
  · exact ⟨rfl, 0, by simp, by simp, rfl, by simp, by simp, by simp⟩
end Go.AM
namespace Go.AM
variable {T : Tab}
open Classical

def Tm.right (t : Tm) : Prop := t.fair ∧ t.size ≤ 3000 ∧ t.deep ≤ 100
theorem right_spec (hm : PrimMono T) (h30 : Has T 8 a8) (h70 : Has T 26 a26) (h71 : Has T 27 a27) (h72 : Has T 28 a28) (t : Tm) (wf : t.Wf) (hs : t.size ≤ 4000) (h : Heap) (m : Nat) (hl : Low h m) : Spec T (.fn 8) [t.av] ⟨h, m⟩ (Ret h m (.bool (decide t.right))) := by
  refine spec_fn hm h30.prim h30.func rfl ?_
  obtain ⟨k, s, n, l⟩ := t
  have hl' : ∀ o m', m < m' → Low ((m, o) :: h) m' := fun o m' h' => hl.cons h'
  simp (disch := omega) [a8, r_call hm]
  refine CallK.ret (fair_spec hm h70 _ wf _ _ (hl' _ _ (by omega))) (fun m2 hm2 => ?_)
  by_cases c1 : (Tm.mk k s n l).fair
  rotate_left
  · simp (disch := omega) [c1, Ret, hl.gc, Tm.right]; omega
  simp (disch := omega) [c1, r_call hm]
  refine CallK.ret (size_spec hm h71 _ hs _ _ (hl' _ _ (by omega))) (fun m3 hm3 => ?_)
  by_cases c2 : (3000 : Int) < (Tm.mk k s n l).size
  · have c2' : ¬ (Tm.mk k s n l).size ≤ 3000 := by omega
    simp (disch := omega) [c1, c2, c2', Ret, hl.gc, Tm.right]; omega
  have c2' : (Tm.mk k s n l).size ≤ 3000 := by omega
  simp (disch := omega) [c2, r_call hm]
  refine CallK.ret (deep_spec hm h72 _ hs _ _ (hl' _ _ (by omega))) (fun m4 hm4 => ?_)
  by_cases c3 : (100 : Int) < (Tm.mk k s n l).deep
  · have c3' : ¬ (Tm.mk k s n l).deep ≤ 100 := by omega
    simp (disch := omega) [c1, c2', c3, c3', Ret, hl.gc, Tm.right]; omega
  have c3' : (Tm.mk k s n l).deep ≤ 100 := by omega
  simp (disch := omega) [c1, c2', c3, c3', Ret, hl.gc, Tm.right]; omega

def someOk (l : List Tm) : Prop := 0 ≤ Tm.fews l 4000 200 ∧ l.length ≤ 100
theorem few_size (t : Tm) : ∀ most deep, 0 ≤ t.few most deep → t.few most deep = most - t.size ∧ (t.deep : Int) ≤ deep := by
  refine Tm.ind (M := fun t => ∀ most deep, 0 ≤ t.few most deep → t.few most deep = most - t.size ∧ (t.deep : Int) ≤ deep) (fun k s n l ih most deep h => ?_) t
  rw [Tm.few] at h ⊢
  split at h
  · omega
  · rename_i c
    rw [if_neg c]
    have : ∀ (l : List Tm), (∀ x ∈ l, ∀ most deep, 0 ≤ x.few most deep → x.few most deep = most - x.size ∧ (x.deep : Int) ≤ deep) → ∀ most deep, 0 ≤ deep → 0 ≤ Tm.fews l most deep → Tm.fews l most deep = most - Tm.sizes l ∧ (Tm.deeps l : Int) ≤ deep := by
      intro l
      induction l with
      | nil => intro _ most deep hd h; rw [Tm.fews] at *; rw [Tm.sizes, Tm.deeps]; omega
      | cons t l ihl =>
        intro ih most deep hd h
        rw [Tm.fews] at *
        split at h
        · omega
        · rename_i hc
          rw [if_neg hc]
          have h2 := ihl (fun x hx => ih x (by simp [hx])) (t.few most deep) deep hd h
          have h1 := ih t (by simp) most deep (by omega)
          rw [Tm.sizes, Tm.deeps]; omega
    have := this l ih (most - 1) (deep - 1) (by omega) h
    rw [Tm.size, Tm.deep]; omega
theorem fews_size (l : List Tm) : ∀ most deep, 0 ≤ deep → 0 ≤ Tm.fews l most deep → Tm.fews l most deep = most - Tm.sizes l ∧ (Tm.deeps l : Int) ≤ deep := by
  induction l with
  | nil => intro most deep hd h; rw [Tm.fews] at *; rw [Tm.sizes, Tm.deeps]; omega
  | cons t l ihl =>
    intro most deep hd h
    rw [Tm.fews] at *
    split at h
    · omega
    · rename_i hc
      rw [if_neg hc]
      have h2 := ihl (t.few most deep) deep hd h
      have h1 := few_size t most deep (by omega)
      rw [Tm.sizes, Tm.deeps]; omega
theorem some_sizes {l : List Tm} (h : someOk l) : Tm.sizes l ≤ 4000 ∧ l.length ≤ 100 := by
  have := fews_size l 4000 200 (by omega) h.1
  have := h.1; have := h.2; omega

theorem some_spec (hm : PrimMono T) (h25 : Has T 5 a5) (h40 : Has T 19 a19) (l : List Tm) (wf : ∀ x ∈ l, x.Wf) (hlen : l.length ≤ 9223372036854775807) (tk : Tok) (h : Heap) (m : Nat) (hl : Low h m) : Spec T (.fn 5) [.slice (Tm.avs l) tk] ⟨h, m⟩ (Ret h m (.bool (decide (someOk l)))) := by
  refine spec_fn hm h25.prim h25.func rfl ?_
  simp (disch := omega) [a5]
  let I : Nat → Env → List ADef → St → Prop := fun q env ds σ => ds = [] ∧ ∃ (i : Nat) (most' : Int) (m' : Nat), i ≤ l.length ∧ q = l.length - i ∧ m ≤ m' ∧
    σ = ⟨h, m'⟩ ∧ aget env 0 = .slice (Tm.avs l) tk ∧ aget env 3 = .int .i64 most' ∧ aget env 4 = .int .i64 i ∧
    -1 ≤ most' ∧ most' ≤ 4000 ∧ Tm.fews (l.drop i) most' 200 = Tm.fews l 4000 200
  refine run_loop hm I ?_ l.length ?_
  · rintro q env ds σ ⟨rfl, i, most', m', hi, rfl, hmm, rfl, e0, e3, e4, b1, b2, hf⟩
    by_cases d1 : i < l.length
    · rw [List.drop_eq_getElem_cons d1, Tm.fews] at hf
      by_cases d2 : most' < 0
      · rw [if_pos d2] at hf
        have hno : ¬ someOk l := fun hs => by have := hs.1; omega
        simp (disch := omega) [e0, e3, e4, d1, d2, Ret, hl.gc, hno]
        omega
      · rw [if_neg d2] at hf
        simp (disch := omega) [r_call hm, e0, e3, e4, d1, d2]
        have hb := few_le l[i] most' 200 b1
        refine CallK.ret (few_spec hm h40 _ (wf _ (List.getElem_mem d1)) _ _ _ _ (hl.mono hmm) (by omega) (by omega)) (fun m2 hm2 => ?_)
        simp (disch := omega) [e4]
        exact ⟨l.length - (i + 1), by omega, rfl, i + 1, _, m2, by omega, rfl, by omega, rfl, by simp [e0], by simp, by simp, hb.1, by omega, hf⟩
    · rw [List.drop_eq_nil_of_le (by omega), Tm.fews] at hf
      by_cases d2 : most' < 0
      · have hno : ¬ someOk l := fun hs => by have := hs.1; omega
        simp (disch := omega) [e0, e3, e4, d1, d2, Ret, hl.gc, hno]
        omega
      · by_cases d3 : (100 : Int) < l.length
        · have hno : ¬ someOk l := fun hs => by have := hs.2; omega
          simp (disch := omega) [e0, e3, e4, d1, d2, d3, Ret, hl.gc, hno]
          omega
        · have hyes : someOk l := ⟨by omega, by omega⟩
          simp (disch := omega) [e0, e3, e4, d1, d2, d3, Ret, hl.gc, hyes]
          omega
  · exact ⟨rfl, 0, 4000, m, by simp, by simp, by omega, rfl, by simp, by simp, by simp, by omega, by omega, by simp⟩
end Go.AM
namespace Go.AM
variable {T : Tab}

/-- Where a number stands first; below 0: nowhere. -/
def idx : List Int → Int → Int
  | [], _ => -1
  | x :: l, n => if x = n then 0 else if idx l n < 0 then -1 else idx l n + 1
theorem idx_range (l : List Int) (n : Int) : -1 ≤ idx l n ∧ idx l n < l.length := by
  induction l with
  | nil => simp [idx]
  | cons x l ih => rw [idx, List.length_cons]; split <;> (try split) <;> omega
theorem idx_neg (l : List Int) (n : Int) : idx l n < 0 ↔ n ∉ l := by
  induction l with
  | nil => simp [idx]
  | cons x l ih =>
    rw [idx, List.mem_cons]
    split
    · rename_i h; simp [h]
    · rename_i h
      have : n ≠ x := fun h' => h h'.symm
      split
      · rename_i h2; simp only [ih] at h2; simp [h2, this]
      · rename_i h2; simp only [ih] at h2; simp at h2; simp [h2]; have := mt ih.mp (by simpa using h2); omega
def ints (l : List Int) : List AV := l.map (AV.int .i64)
@[simp] theorem ints_len (l : List Int) : (ints l).length = l.length := List.length_map _
@[simp] theorem ints_get (l : List Int) (i : Nat) : (ints l)[i]? = (l[i]?).map (AV.int .i64) := List.getElem?_map

/-- Binds. -/
abbrev Bd := Int × Tm
noncomputable def bd (b : Bd) : AV := .agg (.int .i64 b.1 :: b.2.av.cells)
noncomputable def bds (l : List Bd) : List AV := l.map bd
@[simp] theorem bds_len (l : List Bd) : (bds l).length = l.length := List.length_map _
@[simp] theorem bds_get (l : List Bd) (i : Nat) : (bds l)[i]? = (l[i]?).map bd := List.getElem?_map
@[simp] theorem bd_cells (b : Bd) : (bd b).cells = .int .i64 b.1 :: b.2.av.cells := rfl
@[simp] theorem slc_bd0 (v : AV) (t : Tm) : slc (v :: t.av.cells) 0 1 = some [v] := by cases t; rfl
@[simp] theorem slc_bd1 (v : AV) (t : Tm) : slc (v :: t.av.cells) 1 4 = some t.av.cells := by cases t; rfl
@[simp] theorem slc_bd (v : AV) (t : Tm) : slc (v :: t.av.cells) 0 5 = some (v :: t.av.cells) := by cases t; rfl
theorem place_spec (hm : PrimMono T) (h58 : Has T 97 a97) (l : List Bd) (hlen : l.length ≤ 9223372036854775807) (n : Int) (tk : Tok) (h : Heap) (m : Nat) (hl : Low h m) : Spec T (.fn 97) [.slice (bds l) tk, .int .i64 n] ⟨h, m⟩ (Ret h m (.int .i64 (idx (l.map (·.1)) n))) := by
  refine spec_fn hm h58.prim h58.func rfl ?_
  simp (disch := omega) [a97]
  let I : Nat → Env → List ADef → St → Prop := fun q env ds σ => ds = [] ∧ ∃ (i : Nat), i ≤ l.length ∧ q = l.length - i ∧
    σ = ⟨h, m⟩ ∧ aget env 0 = .slice (bds l) tk ∧ aget env 1 = .int .i64 n ∧ aget env 5 = .int .i64 i ∧
    (if idx ((l.drop i).map (·.1)) n < 0 then -1 else idx ((l.drop i).map (·.1)) n + i) = idx (l.map (·.1)) n
  refine run_loop hm I ?_ l.length ?_
  · rintro q env ds σ ⟨rfl, i, hi, rfl, rfl, e0, e1, e5, hf⟩
    by_cases d1 : i < l.length
    · rw [List.drop_eq_getElem_cons d1, List.map_cons, idx] at hf
      by_cases d2 : l[i].1 = n
      · rw [if_pos d2, if_neg (by omega)] at hf
        have hf' : idx (l.map (·.1)) n = i := by omega
        simp (disch := omega) [e0, e1, e5, d1, d2, Ret, hl.gc, hf']
      · simp (disch := omega) [e0, e1, e5, d1, d2]
        rw [if_neg d2] at hf
        exact ⟨l.length - (i + 1), by omega, rfl, i + 1, by omega, rfl, rfl, by simp [e0], by simp [e1], by simp, by rw [← hf]; push_cast; split <;> split <;> omega⟩
    · rw [List.drop_eq_nil_of_le (by omega)] at hf
      have hf' : idx (l.map (·.1)) n = -1 := by rw [← hf]; simp [idx]
      simp (disch := omega) [e0, e5, d1, Ret, hl.gc, hf']
  · exact ⟨rfl, 0, by simp, by simp, rfl, by simp, by simp, by simp, by simp; have := idx_range (l.map (·.1)) n; omega⟩
end Go.AM
namespace Go.AM
variable {T : Tab}

/-- A row of elements, appended to or not. -/
def RetS (h : Heap) (m : Nat) (es : List AV) : AV → St → Prop := fun v τ => (∃ tk, v = .slice es tk) ∧ τ.heap = h ∧ m ≤ τ.next
theorem CallK.rets {T : Tab} {ks : List K} {env : Env} {ds : List ADef} {Q : Ex → Env → List ADef → St → Prop} {n m : Nat} {as : List AV} {h : Heap} {d : Option Nat} {l : List AOper} {es : List AV} (hs : Spec T (.fn n) as ⟨h, m⟩ (RetS h m es)) (k : ∀ tk m', m ≤ m' → Run T (.ops l :: ks) .normal (put env d (.slice es tk)) ds ⟨h, m'⟩ Q) : CallK T n as ⟨h, m⟩ d l ks env ds Q :=
  ⟨_, hs, fun v' τ hv => by obtain ⟨⟨tk, rfl⟩, h1, h2⟩ := hv; obtain ⟨h', m'⟩ := τ; cases h1; exact k tk m' h2⟩

mutual
def Tm.withV : List Int → Tm → List Int
  | acc, .mk k _ n l => if k = 1 then (if n ∈ acc then acc else acc ++ [n]) else Tm.withVs acc l
def Tm.withVs : List Int → List Tm → List Int
  | acc, [] => acc
  | acc, t :: l => Tm.withVs (Tm.withV acc t) l
end
theorem withV_len (t : Tm) : ∀ acc, (Tm.withV acc t).length ≤ acc.length + t.size := by
  refine Tm.ind (M := fun t => ∀ acc, (Tm.withV acc t).length ≤ acc.length + t.size) (fun k s n l ih acc => ?_) t
  rw [Tm.withV, Tm.size]
  split
  · split
    · omega
    · rw [List.length_append]; simp
  · have : ∀ (l : List Tm), (∀ x ∈ l, ∀ acc, (Tm.withV acc x).length ≤ acc.length + x.size) → ∀ acc, (Tm.withVs acc l).length ≤ acc.length + Tm.sizes l := by
      intro l
      induction l with
      | nil => intro _ acc; rw [Tm.withVs]; omega
      | cons t l ihl =>
        intro ih acc; rw [Tm.withVs, Tm.sizes]
        have := ih t (by simp) acc
        have := ihl (fun x hx => ih x (by simp [hx])) (Tm.withV acc t)
        omega
    have := this l ih acc; omega

@[simp] theorem elems_slice (es : List AV) (tk : Tok) (σ : St) (n : Nat) : elemsOf (.slice es tk) σ n = some es := rfl
theorem ints_app (l m : List Int) : ints l ++ ints m = ints (l ++ m) := (List.map_append).symm
theorem ints_strip (l : List Int) : (ints l).map stripCell = ints l := by
  induction l with
  | nil => rfl
  | cons a l ih => show stripCell (.int .i64 a) :: (ints l).map stripCell = _; rw [ih]; rfl
theorem ints_ok (l : List Int) : (ints l).all (elemOk 1) = true := by
  induction l with
  | nil => rfl
  | cons a l ih => show (elemOk 1 (.int .i64 a) && (ints l).all (elemOk 1)) = true; rw [ih]; rfl
theorem ints_head (l : List Int) : headOk 1 (ints l) = true := by cases l <;> rfl

/-- 'append(append([]int{}, l...), n)'. -/
theorem app2 (l : List Int) (n : Int) (_tk : Tok) (H : Heap) (m0 : Nat) (hlen : l.length + 1 ≤ 4294967296) (hL : Low H m0) : ∃ tk1 H1 m1 tk2 H2 m2, appSlice [] .full 1 8 false (ints l) ⟨H, m0⟩ = some (.slice (ints l) tk1, ⟨H1, m1⟩) ∧
    appSlice (ints l) tk1 1 8 false [.int .i64 n] ⟨H1, m1⟩ = some (.slice (ints (l ++ [n])) tk2, ⟨H2, m2⟩) ∧ m0 ≤ m2 ∧ Over m0 H H2 ∧ (∀ j c, hget H j = some (.cells c) → hget H1 j = some (.cells c)) := by
  have step : ∃ tk1 H1 m1, appSlice [] .full 1 8 false (ints l) ⟨H, m0⟩ = some (.slice (ints l) tk1, ⟨H1, m1⟩) ∧ AppOk H1 m0 tk1 1 ∧ Over m0 H H1 ∧ Low H1 m1 ∧ m0 ≤ m1 ∧ (∀ j c, hget H j = some (.cells c) → hget H1 j = some (.cells c)) := by
    unfold appSlice
    have hf : fits (([] : List AV).length + (ints l).length) 8 = true := by
      unfold fits; simp; omega
    rw [hf, ints_ok, ints_strip]
    cases l with
    | nil => exact ⟨.full, H, m0, rfl, .inl rfl, .refl m0 H, hL, Nat.le_refl _, fun _ _ h => h⟩
    | cons a l =>
      refine ⟨.live m0 0, (m0, .tok 0 1) :: H, m0 + 1, rfl, .inr ⟨m0, 0, Nat.le_refl _, rfl, hget_eq _ _ _⟩, (Over.refl m0 H).cons (Nat.le_refl _), hL.cons (Nat.lt_succ_self _), Nat.le_succ _, fun j c hj => ?_⟩
      have := hL.lt hj
      rw [hget_ne _ _ (by omega)]; exact hj
  obtain ⟨tk1, H1, m1, s1, s2, s3, s4, s5, s6⟩ := step
  obtain ⟨tk2, H2, m2, r1, r2, r3, r4, r5, r6⟩ := app1 (x := .int .i64 n) (es := ints l) (bytes := 8) s2 s3 hL s4 s5 (by unfold fits; simp; omega) rfl (ints_head l)
  refine ⟨tk1, H1, m1, tk2, H2, m2, s1, ?_, by omega, r3, s6⟩
  rw [r1, ← ints_app]; rfl

theorem with_spec (hm : PrimMono T) (h59 : Has T 53 a53) (t : Tm) (hs : t.size ≤ 4000) : ∀ (acc : List Int) (_hacc : acc.length + t.size ≤ 8000) (tk : Tok) (h : Heap) (m : Nat) (_hl : Low h m), Spec T (.fn 53) [.slice (ints acc) tk, t.av] ⟨h, m⟩ (RetS h m (ints (Tm.withV acc t))) := by
  refine Tm.ind (M := fun t => t.size ≤ 4000 → ∀ (acc : List Int) (hacc : acc.length + t.size ≤ 8000) (tk : Tok) (h : Heap) (m : Nat) (hl : Low h m), Spec T (.fn 53) [.slice (ints acc) tk, t.av] ⟨h, m⟩ (RetS h m (ints (Tm.withV acc t)))) (fun k s n l ih hs acc hacc tk h m hl => ?_) t hs
  refine spec_fn hm h59.prim h59.func rfl ?_
  rw [Tm.size] at hs hacc
  rw [Tm.withV]
  have hlen := sizes_len l
  by_cases c1 : k = 1
  · rw [if_pos c1]
    subst c1
    simp (disch := omega) [a53]
    let I : Nat → Env → List ADef → St → Prop := fun q env ds σ => ds = [] ∧ ∃ (i : Nat), i ≤ acc.length ∧ q = acc.length - i ∧
      σ = ⟨(m, .cells [.int .i64 1, .str s, .int .i64 n, .slice (Tm.avs l) .none]) :: h, m + 1⟩ ∧ aget env 0 = .slice (ints acc) tk ∧ aget env 3 = .ptr m 0 ∧ aget env 5 = .int .i64 i ∧
      (n ∈ acc.drop i ↔ n ∈ acc)
    refine run_loop hm I ?_ acc.length ?_
    · rintro q env ds σ ⟨rfl, i, hi, rfl, rfl, e0, e3, e5, hf⟩
      by_cases d1 : i < acc.length
      · rw [List.drop_eq_getElem_cons d1, List.mem_cons] at hf
        by_cases d2 : acc[i] = n
        · have hin : n ∈ acc := by rw [← hf]; exact .inl d2.symm
          simp (disch := omega) [e0, e3, e5, d1, d2, RetS, hl.gc, hin]
        · simp (disch := omega) [e0, e3, e5, d1, d2]
          refine ⟨acc.length - (i + 1), by omega, rfl, i + 1, by omega, rfl, rfl, by simp [e0], by simp [e3], by simp, ?_⟩
          rw [← hf]; exact ⟨.inr, fun h' => h'.resolve_left (fun h'' => d2 h''.symm)⟩
      · have hno : n ∉ acc := by rw [← hf, List.drop_eq_nil_of_le (by omega)]; simp
        obtain ⟨tk1, H1, m1, tk2, H2, m2, s1, s2, s3, s4, s5⟩ := app2 acc n tk ((m, .cells [.int .i64 1, .str s, .int .i64 n, .slice (Tm.avs l) .none]) :: h) (m + 1) (by omega) (hl.cons (Nat.lt_succ_self m))
        have s6 := s5 m _ (hget_eq _ _ _)
        simp (disch := omega) [e0, e3, e5, d1, s1, s2, s6, RetS, hno, Over.gc (s4.trans ((Over.refl m h).cons (Nat.le_refl m))) hl]
        omega
    · exact ⟨rfl, 0, by simp, by simp, rfl, by simp, by simp, by simp, by simp⟩
  · rw [if_neg c1]
    simp (disch := omega) [a53, c1]
    let I : Nat → Env → List ADef → St → Prop := fun q env ds σ => ds = [] ∧ ∃ (i : Nat) (r : List Int) (tk : Tok) (m' : Nat), i ≤ l.length ∧ q = l.length - i ∧ m < m' ∧
      σ = ⟨(m, .cells [.int .i64 k, .str s, .int .i64 n, .slice (Tm.avs l) .none]) :: h, m'⟩ ∧ aget env 0 = .slice (ints r) tk ∧ aget env 3 = .ptr m 0 ∧ aget env 6 = .int .i64 i ∧
      r.length + Tm.sizes (l.drop i) ≤ 8000 ∧ Tm.withVs r (l.drop i) = Tm.withVs acc l
    refine run_loop hm I ?_ l.length ?_
    · rintro q env ds σ ⟨rfl, i, r, tk, m', hi, rfl, hmm, rfl, e0, e3, e6, hb, hf⟩
      by_cases d1 : i < l.length
      · rw [List.drop_eq_getElem_cons d1, Tm.withVs] at hf
        rw [sizes_get d1] at hb
        have hle := sizes_mem (List.getElem_mem d1)
        simp (disch := omega) [r_call hm, e0, e3, e6, d1]
        have hw := withV_len l[i] r
        refine CallK.rets (ih _ (List.getElem_mem d1) (by omega) r (by omega) _ _ _ (hl.cons hmm)) (fun tk2 m2 hm2 => ?_)
        simp (disch := omega) [e6]
        exact ⟨l.length - (i + 1), by omega, rfl, i + 1, _, tk2, m2, by omega, rfl, by omega, rfl, by simp, by simp [e3], by simp, by omega, hf⟩
      · rw [List.drop_eq_nil_of_le (by omega), Tm.withVs] at hf
        simp (disch := omega) [e0, e3, e6, d1, RetS, hl.gc, hf]
        omega
    · exact ⟨rfl, 0, acc, tk, m + 1, by simp, by simp, by omega, rfl, by simp, by simp, by simp, by simp; omega, by simp⟩
end Go.AM
namespace Go.AM
variable {T : Tab}
@[simp] theorem ints_nil : ints [] = [] := rfl

theorem vars_spec (hm : PrimMono T) (h20 : Has T 29 a29) (h59 : Has T 53 a53) (l : List Tm) (hs : Tm.sizes l ≤ 4000) (tk : Tok) (h : Heap) (m : Nat) (hl : Low h m) : Spec T (.fn 29) [.slice (Tm.avs l) tk] ⟨h, m⟩ (RetS h m (ints (Tm.withVs [] l))) := by
  refine spec_fn hm h20.prim h20.func rfl ?_
  have hlen := sizes_len l
  simp (disch := omega) [a29]
  let I : Nat → Env → List ADef → St → Prop := fun q env ds σ => ds = [] ∧ ∃ (i : Nat) (r : List Int) (tk' : Tok) (m' : Nat), i ≤ l.length ∧ q = l.length - i ∧ m ≤ m' ∧
    σ = ⟨h, m'⟩ ∧ aget env 0 = .slice (Tm.avs l) tk ∧ aget env 3 = .slice (ints r) tk' ∧ aget env 4 = .int .i64 i ∧
    r.length + Tm.sizes (l.drop i) ≤ 4000 ∧ Tm.withVs r (l.drop i) = Tm.withVs [] l
  refine run_loop hm I ?_ l.length ?_
  · rintro q env ds σ ⟨rfl, i, r, tk', m', hi, rfl, hmm, rfl, e0, e3, e4, hb, hf⟩
    by_cases d1 : i < l.length
    · rw [List.drop_eq_getElem_cons d1, Tm.withVs] at hf
      rw [sizes_get d1] at hb
      have hle := sizes_mem (List.getElem_mem d1)
      simp (disch := omega) [r_call hm, e0, e3, e4, d1]
      have hw := withV_len l[i] r
      refine CallK.rets (with_spec hm h59 _ (by omega) r (by omega) _ _ _ (hl.mono hmm)) (fun tk2 m2 hm2 => ?_)
      simp (disch := omega) [e4]
      exact ⟨l.length - (i + 1), by omega, rfl, i + 1, _, tk2, m2, by omega, rfl, by omega, rfl, by simp [e0], by simp, by simp, by omega, hf⟩
    · rw [List.drop_eq_nil_of_le (by omega), Tm.withVs] at hf
      simp (disch := omega) [e0, e3, e4, d1, RetS, hl.gc, hf]
      omega
  · exact ⟨rfl, 0, [], .full, m, by simp, by simp, by omega, rfl, by simp, by simp, by simp, by simp; omega, by simp⟩

/-- A term whose variables are the numbers at their places. -/
def turnN (from_ to : List Int) (n : Int) : Int := (to[(idx from_ n).toNat]?).getD 0
mutual
def Tm.turn (f : Int → Int) : Tm → Tm
  | .mk k s n l => if k = 1 then .mk 1 [] (f n) [] else .mk k s n (Tm.turns f l)
def Tm.turns (f : Int → Int) : List Tm → List Tm
  | [] => []
  | t :: l => Tm.turn f t :: Tm.turns f l
end
mutual
def Tm.inV (vs : List Int) : Tm → Prop
  | .mk k _ n l => if k = 1 then n ∈ vs else Tm.inVs vs l
def Tm.inVs (vs : List Int) : List Tm → Prop
  | [] => True
  | t :: l => Tm.inV vs t ∧ Tm.inVs vs l
end
theorem avs_app (l m : List Tm) : Tm.avs l ++ Tm.avs m = Tm.avs (l ++ m) := by simp [Tm.avs_map]
theorem strip_cell_av (t : Tm) : stripCell t.av = t.av := by cases t; rfl
theorem elemOk_av (t : Tm) : elemOk 4 t.av = true := by cases t; rfl
theorem head_avs (l : List Tm) : headOk 4 (Tm.avs l) = true := by
  cases l with
  | nil => rfl
  | cons t l => show Nat.beq t.av.cells.length 4 = true; rw [len_av]; rfl

theorem AppOk.set {H : Heap} {m j : Nat} {tk : Tok} {sz : Nat} {c c' : List AV} (h : AppOk H m tk sz) (hj : hget H j = some (.cells c)) : AppOk (hset H j (.cells c')) m tk sz := by
  rcases h with rfl | ⟨i, g, h1, h2, h3⟩
  · exact .inl rfl
  · have : j ≠ i := fun hij => by subst hij; rw [h3] at hj; cases hj
    exact .inr ⟨i, g, h1, h2, by rw [hget_set, if_neg this]; exact h3⟩

end Go.AM
namespace Go.AM
variable {T : Tab}

/-- 0, 1, 2, .. -/
def upto (n : Nat) : List Int := (List.range n).map Int.ofNat
@[simp] theorem upto_len (n : Nat) : (upto n).length = n := by simp [upto]
theorem withVs_len (l : List Tm) : ∀ acc, (Tm.withVs acc l).length ≤ acc.length + Tm.sizes l := by
  induction l with
  | nil => intro acc; rw [Tm.withVs]; omega
  | cons t l ih =>
    intro acc; rw [Tm.withVs, Tm.sizes]
    have := withV_len t acc
    have := ih (Tm.withV acc t)
    omega
def Tm.numb (l : List Tm) : List Tm := Tm.turns (turnN (Tm.withVs [] l) (upto (Tm.withVs [] l).length)) l

end Go.AM
namespace Go.AM
variable {T : Tab}
/-- A term, its variables numbered anew. -/
def Tm.numb1 (t : Tm) : Tm := t.turn (turnN (Tm.withVs [] [t]) (upto (Tm.withVs [] [t]).length))
def var (n : Int) : Tm := .mk 1 [] n []
def Tm.patt : Tm → Tm
  | .mk k s n l => if (Tm.withVs [] [(Tm.mk k s n l).numb1]).length ≤ 8 then (Tm.mk k s n l).numb1 else .mk 3 s 0 ((upto l.length).map var)
theorem av_slice1 (t : Tm) : [t.av] = Tm.avs [t] := rfl
theorem cells_all (t : Tm) : t.av.cells.all isCell = true := by cases t; rfl
theorem splice_av (a b c d : AV) (t : Tm) : splice [a, b, c, d] 0 t.av.cells = some t.av.cells := by cases t; rfl
end Go.AM
namespace Go.AM
variable {T : Tab}

theorem same2_spec (hm : PrimMono T) (h114 : Has T 130 a130) (t : Tm) (wf : t.Wf) : ∀ (u : Tm) (h : Heap) (m : Nat) (_hl : Low h m), Spec T (.fn 130) [t.av, u.av] ⟨h, m⟩ (Ret h m (.bool (t.beq u))) := by
  refine Tm.ind (M := fun t => t.Wf → ∀ (u : Tm) (h : Heap) (m : Nat) (hl : Low h m), Spec T (.fn 130) [t.av, u.av] ⟨h, m⟩ (Ret h m (.bool (t.beq u)))) (fun k s n l ih wf u h m hl => ?_) t wf
  obtain ⟨_, _, hsl, hll, hwf⟩ := wf
  obtain ⟨k', s', n', l'⟩ := u
  refine spec_fn hm h114.prim h114.func rfl ?_
  rw [Tm.beq]
  by_cases c1 : k = k'
  rotate_left
  · simp (disch := omega) [a130, c1, Ret, hl.gc]; try omega
  by_cases c2 : n = n'
  rotate_left
  · simp (disch := omega) [a130, c1, c2, Ret, hl.gc]; try omega
  by_cases c3 : s = s'
  rotate_left
  · simp (disch := omega) [a130, c1, c2, c3, Ret, hl.gc]; try omega
  by_cases c4 : l.length = l'.length
  rotate_left
  · have c4' : ¬ (l.length : Int) = l'.length := by omega
    simp (disch := omega) [a130, c1, c2, c3, c4', beqs_len c4, Ret, hl.gc]; try omega
  subst c1 c2 c3
  simp (disch := omega) [a130, c4]
  let I : Nat → Env → List ADef → St → Prop := fun q env ds σ => ds = [] ∧ ∃ (i m' : Nat) (H : Heap), i ≤ l.length ∧ q = l.length - i ∧ m + 1 < m' ∧
    σ = ⟨H, m'⟩ ∧ aget env 3 = .ptr (m + 1) 0 ∧ aget env 36 = .slice (Tm.avs l) .none ∧ aget env 37 = .int .i64 l'.length ∧ aget env 38 = .int .i64 i ∧
    Over m h H ∧ Low H m' ∧ hget H (m + 1) = some (.cells [.int .i64 k, .str s, .int .i64 n, .slice (Tm.avs l') .none]) ∧
    Tm.beqs (l.drop i) (l'.drop i) = Tm.beqs l l'
  refine run_loop hm I ?_ l.length ?_
  · rintro q env ds σ ⟨rfl, i, m', H, hi, rfl, hmm, rfl, e3, e36, e37, e38, hO, hL, g1, hf⟩
    by_cases d1 : i < l.length
    · have d1' : i < l'.length := by omega
      rw [List.drop_eq_getElem_cons d1, List.drop_eq_getElem_cons d1', Tm.beqs] at hf
      simp (disch := omega) [q_call hm, e3, e36, e37, e38, d1', c4, g1, cells_all, splice_av]
      refine CallD.ret (ih _ (List.getElem_mem d1) (hwf _ (List.getElem_mem d1)) _ _ _ (hL.cons (Nat.lt_succ_self m'))) (fun m2 hm2 => ?_)
      have hO2 : Over m h ((m', .cells l[i].av.cells) :: H) := hO.cons (by omega)
      cases d2 : l[i].beq l'[i] with
      | true =>
        simp (disch := omega) [e38, unV]
        exact ⟨l.length - (i + 1), by omega, rfl, i + 1, m2, _, by omega, rfl, by omega, rfl, by simp [e3], by simp [e36], by simp [e37], by simp, hO2, (hL.cons (Nat.lt_succ_self m')).mono hm2, by rw [hget_ne _ _ (by omega)]; exact g1, by rw [← hf]; simp [d2]⟩
      | false =>
        have hno : Tm.beqs l l' = false := by rw [← hf]; simp [d2]
        simp (disch := omega) [unV, Ret, hno, hO.gc hl]
        omega
    · have hfa : Tm.beqs l l' = true := by rw [← hf, List.drop_eq_nil_of_le (by omega), List.drop_eq_nil_of_le (by omega)]; rfl
      have d1' : ¬ i < l'.length := by omega
      simp (disch := omega) [e37, e38, d1', c4, Ret, hO.gc hl, hfa]
      omega
  · exact ⟨rfl, 0, m + 1 + 1, _, by simp, by simp [c4], by omega, rfl, by simp, by simp, by simp, by simp, ((Over.refl m h).cons (Nat.le_refl m)).cons (by omega), (hl.cons (Nat.lt_succ_self m)).cons (Nat.lt_succ_self _), hget_eq _ _ _, by simp⟩
end Go.AM
namespace Go.AM
variable {T : Tab}
theorem copied_spec (hm : PrimMono T) (h115 : Has T 131 a131) (t : Tm) (hs : t.size ≤ 4000) : ∀ (h : Heap) (m : Nat) (_hl : Low h m), Spec T (.fn 131) [t.av] ⟨h, m⟩ (Ret h m t.av) := by
  refine Tm.ind (M := fun t => t.size ≤ 4000 → ∀ (h : Heap) (m : Nat) (hl : Low h m), Spec T (.fn 131) [t.av] ⟨h, m⟩ (Ret h m t.av)) (fun k s n l ih hs h m hl => ?_) t hs
  refine spec_fn hm h115.prim h115.func rfl ?_
  rw [Tm.size] at hs
  have hlen := sizes_len l
  simp (disch := omega) [a131]
  let I : Nat → Env → List ADef → St → Prop := fun q env ds σ => ds = [] ∧ ∃ (i : Nat) (tk2 : Tok) (H : Heap) (m' : Nat), i ≤ l.length ∧ q = l.length - i ∧ m + 1 < m' ∧
    σ = ⟨H, m'⟩ ∧ aget env 1 = .ptr m 0 ∧ aget env 2 = .ptr (m + 1) 0 ∧ aget env 9 = .slice (Tm.avs l) .none ∧ aget env 10 = .int .i64 l.length ∧ aget env 11 = .int .i64 i ∧
    Over m h H ∧ Low H m' ∧ (∃ z, hget H (m + 1) = some (.cells z) ∧ z = [.int .i64 0, .str [], .int .i64 0, .slice [] .full]) ∧
    hget H m = some (.cells [.int .i64 k, .str s, .int .i64 n, .slice (Tm.avs (l.take i)) tk2]) ∧ AppOk H m tk2 4
  refine run_loop hm I ?_ l.length ?_
  · rintro q env ds σ ⟨rfl, i, tk2, H, m', hi, rfl, hmm, rfl, e1, e2, e9, e10, e11, hO, hL, ⟨z, g1, rfl⟩, g0, hA⟩
    by_cases d1 : i < l.length
    · have hle := sizes_mem (List.getElem_mem d1)
      simp (disch := omega) [q_call hm, e1, e9, e10, e11, d1, g0, cells_all, splice_av]
      refine CallD.ret (ih _ (List.getElem_mem d1) (by omega) _ _ (hL.cons (Nat.lt_succ_self m'))) (fun m2 hm2 => ?_)
      have hO2 : Over m h ((m', .cells l[i].av.cells) :: H) := hO.cons (by omega)
      obtain ⟨tk3, H3, m3, s1, s2, s3, s4, s5, s6⟩ := app1 (x := l[i].av) (es := Tm.avs (l.take i)) (bytes := 56) (hA.cons (o := .cells l[i].av.cells) hL) hO2 hl ((hL.cons (Nat.lt_succ_self m')).mono hm2) (by omega) (by unfold fits; simp; omega) (elemOk_av _) (head_avs _)
      rw [strip_cell_av] at s1
      have f0 := s6 m _ ((hget_ne _ _ (by omega)).trans g0)
      have f1 := s6 (m + 1) _ ((hget_ne _ _ (by omega)).trans g1)
      have hk : ∀ x : Option AObj, (hget ((m', AObj.cells l[i].av.cells) :: H) m) = some (.cells [.int .i64 k, .str s, .int .i64 n, .slice (Tm.avs (l.take i)) tk2]) := fun _ => (hget_ne _ _ (by omega)).trans g0
      simp (disch := omega) [e1, e2, e11, g0, s1, f0, f1, strip_cell_av, hget_set]
      refine ⟨l.length - (i + 1), by omega, rfl, i + 1, tk3, _, _, by omega, rfl, by omega, rfl, by simp [e1], by simp [e2], by simp [e9], by simp [e10], by simp, s3.set hl (Nat.le_refl m), s4.set, ⟨_, ?_, rfl⟩, ?_, s2.set f0⟩
      · rw [hget_set, if_neg (by omega)]; exact f1
      · have e : Tm.avs (l.take i) ++ [l[i].av] = Tm.avs (l.take (i + 1)) := by rw [List.take_succ_eq_append_getElem d1, ← avs_app]; rfl
        rw [hget_set, if_pos rfl, f0, ← e]; rfl
    · simp (disch := omega) [e1, e2, e10, e11, d1, g0, g1, hget_set]
      exact ⟨by rw [List.take_of_length_le (by omega)], (hO.set hl (by omega)).gc hl, by show m ≤ m'; omega⟩
  · exact ⟨rfl, 0, .full, _, m + 1 + 1, by simp, by simp, by omega, rfl, by simp, by simp, by simp, by simp, by simp, ((Over.refl m h).cons (Nat.le_refl m)).cons (by omega), (hl.cons (Nat.lt_succ_self m)).cons (Nat.lt_succ_self _), ⟨_, hget_eq _ _ _, rfl⟩, by simp (disch := omega) [Tm.avs], .inl rfl⟩
end Go.AM
