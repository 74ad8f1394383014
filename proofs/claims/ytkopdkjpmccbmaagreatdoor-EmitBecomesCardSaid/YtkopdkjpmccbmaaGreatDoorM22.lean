/- A part of the proof of: EmitBecomes: what a term becomes by patterns, and a pattern's name, is what the document says, or the error is told. -/
import Derived.Test.YtkopdkjpmccbmaaGreatDoorM00
namespace Go.AM

/-! ### Terms, as data -/
inductive Tm where
  | mk (kind : Int) (name : List UInt8) (n : Int) (args : List Tm)

mutual
def Tm.av : Tm → AV
  | .mk k s n l => .agg [.int .i64 k, .str s, .int .i64 n, .slice (Tm.avs l) .none]
def Tm.avs : List Tm → List AV
  | [] => []
  | t :: l => t.av :: Tm.avs l
end
theorem Tm.avs_map (l : List Tm) : Tm.avs l = l.map Tm.av := by
  induction l with
  | nil => rfl
  | cons t l ih => show t.av :: Tm.avs l = _; rw [ih]; rfl
theorem Tm.avs_get {l : List Tm} {i : Nat} {e : AV} (h : (Tm.avs l)[i]? = some e) : ∃ t, l[i]? = some t ∧ e = t.av := by
  rw [Tm.avs_map, List.getElem?_map] at h
  cases hl : l[i]? with
  | none => rw [hl] at h; cases h
  | some t => rw [hl] at h; cases h; exact ⟨t, rfl, rfl⟩
theorem Tm.avs_len (l : List Tm) : (Tm.avs l).length = l.length := by rw [Tm.avs_map]; simp

theorem Tm.ind {M : Tm → Prop} (h : ∀ k s n l, (∀ x ∈ l, M x) → M (.mk k s n l)) : ∀ t, M t := fun t =>
  Tm.rec (motive_1 := M) (motive_2 := fun l => ∀ x ∈ l, M x) (fun k s n l ih => h k s n l ih) (fun x hx => by cases hx)
    (fun a l iha ihl x hx => by cases hx with | head => exact iha | tail _ h => exact ihl x h) t

def inI64 (n : Int) : Prop := -9223372036854775808 ≤ n ∧ n ≤ 9223372036854775807

inductive Tm.Wf : Tm → Prop
  | mk {k : Int} {s : List UInt8} {n : Int} {l : List Tm} (hk : inI64 k) (hn : inI64 n) (hs : s.length ≤ 9223372036854775807) (hl : l.length ≤ 9223372036854775807) (h : ∀ t ∈ l, Tm.Wf t) : Tm.Wf (.mk k s n l)

end Go.AM
