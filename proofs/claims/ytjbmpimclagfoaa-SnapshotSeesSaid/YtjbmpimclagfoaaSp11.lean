/-
  Lists of pointers, as rows.
-/
import Derived.Test.YtjbmpimclagfoaaSp9
namespace Go.Sp
open Go.Eng

def pr (x : Int × Int) : List PC := [.int .i64 x.1, .int .i64 x.2]
def prsOK (l : List (List PC)) : Bool := cond (l.all fun r => kindsOK [some .i64, some .i64] r) (Nat.ble l.length 1000000) false
def prsOf (l : List (List PC)) : List (Int × Int) := (List.range l.length).map fun i => (intCell l i 0, intCell l i 1)

theorem rowIs_pr {xs : List (Int × Int)} {i : Nat} (h : i < xs.length) : rowIs [some .i64, some .i64] (xs.map pr) i = true := by
  unfold rowIs
  rw [List.getElem?_map, List.getElem?_eq_getElem h]
  rfl

theorem intCell_pr {xs : List (Int × Int)} {i : Nat} (h : i < xs.length) : intCell (xs.map pr) i 0 = xs[i].1 ∧ intCell (xs.map pr) i 1 = xs[i].2 := by
  unfold intCell
  rw [List.getElem?_map, List.getElem?_eq_getElem h]
  exact ⟨rfl, rfl⟩

theorem prsOf_map (xs : List (Int × Int)) : prsOf (xs.map pr) = xs := by
  unfold prsOf
  apply List.ext_getElem?
  intro i
  rw [List.getElem?_map, List.length_map]
  by_cases h : i < xs.length
  · rw [List.getElem?_range h, Option.map_some, List.getElem?_eq_getElem h, (intCell_pr h).1, (intCell_pr h).2]
  · rw [List.getElem?_eq_none (by simp; omega), List.getElem?_eq_none (by omega)]
    rfl

theorem prsOK_map {xs : List (Int × Int)} (h : xs.length ≤ 1000000) : prsOK (xs.map pr) = true := by
  have h1 : ((xs.map pr).all fun r => kindsOK [some .i64, some .i64] r) = true := by
    rw [List.all_eq_true]
    intro r hr
    obtain ⟨p, _, rfl⟩ := List.mem_map.1 hr
    rfl
  unfold prsOK
  rw [h1, cond_true, List.length_map]
  exact ble_iff.2 h

theorem prsOK_some {l : List (List PC)} (h : prsOK l = true) : l = (prsOf l).map pr ∧ l.length ≤ 1000000 := by
  unfold prsOK at h
  obtain ⟨h1, h2⟩ := cond_and h
  refine ⟨?_, ble_iff.1 h2⟩
  have : ∃ xs : List (Int × Int), l = xs.map pr := by
    clear h h2
    induction l with
    | nil => exact ⟨[], rfl⟩
    | cons r l ih =>
      rw [List.all_cons, Bool.and_eq_true] at h1
      obtain ⟨xs, hxs⟩ := ih h1.2
      have hk := h1.1
      match r, hk with
      | [.int .i64 x, .int .i64 y], _ => exact ⟨(x, y) :: xs, by rw [List.map_cons, ← hxs]; rfl⟩
  obtain ⟨xs, rfl⟩ := this
  rw [prsOf_map]

end Go.Sp

namespace Go.Proofs.Ytjbmpimclagfoaa
open Go.Eng Go.Sp

/-- What the table knows of a function, with summaries of its loops and with loops at whose heads lists lose their spines. -/
noncomputable def annP (f : Nat) (sums : List (Nat × (St → (Ex → St → Ans) → Ans))) (sps : List Nat) : Ann := { annOf f with sums := sums, sps := sps }

end Go.Proofs.Ytjbmpimclagfoaa
