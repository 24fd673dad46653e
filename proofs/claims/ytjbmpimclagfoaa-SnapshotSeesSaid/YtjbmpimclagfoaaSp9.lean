/-
  Lists of numbers, as rows.
-/
import Derived.Test.YtjbmpimclagfoaaSp8
namespace Go.Sp
open Go.Eng

def ir (x : Int) : List PC := [.int .i64 x]
def intsOK (l : List (List PC)) : Bool := cond (l.all fun r => kindsOK [some .i64] r) (Nat.ble l.length 1000000) false
def intsOf (l : List (List PC)) : List Int := (List.range l.length).map fun i => intCell l i 0

theorem rowIs_ir {xs : List Int} {i : Nat} (h : i < xs.length) : rowIs [some .i64] (xs.map ir) i = true := by
  unfold rowIs
  rw [List.getElem?_map, List.getElem?_eq_getElem h]
  rfl

theorem intCell_ir {xs : List Int} {i : Nat} (h : i < xs.length) : intCell (xs.map ir) i 0 = xs[i] := by
  unfold intCell
  rw [List.getElem?_map, List.getElem?_eq_getElem h]
  rfl

theorem intsOf_map (xs : List Int) : intsOf (xs.map ir) = xs := by
  unfold intsOf
  apply List.ext_getElem?
  intro i
  rw [List.getElem?_map, List.length_map]
  by_cases h : i < xs.length
  · rw [List.getElem?_range h, Option.map_some, List.getElem?_eq_getElem h, intCell_ir h]
  · rw [List.getElem?_eq_none (by simp; omega), List.getElem?_eq_none (by omega)]
    rfl

theorem intsOK_map {xs : List Int} (h : xs.length ≤ 1000000) : intsOK (xs.map ir) = true := by
  have h1 : ((xs.map ir).all fun r => kindsOK [some .i64] r) = true := by
    rw [List.all_eq_true]
    intro r hr
    obtain ⟨p, _, rfl⟩ := List.mem_map.1 hr
    rfl
  unfold intsOK
  rw [h1, cond_true, List.length_map]
  exact ble_iff.2 h

theorem intsOK_some {l : List (List PC)} (h : intsOK l = true) : l = (intsOf l).map ir ∧ l.length ≤ 1000000 := by
  unfold intsOK at h
  obtain ⟨h1, h2⟩ := cond_and h
  refine ⟨?_, ble_iff.1 h2⟩
  have : ∃ xs : List Int, l = xs.map ir := by
    clear h h2
    induction l with
    | nil => exact ⟨[], rfl⟩
    | cons r l ih =>
      rw [List.all_cons, Bool.and_eq_true] at h1
      obtain ⟨xs, hxs⟩ := ih h1.2
      have hk := h1.1
      match r, hk with
      | [.int .i64 x], _ => exact ⟨x :: xs, by rw [List.map_cons, ← hxs]; rfl⟩
  obtain ⟨xs, rfl⟩ := this
  rw [intsOf_map]

def asPg : List Cell → Option Pg
  | [.int .i64 l, .int .u64 h, .int .u64 a, .int .u64 b, .int .u64 c, .int .u64 d, .int .u64 e, .int .u64 f, .int .u64 g] => some ⟨l, h, a, b, c, d, e, f, g⟩
  | _ => none

theorem asPg_some {x : List Cell} {p : Pg} (h : asPg x = some p) : x = p.cs := by
  unfold asPg at h
  split at h
  · simp only [Option.some.injEq] at h; subst h; rfl
  · cases h

end Go.Sp

namespace Go.Proofs.Ytjbmpimclagfoaa
open Go.Eng Go.Sp

theorem callOK6 (lf d : Nat) : CallOK Try.prog (callD T E6 F lf d) := callD_ok tok E6_ok fnsok mixed d

end Go.Proofs.Ytjbmpimclagfoaa
