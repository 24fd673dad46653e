/-
  What the arguments are, with their ranges: pages.
-/
import Derived.Test.YtjbmpimclagfoaaSp9
import Derived.Test.YtjbmpimclagfoaaLawK
namespace Go.Proofs.Ytjbmpimclagfoaa
open Go.Eng Go.Sp Go.RowKit

set_option maxRecDepth 100000 in
theorem open_pg {d : D1} (h : D1Of Try.prog 54 d) : ∃ p : Pg, d = p.t ∧ p.ok := by
  obtain ⟨l, hh, a, b, c, d, e, f, g, rfl, h1, h2, h3, h4, h5, h6, h7, h8, h9⟩ := open_page h
  exact ⟨⟨l, hh, a, b, c, d, e, f, g⟩, rfl, ⟨wf_i64 h1, wf_u64 h2, wf_u64 h3, wf_u64 h4, wf_u64 h5, wf_u64 h6, wf_u64 h7, wf_u64 h8, wf_u64 h9⟩⟩

theorem und50 : Try.prog.underlying 50 = some (.slice 54) := by kernel_rfl

set_option maxRecDepth 100000 in
theorem open_pgs {d : D1} (h : D1Of Try.prog 50 d) : ∃ (E : Els) (ps : List Pg), d = .one (.sl 9 E) ∧ E.list = ps.map Pg.row ∧ (∀ p ∈ ps, p.ok) := by
  obtain ⟨n, cols, rfl, _, q0⟩ := D1Of.slice und50 flat54 h
  obtain ⟨c0, k0, rfl, ⟨f0, rfl, w0⟩, q1⟩ := all2_cons q0
  obtain ⟨c1, k1, rfl, ⟨f1, rfl, w1⟩, q2⟩ := all2_cons q1
  obtain ⟨c2, k2, rfl, ⟨f2, rfl, w2⟩, q3⟩ := all2_cons q2
  obtain ⟨c3, k3, rfl, ⟨f3, rfl, w3⟩, q4⟩ := all2_cons q3
  obtain ⟨c4, k4, rfl, ⟨f4, rfl, w4⟩, q5⟩ := all2_cons q4
  obtain ⟨c5, k5, rfl, ⟨f5, rfl, w5⟩, q6⟩ := all2_cons q5
  obtain ⟨c6, k6, rfl, ⟨f6, rfl, w6⟩, q7⟩ := all2_cons q6
  obtain ⟨c7, k7, rfl, ⟨f7, rfl, w7⟩, q8⟩ := all2_cons q7
  obtain ⟨c8, k8, rfl, ⟨f8, rfl, w8⟩, q9⟩ := all2_cons q8
  obtain rfl := all2_nil q9
  refine ⟨_, (List.range n).map fun i => ⟨f0 i, f1 i, f2 i, f3 i, f4 i, f5 i, f6 i, f7 i, f8 i⟩, rfl, ?_, fun p hp => ?_⟩
  · rw [List.map_map]; rfl
  · obtain ⟨i, hi, rfl⟩ := List.mem_map.1 hp
    have hi := List.mem_range.1 hi
    exact ⟨wf_i64 (w0 i hi), wf_u64 (w1 i hi), wf_u64 (w2 i hi), wf_u64 (w3 i hi), wf_u64 (w4 i hi), wf_u64 (w5 i hi), wf_u64 (w6 i hi), wf_u64 (w7 i hi), wf_u64 (w8 i hi)⟩

theorem und24 : Try.prog.underlying 24 = some (.slice 3) := by kernel_rfl
theorem flat3 : flat Try.prog 6 3 = some [some .i64] := by kernel_rfl

set_option maxRecDepth 100000 in
theorem open_ints {d : D1} (h : D1Of Try.prog 24 d) : ∃ (E : Els) (xs : List Int), d = .one (.sl 1 E) ∧ E.list = xs.map ir ∧ (∀ x ∈ xs, rI64 x) := by
  obtain ⟨n, cols, rfl, _, q0⟩ := D1Of.slice und24 flat3 h
  obtain ⟨c0, k0, rfl, ⟨f0, rfl, w0⟩, q1⟩ := all2_cons q0
  obtain rfl := all2_nil q1
  refine ⟨_, (List.range n).map f0, rfl, ?_, fun x hx => ?_⟩
  · rw [List.map_map]; rfl
  · obtain ⟨i, hi, rfl⟩ := List.mem_map.1 hx
    exact wf_i64 (w0 i (List.mem_range.1 hi))

set_option maxRecDepth 100000 in
theorem same_refl (x : D1) : x.same x := by
  have hdc : ∀ c : DC, c.same c := fun c => by cases c <;> first | rfl | exact ⟨rfl, rfl⟩
  have hl : ∀ l : List DC, All2 DC.same l l := fun l => by
    induction l with
    | nil => trivial
    | cons a l ih => exact ⟨hdc a, ih⟩
  cases x with
  | one c => exact hdc c
  | agg l => exact hl l

theorem same_sl {z : Nat} {E E' : Els} (h : E.list = E'.list) : D1.same (.one (.sl z E)) (.one (.sl z E')) := ⟨rfl, h⟩

theorem wrap_rU64 (n : Int) : rU64 (IntKind.wrap .u64 n) := by unfold rU64; rw [IntKind.wrap_u64]; omega
theorem wrap_rI64 (n : Int) : rI64 (IntKind.wrap .i64 n) := by unfold rI64; rw [IntKind.wrap_i64]; omega

end Go.Proofs.Ytjbmpimclagfoaa
