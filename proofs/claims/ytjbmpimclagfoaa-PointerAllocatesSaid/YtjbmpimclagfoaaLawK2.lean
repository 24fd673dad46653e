/-
  What the arguments are, with their ranges: pages.
-/
import Derived.Test.YtjbmpimclagfoaaSp6
import Derived.Test.YtjbmpimclagfoaaLawK
namespace Go.Proofs.Ytjbmpimclagfoaa
open Go.Eng Go.Sp Go.RowKit

set_option maxRecDepth 100000 in
theorem open_pg {d : D1} (h : D1Of Try.prog 54 d) : ∃ p : Pg, d = p.t ∧ p.ok := by
  obtain ⟨l, hh, a, b, c, d, e, f, g, rfl, h1, h2, h3, h4, h5, h6, h7, h8, h9⟩ := open_page h
  exact ⟨⟨l, hh, a, b, c, d, e, f, g⟩, rfl, ⟨wf_i64 h1, wf_u64 h2, wf_u64 h3, wf_u64 h4, wf_u64 h5, wf_u64 h6, wf_u64 h7, wf_u64 h8, wf_u64 h9⟩⟩

end Go.Proofs.Ytjbmpimclagfoaa
