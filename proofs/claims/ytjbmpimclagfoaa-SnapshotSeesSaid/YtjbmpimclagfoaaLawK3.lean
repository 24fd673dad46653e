/-
  What the arguments are, with their ranges: versions.
-/
import Derived.Test.YtjbmpimclagfoaaSp14
import Derived.Test.YtjbmpimclagfoaaLawK2
namespace Go.Proofs.Ytjbmpimclagfoaa
open Go.Eng Go.Sp Go.RowKit

set_option maxRecDepth 100000 in
theorem open_ve {d : D1} (h : D1Of Try.prog 63 d) : ∃ v : Ve, d = v.t ∧ v.ok := by
  obtain ⟨k, a, b, c, e, s, l, g, dd, rfl, h1, h2, h3, h4, h5, h6, h7, h8⟩ := open_ver h
  exact ⟨⟨k, a, b, c, dd, e, s, l, g⟩, rfl, ⟨wf_u32 h1, wf_i64 h2, wf_i64 h3, wf_i64 h4, wf_u32 h5, wf_u64 h6, wf_i64 h7, wf_i64 h8⟩⟩

end Go.Proofs.Ytjbmpimclagfoaa
