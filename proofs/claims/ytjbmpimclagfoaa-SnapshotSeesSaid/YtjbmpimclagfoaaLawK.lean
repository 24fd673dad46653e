/-
  What the arguments of these laws are, type by type.
-/
import Derived.Test.YtjbmpimclagfoaaBase
import Derived.Test.YtjbmpimclagfoaaEngL
import Derived.Test.YtjbmpimclagfoaaRows
namespace Go.Proofs.Ytjbmpimclagfoaa
open Go.Eng Go.RowKit

/-- A boolean, handed back. -/
def bs (b : Bool) : Option DRes := some (.v (.one (.pc (.bool b))))

theorem und3 : Try.prog.underlying 3 = some (.int .i64) := by kernel_rfl
theorem und4 : Try.prog.underlying 4 = some .bool := by kernel_rfl
theorem und22 : Try.prog.underlying 22 = some (.int .u64) := by kernel_rfl
theorem und48 : Try.prog.underlying 48 = some (.int .u32) := by kernel_rfl
theorem own : ownKnob Try.prog.godebug = none := by kernel_rfl
theorem laid : laidOutB Try.prog = true := by kernel_rfl

def aggT (P : Program) (t : TypeId) : Bool :=
  match P.underlying t with
  | some (.struct _) => true
  | some (.array _ _) => true
  | _ => false

theorem _root_.Go.Eng.D1Of.aggT {P : Program} {t : TypeId} {d : D1} {ks : List (Option IntKind)} (h : D1Of P t d) (hu : aggT P t = true) (hf : flat P 6 t = some ks) : ∃ ps, d = .agg (ps.map DC.pc) ∧ All2 okPC ks ps := by
  unfold Ytjbmpimclagfoaa.aggT at hu
  split at hu
  · rename_i F he; exact D1Of.struct he hf h
  · rename_i n e he; exact D1Of.array he hf h
  · cases hu

theorem flat74 : flat Try.prog 6 74 = some [some .i64, some .i64, some .i64, some .u32, some .u64, none] := by kernel_rfl
theorem agg74 : aggT Try.prog 74 = true := by kernel_rfl
set_option maxRecDepth 100000 in
theorem open_num {d : D1} (h : D1Of Try.prog 74 d) : ∃ x0 x1 x2 x3 x4 : Int, ∃ x5 : Bool, d = .agg [.pc (.int .i64 x0), .pc (.int .i64 x1), .pc (.int .i64 x2), .pc (.int .u32 x3), .pc (.int .u64 x4), .pc (.bool x5)] ∧ (Lit.int .i64 x0).wf = true ∧ (Lit.int .i64 x1).wf = true ∧ (Lit.int .i64 x2).wf = true ∧ (Lit.int .u32 x3).wf = true ∧ (Lit.int .u64 x4).wf = true := by
  obtain ⟨ps, rfl, q0⟩ := h.aggT agg74 flat74
  clear h
  obtain ⟨_, _, rfl, ⟨x0, rfl, wx0⟩, q1⟩ := okPC_cons q0
  obtain ⟨_, _, rfl, ⟨x1, rfl, wx1⟩, q2⟩ := okPC_cons q1
  obtain ⟨_, _, rfl, ⟨x2, rfl, wx2⟩, q3⟩ := okPC_cons q2
  obtain ⟨_, _, rfl, ⟨x3, rfl, wx3⟩, q4⟩ := okPC_cons q3
  obtain ⟨_, _, rfl, ⟨x4, rfl, wx4⟩, q5⟩ := okPC_cons q4
  obtain ⟨_, _, rfl, ⟨x5, rfl⟩, q6⟩ := okPC_cons q5
  obtain rfl := okPC_nil q6
  exact ⟨x0, x1, x2, x3, x4, x5, rfl, wx0, wx1, wx2, wx3, wx4⟩

theorem flat54 : flat Try.prog 6 54 = some [some .i64, some .u64, some .u64, some .u64, some .u64, some .u64, some .u64, some .u64, some .u64] := by kernel_rfl
theorem agg54 : aggT Try.prog 54 = true := by kernel_rfl
set_option maxRecDepth 100000 in
theorem open_page {d : D1} (h : D1Of Try.prog 54 d) : ∃ x0 x1 x2 x3 x4 x5 x6 x7 x8 : Int, d = .agg [.pc (.int .i64 x0), .pc (.int .u64 x1), .pc (.int .u64 x2), .pc (.int .u64 x3), .pc (.int .u64 x4), .pc (.int .u64 x5), .pc (.int .u64 x6), .pc (.int .u64 x7), .pc (.int .u64 x8)] ∧ (Lit.int .i64 x0).wf = true ∧ (Lit.int .u64 x1).wf = true ∧ (Lit.int .u64 x2).wf = true ∧ (Lit.int .u64 x3).wf = true ∧ (Lit.int .u64 x4).wf = true ∧ (Lit.int .u64 x5).wf = true ∧ (Lit.int .u64 x6).wf = true ∧ (Lit.int .u64 x7).wf = true ∧ (Lit.int .u64 x8).wf = true := by
  obtain ⟨ps, rfl, q0⟩ := h.aggT agg54 flat54
  clear h
  obtain ⟨_, _, rfl, ⟨x0, rfl, wx0⟩, q1⟩ := okPC_cons q0
  obtain ⟨_, _, rfl, ⟨x1, rfl, wx1⟩, q2⟩ := okPC_cons q1
  obtain ⟨_, _, rfl, ⟨x2, rfl, wx2⟩, q3⟩ := okPC_cons q2
  obtain ⟨_, _, rfl, ⟨x3, rfl, wx3⟩, q4⟩ := okPC_cons q3
  obtain ⟨_, _, rfl, ⟨x4, rfl, wx4⟩, q5⟩ := okPC_cons q4
  obtain ⟨_, _, rfl, ⟨x5, rfl, wx5⟩, q6⟩ := okPC_cons q5
  obtain ⟨_, _, rfl, ⟨x6, rfl, wx6⟩, q7⟩ := okPC_cons q6
  obtain ⟨_, _, rfl, ⟨x7, rfl, wx7⟩, q8⟩ := okPC_cons q7
  obtain ⟨_, _, rfl, ⟨x8, rfl, wx8⟩, q9⟩ := okPC_cons q8
  obtain rfl := okPC_nil q9
  exact ⟨x0, x1, x2, x3, x4, x5, x6, x7, x8, rfl, wx0, wx1, wx2, wx3, wx4, wx5, wx6, wx7, wx8⟩

theorem flat63 : flat Try.prog 6 63 = some [some .u32, some .i64, some .i64, some .i64, none, some .u32, some .u64, some .i64, some .i64] := by kernel_rfl
theorem agg63 : aggT Try.prog 63 = true := by kernel_rfl
set_option maxRecDepth 100000 in
theorem open_ver {d : D1} (h : D1Of Try.prog 63 d) : ∃ x0 x1 x2 x3 x5 x6 x7 x8 : Int, ∃ x4 : Bool, d = .agg [.pc (.int .u32 x0), .pc (.int .i64 x1), .pc (.int .i64 x2), .pc (.int .i64 x3), .pc (.bool x4), .pc (.int .u32 x5), .pc (.int .u64 x6), .pc (.int .i64 x7), .pc (.int .i64 x8)] ∧ (Lit.int .u32 x0).wf = true ∧ (Lit.int .i64 x1).wf = true ∧ (Lit.int .i64 x2).wf = true ∧ (Lit.int .i64 x3).wf = true ∧ (Lit.int .u32 x5).wf = true ∧ (Lit.int .u64 x6).wf = true ∧ (Lit.int .i64 x7).wf = true ∧ (Lit.int .i64 x8).wf = true := by
  obtain ⟨ps, rfl, q0⟩ := h.aggT agg63 flat63
  clear h
  obtain ⟨_, _, rfl, ⟨x0, rfl, wx0⟩, q1⟩ := okPC_cons q0
  obtain ⟨_, _, rfl, ⟨x1, rfl, wx1⟩, q2⟩ := okPC_cons q1
  obtain ⟨_, _, rfl, ⟨x2, rfl, wx2⟩, q3⟩ := okPC_cons q2
  obtain ⟨_, _, rfl, ⟨x3, rfl, wx3⟩, q4⟩ := okPC_cons q3
  obtain ⟨_, _, rfl, ⟨x4, rfl⟩, q5⟩ := okPC_cons q4
  obtain ⟨_, _, rfl, ⟨x5, rfl, wx5⟩, q6⟩ := okPC_cons q5
  obtain ⟨_, _, rfl, ⟨x6, rfl, wx6⟩, q7⟩ := okPC_cons q6
  obtain ⟨_, _, rfl, ⟨x7, rfl, wx7⟩, q8⟩ := okPC_cons q7
  obtain ⟨_, _, rfl, ⟨x8, rfl, wx8⟩, q9⟩ := okPC_cons q8
  obtain rfl := okPC_nil q9
  exact ⟨x0, x1, x2, x3, x5, x6, x7, x8, x4, rfl, wx0, wx1, wx2, wx3, wx5, wx6, wx7, wx8⟩

theorem flat33 : flat Try.prog 6 33 = some [some .u64, some .u64, some .u64, some .u64, some .u64, some .u64] := by kernel_rfl
theorem agg33 : aggT Try.prog 33 = true := by kernel_rfl
set_option maxRecDepth 100000 in
theorem open_vec {d : D1} (h : D1Of Try.prog 33 d) : ∃ x0 x1 x2 x3 x4 x5 : Int, d = .agg [.pc (.int .u64 x0), .pc (.int .u64 x1), .pc (.int .u64 x2), .pc (.int .u64 x3), .pc (.int .u64 x4), .pc (.int .u64 x5)] ∧ (Lit.int .u64 x0).wf = true ∧ (Lit.int .u64 x1).wf = true ∧ (Lit.int .u64 x2).wf = true ∧ (Lit.int .u64 x3).wf = true ∧ (Lit.int .u64 x4).wf = true ∧ (Lit.int .u64 x5).wf = true := by
  obtain ⟨ps, rfl, q0⟩ := h.aggT agg33 flat33
  clear h
  obtain ⟨_, _, rfl, ⟨x0, rfl, wx0⟩, q1⟩ := okPC_cons q0
  obtain ⟨_, _, rfl, ⟨x1, rfl, wx1⟩, q2⟩ := okPC_cons q1
  obtain ⟨_, _, rfl, ⟨x2, rfl, wx2⟩, q3⟩ := okPC_cons q2
  obtain ⟨_, _, rfl, ⟨x3, rfl, wx3⟩, q4⟩ := okPC_cons q3
  obtain ⟨_, _, rfl, ⟨x4, rfl, wx4⟩, q5⟩ := okPC_cons q4
  obtain ⟨_, _, rfl, ⟨x5, rfl, wx5⟩, q6⟩ := okPC_cons q5
  obtain rfl := okPC_nil q6
  exact ⟨x0, x1, x2, x3, x4, x5, rfl, wx0, wx1, wx2, wx3, wx4, wx5⟩

theorem flat61 : flat Try.prog 6 61 = some [some .i64, some .i64] := by kernel_rfl
theorem agg61 : aggT Try.prog 61 = true := by kernel_rfl
set_option maxRecDepth 100000 in
theorem open_ptr {d : D1} (h : D1Of Try.prog 61 d) : ∃ x0 x1 : Int, d = .agg [.pc (.int .i64 x0), .pc (.int .i64 x1)] ∧ (Lit.int .i64 x0).wf = true ∧ (Lit.int .i64 x1).wf = true := by
  obtain ⟨ps, rfl, q0⟩ := h.aggT agg61 flat61
  clear h
  obtain ⟨_, _, rfl, ⟨x0, rfl, wx0⟩, q1⟩ := okPC_cons q0
  obtain ⟨_, _, rfl, ⟨x1, rfl, wx1⟩, q2⟩ := okPC_cons q1
  obtain rfl := okPC_nil q2
  exact ⟨x0, x1, rfl, wx0, wx1⟩

theorem flat52 : flat Try.prog 6 52 = some [some .u64, some .u64, some .u64, some .u64, some .u64, some .u64, some .u64] := by kernel_rfl
theorem agg52 : aggT Try.prog 52 = true := by kernel_rfl
set_option maxRecDepth 100000 in
theorem open_words {d : D1} (h : D1Of Try.prog 52 d) : ∃ x0 x1 x2 x3 x4 x5 x6 : Int, d = .agg [.pc (.int .u64 x0), .pc (.int .u64 x1), .pc (.int .u64 x2), .pc (.int .u64 x3), .pc (.int .u64 x4), .pc (.int .u64 x5), .pc (.int .u64 x6)] ∧ (Lit.int .u64 x0).wf = true ∧ (Lit.int .u64 x1).wf = true ∧ (Lit.int .u64 x2).wf = true ∧ (Lit.int .u64 x3).wf = true ∧ (Lit.int .u64 x4).wf = true ∧ (Lit.int .u64 x5).wf = true ∧ (Lit.int .u64 x6).wf = true := by
  obtain ⟨ps, rfl, q0⟩ := h.aggT agg52 flat52
  clear h
  obtain ⟨_, _, rfl, ⟨x0, rfl, wx0⟩, q1⟩ := okPC_cons q0
  obtain ⟨_, _, rfl, ⟨x1, rfl, wx1⟩, q2⟩ := okPC_cons q1
  obtain ⟨_, _, rfl, ⟨x2, rfl, wx2⟩, q3⟩ := okPC_cons q2
  obtain ⟨_, _, rfl, ⟨x3, rfl, wx3⟩, q4⟩ := okPC_cons q3
  obtain ⟨_, _, rfl, ⟨x4, rfl, wx4⟩, q5⟩ := okPC_cons q4
  obtain ⟨_, _, rfl, ⟨x5, rfl, wx5⟩, q6⟩ := okPC_cons q5
  obtain ⟨_, _, rfl, ⟨x6, rfl, wx6⟩, q7⟩ := okPC_cons q6
  obtain rfl := okPC_nil q7
  exact ⟨x0, x1, x2, x3, x4, x5, x6, rfl, wx0, wx1, wx2, wx3, wx4, wx5, wx6⟩

end Go.Proofs.Ytjbmpimclagfoaa
