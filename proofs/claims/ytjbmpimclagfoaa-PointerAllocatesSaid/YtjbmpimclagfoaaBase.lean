/-
  The evaluator's tables are the program's.
-/
import Derived.Test.YtjbmpimclagfoaaTab
import Derived.Test.YtjbmpimclagfoaaEngI
namespace Go.Proofs.Ytjbmpimclagfoaa
open Go.Eng

theorem tok : TOK Try.prog T := ttB_ok (by kernel_rfl)

theorem mixed : Try.prog.follows .mixedOrders = true := by kernel_rfl

theorem fnsok : FnsOK Try.prog F := by
  unfold F
  simp only [FnsOK]
  repeat' apply And.intro
  all_goals first | trivial | kernel_rfl

/-- What the evaluator answers is so. -/
theorem sem {E : Env} (hE : EnvOK Try.prog E) {lf depth : Nat} {f : FuncId} {l : List D1} {r : DRes} (h : callD T E F lf depth f l some = some r) : FnSem Try.prog f l r :=
  FnSem.of tok hE fnsok mixed h

end Go.Proofs.Ytjbmpimclagfoaa
