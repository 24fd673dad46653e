/-
  The evaluator's tables are the program's.
-/
import Derived.Test.YtjbmpimclagfoaaTab
import Derived.Test.YtjbmpimclagfoaaEngI
namespace Go.Proofs.Ytjbmpimclagfoaa
open Go.Eng

theorem tok : TOK Try.prog T := ttB_ok (by kernel_rfl)

theorem mixed : Try.prog.follows .mixedOrders = true := by kernel_rfl

theorem fnsok : FnsOK Try.prog F := by
  unfold F
  simp only [FnsOK]
  repeat' apply And.intro
  all_goals first | trivial | kernel_rfl

/-- What the evaluator answers is so. -/
theorem sem {E : Env} (hE : EnvOK Try.prog E) {lf depth : Nat} {f : FuncId} {l : List D1} {r : DRes} (h : callD T E F lf depth f l some = some r) : FnSem Try.prog f l r :=
  FnSem.of tok hE fnsok mixed h

/-- The same for one function whose loops have summaries. -/
theorem semL {E : Env} (hE : EnvOK Try.prog E) {lf lf' depth : Nat} {f : FuncId} {fn : Func} {an : Ann} (hf : Try.prog.funcs[f]? = some fn) (hn : (fn.name == "runtime.NumGoroutine") = false) (hS : ∀ c, fn.body = some c → SumsOK Try.prog an c)
    {l : List D1} {r : DRes} (h : evalFn T (callD T E F lf' depth) an lf fn l some = some r) : FnSem Try.prog f l r :=
  FnSem.ofL tok hE fnsok mixed hf hn hS h

/-- What the table knows of a function, and with summaries of its loops. -/
noncomputable def annOf (f : Nat) : Ann :=
  match fnOf F f with
  | some (_, an) => an
  | none => ⟨[], [], [], [], []⟩

noncomputable def annS (f : Nat) (sums : List (Nat × (St → (Ex → St → Ans) → Ans))) : Ann := { annOf f with sums := sums }

end Go.Proofs.Ytjbmpimclagfoaa
