/-
  Resolve as a function of the environment.
-/
import Derived.Test.YtjbmpimclagfoaaSp17
import Derived.Test.YtjbmpimclagfoaaLawK3
namespace Go.Proofs.Ytjbmpimclagfoaa
open Go.Eng Go.Sp

def resOS : List D1 → Option (Bool × DRes)
  | [.agg [.pc (.int .u64 a), .pc (.int .u64 b), .pc (.int .u64 c), .pc (.int .u64 d), .pc (.int .u64 e), .pc (.int .u64 f)], .agg [.pc (.int .i64 hl), .pc (.int .i64 hg)], .one (.sl z E)] =>
    cond (Nat.beq z 9) (some (cond (pgsOK E.list) (resOK (resF (visP a b c d e f) (pgsOf E.list) hl hg 256 hl hg 0)) false,
      resR (resV (resF (visP a b c d e f) (pgsOf E.list) hl hg 256 hl hg 0)) (resB (resF (visP a b c d e f) (pgsOf E.list) hl hg 256 hl hg 0)))) none
  | _ => none

theorem resOS_ok : ∀ l d, resOS l = some (true, d) → FnSem Try.prog 56 l d := fun l d h => by
  unfold resOS at h
  split at h
  case h_2 => cases h
  case h_1 a b c d' e f hl hg z E =>
    obtain ⟨h1, g1⟩ := cond_none h
    simp only [Option.some.injEq, Prod.mk.injEq] at g1
    obtain ⟨h2, rfl⟩ := g1
    obtain ⟨h3, h4⟩ := cond_and h2
    obtain ⟨h5, h6⟩ := pgsOK_some h3
    rw [beq_iff.1 h1]
    have h7 : (pgsOf E.list).length ≤ 1000000 := by rw [h5, List.length_map] at h6; exact h6
    exact (resolve_sem0 (pgsOf E.list) h7 ⟨0, 0, a, b, c, d', e, f, 0⟩ hl hg h4).same ⟨same_refl _, same_refl _, same_sl h5.symm, trivial⟩

def ES : Env := (56, resOS) :: (27, tot awake22S) :: EO14
theorem ES_ok : EnvOK Try.prog ES := .consO resOS_ok (.cons awake22S_ok EO14_ok)
theorem callOKS (lf d : Nat) : CallOK Try.prog (callD T ES F lf d) := callD_ok tok ES_ok fnsok mixed d

/-- Function 9's marks: three loops carry lists, and one index is not in the text. -/
noncomputable def an9 (sums : List (Nat × (St → (Ex → St → Ans) → Ans))) : Ann := annP 9 sums [7]

end Go.Proofs.Ytjbmpimclagfoaa
