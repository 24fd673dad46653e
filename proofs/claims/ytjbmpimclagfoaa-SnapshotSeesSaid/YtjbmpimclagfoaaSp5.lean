/-
  Vectors: Join, Includes and Visible of package snapshot.
-/
import Derived.Test.YtjbmpimclagfoaaSp1
namespace Go.Sp

def mx (a b : Int) : Int := if b > a then b else a
def inclP (a b c d e f a' b' c' d' e' f' : Int) : Bool := bif mx a a' == a then bif mx b b' == b then bif mx c c' == c then bif mx d d' == d then bif mx e e' == e then bif mx f f' == f then true else false else false else false else false else false else false

theorem mx_eq (a b : Int) : (mx a b == a) = decide (b ≤ a) := by
  unfold mx
  by_cases h : b > a
  · rw [if_pos h, decide_eq_false (by omega)]; simp; omega
  · rw [if_neg h, decide_eq_true (by omega)]; simp

theorem incl_of (a b c d e f a' b' c' d' e' f' : Int) : inclP a b c d e f a' b' c' d' e' f' = decide (a' ≤ a ∧ b' ≤ b ∧ c' ≤ c ∧ d' ≤ d ∧ e' ≤ e ∧ f' ≤ f) := by
  unfold inclP
  rw [mx_eq, mx_eq, mx_eq, mx_eq, mx_eq, mx_eq]
  by_cases h1 : a' ≤ a <;> by_cases h2 : b' ≤ b <;> by_cases h3 : c' ≤ c <;> by_cases h4 : d' ≤ d <;> by_cases h5 : e' ≤ e <;> by_cases h6 : f' ≤ f <;> simp [h1, h2, h3, h4, h5, h6]

def visP (a b c d e f s : Int) : Bool := bif orgO s then decide (IntKind.wrap .u64 (orgS s) ≤ Go.Eng.intAt [a, b, c, d, e, f] (Int.toNat (orgC s) * 1 + 0)) else false

theorem orgO_range {s : Int} (h : orgO s = true) : 0 ≤ orgC s ∧ orgC s < 6 := by
  have hc : orgC s = orgc s := by unfold orgC; rw [h, cond_true]
  rw [hc]
  unfold orgO at h
  cases h1 : decide (orgc s < 0) with
  | true => rw [h1] at h; cases h
  | false =>
    rw [h1, cond_false] at h
    cases h2 : decide (orgc s ≥ 6) with
    | true => rw [h2] at h; cases h
    | false =>
      have := of_decide_eq_false h1
      have := of_decide_eq_false h2
      omega

end Go.Sp

namespace Go.Proofs.Ytjbmpimclagfoaa
open Go.Eng Go.Sp

theorem join_sem (a b c d e f a' b' c' d' e' f' : Int) : FnSem Try.prog 26 [.agg [.pc (.int .u64 a), .pc (.int .u64 b), .pc (.int .u64 c), .pc (.int .u64 d), .pc (.int .u64 e), .pc (.int .u64 f)], .agg [.pc (.int .u64 a'), .pc (.int .u64 b'), .pc (.int .u64 c'), .pc (.int .u64 d'), .pc (.int .u64 e'), .pc (.int .u64 f')]]
    (.v (.agg [.pc (.int .u64 (mx a a')), .pc (.int .u64 (mx b b')), .pc (.int .u64 (mx c c')), .pc (.int .u64 (mx d d')), .pc (.int .u64 (mx e e')), .pc (.int .u64 (mx f f'))])) :=
  sem (EnvOK.nil _) (lf := 10) (depth := 10) (by kernel_rfl)

def joinS : List D1 → Option DRes
  | [.agg [.pc (.int .u64 a), .pc (.int .u64 b), .pc (.int .u64 c), .pc (.int .u64 d), .pc (.int .u64 e), .pc (.int .u64 f)], .agg [.pc (.int .u64 a'), .pc (.int .u64 b'), .pc (.int .u64 c'), .pc (.int .u64 d'), .pc (.int .u64 e'), .pc (.int .u64 f')]] =>
    some (.v (.agg [.pc (.int .u64 (mx a a')), .pc (.int .u64 (mx b b')), .pc (.int .u64 (mx c c')), .pc (.int .u64 (mx d d')), .pc (.int .u64 (mx e e')), .pc (.int .u64 (mx f f'))]))
  | _ => none

theorem joinS_ok : ∀ l d, joinS l = some d → FnSem Try.prog 26 l d := fun l d h => by
  unfold joinS at h
  split at h
  · simp only [Option.some.injEq] at h; subst h; exact join_sem _ _ _ _ _ _ _ _ _ _ _ _
  · cases h

theorem incl_sem (a b c d e f a' b' c' d' e' f' : Int) : FnSem Try.prog 28 [.agg [.pc (.int .u64 a), .pc (.int .u64 b), .pc (.int .u64 c), .pc (.int .u64 d), .pc (.int .u64 e), .pc (.int .u64 f)], .agg [.pc (.int .u64 a'), .pc (.int .u64 b'), .pc (.int .u64 c'), .pc (.int .u64 d'), .pc (.int .u64 e'), .pc (.int .u64 f')]] (.v (.one (.pc (.bool (inclP a b c d e f a' b' c' d' e' f'))))) :=
  sem (EnvOK.nil _) (lf := 10) (depth := 10) (by kernel_rfl)

def inclS : List D1 → Option DRes
  | [.agg [.pc (.int .u64 a), .pc (.int .u64 b), .pc (.int .u64 c), .pc (.int .u64 d), .pc (.int .u64 e), .pc (.int .u64 f)], .agg [.pc (.int .u64 a'), .pc (.int .u64 b'), .pc (.int .u64 c'), .pc (.int .u64 d'), .pc (.int .u64 e'), .pc (.int .u64 f')]] => some (.v (.one (.pc (.bool (inclP a b c d e f a' b' c' d' e' f')))))
  | _ => none

theorem inclS_ok : ∀ l d, inclS l = some d → FnSem Try.prog 28 l d := fun l d h => by
  unfold inclS at h
  split at h
  · simp only [Option.some.injEq] at h; subst h; exact incl_sem _ _ _ _ _ _ _ _ _ _ _ _
  · cases h

def boolR (b : Bool) : Option DRes := some (.v (.one (.pc (.bool b))))

theorem vis_sem (a b c d e f s : Int) : FnSem Try.prog 29 [.agg [.pc (.int .u64 a), .pc (.int .u64 b), .pc (.int .u64 c), .pc (.int .u64 d), .pc (.int .u64 e), .pc (.int .u64 f)], .one (.pc (.int .u64 s))] (.v (.one (.pc (.bool (visP a b c d e f s))))) := by
  refine sem (E := [(21, tot originS)]) (EnvOK.cons originS_ok (EnvOK.nil _)) (lf := 10) (depth := 10) ?_
  have h : callD T [(21, tot originS)] F 10 10 29 [.agg [.pc (.int .u64 a), .pc (.int .u64 b), .pc (.int .u64 c), .pc (.int .u64 d), .pc (.int .u64 e), .pc (.int .u64 f)], .one (.pc (.int .u64 s))] some =
      (bif orgO s then bif decide (0 ≤ orgC s ∧ orgC s < ((6 : Nat) : Int)) then bif Nat.blt (Int.toNat (orgC s) * 1 + 0) 6 then boolR (decide (IntKind.wrap .u64 (orgS s) ≤ intAt [a, b, c, d, e, f] (Int.toNat (orgC s) * 1 + 0))) else none else none else boolR false) := by kernel_rfl
  rw [h]
  unfold visP
  cases ho : orgO s with
  | false => rfl
  | true =>
    have hr := orgO_range ho
    have h1 : decide (0 ≤ orgC s ∧ orgC s < ((6 : Nat) : Int)) = true := decide_eq_true (by omega)
    have h2 : Nat.blt (Int.toNat (orgC s) * 1 + 0) 6 = true := blt_iff.2 (by omega)
    rw [h1, h2]
    rfl

def visS : List D1 → Option DRes
  | [.agg [.pc (.int .u64 a), .pc (.int .u64 b), .pc (.int .u64 c), .pc (.int .u64 d), .pc (.int .u64 e), .pc (.int .u64 f)], .one (.pc (.int .u64 s))] => some (.v (.one (.pc (.bool (visP a b c d e f s)))))
  | _ => none

theorem visS_ok : ∀ l d, visS l = some d → FnSem Try.prog 29 l d := fun l d h => by
  unfold visS at h
  split at h
  · simp only [Option.some.injEq] at h; subst h; exact vis_sem _ _ _ _ _ _ _
  · cases h

theorem awake22_sem : FnSem Try.prog 27 [] (.v (.one (.pc (.bool true)))) :=
  sem (EnvOK.nil _) (lf := 10) (depth := 10) (by kernel_rfl)

def awake22S : List D1 → Option DRes
  | [] => some (.v (.one (.pc (.bool true))))
  | _ => none

theorem awake22S_ok : ∀ l d, awake22S l = some d → FnSem Try.prog 27 l d := fun l d h => by
  unfold awake22S at h
  split at h
  · simp only [Option.some.injEq] at h; subst h; exact awake22_sem
  · cases h

end Go.Proofs.Ytjbmpimclagfoaa
