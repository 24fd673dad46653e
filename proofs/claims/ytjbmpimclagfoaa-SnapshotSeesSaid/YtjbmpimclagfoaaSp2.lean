/-
  The document's Stamp and Origin: what they compute, and that it is what record.Stamp and record.Origin compute.
-/
import Derived.Test.YtjbmpimclagfoaaSp1
namespace Go.Sp

def refc (n : Int) : Int := IntKind.wrap .i64 (IntKind.wrap .i64 (Int.tmod n 256) - 1)
def refq (n : Int) : Int := IntKind.wrap .u64 (Int.tdiv n 256)
def refB (n : Int) : Bool := IntKind.wrap .u64 (IntKind.wrap .u64 (IntKind.wrap .u64 (IntKind.wrap .u64 (IntKind.wrap .i64 (refq n)) * 256) + IntKind.wrap .u64 (refc n)) + 1) == 0
def refO (n : Int) : Bool := bif decide (refq n ≥ 1073741824) then false else bif decide (refc n < 0) then false else bif decide (refc n ≥ 6) then false else bif decide (IntKind.wrap .i64 (refq n) < 1) then false else bif decide (IntKind.wrap .i64 (refq n) ≥ 1073741824) then false else bif refB n then false else true
def refC (n : Int) : Int := bif refO n then refc n else 0
def refS (n : Int) : Int := bif refO n then IntKind.wrap .i64 (refq n) else 0

theorem ref_of {n : Int} (h1 : 0 ≤ n) (h2 : n ≤ 18446744073709551615) : refc n = n % 256 - 1 ∧ refq n = n / 256 := by
  constructor
  · unfold refc
    rw [tmod_pos h1, i64_in (n := n % 256) (by omega) (by omega), i64_in (n := n % 256 - 1) (by omega) (by omega)]
  · unfold refq
    rw [tdiv_pos h1, u64_in (by omega) (by omega)]

theorem refO_of {n : Int} (h1 : 0 ≤ n) (h2 : n ≤ 18446744073709551615) : refO n = orgO n := by
  obtain ⟨hc, hq⟩ := ref_of h1 h2
  rw [orgO_of h1 h2]
  unfold refO
  rw [hc, hq]
  by_cases a0 : n / 256 ≥ 1073741824
  · rw [decide_eq_true a0, cond_true]; exact (decide_eq_false (by omega)).symm
  · rw [decide_eq_false a0, cond_false, i64_in (n := n / 256) (by omega) (by omega)]
    by_cases a1 : n % 256 - 1 < 0
    · rw [decide_eq_true a1, cond_true]; exact (decide_eq_false (by omega)).symm
    · rw [decide_eq_false a1, cond_false]
      by_cases a2 : n % 256 - 1 ≥ 6
      · rw [decide_eq_true a2, cond_true]; exact (decide_eq_false (by omega)).symm
      · rw [decide_eq_false a2, cond_false]
        by_cases a3 : n / 256 < 1
        · rw [decide_eq_true a3, cond_true]; exact (decide_eq_false (by omega)).symm
        · rw [decide_eq_false a3, cond_false, decide_eq_false a0, cond_false]
          have hB : refB n = false := by
            unfold refB
            rw [hc, hq, i64_in (n := n / 256) (by omega) (by omega), u64_in (n := n / 256) (by omega) (by omega), u64_in (n := n % 256 - 1) (by omega) (by omega),
              u64_in (n := n / 256 * 256) (by omega) (by omega), u64_in (n := n / 256 * 256 + (n % 256 - 1)) (by omega) (by omega), u64_in (by omega) (by omega)]
            simp
            omega
          rw [hB, cond_false]
          exact (decide_eq_true (by omega)).symm

theorem refC_of {n : Int} (h1 : 0 ≤ n) (h2 : n ≤ 18446744073709551615) : refC n = orgC n := by
  unfold refC orgC
  rw [refO_of h1 h2, (ref_of h1 h2).1, (org_of h1 h2).1]

theorem refS_of {n : Int} (h1 : 0 ≤ n) (h2 : n ≤ 18446744073709551615) : refS n = orgS n := by
  unfold refS orgS
  rw [refO_of h1 h2, (ref_of h1 h2).2, (org_of h1 h2).2]
  refine bif_elim (fun h => ?_) fun h => ?_
  · rw [h, cond_true, i64_in (by omega) (by omega)]
  · rw [h, cond_false]

end Go.Sp

namespace Go.Proofs.Ytjbmpimclagfoaa
open Go.Eng Go.Sp

def ru (n : Int) : Option DRes := some (.v (.one (.pc (.int .u64 n))))

theorem rstamp_sem (n t : Int) : FnSem Try.prog 25 [.one (.pc (.int .i64 n)), .one (.pc (.int .i64 t))] (.v (.one (.pc (.int .u64 (stamp n t))))) := by
  refine sem (EnvOK.nil _) (lf := 10) (depth := 10) ?_
  have h : callD T [] F 10 10 25 [.one (.pc (.int .i64 n)), .one (.pc (.int .i64 t))] some = (bif decide (n < 0) then ru 0 else bif decide (n ≥ 6) then ru 0 else bif decide (t < 1) then ru 0 else bif decide (t ≥ 1073741824) then ru 0
      else ru (IntKind.wrap .u64 (IntKind.wrap .u64 (IntKind.wrap .u64 (IntKind.wrap .u64 t * 256) + IntKind.wrap .u64 n) + 1))) := by kernel_rfl
  rw [h, ← stampTree]
  refine bif_elim (fun a1 => by rw [a1]; rfl) fun a1 => ?_
  refine bif_elim (fun a2 => by rw [a1, a2]; rfl) fun a2 => ?_
  refine bif_elim (fun a3 => by rw [a1, a2, a3]; rfl) fun a3 => ?_
  refine bif_elim (fun a4 => by rw [a1, a2, a3, a4]; rfl) fun a4 => ?_
  rw [a1, a2, a3, a4]
  have := of_decide_eq_false a1
  have := of_decide_eq_false a2
  have := of_decide_eq_false a3
  have := of_decide_eq_false a4
  rw [u64_in (n := t) (by omega) (by omega), u64_in (n := n) (by omega) (by omega), u64_in (n := t * 256) (by omega) (by omega), u64_in (n := t * 256 + n) (by omega) (by omega), u64_in (by omega) (by omega), Int.add_assoc]
  rfl

def rstampS : List D1 → Option DRes
  | [.one (.pc (.int .i64 n)), .one (.pc (.int .i64 t))] => some (.v (.one (.pc (.int .u64 (stamp n t)))))
  | _ => none

theorem rstampS_ok : ∀ l d, rstampS l = some d → FnSem Try.prog 25 l d := fun l d h => by
  unfold rstampS at h
  split at h
  · simp only [Option.some.injEq] at h; subst h; exact rstamp_sem _ _
  · cases h

theorem rorigin_sem (n : Int) : FnSem Try.prog 22 [.one (.pc (.int .u64 n))] (.tup [.one (.pc (.int .i64 (refC n))), .one (.pc (.int .i64 (refS n))), .one (.pc (.bool (refO n)))]) := by
  refine sem (EnvOK.nil _) (lf := 10) (depth := 10) ?_
  have h : callD T [] F 10 10 22 [.one (.pc (.int .u64 n))] some = (bif (decide (refq n ≥ 1073741824)) then (some (.tup [(.one (.pc (.int .i64 0))), (.one (.pc (.int .i64 0))), (.one (.pc (.bool Bool.false)))])) else (bif (decide (refc n < 0)) then (some (.tup [(.one (.pc (.int .i64 0))), (.one (.pc (.int .i64 0))), (.one (.pc (.bool Bool.false)))])) else (bif (decide (refc n ≥ 6)) then (some (.tup [(.one (.pc (.int .i64 0))), (.one (.pc (.int .i64 0))), (.one (.pc (.bool Bool.false)))])) else (bif (decide (IntKind.wrap .i64 (refq n) < 1)) then (some (.tup [(.one (.pc (.int .i64 0))), (.one (.pc (.int .i64 0))), (.one (.pc (.bool Bool.false)))])) else (bif (decide (IntKind.wrap .i64 (refq n) ≥ 1073741824)) then (some (.tup [(.one (.pc (.int .i64 0))), (.one (.pc (.int .i64 0))), (.one (.pc (.bool Bool.false)))])) else (bif refB n then (some (.tup [(.one (.pc (.int .i64 0))), (.one (.pc (.int .i64 0))), (.one (.pc (.bool Bool.false)))])) else (some (.tup [(.one (.pc (.int .i64 (refc n)))), (.one (.pc (.int .i64 (IntKind.wrap .i64 (refq n))))), (.one (.pc (.bool Bool.true)))]))))))))  := by kernel_rfl
  rw [h]
  have key : ∀ b : Bool, refO n = b → some (DRes.tup [.one (.pc (.int .i64 (bif b then refc n else 0))), .one (.pc (.int .i64 (bif b then IntKind.wrap .i64 (refq n) else 0))), .one (.pc (.bool b))]) = some (.tup [.one (.pc (.int .i64 (refC n))), .one (.pc (.int .i64 (refS n))), .one (.pc (.bool (refO n)))]) := fun b hb => by
    unfold refC refS
    rw [hb]
  refine bif_elim (fun a0 => key false (by unfold refO; rw [a0]; rfl)) fun a0 => ?_
  refine bif_elim (fun a1 => key false (by unfold refO; rw [a0, a1]; rfl)) fun a1 => ?_
  refine bif_elim (fun a2 => key false (by unfold refO; rw [a0, a1, a2]; rfl)) fun a2 => ?_
  refine bif_elim (fun a3 => key false (by unfold refO; rw [a0, a1, a2, a3]; rfl)) fun a3 => ?_
  refine bif_elim (fun a4 => key false (by unfold refO; rw [a0, a1, a2, a3, a4]; rfl)) fun a4 => ?_
  refine bif_elim (fun a5 => key false (by unfold refO; rw [a0, a1, a2, a3, a4, a5]; rfl)) fun a5 => ?_
  exact key true (by unfold refO; rw [a0, a1, a2, a3, a4, a5]; rfl)

def roriginS : List D1 → Option DRes
  | [.one (.pc (.int .u64 n))] => some (.tup [.one (.pc (.int .i64 (refC n))), .one (.pc (.int .i64 (refS n))), .one (.pc (.bool (refO n)))])
  | _ => none

theorem roriginS_ok : ∀ l d, roriginS l = some d → FnSem Try.prog 22 l d := fun l d h => by
  unfold roriginS at h
  split at h
  · simp only [Option.some.injEq] at h; subst h; exact rorigin_sem _
  · cases h

end Go.Proofs.Ytjbmpimclagfoaa
