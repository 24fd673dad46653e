/-
  Pick, record.Stamp and record.Origin, and the document's: what they compute.
-/
import Derived.Test.YtjbmpimclagfoaaBase
import Derived.Test.YtjbmpimclagfoaaNum
namespace Go.Sp

theorem bif_elim {α : Type} {b : Bool} {x y z : α} (h1 : b = true → x = z) (h2 : b = false → y = z) : (bif b then x else y) = z := by
  cases b
  · exact h2 rfl
  · exact h1 rfl

def pick (n t : Int) : Int := bif decide (t < 1) then 0 else Int.tmod (IntKind.wrap .i64 (Int.tmod n t + t)) t

theorem tmod_emod' (n t : Int) : Int.tmod n t % t = n % t := by
  have h := Int.tmod_add_mul_tdiv n t
  rw [← Int.add_mul_emod_self_left (Int.tmod n t) t (Int.tdiv n t), h]

theorem tmod_range (n : Int) {t : Int} (h : 0 < t) : -t < Int.tmod n t ∧ Int.tmod n t < t := by
  refine ⟨?_, Int.tmod_lt_of_pos n h⟩
  have := Int.tmod_lt_of_pos (-n) h
  rw [Int.neg_tmod] at this
  omega

theorem pick_eq {n t : Int} (h1 : 1 ≤ t) (h2 : t ≤ 4611686018427387904) : pick n t = n % t := by
  obtain ⟨hl, hu⟩ := tmod_range n (t := t) (by omega)
  have hd : decide (t < 1) = false := decide_eq_false (by omega)
  unfold pick
  rw [hd, cond_false, i64_in (by omega) (by omega), tmod_pos (by omega), Int.add_emod_right]
  exact tmod_emod' n t

def stamp (c s : Int) : Int := if 0 ≤ c ∧ c < 6 ∧ 1 ≤ s ∧ s < 1073741824 then s * 256 + (c + 1) else 0

theorem stamp_of {c s : Int} (h1 : 0 ≤ c) (h2 : c < 6) (h3 : 1 ≤ s) (h4 : s < 1073741824) : stamp c s = s * 256 + (c + 1) := if_pos ⟨h1, h2, h3, h4⟩

def orgc (n : Int) : Int := IntKind.wrap .i64 (IntKind.wrap .i64 (Go.bits .and .u64 n 255) - 1)
def orgs (n : Int) : Int := IntKind.wrap .i64 (Int.fdiv n (2 ^ 8))
def orgB (n : Int) : Bool := Go.bits .or .u64 (IntKind.wrap .u64 (IntKind.wrap .u64 (orgs n) * (2 ^ 8))) (IntKind.wrap .u64 (IntKind.wrap .i64 (orgc n + 1))) == 0
/-- Whether a stamp has an origin. -/
def orgO (n : Int) : Bool := bif decide (orgc n < 0) then false else bif decide (orgc n ≥ 6) then false else bif decide (orgs n < 1) then false else bif decide (orgs n ≥ 1073741824) then false else bif orgB n then false else true
def orgC (n : Int) : Int := bif orgO n then orgc n else 0
def orgS (n : Int) : Int := bif orgO n then orgs n else 0

theorem org_of {n : Int} (h1 : 0 ≤ n) (h2 : n ≤ 18446744073709551615) : orgc n = n % 256 - 1 ∧ orgs n = n / 256 := by
  constructor
  · unfold orgc
    rw [and255 h1 (by omega), i64_in (n := n % 256) (by omega) (by omega), i64_in (n := n % 256 - 1) (by omega) (by omega)]
  · unfold orgs
    rw [fdiv_pos (by decide), i64_in (by omega) (by omega)]
    rfl

/-- A number has an origin exactly if it is a stamp. -/
theorem orgO_of {n : Int} (h1 : 0 ≤ n) (h2 : n ≤ 18446744073709551615) : orgO n = decide (1 ≤ n % 256 ∧ n % 256 ≤ 6 ∧ 1 ≤ n / 256 ∧ n / 256 < 1073741824) := by
  obtain ⟨hc, hs⟩ := org_of h1 h2
  unfold orgO
  rw [hc, hs]
  by_cases a1 : n % 256 - 1 < 0
  · rw [decide_eq_true a1, cond_true]; exact (decide_eq_false (by omega)).symm
  · rw [decide_eq_false a1, cond_false]
    by_cases a2 : n % 256 - 1 ≥ 6
    · rw [decide_eq_true a2, cond_true]; exact (decide_eq_false (by omega)).symm
    · rw [decide_eq_false a2, cond_false]
      by_cases a3 : n / 256 < 1
      · rw [decide_eq_true a3, cond_true]; exact (decide_eq_false (by omega)).symm
      · rw [decide_eq_false a3, cond_false]
        by_cases a4 : n / 256 ≥ 1073741824
        · rw [decide_eq_true a4, cond_true]; exact (decide_eq_false (by omega)).symm
        · rw [decide_eq_false a4, cond_false]
          have hB : orgB n = false := by
            unfold orgB
            rw [hc, hs, i64_in (by omega) (by omega), u64_in (n := n / 256) (by omega) (by omega), u64_in (n := n % 256 - 1 + 1) (by omega) (by omega)]
            have e : (2 : Int) ^ 8 = 256 := by decide
            rw [e, u64_in (by omega) (by omega), or_add 8 (by omega) (by omega) (by omega) (by omega) (by omega) (by decide)]
            simp
            omega
          rw [hB, cond_false]
          exact (decide_eq_true (by omega)).symm

end Go.Sp

namespace Go.Proofs.Ytjbmpimclagfoaa
open Go.Eng Go.Sp

theorem pick_sem (n t : Int) : FnSem Try.prog 20 [.one (.pc (.int .i64 n)), .one (.pc (.int .i64 t))] (.v (.one (.pc (.int .i64 (pick n t))))) := by
  refine sem (EnvOK.nil _) (lf := 10) (depth := 10) ?_
  have h : callD T [] F 10 10 20 [.one (.pc (.int .i64 n)), .one (.pc (.int .i64 t))] some = (bif (decide (t < 1)) then (some (.v (.one (.pc (.int .i64 0))))) else (bif (!(decide (t = 0))) then (bif (!(decide (t = 0))) then (some (.v (.one (.pc (.int .i64 (Int.tmod (IntKind.wrap .i64 ((Int.tmod n t) + t)) t)))))) else none) else none)) := by kernel_rfl
  rw [h]
  unfold pick
  by_cases ht : t < 1
  · rw [decide_eq_true ht]; rfl
  · rw [decide_eq_false ht, decide_eq_false (show ¬ t = 0 by omega)]; rfl

def pickS : List D1 → Option DRes
  | [.one (.pc (.int .i64 n)), .one (.pc (.int .i64 t))] => some (.v (.one (.pc (.int .i64 (pick n t)))))
  | _ => none

theorem pickS_ok : ∀ l d, pickS l = some d → FnSem Try.prog 20 l d := fun l d h => by
  unfold pickS at h
  split at h
  · simp only [Option.some.injEq] at h; subst h; exact pick_sem _ _
  · cases h

theorem stampTree (n t : Int) : (bif (decide (n < 0)) then (some (DRes.v (.one (.pc (.int .u64 0))))) else (bif (decide (n ≥ 6)) then (some (.v (.one (.pc (.int .u64 0))))) else (bif (decide (t < 1)) then (some (.v (.one (.pc (.int .u64 0))))) else (bif (decide (t ≥ 1073741824)) then (some (.v (.one (.pc (.int .u64 0))))) else (some (.v (.one (.pc (.int .u64 (t * 256 + (n + 1)))))))))))
    = some (.v (.one (.pc (.int .u64 (stamp n t))))) := by
  unfold stamp
  refine bif_elim (fun a1 => ?_) fun a1 => bif_elim (fun a2 => ?_) fun a2 => bif_elim (fun a3 => ?_) fun a3 => bif_elim (fun a4 => ?_) fun a4 => ?_
  · rw [if_neg (by have := of_decide_eq_true a1; omega)]
  · rw [if_neg (by have := of_decide_eq_true a2; omega)]
  · rw [if_neg (by have := of_decide_eq_true a3; omega)]
  · rw [if_neg (by have := of_decide_eq_true a4; omega)]
  · have := of_decide_eq_false a1
    have := of_decide_eq_false a2
    have := of_decide_eq_false a3
    have := of_decide_eq_false a4
    rw [if_pos ⟨by omega, by omega, by omega, by omega⟩]

theorem stamp_sem (n t : Int) : FnSem Try.prog 24 [.one (.pc (.int .i64 n)), .one (.pc (.int .i64 t))] (.v (.one (.pc (.int .u64 (stamp n t))))) := by
  refine sem (EnvOK.nil _) (lf := 10) (depth := 10) ?_
  have h : callD T [] F 10 10 24 [.one (.pc (.int .i64 n)), .one (.pc (.int .i64 t))] some = (bif (decide (n < 0)) then (some (.v (.one (.pc (.int .u64 0))))) else (bif (decide (n ≥ 6)) then (some (.v (.one (.pc (.int .u64 0))))) else (bif (decide (t < 1)) then (some (.v (.one (.pc (.int .u64 0))))) else (bif (decide (t ≥ 1073741824)) then (some (.v (.one (.pc (.int .u64 0))))) else (some (.v (.one (.pc (.int .u64 (Go.bits .or .u64 (IntKind.wrap .u64 ((IntKind.wrap .u64 t) * (2 ^ 8))) (IntKind.wrap .u64 (IntKind.wrap .i64 (n + 1))))))))))))) := by kernel_rfl
  rw [h, ← stampTree]
  refine bif_elim (fun a1 => by rw [a1]; rfl) fun a1 => ?_
  refine bif_elim (fun a2 => by rw [a1, a2]; rfl) fun a2 => ?_
  refine bif_elim (fun a3 => by rw [a1, a2, a3]; rfl) fun a3 => ?_
  refine bif_elim (fun a4 => by rw [a1, a2, a3, a4]; rfl) fun a4 => ?_
  rw [a1, a2, a3, a4]
  have := of_decide_eq_false a1
  have := of_decide_eq_false a2
  have := of_decide_eq_false a3
  have := of_decide_eq_false a4
  have e : (2 : Int) ^ 8 = 256 := by decide
  rw [e, u64_in (n := t) (by omega) (by omega), u64_in (by omega) (by omega), i64_in (by omega) (by omega), u64_in (by omega) (by omega), or_add 8 (by omega) (by omega) (by omega) (by omega) (by omega) (by decide)]
  rfl

def stampS : List D1 → Option DRes
  | [.one (.pc (.int .i64 n)), .one (.pc (.int .i64 t))] => some (.v (.one (.pc (.int .u64 (stamp n t)))))
  | _ => none

theorem stampS_ok : ∀ l d, stampS l = some d → FnSem Try.prog 24 l d := fun l d h => by
  unfold stampS at h
  split at h
  · simp only [Option.some.injEq] at h; subst h; exact stamp_sem _ _
  · cases h

theorem origin_sem (n : Int) : FnSem Try.prog 21 [.one (.pc (.int .u64 n))] (.tup [.one (.pc (.int .i64 (orgC n))), .one (.pc (.int .i64 (orgS n))), .one (.pc (.bool (orgO n)))]) := by
  refine sem (EnvOK.nil _) (lf := 10) (depth := 10) ?_
  have h : callD T [] F 10 10 21 [.one (.pc (.int .u64 n))] some = (bif (decide (orgc n < 0)) then (some (.tup [(.one (.pc (.int .i64 0))), (.one (.pc (.int .i64 0))), (.one (.pc (.bool Bool.false)))])) else (bif (decide (orgc n < 0)) then (some (.tup [(.one (.pc (.int .i64 0))), (.one (.pc (.int .i64 0))), (.one (.pc (.bool Bool.false)))])) else (bif (decide (orgc n ≥ 6)) then (some (.tup [(.one (.pc (.int .i64 0))), (.one (.pc (.int .i64 0))), (.one (.pc (.bool Bool.false)))])) else (bif (decide (orgs n < 1)) then (some (.tup [(.one (.pc (.int .i64 0))), (.one (.pc (.int .i64 0))), (.one (.pc (.bool Bool.false)))])) else (bif (decide (orgs n ≥ 1073741824)) then (some (.tup [(.one (.pc (.int .i64 0))), (.one (.pc (.int .i64 0))), (.one (.pc (.bool Bool.false)))])) else (bif orgB n then (some (.tup [(.one (.pc (.int .i64 0))), (.one (.pc (.int .i64 0))), (.one (.pc (.bool Bool.false)))])) else (some (.tup [(.one (.pc (.int .i64 (orgc n)))), (.one (.pc (.int .i64 (orgs n)))), (.one (.pc (.bool Bool.true)))]))))))))  := by kernel_rfl
  rw [h]
  have key : ∀ b : Bool, orgO n = b → some (DRes.tup [.one (.pc (.int .i64 (bif b then orgc n else 0))), .one (.pc (.int .i64 (bif b then orgs n else 0))), .one (.pc (.bool b))]) = some (.tup [.one (.pc (.int .i64 (orgC n))), .one (.pc (.int .i64 (orgS n))), .one (.pc (.bool (orgO n)))]) := fun b hb => by
    unfold orgC orgS
    rw [hb]
  refine bif_elim (fun a1 => key false (by unfold orgO; rw [a1]; rfl)) fun a1 => ?_
  refine bif_elim (fun a2 => by rw [a1] at a2; cases a2) fun _ => ?_
  refine bif_elim (fun a2 => key false (by unfold orgO; rw [a1, a2]; rfl)) fun a2 => ?_
  refine bif_elim (fun a3 => key false (by unfold orgO; rw [a1, a2, a3]; rfl)) fun a3 => ?_
  refine bif_elim (fun a4 => key false (by unfold orgO; rw [a1, a2, a3, a4]; rfl)) fun a4 => ?_
  refine bif_elim (fun a5 => key false (by unfold orgO; rw [a1, a2, a3, a4, a5]; rfl)) fun a5 => ?_
  exact key true (by unfold orgO; rw [a1, a2, a3, a4, a5]; rfl)

def originS : List D1 → Option DRes
  | [.one (.pc (.int .u64 n))] => some (.tup [.one (.pc (.int .i64 (orgC n))), .one (.pc (.int .i64 (orgS n))), .one (.pc (.bool (orgO n)))])
  | _ => none

theorem originS_ok : ∀ l d, originS l = some d → FnSem Try.prog 21 l d := fun l d h => by
  unfold originS at h
  split at h
  · simp only [Option.some.injEq] at h; subst h; exact origin_sem _
  · cases h

end Go.Proofs.Ytjbmpimclagfoaa
