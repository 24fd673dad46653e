/-
  SnapshotSees: the first loop whole.
-/
import Derived.Test.YtjbmpimclagfoaaLawXD
namespace Go.Proofs.Ytjbmpimclagfoaa
open Go.Eng Go.Sp

theorem cli9_of {cl : List (List PC)} (h : In9 cl) {i : Nat} (hi : i < cl.length) (G : Ans) : cli9 cl i G = G := by
  obtain ⟨c1, c2⟩ := cl9_in cl i
  have e4 : Nat.blt ((cl9 cl i).toNat * 1 + 0) 6 = true := by rw [Nat.blt_eq]; omega
  unfold cli9
  rw [decide_eq_true (show 0 ≤ (i : Int) ∧ (i : Int) < (cl.length : Int) by omega), Int.toNat_natCast, h.hc i hi, decide_eq_true (show 0 ≤ cl9 cl i ∧ cl9 cl i < ((6 : Nat) : Int) from ⟨c1, c2⟩), e4]
  rfl

theorem sts_succ (cl : List (List PC)) (i : Nat) : (sts cl i).map us ++ [us (stA cl i)] = (sts cl (i + 1)).map us := by
  unfold sts
  rw [List.range_succ, List.map_append, List.map_append]
  rfl

theorem sts_cell (cl : List (List PC)) (i : Nat) : rowIs [some .u64] ((sts cl (i + 1)).map us) i = true ∧ intCell ((sts cl (i + 1)).map us) i 0 = stA cl i := by
  have hl : i < (sts cl (i + 1)).length := by rw [sts_length]; omega
  refine ⟨rowIs_us hl, ?_⟩
  rw [intCell_us hl]
  simp [sts]

theorem chk9_of {cl : List (List PC)} {j : Nat} (hj : j + 1 < 24) (G : List (List PC) → Ans) :
    chk9 ((rs cl j).map Pg.row) ((sts cl (j + 1)).map us) (hP cl j) ((j + 1 : Nat) : Int) (stA cl (j + 1)) G = G ((hP cl (j + 1)).row :: (rs cl (j + 1)).map Pg.row) := by
  obtain ⟨a1, a2⟩ := free_alloc (i := j + 1) (by omega)
  obtain ⟨f1, f2, f3, f4, f5⟩ := filled cl (i := j) (j := 0) (by omega) (by omega)
  have f5' : readV (hP cl j) = prv (vN cl j) j := f5
  obtain ⟨s1, s2⟩ := sts_cell cl (j + 1)
  have hh : hd7 (hP cl j) = hP cl j := rfl
  have hi0 : (((j + 1 : Nat) : Int) == 0) = false := by simp; omega
  have hw : (IntKind.wrap .i64 (105 + ((j + 1 : Nat) : Int)) == 105) = false := by rw [i64_in (by omega) (by omega)]; simp; omega
  have hv : ver9 ((j + 1 : Nat) : Int) (stA cl (j + 1)) = vN cl (j + 1) := rfl
  have e1 : fillP (hP cl j) (prv (vN cl (j + 1)) (j + 1)) = hP cl (j + 1) := by
    rw [show hP cl (j + 1) = fillP (fr 0) (prv (vN cl (j + 1)) (j + 1)) from rfl]
    refine fill_line _ _ _ rfl rfl ?_ ?_
    · rw [show tK (hP cl j).a = 1 from f2]; exact fr_tag.1.symm
    · rw [show tG (hP cl j).a = 1 from f3]; exact fr_tag.2.symm
  have e2 : fillP (fr ((j + 1 : Nat) : Int)) (prv (vN cl j) j) = sP cl j := rfl
  have e3 : (rs cl j).map Pg.row ++ [(hP cl (j + 1)).row, (sP cl j).row] = (rs cl (j + 1)).map Pg.row := by
    rw [show rs cl (j + 1) = rs cl j ++ [hP cl (j + 1), sP cl j] from rfl, List.map_append]; rfl
  unfold chk9
  rw [sts_succ, a1, a2, Int.toNat_natCast, s2, hv, hi0, hh, s1, repl9 cl hj, hw, fillO_eq, fillO_eq, fillO_eq, f5', newV_frv _ (by omega), e1, e2, e3]
  rw [List.length_map, List.length_map, List.length_map, List.length_map, sts_length, sts_length, rs_length, rs_length, decide_eq_true (show (j + 1 + 1) * 8 ≤ 140737488355328 by omega),
    decide_eq_true (show 0 ≤ ((j + 1 : Nat) : Int) ∧ ((j + 1 : Nat) : Int) < ((j + 1 + 1 : Nat) : Int) by omega), decide_eq_true (show (0 : Int) ≤ 0 ∧ (0 : Int) < ((2 * j + 1 : Nat) : Int) by omega),
    decide_eq_true (show (2 * j + 1 + 2) * 72 ≤ 140737488355328 by omega), decide_eq_true (show (0 : Int) ≤ 0 ∧ (0 : Int) < ((2 * (j + 1) + 1 : Nat) : Int) by omega)]
  rfl

theorem run9 {cl : List (List PC)} (h : In9 cl) (fz : Int) (v : Sq) (k : Ex → St → Ans) : ∀ (m j : Nat), j + 1 + m = cl.length →
    gN TX (callD T ES F 10 10) (annX []) 10 7 (bodyX 7) (fun e s' => compact [0, 2, 4, 7, 8, 9, 10] s' (k e)) (m + 1) (H9 cl fz v ((hP cl j).row :: (rs cl j).map Pg.row) (sqs cl (j + 1)) ((sts cl (j + 1)).map us) ((j + 1 : Nat) : Int)) =
      k (.exit 0) (H9 cl fz v ((hP cl (cl.length - 1)).row :: (rs cl (cl.length - 1)).map Pg.row) (sqs cl cl.length) ((sts cl cl.length).map us) (cl.length : Int)) := by
  have hn := h.n
  intro m
  induction m with
  | zero =>
    intro j hj
    rw [gN]
    refine (step9 cl fz v _ (hP cl j) _ _ _ _ _).trans ?_
    rw [decide_eq_false (by omega), ← hj]
    rfl
  | succ m ih =>
    intro j hj
    have hlt : j + 1 < cl.length := by omega
    rw [gN]
    refine (step9 cl fz v _ (hP cl j) _ _ _ _ _).trans ?_
    have e3 : IntKind.wrap .i64 (((j + 1 : Nat) : Int) + 1) = ((j + 1 + 1 : Nat) : Int) := by rw [i64_in (by omega) (by omega)]; rfl
    have e4 : st9 (sqs cl (j + 1)) (cl9 cl ((j + 1 : Nat) : Int)) = stA cl (j + 1) := rfl
    have e5 : sinc (sqs cl (j + 1)) (cl9 cl ((j + 1 : Nat) : Int)) = sqs cl (j + 1 + 1) := rfl
    rw [decide_eq_true (show ((j + 1 : Nat) : Int) < (cl.length : Int) by omega), cli9_of h hlt, e4, chk9_of (by omega), e3, e5, sts_succ]
    exact ih (j + 1) (by omega)

end Go.Proofs.Ytjbmpimclagfoaa
