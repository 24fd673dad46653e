/-
  SnapshotSees: the versions that the first loop makes, and the loop whole.
-/
import Derived.Test.YtjbmpimclagfoaaLawXC
namespace Go.Proofs.Ytjbmpimclagfoaa
open Go.Eng Go.Sp

structure In9 (cl : List (List PC)) : Prop where
  hc : ∀ i, i < cl.length → rowIs [some .i64] cl i = true
  n : cl.length ≤ 24

def sqs (cl : List (List PC)) : Nat → Sq
  | 0 => .zero
  | i + 1 => sinc (sqs cl i) (cl9 cl i)
def stA (cl : List (List PC)) (i : Nat) : Int := st9 (sqs cl i) (cl9 cl i)
def vN (cl : List (List PC)) (i : Nat) : Ve := ver9 i (stA cl i)
def hP (cl : List (List PC)) (j : Nat) : Pg := fillP (fr 0) (prv (vN cl j) j)
def sP (cl : List (List PC)) (j : Nat) : Pg := fillP (fr ((j + 1 : Nat) : Int)) (prv (vN cl j) j)
def rs (cl : List (List PC)) : Nat → List Pg
  | 0 => []
  | j + 1 => rs cl j ++ [hP cl (j + 1), sP cl j]
def sts (cl : List (List PC)) (i : Nat) : List Int := (List.range i).map (stA cl)

theorem rs_length (cl : List (List PC)) (j : Nat) : (rs cl j).length = 2 * j := by
  induction j with
  | zero => rfl
  | succ j ih => unfold rs; rw [List.length_append, ih]; simp; omega

theorem sts_length (cl : List (List PC)) (j : Nat) : (sts cl j).length = j := by unfold sts; simp

theorem cl9_in (cl : List (List PC)) (i : Int) : 0 ≤ cl9 cl i ∧ cl9 cl i < 6 := by
  have e : cl9 cl i = intCell cl i.toNat 0 % 6 := pick_eq (by decide) (by decide)
  rw [e]; omega

theorem sqs_bound (cl : List (List PC)) (i : Nat) (hi : i ≤ 24) : ∀ j, j < 6 → 0 ≤ intAt (sqs cl i).l j ∧ intAt (sqs cl i).l j ≤ (i : Int) := by
  induction i with
  | zero =>
    intro j hj
    rcases (show j = 0 ∨ j = 1 ∨ j = 2 ∨ j = 3 ∨ j = 4 ∨ j = 5 by omega) with rfl | rfl | rfl | rfl | rfl | rfl <;> exact ⟨Int.le_refl _, Int.le_refl _⟩
  | succ i ih =>
    obtain ⟨c1, c2⟩ := cl9_in cl i
    exact (sinc_bound c1 c2 (by omega) (by omega) (ih (by omega))).1

/-- Version i's stamp. -/
theorem stA_is (cl : List (List PC)) {i : Nat} (hi : i < 24) : ∃ c s : Int, 0 ≤ c ∧ c < 6 ∧ 1 ≤ s ∧ s < 1073741824 ∧ stA cl i = stamp c s := by
  obtain ⟨c1, c2⟩ := cl9_in cl i
  obtain ⟨_, h1, h2⟩ := sinc_bound c1 c2 (by omega) (by omega) (sqs_bound cl i (by omega))
  exact ⟨_, _, c1, c2, h1, by omega, rfl⟩

theorem vN_ok (cl : List (List PC)) {i : Nat} (hi : i < 24) : (vN cl i).ok ∧ (prv (vN cl i) i).ok ∧ veOK (prv (vN cl i) i) = true := by
  obtain ⟨c, s, c1, c2, s1, s2, hs⟩ := stA_is cl hi
  obtain ⟨o1, o2⟩ := stamp_org' c1 c2 s1 s2
  have z : rI64 0 := ⟨by decide, by decide⟩
  have zu : rU32 0 := ⟨by decide, by decide⟩
  have hi64 : rI64 (i : Int) := ⟨by omega, by omega⟩
  have h9 : rU32 9 := ⟨by decide, by decide⟩
  have hst : rU64 (stA cl i) := by rw [hs]; exact o2
  have hlg : rI64 (prv (vN cl i) i).l ∧ rI64 (prv (vN cl i) i).g ∧ (nilP (prv (vN cl i) i).l (prv (vN cl i) i).g = true ∨ validP (prv (vN cl i) i).l (prv (vN cl i) i).g = true) := by
    by_cases hz : i = 0
    · subst hz
      exact ⟨z, z, .inl rfl⟩
    · simp only [prv, if_neg hz]
      exact ⟨⟨by omega, by omega⟩, ⟨by decide, by decide⟩, .inr (decide_eq_true (by omega))⟩
  obtain ⟨l1, l2, l3⟩ := hlg
  refine ⟨⟨h9, hi64, z, z, zu, hst, z, z⟩, ⟨h9, hi64, z, z, zu, hst, l1, l2⟩, ?_⟩
  have es : (prv (vN cl i) i).s = stamp c s := hs
  unfold veOK
  rw [es, o1]
  have e : veEnd (prv (vN cl i) i) = true := rfl
  rw [e]
  rcases l3 with l3 | l3
  · rw [l3]; rfl
  · rw [l3]; cases nilP (prv (vN cl i) i).l (prv (vN cl i) i).g <;> rfl

theorem newV_frv {i : Nat} (v : Ve) (h1 : 1 ≤ i) : newV (fr i) v = prv v i := by
  have hz : ¬ i = 0 := by omega
  unfold newV prv
  rw [if_neg hz, if_neg hz]
  have : genP (fr i).a = 1 := fr_tag.2
  rw [this]
  rfl

/-- What stands on a filled page. -/
theorem filled (cl : List (List PC)) {i j : Nat} (hi : i < 24) (hj : j ≤ 100) : (fillP (fr j) (prv (vN cl i) i)).ok ∧ tK (fillP (fr j) (prv (vN cl i) i)).a = 1 ∧ tG (fillP (fr j) (prv (vN cl i) i)).a = 1 ∧ readC (fillP (fr j) (prv (vN cl i) i)) = 0 ∧ readV (fillP (fr j) (prv (vN cl i) i)) = prv (vN cl i) i := by
  obtain ⟨_, p1, p2⟩ := vN_ok cl hi
  have f0 := fr_ok (i := j) (by omega) (by omega)
  obtain ⟨t1, t2⟩ := fr_tag
  have ok := fillP_ok (v := prv (vN cl i) i) f0 p1
  obtain ⟨g1, g2⟩ := fill_gen (v := prv (vN cl i) i) f0 t1
  obtain ⟨r1, r2⟩ := fill_read f0 p1 p2 t1
  refine ⟨ok, g1, by rw [g2]; exact t2, ?_, ?_⟩
  · rw [readC_of ok, r1]; rfl
  · rw [readV_of ok, r1, r2]; rfl

theorem repl9 (cl : List (List PC)) {j : Nat} (hj : j + 1 < 24) : replOK (hP cl j) (fr ((j + 1 : Nat) : Int)) (vN cl (j + 1)) = true := by
  obtain ⟨f1, f2, f3, f4, f5⟩ := filled cl (i := j) (j := 0) (by omega) (by omega)
  obtain ⟨t1, t2⟩ := fr_tag
  obtain ⟨_, p1, p2⟩ := vN_ok cl hj
  have hlock : lockP 256 = false := by rw [(lock_of (h := 256) (by decide) (by decide)).1]; rfl
  have e1 : (hP cl j).h = 256 := rfl
  have e2 : (fr ((j + 1 : Nat) : Int)).h = 256 := rfl
  have e3 : tK (fr ((j + 1 : Nat) : Int)).a = 1 := t1
  have e4 : genP (fr ((j + 1 : Nat) : Int)).a = 1 := t2
  have e5 : (fr ((j + 1 : Nat) : Int)).l = 105 + ((j + 1 : Nat) : Int) := rfl
  have e6 : (hP cl j).l = 105 := rfl
  have f4' : readC (hP cl j) = 0 := f4
  have e7 : (readV (hP cl j)).k = 9 := by rw [show readV (hP cl j) = prv (vN cl j) j from f5]; rfl
  have e8 : (vN cl (j + 1)).k = 9 := rfl
  have hv : validP (105 + ((j + 1 : Nat) : Int)) 1 = true := decide_eq_true (by omega)
  have hne : ((105 : Int) + ((j + 1 : Nat) : Int) == 105) = false := by simp; omega
  unfold replOK replC replT
  rw [e1, e2, hlock, f4', e3, e4, e5, e6, hv, hne, e7, e8, newV_frv (vN cl (j + 1)) (i := j + 1) (by omega), p2, decide_eq_true (show (105 : Int) < 105 + ((j + 1 : Nat) : Int) by omega)]
  simp only [bne_self_eq_false, beq_self_eq_true, Bool.not_true, cond_false]
  cases decide ((fillP (fr ((j + 1 : Nat) : Int)) (readV (hP cl j))).l < (fillP (hP cl j) (prv (vN cl (j + 1)) (j + 1))).l) <;> rfl

end Go.Proofs.Ytjbmpimclagfoaa
