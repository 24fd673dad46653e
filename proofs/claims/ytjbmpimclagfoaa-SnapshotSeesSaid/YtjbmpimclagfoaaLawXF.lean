/-
  SnapshotSees: what is found in the chain, in plain numbers.
-/
import Derived.Test.YtjbmpimclagfoaaLawXE
import Derived.Test.YtjbmpimclagfoaaLawC
namespace Go.Sp
open Go.Eng

theorem wantF_snoc (v : Sq) (x : Int) : ∀ (xs : List Int) (i w : Int), wantF v (xs ++ [x]) i w = bif visQ v x then i + xs.length else wantF v xs i w := by
  intro xs
  induction xs with
  | nil =>
    intro i w
    show (bif visQ v x then i else w) = bif visQ v x then i + 0 else w
    rw [Int.add_zero]
  | cons y ys ih =>
    intro i w
    show wantF v (ys ++ [x]) (i + 1) _ = _
    rw [ih]
    have e : i + 1 + (ys.length : Int) = i + ((y :: ys).length : Int) := by rw [List.length_cons]; omega
    rw [e]
    rfl

theorem goneF_app (kk hl : Int) : ∀ (l m : List Pg) (g : Pg), goneF kk hl (l ++ m) g = goneF kk hl m (goneF kk hl l g) := by
  intro l
  induction l with
  | nil => intro m g; rfl
  | cons p l ih => intro m g; exact ih m _

end Go.Sp
namespace Go.Proofs.Ytjbmpimclagfoaa
open Go.Eng Go.Sp

section
variable (cl : List (List PC))

theorem hP_l (j : Nat) : (hP cl j).l = 105 := rfl
theorem sP_l (j : Nat) : (sP cl j).l = 105 + ((j + 1 : Nat) : Int) := rfl

theorem snoc2 (j : Nat) (line : Int) : latest (rs cl (j + 1)) line = bif (105 + ((j + 1 : Nat) : Int)) == line then some (sP cl j) else bif (105 : Int) == line then some (hP cl (j + 1)) else latest (rs cl j) line := by
  have e : rs cl (j + 1) = (rs cl j ++ [hP cl (j + 1)]) ++ [sP cl j] := by
    rw [show rs cl (j + 1) = rs cl j ++ [hP cl (j + 1), sP cl j] from rfl]; simp
  rw [e, latest_snoc, latest_snoc]
  rfl

theorem latest_head (j : Nat) : latest (hP cl j :: rs cl j) 105 = some (hP cl j) := by
  cases j with
  | zero => rfl
  | succ j =>
    have e : ((105 : Int) + ((j + 1 : Nat) : Int) == 105) = false := by simp; omega
    have : latest (rs cl (j + 1)) 105 = some (hP cl (j + 1)) := by rw [snoc2, e]; rfl
    simp only [latest, this]

theorem latest_old : ∀ (j i : Nat), i < j → latest (hP cl j :: rs cl j) (105 + ((i + 1 : Nat) : Int)) = some (sP cl i) := by
  have key : ∀ (j i : Nat), i < j → latest (rs cl j) (105 + ((i + 1 : Nat) : Int)) = some (sP cl i) := by
    intro j
    induction j with
    | zero => intro i hi; omega
    | succ j ih =>
      intro i hi
      rw [snoc2]
      by_cases h : i = j
      · subst h
        rw [beq_self_eq_true]; rfl
      · have e1 : ((105 : Int) + ((j + 1 : Nat) : Int) == 105 + ((i + 1 : Nat) : Int)) = false := by simp; omega
        have e2 : ((105 : Int) == 105 + ((i + 1 : Nat) : Int)) = false := by simp; omega
        rw [e1, e2, cond_false, cond_false]
        exact ih i (by omega)
  intro j i hi
  have := key j i hi
  simp only [latest, this]

/-- Which version is found, where those before 'b' are out of reach. -/
def lastB (vis : Int → Bool) (b : Nat) : Nat → Option Ve
  | 0 => if 0 < b then none else bif vis (stA cl 0) then some (prv (vN cl 0) 0) else none
  | i + 1 => if i + 1 < b then none else bif vis (stA cl (i + 1)) then some (prv (vN cl (i + 1)) (i + 1)) else lastB vis b i

theorem res_step {vis : Int → Bool} {qs : List Pg} {hl hg line key : Int} {q : Pg} {i m : Nat} (_hi : i < 24) (hq : latest qs line = some q) (hv : validP line 1 = true) (h1 : lockP q.h = false) (h2 : tK q.a = 1) (h3 : tG q.a = 1)
    (hr : readC q = 0) (hV : readV q = prv (vN cl i) i) (hk : key = 0 ∨ key = 9) :
    resF vis qs hl hg (m + 1) line 1 key = bif vis (stA cl i) then some (some (prv (vN cl i) i)) else bif nilP (prv (vN cl i) i).l (prv (vN cl i) i).g then some none else resF vis qs hl hg m (prv (vN cl i) i).l (prv (vN cl i) i).g 9 := by
  obtain ⟨o1, o2⟩ := open_of hq hv h1 h2 h3
  unfold openOK at o1
  obtain ⟨o3, o4⟩ := cond_and o1
  have o4 : lookC true qs line 1 1 = 0 := by simpa using o4
  have ek : (prv (vN cl i) i).k = 9 := rfl
  have es : (prv (vN cl i) i).s = stA cl i := rfl
  rw [resF, o4, o3, o2, hr, hV, ek, es]
  rcases hk with rfl | rfl <;> rfl

theorem res_free {vis : Int → Bool} {qs : List Pg} {line : Int} {q : Pg} {m : Nat} (hq : latest qs line = some q) (hv : validP line 1 = true) (h1 : lockP q.h = false) (h2 : tK q.a = 0) (hl : (line == 105) = false) :
    resF vis qs 105 1 (m + 1) line 1 9 = some none := by
  have hb : latB qs line = true := by unfold latB; rw [hq]
  have hp : latP qs line = q := by unfold latP; rw [hq]
  have e : lookC true qs line 1 1 = 11 := by
    unfold lookC lookT
    rw [hv, hb, hp, h1, h2]
    rfl
  rw [resF, e, hl]
  rfl

structure Chain (vis : Int → Bool) (qs : List Pg) (b j : Nat) : Prop where
  hj : j < 24
  hb : b ≤ j
  top : latest qs 105 = some (hP cl j)
  old : ∀ i, b ≤ i → i < j → latest qs (105 + ((i + 1 : Nat) : Int)) = some (sP cl i)
  free : 0 < b → ∃ q, latest qs (105 + (b : Int)) = some q ∧ lockP q.h = false ∧ tK q.a = 0

variable {cl}

/-- What comes behind version i. -/
theorem chain_next {vis : Int → Bool} {qs : List Pg} {b j : Nat} (h : Chain cl vis qs b j) (ih : ∀ i m, b ≤ i → i < j → i + 2 ≤ m → resF vis qs 105 1 m (105 + ((i + 1 : Nat) : Int)) 1 9 = some (lastB cl vis b i))
    {i m : Nat} (hbi : b ≤ i) (hm : i + 1 ≤ m) (hij : i ≤ j) :
    (bif vis (stA cl i) then some (some (prv (vN cl i) i)) else bif nilP (prv (vN cl i) i).l (prv (vN cl i) i).g then some none else resF vis qs 105 1 m (prv (vN cl i) i).l (prv (vN cl i) i).g 9) = some (lastB cl vis b i) := by
  have hj := h.hj
  cases i with
  | zero =>
    have h0 : ¬ 0 < b := by omega
    unfold lastB
    rw [if_neg h0]
    cases vis (stA cl 0) <;> rfl
  | succ i =>
    have h0 : ¬ i + 1 < b := by omega
    have hz : ¬ i + 1 = 0 := by omega
    have el : (prv (vN cl (i + 1)) (i + 1)).l = 105 + ((i + 1 : Nat) : Int) := by unfold prv; rw [if_neg hz]
    have eg : (prv (vN cl (i + 1)) (i + 1)).g = 1 := by unfold prv; rw [if_neg hz, if_neg hz]
    have en : nilP (105 + ((i + 1 : Nat) : Int)) 1 = false := by
      unfold nilP
      rw [show ((105 : Int) + ((i + 1 : Nat) : Int) == 0) = false by simp; omega]; rfl
    unfold lastB
    rw [if_neg h0, el, eg, en]
    cases hv : vis (stA cl (i + 1)) with
    | true => rfl
    | false =>
      rw [cond_false, cond_false, cond_false]
      by_cases hb : b = i + 1
      · subst hb
        obtain ⟨q, f1, f2, f3⟩ := h.free (by omega)
        obtain ⟨m, rfl⟩ : ∃ m', m = m' + 1 := ⟨m - 1, by omega⟩
        rw [res_free f1 (decide_eq_true (by omega)) f2 f3 (by simp; omega)]
        cases i with
        | zero => rfl
        | succ i => unfold lastB; rw [if_pos (by omega)]
      · exact ih i m (by omega) (by omega) (by omega)

theorem chain_old {vis : Int → Bool} {qs : List Pg} {b j : Nat} (h : Chain cl vis qs b j) : ∀ i m, b ≤ i → i < j → i + 2 ≤ m → resF vis qs 105 1 m (105 + ((i + 1 : Nat) : Int)) 1 9 = some (lastB cl vis b i) := by
  have hj := h.hj
  intro i
  induction i using Nat.strongRecOn with
  | _ i ih =>
    intro m hb hi hm
    obtain ⟨m, rfl⟩ : ∃ m', m = m' + 1 := ⟨m - 1, by omega⟩
    obtain ⟨_, f2, f3, f4, f5⟩ := filled cl (i := i) (j := i + 1) (by omega) (by omega)
    rw [res_step cl (i := i) (by omega) (h.old i hb hi) (decide_eq_true (by omega)) lock256 f2 f3 f4 f5 (.inr rfl)]
    have hz : ∀ i', i' < i → ∀ m, b ≤ i' → i' < j → i' + 2 ≤ m → resF vis qs 105 1 m (105 + ((i' + 1 : Nat) : Int)) 1 9 = some (lastB cl vis b i') := fun i' h' m a b c => ih i' h' m a b c
    have h' : Chain cl vis qs b j := h
    cases i with
    | zero =>
      have h0 : ¬ 0 < b := by omega
      unfold lastB
      rw [if_neg h0]
      cases vis (stA cl 0) <;> rfl
    | succ i =>
      have h0 : ¬ i + 1 < b := by omega
      have hz' : ¬ i + 1 = 0 := by omega
      have el : (prv (vN cl (i + 1)) (i + 1)).l = 105 + ((i + 1 : Nat) : Int) := by unfold prv; rw [if_neg hz']
      have eg : (prv (vN cl (i + 1)) (i + 1)).g = 1 := by unfold prv; rw [if_neg hz', if_neg hz']
      have en : nilP (105 + ((i + 1 : Nat) : Int)) 1 = false := by
        unfold nilP
        rw [show ((105 : Int) + ((i + 1 : Nat) : Int) == 0) = false by simp; omega]; rfl
      rw [el, eg, en, lastB, if_neg h0]
      cases hv : vis (stA cl (i + 1)) with
      | true => rfl
      | false =>
        rw [cond_false, cond_false, cond_false]
        by_cases hb' : b = i + 1
        · obtain ⟨q, f1, f2, f3⟩ := h.free (by omega)
          rw [hb'] at f1
          obtain ⟨m, rfl⟩ : ∃ m', m = m' + 1 := ⟨m - 1, by omega⟩
          rw [res_free f1 (decide_eq_true (by omega)) f2 f3 (by simp; omega)]
          cases i with
          | zero => rw [lastB, if_pos (by omega)]
          | succ i => rw [lastB, if_pos (by omega)]
        · exact hz i (by omega) m (by omega) (by omega) (by omega)

theorem chain_all {vis : Int → Bool} {qs : List Pg} {b j : Nat} (h : Chain cl vis qs b j) : resF vis qs 105 1 256 105 1 0 = some (lastB cl vis b j) := by
  have hj := h.hj
  obtain ⟨_, f2, f3, f4, f5⟩ := filled cl (i := j) (j := 0) (by omega) (by omega)
  rw [res_step cl (i := j) (m := 255) (by omega) h.top (decide_eq_true (by omega)) lock256 f2 f3 f4 f5 (.inl rfl)]
  exact chain_next h (chain_old h) h.hb (by omega) (Nat.le_refl _)

end

end Go.Proofs.Ytjbmpimclagfoaa
