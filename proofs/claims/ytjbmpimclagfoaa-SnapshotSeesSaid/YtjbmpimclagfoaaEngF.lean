/-
  What the evaluator's pass over a region that draws its order finds: one entry for each operation, apart from any order.
-/
import Derived.Test.YtjbmpimclagfoaaEngE
namespace Go.Eng
open Go.RowKit

/-- The entries whose operation is among these. -/
def filt (p : Nat → Bool) : List Ent → List Ent
  | [] => []
  | e :: r => cond (p e.i) (e :: filt p r) (filt p r)

theorem below_eq (m : Nat) (R : List Ent) : below m R = filt (bit m) R := by
  induction R with
  | nil => rfl
  | cons e R ih => simp only [below, filt, ih]

theorem mem_filt {p : Nat → Bool} {R : List Ent} {e : Ent} : e ∈ filt p R ↔ e ∈ R ∧ p e.i = true := by
  induction R with
  | nil => simp [filt]
  | cons x R ih =>
    simp only [filt]
    cases hp : p x.i with
    | true =>
      simp only [cond_true, List.mem_cons, ih]
      constructor
      · rintro (rfl | ⟨h1, h2⟩)
        · exact ⟨.inl rfl, hp⟩
        · exact ⟨.inr h1, h2⟩
      · rintro ⟨rfl | h1, h2⟩
        · exact .inl rfl
        · exact .inr ⟨h1, h2⟩
    | false =>
      simp only [cond_false, List.mem_cons, ih]
      constructor
      · rintro ⟨h1, h2⟩; exact ⟨.inr h1, h2⟩
      · rintro ⟨rfl | h1, h2⟩
        · rw [hp] at h2; cases h2
        · exact ⟨h1, h2⟩

theorem filt_append (p : Nat → Bool) (a b : List Ent) : filt p (a ++ b) = filt p a ++ filt p b := by
  induction a with
  | nil => rfl
  | cons x a ih => simp only [List.cons_append, filt, ih]; cases p x.i <;> rfl

theorem filt_nil {p : Nat → Bool} {R : List Ent} (h : ∀ e ∈ R, p e.i = false) : filt p R = [] := by
  induction R with
  | nil => rfl
  | cons x R ih => simp only [filt, h x (by simp), cond_false]; exact ih fun e he => h e (by simp [he])

theorem filt_all {p : Nat → Bool} {R : List Ent} (h : ∀ e ∈ R, p e.i = true) : filt p R = R := by
  induction R with
  | nil => rfl
  | cons x R ih => simp only [filt, h x (by simp), cond_true]; rw [ih fun e he => h e (by simp [he])]

/-- The entries of the first n operations, the last one first. -/
def Desc : List Ent → Nat → Prop
  | [], n => n = 0
  | e :: r, n => n = e.i + 1 ∧ Desc r e.i

theorem Desc.lt {R : List Ent} {n : Nat} (h : Desc R n) {e : Ent} (he : e ∈ R) : e.i < n := by
  induction R generalizing n with
  | nil => cases he
  | cons x R ih =>
    obtain ⟨h1, h2⟩ := h
    rcases List.mem_cons.1 he with rfl | he
    · omega
    · have := ih h2 he; omega

theorem Desc.uniq {R : List Ent} {n : Nat} (h : Desc R n) {e e' : Ent} (he : e ∈ R) (he' : e' ∈ R) (hi : e.i = e'.i) : e = e' := by
  induction R generalizing n with
  | nil => cases he
  | cons x R ih =>
    obtain ⟨h1, h2⟩ := h
    rcases List.mem_cons.1 he with he1 | he1 <;> rcases List.mem_cons.1 he' with he2 | he2
    · rw [he1, he2]
    · have := h2.lt he2; rw [he1] at hi; omega
    · have := h2.lt he1; rw [he2] at hi; omega
    · exact ih h2 he1 he2

theorem Desc.mem {R : List Ent} {n : Nat} (h : Desc R n) {j : Nat} (hj : j < n) : ∃ e ∈ R, e.i = j := by
  induction R generalizing n with
  | nil => simp only [Desc] at h; omega
  | cons x R ih =>
    obtain ⟨h1, h2⟩ := h
    by_cases hx : x.i = j
    · exact ⟨x, by simp, hx⟩
    · obtain ⟨e, he, hi⟩ := ih h2 (by omega)
      exact ⟨e, by simp [he], hi⟩

theorem Desc.get {R : List Ent} {n : Nat} (h : Desc R n) {e : Ent} (he : e ∈ R) : entGet R e.i = some e.v := by
  induction R generalizing n with
  | nil => cases he
  | cons x R ih =>
    obtain ⟨h1, h2⟩ := h
    simp only [entGet]
    cases hb : Nat.beq x.i e.i with
    | true =>
      have := beq_iff.1 hb
      rcases List.mem_cons.1 he with rfl | he
      · rfl
      · have := h2.lt he; omega
    | false =>
      rcases List.mem_cons.1 he with rfl | he
      · exact absurd rfl (beq_false.1 hb)
      · exact ih h2 he

theorem entGet_some {R : List Ent} {j : Nat} {v : SV} (h : entGet R j = some v) : ∃ e ∈ R, e.i = j ∧ e.v = v := by
  induction R with
  | nil => simp [entGet] at h
  | cons x R ih =>
    simp only [entGet] at h
    cases hb : Nat.beq x.i j with
    | true =>
      rw [hb] at h
      simp only [cond_true, Option.some.injEq] at h
      exact ⟨x, by simp, beq_iff.1 hb, h⟩
    | false =>
      rw [hb] at h
      obtain ⟨e, he, h1⟩ := ih h
      exact ⟨e, by simp [he], h1⟩

theorem entGet_append {a b : List Ent} {j : Nat} (h : ∀ e ∈ a, e.i ≠ j) : entGet (a ++ b) j = entGet b j := by
  induction a with
  | nil => rfl
  | cons x a ih =>
    simp only [List.cons_append, entGet, beq_false.2 (h x (by simp)), cond_false]
    exact ih fun e he => h e (by simp [he])

theorem setE_same {R : List Ent} {j : Nat} {b : Bool} (h : entGet R j = some (.v (.one (.bool b)))) : setE j b R = R := by
  induction R with
  | nil => rfl
  | cons x R ih =>
    simp only [entGet] at h
    simp only [setE]
    cases hb : Nat.beq x.i j with
    | true =>
      rw [hb] at h
      simp only [cond_true, Option.some.injEq] at h
      cases x
      simp_all
    | false =>
      rw [hb] at h
      rw [cond_false, ih h]

/-! ### Slots and stores of entries -/

theorem getT_miss {L : List Ent} {bt : List (Nat × Option SV)} {t : Nat} (h : ∀ e ∈ L, e.d ≠ some t) : getT (entT L ++ bt) t = getT bt t := by
  induction L with
  | nil => rfl
  | cons x L ih =>
    have h1 := h x (by simp)
    have h2 := ih fun e he => h e (by simp [he])
    simp only [entT]
    cases hd : x.d with
    | none => exact h2
    | some d =>
      have hne : d ≠ t := fun e => h1 (by rw [hd, e])
      simp only [consT, List.cons_append, getT, beq_false.2 hne, cond_false]
      exact h2

theorem getT_hit {L : List Ent} {bt : List (Nat × Option SV)} {t : Nat} {e : Ent} (he : e ∈ L) (hd : e.d = some t) (hu : ∀ e' ∈ L, e'.d = some t → e' = e) : getT (entT L ++ bt) t = some e.v := by
  induction L with
  | nil => cases he
  | cons x L ih =>
    simp only [entT]
    cases hx : x.d with
    | none =>
      have hne : e ≠ x := fun h => by rw [← h, hd] at hx; cases hx
      exact ih ((List.mem_cons.1 he).resolve_left hne) fun e' he' => hu e' (by simp [he'])
    | some d =>
      simp only [consT, List.cons_append, getT]
      cases hb : Nat.beq d t with
      | true =>
        have := hu x (by simp) (by rw [hx, beq_iff.1 hb])
        rw [this]; rfl
      | false =>
        have hne : e ≠ x := fun h => by
          rw [← h, hd] at hx
          simp only [Option.some.injEq] at hx
          exact beq_false.1 hb hx.symm
        exact ih ((List.mem_cons.1 he).resolve_left hne) fun e' he' => hu e' (by simp [he'])

theorem find_filt {R : List Ent} {p q : Nat → Bool} {st : List Up} {x : Nm} (hqp : ∀ i, q i = true → p i = true) (h : ∀ e ∈ R, p e.i = true → q e.i = false → find e.ups x = none) :
    find (entS (filt p R) ++ st) x = find (entS (filt q R) ++ st) x := by
  induction R with
  | nil => rfl
  | cons e R ih =>
    have h2 := ih fun e' he' => h e' (by simp [he'])
    simp only [filt]
    cases hq : q e.i with
    | true =>
      rw [hqp _ hq]
      simp only [cond_true, entS, List.append_assoc, find_append e.ups, h2]
    | false =>
      cases hp : p e.i with
      | true =>
        simp only [cond_true, cond_false, entS, List.append_assoc, find_append e.ups, h e (by simp) hp hq, h2]
      | false => exact h2

def addP (p : Nat → Bool) (i : Nat) : Nat → Bool := fun j => cond (Nat.beq j i) true (p j)

theorem addP_ne {p : Nat → Bool} {i j : Nat} (h : j ≠ i) : addP p i j = p j := by simp [addP, beq_false.2 h]
theorem addP_eq (p : Nat → Bool) (i : Nat) : addP p i i = true := by simp [addP]

theorem filt_addP {R : List Ent} {p : Nat → Bool} {i : Nat} (h : ∀ e ∈ R, e.i ≠ i) : filt (addP p i) R = filt p R := by
  induction R with
  | nil => rfl
  | cons x R ih => simp only [filt, addP_ne (h x (by simp)), ih fun e he => h e (by simp [he])]

theorem find_add {R : List Ent} {n : Nat} (hd : Desc R n) {p : Nat → Bool} {st : List Up} {x : Nm} {e : Ent} (he : e ∈ R) (hp : p e.i = false)
    (h : find e.ups x ≠ none → ∀ e' ∈ R, p e'.i = true → e.i < e'.i → find e'.ups x = none) :
    find (entS (filt (addP p e.i) R) ++ st) x = match find e.ups x with
      | some r => some r
      | none => find (entS (filt p R) ++ st) x := by
  induction R generalizing n with
  | nil => cases he
  | cons y R ih =>
    obtain ⟨h1, h2⟩ := hd
    by_cases hy : y.i = e.i
    · have : y = e := (show Desc (y :: R) n from ⟨h1, h2⟩).uniq (by simp) he hy
      subst this
      simp only [filt, addP_eq, hp, cond_true, cond_false, entS, List.append_assoc, find_append y.ups]
      rw [filt_addP fun e' he' => by have := h2.lt he'; omega]
      rfl
    · have heR : e ∈ R := (List.mem_cons.1 he).resolve_left fun e' => hy (by rw [e'])
      have hlt := h2.lt heR
      have ih' := ih h2 heR fun hne e' he' => h hne e' (by simp [he'])
      simp only [filt, addP_ne hy]
      cases hpy : p y.i with
      | false => exact ih'
      | true =>
        simp only [cond_true, entS, List.append_assoc, find_append y.ups, ih']
        cases hf : find e.ups x with
        | none => rfl
        | some r => rw [h (by rw [hf]; simp) y (by simp) hpy hlt]

/-! ### The region's text -/

theorem idxOf_some {d : Nat} : ∀ {l : List Oper} {j k : Nat}, idxOf d j l = some k → j ≤ k ∧ ∃ o, l[k - j]? = some o ∧ o.dst = some d := by
  intro l
  induction l with
  | nil => intro j k h; simp [idxOf] at h
  | cons o l ih =>
    intro j k h
    simp only [idxOf] at h
    have hrec : idxOf d (j + 1) l = some k → j ≤ k ∧ ∃ o', (o :: l)[k - j]? = some o' ∧ o'.dst = some d := fun h => by
      obtain ⟨h1, o', h2, h3⟩ := ih h
      refine ⟨by omega, o', ?_, h3⟩
      rw [show k - j = (k - (j + 1)) + 1 by omega]
      simpa using h2
    cases hd : o.dst with
    | none => rw [hd] at h; exact hrec h
    | some e =>
      rw [hd] at h
      simp only at h
      cases hb : Nat.beq e d with
      | true =>
        rw [hb] at h
        simp only [cond_true, Option.some.injEq] at h
        subst h
        exact ⟨Nat.le_refl _, o, by simp, by rw [hd, beq_iff.1 hb]⟩
      | false => rw [hb] at h; exact hrec h

theorem idxOf_none {d : Nat} : ∀ {l : List Oper} {j : Nat}, idxOf d j l = none → ∀ o ∈ l, o.dst ≠ some d := by
  intro l
  induction l with
  | nil => intro j _ o ho; cases ho
  | cons o l ih =>
    intro j h o' ho'
    simp only [idxOf] at h
    cases hd : o.dst with
    | none =>
      rw [hd] at h
      rcases List.mem_cons.1 ho' with rfl | ho'
      · rw [hd]; simp
      · exact ih h o' ho'
    | some e =>
      rw [hd] at h
      simp only at h
      cases hb : Nat.beq e d with
      | true => rw [hb] at h; simp at h
      | false =>
        rw [hb] at h
        rcases List.mem_cons.1 ho' with rfl | ho'
        · rw [hd]; exact fun h => beq_false.1 hb (by injection h)
        · exact ih h o' ho'

theorem memT_mem {d : Nat} {k : Option Nat} {l : List Oper} {o : Oper} (ho : o ∈ l) (hd : o.dst = some d) : memT d l k = true := by
  induction l with
  | nil => cases ho
  | cons x l ih =>
    simp only [memT]
    rcases List.mem_cons.1 ho with rfl | ho
    · simp [hd]
    · rw [ih ho]
      cases x.dst with
      | none => rfl
      | some e => simp only; cases Nat.beq e d <;> rfl

theorem nodupD_uniq : ∀ {l : List Oper}, nodupD l = true → ∀ {j k : Nat} {oj ok : Oper} {d : Nat}, l[j]? = some oj → l[k]? = some ok → oj.dst = some d → ok.dst = some d → j = k := by
  intro l
  induction l with
  | nil => intro _ j k oj ok d hj; simp at hj
  | cons o l ih =>
    intro h j k oj ok d hj hk hdj hdk
    simp only [nodupD] at h
    have h2 : nodupD l = true := by
      cases hc : o.dst with
      | none => rw [hc] at h; exact h
      | some e =>
        rw [hc] at h
        simp only at h
        cases hm : memT e l none with
        | true => rw [hm] at h; simp at h
        | false => rw [hm] at h; exact h
    have hno : ∀ {i : Nat} {oi : Oper}, o.dst = some d → l[i]? = some oi → oi.dst = some d → False := fun ho hi hdi => by
      rw [ho] at h
      simp only [memT_mem (List.mem_of_getElem? hi) hdi, cond_true] at h
      cases h
    cases j with
    | zero =>
      simp only [List.getElem?_cons_zero, Option.some.injEq] at hj
      subst hj
      cases k with
      | zero => rfl
      | succ k => exact (hno hdj (by simpa using hk) hdk).elim
    | succ j => cases k with
      | zero =>
        simp only [List.getElem?_cons_zero, Option.some.injEq] at hk
        subst hk
        exact (hno hdk (by simpa using hj) hdj).elim
      | succ k =>
        have := ih h2 (by simpa using hj) (by simpa using hk) hdj hdk
        omega

theorem allBelow_bit {ms : List Nat} : ∀ {l : List Nat} {j : Nat}, allBelow ms j l = true → ∀ i m, l[i]? = some m → ∀ k, bit m k = true → k < j + i := by
  intro l
  induction l with
  | nil => intro j _ i m h; simp at h
  | cons x l ih =>
    intro j h i m hi k hk
    simp only [allBelow] at h
    obtain ⟨h1, h2⟩ := cond_and h
    cases i with
    | zero =>
      simp only [List.getElem?_cons_zero, Option.some.injEq] at hi
      subst hi
      have h3 : x < 1 <<< j := blt_iff.1 h1
      rw [Nat.one_shiftLeft] at h3
      have h4 : 2 ^ k ≤ x := Nat.ge_two_pow_of_testBit hk
      have h5 : 2 ^ k < 2 ^ j := by omega
      have := (Nat.pow_lt_pow_iff_right (by decide : 1 < 2)).1 h5
      omega
    | succ i =>
      have := ih h2 i m (by simpa using hi) k hk
      omega

theorem bit_lt {ms : List Nat} (h : allBelow ms 0 ms = true) {i k : Nat} (hk : bit (nthD ms i) k = true) : k < i := by
  unfold nthD at hk
  split at hk
  · rename_i m hm
    rw [nth_eq] at hm
    have := allBelow_bit h i m hm k hk
    omega
  · simp [bit] at hk

theorem bit_lor (a b k : Nat) : bit (Nat.lor a b) k = (bit a k || bit b k) := by
  show Nat.testBit (a ||| b) k = _
  rw [Nat.testBit_or]; rfl

theorem bit_shift (i k : Nat) : bit (Nat.shiftLeft 1 i) k = true ↔ k = i := by
  show Nat.testBit (1 <<< i) k = true ↔ _
  rw [Nat.one_shiftLeft, Nat.testBit_two_pow]
  simp [eq_comm]

theorem edgesM_bit {ms : List Nat} {k : Nat} : ∀ {l : List Edge}, bit (edgesM ms l) k = true ↔ ∃ e ∈ l, Region.binds .any e = true ∧ (k = e.on ∨ bit (nthD ms e.on) k = true) := by
  intro l
  induction l with
  | nil => simp [edgesM, bit]
  | cons e l ih =>
    simp only [edgesM]
    cases hb : Region.binds .any e with
    | true =>
      simp only [cond_true, bit_lor, Bool.or_eq_true, bit_shift, ih, List.mem_cons]
      constructor
      · rintro (h | ⟨e', h1, h2⟩)
        · exact ⟨e, .inl rfl, hb, h⟩
        · exact ⟨e', .inr h1, h2⟩
      · rintro ⟨e', rfl | h1, h2, h3⟩
        · exact .inl h3
        · exact .inr ⟨e', h1, h2, h3⟩
    | false =>
      simp only [cond_false, ih, List.mem_cons]
      constructor
      · rintro ⟨e', h1, h2⟩; exact ⟨e', .inr h1, h2⟩
      · rintro ⟨e', rfl | h1, h2, h3⟩
        · rw [hb] at h2; cases h2
        · exact ⟨e', h1, h2, h3⟩

theorem edgesOK_get {ms : List Nat} : ∀ {l : List Oper} {j : Nat}, edgesOK ms j l = true → ∀ {i : Nat} {o : Oper}, l[i]? = some o → nthD ms (j + i) = edgesM ms o.after.toList := by
  intro l
  induction l with
  | nil => intro j _ i o h; simp at h
  | cons x l ih =>
    intro j h i o hi
    simp only [edgesOK] at h
    obtain ⟨h1, h2⟩ := cond_and h
    cases i with
    | zero =>
      simp only [List.getElem?_cons_zero, Option.some.injEq] at hi
      subst hi
      exact beq_iff.1 h1
    | succ i =>
      have := ih h2 (i := i) (by simpa using hi)
      rw [show j + (i + 1) = j + 1 + i by omega]
      exact this

theorem guardsOK_get {ms : List Nat} : ∀ {l : List Oper} {j : Nat}, guardsOK ms j l = true → ∀ {i : Nat} {o : Oper} {g : Nat} {want : Bool}, l[i]? = some o → o.guard = some (g, want) → bit (nthD ms (j + i)) g = true := by
  intro l
  induction l with
  | nil => intro j _ i o g want h; simp at h
  | cons x l ih =>
    intro j h i o g want hi hg
    simp only [guardsOK] at h
    obtain ⟨h1, h2⟩ := cond_and h
    cases i with
    | zero =>
      simp only [List.getElem?_cons_zero, Option.some.injEq] at hi
      subst hi
      rw [hg] at h1
      exact h1
    | succ i =>
      have := ih h2 (i := i) (by simpa using hi) hg
      rw [show j + (i + 1) = j + 1 + i by omega]
      exact this

theorem baseOK_get {full : List Oper} : ∀ {l : List Up}, baseOK full l = true → ∀ {x : Nm} {b : Option Blk}, (x, b) ∈ l → ∀ o ∈ full, o.dst ≠ some x.1 := by
  intro l
  induction l with
  | nil => intro _ x b h; cases h
  | cons p l ih =>
    intro h x b hm o ho hd
    obtain ⟨y, c⟩ := p
    simp only [baseOK] at h
    rcases List.mem_cons.1 hm with e | hm
    · simp only [Prod.mk.injEq] at e
      rw [← e.1, memT_mem ho hd] at h
      simp at h
    · cases hc : memT y.1 full none with
      | true => rw [hc] at h; simp at h
      | false => rw [hc] at h; exact ih h hm o ho hd

theorem dstsOK_get {n : Nat} : ∀ {l : List Oper}, dstsOK n l = true → ∀ o ∈ l, dstOK o.dst n = true := by
  intro l
  induction l with
  | nil => intro _ o h; cases h
  | cons x l ih =>
    intro h o ho
    simp only [dstsOK] at h
    obtain ⟨h1, h2⟩ := cond_and h
    rcases List.mem_cons.1 ho with rfl | ho
    · exact h1
    · exact ih h2 o ho

theorem tight_get {ms : List Nat} {i : Nat} : ∀ {l : List Oper} {j : Nat}, tight ms i j l = true → ∀ k, k < l.length → loose ms i (j + k) = false := by
  intro l
  induction l with
  | nil => intro j _ k h; simp at h
  | cons x l ih =>
    intro j h k hk
    simp only [tight] at h
    cases hl : loose ms i j with
    | true => rw [hl] at h; simp at h
    | false =>
      rw [hl] at h
      cases k with
      | zero => exact hl
      | succ k =>
        have := ih h k (by simpa using hk)
        rw [show j + (k + 1) = j + 1 + k by omega]
        exact this

theorem memN_mem {x : Nm} {l : List Nm} (h : memN x l = true) : x ∈ l := by
  induction l with
  | nil => simp [memN] at h
  | cons y l ih =>
    simp only [memN] at h
    cases hb : nmb y x with
    | true => rw [nmb_iff.1 hb]; simp
    | false => rw [hb] at h; exact List.mem_cons_of_mem _ (ih h)

theorem find_hid {l : List Nm} {x : Nm} : find (l.map (fun x => ((x, none) : Up))) x = some none ∨ find (l.map (fun x => ((x, none) : Up))) x = none := by
  induction l with
  | nil => exact .inr rfl
  | cons y l ih =>
    simp only [List.map_cons, find]
    cases nmb y x
    · exact ih
    · exact .inl rfl

theorem find_hid_mem {l : List Nm} {x : Nm} (h : x ∈ l) : find (l.map (fun x => ((x, none) : Up))) x = some none := by
  rcases find_hid (l := l) (x := x) with h1 | h1
  · exact h1
  · exact absurd (List.mem_map.2 ⟨x, h, rfl⟩) (find_none h1 none)

/-- A hidden name: nothing, or dead. -/
theorem hidden_some {ms : List Nat} {i : Nat} {x : Nm} : ∀ (wr : Wr), find (hiddenS ms i wr) x = some none ∨ find (hiddenS ms i wr) x = none := by
  intro wr
  induction wr with
  | nil => exact .inr rfl
  | cons p wr ih =>
    obtain ⟨j, l⟩ := p
    simp only [hiddenS]
    cases loose ms i j with
    | false => exact ih
    | true =>
      rw [cond_true, find_append]
      rcases find_hid (l := l) (x := x) with h | h
      · rw [h]; exact .inl rfl
      · rw [h]; exact ih

theorem hidden_wr {ms : List Nat} {i k : Nat} {x : Nm} (hl : loose ms i k = true) : ∀ {wr : Wr}, x ∈ wrOf wr k → find (hiddenS ms i wr) x = some none := by
  intro wr
  induction wr with
  | nil => intro h; cases h
  | cons p wr ih =>
    intro h
    obtain ⟨j, l⟩ := p
    simp only [wrOf] at h
    simp only [hiddenS]
    cases hb : Nat.beq j k with
    | true =>
      rw [hb, cond_true] at h
      rw [beq_iff.1 hb, hl, cond_true, find_append, find_hid_mem h]
    | false =>
      rw [hb] at h
      have := ih h
      cases loose ms i j with
      | false => exact this
      | true =>
        rw [cond_true, find_append]
        rcases find_hid (l := l) (x := x) with h1 | h1
        · rw [h1]
        · rw [h1]; exact this

/-! ### The pass -/

/-- What the pass finds for operation i. -/
structure EntOK (P : Program) (base : St) (ms : List Nat) (wr : Wr) (full : List Oper) (R : List Ent) (o : Oper) (e : Ent) : Prop where
  oper : full[e.i]? = some o
  dst : e.d = o.dst
  sem : ((o.guard = none ∨ ∃ j want g, o.guard = some (j, want) ∧ dstOf full j = some g ∧ entGet R j = some (.v (.one (.bool want)))) ∧
      OpSem P o (stAt base ms wr full R e.i o) e.v e.ups ∧ upsOK ms wr full (stAt base ms wr full R e.i o).store e.i (slot o.dst) e.ups = true ∧ fromOK ms full e.i e.ups = true) ∨
    (e.v = .tup [] ∧ e.ups = [] ∧ ∃ j want g, o.guard = some (j, want) ∧ dstOf full j = some g ∧ (entGet R j = some (.v (.one (.bool (!want)))) ∨ entGet R j = some (.tup [])))

section
variable {P : Program} {T : TT} {base : St} {ms : List Nat} {wr : Wr} {full : List Oper}

theorem stAt_ext (hb : allBelow ms 0 ms = true) {rs front : List Ent} {i : Nat} (hf : ∀ e ∈ front, i ≤ e.i) (o : Oper) : stAt base ms wr full (front ++ rs) i o = stAt base ms wr full rs i o := by
  have h1 : slotIn base ms full (front ++ rs) i = slotIn base ms full rs i := by
    funext t
    unfold slotIn
    cases idxOf t 0 full with
    | none => rfl
    | some j =>
      simp only
      cases hj : bit (nthD ms i) j with
      | false => rfl
      | true =>
        have := bit_lt hb hj
        simp only [cond_true]
        exact entGet_append fun e he => by have := hf e he; omega
  have h2 : Eng.below (nthD ms i) (front ++ rs) = Eng.below (nthD ms i) rs := by
    rw [below_eq, below_eq, filt_append, filt_nil, List.nil_append]
    intro e he
    cases hj : bit (nthD ms i) e.i with
    | false => rfl
    | true => have := bit_lt hb hj; have := hf e he; omega
  simp only [stAt, h1, h2]

theorem EntOK.ext (hb : allBelow ms 0 ms = true) (hg : guardsOK ms 0 full = true) {rs front : List Ent} {o : Oper} {e : Ent} (hf : ∀ e' ∈ front, e.i ≤ e'.i) (h : EntOK P base ms wr full rs o e) :
    EntOK P base ms wr full (front ++ rs) o e := by
  have hgd : ∀ {j : Nat} {want : Bool}, o.guard = some (j, want) → entGet (front ++ rs) j = entGet rs j := fun {j want} hgu => by
    have := guardsOK_get hg h.oper hgu
    rw [Nat.zero_add] at this
    have := bit_lt hb this
    exact entGet_append fun e' he' => by have := hf e' he'; omega
  refine ⟨h.oper, h.dst, ?_⟩
  rw [stAt_ext hb hf]
  rcases h.sem with ⟨h1, h2⟩ | ⟨h1, h2, j, want, g, h3, h4, h5⟩
  · refine .inl ⟨?_, h2⟩
    rcases h1 with h1 | ⟨j, want, g, h3, h4, h5⟩
    · exact .inl h1
    · exact .inr ⟨j, want, g, h3, h4, by rw [hgd h3]; exact h5⟩
  · exact .inr ⟨h1, h2, j, want, g, h3, h4, by rw [hgd h3]; exact h5⟩

theorem runDraw_some {call : CallT} (hT : TOK P T) (hC : CallOK P call) (hb : allBelow ms 0 ms = true) (hg : guardsOK ms 0 full = true) {k : St → Ans} {r : DRes} :
    ∀ (rest : List Oper) (i : Nat) (rs : List Ent), Desc rs i → (∀ j, rest[j]? = full[i + j]?) → runDraw T call base ms wr full rest i rs k = some r →
      ∃ front, Desc (front ++ rs) (i + rest.length) ∧ (∀ e ∈ front, i ≤ e.i ∧ ∃ o, EntOK P base ms wr full (front ++ rs) o e) ∧ k { tmps := entT (front ++ rs) ++ base.tmps, store := entS (front ++ rs) ++ base.store, n := base.n } = some r := by
  intro rest
  induction rest with
  | nil => intro i rs hd _ h; exact ⟨[], hd, (fun e he => by cases he), h⟩
  | cons o rest ih =>
    intro i rs hd hl h
    have ho : full[i]? = some o := by have := hl 0; simpa using this.symm
    have hl' : ∀ j, rest[j]? = full[i + 1 + j]? := fun j => by
      have := hl (j + 1)
      simp only [List.getElem?_cons_succ] at this
      rw [this, show i + (j + 1) = i + 1 + j by omega]
    have go : ∀ e : Ent, e.i = i → EntOK P base ms wr full rs o e → runDraw T call base ms wr full rest (i + 1) (e :: rs) k = some r →
        ∃ front, Desc (front ++ rs) (i + (o :: rest).length) ∧ (∀ e ∈ front, i ≤ e.i ∧ ∃ o, EntOK P base ms wr full (front ++ rs) o e) ∧ k { tmps := entT (front ++ rs) ++ base.tmps, store := entS (front ++ rs) ++ base.store, n := base.n } = some r := fun e hei hok hrun => by
      obtain ⟨front, h1, h2, h3⟩ := ih (i + 1) (e :: rs) ⟨by omega, by rw [hei]; exact hd⟩ hl' hrun
      have he : front ++ e :: rs = (front ++ [e]) ++ rs := by simp
      rw [he] at h1 h2 h3
      refine ⟨front ++ [e], by rw [List.length_cons]; rw [show i + (rest.length + 1) = i + 1 + rest.length by omega]; exact h1, fun e' he' => ?_, h3⟩
      rcases List.mem_append.1 he' with he' | he'
      · obtain ⟨h4, h5⟩ := h2 e' he'
        exact ⟨by omega, h5⟩
      · simp only [List.mem_singleton] at he'
        subst he'
        exact ⟨by omega, o, hok.ext hb hg fun e'' he'' => by
          rcases List.mem_append.1 he'' with h6 | h6
          · have := (h2 e'' h6).1; omega
          · simp only [List.mem_singleton] at h6; subst h6; exact Nat.le_refl _⟩
    have run : (o.guard = none ∨ ∃ j want g, o.guard = some (j, want) ∧ dstOf full j = some g ∧ entGet rs j = some (.v (.one (.bool want)))) →
        evalOp T call (stAt base ms wr full rs i o) o (fun v ups => cond (upsOK ms wr full (stAt base ms wr full rs i o).store i (slot o.dst) ups) (cond (fromOK ms full i ups) (runDraw T call base ms wr full rest (i + 1) (⟨i, o.dst, v, ups⟩ :: rs) k) none) none) = some r →
        ∃ front, Desc (front ++ rs) (i + (o :: rest).length) ∧ (∀ e ∈ front, i ≤ e.i ∧ ∃ o, EntOK P base ms wr full (front ++ rs) o e) ∧ k { tmps := entT (front ++ rs) ++ base.tmps, store := entS (front ++ rs) ++ base.store, n := base.n } = some r := fun hgu he => by
      obtain ⟨v, ups, h1, h2⟩ := evalOp_some hT hC he
      obtain ⟨h3, h1⟩ := cond_none h1
      obtain ⟨h4, h1⟩ := cond_none h1
      exact go ⟨i, o.dst, v, ups⟩ rfl ⟨ho, rfl, .inl ⟨hgu, h2, h3, h4⟩⟩ h1
    simp only [runDraw] at h
    cases hgu : o.guard with
    | none =>
      rw [hgu] at h
      exact run (.inl hgu) h
    | some jw =>
      obtain ⟨j, want⟩ := jw
      rw [hgu] at h
      simp only at h
      cases hdj : dstOf full j with
      | none => rw [hdj] at h; simp at h
      | some g =>
        rw [hdj] at h
        simp only at h
        split at h
        · rename_i b hb2
          cases b with
          | true =>
            simp only [cond_true, setE_same hb2] at h
            cases want with
            | true => exact run (.inr ⟨j, true, g, hgu, hdj, hb2⟩) h
            | false => exact go ⟨i, o.dst, .tup [], []⟩ rfl ⟨ho, rfl, .inr ⟨rfl, rfl, j, false, g, hgu, hdj, .inl hb2⟩⟩ h
          | false =>
            simp only [cond_false, setE_same hb2] at h
            cases want with
            | true => exact go ⟨i, o.dst, .tup [], []⟩ rfl ⟨ho, rfl, .inr ⟨rfl, rfl, j, true, g, hgu, hdj, .inl hb2⟩⟩ h
            | false => exact run (.inr ⟨j, false, g, hgu, hdj, hb2⟩) h
        · rename_i hb2
          exact go ⟨i, o.dst, .tup [], []⟩ rfl ⟨ho, rfl, .inr ⟨rfl, rfl, j, want, g, hgu, hdj, .inr hb2⟩⟩ h
        · cases h

end
end Go.Eng
