/-
  Soundness of the evaluator: code, functions, calls.
-/
import Derived.Test.YtjbmpimclagfoaaEngG
namespace Go.Eng
open Go.RowKit

/-! ### A state made small -/

def revOf : Ren → Nm → Option Nm
  | [], _ => none
  | (x, y) :: r, z => cond (nmb y z) (some x) (revOf r z)

theorem renOf_mem {m : Ren} {x y : Nm} (h : renOf m x = some y) : (x, y) ∈ m := by
  induction m with
  | nil => simp [renOf] at h
  | cons p m ih =>
    obtain ⟨u, v⟩ := p
    simp only [renOf] at h
    cases hb : nmb u x with
    | true =>
      rw [hb] at h
      simp only [cond_true, Option.some.injEq] at h
      rw [nmb_iff.1 hb, h]; simp
    | false => rw [hb] at h; exact List.mem_cons_of_mem _ (ih h)

theorem revOf_mem {m : Ren} {x y : Nm} (h : revOf m y = some x) : (x, y) ∈ m := by
  induction m with
  | nil => simp [revOf] at h
  | cons p m ih =>
    obtain ⟨u, v⟩ := p
    simp only [revOf] at h
    cases hb : nmb v y with
    | true =>
      rw [hb] at h
      simp only [cond_true, Option.some.injEq] at h
      rw [nmb_iff.1 hb, h]; simp
    | false => rw [hb] at h; exact List.mem_cons_of_mem _ (ih h)

theorem nodupR_iff {m : Ren} (h : nodupR m = true) {x y : Nm} (hm : (x, y) ∈ m) : (∀ z, (x, z) ∈ m → z = y) ∧ ∀ z, (z, y) ∈ m → z = x := by
  induction m with
  | nil => cases hm
  | cons p m ih =>
    obtain ⟨u, v⟩ := p
    simp only [nodupR] at h
    cases hany : m.any (fun p => cond (nmb p.1 u) true (nmb p.2 v)) with
    | true => rw [hany] at h; simp at h
    | false =>
      rw [hany] at h
      have hne : ∀ p ∈ m, p.1 ≠ u ∧ p.2 ≠ v := fun p hp => by
        have h1 := List.any_eq_false.1 hany p hp
        cases h2 : nmb p.1 u with
        | true => rw [h2] at h1; simp at h1
        | false =>
          rw [h2] at h1
          simp only [cond_false] at h1
          exact ⟨nmb_false.1 h2, nmb_false.1 (by simpa using h1)⟩
      rcases List.mem_cons.1 hm with e | hm'
      · simp only [Prod.mk.injEq] at e
        obtain ⟨rfl, rfl⟩ := e
        refine ⟨fun z hz => ?_, fun z hz => ?_⟩
        · rcases List.mem_cons.1 hz with e | hz
          · simp only [Prod.mk.injEq] at e; exact e.2
          · exact absurd rfl (hne _ hz).1
        · rcases List.mem_cons.1 hz with e | hz
          · simp only [Prod.mk.injEq] at e; exact e.1
          · exact absurd rfl (hne _ hz).2
      · obtain ⟨i1, i2⟩ := ih h hm'
        refine ⟨fun z hz => ?_, fun z hz => ?_⟩
        · rcases List.mem_cons.1 hz with e | hz
          · simp only [Prod.mk.injEq] at e; exact absurd e.1 (hne _ hm').1
          · exact i1 z hz
        · rcases List.mem_cons.1 hz with e | hz
          · simp only [Prod.mk.injEq] at e; exact absurd e.2 (hne _ hm').2
          · exact i2 z hz

theorem mem_revOf {m : Ren} (h : nodupR m = true) {x y : Nm} (hm : (x, y) ∈ m) : revOf m y = some x := by
  cases hr : revOf m y with
  | some z => rw [(nodupR_iff h hm).2 z (revOf_mem hr)]
  | none =>
    exfalso
    clear h
    induction m with
    | nil => cases hm
    | cons p m ih =>
      obtain ⟨u, v⟩ := p
      simp only [revOf] at hr
      cases hb : nmb v y with
      | true => rw [hb] at hr; simp at hr
      | false =>
        rw [hb] at hr
        rcases List.mem_cons.1 hm with e | hm
        · simp only [Prod.mk.injEq] at e; rw [e.2, nmb_self] at hb; cases hb
        · exact ih hm hr

def renB' (m : Ren) (β : Bt) : Bt := fun y => match revOf m y with
  | some x => β x
  | none => none

theorem renB'_of {m : Ren} (h : nodupR m = true) {β : Bt} {x y : Nm} (hm : renOf m x = some y) : renB' m β y = β x := by
  simp [renB', mem_revOf h (renOf_mem hm)]

section
variable {m : Ren} {β : Bt}

theorem renC_ok (h : nodupR m = true) {c c' : Cell} {v : Value} (hc : renC m c = some c') (hv : CRel β c v) : CRel (renB' m β) c' v := by
  cases c <;> simp only [renC] at hc
  case ptr x i j dy =>
    cases hx : renOf m x with
    | none => rw [hx] at hc; simp at hc
    | some y =>
      rw [hx] at hc
      simp only [Option.some.injEq] at hc
      subst hc
      obtain ⟨bi, h1, h2⟩ := hv
      exact ⟨bi, by rw [renB'_of h hx]; exact h1, h2⟩
  case whole x =>
    cases hx : renOf m x with
    | none => rw [hx] at hc; simp at hc
    | some y =>
      rw [hx] at hc
      simp only [Option.some.injEq] at hc
      subst hc
      obtain ⟨bi, h1, h2⟩ := hv
      exact ⟨bi, by rw [renB'_of h hx]; exact h1, h2⟩
  case sl x off ln =>
    cases hx : renOf m x with
    | none => rw [hx] at hc; simp at hc
    | some y =>
      rw [hx] at hc
      simp only [Option.some.injEq] at hc
      subst hc
      obtain ⟨bi, h1, h2⟩ := hv
      exact ⟨bi, by rw [renB'_of h hx]; exact h1, h2⟩
  all_goals (simp only [Option.some.injEq] at hc; subst hc; exact hv)

theorem renCs_ok (h : nodupR m = true) : ∀ {cs cs' : List Cell} {vs : List Value}, renCs m cs = some cs' → All2 (CRel β) cs vs → All2 (CRel (renB' m β)) cs' vs := by
  intro cs
  induction cs with
  | nil => intro cs' vs hc hv; simp only [renCs, Option.some.injEq] at hc; subst hc; cases vs <;> simp_all [All2]
  | cons c cs ih =>
    intro cs' vs hc hv
    cases vs with
    | nil => simp [All2] at hv
    | cons v vs =>
      simp only [renCs] at hc
      split at hc
      case h_2 => cases hc
      case h_1 x l hx hl =>
        simp only [Option.some.injEq] at hc
        subst hc
        exact ⟨renC_ok h hx hv.1, ih hl hv.2⟩

theorem renV_ok (h : nodupR m = true) {x x' : V1} {v : Value} (hc : renV m x = some x') (hv : V1Rel β x v) : V1Rel (renB' m β) x' v := by
  cases x with
  | one c =>
    simp only [renV] at hc
    split at hc
    case h_2 => cases hc
    case h_1 y hy => simp only [Option.some.injEq] at hc; subst hc; exact renC_ok h hy hv
  | agg cs =>
    simp only [renV] at hc
    split at hc
    case h_2 => cases hc
    case h_1 y hy =>
      simp only [Option.some.injEq] at hc
      subst hc
      obtain ⟨vs, rfl, h2⟩ := hv
      exact ⟨vs, rfl, renCs_ok h hy h2⟩

theorem renB_ok (h : nodupR m = true) {B : Nat} {w : World} {bi : BI} {b b' : Blk} (hc : renB m b = some b') (hv : BRel β B w bi b) : BRel (renB' m β) B w bi b' := by
  cases b with
  | var cs =>
    simp only [renB] at hc
    split at hc
    case h_2 => cases hc
    case h_1 l hl =>
      simp only [Option.some.injEq] at hc
      subst hc
      obtain ⟨h1, h2, h3, h4, arr, t, h5, h6⟩ := hv
      exact ⟨h1, h2, h3, h4, arr, t, h5, renCs_ok h hl h6⟩
  | arr o z e =>
    simp only [renB, Option.some.injEq] at hc
    subst hc
    exact hv.any

theorem keepT_get {s : St} : ∀ {ls : List Nat} {t : Nat} {v : V1}, (t, v) ∈ keepT s ls → getT s.tmps t = some (.v v) := by
  intro ls
  induction ls with
  | nil => intro t v h; cases h
  | cons u ls ih =>
    intro t v h
    simp only [keepT] at h
    split at h
    · rename_i x hx
      cases hb : liveCs s.store x.cells with
      | true =>
        rw [hb] at h
        simp only [cond_true, List.mem_cons, Prod.mk.injEq] at h
        rcases h with ⟨rfl, rfl⟩ | h
        · exact hx
        · exact ih h
      | false => rw [hb] at h; exact ih h
    · exact ih h

theorem renT_get : ∀ {vs : List (Nat × V1)} {l : List (Nat × Option SV)}, renT m vs = some l → ∀ t u, getT l t = some u → ∃ v x, (t, v) ∈ vs ∧ renV m v = some x ∧ u = .v x := by
  intro vs
  induction vs with
  | nil => intro l h t u hg; simp only [renT, Option.some.injEq] at h; subst h; simp [getT] at hg
  | cons p vs ih =>
    intro l h t u hg
    obtain ⟨t', v⟩ := p
    simp only [renT] at h
    split at h
    case h_2 => cases h
    case h_1 x l' hx hl =>
      simp only [Option.some.injEq] at h
      subst h
      simp only [getT] at hg
      cases hb : Nat.beq t' t with
      | true =>
        rw [hb] at hg
        simp only [cond_true, Option.some.injEq] at hg
        exact ⟨v, x, by rw [beq_iff.1 hb]; simp, hx, hg.symm⟩
      | false =>
        rw [hb] at hg
        obtain ⟨v', x', h1, h2⟩ := ih hl t u hg
        exact ⟨v', x', List.mem_cons_of_mem _ h1, h2⟩

theorem renS_get {s : St} : ∀ {l : Ren} {st : List Up}, renS s m l = some st → (∀ y c, find st y = some c → ∃ x b c', (x, y) ∈ l ∧ live s.store x = some b ∧ renB m b = some c' ∧ c = some c') ∧
    ∀ x y, (x, y) ∈ l → (∃ c, find st y = some c) ∧ ∃ b, live s.store x = some b := by
  intro l
  induction l with
  | nil =>
    intro st h
    simp only [renS, Option.some.injEq] at h
    subst h
    exact ⟨fun y c h => by simp [find] at h, fun x y h => by cases h⟩
  | cons p l ih =>
    intro st h
    obtain ⟨x, y⟩ := p
    simp only [renS] at h
    split at h
    case h_2 => cases h
    case h_1 b hb =>
      split at h
      case h_2 => cases h
      case h_1 c st' hc hst =>
        simp only [Option.some.injEq] at h
        subst h
        obtain ⟨i1, i2⟩ := ih hst
        refine ⟨fun z d hz => ?_, fun u z hz => ?_⟩
        · simp only [find] at hz
          cases hq : nmb y z with
          | true =>
            rw [hq] at hz
            simp only [cond_true, Option.some.injEq] at hz
            exact ⟨x, b, c, by rw [nmb_iff.1 hq]; simp, hb, hc, hz.symm⟩
          | false =>
            rw [hq] at hz
            obtain ⟨x', b', c', h1, h2⟩ := i1 z d hz
            exact ⟨x', b', c', List.mem_cons_of_mem _ h1, h2⟩
        · rcases List.mem_cons.1 hz with e | hz
          · simp only [Prod.mk.injEq] at e
            obtain ⟨rfl, rfl⟩ := e
            exact ⟨⟨some c, by simp [find, nmb_self]⟩, b, hb⟩
          · obtain ⟨⟨d, hd⟩, h2⟩ := i2 u z hz
            refine ⟨?_, h2⟩
            simp only [find]
            cases nmb y z with
            | true => exact ⟨_, rfl⟩
            | false => exact ⟨d, hd⟩
end

theorem compact_some {ls : List Nat} {s : St} {k : St → Ans} {r : DRes} (h : compact ls s k = some r) :
    ∃ s', k s' = some r ∧ ∀ (B : Nat) (w0 : World) (β : Bt) (a : Act) (w : World), RFs B w0 β s a w → ∃ β', RFs B w0 β' s' a w := by
  unfold compact at h
  obtain ⟨hn, h⟩ := cond_none h
  split at h
  case h_2 => cases h
  case h_1 t st ht hst =>
    refine ⟨_, h, fun B w0 β a w hr => ?_⟩
    generalize hm : namesB s (namesT [] (keepT s ls)) (namesT [] (keepT s ls)) = m at *
    obtain ⟨g1, g2⟩ := renS_get hst
    refine ⟨renB' m β, { defers := hr.defers, size := hr.size, tmps := ?_, blk := ?_, inj := ?_, fr := hr.fr, hB := hr.hB, dom := ?_ }⟩
    · intro u v hu
      obtain ⟨v1, x, h1, h2, rfl⟩ := renT_get ht u v hu
      have := hr.tmps u _ (keepT_get h1)
      exact renV_ok hn h2 this
    · intro y b hy
      obtain ⟨x, b0, c', h1, h2, h3, h4⟩ := g1 y (some b) hy
      simp only [Option.some.injEq] at h4
      subst h4
      obtain ⟨bi, h5, h6⟩ := live_ok hr.toRW h2
      refine ⟨bi, ?_, renB_ok hn h3 h6⟩
      simp [renB', mem_revOf hn h1, h5]
    · intro y1 y2 b1 b2 c1 c2 hy1 hy2 hb1 hb2 hr1 hr2 heq
      obtain ⟨x1, d1, _, h1, h2, _, _⟩ := g1 y1 _ hy1
      obtain ⟨x2, d2, _, h3, h4, _, _⟩ := g1 y2 _ hy2
      simp only [renB', mem_revOf hn h1] at hb1
      simp only [renB', mem_revOf hn h3] at hb2
      have hl : ∀ {x : Nm} {d : Blk}, live s.store x = some d → find s.store x = some (some d) := fun {x d} hx => by
        unfold live at hx
        split at hx
        · rename_i b hf; simp only [Option.some.injEq] at hx; subst hx; exact hf
        · cases hx
      have := hr.inj x1 x2 b1 b2 d1 d2 (hl h2) (hl h4) hb1 hb2 hr1 hr2 heq
      subst this
      exact ((nodupR_iff hn h1).1 y2 h3).symm
    · intro y
      constructor
      · intro hy
        cases hf : find st y with
        | none => rfl
        | some c =>
          obtain ⟨x, b, _, h1, h2, _, _⟩ := g1 y c hf
          obtain ⟨bi, h5, _⟩ := live_ok hr.toRW h2
          simp only [renB', mem_revOf hn h1, h5] at hy
          cases hy
      · intro hy
        unfold renB'
        split
        · rename_i x hx
          obtain ⟨⟨c, hc⟩, _⟩ := g2 x y (revOf_mem hx)
          rw [hy] at hc; cases hc
        · rfl

theorem toSp_list (E : Els) : E.toSp.list = E.list := by
  cases E with
  | lit l => cases l <;> rfl
  | _ => rfl

theorem toSpS_find (st : List Up) (x : Nm) : find (toSpS st) x = match find st x with
    | some (some (.arr o z E)) => some (some (.arr o z E.toSp))
    | r => r := by
  induction st with
  | nil => rfl
  | cons p st ih =>
    obtain ⟨y, b⟩ := p
    cases b with
    | none => simp only [toSpS, find]; cases nmb y x <;> simp [ih]
    | some b => cases b with
      | var cs => simp only [toSpS, find]; cases nmb y x <;> simp [ih]
      | arr o z E => simp only [toSpS, find]; cases nmb y x <;> simp [ih]

theorem toSpS_ok {s : St} {B : Nat} {w0 : World} {β : Bt} {a : Act} {w : World} (hr : RFs B w0 β s a w) : RFs B w0 β { s with store := toSpS s.store } a w := by
  have hsome : ∀ x b, find (toSpS s.store) x = some (some b) → ∃ b', find s.store x = some (some b') ∧ ∀ bi, BRel β B w bi b' → BRel β B w bi b := fun x b hx => by
    rw [toSpS_find] at hx
    split at hx
    · rename_i o z E he
      simp only [Option.some.injEq] at hx
      subst hx
      exact ⟨_, he, fun bi h => BRel.congr (toSp_list E).symm h⟩
    · exact ⟨b, hx, fun _ h => h⟩
  refine { defers := hr.defers, size := hr.size, tmps := hr.tmps, blk := fun x b hx => ?_, inj := fun x y bx by_ b b' hx hy => ?_, fr := hr.fr, hB := hr.hB, dom := fun x => ?_ }
  · obtain ⟨b', h1, h2⟩ := hsome x b hx
    obtain ⟨bi, h3, h4⟩ := hr.blk x b' h1
    exact ⟨bi, h3, h2 bi h4⟩
  · obtain ⟨c, h1, _⟩ := hsome x b hx
    obtain ⟨c', h2, _⟩ := hsome y b' hy
    exact hr.inj x y bx by_ c c' h1 h2
  · rw [hr.dom x]
    show find s.store x = none ↔ find (toSpS s.store) x = none
    rw [toSpS_find]
    cases hf : find s.store x with
    | none => simp
    | some b => cases b with
      | none => simp
      | some b => cases b <;> simp

/-! ### Code -/

def Ex.x : Ex → Exit
  | .normal => .normal
  | .exit id => .exit id
  | .ret => .ret

def CodeSem (P : Program) (c : Code) (s : St) (e : Ex) (s' : St) : Prop :=
  ∀ Q : Exit → Act → World → Prop, Goes s s' fun K a w => (∀ a w, K a w → Q e.x a w) → c.wp P Q a w

def RoundsSem (P : Program) (c : Code) (n : Nat) (s : St) (e : Ex) (s' : St) : Prop :=
  ∀ Q : Exit → Act → World → Prop, Goes s s' fun K a w => (∀ a w, K a w → Q e.x a w) → Code.rounds P c Q n a w

theorem CodeSem.compact {P : Program} {c : Code} {s s1 s' : St} {e : Ex} (h : ∀ (B : Nat) (w0 : World) (β : Bt) (a : Act) (w : World), RFs B w0 β s a w → ∃ β', RFs B w0 β' s1 a w) (h1 : CodeSem P c s1 e s') : CodeSem P c s e s' :=
  fun Q B w0 β a w hr K hK hQ => by
    obtain ⟨β', hr'⟩ := h B w0 β a w hr
    exact h1 Q B w0 β' a w hr' K hK hQ

theorem loopN_some {P : Program} {c : Code} {f : St → (Ex → St → Ans) → Ans} (hf : ∀ s k r, f s k = some r → ∃ e s', k e s' = some r ∧ CodeSem P c s e s') :
    ∀ (n : Nat) (s : St) (k : Ex → St → Ans) (r : DRes), loopN f n s k = some r → ∃ e s', k e s' = some r ∧ RoundsSem P c n s e s' := by
  intro n
  induction n with
  | zero => intro s k r h; simp [loopN] at h
  | succ n ih =>
    intro s k r h
    simp only [loopN] at h
    obtain ⟨e, s1, h1, h2⟩ := hf _ _ _ h
    have hother : k e s1 = some r → e ≠ .normal → ∃ e s', k e s' = some r ∧ RoundsSem P c (n + 1) s e s' := fun hk hne => by
      refine ⟨e, s1, hk, fun Q B w0 β a w hr K hK hQ => ?_⟩
      rw [rounds_succ]
      refine h2 _ B w0 β a w hr K hK fun a' w' hk' => ?_
      cases e with
      | normal => exact absurd rfl hne
      | exit id => exact hQ a' w' hk'
      | ret => exact hQ a' w' hk'
    cases e with
    | normal =>
      obtain ⟨e', s', h3, h4⟩ := ih s1 k r h1
      refine ⟨e', s', h3, fun Q B w0 β a w hr K hK hQ => ?_⟩
      rw [rounds_succ]
      exact h2 _ B w0 β a w hr (fun a' w' => Code.rounds P c Q n a' w') (fun β' a' w' hr' => h4 Q B w0 β' a' w' hr' K hK hQ) fun a' w' hk' => hk'
    | exit id => exact hother h1 (by simp)
    | ret => exact hother h1 (by simp)

theorem atHead_some {an : Ann} {id : Nat} {s : St} {k : St → Ans} {r : DRes} (h : atHead an id s k = some r) :
    ∃ s1, k s1 = some r ∧ ∀ (B : Nat) (w0 : World) (β : Bt) (a : Act) (w : World), RFs B w0 β s a w → ∃ β', RFs B w0 β' s1 a w := by
  unfold atHead at h
  split at h
  · obtain ⟨s1, h3, h4⟩ := compact_some h
    cases hs : inL id an.sps with
    | false => rw [hs] at h3; exact ⟨s1, h3, h4⟩
    | true =>
      rw [hs] at h3
      exact ⟨_, h3, fun B w0 β a w hr => by
        obtain ⟨β', hr'⟩ := h4 B w0 β a w hr
        exact ⟨β', toSpS_ok hr'⟩⟩
  · exact ⟨s, h, fun B w0 β a w hr => ⟨β, hr⟩⟩

/-- What is known of a loop is so. -/
def SumOK (P : Program) (b : Code) (f : St → (Ex → St → Ans) → Ans) : Prop :=
  ∀ (s : St) (k : Ex → St → Ans) (r : DRes), f s k = some r → ∃ e s', k e s' = some r ∧ CodeSem P (.loop b) s e s'

def SumsOK (P : Program) (an : Ann) : Code → Prop
  | .loop b => match sumOf an.sums (firstRegion b) with
    | some f => SumOK P b f
    | none => SumsOK P an b
  | .seq a b => SumsOK P an a ∧ SumsOK P an b
  | .cond _ a b => SumsOK P an a ∧ SumsOK P an b
  | .block _ b => SumsOK P an b
  | _ => True

theorem SumsOK.nil {P : Program} {an : Ann} (h : an.sums = []) : ∀ c, SumsOK P an c := by
  intro c
  induction c with
  | loop b ih => simp only [SumsOK, h, sumOf]; exact ih
  | seq a b iha ihb => exact ⟨iha, ihb⟩
  | cond _ a b iha ihb => exact ⟨iha, ihb⟩
  | block _ b ih => exact ih
  | _ => trivial

theorem evalC_some {P : Program} {T : TT} {call : CallT} {an : Ann} {lf : Nat} (hT : TOK P T) (hC : CallOK P call) (hm : P.follows .mixedOrders = true) :
    ∀ (c : Code), SumsOK P an c → ∀ (s : St) (k : Ex → St → Ans) (r : DRes), evalC T call an lf c s k = some r → ∃ e s', k e s' = some r ∧ CodeSem P c s e s' := by
  intro c
  induction c with
  | skip => intro _ s k r h; exact ⟨.normal, s, h, fun Q B w0 β a w hr K hK hQ => wp_skip (hQ a w (hK β a w hr))⟩
  | exit id => intro _ s k r h; exact ⟨.exit id, s, h, fun Q B w0 β a w hr K hK hQ => wp_exit (hQ a w (hK β a w hr))⟩
  | ret => intro _ s k r h; exact ⟨.ret, s, h, fun Q B w0 β a w hr K hK hQ => wp_ret (hQ a w (hK β a w hr))⟩
  | region id ops draw =>
    intro _ s k r h
    cases draw with
    | true =>
      simp only [evalC, cond_true] at h
      obtain ⟨h1, h2⟩ := cond_none h
      obtain ⟨s', h3, h4⟩ := runDraw_sem (id := id) hT hC hm h1 h2
      exact ⟨.normal, s', h3, h4⟩
    | false =>
      simp only [evalC, cond_false] at h
      obtain ⟨s', h3, h4⟩ := runOps_some hT hC ops.toList s h
      exact ⟨.normal, s', h3, fun Q B w0 β a w hr K hK hQ => wp_region_list (h4 Q B w0 β a w hr K hK hQ)⟩
  | seq x y ihx ihy =>
    intro hS s k r h
    replace ihx := ihx hS.1
    replace ihy := ihy hS.2
    simp only [evalC] at h
    obtain ⟨e, s1, h1, h2⟩ := ihx _ _ _ h
    have hother : k e s1 = some r → e ≠ .normal → ∃ e s', k e s' = some r ∧ CodeSem P (.seq x y) s e s' := fun hk hne => by
      refine ⟨e, s1, hk, fun Q B w0 β a w hr K hK hQ => wp_seq ?_⟩
      refine h2 _ B w0 β a w hr K hK fun a' w' hk' => ?_
      cases e with
      | normal => exact absurd rfl hne
      | exit id => exact hQ a' w' hk'
      | ret => exact hQ a' w' hk'
    cases e with
    | normal =>
      obtain ⟨e', s', h3, h4⟩ := ihy _ _ _ h1
      refine ⟨e', s', h3, fun Q B w0 β a w hr K hK hQ => wp_seq ?_⟩
      exact h2 _ B w0 β a w hr (fun a' w' => y.wp P Q a' w') (fun β' a' w' hr' => h4 Q B w0 β' a' w' hr' K hK hQ) fun a' w' hk' => hk'
    | exit id => exact hother h1 (by simp)
    | ret => exact hother h1 (by simp)
  | cond c x y ihx ihy =>
    intro hS s k r h
    replace ihx := ihx hS.1
    replace ihy := ihy hS.2
    simp only [evalC] at h
    split at h
    case h_2 => cases h
    case h_1 t ht =>
      cases t with
      | true =>
        obtain ⟨e, s', h1, h2⟩ := ihx _ _ _ h
        exact ⟨e, s', h1, fun Q B w0 β a w hr K hK hQ => wp_cond_true (evc_ok hr.toRW ht) (h2 Q B w0 β a w hr K hK hQ)⟩
      | false =>
        obtain ⟨e, s', h1, h2⟩ := ihy _ _ _ h
        exact ⟨e, s', h1, fun Q B w0 β a w hr K hK hQ => wp_cond_false (evc_ok hr.toRW ht) (h2 Q B w0 β a w hr K hK hQ)⟩
  | block id x ih =>
    intro hS s k r h
    replace ih := ih hS
    simp only [evalC] at h
    obtain ⟨e, s', h1, h2⟩ := ih _ _ _ h
    cases e with
    | normal => exact ⟨.normal, s', h1, fun Q B w0 β a w hr K hK hQ => wp_block (h2 _ B w0 β a w hr K hK hQ)⟩
    | ret => exact ⟨.ret, s', h1, fun Q B w0 β a w hr K hK hQ => wp_block (h2 _ B w0 β a w hr K hK hQ)⟩
    | exit id' =>
      simp only at h1
      cases hb : Nat.beq id' id with
      | true =>
        rw [hb] at h1
        refine ⟨.normal, s', h1, fun Q B w0 β a w hr K hK hQ => wp_block (h2 _ B w0 β a w hr K hK fun a' w' hk => ?_)⟩
        simp only [Ex.x, Exit.inBlock, beq_iff.1 hb, if_true]
        exact hQ a' w' hk
      | false =>
        rw [hb] at h1
        refine ⟨.exit id', s', h1, fun Q B w0 β a w hr K hK hQ => wp_block (h2 _ B w0 β a w hr K hK fun a' w' hk => ?_)⟩
        simp only [Ex.x, Exit.inBlock, beq_false.1 hb, if_false]
        exact hQ a' w' hk
  | loop x ih =>
    intro hS s k r h
    simp only [evalC] at h
    simp only [SumsOK] at hS
    split at h
    · rename_i f hf
      rw [hf] at hS
      obtain ⟨s1, h3, h4⟩ := atHead_some h
      obtain ⟨e, s', h5, h6⟩ := hS _ _ _ h3
      exact ⟨e, s', h5, h6.compact h4⟩
    · rename_i hf
      rw [hf] at hS
      obtain ⟨e, s', h1, h2⟩ := loopN_some (P := P) (c := x) (fun s k r h => by
        obtain ⟨s1, h3, h4⟩ := atHead_some h
        obtain ⟨e, s', h5, h6⟩ := ih hS _ _ _ h3
        exact ⟨e, s', h5, h6.compact h4⟩) lf s k r h
      exact ⟨e, s', h1, fun Q B w0 β a w hr K hK hQ => wp_loop_rounds lf (h2 Q B w0 β a w hr K hK hQ)⟩
  | _ => intro _ s k r h; simp [evalC] at h

/-! ### A loop, from its head on -/

/-- At most n rounds of a loop, from a state at its head. -/
def gN (T : TT) (call : CallT) (an : Ann) (lf id : Nat) (b : Code) (K : Ex → St → Ans) : Nat → St → Ans
  | 0, _ => none
  | n + 1, s => evalC T call an lf b s fun e s' => match e with
    | .normal => atHead an id s' (gN T call an lf id b K n)
    | e => K e s'

theorem gN_some {P : Program} {T : TT} {call : CallT} {an : Ann} {lf id : Nat} {b : Code} (hT : TOK P T) (hC : CallOK P call) (hm : P.follows .mixedOrders = true) (hS : SumsOK P an b) {K : Ex → St → Ans} :
    ∀ (n : Nat) (s : St) (r : DRes), gN T call an lf id b K n s = some r → ∃ e s', K e s' = some r ∧ RoundsSem P b n s e s' := by
  intro n
  induction n with
  | zero => intro s r h; cases h
  | succ n ih =>
    intro s r h
    simp only [gN] at h
    obtain ⟨e, s1, h1, h2⟩ := evalC_some hT hC hm b hS _ _ _ h
    have hother : K e s1 = some r → e ≠ .normal → ∃ e s', K e s' = some r ∧ RoundsSem P b (n + 1) s e s' := fun hk hne => by
      refine ⟨e, s1, hk, fun Q B w0 β a w hr K hK hQ => ?_⟩
      rw [rounds_succ]
      refine h2 _ B w0 β a w hr K hK fun a' w' hk' => ?_
      cases e with
      | normal => exact absurd rfl hne
      | exit id => exact hQ a' w' hk'
      | ret => exact hQ a' w' hk'
    cases e with
    | normal =>
      obtain ⟨s2, h3, h4⟩ := atHead_some h1
      obtain ⟨e', s', h5, h6⟩ := ih s2 r h3
      refine ⟨e', s', h5, fun Q B w0 β a w hr K hK hQ => ?_⟩
      rw [rounds_succ]
      refine h2 _ B w0 β a w hr (fun a' w' => Code.rounds P b Q n a' w') (fun β' a' w' hr' => ?_) fun a' w' hk' => hk'
      obtain ⟨β2, hr2⟩ := h4 B w0 β' a' w' hr'
      exact h6 Q B w0 β2 a' w' hr2 K hK hQ
    | exit id => exact hother h1 (by simp)
    | ret => exact hother h1 (by simp)

/-- A loop's summary, from its rounds: what is left behind it is made small, too. -/
theorem SumOK.of {P : Program} {T : TT} {call : CallT} {an : Ann} {lf id : Nat} {b : Code} (hT : TOK P T) (hC : CallOK P call) (hm : P.follows .mixedOrders = true) (hS : SumsOK P an b) {f : St → (Ex → St → Ans) → Ans} {ls : List Nat}
    (h : ∀ (s : St) (k : Ex → St → Ans) (r : DRes), f s k = some r → ∃ n, gN T call an lf id b (fun e s' => compact ls s' (k e)) n s = some r) : SumOK P b f := by
  intro s k r hf
  obtain ⟨n, hn⟩ := h s k r hf
  obtain ⟨e, s1, h1, h2⟩ := gN_some hT hC hm hS n s r hn
  obtain ⟨s2, h3, h4⟩ := compact_some h1
  refine ⟨e, s2, h3, fun Q B w0 β a w hr K hK hQ => wp_loop_rounds n ?_⟩
  refine h2 Q B w0 β a w hr K (fun β' a' w' hr' => ?_) hQ
  obtain ⟨β2, hr2⟩ := h4 B w0 β' a' w' hr'
  exact hK β2 a' w' hr2

end Go.Eng
