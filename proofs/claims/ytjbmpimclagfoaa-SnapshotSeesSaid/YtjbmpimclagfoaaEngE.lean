/-
  Soundness of a region whose operations run in the text's order.
-/
import Derived.Test.YtjbmpimclagfoaaEngD
import Derived.Tactics
namespace Go.Eng
open Go.RowKit

section
variable {P : Program} {T : TT} {B : Nat} {w0 : World}

theorem getT_cons (d : Option Tmp) (v : SV) (l : List (Nat × Option SV)) (t : Nat) (u : SV) (h : getT (consT d v l) t = some u) : (d = some t ∧ u = v) ∨ (d ≠ some t ∧ getT l t = some u) := by
  cases d with
  | none => exact .inr ⟨by simp, h⟩
  | some d =>
    simp only [consT, getT] at h
    cases hb : Nat.beq d t with
    | true =>
      rw [hb] at h
      simp only [cond_true, Option.some.injEq] at h
      exact .inl ⟨by rw [beq_iff.1 hb], h.symm⟩
    | false =>
      rw [hb] at h
      simp only [cond_false] at h
      exact .inr ⟨fun e => beq_false.1 hb (by injection e), h⟩

theorem dstOK_iff {d : Option Tmp} {n : Nat} (h : dstOK d n = true) : ∀ t, d = some t → t < n := by
  intro t ht
  subst ht
  exact blt_iff.1 h

theorem applyS_some {s : St} {d : Option Tmp} {v : SV} {ups : List Up} {k : St → Ans} {r : DRes} (h : applyS s d v ups k = some r) :
    dstOK d s.n = true ∧ newOK s.store (slot d) ups = true ∧ k { tmps := consT d v s.tmps, store := ups ++ s.store, n := s.n } = some r := by
  unfold applyS at h
  obtain ⟨h1, h⟩ := cond_none h
  obtain ⟨h2, h⟩ := cond_none h
  exact ⟨h1, h2, h⟩

theorem applyS_ok {β β' : Bt} {a : Act} {w w' : World} {s : St} {d : Option Tmp} {v : SV} {vv : Value} {ups : List Up} {k : St → Ans} {r : DRes} (hr : RFs B w0 β s a w) (h : applyS s d v ups k = some r)
    (he : Eff B β β' ups w w') (hv : SRel β' v vv) :
    RFs B w0 β' { tmps := consT d v s.tmps, store := ups ++ s.store, n := s.n } (a.put d vv) w' ∧ k { tmps := consT d v s.tmps, store := ups ++ s.store, n := s.n } = some r := by
  obtain ⟨h1, h2, h3⟩ := applyS_some h
  refine ⟨RF.apply hr he hv (newOK_iff h2) (dstOK_iff h1) (fun t u ht => getT_cons d v s.tmps t u ht) (fun x => ?_), h3⟩
  exact find_append ups s.store x

theorem applyS_fresh {β : Bt} {a : Act} {w : World} {s : St} {d : Option Tmp} {v : SV} {ups : List Up} {k : St → Ans} {r : DRes} (hr : RFs B w0 β s a w) (h : applyS s d v ups k = some r) :
    ∀ x b, (x, b) ∈ ups → x.1 = slot d → β x = none := by
  obtain ⟨_, h2, _⟩ := applyS_some h
  intro x b hm hx
  rcases (newOK_iff h2).old x b hm with ⟨h3, _⟩ | ⟨_, _, h4⟩
  · exact (hr.dom x).2 h3
  · exact absurd hx h4

/-- What is known of a guard. -/
theorem RFs.know {β : Bt} {a : Act} {w : World} {s : St} (hr : RFs B w0 β s a w) {g : Nat} {v : SV} (h : getT s.tmps g = some v) : RFs B w0 β { s with tmps := (g, some v) :: s.tmps } a w where
  toRW := hr.toRW.weaken (fun t u ht => by
    simp only [getT] at ht
    cases hb : Nat.beq g t with
    | true =>
      rw [hb] at ht
      simp only [cond_true, Option.some.injEq] at ht
      subst ht
      rw [← beq_iff.1 hb]; exact h
    | false => rw [hb] at ht; exact ht) (fun _ _ h => h)
  dom := hr.dom

theorem getD_bool {tmps : Array Value} {g : Nat} {b : Bool} (h : tmps.getD g undef = .bool b) : tmps[g]? = some (.bool b) := by
  rw [Array.getD_eq_getD_getElem?] at h
  cases hq : tmps[g]? with
  | none => rw [hq] at h; simp [undef] at h
  | some v => rw [hq] at h; simp only [Option.getD_some] at h; rw [h]

theorem dstOf_some {ops : Array Oper} {j g : Nat} (h : dstOf ops.toList j = some g) : ∃ o, ops[j]? = some o ∧ o.dst = some g := by
  unfold dstOf at h
  split at h
  · rename_i o ho
    rw [nth_eq] at ho
    exact ⟨o, by simpa using ho, h⟩
  · cases h

theorem yielded_bool {β : Bt} {ops : Array Oper} {a : Act} {j g : Nat} {b : Bool} (hd : dstOf ops.toList j = some g) (hv : SRel β (.v (.one (.bool b))) (a.tmps.getD g undef)) : yielded ops a.tmps j = some b := by
  obtain ⟨o, ho, hg⟩ := dstOf_some hd
  have := getD_bool hv
  simp [yielded, ho, hg, this]

theorem yielded_none {β : Bt} {ops : Array Oper} {a : Act} {j g : Nat} (hd : dstOf ops.toList j = some g) (hv : SRel β (.tup []) (a.tmps.getD g undef)) : yielded ops a.tmps j = none := by
  obtain ⟨o, ho, hg⟩ := dstOf_some hd
  obtain ⟨vs, hvs, hl⟩ := hv
  unfold yielded
  simp only [ho, Option.bind_some, hg]
  rw [Array.getD_eq_getD_getElem?] at hvs
  cases hq : a.tmps[g]? with
  | none => rfl
  | some v =>
    rw [hq] at hvs
    simp only [Option.getD_some] at hvs
    subst hvs
    rfl

theorem tup_undef (β : Bt) : SRel β (.tup []) undef := ⟨[], rfl, trivial⟩

/-- From one state to another, whatever the world. -/
def Goes (s s' : St) (run : (Act → World → Prop) → Act → World → Prop) : Prop :=
  ∀ (B : Nat) (w0 : World) (β : Bt) (a : Act) (w : World), RFs B w0 β s a w → ∀ K : Act → World → Prop, (∀ β' a' w', RFs B w0 β' s' a' w' → K a' w') → run K a w

theorem runOps_some {call : CallT} (hT : TOK P T) (hC : CallOK P call) {ops : Array Oper} {k : St → Ans} {r : DRes} :
    ∀ (rest : List Oper) (s : St), runOps T call ops.toList rest s k = some r → ∃ s', k s' = some r ∧ ∀ Q : Exit → Act → World → Prop, Goes s s' fun K a w => (∀ a w, K a w → Q .normal a w) → wpList P ops Q rest a w := by
  intro rest
  induction rest with
  | nil => intro s h; exact ⟨s, h, fun Q B w0 β a w hr K hK hQ => hQ a w (hK β a w hr)⟩
  | cons o rest ih =>
    intro s h
    have hrun : ∀ s1 : St, evalOp T call s1 o (fun v ups => applyS s1 o.dst v ups fun s'' => runOps T call ops.toList rest s'' k) = some r →
        ∃ s', k s' = some r ∧ ∀ Q : Exit → Act → World → Prop, Goes s1 s' fun K a w => (∀ a w, K a w → Q .normal a w) → o.wp P a w (wpList P ops Q rest) Q := fun s1 h1 => by
      obtain ⟨v, ups, h2, h3⟩ := evalOp_some hT hC h1
      obtain ⟨h4, h5, h6⟩ := applyS_some h2
      obtain ⟨s', h7, h8⟩ := ih _ h6
      refine ⟨s', h7, fun Q B w0 β a w hr K hK hQ => ?_⟩
      refine h3 B w0 β a w hr.toRW (fun x b hm hx => applyS_fresh hr h2 x b hm hx) _ _ fun vv w' β' h9 h10 => ?_
      exact h8 Q B w0 β' _ w' (applyS_ok hr h2 h10 h9).1 K hK hQ
    have hskip : ∀ s1 : St, applyS s1 o.dst (.tup []) [] (fun s'' => runOps T call ops.toList rest s'' k) = some r →
        ∃ s', k s' = some r ∧ ∀ Q : Exit → Act → World → Prop, Goes s1 s' fun K a w => (∀ a w, K a w → Q .normal a w) → wpList P ops Q rest (a.put o.dst undef) w := fun s1 h2 => by
      obtain ⟨h4, h5, h6⟩ := applyS_some h2
      obtain ⟨s', h7, h8⟩ := ih _ h6
      refine ⟨s', h7, fun Q B w0 β a w hr K hK hQ => ?_⟩
      exact h8 Q B w0 β _ w (applyS_ok hr h2 (Eff.refl B β w) (tup_undef β)).1 K hK hQ
    simp only [runOps] at h
    cases hg : o.guard with
    | none =>
      rw [hg] at h
      obtain ⟨s', h1, h2⟩ := hrun s h
      refine ⟨s', h1, fun Q B w0 β a w hr K hK hQ => ?_⟩
      have hw : Region.wanted o (yielded ops a.tmps) = true := by simp [Region.wanted, hg]
      unfold wpList
      rw [hw, if_pos rfl]
      exact .inl (h2 Q B w0 β a w hr K hK hQ)
    | some jw =>
      obtain ⟨j, want⟩ := jw
      rw [hg] at h
      simp only at h
      cases hd : dstOf ops.toList j with
      | none => rw [hd] at h; simp at h
      | some g =>
        rw [hd] at h
        simp only at h
        split at h
        · rename_i b hb
          have hw : ∀ {B : Nat} {w0 : World} {β : Bt} {a : Act} {w : World}, RFs B w0 β s a w → Region.wanted o (yielded ops a.tmps) = (some b == some want) := fun hr => by
            simp only [Region.wanted, hg, yielded_bool hd (hr.tmps _ _ hb)]
          have run : b = want → evalOp T call { s with tmps := (g, some (.v (.one (.bool b)))) :: s.tmps } o (fun v ups => applyS { s with tmps := (g, some (.v (.one (.bool b)))) :: s.tmps } o.dst v ups fun s'' => runOps T call ops.toList rest s'' k) = some r →
              ∃ s', k s' = some r ∧ ∀ Q : Exit → Act → World → Prop, Goes s s' fun K a w => (∀ a w, K a w → Q .normal a w) → wpList P ops Q (o :: rest) a w := fun hbw h1 => by
            obtain ⟨s', h2, h3⟩ := hrun _ h1
            refine ⟨s', h2, fun Q B w0 β a w hr K hK hQ => ?_⟩
            unfold wpList
            rw [hw hr, hbw, if_pos (by cases want <;> decide)]
            exact .inl (h3 Q B w0 β a w (hr.know hb) K hK hQ)
          have skip : b ≠ want → applyS { s with tmps := (g, some (.v (.one (.bool b)))) :: s.tmps } o.dst (.tup []) [] (fun s'' => runOps T call ops.toList rest s'' k) = some r →
              ∃ s', k s' = some r ∧ ∀ Q : Exit → Act → World → Prop, Goes s s' fun K a w => (∀ a w, K a w → Q .normal a w) → wpList P ops Q (o :: rest) a w := fun hbw h1 => by
            obtain ⟨s', h2, h3⟩ := hskip _ h1
            refine ⟨s', h2, fun Q B w0 β a w hr K hK hQ => ?_⟩
            unfold wpList
            rw [hw hr, if_neg (by simpa using hbw)]
            exact h3 Q B w0 β a w (hr.know hb) K hK hQ
          cases b with
          | true =>
            simp only [cond_true] at h
            cases want with
            | true => exact run rfl h
            | false => exact skip (by decide) h
          | false =>
            simp only [cond_false] at h
            cases want with
            | true => exact skip (by decide) h
            | false => exact run rfl h
        · rename_i hb
          obtain ⟨s', h2, h3⟩ := hskip _ h
          refine ⟨s', h2, fun Q B w0 β a w hr K hK hQ => ?_⟩
          have hw : Region.wanted o (yielded ops a.tmps) = false := by simp [Region.wanted, hg, yielded_none hd (hr.tmps _ _ hb)]
          unfold wpList
          rw [hw, if_neg (by decide)]
          exact h3 Q B w0 β a w hr K hK hQ
        · cases h

end
end Go.Eng
