/-
  Arguments and results without names, and the soundness of one operation that may call.
-/
import Derived.Test.YtjbmpimclagfoaaEngC
namespace Go.Eng
open Go.RowKit

def DRel (own : Bool) (B : Nat) (w : World) : DC → Value → Prop
  | .pc c, v => v = c.v
  | .sl sz els, v => ∃ bi, BRel (fun _ => none) B w bi (.arr own sz els) ∧ SlRel bi 0 bi.len v

def D1Rel (own : Bool) (B : Nat) (w : World) : D1 → Value → Prop
  | .one c, v => DRel own B w c v
  | .agg cs, v => ∃ vs : List Value, v = .agg vs.toArray ∧ All2 (DRel own B w) cs vs

def DResRel (B : Nat) (w : World) : DRes → Value → Prop
  | .v x, v => D1Rel true B w x v
  | .tup l, v => ∃ vs : List Value, v = .tuple vs.toArray ∧ All2 (D1Rel true B w) l vs

/-- What a function makes of such arguments. -/
structure FnSem (P : Program) (f : FuncId) (l : List D1) (d : DRes) : Prop where
  fn : ∃ fn c, P.funcs[f]? = some fn ∧ (fn.name == "runtime.NumGoroutine") = false ∧ fn.body = some c
  one : ∀ e, (shRUp e d).length ≤ 1
  call : ∀ (args : List Value) (w : World), All2 (D1Rel false w.heap.size w) l args → Calls P f args.toArray w fun e w' => ∃ v, e = .returned v ∧ DResRel w.heap.size w' d v ∧ Below w.heap.size w w'

def CallOK (P : Program) (call : CallT) : Prop := ∀ g l k r, call g l k = some r → ∃ d, k d = some r ∧ FnSem P g l d

/-! ### Names for what has none -/

theorem BRel.any {β β' : Bt} {B : Nat} {w : World} {bi : BI} {own : Bool} {sz : Nat} {els : Els} (h : BRel β B w bi (.arr own sz els)) : BRel β' B w bi (.arr own sz els) := h

structure Names (own : Bool) (B : Nat) (w : World) (γ : Bt) (ups : List Up) : Prop where
  dom : ∀ x bi, γ x = some bi → ∃ b, (x, b) ∈ ups
  blks : ∀ x b, (x, b) ∈ ups → ∃ sz els bi, b = some (.arr own sz els) ∧ γ x = some bi ∧ ∀ β, BRel β B w bi (.arr own sz els)

def join (γ β : Bt) : Bt := fun x => match γ x with
  | some b => some b
  | none => β x

theorem join_left {γ β : Bt} {x : Nm} {bi : BI} (h : γ x = some bi) : join γ β x = some bi := by simp [join, h]
theorem join_right {γ β : Bt} (hd : ∀ x a b, γ x = some a → β x = some b → False) {x : Nm} {bi : BI} (h : β x = some bi) : join γ β x = some bi := by
  unfold join
  split
  · rename_i a ha; exact (hd x a bi ha h).elim
  · exact h
theorem join_some {γ β : Bt} {x : Nm} {bi : BI} (h : join γ β x = some bi) : γ x = some bi ∨ (γ x = none ∧ β x = some bi) := by
  unfold join at h
  split at h
  · rename_i a ha; exact .inl (by rw [ha, h])
  · rename_i ha; exact .inr ⟨ha, h⟩

section
variable {own : Bool} {B : Nat} {w : World}

theorem Names.nil : Names own B w (fun _ => none) [] where
  dom x bi h := by cases h
  blks x b h := by cases h

theorem Names.join {γ δ : Bt} {u1 u2 : List Up} (h1 : Names own B w γ u1) (h2 : Names own B w δ u2) (hd : ∀ x a b, γ x = some a → δ x = some b → False) : Names own B w (join γ δ) (u1 ++ u2) where
  dom x bi h := by
    rcases join_some h with h | ⟨_, h⟩
    · obtain ⟨b, hb⟩ := h1.dom x bi h; exact ⟨b, List.mem_append_left _ hb⟩
    · obtain ⟨b, hb⟩ := h2.dom x bi h; exact ⟨b, List.mem_append_right _ hb⟩
  blks x b hm := by
    rcases List.mem_append.1 hm with hm | hm
    · obtain ⟨sz, els, bi, h3, h4, h5⟩ := h1.blks x b hm
      exact ⟨sz, els, bi, h3, join_left h4, h5⟩
    · obtain ⟨sz, els, bi, h3, h4, h5⟩ := h2.blks x b hm
      exact ⟨sz, els, bi, h3, join_right hd h4, h5⟩

theorem names_C (d i : Nat) {c : DC} {v : Value} (h : DRel own B w c v) : ∃ γ, Names own B w γ (shUp own d i c) ∧ CRel γ (shC d i c) v ∧ ∀ x bi, γ x = some bi → x = (d, i) := by
  cases c with
  | pc c => exact ⟨_, Names.nil, by obtain rfl : v = c.v := h; exact PC.rel _ c, fun _ _ h => by cases h⟩
  | sl sz els =>
    obtain ⟨bi, h1, h2⟩ := h
    refine ⟨upd (fun _ => none) (d, i) bi, ⟨fun x bj hx => ?_, fun x b hm => ?_⟩, ⟨bi, upd_same _ _ _, h2⟩, fun x bj hx => ?_⟩
    · by_cases he : (d, i) = x
      · subst he; exact ⟨_, List.mem_singleton.2 rfl⟩
      · rw [upd_other _ bi he] at hx; cases hx
    · simp only [shUp, List.mem_singleton, Prod.mk.injEq] at hm
      obtain ⟨rfl, rfl⟩ := hm
      exact ⟨sz, els, bi, rfl, upd_same _ _ _, fun _ => h1⟩
    · by_cases he : (d, i) = x
      · exact he.symm
      · rw [upd_other _ bi he] at hx; cases hx

theorem names_Cs (d : Nat) : ∀ {cs : List DC} {vs : List Value} (i : Nat), All2 (DRel own B w) cs vs → ∃ γ, Names own B w γ (shUps own d i cs) ∧ All2 (CRel γ) (shCs d i cs) vs ∧ ∀ x bi, γ x = some bi → x.1 = d ∧ i ≤ x.2 := by
  intro cs
  induction cs with
  | nil => intro vs i h; cases vs with
    | nil => exact ⟨_, Names.nil, trivial, fun _ _ h => by cases h⟩
    | cons => simp [All2] at h
  | cons c cs ih => intro vs i h; cases vs with
    | nil => simp [All2] at h
    | cons v vs =>
      obtain ⟨γ, h1, h2, h3⟩ := names_C d i h.1
      obtain ⟨δ, h4, h5, h6⟩ := ih (i + 1) h.2
      have hd : ∀ x a b, γ x = some a → δ x = some b → False := fun x a b ha hb => by
        have e1 := h3 x a ha
        have e2 := (h6 x b hb).2
        rw [e1] at e2
        simp at e2
        omega
      refine ⟨join γ δ, h1.join h4 hd, ⟨h2.mono fun _ _ => join_left, h5.mono fun _ _ => CRel.mono fun _ _ => join_right hd⟩, fun x bi hx => ?_⟩
      rcases join_some hx with hx | ⟨_, hx⟩
      · have := h3 x bi hx; subst this; exact ⟨rfl, Nat.le_refl _⟩
      · have := h6 x bi hx; exact ⟨this.1, by omega⟩

theorem names_1 (d i : Nat) {x : D1} {v : Value} (h : D1Rel own B w x v) : ∃ γ, Names own B w γ (sh1Up own d i x) ∧ V1Rel γ (sh1 d i x) v ∧ ∀ x bi, γ x = some bi → x.1 = d := by
  cases x with
  | one c =>
    obtain ⟨γ, h1, h2, h3⟩ := names_C d i h
    exact ⟨γ, h1, h2, fun x bi hx => by rw [h3 x bi hx]⟩
  | agg cs =>
    obtain ⟨vs, rfl, hvs⟩ := h
    obtain ⟨γ, h1, h2, h3⟩ := names_Cs d i hvs
    exact ⟨γ, h1, ⟨vs, rfl, h2⟩, fun x bi hx => (h3 x bi hx).1⟩

theorem names_L (d : Nat) : ∀ {l : List D1} {vs : List Value} (i : Nat), All2 (D1Rel own B w) l vs → (shLUp own d i l).length ≤ 1 →
    ∃ γ, Names own B w γ (shLUp own d i l) ∧ All2 (V1Rel γ) (shL d i l) vs ∧ ∀ x bi, γ x = some bi → x.1 = d := by
  intro l
  induction l with
  | nil => intro vs i h _; cases vs with
    | nil => exact ⟨_, Names.nil, trivial, fun _ _ h => by cases h⟩
    | cons => simp [All2] at h
  | cons c cs ih => intro vs i h hone; cases vs with
    | nil => simp [All2] at h
    | cons v vs =>
      simp only [shLUp, List.length_append] at hone
      obtain ⟨γ, h1, h2, h3⟩ := names_1 d i h.1
      obtain ⟨δ, h4, h5, h6⟩ := ih (i + 100) h.2 (by omega)
      have hd : ∀ x a b, γ x = some a → δ x = some b → False := fun x a b ha hb => by
        obtain ⟨_, hb1⟩ := h1.dom x a ha
        obtain ⟨_, hb2⟩ := h4.dom x b hb
        have := List.length_pos_of_mem hb1
        have := List.length_pos_of_mem hb2
        omega
      refine ⟨join γ δ, h1.join h4 hd, ⟨h2.mono fun _ _ => join_left, h5.mono fun _ _ => V1Rel.mono fun _ _ => join_right hd⟩, fun x bi hx => ?_⟩
      rcases join_some hx with hx | ⟨_, hx⟩
      · exact h3 x bi hx
      · exact h6 x bi hx

theorem names_R (d : Nat) {r : DRes} {v : Value} (h : DResRel B w r v) (hone : (shRUp d r).length ≤ 1) : ∃ γ, Names true B w γ (shRUp d r) ∧ SRel γ (shR d r) v ∧ ∀ x bi, γ x = some bi → x.1 = d := by
  cases r with
  | v x => exact names_1 d 0 h
  | tup l =>
    obtain ⟨vs, rfl, hvs⟩ := h
    obtain ⟨γ, h1, h2, h3⟩ := names_L d 0 hvs hone
    exact ⟨γ, h1, ⟨vs, rfl, h2⟩, h3⟩
end

/-- What a call does to memory. -/
theorem Eff.call {B : Nat} {β γ : Bt} {w w' : World} {ups : List Up} (hB : B ≤ w.heap.size) (hb : Below w.heap.size w w') (hn : Names true w.heap.size w' γ ups) (hone : ups.length ≤ 1)
    (hfresh : ∀ x b, (x, b) ∈ ups → β x = none) : Eff B β (join γ β) ups w w' := by
  have hd : ∀ x a b, γ x = some a → β x = some b → False := fun x a b ha hb => by
    obtain ⟨c, hc⟩ := hn.dom x a ha
    rw [hfresh x c hc] at hb; cases hb
  refine ⟨fun x bi h => join_right hd h, fun x bi h h0 => ?_, fun x b h => ?_, hb.mono hB, fun k hk _ => hb.block k hk, fun x b h => ?_, fun x bi h0 h hr => ?_, fun x y bx by_ h0 h0' hx hy _ _ _ => ?_⟩
  · rcases join_some h with h | ⟨_, h⟩
    · exact hn.dom x bi h
    · rw [h0] at h; cases h
  · obtain ⟨_, _, bi, _, h1, _⟩ := hn.blks x b h
    exact ⟨bi, join_left h1⟩
  · obtain ⟨sz, els, bi, he, h1, h2⟩ := hn.blks x (some b) h
    simp only [Option.some.injEq] at he
    subst he
    refine ⟨bi, join_left h1, ?_⟩
    obtain ⟨a1, a2, a3, a4, a5, a6, a7⟩ := h2 β
    refine ⟨a1, a2, a3, a4, a5, a6, fun hc => ?_⟩
    obtain ⟨b1, b2⟩ := a7 hc
    exact ⟨Nat.le_trans hB b1, b2⟩
  · rcases join_some h with h | ⟨_, h⟩
    · obtain ⟨b, hb2⟩ := hn.dom x bi h
      obtain ⟨sz, els, bj, _, h1, h2⟩ := hn.blks x b hb2
      rw [h] at h1
      obtain rfl : bi = bj := by injection h1
      exact .inl ((real_lt (h2 β) hr).2)
    · rw [h0] at h; cases h
  · have key : ∀ z bz, β z = none → join γ β z = some bz → ∃ b, (z, b) ∈ ups := fun z bz hz0 hz => by
      rcases join_some hz with hz | ⟨_, hz⟩
      · exact hn.dom z bz hz
      · rw [hz0] at hz; cases hz
    obtain ⟨b1, hb1⟩ := key x bx h0 hx
    obtain ⟨b2, hb2⟩ := key y by_ h0' hy
    match ups, hone, hb1, hb2 with
    | [p], _, hb1, hb2 =>
      simp only [List.mem_singleton] at hb1 hb2
      rw [← hb2] at hb1
      simp only [Prod.mk.injEq] at hb1
      exact hb1.1

theorem shUps_names (own : Bool) (d : Nat) : ∀ (cs : List DC) (i : Nat) x b, (x, b) ∈ shUps own d i cs → x.1 = d := by
  intro cs
  induction cs with
  | nil => intro i x b h; cases h
  | cons c cs ih =>
    intro i x b h
    simp only [shUps, List.mem_append] at h
    rcases h with h | h
    · cases c with
      | pc c => cases h
      | sl sz els => simp only [shUp, List.mem_singleton, Prod.mk.injEq] at h; rw [h.1]
    · exact ih (i + 1) x b h

theorem sh1Up_names (own : Bool) (d i : Nat) (x : D1) (y : Nm) (b : Option Blk) (h : (y, b) ∈ sh1Up own d i x) : y.1 = d := by
  cases x with
  | one c => exact shUps_names own d [c] i y b (by simp only [sh1Up] at h; simpa [shUps] using h)
  | agg cs => exact shUps_names own d cs i y b h

theorem shLUp_names (own : Bool) (d : Nat) : ∀ (l : List D1) (i : Nat) x b, (x, b) ∈ shLUp own d i l → x.1 = d := by
  intro l
  induction l with
  | nil => intro i x b h; cases h
  | cons c cs ih =>
    intro i x b h
    simp only [shLUp, List.mem_append] at h
    rcases h with h | h
    · exact sh1Up_names own d i c x b h
    · exact ih (i + 100) x b h

theorem shRUp_names (d : Nat) (r : DRes) (x : Nm) (b : Option Blk) (h : (x, b) ∈ shRUp d r) : x.1 = d := by
  cases r with
  | v y => exact sh1Up_names true d 0 y x b h
  | tup l => exact shLUp_names true d l 0 x b h

section
variable {P : Program} {T : TT} {B : Nat} {β : Bt} {w w0 : World} {s : St} {a : Act}

/-- The same block, read only. -/
theorem BRel.read {bi : BI} {own : Bool} {sz : Nat} {E : Els} (h : BRel β B w bi (.arr own sz E)) (hB : B ≤ w.heap.size) : ∀ (i : Nat) (e : List PC), E.list[i]? = some e → ∀ (j : Nat) (p : PC), e[j]? = some p →
    bi.b < w.heap.size ∧ w.cell? ⟨bi.b, bi.o + i * sz + j, none⟩ = some p.v := by
  intro i e hi j p hj
  obtain ⟨h1, h2, h3, h4, h5⟩ := h
  cases own with
  | false => obtain ⟨h6, h7⟩ := h5 i e hi j p hj; exact ⟨by omega, h7⟩
  | true =>
    obtain ⟨h6, h7, h8⟩ := h5
    have hlt : i < E.list.length := (List.getElem?_eq_some_iff.1 hi).1
    obtain ⟨_, arr, t, hh, _, hin⟩ := h8 (by omega)
    refine ⟨?_, ?_⟩
    · rcases Nat.lt_or_ge bi.b w.heap.size with hl | hl
      · exact hl
      · rw [Array.getElem?_eq_none hl] at hh; cases hh
    · rw [cell_of hh, h6]
      simpa using hin i e hi j p hj

theorem deepC_ok (hr : RWs B w0 β s a w) {z : Nat} {c : Cell} {v : Value} {dc : DC} (h : deepC s.store z c = some dc) (hc : CRel β c v) : DRel false w.heap.size w dc v := by
  cases c <;> try (simp [deepC] at h; done)
  case int k n => simp only [deepC, Option.some.injEq] at h; subst h; exact hc
  case bool b => simp only [deepC, Option.some.injEq] at h; subst h; exact hc
  case nils =>
    simp only [deepC, Option.some.injEq] at h
    subst h
    obtain rfl : v = .slice none 0 0 := hc
    exact ⟨⟨0, 0, z, false, 0, 0⟩, ⟨rfl, rfl, rfl, fun i e hi => by simp [Els.list] at hi, fun i e hi => by simp [Els.list] at hi⟩, none, 0, rfl, Nat.le_refl _, Nat.le_refl _, fun h => by simp at h, fun h => by simp at h⟩
  case whole x =>
    obtain ⟨bi, hbi, av, cap, rfl, hcap, hlen, hown, had⟩ := hc
    simp only [deepC] at h
    split at h
    case h_2 => cases h
    case h_1 own sz es hl =>
      simp only [Option.some.injEq] at h
      subst h
      obtain ⟨bi2, hbi2, hrel⟩ := live_ok hr hl
      rw [hbi] at hbi2
      obtain rfl : bi = bi2 := by injection hbi2
      refine ⟨{ bi with own := false }, ⟨rfl, hrel.2.1, hrel.2.2.1, hrel.2.2.2.1, fun i e hi j p hj => hrel.read hr.hB i e hi j p hj⟩, av, cap, rfl, hcap, hlen, fun h => by simp at h, fun hc => had (.inr ?_)⟩
      rcases hc with ⟨hc, _⟩ | hc
      · simp at hc
      · exact hc
  case sl x off ln =>
    obtain ⟨bi, hbi, av, cap, rfl, hcap, hlen, hown, had⟩ := hc
    simp only [deepC] at h
    split at h
    case h_2 => cases h
    case h_1 own sz es hl =>
      simp only [Option.some.injEq] at h
      subst h
      obtain ⟨bi2, hbi2, hrel⟩ := live_ok hr hl
      rw [hbi] at hbi2
      obtain rfl : bi = bi2 := by injection hbi2
      have hle : bi.len = es.list.length := hrel.2.2.1
      have hcut := cut_list (E := es) (off := off) (ln := ln) (by omega)
      have hl2 : (es.cut off ln).list.length = ln := by rw [hcut, List.length_take, List.length_drop]; omega
      have hget : ∀ (i : Nat) (e : List PC), (es.cut off ln).list[i]? = some e → es.list[off + i]? = some e := fun i e hi => by
        rw [hcut] at hi
        rw [List.getElem?_take] at hi
        split at hi
        · simpa using hi
        · cases hi
      refine ⟨⟨bi.b, bi.o + off * bi.sz, bi.sz, false, 0, ln⟩, ⟨rfl, hrel.2.1, hl2.symm, fun i e hi => hrel.2.2.2.1 _ e (hget i e hi), fun i e hi j p hj => ?_⟩, av, cap, rfl, hcap, by simp, fun h => by simp at h, fun hc => ?_⟩
      · have := hrel.read hr.hB _ e (hget i e hi) j p hj
        have hsz : bi.sz = sz := hrel.2.1
        simp only [hsz]
        rw [show bi.o + off * sz + i * sz + j = bi.o + (off + i) * sz + j by rw [Nat.add_mul]; omega]
        exact this
      · rcases hc with ⟨hc, _⟩ | hc
        · simp at hc
        · simpa using had (.inr hc)

theorem deepCs_ok (hr : RWs B w0 β s a w) : ∀ {cs : List Cell} {vs : List Value} {l : List DC}, deepCs s.store cs = some l → All2 (CRel β) cs vs → All2 (DRel false w.heap.size w) l vs := by
  intro cs
  induction cs with
  | nil => intro vs l h hc; cases vs with
    | nil => simp only [deepCs, Option.some.injEq] at h; subst h; trivial
    | cons => simp [All2] at hc
  | cons c cs ih => intro vs l h hc; cases vs with
    | nil => simp [All2] at hc
    | cons v vs =>
      simp only [deepCs] at h
      split at h
      case h_2 => cases h
      case h_1 x l' hx hl =>
        simp only [Option.some.injEq] at h
        subst h
        exact ⟨deepC_ok hr hx hc.1, ih hl hc.2⟩

theorem deep1_ok (hr : RWs B w0 β s a w) {z : Nat} {x : V1} {v : Value} {d : D1} (h : deep1 s.store z x = some d) (hx : V1Rel β x v) : D1Rel false w.heap.size w d v := by
  cases x with
  | one c =>
    simp only [deep1] at h
    split at h
    case h_2 => cases h
    case h_1 y hy => simp only [Option.some.injEq] at h; subst h; exact deepC_ok hr hy hx
  | agg cs =>
    simp only [deep1] at h
    split at h
    case h_2 => cases h
    case h_1 y hy =>
      simp only [Option.some.injEq] at h
      subst h
      obtain ⟨vs, rfl, hvs⟩ := hx
      exact ⟨vs, rfl, deepCs_ok hr hy hvs⟩

theorem deepArgs_ok (hr : RWs B w0 β s a w) : ∀ {xs : List Operand} {ts : List TypeId} {l : List D1}, deepArgs T s xs ts = some l → All2 (D1Rel false w.heap.size w) l (xs.map a.eval) := by
  intro xs
  induction xs with
  | nil => intro ts l h; simp only [deepArgs, Option.some.injEq] at h; subst h; trivial
  | cons x xs ih =>
    intro ts l h
    simp only [deepArgs] at h
    split at h
    case h_2 => cases h
    case h_1 v hv =>
      split at h
      case h_2 => cases h
      case h_1 y l' hy hl =>
        simp only [Option.some.injEq] at h
        subst h
        exact ⟨deep1_ok hr hy (ev1_ok hr hv), ih hl⟩

/-! ### One operation -/

theorem callFunc_run {f : FuncId} {fn : Func} {c : Code} (hf : P.funcs[f]? = some fn) (hn : (fn.name == "runtime.NumGoroutine") = false) (hb : fn.body = some c) (args : Array Value) (w : World) :
    (callFunc f args).run P w = .ok (.enter f args) w := by
  unfold callFunc
  have hn' : ¬ fn.name = "runtime.NumGoroutine" := by simpa using hn
  simp [Sem.run_bind, hf, hn', hb]

theorem Ran.wp {o : Oper} {v : SV} {ups : List Up} {K : Act → World → Prop} {Q : Exit → Act → World → Prop} (h : Ran P B β w (execOp a.eval o) v ups)
    (hk : ∀ vv w' β', SRel β' v vv → Eff B β β' ups w w' → K (a.put o.dst vv) w') : o.wp P a w K Q := by
  obtain ⟨vv, w', β', h1, h2, h3⟩ := h
  unfold Oper.wp
  rcases h1 with h1 | ⟨h1, rfl⟩
  · rw [h1]; exact hk _ _ _ h2 h3
  · rw [h1]; exact hk _ _ _ h2 h3

/-- What an operation comes to, whatever the world. -/
def OpSem (P : Program) (o : Oper) (s : St) (v : SV) (ups : List Up) : Prop :=
  ∀ (B : Nat) (w0 : World) (β : Bt) (a : Act) (w : World), RWs B w0 β s a w → (∀ x b, (x, b) ∈ ups → x.1 = slot o.dst → β x = none) →
    ∀ (K : Act → World → Prop) (Q : Exit → Act → World → Prop), (∀ vv w' β', SRel β' v vv → Eff B β β' ups w w' → K (a.put o.dst vv) w') → o.wp P a w K Q

theorem evalOp_some {call : CallT} (hT : TOK P T) (hC : CallOK P call) {o : Oper} {k : SV → List Up → Ans} {r : DRes} (h : evalOp T call s o k = some r) :
    ∃ v ups, k v ups = some r ∧ OpSem P o s v ups := by
  have hP : (match evalP T s (slot o.dst) o.op with
      | some (ob, v, ups) => cond ob (k v ups) none
      | none => none) = some r → ∃ v ups, k v ups = some r ∧ OpSem P o s v ups := fun h => by
    split at h
    case h_2 => cases h
    case h_1 ob v ups he =>
      obtain ⟨h1, h2⟩ := cond_none h
      subst h1
      exact ⟨v, ups, h2, fun B w0 β a w hr hf K Q hk => Ran.wp (evalP_ok hT hr he hf) hk⟩
  have hmove : ∀ (x : Operand) (v : SV) (hv : s.ev x = some v) (ho : ∀ (B : Nat) (w0 : World) (β : Bt) (a : Act) (w : World), RWs B w0 β s a w → (execOp a.eval o).run P w = .ok (.value (a.eval x)) w), OpSem P o s v [] := fun x v hv ho B w0 β a w hr _ K Q hk =>
    Ran.wp (v := v) (ups := []) ⟨a.eval x, w, β, .inl (ho B w0 β a w hr), ev_ok hr hv, Eff.refl B β w⟩ hk
  unfold evalOp at h
  split at h
  · rename_i c x y hop
    split at h
    case h_2 => cases h
    case h_1 t ht =>
      cases t with
      | true =>
        simp only [cond_true] at h
        split at h
        case h_2 => cases h
        case h_1 v hv =>
          refine ⟨v, [], h, hmove x v hv fun B w0 β a w hr => ?_⟩
          have hc : a.eval c = .bool true := evc_ok hr ht
          unfold execOp
          rw [hop]
          simp [hc, asBool]
      | false =>
        simp only [cond_false] at h
        split at h
        case h_2 => cases h
        case h_1 v hv =>
          refine ⟨v, [], h, hmove y v hv fun B w0 β a w hr => ?_⟩
          have hc : a.eval c = .bool false := evc_ok hr ht
          unfold execOp
          rw [hop]
          simp [hc, asBool]
  · rename_i f args argTypes hop
    split at h
    case h_2 => cases h
    case h_1 g hg =>
      split at h
      case h_2 => cases h
      case h_1 l hl =>
        obtain ⟨d, h1, hsem⟩ := hC _ _ _ _ h
        refine ⟨_, _, h1, fun B w0 β a w hr hf K Q hk => ?_⟩
        obtain ⟨fn, c, hf1, hf2, hf3⟩ := hsem.fn
        have hfv : a.eval f = .func (.func g) #[] #[] := evc_ok hr hg
        have hargs := deepArgs_ok hr hl
        have hrun : (execOp a.eval o).run P w = .ok (.enter g (args.toList.map a.eval).toArray) w := by
          unfold execOp
          rw [hop]
          have := callFunc_run hf1 hf2 hf3 (args.map a.eval) w
          have he : args.map a.eval = (args.toList.map a.eval).toArray := by apply Array.ext'; rw [Array.toList_map]
          rw [← he]
          simp [resolve, Deferred.ofValue, hfv, invoke, this]
        unfold Oper.wp
        rw [hrun, Oper.upon_enter]
        refine Calls.mono (hsem.call _ w hargs) fun e w' he => ?_
        obtain ⟨v, rfl, hv, hbel⟩ := he
        obtain ⟨γ, h2, h3, h4⟩ := names_R (slot o.dst) hv (hsem.one _)
        have hfresh : ∀ x b, (x, b) ∈ shRUp (slot o.dst) d → β x = none := fun x b hm => hf x b hm (shRUp_names _ _ x b hm)
        exact hk v w' (join γ β) (h3.mono fun _ _ => join_left) (Eff.call hr.hB hbel h2 (hsem.one _) hfresh)
  · exact hP h

theorem evalOp_ok {call : CallT} (hT : TOK P T) (hC : CallOK P call) (hr : RWs B w0 β s a w) {o : Oper} {k : SV → List Up → Ans} {r : DRes} (h : evalOp T call s o k = some r)
    (hf : ∀ v ups, k v ups = some r → ∀ x b, (x, b) ∈ ups → x.1 = slot o.dst → β x = none)
    {K : Act → World → Prop} {Q : Exit → Act → World → Prop}
    (hk : ∀ v ups vv w' β', k v ups = some r → SRel β' v vv → Eff B β β' ups w w' → K (a.put o.dst vv) w') : o.wp P a w K Q := by
  obtain ⟨v, ups, h1, h2⟩ := evalOp_some hT hC h
  exact h2 B w0 β a w hr (hf v ups h1) K Q fun vv w' β' h3 h4 => hk v ups vv w' β' h1 h3 h4

end
end Go.Eng
