/-
  Soundness of the evaluator: a function called, and the calls it makes.
-/
import Derived.Test.YtjbmpimclagfoaaEngH
namespace Go.Eng
open Go.RowKit

theorem lenA_eq {α : Type} (l : List α) : lenA l = l.length := by
  induction l with
  | nil => rfl
  | cons a l ih => simp [lenA, ih]

theorem shUps_length (own : Bool) (d : Nat) : ∀ (cs : List DC) (i : Nat), (shUps own d i cs).length = lenA (cs.filter fun c => match c with | .sl _ _ => true | .pc _ => false) := by
  intro cs
  induction cs with
  | nil => intro i; rfl
  | cons c cs ih =>
    intro i
    simp only [shUps, List.length_append, ih (i + 1), lenA_eq]
    cases c <;> simp [shUp]
    omega

theorem sh1Up_length (own : Bool) (d i : Nat) (x : D1) : (sh1Up own d i x).length = oneSl [x] := by
  cases x with
  | one c => cases c <;> simp [sh1Up, shUp, oneSl]
  | agg cs => simp only [sh1Up, shUps_length, oneSl, Nat.add_zero]; rfl

theorem oneSl_cons (x : D1) (l : List D1) : oneSl (x :: l) = oneSl [x] + oneSl l := by
  cases x with
  | one c => cases c <;> simp [oneSl, Nat.add_comm]
  | agg cs => simp [oneSl]

theorem shLUp_length (own : Bool) (d : Nat) : ∀ (l : List D1) (i : Nat), (shLUp own d i l).length = oneSl l := by
  intro l
  induction l with
  | nil => intro i; rfl
  | cons x l ih => intro i; rw [oneSl_cons]; simp only [shLUp, List.length_append, ih, sh1Up_length]

section
variable {P : Program} {T : TT} {B : Nat} {β : Bt} {w w0 : World} {s : St} {a : Act}

theorem ownC_ok (hr : RWs B w0 β s a w) {z : Nat} {c : Cell} {v : Value} {dc : DC} (h : ownC s.store z c = some dc) (hc : CRel β c v) : DRel true B w dc v := by
  cases c <;> try (simp [ownC] at h; done)
  case int k n => simp only [ownC, Option.some.injEq] at h; subst h; exact hc
  case bool b => simp only [ownC, Option.some.injEq] at h; subst h; exact hc
  case nils =>
    simp only [ownC, Option.some.injEq] at h
    subst h
    obtain rfl : v = .slice none 0 0 := hc
    exact ⟨⟨0, 0, z, true, 0, 0⟩, ⟨rfl, rfl, rfl, fun i e hi => by simp [Els.list] at hi, rfl, Nat.le_refl _, fun h => by simp at h⟩, none, 0, rfl, Nat.le_refl _, Nat.le_refl _, fun h => rfl, fun h => by simp at h⟩
  case whole x =>
    obtain ⟨bi, hbi, hsl⟩ := hc
    simp only [ownC] at h
    split at h
    case h_2 => cases h
    case h_1 sz es hl =>
      simp only [Option.some.injEq] at h
      subst h
      obtain ⟨bi2, hbi2, hrel⟩ := live_ok hr hl
      rw [hbi] at hbi2
      obtain rfl : bi = bi2 := by injection hbi2
      exact ⟨bi, hrel.any, hsl⟩

theorem ownCs_ok (hr : RWs B w0 β s a w) : ∀ {cs : List Cell} {vs : List Value} {l : List DC}, ownCs s.store cs = some l → All2 (CRel β) cs vs → All2 (DRel true B w) l vs := by
  intro cs
  induction cs with
  | nil => intro vs l h hc; cases vs with
    | nil => simp only [ownCs, Option.some.injEq] at h; subst h; trivial
    | cons => simp [All2] at hc
  | cons c cs ih => intro vs l h hc; cases vs with
    | nil => simp [All2] at hc
    | cons v vs =>
      simp only [ownCs] at h
      split at h
      case h_2 => cases h
      case h_1 x l' hx hl =>
        simp only [Option.some.injEq] at h
        subst h
        exact ⟨ownC_ok hr hx hc.1, ih hl hc.2⟩

theorem own1_ok (hr : RWs B w0 β s a w) {z : Nat} {x : V1} {v : Value} {d : D1} (h : own1 s.store z x = some d) (hx : V1Rel β x v) : D1Rel true B w d v := by
  cases x with
  | one c =>
    simp only [own1] at h
    split at h
    case h_2 => cases h
    case h_1 y hy => simp only [Option.some.injEq] at h; subst h; exact ownC_ok hr hy hx
  | agg cs =>
    simp only [own1] at h
    split at h
    case h_2 => cases h
    case h_1 y hy =>
      simp only [Option.some.injEq] at h
      subst h
      obtain ⟨vs, rfl, hvs⟩ := hx
      exact ⟨vs, rfl, ownCs_ok hr hy hvs⟩

/-- One result variable, read. -/
def rvRun (tmps : Array Value) : ResultVar → Sem Value
  | .tmp t => pure (tmps.getD t undef)
  | .cell a t => do loadVar t (← asAddr (tmps.getD a undef))

theorem resOf_ok (hT : TOK P T) (hr : RWs B w0 β s a w) {z : Nat} {rv : ResultVar} {d : D1} (h : resOf T s z rv = some d) : ∃ v, (rvRun a.tmps rv).run P w = .ok v w ∧ D1Rel true B w d v := by
  cases rv with
  | tmp t =>
    simp only [resOf] at h
    split at h
    case h_2 => cases h
    case h_1 x hx => exact ⟨_, rfl, own1_ok hr h (hr.tmps t _ hx)⟩
  | cell p t =>
    simp only [resOf] at h
    split at h
    case h_2 => cases h
    case h_1 x i j dy e hp he =>
      split at h
      case h_2 => cases h
      case h_1 blk hl =>
        have hte := hT t e he
        obtain ⟨bi, hbi, hv⟩ : CRel β (.ptr x i j dy) (a.tmps.getD p undef) := hr.tmps p _ hp
        obtain ⟨bi2, hbi2, hrel⟩ := live_ok hr hl
        rw [hbi] at hbi2
        obtain rfl : bi = bi2 := by injection hbi2
        cases hag : e.agg with
        | true =>
          rw [hag] at h
          simp only [cond_true] at h
          split at h
          case h_2 => cases h
          case h_1 cs hq =>
            obtain ⟨vs, h1, h2, h3⟩ := rdN_ok hq hrel
            refine ⟨.agg vs.toArray, ?_, own1_ok hr h ⟨vs, rfl, h2⟩⟩
            simp only [rvRun, hv, asAddr, Sem.run_bind, Sem.run_pure, Result.andThen_ok]
            exact run_loadVar_agg hte hag h1 h3
        | false =>
          rw [hag] at h
          simp only [cond_false] at h
          split at h
          case h_2 => cases h
          case h_1 c hq =>
            obtain ⟨vv, h1, h2⟩ := rd1_ok hq hrel
            refine ⟨vv, ?_, own1_ok hr h h2⟩
            simp only [rvRun, hv, asAddr, Sem.run_bind, Sem.run_pure, Result.andThen_ok]
            exact run_loadVar_cell hte hag h1

theorem resAll_ok (hT : TOK P T) (hr : RWs B w0 β s a w) : ∀ {rvs : List ResultVar} {ts : List TypeId} {l : List D1}, resAll T s rvs ts = some l → ∃ vs : List Value, (rvs.mapM (rvRun a.tmps)).run P w = .ok vs w ∧ All2 (D1Rel true B w) l vs := by
  intro rvs
  induction rvs with
  | nil => intro ts l h; simp only [resAll, Option.some.injEq] at h; subst h; exact ⟨[], rfl, trivial⟩
  | cons rv rvs ih =>
    intro ts l h
    simp only [resAll] at h
    split at h
    case h_2 => cases h
    case h_1 x xs hx hxs =>
      simp only [Option.some.injEq] at h
      subst h
      obtain ⟨v, h1, h2⟩ := resOf_ok hT hr hx
      obtain ⟨vs, h3, h4⟩ := ih hxs
      refine ⟨v :: vs, ?_, h2, h4⟩
      rw [List.mapM_cons]
      simp only [Sem.run_bind, h1, Result.andThen_ok, h3, Sem.run_pure]

theorem results_run {fn : Func} {tmps : Array Value} {vs : List Value} (h : (fn.results.toList.mapM (rvRun tmps)).run P w = .ok vs w) :
    (results fn tmps).run P w = .ok (if h : vs.length = 1 then vs[0] else .tuple vs.toArray) w := by
  have he : results fn tmps = (do
      let vs ← fn.results.mapM (rvRun tmps)
      pure (if h : vs.size = 1 then vs[0] else .tuple vs)) := by
    unfold results
    congr 1
  rw [he, Array.mapM_eq_mapM_toList]
  simp only [Sem.run_bind, map_eq_pure_bind, Sem.run_pure, h, Result.andThen_ok]
  by_cases h1 : vs.length = 1
  · rw [dif_pos (by simpa using h1), dif_pos h1, List.getElem_toArray]
  · rw [dif_neg (by simpa using h1), dif_neg h1]
end

/-! ### The first state -/

theorem names_init {B : Nat} {w : World} : ∀ {l : List D1} {vs : List Value} (p : Nat), All2 (D1Rel false B w) l vs →
    ∃ γ, Names false B w γ (initS p l) ∧ (∀ t u, getT (initT p l) t = some u → ∃ j vv, t = p + j ∧ vs[j]? = some vv ∧ SRel γ u vv) ∧ ∀ x bi, γ x = some bi → p ≤ x.1 := by
  intro l
  induction l with
  | nil => intro vs p _; exact ⟨fun _ => none, Names.nil, fun _ _ h => by simp [initT, getT] at h, fun _ _ h => by cases h⟩
  | cons x l ih =>
    intro vs p h
    cases vs with
    | nil => simp [All2] at h
    | cons v vs =>
      obtain ⟨γ, h1, h2, h3⟩ := names_1 p 1000 h.1
      obtain ⟨δ, h4, h5, h6⟩ := ih (p + 1) h.2
      have hd : ∀ x a b, γ x = some a → δ x = some b → False := fun x a b ha hb => by
        have := h3 x a ha
        have := h6 x b hb
        omega
      refine ⟨join γ δ, h1.join h4 hd, fun t u ht => ?_, fun x bi hx => ?_⟩
      · simp only [initT, getT] at ht
        cases hb : Nat.beq p t with
        | true =>
          rw [hb] at ht
          simp only [cond_true, Option.some.injEq] at ht
          subst ht
          exact ⟨0, v, (beq_iff.1 hb).symm, rfl, h2.mono fun _ _ => join_left⟩
        | false =>
          rw [hb] at ht
          obtain ⟨j, vv, h7, h8, h9⟩ := h5 t u ht
          exact ⟨j + 1, vv, by omega, by simpa using h8, h9.mono fun _ _ => join_right hd⟩
      · rcases join_some hx with hx | ⟨_, hx⟩
        · rw [h3 x bi hx]; exact Nat.le_refl _
        · have := h6 x bi hx; omega

def firstSt (fn : Func) (args : List D1) : St := { tmps := initT 0 args, store := initS 0 args, n := cond (Nat.ble (lenA args) fn.ntmps) fn.ntmps (lenA args) }

theorem first_ok {fn : Func} {l : List D1} {args : List Value} {w : World} (h : All2 (D1Rel false w.heap.size w) l args) :
    ∃ β, RFs w.heap.size w β (firstSt fn l) { tmps := args.toArray ++ Array.replicate (fn.ntmps - args.toArray.size) undef, defers := [] } w := by
  obtain ⟨γ, h1, h2, _⟩ := names_init 0 h
  have hlen : l.length = args.length := h.length
  refine ⟨γ, { defers := rfl, size := ?_, tmps := fun t u ht => ?_, blk := fun x b hx => ?_, inj := fun x y bx by_ b b' hx _ hbx _ hrx _ _ => ?_, fr := Below.refl _ _, hB := Nat.le_refl _, dom := fun x => ?_ }⟩
  · simp only [firstSt, lenA_eq, Array.size_append, List.size_toArray, Array.size_replicate]
    cases hb : Nat.ble l.length fn.ntmps with
    | true => have := ble_iff.1 hb; simp only [cond_true]; omega
    | false =>
      have : ¬ l.length ≤ fn.ntmps := fun h => by rw [ble_iff.2 h] at hb; cases hb
      simp only [cond_false]; omega
  · obtain ⟨j, vv, h7, h8, h9⟩ := h2 t u ht
    rw [Nat.zero_add] at h7
    subst h7
    have hlt : t < args.length := (List.getElem?_eq_some_iff.1 h8).1
    have : (args.toArray ++ Array.replicate (fn.ntmps - args.toArray.size) undef).getD t undef = vv := by
      rw [Array.getD_eq_getD_getElem?, Array.getElem?_append_left (by simpa using hlt)]
      simp [h8]
    rw [this]
    exact h9
  · obtain ⟨sz, els, bi, he, h3, h4⟩ := h1.blks x (some b) (find_mem hx)
    simp only [Option.some.injEq] at he
    subst he
    exact ⟨bi, h3, h4 γ⟩
  · obtain ⟨sz, els, bi, _, h3, h4⟩ := h1.blks x (some b) (find_mem hx)
    rw [hbx] at h3
    obtain rfl : bx = bi := by injection h3
    have : bx.own = false := (h4 γ).1
    rw [hrx.1] at this; cases this
  · constructor
    · intro hx
      cases hf : find (firstSt fn l).store x with
      | none => rfl
      | some b =>
        obtain ⟨_, _, bi, _, h3, _⟩ := h1.blks x b (find_mem hf)
        rw [hx] at h3; cases h3
    · intro hx
      cases hg : γ x with
      | none => rfl
      | some bi =>
        obtain ⟨b, hb⟩ := h1.dom x bi hg
        exact absurd hb (find_none hx b)

/-! ### Functions -/

theorem evalFn_some {P : Program} {T : TT} {call : CallT} {an : Ann} {lf : Nat} (hT : TOK P T) (hC : CallOK P call) (hm : P.follows .mixedOrders = true) {f : FuncId} {fn : Func} (hf : P.funcs[f]? = some fn)
    (hn : (fn.name == "runtime.NumGoroutine") = false) (hS : ∀ c, fn.body = some c → SumsOK P an c) {l : List D1} {k : DRes → Ans} {r : DRes} (h : evalFn T call an lf fn l k = some r) : ∃ d, k d = some r ∧ FnSem P f l d := by
  unfold evalFn at h
  split at h
  case h_1 => cases h
  case h_2 c hb =>
    obtain ⟨e, s', h1, h2⟩ := evalC_some (hT.dyn an.dyn) hC hm c (hS c hb) _ _ _ h
    have main : ∀ (hx : e.x = .normal ∨ e.x = .ret), (match resAll ⟨T.l, an.dyn⟩ s' fn.results.toList fn.resultTypes.toList with
        | some l => cond (Nat.ble (oneSl l) 1) (match l with
          | [x] => k (.v x)
          | l => k (.tup l)) none
        | none => none) = some r → ∃ d, k d = some r ∧ FnSem P f l d := fun hx h1 => by
      split at h1
      case h_2 => cases h1
      case h_1 ls hls =>
        obtain ⟨h3, h1⟩ := cond_none h1
        have hone := ble_iff.1 h3
        have key : ∀ (d : DRes), k d = some r → (∀ e, (shRUp e d).length ≤ 1) → (∀ (B : Nat) (w : World) (vs : List Value), All2 (D1Rel true B w) ls vs → DResRel B w d (if h : vs.length = 1 then vs[0] else .tuple vs.toArray)) →
            ∃ d, k d = some r ∧ FnSem P f l d := fun d hk hone hrel => by
          refine ⟨d, hk, ⟨fn, c, hf, hn, hb⟩, hone, fun args w hargs => ?_⟩
          obtain ⟨β, hr⟩ := first_ok (fn := fn) hargs
          refine calls_of_wp hf hb ?_
          refine h2 _ _ w β _ w hr (fun a' w' => a'.defers = [] ∧ ∃ v, (results fn a'.tmps).run P w' = .ok v w' ∧ DResRel w.heap.size w' d v ∧ Below w.heap.size w w') (fun β' a' w' hr' => ?_) fun a' w' hk' => ?_
          · obtain ⟨vs, h5, h6⟩ := resAll_ok (hT.dyn an.dyn) hr'.toRW hls
            exact ⟨hr'.defers, _, results_run h5, hrel _ _ _ h6, hr'.fr⟩
          · obtain ⟨h5, v, h6, h7, h8⟩ := hk'
            have hq : ∀ x : Exit, (x = .normal ∨ x = .ret) → bodyPost P fn (fun e w' => ∃ v, e = .returned v ∧ DResRel w.heap.size w' d v ∧ Below w.heap.size w w') x a' w' := fun x hx => by
              rcases hx with rfl | rfl <;> exact ⟨h5, v, h6, v, rfl, h7, h8⟩
            exact hq _ hx
        match ls, hone, h1, key with
        | [x], hone, h1, key =>
          refine key (.v x) h1 (fun e => by rw [shRUp, sh1Up_length]; exact hone) fun B w vs hvs => ?_
          cases vs with
          | nil => simp [All2] at hvs
          | cons v vs => cases vs with
            | nil => exact hvs.1
            | cons => simp [All2] at hvs
        | [], hone, h1, key =>
          refine key (.tup []) h1 (fun e => by rw [shRUp, shLUp_length]; exact hone) fun B w vs hvs => ?_
          have := hvs.length
          rw [dif_neg (by rw [← this]; simp)]
          exact ⟨vs, rfl, hvs⟩
        | x :: y :: ls, hone, h1, key =>
          refine key (.tup (x :: y :: ls)) h1 (fun e => by rw [shRUp, shLUp_length]; exact hone) fun B w vs hvs => ?_
          have := hvs.length
          rw [dif_neg (by rw [← this]; simp)]
          exact ⟨vs, rfl, hvs⟩
    cases e with
    | normal => exact main (.inl rfl) h1
    | ret => exact main (.inr rfl) h1
    | exit id => cases h1

def FnsOK (P : Program) : Fns → Prop
  | [] => True
  | (g, fn, an) :: r => (P.funcs[g]? = some fn ∧ (fn.name == "runtime.NumGoroutine") = false ∧ an.sums = []) ∧ FnsOK P r

theorem fnOf_ok {P : Program} {F : Fns} (h : FnsOK P F) {f : FuncId} {fn : Func} {an : Ann} (hf : fnOf F f = some (fn, an)) : P.funcs[f]? = some fn ∧ (fn.name == "runtime.NumGoroutine") = false ∧ an.sums = [] := by
  induction F with
  | nil => simp [fnOf] at hf
  | cons p F ih =>
    obtain ⟨g, fn', an'⟩ := p
    simp only [fnOf] at hf
    cases hb : Nat.beq g f with
    | true =>
      rw [hb] at hf
      simp only [cond_true, Option.some.injEq, Prod.mk.injEq] at hf
      obtain ⟨rfl, rfl⟩ := hf
      rw [← beq_iff.1 hb]
      exact h.1
    | false => rw [hb] at hf; exact ih h.2 hf

def EnvOK (P : Program) (E : Env) : Prop := ∀ f l d, specOf E f l = some (true, d) → FnSem P f l d

theorem callD_ok {P : Program} {T : TT} {E : Env} {F : Fns} {lf : Nat} (hT : TOK P T) (hE : EnvOK P E) (hF : FnsOK P F) (hm : P.follows .mixedOrders = true) : ∀ d, CallOK P (callD T E F lf d) := by
  intro d
  induction d with
  | zero => intro g l k r h; simp [callD] at h
  | succ d ih =>
    intro g l k r h
    simp only [callD] at h
    split at h
    · rename_i o d' hd
      obtain ⟨ho, h⟩ := cond_none h
      subst ho
      exact ⟨d', h, hE _ _ _ hd⟩
    · split at h
      case h_2 => cases h
      case h_1 fn an hfa =>
        obtain ⟨h1, h2, h3⟩ := fnOf_ok hF hfa
        exact evalFn_some hT ih hm h1 h2 (fun c _ => SumsOK.nil h3 c) h

theorem EnvOK.nil (P : Program) : EnvOK P [] := fun f l d h => by simp [specOf] at h

theorem EnvOK.consO {P : Program} {E : Env} {f : FuncId} {g : List D1 → Option (Bool × DRes)} (h : ∀ l d, g l = some (true, d) → FnSem P f l d) (hE : EnvOK P E) : EnvOK P ((f, g) :: E) := fun f' l d hd => by
  simp only [specOf] at hd
  cases hb : Nat.beq f f' with
  | true => rw [hb] at hd; rw [← beq_iff.1 hb]; exact h l d hd
  | false => rw [hb] at hd; exact hE f' l d hd

theorem EnvOK.cons {P : Program} {E : Env} {f : FuncId} {g : List D1 → Option DRes} (h : ∀ l d, g l = some d → FnSem P f l d) (hE : EnvOK P E) : EnvOK P ((f, tot g) :: E) := EnvOK.consO (fun l d hd => by
  unfold tot at hd
  split at hd
  · rename_i d' hg
    simp only [Option.some.injEq, Prod.mk.injEq, true_and] at hd
    subst hd
    exact h l d' hg
  · cases hd) hE

/-- What the evaluator answers is so. -/
theorem FnSem.of {P : Program} {T : TT} {E : Env} {F : Fns} {lf depth : Nat} (hT : TOK P T) (hE : EnvOK P E) (hF : FnsOK P F) (hm : P.follows .mixedOrders = true) {f : FuncId} {l : List D1} {r : DRes} (h : callD T E F lf depth f l some = some r) : FnSem P f l r := by
  obtain ⟨d, h1, h2⟩ := callD_ok hT hE hF hm depth f l some r h
  simp only [Option.some.injEq] at h1
  rw [← h1]; exact h2

/-- The same for one function whose loops have summaries. -/
theorem FnSem.ofL {P : Program} {T : TT} {E : Env} {F : Fns} {an : Ann} {lf lf' depth : Nat} (hT : TOK P T) (hE : EnvOK P E) (hF : FnsOK P F) (hm : P.follows .mixedOrders = true) {f : FuncId} {fn : Func} (hf : P.funcs[f]? = some fn)
    (hn : (fn.name == "runtime.NumGoroutine") = false) (hS : ∀ c, fn.body = some c → SumsOK P an c) {l : List D1} {r : DRes} (h : evalFn T (callD T E F lf' depth) an lf fn l some = some r) : FnSem P f l r := by
  obtain ⟨d, h1, h2⟩ := evalFn_some hT (callD_ok hT hE hF hm depth) hm hf hn hS h
  simp only [Option.some.injEq] at h1
  rw [← h1]; exact h2

/-- The bodies of all loops. -/
def allLoops : Code → List Code
  | .loop b => b :: allLoops b
  | .seq a b => allLoops a ++ allLoops b
  | .cond _ a b => allLoops a ++ allLoops b
  | .block _ b => allLoops b
  | _ => []

def loopsOf (fn : Func) : List Code :=
  match fn.body with
  | some c => allLoops c
  | none => []

def findL (id : Nat) : List Code → Code
  | [] => .skip
  | b :: r => cond (Nat.beq (firstRegion b) id) b (findL id r)

/-- The body of the loop that begins with that region. -/
def bodyL (id : Nat) (fn : Func) : Code := findL id (loopsOf fn)

def GoodL (P : Program) (an : Ann) (b : Code) : Prop :=
  match sumOf an.sums (firstRegion b) with
  | some f => SumOK P b f
  | none => True

theorem SumsOK.all {P : Program} {an : Ann} : ∀ (c : Code), (∀ b ∈ allLoops c, GoodL P an b) → SumsOK P an c := by
  intro c
  induction c with
  | loop b ih =>
    intro h
    have h1 := h b (by simp [allLoops])
    simp only [SumsOK]
    unfold GoodL at h1
    split at h1
    · rename_i hf; rw [hf]; exact h1
    · rename_i hf; rw [hf]; exact ih fun x hx => h x (by simp [allLoops, hx])
  | seq a b iha ihb => intro h; exact ⟨iha fun x hx => h x (by simp [allLoops, hx]), ihb fun x hx => h x (by simp [allLoops, hx])⟩
  | cond _ a b iha ihb => intro h; exact ⟨iha fun x hx => h x (by simp [allLoops, hx]), ihb fun x hx => h x (by simp [allLoops, hx])⟩
  | block _ b ih => intro h; exact ih fun x hx => h x (by simp [allLoops, hx])
  | _ => intro _; trivial

theorem SumsOK.fn {P : Program} {an : Ann} {fn : Func} {l : List Code} (hl : loopsOf fn = l) (h : ∀ b ∈ l, GoodL P an b) : ∀ c, fn.body = some c → SumsOK P an c := fun c hc =>
  SumsOK.all c fun b hb => h b (by rw [← hl]; unfold loopsOf; rw [hc]; exact hb)

theorem SumsOK.in {P : Program} {an : Ann} {b : Code} {l : List Code} (hl : allLoops b = l) (h : ∀ b ∈ l, GoodL P an b) : SumsOK P an b := SumsOK.all b fun x hx => h x (by rw [← hl]; exact hx)

theorem GoodL.some {P : Program} {an : Ann} {b : Code} {f : St → (Ex → St → Ans) → Ans} (h : sumOf an.sums (firstRegion b) = some f) (hf : SumOK P b f) : GoodL P an b := by
  unfold GoodL; rw [h]; exact hf

theorem GoodL.none {P : Program} {an : Ann} {b : Code} (h : sumOf an.sums (firstRegion b) = none) : GoodL P an b := by
  unfold GoodL; rw [h]; trivial

/-- Arguments that hold the same. -/
def DC.same : DC → DC → Prop
  | .pc a, .pc b => a = b
  | .sl z E, .sl z' E' => z = z' ∧ E.list = E'.list
  | _, _ => False

def D1.same : D1 → D1 → Prop
  | .one a, .one b => a.same b
  | .agg a, .agg b => All2 DC.same a b
  | _, _ => False

theorem DC.same_rel {own : Bool} {B : Nat} {w : World} {a b : DC} {v : Value} (h : a.same b) (hr : DRel own B w b v) : DRel own B w a v := by
  cases a with
  | pc a => cases b with
    | pc b => obtain rfl : a = b := h; exact hr
    | sl => cases h
  | sl z E => cases b with
    | pc => cases h
    | sl z' E' =>
      obtain ⟨rfl, h⟩ := h
      obtain ⟨bi, h1, h2⟩ := hr
      exact ⟨bi, BRel.congr h.symm h1, h2⟩

theorem DC.sames_rel {own : Bool} {B : Nat} {w : World} : ∀ {as bs : List DC} {vs : List Value}, All2 DC.same as bs → All2 (DRel own B w) bs vs → All2 (DRel own B w) as vs := by
  intro as
  induction as with
  | nil => intro bs vs h hr; cases bs with
    | nil => exact hr
    | cons => simp [All2] at h
  | cons a as ih => intro bs vs h hr; cases bs with
    | nil => simp [All2] at h
    | cons b bs => cases vs with
      | nil => simp [All2] at hr
      | cons v vs => exact ⟨DC.same_rel h.1 hr.1, ih h.2 hr.2⟩

theorem D1.same_rel {own : Bool} {B : Nat} {w : World} {a b : D1} {v : Value} (h : a.same b) (hr : D1Rel own B w b v) : D1Rel own B w a v := by
  cases a with
  | one a => cases b with
    | one b => exact DC.same_rel h hr
    | agg => cases h
  | agg as => cases b with
    | one => cases h
    | agg bs =>
      obtain ⟨vs, rfl, h2⟩ := hr
      exact ⟨vs, rfl, DC.sames_rel h h2⟩

theorem D1.sames_rel {own : Bool} {B : Nat} {w : World} : ∀ {as bs : List D1} {vs : List Value}, All2 D1.same as bs → All2 (D1Rel own B w) bs vs → All2 (D1Rel own B w) as vs := by
  intro as
  induction as with
  | nil => intro bs vs h hr; cases bs with
    | nil => exact hr
    | cons => simp [All2] at h
  | cons a as ih => intro bs vs h hr; cases bs with
    | nil => simp [All2] at h
    | cons b bs => cases vs with
      | nil => simp [All2] at hr
      | cons v vs => exact ⟨D1.same_rel h.1 hr.1, ih h.2 hr.2⟩

def DRes.same : DRes → DRes → Prop
  | .v a, .v b => a.same b
  | .tup a, .tup b => All2 D1.same a b
  | _, _ => False

theorem DRes.same_rel {B : Nat} {w : World} {a b : DRes} {v : Value} (h : a.same b) (hr : DResRel B w b v) : DResRel B w a v := by
  cases a with
  | v a => cases b with
    | v b => exact D1.same_rel h hr
    | tup => cases h
  | tup as => cases b with
    | v => cases h
    | tup bs =>
      obtain ⟨vs, rfl, h2⟩ := hr
      exact ⟨vs, rfl, D1.sames_rel h h2⟩

theorem FnSem.sameR {P : Program} {f : FuncId} {l : List D1} {r r' : DRes} (h : FnSem P f l r) (hs : r'.same r) (h1 : ∀ e, (shRUp e r').length ≤ 1) : FnSem P f l r' :=
  ⟨h.fn, h1, fun args w ha => (h.call args w ha).mono fun e w' he => by
    obtain ⟨v, h2, h3, h4⟩ := he
    exact ⟨v, h2, DRes.same_rel hs h3, h4⟩⟩

theorem FnSem.same {P : Program} {f : FuncId} {l l' : List D1} {r : DRes} (h : FnSem P f l r) (hs : All2 D1.same l l') : FnSem P f l' r :=
  ⟨h.fn, h.one, fun args w ha => h.call args w (D1.sames_rel hs ha)⟩

end Go.Eng
