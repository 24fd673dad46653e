/-
  Soundness of the evaluator's operations on values, and of those that make a new block.
-/
import Derived.Test.YtjbmpimclagfoaaEngO
namespace Go.Eng
open Go.RowKit

/-- What an operation's run comes to. -/
def Ran (P : Program) (B : Nat) (β : Bt) (w : World) (s : Sem Next) (v : SV) (ups : List Up) : Prop :=
  ∃ vv w' β', (s.run P w = .ok (.value vv) w' ∨ (s.run P w = .ok .skip w' ∧ vv = undef)) ∧ SRel β' v vv ∧ Eff B β β' ups w w'

section
variable {P : Program} {T : TT} {B : Nat} {β : Bt} {w : World}

theorem Ran.value {s : Sem Value} {v : SV} {vv : Value} (h : s.run P w = .ok vv w) (hv : SRel β v vv) : Ran P B β w (do pure (.value (← s))) v [] :=
  ⟨vv, w, β, .inl (by simp [h]), hv, Eff.refl B β w⟩

theorem Ran.pure {v : SV} {vv : Value} (hv : SRel β v vv) : Ran P B β w (Pure.pure (.value vv)) v [] :=
  ⟨vv, w, β, .inl rfl, hv, Eff.refl B β w⟩

theorem ev_ok {s : St} {w0 : World} {a : Act} (hr : RWs B w0 β s a w) {x : Operand} {v : SV} (h : s.ev x = some v) : SRel β v (a.eval x) := by
  cases x with
  | tmp t => exact hr.tmps t v h
  | const u =>
    simp only [St.ev] at h
    cases hc : cellOf u with
    | none => rw [hc] at h; simp at h
    | some c => rw [hc] at h; simp only [Option.some.injEq] at h; subst h; exact cellOf_rel hc β
  | global g => simp [St.ev] at h
  | func f => simp only [St.ev, Option.some.injEq] at h; subst h; rfl

theorem ev1_ok {s : St} {w0 : World} {a : Act} (hr : RWs B w0 β s a w) {x : Operand} {v : V1} (h : s.ev1 x = some v) : V1Rel β v (a.eval x) := by
  unfold St.ev1 at h
  split at h
  · rename_i y he
    simp only [Option.some.injEq] at h
    subst h
    exact ev_ok hr he
  · cases h

theorem evc_ok {s : St} {w0 : World} {a : Act} (hr : RWs B w0 β s a w) {x : Operand} {c : Cell} (h : s.evc x = some c) : CRel β c (a.eval x) := by
  unfold St.evc at h
  split at h
  · rename_i y he
    simp only [Option.some.injEq] at h
    subst h
    exact ev_ok hr he
  · cases h

/-! ### Two operands -/

theorem run_eqGuard_int (op : BinOp) (t : TypeId) (x y : Operand) (k k' : IntKind) (a b : Int) : (eqGuard op t x y (.int k a) (.int k' b)).run P w = .ok () w := by
  cases op <;> rfl

theorem run_eqGuard_bool (op : BinOp) (t : TypeId) (x y : Operand) (a b : Bool) : (eqGuard op t x y (.bool a) (.bool b)).run P w = .ok () w := by
  cases op <;> rfl

theorem eBin_int {op : BinOp} {t : TypeId} {k k' : IntKind} {a b : Int} {v : SV} {ups : List Up} (h : eBin T op t (.one (.int k a)) (.one (.int k' b)) = some (true, v, ups)) :
    ups = [] ∧ ∃ vv, (binOp op t (.int k a) (.int k' b)).run P w = .ok vv w ∧ SRel β v vv := by
  cases op
  case shl =>
    simp only [eBin, Option.some.injEq, Prod.mk.injEq, decide_eq_true_eq] at h
    obtain ⟨h1, rfl, rfl⟩ := h
    have h2 : ¬ b < 0 := by omega
    exact ⟨rfl, _, by simp [binOp, Op.shift, h2], rfl⟩
  case shr =>
    simp only [eBin, Option.some.injEq, Prod.mk.injEq, decide_eq_true_eq] at h
    obtain ⟨h1, rfl, rfl⟩ := h
    have h2 : ¬ b < 0 := by omega
    exact ⟨rfl, _, by simp [binOp, Op.shift, h2], rfl⟩
  all_goals
    simp only [eBin] at h
    split at h
    case isFalse => cases h
    case isTrue hk =>
      subst hk
      simp only [ok1, Option.some.injEq, Prod.mk.injEq, true_and, Bool.not_eq_true', decide_eq_false_iff_not] at h
      first
        | (obtain ⟨h0, rfl, rfl⟩ := h
           exact ⟨rfl, _, by simp [binOp, Op.intDiv, h0], rfl⟩)
        | (obtain ⟨rfl, rfl⟩ := h
           exact ⟨rfl, _, by simp [binOp, Op.intArith, Op.intCmp, Op.intBits, bits]; rfl, rfl⟩)
        | (obtain ⟨rfl, rfl⟩ := h
           exact ⟨rfl, _, by simp [binOp, Op.intArith, Op.intCmp, Op.intBits, bits], rfl⟩)

theorem eBin_bool (hT : TOK P T) {op : BinOp} {t : TypeId} {a b : Bool} {v : SV} {ups : List Up} (h : eBin T op t (.one (.bool a)) (.one (.bool b)) = some (true, v, ups)) :
    ups = [] ∧ ∃ vv, (binOp op t (.bool a) (.bool b)).run P w = .ok vv w ∧ SRel β v vv := by
  simp only [eBin] at h
  split at h
  case h_2 => cases h
  case h_1 =>
    rename_i he
    have hu := (hT t _ he).und
    simp only at hu
    cases op <;> simp only [ok1, Option.some.injEq, Prod.mk.injEq, true_and] at h <;> try (cases h; done)
    case eql =>
      obtain ⟨rfl, rfl⟩ := h
      exact ⟨rfl, _, by simp [binOp, run_equal_bool w t a b hu], rfl⟩
    case neq =>
      obtain ⟨rfl, rfl⟩ := h
      exact ⟨rfl, _, by simp [binOp, run_equal_bool w t a b hu], rfl⟩

theorem eBin_ok (hT : TOK P T) {op : BinOp} {t : TypeId} {x y : V1} {vx vy : Value} {v : SV} {ups : List Up} (h : eBin T op t x y = some (true, v, ups)) (hx : V1Rel β x vx) (hy : V1Rel β y vy) (ox oy : Operand) :
    ups = [] ∧ ∃ vv, (do eqGuard op t ox oy vx vy; binOp op t vx vy : Sem Value).run P w = .ok vv w ∧ SRel β v vv := by
  cases x with
  | one c => cases y with
    | one c' =>
      cases c <;> cases c' <;> try (simp [eBin] at h; done)
      case int.int k a k' b =>
        obtain rfl : vx = .int k a := hx
        obtain rfl : vy = .int k' b := hy
        obtain ⟨h1, vv, h2, h3⟩ := eBin_int (P := P) (w := w) (β := β) h
        exact ⟨h1, vv, by simp [run_eqGuard_int, h2], h3⟩
      case bool.bool a b =>
        obtain rfl : vx = .bool a := hx
        obtain rfl : vy = .bool b := hy
        obtain ⟨h1, vv, h2, h3⟩ := eBin_bool (P := P) (w := w) (β := β) hT h
        exact ⟨h1, vv, by simp [run_eqGuard_bool, h2], h3⟩
    | agg ys => cases c <;> simp [eBin] at h
  | agg xs => cases y with
    | one c => simp [eBin] at h
    | agg ys =>
      obtain ⟨vxs, rfl, hx2⟩ := hx
      obtain ⟨vys, rfl, hy2⟩ := hy
      simp only [eBin] at h
      cases he : tt T t with
      | none => rw [he] at h; simp at h
      | some e =>
        rw [he] at h
        simp only at h
        obtain ⟨hp, h⟩ := cond_none h
        obtain ⟨hk, h⟩ := cond_none h
        cases hb : eqCells xs ys with
        | none => rw [hb] at h; simp at h
        | some b =>
          rw [hb] at h
          have hte := hT t e he
          have hq := run_equal_agg hte hp hk hx2 hy2 hb w
          have hg := run_eqGuard_agg (P := P) w op t ox oy vxs.toArray vys.toArray (hte.plain hp).2.1
          cases op <;> simp only [ok1, Option.some.injEq, Prod.mk.injEq, true_and] at h <;> try (cases h; done)
          case eql =>
            obtain ⟨rfl, rfl⟩ := h
            exact ⟨rfl, _, by simp [hg, run_eql_struct, hq], rfl⟩
          case neq =>
            obtain ⟨rfl, rfl⟩ := h
            exact ⟨rfl, _, by simp [hg, run_neq_struct, hq], rfl⟩

theorem eUn_ok {op : UnOp} {c : Cell} {vc : Value} {v : SV} {ups : List Up} (h : eUn op c = some (true, v, ups)) (hc : CRel β c vc) :
    ups = [] ∧ ∃ vv, (Op.unary op vc).run P w = .ok vv w ∧ SRel β v vv := by
  cases c <;> try (simp [eUn] at h; done)
  case int k n =>
    obtain rfl : vc = .int k n := hc
    cases op <;> simp only [eUn, ok1, Option.some.injEq, Prod.mk.injEq, true_and] at h <;> try (cases h; done)
    · obtain ⟨rfl, rfl⟩ := h
      exact ⟨rfl, _, by simp only [Op.unary, Op.intArith]; rfl, rfl⟩
    · obtain ⟨rfl, rfl⟩ := h
      exact ⟨rfl, _, by simp only [Op.unary, intBits_xor]; rfl, rfl⟩
  case bool b =>
    obtain rfl : vc = .bool b := hc
    cases op <;> simp only [eUn, ok1, Option.some.injEq, Prod.mk.injEq, true_and] at h <;> try (cases h; done)
    obtain ⟨rfl, rfl⟩ := h
    exact ⟨rfl, _, by simp only [Op.unary]; rfl, rfl⟩

theorem TEOK.underlying {t : TypeId} {e : TE} (h : TEOK P t e) : ∃ d, P.underlying t = some d := by
  have := h.und
  cases hd : e.d <;> rw [hd] at this <;> simp only at this
  case struct => obtain ⟨F, hF, _⟩ := this; exact ⟨_, hF⟩
  case other => obtain ⟨el, hF⟩ := this; exact ⟨_, hF⟩
  all_goals exact ⟨_, this⟩

theorem eConv_ok (hT : TOK P T) {src dst : TypeId} {c : Cell} {vc : Value} {v : SV} {ups : List Up} (h : eConv T src dst c = some (true, v, ups)) (hc : CRel β c vc) :
    ups = [] ∧ ∃ vv, (convert src dst vc).run P w = .ok vv w ∧ SRel β v vv := by
  cases c <;> try (simp [eConv] at h; done)
  case int k n =>
    obtain rfl : vc = .int k n := hc
    simp only [eConv] at h
    split at h
    case h_2 => cases h
    case h_1 =>
      rename_i h1 h2
      simp only [ok1, Option.some.injEq, Prod.mk.injEq, true_and] at h
      obtain ⟨rfl, rfl⟩ := h
      obtain ⟨ds, hs⟩ := (hT src _ h1).underlying
      have hd := (hT dst _ h2).und
      simp only at hd
      refine ⟨rfl, _, ?_, rfl⟩
      cases ds <;> simp [convert, run_underlying hs, run_underlying hd, Conv.intToInt]

/-! ### Parts laid over cells -/

theorem foldl_set (off : Nat) : ∀ (vs : List Value) (k : Nat) (cells : Array Value), off + k + vs.length ≤ cells.size →
    ((vs.zipIdx k).foldl (fun (cs : Array Value) (p : Value × Nat) => cs.setIfInBounds (off + p.2) p.1) cells).toList = cells.toList.take (off + k) ++ vs ++ cells.toList.drop (off + k + vs.length)
  | [], k, cells, _ => by simp
  | v :: vs, k, cells, h => by
    simp only [List.length_cons] at h
    simp only [List.zipIdx_cons, List.foldl_cons]
    rw [foldl_set off vs (k + 1) _ (by simp; omega)]
    have e := list_seg_step cells.toList (off + k) v vs (by simp; omega)
    simpa [Array.toList_setIfInBounds, Nat.add_assoc] using e

theorem fill_ok {s : St} {w0 : World} {a : Act} (hr : RWs B w0 β s a w) {pl pl' : Nat → Option (Nat × Nat)} (hpl : ∀ i r, pl i = some r → pl' i = some r) :
    ∀ (parts : List (Nat × Operand)) (cs cs' : List Cell) (cells : Array Value), fillA pl s cs parts = some cs' → All2 (CRel β) cs cells.toList →
    ∃ cells', Instr.fill pl' cells (parts.map fun p => (p.1, a.eval p.2)) = some cells' ∧ All2 (CRel β) cs' cells'.toList := by
  intro parts
  induction parts with
  | nil => intro cs cs' cells h hc; simp only [fillA, Option.some.injEq] at h; subst h; exact ⟨cells, rfl, hc⟩
  | cons p parts ih =>
    obtain ⟨i, x⟩ := p
    intro cs cs' cells h hc
    simp only [fillA] at h
    cases hp : pl i with
    | none => rw [hp] at h; simp at h
    | some r =>
      obtain ⟨off, size⟩ := r
      cases hx : s.ev1 x with
      | none => rw [hp, hx] at h; simp at h
      | some v =>
        rw [hp, hx] at h
        simp only at h
        obtain ⟨h1, h⟩ := cond_none h
        cases hq : put cs off v.cells with
        | none => rw [hq] at h; simp at h
        | some cs2 =>
          rw [hq] at h
          have hv := (ev1_ok hr hx).cells
          obtain ⟨h2, h3⟩ := hc.put hv hq
          have hsz : (a.eval x).cells.size = size := by
            have := beq_iff.1 h1
            rw [len_eq, hv.length] at this
            simpa using this
          have h3' : off + (a.eval x).cells.size ≤ cells.size := by simpa using h3
          have hfold := foldl_set off (a.eval x).cells.toList 0 cells (by simpa using h3')
          obtain ⟨cells', h4, h5⟩ := ih cs2 cs' ((a.eval x).cells.zipIdx.foldl (fun cs (c, j) => cs.setIfInBounds (off + j) c) cells) h (by
            rw [← Array.foldl_toList, Array.toList_zipIdx, hfold]
            simpa using h2)
          refine ⟨cells', ?_, h5⟩
          simp only [List.map_cons, Instr.fill, hpl _ _ hp, hsz, ne_eq, not_true_eq_false, decide_false, Bool.false_or, decide_eq_true_eq]
          rw [if_neg (by omega)]
          exact h4

theorem nth_places {F : List Field} {places : List (Nat × Nat)} (h : F.mapM (fun f => (P.info? f.type).map fun i => (f.offset, i.size)) = some places) {fs : List (TypeId × Nat)} (hf : fieldsBeq F fs = true)
    {i ty off : Nat} (hn : nth fs i = some (ty, off)) : (∃ f, F[i]? = some f ∧ f.type = ty ∧ f.offset = off) ∧ ∃ inf, P.info? ty = some inf ∧ places[i]? = some (off, inf.size) := by
  induction F generalizing fs places i with
  | nil => cases fs with
    | nil => simp [nth] at hn
    | cons => simp [fieldsBeq] at hf
  | cons f F ih => cases fs with
    | nil => simp [nth] at hn
    | cons p fs =>
      obtain ⟨t0, o0⟩ := p
      simp only [fieldsBeq] at hf
      obtain ⟨e1, hf⟩ := cond_and hf
      obtain ⟨e2, hf⟩ := cond_and hf
      simp only [List.mapM_cons, Option.bind_eq_bind, Option.pure_def] at h
      cases hi : P.info? f.type with
      | none => simp [hi] at h
      | some inf =>
        cases hr : F.mapM (fun f => (P.info? f.type).map fun i => (f.offset, i.size)) with
        | none => simp [hi, hr] at h
        | some rest =>
          simp [hi, hr] at h
          subst h
          cases i with
          | zero =>
            simp only [nth, Option.some.injEq, Prod.mk.injEq] at hn
            obtain ⟨rfl, rfl⟩ := hn
            have e1' := beq_iff.1 e1
            have e2' := beq_iff.1 e2
            exact ⟨⟨f, rfl, e1', e2'⟩, inf, by rw [← e1']; exact hi, by rw [← e2']; rfl⟩
          | succ i =>
            simp only [nth] at hn
            obtain ⟨h1, h2⟩ := ih hr hf hn
            exact ⟨by simpa using h1, by simpa using h2⟩

theorem eBuild_ok (hT : TOK P T) {s : St} {w0 : World} {a : Act} (hr : RWs B w0 β s a w) {t : TypeId} {parts : Array (Nat × Operand)} {v : SV} {ups : List Up} (h : eBuild T s t parts = some (true, v, ups)) :
    ups = [] ∧ ∃ vv, (Instr.build t (parts.map fun (i, x) => (i, a.eval x))).run P w = .ok vv w ∧ SRel β v vv := by
  unfold eBuild at h
  cases he : tt T t with
  | none => rw [he] at h; simp at h
  | some e =>
    rw [he] at h
    simp only at h
    have hte := hT t e he
    obtain ⟨inf, z, hinf, _, _, hz, hzr⟩ := hte.info
    have hu := hte.und
    have hparts : (parts.map fun (i, x) => (i, a.eval x)).toList = parts.toList.map fun p => (p.1, a.eval p.2) := by simp
    cases hd : e.d <;> rw [hd] at h hu <;> simp only at h hu <;> try (cases h; done)
    case struct fs =>
      obtain ⟨F, hF, hfb, places, hpl⟩ := hu
      cases hq : fillA (placeS T fs) s e.zero parts.toList with
      | none => rw [hq] at h; simp at h
      | some cs =>
        rw [hq] at h
        simp only [Option.some.injEq, Prod.mk.injEq, true_and] at h
        obtain ⟨rfl, rfl⟩ := h
        obtain ⟨cells', h1, h2⟩ := fill_ok hr (pl' := (places.toArray[·]?)) (by
          intro i r hi
          unfold placeS at hi
          split at hi
          · rename_i ty off hn
            split at hi
            · rename_i f hf
              simp only [Option.some.injEq] at hi
              subst hi
              obtain ⟨_, inf2, h3, h4⟩ := nth_places hpl hfb hn
              obtain ⟨i3, _, h5, h6, _⟩ := (hT ty f hf).info
              rw [h3] at h5
              obtain rfl : inf2 = i3 := by injection h5
              rw [← h6]
              simpa using h4
            · cases hi
          · cases hi) parts.toList e.zero cs z.cells hq (hzr β)
        refine ⟨rfl, _, run_build w t _ cells' ?_, cells'.toList, by simp, h2⟩
        simp only [Program.built, hinf, hF, hz, hpl, hparts]
        exact h1
    case array n el =>
      cases hel : tt T el with
      | none => rw [hel] at h; simp at h
      | some f =>
        rw [hel] at h
        simp only at h
        cases hq : fillA (placeA f.size) s e.zero parts.toList with
        | none => rw [hq] at h; simp at h
        | some cs =>
          rw [hq] at h
          simp only [Option.some.injEq, Prod.mk.injEq, true_and] at h
          obtain ⟨rfl, rfl⟩ := h
          obtain ⟨ie, _, hie, hies, _⟩ := (hT el f hel).info
          obtain ⟨cells', h1, h2⟩ := fill_ok hr (pl' := fun i => some (i * ie.size, ie.size)) (by
            intro i r hi
            simp only [placeA, Option.some.injEq] at hi
            rw [hies]
            rw [← hi]) parts.toList e.zero cs z.cells hq (hzr β)
          refine ⟨rfl, _, run_build w t _ cells' ?_, cells'.toList, by simp, h2⟩
          simp only [Program.built, hinf, hu, hz, hie, hparts]
          exact h1

/-! ### Parts of values -/

theorem partA_ok {t : TypeId} {e : TE} (ht : TEOK P t e) {cs : List Cell} {off : Nat} {v : V1} {vs : List Value} (h : partA e cs off = some v) (hc : All2 (CRel β) cs vs) :
    ∃ vv, (part t vs.toArray off).run P w = .ok vv w ∧ V1Rel β v vv := by
  unfold partA at h
  cases hag : e.agg with
  | true =>
    rw [hag] at h
    simp only [cond_true] at h
    cases hq : takeN e.size (dropN off cs) with
    | none => rw [hq] at h; simp at h
    | some l =>
      rw [hq] at h
      simp only [Option.some.injEq] at h
      subst h
      have h1 := (hc.drop off).take hq
      refine ⟨.agg (vs.toArray.extract off (off + e.size)), by simp [part, ht.isAgg, hag, ht.sizeOf], (vs.drop off).take e.size, ?_, h1.1⟩
      congr 1
      apply Array.ext'
      simp
  | false =>
    rw [hag] at h
    simp only [cond_false] at h
    cases hq : nth cs off with
    | none => rw [hq] at h; simp at h
    | some c =>
      rw [hq] at h
      simp only [Option.some.injEq] at h
      subst h
      obtain ⟨vv, h1, h2⟩ := hc.nth hq
      exact ⟨vv, by simp [part, ht.isAgg, hag, h1], h2⟩

theorem eField_ok (hT : TOK P T) {t : TypeId} {f : Nat} {x : V1} {vx : Value} {v : SV} {ups : List Up} (h : eField T t f x = some (true, v, ups)) (hx : V1Rel β x vx) :
    ups = [] ∧ ∃ vv, (Instr.field t vx f).run P w = .ok vv w ∧ SRel β v vv := by
  cases x with
  | one c => simp [eField] at h
  | agg cs =>
    obtain ⟨vs, rfl, hc⟩ := hx
    simp only [eField] at h
    split at h
    case h_2 => cases h
    case h_1 =>
      rename_i fs _ _ _ _ he
      split at h
      case h_2 => cases h
      case h_1 ty off hn =>
        split at h
        case h_2 => cases h
        case h_1 e hty =>
          split at h
          case h_2 => cases h
          case h_1 v' hp =>
            simp only [Option.some.injEq, Prod.mk.injEq, true_and] at h
            obtain ⟨rfl, rfl⟩ := h
            obtain ⟨F, hF, hfb, places, hpl⟩ := (hT t _ he).und
            obtain ⟨⟨fl, hfl, rfl, rfl⟩, _⟩ := nth_places hpl hfb hn
            obtain ⟨vv, h1, h2⟩ := partA_ok (P := P) (w := w) (hT _ _ hty) hp hc
            have hfl' : F[f]? = some fl := by simpa using hfl
            exact ⟨rfl, vv, by simp [Instr.field, run_underlying hF, hfl', asAgg, h1], h2⟩

theorem eIndex_ok (hT : TOK P T) {t : TypeId} {dy : Bool} {x : V1} {ix : Cell} {vx vi : Value} {v : SV} {ups : List Up} (h : eIndex T t dy x ix = some (true, v, ups)) (hx : V1Rel β x vx) (hi : CRel β ix vi) :
    ups = [] ∧ ∃ vv, (Instr.index t vx vi).run P w = .ok vv w ∧ SRel β v vv := by
  cases x with
  | one c => simp [eIndex] at h
  | agg cs =>
    cases ix <;> try (simp [eIndex] at h; done)
    case int k n =>
      obtain ⟨vs, rfl, hc⟩ := hx
      obtain rfl : vi = .int k n := hi
      simp only [eIndex] at h
      split at h
      case h_2 => cases h
      case h_1 =>
        rename_i m el _ _ _ _ he
        split at h
        case h_2 => cases h
        case h_1 e hel =>
          have hu : P.underlying t = some (.array m el) := (hT t _ he).und
          have hte := hT el e hel
          cases hdy : (cond e.agg false dy) with
          | true =>
            rw [hdy] at h
            simp only [cond_true] at h
            cases hs : selC cs (n.toNat * e.size) with
            | none => rw [hs] at h; simp at h
            | some c =>
              rw [hs] at h
              simp only [Option.some.injEq, Prod.mk.injEq] at h
              obtain ⟨h1, rfl, rfl⟩ := h
              obtain ⟨h2, h3⟩ := cond_and h1
              have h2' := of_decide_eq_true h2
              have h3' := blt_iff.1 h3
              rw [len_eq] at h3'
              have hag : e.agg = false := by cases hq : e.agg with
                | false => rfl
                | true => rw [hq] at hdy; simp at hdy
              obtain ⟨vv, h4, h5⟩ := hc.getElem (selC_ok hs h3')
              refine ⟨rfl, vv, ?_, h5⟩
              have hp : (part el vs.toArray (n.toNat * e.size)).run P w = .ok vv w := by simp [part, hte.isAgg, hag, h4]
              simp [Instr.index, asIntOf, run_underlying hu, h2', hte.sizeOf, hp]
          | false =>
            rw [hdy] at h
            simp only [cond_false] at h
            cases hs : partA e cs (n.toNat * e.size) with
            | none => rw [hs] at h; simp at h
            | some c =>
              rw [hs] at h
              simp only [Option.some.injEq, Prod.mk.injEq] at h
              obtain ⟨h1, rfl, rfl⟩ := h
              have h2' := of_decide_eq_true h1
              obtain ⟨vv, h4, h5⟩ := partA_ok (P := P) (w := w) hte hs hc
              exact ⟨rfl, vv, by simp [Instr.index, asIntOf, run_underlying hu, h2', hte.sizeOf, h4], h5⟩
end
end Go.Eng
