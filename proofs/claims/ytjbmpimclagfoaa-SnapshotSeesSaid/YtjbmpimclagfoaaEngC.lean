/-
  Soundness of one operation of the evaluator that calls no function and chooses nothing.
-/
import Derived.Test.YtjbmpimclagfoaaEngB
namespace Go.Eng
open Go.RowKit

section
variable {P : Program} {T : TT} {B : Nat} {β : Bt} {w w0 : World} {s : St} {a : Act}

theorem Ran.of {s : Sem Value} {v : SV} {ups : List Up} (h : ups = [] ∧ ∃ vv, s.run P w = .ok vv w ∧ SRel β v vv) : Ran P B β w (do Pure.pure (.value (← s))) v ups := by
  obtain ⟨rfl, vv, h1, h2⟩ := h
  exact Ran.value h1 h2

theorem Ran.make {s : Sem Value} {v : SV} {ups : List Up} (h : ∃ vv w' β', s.run P w = .ok vv w' ∧ SRel β' v vv ∧ Eff B β β' ups w w') : Ran P B β w (do Pure.pure (.value (← s))) v ups := by
  obtain ⟨vv, w', β', h1, h2, h3⟩ := h
  exact ⟨vv, w', β', .inl (by simp [h1]), h2, h3⟩

theorem Ran.unit {s : Sem Unit} {v : SV} {ups : List Up} (h : v = .tup [] ∧ ∃ w', s.run P w = .ok () w' ∧ Eff B β β ups w w') : Ran P B β w (do s; Pure.pure .skip) v ups := by
  obtain ⟨rfl, w', h1, h2⟩ := h
  exact ⟨undef, w', β, .inr ⟨by simp [h1], rfl⟩, ⟨[], rfl, trivial⟩, h2⟩

theorem list_nil {α : Type} {x : Array α} (h : x.toList = []) : x = #[] := by
  cases x; simp_all

theorem toList_eq {α : Type} {x : Array α} {l : List α} (h : x.toList = l) : x = l.toArray := by
  cases x; simp_all

theorem evalP_ok (hT : TOK P T) (hr : RWs B w0 β s a w) {d : Nat} {o : Oper} {v : SV} {ups : List Up} (h : evalP T s d o.op = some (true, v, ups)) (hfresh : ∀ x b, (x, b) ∈ ups → x.1 = d → β x = none) :
    Ran P B β w (execOp a.eval o) v ups := by
  unfold execOp
  generalize o.op = op at h
  cases op with
  | move x =>
    simp only [evalP] at h
    split at h
    case h_2 => cases h
    case h_1 u hu =>
      simp only [Option.some.injEq, Prod.mk.injEq, true_and] at h
      obtain ⟨rfl, rfl⟩ := h
      exact Ran.pure (ev_ok hr hu)
  | assign x =>
    simp only [evalP] at h
    split at h
    case h_2 => cases h
    case h_1 u hu =>
      simp only [Option.some.injEq, Prod.mk.injEq, true_and] at h
      obtain ⟨rfl, rfl⟩ := h
      exact Ran.pure (ev_ok hr hu)
  | alloc elem =>
    simp only [evalP] at h
    split at h
    case h_2 => cases h
    case h_1 e he =>
      simp only [Option.some.injEq, Prod.mk.injEq, true_and] at h
      obtain ⟨rfl, rfl⟩ := h
      obtain ⟨z, hz, hzr⟩ := (hT elem e he).zeroValue w
      obtain ⟨β', h1, h2⟩ := newVar_ok (t := elem) hr.hB (hfresh _ _ (List.mem_singleton.2 rfl) rfl) (hzr β)
      exact Ran.make ⟨_, _, β', by simp [Instr.alloc, hz, newVar, run_newRow], h1, h2⟩
  | box elem x =>
    simp only [evalP] at h
    split at h
    case h_2 => cases h
    case h_1 u hu =>
      simp only [Option.some.injEq, Prod.mk.injEq, true_and] at h
      obtain ⟨rfl, rfl⟩ := h
      obtain ⟨β', h1, h2⟩ := newVar_ok (t := elem) hr.hB (hfresh _ _ (List.mem_singleton.2 rfl) rfl) (ev1_ok hr hu).cells
      exact Ran.make ⟨_, _, β', by simp [Instr.box, newVar, run_newRow], h1, h2⟩
  | build t parts => exact Ran.of (eBuild_ok hT hr h)
  | buildSlice t n parts =>
    have hd : β (d, 0) = none := by
      simp only [evalP] at h
      unfold eBuildSlice at h
      split at h
      case h_2 => cases h
      case h_1 =>
        split at h
        case h_2 => cases h
        case h_1 =>
          split at h
          case h_2 => cases h
          case h_1 =>
            obtain ⟨_, h⟩ := cond_none h
            obtain ⟨_, h⟩ := cond_none h
            split at h
            case h_2 => cases h
            case h_1 =>
              simp only [Option.some.injEq, Prod.mk.injEq, true_and] at h
              obtain ⟨_, rfl⟩ := h
              exact hfresh _ _ (List.mem_singleton.2 rfl) rfl
    exact Ran.make (eBuildSlice_ok hT hr h hd)
  | makeSlice t x y =>
    simp only [evalP] at h
    split at h
    case h_2 => cases h
    case h_1 c1 c2 h1 h2 =>
      have hd : β (d, 0) = none := by
        unfold eMakeSlice at h
        split at h
        case h_2 => cases h
        case h_1 =>
          split at h
          case h_2 => cases h
          case h_1 =>
            split at h
            case h_2 => cases h
            case h_1 =>
              split at h
              case h_2 => cases h
              case h_1 =>
                obtain ⟨_, h⟩ := cond_none h
                simp only [Option.some.injEq, Prod.mk.injEq] at h
                obtain ⟨_, _, rfl⟩ := h
                exact hfresh _ _ (List.mem_singleton.2 rfl) rfl
      exact Ran.make (eMakeSlice_ok hT hr h (evc_ok hr h1) (evc_ok hr h2) hd)
  | load t x =>
    simp only [evalP] at h
    split at h
    case h_2 => cases h
    case h_1 c hc => exact Ran.of (eLoad_ok hT hr h (evc_ok hr hc))
  | store t x y =>
    simp only [evalP] at h
    split at h
    case h_2 => cases h
    case h_1 c u hc hu => exact Ran.unit (eStore_ok hT hr h (evc_ok hr hc) (ev1_ok hr hu))
  | nilCheck x =>
    simp only [evalP] at h
    split at h
    case h_2 => cases h
    case h_1 y i j dy hc =>
      simp only [ok1, Option.some.injEq, Prod.mk.injEq, true_and] at h
      obtain ⟨rfl, rfl⟩ := h
      have := evc_ok hr hc
      obtain ⟨bi, hbi, hv⟩ := this
      simp only [hv]
      exact Ran.pure ⟨bi, hbi, rfl⟩
  | binOp op t x y k =>
    simp only [evalP] at h
    split at h
    case h_2 => cases h
    case h_1 u u' hu hu' => exact Ran.of (eBin_ok hT h (ev1_ok hr hu) (ev1_ok hr hu') x y)
  | unOp op t x =>
    simp only [evalP] at h
    split at h
    case h_2 => cases h
    case h_1 c hc => exact Ran.of (eUn_ok h (evc_ok hr hc))
  | convert src dst x =>
    simp only [evalP] at h
    split at h
    case h_2 => cases h
    case h_1 c hc => exact Ran.of (eConv_ok hT h (evc_ok hr hc))
  | makeFunc fn first captured =>
    cases fn <;> try (simp [evalP] at h; done)
    case func f =>
      simp only [evalP] at h
      split at h
      case h_2 => cases h
      case h_1 h1 h2 =>
        simp only [ok1, Option.some.injEq, Prod.mk.injEq, true_and] at h
        obtain ⟨rfl, rfl⟩ := h
        obtain rfl := list_nil h1
        obtain rfl := list_nil h2
        exact Ran.of ⟨rfl, .func (.func f) #[] #[], by simp [Instr.makeFunc], rfl⟩
  | slice t x lo hi mx =>
    cases mx with
    | some => simp [evalP] at h
    | none =>
      simp only [evalP] at h
      split at h
      case h_2 => cases h
      case h_1 c hc => exact Ran.of (eSlice_ok hT hr h (evc_ok hr hc))
  | fieldAddr t x f =>
    simp only [evalP] at h
    split at h
    case h_2 => cases h
    case h_1 c hc => exact Ran.of (eFieldAddr_ok hT h (evc_ok hr hc))
  | field t x f =>
    simp only [evalP] at h
    split at h
    case h_2 => cases h
    case h_1 c hc => exact Ran.of (eField_ok hT h (ev1_ok hr hc))
  | indexAddr t x ix =>
    simp only [evalP] at h
    split at h
    case h_2 => cases h
    case h_1 c c' hc hc' => exact Ran.of (eIndexAddr_ok hT hr h (evc_ok hr hc) (evc_ok hr hc'))
  | index t x ix =>
    simp only [evalP] at h
    split at h
    case h_2 => cases h
    case h_1 c c' hc hc' => exact Ran.of (eIndex_ok hT h (ev1_ok hr hc) (evc_ok hr hc'))
  | extract x i =>
    simp only [evalP] at h
    split at h
    case h_2 => cases h
    case h_1 l hl =>
      split at h
      case h_2 => cases h
      case h_1 u hu =>
        simp only [Option.some.injEq, Prod.mk.injEq, true_and] at h
        obtain ⟨rfl, rfl⟩ := h
        obtain ⟨vs, hv, hvs⟩ := ev_ok hr hl
        obtain ⟨vv, h1, h2⟩ := hvs.nth hu
        refine Ran.of ⟨rfl, vv, ?_, h2⟩
        rw [hv]
        simp [Instr.extract, h1]
  | call c =>
    obtain ⟨callee, args, argTypes⟩ := c
    cases callee with
    | value f => simp [evalP] at h
    | invoke r n => simp [evalP] at h
    | builtin b =>
      simp only [evalP] at h
      split at h
      · rename_i x t ha ht
        split at h
        case h_2 => cases h
        case h_1 u hu =>
          obtain rfl := toList_eq ha
          obtain rfl := toList_eq ht
          have := eLen_ok (ty := o.type) hT hr h (ev1_ok hr hu)
          simpa [resolve, invoke, builtin] using Ran.of (B := B) this
      · rename_i x y t t' ha ht
        split at h
        case h_2 => cases h
        case h_1 u u' hu hu' =>
          replace h := cond_none h
          obtain ⟨htt, h⟩ := h
          have htt := beq_iff.1 htt
          subst htt
          obtain rfl := toList_eq ha
          obtain rfl := toList_eq ht
          have hd : β (d, 0) = none := by
            unfold eAppend at h
            split at h
            case h_2 => cases h
            case h_1 =>
              split at h
              case h_2 => cases h
              case h_1 =>
                split at h
                case h_2 => cases h
                case h_1 =>
                  obtain ⟨_, h⟩ := cond_none h
                  obtain ⟨_, h⟩ := cond_none h
                  obtain ⟨_, h⟩ := cond_none h
                  simp only [Option.some.injEq, Prod.mk.injEq] at h
                  obtain ⟨_, _, rfl⟩ := h
                  exact hfresh _ _ List.mem_cons_self rfl
          have := eAppend_ok (ty := o.type) hT hr h (evc_ok hr hu) (evc_ok hr hu') hd
          simpa [resolve, invoke, builtin] using Ran.make this
      · rename_i x y ha
        split at h
        case h_2 => cases h
        case h_1 u u' hu hu' =>
          obtain rfl := toList_eq ha
          have := eMax_ok (P := P) (w := w) h (evc_ok hr hu) (evc_ok hr hu') argTypes o.type
          simpa [resolve, invoke, builtin] using Ran.of (B := B) this
      · rename_i x y ha
        split at h
        case h_2 => cases h
        case h_1 u u' hu hu' =>
          obtain rfl := toList_eq ha
          have := eMax_ok (P := P) (w := w) h (evc_ok hr hu) (evc_ok hr hu') argTypes o.type
          simpa [resolve, invoke, builtin] using Ran.of (B := B) this
      · cases h
  | _ => simp [evalP] at h

end
end Go.Eng
