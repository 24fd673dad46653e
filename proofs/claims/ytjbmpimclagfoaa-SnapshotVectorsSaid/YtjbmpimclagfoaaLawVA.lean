/-
  SnapshotVectors: which words are a vector, and what is visible at it, in both.
-/
import Derived.Test.YtjbmpimclagfoaaSp15
import Derived.Test.YtjbmpimclagfoaaSp5
namespace Go.Sp
open Go.Eng

def ur (x : Int) : List PC := [.int .u64 x]

theorem rowIs_ur {xs : List Int} {i : Nat} (h : i < xs.length) : rowIs [some .u64] (xs.map ur) i = true := by
  unfold rowIs
  rw [List.getElem?_map, List.getElem?_eq_getElem h]
  rfl

theorem intCell_ur {xs : List Int} {i : Nat} (h : i < xs.length) : intCell (xs.map ur) i 0 = xs[i] := by
  unfold intCell
  rw [List.getElem?_map, List.getElem?_eq_getElem h]
  rfl

/-- A condition, as a boolean. -/
noncomputable def qB (p : Prop) : Bool := @decide p (Classical.propDecidable p)

theorem qB_true {p : Prop} (h : p) : qB p = true := by unfold qB; exact @decide_eq_true p (Classical.propDecidable p) h
theorem qB_of {p : Prop} (h : qB p = true) : p := @of_decide_eq_true p (Classical.propDecidable p) h

/-- Which words are a vector. -/
def ofT {α : Type} (l : List (List PC)) (f : Int → Int → Int → Int → Int → Int → Int → α) : α :=
  bif (l.length : Int) != 8 then f 0 0 0 0 0 0 1 else
  bif decide (intCell l 0 0 < 1073741824) then bif decide (intCell l 1 0 < 1073741824) then bif decide (intCell l 2 0 < 1073741824) then bif decide (intCell l 3 0 < 1073741824) then bif decide (intCell l 4 0 < 1073741824) then bif decide (intCell l 5 0 < 1073741824) then
    bif intCell l 6 0 != 0 then f 0 0 0 0 0 0 14 else bif intCell l 7 0 != 0 then f 0 0 0 0 0 0 14 else f (intCell l 0 0) (intCell l 1 0) (intCell l 2 0) (intCell l 3 0) (intCell l 4 0) (intCell l 5 0) 0
    else f 0 0 0 0 0 0 14 else f 0 0 0 0 0 0 14 else f 0 0 0 0 0 0 14 else f 0 0 0 0 0 0 14 else f 0 0 0 0 0 0 14 else f 0 0 0 0 0 0 14

def rofT {α : Type} (l : List (List PC)) (f : Int → Int → Int → Int → Int → Int → Int → α) : α :=
  bif (l.length : Int) != 8 then f 0 0 0 0 0 0 1 else
  bif decide (intCell l 0 0 ≥ 1073741824) then f 0 0 0 0 0 0 14 else bif decide (intCell l 1 0 ≥ 1073741824) then f 0 0 0 0 0 0 14 else bif decide (intCell l 2 0 ≥ 1073741824) then f 0 0 0 0 0 0 14 else bif decide (intCell l 3 0 ≥ 1073741824) then f 0 0 0 0 0 0 14 else
  bif decide (intCell l 4 0 ≥ 1073741824) then f 0 0 0 0 0 0 14 else bif decide (intCell l 5 0 ≥ 1073741824) then f 0 0 0 0 0 0 14 else
    bif intCell l 6 0 != 0 then f 0 0 0 0 0 0 14 else bif intCell l 7 0 != 0 then f 0 0 0 0 0 0 14 else f (intCell l 0 0) (intCell l 1 0) (intCell l 2 0) (intCell l 3 0) (intCell l 4 0) (intCell l 5 0) 0

theorem rofT_eq {α : Type} (l : List (List PC)) (f : Int → Int → Int → Int → Int → Int → Int → α) : rofT l f = ofT l f := by
  have e : ∀ x : Int, decide (x ≥ 1073741824) = !decide (x < 1073741824) := fun x => by
    by_cases h : x < 1073741824
    · rw [decide_eq_true h, decide_eq_false (by omega)]; rfl
    · rw [decide_eq_false h, decide_eq_true (by omega)]; rfl
  unfold rofT ofT
  rw [e, e, e, e, e, e]
  cases (l.length : Int) != 8
  · cases decide (intCell l 0 0 < 1073741824)
    · rfl
    · cases decide (intCell l 1 0 < 1073741824)
      · rfl
      · cases decide (intCell l 2 0 < 1073741824)
        · rfl
        · cases decide (intCell l 3 0 < 1073741824)
          · rfl
          · cases decide (intCell l 4 0 < 1073741824)
            · rfl
            · cases decide (intCell l 5 0 < 1073741824) <;> rfl
  · rfl

def rvisP (a b c d e f s : Int) : Bool := bif refO s then decide (IntKind.wrap .u64 (refS s) ≤ Go.Eng.intAt [a, b, c, d, e, f] (Int.toNat (refC s) * 1 + 0)) else false

theorem rvisP_of (a b c d e f : Int) {s : Int} (h : rU64 s) : rvisP a b c d e f s = visP a b c d e f s := by
  unfold rvisP visP
  rw [refO_of h.1 h.2, refS_of h.1 h.2, refC_of h.1 h.2]

theorem refO_range {s : Int} (h : refO s = true) : 0 ≤ refC s ∧ refC s < 6 := by
  have hc : refC s = refc s := by unfold refC; rw [h, cond_true]
  rw [hc]
  unfold refO at h
  cases h0 : decide (refq s ≥ 1073741824) with
  | true => rw [h0] at h; cases h
  | false =>
    rw [h0, cond_false] at h
    cases h1 : decide (refc s < 0) with
    | true => rw [h1] at h; cases h
    | false =>
      rw [h1, cond_false] at h
      cases h2 : decide (refc s ≥ 6) with
      | true => rw [h2] at h; cases h
      | false =>
        have := of_decide_eq_false h1
        have := of_decide_eq_false h2
        omega

end Go.Sp

namespace Go.Proofs.Ytjbmpimclagfoaa
open Go.Eng Go.Sp

def vc7 (a b c d e f x : Int) : DRes := .tup [.agg [.pc (.int .u64 a), .pc (.int .u64 b), .pc (.int .u64 c), .pc (.int .u64 d), .pc (.int .u64 e), .pc (.int .u64 f)], ri x]

theorem ur8 {xs : List Int} (h : xs.length = 8) : ∃ a b c d e f g i, xs = [a, b, c, d, e, f, g, i] := by
  match xs, h with
  | [a, b, c, d, e, f, g, i], _ => exact ⟨a, b, c, d, e, f, g, i, rfl⟩

theorem noneOK (P : Program) (b : Code) : SumOK P b (fun _ _ => none) := fun _ _ _ h => by cases h

/-- What a result is, whatever it is handed to. -/
def ofR (l : List (List PC)) : DRes := ofT l vc7

theorem of_sem (xs : List Int) : FnSem Try.prog 30 [.one (.sl 1 (.sp [some .u64] (xs.map ur)))] (ofR (xs.map ur)) := by
  by_cases h8 : xs.length = 8
  · obtain ⟨a, b, c, d, e, f, g, i, rfl⟩ := ur8 h8
    refine sem E13_ok (lf := 10) (depth := 10) ?_
    have h : callD T E13 F 10 10 30 [.one (.sl 1 (.sp [some .u64] [ur a, ur b, ur c, ur d, ur e, ur f, ur g, ur i]))] some = ofT [ur a, ur b, ur c, ur d, ur e, ur f, ur g, ur i] (fun a b c d e f x => some (vc7 a b c d e f x)) := by kernel_rfl
    refine h.trans ?_
    unfold ofR ofT
    simp only [List.map_cons, List.map_nil]
    repeat' (refine bif_elim (fun h => ?_) (fun h => ?_) <;> simp only [h, cond_true, cond_false])
  · refine semL (E := E13) E13_ok (lf := 10) (lf' := 10) (depth := 10) (an := annS 30 [(5, fun _ _ => none)]) Try.func30 (by kernel_rfl) (SumsOK.fn (l := [bodyL 5 Try.f30]) (by kernel_rfl) (fun b hb => ?_)) ?_
    · obtain rfl := List.mem_singleton.1 hb
      exact GoodL.some (f := fun _ _ => none) (by kernel_rfl) (noneOK _ _)
    · have h : ∀ l : List (List PC), evalFn T (callD T E13 F 10 10) (annS 30 [(5, fun _ _ => none)]) 10 Try.f30 [.one (.sl 1 (.sp [some .u64] l))] some = (bif (l.length : Int) != 8 then some (vc7 0 0 0 0 0 0 1) else none) := fun l => by kernel_rfl
      have e : (((xs.map ur).length : Int) != 8) = true := by rw [List.length_map]; simp; omega
      rw [h]
      unfold ofR ofT
      rw [e]
      rfl

theorem rof_sem (xs : List Int) : FnSem Try.prog 31 [.one (.sl 1 (.sp [some .u64] (xs.map ur)))] (ofR (xs.map ur)) := by
  by_cases h8 : xs.length = 8
  · obtain ⟨a, b, c, d, e, f, g, i, rfl⟩ := ur8 h8
    refine sem E13_ok (lf := 10) (depth := 10) ?_
    have h : callD T E13 F 10 10 31 [.one (.sl 1 (.sp [some .u64] [ur a, ur b, ur c, ur d, ur e, ur f, ur g, ur i]))] some = rofT [ur a, ur b, ur c, ur d, ur e, ur f, ur g, ur i] (fun a b c d e f x => some (vc7 a b c d e f x)) := by kernel_rfl
    refine h.trans ?_
    rw [rofT_eq]
    unfold ofR ofT
    simp only [List.map_cons, List.map_nil]
    repeat' (refine bif_elim (fun h => ?_) (fun h => ?_) <;> simp only [h, cond_true, cond_false])
  · refine semL (E := E13) E13_ok (lf := 10) (lf' := 10) (depth := 10) (an := annS 31 [(5, fun _ _ => none)]) Try.func31 (by kernel_rfl) (SumsOK.fn (l := [bodyL 5 Try.f31]) (by kernel_rfl) (fun b hb => ?_)) ?_
    · obtain rfl := List.mem_singleton.1 hb
      exact GoodL.some (f := fun _ _ => none) (by kernel_rfl) (noneOK _ _)
    · have h : ∀ l : List (List PC), evalFn T (callD T E13 F 10 10) (annS 31 [(5, fun _ _ => none)]) 10 Try.f31 [.one (.sl 1 (.sp [some .u64] l))] some = (bif (l.length : Int) != 8 then some (vc7 0 0 0 0 0 0 1) else none) := fun l => by kernel_rfl
      have e : (((xs.map ur).length : Int) != 8) = true := by rw [List.length_map]; simp; omega
      rw [h]
      unfold ofR ofT
      rw [e]
      rfl

def ofA (l : List (List PC)) : Int := ofT l fun a _ _ _ _ _ _ => a
def ofB (l : List (List PC)) : Int := ofT l fun _ b _ _ _ _ _ => b
def ofC (l : List (List PC)) : Int := ofT l fun _ _ c _ _ _ _ => c
def ofD (l : List (List PC)) : Int := ofT l fun _ _ _ d _ _ _ => d
def ofE (l : List (List PC)) : Int := ofT l fun _ _ _ _ e _ _ => e
def ofF (l : List (List PC)) : Int := ofT l fun _ _ _ _ _ f _ => f
def ofX (l : List (List PC)) : Int := ofT l fun _ _ _ _ _ _ x => x

theorem ofR_eq (l : List (List PC)) : ofR l = vc7 (ofA l) (ofB l) (ofC l) (ofD l) (ofE l) (ofF l) (ofX l) := by
  unfold ofR ofA ofB ofC ofD ofE ofF ofX ofT
  repeat' (refine bif_elim (fun h => ?_) (fun h => ?_) <;> simp only [h, cond_true, cond_false])

noncomputable def ofS : List D1 → Option (Bool × DRes)
  | [.one (.sl z E)] => cond (Nat.beq z 1) (some (qB (∃ xs : List Int, E.list = xs.map ur), vc7 (ofA E.list) (ofB E.list) (ofC E.list) (ofD E.list) (ofE E.list) (ofF E.list) (ofX E.list))) none
  | _ => none

theorem ofS_some {l : List D1} {d : DRes} (h : ofS l = some (true, d)) : ∃ (E : Els) (xs : List Int), l = [.one (.sl 1 E)] ∧ E.list = xs.map ur ∧ d = ofR (xs.map ur) := by
  unfold ofS at h
  split at h
  case h_2 => cases h
  case h_1 z E =>
    obtain ⟨h1, g1⟩ := cond_none h
    simp only [Option.some.injEq, Prod.mk.injEq] at g1
    obtain ⟨h2, rfl⟩ := g1
    obtain ⟨xs, hx⟩ := qB_of h2
    refine ⟨E, xs, by rw [beq_iff.1 h1], hx, ?_⟩
    rw [← hx, ofR_eq]

theorem ofS_ok : ∀ l d, ofS l = some (true, d) → FnSem Try.prog 30 l d := fun l d h => by
  obtain ⟨E, xs, rfl, hx, rfl⟩ := ofS_some h
  exact (of_sem xs).same ⟨⟨rfl, hx.symm⟩, trivial⟩

theorem rofS_ok : ∀ l d, ofS l = some (true, d) → FnSem Try.prog 31 l d := fun l d h => by
  obtain ⟨E, xs, rfl, hx, rfl⟩ := ofS_some h
  exact (rof_sem xs).same ⟨⟨rfl, hx.symm⟩, trivial⟩

theorem rvis_sem (a b c d e f s : Int) : FnSem Try.prog 32 [.agg [.pc (.int .u64 a), .pc (.int .u64 b), .pc (.int .u64 c), .pc (.int .u64 d), .pc (.int .u64 e), .pc (.int .u64 f)], .one (.pc (.int .u64 s))] (.v (.one (.pc (.bool (rvisP a b c d e f s))))) := by
  refine sem E13_ok (lf := 10) (depth := 10) ?_
  have h : callD T E13 F 10 10 32 [.agg [.pc (.int .u64 a), .pc (.int .u64 b), .pc (.int .u64 c), .pc (.int .u64 d), .pc (.int .u64 e), .pc (.int .u64 f)], .one (.pc (.int .u64 s))] some =
      (bif refO s then bif decide (0 ≤ refC s ∧ refC s < ((6 : Nat) : Int)) then bif Nat.blt (Int.toNat (refC s) * 1 + 0) 6 then boolR (decide (IntKind.wrap .u64 (refS s) ≤ intAt [a, b, c, d, e, f] (Int.toNat (refC s) * 1 + 0))) else none else none else boolR false) := by kernel_rfl
  rw [h]
  unfold rvisP
  cases ho : refO s with
  | false => rfl
  | true =>
    have hr := refO_range ho
    have h1 : decide (0 ≤ refC s ∧ refC s < ((6 : Nat) : Int)) = true := decide_eq_true (by omega)
    have h2 : Nat.blt (Int.toNat (refC s) * 1 + 0) 6 = true := blt_iff.2 (by omega)
    rw [h1, h2]
    rfl

def rvisS : List D1 → Option DRes
  | [.agg [.pc (.int .u64 a), .pc (.int .u64 b), .pc (.int .u64 c), .pc (.int .u64 d), .pc (.int .u64 e), .pc (.int .u64 f)], .one (.pc (.int .u64 s))] => some (.v (.one (.pc (.bool (rvisP a b c d e f s)))))
  | _ => none

theorem rvisS_ok : ∀ l d, rvisS l = some d → FnSem Try.prog 32 l d := fun l d h => by
  unfold rvisS at h
  split at h
  · simp only [Option.some.injEq] at h; subst h; exact rvis_sem _ _ _ _ _ _ _
  · cases h

noncomputable def EV : Env := (30, ofS) :: (31, ofS) :: (32, tot rvisS) :: (29, tot visS) :: (27, tot awake22S) :: E13
theorem EV_ok : EnvOK Try.prog EV := .consO ofS_ok (.consO rofS_ok (.cons rvisS_ok (.cons visS_ok (.cons awake22S_ok E13_ok))))

end Go.Proofs.Ytjbmpimclagfoaa
