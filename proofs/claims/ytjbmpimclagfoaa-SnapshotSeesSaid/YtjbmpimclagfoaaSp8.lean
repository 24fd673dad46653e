/-
  What is found at a pointer: Peek, Open, and the document's Look.
-/
import Derived.Test.YtjbmpimclagfoaaSp7
namespace Go.Sp
open Go.Eng

/-- What is found at a pointer, handed on. -/
def lookT {α : Type} (lk : Int → Bool) (kd gn : Int → Int) (o : Bool) (ps : List Pg) (line g k : Int) (f : Pg → Bool → Int → α) : α :=
  bif !validP line g then f .zero false 1 else bif !latB ps line then f .zero false 0 else
    bif o then bif lk (latP ps line).h then f .zero false 3 else
      bif kd (latP ps line).a == 0 then f .zero false 11 else bif gn (latP ps line).a != g then f .zero false 11 else bif kd (latP ps line).a != k then f .zero false 14 else f (latP ps line) true 0
    else bif kd (latP ps line).a == 0 then f .zero false 11 else bif gn (latP ps line).a != g then f .zero false 11 else bif kd (latP ps line).a != k then f .zero false 14 else f (latP ps line) true 0

def lookP (o : Bool) (ps : List Pg) (line g k : Int) : Pg := lookT lockP tK tG o ps line g k fun p _ _ => p
def lookB (o : Bool) (ps : List Pg) (line g k : Int) : Bool := lookT lockP tK tG o ps line g k fun _ b _ => b
def lookC (o : Bool) (ps : List Pg) (line g k : Int) : Int := lookT lockP tK tG o ps line g k fun _ _ c => c
def rlookP (o : Bool) (ps : List Pg) (line g k : Int) : Pg := lookT rlockP rKind rGen o ps line g k fun p _ _ => p
def rlookB (o : Bool) (ps : List Pg) (line g k : Int) : Bool := lookT rlockP rKind rGen o ps line g k fun _ b _ => b
def rlookC (o : Bool) (ps : List Pg) (line g k : Int) : Int := lookT rlockP rKind rGen o ps line g k fun _ _ c => c

theorem lookT_eq {α : Type} (lk : Int → Bool) (kd gn : Int → Int) (o : Bool) (ps : List Pg) (line g k : Int) (f : Pg → Bool → Int → α) :
    lookT lk kd gn o ps line g k f = f (lookT lk kd gn o ps line g k fun p _ _ => p) (lookT lk kd gn o ps line g k fun _ b _ => b) (lookT lk kd gn o ps line g k fun _ _ c => c) := by
  unfold lookT
  cases validP line g <;> cases latB ps line <;> cases o <;> cases lk (latP ps line).h <;> cases kd (latP ps line).a == 0 <;> cases gn (latP ps line).a != g <;> cases kd (latP ps line).a != k <;> rfl

theorem zero_ok : Pg.zero.ok := by
  constructor <;> first | exact ⟨by decide, by decide⟩

theorem latest_mem {ps : List Pg} {line : Int} {p : Pg} (h : latest ps line = some p) : p ∈ ps ∧ p.l = line := by
  induction ps with
  | nil => simp [latest] at h
  | cons q r ih =>
    simp only [latest] at h
    cases hr : latest r line with
    | some x =>
      rw [hr] at h
      simp only [Option.some.injEq] at h
      subst h
      obtain ⟨h1, h2⟩ := ih hr
      exact ⟨by simp [h1], h2⟩
    | none =>
      rw [hr] at h
      simp only at h
      cases hl : q.l == line with
      | false => rw [hl] at h; cases h
      | true =>
        rw [hl] at h
        simp only [cond_true, Option.some.injEq] at h
        subst h
        exact ⟨by simp, by simpa using hl⟩

theorem latP_ok {ps : List Pg} (h : ∀ p ∈ ps, p.ok) (line : Int) : (latP ps line).ok := by
  unfold latP
  split
  · rename_i p hp; exact h p (latest_mem hp).1
  · exact zero_ok

theorem rlookT_of {α : Type} {ps : List Pg} (h : ∀ p ∈ ps, p.ok) (o : Bool) (line g k : Int) (f : Pg → Bool → Int → α) : lookT rlockP rKind rGen o ps line g k f = lookT lockP tK tG o ps line g k f := by
  have hp := latP_ok h line
  unfold lookT
  rw [rlock_of hp.h, rKind_of hp.a, rGen_of hp.a]

theorem rlookP_of {ps : List Pg} (h : ∀ p ∈ ps, p.ok) (o : Bool) (line g k : Int) : rlookP o ps line g k = lookP o ps line g k := rlookT_of h _ _ _ _ _
theorem rlookB_of {ps : List Pg} (h : ∀ p ∈ ps, p.ok) (o : Bool) (line g k : Int) : rlookB o ps line g k = lookB o ps line g k := rlookT_of h _ _ _ _ _
theorem rlookC_of {ps : List Pg} (h : ∀ p ∈ ps, p.ok) (o : Bool) (line g k : Int) : rlookC o ps line g k = lookC o ps line g k := rlookT_of h _ _ _ _ _

end Go.Sp

namespace Go.Proofs.Ytjbmpimclagfoaa
open Go.Eng Go.Sp

def rp (l g : Int) : D1 := .agg [.pc (.int .i64 l), .pc (.int .i64 g)]
/-- A page, a boolean and a code. -/
def pc3 (p : Pg) (b : Bool) (c : Int) : DRes := .tup [p.t, rb b, ri c]

theorem peek_sem (E : Els) (h : pgsOK E.list = true) (line g k : Int) : FnSem Try.prog 64 [.one (.sl 9 E), rp line g, ri k]
    (pc3 (lookP false (pgsOf E.list) line g k) (lookB false (pgsOf E.list) line g k) (lookC false (pgsOf E.list) line g k)) := by
  refine sem E5_ok (lf := 10) (depth := 10) ?_
  have e : ∀ F0 : Fns, F0 = F → callD T E5 F0 10 10 64 [.one (.sl 9 E), rp line g, ri k] some =
      (bif !validP line g then some (pc3 .zero false 1) else bif pgsOK E.list then bif !latB (pgsOf E.list) line then some (pc3 .zero false 0) else
        bif tK (latP (pgsOf E.list) line).a == 0 then some (pc3 .zero false 11) else bif tG (latP (pgsOf E.list) line).a != g then some (pc3 .zero false 11) else bif tK (latP (pgsOf E.list) line).a != k then some (pc3 .zero false 14)
        else some (pc3 (latP (pgsOf E.list) line) true 0) else none) := fun F0 h0 => by subst h0; kernel_rfl
  rw [e F rfl, h]
  exact lookT_eq lockP tK tG false (pgsOf E.list) line g k fun p b c => some (pc3 p b c)

theorem open_sem (E : Els) (h : pgsOK E.list = true) (line g k : Int) : FnSem Try.prog 38 [.one (.sl 9 E), rp line g, ri k]
    (pc3 (lookP true (pgsOf E.list) line g k) (lookB true (pgsOf E.list) line g k) (lookC true (pgsOf E.list) line g k)) := by
  refine sem E5_ok (lf := 10) (depth := 10) ?_
  have e : callD T E5 F 10 10 38 [.one (.sl 9 E), rp line g, ri k] some =
      (bif !validP line g then some (pc3 .zero false 1) else bif pgsOK E.list then bif !latB (pgsOf E.list) line then some (pc3 .zero false 0) else bif lockP (latP (pgsOf E.list) line).h then some (pc3 .zero false 3) else
        bif tK (latP (pgsOf E.list) line).a == 0 then some (pc3 .zero false 11) else bif tG (latP (pgsOf E.list) line).a != g then some (pc3 .zero false 11) else bif tK (latP (pgsOf E.list) line).a != k then some (pc3 .zero false 14)
        else some (pc3 (latP (pgsOf E.list) line) true 0) else none) := by kernel_rfl
  rw [e, h]
  exact lookT_eq lockP tK tG true (pgsOf E.list) line g k fun p b c => some (pc3 p b c)

theorem rlook_sem (E : Els) (h : pgsOK E.list = true) (line g k : Int) (o : Bool) : FnSem Try.prog 65 [.one (.sl 9 E), rp line g, ri k, rb o]
    (pc3 (rlookP o (pgsOf E.list) line g k) (rlookB o (pgsOf E.list) line g k) (rlookC o (pgsOf E.list) line g k)) := by
  refine sem E5_ok (lf := 10) (depth := 10) ?_
  have e : callD T E5 F 10 10 65 [.one (.sl 9 E), rp line g, ri k, rb o] some =
      (bif !validP line g then some (pc3 .zero false 1) else bif pgsOK E.list then bif !latB (pgsOf E.list) line then some (pc3 .zero false 0) else
        bif o then bif rlockP (latP (pgsOf E.list) line).h then some (pc3 .zero false 3) else
          bif rKind (latP (pgsOf E.list) line).a == 0 then some (pc3 .zero false 11) else bif rGen (latP (pgsOf E.list) line).a != g then some (pc3 .zero false 11) else bif rKind (latP (pgsOf E.list) line).a != k then some (pc3 .zero false 14)
          else some (pc3 (latP (pgsOf E.list) line) true 0)
        else bif rKind (latP (pgsOf E.list) line).a == 0 then some (pc3 .zero false 11) else bif rGen (latP (pgsOf E.list) line).a != g then some (pc3 .zero false 11) else bif rKind (latP (pgsOf E.list) line).a != k then some (pc3 .zero false 14)
          else some (pc3 (latP (pgsOf E.list) line) true 0) else none) := by kernel_rfl
  rw [e, h]
  exact lookT_eq rlockP rKind rGen o (pgsOf E.list) line g k fun p b c => some (pc3 p b c)

def lookS (o : Bool) : List D1 → Option (Bool × DRes)
  | [.one (.sl z E), .agg [.pc (.int .i64 line), .pc (.int .i64 g)], .one (.pc (.int .i64 k))] =>
    cond (Nat.beq z 9) (some (pgsOK E.list, pc3 (lookP o (pgsOf E.list) line g k) (lookB o (pgsOf E.list) line g k) (lookC o (pgsOf E.list) line g k))) none
  | _ => none

def rlookS : List D1 → Option (Bool × DRes)
  | [.one (.sl z E), .agg [.pc (.int .i64 line), .pc (.int .i64 g)], .one (.pc (.int .i64 k)), .one (.pc (.bool o))] =>
    cond (Nat.beq z 9) (some (pgsOK E.list, pc3 (rlookP o (pgsOf E.list) line g k) (rlookB o (pgsOf E.list) line g k) (rlookC o (pgsOf E.list) line g k))) none
  | _ => none

theorem lookS_some {o : Bool} {l : List D1} {d : DRes} (h : lookS o l = some (true, d)) : ∃ E line g k, l = [.one (.sl 9 E), rp line g, ri k] ∧ pgsOK E.list = true ∧
    d = pc3 (lookP o (pgsOf E.list) line g k) (lookB o (pgsOf E.list) line g k) (lookC o (pgsOf E.list) line g k) := by
  unfold lookS at h
  split at h
  case h_2 => cases h
  case h_1 z E line g k =>
    obtain ⟨h1, g1⟩ := cond_none h
    simp only [Option.some.injEq, Prod.mk.injEq] at g1
    exact ⟨E, line, g, k, by rw [beq_iff.1 h1]; rfl, g1.1, g1.2.symm⟩

theorem peekS_ok : ∀ l d, lookS false l = some (true, d) → FnSem Try.prog 64 l d := fun l d h => by
  obtain ⟨E, line, g, k, rfl, h1, rfl⟩ := lookS_some h
  exact peek_sem E h1 line g k

theorem openS_ok : ∀ l d, lookS true l = some (true, d) → FnSem Try.prog 38 l d := fun l d h => by
  obtain ⟨E, line, g, k, rfl, h1, rfl⟩ := lookS_some h
  exact open_sem E h1 line g k

theorem rlookS_ok : ∀ l d, rlookS l = some (true, d) → FnSem Try.prog 65 l d := fun l d h => by
  unfold rlookS at h
  split at h
  case h_2 => cases h
  case h_1 z E line g k o =>
    obtain ⟨h1, g1⟩ := cond_none h
    simp only [Option.some.injEq, Prod.mk.injEq] at g1
    obtain ⟨h2, rfl⟩ := g1
    rw [beq_iff.1 h1]
    exact rlook_sem E h2 line g k o

def E6 : Env := (64, lookS false) :: (38, lookS true) :: (65, rlookS) :: E5
theorem E6_ok : EnvOK Try.prog E6 := .consO peekS_ok (.consO openS_ok (.consO rlookS_ok E5_ok))

end Go.Proofs.Ytjbmpimclagfoaa
