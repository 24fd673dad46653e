/-
  Pages: what Allocate, Release and the comparison of two pages compute.
-/
import Derived.Test.YtjbmpimclagfoaaSp4
namespace Go.Sp
open Go.Eng

/-- A page. -/
structure Pg where
  l : Int
  h : Int
  a : Int
  b : Int
  c : Int
  d : Int
  e : Int
  f : Int
  g : Int

def Pg.row (p : Pg) : List PC := [.int .i64 p.l, .int .u64 p.h, .int .u64 p.a, .int .u64 p.b, .int .u64 p.c, .int .u64 p.d, .int .u64 p.e, .int .u64 p.f, .int .u64 p.g]
def Pg.t (p : Pg) : D1 := .agg [.pc (.int .i64 p.l), .pc (.int .u64 p.h), .pc (.int .u64 p.a), .pc (.int .u64 p.b), .pc (.int .u64 p.c), .pc (.int .u64 p.d), .pc (.int .u64 p.e), .pc (.int .u64 p.f), .pc (.int .u64 p.g)]
def Pg.zero : Pg := ⟨0, 0, 0, 0, 0, 0, 0, 0, 0⟩
def rU64 (n : Int) : Prop := 0 ≤ n ∧ n ≤ 18446744073709551615
def rI64 (n : Int) : Prop := -9223372036854775808 ≤ n ∧ n ≤ 9223372036854775807
def rU32 (n : Int) : Prop := 0 ≤ n ∧ n ≤ 4294967295
structure Pg.ok (p : Pg) : Prop where
  l : rI64 p.l
  h : rU64 p.h
  a : rU64 p.a
  b : rU64 p.b
  c : rU64 p.c
  d : rU64 p.d
  e : rU64 p.e
  f : rU64 p.f
  g : rU64 p.g

def toPg : D1 → Option Pg
  | .agg [.pc (.int .i64 l), .pc (.int .u64 h), .pc (.int .u64 a), .pc (.int .u64 b), .pc (.int .u64 c), .pc (.int .u64 d), .pc (.int .u64 e), .pc (.int .u64 f), .pc (.int .u64 g)] => some ⟨l, h, a, b, c, d, e, f, g⟩
  | _ => none

theorem toPg_some {x : D1} {p : Pg} (h : toPg x = some p) : x = p.t := by
  unfold toPg at h
  split at h
  · simp only [Option.some.injEq] at h; subst h; rfl
  · cases h

theorem Pg.ext' {p q : Pg} (h1 : p.l = q.l) (h2 : p.h = q.h) (h3 : p.a = q.a) (h4 : p.b = q.b) (h5 : p.c = q.c) (h6 : p.d = q.d) (h7 : p.e = q.e) (h8 : p.f = q.f) (h9 : p.g = q.g) : p = q := by
  cases p; cases q; simp only at h1 h2 h3 h4 h5 h6 h7 h8 h9; subst h1 h2 h3 h4 h5 h6 h7 h8 h9; rfl

/-- Two pages, compared. -/
def pgEq (p q : Pg) : Bool := bif p.l == q.l then bif p.h == q.h then bif p.a == q.a then bif p.b == q.b then bif p.c == q.c then bif p.d == q.d then bif p.e == q.e then bif p.f == q.f then bif p.g == q.g then true else false else false else false else false else false else false else false else false else false

theorem pgEq_self (p : Pg) : pgEq p p = true := by
  unfold pgEq; simp

theorem pgEq_iff (p q : Pg) : pgEq p q = true ↔ p = q := by
  constructor
  · intro h
    unfold pgEq at h
    simp only [Bool.cond_eq_ite] at h
    repeat' split at h
    all_goals first | cases h | skip
    rename_i h1 h2 h3 h4 h5 h6 h7 h8 h9
    simp only [beq_iff_eq] at h1 h2 h3 h4 h5 h6 h7 h8 h9
    exact Pg.ext' h1 h2 h3 h4 h5 h6 h7 h8 h9
  · rintro rfl; exact pgEq_self p

def allocC (p : Pg) (k : Int) : Int :=
  bif decide (p.l ≥ 104) then bif !decide (p.l < 256) then 1 else bif decide (k < 1) then 1 else bif decide (k > 4) then 1 else bif lockP p.h then 3 else bif tK p.a != 0 then 17 else bif tG p.a == 16777215 then 18 else 0 else 1
def allocP (p : Pg) (k x : Int) : Pg := bif allocC p k == 0 then ⟨p.l, p.h, tagP k (IntKind.wrap .i64 (tG p.a + 1)) x, 0, 0, 0, 0, 0, 0⟩ else Pg.zero
def relC (p : Pg) : Int :=
  bif decide (p.l ≥ 104) then bif !decide (p.l < 256) then 1 else bif lockP p.h then 3 else bif tK p.a == 0 then 16 else 0 else 1
def relP (p : Pg) : Pg := bif relC p == 0 then ⟨p.l, p.h, tagP 0 (tG p.a) 0, 0, 0, 0, 0, 0, 0⟩ else Pg.zero
def rKind (a : Int) : Int := IntKind.wrap .i64 (Int.tmod a 256)
def rallocC (p : Pg) (k : Int) : Int :=
  bif decide (p.l ≥ 104) then bif !decide (p.l < 256) then 1 else bif decide (k < 1) then 1 else bif decide (k > 4) then 1 else bif rlockP p.h then 3 else bif rKind p.a != 0 then 17 else bif rGen p.a == 16777215 then 18 else 0 else 1
def rallocP (p : Pg) (k x : Int) : Pg := bif rallocC p k == 0 then ⟨p.l, p.h, rTag k (IntKind.wrap .i64 (rGen p.a + 1)) x, 0, 0, 0, 0, 0, 0⟩ else Pg.zero
def rrelC (p : Pg) : Int :=
  bif decide (p.l ≥ 104) then bif !decide (p.l < 256) then 1 else bif rlockP p.h then 3 else bif rKind p.a == 0 then 16 else 0 else 1
def rrelP (p : Pg) : Pg := bif rrelC p == 0 then ⟨p.l, p.h, rTag 0 (rGen p.a) 0, 0, 0, 0, 0, 0, 0⟩ else Pg.zero

theorem rKind_of {a : Int} (h : rU64 a) : rKind a = tK a := by
  unfold rKind; rw [(t_of h.1 h.2).1, tmod_pos h.1, i64_in (by omega) (by omega)]
theorem rGen_of {a : Int} (h : rU64 a) : rGen a = tG a := by rw [rgen_of h.1 h.2, (t_of h.1 h.2).2.1]
theorem rlock_of {a : Int} (h : rU64 a) : rlockP a = lockP a := by rw [(lock_of h.1 h.2).1, (lock_of h.1 h.2).2]
theorem rTag_of (k g : Int) {x : Int} (h : rU32 x) : rTag k g x = tagP k g x := by rw [tag_of k g h.1 h.2, rtag_of k g h.1 h.2]

theorem rallocC_of {p : Pg} (h : p.ok) (k : Int) : rallocC p k = allocC p k := by
  unfold rallocC allocC; rw [rKind_of h.a, rGen_of h.a, rlock_of h.h]
theorem rallocP_of {p : Pg} (h : p.ok) (k : Int) {x : Int} (hx : rU32 x) : rallocP p k x = allocP p k x := by
  unfold rallocP allocP; rw [rallocC_of h, rGen_of h.a, rTag_of _ _ hx]
theorem rrelC_of {p : Pg} (h : p.ok) : rrelC p = relC p := by
  unfold rrelC relC; rw [rKind_of h.a, rlock_of h.h]
theorem rrelP_of {p : Pg} (h : p.ok) : rrelP p = relP p := by
  unfold rrelP relP; rw [rrelC_of h, rGen_of h.a, rTag_of _ _ ⟨by decide, by decide⟩]

end Go.Sp

namespace Go.Proofs.Ytjbmpimclagfoaa
open Go.Eng Go.Sp

/-- A page and a code. -/
def pc2 (p : Pg) (c : Int) : DRes := .tup [p.t, .one (.pc (.int .i64 c))]
def ri (n : Int) : D1 := .one (.pc (.int .i64 n))
def ru32 (n : Int) : D1 := .one (.pc (.int .u32 n))
def ru64 (n : Int) : D1 := .one (.pc (.int .u64 n))
def rb (b : Bool) : D1 := .one (.pc (.bool b))

theorem alloc_sem (p : Pg) (k x : Int) : FnSem Try.prog 34 [p.t, ri k, ru32 x] (pc2 (allocP p k x) (allocC p k)) := by
  refine sem E3_ok (lf := 10) (depth := 10) ?_
  have h : callD T E3 F 10 10 34 [p.t, ri k, ru32 x] some =
      (bif decide (p.l ≥ 104) then bif !decide (p.l < 256) then some (pc2 .zero 1) else bif decide (k < 1) then some (pc2 .zero 1) else bif decide (k > 4) then some (pc2 .zero 1) else bif lockP p.h then some (pc2 .zero 3)
        else bif tK p.a != 0 then some (pc2 .zero 17) else bif tG p.a == 16777215 then some (pc2 .zero 18) else some (pc2 ⟨p.l, p.h, tagP k (IntKind.wrap .i64 (tG p.a + 1)) x, 0, 0, 0, 0, 0, 0⟩ 0) else some (pc2 .zero 1)) := by kernel_rfl
  rw [h]
  unfold allocP allocC
  repeat' (refine bif_elim (fun h => ?_) (fun h => ?_) <;> simp only [h, cond_true, cond_false])
  all_goals rfl

theorem rel_sem (p : Pg) : FnSem Try.prog 57 [p.t] (pc2 (relP p) (relC p)) := by
  refine sem E3_ok (lf := 10) (depth := 10) ?_
  have h : callD T E3 F 10 10 57 [p.t] some =
      (bif decide (p.l ≥ 104) then bif !decide (p.l < 256) then some (pc2 .zero 1) else bif lockP p.h then some (pc2 .zero 3)
        else bif tK p.a == 0 then some (pc2 .zero 16) else some (pc2 ⟨p.l, p.h, tagP 0 (tG p.a) 0, 0, 0, 0, 0, 0, 0⟩ 0) else some (pc2 .zero 1)) := by kernel_rfl
  rw [h]
  unfold relP relC
  repeat' (refine bif_elim (fun h => ?_) (fun h => ?_) <;> simp only [h, cond_true, cond_false])
  all_goals rfl

theorem ralloc_sem (p : Pg) (k x : Int) : FnSem Try.prog 60 [p.t, ri k, ru32 x] (pc2 (rallocP p k x) (rallocC p k)) := by
  refine sem E3_ok (lf := 10) (depth := 10) ?_
  have h : callD T E3 F 10 10 60 [p.t, ri k, ru32 x] some =
      (bif decide (p.l ≥ 104) then bif !decide (p.l < 256) then some (pc2 .zero 1) else bif decide (k < 1) then some (pc2 .zero 1) else bif decide (k > 4) then some (pc2 .zero 1) else bif rlockP p.h then some (pc2 .zero 3)
        else bif rKind p.a != 0 then some (pc2 .zero 17) else bif rGen p.a == 16777215 then some (pc2 .zero 18) else some (pc2 ⟨p.l, p.h, rTag k (IntKind.wrap .i64 (rGen p.a + 1)) x, 0, 0, 0, 0, 0, 0⟩ 0) else some (pc2 .zero 1)) := by kernel_rfl
  rw [h]
  unfold rallocP rallocC
  repeat' (refine bif_elim (fun h => ?_) (fun h => ?_) <;> simp only [h, cond_true, cond_false])
  all_goals rfl

theorem rrel_sem (p : Pg) : FnSem Try.prog 61 [p.t] (pc2 (rrelP p) (rrelC p)) := by
  refine sem E3_ok (lf := 10) (depth := 10) ?_
  have h : callD T E3 F 10 10 61 [p.t] some =
      (bif decide (p.l ≥ 104) then bif !decide (p.l < 256) then some (pc2 .zero 1) else bif rlockP p.h then some (pc2 .zero 3)
        else bif rKind p.a == 0 then some (pc2 .zero 16) else some (pc2 ⟨p.l, p.h, rTag 0 (rGen p.a) 0, 0, 0, 0, 0, 0, 0⟩ 0) else some (pc2 .zero 1)) := by kernel_rfl
  rw [h]
  unfold rrelP rrelC
  repeat' (refine bif_elim (fun h => ?_) (fun h => ?_) <;> simp only [h, cond_true, cond_false])
  all_goals rfl

theorem same19_sem (p q : Pg) : FnSem Try.prog 59 [p.t, q.t] (.v (rb (pgEq p q))) := by
  refine sem E3_ok (lf := 10) (depth := 10) ?_
  have h : callD T E3 F 10 10 59 [p.t, q.t] some =
      (bif p.l == q.l then bif p.h == q.h then some (.v (rb (bif p.a == q.a then bif p.b == q.b then bif p.c == q.c then bif p.d == q.d then bif p.e == q.e then bif p.f == q.f then bif p.g == q.g then true else false else false else false else false else false else false else false)))
        else some (.v (rb false)) else some (.v (rb false))) := by kernel_rfl
  rw [h]
  unfold pgEq
  repeat' (refine bif_elim (fun h => ?_) (fun h => ?_) <;> simp only [h, cond_true, cond_false])

theorem same21_sem (p q : Pg) : FnSem Try.prog 72 [p.t, q.t] (.v (rb (pgEq p q))) := by
  refine sem E3_ok (lf := 10) (depth := 10) ?_
  have h : callD T E3 F 10 10 72 [p.t, q.t] some =
      (bif p.l == q.l then bif p.h == q.h then some (.v (rb (bif p.a == q.a then bif p.b == q.b then bif p.c == q.c then bif p.d == q.d then bif p.e == q.e then bif p.f == q.f then bif p.g == q.g then true else false else false else false else false else false else false else false)))
        else some (.v (rb false)) else some (.v (rb false))) := by kernel_rfl
  rw [h]
  unfold pgEq
  repeat' (refine bif_elim (fun h => ?_) (fun h => ?_) <;> simp only [h, cond_true, cond_false])

def allocS : List D1 → Option DRes
  | [x, .one (.pc (.int .i64 k)), .one (.pc (.int .u32 t))] => match toPg x with
    | some p => some (pc2 (allocP p k t) (allocC p k))
    | none => none
  | _ => none

theorem allocS_ok : ∀ l d, allocS l = some d → FnSem Try.prog 34 l d := fun l d h => by
  unfold allocS at h
  split at h
  · split at h
    · rename_i hp; simp only [Option.some.injEq] at h; subst h; rw [toPg_some hp]; exact alloc_sem _ _ _
    · cases h
  · cases h

def rallocS : List D1 → Option DRes
  | [x, .one (.pc (.int .i64 k)), .one (.pc (.int .u32 t))] => match toPg x with
    | some p => some (pc2 (rallocP p k t) (rallocC p k))
    | none => none
  | _ => none

theorem rallocS_ok : ∀ l d, rallocS l = some d → FnSem Try.prog 60 l d := fun l d h => by
  unfold rallocS at h
  split at h
  · split at h
    · rename_i hp; simp only [Option.some.injEq] at h; subst h; rw [toPg_some hp]; exact ralloc_sem _ _ _
    · cases h
  · cases h

def relS : List D1 → Option DRes
  | [x] => match toPg x with
    | some p => some (pc2 (relP p) (relC p))
    | none => none
  | _ => none

theorem relS_ok : ∀ l d, relS l = some d → FnSem Try.prog 57 l d := fun l d h => by
  unfold relS at h
  split at h
  · split at h
    · rename_i hp; simp only [Option.some.injEq] at h; subst h; rw [toPg_some hp]; exact rel_sem _
    · cases h
  · cases h

def rrelS : List D1 → Option DRes
  | [x] => match toPg x with
    | some p => some (pc2 (rrelP p) (rrelC p))
    | none => none
  | _ => none

theorem rrelS_ok : ∀ l d, rrelS l = some d → FnSem Try.prog 61 l d := fun l d h => by
  unfold rrelS at h
  split at h
  · split at h
    · rename_i hp; simp only [Option.some.injEq] at h; subst h; rw [toPg_some hp]; exact rrel_sem _
    · cases h
  · cases h

def sameS : List D1 → Option DRes
  | [x, y] => match toPg x, toPg y with
    | some p, some q => some (.v (rb (pgEq p q)))
    | _, _ => none
  | _ => none

theorem sameS_ok : ∀ l d, sameS l = some d → FnSem Try.prog 59 l d := fun l d h => by
  unfold sameS at h
  split at h
  · split at h
    · rename_i hp hq; simp only [Option.some.injEq] at h; subst h; rw [toPg_some hp, toPg_some hq]; exact same19_sem _ _
    · cases h
  · cases h

theorem same21S_ok : ∀ l d, sameS l = some d → FnSem Try.prog 72 l d := fun l d h => by
  unfold sameS at h
  split at h
  · split at h
    · rename_i hp hq; simp only [Option.some.injEq] at h; subst h; rw [toPg_some hp, toPg_some hq]; exact same21_sem _ _
    · cases h
  · cases h

/-- E3, and the functions on pages. -/
def E4 : Env := (34, tot allocS) :: (57, tot relS) :: (60, tot rallocS) :: (61, tot rrelS) :: (59, tot sameS) :: (72, tot sameS) :: E3
theorem E4_ok : EnvOK Try.prog E4 := .cons allocS_ok (.cons relS_ok (.cons rallocS_ok (.cons rrelS_ok (.cons sameS_ok (.cons same21S_ok E3_ok)))))

end Go.Proofs.Ytjbmpimclagfoaa
