/-
  The same functions where all goes well.
-/
import Derived.Test.YtjbmpimclagfoaaSp15
import Derived.Test.YtjbmpimclagfoaaSp11
namespace Go.Sp
open Go.Eng

/-- A filled page, its line and head in the open. -/
def fillO (p : Pg) (v : Ve) : Pg := ⟨p.l, p.h, (fillP p v).a, (fillP p v).b, (fillP p v).c, (fillP p v).d, (fillP p v).e, (fillP p v).f, (fillP p v).g⟩
def Pg.fill (p : Pg) (v : Ve) : Pg := fillP p v
def allocO (p : Pg) (k x : Int) : Pg := ⟨p.l, p.h, tagP k (IntKind.wrap .i64 (tG p.a + 1)) x, 0, 0, 0, 0, 0, 0⟩
def replOK (h c : Pg) (v : Ve) : Bool := cond (replC h c v == 0) (decide (h.l < c.l)) false
def openOK (ps : List Pg) (line g k : Int) : Bool := cond (lookB true ps line g k) (lookC true ps line g k == 0) false

theorem fillO_eq (p : Pg) (v : Ve) : fillO p v = fillP p v := rfl

theorem replOK_L {h c : Pg} {v : Ve} (h0 : replOK h c v = true) : replC h c v = 0 ∧ replL h c v = [fillP h (newV c v), fillP c (readV h)] := by
  unfold replOK at h0
  obtain ⟨h1, h2⟩ := cond_and h0
  have h2 := of_decide_eq_true h2
  have h1 : replC h c v = 0 := by simpa using h1
  refine ⟨h1, ?_⟩
  have e : decide ((fillP c (readV h)).l < (fillP h (newV c v)).l) = false := decide_eq_false (by show ¬ c.l < h.l; omega)
  have key : ∀ x y : Int, (x != 0) = true → x ≠ 0 := fun x y hx => by simpa using hx
  unfold replC replT at h1
  unfold replL replT
  rw [e] at h1 ⊢
  revert h1
  cases lockP h.h
  · cases lockP c.h
    · cases hr : readC h != 0
      · cases !(tK c.a == 1)
        · cases !validP c.l (genP c.a)
          · cases c.l == h.l
            · cases v.k != (readV h).k
              · cases !veOK (newV c v)
                · intro _; rfl
                · intro h1; cases h1
              · intro h1; cases h1
            · intro h1; cases h1
          · intro h1; cases h1
        · intro h1; cases h1
      · intro h1
        exact absurd h1 (key _ 0 hr)
    · intro h1; cases h1
  · intro h1; cases h1

end Go.Sp

namespace Go.Proofs.Ytjbmpimclagfoaa
open Go.Eng Go.Sp

def allocOS : List D1 → Option (Bool × DRes)
  | [x, .one (.pc (.int .i64 k)), .one (.pc (.int .u32 t))] => match toPg x with
    | some p => some (allocC p k == 0, .tup [(Pg.t ⟨p.l, p.h, tagP k (IntKind.wrap .i64 (tG p.a + 1)) t, 0, 0, 0, 0, 0, 0⟩), ri 0])
    | none => none
  | _ => none

theorem allocOS_ok : ∀ l d, allocOS l = some (true, d) → FnSem Try.prog 34 l d := fun l d h => by
  unfold allocOS at h
  split at h
  case h_2 => cases h
  case h_1 x k t =>
    split at h
    case h_2 => cases h
    case h_1 p hp =>
      simp only [Option.some.injEq, Prod.mk.injEq] at h
      obtain ⟨h1, rfl⟩ := h
      have h1 : allocC p k = 0 := by simpa using h1
      rw [toPg_some hp]
      have := alloc_sem p k t
      unfold allocP at this
      rw [h1] at this
      exact this

def writeOS : List D1 → Option (Bool × DRes)
  | [x, y] => match toPg x, toVe y with
    | some p, some v => some (writeC p v == 0, .tup [Pg.t ⟨p.l, p.h, (fillP p v).a, (fillP p v).b, (fillP p v).c, (fillP p v).d, (fillP p v).e, (fillP p v).f, (fillP p v).g⟩, ri 0])
    | _, _ => none
  | _ => none

theorem writeOS_ok : ∀ l d, writeOS l = some (true, d) → FnSem Try.prog 35 l d := fun l d h => by
  unfold writeOS at h
  split at h
  · split at h
    · rename_i p v hp hv
      simp only [Option.some.injEq, Prod.mk.injEq] at h
      obtain ⟨h1, rfl⟩ := h
      have h1 : writeC p v = 0 := by simpa using h1
      rw [toPg_some hp, toVe_some hv]
      have := write_sem p v
      have h2 : writeP p v = fillP p v := by
        unfold writeC at h1
        unfold writeP
        revert h1
        cases !veOK v
        · cases tK p.a != 1
          · intro _; rfl
          · intro h; cases h
        · intro h; cases h
      rw [h1, h2] at this
      exact this
    · cases h
  · cases h

def replOS : List D1 → Option (Bool × DRes)
  | [x, y, z] => match toPg x, toPg y, toVe z with
    | some h, some c, some v => some (replOK h c v, .tup [.one (.sl 9 (.lit [Pg.row ⟨h.l, h.h, (fillP h (newV c v)).a, (fillP h (newV c v)).b, (fillP h (newV c v)).c, (fillP h (newV c v)).d, (fillP h (newV c v)).e, (fillP h (newV c v)).f, (fillP h (newV c v)).g⟩,
        Pg.row ⟨c.l, c.h, (fillP c (readV h)).a, (fillP c (readV h)).b, (fillP c (readV h)).c, (fillP c (readV h)).d, (fillP c (readV h)).e, (fillP c (readV h)).f, (fillP c (readV h)).g⟩])), ri 0])
    | _, _, _ => none
  | _ => none

theorem replOS_ok : ∀ l d, replOS l = some (true, d) → FnSem Try.prog 36 l d := fun l d h => by
  unfold replOS at h
  split at h
  · split at h
    · rename_i hd c v h1 h2 h3
      simp only [Option.some.injEq, Prod.mk.injEq] at h
      obtain ⟨h4, rfl⟩ := h
      obtain ⟨h5, h6⟩ := replOK_L h4
      rw [toPg_some h1, toPg_some h2, toVe_some h3]
      have := repl_sem hd c v
      unfold lc2 at this
      rw [h5, h6] at this
      exact this.sameR ⟨⟨rfl, rfl⟩, rfl, trivial⟩ (fun _ => Nat.le_refl _)
    · cases h
  · cases h

def openOS : List D1 → Option (Bool × DRes)
  | [.one (.sl z E), .agg [.pc (.int .i64 line), .pc (.int .i64 g)], .one (.pc (.int .i64 k))] =>
    cond (Nat.beq z 9) (some (cond (pgsOK E.list) (openOK (pgsOf E.list) line g k) false, .tup [(lookP true (pgsOf E.list) line g k).t, rb true, ri 0])) none
  | _ => none

theorem openOS_ok : ∀ l d, openOS l = some (true, d) → FnSem Try.prog 38 l d := fun l d h => by
  unfold openOS at h
  split at h
  case h_2 => cases h
  case h_1 z E line g k =>
    obtain ⟨h1, g1⟩ := cond_none h
    simp only [Option.some.injEq, Prod.mk.injEq] at g1
    obtain ⟨h2, rfl⟩ := g1
    obtain ⟨h3, h4⟩ := cond_and h2
    unfold openOK at h4
    obtain ⟨h5, h6⟩ := cond_and h4
    have h6 : lookC true (pgsOf E.list) line g k = 0 := by simpa using h6
    have := open_sem E h3 line g k
    unfold pc3 at this
    rw [h5, h6] at this
    rw [beq_iff.1 h1]
    exact this

def readOS : List D1 → Option (Bool × DRes)
  | [x] => match toPg x with
    | some p => some (readC p == 0, .tup [(readV p).t, ri 0])
    | none => none
  | _ => none

theorem readOS_ok : ∀ l d, readOS l = some (true, d) → FnSem Try.prog 39 l d := fun l d h => by
  unfold readOS at h
  split at h
  · split at h
    · rename_i p hp
      simp only [Option.some.injEq, Prod.mk.injEq] at h
      obtain ⟨h1, rfl⟩ := h
      have h1 : readC p = 0 := by simpa using h1
      rw [toPg_some hp]
      have := read_sem p
      unfold vc2 at this
      rw [h1] at this
      exact this
    · cases h
  · cases h

/-- Where all goes well. -/
def EO14 : Env := (34, allocOS) :: (35, writeOS) :: (36, replOS) :: (38, openOS) :: (39, readOS) :: E8
theorem EO14_ok : EnvOK Try.prog EO14 := .consO allocOS_ok (.consO writeOS_ok (.consO replOS_ok (.consO openOS_ok (.consO readOS_ok E8_ok))))

theorem callOKO (lf d : Nat) : CallOK Try.prog (callD T EO14 F lf d) := callD_ok tok EO14_ok fnsok mixed d

end Go.Proofs.Ytjbmpimclagfoaa
