/-
  Replace: both functions; the document's Merge of two pages; SamePages of equal lists.
-/
import Derived.Test.YtjbmpimclagfoaaSp14
namespace Go.Sp
open Go.Eng

def pgsEqB : List Pg → List Pg → Bool
  | [], [] => true
  | p :: r, q :: r' => cond (pgEq p q) (pgsEqB r r') false
  | _, _ => false

theorem pgsEqB_self (l : List Pg) : pgsEqB l l = true := by
  induction l with
  | nil => rfl
  | cons p l ih => unfold pgsEqB; rw [pgEq_self, cond_true, ih]

theorem pgsEqB_eq : ∀ {l m : List Pg}, pgsEqB l m = true → l = m := by
  intro l
  induction l with
  | nil => intro m h; cases m with
    | nil => rfl
    | cons => cases h
  | cons p l ih => intro m h; cases m with
    | nil => cases h
    | cons q m =>
      unfold pgsEqB at h
      obtain ⟨h1, h2⟩ := cond_and h
      rw [(pgEq_iff p q).1 h1, ih h2]

def samesOK (l m : List (List PC)) : Bool := cond (pgsOK l) (cond (pgsOK m) (pgsEqB (pgsOf l) (pgsOf m)) false) false

theorem samesOK_map {ps : List Pg} (h : ps.length ≤ 1000000) : samesOK (ps.map Pg.row) (ps.map Pg.row) = true := by
  unfold samesOK
  rw [pgsOK_map h, pgsEqB_self]
  rfl

theorem samesOK_some {l m : List (List PC)} (h : samesOK l m = true) : m = l ∧ l = (pgsOf l).map Pg.row ∧ l.length ≤ 1000000 := by
  unfold samesOK at h
  obtain ⟨h1, h⟩ := cond_and h
  obtain ⟨h2, h3⟩ := cond_and h
  obtain ⟨e1, e2⟩ := pgsOK_some h1
  obtain ⟨e3, _⟩ := pgsOK_some h2
  exact ⟨by rw [e3, ← pgsEqB_eq h3, ← e1], e1, e2⟩

/-- Two pages, by their lines. -/
def mergeL (p q : Pg) : List Pg := bif decide (p.l < q.l) then [p, q] else bif p.l == q.l then [q] else [q, p]

/-- What takes the head's place. -/
def newV (c : Pg) (v : Ve) : Ve := ⟨v.k, v.a, v.b, v.c, v.d, v.e, v.s, c.l, genP c.a⟩
def rnewV (c : Pg) (v : Ve) : Ve := ⟨v.k, v.a, v.b, v.c, v.d, v.e, v.s, c.l, rGen c.a⟩

def replT {α : Type} (h c : Pg) (v : Ve) (f : List Pg → Int → α) : α :=
  bif lockP h.h then f [] 3 else bif lockP c.h then f [] 3 else bif readC h != 0 then f [] (readC h) else bif !(tK c.a == 1) then f [] 1 else bif !validP c.l (genP c.a) then f [] 1 else bif c.l == h.l then f [] 1 else
  bif v.k != (readV h).k then f [] 1 else bif !veOK (newV c v) then f [] 1 else
  bif decide ((fillP c (readV h)).l < (fillP h (newV c v)).l) then f [fillP c (readV h), fillP h (newV c v)] 0 else f [fillP h (newV c v), fillP c (readV h)] 0

def rreplT {α : Type} (h c : Pg) (v : Ve) (f : List Pg → Int → α) : α :=
  bif rlockP h.h then f [] 3 else bif rlockP c.h then f [] 3 else bif rreadC h != 0 then f [] 14 else bif rKind c.a != 1 then f [] 1 else bif decide (c.l ≥ 104) then bif !decide (c.l < 256) then f [] 1 else bif c.l == h.l then f [] 1 else
  bif v.k != (rreadV h).k then f [] 1 else bif !rveOK (rnewV c v) then f [] 1 else bif !validP c.l (rGen c.a) then f [] 1 else f (mergeL (rwriteP c (rreadV h)) (rwriteP h (rnewV c v))) 0 else f [] 1

def replL (h c : Pg) (v : Ve) : List Pg := replT h c v fun l _ => l
def replC (h c : Pg) (v : Ve) : Int := replT h c v fun _ c => c
def rreplL (h c : Pg) (v : Ve) : List Pg := rreplT h c v fun l _ => l
def rreplC (h c : Pg) (v : Ve) : Int := rreplT h c v fun _ c => c

theorem replT_eq {α : Type} (h c : Pg) (v : Ve) (f : List Pg → Int → α) : replT h c v f = f (replL h c v) (replC h c v) := by
  unfold replL replC replT
  cases lockP h.h
  · cases lockP c.h
    · cases readC h != 0
      · cases !(tK c.a == 1)
        · cases !validP c.l (genP c.a)
          · cases c.l == h.l
            · cases v.k != (readV h).k
              · cases !veOK (newV c v)
                · cases decide ((fillP c (readV h)).l < (fillP h (newV c v)).l) <;> rfl
                · rfl
              · rfl
            · rfl
          · rfl
        · rfl
      · rfl
    · rfl
  · rfl

theorem rreplT_eq {α : Type} (h c : Pg) (v : Ve) (f : List Pg → Int → α) : rreplT h c v f = f (rreplL h c v) (rreplC h c v) := by
  unfold rreplL rreplC rreplT
  cases rlockP h.h
  · cases rlockP c.h
    · cases rreadC h != 0
      · cases rKind c.a != 1
        · cases decide (c.l ≥ 104)
          · rfl
          · cases !decide (c.l < 256)
            · cases c.l == h.l
              · cases v.k != (rreadV h).k
                · cases !rveOK (rnewV c v)
                  · cases !validP c.l (rGen c.a) <;> rfl
                  · rfl
                · rfl
              · rfl
            · rfl
        · rfl
      · rfl
    · rfl
  · rfl

theorem read_ok {h : Pg} (hh : h.ok) (h0 : readC h = 0) : tK h.a = 1 ∧ veOK (readV h) = true ∧ readV h = candV h := by
  rw [readC_of hh] at h0
  cases hr : rOK h with
  | false => rw [hr] at h0; cases h0
  | true =>
    have hv : readV h = candV h := by rw [readV_of hh, hr]; rfl
    unfold rOK at hr
    rw [Bool.and_eq_true, decide_eq_true_eq] at hr
    exact ⟨by rw [(t_of hh.a.1 hh.a.2).1]; exact hr.1.1, by rw [hv]; exact hr.2, hv⟩

theorem readV_ok {p : Pg} (hp : p.ok) : (readV p).ok := by
  rw [readV_of hp]
  cases rOK p
  · exact Ve.zero_ok
  · exact candV_ok hp

theorem newV_ok {c : Pg} {v : Ve} (hc : c.ok) (hv : v.ok) : (newV c v).ok := by
  refine ⟨hv.k, hv.a, hv.b, hv.c, hv.e, hv.s, hc.l, ?_⟩
  show rI64 (genP c.a)
  rw [gen_of hc.a.1 hc.a.2]
  exact ⟨by omega, by omega⟩

theorem rreplT_of {α : Type} {h c : Pg} {v : Ve} (hh : h.ok) (hc : c.ok) (hv : v.ok) (f : List Pg → Int → α) : rreplT h c v f = replT h c v f := by
  have hg : rGen c.a = genP c.a := by rw [rgen_of hc.a.1 hc.a.2, gen_of hc.a.1 hc.a.2]
  have hn : rnewV c v = newV c v := by unfold rnewV newV; rw [hg]
  unfold rreplT replT
  rw [hn, hg, rlock_of hh.h, rlock_of hc.h, rreadC_of hh, rreadV_of hh, rKind_of hc.a, rveOK_of (newV_ok hc hv), rwriteP_of hc (readV_ok hh), rwriteP_of hh (newV_ok hc hv)]
  cases lockP h.h with
  | true => rfl
  | false =>
    cases lockP c.h with
    | true => rfl
    | false =>
      cases h0 : readC h != 0 with
      | true =>
        have e : readC h = 14 := by
          have := readC_of hh
          cases hr : rOK h with
          | false => rw [hr] at this; exact this
          | true => rw [hr] at this; rw [this] at h0; cases h0
        rw [e]; rfl
      | false =>
        obtain ⟨k1, k2, _⟩ := read_ok hh (by simpa using h0)
        simp only [cond_false]
        by_cases hk : tK c.a = 1
        · have e1 : (tK c.a != 1) = false := by simpa using hk
          have e2 : (tK c.a == 1) = true := by simpa using hk
          rw [e1, e2]
          simp only [cond_false, Bool.not_true]
          cases hvp : validP c.l (genP c.a) with
          | false =>
            simp only [Bool.not_false, cond_true]
            cases decide (c.l ≥ 104)
            · rfl
            · cases decide (c.l < 256)
              · rfl
              · cases c.l == h.l
                · cases v.k != (readV h).k
                  · cases veOK (newV c v) <;> rfl
                  · rfl
                · rfl
          | true =>
            have hb := of_decide_eq_true hvp
            rw [decide_eq_true (show c.l ≥ 104 by omega), decide_eq_true (show c.l < 256 by omega)]
            simp only [Bool.not_true, cond_true, cond_false]
            cases hl : c.l == h.l with
            | true => rfl
            | false =>
              simp only [cond_false]
              cases hke : v.k != (readV h).k with
              | true => rfl
              | false =>
                simp only [cond_false]
                cases hve : veOK (newV c v) with
                | false => rfl
                | true =>
                  have w1 : writeP c (readV h) = fillP c (readV h) := by unfold writeP; rw [k2, e1]; rfl
                  have w2 : writeP h (newV c v) = fillP h (newV c v) := by unfold writeP; rw [hve, k1]; rfl
                  rw [w1, w2]
                  simp only [Bool.not_true, cond_false]
                  unfold mergeL
                  have e3 : ((fillP c (readV h)).l == (fillP h (newV c v)).l) = false := hl
                  rw [e3]
                  cases decide ((fillP c (readV h)).l < (fillP h (newV c v)).l) <;> rfl
        · have e1 : (tK c.a != 1) = true := by simpa using hk
          have e2 : (tK c.a == 1) = false := by simpa using hk
          rw [e1, e2]; rfl

theorem rreplL_of {h c : Pg} {v : Ve} (hh : h.ok) (hc : c.ok) (hv : v.ok) : rreplL h c v = replL h c v := rreplT_of hh hc hv _
theorem rreplC_of {h c : Pg} {v : Ve} (hh : h.ok) (hc : c.ok) (hv : v.ok) : rreplC h c v = replC h c v := rreplT_of hh hc hv _

theorem replL_len (h c : Pg) (v : Ve) : (replL h c v).length ≤ 2 := by
  have := replT_eq h c v fun l _ => decide (l.length ≤ 2)
  have h2 : replT h c v (fun l _ => decide (l.length ≤ 2)) = true := by
    unfold replT
    repeat' (refine bif_elim (fun h => ?_) (fun h => ?_))
    all_goals rfl
  rw [h2] at this
  exact of_decide_eq_true this.symm

def asRow : List PC → Option Pg
  | [.int .i64 l, .int .u64 h, .int .u64 a, .int .u64 b, .int .u64 c, .int .u64 d, .int .u64 e, .int .u64 f, .int .u64 g] => some ⟨l, h, a, b, c, d, e, f, g⟩
  | _ => none

theorem asRow_some {x : List PC} {p : Pg} (h : asRow x = some p) : x = p.row := by
  unfold asRow at h
  split at h
  · simp only [Option.some.injEq] at h; subst h; rfl
  · cases h

end Go.Sp

namespace Go.Proofs.Ytjbmpimclagfoaa
open Go.Eng Go.Sp

theorem callOK11 (lf d : Nat) : CallOK Try.prog (callD T E11 F lf d) := callD_ok tok E11_ok fnsok mixed d

/-! ### SamePages -/

def H74 (l m : List (List PC)) (i : Int) : St := ⟨[(0, some (.v (.one (.whole (0, 1000))))), (1, some (.v (.one (.whole (1, 1000))))), (5, some (.v (.one (.int .i64 i))))], [((0, 1000), some (.arr false 9 (.sp Pg.ks l))), ((1, 1000), some (.arr false 9 (.sp Pg.ks m)))], 54⟩
def X74 : St := ⟨[], [], 54⟩
noncomputable def body74 : Code := bodyL 4 Try.f74

def rd74 (l m : List (List PC)) (i : Int) (c : Ans) : Ans := bif decide (0 ≤ i ∧ i < (l.length : Int)) then bif rowIs Pg.ks l i.toNat then bif decide (0 ≤ i ∧ i < (m.length : Int)) then bif rowIs Pg.ks m i.toNat then c else none else none else none else none

theorem step74 (l m : List (List PC)) (i : Int) (G : St → Ans) (k : Ex → St → Ans) :
    evalC ⟨T.l, []⟩ (callD T E11 F 10 10) (annOf 74) 10 body74 (H74 l m i) (fun e s' => match e with | .normal => atHead (annOf 74) 4 s' G | e => compact [] s' (k e)) =
      (bif decide (i < (l.length : Int)) then rd74 l m i (bif intCell l i.toNat 0 != intCell m i.toNat 0 then k .ret X74 else rd74 l m i (bif intCell l i.toNat 1 != intCell m i.toNat 1 then k .ret X74 else rd74 l m i
        (bif !(bif intCell l i.toNat 2 == intCell m i.toNat 2 then bif intCell l i.toNat 3 == intCell m i.toNat 3 then bif intCell l i.toNat 4 == intCell m i.toNat 4 then bif intCell l i.toNat 5 == intCell m i.toNat 5 then
            bif intCell l i.toNat 6 == intCell m i.toNat 6 then bif intCell l i.toNat 7 == intCell m i.toNat 7 then bif intCell l i.toNat 8 == intCell m i.toNat 8 then true else false else false else false else false else false else false else false)
          then k .ret X74 else G (H74 l m (IntKind.wrap .i64 (i + 1))))))
       else k (.exit 0) X74) := by kernel_rfl

theorem run74 (ps : List Pg) (hp : ps.length ≤ 1000000) (k : Ex → St → Ans) : ∀ (m i : Nat), i + m = ps.length →
    gN ⟨T.l, []⟩ (callD T E11 F 10 10) (annOf 74) 10 4 body74 (fun e s' => compact [] s' (k e)) (m + 1) (H74 (ps.map Pg.row) (ps.map Pg.row) i) = k (.exit 0) X74 := by
  intro m
  induction m with
  | zero =>
    intro i hi
    rw [gN]
    refine (step74 _ _ _ _ _).trans ?_
    rw [List.length_map, decide_eq_false (by omega)]
    rfl
  | succ m ih =>
    intro i hi
    have hlt : i < ps.length := by omega
    rw [gN]
    refine (step74 _ _ _ _ _).trans ?_
    have e3 : IntKind.wrap .i64 ((i : Int) + 1) = ((i + 1 : Nat) : Int) := by rw [i64_in (by omega) (by omega)]; rfl
    have hr : ∀ c : Ans, rd74 (ps.map Pg.row) (ps.map Pg.row) i c = c := fun c => by
      unfold rd74
      rw [List.length_map, decide_eq_true (show 0 ≤ (i : Int) ∧ (i : Int) < (ps.length : Int) by omega), Int.toNat_natCast, rowIs_row hlt]
      rfl
    rw [List.length_map, decide_eq_true (show (i : Int) < (ps.length : Int) by omega), hr, hr, hr, e3, ih (i + 1) (by omega)]
    simp only [bne_self_eq_false, beq_self_eq_true, cond_true, cond_false, Bool.not_true]

def sum74 : St → (Ex → St → Ans) → Ans
  | ⟨[(0, some (.v (.one (.whole (0, 1000))))), (1, some (.v (.one (.whole (1, 1000))))), (5, some (.v (.one (.int .i64 i))))], [((0, 1000), some (.arr false 9 (.sp ks l))), ((1, 1000), some (.arr false 9 (.sp ks' m)))], 54⟩, k =>
    cond (decide (ks = Pg.ks ∧ ks' = Pg.ks ∧ i = 0)) (cond (samesOK l m) (k (.exit 0) X74) none) none
  | _, _ => none

theorem sum74_ok : SumOK Try.prog body74 sum74 := by
  refine SumOK.of (T := ⟨T.l, []⟩) (call := callD T E11 F 10 10) (an := annOf 74) (lf := 10) (id := 4) (ls := []) (tok.dyn []) (callOK11 10 10) mixed (SumsOK.in (l := []) (by kernel_rfl) (fun b hb => by cases hb)) ?_
  intro s k r h
  unfold sum74 at h
  split at h
  case h_2 => cases h
  case h_1 k' i ks l ks' m =>
    obtain ⟨h0, g0⟩ := cond_none h
    obtain ⟨h1, g1⟩ := cond_none g0
    obtain ⟨h5, h6, h7⟩ := of_decide_eq_true h0
    subst h5 h6 h7
    obtain ⟨h2, h3, h4⟩ := samesOK_some h1
    subst h2
    obtain ⟨ps, hps⟩ : ∃ ps : List Pg, m = ps.map Pg.row := ⟨_, h3⟩
    subst hps
    rw [List.length_map] at h4
    exact ⟨ps.length + 1, (run74 ps h4 k ps.length 0 (by omega)).trans g1⟩

theorem sames_sem0 (ps : List Pg) (hp : ps.length ≤ 1000000) : FnSem Try.prog 74 [.one (.sl 9 (.sp Pg.ks (ps.map Pg.row))), .one (.sl 9 (.sp Pg.ks (ps.map Pg.row)))] (.v (rb true)) := by
  refine semL (E := E11) E11_ok (lf := 10) (lf' := 10) (depth := 10) (an := annS 74 [(4, sum74)]) Try.func74 (by kernel_rfl) (SumsOK.fn (l := [body74]) (by kernel_rfl) (fun b hb => ?_)) ?_
  · obtain rfl := List.mem_singleton.1 hb
    exact GoodL.some (f := sum74) (by kernel_rfl) sum74_ok
  · have h : ∀ l m : List (List PC), evalFn T (callD T E11 F 10 10) (annS 74 [(4, sum74)]) 10 Try.f74 [.one (.sl 9 (.sp Pg.ks l)), .one (.sl 9 (.sp Pg.ks m))] some =
        (bif (l.length : Int) != (m.length : Int) then some (.v (rb false)) else bif samesOK l m then some (.v (rb true)) else none) := fun l m => by kernel_rfl
    rw [h, samesOK_map hp]
    simp

def samesS : List D1 → Option (Bool × DRes)
  | [.one (.sl z E), .one (.sl z' E')] => cond (Nat.beq z 9) (cond (Nat.beq z' 9) (some (samesOK E.list E'.list, .v (rb true))) none) none
  | _ => none

theorem samesS_ok : ∀ l d, samesS l = some (true, d) → FnSem Try.prog 74 l d := fun l d h => by
  unfold samesS at h
  split at h
  case h_2 => cases h
  case h_1 z E z' E' =>
    obtain ⟨h1, g1⟩ := cond_none h
    obtain ⟨h2, g2⟩ := cond_none g1
    simp only [Option.some.injEq, Prod.mk.injEq] at g2
    obtain ⟨h3, rfl⟩ := g2
    obtain rfl := beq_iff.1 h1
    obtain rfl := beq_iff.1 h2
    obtain ⟨e1, e2, e3⟩ := samesOK_some h3
    have hl : (pgsOf E.list).length ≤ 1000000 := by rw [e2, List.length_map] at e3; exact e3
    exact (sames_sem0 _ hl).same ⟨⟨rfl, e2.symm⟩, ⟨rfl, by show _ = E'.list; rw [e1]; exact e2.symm⟩, trivial⟩

/-! ### Merge, of two pages -/

theorem merge_sem (p q : Pg) : FnSem Try.prog 85 [.one (.sl 9 (.lit [])), .one (.sl 9 (.lit [p.row, q.row]))] (.v (.one (.sl 9 (.sp Pg.ks ((mergeL p q).map Pg.row))))) := by
  have h : callD T E11 F 10 10 85 [.one (.sl 9 (.lit [])), .one (.sl 9 (.lit [p.row, q.row]))] some =
      (bif decide (p.l < q.l) then some (.v (.one (.sl 9 (.lit [p.row, q.row])))) else bif p.l == q.l then some (.v (.one (.sl 9 (.lit [q.row])))) else some (.v (.one (.sl 9 (.lit [q.row, p.row]))))) := by kernel_rfl
  have go : ∀ l : List Pg, callD T E11 F 10 10 85 [.one (.sl 9 (.lit [])), .one (.sl 9 (.lit [p.row, q.row]))] some = some (.v (.one (.sl 9 (.lit (l.map Pg.row))))) → FnSem Try.prog 85 [.one (.sl 9 (.lit [])), .one (.sl 9 (.lit [p.row, q.row]))] (.v (.one (.sl 9 (.sp Pg.ks (l.map Pg.row))))) := fun l hl =>
    (sem E11_ok (lf := 10) (depth := 10) hl).sameR ⟨rfl, rfl⟩ (fun _ => Nat.le_refl _)
  refine go _ ?_
  rw [h]
  unfold mergeL
  cases decide (p.l < q.l) <;> cases p.l == q.l <;> rfl

def mergeS : List D1 → Option DRes
  | [.one (.sl z (.lit [])), .one (.sl z' (.lit [r, r']))] => match asRow r, asRow r' with
    | some p, some q => cond (Nat.beq z 9) (cond (Nat.beq z' 9) (some (.v (.one (.sl 9 (.sp Pg.ks ((mergeL p q).map Pg.row)))))) none) none
    | _, _ => none
  | _ => none

theorem mergeS_ok : ∀ l d, mergeS l = some d → FnSem Try.prog 85 l d := fun l d h => by
  unfold mergeS at h
  split at h
  case h_2 => cases h
  case h_1 z z' r r' =>
    split at h
    case h_2 => cases h
    case h_1 p q hp hq =>
      obtain ⟨h1, g1⟩ := cond_none h
      obtain ⟨h2, g2⟩ := cond_none g1
      simp only [Option.some.injEq] at g2
      subst g2
      rw [beq_iff.1 h1, beq_iff.1 h2, asRow_some hp, asRow_some hq]
      exact merge_sem p q

/-! ### Replace -/

def lc2 (l : List Pg) (c : Int) : DRes := .tup [.one (.sl 9 (.sp Pg.ks (l.map Pg.row))), ri c]

theorem repl_sem (h c : Pg) (v : Ve) : FnSem Try.prog 36 [h.t, c.t, v.t] (lc2 (replL h c v) (replC h c v)) := by
  have e : callD T E11 F 10 10 36 [h.t, c.t, v.t] some = replT h c v fun l x => some (.tup [.one (.sl 9 (.lit (l.map Pg.row))), ri x]) := by kernel_rfl
  rw [replT_eq] at e
  exact (sem E11_ok (lf := 10) (depth := 10) e).sameR ⟨⟨rfl, rfl⟩, rfl, trivial⟩ (fun _ => Nat.le_refl _)

def E12 : Env := (85, tot mergeS) :: (74, samesS) :: E11
theorem E12_ok : EnvOK Try.prog E12 := .cons mergeS_ok (.consO samesS_ok E11_ok)

theorem rrepl_sem (h c : Pg) (v : Ve) : FnSem Try.prog 73 [h.t, c.t, v.t] (lc2 (rreplL h c v) (rreplC h c v)) := by
  have go : ∀ (F0 : List Pg → Int → Ans), (F0 = fun l x => bif l.isEmpty then some (.tup [.one (.sl 9 (.lit [])), ri x]) else some (lc2 l x)) → callD T E12 F 10 10 73 [h.t, c.t, v.t] some = rreplT h c v F0 → FnSem Try.prog 73 [h.t, c.t, v.t] (lc2 (rreplL h c v) (rreplC h c v)) := fun F0 h0 e => by
    rw [rreplT_eq, h0] at e
    cases hl : rreplL h c v with
    | nil =>
      rw [hl] at e
      exact (sem E12_ok (lf := 10) (depth := 10) e).sameR ⟨⟨rfl, rfl⟩, rfl, trivial⟩ (fun _ => Nat.le_refl _)
    | cons p r =>
      rw [hl] at e
      exact sem E12_ok (lf := 10) (depth := 10) e
  refine go _ rfl ?_
  have h1 : callD T E12 F 10 10 73 [h.t, c.t, v.t] some =
      (bif rlockP h.h then some (.tup [.one (.sl 9 (.lit [])), ri 3]) else bif rlockP c.h then some (.tup [.one (.sl 9 (.lit [])), ri 3]) else bif rreadC h != 0 then some (.tup [.one (.sl 9 (.lit [])), ri 14]) else
        bif rKind c.a != 1 then some (.tup [.one (.sl 9 (.lit [])), ri 1]) else bif decide (c.l ≥ 104) then bif !decide (c.l < 256) then some (.tup [.one (.sl 9 (.lit [])), ri 1]) else bif c.l == h.l then some (.tup [.one (.sl 9 (.lit [])), ri 1]) else
        bif v.k != (rreadV h).k then some (.tup [.one (.sl 9 (.lit [])), ri 1]) else bif !rveOK (rnewV c v) then some (.tup [.one (.sl 9 (.lit [])), ri 1]) else bif !validP c.l (rGen c.a) then some (.tup [.one (.sl 9 (.lit [])), ri 1]) else
        some (lc2 (mergeL (rwriteP c (rreadV h)) (rwriteP h (rnewV c v))) 0) else some (.tup [.one (.sl 9 (.lit [])), ri 1])) := by kernel_rfl
  rw [h1]
  unfold rreplT
  have hm : ∀ p q : Pg, (mergeL p q).isEmpty = false := fun p q => by
    unfold mergeL
    cases decide (p.l < q.l) <;> cases p.l == q.l <;> rfl
  simp only [hm, cond_false, List.isEmpty_nil, cond_true]

def ppvS (f : Pg → Pg → Ve → DRes) : List D1 → Option DRes
  | [x, y, z] => match toPg x, toPg y, toVe z with
    | some p, some q, some v => some (f p q v)
    | _, _, _ => none
  | _ => none

theorem ppvS_ok {n : Nat} {f : Pg → Pg → Ve → DRes} (h0 : ∀ (p q : Pg) (v : Ve), FnSem Try.prog n [p.t, q.t, v.t] (f p q v)) : ∀ l d, ppvS f l = some d → FnSem Try.prog n l d := fun l d h => by
  unfold ppvS at h
  split at h
  · split at h
    · rename_i hp hq hv; simp only [Option.some.injEq] at h; subst h; rw [toPg_some hp, toPg_some hq, toVe_some hv]; exact h0 _ _ _
    · cases h
  · cases h

def E13 : Env := (36, tot (ppvS fun h c v => lc2 (replL h c v) (replC h c v))) :: (73, tot (ppvS fun h c v => lc2 (rreplL h c v) (rreplC h c v))) :: E12
theorem E13_ok : EnvOK Try.prog E13 := .cons (ppvS_ok repl_sem) (.cons (ppvS_ok rrepl_sem) E12_ok)

end Go.Proofs.Ytjbmpimclagfoaa
