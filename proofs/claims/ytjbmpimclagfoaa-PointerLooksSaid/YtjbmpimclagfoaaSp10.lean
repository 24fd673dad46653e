/-
  law19.made: the pages, brought near to few lines, kinds and generations, and a pointer.
-/
import Derived.Test.YtjbmpimclagfoaaSp9
namespace Go.Sp
open Go.Eng

def mkSh (h : Int) : Int := IntKind.wrap .u64 (Int.tmod (IntKind.wrap .u64 (Int.tdiv h 4)) 3 * 8)
def mkH (h : Int) : Int := IntKind.wrap .u64 (IntKind.wrap .u64 (Int.tdiv (IntKind.wrap .u64 (Int.tmod h 4 * 64)) 64) * 2 ^ (min (mkSh h).toNat 64))
def mkA (a : Int) : Int := IntKind.wrap .u64 (IntKind.wrap .u64 (Int.tmod a 6 + IntKind.wrap .u64 (Int.tmod (IntKind.wrap .u64 (Int.tdiv a 6)) 3 * 256)) + IntKind.wrap .u64 (IntKind.wrap .u64 (Int.tdiv a 18) * 2 ^ 32))
/-- A page, made near. -/
def mkPg (p : Pg) : Pg := ⟨IntKind.wrap .i64 (103 + pick p.l 5), mkH p.h, mkA p.a, p.b, p.c, p.d, p.e, p.f, p.g⟩

theorem rU64_wrap (n : Int) : rU64 (IntKind.wrap .u64 n) := by unfold rU64; rw [IntKind.wrap_u64]; omega
theorem rI64_wrap (n : Int) : rI64 (IntKind.wrap .i64 n) := by unfold rI64; rw [IntKind.wrap_i64]; omega

theorem mkPg_ok {p : Pg} (h : p.ok) : (mkPg p).ok := ⟨rI64_wrap _, rU64_wrap _, rU64_wrap _, h.b, h.c, h.d, h.e, h.f, h.g⟩
theorem mkSh_nn (h : Int) : 0 ≤ mkSh h := (rU64_wrap _).1

end Go.Sp

namespace Go.Proofs.Ytjbmpimclagfoaa
open Go.Eng Go.Sp

def H62 (l lst : List (List PC)) (a g k b c i : Int) : St := ⟨[(1, some (.v (.one (.ptr (1, 0) 0 0 false)))), (3, some (.v (.one (.ptr (3, 0) 0 0 false)))), (5, some (.v (.one (.whole (5, 2000))))), (6, some (.v (.one (.int .i64 i))))],
  [((1, 0), some (.var [.whole (0, 1000), .int .i64 a, .int .i64 g, .int .i64 k])), ((3, 0), some (.var [.int .i64 b, .int .i64 c])), ((5, 2000), some (.arr true 9 (.lit lst))), ((0, 1000), some (.arr false 9 (.sp Pg.ks l)))], 72⟩
def H62n (l : List (List PC)) (a g k b c i : Int) : St := ⟨[(1, some (.v (.one (.ptr (1, 0) 0 0 false)))), (3, some (.v (.one (.ptr (3, 0) 0 0 false)))), (5, some (.v (.one .nils))), (6, some (.v (.one (.int .i64 i))))],
  [((1, 0), some (.var [.whole (0, 1000), .int .i64 a, .int .i64 g, .int .i64 k])), ((3, 0), some (.var [.int .i64 b, .int .i64 c])), ((0, 1000), some (.arr false 9 (.sp Pg.ks l)))], 72⟩
def X62 (l lst : List (List PC)) (a g k b c : Int) : St := ⟨[(1, some (.v (.one (.ptr (1, 0) 0 0 false)))), (3, some (.v (.one (.ptr (3, 0) 0 0 false)))), (5, some (.v (.one (.whole (5, 2000)))))],
  [((1, 0), some (.var [.whole (0, 1000), .int .i64 a, .int .i64 g, .int .i64 k])), ((3, 0), some (.var [.int .i64 b, .int .i64 c])), ((5, 2000), some (.arr true 9 (.lit lst))), ((0, 1000), some (.arr false 9 (.sp Pg.ks l)))], 72⟩
def X62n (l : List (List PC)) (a g k b c : Int) : St := ⟨[(1, some (.v (.one (.ptr (1, 0) 0 0 false)))), (3, some (.v (.one (.ptr (3, 0) 0 0 false)))), (5, some (.v (.one .nils)))],
  [((1, 0), some (.var [.whole (0, 1000), .int .i64 a, .int .i64 g, .int .i64 k])), ((3, 0), some (.var [.int .i64 b, .int .i64 c])), ((0, 1000), some (.arr false 9 (.sp Pg.ks l)))], 72⟩

noncomputable def body62 : Code := bodyL 3 Try.f62

theorem step62 (l lst : List (List PC)) (a g k0 b c i : Int) (G : St → Ans) (k : Ex → St → Ans) :
    evalC ⟨T.l, []⟩ (callD T E6 F 10 10) (annOf 62) 10 body62 (H62 l lst a g k0 b c i) (fun e s' => match e with | .normal => atHead (annOf 62) 3 s' G | e => compact [1, 3, 5] s' (k e)) =
      (bif decide (i < (l.length : Int)) then bif decide (0 ≤ i ∧ i < (l.length : Int)) then bif rowIs Pg.ks l i.toNat then bif decide (0 ≤ mkSh (intCell l i.toNat 1)) then
        bif decide ((lst.length + 1) * 72 ≤ 140737488355328) then G (H62 l (lst ++ [(mkPg (pgAt l i.toNat)).row]) a g k0 b c (IntKind.wrap .i64 (i + 1))) else none else none else none else none
       else k (.exit 0) (X62 l lst a g k0 b c)) := by kernel_rfl

theorem step62n (l : List (List PC)) (a g k0 b c i : Int) (G : St → Ans) (k : Ex → St → Ans) :
    evalC ⟨T.l, []⟩ (callD T E6 F 10 10) (annOf 62) 10 body62 (H62n l a g k0 b c i) (fun e s' => match e with | .normal => atHead (annOf 62) 3 s' G | e => compact [1, 3, 5] s' (k e)) =
      (bif decide (i < (l.length : Int)) then bif decide (0 ≤ i ∧ i < (l.length : Int)) then bif rowIs Pg.ks l i.toNat then bif decide (0 ≤ mkSh (intCell l i.toNat 1)) then
        G (H62 l [(mkPg (pgAt l i.toNat)).row] a g k0 b c (IntKind.wrap .i64 (i + 1))) else none else none else none
       else k (.exit 0) (X62n l a g k0 b c)) := by kernel_rfl

theorem run62 (ps : List Pg) (hp : ps.length ≤ 1000000) (a g k0 b c : Int) (k : Ex → St → Ans) : ∀ (m i : Nat) (lst : List (List PC)), i + m = ps.length → lst.length + m ≤ 2000000 →
    gN ⟨T.l, []⟩ (callD T E6 F 10 10) (annOf 62) 10 3 body62 (fun e s' => compact [1, 3, 5] s' (k e)) (m + 1) (H62 (ps.map Pg.row) lst a g k0 b c i) =
      k (.exit 0) (X62 (ps.map Pg.row) (lst ++ ((ps.drop i).map mkPg).map Pg.row) a g k0 b c) := by
  intro m
  induction m with
  | zero =>
    intro i lst hi _
    rw [gN]
    refine (step62 _ _ _ _ _ _ _ _ _ _).trans ?_
    rw [List.length_map, decide_eq_false (by omega), List.drop_of_length_le (by omega)]
    simp only [List.map_nil, List.append_nil, cond_false]
  | succ m ih =>
    intro i lst hi hlst
    have hlt : i < ps.length := by omega
    rw [gN]
    refine (step62 _ _ _ _ _ _ _ _ _ _).trans ?_
    have e3 : IntKind.wrap .i64 ((i : Int) + 1) = ((i + 1 : Nat) : Int) := by rw [i64_in (by omega) (by omega)]; rfl
    rw [List.length_map, decide_eq_true (show (i : Int) < (ps.length : Int) by omega), decide_eq_true (show 0 ≤ (i : Int) ∧ (i : Int) < (ps.length : Int) by omega), decide_eq_true (show (lst.length + 1) * 72 ≤ 140737488355328 by omega),
      decide_eq_true (mkSh_nn _), Int.toNat_natCast, rowIs_row hlt, pgAt_map hlt, e3, List.drop_eq_getElem_cons hlt, ih (i + 1) _ (by omega) (by simp only [List.length_append, List.length_cons, List.length_nil]; omega)]
    simp only [cond_true, List.map_cons, List.append_assoc, List.cons_append, List.nil_append]

def sum62 : St → (Ex → St → Ans) → Ans
  | ⟨[(1, some (.v (.one (.ptr (1, 0) 0 0 false)))), (3, some (.v (.one (.ptr (3, 0) 0 0 false)))), (5, some (.v (.one .nils))), (6, some (.v (.one (.int .i64 i))))],
      [((1, 0), some (.var [.whole (0, 1000), .int .i64 a, .int .i64 g, .int .i64 k0])), ((3, 0), some (.var [.int .i64 b, .int .i64 c])), ((0, 1000), some (.arr false 9 (.sp ks l)))], 72⟩, k =>
    cond (decide (ks = Pg.ks)) (cond (pgsOK l) (cond (decide (i = 0)) (cond (Nat.beq l.length 0) (k (.exit 0) (X62n l a g k0 b c)) (k (.exit 0) (X62 l (((pgsOf l).map mkPg).map Pg.row) a g k0 b c))) none) none) none
  | _, _ => none

theorem sum62_ok : SumOK Try.prog body62 sum62 := by
  refine SumOK.of (T := ⟨T.l, []⟩) (call := callD T E6 F 10 10) (an := annOf 62) (lf := 10) (id := 3) (ls := [1, 3, 5]) (tok.dyn []) (callOK6 10 10) mixed (SumsOK.in (l := []) (by kernel_rfl) (fun b hb => by cases hb)) ?_
  intro s k r h
  unfold sum62 at h
  split at h
  case h_2 => cases h
  case h_1 k' i a g k0 b c ks l =>
    obtain ⟨h0, g0⟩ := cond_none h
    obtain ⟨h1, g1⟩ := cond_none g0
    obtain ⟨h2, g2⟩ := cond_none g1
    clear h g0 g1
    have h2 := of_decide_eq_true h2
    have h0 := of_decide_eq_true h0
    subst h2 h0
    obtain ⟨h3, h4⟩ := pgsOK_some h1
    obtain ⟨ps, hps⟩ : ∃ ps : List Pg, l = ps.map Pg.row := ⟨_, h3⟩
    subst hps
    rw [pgsOf_map, List.length_map] at g2
    rw [List.length_map] at h4
    refine ⟨ps.length + 1, ?_⟩
    rw [gN]
    refine (step62n _ _ _ _ _ _ _ _ _).trans ?_
    cases hn : ps.length with
    | zero =>
      rw [hn] at g2
      rw [List.length_map, hn]
      exact g2
    | succ n =>
      rw [hn] at g2
      have hlt : 0 < ps.length := by omega
      have := run62 ps h4 a g k0 b c k n 1 [(mkPg ps[0]).row] (by omega) (by simp only [List.length_cons, List.length_nil]; omega)
      rw [List.length_map, decide_eq_true (show (0 : Int) < (ps.length : Int) by omega), decide_eq_true (show 0 ≤ (0 : Int) ∧ (0 : Int) < (ps.length : Int) by omega), decide_eq_true (mkSh_nn _),
        show (0 : Int).toNat = 0 from rfl, rowIs_row hlt, pgAt_map hlt]
      refine Eq.trans this ?_
      rw [← g2]
      have e : ([(mkPg ps[0]).row] ++ ((ps.drop 1).map mkPg).map Pg.row) = (ps.map mkPg).map Pg.row := by
        conv => rhs; rw [← List.drop_zero (l := ps), List.drop_eq_getElem_cons hlt]
        rfl
      rw [e]
      rfl

def madeR (ps : List Pg) (a g k : Int) : DRes := .tup [.one (.sl 9 (.lit ((ps.map mkPg).map Pg.row))), rp (IntKind.wrap .i64 (103 + pick a 5)) (pick g 4), ri (pick k 5)]

theorem made_sem0 (ps : List Pg) (hp : ps.length ≤ 1000000) (a g k : Int) : FnSem Try.prog 62 [.agg [.sl 9 (.sp Pg.ks (ps.map Pg.row)), .pc (.int .i64 a), .pc (.int .i64 g), .pc (.int .i64 k)]] (madeR ps a g k) := by
  refine semL (E := E6) E6_ok (lf := 10) (lf' := 10) (depth := 10) (an := annS 62 [(3, sum62)]) Try.func62 (by kernel_rfl) (SumsOK.fn (l := [body62]) (by kernel_rfl) (fun b hb => ?_)) ?_
  · obtain rfl := List.mem_singleton.1 hb
    exact GoodL.some (f := sum62) (by kernel_rfl) sum62_ok
  · have h : ∀ l : List (List PC), evalFn T (callD T E6 F 10 10) (annS 62 [(3, sum62)]) 10 Try.f62 [.agg [.sl 9 (.sp Pg.ks l), .pc (.int .i64 a), .pc (.int .i64 g), .pc (.int .i64 k)]] some =
        (bif pgsOK l then bif decide ((0 : Int) = 0) then bif Nat.beq l.length 0 then some (madeR [] a g k) else some (madeR (pgsOf l) a g k) else none else none) := fun l => by kernel_rfl
    rw [h, pgsOK_map hp, pgsOf_map, List.length_map]
    cases ps with
    | nil => rfl
    | cons p ps => rfl

def madeS : List D1 → Option (Bool × DRes)
  | [.agg [.sl z E, .pc (.int .i64 a), .pc (.int .i64 g), .pc (.int .i64 k)]] => cond (Nat.beq z 9) (some (pgsOK E.list, madeR (pgsOf E.list) a g k)) none
  | _ => none

theorem madeS_ok : ∀ l d, madeS l = some (true, d) → FnSem Try.prog 62 l d := fun l d h => by
  unfold madeS at h
  split at h
  case h_2 => cases h
  case h_1 z E a g k =>
    obtain ⟨h1, g1⟩ := cond_none h
    simp only [Option.some.injEq, Prod.mk.injEq] at g1
    obtain ⟨h2, rfl⟩ := g1
    obtain rfl := beq_iff.1 h1
    obtain ⟨h3, h4⟩ := pgsOK_some h2
    rw [h3, List.length_map] at h4
    exact (made_sem0 _ h4 a g k).same ⟨⟨⟨rfl, h3.symm⟩, rfl, rfl, rfl, trivial⟩, trivial⟩

def E7 : Env := (62, madeS) :: E6
theorem E7_ok : EnvOK Try.prog E7 := .consO madeS_ok E6_ok

end Go.Proofs.Ytjbmpimclagfoaa
