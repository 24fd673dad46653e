/-
  snapshot.Resolve: a chain of versions, followed.
-/
import Derived.Test.YtjbmpimclagfoaaSp16
import Derived.Test.YtjbmpimclagfoaaSp5
namespace Go.Sp
open Go.Eng

/-- What is found from a pointer on: none where it is neither a version nor the chain's end. -/
def resF (vis : Int → Bool) (ps : List Pg) (hl hg : Int) : Nat → Int → Int → Int → Option (Option Ve)
  | 0, _, _, _ => none
  | n + 1, al, ag, key =>
    bif bif lookC true ps al ag 1 == 11 then !(bif al == hl then bif ag == hg then true else false else false) else false then some none else
    bif lookC true ps al ag 1 != 0 then none else bif !lookB true ps al ag 1 then none else bif readC (lookP true ps al ag 1) != 0 then none else
    bif bif key == 0 then false else (readV (lookP true ps al ag 1)).k != key then none else
    bif vis (readV (lookP true ps al ag 1)).s then some (some (readV (lookP true ps al ag 1))) else
    bif nilP (readV (lookP true ps al ag 1)).l (readV (lookP true ps al ag 1)).g then some none else
    resF vis ps hl hg n (readV (lookP true ps al ag 1)).l (readV (lookP true ps al ag 1)).g (bif key == 0 then (readV (lookP true ps al ag 1)).k else key)

def resV (r : Option (Option Ve)) : Ve := match r with
  | some (some v) => v
  | _ => .zero
def resB (r : Option (Option Ve)) : Bool := match r with
  | some (some _) => true
  | _ => false
def resOK (r : Option (Option Ve)) : Bool := match r with
  | some _ => true
  | none => false

end Go.Sp

namespace Go.Proofs.Ytjbmpimclagfoaa
open Go.Eng Go.Sp

def ER : Env := (29, tot visS) :: E13
theorem ER_ok : EnvOK Try.prog ER := .cons visS_ok E13_ok
theorem callOKR (lf d : Nat) : CallOK Try.prog (callD T ER F lf d) := callD_ok tok ER_ok fnsok mixed d

/-- A vector's cells. -/
def vcs6 (v : Pg) : List Cell := [.int .u64 v.a, .int .u64 v.b, .int .u64 v.c, .int .u64 v.d, .int .u64 v.e, .int .u64 v.f]
def asVs6 : List Cell → Option Pg
  | [.int .u64 a, .int .u64 b, .int .u64 c, .int .u64 d, .int .u64 e, .int .u64 f] => some ⟨0, 0, a, b, c, d, e, f, 0⟩
  | _ => none

theorem asVs6_some {x : List Cell} {p : Pg} (h : asVs6 x = some p) : x = vcs6 p := by
  unfold asVs6 at h
  split at h
  · simp only [Option.some.injEq] at h; subst h; rfl
  · cases h

def visV (v : Pg) (s : Int) : Bool := visP v.a v.b v.c v.d v.e v.f s

def H56 (l : List (List PC)) (v : Pg) (hl hg al ag key i : Int) : St := ⟨[(2, some (.v (.one (.whole (2, 1000))))), (3, some (.v (.one (.ptr (3, 0) 0 0 false)))), (4, some (.v (.one (.ptr (4, 0) 0 0 false)))), (7, some (.v (.one (.ptr (7, 0) 0 0 false)))), (11, some (.v (.one (.fn 81)))), (12, some (.v (.one (.ptr (12, 0) 0 0 false)))), (13, some (.v (.one (.int .u32 key)))), (19, some (.v (.one (.int .i64 i))))],
  [((2, 1000), some (.arr false 9 (.sp Pg.ks l))), ((3, 0), some (.var (vcs6 v))), ((4, 0), some (.var [.int .i64 hl, .int .i64 hg])), ((7, 0), some (.var Ve.zero.cs)), ((12, 0), some (.var [.int .i64 al, .int .i64 ag]))], 122⟩
def FL (c : Int) (o : Bool) (l : List (List PC)) : St := ⟨[(6, some (.v (.one (.whole (1000006, 2000))))), (7, some (.v (.one (.ptr (7, 0) 0 0 false)))), (8, some (.v (.one (.bool false)))), (9, some (.v (.one (.int .i64 c)))), (10, some (.v (.one (.bool o))))],
  [((1000006, 2000), some (.arr true 1 (.lit l))), ((7, 0), some (.var Ve.zero.cs))], 122⟩
def FD (v : Ve) : St := ⟨[(6, some (.v (.one .nils))), (7, some (.v (.one (.ptr (7, 0) 0 0 false)))), (8, some (.v (.one (.bool true)))), (9, some (.v (.one (.int .i64 0)))), (10, some (.v (.one (.bool true))))], [((7, 0), some (.var v.cs))], 122⟩

noncomputable def body56 : Code := bodyL 4 Try.f56

def fin56 (V : Ve) (key : Int) (v : Pg) (k : Ex → St → Ans) (G : Int → Int → Int → Ans) : Ans :=
  bif V.k != key then k .ret (FL 14 true []) else bif visV v V.s then k .ret (FD V) else bif (bif V.l == 0 then bif V.g == 0 then true else false else false) then k .ret (FL 0 true []) else G V.l V.g key
def rest56 (ps : List Pg) (v : Pg) (al ag key : Int) (k : Ex → St → Ans) (G : Int → Int → Int → Ans) : Ans :=
  bif lookC true ps al ag 1 != 0 then k .ret (FL (lookC true ps al ag 1) true []) else bif !lookB true ps al ag 1 then k .ret (FL 0 false [ir al]) else
  bif readC (lookP true ps al ag 1) != 0 then k .ret (FL (readC (lookP true ps al ag 1)) true []) else
  bif key == 0 then fin56 (readV (lookP true ps al ag 1)) (readV (lookP true ps al ag 1)).k v k G else fin56 (readV (lookP true ps al ag 1)) key v k G

theorem step56 (l : List (List PC)) (v : Pg) (hl hg al ag key i : Int) (G : St → Ans) (k : Ex → St → Ans) :
    evalC ⟨T.l, []⟩ (callD T ER F 10 10) (annOf 56) 10 body56 (H56 l v hl hg al ag key i) (fun e s' => match e with | .normal => atHead (annOf 56) 4 s' G | e => compact [6, 7, 8, 9, 10] s' (k e)) =
      (bif decide (i < 256) then bif pgsOK l then bif lookC true (pgsOf l) al ag 1 == 11 then
          bif !(bif al == hl then bif ag == hg then true else false else false) then k .ret (FL 0 true []) else rest56 (pgsOf l) v al ag key k fun x y z => G (H56 l v hl hg x y z (IntKind.wrap .i64 (i + 1)))
        else rest56 (pgsOf l) v al ag key k fun x y z => G (H56 l v hl hg x y z (IntKind.wrap .i64 (i + 1))) else none
       else k (.exit 0) ⟨[(7, some (.v (.one (.ptr (7, 0) 0 0 false))))], [((7, 0), some (.var Ve.zero.cs))], 122⟩) := by kernel_rfl

def out56 (r : Option Ve) (k : Ex → St → Ans) : Ans := match r with
  | some w => k .ret (FD w)
  | none => k .ret (FL 0 true [])

theorem run56 (ps : List Pg) (hp : ps.length ≤ 1000000) (v : Pg) (hl hg : Int) (k : Ex → St → Ans) : ∀ (m i : Nat) (al ag key : Int) (r : Option Ve), i + m ≤ 256 → resF (visV v) ps hl hg m al ag key = some r →
    gN ⟨T.l, []⟩ (callD T ER F 10 10) (annOf 56) 10 4 body56 (fun e s' => compact [6, 7, 8, 9, 10] s' (k e)) m (H56 (ps.map Pg.row) v hl hg al ag key i) = out56 r k := by
  intro m
  induction m with
  | zero => intro i al ag key r _ h; cases h
  | succ m ih =>
    intro i al ag key r hi h
    rw [gN]
    refine (step56 _ _ _ _ _ _ _ _ _ _).trans ?_
    have e3 : IntKind.wrap .i64 ((i : Int) + 1) = ((i + 1 : Nat) : Int) := by rw [i64_in (by omega) (by omega)]; rfl
    rw [decide_eq_true (show (i : Int) < 256 by omega), pgsOK_map hp, pgsOf_map, e3]
    simp only [resF] at h
    have main : (bif lookC true ps al ag 1 != 0 then none else bif !lookB true ps al ag 1 then none else bif readC (lookP true ps al ag 1) != 0 then none else
        bif bif key == 0 then false else (readV (lookP true ps al ag 1)).k != key then none else
        bif visV v (readV (lookP true ps al ag 1)).s then some (some (readV (lookP true ps al ag 1))) else
        bif nilP (readV (lookP true ps al ag 1)).l (readV (lookP true ps al ag 1)).g then some none else
        resF (visV v) ps hl hg m (readV (lookP true ps al ag 1)).l (readV (lookP true ps al ag 1)).g (bif key == 0 then (readV (lookP true ps al ag 1)).k else key)) = some r →
        rest56 ps v al ag key k (fun x y z => gN ⟨T.l, []⟩ (callD T ER F 10 10) (annOf 56) 10 4 body56 (fun e s' => compact [6, 7, 8, 9, 10] s' (k e)) m (H56 (ps.map Pg.row) v hl hg x y z ((i + 1 : Nat) : Int))) =
          out56 r k := by
      intro h
      unfold rest56 fin56
      cases h1 : lookC true ps al ag 1 != 0 with
      | true => rw [h1] at h; cases h
      | false =>
        rw [h1, cond_false] at h
        cases h2 : !lookB true ps al ag 1 with
        | true => rw [h2] at h; cases h
        | false =>
          rw [h2, cond_false] at h
          cases h3 : readC (lookP true ps al ag 1) != 0 with
          | true => rw [h3] at h; cases h
          | false =>
            rw [h3, cond_false] at h
            generalize readV (lookP true ps al ag 1) = V at h
            simp only [cond_false]
            have fin : ∀ key' : Int, (V.k != key') = false → (bif visV v V.s then some (some V) else bif nilP V.l V.g then some none else resF (visV v) ps hl hg m V.l V.g key') = some r →
                (bif V.k != key' then k .ret (FL 14 true []) else bif visV v V.s then k .ret (FD V) else bif (bif V.l == 0 then bif V.g == 0 then true else false else false) then k .ret (FL 0 true []) else
                  gN ⟨T.l, []⟩ (callD T ER F 10 10) (annOf 56) 10 4 body56 (fun e s' => compact [6, 7, 8, 9, 10] s' (k e)) m (H56 (ps.map Pg.row) v hl hg V.l V.g key' ((i + 1 : Nat) : Int))) =
                out56 r k := fun key' hk h => by
              rw [hk, cond_false]
              cases h4 : visV v V.s with
              | true =>
                rw [h4, cond_true] at h
                obtain rfl : r = some V := by injection h with h; exact h.symm
                rfl
              | false =>
                rw [h4, cond_false] at h
                simp only [cond_false]
                have en : (bif V.l == 0 then bif V.g == 0 then true else false else false) = nilP V.l V.g := rfl
                rw [en]
                cases h5 : nilP V.l V.g with
                | true =>
                  rw [h5, cond_true] at h
                  obtain rfl : r = none := by injection h with h; exact h.symm
                  rfl
                | false =>
                  rw [h5, cond_false] at h
                  rw [cond_false]
                  exact ih (i + 1) _ _ _ _ (by omega) h
            cases h6 : key == 0 with
            | true =>
              rw [h6] at h
              simp only [cond_true, cond_false] at h ⊢
              exact fin V.k (by simp) h
            | false =>
              rw [h6] at h
              simp only [cond_false] at h ⊢
              cases h7 : V.k != key with
              | true => rw [h7] at h; cases h
              | false =>
                rw [h7, cond_false] at h
                have := fin key h7 h
                rw [h7, cond_false] at this
                exact this
    cases h1 : lookC true ps al ag 1 == 11 with
    | false =>
      rw [h1] at h
      simp only [cond_true, cond_false] at h ⊢
      exact main h
    | true =>
      rw [h1] at h
      simp only [cond_true] at h ⊢
      cases h2 : !(bif al == hl then bif ag == hg then true else false else false) with
      | true =>
        rw [h2, cond_true] at h
        obtain rfl : r = none := by injection h with h; exact h.symm
        rfl
      | false =>
        rw [h2, cond_false] at h
        rw [cond_false]
        exact main h

def sum56 : St → (Ex → St → Ans) → Ans
  | ⟨[(2, some (.v (.one (.whole (2, 1000))))), (3, some (.v (.one (.ptr (3, 0) 0 0 false)))), (4, some (.v (.one (.ptr (4, 0) 0 0 false)))), (7, some (.v (.one (.ptr (7, 0) 0 0 false)))), (11, some (.v (.one (.fn 81)))), (12, some (.v (.one (.ptr (12, 0) 0 0 false)))), (13, some (.v (.one (.int .u32 key)))), (19, some (.v (.one (.int .i64 i))))],
      [((2, 1000), some (.arr false 9 (.sp ks l))), ((3, 0), some (.var cv)), ((4, 0), some (.var [.int .i64 hl, .int .i64 hg])), ((7, 0), some (.var [.int .u32 o0, .int .i64 o1, .int .i64 o2, .int .i64 o3, .bool o4, .int .u32 o5, .int .u64 o6, .int .i64 o7, .int .i64 o8])), ((12, 0), some (.var [.int .i64 al, .int .i64 ag]))], 122⟩, k =>
    match asVs6 cv with
    | some v => cond (decide (ks = Pg.ks ∧ i = 0 ∧ o0 = 0 ∧ o1 = 0 ∧ o2 = 0 ∧ o3 = 0 ∧ o4 = false ∧ o5 = 0 ∧ o6 = 0 ∧ o7 = 0 ∧ o8 = 0)) (cond (pgsOK l) (cond (resOK (resF (visV v) (pgsOf l) hl hg 256 al ag key))
        (cond (resB (resF (visV v) (pgsOf l) hl hg 256 al ag key)) (k .ret (FD (resV (resF (visV v) (pgsOf l) hl hg 256 al ag key)))) (k .ret (FL 0 true []))) none) none) none
    | none => none
  | _, _ => none

theorem sum56_ok : SumOK Try.prog body56 sum56 := by
  refine SumOK.of (T := ⟨T.l, []⟩) (call := callD T ER F 10 10) (an := annOf 56) (lf := 10) (id := 4) (ls := [6, 7, 8, 9, 10]) (tok.dyn []) (callOKR 10 10) mixed (SumsOK.in (l := []) (by kernel_rfl) (fun b hb => by cases hb)) ?_
  intro s k r h
  unfold sum56 at h
  split at h
  case h_2 => cases h
  case h_1 k' key i ks l cv hl hg o0 o1 o2 o3 o4 o5 o6 o7 o8 al ag =>
    split at h
    case h_2 => cases h
    case h_1 v hv =>
      obtain ⟨h0, g0⟩ := cond_none h
      obtain ⟨h1, g1⟩ := cond_none g0
      obtain ⟨h2, g2⟩ := cond_none g1
      clear h g0 g1
      obtain ⟨rfl, rfl, rfl, rfl, rfl, rfl, rfl, rfl, rfl, rfl, rfl⟩ := of_decide_eq_true h0
      obtain rfl := asVs6_some hv
      obtain ⟨h3, h4⟩ := pgsOK_some h1
      obtain ⟨ps, hps⟩ : ∃ ps : List Pg, l = ps.map Pg.row := ⟨_, h3⟩
      subst hps
      rw [pgsOf_map] at g2 h2
      rw [List.length_map] at h4
      cases hr : resF (visV v) ps hl hg 256 al ag key with
      | none => rw [hr] at h2; cases h2
      | some x =>
        rw [hr] at g2
        have := run56 ps h4 v hl hg k 256 0 al ag key x (by omega) hr
        refine ⟨256, this.trans ?_⟩
        rw [← g2]
        cases x <;> rfl

def resR (v : Ve) (f : Bool) : DRes := .tup [.one (.sl 1 (.lit [])), v.t, rb f, ri 0, rb true]

theorem resolve_sem0 (ps : List Pg) (hp : ps.length ≤ 1000000) (v : Pg) (hl hg : Int) (h : resOK (resF (visV v) ps hl hg 256 hl hg 0) = true) :
    FnSem Try.prog 56 [.agg [.pc (.int .u64 v.a), .pc (.int .u64 v.b), .pc (.int .u64 v.c), .pc (.int .u64 v.d), .pc (.int .u64 v.e), .pc (.int .u64 v.f)], rp hl hg, .one (.sl 9 (.sp Pg.ks (ps.map Pg.row)))]
      (resR (resV (resF (visV v) ps hl hg 256 hl hg 0)) (resB (resF (visV v) ps hl hg 256 hl hg 0))) := by
  refine semL (E := ER) ER_ok (lf := 10) (lf' := 10) (depth := 10) (an := annS 56 [(4, sum56)]) Try.func56 (by kernel_rfl) (SumsOK.fn (l := [body56]) (by kernel_rfl) (fun b hb => ?_)) ?_
  · obtain rfl := List.mem_singleton.1 hb
    exact GoodL.some (f := sum56) (by kernel_rfl) sum56_ok
  · have e : ∀ (l : List (List PC)) (R : Option (Option Ve)), resF (visV v) (pgsOf l) hl hg 256 hl hg 0 = R → evalFn T (callD T ER F 10 10) (annS 56 [(4, sum56)]) 10 Try.f56 [.agg [.pc (.int .u64 v.a), .pc (.int .u64 v.b), .pc (.int .u64 v.c), .pc (.int .u64 v.d), .pc (.int .u64 v.e), .pc (.int .u64 v.f)], rp hl hg, .one (.sl 9 (.sp Pg.ks l))] some =
        (bif pgsOK l then bif resOK R then bif resB R then some (resR (resV R) true) else some (resR .zero false) else none else none) := by
      intro l R hR
      subst hR
      kernel_rfl
    rw [e _ _ rfl, pgsOK_map hp, pgsOf_map, h]
    cases hr : resF (visV v) ps hl hg 256 hl hg 0 with
    | none => rw [hr] at h; cases h
    | some x => cases x <;> rfl

end Go.Proofs.Ytjbmpimclagfoaa
