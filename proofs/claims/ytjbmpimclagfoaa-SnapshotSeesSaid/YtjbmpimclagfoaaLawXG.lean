/-
  SnapshotSees: the first loop as a summary; the function as a whole.
-/
import Derived.Test.YtjbmpimclagfoaaLawXF
namespace Go.Proofs.Ytjbmpimclagfoaa
open Go.Eng Go.Sp

noncomputable def sum9 : St → (Ex → St → Ans) → Ans
  | ⟨[(0, some (.v (.one (.whole (0, 1000))))), (2, some (.v (.one (.int .i64 fz)))), (4, some (.v (.one (.ptr (4, 0) 0 0 false)))), (7, some (.v (.one .nils))), (8, some (.v (.one (.ptr (8, 0) 0 0 false)))), (9, some (.v (.one .nils))), (10, some (.v (.one (.int .i64 i))))],
      [((0, 1000), some (.arr false 1 (.sp kc cl))), ((4, 0), some (.var [.int .u64 va, .int .u64 vb, .int .u64 vc, .int .u64 vd, .int .u64 ve, .int .u64 vf])), ((8, 0), some (.var cS))], 324⟩, k =>
    cond (pB (kc = [some .i64] ∧ i = 0 ∧ cS = Sq.zero.cs ∧ In9 cl ∧ 1 ≤ cl.length))
      (k (.exit 0) (H9 cl fz ⟨va, vb, vc, vd, ve, vf⟩ ((hP cl (cl.length - 1)).row :: (rs cl (cl.length - 1)).map Pg.row) (sqs cl cl.length) ((sts cl cl.length).map us) (cl.length : Int))) none
  | _, _ => none

theorem sum9_ok : SumOK Try.prog (bodyX 7) sum9 := by
  refine SumOK.of (T := TX) (call := callD T ES F 10 10) (an := annX []) (lf := 10) (id := 7) (ls := [0, 2, 4, 7, 8, 9, 10]) (tok.dyn [64, 67, 71, 182]) (callOKS 10 10) mixed (SumsOK.in (l := [bodyL 26 Try.f9]) (by kernel_rfl) (fun b hb => ?_)) ?_
  · obtain rfl := List.mem_singleton.1 hb
    exact GoodL.none (by kernel_rfl)
  intro s k r h
  unfold sum9 at h
  split at h
  case h_2 => cases h
  case h_1 k' fz i kc cl va vb vc vd ve vf cS =>
    obtain ⟨h0, g0⟩ := cond_none h
    obtain ⟨rfl, rfl, rfl, hin, hlen⟩ := pB_of h0
    clear h h0
    have hn := hin.n
    obtain ⟨n, hc⟩ : ∃ n, cl.length = n + 1 := ⟨cl.length - 1, by omega⟩
    refine ⟨(n + 1) + 1, ?_⟩
    rw [gN]
    refine (step9n cl fz ⟨va, vb, vc, vd, ve, vf⟩ .zero _ _).trans ?_
    obtain ⟨a1, a2⟩ := free_alloc (i := 0) (by decide)
    have a1' : allocC (free7 0) 1 = 0 := a1
    have a2' : allocO (free7 0) 1 0 = fr 0 := a2
    obtain ⟨_, p1, p2⟩ := vN_ok cl (i := 0) (by decide)
    have hpv : prv (vN cl 0) 0 = vN cl 0 := rfl
    have hst : ver9 0 (st9 Sq.zero (cl9 cl 0)) = vN cl 0 := rfl
    have hst' : st9 Sq.zero (cl9 cl 0) = stA cl 0 := rfl
    have hS : sinc Sq.zero (cl9 cl 0) = sqs cl 1 := rfl
    have hw : writeC (fr 0) (vN cl 0) = 0 := by
      have ht : tK (fr 0).a = 1 := fr_tag.1
      unfold writeC
      rw [← hpv, p2, ht]; rfl
    have e3 : IntKind.wrap .i64 ((0 : Int) + 1) = ((0 + 1 : Nat) : Int) := by rw [i64_in (by omega) (by omega)]; rfl
    have hf : fillO (fr 0) (vN cl 0) = hP cl 0 := by rw [fillO_eq]; rfl
    have hcl : ∀ G : Ans, cli9 cl 0 G = G := fun G => cli9_of hin (i := 0) (by omega) G
    have hu : [us (stA cl 0)] = (sts cl (0 + 1)).map us := rfl
    have := run9 hin fz ⟨va, vb, vc, vd, ve, vf⟩ k n 0 (by omega)
    have hr : (rs cl 0).map Pg.row = [] := rfl
    rw [hr] at this
    rw [decide_eq_true (show (0 : Int) < (cl.length : Int) by omega), hcl, a1', a2', hst, hw, hf, e3, hst', hS, hu]
    rw [cond_true, show ((0 : Int) == 0) = true from rfl, cond_true, cond_true]
    exact this.trans g0

def vmod (v : Sq) : Sq := ⟨Int.tmod v.a 8, Int.tmod v.b 8, Int.tmod v.c 8, Int.tmod v.d 8, Int.tmod v.e 8, Int.tmod v.f 8⟩
def visS9 (v : Sq) (s : Int) : Bool := visP v.a v.b v.c v.d v.e v.f s

/-- What the law makes of a released page. -/
def freed9 (v : Sq) (E : List (List PC)) (hl hg W kk : Int) (g : Pg) : Option DRes :=
  bif decide ((0 + E.length) * 72 ≤ 140737488355328) then bif decide ((E.length + 1) * 72 ≤ 140737488355328) then
    bif cond (pgsOK (E ++ [(relP g).row])) (resOK (resF (visS9 v) (pgsOf (E ++ [(relP g).row])) hl hg 256 hl hg 0)) false then
    bif relC g != 0 then bs false else
    bif resB (resF (visS9 v) (pgsOf (E ++ [(relP g).row])) hl hg 256 hl hg 0) == decide (W > kk) then
      bif !resB (resF (visS9 v) (pgsOf (E ++ [(relP g).row])) hl hg 256 hl hg 0) then bs true else bs ((resV (resF (visS9 v) (pgsOf (E ++ [(relP g).row])) hl hg 256 hl hg 0)).a == W)
    else bs false else none else none else none

noncomputable def tail9 (v : Sq) (E : List (List PC)) (hl hg W kk : Int) (o : Ve) : Option DRes :=
  bif decide ((E.length : Int) < 2) then bs true else
  bif pB (Pg.ks = Pg.ks ∧ (0 : Int) = 0 ∧ (∃ o' : Ve, o.cs = o'.cs) ∧ Pg.zero.cs = Pg.zero.cs ∧ ∃ ps : List Pg, E = ps.map Pg.row ∧ ps.length ≤ 1000000 ∧ ∀ p ∈ ps, readC p = 0) then
    freed9 v E hl hg W kk (goneF kk hl (pgsOf E) .zero) else none

noncomputable def sees9 (v : Sq) (E : List (List PC)) (hl hg W kk : Int) : Option DRes :=
  bif cond (pgsOK E) (resOK (resF (visS9 v) (pgsOf E) hl hg 256 hl hg 0)) false then
    bif !(resB (resF (visS9 v) (pgsOf E) hl hg 256 hl hg 0) == decide (W ≥ 0)) then bs false else
    bif resB (resF (visS9 v) (pgsOf E) hl hg 256 hl hg 0) then bif (resV (resF (visS9 v) (pgsOf E) hl hg 256 hl hg 0)).a != W then bs false else bif (resV (resF (visS9 v) (pgsOf E) hl hg 256 hl hg 0)).k != 9 then bs false else
      tail9 v E hl hg W kk (resV (resF (visS9 v) (pgsOf E) hl hg 256 hl hg 0))
    else tail9 v E hl hg W kk (resV (resF (visS9 v) (pgsOf E) hl hg 256 hl hg 0))
  else none

noncomputable def law9 (cl : List (List PC)) (v : Sq) (fz : Int) : Option DRes :=
  bif pB ([some IntKind.i64] = [some .i64] ∧ (0 : Int) = 0 ∧ Sq.zero.cs = Sq.zero.cs ∧ In9 cl ∧ 1 ≤ cl.length) then
    bif pB (Pg.ks = Pg.ks ∧ [some IntKind.u64] = [some .u64] ∧ (-1 : Int) = -1 ∧ (0 : Int) = 0 ∧ ∃ xs : List Int, (sts cl cl.length).map us = xs.map us ∧ xs.length ≤ 1000000 ∧ ∀ x ∈ xs, ok36 x) then
    bif decide ((0 : Int) ≤ 0 ∧ (0 : Int) < ((((rs cl (cl.length - 1)).map Pg.row).length + 1 : Nat) : Int)) then
      sees9 (vmod v) ((hP cl (cl.length - 1)).row :: (rs cl (cl.length - 1)).map Pg.row) (hP cl (cl.length - 1)).l (genP (hP cl (cl.length - 1)).a) (wantF (vmod v) (usInv ((sts cl cl.length).map us)) 0 (-1)) (pick fz (IntKind.wrap .i64 ((((sts cl cl.length).map us).length : Int) - 1)))
    else none else none else none

theorem eq9 (cl : List (List PC)) (v : Sq) (fz : Int) : evalFn T (callD T ES F 10 10) (annX [(7, sum9), (36, sum36), (50, sum50)]) 10 Try.f9 [.one (.sl 1 (.sp [some .i64] cl)), .agg [.pc (.int .u64 v.a), .pc (.int .u64 v.b), .pc (.int .u64 v.c), .pc (.int .u64 v.d), .pc (.int .u64 v.e), .pc (.int .u64 v.f)], ri fz] some =
    (bif (cl.length : Int) == 0 then bs true else bif decide ((cl.length : Int) > 24) then bs true else law9 cl v fz) := by kernel_rfl

end Go.Proofs.Ytjbmpimclagfoaa
