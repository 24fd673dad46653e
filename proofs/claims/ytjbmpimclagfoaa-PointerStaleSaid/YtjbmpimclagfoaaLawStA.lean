/-
  PointerStale: a pointer to a page is stale once the page has been released, whatever becomes of the page afterwards, and the pointer to its next use is another one.
-/
import Derived.Test.YtjbmpimclagfoaaSp11
import Derived.Test.YtjbmpimclagfoaaLawK2
namespace Go.Proofs.Ytjbmpimclagfoaa
open Go.Eng Go.Sp Go.RowKit

/-- The seven words of a page. -/
def wcs (w : Pg) : List Cell := [.int .u64 w.a, .int .u64 w.b, .int .u64 w.c, .int .u64 w.d, .int .u64 w.e, .int .u64 w.f, .int .u64 w.g]

def asWs : List Cell → Option Pg
  | [.int .u64 a, .int .u64 b, .int .u64 c, .int .u64 d, .int .u64 e, .int .u64 f, .int .u64 g] => some ⟨0, 0, a, b, c, d, e, f, g⟩
  | _ => none

theorem asWs_some {x : List Cell} {p : Pg} (h : asWs x = some p) : x = wcs p := by
  unfold asWs at h
  split at h
  · simp only [Option.some.injEq] at h; subst h; rfl
  · cases h

def H25 (xs os : List (List PC)) (w p q : Pg) (i k aL aG n : Int) : St := ⟨[(2, some (.v (.one (.whole (2, 1000))))), (7, some (.v (.one (.ptr (7, 0) 0 0 false)))), (9, some (.v (.one (.ptr (9, 0) 0 0 false)))), (11, some (.v (.one (.whole (11, 2000))))), (12, some (.v (.one (.int .i64 i)))), (13, some (.v (.one (.int .i64 k)))), (14, some (.v (.one (.ptr (14, 0) 0 0 false)))), (16, some (.v (.one (.ptr (16, 0) 0 0 false)))), (21, some (.v (.one (.int .i64 n))))],
  [((2, 1000), some (.arr false 1 (.sp [some .i64] xs))), ((7, 0), some (.var (wcs w))), ((9, 0), some (.var p.cs)), ((11, 2000), some (.arr true 2 (.sp [some .i64, some .i64] os))), ((14, 0), some (.var q.cs)), ((16, 0), some (.var [.int .i64 aL, .int .i64 aG]))], 175⟩
def X25 (xs os : List (List PC)) (w p q : Pg) (i k aL aG : Int) : St := ⟨[(2, some (.v (.one (.whole (2, 1000))))), (7, some (.v (.one (.ptr (7, 0) 0 0 false)))), (9, some (.v (.one (.ptr (9, 0) 0 0 false)))), (11, some (.v (.one (.whole (11, 2000))))), (12, some (.v (.one (.int .i64 i)))), (13, some (.v (.one (.int .i64 k)))), (14, some (.v (.one (.ptr (14, 0) 0 0 false)))), (16, some (.v (.one (.ptr (16, 0) 0 0 false))))],
  [((2, 1000), some (.arr false 1 (.sp [some .i64] xs))), ((7, 0), some (.var (wcs w))), ((9, 0), some (.var p.cs)), ((11, 2000), some (.arr true 2 (.sp [some .i64, some .i64] os))), ((14, 0), some (.var q.cs)), ((16, 0), some (.var [.int .i64 aL, .int .i64 aG]))], 175⟩
def H25n (xs : List (List PC)) (w p q : Pg) (i k aL aG n : Int) : St := ⟨[(2, some (.v (.one (.whole (2, 1000))))), (7, some (.v (.one (.ptr (7, 0) 0 0 false)))), (9, some (.v (.one (.ptr (9, 0) 0 0 false)))), (11, some (.v (.one .nils))), (12, some (.v (.one (.int .i64 i)))), (13, some (.v (.one (.int .i64 k)))), (14, some (.v (.one (.ptr (14, 0) 0 0 false)))), (16, some (.v (.one (.ptr (16, 0) 0 0 false)))), (21, some (.v (.one (.int .i64 n))))],
  [((2, 1000), some (.arr false 1 (.sp [some .i64] xs))), ((7, 0), some (.var (wcs w))), ((9, 0), some (.var p.cs)), ((14, 0), some (.var q.cs)), ((16, 0), some (.var [.int .i64 aL, .int .i64 aG]))], 175⟩
def X25n (xs : List (List PC)) (w p q : Pg) (i k aL aG : Int) : St := ⟨[(2, some (.v (.one (.whole (2, 1000))))), (7, some (.v (.one (.ptr (7, 0) 0 0 false)))), (9, some (.v (.one (.ptr (9, 0) 0 0 false)))), (11, some (.v (.one .nils))), (12, some (.v (.one (.int .i64 i)))), (13, some (.v (.one (.int .i64 k)))), (14, some (.v (.one (.ptr (14, 0) 0 0 false)))), (16, some (.v (.one (.ptr (16, 0) 0 0 false))))],
  [((2, 1000), some (.arr false 1 (.sp [some .i64] xs))), ((7, 0), some (.var (wcs w))), ((9, 0), some (.var p.cs)), ((14, 0), some (.var q.cs)), ((16, 0), some (.var [.int .i64 aL, .int .i64 aG]))], 175⟩

noncomputable def body25 : Code := bodyL 25 Try.f15
noncomputable def body8 : Code := bodyL 8 Try.f15
noncomputable def an15 : Ann := annP 15 [] [8]

theorem step25 (xs os : List (List PC)) (w p q : Pg) (i k0 aL aG n : Int) (G : St → Ans) (k : Ex → St → Ans) :
    evalC ⟨T.l, []⟩ (callD T E6 F 10 10) an15 10 body25 (H25 xs os w p q i k0 aL aG n) (fun e s' => match e with | .normal => atHead an15 25 s' G | e => compact [2, 7, 9, 11, 12, 13, 14, 16] s' (k e)) =
      (bif decide (n < (os.length : Int)) then bif decide (0 ≤ n ∧ n < (os.length : Int)) then bif rowIs [some .i64, some .i64] os n.toNat then
        bif lookB true [q] (intCell os n.toNat 0) (intCell os n.toNat 1) k0 then k .ret (X25 xs os w p q i k0 aL aG) else bif lookC true [q] (intCell os n.toNat 0) (intCell os n.toNat 1) k0 != 11 then k .ret (X25 xs os w p q i k0 aL aG) else
        bif decide (0 ≤ n ∧ n < (os.length : Int)) then bif rowIs [some .i64, some .i64] os n.toNat then
        bif (bif intCell os n.toNat 0 == aL then bif intCell os n.toNat 1 == aG then true else false else false) then k .ret (X25 xs os w p q i k0 aL aG) else G (H25 xs os w p q i k0 aL aG (IntKind.wrap .i64 (n + 1))) else none else none else none else none
       else k (.exit 4) (X25 xs os w p q i k0 aL aG)) := by kernel_rfl

theorem step25n (xs : List (List PC)) (w p q : Pg) (i k0 aL aG : Int) (G : St → Ans) (k : Ex → St → Ans) :
    evalC ⟨T.l, []⟩ (callD T E6 F 10 10) an15 10 body25 (H25n xs w p q i k0 aL aG 0) (fun e s' => match e with | .normal => atHead an15 25 s' G | e => compact [2, 7, 9, 11, 12, 13, 14, 16] s' (k e)) =
      k (.exit 4) (X25n xs w p q i k0 aL aG) := by kernel_rfl

/-- No old pointer leads to the page. -/
def oldsOK (os : List (Int × Int)) (q : Pg) (k aL aG : Int) : Bool :=
  os.all fun x => cond (lookB true [q] x.1 x.2 k) false (cond (lookC true [q] x.1 x.2 k != 11) false (!cond (x.1 == aL) (cond (x.2 == aG) true false) false))

theorem run25 (xs : List (List PC)) (os : List (Int × Int)) (ho : os.length ≤ 1000000) (w p q : Pg) (i k0 aL aG : Int) (hok : oldsOK os q k0 aL aG = true) (k : Ex → St → Ans) : ∀ (m n : Nat), n + m = os.length →
    gN ⟨T.l, []⟩ (callD T E6 F 10 10) an15 10 25 body25 (fun e s' => compact [2, 7, 9, 11, 12, 13, 14, 16] s' (k e)) (m + 1) (H25 xs (os.map pr) w p q i k0 aL aG n) =
      k (.exit 4) (X25 xs (os.map pr) w p q i k0 aL aG) := by
  intro m
  induction m with
  | zero =>
    intro n hn
    rw [gN]
    refine (step25 _ _ _ _ _ _ _ _ _ _ _ _).trans ?_
    rw [List.length_map, decide_eq_false (by omega)]
    rfl
  | succ m ih =>
    intro n hn
    have hlt : n < os.length := by omega
    have hx := List.all_eq_true.1 hok os[n] (List.getElem_mem hlt)
    rw [gN]
    refine (step25 _ _ _ _ _ _ _ _ _ _ _ _).trans ?_
    have e3 : IntKind.wrap .i64 ((n : Int) + 1) = ((n + 1 : Nat) : Int) := by rw [i64_in (by omega) (by omega)]; rfl
    rw [List.length_map, decide_eq_true (show (n : Int) < (os.length : Int) by omega), decide_eq_true (show 0 ≤ (n : Int) ∧ (n : Int) < (os.length : Int) by omega), Int.toNat_natCast, rowIs_pr hlt, (intCell_pr hlt).1, (intCell_pr hlt).2, e3, ih (n + 1) (by omega)]
    revert hx
    cases lookB true [q] os[n].1 os[n].2 k0 <;> cases lookC true [q] os[n].1 os[n].2 k0 != 11 <;> cases os[n].1 == aL <;> cases os[n].2 == aG <;> intro hx <;> first | rfl | (cases hx)

def sum25 : St → (Ex → St → Ans) → Ans
  | ⟨[(2, some (.v (.one (.whole (2, 1000))))), (7, some (.v (.one (.ptr (7, 0) 0 0 false)))), (9, some (.v (.one (.ptr (9, 0) 0 0 false)))), (11, some (.v (.one (.whole (11, 2000))))), (12, some (.v (.one (.int .i64 i)))), (13, some (.v (.one (.int .i64 k0)))), (14, some (.v (.one (.ptr (14, 0) 0 0 false)))), (16, some (.v (.one (.ptr (16, 0) 0 0 false)))), (21, some (.v (.one (.int .i64 n))))],
      [((2, 1000), some (.arr false 1 (.sp kx xs))), ((7, 0), some (.var cw)), ((9, 0), some (.var cp)), ((11, 2000), some (.arr true 2 (.sp ks os))), ((14, 0), some (.var cq)), ((16, 0), some (.var [.int .i64 aL, .int .i64 aG]))], 175⟩, k =>
    match asWs cw, asPg cp, asPg cq with
    | some w, some p, some q => cond (decide (kx = [some .i64] ∧ ks = [some .i64, some .i64] ∧ n = 0)) (cond (prsOK os) (cond (oldsOK (prsOf os) q k0 aL aG) (k (.exit 4) (X25 xs os w p q i k0 aL aG)) none) none) none
    | _, _, _ => none
  | ⟨[(2, some (.v (.one (.whole (2, 1000))))), (7, some (.v (.one (.ptr (7, 0) 0 0 false)))), (9, some (.v (.one (.ptr (9, 0) 0 0 false)))), (11, some (.v (.one .nils))), (12, some (.v (.one (.int .i64 i)))), (13, some (.v (.one (.int .i64 k0)))), (14, some (.v (.one (.ptr (14, 0) 0 0 false)))), (16, some (.v (.one (.ptr (16, 0) 0 0 false)))), (21, some (.v (.one (.int .i64 n))))],
      [((2, 1000), some (.arr false 1 (.sp kx xs))), ((7, 0), some (.var cw)), ((9, 0), some (.var cp)), ((14, 0), some (.var cq)), ((16, 0), some (.var [.int .i64 aL, .int .i64 aG]))], 175⟩, k =>
    match asWs cw, asPg cp, asPg cq with
    | some w, some p, some q => cond (decide (kx = [some .i64] ∧ n = 0)) (k (.exit 4) (X25n xs w p q i k0 aL aG)) none
    | _, _, _ => none
  | _, _ => none

theorem sum25_ok : SumOK Try.prog body25 sum25 := by
  refine SumOK.of (T := ⟨T.l, []⟩) (call := callD T E6 F 10 10) (an := an15) (lf := 10) (id := 25) (ls := [2, 7, 9, 11, 12, 13, 14, 16]) (tok.dyn []) (callOK6 10 10) mixed (SumsOK.in (l := []) (by kernel_rfl) (fun b hb => by cases hb)) ?_
  intro s k r h
  unfold sum25 at h
  split at h
  case h_3 => cases h
  case h_1 k' i k0 n kx xs cw cp ks os cq aL aG =>
    split at h
    case h_2 => cases h
    case h_1 w p q hw hp hq =>
      obtain ⟨h0, g0⟩ := cond_none h
      obtain ⟨h1, g1⟩ := cond_none g0
      obtain ⟨h2, g2⟩ := cond_none g1
      clear h g0 g1
      obtain ⟨h5, h6, h7⟩ := of_decide_eq_true h0
      subst h5 h6 h7
      obtain rfl := asWs_some hw
      obtain rfl := asPg_some hp
      obtain rfl := asPg_some hq
      obtain ⟨h3, h4⟩ := prsOK_some h1
      obtain ⟨ps, hps⟩ : ∃ ps : List (Int × Int), os = ps.map pr := ⟨_, h3⟩
      subst hps
      rw [prsOf_map] at h2
      rw [List.length_map] at h4
      refine ⟨ps.length + 1, ?_⟩
      have := run25 xs ps h4 w p q i k0 aL aG h2 k ps.length 0 (by omega)
      exact Eq.trans this g2
  case h_2 k' i k0 n kx xs cw cp cq aL aG =>
    split at h
    case h_2 => cases h
    case h_1 w p q hw hp hq =>
      obtain ⟨h0, g0⟩ := cond_none h
      obtain ⟨h5, h7⟩ := of_decide_eq_true h0
      subst h5 h7
      obtain rfl := asWs_some hw
      obtain rfl := asPg_some hp
      obtain rfl := asPg_some hq
      refine ⟨1, ?_⟩
      rw [gN]
      exact (step25n _ _ _ _ _ _ _ _ _ _).trans g0

end Go.Proofs.Ytjbmpimclagfoaa
