/-
  SnapshotSees: the loop that counts what the vector includes, and the loop that finds an old version's page.
-/
import Derived.Test.YtjbmpimclagfoaaLawXA
import Derived.Test.YtjbmpimclagfoaaLawCC
namespace Go.Sp
open Go.Eng

theorem rowIs_us {xs : List Int} {i : Nat} (h : i < xs.length) : rowIs [some .u64] (xs.map us) i = true := by
  unfold rowIs
  rw [List.getElem?_map, List.getElem?_eq_getElem h]
  rfl

theorem intCell_us {xs : List Int} {i : Nat} (h : i < xs.length) : intCell (xs.map us) i 0 = xs[i] := by
  unfold intCell
  rw [List.getElem?_map, List.getElem?_eq_getElem h]
  rfl

def usInv : List (List PC) → List Int
  | [] => []
  | [.int _ x] :: r => x :: usInv r
  | _ :: r => 0 :: usInv r

theorem usInv_map (xs : List Int) : usInv (xs.map us) = xs := by
  induction xs with
  | nil => rfl
  | cons x xs ih => show x :: usInv (xs.map us) = _; rw [ih]

def visQ (v : Sq) (x : Int) : Bool := decide (IntKind.wrap .u64 (orgS x) ≤ intAt v.l ((orgC x).toNat * 1 + 0))
/-- The last that is seen. -/
def wantF (v : Sq) : List Int → Int → Int → Int
  | [], _, w => w
  | x :: r, i, w => wantF v r (i + 1) (bif visQ v x then i else w)
def ok36 (x : Int) : Prop := orgO x = true ∧ 0 ≤ orgC x ∧ orgC x < 6

/-- The last page of version 'kk' that is not the head's. -/
def goneF (kk hl : Int) : List Pg → Pg → Pg
  | [], g => g
  | p :: r, g => goneF kk hl r (bif (readV p).a == kk then bif p.l != hl then p else g else g)

end Go.Sp
namespace Go.Proofs.Ytjbmpimclagfoaa
open Go.Eng Go.Sp

def H36 (fz : Int) (v : Sq) (pl ws : List (List PC)) (w i : Int) : St := ⟨[(2, some (.v (.one (.int .i64 fz)))), (4, some (.v (.one (.ptr (4, 0) 0 0 false)))), (7, some (.v (.one (.whole (1000007, 2000))))), (9, some (.v (.one (.whole (1000009, 2000))))), (21, some (.v (.one (.int .i64 w)))), (22, some (.v (.one (.int .i64 i))))],
  [((4, 0), some (.var v.us)), ((1000007, 2000), some (.arr true 9 (.sp Pg.ks pl))), ((1000009, 2000), some (.arr true 1 (.sp [some .u64] ws)))], 324⟩
def X36 (fz : Int) (v : Sq) (pl ws : List (List PC)) (w : Int) : St := ⟨[(2, some (.v (.one (.int .i64 fz)))), (4, some (.v (.one (.ptr (4, 0) 0 0 false)))), (7, some (.v (.one (.whole (1000007, 2000))))), (9, some (.v (.one (.whole (1000009, 2000))))), (21, some (.v (.one (.int .i64 w))))],
  [((4, 0), some (.var v.us)), ((1000007, 2000), some (.arr true 9 (.sp Pg.ks pl))), ((1000009, 2000), some (.arr true 1 (.sp [some .u64] ws)))], 324⟩

theorem step36 (fz : Int) (v : Sq) (pl ws : List (List PC)) (w i : Int) (G : St → Ans) (k : Ex → St → Ans) :
    evalC TX (callD T ES F 10 10) (annX []) 10 (bodyX 36) (H36 fz v pl ws w i) (fun e s' => match e with | .normal => atHead (annX []) 36 s' G | e => compact [2, 4, 7, 9, 21] s' (k e)) =
      (bif decide (i < (ws.length : Int)) then bif decide (0 ≤ i ∧ i < (ws.length : Int)) then bif rowIs [some .u64] ws i.toNat then bif orgO (intCell ws i.toNat 0) then
        bif decide (0 ≤ orgC (intCell ws i.toNat 0) ∧ orgC (intCell ws i.toNat 0) < ((6 : Nat) : Int)) then bif Nat.blt ((orgC (intCell ws i.toNat 0)).toNat * 1 + 0) 6 then
        bif visQ v (intCell ws i.toNat 0) then G (H36 fz v pl ws i (IntKind.wrap .i64 (i + 1))) else G (H36 fz v pl ws w (IntKind.wrap .i64 (i + 1))) else none else none else G (H36 fz v pl ws w (IntKind.wrap .i64 (i + 1))) else none else none
       else k (.exit 6) (X36 fz v pl ws w)) := by kernel_rfl

theorem run36 (fz : Int) (v : Sq) (pl : List (List PC)) (xs : List Int) (hx : xs.length ≤ 1000000) (ho : ∀ x ∈ xs, ok36 x) (k : Ex → St → Ans) : ∀ (m i : Nat) (w : Int), i + m = xs.length →
    gN TX (callD T ES F 10 10) (annX []) 10 36 (bodyX 36) (fun e s' => compact [2, 4, 7, 9, 21] s' (k e)) (m + 1) (H36 fz v pl (xs.map us) w i) = k (.exit 6) (X36 fz v pl (xs.map us) (wantF v (xs.drop i) i w)) := by
  intro m
  induction m with
  | zero =>
    intro i w hi
    rw [gN]
    refine (step36 _ _ _ _ _ _ _ _).trans ?_
    rw [List.length_map, decide_eq_false (by omega), List.drop_of_length_le (by omega)]
    rfl
  | succ m ih =>
    intro i w hi
    have hlt : i < xs.length := by omega
    obtain ⟨h1, h2, h3⟩ := ho xs[i] (List.getElem_mem hlt)
    rw [gN]
    refine (step36 _ _ _ _ _ _ _ _).trans ?_
    have e3 : IntKind.wrap .i64 ((i : Int) + 1) = ((i + 1 : Nat) : Int) := by rw [i64_in (by omega) (by omega)]; rfl
    have e4 : Nat.blt ((orgC xs[i]).toNat * 1 + 0) 6 = true := by rw [Nat.blt_eq]; omega
    rw [List.length_map, decide_eq_true (show (i : Int) < (xs.length : Int) by omega), decide_eq_true (show 0 ≤ (i : Int) ∧ (i : Int) < (xs.length : Int) by omega), Int.toNat_natCast, rowIs_us hlt, intCell_us hlt, h1, decide_eq_true (show 0 ≤ orgC xs[i] ∧ orgC xs[i] < ((6 : Nat) : Int) from ⟨h2, h3⟩), e4, e3,
      List.drop_eq_getElem_cons hlt]
    simp only [cond_true, wantF]
    have e5 : ((i : Int) + 1) = ((i + 1 : Nat) : Int) := rfl
    cases hv : visQ v xs[i] with
    | true => rw [cond_true, cond_true, ih (i + 1) _ (by omega), e5]
    | false => rw [cond_false, cond_false, ih (i + 1) _ (by omega), e5]

noncomputable def sum36 : St → (Ex → St → Ans) → Ans
  | ⟨[(2, some (.v (.one (.int .i64 fz)))), (4, some (.v (.one (.ptr (4, 0) 0 0 false)))), (7, some (.v (.one (.whole (1000007, 2000))))), (9, some (.v (.one (.whole (1000009, 2000))))), (21, some (.v (.one (.int .i64 w)))), (22, some (.v (.one (.int .i64 i))))],
      [((4, 0), some (.var [.int .u64 va, .int .u64 vb, .int .u64 vc, .int .u64 vd, .int .u64 ve, .int .u64 vf])), ((1000007, 2000), some (.arr true 9 (.sp kp pl))), ((1000009, 2000), some (.arr true 1 (.sp kw ws)))], 324⟩, k =>
    cond (pB (kp = Pg.ks ∧ kw = [some .u64] ∧ w = -1 ∧ i = 0 ∧ ∃ xs : List Int, ws = xs.map us ∧ xs.length ≤ 1000000 ∧ ∀ x ∈ xs, ok36 x)) (k (.exit 6) (X36 fz ⟨va, vb, vc, vd, ve, vf⟩ pl ws (wantF ⟨va, vb, vc, vd, ve, vf⟩ (usInv ws) 0 (-1)))) none
  | _, _ => none

theorem sum36_ok : SumOK Try.prog (bodyX 36) sum36 := by
  refine SumOK.of (T := TX) (call := callD T ES F 10 10) (an := annX []) (lf := 10) (id := 36) (ls := [2, 4, 7, 9, 21]) (tok.dyn [64, 67, 71, 182]) (callOKS 10 10) mixed (SumsOK.in (l := []) (by kernel_rfl) (fun b hb => by cases hb)) ?_
  intro s k r h
  unfold sum36 at h
  split at h
  case h_2 => cases h
  case h_1 k' fz w i va vb vc vd ve vf kp pl kw ws =>
    obtain ⟨h0, g0⟩ := cond_none h
    obtain ⟨rfl, rfl, rfl, rfl, xs, rfl, hx, ho⟩ := pB_of h0
    rw [usInv_map] at g0
    exact ⟨xs.length + 1, (run36 fz ⟨va, vb, vc, vd, ve, vf⟩ pl xs hx ho k xs.length 0 (-1) (by omega)).trans g0⟩

def H50 (v : Sq) (pl : List (List PC)) (w hl hg kk : Int) (o : Ve) (g : Pg) (i : Int) : St := ⟨[(4, some (.v (.one (.ptr (4, 0) 0 0 false)))), (7, some (.v (.one (.whole (1000007, 2000))))), (21, some (.v (.one (.int .i64 w)))), (26, some (.v (.one (.ptr (26, 0) 0 0 false)))), (28, some (.v (.one (.ptr (28, 0) 0 0 false)))), (32, some (.v (.one (.int .i64 kk)))), (33, some (.v (.one (.ptr (33, 0) 0 0 false)))), (34, some (.v (.one (.int .i64 i))))],
  [((4, 0), some (.var v.us)), ((1000007, 2000), some (.arr true 9 (.sp Pg.ks pl))), ((26, 0), some (.var [.int .i64 hl, .int .i64 hg])), ((28, 0), some (.var o.cs)), ((33, 0), some (.var g.cs))], 324⟩
def X50 (v : Sq) (pl : List (List PC)) (w hl hg kk : Int) (o : Ve) (g : Pg) : St := ⟨[(4, some (.v (.one (.ptr (4, 0) 0 0 false)))), (7, some (.v (.one (.whole (1000007, 2000))))), (21, some (.v (.one (.int .i64 w)))), (26, some (.v (.one (.ptr (26, 0) 0 0 false)))), (28, some (.v (.one (.ptr (28, 0) 0 0 false)))), (32, some (.v (.one (.int .i64 kk)))), (33, some (.v (.one (.ptr (33, 0) 0 0 false))))],
  [((4, 0), some (.var v.us)), ((1000007, 2000), some (.arr true 9 (.sp Pg.ks pl))), ((26, 0), some (.var [.int .i64 hl, .int .i64 hg])), ((28, 0), some (.var o.cs)), ((33, 0), some (.var g.cs))], 324⟩

theorem step50 (v : Sq) (pl : List (List PC)) (w hl hg kk : Int) (o : Ve) (g : Pg) (i : Int) (G : St → Ans) (k : Ex → St → Ans) :
    evalC TX (callD T ES F 10 10) (annX []) 10 (bodyX 50) (H50 v pl w hl hg kk o g i) (fun e s' => match e with | .normal => atHead (annX []) 50 s' G | e => compact [4, 7, 21, 26, 28, 32, 33] s' (k e)) =
      (bif decide (i < (pl.length : Int)) then bif decide (0 ≤ i ∧ i < (pl.length : Int)) then bif rowIs Pg.ks pl i.toNat then bif readC (pgAt pl i.toNat) == 0 then
        bif (readV (pgAt pl i.toNat)).a == kk then bif decide (0 ≤ i ∧ i < (pl.length : Int)) then bif rowIs Pg.ks pl i.toNat then bif intCell pl i.toNat 0 != hl then bif decide (0 ≤ i ∧ i < (pl.length : Int)) then bif rowIs Pg.ks pl i.toNat then
          G (H50 v pl w hl hg kk o (pgAt pl i.toNat) (IntKind.wrap .i64 (i + 1))) else none else none else G (H50 v pl w hl hg kk o g (IntKind.wrap .i64 (i + 1))) else none else none else G (H50 v pl w hl hg kk o g (IntKind.wrap .i64 (i + 1))) else none else none else none
       else k (.exit 8) (X50 v pl w hl hg kk o g)) := by kernel_rfl

end Go.Proofs.Ytjbmpimclagfoaa
