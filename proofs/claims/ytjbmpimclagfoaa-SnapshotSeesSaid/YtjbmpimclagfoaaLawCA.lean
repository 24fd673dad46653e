/-
  RecordChain: the loop that makes the versions.
-/
import Derived.Test.YtjbmpimclagfoaaSp16
namespace Go.Proofs.Ytjbmpimclagfoaa
open Go.Eng Go.Sp

def k3 : List (Option IntKind) := [some .i64, some .i64, some .i64]

def H7 (cs ds pl ws : List (List PC)) (k i : Int) : St := ⟨[(1, some (.v (.one (.whole (1, 1000))))), (2, some (.v (.one (.whole (2, 1000))))), (7, some (.v (.one (.int .u32 k)))), (8, some (.v (.one (.whole (1000008, 2000))))), (9, some (.v (.one (.whole (1000009, 2000))))), (10, some (.v (.one (.int .i64 i))))],
  [((1, 1000), some (.arr false 3 (.sp k3 cs))), ((2, 1000), some (.arr false 1 (.sp [none] ds))), ((1000008, 2000), some (.arr true 9 (.sp Pg.ks pl))), ((1000009, 2000), some (.arr true 9 (.sp Ve.ks ws)))], 201⟩
def H7n (cs ds : List (List PC)) (k i : Int) : St := ⟨[(1, some (.v (.one (.whole (1, 1000))))), (2, some (.v (.one (.whole (2, 1000))))), (7, some (.v (.one (.int .u32 k)))), (8, some (.v (.one (.whole (1000008, 2000))))), (9, some (.v (.one .nils))), (10, some (.v (.one (.int .i64 i))))],
  [((1, 1000), some (.arr false 3 (.sp k3 cs))), ((2, 1000), some (.arr false 1 (.sp [none] ds))), ((1000008, 2000), some (.arr true 9 (.lit [])))], 201⟩
def X7 (pl ws : List (List PC)) : St := ⟨[(8, some (.v (.one (.whole (1000008, 2000))))), (9, some (.v (.one (.whole (1000009, 2000)))))], [((1000008, 2000), some (.arr true 9 (.sp Pg.ks pl))), ((1000009, 2000), some (.arr true 9 (.sp Ve.ks ws)))], 201⟩

noncomputable def body7 : Code := bodyL 7 Try.f7
noncomputable def an7 : Ann := annP 7 [] [7]

/-- The head's page. -/
def hd7 (p : Pg) : Pg := ⟨105, 256, p.a, p.b, p.c, p.d, p.e, p.f, p.g⟩
def free7 (i : Int) : Pg := ⟨IntKind.wrap .i64 (105 + i), 256, 0, 0, 0, 0, 0, 0, 0⟩
def verD (k i : Int) : Ve := ⟨k, 0, 0, 0, true, IntKind.wrap .u32 i, stamp (Int.tmod i 6) (IntKind.wrap .i64 (i + 1)), 0, 0⟩
def verL (cs : List (List PC)) (k i : Int) : Ve := ⟨k, intCell cs i.toNat 0, intCell cs i.toNat 1, intCell cs i.toNat 2, false, 0, stamp (Int.tmod i 6) (IntKind.wrap .i64 (i + 1)), 0, 0⟩

def chk7 (ps ws : List (List PC)) (A : Pg) (i : Int) (v : Ve) (G : List (List PC) → List (List PC) → Ans) : Ans :=
  bif decide ((1 + ws.length) * 64 ≤ 140737488355328) then
    bif i == 0 then bif writeC (allocO (free7 i) 1 0) v == 0 then bif decide ((ps.length + 1 + 1) * 72 ≤ 140737488355328) then G ((hd7 A).row :: (ps ++ [(fillO (allocO (free7 i) 1 0) v).row])) (v.row :: ws) else none else none
    else bif decide ((0 : Int) ≤ 0 ∧ (0 : Int) < ((ps.length + 1 : Nat) : Int)) then bif replOK (hd7 A) (allocO (free7 i) 1 0) v then
      bif decide ((0 : Int) ≤ 0 ∧ (0 : Int) < ((ps.length + 1 : Nat) : Int)) then bif decide ((0 : Int) ≤ 0 ∧ (0 : Int) < ((ps.length + 1 : Nat) : Int)) then bif decide ((0 : Int) ≤ 0 ∧ (0 : Int) < ((ps.length + 1 : Nat) : Int)) then
      bif IntKind.wrap .i64 (105 + i) == 105 then bif decide ((0 : Int) ≤ 0 ∧ (0 : Int) < ((ps.length + 1 : Nat) : Int)) then G ((fillO (allocO (free7 i) 1 0) (readV (hd7 A))).row :: ps) (v.row :: ws) else none
      else bif decide ((ps.length + 1 + 1) * 72 ≤ 140737488355328) then G ((fillO (hd7 A) (newV (allocO (free7 i) 1 0) v)).row :: (ps ++ [(fillO (allocO (free7 i) 1 0) (readV (hd7 A))).row])) (v.row :: ws) else none
      else none else none else none else none else none
  else none

/-- Which version is made. -/
def pick7 (cs ds : List (List PC)) (k i : Int) (f : Ve → Ans) : Ans :=
  bif decide (0 ≤ i ∧ i < (cs.length : Int)) then bif rowIs k3 cs i.toNat then
    bif decide (i < (ds.length : Int)) then bif decide (0 ≤ i ∧ i < (ds.length : Int)) then bif rowIs [none] ds i.toNat then bif boolCell ds i.toNat 0 then f (verD k i) else f (verL cs k i) else none else none else f (verL cs k i)
  else none else none

theorem step7 (cs ds ps ws : List (List PC)) (A : Pg) (k0 i : Int) (G : St → Ans) (k : Ex → St → Ans) :
    evalC ⟨T.l, []⟩ (callD T EO14 F 10 10) an7 10 body7 (H7 cs ds ((hd7 A).row :: ps) ws k0 i) (fun e s' => match e with | .normal => atHead an7 7 s' G | e => compact [8, 9] s' (k e)) =
      (bif decide (i < (cs.length : Int)) then bif allocC (free7 i) 1 == 0 then pick7 cs ds k0 i fun v => chk7 ps ws A i v fun pl ws' => G (H7 cs ds pl ws' k0 (IntKind.wrap .i64 (i + 1))) else none
       else k (.exit 0) (X7 ((hd7 A).row :: ps) ws)) := by kernel_rfl

theorem step7n (cs ds : List (List PC)) (k0 : Int) (G : St → Ans) (k : Ex → St → Ans) :
    evalC ⟨T.l, []⟩ (callD T EO14 F 10 10) an7 10 body7 (H7n cs ds k0 0) (fun e s' => match e with | .normal => atHead an7 7 s' G | e => compact [8, 9] s' (k e)) =
      (bif decide ((0 : Int) < (cs.length : Int)) then bif allocC (free7 0) 1 == 0 then pick7 cs ds k0 0 fun v => bif writeC (allocO (free7 0) 1 0) v == 0 then G (H7 cs ds [(fillO (allocO (free7 0) 1 0) v).row] [v.row] k0 (IntKind.wrap .i64 (0 + 1))) else none else none
       else k (.exit 0) ⟨[(8, some (.v (.one (.whole (1000008, 2000))))), (9, some (.v (.one .nils)))], [((1000008, 2000), some (.arr true 9 (.lit [])))], 201⟩) := by kernel_rfl

end Go.Proofs.Ytjbmpimclagfoaa
