/-
  SnapshotSees: the loop that makes the versions, one round.
-/
import Derived.Test.YtjbmpimclagfoaaSp18
import Derived.Test.YtjbmpimclagfoaaLawCB
namespace Go.Sp
open Go.Eng

/-- One number for each client. -/
structure Sq where
  a : Int
  b : Int
  c : Int
  d : Int
  e : Int
  f : Int

def Sq.cs (s : Sq) : List Cell := [.int .i64 s.a, .int .i64 s.b, .int .i64 s.c, .int .i64 s.d, .int .i64 s.e, .int .i64 s.f]
def Sq.us (s : Sq) : List Cell := [.int .u64 s.a, .int .u64 s.b, .int .u64 s.c, .int .u64 s.d, .int .u64 s.e, .int .u64 s.f]
def Sq.l (s : Sq) : List Int := [s.a, s.b, s.c, s.d, s.e, s.f]
def Sq.zero : Sq := ⟨0, 0, 0, 0, 0, 0⟩
def sget (s : Sq) (c : Int) : Int := intAt s.l (c.toNat * 1 + 0)
def sinc (s : Sq) (c : Int) : Sq :=
  ⟨bif Nat.beq (c.toNat * 1 + 0) 0 then IntKind.wrap .i64 (sget s c + 1) else s.a, bif Nat.beq (c.toNat * 1 + 0) 1 then IntKind.wrap .i64 (sget s c + 1) else s.b, bif Nat.beq (c.toNat * 1 + 0) 2 then IntKind.wrap .i64 (sget s c + 1) else s.c,
   bif Nat.beq (c.toNat * 1 + 0) 3 then IntKind.wrap .i64 (sget s c + 1) else s.d, bif Nat.beq (c.toNat * 1 + 0) 4 then IntKind.wrap .i64 (sget s c + 1) else s.e, bif Nat.beq (c.toNat * 1 + 0) 5 then IntKind.wrap .i64 (sget s c + 1) else s.f⟩
def us (x : Int) : List PC := [.int .u64 x]

end Go.Sp
namespace Go.Proofs.Ytjbmpimclagfoaa
open Go.Eng Go.Sp

noncomputable def annX (sums : List (Nat × (St → (Ex → St → Ans) → Ans))) : Ann := { annOf 9 with sums := sums, sps := [7], dyn := [64, 67, 71, 182] }
def TX : TT := ⟨T.l, [64, 67, 71, 182]⟩
noncomputable def bodyX (id : Nat) : Code := bodyL id Try.f9

def H9 (cl : List (List PC)) (fz : Int) (v : Sq) (pl : List (List PC)) (S : Sq) (ws : List (List PC)) (i : Int) : St := ⟨[(0, some (.v (.one (.whole (0, 1000))))), (2, some (.v (.one (.int .i64 fz)))), (4, some (.v (.one (.ptr (4, 0) 0 0 false)))), (7, some (.v (.one (.whole (1000007, 2000))))), (8, some (.v (.one (.ptr (8, 0) 0 0 false)))), (9, some (.v (.one (.whole (1000009, 2000))))), (10, some (.v (.one (.int .i64 i))))],
  [((0, 1000), some (.arr false 1 (.sp [some .i64] cl))), ((4, 0), some (.var v.us)), ((1000007, 2000), some (.arr true 9 (.sp Pg.ks pl))), ((8, 0), some (.var S.cs)), ((1000009, 2000), some (.arr true 1 (.sp [some .u64] ws)))], 324⟩
def H9n (cl : List (List PC)) (fz : Int) (v : Sq) (S : Sq) (i : Int) : St := ⟨[(0, some (.v (.one (.whole (0, 1000))))), (2, some (.v (.one (.int .i64 fz)))), (4, some (.v (.one (.ptr (4, 0) 0 0 false)))), (7, some (.v (.one .nils))), (8, some (.v (.one (.ptr (8, 0) 0 0 false)))), (9, some (.v (.one .nils))), (10, some (.v (.one (.int .i64 i))))],
  [((0, 1000), some (.arr false 1 (.sp [some .i64] cl))), ((4, 0), some (.var v.us)), ((8, 0), some (.var S.cs))], 324⟩

def ver9 (i st : Int) : Ve := ⟨9, i, 0, 0, false, 0, st, 0, 0⟩
def cl9 (cl : List (List PC)) (i : Int) : Int := pick (intCell cl i.toNat 0) 6
def st9 (S : Sq) (c : Int) : Int := stamp c (sget (sinc S c) c)

def chk9 (ps ws : List (List PC)) (A : Pg) (i st : Int) (G : List (List PC) → Ans) : Ans :=
  bif decide ((ws.length + 1) * 8 ≤ 140737488355328) then bif allocC (free7 i) 1 == 0 then bif decide (0 ≤ i ∧ i < ((ws ++ [us st]).length : Int)) then bif rowIs [some .u64] (ws ++ [us st]) i.toNat then
    bif i == 0 then bif writeC (allocO (free7 i) 1 0) (ver9 i (intCell (ws ++ [us st]) i.toNat 0)) == 0 then bif decide ((ps.length + 1 + 1) * 72 ≤ 140737488355328) then G ((hd7 A).row :: (ps ++ [(fillO (allocO (free7 i) 1 0) (ver9 i (intCell (ws ++ [us st]) i.toNat 0))).row])) else none else none
    else bif decide ((0 : Int) ≤ 0 ∧ (0 : Int) < ((ps.length + 1 : Nat) : Int)) then bif replOK (hd7 A) (allocO (free7 i) 1 0) (ver9 i (intCell (ws ++ [us st]) i.toNat 0)) then bif decide ((ps.length + 1 + 2) * 72 ≤ 140737488355328) then
      bif decide ((0 : Int) ≤ 0 ∧ (0 : Int) < (((ps ++ [(fillO (hd7 A) (newV (allocO (free7 i) 1 0) (ver9 i (intCell (ws ++ [us st]) i.toNat 0)))).row, (fillO (allocO (free7 i) 1 0) (readV (hd7 A))).row]).length + 1 : Nat) : Int)) then
      bif decide ((0 : Int) ≤ 0 ∧ (0 : Int) < (((ps ++ [(fillO (hd7 A) (newV (allocO (free7 i) 1 0) (ver9 i (intCell (ws ++ [us st]) i.toNat 0)))).row, (fillO (allocO (free7 i) 1 0) (readV (hd7 A))).row]).length + 1 : Nat) : Int)) then
      bif decide ((0 : Int) ≤ 0 ∧ (0 : Int) < (((ps ++ [(fillO (hd7 A) (newV (allocO (free7 i) 1 0) (ver9 i (intCell (ws ++ [us st]) i.toNat 0)))).row, (fillO (allocO (free7 i) 1 0) (readV (hd7 A))).row]).length + 1 : Nat) : Int)) then
      bif IntKind.wrap .i64 (105 + i) == 105 then bif decide ((0 : Int) ≤ 0 ∧ (0 : Int) < (((ps ++ [(fillO (hd7 A) (newV (allocO (free7 i) 1 0) (ver9 i (intCell (ws ++ [us st]) i.toNat 0)))).row, (fillO (allocO (free7 i) 1 0) (readV (hd7 A))).row]).length + 1 : Nat) : Int)) then
        G ((fillO (allocO (free7 i) 1 0) (readV (hd7 A))).row :: (ps ++ [(fillO (hd7 A) (newV (allocO (free7 i) 1 0) (ver9 i (intCell (ws ++ [us st]) i.toNat 0)))).row, (fillO (allocO (free7 i) 1 0) (readV (hd7 A))).row])) else none
      else G ((fillO (hd7 A) (newV (allocO (free7 i) 1 0) (ver9 i (intCell (ws ++ [us st]) i.toNat 0)))).row :: (ps ++ [(fillO (hd7 A) (newV (allocO (free7 i) 1 0) (ver9 i (intCell (ws ++ [us st]) i.toNat 0)))).row, (fillO (allocO (free7 i) 1 0) (readV (hd7 A))).row]))
      else none else none else none else none else none else none
  else none else none else none else none

def cli9 (cl : List (List PC)) (i : Int) (G : Ans) : Ans :=
  bif decide (0 ≤ i ∧ i < (cl.length : Int)) then bif rowIs [some .i64] cl i.toNat then
    bif decide (0 ≤ cl9 cl i ∧ cl9 cl i < ((6 : Nat) : Int)) then bif Nat.blt ((cl9 cl i).toNat * 1 + 0) 6 then bif decide (0 ≤ cl9 cl i ∧ cl9 cl i < ((6 : Nat) : Int)) then bif Nat.blt ((cl9 cl i).toNat * 1 + 0) 6 then
    bif decide (0 ≤ cl9 cl i ∧ cl9 cl i < ((6 : Nat) : Int)) then bif Nat.blt ((cl9 cl i).toNat * 1 + 0) 6 then G else none else none else none else none else none else none else none else none

theorem step9 (cl : List (List PC)) (fz : Int) (v : Sq) (ps : List (List PC)) (A : Pg) (S : Sq) (ws : List (List PC)) (i : Int) (G : St → Ans) (k : Ex → St → Ans) :
    evalC TX (callD T ES F 10 10) (annX []) 10 (bodyX 7) (H9 cl fz v ((hd7 A).row :: ps) S ws i) (fun e s' => match e with | .normal => atHead (annX []) 7 s' G | e => compact [0, 2, 4, 7, 8, 9, 10] s' (k e)) =
      (bif decide (i < (cl.length : Int)) then cli9 cl i (chk9 ps ws A i (st9 S (cl9 cl i)) fun pl => G (H9 cl fz v pl (sinc S (cl9 cl i)) (ws ++ [us (st9 S (cl9 cl i))]) (IntKind.wrap .i64 (i + 1))))
       else k (.exit 0) (H9 cl fz v ((hd7 A).row :: ps) S ws i)) := by kernel_rfl

theorem step9n (cl : List (List PC)) (fz : Int) (v : Sq) (S : Sq) (G : St → Ans) (k : Ex → St → Ans) :
    evalC TX (callD T ES F 10 10) (annX []) 10 (bodyX 7) (H9n cl fz v S 0) (fun e s' => match e with | .normal => atHead (annX []) 7 s' G | e => compact [0, 2, 4, 7, 8, 9, 10] s' (k e)) =
      (bif decide ((0 : Int) < (cl.length : Int)) then cli9 cl 0 (bif allocC (free7 0) 1 == 0 then bif writeC (allocO (free7 0) 1 0) (ver9 0 (st9 S (cl9 cl 0))) == 0 then
          G (H9 cl fz v [(fillO (allocO (free7 0) 1 0) (ver9 0 (st9 S (cl9 cl 0)))).row] (sinc S (cl9 cl 0)) [us (st9 S (cl9 cl 0))] (IntKind.wrap .i64 (0 + 1))) else none else none)
       else k (.exit 0) (H9n cl fz v S 0)) := by kernel_rfl

end Go.Proofs.Ytjbmpimclagfoaa
