/-
  law19.near: numbers near the limits.
-/
import Derived.Test.YtjbmpimclagfoaaSp3
namespace Go.Sp

def nearL (n : Bool) (l : Int) : Int := bif n then IntKind.wrap .i64 (pick l 270 - 5) else l
def nearG (n : Bool) (g : Int) : Int := bif n then Go.Eng.intAt [-1, 0, 1, 2, 16777214, 16777215, 16777216] (Int.toNat (pick g 7)) else g
def nearK (n : Bool) (k : Int) : Int := bif n then IntKind.wrap .i64 (pick k 7 - 1) else k

end Go.Sp

namespace Go.Proofs.Ytjbmpimclagfoaa
open Go.Eng Go.Sp

def numR (l g k w t : Int) (n : Bool) : Option DRes := some (.v (.agg [.pc (.int .i64 l), .pc (.int .i64 g), .pc (.int .i64 k), .pc (.int .u32 w), .pc (.int .u64 t), .pc (.bool n)]))

theorem near_sem (l g k w t : Int) (n : Bool) : FnSem Try.prog 40 [.agg [.pc (.int .i64 l), .pc (.int .i64 g), .pc (.int .i64 k), .pc (.int .u32 w), .pc (.int .u64 t), .pc (.bool n)]]
    (.v (.agg [.pc (.int .i64 (nearL n l)), .pc (.int .i64 (nearG n g)), .pc (.int .i64 (nearK n k)), .pc (.int .u32 w), .pc (.int .u64 t), .pc (.bool n)])) := by
  refine sem (E := [(20, tot pickS)]) (EnvOK.cons pickS_ok (EnvOK.nil _)) (lf := 10) (depth := 10) ?_
  have h : callD T [(20, tot pickS)] F 10 10 40 [.agg [.pc (.int .i64 l), .pc (.int .i64 g), .pc (.int .i64 k), .pc (.int .u32 w), .pc (.int .u64 t), .pc (.bool n)]] some =
      (bif n then bif decide (0 ≤ pick g 7 ∧ pick g 7 < ((7 : Nat) : Int)) then bif Nat.blt (Int.toNat (pick g 7)) 7 then
        numR (IntKind.wrap .i64 (pick l 270 - 5)) (intAt [-1, 0, 1, 2, 16777214, 16777215, 16777216] (Int.toNat (pick g 7))) (IntKind.wrap .i64 (pick k 7 - 1)) w t n else none else none
      else numR l g k w t n) := by kernel_rfl
  rw [h]
  cases n with
  | false => rfl
  | true =>
    have hp : pick g 7 = g % 7 := pick_eq (by decide) (by decide)
    have h1 : decide (0 ≤ pick g 7 ∧ pick g 7 < ((7 : Nat) : Int)) = true := decide_eq_true (by rw [hp]; omega)
    have h2 : Nat.blt (Int.toNat (pick g 7)) 7 = true := blt_iff.2 (by rw [hp]; omega)
    rw [h1, h2]
    rfl

def nearS : List D1 → Option DRes
  | [.agg [.pc (.int .i64 l), .pc (.int .i64 g), .pc (.int .i64 k), .pc (.int .u32 w), .pc (.int .u64 t), .pc (.bool n)]] =>
    some (.v (.agg [.pc (.int .i64 (nearL n l)), .pc (.int .i64 (nearG n g)), .pc (.int .i64 (nearK n k)), .pc (.int .u32 w), .pc (.int .u64 t), .pc (.bool n)]))
  | _ => none

theorem nearS_ok : ∀ l d, nearS l = some d → FnSem Try.prog 40 l d := fun l d h => by
  unfold nearS at h
  split at h
  · simp only [Option.some.injEq] at h; subst h; exact near_sem _ _ _ _ _ _
  · cases h

/-- What package pointer's functions on words answer. -/
def E3 : Env := [(20, tot pickS), (40, tot nearS), (45, tot validS), (46, tot validS), (48, tot packS), (49, tot packS), (44, tot awakeS), (41, tot unpS), (53, tot runpS), (42, tot untS), (43, tot pktS), (55, tot rtagS), (37, tot atS), (50, tot ratS), (54, tot rgenS), (51, tot lockS), (52, tot rlockS)]

theorem E3_ok : EnvOK Try.prog E3 :=
  .cons pickS_ok (.cons nearS_ok (.cons validS_ok (.cons rvalidS_ok (.cons packS_ok (.cons rpackS_ok (.cons awake19S_ok (.cons unpS_ok (.cons runpS_ok (.cons untS_ok (.cons pktS_ok (.cons rtagS_ok (.cons atS_ok (.cons ratS_ok (.cons rgenS_ok (.cons lockS_ok (.cons rlockS_ok (.nil _)))))))))))))))))

end Go.Proofs.Ytjbmpimclagfoaa
