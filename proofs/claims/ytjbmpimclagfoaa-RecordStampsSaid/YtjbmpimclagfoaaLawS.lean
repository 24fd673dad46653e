/-
  RecordStamps: the stamps of all transactions, and what other numbers are.
-/
import Derived.Test.YtjbmpimclagfoaaSp2
import Derived.Test.YtjbmpimclagfoaaEngL
import Derived.Test.YtjbmpimclagfoaaRows
namespace Go.Proofs.Ytjbmpimclagfoaa
open Go.Eng Go.Sp Go.RowKit

/-- A boolean, handed back. -/
def bs (b : Bool) : Option DRes := some (.v (.one (.pc (.bool b))))

/-- What the law's last line answers. -/
def stampsEnd (c s y : Int) : Option DRes := bif stamp c s == stamp c s then bif orgC y == refC y then bif orgS y == refS y then bs (orgO y == refO y) else bs false else bs false else bs false

theorem stampsEnd_true {c s y : Int} (h1 : 0 ≤ y) (h2 : y ≤ 18446744073709551615) : stampsEnd c s y = bs true := by
  unfold stampsEnd
  rw [refO_of h1 h2, refC_of h1 h2, refS_of h1 h2]
  simp

def nearStamp (x : Int) : Int := IntKind.wrap .u64 (IntKind.wrap .u64 (pick (IntKind.wrap .i64 (Int.tmod x 9)) 9) + IntKind.wrap .u64 (256 * intAt [0, 1, 1073741823, 1073741824, 1099511627776, 72057594037927935] (Int.toNat (Int.tmod (IntKind.wrap .u64 (Int.tdiv x 9)) 6))))

theorem stamps_sem (c s x : Int) (cl : Bool) (h1 : 0 ≤ x) (h2 : x ≤ 18446744073709551615) : FnSem Try.prog 3 [.one (.pc (.int .i64 c)), .one (.pc (.int .i64 s)), .one (.pc (.int .u64 x)), .one (.pc (.bool cl))] (.v (.one (.pc (.bool true)))) := by
  refine sem (E := [(20, pickS), (24, stampS), (21, originS), (25, rstampS), (22, roriginS)]) (EnvOK.cons pickS_ok (EnvOK.cons stampS_ok (EnvOK.cons originS_ok (EnvOK.cons rstampS_ok (EnvOK.cons roriginS_ok (EnvOK.nil _)))))) (lf := 10) (depth := 10) ?_
  have h : callD T [(20, pickS), (24, stampS), (21, originS), (25, rstampS), (22, roriginS)] F 10 10 3 [.one (.pc (.int .i64 c)), .one (.pc (.int .i64 s)), .one (.pc (.int .u64 x)), .one (.pc (.bool cl))] some =
      (bif cl then
        bif decide (0 ≤ pick s 6 ∧ pick s 6 < ((6 : Nat) : Int)) then bif Nat.blt (Int.toNat (pick s 6)) 6 then
        bif decide (0 ≤ Int.tmod (IntKind.wrap .u64 (Int.tdiv x 9)) 6 ∧ Int.tmod (IntKind.wrap .u64 (Int.tdiv x 9)) 6 < ((6 : Nat) : Int)) then bif Nat.blt (Int.toNat (Int.tmod (IntKind.wrap .u64 (Int.tdiv x 9)) 6)) 6 then
          stampsEnd (IntKind.wrap .i64 (pick c 9 - 1)) (intAt [0, 1, 2, 1073741823, 1073741824, (-1)] (Int.toNat (pick s 6))) (nearStamp x)
        else none else none else none else none
      else stampsEnd c s x) := by kernel_rfl
  rw [h]
  refine bif_elim (fun _ => ?_) fun _ => stampsEnd_true h1 h2
  have hp : pick s 6 = s % 6 := pick_eq (by decide) (by decide)
  have hq : Int.tmod (IntKind.wrap .u64 (Int.tdiv x 9)) 6 = x / 9 % 6 := by rw [tdiv_pos h1, u64_in (by omega) (by omega), tmod_pos (by omega)]
  rw [hp, hq, decide_eq_true (by omega), decide_eq_true (by omega), blt_iff.2 (by omega), blt_iff.2 (by omega)]
  simp only [cond_true]
  refine stampsEnd_true ?_ ?_ <;> unfold nearStamp <;> rw [IntKind.wrap_u64] <;> omega

theorem und3 : Try.prog.underlying 3 = some (.int .i64) := by kernel_rfl
theorem und4 : Try.prog.underlying 4 = some .bool := by kernel_rfl
theorem und22 : Try.prog.underlying 22 = some (.int .u64) := by kernel_rfl
theorem own : ownKnob Try.prog.godebug = none := by kernel_rfl
theorem laid : laidOutB Try.prog = true := by kernel_rfl

set_option maxRecDepth 100000 in
theorem stamps_lifted (os : Os) (started : os.Started) (H : Type) (enc : TypeId × Value → H) :
    ReturnsInHanded {} Try.checked os 3 .any (Rows.recordStampsSpec.pre6 enc Try.prog Try.f3 Rows.recordStampsRow.domain false) (Rows.recordStampsSpec.post enc Try.prog Try.f3 false true false false) :=
  law_lifted (C := Try.checked) (s := Rows.recordStampsSpec) (conds := Rows.recordStampsRow.domain) (apart := false) (fresh := true) (handsOn := false) (again := false) own started (by kernel_rfl) Try.func3
    (ChangeSpec.witness6 (enc := enc) (C := Try.checked) false ⟨#[], #[.int .i64 0, .int .i64 0, .int .u64 0, .bool false], []⟩ 8 (by kernel_rfl) (by kernel_rfl) (by kernel_rfl) (by kernel_rfl))
    laid (fun t ht => List.all_eq_true.1 (show (Try.f3.params.toList.all fun t => argB Try.prog t) = true by kernel_rfl) t ht) (rt := 4) rfl und4 rfl
    (fun ds hds => by
      match ds, hds with
      | [_, _, _, _], _ => rfl)
    (fun l hl => by
      obtain ⟨d1, l1, rfl, h1, hl⟩ := all2_cons hl
      obtain ⟨d2, l2, rfl, h2, hl⟩ := all2_cons hl
      obtain ⟨d3, l3, rfl, h3, hl⟩ := all2_cons hl
      obtain ⟨d4, l4, rfl, h4, hl⟩ := all2_cons hl
      obtain rfl := all2_nil hl
      obtain ⟨c, rfl, _⟩ := h1.int und3
      obtain ⟨s, rfl, _⟩ := h2.int und3
      obtain ⟨x, rfl, w⟩ := h3.int und22
      obtain ⟨b, rfl⟩ := h4.bool und4
      exact stamps_sem c s x b (wf_u64 w).1 (wf_u64 w).2)

theorem stamps_law : Rows.RecordStampsSaid :=
  OpenClaim.holds_of_wide 3 Try.f3 rfl rfl rfl rfl rfl rfl rfl ⟨rfl, rfl, rfl, rfl, rfl⟩ rfl rfl rfl rfl rfl (by kernel_rfl) Try.func3 (by kernel_rfl)
    (of_decide_eq_true (by kernel_rfl)) (by unfold Func.isWrapper; first | (rw [if_pos (by decide +kernel)]; kernel_rfl) | (rw [if_neg (by decide +kernel)]; exact ⟨rfl, rfl⟩))
    (fun os started H enc _ => stamps_lifted os started H enc)

end Go.Proofs.Ytjbmpimclagfoaa
