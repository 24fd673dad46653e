/-
  PointerRound: packing is the inverse of unpacking for exactly the valid pointers, and tags survive both.
-/
import Derived.Test.YtjbmpimclagfoaaSp4
import Derived.Test.YtjbmpimclagfoaaLawK
namespace Go.Proofs.Ytjbmpimclagfoaa
open Go.Eng Go.Sp Go.RowKit

def roundEnd (L G y : Int) : Option DRes := bif validP L G then bif !(bif unL (packP L G) == L then bif unG (packP L G) == G then true else false else false) then bs false else bif packP L G == 0 then bs false else bs (tagP (tK y) (tG y) (tX y) == y)
  else bs (tagP (tK y) (tG y) (tX y) == y)

theorem roundEnd_true (L G : Int) {y : Int} (hy : 0 ≤ y ∧ y ≤ 18446744073709551615) : roundEnd L G y = bs true := by
  have hE : (tagP (tK y) (tG y) (tX y) == y) = true := by
    obtain ⟨h1, h2, h3⟩ := t_of hy.1 hy.2
    rw [h1, h2, h3, tag_of _ _ (by omega) (by omega)]
    simp
    omega
  unfold roundEnd
  rw [hE]
  refine bif_elim (fun hv => ?_) fun _ => rfl
  have hp : packP L G = G * 256 + L := by unfold packP; rw [hv, cond_true]
  have hv := of_decide_eq_true hv
  obtain ⟨h1, h2⟩ := un_of (w := G * 256 + L) (by omega) (by omega)
  have e1 : (unL (packP L G) == L) = true := by rw [hp, h1]; simp; omega
  have e2 : (unG (packP L G) == G) = true := by rw [hp, h2]; simp; omega
  have e3 : (packP L G == 0) = false := by rw [hp]; simp; omega
  rw [e1, e2, e3]
  rfl

theorem round_sem (x y l g k w t : Int) (n : Bool) (hx : 0 ≤ x ∧ x ≤ 4294967295) (hy : 0 ≤ y ∧ y ≤ 18446744073709551615) :
    FnSem Try.prog 10 [.one (.pc (.int .u32 x)), .one (.pc (.int .u64 y)), .agg [.pc (.int .i64 l), .pc (.int .i64 g), .pc (.int .i64 k), .pc (.int .u32 w), .pc (.int .u64 t), .pc (.bool n)]] (.v (.one (.pc (.bool true)))) := by
  refine sem E3_ok (lf := 10) (depth := 10) ?_
  have h : callD T E3 F 10 10 10 [.one (.pc (.int .u32 x)), .one (.pc (.int .u64 y)), .agg [.pc (.int .i64 l), .pc (.int .i64 g), .pc (.int .i64 k), .pc (.int .u32 w), .pc (.int .u64 t), .pc (.bool n)]] some =
      (bif packP (unL x) (unG x) == x then bif !(validP (unL x) (unG x) == (x != 0)) then bs false else roundEnd (nearL n l) (nearG n g) y
       else bif !(validP (unL x) (unG x) == false) then bs false else roundEnd (nearL n l) (nearG n g) y) := by kernel_rfl
  rw [h, roundEnd_true _ _ hy]
  obtain ⟨h1, h2⟩ := un_of hx.1 hx.2
  rw [h1, h2]
  cases hv : validP (x % 256) (x / 256) with
  | true =>
    have hp : packP (x % 256) (x / 256) = x / 256 * 256 + x % 256 := by unfold packP; rw [hv, cond_true]
    have hv := of_decide_eq_true hv
    have e1 : (packP (x % 256) (x / 256) == x) = true := by rw [hp]; simp; omega
    have e2 : (x != 0) = true := by simp; omega
    rw [e1, e2]
    rfl
  | false =>
    have hp : packP (x % 256) (x / 256) = 0 := by unfold packP; rw [hv, cond_false]
    rw [hp]
    refine bif_elim (fun e => ?_) fun _ => rfl
    have e := eq_of_beq e
    subst e
    rfl

set_option maxRecDepth 100000 in
theorem round_lifted (os : Os) (started : os.Started) (H : Type) (enc : TypeId × Value → H) :
    ReturnsInHanded {} Try.checked os 10 .any (Rows.pointerRoundSpec.pre6 enc Try.prog Try.f10 Rows.pointerRoundRow.domain false) (Rows.pointerRoundSpec.post enc Try.prog Try.f10 false true false false) :=
  law_lifted (C := Try.checked) (s := Rows.pointerRoundSpec) (conds := Rows.pointerRoundRow.domain) (apart := false) (fresh := true) (handsOn := false) (again := false) own started (by kernel_rfl) Try.func10
    (ChangeSpec.witness6 (enc := enc) (C := Try.checked) false ⟨#[], #[.int .u32 0, .int .u64 0, .agg #[.int .i64 0, .int .i64 0, .int .i64 0, .int .u32 0, .int .u64 0, .bool false]], []⟩ 8 (by kernel_rfl) (by kernel_rfl) (by kernel_rfl) (by kernel_rfl))
    laid (fun t ht => List.all_eq_true.1 (show (Try.f10.params.toList.all fun t => argB Try.prog t) = true by kernel_rfl) t ht) (rt := 4) rfl und4 rfl
    (fun ds hds => by
      match ds, hds with
      | [_, _, _], _ => rfl)
    (fun l hl => by
      obtain ⟨d1, l1, rfl, h1, hl⟩ := all2_cons hl
      obtain ⟨d2, l2, rfl, h2, hl⟩ := all2_cons hl
      obtain ⟨d3, l3, rfl, h3, hl⟩ := all2_cons hl
      obtain rfl := all2_nil hl
      obtain ⟨x, rfl, hx⟩ := h1.int und48
      obtain ⟨y, rfl, hy⟩ := h2.int und22
      obtain ⟨l, g, k, w, t, n, rfl, _⟩ := open_num h3
      exact round_sem x y l g k w t n (wf_u32 hx) (wf_u64 hy)
)

theorem round_law : Rows.PointerRoundSaid :=
  OpenClaim.holds_of_wide 10 Try.f10 rfl rfl rfl rfl rfl rfl rfl ⟨rfl, rfl, rfl, rfl, rfl⟩ rfl rfl rfl rfl rfl (by kernel_rfl) Try.func10 (by kernel_rfl)
    (of_decide_eq_true (by kernel_rfl)) (by unfold Func.isWrapper; first | (rw [if_pos (by decide +kernel)]; kernel_rfl) | (rw [if_neg (by decide +kernel)]; exact ⟨rfl, rfl⟩))
    (fun os started H enc _ => round_lifted os started H enc)

end Go.Proofs.Ytjbmpimclagfoaa
