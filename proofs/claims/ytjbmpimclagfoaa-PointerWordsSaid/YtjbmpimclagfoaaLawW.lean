/-
  PointerWords: how pointers and tags are packed and unpacked, for all numbers.
-/
import Derived.Test.YtjbmpimclagfoaaSp4
import Derived.Test.YtjbmpimclagfoaaLawK
namespace Go.Proofs.Ytjbmpimclagfoaa
open Go.Eng Go.Sp Go.RowKit

theorem words_sem (l g k w t : Int) (n : Bool) (x : Int) (hw : 0 ≤ w ∧ w ≤ 4294967295) (ht : 0 ≤ t ∧ t ≤ 18446744073709551615) (hx : 0 ≤ x ∧ x ≤ 4294967295) :
    FnSem Try.prog 8 [.agg [.pc (.int .i64 l), .pc (.int .i64 g), .pc (.int .i64 k), .pc (.int .u32 w), .pc (.int .u64 t), .pc (.bool n)], .one (.pc (.int .u32 x))] (.v (.one (.pc (.bool true)))) := by
  refine sem E3_ok (lf := 10) (depth := 10) ?_
  have h : ∀ L G K : Int, nearL n l = L → nearG n g = G → nearK n k = K → callD T E3 F 10 10 8 [.agg [.pc (.int .i64 l), .pc (.int .i64 g), .pc (.int .i64 k), .pc (.int .u32 w), .pc (.int .u64 t), .pc (.bool n)], .one (.pc (.int .u32 x))] some =
      (bif !(validP L G == validP L G) then bs false else bif packP L G != packP L G then bs false
       else bif !(bif L == L then bif genP t == rGen t then true else false else false) then bs false else bif !(lockP t == rlockP t) then bs false
       else bif (bif unL w == runL w then bif unG w == runG w then true else false else false) then bif tK t == IntKind.wrap .i64 (Int.tmod t 256) then bif tG t == rGen t then bif tX t == IntKind.wrap .u32 (Int.fdiv t (2 ^ 32)) then bs (tagP K G x == rTag K G x)
         else bs false else bs false else bs false else bs false) := by
    intro L G K hL hG hK
    subst hL hG hK
    kernel_rfl
  rw [h _ _ _ rfl rfl rfl]
  generalize nearL n l = L
  generalize nearG n g = G
  generalize nearK n k = K
  have a1 : genP t = rGen t := by rw [gen_of ht.1 ht.2, rgen_of ht.1 ht.2]
  have a2 : lockP t = rlockP t := by rw [(lock_of ht.1 ht.2).1, (lock_of ht.1 ht.2).2]
  have a3 : unL w = runL w := by rw [(un_of hw.1 hw.2).1, (run_of hw.1 hw.2).1]
  have a4 : unG w = runG w := by rw [(un_of hw.1 hw.2).2, (run_of hw.1 hw.2).2]
  have a5 : tK t = IntKind.wrap .i64 (Int.tmod t 256) := by rw [(t_of ht.1 ht.2).1, tmod_pos ht.1, i64_in (by omega) (by omega)]
  have a6 : tG t = rGen t := by rw [(t_of ht.1 ht.2).2.1, rgen_of ht.1 ht.2]
  have a7 : tX t = IntKind.wrap .u32 (Int.fdiv t (2 ^ 32)) := rfl
  have a8 : tagP K G x = rTag K G x := by rw [tag_of K G hx.1 hx.2, rtag_of K G hx.1 hx.2]
  rw [a1, a2, a3, a4, a5, a6, a7, a8]
  simp
  rfl

set_option maxRecDepth 100000 in
theorem words_lifted (os : Os) (started : os.Started) (H : Type) (enc : TypeId × Value → H) :
    ReturnsInHanded {} Try.checked os 8 .any (Rows.pointerWordsSpec.pre6 enc Try.prog Try.f8 Rows.pointerWordsRow.domain false) (Rows.pointerWordsSpec.post enc Try.prog Try.f8 false true false false) :=
  law_lifted (C := Try.checked) (s := Rows.pointerWordsSpec) (conds := Rows.pointerWordsRow.domain) (apart := false) (fresh := true) (handsOn := false) (again := false) own started (by kernel_rfl) Try.func8
    (ChangeSpec.witness6 (enc := enc) (C := Try.checked) false ⟨#[], #[.agg #[.int .i64 0, .int .i64 0, .int .i64 0, .int .u32 0, .int .u64 0, .bool false], .int .u32 0], []⟩ 8 (by kernel_rfl) (by kernel_rfl) (by kernel_rfl) (by kernel_rfl))
    laid (fun t ht => List.all_eq_true.1 (show (Try.f8.params.toList.all fun t => argB Try.prog t) = true by kernel_rfl) t ht) (rt := 4) rfl und4 rfl
    (fun ds hds => by
      match ds, hds with
      | [_, _], _ => rfl)
    (fun l hl => by
      obtain ⟨d1, l1, rfl, h1, hl⟩ := all2_cons hl
      obtain ⟨d2, l2, rfl, h2, hl⟩ := all2_cons hl
      obtain rfl := all2_nil hl
      obtain ⟨l, g, k, w, t, n, rfl, _, _, _, hw, ht⟩ := open_num h1
      obtain ⟨x, rfl, hx⟩ := h2.int und48
      exact words_sem l g k w t n x (wf_u32 hw) (wf_u64 ht) (wf_u32 hx)
)

theorem words_law : Rows.PointerWordsSaid :=
  OpenClaim.holds_of_wide 8 Try.f8 rfl rfl rfl rfl rfl rfl rfl ⟨rfl, rfl, rfl, rfl, rfl⟩ rfl rfl rfl rfl rfl (by kernel_rfl) Try.func8 (by kernel_rfl)
    (of_decide_eq_true (by kernel_rfl)) (by unfold Func.isWrapper; first | (rw [if_pos (by decide +kernel)]; kernel_rfl) | (rw [if_neg (by decide +kernel)]; exact ⟨rfl, rfl⟩))
    (fun os started H enc _ => words_lifted os started H enc)

end Go.Proofs.Ytjbmpimclagfoaa
