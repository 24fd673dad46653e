/-
  PointerRaw: what is found at any pointer in any list of pages, and the order of the errors.
-/
import Derived.Test.YtjbmpimclagfoaaSp8
import Derived.Test.YtjbmpimclagfoaaLawK2
namespace Go.Proofs.Ytjbmpimclagfoaa
open Go.Eng Go.Sp Go.RowKit

theorem raw_sem (ps : List Pg) (hps : ∀ p ∈ ps, p.ok) (line g k : Int) : FnSem Try.prog 14 [.one (.sl 9 (.sp Pg.ks (ps.map Pg.row))), rp line g, ri k] (.v (.one (.pc (.bool true)))) := by
  refine sem E6_ok (lf := 10) (depth := 10) ?_
  have h : ∀ l : List (List PC), callD T E6 F 10 10 14 [.one (.sl 9 (.sp Pg.ks l)), rp line g, ri k] some =
      (bif decide ((l.length : Int) > 30) then bs true else bif pgsOK l then bif pgsOK l then bif !pgEq (lookP false (pgsOf l) line g k) (rlookP false (pgsOf l) line g k) then bs false else
        bif !(lookB false (pgsOf l) line g k == rlookB false (pgsOf l) line g k) then bs false else bif lookC false (pgsOf l) line g k != rlookC false (pgsOf l) line g k then bs false else
        bif pgsOK l then bif pgsOK l then bif pgEq (lookP true (pgsOf l) line g k) (rlookP true (pgsOf l) line g k) then bif lookB true (pgsOf l) line g k == rlookB true (pgsOf l) line g k then
          bs (lookC true (pgsOf l) line g k == rlookC true (pgsOf l) line g k) else bs false else bs false else none else none else none else none) := fun l => by kernel_rfl
  rw [h]
  refine bif_elim (fun _ => rfl) fun hl => ?_
  have hl := of_decide_eq_false hl
  rw [List.length_map] at hl
  rw [pgsOK_map (by omega), pgsOf_map, rlookP_of hps, rlookB_of hps, rlookC_of hps, rlookP_of hps, rlookB_of hps, rlookC_of hps, pgEq_self, pgEq_self]
  simp
  rfl

set_option maxRecDepth 100000 in
theorem raw_lifted (os : Os) (started : os.Started) (H : Type) (enc : TypeId × Value → H) :
    ReturnsInHanded {} Try.checked os 14 .any (Rows.pointerRawSpec.pre6 enc Try.prog Try.f14 Rows.pointerRawRow.domain false) (Rows.pointerRawSpec.post enc Try.prog Try.f14 false true false false) :=
  law_lifted (C := Try.checked) (s := Rows.pointerRawSpec) (conds := Rows.pointerRawRow.domain) (apart := false) (fresh := true) (handsOn := false) (again := false) own started (by kernel_rfl) Try.func14
    (ChangeSpec.witness6 (enc := enc) (C := Try.checked) false ⟨#[], #[.slice none 0 0, .agg #[.int .i64 0, .int .i64 0], .int .i64 0], []⟩ 8 (by kernel_rfl) (by kernel_rfl) (by kernel_rfl) (by kernel_rfl))
    laid (fun t ht => List.all_eq_true.1 (show (Try.f14.params.toList.all fun t => argB Try.prog t) = true by kernel_rfl) t ht) (rt := 4) rfl und4 rfl
    (fun ds hds => by
      match ds, hds with
      | [_, _, _], _ => rfl)
    (fun l hl => by
      obtain ⟨d1, l1, rfl, h1, hl⟩ := all2_cons hl
      obtain ⟨d2, l2, rfl, h2, hl⟩ := all2_cons hl
      obtain ⟨d3, l3, rfl, h3, hl⟩ := all2_cons hl
      obtain rfl := all2_nil hl
      obtain ⟨E, ps, rfl, he, hps⟩ := open_pgs h1
      obtain ⟨x, y, rfl, _⟩ := open_ptr h2
      obtain ⟨k, rfl, _⟩ := h3.int und3
      exact (raw_sem ps hps x y k).same (list_arg he _)
)

theorem raw_law : Rows.PointerRawSaid :=
  OpenClaim.holds_of_wide 14 Try.f14 rfl rfl rfl rfl rfl rfl rfl ⟨rfl, rfl, rfl, rfl, rfl⟩ rfl rfl rfl rfl rfl (by kernel_rfl) Try.func14 (by kernel_rfl)
    (of_decide_eq_true (by kernel_rfl)) (by unfold Func.isWrapper; first | (rw [if_pos (by decide +kernel)]; kernel_rfl) | (rw [if_neg (by decide +kernel)]; exact ⟨rfl, rfl⟩))
    (fun os started H enc _ => raw_lifted os started H enc)

end Go.Proofs.Ytjbmpimclagfoaa
