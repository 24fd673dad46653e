/-
  PointerAllocates: what allocating and releasing make of any page, and their errors.
-/
import Derived.Test.YtjbmpimclagfoaaLawK2
namespace Go.Proofs.Ytjbmpimclagfoaa
open Go.Eng Go.Sp Go.RowKit

def allocEnd (p : Pg) (k x : Int) : Option DRes :=
  bif pgEq (allocP p k x) (rallocP p k x) then bif allocC p k == rallocC p k then bif pgEq (relP p) (rrelP p) then bs (relC p == rrelC p) else bs false else bs false else bs false

theorem allocEnd_true {p : Pg} (hp : p.ok) (k : Int) {x : Int} (hx : rU32 x) : allocEnd p k x = bs true := by
  unfold allocEnd
  rw [rallocP_of hp k hx, rallocC_of hp, rrelP_of hp, rrelC_of hp, pgEq_self, pgEq_self]
  simp

theorem wrap_rU64 (n : Int) : rU64 (IntKind.wrap .u64 n) := by unfold rU64; rw [IntKind.wrap_u64]; omega
theorem wrap_rI64 (n : Int) : rI64 (IntKind.wrap .i64 n) := by unfold rI64; rw [IntKind.wrap_i64]; omega

theorem allocates_sem (p : Pg) (hp : p.ok) (l' g' k' w t x : Int) (n : Bool) (hx : rU32 x) :
    FnSem Try.prog 12 [p.t, .agg [.pc (.int .i64 l'), .pc (.int .i64 g'), .pc (.int .i64 k'), .pc (.int .u32 w), .pc (.int .u64 t), .pc (.bool n)], ru32 x] (.v (.one (.pc (.bool true)))) := by
  refine sem E4_ok (lf := 10) (depth := 10) ?_
  have h : callD T E4 F 10 10 12 [p.t, .agg [.pc (.int .i64 l'), .pc (.int .i64 g'), .pc (.int .i64 k'), .pc (.int .u32 w), .pc (.int .u64 t), .pc (.bool n)], ru32 x] some =
      (bif n then allocEnd ⟨nearL n l', IntKind.wrap .u64 (IntKind.wrap .u64 (pick (IntKind.wrap .i64 (Int.tmod p.h 1000)) 9) * 128), IntKind.wrap .u64 (IntKind.wrap .u64 (pick (IntKind.wrap .i64 (Int.tmod p.a 6)) 6) + rTag 0 (nearG n g') (IntKind.wrap .u32 t)), p.b, p.c, p.d, p.e, p.f, p.g⟩ (nearK n k') x
       else allocEnd p (nearK n k') x) := by kernel_rfl
  rw [h]
  refine bif_elim (fun hn => allocEnd_true ?_ _ hx) (fun _ => allocEnd_true hp _ hx)
  exact ⟨by rw [hn]; exact wrap_rI64 _, wrap_rU64 _, wrap_rU64 _, hp.b, hp.c, hp.d, hp.e, hp.f, hp.g⟩

set_option maxRecDepth 100000 in
theorem allocates_lifted (os : Os) (started : os.Started) (H : Type) (enc : TypeId × Value → H) :
    ReturnsInHanded {} Try.checked os 12 .any (Rows.pointerAllocatesSpec.pre6 enc Try.prog Try.f12 Rows.pointerAllocatesRow.domain false) (Rows.pointerAllocatesSpec.post enc Try.prog Try.f12 false true false false) :=
  law_lifted (C := Try.checked) (s := Rows.pointerAllocatesSpec) (conds := Rows.pointerAllocatesRow.domain) (apart := false) (fresh := true) (handsOn := false) (again := false) own started (by kernel_rfl) Try.func12
    (ChangeSpec.witness6 (enc := enc) (C := Try.checked) false ⟨#[], #[.agg #[.int .i64 0, .int .u64 0, .int .u64 0, .int .u64 0, .int .u64 0, .int .u64 0, .int .u64 0, .int .u64 0, .int .u64 0], .agg #[.int .i64 0, .int .i64 0, .int .i64 0, .int .u32 0, .int .u64 0, .bool false], .int .u32 0], []⟩ 8 (by kernel_rfl) (by kernel_rfl) (by kernel_rfl) (by kernel_rfl))
    laid (fun t ht => List.all_eq_true.1 (show (Try.f12.params.toList.all fun t => argB Try.prog t) = true by kernel_rfl) t ht) (rt := 4) rfl und4 rfl
    (fun ds hds => by
      match ds, hds with
      | [_, _, _], _ => rfl)
    (fun l hl => by
      obtain ⟨d1, l1, rfl, h1, hl⟩ := all2_cons hl
      obtain ⟨d2, l2, rfl, h2, hl⟩ := all2_cons hl
      obtain ⟨d3, l3, rfl, h3, hl⟩ := all2_cons hl
      obtain rfl := all2_nil hl
      obtain ⟨p, rfl, hp⟩ := open_pg h1
      obtain ⟨l, g, k, w, t, n, rfl, _⟩ := open_num h2
      obtain ⟨x, rfl, hx⟩ := h3.int und48
      exact allocates_sem p hp l g k w t x n (wf_u32 hx)
)

theorem allocates_law : Rows.PointerAllocatesSaid :=
  OpenClaim.holds_of_wide 12 Try.f12 rfl rfl rfl rfl rfl rfl rfl ⟨rfl, rfl, rfl, rfl, rfl⟩ rfl rfl rfl rfl rfl (by kernel_rfl) Try.func12 (by kernel_rfl)
    (of_decide_eq_true (by kernel_rfl)) (by unfold Func.isWrapper; first | (rw [if_pos (by decide +kernel)]; kernel_rfl) | (rw [if_neg (by decide +kernel)]; exact ⟨rfl, rfl⟩))
    (fun os started H enc _ => allocates_lifted os started H enc)

end Go.Proofs.Ytjbmpimclagfoaa
