/-
  RecordReplaces: the two pages of a replacement, and its errors, for all pages.
-/
import Derived.Test.YtjbmpimclagfoaaSp15
import Derived.Test.YtjbmpimclagfoaaLawK3
namespace Go.Proofs.Ytjbmpimclagfoaa
open Go.Eng Go.Sp Go.RowKit

def replEnd (h c : Pg) (v : Ve) : Option DRes :=
  bif replC h c v == rreplC h c v then bif samesOK ((replL h c v).map Pg.row) ((rreplL h c v).map Pg.row) then bs true else none else bs false

theorem replEnd_true {h c : Pg} {v : Ve} (hh : h.ok) (hc : c.ok) (hv : v.ok) : replEnd h c v = bs true := by
  have := replL_len h c v
  unfold replEnd
  rw [rreplC_of hh hc hv, rreplL_of hh hc hv, samesOK_map (by omega), beq_self_eq_true]
  rfl

def replSw (h c : Pg) (v : Ve) (k : Int) : Option DRes :=
  bif k == 2 then replEnd ⟨h.l, IntKind.wrap .u64 (h.h + 1), h.a, h.b, h.c, h.d, h.e, h.f, h.g⟩ c v else
  bif k == 3 then replEnd h ⟨c.l, IntKind.wrap .u64 (c.h + 1), c.a, c.b, c.c, c.d, c.e, c.f, c.g⟩ v else
  bif k == 4 then replEnd h ⟨h.l, c.h, c.a, c.b, c.c, c.d, c.e, c.f, c.g⟩ v else
  bif k == 5 then replEnd h c ⟨IntKind.wrap .u32 (v.k + 1), v.a, v.b, v.c, v.d, v.e, v.s, v.l, v.g⟩ else
  bif k == 6 then replEnd h ⟨c.l, c.h, IntKind.wrap .u64 (c.a + 1), c.b, c.c, c.d, c.e, c.f, c.g⟩ v else replEnd h c v

theorem replSw_true {h c : Pg} {v : Ve} (hh : h.ok) (hc : c.ok) (hv : v.ok) (k : Int) : replSw h c v k = bs true := by
  unfold replSw
  refine bif_elim (fun _ => replEnd_true ?_ hc hv) fun _ => bif_elim (fun _ => replEnd_true hh ?_ hv) fun _ => bif_elim (fun _ => replEnd_true hh ?_ hv) fun _ => bif_elim (fun _ => replEnd_true hh hc ?_) fun _ => bif_elim (fun _ => replEnd_true hh ?_ hv) fun _ => replEnd_true hh hc hv
  · exact ⟨hh.l, rU64_wrap' _, hh.a, hh.b, hh.c, hh.d, hh.e, hh.f, hh.g⟩
  · exact ⟨hc.l, rU64_wrap' _, hc.a, hc.b, hc.c, hc.d, hc.e, hc.f, hc.g⟩
  · exact ⟨hh.l, hc.h, hc.a, hc.b, hc.c, hc.d, hc.e, hc.f, hc.g⟩
  · exact ⟨rU32_wrap _, hv.a, hv.b, hv.c, hv.e, hv.s, hv.l, hv.g⟩
  · exact ⟨hc.l, hc.h, rU64_wrap' _, hc.b, hc.c, hc.d, hc.e, hc.f, hc.g⟩

theorem writeP_ok' {p : Pg} {v : Ve} (hp : p.ok) (hv : v.ok) : (writeP p v).ok := by
  unfold writeP
  cases veOK v
  · exact zero_ok
  · cases tK p.a != 1
    · exact fillP_ok hp hv
    · exact zero_ok

theorem replaces_sem (h c : Pg) (o v : Ve) (n : Int) (hh : h.ok) (hc : c.ok) (ho : o.ok) (hv : v.ok) : FnSem Try.prog 19 [h.t, c.t, o.t, v.t, ri n] (.v (.one (.pc (.bool true)))) := by
  refine sem E13_ok (lf := 10) (depth := 10) ?_
  have e : ∀ (O V : Ve) (K : Int) (H C : Pg), nearV o n = O → nearV v (IntKind.wrap .i64 (Int.tdiv n 3)) = V → pick (IntKind.wrap .i64 (Int.tdiv n 9)) 12 = K →
      (⟨IntKind.wrap .i64 (104 + pick h.l 20), IntKind.wrap .u64 (IntKind.wrap .u64 (Int.tdiv h.h 256) * 256), IntKind.wrap .u64 (1 + IntKind.wrap .u64 (Int.tmod h.a 9 * 256)), h.b, h.c, h.d, h.e, h.f, h.g⟩ : Pg) = H →
      (⟨IntKind.wrap .i64 (103 + pick c.l 21), IntKind.wrap .u64 (IntKind.wrap .u64 (Int.tdiv c.h 256) * 256), IntKind.wrap .u64 (1 + IntKind.wrap .u64 (Int.tmod c.a 9 * 256)), c.b, c.c, c.d, c.e, c.f, c.g⟩ : Pg) = C →
      callD T E13 F 10 10 19 [h.t, c.t, o.t, v.t, ri n] some =
      (bif decide (K > 0) then bif writeC H O == 0 then replSw (writeP H O) C ⟨O.k, V.a, V.b, V.c, V.d, V.e, V.s, V.l, V.g⟩ K else replSw H C ⟨O.k, V.a, V.b, V.c, V.d, V.e, V.s, V.l, V.g⟩ K else replSw h c V K) := by
    intro O V K H C h1 h2 h3 h4 h5
    subst h1 h2 h3 h4 h5
    kernel_rfl
  rw [e _ _ _ _ _ rfl rfl rfl rfl rfl]
  have hO := nearV_ok ho n
  have hV := nearV_ok hv (IntKind.wrap .i64 (Int.tdiv n 3))
  have hH : Pg.ok ⟨IntKind.wrap .i64 (104 + pick h.l 20), IntKind.wrap .u64 (IntKind.wrap .u64 (Int.tdiv h.h 256) * 256), IntKind.wrap .u64 (1 + IntKind.wrap .u64 (Int.tmod h.a 9 * 256)), h.b, h.c, h.d, h.e, h.f, h.g⟩ := ⟨rI64_wrap' _, rU64_wrap' _, rU64_wrap' _, hh.b, hh.c, hh.d, hh.e, hh.f, hh.g⟩
  have hC : Pg.ok ⟨IntKind.wrap .i64 (103 + pick c.l 21), IntKind.wrap .u64 (IntKind.wrap .u64 (Int.tdiv c.h 256) * 256), IntKind.wrap .u64 (1 + IntKind.wrap .u64 (Int.tmod c.a 9 * 256)), c.b, c.c, c.d, c.e, c.f, c.g⟩ := ⟨rI64_wrap' _, rU64_wrap' _, rU64_wrap' _, hc.b, hc.c, hc.d, hc.e, hc.f, hc.g⟩
  have hV2 : Ve.ok ⟨(nearV o n).k, (nearV v (IntKind.wrap .i64 (Int.tdiv n 3))).a, (nearV v (IntKind.wrap .i64 (Int.tdiv n 3))).b, (nearV v (IntKind.wrap .i64 (Int.tdiv n 3))).c, (nearV v (IntKind.wrap .i64 (Int.tdiv n 3))).d, (nearV v (IntKind.wrap .i64 (Int.tdiv n 3))).e, (nearV v (IntKind.wrap .i64 (Int.tdiv n 3))).s, (nearV v (IntKind.wrap .i64 (Int.tdiv n 3))).l, (nearV v (IntKind.wrap .i64 (Int.tdiv n 3))).g⟩ :=
    ⟨hO.k, hV.a, hV.b, hV.c, hV.e, hV.s, hV.l, hV.g⟩
  exact bif_elim (fun _ => bif_elim (fun _ => replSw_true (writeP_ok' hH hO) hC hV2 _) (fun _ => replSw_true hH hC hV2 _)) (fun _ => replSw_true hh hc hV _)

-- the law
set_option maxRecDepth 100000 in
theorem replaces_lifted (os : Os) (started : os.Started) (H : Type) (enc : TypeId × Value → H) :
    ReturnsInHanded {} Try.checked os 19 .any (Rows.recordReplacesSpec.pre6 enc Try.prog Try.f19 Rows.recordReplacesRow.domain false) (Rows.recordReplacesSpec.post enc Try.prog Try.f19 false true false false) :=
  law_lifted (C := Try.checked) (s := Rows.recordReplacesSpec) (conds := Rows.recordReplacesRow.domain) (apart := false) (fresh := true) (handsOn := false) (again := false) own started (by kernel_rfl) Try.func19
    (ChangeSpec.witness6 (enc := enc) (C := Try.checked) false ⟨#[], #[.agg #[.int .i64 0, .int .u64 0, .int .u64 0, .int .u64 0, .int .u64 0, .int .u64 0, .int .u64 0, .int .u64 0, .int .u64 0], .agg #[.int .i64 0, .int .u64 0, .int .u64 0, .int .u64 0, .int .u64 0, .int .u64 0, .int .u64 0, .int .u64 0, .int .u64 0], .agg #[.int .u32 0, .int .i64 0, .int .i64 0, .int .i64 0, .bool false, .int .u32 0, .int .u64 0, .int .i64 0, .int .i64 0], .agg #[.int .u32 0, .int .i64 0, .int .i64 0, .int .i64 0, .bool false, .int .u32 0, .int .u64 0, .int .i64 0, .int .i64 0], .int .i64 0], []⟩ 8 (by kernel_rfl) (by kernel_rfl) (by kernel_rfl) (by kernel_rfl))
    laid (fun t ht => List.all_eq_true.1 (show (Try.f19.params.toList.all fun t => argB Try.prog t) = true by kernel_rfl) t ht) (rt := 4) rfl und4 rfl
    (fun ds hds => by
      match ds, hds with
      | [_, _, _, _, _], _ => rfl)
    (fun l hl => by
      obtain ⟨d1, l1, rfl, h1, hl⟩ := all2_cons hl
      obtain ⟨d2, l2, rfl, h2, hl⟩ := all2_cons hl
      obtain ⟨d3, l3, rfl, h3, hl⟩ := all2_cons hl
      obtain ⟨d4, l4, rfl, h4, hl⟩ := all2_cons hl
      obtain ⟨d5, l5, rfl, h5, hl⟩ := all2_cons hl
      obtain rfl := all2_nil hl
      obtain ⟨h, rfl, hh⟩ := open_pg h1
      obtain ⟨c, rfl, hc⟩ := open_pg h2
      obtain ⟨o, rfl, ho⟩ := open_ve h3
      obtain ⟨v, rfl, hv⟩ := open_ve h4
      obtain ⟨n, rfl, _⟩ := h5.int und3
      exact replaces_sem h c o v n hh hc ho hv
)

theorem replaces_law : Rows.RecordReplacesSaid :=
  OpenClaim.holds_of_wide 19 Try.f19 rfl rfl rfl rfl rfl rfl rfl ⟨rfl, rfl, rfl, rfl, rfl⟩ rfl rfl rfl rfl rfl (by kernel_rfl) Try.func19 (by kernel_rfl)
    (of_decide_eq_true (by kernel_rfl)) (by unfold Func.isWrapper; first | (rw [if_pos (by decide +kernel)]; kernel_rfl) | (rw [if_neg (by decide +kernel)]; exact ⟨rfl, rfl⟩))
    (fun os started H enc _ => replaces_lifted os started H enc)

end Go.Proofs.Ytjbmpimclagfoaa
