/-
  RecordRound: a version that was written is read again, and its page keeps Line, Head, kind and generation.
-/
import Derived.Test.YtjbmpimclagfoaaLawK3
namespace Go.Proofs.Ytjbmpimclagfoaa
open Go.Eng Go.Sp Go.RowKit

def rroundT (p P : Pg) (v : Ve) (G : Int) : Option DRes :=
  bif writeC P v != 0 then bif writeC P v == 1 then bs (!veOK v) else bs false else bif readC (writeP P v) == 0 then bif veEq (readV (writeP P v)) v then bif (writeP P v).l == p.l then bif (writeP P v).h == p.h then
    bif tK (writeP P v).a == 1 then bs (tG (writeP P v).a == G) else bs false else bs false else bs false else bs false else bs false

theorem rroundT_true {p P : Pg} {v : Ve} {G : Int} (hP : P.ok) (hv : v.ok) (hk : tK P.a = 1) (hg : tG P.a = G) (hl : P.l = p.l) (hh : P.h = p.h) : rroundT p P v G = bs true := by
  unfold rroundT writeC writeP
  rw [hk]
  cases h : veOK v with
  | false => rfl
  | true =>
    simp only [Bool.not_true, bne_self_eq_false, cond_false]
    obtain ⟨h1, h2⟩ := fill_read hP hv h hk
    have ok := fillP_ok (v := v) hP hv
    obtain ⟨h3, h4⟩ := fill_gen (v := v) hP hk
    have e1 : (fillP P v).l = p.l := hl
    have e2 : (fillP P v).h = p.h := hh
    rw [readC_of ok, readV_of ok, h1, h2, h3, h4, hg, e1, e2]
    simp only [cond_true, veEq_self, beq_self_eq_true]

theorem rround_sem (p : Pg) (v : Ve) (n : Int) (hp : p.ok) (hv : v.ok) : FnSem Try.prog 18 [p.t, v.t, ri n] (.v (.one (.pc (.bool true)))) := by
  refine sem E11_ok (lf := 10) (depth := 10) ?_
  have h : ∀ (w : Ve) (G : Int), nearV v n = w → pick (IntKind.wrap .i64 (Int.tdiv n 3)) 16777216 = G → callD T E11 F 10 10 18 [p.t, v.t, ri n] some =
      rroundT p ⟨p.l, p.h, tagP 1 G (IntKind.wrap .u32 p.a), p.b, p.c, p.d, p.e, p.f, p.g⟩ w G := by
    intro w G h1 h2
    subst h1 h2
    kernel_rfl
  rw [h _ _ rfl rfl]
  have hG : 0 ≤ pick (IntKind.wrap .i64 (Int.tdiv n 3)) 16777216 ∧ pick (IntKind.wrap .i64 (Int.tdiv n 3)) 16777216 < 16777216 := by
    rw [pick_eq (by decide) (by decide)]; omega
  generalize pick (IntKind.wrap .i64 (Int.tdiv n 3)) 16777216 = G at hG
  have hx : rU32 (IntKind.wrap .u32 p.a) := rU32_wrap _
  generalize IntKind.wrap .u32 p.a = x at hx
  obtain ⟨x1, x2⟩ := hx
  have ht : tagP 1 G x = 1 + G * 256 + x * 4294967296 := by rw [tag_of _ _ x1 x2]; omega
  obtain ⟨t1, t2, _⟩ := t_of (t := 1 + G * 256 + x * 4294967296) (by omega) (by omega)
  rw [ht]
  exact rroundT_true ⟨hp.l, hp.h, ⟨by show 0 ≤ 1 + G * 256 + x * 4294967296; omega, by show 1 + G * 256 + x * 4294967296 ≤ _; omega⟩, hp.b, hp.c, hp.d, hp.e, hp.f, hp.g⟩ (nearV_ok hv n)
    (by show tK (1 + G * 256 + x * 4294967296) = 1; rw [t1]; omega) (by show tG (1 + G * 256 + x * 4294967296) = G; rw [t2]; omega) rfl rfl

-- the law
set_option maxRecDepth 100000 in
theorem rround_lifted (os : Os) (started : os.Started) (H : Type) (enc : TypeId × Value → H) :
    ReturnsInHanded {} Try.checked os 18 .any (Rows.recordRoundSpec.pre6 enc Try.prog Try.f18 Rows.recordRoundRow.domain false) (Rows.recordRoundSpec.post enc Try.prog Try.f18 false true false false) :=
  law_lifted (C := Try.checked) (s := Rows.recordRoundSpec) (conds := Rows.recordRoundRow.domain) (apart := false) (fresh := true) (handsOn := false) (again := false) own started (by kernel_rfl) Try.func18
    (ChangeSpec.witness6 (enc := enc) (C := Try.checked) false ⟨#[], #[.agg #[.int .i64 0, .int .u64 0, .int .u64 0, .int .u64 0, .int .u64 0, .int .u64 0, .int .u64 0, .int .u64 0, .int .u64 0], .agg #[.int .u32 0, .int .i64 0, .int .i64 0, .int .i64 0, .bool false, .int .u32 0, .int .u64 0, .int .i64 0, .int .i64 0], .int .i64 0], []⟩ 8 (by kernel_rfl) (by kernel_rfl) (by kernel_rfl) (by kernel_rfl))
    laid (fun t ht => List.all_eq_true.1 (show (Try.f18.params.toList.all fun t => argB Try.prog t) = true by kernel_rfl) t ht) (rt := 4) rfl und4 rfl
    (fun ds hds => by
      match ds, hds with
      | [_, _, _], _ => rfl)
    (fun l hl => by
      obtain ⟨d1, l1, rfl, h1, hl⟩ := all2_cons hl
      obtain ⟨d2, l2, rfl, h2, hl⟩ := all2_cons hl
      obtain ⟨d3, l3, rfl, h3, hl⟩ := all2_cons hl
      obtain rfl := all2_nil hl
      obtain ⟨p, rfl, hp⟩ := open_pg h1
      obtain ⟨v, rfl, hv⟩ := open_ve h2
      obtain ⟨n, rfl, _⟩ := h3.int und3
      exact rround_sem p v n hp hv
)

theorem rround_law : Rows.RecordRoundSaid :=
  OpenClaim.holds_of_wide 18 Try.f18 rfl rfl rfl rfl rfl rfl rfl ⟨rfl, rfl, rfl, rfl, rfl⟩ rfl rfl rfl rfl rfl (by kernel_rfl) Try.func18 (by kernel_rfl)
    (of_decide_eq_true (by kernel_rfl)) (by unfold Func.isWrapper; first | (rw [if_pos (by decide +kernel)]; kernel_rfl) | (rw [if_neg (by decide +kernel)]; exact ⟨rfl, rfl⟩))
    (fun os started H enc _ => rround_lifted os started H enc)

end Go.Proofs.Ytjbmpimclagfoaa
