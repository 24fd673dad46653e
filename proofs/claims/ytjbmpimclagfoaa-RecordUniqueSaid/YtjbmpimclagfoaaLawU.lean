/-
  RecordUnique: different transactions have different stamps, and stamps lead back to them.
-/
import Derived.Test.YtjbmpimclagfoaaSp1
import Derived.Test.YtjbmpimclagfoaaEngL
import Derived.Test.YtjbmpimclagfoaaRows
namespace Go.Proofs.Ytjbmpimclagfoaa
open Go.Eng Go.Sp Go.RowKit

/-- A boolean, handed back. -/
def bb (b : Bool) : Option DRes := some (.v (.one (.pc (.bool b))))

theorem unique_sem (a b s t : Int) : FnSem Try.prog 4 [.one (.pc (.int .i64 a)), .one (.pc (.int .i64 b)), .one (.pc (.int .i64 s)), .one (.pc (.int .i64 t))] (.v (.one (.pc (.bool true)))) := by
  refine sem (E := [(20, pickS), (24, stampS), (21, originS)]) (EnvOK.cons pickS_ok (EnvOK.cons stampS_ok (EnvOK.cons originS_ok (EnvOK.nil _)))) (lf := 10) (depth := 10) ?_
  have h : ∀ x y u v : Int, x = pick a 6 → y = pick b 6 → u = IntKind.wrap .i64 (pick s 1073741823 + 1) → v = IntKind.wrap .i64 (pick t 1073741823 + 1) →
      callD T [(20, pickS), (24, stampS), (21, originS)] F 10 10 4 [.one (.pc (.int .i64 a)), .one (.pc (.int .i64 b)), .one (.pc (.int .i64 s)), .one (.pc (.int .i64 t))] some =
      (bif stamp x u != 0 then bif stamp y v != 0 then bif x == y then
          bif (stamp x u == stamp y v) == (u == v) then bif orgO (stamp x u) then bif orgC (stamp x u) == x then bif orgS (stamp x u) == u then bif x != y then bb true else bb (decide (stamp x u < stamp y v) == decide (u < v)) else bb false else bb false else bb false else bb false
        else bif (stamp x u == stamp y v) == false then bif orgO (stamp x u) then bif orgC (stamp x u) == x then bif orgS (stamp x u) == u then bif x != y then bb true else bb (decide (stamp x u < stamp y v) == decide (u < v)) else bb false else bb false else bb false else bb false
        else bb false else bb false) := by
    intro x y u v hx hy hu hv
    subst hx hy hu hv
    kernel_rfl
  have pa : pick a 6 = a % 6 := pick_eq (by decide) (by decide)
  have pb : pick b 6 = b % 6 := pick_eq (by decide) (by decide)
  have ps : pick s 1073741823 = s % 1073741823 := pick_eq (by decide) (by decide)
  have pt : pick t 1073741823 = t % 1073741823 := pick_eq (by decide) (by decide)
  have hs : IntKind.wrap .i64 (pick s 1073741823 + 1) = s % 1073741823 + 1 := by rw [ps, i64_in (by omega) (by omega)]
  have ht : IntKind.wrap .i64 (pick t 1073741823 + 1) = t % 1073741823 + 1 := by rw [pt, i64_in (by omega) (by omega)]
  have := h (a % 6) (b % 6) (s % 1073741823 + 1) (t % 1073741823 + 1) pa.symm pb.symm hs.symm ht.symm
  rw [this]
  clear this h hs ht pa pb ps pt
  generalize hx : a % 6 = x
  generalize hy : b % 6 = y
  generalize hu : s % 1073741823 + 1 = u
  generalize hv : t % 1073741823 + 1 = v
  rw [stamp_of (by omega) (by omega) (by omega) (by omega), stamp_of (by omega) (by omega) (by omega) (by omega)]
  have ho := orgO_of (n := u * 256 + (x + 1)) (by omega) (by omega)
  rw [decide_eq_true (by omega)] at ho
  obtain ⟨oc, os⟩ := org_of (n := u * 256 + (x + 1)) (by omega) (by omega)
  have hc : orgC (u * 256 + (x + 1)) = x := by unfold orgC; rw [ho, cond_true, oc]; omega
  have hs : orgS (u * 256 + (x + 1)) = u := by unfold orgS; rw [ho, cond_true, os]; omega
  rw [ho, hc, hs]
  have n1 : (u * 256 + (x + 1) != 0) = true := by simp; omega
  have n2 : (v * 256 + (y + 1) != 0) = true := by simp; omega
  rw [n1, n2]
  simp only [cond_true, beq_self_eq_true]
  refine bif_elim (fun e => ?_) fun e => ?_
  · have e := eq_of_beq e
    subst e
    have n3 : ((u * 256 + (x + 1) == v * 256 + (x + 1)) == (u == v)) = true := by
      by_cases huv : u = v
      · subst huv; simp
      · have : ¬ (u * 256 + (x + 1) = v * 256 + (x + 1)) := by omega
        rw [beq_eq_false_iff_ne.2 huv, beq_eq_false_iff_ne.2 this]; rfl
    have n4 : (decide (u * 256 + (x + 1) < v * 256 + (x + 1)) == decide (u < v)) = true := by
      by_cases huv : u < v
      · rw [decide_eq_true huv, decide_eq_true (by omega)]; rfl
      · rw [decide_eq_false huv, decide_eq_false (by omega)]; rfl
    have n5 : (x != x) = false := by simp
    rw [n3, n5, n4]
    rfl
  · have e' : ¬ x = y := by simpa using e
    have n3 : ((u * 256 + (x + 1) == v * 256 + (y + 1)) == false) = true := by
      have : ¬ (u * 256 + (x + 1) = v * 256 + (y + 1)) := by omega
      simp [this]
    have n5 : (x != y) = true := by simpa using e'
    rw [n3, n5]
    rfl

theorem und3 : Try.prog.underlying 3 = some (.int .i64) := by kernel_rfl
theorem und4 : Try.prog.underlying 4 = some .bool := by kernel_rfl
theorem own : ownKnob Try.prog.godebug = none := by kernel_rfl
theorem laid : laidOutB Try.prog = true := by kernel_rfl

set_option maxRecDepth 100000 in
theorem unique_lifted (os : Os) (started : os.Started) (H : Type) (enc : TypeId × Value → H) :
    ReturnsInHanded {} Try.checked os 4 .any (Rows.recordUniqueSpec.pre6 enc Try.prog Try.f4 Rows.recordUniqueRow.domain false) (Rows.recordUniqueSpec.post enc Try.prog Try.f4 false true false false) :=
  law_lifted (C := Try.checked) (s := Rows.recordUniqueSpec) (conds := Rows.recordUniqueRow.domain) (apart := false) (fresh := true) (handsOn := false) (again := false) own started (by kernel_rfl) Try.func4
    (ChangeSpec.witness6 (enc := enc) (C := Try.checked) false ⟨#[], #[.int .i64 0, .int .i64 0, .int .i64 0, .int .i64 0], []⟩ 8 (by kernel_rfl) (by kernel_rfl) (by kernel_rfl) (by kernel_rfl))
    laid (fun t ht => List.all_eq_true.1 (show (Try.f4.params.toList.all fun t => argB Try.prog t) = true by kernel_rfl) t ht) (rt := 4) rfl und4 rfl
    (fun ds hds => by
      match ds, hds with
      | [_, _, _, _], _ => rfl)
    (fun l hl => by
      obtain ⟨d1, l1, rfl, h1, hl⟩ := all2_cons hl
      obtain ⟨d2, l2, rfl, h2, hl⟩ := all2_cons hl
      obtain ⟨d3, l3, rfl, h3, hl⟩ := all2_cons hl
      obtain ⟨d4, l4, rfl, h4, hl⟩ := all2_cons hl
      obtain rfl := all2_nil hl
      obtain ⟨a, rfl, _⟩ := h1.int und3
      obtain ⟨b, rfl, _⟩ := h2.int und3
      obtain ⟨s, rfl, _⟩ := h3.int und3
      obtain ⟨t, rfl, _⟩ := h4.int und3
      exact unique_sem a b s t)

theorem unique_law : Rows.RecordUniqueSaid :=
  OpenClaim.holds_of_wide 4 Try.f4 rfl rfl rfl rfl rfl rfl rfl ⟨rfl, rfl, rfl, rfl, rfl⟩ rfl rfl rfl rfl rfl (by kernel_rfl) Try.func4 (by kernel_rfl)
    (of_decide_eq_true (by kernel_rfl)) (by unfold Func.isWrapper; first | (rw [if_pos (by decide +kernel)]; kernel_rfl) | (rw [if_neg (by decide +kernel)]; exact ⟨rfl, rfl⟩))
    (fun os started H enc _ => unique_lifted os started H enc)

end Go.Proofs.Ytjbmpimclagfoaa
