/-
  PointerLocked: a locked page is never opened, allocated or released, but may be peeked at.
-/
import Derived.Test.YtjbmpimclagfoaaSp8
import Derived.Test.YtjbmpimclagfoaaLawK2
namespace Go.Proofs.Ytjbmpimclagfoaa
open Go.Eng Go.Sp Go.RowKit

theorem flat115 : flat Try.prog 6 115 = some [some .i64, some .i64, some .i64, some .i64, some .i64, some .i64] := by kernel_rfl
theorem agg115 : aggT Try.prog 115 = true := by kernel_rfl
set_option maxRecDepth 100000 in
theorem open_act {d : D1} (h : D1Of Try.prog 115 d) : ∃ x0 x1 x2 x3 x4 x5 : Int, d = .agg [.pc (.int .i64 x0), .pc (.int .i64 x1), .pc (.int .i64 x2), .pc (.int .i64 x3), .pc (.int .i64 x4), .pc (.int .i64 x5)] ∧ (Lit.int .i64 x0).wf = true ∧ (Lit.int .i64 x1).wf = true ∧ (Lit.int .i64 x2).wf = true ∧ (Lit.int .i64 x3).wf = true ∧ (Lit.int .i64 x4).wf = true ∧ (Lit.int .i64 x5).wf = true := by
  obtain ⟨ps, rfl, q0⟩ := h.aggT agg115 flat115
  clear h
  obtain ⟨_, _, rfl, ⟨x0, rfl, wx0⟩, q1⟩ := okPC_cons q0
  obtain ⟨_, _, rfl, ⟨x1, rfl, wx1⟩, q2⟩ := okPC_cons q1
  obtain ⟨_, _, rfl, ⟨x2, rfl, wx2⟩, q3⟩ := okPC_cons q2
  obtain ⟨_, _, rfl, ⟨x3, rfl, wx3⟩, q4⟩ := okPC_cons q3
  obtain ⟨_, _, rfl, ⟨x4, rfl, wx4⟩, q5⟩ := okPC_cons q4
  obtain ⟨_, _, rfl, ⟨x5, rfl, wx5⟩, q6⟩ := okPC_cons q5
  obtain rfl := okPC_nil q6
  exact ⟨x0, x1, x2, x3, x4, x5, rfl, wx0, wx1, wx2, wx3, wx4, wx5⟩

def lockedT (p q : Pg) (k : Int) : Option DRes :=
  bif lockP p.h then bif !lookB true [p] p.l 5 k then bif lookC true [p] p.l 5 k == 3 then bif lookB false [p] p.l 5 k then bif lookC false [p] p.l 5 k == 0 then bif pgEq (lookP false [p] p.l 5 k) p then
    bif allocC q k == 3 then bs (relC p == 3) else bs false else bs false else bs false else bs false else bs false else bs false else bs false

theorem lockedT_true {l h k : Int} (hl : 104 ≤ l) (hl2 : l < 256) (hh : lockP h = true) (hk : 1 ≤ k) (hk2 : k ≤ 4) : lockedT ⟨l, h, tagP k 5 0, 0, 0, 0, 0, 0, 0⟩ ⟨l, h, tagP 0 5 0, 0, 0, 0, 0, 0, 0⟩ k = bs true := by
  have hv : validP l 5 = true := decide_eq_true (by omega)
  have hlat : latest [⟨l, h, tagP k 5 0, 0, 0, 0, 0, 0, 0⟩] l = some ⟨l, h, tagP k 5 0, 0, 0, 0, 0, 0, 0⟩ := by simp [latest]
  have hb : latB [⟨l, h, tagP k 5 0, 0, 0, 0, 0, 0, 0⟩] l = true := by unfold latB; rw [hlat]
  have hp : latP [⟨l, h, tagP k 5 0, 0, 0, 0, 0, 0, 0⟩] l = ⟨l, h, tagP k 5 0, 0, 0, 0, 0, 0, 0⟩ := by unfold latP; rw [hlat]
  have ht : tagP k 5 0 = k + 1280 := by rw [tag_of k 5 (by decide) (by decide)]; omega
  obtain ⟨h1, h2, _⟩ := t_of (t := k + 1280) (by omega) (by omega)
  have e1 : (k == 0) = false := by simp; omega
  have e2 : decide (l ≥ 104) = true := decide_eq_true (by omega)
  have e3 : decide (l < 256) = true := decide_eq_true (by omega)
  have e4 : decide (k < 1) = false := decide_eq_false (by omega)
  have e5 : decide (k > 4) = false := decide_eq_false (by omega)
  have e6 : (k + 1280) % 256 = k := by omega
  have e7 : (k + 1280) / 256 % 16777216 = 5 := by omega
  unfold lockedT lookB lookC lookP lookT allocC relC
  simp only [hv, hb, hp, hh, e2, e3, e4, e5, Bool.not_true, cond_true, cond_false]
  simp only [ht, h1, h2, e6, e7, e1, bne_self_eq_false, beq_self_eq_true, Bool.not_false, cond_true, cond_false, pgEq_self]

theorem locked_sem (kind client key a b n owner k : Int) :
    FnSem Try.prog 16 [.agg [.pc (.int .i64 kind), .pc (.int .i64 client), .pc (.int .i64 key), .pc (.int .i64 a), .pc (.int .i64 b), .pc (.int .i64 n)], ri owner, ri k] (.v (.one (.pc (.bool true)))) := by
  refine sem E6_ok (lf := 10) (depth := 10) ?_
  have h : ∀ L H K : Int, IntKind.wrap .i64 (104 + pick key 152) = L → IntKind.wrap .u64 (IntKind.wrap .u64 (IntKind.wrap .u64 (IntKind.wrap .u64 (IntKind.wrap .i64 (pick a 1000 + 1)) * 2 ^ 8) + IntKind.wrap .u64 (pick owner 255)) + 1) = H → IntKind.wrap .i64 (1 + pick k 4) = K →
      callD T E6 F 10 10 16 [.agg [.pc (.int .i64 kind), .pc (.int .i64 client), .pc (.int .i64 key), .pc (.int .i64 a), .pc (.int .i64 b), .pc (.int .i64 n)], ri owner, ri k] some =
      lockedT ⟨L, H, tagP K 5 0, 0, 0, 0, 0, 0, 0⟩ ⟨L, H, tagP 0 5 0, 0, 0, 0, 0, 0, 0⟩ K := by
    intro L H K h1 h2 h3
    subst h1 h2 h3
    kernel_rfl
  have p1 : pick key 152 = key % 152 := pick_eq (by decide) (by decide)
  have p2 : pick a 1000 = a % 1000 := pick_eq (by decide) (by decide)
  have p3 : pick owner 255 = owner % 255 := pick_eq (by decide) (by decide)
  have p4 : pick k 4 = k % 4 := pick_eq (by decide) (by decide)
  have e8 : (2 : Int) ^ 8 = 256 := by decide
  have w1 : IntKind.wrap .i64 (104 + pick key 152) = 104 + key % 152 := by rw [p1, i64_in (by omega) (by omega)]
  have w3 : IntKind.wrap .i64 (1 + pick k 4) = 1 + k % 4 := by rw [p4, i64_in (by omega) (by omega)]
  have w2 : IntKind.wrap .u64 (IntKind.wrap .u64 (IntKind.wrap .u64 (IntKind.wrap .u64 (IntKind.wrap .i64 (pick a 1000 + 1)) * 2 ^ 8) + IntKind.wrap .u64 (pick owner 255)) + 1) = (a % 1000 + 1) * 256 + owner % 255 + 1 := by
    rw [p2, p3, e8, i64_in (n := a % 1000 + 1) (by omega) (by omega), u64_in (n := a % 1000 + 1) (by omega) (by omega), u64_in (n := (a % 1000 + 1) * 256) (by omega) (by omega), u64_in (n := owner % 255) (by omega) (by omega),
      u64_in (n := (a % 1000 + 1) * 256 + owner % 255) (by omega) (by omega), u64_in (by omega) (by omega)]
  rw [h _ _ _ w1 w2 w3]
  refine lockedT_true (by omega) (by omega) ?_ (by omega) (by omega)
  rw [(lock_of (by omega) (by omega)).1]
  simp
  omega

-- the law
set_option maxRecDepth 100000 in
theorem locked_lifted (os : Os) (started : os.Started) (H : Type) (enc : TypeId × Value → H) :
    ReturnsInHanded {} Try.checked os 16 .any (Rows.pointerLockedSpec.pre6 enc Try.prog Try.f16 Rows.pointerLockedRow.domain false) (Rows.pointerLockedSpec.post enc Try.prog Try.f16 false true false false) :=
  law_lifted (C := Try.checked) (s := Rows.pointerLockedSpec) (conds := Rows.pointerLockedRow.domain) (apart := false) (fresh := true) (handsOn := false) (again := false) own started (by kernel_rfl) Try.func16
    (ChangeSpec.witness6 (enc := enc) (C := Try.checked) false ⟨#[], #[.agg #[.int .i64 0, .int .i64 0, .int .i64 0, .int .i64 0, .int .i64 0, .int .i64 0], .int .i64 0, .int .i64 0], []⟩ 8 (by kernel_rfl) (by kernel_rfl) (by kernel_rfl) (by kernel_rfl))
    laid (fun t ht => List.all_eq_true.1 (show (Try.f16.params.toList.all fun t => argB Try.prog t) = true by kernel_rfl) t ht) (rt := 4) rfl und4 rfl
    (fun ds hds => by
      match ds, hds with
      | [_, _, _], _ => rfl)
    (fun l hl => by
      obtain ⟨d1, l1, rfl, h1, hl⟩ := all2_cons hl
      obtain ⟨d2, l2, rfl, h2, hl⟩ := all2_cons hl
      obtain ⟨d3, l3, rfl, h3, hl⟩ := all2_cons hl
      obtain rfl := all2_nil hl
      obtain ⟨kind, client, key, a, b, n, rfl, _⟩ := open_act h1
      obtain ⟨owner, rfl, _⟩ := h2.int und3
      obtain ⟨k, rfl, _⟩ := h3.int und3
      exact locked_sem kind client key a b n owner k
)

theorem locked_law : Rows.PointerLockedSaid :=
  OpenClaim.holds_of_wide 16 Try.f16 rfl rfl rfl rfl rfl rfl rfl ⟨rfl, rfl, rfl, rfl, rfl⟩ rfl rfl rfl rfl rfl (by kernel_rfl) Try.func16 (by kernel_rfl)
    (of_decide_eq_true (by kernel_rfl)) (by unfold Func.isWrapper; first | (rw [if_pos (by decide +kernel)]; kernel_rfl) | (rw [if_neg (by decide +kernel)]; exact ⟨rfl, rfl⟩))
    (fun os started H enc _ => locked_lifted os started H enc)

end Go.Proofs.Ytjbmpimclagfoaa
