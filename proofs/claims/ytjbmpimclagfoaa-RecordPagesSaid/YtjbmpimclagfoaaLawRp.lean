/-
  RecordPages: which versions can be stored, and how they are read and written, for all pages.
-/
import Derived.Test.YtjbmpimclagfoaaLawK3
namespace Go.Proofs.Ytjbmpimclagfoaa
open Go.Eng Go.Sp Go.RowKit

/-- One word of a page, turned. -/
def xorP (q : Pg) (j : Nat) (b : Int) : Pg :=
  ⟨q.l, cond (Nat.beq (j * 1 + 2) 1) (Go.bits .xor .u64 (intAt [q.h, q.a, q.b, q.c, q.d, q.e, q.f, q.g] (j * 1 + 1)) b) q.h, cond (Nat.beq (j * 1 + 2) 2) (Go.bits .xor .u64 (intAt [q.h, q.a, q.b, q.c, q.d, q.e, q.f, q.g] (j * 1 + 1)) b) q.a,
    cond (Nat.beq (j * 1 + 2) 3) (Go.bits .xor .u64 (intAt [q.h, q.a, q.b, q.c, q.d, q.e, q.f, q.g] (j * 1 + 1)) b) q.b, cond (Nat.beq (j * 1 + 2) 4) (Go.bits .xor .u64 (intAt [q.h, q.a, q.b, q.c, q.d, q.e, q.f, q.g] (j * 1 + 1)) b) q.c,
    cond (Nat.beq (j * 1 + 2) 5) (Go.bits .xor .u64 (intAt [q.h, q.a, q.b, q.c, q.d, q.e, q.f, q.g] (j * 1 + 1)) b) q.d, cond (Nat.beq (j * 1 + 2) 6) (Go.bits .xor .u64 (intAt [q.h, q.a, q.b, q.c, q.d, q.e, q.f, q.g] (j * 1 + 1)) b) q.e,
    cond (Nat.beq (j * 1 + 2) 7) (Go.bits .xor .u64 (intAt [q.h, q.a, q.b, q.c, q.d, q.e, q.f, q.g] (j * 1 + 1)) b) q.f, cond (Nat.beq (j * 1 + 2) 8) (Go.bits .xor .u64 (intAt [q.h, q.a, q.b, q.c, q.d, q.e, q.f, q.g] (j * 1 + 1)) b) q.g⟩

theorem intAt_R {l : List Int} (h : ∀ x ∈ l, rU64 x) (j : Nat) : rU64 (intAt l j) := by
  induction l generalizing j with
  | nil => exact ⟨Int.le_refl 0, by show (0 : Int) ≤ 18446744073709551615; decide⟩
  | cons x l ih => cases j with
    | zero => exact h x (by simp)
    | succ j => exact ih (fun y hy => h y (by simp [hy])) j

theorem xor_R {x b : Int} (hx : rU64 x) (hb : rU64 b) : rU64 (Go.bits .xor .u64 x b) := by
  obtain ⟨x1, x2⟩ := hx
  obtain ⟨b1, b2⟩ := hb
  obtain ⟨a, rfl⟩ := Int.eq_ofNat_of_zero_le x1
  obtain ⟨c, rfl⟩ := Int.eq_ofNat_of_zero_le b1
  rw [u64_xor_nat a c (by omega) (by omega)]
  have := Nat.xor_lt_two_pow (n := 64) (x := a) (y := c) (by omega) (by omega)
  exact ⟨by omega, by omega⟩

theorem xorP_ok {q : Pg} (h : q.ok) (j : Nat) {b : Int} (hb : rU64 b) : (xorP q j b).ok := by
  have hx : rU64 (Go.bits .xor .u64 (intAt [q.h, q.a, q.b, q.c, q.d, q.e, q.f, q.g] (j * 1 + 1)) b) := xor_R (intAt_R (fun x hx => by
    simp only [List.mem_cons, List.not_mem_nil, or_false] at hx
    rcases hx with rfl | rfl | rfl | rfl | rfl | rfl | rfl | rfl
    · exact h.h
    · exact h.a
    · exact h.b
    · exact h.c
    · exact h.d
    · exact h.e
    · exact h.f
    · exact h.g) _) hb
  have c : ∀ (t : Bool) {x y : Int}, rU64 x → rU64 y → rU64 (cond t x y) := fun t x y h1 h2 => by cases t <;> assumption
  exact ⟨h.l, c (Nat.beq (j * 1 + 2) 1) hx h.h, c (Nat.beq (j * 1 + 2) 2) hx h.a, c (Nat.beq (j * 1 + 2) 3) hx h.b, c (Nat.beq (j * 1 + 2) 4) hx h.c, c (Nat.beq (j * 1 + 2) 5) hx h.d, c (Nat.beq (j * 1 + 2) 6) hx h.e, c (Nat.beq (j * 1 + 2) 7) hx h.f, c (Nat.beq (j * 1 + 2) 8) hx h.g⟩

def pagesT (p : Pg) (w : Ve) (j s : Int) : Option DRes :=
  bif !(veOK w == rveOK w) then bs false else bif !veEq (readV p) (rreadV p) then bs false else bif readC p != rreadC p then bs false else bif !pgEq (writeP p w) (rwriteP p w) then bs false else
  bif writeC p w != rwriteC p w then bs false else bif writeC p w != 0 then bs true else
  bif decide (0 ≤ j ∧ j < ((7 : Nat) : Int)) then bif Nat.blt (j.toNat * 1 + 2) 9 then bif decide (0 ≤ s) then bif decide (0 ≤ j ∧ j < ((7 : Nat) : Int)) then bif Nat.blt (j.toNat * 1 + 2) 9 then
    bif veEq (readV (xorP (writeP p w) j.toNat (IntKind.wrap .u64 (1 * 2 ^ (min s.toNat 64))))) (rreadV (xorP (writeP p w) j.toNat (IntKind.wrap .u64 (1 * 2 ^ (min s.toNat 64))))) then
      bs (readC (xorP (writeP p w) j.toNat (IntKind.wrap .u64 (1 * 2 ^ (min s.toNat 64)))) == rreadC (xorP (writeP p w) j.toNat (IntKind.wrap .u64 (1 * 2 ^ (min s.toNat 64))))) else bs false
  else none else none else none else none else none

theorem writeP_ok {p : Pg} {v : Ve} (hp : p.ok) (hv : v.ok) : (writeP p v).ok := by
  unfold writeP
  cases veOK v
  · exact zero_ok
  · cases tK p.a != 1
    · exact fillP_ok hp hv
    · exact zero_ok

theorem pagesT_true {p : Pg} {w : Ve} {j s : Int} (hp : p.ok) (hw : w.ok) (hj : 0 ≤ j) (hj2 : j < 7) (hs : 0 ≤ s) : pagesT p w j s = bs true := by
  have hx := xorP_ok (writeP_ok (v := w) hp hw) j.toNat (rU64_wrap' (1 * 2 ^ (min s.toNat 64)))
  have e1 : decide (0 ≤ j ∧ j < ((7 : Nat) : Int)) = true := decide_eq_true ⟨hj, by omega⟩
  have e2 : Nat.blt (j.toNat * 1 + 2) 9 = true := blt_iff.2 (by omega)
  unfold pagesT
  rw [rveOK_of hw, rreadV_of hp, rreadC_of hp, rwriteP_of hp hw, rwriteC_of hp hw, rreadV_of hx, rreadC_of hx, e1, e2, decide_eq_true hs, pgEq_self, veEq_self, veEq_self]
  simp only [beq_self_eq_true, bne_self_eq_false, Bool.not_true, cond_true, cond_false]
  cases writeC p w != 0 <;> rfl

theorem pages_sem (p : Pg) (v : Ve) (n kd : Int) (hp : p.ok) (hv : v.ok) : FnSem Try.prog 17 [p.t, v.t, ri n, ru64 kd] (.v (.one (.pc (.bool true)))) := by
  refine sem E11_ok (lf := 10) (depth := 10) ?_
  have h : ∀ (w : Ve) (A j s : Int), nearV v n = w → IntKind.wrap .u64 (IntKind.wrap .u64 (Int.tmod kd 3 + IntKind.wrap .u64 (Int.tmod (IntKind.wrap .u64 (Int.tdiv kd 3)) 9 * 256)) + IntKind.wrap .u64 (Int.tmod (IntKind.wrap .u64 (Int.tdiv kd 27)) 3 * 2 ^ 32)) = A →
      pick (IntKind.wrap .i64 (Int.tdiv n 12)) 7 = j → Int.tmod (IntKind.wrap .u64 (Int.tdiv kd 81)) 64 = s → callD T E11 F 10 10 17 [p.t, v.t, ri n, ru64 kd] some =
      (bif decide (pick (IntKind.wrap .i64 (Int.tdiv n 3)) 4 > 0) then pagesT ⟨p.l, p.h, A, p.b, p.c, p.d, p.e, p.f, p.g⟩ w j s else pagesT p w j s) := by
    intro w A j s h1 h2 h3 h4
    subst h1 h2 h3 h4
    kernel_rfl
  rw [h _ _ _ _ rfl rfl rfl rfl]
  have hj : 0 ≤ pick (IntKind.wrap .i64 (Int.tdiv n 12)) 7 ∧ pick (IntKind.wrap .i64 (Int.tdiv n 12)) 7 < 7 := by
    rw [pick_eq (by decide) (by decide)]; omega
  have hs : 0 ≤ Int.tmod (IntKind.wrap .u64 (Int.tdiv kd 81)) 64 := by
    have := (rU64_wrap' (Int.tdiv kd 81)).1
    rw [tmod_pos this]; omega
  exact bif_elim (fun _ => pagesT_true ⟨hp.l, hp.h, rU64_wrap' _, hp.b, hp.c, hp.d, hp.e, hp.f, hp.g⟩ (nearV_ok hv n) hj.1 hj.2 hs) (fun _ => pagesT_true hp (nearV_ok hv n) hj.1 hj.2 hs)

-- the law
set_option maxRecDepth 100000 in
theorem pages_lifted (os : Os) (started : os.Started) (H : Type) (enc : TypeId × Value → H) :
    ReturnsInHanded {} Try.checked os 17 .any (Rows.recordPagesSpec.pre6 enc Try.prog Try.f17 Rows.recordPagesRow.domain false) (Rows.recordPagesSpec.post enc Try.prog Try.f17 false true false false) :=
  law_lifted (C := Try.checked) (s := Rows.recordPagesSpec) (conds := Rows.recordPagesRow.domain) (apart := false) (fresh := true) (handsOn := false) (again := false) own started (by kernel_rfl) Try.func17
    (ChangeSpec.witness6 (enc := enc) (C := Try.checked) false ⟨#[], #[.agg #[.int .i64 0, .int .u64 0, .int .u64 0, .int .u64 0, .int .u64 0, .int .u64 0, .int .u64 0, .int .u64 0, .int .u64 0], .agg #[.int .u32 0, .int .i64 0, .int .i64 0, .int .i64 0, .bool false, .int .u32 0, .int .u64 0, .int .i64 0, .int .i64 0], .int .i64 0, .int .u64 0], []⟩ 8 (by kernel_rfl) (by kernel_rfl) (by kernel_rfl) (by kernel_rfl))
    laid (fun t ht => List.all_eq_true.1 (show (Try.f17.params.toList.all fun t => argB Try.prog t) = true by kernel_rfl) t ht) (rt := 4) rfl und4 rfl
    (fun ds hds => by
      match ds, hds with
      | [_, _, _, _], _ => rfl)
    (fun l hl => by
      obtain ⟨d1, l1, rfl, h1, hl⟩ := all2_cons hl
      obtain ⟨d2, l2, rfl, h2, hl⟩ := all2_cons hl
      obtain ⟨d3, l3, rfl, h3, hl⟩ := all2_cons hl
      obtain ⟨d4, l4, rfl, h4, hl⟩ := all2_cons hl
      obtain rfl := all2_nil hl
      obtain ⟨p, rfl, hp⟩ := open_pg h1
      obtain ⟨v, rfl, hv⟩ := open_ve h2
      obtain ⟨n, rfl, _⟩ := h3.int und3
      obtain ⟨kd, rfl, _⟩ := h4.int und22
      exact pages_sem p v n kd hp hv
)

theorem pages_law : Rows.RecordPagesSaid :=
  OpenClaim.holds_of_wide 17 Try.f17 rfl rfl rfl rfl rfl rfl rfl ⟨rfl, rfl, rfl, rfl, rfl⟩ rfl rfl rfl rfl rfl (by kernel_rfl) Try.func17 (by kernel_rfl)
    (of_decide_eq_true (by kernel_rfl)) (by unfold Func.isWrapper; first | (rw [if_pos (by decide +kernel)]; kernel_rfl) | (rw [if_neg (by decide +kernel)]; exact ⟨rfl, rfl⟩))
    (fun os started H enc _ => pages_lifted os started H enc)

end Go.Proofs.Ytjbmpimclagfoaa
