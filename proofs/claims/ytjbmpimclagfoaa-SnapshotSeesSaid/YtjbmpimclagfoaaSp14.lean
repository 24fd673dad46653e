/-
  law21.near; versions compared; what was written is read again.
-/
import Derived.Test.YtjbmpimclagfoaaSp13
namespace Go.Sp
open Go.Eng

def nr4 {α : Type} (v : Ve) (a b c e s l g : Int) (f : Ve → α) : α := bif Int.tmod v.k 5 == 4 then f ⟨IntKind.wrap .u32 (0 - Int.tmod v.k 4), a, b, c, v.d, e, s, l, g⟩ else f ⟨v.k, a, b, c, v.d, e, s, l, g⟩
def nr3 {α : Type} (v : Ve) (a b c s l g : Int) (f : Ve → α) : α := bif !v.d then nr4 v a b c (IntKind.wrap .u32 (Int.tdiv (Int.tmod v.e 8) 7)) s l g f else nr4 v a b c v.e s l g f
def nr2 {α : Type} (v : Ve) (s l g : Int) (f : Ve → α) : α := bif v.d then bif decide (Int.tmod v.e 9 > 0) then nr3 v 0 0 0 s l g f else nr3 v v.a v.b v.c s l g f else nr3 v v.a v.b v.c s l g f
def nearT {α : Type} (v : Ve) (n : Int) (f : Ve → α) : α :=
  bif pick n 3 == 0 then f v else bif Int.tmod v.l 2 == 0 then nr2 v (IntKind.wrap .u64 (pick (IntKind.wrap .i64 (Int.tmod v.s 5000)) 5000)) 0 0 f
    else nr2 v (IntKind.wrap .u64 (pick (IntKind.wrap .i64 (Int.tmod v.s 5000)) 5000)) (IntKind.wrap .i64 (103 + pick v.l 154)) (pick v.g 9) f
/-- A version, brought near to a valid one. -/
def nearV (v : Ve) (n : Int) : Ve := nearT v n fun v => v

theorem nearT_eq {α : Type} (v : Ve) (n : Int) (f : Ve → α) : nearT v n f = f (nearV v n) := by
  unfold nearV nearT nr2 nr3 nr4
  cases pick n 3 == 0 <;> cases Int.tmod v.l 2 == 0 <;> cases v.d <;> cases decide (Int.tmod v.e 9 > 0) <;> cases Int.tmod v.k 5 == 4 <;> rfl

theorem rU32_wrap (n : Int) : rU32 (IntKind.wrap .u32 n) := by unfold rU32; rw [IntKind.wrap_u32]; omega
theorem rU64_wrap' (n : Int) : rU64 (IntKind.wrap .u64 n) := by unfold rU64; rw [IntKind.wrap_u64]; omega
theorem rI64_wrap' (n : Int) : rI64 (IntKind.wrap .i64 n) := by unfold rI64; rw [IntKind.wrap_i64]; omega

theorem nearV_ok {v : Ve} (h : v.ok) (n : Int) : (nearV v n).ok := by
  have z : rI64 0 := ⟨by decide, by decide⟩
  have p9 : rI64 (pick v.g 9) := by rw [pick_eq (by decide) (by decide)]; unfold rI64; omega
  have h4 : ∀ {a b c e s l g : Int}, rI64 a → rI64 b → rI64 c → rU32 e → rU64 s → rI64 l → rI64 g → (nr4 v a b c e s l g fun v => v).ok := fun h1 h2 h3 h4 h5 h6 h7 => by
    unfold nr4
    cases Int.tmod v.k 5 == 4
    · exact ⟨h.k, h1, h2, h3, h4, h5, h6, h7⟩
    · exact ⟨rU32_wrap _, h1, h2, h3, h4, h5, h6, h7⟩
  have h3 : ∀ {a b c s l g : Int}, rI64 a → rI64 b → rI64 c → rU64 s → rI64 l → rI64 g → (nr3 v a b c s l g fun v => v).ok := fun h1 h2 h3 h5 h6 h7 => by
    unfold nr3
    cases !v.d
    · exact h4 h1 h2 h3 h.e h5 h6 h7
    · exact h4 h1 h2 h3 (rU32_wrap _) h5 h6 h7
  have h2 : ∀ {s l g : Int}, rU64 s → rI64 l → rI64 g → (nr2 v s l g fun v => v).ok := fun h5 h6 h7 => by
    unfold nr2
    cases v.d
    · exact h3 h.a h.b h.c h5 h6 h7
    · cases decide (Int.tmod v.e 9 > 0)
      · exact h3 h.a h.b h.c h5 h6 h7
      · exact h3 z z z h5 h6 h7
  unfold nearV nearT
  cases pick n 3 == 0
  · cases Int.tmod v.l 2 == 0
    · exact h2 (rU64_wrap' _) (rI64_wrap' _) p9
    · exact h2 (rU64_wrap' _) z z
  · exact h

/-- Two versions, compared. -/
def veEq (p q : Ve) : Bool := bif p.k == q.k then bif p.a == q.a then bif p.b == q.b then bif p.c == q.c then bif p.d == q.d then bif p.e == q.e then bif p.s == q.s then bif p.l == q.l then bif p.g == q.g then true else false else false else false else false else false else false else false else false else false

theorem veEq_self (p : Ve) : veEq p p = true := by
  unfold veEq; simp

theorem packP_ptr {l g : Int} (h : nilP l g = true ∨ validP l g = true) : (bif packP l g != 0 then unL (packP l g) else 0) = l ∧ (bif packP l g != 0 then unG (packP l g) else 0) = g := by
  obtain ⟨r1, r2⟩ := packP_R l g
  obtain ⟨u1, u2⟩ := un_of r1 r2
  rw [u1, u2]
  unfold packP
  cases hv : validP l g with
  | true =>
    have hv := of_decide_eq_true hv
    have e : (g * 256 + l != 0) = true := by simp; omega
    simp only [cond_true, e]
    omega
  | false =>
    rcases h with h | h
    · unfold nilP at h
      simp only [Bool.cond_eq_ite] at h
      repeat' split at h
      all_goals first | cases h | skip
      rename_i h1 h2
      simp only [beq_iff_eq] at h1 h2
      subst h1 h2
      exact ⟨rfl, rfl⟩
    · rw [hv] at h; cases h

theorem fill_read {p : Pg} {v : Ve} (hp : p.ok) (hv : v.ok) (h : veOK v = true) (hk : tK p.a = 1) : rOK (fillP p v) = true ∧ candV (fillP p v) = v := by
  obtain ⟨t1, t2, _⟩ := t_of hp.a.1 hp.a.2
  have hptr := packP_ptr (veOK_ptr h)
  obtain ⟨k1, k2⟩ := hv.k
  obtain ⟨q1, q2⟩ := packP_R v.l v.g
  have hb : (fillP p v).b = v.k + packP v.l v.g * 4294967296 := keyW_of hv.k (packP_R _ _)
  have hpw : pwd (fillP p v).b = packP v.l v.g := by rw [hb, pwd_of (by unfold rU64; omega)]; omega
  have hkey : IntKind.wrap .u32 (fillP p v).b = v.k := by rw [hb, IntKind.wrap_u32]; omega
  have back : ∀ n : Int, rI64 n → IntKind.wrap .i64 (IntKind.wrap .u64 n) = n := fun n hn => by
    obtain ⟨n1, n2⟩ := hn
    rw [IntKind.wrap_u64, IntKind.wrap_i64]; omega
  have gb : 0 ≤ tG p.a ∧ tG p.a < 16777216 := by rw [t2]; omega
  cases hd : v.d with
  | true =>
    obtain ⟨a0, b0, c0⟩ := veEnd_del (veOK_end h) hd
    have hA : (fillP p v).a = 1 + tG p.a * 256 + 4294967296 := by
      show (bif v.d then tagP (tK p.a) (tG p.a) 1 else tagP (tK p.a) (tG p.a) 0) = _
      rw [hd, cond_true, hk, tag_of _ _ (by decide) (by decide)]; omega
    have hx : (tX (fillP p v).a == 1) = true := by
      rw [hA, (t_of (by omega) (by omega)).2.2]; simp; omega
    obtain ⟨e1, e2⟩ := hv.e
    have hc : (fillP p v).c = v.e := by
      show (bif v.d then IntKind.wrap .u64 v.e else IntKind.wrap .u64 v.a) = _
      rw [hd, cond_true, u64_in (by omega) (by omega)]
    have hdd : (fillP p v).d = 0 := by show IntKind.wrap .u64 v.b = 0; rw [b0]; rfl
    have hee : (fillP p v).e = 0 := by show IntKind.wrap .u64 v.c = 0; rw [c0]; rfl
    have hcand : candV (fillP p v) = v := by
      unfold candV mkV
      rw [hx, hpw, hkey, hptr.1, hptr.2, hc, u32_in e1 e2]
      exact Ve.ext' rfl a0.symm b0.symm c0.symm hd.symm rfl rfl rfl rfl
    refine ⟨?_, hcand⟩
    unfold rOK
    rw [hcand, h, hA, hc, hdd, hee, decide_eq_true ⟨by omega, by omega, rfl, fun _ => ⟨by omega, rfl, rfl⟩⟩]
    rfl
  | false =>
    have e0 := veEnd_live (veOK_end h) hd
    have hA : (fillP p v).a = 1 + tG p.a * 256 := by
      show (bif v.d then tagP (tK p.a) (tG p.a) 1 else tagP (tK p.a) (tG p.a) 0) = _
      rw [hd, cond_false, hk, tag_of _ _ (by decide) (by decide)]; omega
    have hx : (tX (fillP p v).a == 1) = false := by
      rw [hA, (t_of (by omega) (by omega)).2.2]; simp; omega
    have hc : (fillP p v).c = IntKind.wrap .u64 v.a := by
      show (bif v.d then IntKind.wrap .u64 v.e else IntKind.wrap .u64 v.a) = _
      rw [hd, cond_false]
    have hcand : candV (fillP p v) = v := by
      unfold candV mkV
      rw [hx, hpw, hkey, hptr.1, hptr.2, hc]
      exact Ve.ext' rfl (back _ hv.a) (back _ hv.b) (back _ hv.c) hd.symm e0.symm rfl rfl rfl
    refine ⟨?_, hcand⟩
    unfold rOK
    rw [hcand, h, hA, decide_eq_true ⟨by omega, by omega, rfl, fun h => by omega⟩]
    rfl

theorem fillP_ok {p : Pg} {v : Ve} (hp : p.ok) (hv : v.ok) : (fillP p v).ok := by
  have tr : ∀ k g x : Int, 0 ≤ x → x ≤ 4294967295 → rU64 (tagP k g x) := fun k g x h1 h2 => by rw [tag_of k g h1 h2]; unfold rU64; omega
  refine ⟨hp.l, hp.h, ?_, ?_, ?_, rU64_wrap' _, rU64_wrap' _, hv.s, ⟨Int.le_refl 0, by show (0 : Int) ≤ 18446744073709551615; decide⟩⟩
  · show rU64 (bif v.d then tagP (tK p.a) (tG p.a) 1 else tagP (tK p.a) (tG p.a) 0)
    cases v.d
    · exact tr _ _ _ (by decide) (by decide)
    · exact tr _ _ _ (by decide) (by decide)
  · show rU64 (keyW v.k (packP v.l v.g))
    rw [keyW_of hv.k (packP_R _ _)]
    obtain ⟨k1, k2⟩ := hv.k
    obtain ⟨q1, q2⟩ := packP_R v.l v.g
    unfold rU64; omega
  · show rU64 (bif v.d then IntKind.wrap .u64 v.e else IntKind.wrap .u64 v.a)
    cases v.d
    · exact rU64_wrap' _
    · exact rU64_wrap' _

theorem fill_gen {p : Pg} {v : Ve} (hp : p.ok) (hk : tK p.a = 1) : tK (fillP p v).a = 1 ∧ tG (fillP p v).a = tG p.a := by
  obtain ⟨_, t2, _⟩ := t_of hp.a.1 hp.a.2
  have key : ∀ x : Int, 0 ≤ x → x ≤ 4294967295 → tK (tagP (tK p.a) (tG p.a) x) = 1 ∧ tG (tagP (tK p.a) (tG p.a) x) = tG p.a := fun x h1 h2 => by
    rw [hk, tag_of _ _ h1 h2]
    obtain ⟨u1, u2, _⟩ := t_of (t := 1 % 256 + tG p.a % 16777216 * 256 + x * 4294967296) (by omega) (by omega)
    rw [u1, u2, t2]
    omega
  have : (fillP p v).a = (bif v.d then tagP (tK p.a) (tG p.a) 1 else tagP (tK p.a) (tG p.a) 0) := rfl
  rw [this]
  cases v.d
  · exact key 0 (by decide) (by decide)
  · exact key 1 (by decide) (by decide)

end Go.Sp

namespace Go.Proofs.Ytjbmpimclagfoaa
open Go.Eng Go.Sp

theorem near21_sem (v : Ve) (n : Int) : FnSem Try.prog 66 [v.t, ri n] (.v (nearV v n).t) := by
  refine sem E10_ok (lf := 10) (depth := 10) ?_
  have h : callD T E10 F 10 10 66 [v.t, ri n] some = nearT v n fun v => some (.v v.t) := by kernel_rfl
  rw [h, nearT_eq]

def near21S : List D1 → Option DRes
  | [x, .one (.pc (.int .i64 n))] => match toVe x with
    | some v => some (.v (nearV v n).t)
    | none => none
  | _ => none

theorem near21S_ok : ∀ l d, near21S l = some d → FnSem Try.prog 66 l d := fun l d h => by
  unfold near21S at h
  split at h
  · split at h
    · rename_i hp; simp only [Option.some.injEq] at h; subst h; rw [toVe_some hp]; exact near21_sem _ _
    · cases h
  · cases h

def E11 : Env := (66, tot near21S) :: E10
theorem E11_ok : EnvOK Try.prog E11 := .cons near21S_ok E10_ok

end Go.Proofs.Ytjbmpimclagfoaa
