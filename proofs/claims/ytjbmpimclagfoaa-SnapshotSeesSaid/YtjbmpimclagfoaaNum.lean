/-
  Numbers: what the kinds' ranges and the bit operations are, in plain arithmetic.
-/
import GoSem.Claim
import Derived.Laws.BitsAllLaws
import Derived.Laws.Bits64
import Derived.Laws.BitsLemmas
namespace Go.Sp

theorem wf_i64 {n : Int} (h : (Lit.int .i64 n).wf = true) : -9223372036854775808 ≤ n ∧ n ≤ 9223372036854775807 := by
  simp only [Lit.wf, Bool.and_eq_true, decide_eq_true_eq] at h
  exact h

theorem wf_u64 {n : Int} (h : (Lit.int .u64 n).wf = true) : 0 ≤ n ∧ n ≤ 18446744073709551615 := by
  simp only [Lit.wf, Bool.and_eq_true, decide_eq_true_eq] at h
  exact h

theorem wf_u32 {n : Int} (h : (Lit.int .u32 n).wf = true) : 0 ≤ n ∧ n ≤ 4294967295 := by
  simp only [Lit.wf, Bool.and_eq_true, decide_eq_true_eq] at h
  exact h

theorem i64_in {n : Int} (h1 : -9223372036854775808 ≤ n) (h2 : n ≤ 9223372036854775807) : IntKind.wrap .i64 n = n := by
  rw [IntKind.wrap_i64]; omega

theorem u64_in {n : Int} (h1 : 0 ≤ n) (h2 : n ≤ 18446744073709551615) : IntKind.wrap .u64 n = n := by
  rw [IntKind.wrap_u64]; omega

theorem u32_in {n : Int} (h1 : 0 ≤ n) (h2 : n ≤ 4294967295) : IntKind.wrap .u32 n = n := by
  rw [IntKind.wrap_u32]; omega

theorem tmod_pos {n t : Int} (h : 0 ≤ n) : Int.tmod n t = n % t := Int.tmod_eq_emod_of_nonneg h
theorem tdiv_pos {n t : Int} (h : 0 ≤ n) : Int.tdiv n t = n / t := Int.tdiv_eq_ediv_of_nonneg h
theorem fdiv_pos {n t : Int} (h : 0 ≤ t) : Int.fdiv n t = n / t := Int.fdiv_eq_ediv_of_nonneg n h

/-- Two numbers whose bits lie apart: 'or' is plus. -/
theorem or_add {x y : Int} (i : Nat) (hx : 0 ≤ x) (hx2 : x < 18446744073709551616) (hm : x % 2 ^ i = 0) (hy : 0 ≤ y) (hy2 : y < 2 ^ i) (hi : (2 : Int) ^ i ≤ 18446744073709551616) :
    Go.bits .or .u64 x y = x + y := by
  obtain ⟨a, rfl⟩ := Int.eq_ofNat_of_zero_le hx
  obtain ⟨b, rfl⟩ := Int.eq_ofNat_of_zero_le hy
  have hb : b < 2 ^ i := by exact_mod_cast hy2
  have ha : a % 2 ^ i = 0 := by exact_mod_cast hm
  rw [u64_or_nat a b (by omega) (by have : ((b : Nat) : Int) < 18446744073709551616 := Int.lt_of_lt_of_le hy2 hi; omega), nat_join i a b ha hb]
  simp

theorem and255 {x : Int} (hx : 0 ≤ x) (hx2 : x < 18446744073709551616) : Go.bits .and .u64 x 255 = x % 256 := by
  obtain ⟨a, rfl⟩ := Int.eq_ofNat_of_zero_le hx
  have := u64_and_nat a 255 (by omega) (by omega)
  rw [nat_mask8] at this
  simpa using this

end Go.Sp
