/-
  Pointers and tags: what package pointer's and the document's functions on words compute.
-/
import Derived.Test.YtjbmpimclagfoaaSp1
namespace Go.Sp

def unL (w : Int) : Int := IntKind.wrap .i64 (Go.bits .and .u32 w 255)
def unG (w : Int) : Int := IntKind.wrap .i64 (Int.fdiv w (2 ^ 8))
def runL (w : Int) : Int := IntKind.wrap .i64 (Int.tmod w 256)
def runG (w : Int) : Int := IntKind.wrap .i64 (IntKind.wrap .u32 (Int.tdiv w 256))
def tK (t : Int) : Int := IntKind.wrap .i64 (Go.bits .and .u64 t 255)
def tG (t : Int) : Int := IntKind.wrap .i64 (Go.bits .and .u64 (Int.fdiv t (2 ^ 8)) 16777215)
def tX (t : Int) : Int := IntKind.wrap .u32 (Int.fdiv t (2 ^ 32))
def tagP (k g x : Int) : Int := Go.bits .or .u64 (Go.bits .or .u64 (Go.bits .and .u64 (IntKind.wrap .u64 k) 255) (IntKind.wrap .u64 (Go.bits .and .u64 (IntKind.wrap .u64 g) 16777215 * (2 ^ 8)))) (IntKind.wrap .u64 (IntKind.wrap .u64 x * (2 ^ 32)))
def rTag (k g x : Int) : Int := IntKind.wrap .u64 (IntKind.wrap .u64 (Int.tmod (IntKind.wrap .u64 k) 256 + IntKind.wrap .u64 (Int.tmod (IntKind.wrap .u64 g) 16777216 * 256)) + IntKind.wrap .u64 (IntKind.wrap .u64 x * (2 ^ 32)))
def genP (a : Int) : Int := IntKind.wrap .i64 (Go.bits .and .u64 (Int.fdiv a (2 ^ 8)) 16777215)
def rGen (a : Int) : Int := IntKind.wrap .i64 (Int.tmod (IntKind.wrap .u64 (Int.tdiv a 256)) 16777216)
def lockP (h : Int) : Bool := Go.bits .and .u64 h 255 != 0
def rlockP (h : Int) : Bool := Int.tmod h 256 != 0
/-- A pointer that can stand. -/
def validP (l g : Int) : Bool := decide (104 ≤ l ∧ l < 256 ∧ 1 ≤ g ∧ g ≤ 16777215)
def packP (l g : Int) : Int := bif validP l g then g * 256 + l else 0

theorem and24 {x : Int} (hx : 0 ≤ x) (hx2 : x < 18446744073709551616) : Go.bits .and .u64 x 16777215 = x % 16777216 := by
  obtain ⟨a, rfl⟩ := Int.eq_ofNat_of_zero_le hx
  have := u64_and_nat a 16777215 (by omega) (by omega)
  rw [show (16777215 : Nat) = 2 ^ 24 - 1 by decide, Nat.and_two_pow_sub_one_eq_mod] at this
  simpa using this

theorem and255' {x : Int} (hx : 0 ≤ x) (hx2 : x < 4294967296) : Go.bits .and .u32 x 255 = x % 256 := by
  obtain ⟨a, rfl⟩ := Int.eq_ofNat_of_zero_le hx
  have := u32_and_nat a 255 (by omega) (by omega)
  rw [nat_mask8] at this
  simpa using this

theorem or_add32 {x y : Int} (i : Nat) (hx : 0 ≤ x) (hx2 : x < 4294967296) (hm : x % 2 ^ i = 0) (hy : 0 ≤ y) (hy2 : y < 2 ^ i) (hi : (2 : Int) ^ i ≤ 4294967296) :
    Go.bits .or .u32 x y = x + y := by
  obtain ⟨a, rfl⟩ := Int.eq_ofNat_of_zero_le hx
  obtain ⟨b, rfl⟩ := Int.eq_ofNat_of_zero_le hy
  have hb : b < 2 ^ i := by exact_mod_cast hy2
  have ha : a % 2 ^ i = 0 := by exact_mod_cast hm
  rw [u32_or_nat a b (by omega) (by have : ((b : Nat) : Int) < 4294967296 := Int.lt_of_lt_of_le hy2 hi; omega), nat_join i a b ha hb]
  simp

/-- 'or', the small part first. -/
theorem or_add' {x y : Int} (i : Nat) (hy : 0 ≤ y) (hy2 : y < 18446744073709551616) (hm : y % 2 ^ i = 0) (hx : 0 ≤ x) (hx2 : x < 2 ^ i) (hi : (2 : Int) ^ i ≤ 18446744073709551616) :
    Go.bits .or .u64 x y = x + y := by
  obtain ⟨a, rfl⟩ := Int.eq_ofNat_of_zero_le hx
  obtain ⟨b, rfl⟩ := Int.eq_ofNat_of_zero_le hy
  have ha : a < 2 ^ i := by exact_mod_cast hx2
  have hb : b % 2 ^ i = 0 := by exact_mod_cast hm
  rw [u64_or_nat a b (by have : ((a : Nat) : Int) < 18446744073709551616 := Int.lt_of_lt_of_le hx2 hi; omega) (by omega), Nat.or_comm, nat_join i b a hb ha]
  simp [Int.add_comm]

theorem un_of {w : Int} (h1 : 0 ≤ w) (h2 : w ≤ 4294967295) : unL w = w % 256 ∧ unG w = w / 256 := by
  constructor
  · unfold unL; rw [and255' h1 (by omega), i64_in (by omega) (by omega)]
  · unfold unG; rw [fdiv_pos (by decide), i64_in (by omega) (by omega)]; rfl

theorem run_of {w : Int} (h1 : 0 ≤ w) (h2 : w ≤ 4294967295) : runL w = w % 256 ∧ runG w = w / 256 := by
  constructor
  · unfold runL; rw [tmod_pos h1, i64_in (by omega) (by omega)]
  · unfold runG; rw [tdiv_pos h1, u32_in (by omega) (by omega), i64_in (by omega) (by omega)]

theorem gen_of {a : Int} (h1 : 0 ≤ a) (h2 : a ≤ 18446744073709551615) : genP a = a / 256 % 16777216 := by
  have e : (2 : Int) ^ 8 = 256 := by decide
  unfold genP
  rw [fdiv_pos (by decide), e, and24 (by omega) (by omega), i64_in (by omega) (by omega)]

theorem rgen_of {a : Int} (h1 : 0 ≤ a) (h2 : a ≤ 18446744073709551615) : rGen a = a / 256 % 16777216 := by
  unfold rGen
  rw [tdiv_pos h1, u64_in (n := a / 256) (by omega) (by omega), tmod_pos (by omega), i64_in (by omega) (by omega)]

theorem t_of {t : Int} (h1 : 0 ≤ t) (h2 : t ≤ 18446744073709551615) : tK t = t % 256 ∧ tG t = t / 256 % 16777216 ∧ tX t = t / 4294967296 := by
  have e : (2 : Int) ^ 32 = 4294967296 := by decide
  refine ⟨?_, gen_of h1 h2, ?_⟩
  · unfold tK; rw [and255 h1 (by omega), i64_in (by omega) (by omega)]
  · unfold tX; rw [fdiv_pos (by decide), e, u32_in (by omega) (by omega)]

theorem lock_of {h : Int} (h1 : 0 ≤ h) (h2 : h ≤ 18446744073709551615) : lockP h = (h % 256 != 0) ∧ rlockP h = (h % 256 != 0) := by
  constructor
  · unfold lockP; rw [and255 h1 (by omega)]
  · unfold rlockP; rw [tmod_pos h1]

theorem tag_of (k g : Int) {x : Int} (h1 : 0 ≤ x) (h2 : x ≤ 4294967295) : tagP k g x = k % 256 + g % 16777216 * 256 + x * 4294967296 := by
  have e : (2 : Int) ^ 32 = 4294967296 := by decide
  have e8 : (2 : Int) ^ 8 = 256 := by decide
  have hk : IntKind.wrap .u64 k % 256 = k % 256 := by rw [IntKind.wrap_u64]; omega
  have hg : IntKind.wrap .u64 g % 16777216 = g % 16777216 := by rw [IntKind.wrap_u64]; omega
  have rk : 0 ≤ IntKind.wrap .u64 k ∧ IntKind.wrap .u64 k < 18446744073709551616 := by rw [IntKind.wrap_u64]; omega
  have rg : 0 ≤ IntKind.wrap .u64 g ∧ IntKind.wrap .u64 g < 18446744073709551616 := by rw [IntKind.wrap_u64]; omega
  unfold tagP
  rw [and255 rk.1 rk.2, and24 rg.1 rg.2, hk, hg, u64_in (n := x) (by omega) (by omega), e, e8, u64_in (n := g % 16777216 * 256) (by omega) (by omega), u64_in (n := x * 4294967296) (by omega) (by omega),
    or_add' (x := k % 256) (y := g % 16777216 * 256) 8 (by omega) (by omega) (by omega) (by omega) (by omega) (by decide), or_add' 32 (by omega) (by omega) (by omega) (by omega) (by omega) (by decide)]

theorem rtag_of (k g : Int) {x : Int} (h1 : 0 ≤ x) (h2 : x ≤ 4294967295) : rTag k g x = k % 256 + g % 16777216 * 256 + x * 4294967296 := by
  have e : (2 : Int) ^ 32 = 4294967296 := by decide
  have hk : IntKind.wrap .u64 k % 256 = k % 256 := by rw [IntKind.wrap_u64]; omega
  have hg : IntKind.wrap .u64 g % 16777216 = g % 16777216 := by rw [IntKind.wrap_u64]; omega
  have rk : 0 ≤ IntKind.wrap .u64 k := by rw [IntKind.wrap_u64]; omega
  have rg : 0 ≤ IntKind.wrap .u64 g := by rw [IntKind.wrap_u64]; omega
  unfold rTag
  rw [tmod_pos rk, tmod_pos rg, hk, hg, u64_in (n := x) (by omega) (by omega), e, u64_in (n := g % 16777216 * 256) (by omega) (by omega), u64_in (n := x * 4294967296) (by omega) (by omega),
    u64_in (n := k % 256 + g % 16777216 * 256) (by omega) (by omega), u64_in (by omega) (by omega)]

end Go.Sp

namespace Go.Proofs.Ytjbmpimclagfoaa
open Go.Eng Go.Sp

theorem unp_sem (w : Int) : FnSem Try.prog 41 [.one (.pc (.int .u32 w))] (.v (.agg [.pc (.int .i64 (unL w)), .pc (.int .i64 (unG w))])) :=
  sem (EnvOK.nil _) (lf := 10) (depth := 10) (by kernel_rfl)

def unpS : List D1 → Option DRes
  | [.one (.pc (.int .u32 w))] => some (.v (.agg [.pc (.int .i64 (unL w)), .pc (.int .i64 (unG w))]))
  | _ => none

theorem unpS_ok : ∀ l d, unpS l = some d → FnSem Try.prog 41 l d := fun l d h => by
  unfold unpS at h
  split at h
  · simp only [Option.some.injEq] at h; subst h; exact unp_sem _
  · cases h

theorem runp_sem (w : Int) : FnSem Try.prog 53 [.one (.pc (.int .u32 w))] (.v (.agg [.pc (.int .i64 (runL w)), .pc (.int .i64 (runG w))])) :=
  sem (EnvOK.nil _) (lf := 10) (depth := 10) (by kernel_rfl)

def runpS : List D1 → Option DRes
  | [.one (.pc (.int .u32 w))] => some (.v (.agg [.pc (.int .i64 (runL w)), .pc (.int .i64 (runG w))]))
  | _ => none

theorem runpS_ok : ∀ l d, runpS l = some d → FnSem Try.prog 53 l d := fun l d h => by
  unfold runpS at h
  split at h
  · simp only [Option.some.injEq] at h; subst h; exact runp_sem _
  · cases h

theorem unt_sem (t : Int) : FnSem Try.prog 42 [.one (.pc (.int .u64 t))] (.v (.agg [.pc (.int .i64 (tK t)), .pc (.int .i64 (tG t)), .pc (.int .u32 (tX t))])) :=
  sem (EnvOK.nil _) (lf := 10) (depth := 10) (by kernel_rfl)

def untS : List D1 → Option DRes
  | [.one (.pc (.int .u64 t))] => some (.v (.agg [.pc (.int .i64 (tK t)), .pc (.int .i64 (tG t)), .pc (.int .u32 (tX t))]))
  | _ => none

theorem untS_ok : ∀ l d, untS l = some d → FnSem Try.prog 42 l d := fun l d h => by
  unfold untS at h
  split at h
  · simp only [Option.some.injEq] at h; subst h; exact unt_sem _
  · cases h

theorem pkt_sem (k g x : Int) : FnSem Try.prog 43 [.agg [.pc (.int .i64 k), .pc (.int .i64 g), .pc (.int .u32 x)]] (.v (.one (.pc (.int .u64 (tagP k g x))))) :=
  sem (EnvOK.nil _) (lf := 10) (depth := 10) (by kernel_rfl)

def pktS : List D1 → Option DRes
  | [.agg [.pc (.int .i64 k), .pc (.int .i64 g), .pc (.int .u32 x)]] => some (.v (.one (.pc (.int .u64 (tagP k g x)))))
  | _ => none

theorem pktS_ok : ∀ l d, pktS l = some d → FnSem Try.prog 43 l d := fun l d h => by
  unfold pktS at h
  split at h
  · simp only [Option.some.injEq] at h; subst h; exact pkt_sem _ _ _
  · cases h

theorem rtag_sem (k g x : Int) : FnSem Try.prog 55 [.one (.pc (.int .i64 k)), .one (.pc (.int .i64 g)), .one (.pc (.int .u32 x))] (.v (.one (.pc (.int .u64 (rTag k g x))))) :=
  sem (EnvOK.nil _) (lf := 10) (depth := 10) (by kernel_rfl)

def rtagS : List D1 → Option DRes
  | [.one (.pc (.int .i64 k)), .one (.pc (.int .i64 g)), .one (.pc (.int .u32 x))] => some (.v (.one (.pc (.int .u64 (rTag k g x)))))
  | _ => none

theorem rtagS_ok : ∀ l d, rtagS l = some d → FnSem Try.prog 55 l d := fun l d h => by
  unfold rtagS at h
  split at h
  · simp only [Option.some.injEq] at h; subst h; exact rtag_sem _ _ _
  · cases h

theorem at_sem (l h a b c d e f g : Int) : FnSem Try.prog 37 [.agg [.pc (.int .i64 l), .pc (.int .u64 h), .pc (.int .u64 a), .pc (.int .u64 b), .pc (.int .u64 c), .pc (.int .u64 d), .pc (.int .u64 e), .pc (.int .u64 f), .pc (.int .u64 g)]] (.v (.agg [.pc (.int .i64 l), .pc (.int .i64 (genP a))])) :=
  sem (EnvOK.nil _) (lf := 10) (depth := 10) (by kernel_rfl)

def atS : List D1 → Option DRes
  | [.agg [.pc (.int .i64 l), .pc (.int .u64 _), .pc (.int .u64 a), .pc (.int .u64 _), .pc (.int .u64 _), .pc (.int .u64 _), .pc (.int .u64 _), .pc (.int .u64 _), .pc (.int .u64 _)]] => some (.v (.agg [.pc (.int .i64 l), .pc (.int .i64 (genP a))]))
  | _ => none

theorem atS_ok : ∀ l d, atS l = some d → FnSem Try.prog 37 l d := fun l d h => by
  unfold atS at h
  split at h
  · simp only [Option.some.injEq] at h; subst h; exact at_sem _ _ _ _ _ _ _ _ _
  · cases h

theorem rat_sem (l h a b c d e f g : Int) : FnSem Try.prog 50 [.agg [.pc (.int .i64 l), .pc (.int .u64 h), .pc (.int .u64 a), .pc (.int .u64 b), .pc (.int .u64 c), .pc (.int .u64 d), .pc (.int .u64 e), .pc (.int .u64 f), .pc (.int .u64 g)]] (.v (.agg [.pc (.int .i64 l), .pc (.int .i64 (rGen a))])) :=
  sem (EnvOK.nil _) (lf := 10) (depth := 10) (by kernel_rfl)

def ratS : List D1 → Option DRes
  | [.agg [.pc (.int .i64 l), .pc (.int .u64 _), .pc (.int .u64 a), .pc (.int .u64 _), .pc (.int .u64 _), .pc (.int .u64 _), .pc (.int .u64 _), .pc (.int .u64 _), .pc (.int .u64 _)]] => some (.v (.agg [.pc (.int .i64 l), .pc (.int .i64 (rGen a))]))
  | _ => none

theorem ratS_ok : ∀ l d, ratS l = some d → FnSem Try.prog 50 l d := fun l d h => by
  unfold ratS at h
  split at h
  · simp only [Option.some.injEq] at h; subst h; exact rat_sem _ _ _ _ _ _ _ _ _
  · cases h

theorem rgen_sem (l h a b c d e f g : Int) : FnSem Try.prog 54 [.agg [.pc (.int .i64 l), .pc (.int .u64 h), .pc (.int .u64 a), .pc (.int .u64 b), .pc (.int .u64 c), .pc (.int .u64 d), .pc (.int .u64 e), .pc (.int .u64 f), .pc (.int .u64 g)]] (.v (.one (.pc (.int .i64 (rGen a))))) :=
  sem (EnvOK.nil _) (lf := 10) (depth := 10) (by kernel_rfl)

def rgenS : List D1 → Option DRes
  | [.agg [.pc (.int .i64 _), .pc (.int .u64 _), .pc (.int .u64 a), .pc (.int .u64 _), .pc (.int .u64 _), .pc (.int .u64 _), .pc (.int .u64 _), .pc (.int .u64 _), .pc (.int .u64 _)]] => some (.v (.one (.pc (.int .i64 (rGen a)))))
  | _ => none

theorem rgenS_ok : ∀ l d, rgenS l = some d → FnSem Try.prog 54 l d := fun l d h => by
  unfold rgenS at h
  split at h
  · simp only [Option.some.injEq] at h; subst h; exact rgen_sem _ _ _ _ _ _ _ _ _
  · cases h

theorem lock_sem (l h a b c d e f g : Int) : FnSem Try.prog 51 [.agg [.pc (.int .i64 l), .pc (.int .u64 h), .pc (.int .u64 a), .pc (.int .u64 b), .pc (.int .u64 c), .pc (.int .u64 d), .pc (.int .u64 e), .pc (.int .u64 f), .pc (.int .u64 g)]] (.v (.one (.pc (.bool (lockP h))))) :=
  sem (EnvOK.nil _) (lf := 10) (depth := 10) (by kernel_rfl)

def lockS : List D1 → Option DRes
  | [.agg [.pc (.int .i64 _), .pc (.int .u64 h), .pc (.int .u64 _), .pc (.int .u64 _), .pc (.int .u64 _), .pc (.int .u64 _), .pc (.int .u64 _), .pc (.int .u64 _), .pc (.int .u64 _)]] => some (.v (.one (.pc (.bool (lockP h)))))
  | _ => none

theorem lockS_ok : ∀ l d, lockS l = some d → FnSem Try.prog 51 l d := fun l d h => by
  unfold lockS at h
  split at h
  · simp only [Option.some.injEq] at h; subst h; exact lock_sem _ _ _ _ _ _ _ _ _
  · cases h

theorem rlock_sem (l h a b c d e f g : Int) : FnSem Try.prog 52 [.agg [.pc (.int .i64 l), .pc (.int .u64 h), .pc (.int .u64 a), .pc (.int .u64 b), .pc (.int .u64 c), .pc (.int .u64 d), .pc (.int .u64 e), .pc (.int .u64 f), .pc (.int .u64 g)]] (.v (.one (.pc (.bool (rlockP h))))) :=
  sem (EnvOK.nil _) (lf := 10) (depth := 10) (by kernel_rfl)

def rlockS : List D1 → Option DRes
  | [.agg [.pc (.int .i64 _), .pc (.int .u64 h), .pc (.int .u64 _), .pc (.int .u64 _), .pc (.int .u64 _), .pc (.int .u64 _), .pc (.int .u64 _), .pc (.int .u64 _), .pc (.int .u64 _)]] => some (.v (.one (.pc (.bool (rlockP h)))))
  | _ => none

theorem rlockS_ok : ∀ l d, rlockS l = some d → FnSem Try.prog 52 l d := fun l d h => by
  unfold rlockS at h
  split at h
  · simp only [Option.some.injEq] at h; subst h; exact rlock_sem _ _ _ _ _ _ _ _ _
  · cases h

def valT (l g : Int) : Option DRes := bif decide (l ≥ 104) then bif decide (l < 256) then bif decide (g ≥ 1) then some (.v (.one (.pc (.bool (decide (g ≤ 16777215)))))) else some (.v (.one (.pc (.bool false)))) else some (.v (.one (.pc (.bool false)))) else some (.v (.one (.pc (.bool false))))

theorem valT_eq (l g : Int) : valT l g = some (.v (.one (.pc (.bool (validP l g))))) := by
  have key : ∀ b : Bool, validP l g = b → some (DRes.v (.one (.pc (.bool b)))) = some (.v (.one (.pc (.bool (validP l g))))) := fun b h => by rw [h]
  unfold valT
  refine bif_elim (fun a1 => bif_elim (fun a2 => bif_elim (fun a3 => key _ ?_) fun a3 => key _ ?_) fun a2 => key _ ?_) fun a1 => key _ ?_ <;> unfold validP
  · have := of_decide_eq_true a1
    have := of_decide_eq_true a2
    have := of_decide_eq_true a3
    by_cases h : g ≤ 16777215
    · rw [decide_eq_true h, decide_eq_true (by omega)]
    · rw [decide_eq_false h, decide_eq_false (by omega)]
  · have := of_decide_eq_false a3; exact decide_eq_false (by omega)
  · have := of_decide_eq_false a2; exact decide_eq_false (by omega)
  · have := of_decide_eq_false a1; exact decide_eq_false (by omega)

theorem valid_sem (l g : Int) : FnSem Try.prog 45 [.agg [.pc (.int .i64 l), .pc (.int .i64 g)]] (.v (.one (.pc (.bool (validP l g))))) :=
  sem (EnvOK.nil _) (lf := 10) (depth := 10) ((show callD T [] F 10 10 45 [.agg [.pc (.int .i64 l), .pc (.int .i64 g)]] some = valT l g by kernel_rfl).trans (valT_eq l g))

theorem rvalid_sem (l g : Int) : FnSem Try.prog 46 [.agg [.pc (.int .i64 l), .pc (.int .i64 g)]] (.v (.one (.pc (.bool (validP l g))))) :=
  sem (EnvOK.nil _) (lf := 10) (depth := 10) ((show callD T [] F 10 10 46 [.agg [.pc (.int .i64 l), .pc (.int .i64 g)]] some = valT l g by kernel_rfl).trans (valT_eq l g))

def validS : List D1 → Option DRes
  | [.agg [.pc (.int .i64 l), .pc (.int .i64 g)]] => some (.v (.one (.pc (.bool (validP l g)))))
  | _ => none

theorem validS_ok : ∀ l d, validS l = some d → FnSem Try.prog 45 l d := fun l d h => by
  unfold validS at h
  split at h
  · simp only [Option.some.injEq] at h; subst h; exact valid_sem _ _
  · cases h

theorem rvalidS_ok : ∀ l d, validS l = some d → FnSem Try.prog 46 l d := fun l d h => by
  unfold validS at h
  split at h
  · simp only [Option.some.injEq] at h; subst h; exact rvalid_sem _ _
  · cases h

def u32R (n : Int) : Option DRes := some (.v (.one (.pc (.int .u32 n))))

theorem pack_sem (l g : Int) : FnSem Try.prog 48 [.agg [.pc (.int .i64 l), .pc (.int .i64 g)]] (.v (.one (.pc (.int .u32 (packP l g))))) := by
  refine sem (E := [(45, tot validS)]) (EnvOK.cons validS_ok (EnvOK.nil _)) (lf := 10) (depth := 10) ?_
  have h : callD T [(45, tot validS)] F 10 10 48 [.agg [.pc (.int .i64 l), .pc (.int .i64 g)]] some = (bif !(validP l g) then u32R 0 else u32R (Go.bits .or .u32 (IntKind.wrap .u32 (IntKind.wrap .u32 g * (2 ^ 8))) (IntKind.wrap .u32 l))) := by kernel_rfl
  rw [h]
  unfold packP
  cases hv : validP l g with
  | false => rfl
  | true =>
    have hv := of_decide_eq_true hv
    have e : (2 : Int) ^ 8 = 256 := by decide
    simp only [Bool.not_true, cond_false, cond_true]
    rw [u32_in (n := g) (by omega) (by omega), u32_in (n := l) (by omega) (by omega), e, u32_in (by omega) (by omega), or_add32 8 (by omega) (by omega) (by omega) (by omega) (by omega) (by decide)]
    rfl

theorem rpack_sem (l g : Int) : FnSem Try.prog 49 [.agg [.pc (.int .i64 l), .pc (.int .i64 g)]] (.v (.one (.pc (.int .u32 (packP l g))))) := by
  refine sem (E := [(46, tot validS)]) (EnvOK.cons rvalidS_ok (EnvOK.nil _)) (lf := 10) (depth := 10) ?_
  have h : callD T [(46, tot validS)] F 10 10 49 [.agg [.pc (.int .i64 l), .pc (.int .i64 g)]] some = (bif !(validP l g) then u32R 0 else u32R (IntKind.wrap .u32 (IntKind.wrap .u32 l + IntKind.wrap .u32 (256 * IntKind.wrap .u32 g)))) := by kernel_rfl
  rw [h]
  unfold packP
  cases hv : validP l g with
  | false => rfl
  | true =>
    have hv := of_decide_eq_true hv
    simp only [Bool.not_true, cond_false, cond_true]
    rw [u32_in (n := g) (by omega) (by omega), u32_in (n := l) (by omega) (by omega), u32_in (n := 256 * g) (by omega) (by omega), u32_in (by omega) (by omega), show l + 256 * g = g * 256 + l by omega]
    rfl

def packS : List D1 → Option DRes
  | [.agg [.pc (.int .i64 l), .pc (.int .i64 g)]] => some (.v (.one (.pc (.int .u32 (packP l g)))))
  | _ => none

theorem packS_ok : ∀ l d, packS l = some d → FnSem Try.prog 48 l d := fun l d h => by
  unfold packS at h
  split at h
  · simp only [Option.some.injEq] at h; subst h; exact pack_sem _ _
  · cases h

theorem rpackS_ok : ∀ l d, packS l = some d → FnSem Try.prog 49 l d := fun l d h => by
  unfold packS at h
  split at h
  · simp only [Option.some.injEq] at h; subst h; exact rpack_sem _ _
  · cases h

theorem awake19_sem : FnSem Try.prog 44 [] (.v (.one (.pc (.bool true)))) :=
  sem (EnvOK.nil _) (lf := 10) (depth := 10) (by kernel_rfl)

def awakeS : List D1 → Option DRes
  | [] => some (.v (.one (.pc (.bool true))))
  | _ => none

theorem awake19S_ok : ∀ l d, awakeS l = some d → FnSem Try.prog 44 l d := fun l d h => by
  unfold awakeS at h
  split at h
  · simp only [Option.some.injEq] at h; subst h; exact awake19_sem
  · cases h

end Go.Proofs.Ytjbmpimclagfoaa
