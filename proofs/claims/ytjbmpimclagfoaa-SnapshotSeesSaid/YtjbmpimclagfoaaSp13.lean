/-
  Versions in pages: what is read and written.
-/
import Derived.Test.YtjbmpimclagfoaaSp12
namespace Go.Sp
open Go.Eng

def datEq (q p : Pg) : Bool := bif q.a == p.a then bif q.b == p.b then bif q.c == p.c then bif q.d == p.d then bif q.e == p.e then bif q.f == p.f then bif q.g == p.g then true else false else false else false else false else false else false else false

theorem datEq_iff (q p : Pg) : datEq q p = true ↔ q.a = p.a ∧ q.b = p.b ∧ q.c = p.c ∧ q.d = p.d ∧ q.e = p.e ∧ q.f = p.f ∧ q.g = p.g := by
  constructor
  · intro h
    unfold datEq at h
    simp only [Bool.cond_eq_ite] at h
    repeat' split at h
    all_goals first | cases h | skip
    rename_i h1 h2 h3 h4 h5 h6 h7
    simp only [beq_iff_eq] at h1 h2 h3 h4 h5 h6 h7
    exact ⟨h1, h2, h3, h4, h5, h6, h7⟩
  · rintro ⟨h1, h2, h3, h4, h5, h6, h7⟩
    unfold datEq
    rw [h1, h2, h3, h4, h5, h6, h7]
    simp

/-- The packed pointer in a page. -/
def pwd (b : Int) : Int := IntKind.wrap .u32 (Int.fdiv b (2 ^ 32))

def mkV (p : Pg) (dl : Bool) (l g : Int) : Ve := bif dl then ⟨IntKind.wrap .u32 p.b, 0, 0, 0, tX p.a == 1, IntKind.wrap .u32 p.c, p.f, l, g⟩ else ⟨IntKind.wrap .u32 p.b, IntKind.wrap .i64 p.c, IntKind.wrap .i64 p.d, IntKind.wrap .i64 p.e, tX p.a == 1, 0, p.f, l, g⟩

/-- The version that a page would hold. -/
def candV (p : Pg) : Ve := mkV p (tX p.a == 1) (bif pwd p.b != 0 then unL (pwd p.b) else 0) (bif pwd p.b != 0 then unG (pwd p.b) else 0)

def finT {α : Type} (p : Pg) (v : Ve) (f : Ve → Int → α) : α := bif !veOK v then f .zero 14 else bif !datEq (fillP p v) p then f .zero 14 else f v 0

def readT {α : Type} (p : Pg) (f : Ve → Int → α) : α :=
  bif tK p.a != 1 then f .zero 14 else bif decide (tX p.a > 1) then f .zero 14 else
  bif pwd p.b != 0 then bif tX p.a == 1 then finT p ⟨IntKind.wrap .u32 p.b, 0, 0, 0, tX p.a == 1, IntKind.wrap .u32 p.c, p.f, unL (pwd p.b), unG (pwd p.b)⟩ f
    else finT p ⟨IntKind.wrap .u32 p.b, IntKind.wrap .i64 p.c, IntKind.wrap .i64 p.d, IntKind.wrap .i64 p.e, tX p.a == 1, 0, p.f, unL (pwd p.b), unG (pwd p.b)⟩ f
  else bif tX p.a == 1 then finT p ⟨IntKind.wrap .u32 p.b, 0, 0, 0, tX p.a == 1, IntKind.wrap .u32 p.c, p.f, 0, 0⟩ f
    else finT p ⟨IntKind.wrap .u32 p.b, IntKind.wrap .i64 p.c, IntKind.wrap .i64 p.d, IntKind.wrap .i64 p.e, tX p.a == 1, 0, p.f, 0, 0⟩ f

theorem readT_cand {α : Type} (p : Pg) (f : Ve → Int → α) : readT p f = bif tK p.a != 1 then f .zero 14 else bif decide (tX p.a > 1) then f .zero 14 else finT p (candV p) f := by
  unfold readT candV mkV
  cases pwd p.b != 0 <;> cases tX p.a == 1 <;> rfl

def rfinT {α : Type} (v : Ve) (f : Ve → Int → α) : α := bif !rveOK v then f .zero 14 else f v 0
def rchkT {α : Type} (p : Pg) (c : α) (z : α) : α := bif decide (p.c ≥ 4294967296) then z else bif p.d != 0 then z else bif p.e != 0 then z else c

def rbodyT {α : Type} (p : Pg) (f : Ve → Int → α) : α :=
  bif pwd p.b != 0 then bif tX p.a == 1 then rchkT p (rfinT ⟨IntKind.wrap .u32 p.b, 0, 0, 0, tX p.a == 1, IntKind.wrap .u32 p.c, p.f, runL (pwd p.b), runG (pwd p.b)⟩ f) (f .zero 14)
    else rfinT ⟨IntKind.wrap .u32 p.b, IntKind.wrap .i64 p.c, IntKind.wrap .i64 p.d, IntKind.wrap .i64 p.e, tX p.a == 1, 0, p.f, runL (pwd p.b), runG (pwd p.b)⟩ f
  else bif tX p.a == 1 then rchkT p (rfinT ⟨IntKind.wrap .u32 p.b, 0, 0, 0, tX p.a == 1, IntKind.wrap .u32 p.c, p.f, 0, 0⟩ f) (f .zero 14)
    else rfinT ⟨IntKind.wrap .u32 p.b, IntKind.wrap .i64 p.c, IntKind.wrap .i64 p.d, IntKind.wrap .i64 p.e, tX p.a == 1, 0, p.f, 0, 0⟩ f

def rreadT {α : Type} (p : Pg) (f : Ve → Int → α) : α :=
  bif rKind p.a != 1 then f .zero 14 else bif decide (tX p.a > 1) then f .zero 14 else bif p.g != 0 then f .zero 14 else
  bif pwd p.b == 0 then rbodyT p f else bif !validP (runL (pwd p.b)) (runG (pwd p.b)) then f .zero 14 else rbodyT p f

/-- Whether a page holds a version. -/
def rOK (p : Pg) : Bool := decide (p.a % 256 = 1 ∧ p.a / 4294967296 ≤ 1 ∧ p.g = 0 ∧ (p.a / 4294967296 = 1 → p.c < 4294967296 ∧ p.d = 0 ∧ p.e = 0)) && veOK (candV p)

theorem pwd_of {b : Int} (h : rU64 b) : pwd b = b / 4294967296 := by
  have e : (2 : Int) ^ 32 = 4294967296 := by decide
  obtain ⟨h1, h2⟩ := h
  unfold pwd; rw [fdiv_pos (by decide), e, u32_in (by omega) (by omega)]

theorem pwd_R (b : Int) : rU32 (pwd b) := by unfold pwd rU32; rw [IntKind.wrap_u32]; omega

theorem keyW_of {k pk : Int} (h : rU32 k) (h2 : rU32 pk) : keyW k pk = k + pk * 4294967296 := by
  have e : (2 : Int) ^ 32 = 4294967296 := by decide
  obtain ⟨k1, k2⟩ := h
  obtain ⟨p1, p2⟩ := h2
  unfold keyW
  rw [e, u64_in (n := k) (by omega) (by omega), u64_in (n := pk) (by omega) (by omega), u64_in (n := pk * 4294967296) (by omega) (by omega), or_add' 32 (by omega) (by omega) (by omega) (by omega) (by omega) (by decide)]

theorem packP_R (l g : Int) : rU32 (packP l g) := by
  unfold packP
  cases h : validP l g with
  | false => exact ⟨Int.le_refl 0, by show (0 : Int) ≤ 4294967295; decide⟩
  | true =>
    have := of_decide_eq_true h
    exact ⟨by simp only [cond_true]; omega, by simp only [cond_true]; omega⟩

/-- The pointer that a page would hold packs again. -/
theorem pack_cand {b : Int} (hv : nilP (bif pwd b != 0 then unL (pwd b) else 0) (bif pwd b != 0 then unG (pwd b) else 0) = true ∨ validP (bif pwd b != 0 then unL (pwd b) else 0) (bif pwd b != 0 then unG (pwd b) else 0) = true) :
    packP (bif pwd b != 0 then unL (pwd b) else 0) (bif pwd b != 0 then unG (pwd b) else 0) = pwd b := by
  obtain ⟨r1, r2⟩ := pwd_R b
  obtain ⟨u1, u2⟩ := un_of r1 r2
  cases hz : pwd b != 0 with
  | false =>
    have hz : pwd b = 0 := by simpa using hz
    rw [hz]; rfl
  | true =>
    have hz' : pwd b ≠ 0 := by simpa using hz
    rw [hz] at hv
    simp only [cond_true, u1, u2] at hv ⊢
    rcases hv with hv | hv
    · exfalso
      unfold nilP at hv
      simp only [Bool.cond_eq_ite] at hv
      repeat' split at hv
      all_goals first | cases hv | skip
      rename_i h1 h2
      simp only [beq_iff_eq] at h1 h2
      omega
    · unfold packP
      rw [hv]
      simp only [cond_true]
      omega

theorem veOK_ptr {v : Ve} (h : veOK v = true) : nilP v.l v.g = true ∨ validP v.l v.g = true := by
  cases hn : nilP v.l v.g with
  | true => exact .inl rfl
  | false =>
    refine .inr ?_
    cases hv : validP v.l v.g with
    | true => rfl
    | false =>
      unfold veOK at h
      rw [hn, hv] at h
      simp only [Bool.not_false, cond_true] at h
      revert h
      cases decide (v.k < 1) <;> cases decide (v.k > 4294967294) <;> cases orgO v.s <;> intro h <;> cases h

theorem candV_l (p : Pg) : (candV p).l = (bif pwd p.b != 0 then unL (pwd p.b) else 0) := by unfold candV mkV; cases tX p.a == 1 <;> rfl
theorem candV_g (p : Pg) : (candV p).g = (bif pwd p.b != 0 then unG (pwd p.b) else 0) := by unfold candV mkV; cases tX p.a == 1 <;> rfl
theorem candV_k (p : Pg) : (candV p).k = IntKind.wrap .u32 p.b := by unfold candV mkV; cases tX p.a == 1 <;> rfl

theorem readT_ok {α : Type} {p : Pg} (hp : p.ok) (f : Ve → Int → α) : readT p f = bif rOK p then f (candV p) 0 else f .zero 14 := by
  rw [readT_cand]
  obtain ⟨t1, t2, t3⟩ := t_of hp.a.1 hp.a.2
  rw [t1, t3]
  have a1 := hp.a.1
  have a2 := hp.a.2
  by_cases k1 : p.a % 256 = 1
  · rw [k1]
    by_cases k2 : p.a / 4294967296 > 1
    · rw [decide_eq_true k2]
      have : rOK p = false := by unfold rOK; rw [decide_eq_false (by omega)]; rfl
      rw [this]; rfl
    · rw [decide_eq_false k2]
      unfold finT rOK
      cases hv : veOK (candV p) with
      | false => simp only [bne_self_eq_false, cond_false, Bool.not_false, cond_true, Bool.and_false]
      | true =>
        have hpack := pack_cand (b := p.b) (by rw [← candV_l, ← candV_g]; exact veOK_ptr hv)
        have e1 : (fillP p (candV p)).b = p.b := by
          show keyW (candV p).k (packP (candV p).l (candV p).g) = p.b
          rw [candV_l, candV_g, hpack, candV_k, keyW_of (by unfold rU32; rw [IntKind.wrap_u32]; omega) (pwd_R _), pwd_of hp.b, IntKind.wrap_u32]
          have := hp.b.1; have := hp.b.2; omega
        have e2 : datEq (fillP p (candV p)) p = decide (p.g = 0 ∧ (p.a / 4294967296 = 1 → p.c < 4294967296 ∧ p.d = 0 ∧ p.e = 0)) := by
          rw [Bool.eq_iff_iff, datEq_iff, decide_eq_true_eq]
          have c1 := hp.c.1; have c2 := hp.c.2; have d1 := hp.d.1; have d2 := hp.d.2; have e1' := hp.e.1; have e2' := hp.e.2
          by_cases hd : p.a / 4294967296 = 1
          · have hx : (tX p.a == 1) = true := by rw [t3, hd]; rfl
            have hV : candV p = ⟨IntKind.wrap .u32 p.b, 0, 0, 0, true, IntKind.wrap .u32 p.c, p.f, (candV p).l, (candV p).g⟩ := by
              rw [candV_l, candV_g]; unfold candV mkV; rw [hx]; rfl
            have f1 : (fillP p (candV p)).a = p.a := by
              rw [hV]; show tagP (tK p.a) (tG p.a) 1 = p.a
              rw [t1, t2, tag_of _ _ (by decide) (by decide)]; omega
            have f3 : (fillP p (candV p)).c = p.c % 4294967296 := by
              rw [hV]; show IntKind.wrap .u64 (IntKind.wrap .u32 p.c) = _
              rw [IntKind.wrap_u32, u64_in (by omega) (by omega)]
            have f4 : (fillP p (candV p)).d = 0 := by rw [hV]; rfl
            have f5 : (fillP p (candV p)).e = 0 := by rw [hV]; rfl
            have f6 : (fillP p (candV p)).f = p.f := by rw [hV]; rfl
            have f7 : (fillP p (candV p)).g = 0 := rfl
            rw [e1, f1, f3, f4, f5, f6, f7]
            omega
          · have hx : (tX p.a == 1) = false := by rw [t3]; simp; omega
            have hV : candV p = ⟨IntKind.wrap .u32 p.b, IntKind.wrap .i64 p.c, IntKind.wrap .i64 p.d, IntKind.wrap .i64 p.e, false, 0, p.f, (candV p).l, (candV p).g⟩ := by
              rw [candV_l, candV_g]; unfold candV mkV; rw [hx]; rfl
            have back : ∀ n : Int, 0 ≤ n → n ≤ 18446744073709551615 → IntKind.wrap .u64 (IntKind.wrap .i64 n) = n := fun n h1 h2 => by
              rw [IntKind.wrap_u64, IntKind.wrap_i64]; omega
            have f1 : (fillP p (candV p)).a = p.a := by
              rw [hV]; show tagP (tK p.a) (tG p.a) 0 = p.a
              rw [t1, t2, tag_of _ _ (by decide) (by decide)]; omega
            have f3 : (fillP p (candV p)).c = p.c := by rw [hV]; exact back _ c1 c2
            have f4 : (fillP p (candV p)).d = p.d := by rw [hV]; exact back _ d1 d2
            have f5 : (fillP p (candV p)).e = p.e := by rw [hV]; exact back _ e1' e2'
            have f6 : (fillP p (candV p)).f = p.f := by rw [hV]; rfl
            have f7 : (fillP p (candV p)).g = 0 := rfl
            rw [e1, f1, f3, f4, f5, f6, f7]
            omega
        rw [e2]
        have e3 : decide (p.a % 256 = 1 ∧ p.a / 4294967296 ≤ 1 ∧ p.g = 0 ∧ (p.a / 4294967296 = 1 → p.c < 4294967296 ∧ p.d = 0 ∧ p.e = 0)) = decide (p.g = 0 ∧ (p.a / 4294967296 = 1 → p.c < 4294967296 ∧ p.d = 0 ∧ p.e = 0)) := by
          rw [Bool.eq_iff_iff, decide_eq_true_eq, decide_eq_true_eq]
          exact ⟨fun h => h.2.2, fun h => ⟨k1, by omega, h⟩⟩
        rw [e3]
        cases decide (p.g = 0 ∧ (p.a / 4294967296 = 1 → p.c < 4294967296 ∧ p.d = 0 ∧ p.e = 0)) <;> rfl
  · have e : (p.a % 256 != 1) = true := by simpa using k1
    have : rOK p = false := by unfold rOK; rw [decide_eq_false (by omega)]; rfl
    rw [e, this]; rfl

theorem runL_of (b : Int) : runL (pwd b) = unL (pwd b) ∧ runG (pwd b) = unG (pwd b) := by
  obtain ⟨r1, r2⟩ := pwd_R b
  rw [(un_of r1 r2).1, (un_of r1 r2).2, (run_of r1 r2).1, (run_of r1 r2).2]
  exact ⟨rfl, rfl⟩

theorem rbodyT_cand {α : Type} (p : Pg) (f : Ve → Int → α) : rbodyT p f = bif tX p.a == 1 then rchkT p (rfinT (candV p) f) (f .zero 14) else rfinT (candV p) f := by
  unfold rbodyT candV mkV
  rw [(runL_of p.b).1, (runL_of p.b).2]
  cases pwd p.b != 0 <;> cases tX p.a == 1 <;> rfl

theorem candV_ok {p : Pg} (hp : p.ok) : (candV p).ok := by
  have u : ∀ n, rU32 (IntKind.wrap .u32 n) := fun n => by unfold rU32; rw [IntKind.wrap_u32]; omega
  have i : ∀ n, rI64 (IntKind.wrap .i64 n) := fun n => by unfold rI64; rw [IntKind.wrap_i64]; omega
  have z : rI64 0 := ⟨by decide, by decide⟩
  have zu : rU32 0 := ⟨by decide, by decide⟩
  obtain ⟨r1, r2⟩ := pwd_R p.b
  obtain ⟨u1, u2⟩ := un_of r1 r2
  have hl : rI64 (bif pwd p.b != 0 then unL (pwd p.b) else 0) := by
    cases pwd p.b != 0
    · exact z
    · exact ⟨by simp only [cond_true]; omega, by simp only [cond_true]; omega⟩
  have hg : rI64 (bif pwd p.b != 0 then unG (pwd p.b) else 0) := by
    cases pwd p.b != 0
    · exact z
    · exact ⟨by simp only [cond_true]; omega, by simp only [cond_true]; omega⟩
  unfold candV mkV
  cases tX p.a == 1
  · exact ⟨u _, i _, i _, i _, zu, hp.f, hl, hg⟩
  · exact ⟨u _, z, z, z, u _, hp.f, hl, hg⟩

theorem rreadT_ok {α : Type} {p : Pg} (hp : p.ok) (f : Ve → Int → α) : rreadT p f = bif rOK p then f (candV p) 0 else f .zero 14 := by
  unfold rreadT
  rw [rKind_of hp.a, rbodyT_cand]
  obtain ⟨t1, t2, t3⟩ := t_of hp.a.1 hp.a.2
  rw [t1, t3]
  have a1 := hp.a.1
  have a2 := hp.a.2
  have hno : ∀ h : ¬ (p.a % 256 = 1 ∧ p.a / 4294967296 ≤ 1 ∧ p.g = 0 ∧ (p.a / 4294967296 = 1 → p.c < 4294967296 ∧ p.d = 0 ∧ p.e = 0)), rOK p = false := fun h => by
    unfold rOK; rw [decide_eq_false h]; rfl
  by_cases k1 : p.a % 256 = 1
  · rw [k1]
    by_cases k2 : p.a / 4294967296 > 1
    · rw [decide_eq_true k2, hno (by omega)]; rfl
    · rw [decide_eq_false k2]
      by_cases k3 : p.g = 0
      · have e3 : (p.g != 0) = false := by simpa using k3
        rw [e3]
        have main : (bif p.a / 4294967296 == 1 then rchkT p (rfinT (candV p) f) (f .zero 14) else rfinT (candV p) f) = bif rOK p then f (candV p) 0 else f .zero 14 := by
          unfold rfinT
          rw [rveOK_of (candV_ok hp)]
          by_cases hd : p.a / 4294967296 = 1
          · have hx : (p.a / 4294967296 == 1) = true := by simpa using hd
            rw [hx, cond_true]
            unfold rchkT
            by_cases c1 : p.c ≥ 4294967296
            · rw [decide_eq_true c1, hno (by omega)]; rfl
            · rw [decide_eq_false c1]
              by_cases d1 : p.d = 0
              · have e4 : (p.d != 0) = false := by simpa using d1
                rw [e4]
                by_cases e1 : p.e = 0
                · have e5 : (p.e != 0) = false := by simpa using e1
                  rw [e5]
                  unfold rOK
                  rw [decide_eq_true ⟨k1, by omega, k3, fun _ => ⟨by omega, d1, e1⟩⟩]
                  cases veOK (candV p) <;> rfl
                · have e5 : (p.e != 0) = true := by simpa using e1
                  rw [e5, hno (by omega)]; rfl
              · have e4 : (p.d != 0) = true := by simpa using d1
                rw [e4, hno (by omega)]; rfl
          · have hx : (p.a / 4294967296 == 1) = false := by simpa using hd
            rw [hx, cond_false]
            unfold rOK
            rw [decide_eq_true ⟨k1, by omega, k3, fun h => absurd h hd⟩]
            cases veOK (candV p) <;> rfl
        rw [main]
        cases hz : pwd p.b == 0 with
        | true => rfl
        | false =>
          cases hv : validP (runL (pwd p.b)) (runG (pwd p.b)) with
          | true => rfl
          | false =>
            have hb : veOK (candV p) = false := by
              cases hq : veOK (candV p) with
              | false => rfl
              | true =>
                exfalso
                have hz2 : (pwd p.b != 0) = true := by simpa using hz
                rw [(runL_of p.b).1, (runL_of p.b).2] at hv
                have := veOK_ptr hq
                have hpk := pack_cand (b := p.b) (by rw [← candV_l, ← candV_g]; exact this)
                rw [hz2] at hpk
                simp only [cond_true] at hpk
                unfold packP at hpk
                rw [hv, cond_false] at hpk
                rw [← hpk] at hz
                cases hz
            have : rOK p = false := by unfold rOK; rw [hb, Bool.and_false]
            rw [this]; rfl
      · have e3 : (p.g != 0) = true := by simpa using k3
        rw [e3, hno (by omega)]; rfl
  · have e : (p.a % 256 != 1) = true := by simpa using k1
    rw [e, hno (by omega)]; rfl

def readV (p : Pg) : Ve := readT p fun v _ => v
def readC (p : Pg) : Int := readT p fun _ c => c
def rreadV (p : Pg) : Ve := rreadT p fun v _ => v
def rreadC (p : Pg) : Int := rreadT p fun _ c => c

theorem finT_eq {α : Type} (p : Pg) (v : Ve) (f : Ve → Int → α) : finT p v f = f (finT p v fun v _ => v) (finT p v fun _ c => c) := by
  unfold finT
  cases veOK v <;> cases datEq (fillP p v) p <;> rfl

theorem readT_eq {α : Type} (p : Pg) (f : Ve → Int → α) : readT p f = f (readV p) (readC p) := by
  unfold readV readC
  rw [readT_cand, readT_cand, readT_cand, finT_eq]
  cases tK p.a != 1 <;> cases decide (tX p.a > 1) <;> rfl

theorem rfinT_eq {α : Type} (v : Ve) (f : Ve → Int → α) : rfinT v f = f (rfinT v fun v _ => v) (rfinT v fun _ c => c) := by
  unfold rfinT
  cases rveOK v <;> rfl

theorem rreadT_eq {α : Type} (p : Pg) (f : Ve → Int → α) : rreadT p f = f (rreadV p) (rreadC p) := by
  unfold rreadV rreadC rreadT
  rw [rbodyT_cand, rbodyT_cand, rbodyT_cand, rfinT_eq]
  unfold rchkT
  cases rKind p.a != 1 <;> cases decide (tX p.a > 1) <;> cases p.g != 0 <;> cases pwd p.b == 0 <;> cases validP (runL (pwd p.b)) (runG (pwd p.b)) <;> cases tX p.a == 1 <;> cases decide (p.c ≥ 4294967296) <;> cases p.d != 0 <;> cases p.e != 0 <;> rfl

theorem readV_of {p : Pg} (hp : p.ok) : readV p = bif rOK p then candV p else .zero := readT_ok hp _
theorem readC_of {p : Pg} (hp : p.ok) : readC p = bif rOK p then 0 else 14 := readT_ok hp _
theorem rreadV_of {p : Pg} (hp : p.ok) : rreadV p = readV p := (rreadT_ok hp fun v _ => v).trans (readT_ok hp fun v _ => v).symm
theorem rreadC_of {p : Pg} (hp : p.ok) : rreadC p = readC p := (rreadT_ok hp fun _ c => c).trans (readT_ok hp fun _ c => c).symm

/-! ### Writing -/

def writeC (p : Pg) (v : Ve) : Int := bif !veOK v then 1 else bif tK p.a != 1 then 1 else 0
def writeP (p : Pg) (v : Ve) : Pg := bif !veOK v then .zero else bif tK p.a != 1 then .zero else fillP p v
def rfillP (p : Pg) (v : Ve) : Pg := ⟨p.l, p.h, bif v.d then rTag 1 (rGen p.a) 1 else rTag 1 (rGen p.a) 0, IntKind.wrap .u64 (IntKind.wrap .u64 v.k + IntKind.wrap .u64 (IntKind.wrap .u64 (packP v.l v.g) * 2 ^ 32)),
  bif v.d then IntKind.wrap .u64 v.e else IntKind.wrap .u64 v.a, bif v.d then 0 else IntKind.wrap .u64 v.b, bif v.d then 0 else IntKind.wrap .u64 v.c, v.s, 0⟩
def rwriteC (p : Pg) (v : Ve) : Int := bif !rveOK v then 1 else bif rKind p.a != 1 then 1 else 0
def rwriteP (p : Pg) (v : Ve) : Pg := bif !rveOK v then .zero else bif rKind p.a != 1 then .zero else rfillP p v

theorem rwriteC_of {p : Pg} {v : Ve} (hp : p.ok) (hv : v.ok) : rwriteC p v = writeC p v := by
  unfold rwriteC writeC; rw [rveOK_of hv, rKind_of hp.a]

theorem veOK_end {v : Ve} (h : veOK v = true) : veEnd v = true := by
  unfold veOK at h
  revert h
  cases decide (v.k < 1) <;> cases decide (v.k > 4294967294) <;> cases orgO v.s <;> cases nilP v.l v.g <;> cases validP v.l v.g <;> intro h <;> first | exact h | cases h

theorem veEnd_del {v : Ve} (h : veEnd v = true) (hd : v.d = true) : v.a = 0 ∧ v.b = 0 ∧ v.c = 0 := by
  unfold veEnd at h
  rw [hd, cond_true] at h
  simp only [Bool.cond_eq_ite] at h
  repeat' split at h
  all_goals first | cases h | skip
  rename_i h1 h2 h3
  simp only [beq_iff_eq] at h1 h2 h3
  exact ⟨h1, h2, h3⟩

theorem veEnd_live {v : Ve} (h : veEnd v = true) (hd : v.d = false) : v.e = 0 := by
  unfold veEnd at h
  rw [hd] at h
  simpa using h

theorem rfillP_of {p : Pg} {v : Ve} (hp : p.ok) (hv : v.ok) (h : veOK v = true) (hk : tK p.a = 1) : rfillP p v = fillP p v := by
  have e : (2 : Int) ^ 32 = 4294967296 := by decide
  have hkey : IntKind.wrap .u64 (IntKind.wrap .u64 v.k + IntKind.wrap .u64 (IntKind.wrap .u64 (packP v.l v.g) * 2 ^ 32)) = keyW v.k (packP v.l v.g) := by
    obtain ⟨k1, k2⟩ := hv.k
    obtain ⟨p1, p2⟩ := packP_R v.l v.g
    rw [keyW_of hv.k (packP_R _ _), e, u64_in (n := v.k) (by omega) (by omega), u64_in (n := packP v.l v.g) (by omega) (by omega), u64_in (n := packP v.l v.g * 4294967296) (by omega) (by omega), u64_in (by omega) (by omega)]
  unfold rfillP fillP
  rw [hkey, rGen_of hp.a, rTag_of _ _ (x := 1) ⟨by decide, by decide⟩, rTag_of _ _ (x := 0) ⟨by decide, by decide⟩, hk]
  cases hd : v.d with
  | false => rfl
  | true =>
    obtain ⟨_, h2, h3⟩ := veEnd_del (veOK_end h) hd
    rw [h2, h3]
    rfl

theorem rwriteP_of {p : Pg} {v : Ve} (hp : p.ok) (hv : v.ok) : rwriteP p v = writeP p v := by
  unfold rwriteP writeP
  rw [rveOK_of hv, rKind_of hp.a]
  cases h : veOK v with
  | false => rfl
  | true =>
    by_cases hk : tK p.a = 1
    · rw [rfillP_of hp hv h hk]
    · have e : (tK p.a != 1) = true := by simpa using hk
      rw [e]; rfl

end Go.Sp

namespace Go.Proofs.Ytjbmpimclagfoaa
open Go.Eng Go.Sp

/-- A version and a code. -/
def vc2 (v : Ve) (c : Int) : DRes := .tup [v.t, ri c]

theorem read_sem (p : Pg) : FnSem Try.prog 39 [p.t] (vc2 (readV p) (readC p)) := by
  refine sem E9_ok (lf := 10) (depth := 10) ?_
  have h : callD T E9 F 10 10 39 [p.t] some = readT p fun v c => some (vc2 v c) := by kernel_rfl
  rw [h, readT_eq]

theorem rread_sem (p : Pg) : FnSem Try.prog 67 [p.t] (vc2 (rreadV p) (rreadC p)) := by
  refine sem E9_ok (lf := 10) (depth := 10) ?_
  have h : callD T E9 F 10 10 67 [p.t] some = (bif rKind p.a != 1 then some (vc2 .zero 14) else bif decide (tX p.a > 1) then some (vc2 .zero 14) else bif p.g != 0 then some (vc2 .zero 14) else
    bif pwd p.b == 0 then rbodyT p (fun v c => some (vc2 v c)) else bif !validP (runL (pwd p.b)) (runG (pwd p.b)) then some (vc2 .zero 14) else rbodyT p (fun v c => some (vc2 v c))) := by kernel_rfl
  rw [h]
  exact rreadT_eq p fun v c => some (vc2 v c)

theorem write_sem (p : Pg) (v : Ve) : FnSem Try.prog 35 [p.t, v.t] (pc2 (writeP p v) (writeC p v)) := by
  refine sem E9_ok (lf := 10) (depth := 10) ?_
  have h : callD T E9 F 10 10 35 [p.t, v.t] some = (bif !veOK v then some (pc2 .zero 1) else bif tK p.a != 1 then some (pc2 .zero 1) else some (pc2 (fillP p v) 0)) := by kernel_rfl
  rw [h]
  unfold writeP writeC
  cases veOK v <;> cases tK p.a != 1 <;> rfl

theorem rwrite_sem (p : Pg) (v : Ve) : FnSem Try.prog 68 [p.t, v.t] (pc2 (rwriteP p v) (rwriteC p v)) := by
  refine sem E9_ok (lf := 10) (depth := 10) ?_
  have h : callD T E9 F 10 10 68 [p.t, v.t] some = (bif !rveOK v then some (pc2 .zero 1) else bif rKind p.a != 1 then some (pc2 .zero 1) else
      bif v.d then bif v.d then some (pc2 ⟨p.l, p.h, rTag 1 (rGen p.a) 1, IntKind.wrap .u64 (IntKind.wrap .u64 v.k + IntKind.wrap .u64 (IntKind.wrap .u64 (packP v.l v.g) * 2 ^ 32)), IntKind.wrap .u64 v.e, 0, 0, v.s, 0⟩ 0)
          else some (pc2 ⟨p.l, p.h, rTag 1 (rGen p.a) 1, IntKind.wrap .u64 (IntKind.wrap .u64 v.k + IntKind.wrap .u64 (IntKind.wrap .u64 (packP v.l v.g) * 2 ^ 32)), IntKind.wrap .u64 v.a, IntKind.wrap .u64 v.b, IntKind.wrap .u64 v.c, v.s, 0⟩ 0)
        else bif v.d then some (pc2 ⟨p.l, p.h, rTag 1 (rGen p.a) 0, IntKind.wrap .u64 (IntKind.wrap .u64 v.k + IntKind.wrap .u64 (IntKind.wrap .u64 (packP v.l v.g) * 2 ^ 32)), IntKind.wrap .u64 v.e, 0, 0, v.s, 0⟩ 0)
          else some (pc2 ⟨p.l, p.h, rTag 1 (rGen p.a) 0, IntKind.wrap .u64 (IntKind.wrap .u64 v.k + IntKind.wrap .u64 (IntKind.wrap .u64 (packP v.l v.g) * 2 ^ 32)), IntKind.wrap .u64 v.a, IntKind.wrap .u64 v.b, IntKind.wrap .u64 v.c, v.s, 0⟩ 0)) := by kernel_rfl
  rw [h]
  unfold rwriteP rwriteC rfillP
  cases rveOK v <;> cases rKind p.a != 1 <;> cases v.d <;> rfl

theorem ref21_sem (v : Ve) : FnSem Try.prog 69 [v.t] (.v v.t) :=
  sem E9_ok (lf := 10) (depth := 10) (by kernel_rfl)

def veRS (f : Ve → DRes) : List D1 → Option DRes
  | [x] => match toVe x with
    | some v => some (f v)
    | none => none
  | _ => none

theorem veRS_ok {n : Nat} {f : Ve → DRes} (h0 : ∀ v : Ve, FnSem Try.prog n [v.t] (f v)) : ∀ l d, veRS f l = some d → FnSem Try.prog n l d := fun l d h => by
  unfold veRS at h
  split at h
  · split at h
    · rename_i hp; simp only [Option.some.injEq] at h; subst h; rw [toVe_some hp]; exact h0 _
    · cases h
  · cases h

/-- E9, and reading and writing. -/
def E10 : Env := (39, tot (pgS fun p => vc2 (readV p) (readC p))) :: (67, tot (pgS fun p => vc2 (rreadV p) (rreadC p))) :: (35, tot (pvS fun p v => pc2 (writeP p v) (writeC p v))) :: (68, tot (pvS fun p v => pc2 (rwriteP p v) (rwriteC p v))) :: (69, tot (veRS fun v => .v v.t)) :: E9
theorem E10_ok : EnvOK Try.prog E10 := .cons (pgS_ok read_sem) (.cons (pgS_ok rread_sem) (.cons (pvS_ok write_sem) (.cons (pvS_ok rwrite_sem) (.cons (veRS_ok ref21_sem) E9_ok))))

end Go.Proofs.Ytjbmpimclagfoaa
