/-
  Versions of rows: what they are, and which are valid.
-/
import Derived.Test.YtjbmpimclagfoaaSp9
import Derived.Test.YtjbmpimclagfoaaSp2
namespace Go.Sp
open Go.Eng

/-- A version. -/
structure Ve where
  k : Int
  a : Int
  b : Int
  c : Int
  d : Bool
  e : Int
  s : Int
  l : Int
  g : Int

def Ve.row (v : Ve) : List PC := [.int .u32 v.k, .int .i64 v.a, .int .i64 v.b, .int .i64 v.c, .bool v.d, .int .u32 v.e, .int .u64 v.s, .int .i64 v.l, .int .i64 v.g]
def Ve.t (v : Ve) : D1 := .agg [.pc (.int .u32 v.k), .pc (.int .i64 v.a), .pc (.int .i64 v.b), .pc (.int .i64 v.c), .pc (.bool v.d), .pc (.int .u32 v.e), .pc (.int .u64 v.s), .pc (.int .i64 v.l), .pc (.int .i64 v.g)]
def Ve.cs (v : Ve) : List Cell := [.int .u32 v.k, .int .i64 v.a, .int .i64 v.b, .int .i64 v.c, .bool v.d, .int .u32 v.e, .int .u64 v.s, .int .i64 v.l, .int .i64 v.g]
def Ve.ks : List (Option IntKind) := [some .u32, some .i64, some .i64, some .i64, none, some .u32, some .u64, some .i64, some .i64]
def Ve.zero : Ve := ⟨0, 0, 0, 0, false, 0, 0, 0, 0⟩
structure Ve.ok (v : Ve) : Prop where
  k : rU32 v.k
  a : rI64 v.a
  b : rI64 v.b
  c : rI64 v.c
  e : rU32 v.e
  s : rU64 v.s
  l : rI64 v.l
  g : rI64 v.g

def toVe : D1 → Option Ve
  | .agg [.pc (.int .u32 k), .pc (.int .i64 a), .pc (.int .i64 b), .pc (.int .i64 c), .pc (.bool d), .pc (.int .u32 e), .pc (.int .u64 s), .pc (.int .i64 l), .pc (.int .i64 g)] => some ⟨k, a, b, c, d, e, s, l, g⟩
  | _ => none

theorem toVe_some {x : D1} {v : Ve} (h : toVe x = some v) : x = v.t := by
  unfold toVe at h
  split at h
  · simp only [Option.some.injEq] at h; subst h; rfl
  · cases h

theorem Ve.ext' {p q : Ve} (h1 : p.k = q.k) (h2 : p.a = q.a) (h3 : p.b = q.b) (h4 : p.c = q.c) (h5 : p.d = q.d) (h6 : p.e = q.e) (h7 : p.s = q.s) (h8 : p.l = q.l) (h9 : p.g = q.g) : p = q := by
  cases p; cases q; simp only at h1 h2 h3 h4 h5 h6 h7 h8 h9; subst h1 h2 h3 h4 h5 h6 h7 h8 h9; rfl

theorem Ve.zero_ok : Ve.zero.ok := by
  constructor <;> first | exact ⟨by decide, by decide⟩

/-- No pointer. -/
def nilP (l g : Int) : Bool := bif l == 0 then bif g == 0 then true else false else false
def veEnd (v : Ve) : Bool := bif v.d then bif v.a == 0 then bif v.b == 0 then bif v.c == 0 then true else false else false else false else v.e == 0
/-- Which versions can be stored. -/
def veOK (v : Ve) : Bool := bif decide (v.k < 1) then false else bif decide (v.k > 4294967294) then false else bif !orgO v.s then false else bif !nilP v.l v.g then bif !validP v.l v.g then false else veEnd v else veEnd v
def rveOK (v : Ve) : Bool := bif !refO v.s then false else bif decide (v.k < 1) then false else bif decide (v.k > 4294967294) then false else bif !nilP v.l v.g then bif !validP v.l v.g then false else veEnd v else veEnd v

theorem rveOK_of {v : Ve} (h : v.ok) : rveOK v = veOK v := by
  unfold rveOK veOK
  rw [refO_of h.s.1 h.s.2]
  cases orgO v.s <;> cases decide (v.k < 1) <;> cases decide (v.k > 4294967294) <;> rfl

def keyW (k pk : Int) : Int := Go.bits .or .u64 (IntKind.wrap .u64 k) (IntKind.wrap .u64 (IntKind.wrap .u64 pk * 2 ^ 32))
/-- A page, filled with a version. -/
def fillP (p : Pg) (v : Ve) : Pg := ⟨p.l, p.h, bif v.d then tagP (tK p.a) (tG p.a) 1 else tagP (tK p.a) (tG p.a) 0, keyW v.k (packP v.l v.g), bif v.d then IntKind.wrap .u64 v.e else IntKind.wrap .u64 v.a, IntKind.wrap .u64 v.b, IntKind.wrap .u64 v.c, v.s, 0⟩

end Go.Sp

namespace Go.Proofs.Ytjbmpimclagfoaa
open Go.Eng Go.Sp

/-- E6, and stamps and origins. -/
def E8 : Env := (21, tot originS) :: (22, tot roriginS) :: (24, tot stampS) :: (25, tot rstampS) :: E6
theorem E8_ok : EnvOK Try.prog E8 := .cons originS_ok (.cons roriginS_ok (.cons stampS_ok (.cons rstampS_ok E6_ok)))

theorem veOK_sem (v : Ve) : FnSem Try.prog 70 [v.t] (.v (rb (veOK v))) := by
  refine sem E8_ok (lf := 10) (depth := 10) ?_
  have h : callD T E8 F 10 10 70 [v.t] some =
      (bif decide (v.k < 1) then some (.v (rb false)) else bif decide (v.k > 4294967294) then some (.v (rb false)) else bif !orgO v.s then some (.v (rb false)) else
        bif !nilP v.l v.g then bif !validP v.l v.g then some (.v (rb false)) else bif v.d then some (.v (rb (bif v.a == 0 then bif v.b == 0 then bif v.c == 0 then true else false else false else false))) else some (.v (rb (v.e == 0)))
        else bif v.d then some (.v (rb (bif v.a == 0 then bif v.b == 0 then bif v.c == 0 then true else false else false else false))) else some (.v (rb (v.e == 0)))) := by kernel_rfl
  rw [h]
  unfold veOK veEnd
  repeat' (refine bif_elim (fun h => ?_) (fun h => ?_) <;> simp only [h, cond_true, cond_false])

theorem rveOK_sem (v : Ve) : FnSem Try.prog 71 [v.t] (.v (rb (rveOK v))) := by
  refine sem E8_ok (lf := 10) (depth := 10) ?_
  have h : callD T E8 F 10 10 71 [v.t] some =
      (bif !refO v.s then some (.v (rb false)) else bif decide (v.k < 1) then some (.v (rb false)) else bif decide (v.k > 4294967294) then some (.v (rb false)) else
        bif !nilP v.l v.g then bif !validP v.l v.g then some (.v (rb false)) else bif v.d then some (.v (rb (bif v.a == 0 then bif v.b == 0 then bif v.c == 0 then true else false else false else false))) else some (.v (rb (v.e == 0)))
        else bif v.d then some (.v (rb (bif v.a == 0 then bif v.b == 0 then bif v.c == 0 then true else false else false else false))) else some (.v (rb (v.e == 0)))) := by kernel_rfl
  rw [h]
  unfold rveOK veEnd
  repeat' (refine bif_elim (fun h => ?_) (fun h => ?_) <;> simp only [h, cond_true, cond_false])

theorem fill_sem (p : Pg) (v : Ve) : FnSem Try.prog 78 [p.t, v.t] (.v (fillP p v).t) := by
  refine sem E8_ok (lf := 10) (depth := 10) ?_
  have h : callD T E8 F 10 10 78 [p.t, v.t] some =
      (bif v.d then some (.v (Pg.t ⟨p.l, p.h, tagP (tK p.a) (tG p.a) 1, keyW v.k (packP v.l v.g), IntKind.wrap .u64 v.e, IntKind.wrap .u64 v.b, IntKind.wrap .u64 v.c, v.s, 0⟩))
       else some (.v (Pg.t ⟨p.l, p.h, tagP (tK p.a) (tG p.a) 0, keyW v.k (packP v.l v.g), IntKind.wrap .u64 v.a, IntKind.wrap .u64 v.b, IntKind.wrap .u64 v.c, v.s, 0⟩))) := by kernel_rfl
  rw [h]
  unfold fillP
  cases v.d <;> rfl

def veS (f : Ve → Bool) : List D1 → Option DRes
  | [x] => match toVe x with
    | some v => some (.v (rb (f v)))
    | none => none
  | _ => none

theorem veS_ok {n : Nat} {f : Ve → Bool} (h0 : ∀ v : Ve, FnSem Try.prog n [v.t] (.v (rb (f v)))) : ∀ l d, veS f l = some d → FnSem Try.prog n l d := fun l d h => by
  unfold veS at h
  split at h
  · split at h
    · rename_i hp; simp only [Option.some.injEq] at h; subst h; rw [toVe_some hp]; exact h0 _
    · cases h
  · cases h

def pvS (f : Pg → Ve → DRes) : List D1 → Option DRes
  | [x, y] => match toPg x, toVe y with
    | some p, some v => some (f p v)
    | _, _ => none
  | _ => none

theorem pvS_ok {n : Nat} {f : Pg → Ve → DRes} (h0 : ∀ (p : Pg) (v : Ve), FnSem Try.prog n [p.t, v.t] (f p v)) : ∀ l d, pvS f l = some d → FnSem Try.prog n l d := fun l d h => by
  unfold pvS at h
  split at h
  · split at h
    · rename_i hp hv; simp only [Option.some.injEq] at h; subst h; rw [toPg_some hp, toVe_some hv]; exact h0 _ _
    · cases h
  · cases h

def pgS (f : Pg → DRes) : List D1 → Option DRes
  | [x] => match toPg x with
    | some p => some (f p)
    | none => none
  | _ => none

theorem pgS_ok {n : Nat} {f : Pg → DRes} (h0 : ∀ (p : Pg), FnSem Try.prog n [p.t] (f p)) : ∀ l d, pgS f l = some d → FnSem Try.prog n l d := fun l d h => by
  unfold pgS at h
  split at h
  · split at h
    · rename_i hp; simp only [Option.some.injEq] at h; subst h; rw [toPg_some hp]; exact h0 _
    · cases h
  · cases h

/-- E8, and what versions are valid, and fill. -/
def E9 : Env := (70, tot (veS veOK)) :: (71, tot (veS rveOK)) :: (78, tot (pvS fun p v => .v (fillP p v).t)) :: E8
theorem E9_ok : EnvOK Try.prog E9 := .cons (veS_ok veOK_sem) (.cons (veS_ok rveOK_sem) (.cons (pvS_ok fill_sem) E8_ok))

end Go.Proofs.Ytjbmpimclagfoaa
