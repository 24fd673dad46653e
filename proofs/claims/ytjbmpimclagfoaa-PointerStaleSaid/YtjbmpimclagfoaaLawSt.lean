/-
  PointerStale: the loop over the uses of a page, and the law.
-/
import Derived.Test.YtjbmpimclagfoaaLawStA
namespace Go.Sp
open Go.Eng

/-- A free page of that generation. -/
def fp (l g : Int) : Pg := ⟨l, 512, g * 256, 0, 0, 0, 0, 0, 0⟩
/-- The page in its next use, with words. -/
def up (l g k x : Int) (w : Pg) : Pg := ⟨l, 512, k + (g + 1) * 256 + x * 4294967296, w.b, w.c, w.d, w.e, w.f, w.g⟩

theorem lock512 : lockP 512 = false := by
  rw [(lock_of (h := 512) (by decide) (by decide)).1]; rfl

section
variable {l g k x : Int} (w : Pg) (hl : 104 ≤ l) (hl2 : l < 256) (hg : 0 ≤ g) (hg2 : g + 1 ≤ 16777214) (hk : 1 ≤ k) (hk2 : k ≤ 4) (hx : rU32 x)

theorem fp_tag (hg : 0 ≤ g) (hg2 : g + 1 ≤ 16777214) : tK (g * 256) = 0 ∧ tG (g * 256) = g := by
  obtain ⟨h1, h2, _⟩ := t_of (t := g * 256) (by omega) (by omega)
  exact ⟨by rw [h1]; omega, by rw [h2]; omega⟩

include hg hg2 hk hk2 hx in
theorem up_tag : tK (k + (g + 1) * 256 + x * 4294967296) = k ∧ tG (k + (g + 1) * 256 + x * 4294967296) = g + 1 := by
  obtain ⟨x1, x2⟩ := hx
  obtain ⟨h1, h2, _⟩ := t_of (t := k + (g + 1) * 256 + x * 4294967296) (by omega) (by omega)
  exact ⟨by rw [h1]; omega, by rw [h2]; omega⟩

include hl hl2 hg hg2 hk hk2 in
theorem fp_alloc : allocC (fp l g) k = 0 := by
  obtain ⟨h1, h2⟩ := fp_tag hg hg2
  unfold allocC fp
  have e2 : decide (l ≥ 104) = true := decide_eq_true (by omega)
  have e3 : decide (l < 256) = true := decide_eq_true (by omega)
  have e4 : decide (k < 1) = false := decide_eq_false (by omega)
  have e5 : decide (k > 4) = false := decide_eq_false (by omega)
  have e6 : (g == 16777215) = false := by simp; omega
  simp only [e2, e3, e4, e5, lock512, h1, h2, e6, cond_true, cond_false, Bool.not_true, bne_self_eq_false]

include hl hl2 hg hg2 hk hk2 hx in
theorem fp_allocP : allocP (fp l g) k x = ⟨l, 512, k + (g + 1) * 256 + x * 4294967296, 0, 0, 0, 0, 0, 0⟩ := by
  obtain ⟨h1, h2⟩ := fp_tag hg hg2
  unfold allocP
  rw [fp_alloc hl hl2 hg hg2 hk hk2]
  have e : tagP k (IntKind.wrap .i64 (tG (fp l g).a + 1)) x = k + (g + 1) * 256 + x * 4294967296 := by
    have : (fp l g).a = g * 256 := rfl
    rw [this, h2, i64_in (by omega) (by omega), tag_of _ _ hx.1 hx.2]
    omega
  rw [e]
  rfl

include hg hg2 hk hk2 hx in
theorem up_gen : genP (k + (g + 1) * 256 + x * 4294967296) = g + 1 := (up_tag hg hg2 hk hk2 hx).2

theorem look_one (_ : Bool) (q : Pg) (y : Int) : latB [q] y = (q.l == y) ∧ (q.l = y → latP [q] y = q) := by
  refine ⟨?_, fun h => ?_⟩
  · unfold latB; simp only [latest]; cases q.l == y <;> rfl
  · unfold latP
    simp [latest, h]

include hl hl2 hg hg2 hk hk2 hx in
theorem up_look : lookB true [up l g k x w] l (g + 1) k = true ∧ lookC true [up l g k x w] l (g + 1) k = 0 := by
  obtain ⟨h1, h2⟩ := up_tag hg hg2 hk hk2 hx
  have hv : validP l (g + 1) = true := decide_eq_true (by omega)
  have hb : latB [up l g k x w] l = true := by rw [(look_one true _ _).1]; exact beq_self_eq_true l
  have hp : latP [up l g k x w] l = up l g k x w := (look_one true _ _).2 rfl
  have e1 : (k == 0) = false := by simp; omega
  unfold lookB lookC lookT
  simp only [hv, hb, hp]
  unfold up
  simp only [lock512, h1, h2, e1, cond_true, cond_false, Bool.not_true, bne_self_eq_false, and_self]

include hl hl2 hg hg2 hk hk2 hx in
theorem up_old {y : Int} (hy : 1 ≤ y) (hy2 : y ≤ g) : lookB true [up l g k x w] l y k = false ∧ lookC true [up l g k x w] l y k = 11 := by
  obtain ⟨h1, h2⟩ := up_tag hg hg2 hk hk2 hx
  have hv : validP l y = true := decide_eq_true (by omega)
  have hb : latB [up l g k x w] l = true := by rw [(look_one true _ _).1]; exact beq_self_eq_true l
  have hp : latP [up l g k x w] l = up l g k x w := (look_one true _ _).2 rfl
  have e1 : (k == 0) = false := by simp; omega
  have e2 : (g + 1 != y) = true := by simp; omega
  unfold lookB lookC lookT
  simp only [hv, hb, hp]
  unfold up
  simp only [lock512, h1, h2, e1, e2, cond_true, cond_false, Bool.not_true, and_self]

include hl hl2 hg hg2 hk hk2 hx in
theorem up_rel : relC (up l g k x w) = 0 ∧ relP (up l g k x w) = fp l (g + 1) := by
  obtain ⟨h1, h2⟩ := up_tag hg hg2 hk hk2 hx
  have e1 : (k == 0) = false := by simp; omega
  have e2 : decide (l ≥ 104) = true := decide_eq_true (by omega)
  have e3 : decide (l < 256) = true := decide_eq_true (by omega)
  have hc : relC (up l g k x w) = 0 := by
    unfold relC up
    simp only [e2, e3, lock512, h1, e1, cond_true, cond_false, Bool.not_true]
  refine ⟨hc, ?_⟩
  unfold relP
  rw [hc]
  have e : tagP 0 (tG (up l g k x w).a) 0 = (g + 1) * 256 := by
    have : (up l g k x w).a = k + (g + 1) * 256 + x * 4294967296 := rfl
    rw [this, h2, tag_of _ _ (by decide) (by decide)]
    omega
  rw [e]
  rfl

include hl hl2 hg hg2 in
theorem fp_peek : lookB false [fp l (g + 1)] l (g + 1) k = false ∧ lookC false [fp l (g + 1)] l (g + 1) k = 11 := by
  have h1 : tK ((g + 1) * 256) = 0 := by
    rw [(t_of (t := (g + 1) * 256) (by omega) (by omega)).1]; omega
  have hv : validP l (g + 1) = true := decide_eq_true (by omega)
  have hb : latB [fp l (g + 1)] l = true := by rw [(look_one true _ _).1]; exact beq_self_eq_true l
  have hp : latP [fp l (g + 1)] l = fp l (g + 1) := (look_one true _ _).2 rfl
  unfold lookB lookC lookT
  simp only [hv, hb, hp]
  unfold fp
  simp only [h1, cond_true, cond_false, Bool.not_true, beq_self_eq_true, and_self]
end

end Go.Sp
namespace Go.Proofs.Ytjbmpimclagfoaa
open Go.Eng Go.Sp Go.RowKit

def H8 (xs os : List (List PC)) (w p : Pg) (i : Int) : St := ⟨[(2, some (.v (.one (.whole (2, 1000))))), (7, some (.v (.one (.ptr (7, 0) 0 0 false)))), (9, some (.v (.one (.ptr (9, 0) 0 0 false)))), (11, some (.v (.one (.whole (11, 2000))))), (12, some (.v (.one (.int .i64 i))))],
  [((2, 1000), some (.arr false 1 (.sp [some .i64] xs))), ((7, 0), some (.var (wcs w))), ((9, 0), some (.var p.cs)), ((11, 2000), some (.arr true 2 (.sp [some .i64, some .i64] os)))], 175⟩
def H8n (xs : List (List PC)) (w p : Pg) (i : Int) : St := ⟨[(2, some (.v (.one (.whole (2, 1000))))), (7, some (.v (.one (.ptr (7, 0) 0 0 false)))), (9, some (.v (.one (.ptr (9, 0) 0 0 false)))), (11, some (.v (.one .nils))), (12, some (.v (.one (.int .i64 i))))],
  [((2, 1000), some (.arr false 1 (.sp [some .i64] xs))), ((7, 0), some (.var (wcs w))), ((9, 0), some (.var p.cs))], 175⟩
def X8 : St := ⟨[], [], 175⟩

noncomputable def an15b : Ann := annP 15 [(25, sum25)] [8]

/-- One use of a page; behind it 'g'. -/
def useT (p w : Pg) (K x : Int) (ret : Ans) (mid : Pg → Int → Int → Ans → Ans) (g : Pg → Int → Int → Ans) : Ans :=
  bif allocC p K != 0 then ret else bif (allocP p K x).l != p.l then ret else bif (allocP p K x).h != p.h then ret else bif (allocP p K x).b != 0 then ret else bif (allocP p K x).c != 0 then ret else
  bif (allocP p K x).d != 0 then ret else bif (allocP p K x).e != 0 then ret else bif (allocP p K x).f != 0 then ret else bif (allocP p K x).g != 0 then ret else
  bif !lookB true [⟨(allocP p K x).l, (allocP p K x).h, (allocP p K x).a, w.b, w.c, w.d, w.e, w.f, w.g⟩] (allocP p K x).l (genP (allocP p K x).a) K then ret else
  bif lookC true [⟨(allocP p K x).l, (allocP p K x).h, (allocP p K x).a, w.b, w.c, w.d, w.e, w.f, w.g⟩] (allocP p K x).l (genP (allocP p K x).a) K != 0 then ret else
  mid ⟨(allocP p K x).l, (allocP p K x).h, (allocP p K x).a, w.b, w.c, w.d, w.e, w.f, w.g⟩ (allocP p K x).l (genP (allocP p K x).a) (
  bif relC ⟨(allocP p K x).l, (allocP p K x).h, (allocP p K x).a, w.b, w.c, w.d, w.e, w.f, w.g⟩ != 0 then ret else
  bif lookB false [relP ⟨(allocP p K x).l, (allocP p K x).h, (allocP p K x).a, w.b, w.c, w.d, w.e, w.f, w.g⟩] (allocP p K x).l (genP (allocP p K x).a) K then ret else
  bif lookC false [relP ⟨(allocP p K x).l, (allocP p K x).h, (allocP p K x).a, w.b, w.c, w.d, w.e, w.f, w.g⟩] (allocP p K x).l (genP (allocP p K x).a) K != 11 then ret else
  g (relP ⟨(allocP p K x).l, (allocP p K x).h, (allocP p K x).a, w.b, w.c, w.d, w.e, w.f, w.g⟩) (allocP p K x).l (genP (allocP p K x).a))

theorem useT_eq {l g k x : Int} (w : Pg) (hl : 104 ≤ l) (hl2 : l < 256) (hg : 0 ≤ g) (hg2 : g + 1 ≤ 16777214) (hk : 1 ≤ k) (hk2 : k ≤ 4) (hx : rU32 x) (ret : Ans) (mid : Pg → Int → Int → Ans → Ans) (f : Pg → Int → Int → Ans) :
    useT (fp l g) w k x ret mid f = mid (up l g k x w) l (g + 1) (f (fp l (g + 1)) l (g + 1)) := by
  obtain ⟨h1, h2⟩ := up_look (l := l) w hl hl2 hg hg2 hk hk2 hx
  obtain ⟨h3, h4⟩ := up_rel (l := l) w hl hl2 hg hg2 hk hk2 hx
  obtain ⟨h5, h6⟩ := fp_peek (k := k) hl hl2 hg hg2
  have h7 := up_gen hg hg2 hk hk2 hx
  unfold useT
  rw [fp_allocP hl hl2 hg hg2 hk hk2 hx, fp_alloc hl hl2 hg hg2 hk hk2]
  simp only [h7]
  change (bif (0 : Int) != 0 then ret else bif l != (fp l g).l then ret else bif (512 : Int) != (fp l g).h then ret else bif (0 : Int) != 0 then ret else bif (0 : Int) != 0 then ret else bif (0 : Int) != 0 then ret else bif (0 : Int) != 0 then ret else bif (0 : Int) != 0 then ret else bif (0 : Int) != 0 then ret else
    bif !lookB true [up l g k x w] l (g + 1) k then ret else bif lookC true [up l g k x w] l (g + 1) k != 0 then ret else mid (up l g k x w) l (g + 1) (bif relC (up l g k x w) != 0 then ret else
    bif lookB false [relP (up l g k x w)] l (g + 1) k then ret else bif lookC false [relP (up l g k x w)] l (g + 1) k != 11 then ret else f (relP (up l g k x w)) l (g + 1))) = _
  have e1 : (fp l g).l = l := rfl
  have e2 : (fp l g).h = 512 := rfl
  rw [h1, h2, h3, h4, h5, h6, e1, e2]
  simp only [bne_self_eq_false, cond_false, Bool.not_true]

theorem step8 (xs os : List (List PC)) (w p : Pg) (i : Int) (G : St → Ans) (k : Ex → St → Ans) :
    evalC ⟨T.l, []⟩ (callD T E6 F 10 10) an15b 10 body8 (H8 xs os w p i) (fun e s' => match e with | .normal => atHead an15b 8 s' G | e => compact [] s' (k e)) =
      (bif decide (i < (xs.length : Int)) then bif decide (0 ≤ i ∧ i < (xs.length : Int)) then bif rowIs [some .i64] xs i.toNat then
        useT p w (IntKind.wrap .i64 (1 + pick (intCell xs i.toNat 0) 4)) (IntKind.wrap .u32 i) (k .ret X8)
          (fun q l g c => bif prsOK os then bif oldsOK (prsOf os) q (IntKind.wrap .i64 (1 + pick (intCell xs i.toNat 0) 4)) l g then bif decide ((os.length + 1) * 16 ≤ 140737488355328) then c else none else none else none)
          (fun r l g => G (H8 xs (os ++ [pr (l, g)]) w r (IntKind.wrap .i64 (i + 1)))) else none else none
       else k (.exit 0) X8) := by kernel_rfl

theorem step8n (xs : List (List PC)) (w p : Pg) (i : Int) (G : St → Ans) (k : Ex → St → Ans) :
    evalC ⟨T.l, []⟩ (callD T E6 F 10 10) an15b 10 body8 (H8n xs w p i) (fun e s' => match e with | .normal => atHead an15b 8 s' G | e => compact [] s' (k e)) =
      (bif decide (i < (xs.length : Int)) then bif decide (0 ≤ i ∧ i < (xs.length : Int)) then bif rowIs [some .i64] xs i.toNat then
        useT p w (IntKind.wrap .i64 (1 + pick (intCell xs i.toNat 0) 4)) (IntKind.wrap .u32 i) (k .ret X8)
          (fun _ _ _ c => c)
          (fun r l g => G (H8 xs [pr (l, g)] w r (IntKind.wrap .i64 (i + 1)))) else none else none
       else k (.exit 0) X8) := by kernel_rfl

theorem olds_up {l g k x : Int} {w : Pg} {os : List (Int × Int)} (hl : 104 ≤ l) (hl2 : l < 256) (hg : 0 ≤ g) (hg2 : g + 1 ≤ 16777214) (hk : 1 ≤ k) (hk2 : k ≤ 4) (hx : rU32 x) (ho : ∀ y ∈ os, y.1 = l ∧ 1 ≤ y.2 ∧ y.2 ≤ g) : oldsOK os (up l g k x w) k l (g + 1) = true := by
  unfold oldsOK
  rw [List.all_eq_true]
  intro y hy
  obtain ⟨h1, h2, h3⟩ := ho y hy
  obtain ⟨h4, h5⟩ := up_old (l := l) w hl hl2 hg hg2 hk hk2 hx h2 h3
  have e : (y.2 == g + 1) = false := by simp; omega
  rw [h1, h4, h5, e]
  cases l == l <;> rfl

theorem pick4 (n : Int) : 1 ≤ IntKind.wrap .i64 (1 + pick n 4) ∧ IntKind.wrap .i64 (1 + pick n 4) ≤ 4 := by
  rw [pick_eq (by decide) (by decide), i64_in (by omega) (by omega)]; omega

theorem wrap_rU32 (n : Int) : rU32 (IntKind.wrap .u32 n) := by unfold rU32; rw [IntKind.wrap_u32]; omega

theorem run8 (xs : List Int) (hx : xs.length ≤ 12) (w : Pg) {l g0 : Int} (hl : 104 ≤ l) (hl2 : l < 256) (hg : 0 ≤ g0) (hg2 : g0 ≤ 16777194) (k : Ex → St → Ans) : ∀ (m i : Nat) (os : List (Int × Int)), i + m = xs.length → os.length ≤ i → (∀ y ∈ os, y.1 = l ∧ 1 ≤ y.2 ∧ y.2 ≤ g0 + i) →
    gN ⟨T.l, []⟩ (callD T E6 F 10 10) an15b 10 8 body8 (fun e s' => compact [] s' (k e)) (m + 1) (H8 (xs.map ir) (os.map pr) w (fp l (g0 + i)) i) = k (.exit 0) X8 := by
  intro m
  induction m with
  | zero =>
    intro i os hi _ _
    rw [gN]
    refine (step8 _ _ _ _ _ _ _).trans ?_
    rw [List.length_map, decide_eq_false (by omega)]
    rfl
  | succ m ih =>
    intro i os hi hos ho
    have hlt : i < xs.length := by omega
    rw [gN]
    refine (step8 _ _ _ _ _ _ _).trans ?_
    have e3 : IntKind.wrap .i64 ((i : Int) + 1) = ((i + 1 : Nat) : Int) := by rw [i64_in (by omega) (by omega)]; rfl
    obtain ⟨k1, k2⟩ := pick4 (intCell (xs.map ir) i 0)
    rw [List.length_map, decide_eq_true (show (i : Int) < (xs.length : Int) by omega), decide_eq_true (show 0 ≤ (i : Int) ∧ (i : Int) < (xs.length : Int) by omega), Int.toNat_natCast, rowIs_ir hlt,
      useT_eq w hl hl2 (by omega) (by omega) k1 k2 (wrap_rU32 _), prsOK_map (by omega), prsOf_map, olds_up hl hl2 (by omega) (by omega) k1 k2 (wrap_rU32 _) ho, List.length_map, decide_eq_true (show (os.length + 1) * 16 ≤ 140737488355328 by omega), e3]
    have := ih (i + 1) (os ++ [(l, g0 + i + 1)]) (by omega) (by simp only [List.length_append, List.length_cons, List.length_nil]; omega) (fun y hy => by
      rcases List.mem_append.1 hy with hy | hy
      · obtain ⟨a1, a2, a3⟩ := ho y hy
        exact ⟨a1, a2, by omega⟩
      · obtain rfl := List.mem_singleton.1 hy
        exact ⟨rfl, by simp only; omega, by simp only; omega⟩)
    rw [List.map_append, show g0 + ((i + 1 : Nat) : Int) = g0 + i + 1 by omega] at this
    exact this

def sum8 : St → (Ex → St → Ans) → Ans
  | ⟨[(2, some (.v (.one (.whole (2, 1000))))), (7, some (.v (.one (.ptr (7, 0) 0 0 false)))), (9, some (.v (.one (.ptr (9, 0) 0 0 false)))), (11, some (.v (.one .nils))), (12, some (.v (.one (.int .i64 i))))],
      [((2, 1000), some (.arr false 1 (.sp kx xs))), ((7, 0), some (.var cw)), ((9, 0), some (.var cp))], 175⟩, k =>
    match asWs cw, asPg cp with
    | some _, some p => cond (decide (kx = [some .i64] ∧ i = 0)) (cond (intsOK xs) (cond (decide (1 ≤ xs.length ∧ xs.length ≤ 12 ∧ 104 ≤ p.l ∧ p.l < 256 ∧ p.h = 512 ∧ 0 ≤ p.a ∧ p.a % 256 = 0 ∧ p.a / 256 ≤ 16777194 ∧ p.b = 0 ∧ p.c = 0 ∧ p.d = 0 ∧ p.e = 0 ∧ p.f = 0 ∧ p.g = 0)) (k (.exit 0) X8) none) none) none
    | _, _ => none
  | _, _ => none

theorem sum8_ok : SumOK Try.prog body8 sum8 := by
  refine SumOK.of (T := ⟨T.l, []⟩) (call := callD T E6 F 10 10) (an := an15b) (lf := 10) (id := 8) (ls := []) (tok.dyn []) (callOK6 10 10) mixed (SumsOK.in (l := [bodyL 16 Try.f15, body25]) (by kernel_rfl) (fun b hb => ?_)) ?_
  · rcases List.mem_cons.1 hb with rfl | hb
    · exact GoodL.none (by kernel_rfl)
    · obtain rfl := List.mem_singleton.1 hb
      exact GoodL.some (f := sum25) (by kernel_rfl) sum25_ok
  intro s k r h
  unfold sum8 at h
  split at h
  case h_2 => cases h
  case h_1 k' i kx xs cw cp =>
    split at h
    case h_2 => cases h
    case h_1 w p hw hp =>
      obtain ⟨h0, g0⟩ := cond_none h
      obtain ⟨h1, g1⟩ := cond_none g0
      obtain ⟨h2, g2⟩ := cond_none g1
      clear h g0 g1
      obtain ⟨h5, h7⟩ := of_decide_eq_true h0
      subst h5 h7
      obtain ⟨b1, b2, b3, b4, b5, b6, b7, b8, b9, b10, b11, b12, b13, b14⟩ := of_decide_eq_true h2
      obtain rfl := asWs_some hw
      obtain rfl := asPg_some hp
      obtain ⟨h3, h4⟩ := intsOK_some h1
      obtain ⟨ys, hys⟩ : ∃ ys : List Int, xs = ys.map ir := ⟨_, h3⟩
      subst hys
      rw [List.length_map] at h4 b1 b2
      have hfp : p = fp p.l (p.a / 256) := Pg.ext' rfl b5 (by show p.a = p.a / 256 * 256; omega) b9 b10 b11 b12 b13 b14
      have hlt : 0 < ys.length := b1
      obtain ⟨n, hn⟩ : ∃ n, ys.length = n + 1 := ⟨ys.length - 1, by omega⟩
      refine ⟨(n + 1) + 1, ?_⟩
      rw [hfp, gN]
      refine (step8n _ _ _ _ _ _).trans ?_
      obtain ⟨k1, k2⟩ := pick4 (intCell (ys.map ir) 0 0)
      have e3 : IntKind.wrap .i64 ((0 : Int) + 1) = ((1 : Nat) : Int) := by rw [i64_in (by omega) (by omega)]; rfl
      rw [List.length_map, decide_eq_true (show (0 : Int) < (ys.length : Int) by omega), decide_eq_true (show 0 ≤ (0 : Int) ∧ (0 : Int) < (ys.length : Int) by omega), show (0 : Int).toNat = 0 from rfl, rowIs_ir hlt,
        useT_eq w b3 b4 (by omega) (by omega) k1 k2 (wrap_rU32 _), e3]
      have := run8 ys b2 w b3 b4 (g0 := p.a / 256) (by omega) b8 k n 1 [(p.l, p.a / 256 + 1)] (by omega) (Nat.le_refl _) (fun y hy => by
        obtain rfl := List.mem_singleton.1 hy
        exact ⟨rfl, by simp only; omega, by simp only; omega⟩)
      have e4 : p.a / 256 + ((1 : Nat) : Int) = p.a / 256 + 1 := rfl
      rw [e4, List.map_cons, List.map_nil] at this
      rw [cond_true, cond_true, cond_true]
      exact this.trans g2

theorem stale_sem (line gen : Int) (xs : List Int) (w : Pg) : FnSem Try.prog 15 [ri line, ri gen, .one (.sl 1 (.sp [some .i64] (xs.map ir))),
    .agg [.pc (.int .u64 w.a), .pc (.int .u64 w.b), .pc (.int .u64 w.c), .pc (.int .u64 w.d), .pc (.int .u64 w.e), .pc (.int .u64 w.f), .pc (.int .u64 w.g)]] (.v (.one (.pc (.bool true)))) := by
  refine semL (E := E6) E6_ok (lf := 10) (lf' := 10) (depth := 10) (an := annP 15 [(8, sum8)] [8]) Try.func15 (by kernel_rfl) (SumsOK.fn (l := [body8, bodyL 16 Try.f15, body25]) (by kernel_rfl) (fun b hb => ?_)) ?_
  · rcases List.mem_cons.1 hb with rfl | hb
    · exact GoodL.some (f := sum8) (by kernel_rfl) sum8_ok
    · rcases List.mem_cons.1 hb with rfl | hb
      · exact GoodL.none (by kernel_rfl)
      · obtain rfl := List.mem_singleton.1 hb
        exact GoodL.none (by kernel_rfl)
  · have h : ∀ (l : List (List PC)) (L A : Int), IntKind.wrap .i64 (104 + pick line 152) = L → tagP 0 (pick gen 16777195) 0 = A → evalFn T (callD T E6 F 10 10) (annP 15 [(8, sum8)] [8]) 10 Try.f15 [ri line, ri gen, .one (.sl 1 (.sp [some .i64] l)),
        .agg [.pc (.int .u64 w.a), .pc (.int .u64 w.b), .pc (.int .u64 w.c), .pc (.int .u64 w.d), .pc (.int .u64 w.e), .pc (.int .u64 w.f), .pc (.int .u64 w.g)]] some =
        (bif (l.length : Int) == 0 then bs true else bif decide ((l.length : Int) > 12) then bs true else bif intsOK l then
          bif decide (1 ≤ l.length ∧ l.length ≤ 12 ∧ 104 ≤ L ∧ L < 256 ∧ (512 : Int) = 512 ∧ 0 ≤ A ∧ A % 256 = 0 ∧ A / 256 ≤ 16777194 ∧ (0 : Int) = 0 ∧ (0 : Int) = 0 ∧ (0 : Int) = 0 ∧ (0 : Int) = 0 ∧ (0 : Int) = 0 ∧ (0 : Int) = 0) then bs true else none else none) := by
      intro l L A h1 h2
      subst h1 h2
      kernel_rfl
    have p1 : pick line 152 = line % 152 := pick_eq (by decide) (by decide)
    have p2 : pick gen 16777195 = gen % 16777195 := pick_eq (by decide) (by decide)
    have e2 : tagP 0 (pick gen 16777195) 0 = gen % 16777195 * 256 := by rw [p2, tag_of _ _ (by decide) (by decide)]; omega
    rw [h _ _ _ (by rw [p1, i64_in (by omega) (by omega)]) e2, List.length_map]
    refine bif_elim (fun _ => rfl) fun h1 => bif_elim (fun _ => rfl) fun h2 => ?_
    have h2 := of_decide_eq_false h2
    have h1 : ¬ (xs.length : Int) = 0 := by simpa using h1
    rw [intsOK_map (by omega), decide_eq_true (by refine ⟨by omega, by omega, by omega, by omega, rfl, by omega, by omega, by omega, rfl, rfl, rfl, rfl, rfl, rfl⟩)]
    rfl

-- the law
set_option maxRecDepth 100000 in
theorem stale_lifted (os : Os) (started : os.Started) (H : Type) (enc : TypeId × Value → H) :
    ReturnsInHanded {} Try.checked os 15 .any (Rows.pointerStaleSpec.pre6 enc Try.prog Try.f15 Rows.pointerStaleRow.domain false) (Rows.pointerStaleSpec.post enc Try.prog Try.f15 false true false false) :=
  law_lifted (C := Try.checked) (s := Rows.pointerStaleSpec) (conds := Rows.pointerStaleRow.domain) (apart := false) (fresh := true) (handsOn := false) (again := false) own started (by kernel_rfl) Try.func15
    (ChangeSpec.witness6 (enc := enc) (C := Try.checked) false ⟨#[], #[.int .i64 0, .int .i64 0, .slice none 0 0, .agg #[.int .u64 0, .int .u64 0, .int .u64 0, .int .u64 0, .int .u64 0, .int .u64 0, .int .u64 0]], []⟩ 8 (by kernel_rfl) (by kernel_rfl) (by kernel_rfl) (by kernel_rfl))
    laid (fun t ht => List.all_eq_true.1 (show (Try.f15.params.toList.all fun t => argB Try.prog t) = true by kernel_rfl) t ht) (rt := 4) rfl und4 rfl
    (fun ds hds => by
      match ds, hds with
      | [_, _, _, _], _ => rfl)
    (fun l hl => by
      obtain ⟨d1, l1, rfl, h1, hl⟩ := all2_cons hl
      obtain ⟨d2, l2, rfl, h2, hl⟩ := all2_cons hl
      obtain ⟨d3, l3, rfl, h3, hl⟩ := all2_cons hl
      obtain ⟨d4, l4, rfl, h4, hl⟩ := all2_cons hl
      obtain rfl := all2_nil hl
      obtain ⟨line, rfl, _⟩ := h1.int und3
      obtain ⟨gen, rfl, _⟩ := h2.int und3
      obtain ⟨O, xs, rfl, ho, _⟩ := open_ints h3
      obtain ⟨a, b, c, d, e, f, g, rfl, _⟩ := open_words h4
      exact (stale_sem line gen xs ⟨0, 0, a, b, c, d, e, f, g⟩).same ⟨same_refl _, same_refl _, same_sl ho.symm, same_refl _, trivial⟩
)

theorem stale_law : Rows.PointerStaleSaid :=
  OpenClaim.holds_of_wide 15 Try.f15 rfl rfl rfl rfl rfl rfl rfl ⟨rfl, rfl, rfl, rfl, rfl⟩ rfl rfl rfl rfl rfl (by kernel_rfl) Try.func15 (by kernel_rfl)
    (of_decide_eq_true (by kernel_rfl)) (by unfold Func.isWrapper; first | (rw [if_pos (by decide +kernel)]; kernel_rfl) | (rw [if_neg (by decide +kernel)]; exact ⟨rfl, rfl⟩))
    (fun os started H enc _ => stale_lifted os started H enc)

end Go.Proofs.Ytjbmpimclagfoaa
