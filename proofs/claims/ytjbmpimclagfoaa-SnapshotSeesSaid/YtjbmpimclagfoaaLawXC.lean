/-
  SnapshotSees: the loop that finds an old version's page, whole; the versions that the first loop makes.
-/
import Derived.Test.YtjbmpimclagfoaaLawXB
namespace Go.Sp
open Go.Eng

theorem sget_bound {S : Sq} {n c : Int} (h0 : 0 ≤ c) (h6 : c < 6) (hS : ∀ j, j < 6 → 0 ≤ intAt S.l j ∧ intAt S.l j ≤ n) : 0 ≤ sget S c ∧ sget S c ≤ n := hS _ (by omega)

theorem sinc_bound {S : Sq} {n c : Int} (h0 : 0 ≤ c) (h6 : c < 6) (hn : 0 ≤ n) (hn2 : n ≤ 1000) (hS : ∀ j, j < 6 → 0 ≤ intAt S.l j ∧ intAt S.l j ≤ n) :
    (∀ j, j < 6 → 0 ≤ intAt (sinc S c).l j ∧ intAt (sinc S c).l j ≤ n + 1) ∧ 1 ≤ sget (sinc S c) c ∧ sget (sinc S c) c ≤ n + 1 := by
  obtain ⟨g1, g2⟩ := sget_bound h0 h6 hS
  have e : IntKind.wrap .i64 (sget S c + 1) = sget S c + 1 := i64_in (by omega) (by omega)
  obtain ⟨a1, a2⟩ := hS 0 (by decide)
  obtain ⟨b1, b2⟩ := hS 1 (by decide)
  obtain ⟨c1, c2⟩ := hS 2 (by decide)
  obtain ⟨d1, d2⟩ := hS 3 (by decide)
  obtain ⟨e1, e2⟩ := hS 4 (by decide)
  obtain ⟨f1, f2⟩ := hS 5 (by decide)
  have hb : ∀ (b : Bool) (x : Int), 0 ≤ x → x ≤ n → 0 ≤ (bif b then sget S c + 1 else x) ∧ (bif b then sget S c + 1 else x) ≤ n + 1 := fun b x h1 h2 => by
    cases b
    · exact ⟨h1, by show x ≤ n + 1; omega⟩
    · exact ⟨by show 0 ≤ sget S c + 1; omega, by show sget S c + 1 ≤ n + 1; omega⟩
  constructor
  · intro j hj
    unfold sinc
    rw [e]
    rcases (show j = 0 ∨ j = 1 ∨ j = 2 ∨ j = 3 ∨ j = 4 ∨ j = 5 by omega) with rfl | rfl | rfl | rfl | rfl | rfl
    · exact hb _ _ a1 a2
    · exact hb _ _ b1 b2
    · exact hb _ _ c1 c2
    · exact hb _ _ d1 d2
    · exact hb _ _ e1 e2
    · exact hb _ _ f1 f2
  · have key : sget (sinc S c) c = sget S c + 1 := by
      unfold sinc
      rw [e]
      rcases (show c = 0 ∨ c = 1 ∨ c = 2 ∨ c = 3 ∨ c = 4 ∨ c = 5 by omega) with rfl | rfl | rfl | rfl | rfl | rfl <;> rfl
    rw [key]
    exact ⟨by omega, by omega⟩

end Go.Sp
namespace Go.Proofs.Ytjbmpimclagfoaa
open Go.Eng Go.Sp

theorem run50 (v : Sq) (ps : List Pg) (hp : ps.length ≤ 1000000) (hr : ∀ p ∈ ps, readC p = 0) (w hl hg kk : Int) (o : Ve) (k : Ex → St → Ans) : ∀ (m i : Nat) (g : Pg), i + m = ps.length →
    gN TX (callD T ES F 10 10) (annX []) 10 50 (bodyX 50) (fun e s' => compact [4, 7, 21, 26, 28, 32, 33] s' (k e)) (m + 1) (H50 v (ps.map Pg.row) w hl hg kk o g i) = k (.exit 8) (X50 v (ps.map Pg.row) w hl hg kk o (goneF kk hl (ps.drop i) g)) := by
  intro m
  induction m with
  | zero =>
    intro i g hi
    rw [gN]
    refine (step50 _ _ _ _ _ _ _ _ _ _ _).trans ?_
    rw [List.length_map, decide_eq_false (by omega), List.drop_of_length_le (by omega)]
    rfl
  | succ m ih =>
    intro i g hi
    have hlt : i < ps.length := by omega
    rw [gN]
    refine (step50 _ _ _ _ _ _ _ _ _ _ _).trans ?_
    have e3 : IntKind.wrap .i64 ((i : Int) + 1) = ((i + 1 : Nat) : Int) := by rw [i64_in (by omega) (by omega)]; rfl
    have e4 : intCell (ps.map Pg.row) i 0 = ps[i].l := by rw [← pgAt_map hlt]; rfl
    have e5 : readC ps[i] = 0 := hr _ (List.getElem_mem hlt)
    rw [List.length_map, decide_eq_true (show (i : Int) < (ps.length : Int) by omega), decide_eq_true (show 0 ≤ (i : Int) ∧ (i : Int) < (ps.length : Int) by omega), Int.toNat_natCast, rowIs_row hlt, pgAt_map hlt, e4, e5, e3, List.drop_eq_getElem_cons hlt]
    simp only [cond_true, goneF, show ((0 : Int) == 0) = true from rfl]
    cases h1 : (readV ps[i]).a == kk with
    | false => rw [cond_false, cond_false, ih (i + 1) _ (by omega)]
    | true =>
      cases h2 : ps[i].l != hl with
      | false => rw [cond_true, cond_true, cond_false, cond_false, ih (i + 1) _ (by omega)]
      | true => rw [cond_true, cond_true, cond_true, cond_true, ih (i + 1) _ (by omega)]

def X50c (v : Sq) (pl : List (List PC)) (w hl hg kk : Int) (co cg : List Cell) : St := ⟨[(4, some (.v (.one (.ptr (4, 0) 0 0 false)))), (7, some (.v (.one (.whole (1000007, 2000))))), (21, some (.v (.one (.int .i64 w)))), (26, some (.v (.one (.ptr (26, 0) 0 0 false)))), (28, some (.v (.one (.ptr (28, 0) 0 0 false)))), (32, some (.v (.one (.int .i64 kk)))), (33, some (.v (.one (.ptr (33, 0) 0 0 false))))],
  [((4, 0), some (.var v.us)), ((1000007, 2000), some (.arr true 9 (.sp Pg.ks pl))), ((26, 0), some (.var [.int .i64 hl, .int .i64 hg])), ((28, 0), some (.var co)), ((33, 0), some (.var cg))], 324⟩

noncomputable def sum50 : St → (Ex → St → Ans) → Ans
  | ⟨[(4, some (.v (.one (.ptr (4, 0) 0 0 false)))), (7, some (.v (.one (.whole (1000007, 2000))))), (21, some (.v (.one (.int .i64 w)))), (26, some (.v (.one (.ptr (26, 0) 0 0 false)))), (28, some (.v (.one (.ptr (28, 0) 0 0 false)))), (32, some (.v (.one (.int .i64 kk)))), (33, some (.v (.one (.ptr (33, 0) 0 0 false)))), (34, some (.v (.one (.int .i64 i))))],
      [((4, 0), some (.var [.int .u64 va, .int .u64 vb, .int .u64 vc, .int .u64 vd, .int .u64 ve, .int .u64 vf])), ((1000007, 2000), some (.arr true 9 (.sp kp pl))), ((26, 0), some (.var [.int .i64 hl, .int .i64 hg])), ((28, 0), some (.var co)), ((33, 0), some (.var cg))], 324⟩, k =>
    cond (pB (kp = Pg.ks ∧ i = 0 ∧ (∃ o : Ve, co = o.cs) ∧ cg = Pg.zero.cs ∧ ∃ ps : List Pg, pl = ps.map Pg.row ∧ ps.length ≤ 1000000 ∧ ∀ p ∈ ps, readC p = 0)) (k (.exit 8) (X50c ⟨va, vb, vc, vd, ve, vf⟩ pl w hl hg kk co (goneF kk hl (pgsOf pl) .zero).cs)) none
  | _, _ => none

theorem sum50_ok : SumOK Try.prog (bodyX 50) sum50 := by
  refine SumOK.of (T := TX) (call := callD T ES F 10 10) (an := annX []) (lf := 10) (id := 50) (ls := [4, 7, 21, 26, 28, 32, 33]) (tok.dyn [64, 67, 71, 182]) (callOKS 10 10) mixed (SumsOK.in (l := []) (by kernel_rfl) (fun b hb => by cases hb)) ?_
  intro s k r h
  unfold sum50 at h
  split at h
  case h_2 => cases h
  case h_1 k' w kk i va vb vc vd ve vf kp pl hl hg co cg =>
    obtain ⟨h0, g0⟩ := cond_none h
    obtain ⟨rfl, rfl, ⟨o, rfl⟩, rfl, ps, rfl, hp, hr⟩ := pB_of h0
    rw [pgsOf_map] at g0
    exact ⟨ps.length + 1, (run50 ⟨va, vb, vc, vd, ve, vf⟩ ps hp hr w hl hg kk o k ps.length 0 .zero (by omega)).trans g0⟩

end Go.Proofs.Ytjbmpimclagfoaa
