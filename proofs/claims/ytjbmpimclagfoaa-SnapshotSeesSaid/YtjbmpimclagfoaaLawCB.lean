/-
  RecordChain: the pages and versions that the first loop makes.
-/
import Derived.Test.YtjbmpimclagfoaaLawCA
namespace Go.Sp
open Go.Eng

/-- A fresh page. -/
def fr (i : Int) : Pg := ⟨105 + i, 256, 257, 0, 0, 0, 0, 0, 0⟩
/-- A version with its pointer to the one before it. -/
def prv (v : Ve) (j : Nat) : Ve := ⟨v.k, v.a, v.b, v.c, v.d, v.e, v.s, if j = 0 then 0 else 105 + j, if j = 0 then 0 else 1⟩

theorem fr_ok {i : Int} (h : 0 ≤ i) (h2 : i ≤ 100) : (fr i).ok := by
  refine ⟨⟨?_, ?_⟩, ⟨?_, ?_⟩, ⟨?_, ?_⟩, ⟨?_, ?_⟩, ⟨?_, ?_⟩, ⟨?_, ?_⟩, ⟨?_, ?_⟩, ⟨?_, ?_⟩, ⟨?_, ?_⟩⟩ <;> simp only [fr] <;> omega

theorem fr_tag : tK 257 = 1 ∧ tG 257 = 1 := by
  obtain ⟨h1, h2, _⟩ := t_of (t := 257) (by decide) (by decide)
  exact ⟨by rw [h1]; rfl, by rw [h2]; rfl⟩

theorem stamp_org' {c s : Int} (h1 : 0 ≤ c) (h2 : c < 6) (h3 : 1 ≤ s) (h4 : s < 1073741824) : orgO (stamp c s) = true ∧ rU64 (stamp c s) := by
  rw [stamp_of h1 h2 h3 h4]
  refine ⟨?_, by unfold rU64; omega⟩
  rw [orgO_of (by omega) (by omega)]
  exact decide_eq_true (by omega)

theorem stamp_org {i : Nat} (h : i < 30) : orgO (stamp (Int.tmod i 6) (IntKind.wrap .i64 ((i : Int) + 1))) = true ∧ rU64 (stamp (Int.tmod i 6) (IntKind.wrap .i64 ((i : Int) + 1))) := by
  have e1 : Int.tmod (i : Int) 6 = (i : Int) % 6 := tmod_pos (by omega)
  have e2 : IntKind.wrap .i64 ((i : Int) + 1) = (i : Int) + 1 := i64_in (by omega) (by omega)
  rw [e1, e2]
  exact stamp_org' (by omega) (by omega) (by omega) (by omega)

theorem fill_line (p q : Pg) (v : Ve) (h1 : p.l = q.l) (h2 : p.h = q.h) (h3 : tK p.a = tK q.a) (h4 : tG p.a = tG q.a) : fillP p v = fillP q v := by
  unfold fillP; rw [h1, h2, h3, h4]

end Go.Sp
namespace Go.Proofs.Ytjbmpimclagfoaa
open Go.Eng Go.Sp

/-- Version i of the chain, without its pointer. -/
def vAt (cs ds : List (List PC)) (k : Int) (i : Nat) : Ve := bif decide (i < ds.length) then bif boolCell ds i 0 then verD k i else verL cs k i else verL cs k i

structure In7 (cs ds : List (List PC)) (k : Int) : Prop where
  hc : ∀ i, i < cs.length → rowIs k3 cs i = true ∧ rI64 (intCell cs i 0) ∧ rI64 (intCell cs i 1) ∧ rI64 (intCell cs i 2)
  hd : ∀ i, i < ds.length → rowIs [none] ds i = true
  n : cs.length ≤ 20
  k1 : 1 ≤ k
  k2 : k ≤ 4294967294

section
variable {cs ds : List (List PC)} {k : Int} (h : In7 cs ds k)
include h

theorem vAt_ok {i : Nat} (hi : i < cs.length) : (vAt cs ds k i).ok ∧ (vAt cs ds k i).l = 0 ∧ (vAt cs ds k i).g = 0 ∧ (vAt cs ds k i).k = k ∧ veEnd (vAt cs ds k i) = true ∧ (vAt cs ds k i).s = stamp (Int.tmod i 6) (IntKind.wrap .i64 ((i : Int) + 1)) := by
  have hn := h.n
  have z : rI64 0 := ⟨by decide, by decide⟩
  have zu : rU32 0 := ⟨by decide, by decide⟩
  obtain ⟨_, c1, c2, c3⟩ := h.hc i hi
  have hk : rU32 k := ⟨by have := h.k1; omega, by have := h.k2; omega⟩
  obtain ⟨_, s2⟩ := stamp_org (i := i) (by omega)
  have hD : (verD k i).ok ∧ (verD k i).l = 0 ∧ (verD k i).g = 0 ∧ (verD k i).k = k ∧ veEnd (verD k i) = true ∧ (verD k i).s = stamp (Int.tmod i 6) (IntKind.wrap .i64 ((i : Int) + 1)) := ⟨⟨hk, z, z, z, rU32_wrap _, s2, z, z⟩, rfl, rfl, rfl, rfl, rfl⟩
  have hL : (verL cs k i).ok ∧ (verL cs k i).l = 0 ∧ (verL cs k i).g = 0 ∧ (verL cs k i).k = k ∧ veEnd (verL cs k i) = true ∧ (verL cs k i).s = stamp (Int.tmod i 6) (IntKind.wrap .i64 ((i : Int) + 1)) := ⟨⟨hk, c1, c2, c3, zu, s2, z, z⟩, rfl, rfl, rfl, rfl, rfl⟩
  unfold vAt
  cases decide (i < ds.length)
  · exact hL
  · cases boolCell ds i 0
    · exact hL
    · exact hD

/-- Version i as it stands in the chain. -/
theorem prv_ok {i : Nat} (hi : i < cs.length) : (prv (vAt cs ds k i) i).ok ∧ veOK (prv (vAt cs ds k i) i) = true := by
  have hn := h.n
  obtain ⟨h1, h2, h3, h4, h5, h6⟩ := vAt_ok h hi
  have hlg : rI64 (prv (vAt cs ds k i) i).l ∧ rI64 (prv (vAt cs ds k i) i).g ∧ (nilP (prv (vAt cs ds k i) i).l (prv (vAt cs ds k i) i).g = true ∨ validP (prv (vAt cs ds k i) i).l (prv (vAt cs ds k i) i).g = true) := by
    by_cases hz : i = 0
    · subst hz
      have z : rI64 0 := ⟨by decide, by decide⟩
      exact ⟨z, z, .inl rfl⟩
    · simp only [prv, if_neg hz]
      exact ⟨⟨by omega, by omega⟩, ⟨by decide, by decide⟩, .inr (decide_eq_true (by omega))⟩
  obtain ⟨l1, l2, l3⟩ := hlg
  refine ⟨⟨h1.k, h1.a, h1.b, h1.c, h1.e, h1.s, l1, l2⟩, ?_⟩
  have e : veEnd (prv (vAt cs ds k i) i) = true := h5
  have es : (prv (vAt cs ds k i) i).s = stamp (Int.tmod i 6) (IntKind.wrap .i64 ((i : Int) + 1)) := h6
  have ek : (prv (vAt cs ds k i) i).k = k := h4
  unfold veOK
  rw [es, (stamp_org (by omega)).1, ek, decide_eq_false (show ¬ k < 1 by have := h.k1; omega), decide_eq_false (show ¬ k > 4294967294 by have := h.k2; omega), e]
  rcases l3 with l3 | l3
  · rw [l3]; rfl
  · rw [l3]; cases nilP (prv (vAt cs ds k i) i).l (prv (vAt cs ds k i) i).g <;> rfl

theorem pick7_of {i : Nat} (hi : i < cs.length) (f : Ve → Ans) : pick7 cs ds k i f = f (vAt cs ds k i) := by
  unfold pick7 vAt
  rw [decide_eq_true (show 0 ≤ (i : Int) ∧ (i : Int) < (cs.length : Int) by omega), Int.toNat_natCast, (h.hc i hi).1]
  by_cases hd : i < ds.length
  · rw [decide_eq_true (show (i : Int) < (ds.length : Int) by omega), decide_eq_true (show 0 ≤ (i : Int) ∧ (i : Int) < (ds.length : Int) by omega), h.hd i hd, decide_eq_true hd]
    cases boolCell ds i 0 <;> rfl
  · rw [decide_eq_false (show ¬ (i : Int) < (ds.length : Int) by omega), decide_eq_false hd]
    rfl
end

theorem free_alloc {i : Nat} (hi : i < 100) : allocC (free7 i) 1 = 0 ∧ allocO (free7 i) 1 0 = fr i := by
  have el : IntKind.wrap .i64 (105 + (i : Int)) = 105 + i := i64_in (by omega) (by omega)
  obtain ⟨h1, h2, _⟩ := t_of (t := 0) (by decide) (by decide)
  have z1 : tK 0 = 0 := by rw [h1]; rfl
  have z2 : tG 0 = 0 := by rw [h2]; rfl
  have hlock : lockP 256 = false := by rw [(lock_of (h := 256) (by decide) (by decide)).1]; rfl
  constructor
  · unfold allocC free7
    simp only [el, z1, z2, hlock, decide_eq_true (show (105 : Int) + i ≥ 104 by omega), decide_eq_true (show (105 : Int) + i < 256 by omega), decide_eq_false (show ¬ (1 : Int) < 1 by omega), decide_eq_false (show ¬ (1 : Int) > 4 by omega), cond_true, cond_false, Bool.not_true]
    rfl
  · unfold allocO free7 fr
    have e : tagP 1 (IntKind.wrap .i64 (tG 0 + 1)) 0 = 257 := by rw [z2, i64_in (by decide) (by decide), tag_of _ _ (by decide) (by decide)]; rfl
    simp only [el]
    rw [e]

theorem newV_fr {cs ds : List (List PC)} {k : Int} {i : Nat} (h1 : 1 ≤ i) : newV (fr i) (vAt cs ds k i) = prv (vAt cs ds k i) i := by
  have hz : ¬ i = 0 := by omega
  unfold newV prv
  rw [if_neg hz, if_neg hz]
  have : genP (fr i).a = 1 := fr_tag.2
  rw [this]
  rfl

/-- The chain's pages: the head, and the old versions. -/
def headP (cs ds : List (List PC)) (k : Int) (i : Nat) : Pg := fillP (fr 0) (prv (vAt cs ds k (i - 1)) (i - 1))
def restP (cs ds : List (List PC)) (k : Int) (i : Nat) : List Pg := (List.range (i - 1)).map fun j => fillP (fr (j + 1 : Nat)) (prv (vAt cs ds k j) j)
def wantV (cs ds : List (List PC)) (k : Int) : Nat → List Ve
  | 0 => []
  | i + 1 => vAt cs ds k i :: wantV cs ds k i

theorem wantV_length (cs ds : List (List PC)) (k : Int) (i : Nat) : (wantV cs ds k i).length = i := by
  induction i with
  | zero => rfl
  | succ i ih => simp [wantV, ih]

section
variable {cs ds : List (List PC)} {k : Int} (h : In7 cs ds k)
include h

theorem head_facts {i : Nat} (h1 : 1 ≤ i) (hi : i ≤ cs.length) : (headP cs ds k i).ok ∧ tK (headP cs ds k i).a = 1 ∧ tG (headP cs ds k i).a = 1 ∧ readC (headP cs ds k i) = 0 ∧ readV (headP cs ds k i) = prv (vAt cs ds k (i - 1)) (i - 1) := by
  obtain ⟨p1, p2⟩ := prv_ok h (i := i - 1) (by omega)
  have f0 := fr_ok (i := 0) (by decide) (by decide)
  obtain ⟨t1, t2⟩ := fr_tag
  have ok := fillP_ok (v := prv (vAt cs ds k (i - 1)) (i - 1)) f0 p1
  obtain ⟨g1, g2⟩ := fill_gen (v := prv (vAt cs ds k (i - 1)) (i - 1)) f0 t1
  obtain ⟨r1, r2⟩ := fill_read f0 p1 p2 t1
  refine ⟨ok, g1, by rw [headP, g2]; exact t2, ?_, ?_⟩
  · rw [headP, readC_of ok, r1]; rfl
  · rw [headP, readV_of ok, r1, r2]; rfl

theorem repl_chain {i : Nat} (h1 : 1 ≤ i) (hi : i < cs.length) : replOK (headP cs ds k i) (fr i) (vAt cs ds k i) = true := by
  have hn := h.n
  obtain ⟨f1, f2, f3, f4, f5⟩ := head_facts h h1 (Nat.le_of_lt hi)
  obtain ⟨t1, t2⟩ := fr_tag
  obtain ⟨p1, p2⟩ := prv_ok h hi
  obtain ⟨_, _, _, v4, _, _⟩ := vAt_ok h hi
  obtain ⟨_, _, _, w4, _, _⟩ := vAt_ok h (i := i - 1) (by omega)
  have hlock : lockP 256 = false := by rw [(lock_of (h := 256) (by decide) (by decide)).1]; rfl
  have e1 : (headP cs ds k i).h = 256 := rfl
  have e2 : (fr i).h = 256 := rfl
  have e3 : tK (fr i).a = 1 := t1
  have e4 : genP (fr i).a = 1 := t2
  have e5 : (fr i).l = 105 + i := rfl
  have e6 : (headP cs ds k i).l = 105 := rfl
  have e7 : (readV (headP cs ds k i)).k = k := by rw [f5]; exact w4
  have hv : validP (105 + (i : Int)) 1 = true := decide_eq_true (by omega)
  have hne : ((105 : Int) + i == 105) = false := by simp; omega
  unfold replOK replC replT
  rw [e1, e2, hlock, f4, e3, e4, e5, e6, hv, hne, e7, v4, newV_fr h1, p2, decide_eq_true (show (105 : Int) < 105 + i by omega)]
  simp only [bne_self_eq_false, beq_self_eq_true, Bool.not_true, cond_false]
  cases decide ((fillP (fr i) (readV (headP cs ds k i))).l < (fillP (headP cs ds k i) (prv (vAt cs ds k i) i)).l) <;> rfl

theorem run7 (k' : Ex → St → Ans) : ∀ (m i : Nat), 1 ≤ i → i + m = cs.length →
    gN ⟨T.l, []⟩ (callD T EO14 F 10 10) an7 10 7 body7 (fun e s' => compact [8, 9] s' (k' e)) (m + 1) (H7 cs ds ((headP cs ds k i).row :: (restP cs ds k i).map Pg.row) ((wantV cs ds k i).map Ve.row) k i) =
      k' (.exit 0) (X7 ((headP cs ds k cs.length).row :: (restP cs ds k cs.length).map Pg.row) ((wantV cs ds k cs.length).map Ve.row)) := by
  intro m
  induction m with
  | zero =>
    intro i h1 hi
    obtain rfl : i = cs.length := by omega
    rw [gN]
    refine (step7 cs ds _ _ (headP cs ds k cs.length) k _ _ _).trans ?_
    rw [decide_eq_false (by omega)]
    rfl
  | succ m ih =>
    intro i h1 hi
    have hlt : i < cs.length := by omega
    have hn := h.n
    rw [gN]
    refine (step7 cs ds _ _ (headP cs ds k i) k _ _ _).trans ?_
    obtain ⟨a1, a2⟩ := free_alloc (i := i) (by omega)
    obtain ⟨f1, f2, f3, f4, f5⟩ := head_facts h h1 (Nat.le_of_lt hlt)
    have e3 : IntKind.wrap .i64 ((i : Int) + 1) = ((i + 1 : Nat) : Int) := by rw [i64_in (by omega) (by omega)]; rfl
    have hh : hd7 (headP cs ds k i) = headP cs ds k i := rfl
    have hi0 : ((i : Int) == 0) = false := by simp; omega
    have hw : (IntKind.wrap .i64 (105 + (i : Int)) == 105) = false := by rw [i64_in (by omega) (by omega)]; simp; omega
    have hr : (restP cs ds k i).length = i - 1 := by unfold restP; simp
    rw [decide_eq_true (show (i : Int) < (cs.length : Int) by omega), a1, pick7_of h hlt]
    unfold chk7
    rw [a2, hh, hi0, hw, repl_chain h h1 hlt, List.length_map, List.length_map, hr, wantV_length, decide_eq_true (show (1 + i) * 64 ≤ 140737488355328 by omega),
      decide_eq_true (show (0 : Int) ≤ 0 ∧ (0 : Int) < ((i - 1 + 1 : Nat) : Int) by omega), decide_eq_true (show (i - 1 + 1 + 1) * 72 ≤ 140737488355328 by omega), fillO_eq, fillO_eq, fillO_eq, newV_fr h1, f5, e3]
    have s1 : fillP (headP cs ds k i) (prv (vAt cs ds k i) i) = headP cs ds k (i + 1) := by
      rw [show headP cs ds k (i + 1) = fillP (fr 0) (prv (vAt cs ds k i) i) from rfl]
      refine fill_line _ _ _ rfl rfl ?_ ?_
      · rw [f2]; exact fr_tag.1.symm
      · rw [f3]; exact fr_tag.2.symm
    have s2 : (restP cs ds k i).map Pg.row ++ [(fillP (fr i) (prv (vAt cs ds k (i - 1)) (i - 1))).row] = (restP cs ds k (i + 1)).map Pg.row := by
      obtain ⟨j, rfl⟩ : ∃ j, i = j + 1 := ⟨i - 1, by omega⟩
      unfold restP
      simp only [Nat.add_sub_cancel, List.range_succ, List.map_append, List.map_cons, List.map_nil]
    have := ih (i + 1) (by omega) (by omega)
    rw [s1, s2]
    exact this
end

end Go.Proofs.Ytjbmpimclagfoaa
