/-
  SnapshotSees: in a chain of versions by several clients a vector sees the newest version that it includes, and a freed old version ends the chain.
-/
import Derived.Test.YtjbmpimclagfoaaLawXG
import Derived.Test.YtjbmpimclagfoaaLawK2
namespace Go.Proofs.Ytjbmpimclagfoaa
open Go.Eng Go.Sp Go.RowKit

theorem stA_org (cl : List (List PC)) {i : Nat} (hi : i < 24) : orgO (stA cl i) = true := by
  obtain ⟨c, s, c1, c2, s1, s2, hs⟩ := stA_is cl hi
  rw [hs]; exact (stamp_org' c1 c2 s1 s2).1

theorem vis_eq (cl : List (List PC)) (v : Sq) {i : Nat} (hi : i < 24) : visS9 v (stA cl i) = visQ v (stA cl i) := by
  unfold visS9 visP visQ
  rw [stA_org cl hi]
  rfl

theorem sts_snoc (cl : List (List PC)) (i : Nat) : sts cl (i + 1) = sts cl i ++ [stA cl i] := by
  unfold sts
  rw [List.range_succ, List.map_append]
  rfl

def wantN (v : Sq) (cl : List (List PC)) (i : Nat) : Int := wantF v (sts cl i) 0 (-1)

theorem wantN_succ (v : Sq) (cl : List (List PC)) (i : Nat) : wantN v cl (i + 1) = bif visQ v (stA cl i) then (i : Int) else wantN v cl i := by
  unfold wantN
  rw [sts_snoc, wantF_snoc, sts_length, Int.zero_add]

theorem wantN_lt (v : Sq) (cl : List (List PC)) (i : Nat) : wantN v cl i < i := by
  induction i with
  | zero => show (-1 : Int) < 0; decide
  | succ i ih =>
    rw [wantN_succ]
    cases visQ v (stA cl i)
    · show wantN v cl i < _; omega
    · show (i : Int) < _; omega

theorem last_want (v : Sq) (cl : List (List PC)) (b : Nat) (i : Nat) (hi : i < 24) :
    (∃ e, lastB cl (visS9 v) b i = some e ∧ (b : Int) ≤ wantN v cl (i + 1) ∧ e.a = wantN v cl (i + 1) ∧ e.k = 9) ∨ (lastB cl (visS9 v) b i = none ∧ wantN v cl (i + 1) < b) := by
  induction i with
  | zero =>
    have hl := wantN_lt v cl (0 + 1)
    by_cases hb : 0 < b
    · refine .inr ⟨by rw [lastB, if_pos hb], by omega⟩
    · rw [lastB, if_neg hb, wantN_succ, vis_eq cl v hi]
      cases visQ v (stA cl 0) with
      | true => exact .inl ⟨_, rfl, by show (b : Int) ≤ ((0 : Nat) : Int); omega, rfl, rfl⟩
      | false => exact .inr ⟨rfl, by show wantN v cl 0 < _; have := wantN_lt v cl 0; omega⟩
  | succ i ih =>
    have hl := wantN_lt v cl (i + 1 + 1)
    by_cases hb : i + 1 < b
    · refine .inr ⟨by rw [lastB, if_pos hb], by omega⟩
    · rw [lastB, if_neg hb, wantN_succ, vis_eq cl v hi]
      cases visQ v (stA cl (i + 1)) with
      | true => exact .inl ⟨_, rfl, by show (b : Int) ≤ ((i + 1 : Nat) : Int); omega, rfl, rfl⟩
      | false => exact ih (by omega)

theorem tag_free : tK (tagP 0 1 0) = 0 := by
  rw [tag_of 0 1 (x := 0) (by decide) (by decide)]
  obtain ⟨h1, _, _⟩ := t_of (t := 0 % 256 + 1 % 16777216 * 256 + 0 * 4294967296) (by decide) (by decide)
  rw [h1]; rfl

theorem rel_sP (cl : List (List PC)) {i : Nat} (hi : i < 24) : relC (sP cl i) = 0 ∧ (relP (sP cl i)).l = 105 + ((i + 1 : Nat) : Int) ∧ lockP (relP (sP cl i)).h = false ∧ tK (relP (sP cl i)).a = 0 := by
  obtain ⟨_, f2, f3, _, _⟩ := filled cl (i := i) (j := i + 1) hi (by omega)
  have e1 : (sP cl i).l = 105 + ((i + 1 : Nat) : Int) := rfl
  have e2 : (sP cl i).h = 256 := rfl
  have e3 : tK (sP cl i).a = 1 := f2
  have e4 : tG (sP cl i).a = 1 := f3
  have h0 : relC (sP cl i) = 0 := by
    unfold relC
    rw [e1, e2, e3, lock256, decide_eq_true (show (105 : Int) + ((i + 1 : Nat) : Int) ≥ 104 by omega), decide_eq_true (show (105 : Int) + ((i + 1 : Nat) : Int) < 256 by omega)]
    rfl
  refine ⟨h0, ?_⟩
  unfold relP
  rw [h0, e4]
  exact ⟨rfl, lock256, tag_free⟩

theorem gone_rs (cl : List (List PC)) (kk : Nat) (g : Pg) : ∀ j, j ≤ 23 → kk < j → goneF kk 105 (rs cl j) g = sP cl kk := by
  intro j
  induction j with
  | zero => intro _ h; omega
  | succ j ih =>
    intro hj hk
    obtain ⟨_, _, _, _, f5⟩ := filled cl (i := j) (j := j + 1) (by omega) (by omega)
    have ea : (readV (sP cl j)).a = (j : Int) := by rw [show readV (sP cl j) = prv (vN cl j) j from f5]; rfl
    have el : ((sP cl j).l != 105) = true := by
      show ((105 : Int) + ((j + 1 : Nat) : Int) != 105) = true
      simp; omega
    have eh : ((hP cl (j + 1)).l != 105) = false := rfl
    rw [show rs cl (j + 1) = rs cl j ++ [hP cl (j + 1), sP cl j] from rfl, goneF_app]
    simp only [goneF]
    rw [ea, el, eh, cond_true, cond_false]
    have hself : ∀ (b : Bool) (g : Pg), (bif b then g else g) = g := fun b g => by cases b <;> rfl
    rw [hself]
    by_cases h : kk = j
    · subst h
      rw [beq_self_eq_true, cond_true]
    · have e : ((j : Int) == (kk : Int)) = false := by simp; omega
      rw [e, cond_false]
      exact ih (by omega) (by omega)

theorem gone_all (cl : List (List PC)) (kk j : Nat) (hj : j ≤ 23) (hk : kk < j) (g : Pg) : goneF kk 105 (hP cl j :: rs cl j) g = sP cl kk := by
  have eh : ((hP cl j).l != 105) = false := rfl
  have hself : ∀ (b : Bool) (g : Pg), (bif b then g else g) = g := fun b g => by cases b <;> rfl
  simp only [goneF]
  rw [eh, cond_false, hself]
  exact gone_rs cl kk g j hj hk

theorem chainA (cl : List (List PC)) (vis : Int → Bool) {j : Nat} (hj : j < 24) : Chain cl vis (hP cl j :: rs cl j) 0 j :=
  ⟨hj, Nat.zero_le _, latest_head cl j, fun i _ hi => latest_old cl j i hi, fun h => absurd h (by omega)⟩

theorem chainB (cl : List (List PC)) (vis : Int → Bool) {j kk : Nat} (hj : j < 24) (hk : kk < j) : Chain cl vis ((hP cl j :: rs cl j) ++ [relP (sP cl kk)]) (kk + 1) j := by
  obtain ⟨_, r1, r2, r3⟩ := rel_sP cl (i := kk) (by omega)
  refine ⟨hj, hk, ?_, fun i hi hij => ?_, fun _ => ⟨relP (sP cl kk), ?_, r2, r3⟩⟩
  · have e : ((105 : Int) + ((kk + 1 : Nat) : Int) == 105) = false := by simp; omega
    rw [latest_snoc, r1, e, cond_false, latest_head]
  · have e : ((105 : Int) + ((kk + 1 : Nat) : Int) == 105 + ((i + 1 : Nat) : Int)) = false := by simp; omega
    rw [latest_snoc, r1, e, cond_false, latest_old cl j i hij]
  · rw [latest_snoc, r1, beq_self_eq_true, cond_true]

theorem read_rs (cl : List (List PC)) : ∀ j, j ≤ 23 → ∀ p ∈ rs cl j, readC p = 0 := by
  intro j
  induction j with
  | zero => intro _ p hp; cases hp
  | succ j ih =>
    intro hj p hp
    rw [show rs cl (j + 1) = rs cl j ++ [hP cl (j + 1), sP cl j] from rfl] at hp
    rcases List.mem_append.1 hp with hp | hp
    · exact ih (by omega) p hp
    · rcases List.mem_cons.1 hp with rfl | hp
      · exact (filled cl (i := j + 1) (j := 0) (by omega) (by omega)).2.2.2.1
      · obtain rfl := List.mem_singleton.1 hp
        exact (filled cl (i := j) (j := j + 1) (by omega) (by omega)).2.2.2.1

theorem freed9_true (cl : List (List PC)) (v : Sq) {j kk : Nat} (hj : j < 24) (hk : kk < j) :
    freed9 v ((hP cl j :: rs cl j).map Pg.row) 105 1 (wantN v cl (j + 1)) kk (sP cl kk) = bs true := by
  obtain ⟨r0, _, _, _⟩ := rel_sP cl (i := kk) (by omega)
  have hE : (hP cl j :: rs cl j).map Pg.row ++ [(relP (sP cl kk)).row] = ((hP cl j :: rs cl j) ++ [relP (sP cl kk)]).map Pg.row := by rw [List.map_append]; rfl
  have hlen : (hP cl j :: rs cl j).length = 2 * j + 1 := by rw [List.length_cons, rs_length]
  have hlen2 : ((hP cl j :: rs cl j) ++ [relP (sP cl kk)]).length = 2 * j + 2 := by rw [List.length_append, hlen]; rfl
  unfold freed9
  rw [hE, List.length_map, hlen, decide_eq_true (show (0 + (2 * j + 1)) * 72 ≤ 140737488355328 by omega), decide_eq_true (show (2 * j + 1 + 1) * 72 ≤ 140737488355328 by omega), pgsOK_map (by omega), pgsOf_map, r0, chain_all (chainB cl (visS9 v) hj hk)]
  rcases last_want v cl (kk + 1) j hj with ⟨e, h1, h2, h3, _⟩ | ⟨h1, h2⟩
  · rw [h1, decide_eq_true (show wantN v cl (j + 1) > (kk : Int) by omega)]
    show bs (e.a == wantN v cl (j + 1)) = bs true
    rw [h3, beq_self_eq_true]
  · rw [h1, decide_eq_false (show ¬ wantN v cl (j + 1) > (kk : Int) by omega)]
    rfl

theorem tail9_true (cl : List (List PC)) (v : Sq) {j : Nat} (hj : j < 24) (fz : Int) (o : Ve) :
    tail9 v ((hP cl j :: rs cl j).map Pg.row) 105 1 (wantN v cl (j + 1)) (pick fz (IntKind.wrap .i64 ((((j + 1 : Nat) : Int)) - 1))) o = bs true := by
  have hlen : (hP cl j :: rs cl j).length = 2 * j + 1 := by rw [List.length_cons, rs_length]
  unfold tail9
  rw [List.length_map, hlen]
  cases hd : decide (((2 * j + 1 : Nat) : Int) < 2) with
  | true => rfl
  | false =>
    have h1 := of_decide_eq_false hd
    have e1 : IntKind.wrap .i64 ((((j + 1 : Nat) : Int)) - 1) = j := by rw [i64_in (by omega) (by omega)]; omega
    have e2 : pick fz j = fz % j := pick_eq (by omega) (by omega)
    have h2 : 0 ≤ fz % j := Int.emod_nonneg _ (by omega)
    have h3 : fz % j < j := Int.emod_lt_of_pos _ (by omega)
    obtain ⟨kk, hkk⟩ : ∃ kk : Nat, fz % j = kk := ⟨(fz % j).toNat, by omega⟩
    rw [hkk] at h3
    have hread : ∀ p ∈ hP cl j :: rs cl j, readC p = 0 := fun p hp => by
      rcases List.mem_cons.1 hp with rfl | hp
      · exact (filled cl (i := j) (j := 0) (by omega) (by omega)).2.2.2.1
      · exact read_rs cl j (by omega) p hp
    rw [e1, e2, hkk, cond_false, pgsOf_map, gone_all cl kk j (by omega) (by omega), freed9_true cl v hj (by omega), pB_true ⟨rfl, rfl, ⟨o, rfl⟩, rfl, hP cl j :: rs cl j, rfl, by rw [hlen]; omega, hread⟩]
    rfl

theorem sees9_true (cl : List (List PC)) (v : Sq) {j : Nat} (hj : j < 24) (fz : Int) :
    sees9 v ((hP cl j :: rs cl j).map Pg.row) 105 1 (wantN v cl (j + 1)) (pick fz (IntKind.wrap .i64 ((((j + 1 : Nat) : Int)) - 1))) = bs true := by
  have hlen : (hP cl j :: rs cl j).length = 2 * j + 1 := by rw [List.length_cons, rs_length]
  unfold sees9
  rw [pgsOK_map (by omega), pgsOf_map, chain_all (chainA cl (visS9 v) hj), tail9_true cl v hj fz]
  rcases last_want v cl 0 j hj with ⟨e, h1, h2, h3, h4⟩ | ⟨h1, h2⟩
  · rw [h1, decide_eq_true (show wantN v cl (j + 1) ≥ 0 by omega)]
    show (bif e.a != wantN v cl (j + 1) then bs false else bif e.k != 9 then bs false else bs true) = bs true
    rw [h3, h4, bne_self_eq_false, cond_false]
    rfl
  · rw [h1, decide_eq_false (show ¬ wantN v cl (j + 1) ≥ 0 by omega)]
    rfl

theorem law9_true {cl : List (List PC)} (h : In9 cl) (h1 : 1 ≤ cl.length) (v : Sq) (fz : Int) : law9 cl v fz = bs true := by
  have hn := h.n
  obtain ⟨j, hj⟩ : ∃ j, cl.length = j + 1 := ⟨cl.length - 1, by omega⟩
  have e1 : genP (hP cl j).a = 1 := (filled cl (i := j) (j := 0) (by omega) (by omega)).2.2.1
  have e2 : (hP cl j).l = 105 := rfl
  have e3 : (hP cl j).row :: (rs cl j).map Pg.row = (hP cl j :: rs cl j).map Pg.row := rfl
  unfold law9
  have hok : ∀ x ∈ sts cl cl.length, ok36 x := fun x hx => by
    unfold sts at hx
    obtain ⟨i, hi, rfl⟩ := List.mem_map.1 hx
    have hi := List.mem_range.1 hi
    have ho := stA_org cl (i := i) (by omega)
    exact ⟨ho, orgO_range ho⟩
  rw [pB_true ⟨rfl, rfl, rfl, h, h1⟩, pB_true ⟨rfl, rfl, rfl, rfl, sts cl cl.length, rfl, by rw [sts_length]; omega, hok⟩]
  · rw [hj, Nat.add_sub_cancel, e1, e2, e3, usInv_map, List.length_map, List.length_map, sts_length, rs_length, decide_eq_true (show (0 : Int) ≤ 0 ∧ (0 : Int) < ((2 * j + 1 : Nat) : Int) by omega)]
    exact sees9_true cl (vmod v) (by omega) fz

theorem sees_sem (cl : List (List PC)) (hc : ∀ i, i < cl.length → rowIs [some .i64] cl i = true) (v : Sq) (fz : Int) :
    FnSem Try.prog 9 [.one (.sl 1 (.sp [some .i64] cl)), .agg [.pc (.int .u64 v.a), .pc (.int .u64 v.b), .pc (.int .u64 v.c), .pc (.int .u64 v.d), .pc (.int .u64 v.e), .pc (.int .u64 v.f)], ri fz] (.v (.one (.pc (.bool true)))) := by
  refine semL (E := ES) ES_ok (lf := 10) (lf' := 10) (depth := 10) (an := annX [(7, sum9), (36, sum36), (50, sum50)]) Try.func9 (by kernel_rfl) (SumsOK.fn (l := [bodyX 7, bodyL 26 Try.f9, bodyL 31 Try.f9, bodyX 36, bodyX 50]) (by kernel_rfl) (fun b hb => ?_)) ?_
  · rcases List.mem_cons.1 hb with rfl | hb
    · exact GoodL.some (f := sum9) (by kernel_rfl) sum9_ok
    · rcases List.mem_cons.1 hb with rfl | hb
      · exact GoodL.none (by kernel_rfl)
      · rcases List.mem_cons.1 hb with rfl | hb
        · exact GoodL.none (by kernel_rfl)
        · rcases List.mem_cons.1 hb with rfl | hb
          · exact GoodL.some (f := sum36) (by kernel_rfl) sum36_ok
          · obtain rfl := List.mem_singleton.1 hb
            exact GoodL.some (f := sum50) (by kernel_rfl) sum50_ok
  · rw [eq9]
    refine bif_elim (fun _ => rfl) fun h1 => bif_elim (fun _ => rfl) fun h2 => ?_
    have h1 : ¬ (cl.length : Int) = 0 := by simpa using h1
    have h2 := of_decide_eq_false h2
    exact law9_true ⟨hc, by omega⟩ (by omega) v fz

-- the law
set_option maxRecDepth 100000 in
theorem sees_lifted (os : Os) (started : os.Started) (H : Type) (enc : TypeId × Value → H) :
    ReturnsInHanded {} Try.checked os 9 .any (Rows.snapshotSeesSpec.pre6 enc Try.prog Try.f9 Rows.snapshotSeesRow.domain false) (Rows.snapshotSeesSpec.post enc Try.prog Try.f9 false true false false) :=
  law_lifted (C := Try.checked) (s := Rows.snapshotSeesSpec) (conds := Rows.snapshotSeesRow.domain) (apart := false) (fresh := true) (handsOn := false) (again := false) own started (by kernel_rfl) Try.func9
    (ChangeSpec.witness6 (enc := enc) (C := Try.checked) false ⟨#[], #[.slice none 0 0, .agg #[.int .u64 0, .int .u64 0, .int .u64 0, .int .u64 0, .int .u64 0, .int .u64 0], .int .i64 0], []⟩ 8 (by kernel_rfl) (by kernel_rfl) (by kernel_rfl) (by kernel_rfl))
    laid (fun t ht => List.all_eq_true.1 (show (Try.f9.params.toList.all fun t => argB Try.prog t) = true by kernel_rfl) t ht) (rt := 4) rfl und4 rfl
    (fun ds hds => by
      match ds, hds with
      | [_, _, _], _ => rfl)
    (fun l hl => by
      obtain ⟨d1, l1, rfl, h1, hl⟩ := all2_cons hl
      obtain ⟨d2, l2, rfl, h2, hl⟩ := all2_cons hl
      obtain ⟨d3, l3, rfl, h3, hl⟩ := all2_cons hl
      obtain rfl := all2_nil hl
      obtain ⟨E, xs, rfl, he, _⟩ := open_ints h1
      obtain ⟨a, b, c, d, e, f, rfl, _⟩ := open_vec h2
      obtain ⟨fz, rfl, _⟩ := h3.int und3
      exact (sees_sem (xs.map ir) (fun i hi => rowIs_ir (by simpa using hi)) ⟨a, b, c, d, e, f⟩ fz).same ⟨same_sl he.symm, same_refl _, same_refl _, trivial⟩
)

theorem sees_law : Rows.SnapshotSeesSaid :=
  OpenClaim.holds_of_wide 9 Try.f9 rfl rfl rfl rfl rfl rfl rfl ⟨rfl, rfl, rfl, rfl, rfl⟩ rfl rfl rfl rfl rfl (by kernel_rfl) Try.func9 (by kernel_rfl)
    (of_decide_eq_true (by kernel_rfl)) (by unfold Func.isWrapper; first | (rw [if_pos (by decide +kernel)]; kernel_rfl) | (rw [if_neg (by decide +kernel)]; exact ⟨rfl, rfl⟩))
    (fun os started H enc _ => sees_lifted os started H enc)

end Go.Proofs.Ytjbmpimclagfoaa
