/-
  PointerLatest: of several pages with one line the last one counts, and others do not matter.
-/
import Derived.Test.YtjbmpimclagfoaaSp9
import Derived.Test.YtjbmpimclagfoaaLawK2
namespace Go.Sp
open Go.Eng

/-- The pages that are laid behind: of the others' lines. -/
def ext : List Int → Nat → Int → List Pg
  | [], _, _ => []
  | x :: r, i, line => bif x != line then ⟨x, IntKind.wrap .u64 i, 0, 0, 0, 0, 0, 0, 0⟩ :: ext r (i + 1) line else ext r (i + 1) line

theorem ext_cons (x : Int) (r : List Int) (i : Nat) (line : Int) : ext (x :: r) i line = bif x != line then ⟨x, IntKind.wrap .u64 i, 0, 0, 0, 0, 0, 0, 0⟩ :: ext r (i + 1) line else ext r (i + 1) line := rfl

theorem ext_none (xs : List Int) (line : Int) : ∀ i, latest (ext xs i line) line = none := by
  induction xs with
  | nil => intro i; rfl
  | cons x xs ih =>
    intro i
    rw [ext_cons]
    cases h : x != line with
    | false => exact ih (i + 1)
    | true =>
      have : (x == line) = false := by simpa using h
      simp only [cond_true, latest, ih (i + 1), this, cond_false]

theorem ext_length (xs : List Int) (line : Int) : ∀ i, (ext xs i line).length ≤ xs.length := by
  induction xs with
  | nil => intro i; simp [ext]
  | cons x xs ih =>
    intro i
    have := ih (i + 1)
    rw [ext_cons]
    cases x != line
    · simp only [cond_false, List.length_cons]; omega
    · simp only [cond_true, List.length_cons]; omega

theorem latest_append (a b : List Pg) (line : Int) : latest (a ++ b) line = match latest b line with
    | some q => some q
    | none => latest a line := by
  induction a with
  | nil => simp only [List.nil_append]; cases latest b line <;> rfl
  | cons p a ih =>
    simp only [List.cons_append, latest, ih]
    cases latest b line <;> rfl

end Go.Sp
namespace Go.Proofs.Ytjbmpimclagfoaa
open Go.Eng Go.Sp Go.RowKit

def H5 (l os : List (List PC)) (p : Pg) (lst : List (List PC)) (i : Int) : St := ⟨[(0, some (.v (.one (.whole (0, 1000))))), (2, some (.v (.one (.whole (2, 1000))))), (4, some (.v (.one (.ptr (4, 0) 0 0 false)))), (7, some (.v (.one (.whole (7, 2000))))), (8, some (.v (.one (.int .i64 i))))],
  [((0, 1000), some (.arr false 9 (.sp Pg.ks l))), ((2, 1000), some (.arr false 1 (.sp [some .i64] os))), ((4, 0), some (.var p.cs)), ((7, 2000), some (.arr true 9 (.sp Pg.ks lst)))], 105⟩

def X5 (l : List (List PC)) (p : Pg) (lst : List (List PC)) : St := ⟨[(0, some (.v (.one (.whole (0, 1000))))), (4, some (.v (.one (.ptr (4, 0) 0 0 false)))), (7, some (.v (.one (.whole (7, 2000)))))],
  [((0, 1000), some (.arr false 9 (.sp Pg.ks l))), ((4, 0), some (.var p.cs)), ((7, 2000), some (.arr true 9 (.sp Pg.ks lst)))], 105⟩

noncomputable def body5 : Code := bodyL 5 Try.f11
noncomputable def body13 : Code := bodyL 13 Try.f11

theorem step5 (l os lst : List (List PC)) (p : Pg) (i : Int) (G : St → Ans) (k : Ex → St → Ans) :
    evalC ⟨T.l, []⟩ (callD T E6 F 10 10) (annOf 11) 10 body5 (H5 l os p lst i) (fun e s' => match e with | .normal => atHead (annOf 11) 5 s' G | e => compact [0, 4, 7] s' (k e)) =
      (bif decide (i < (os.length : Int)) then bif decide (0 ≤ i ∧ i < (os.length : Int)) then bif rowIs [some .i64] os i.toNat then bif intCell os i.toNat 0 != p.l then
        bif decide (0 ≤ i ∧ i < (os.length : Int)) then bif rowIs [some .i64] os i.toNat then bif decide ((lst.length + 1) * 72 ≤ 140737488355328) then
          G (H5 l os p (lst ++ [Pg.row ⟨intCell os i.toNat 0, IntKind.wrap .u64 i, 0, 0, 0, 0, 0, 0, 0⟩]) (IntKind.wrap .i64 (i + 1))) else none else none else none
        else G (H5 l os p lst (IntKind.wrap .i64 (i + 1))) else none else none
       else k (.exit 0) (X5 l p lst)) := by kernel_rfl

theorem run5 (l : List (List PC)) (xs : List Int) (hx : xs.length ≤ 1000000) (p : Pg) (k : Ex → St → Ans) : ∀ (m i : Nat) (lst : List (List PC)), i + m = xs.length → lst.length + m ≤ 2000000 →
    gN ⟨T.l, []⟩ (callD T E6 F 10 10) (annOf 11) 10 5 body5 (fun e s' => compact [0, 4, 7] s' (k e)) (m + 1) (H5 l (xs.map ir) p lst i) =
      k (.exit 0) (X5 l p (lst ++ (ext (xs.drop i) i p.l).map Pg.row)) := by
  intro m
  induction m with
  | zero =>
    intro i lst hi _
    rw [gN]
    refine (step5 _ _ _ _ _ _ _).trans ?_
    rw [List.length_map, decide_eq_false (by omega), List.drop_of_length_le (by omega)]
    simp only [ext, List.map_nil, List.append_nil, cond_false]
  | succ m ih =>
    intro i lst hi hlst
    have hlt : i < xs.length := by omega
    rw [gN]
    refine (step5 _ _ _ _ _ _ _).trans ?_
    have e3 : IntKind.wrap .i64 ((i : Int) + 1) = ((i + 1 : Nat) : Int) := by rw [i64_in (by omega) (by omega)]; rfl
    rw [List.length_map, decide_eq_true (show (i : Int) < (xs.length : Int) by omega), decide_eq_true (show 0 ≤ (i : Int) ∧ (i : Int) < (xs.length : Int) by omega), decide_eq_true (show (lst.length + 1) * 72 ≤ 140737488355328 by omega), Int.toNat_natCast, rowIs_ir hlt, intCell_ir hlt, e3,
      List.drop_eq_getElem_cons hlt, ih (i + 1) _ (by omega) (by simp only [List.length_append, List.length_cons, List.length_nil]; omega), ih (i + 1) _ (by omega) (by omega)]
    rw [ext_cons]
    cases xs[i] != p.l <;> simp only [cond_true, cond_false, List.map_cons, List.append_assoc, List.cons_append, List.nil_append]

def sum5 : St → (Ex → St → Ans) → Ans
  | ⟨[(0, some (.v (.one (.whole (0, 1000))))), (2, some (.v (.one (.whole (2, 1000))))), (4, some (.v (.one (.ptr (4, 0) 0 0 false)))), (7, some (.v (.one (.whole (7, 2000))))), (8, some (.v (.one (.int .i64 i))))],
      [((0, 1000), some (.arr false 9 (.sp [some .i64, some .u64, some .u64, some .u64, some .u64, some .u64, some .u64, some .u64, some .u64] l))), ((2, 1000), some (.arr false 1 (.sp [some .i64] os))),
       ((4, 0), some (.var [.int .i64 p0, .int .u64 p1, .int .u64 p2, .int .u64 p3, .int .u64 p4, .int .u64 p5, .int .u64 p6, .int .u64 p7, .int .u64 p8])),
       ((7, 2000), some (.arr true 9 (.sp [some .i64, some .u64, some .u64, some .u64, some .u64, some .u64, some .u64, some .u64, some .u64] lst)))], 105⟩, k =>
    cond (intsOK os) (cond (decide (i = 0 ∧ lst.length ≤ 1000000)) (k (.exit 0) (X5 l (Pg.mk p0 p1 p2 p3 p4 p5 p6 p7 p8) (lst ++ (ext (intsOf os) 0 p0).map Pg.row))) none) none
  | _, _ => none

theorem sum5_ok : SumOK Try.prog body5 sum5 := by
  refine SumOK.of (T := ⟨T.l, []⟩) (call := callD T E6 F 10 10) (an := annOf 11) (lf := 10) (id := 5) (ls := [0, 4, 7]) (tok.dyn []) (callOK6 10 10) mixed (SumsOK.in (l := []) (by kernel_rfl) (fun b hb => by cases hb)) ?_
  intro s k r h
  unfold sum5 at h
  split at h
  case h_2 => cases h
  case h_1 k' i l os p0 p1 p2 p3 p4 p5 p6 p7 p8 lst =>
    obtain ⟨h1, g1⟩ := cond_none h
    obtain ⟨h2, g2⟩ := cond_none g1
    clear h g1
    obtain ⟨h2, h5⟩ := of_decide_eq_true h2
    subst h2
    obtain ⟨h3, h4⟩ := intsOK_some h1
    obtain ⟨xs, hxs⟩ : ∃ xs : List Int, os = xs.map ir := ⟨_, h3⟩
    subst hxs
    rw [intsOf_map] at g2
    rw [List.length_map] at h4
    refine ⟨xs.length + 1, ?_⟩
    have := run5 l xs h4 ⟨p0, p1, p2, p3, p4, p5, p6, p7, p8⟩ k xs.length 0 lst (by omega) (by omega)
    exact Eq.trans this g2

def H13 (l : List (List PC)) (p a c : Pg) (ba bc x : Bool) (i : Int) : St := ⟨[(0, some (.v (.one (.whole (0, 1000))))), (4, some (.v (.one (.ptr (4, 0) 0 0 false)))), (9, some (.v (.one (.ptr (9, 0) 0 0 false)))), (10, some (.v (.one (.bool ba)))), (11, some (.v (.one (.ptr (11, 0) 0 0 false)))), (12, some (.v (.one (.bool bc)))), (13, some (.v (.one (.bool x)))), (14, some (.v (.one (.int .i64 i))))],
  [((0, 1000), some (.arr false 9 (.sp Pg.ks l))), ((4, 0), some (.var p.cs)), ((9, 0), some (.var a.cs)), ((11, 0), some (.var c.cs))], 105⟩

def X13 (p a c : Pg) (ba bc x : Bool) : St := ⟨[(4, some (.v (.one (.ptr (4, 0) 0 0 false)))), (9, some (.v (.one (.ptr (9, 0) 0 0 false)))), (10, some (.v (.one (.bool ba)))), (11, some (.v (.one (.ptr (11, 0) 0 0 false)))), (12, some (.v (.one (.bool bc)))), (13, some (.v (.one (.bool x))))],
  [((4, 0), some (.var p.cs)), ((9, 0), some (.var a.cs)), ((11, 0), some (.var c.cs))], 105⟩

theorem step13 (l : List (List PC)) (p a c : Pg) (ba bc x : Bool) (i : Int) (G : St → Ans) (k : Ex → St → Ans) :
    evalC ⟨T.l, []⟩ (callD T E6 F 10 10) (annOf 11) 10 body13 (H13 l p a c ba bc x i) (fun e s' => match e with | .normal => atHead (annOf 11) 13 s' G | e => compact [4, 9, 10, 11, 12, 13] s' (k e)) =
      (bif decide (i < (l.length : Int)) then bif x then G (H13 l p a c ba bc true (IntKind.wrap .i64 (i + 1))) else
        bif decide (0 ≤ i ∧ i < (l.length : Int)) then bif rowIs Pg.ks l i.toNat then G (H13 l p a c ba bc (intCell l i.toNat 0 == p.l) (IntKind.wrap .i64 (i + 1))) else none else none
       else k (.exit 2) (X13 p a c ba bc x)) := by kernel_rfl

theorem latB_cons (q : Pg) (r : List Pg) (line : Int) : latB (q :: r) line = (q.l == line || latB r line) := by
  unfold latB
  simp only [latest]
  cases latest r line <;> cases q.l == line <;> rfl

theorem run13 (ps : List Pg) (hp : ps.length ≤ 1000000) (p a c : Pg) (ba bc : Bool) (k : Ex → St → Ans) : ∀ (m i : Nat) (x : Bool), i + m = ps.length →
    gN ⟨T.l, []⟩ (callD T E6 F 10 10) (annOf 11) 10 13 body13 (fun e s' => compact [4, 9, 10, 11, 12, 13] s' (k e)) (m + 1) (H13 (ps.map Pg.row) p a c ba bc x i) =
      k (.exit 2) (X13 p a c ba bc (x || latB (ps.drop i) p.l)) := by
  intro m
  induction m with
  | zero =>
    intro i x hi
    rw [gN]
    refine (step13 _ _ _ _ _ _ _ _ _ _).trans ?_
    rw [List.length_map, decide_eq_false (by omega), List.drop_of_length_le (by omega)]
    simp only [latB, latest, Bool.or_false, cond_false]
  | succ m ih =>
    intro i x hi
    have hlt : i < ps.length := by omega
    rw [gN]
    refine (step13 _ _ _ _ _ _ _ _ _ _).trans ?_
    have e2 : intCell (ps.map Pg.row) i 0 = (pgAt (ps.map Pg.row) i).l := rfl
    have e3 : IntKind.wrap .i64 ((i : Int) + 1) = ((i + 1 : Nat) : Int) := by rw [i64_in (by omega) (by omega)]; rfl
    rw [List.length_map, decide_eq_true (show (i : Int) < (ps.length : Int) by omega), decide_eq_true (show 0 ≤ (i : Int) ∧ (i : Int) < (ps.length : Int) by omega), Int.toNat_natCast, rowIs_row hlt, e2, pgAt_map hlt, e3,
      List.drop_eq_getElem_cons hlt, ih (i + 1) _ (by omega), ih (i + 1) _ (by omega), latB_cons]
    cases x <;> cases ps[i].l == p.l <;> rfl

def sum13 : St → (Ex → St → Ans) → Ans
  | ⟨[(0, some (.v (.one (.whole (0, 1000))))), (4, some (.v (.one (.ptr (4, 0) 0 0 false)))), (9, some (.v (.one (.ptr (9, 0) 0 0 false)))), (10, some (.v (.one (.bool ba)))), (11, some (.v (.one (.ptr (11, 0) 0 0 false)))), (12, some (.v (.one (.bool bc)))), (13, some (.v (.one (.bool x)))), (14, some (.v (.one (.int .i64 i))))],
      [((0, 1000), some (.arr false 9 (.sp ks l))), ((4, 0), some (.var cp)), ((9, 0), some (.var ca)), ((11, 0), some (.var cc))], 105⟩, k => match asPg cp, asPg ca, asPg cc with
    | some p, some a, some c => cond (decide (ks = Pg.ks)) (cond (pgsOK l) (cond (decide (i = 0)) (k (.exit 2) (X13 p a c ba bc (x || latB (pgsOf l) p.l))) none) none) none
    | _, _, _ => none
  | _, _ => none

theorem sum13_ok : SumOK Try.prog body13 sum13 := by
  refine SumOK.of (T := ⟨T.l, []⟩) (call := callD T E6 F 10 10) (an := annOf 11) (lf := 10) (id := 13) (ls := [4, 9, 10, 11, 12, 13]) (tok.dyn []) (callOK6 10 10) mixed (SumsOK.in (l := []) (by kernel_rfl) (fun b hb => by cases hb)) ?_
  intro s k r h
  unfold sum13 at h
  split at h
  case h_2 => cases h
  case h_1 k' ba bc x i ks l cp ca cc =>
    split at h
    case h_2 => cases h
    case h_1 p a c hcp hca hcc =>
      obtain ⟨h0, g0⟩ := cond_none h
      obtain ⟨h1, g1⟩ := cond_none g0
      obtain ⟨h2, g2⟩ := cond_none g1
      clear h g0 g1
      have h2 := of_decide_eq_true h2
      have h0 := of_decide_eq_true h0
      subst h2 h0
      obtain rfl := asPg_some hcp
      obtain rfl := asPg_some hca
      obtain rfl := asPg_some hcc
      obtain ⟨h3, h4⟩ := pgsOK_some h1
      obtain ⟨ps, hps⟩ : ∃ ps : List Pg, l = ps.map Pg.row := ⟨_, h3⟩
      subst hps
      rw [pgsOf_map] at g2
      rw [List.length_map] at h4
      refine ⟨ps.length + 1, ?_⟩
      have := run13 ps h4 p a c ba bc k ps.length 0 x (by omega)
      exact Eq.trans this g2

set_option maxRecDepth 100000 in
theorem last_sem (ps : List Pg) (p : Pg) (xs : List Int) : FnSem Try.prog 11 [.one (.sl 9 (.sp Pg.ks (ps.map Pg.row))), p.t, .one (.sl 1 (.sp [some .i64] (xs.map ir)))] (.v (.one (.pc (.bool true)))) := by
  refine semL (E := E6) E6_ok (lf := 10) (lf' := 10) (depth := 10) (an := annS 11 [(5, sum5), (13, sum13)]) Try.func11 (by kernel_rfl) (SumsOK.fn (l := [body5, body13]) (by kernel_rfl) (fun b hb => ?_)) ?_
  · rcases List.mem_cons.1 hb with rfl | hb
    · exact GoodL.some (f := sum5) (by kernel_rfl) sum5_ok
    · obtain rfl := List.mem_singleton.1 hb
      exact GoodL.some (f := sum13) (by kernel_rfl) sum13_ok
  · have h : ∀ (l os l1 l2 : List (List PC)), ([] ++ l) ++ [p.row] = l1 → l1 ++ (ext (intsOf os) 0 p.l).map Pg.row = l2 → evalFn T (callD T E6 F 10 10) (annS 11 [(5, sum5), (13, sum13)]) 10 Try.f11 [.one (.sl 9 (.sp Pg.ks l)), p.t, .one (.sl 1 (.sp [some .i64] os))] some =
        (bif decide ((l.length : Int) > 20) then bs true else bif decide ((os.length : Int) > 20) then bs true else bif decide ((0 + l.length) * 72 ≤ 140737488355328) then bif decide ((([] ++ l).length + 1) * 72 ≤ 140737488355328) then
          bif intsOK os then bif decide ((0 : Int) = 0 ∧ l1.length ≤ 1000000) then bif pgsOK l2 then bif pgsOK l then bif pgsOK l then bif decide ((0 : Int) = 0) then
            bif latB (pgsOf l2) p.l then bif pgEq (latP (pgsOf l2) p.l) p then bif latB (pgsOf l) p.l == (false || latB (pgsOf l) p.l) then bif latB (pgsOf l) p.l then bs true else bs (pgEq (latP (pgsOf l) p.l) .zero) else bs false else bs false else bs false
          else none else none else none else none else none else none else none else none) := by
      intro l os l1 l2 h1 h2
      subst h1 h2
      kernel_rfl
    rw [h _ _ _ _ rfl rfl, intsOf_map]
    refine bif_elim (fun _ => rfl) fun hl => bif_elim (fun _ => rfl) fun hx => ?_
    have hl := of_decide_eq_false hl
    have hx := of_decide_eq_false hx
    rw [List.length_map] at hl hx
    have e1 : ([] ++ ps.map Pg.row) ++ [p.row] = (ps ++ [p]).map Pg.row := by simp
    have e2 : (ps ++ [p]).map Pg.row ++ (ext xs 0 p.l).map Pg.row = (ps ++ [p] ++ ext xs 0 p.l).map Pg.row := by simp
    have hE := ext_length xs p.l 0
    have hlen : (ps ++ [p] ++ ext xs 0 p.l).length ≤ 1000000 := by simp only [List.length_append, List.length_cons, List.length_nil]; omega
    rw [e1, e2, List.nil_append, List.length_map, decide_eq_true (by omega), decide_eq_true (by omega), intsOK_map (by omega), List.length_map, decide_eq_true ⟨rfl, by simp only [List.length_append, List.length_cons, List.length_nil]; omega⟩, pgsOK_map hlen, pgsOK_map (by omega), pgsOf_map, pgsOf_map]
    have hlat : latest (ps ++ [p] ++ ext xs 0 p.l) p.l = some p := by
      rw [latest_append, ext_none, latest_snoc, beq_self_eq_true]; rfl
    have hb : latB (ps ++ [p] ++ ext xs 0 p.l) p.l = true := by unfold latB; rw [hlat]
    have hp : latP (ps ++ [p] ++ ext xs 0 p.l) p.l = p := by unfold latP; rw [hlat]
    rw [hb, hp, pgEq_self, Bool.false_or, beq_self_eq_true]
    simp only [cond_true, decide_true]
    refine bif_elim (fun _ => rfl) fun hn => ?_
    have hz : latP ps p.l = .zero := by
      unfold latB at hn
      unfold latP
      cases hq : latest ps p.l with
      | none => rfl
      | some q => rw [hq] at hn; cases hn
    rw [hz, pgEq_self]
    rfl

-- the law
set_option maxRecDepth 100000 in
theorem last_lifted (os : Os) (started : os.Started) (H : Type) (enc : TypeId × Value → H) :
    ReturnsInHanded {} Try.checked os 11 .any (Rows.pointerLatestSpec.pre6 enc Try.prog Try.f11 Rows.pointerLatestRow.domain false) (Rows.pointerLatestSpec.post enc Try.prog Try.f11 false true false false) :=
  law_lifted (C := Try.checked) (s := Rows.pointerLatestSpec) (conds := Rows.pointerLatestRow.domain) (apart := false) (fresh := true) (handsOn := false) (again := false) own started (by kernel_rfl) Try.func11
    (ChangeSpec.witness6 (enc := enc) (C := Try.checked) false ⟨#[], #[.slice none 0 0, .agg #[.int .i64 0, .int .u64 0, .int .u64 0, .int .u64 0, .int .u64 0, .int .u64 0, .int .u64 0, .int .u64 0, .int .u64 0], .slice none 0 0], []⟩ 8 (by kernel_rfl) (by kernel_rfl) (by kernel_rfl) (by kernel_rfl))
    laid (fun t ht => List.all_eq_true.1 (show (Try.f11.params.toList.all fun t => argB Try.prog t) = true by kernel_rfl) t ht) (rt := 4) rfl und4 rfl
    (fun ds hds => by
      match ds, hds with
      | [_, _, _], _ => rfl)
    (fun l hl => by
      obtain ⟨d1, l1, rfl, h1, hl⟩ := all2_cons hl
      obtain ⟨d2, l2, rfl, h2, hl⟩ := all2_cons hl
      obtain ⟨d3, l3, rfl, h3, hl⟩ := all2_cons hl
      obtain rfl := all2_nil hl
      obtain ⟨E, ps, rfl, he, _⟩ := open_pgs h1
      obtain ⟨p, rfl, _⟩ := open_pg h2
      obtain ⟨O, xs, rfl, ho, _⟩ := open_ints h3
      exact (last_sem ps p xs).same ⟨same_sl he.symm, same_refl _, same_sl ho.symm, trivial⟩
)

theorem last_law : Rows.PointerLatestSaid :=
  OpenClaim.holds_of_wide 11 Try.f11 rfl rfl rfl rfl rfl rfl rfl ⟨rfl, rfl, rfl, rfl, rfl⟩ rfl rfl rfl rfl rfl (by kernel_rfl) Try.func11 (by kernel_rfl)
    (of_decide_eq_true (by kernel_rfl)) (by unfold Func.isWrapper; first | (rw [if_pos (by decide +kernel)]; kernel_rfl) | (rw [if_neg (by decide +kernel)]; exact ⟨rfl, rfl⟩))
    (fun os started H enc _ => last_lifted os started H enc)

end Go.Proofs.Ytjbmpimclagfoaa
