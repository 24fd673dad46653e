/-
  Lists of pages: what both functions Latest find.
-/
import Derived.Test.YtjbmpimclagfoaaSp6
namespace Go.Sp
open Go.Eng

/-- The kinds of a page's cells. -/
def Pg.ks : List (Option IntKind) := [some .i64, some .u64, some .u64, some .u64, some .u64, some .u64, some .u64, some .u64, some .u64]
def Pg.cs (p : Pg) : List Cell := [.int .i64 p.l, .int .u64 p.h, .int .u64 p.a, .int .u64 p.b, .int .u64 p.c, .int .u64 p.d, .int .u64 p.e, .int .u64 p.f, .int .u64 p.g]

def pgAt (l : List (List PC)) (i : Nat) : Pg := ⟨intCell l i 0, intCell l i 1, intCell l i 2, intCell l i 3, intCell l i 4, intCell l i 5, intCell l i 6, intCell l i 7, intCell l i 8⟩

/-- All rows are pages, and they are not too many. -/
def pgsOK (l : List (List PC)) : Bool := cond (l.all fun r => kindsOK Pg.ks r) (Nat.ble l.length 1000000) false
def pgsOf (l : List (List PC)) : List Pg := (List.range l.length).map (pgAt l)

theorem kindsOK_pg {r : List PC} (h : kindsOK Pg.ks r = true) : ∃ p : Pg, r = p.row := by
  have step : ∀ {k : Option IntKind} {ks : List (Option IntKind)} {r : List PC}, kindsOK (k :: ks) r = true → ∃ p q, r = p :: q ∧ kindOK k p = true ∧ kindsOK ks q = true := fun {k ks r} h => by
    cases r with
    | nil => simp [kindsOK] at h
    | cons p q => simp only [kindsOK] at h; exact ⟨p, q, rfl, cond_and h⟩
  have int : ∀ {k : IntKind} {p : PC}, kindOK (some k) p = true → ∃ n, p = .int k n := fun {k p} h => by
    cases p with
    | bool => simp [kindOK] at h
    | int k' n => simp only [kindOK] at h; split at h <;> first | (rename_i e; subst e; exact ⟨n, rfl⟩) | cases h
  unfold Pg.ks at h
  obtain ⟨x0, r0, rfl, k0, h0⟩ := step h
  obtain ⟨l, rfl⟩ := int k0
  obtain ⟨x1, r1, rfl, k1, h1⟩ := step h0
  obtain ⟨hh, rfl⟩ := int k1
  obtain ⟨x2, r2, rfl, k2, h2⟩ := step h1
  obtain ⟨a, rfl⟩ := int k2
  obtain ⟨x3, r3, rfl, k3, h3⟩ := step h2
  obtain ⟨b, rfl⟩ := int k3
  obtain ⟨x4, r4, rfl, k4, h4⟩ := step h3
  obtain ⟨c, rfl⟩ := int k4
  obtain ⟨x5, r5, rfl, k5, h5⟩ := step h4
  obtain ⟨d, rfl⟩ := int k5
  obtain ⟨x6, r6, rfl, k6, h6⟩ := step h5
  obtain ⟨e, rfl⟩ := int k6
  obtain ⟨x7, r7, rfl, k7, h7⟩ := step h6
  obtain ⟨f, rfl⟩ := int k7
  obtain ⟨x8, q, rfl, k8, h8⟩ := step h7
  obtain ⟨g, rfl⟩ := int k8
  cases q with
  | nil => exact ⟨⟨l, hh, a, b, c, d, e, f, g⟩, rfl⟩
  | cons => simp [kindsOK] at h8

theorem pgAt_row {l : List (List PC)} {i : Nat} {p : Pg} (h : l[i]? = some p.row) : pgAt l i = p := by
  unfold pgAt intCell
  rw [h]
  rfl

theorem pgsOf_map (ps : List Pg) : pgsOf (ps.map Pg.row) = ps := by
  unfold pgsOf
  apply List.ext_getElem?
  intro i
  rw [List.getElem?_map, List.length_map]
  by_cases h : i < ps.length
  · rw [List.getElem?_range h, Option.map_some, List.getElem?_eq_getElem h, pgAt_row (p := ps[i])]
    rw [List.getElem?_map, List.getElem?_eq_getElem h]
    rfl
  · rw [List.getElem?_eq_none (by simp; omega), List.getElem?_eq_none (by omega)]
    rfl

theorem kindsOK_row (p : Pg) : kindsOK Pg.ks p.row = true := rfl

theorem rowIs_row {ps : List Pg} {i : Nat} (h : i < ps.length) : rowIs Pg.ks (ps.map Pg.row) i = true := by
  unfold rowIs
  rw [List.getElem?_map, List.getElem?_eq_getElem h]
  rfl

theorem pgAt_map {ps : List Pg} {i : Nat} (h : i < ps.length) : pgAt (ps.map Pg.row) i = ps[i] := pgAt_row (by rw [List.getElem?_map, List.getElem?_eq_getElem h]; rfl)

theorem pgsOK_map {ps : List Pg} (h : ps.length ≤ 1000000) : pgsOK (ps.map Pg.row) = true := by
  have h1 : ((ps.map Pg.row).all fun r => kindsOK Pg.ks r) = true := by
    rw [List.all_eq_true]
    intro r hr
    obtain ⟨p, _, rfl⟩ := List.mem_map.1 hr
    rfl
  unfold pgsOK
  rw [h1, cond_true, List.length_map]
  exact ble_iff.2 h

theorem pgsOK_some {l : List (List PC)} (h : pgsOK l = true) : l = (pgsOf l).map Pg.row ∧ l.length ≤ 1000000 := by
  unfold pgsOK at h
  obtain ⟨h1, h2⟩ := cond_and h
  refine ⟨?_, ble_iff.1 h2⟩
  have : ∃ ps : List Pg, l = ps.map Pg.row := by
    clear h h2
    induction l with
    | nil => exact ⟨[], rfl⟩
    | cons r l ih =>
      rw [List.all_cons, Bool.and_eq_true] at h1
      obtain ⟨ps, hps⟩ := ih h1.2
      obtain ⟨p, hp⟩ := kindsOK_pg h1.1
      exact ⟨p :: ps, by rw [List.map_cons, ← hps, ← hp]⟩
  obtain ⟨ps, rfl⟩ := this
  rw [pgsOf_map]

/-- The last page of that line. -/
def latest : List Pg → Int → Option Pg
  | [], _ => none
  | p :: r, line => match latest r line with
    | some q => some q
    | none => bif p.l == line then some p else none

theorem latest_snoc (l : List Pg) (p : Pg) (line : Int) : latest (l ++ [p]) line = bif p.l == line then some p else latest l line := by
  induction l with
  | nil => simp only [List.nil_append, latest]
  | cons q l ih =>
    simp only [List.cons_append, latest, ih]
    cases p.l == line <;> rfl

theorem latest_take {l : List Pg} {n : Nat} (h : n < l.length) (line : Int) : latest (l.take (n + 1)) line = bif l[n].l == line then some l[n] else latest (l.take n) line := by
  rw [List.take_add_one, List.getElem?_eq_getElem h]
  exact latest_snoc _ _ _

def latP (l : List Pg) (line : Int) : Pg := match latest l line with
  | some p => p
  | none => .zero
def latB (l : List Pg) (line : Int) : Bool := match latest l line with
  | some _ => true
  | none => false

end Go.Sp

namespace Go.Proofs.Ytjbmpimclagfoaa
open Go.Eng Go.Sp

theorem callOK4 (lf d : Nat) : CallOK Try.prog (callD T E4 F lf d) := callD_ok tok E4_ok fnsok mixed d

/-! ### pointer.Latest -/

def H58 (l : List (List PC)) (line i : Int) (cs : List Cell) : St :=
  ⟨[(0, some (.v (.one (.whole (0, 1000))))), (1, some (.v (.one (.int .i64 line)))), (4, some (.v (.one (.ptr (4, 0) 0 0 false)))), (6, some (.v (.one (.int .i64 i))))], [((0, 1000), some (.arr false 9 (.sp Pg.ks l))), ((4, 0), some (.var cs))], 26⟩

def X58 (cs : List Cell) : St := ⟨[(4, some (.v (.one (.ptr (4, 0) 0 0 false)))), (5, some (.v (.one (.bool true))))], [((4, 0), some (.var cs))], 26⟩
def Y58 (cs : List Cell) : St := ⟨[(4, some (.v (.one (.ptr (4, 0) 0 0 false))))], [((4, 0), some (.var cs))], 26⟩

noncomputable def body58 : Code := bodyL 2 Try.f58

theorem step58 (l : List (List PC)) (line i : Int) (p : Pg) (G : St → Ans) (k : Ex → St → Ans) :
    evalC ⟨T.l, []⟩ (callD T E4 F 10 10) (annOf 58) 10 body58 (H58 l line i p.cs) (fun e s' => match e with | .normal => atHead (annOf 58) 2 s' G | e => compact [4, 5] s' (k e)) =
      (bif decide (i ≥ 0) then bif decide (0 ≤ i ∧ i < (l.length : Int)) then bif rowIs Pg.ks l i.toNat then bif intCell l i.toNat 0 == line then
        bif decide (0 ≤ i ∧ i < (l.length : Int)) then bif rowIs Pg.ks l i.toNat then k .ret (X58 (pgAt l i.toNat).cs) else none else none
        else G (H58 l line (IntKind.wrap .i64 (i - 1)) p.cs) else none else none
       else k (.exit 0) (Y58 p.cs)) := by kernel_rfl

def sum58 : St → (Ex → St → Ans) → Ans
  | ⟨[(0, some (.v (.one (.whole (0, 1000))))), (1, some (.v (.one (.int .i64 line)))), (4, some (.v (.one (.ptr (4, 0) 0 0 false)))), (6, some (.v (.one (.int .i64 i))))],
      [((0, 1000), some (.arr false 9 (.sp [some .i64, some .u64, some .u64, some .u64, some .u64, some .u64, some .u64, some .u64, some .u64] l))),
       ((4, 0), some (.var [.int .i64 p0, .int .u64 p1, .int .u64 p2, .int .u64 p3, .int .u64 p4, .int .u64 p5, .int .u64 p6, .int .u64 p7, .int .u64 p8]))], 26⟩, k =>
    cond (pgsOK l) (cond (decide (-1 ≤ i ∧ i < (l.length : Int))) (cond (latB ((pgsOf l).take (i + 1).toNat) line) (k .ret (X58 (latP ((pgsOf l).take (i + 1).toNat) line).cs)) (k (.exit 0) (Y58 (Pg.mk p0 p1 p2 p3 p4 p5 p6 p7 p8).cs))) none) none
  | _, _ => none

theorem run58 (ps : List Pg) (hp : ps.length ≤ 1000000) (line : Int) (p : Pg) (k : Ex → St → Ans) : ∀ (n : Nat), n ≤ ps.length →
    gN ⟨T.l, []⟩ (callD T E4 F 10 10) (annOf 58) 10 2 body58 (fun e s' => compact [4, 5] s' (k e)) (n + 1) (H58 (ps.map Pg.row) line ((n : Int) - 1) p.cs) =
      (match latest (ps.take n) line with | some q => k .ret (X58 q.cs) | none => k (.exit 0) (Y58 p.cs)) := by
  intro n
  induction n with
  | zero =>
    intro _
    rw [gN]
    refine (step58 _ _ _ _ _ _).trans ?_
    rfl
  | succ n ih =>
    intro hn
    have hlt : n < ps.length := hn
    rw [gN]
    refine (step58 _ _ _ _ _ _).trans ?_
    have e1 : ((n + 1 : Nat) : Int) - 1 = (n : Int) := by omega
    rw [e1, decide_eq_true (show (n : Int) ≥ 0 by omega), List.length_map, decide_eq_true (show 0 ≤ (n : Int) ∧ (n : Int) < (ps.length : Int) by omega), Int.toNat_natCast, rowIs_row hlt, latest_take hlt]
    have e2 : intCell (ps.map Pg.row) n 0 = (pgAt (ps.map Pg.row) n).l := rfl
    rw [e2, pgAt_map hlt, i64_in (by omega) (by omega), ih (by omega)]
    cases ps[n].l == line <;> rfl

theorem sum58_ok : SumOK Try.prog body58 sum58 := by
  refine SumOK.of (T := ⟨T.l, []⟩) (call := callD T E4 F 10 10) (an := annOf 58) (lf := 10) (id := 2) (ls := [4, 5]) (tok.dyn []) (callOK4 10 10) mixed (SumsOK.in (l := []) (by kernel_rfl) (fun b hb => by cases hb)) ?_
  intro s k r h
  unfold sum58 at h
  split at h
  case h_2 => cases h
  case h_1 k' line i l p0 p1 p2 p3 p4 p5 p6 p7 p8 =>
    obtain ⟨h1, g1⟩ := cond_none h
    obtain ⟨h2, g2⟩ := cond_none g1
    clear h g1
    have h2 := of_decide_eq_true h2
    obtain ⟨h3, h4⟩ := pgsOK_some h1
    obtain ⟨ps, hps⟩ : ∃ ps : List Pg, l = ps.map Pg.row := ⟨_, h3⟩
    subst hps
    rw [pgsOf_map] at g2
    rw [List.length_map] at h2 h4
    refine ⟨(i + 1).toNat + 1, ?_⟩
    have := run58 ps h4 line ⟨p0, p1, p2, p3, p4, p5, p6, p7, p8⟩ k (i + 1).toNat (by omega)
    have e : (((i + 1).toNat : Nat) : Int) - 1 = i := by omega
    rw [e] at this
    refine Eq.trans this ?_
    rw [← g2]
    unfold latB latP
    cases latest (ps.take (i + 1).toNat) line <;> rfl

theorem latest_sem0 (ps : List Pg) (hp : ps.length ≤ 1000000) (line : Int) : FnSem Try.prog 58 [.one (.sl 9 (.sp Pg.ks (ps.map Pg.row))), ri line] (.tup [(latP ps line).t, rb (latB ps line)]) := by
  refine semL (E := E4) E4_ok (lf := 10) (lf' := 10) (depth := 10) (an := annS 58 [(2, sum58)]) Try.func58 (by kernel_rfl) (SumsOK.fn (l := [body58]) (by kernel_rfl) (fun b hb => ?_)) ?_
  · obtain rfl := List.mem_singleton.1 hb
    exact GoodL.some (f := sum58) (by kernel_rfl) sum58_ok
  · have h : ∀ l : List (List PC), evalFn T (callD T E4 F 10 10) (annS 58 [(2, sum58)]) 10 Try.f58 [.one (.sl 9 (.sp Pg.ks l)), ri line] some =
        (bif pgsOK l then bif decide (-1 ≤ IntKind.wrap .i64 ((l.length : Int) - 1) ∧ IntKind.wrap .i64 ((l.length : Int) - 1) < (l.length : Int)) then
          bif latB ((pgsOf l).take (IntKind.wrap .i64 ((l.length : Int) - 1) + 1).toNat) line then some (.tup [(latP ((pgsOf l).take (IntKind.wrap .i64 ((l.length : Int) - 1) + 1).toNat) line).t, rb true]) else some (.tup [Pg.zero.t, rb false]) else none else none) := fun l => by kernel_rfl
    rw [h, pgsOK_map hp, List.length_map, i64_in (by omega) (by omega), decide_eq_true (by omega), pgsOf_map, show ((ps.length : Int) - 1 + 1).toNat = ps.length by omega, List.take_length]
    unfold latB latP
    cases latest ps line <;> rfl

/-! ### The document's Latest -/

def H63 (l : List (List PC)) (line i : Int) (c : List Cell) (p : Pg) (found : Bool) : St :=
  ⟨[(0, some (.v (.one (.whole (0, 1000))))), (1, some (.v (.one (.int .i64 line)))), (4, some (.v (.one (.ptr (4, 0) 0 0 false)))), (6, some (.v (.one (.ptr (6, 0) 0 0 false)))), (7, some (.v (.one (.bool found)))), (8, some (.v (.one (.int .i64 i))))],
    [((0, 1000), some (.arr false 9 (.sp Pg.ks l))), ((4, 0), some (.var c)), ((6, 0), some (.var p.cs))], 28⟩

def X63 (c : List Cell) (p : Pg) (found : Bool) : St :=
  ⟨[(4, some (.v (.one (.ptr (4, 0) 0 0 false)))), (6, some (.v (.one (.ptr (6, 0) 0 0 false)))), (7, some (.v (.one (.bool found))))], [((4, 0), some (.var c)), ((6, 0), some (.var p.cs))], 28⟩

noncomputable def body63 : Code := bodyL 4 Try.f63

theorem step63 (l : List (List PC)) (line i : Int) (c p : Pg) (found : Bool) (G : St → Ans) (k : Ex → St → Ans) :
    evalC ⟨T.l, []⟩ (callD T E4 F 10 10) (annOf 63) 10 body63 (H63 l line i c.cs p found) (fun e s' => match e with | .normal => atHead (annOf 63) 4 s' G | e => compact [4, 6, 7] s' (k e)) =
      (bif decide (i < (l.length : Int)) then bif decide (0 ≤ i ∧ i < (l.length : Int)) then bif rowIs Pg.ks l i.toNat then bif intCell l i.toNat 0 == line then
        bif decide (0 ≤ i ∧ i < (l.length : Int)) then bif rowIs Pg.ks l i.toNat then G (H63 l line (IntKind.wrap .i64 (i + 1)) c.cs (pgAt l i.toNat) true) else none else none
        else G (H63 l line (IntKind.wrap .i64 (i + 1)) c.cs p found) else none else none
       else k (.exit 0) (X63 c.cs p found)) := by kernel_rfl

def lat2 (l : List Pg) (line : Int) (p : Pg) (found : Bool) (k : Pg → Bool → Ans) : Ans := match latest l line with
  | some q => k q true
  | none => k p found

theorem run63 (ps : List Pg) (hp : ps.length ≤ 1000000) (line : Int) (c : Pg) (k : Ex → St → Ans) : ∀ (m i : Nat) (p : Pg) (found : Bool), i + m = ps.length →
    gN ⟨T.l, []⟩ (callD T E4 F 10 10) (annOf 63) 10 4 body63 (fun e s' => compact [4, 6, 7] s' (k e)) (m + 1) (H63 (ps.map Pg.row) line i c.cs p found) =
      lat2 (ps.drop i) line p found (fun q b => k (.exit 0) (X63 c.cs q b)) := by
  intro m
  induction m with
  | zero =>
    intro i p found hi
    rw [gN]
    refine (step63 _ _ _ _ _ _ _ _).trans ?_
    rw [List.length_map, decide_eq_false (by omega), List.drop_of_length_le (by omega)]
    rfl
  | succ m ih =>
    intro i p found hi
    have hlt : i < ps.length := by omega
    rw [gN]
    refine (step63 _ _ _ _ _ _ _ _).trans ?_
    have e2 : intCell (ps.map Pg.row) i 0 = (pgAt (ps.map Pg.row) i).l := rfl
    have e3 : IntKind.wrap .i64 ((i : Int) + 1) = ((i + 1 : Nat) : Int) := by rw [i64_in (by omega) (by omega)]; rfl
    rw [List.length_map, decide_eq_true (show (i : Int) < (ps.length : Int) by omega), decide_eq_true (show 0 ≤ (i : Int) ∧ (i : Int) < (ps.length : Int) by omega), Int.toNat_natCast, rowIs_row hlt, e2, pgAt_map hlt, e3,
      List.drop_eq_getElem_cons hlt, ih (i + 1) _ _ (by omega), ih (i + 1) _ _ (by omega)]
    unfold lat2
    simp only [latest]
    cases latest (ps.drop (i + 1)) line <;> cases ps[i].l == line <;> rfl

def sum63 : St → (Ex → St → Ans) → Ans
  | ⟨[(0, some (.v (.one (.whole (0, 1000))))), (1, some (.v (.one (.int .i64 line)))), (4, some (.v (.one (.ptr (4, 0) 0 0 false)))), (6, some (.v (.one (.ptr (6, 0) 0 0 false)))), (7, some (.v (.one (.bool found)))), (8, some (.v (.one (.int .i64 i))))],
      [((0, 1000), some (.arr false 9 (.sp [some .i64, some .u64, some .u64, some .u64, some .u64, some .u64, some .u64, some .u64, some .u64] l))),
       ((4, 0), some (.var [.int .i64 c0, .int .u64 c1, .int .u64 c2, .int .u64 c3, .int .u64 c4, .int .u64 c5, .int .u64 c6, .int .u64 c7, .int .u64 c8])),
       ((6, 0), some (.var [.int .i64 p0, .int .u64 p1, .int .u64 p2, .int .u64 p3, .int .u64 p4, .int .u64 p5, .int .u64 p6, .int .u64 p7, .int .u64 p8]))], 28⟩, k =>
    cond (pgsOK l) (cond (decide (i = 0)) (lat2 (pgsOf l) line ⟨p0, p1, p2, p3, p4, p5, p6, p7, p8⟩ found (fun q b => k (.exit 0) (X63 (Pg.mk c0 c1 c2 c3 c4 c5 c6 c7 c8).cs q b))) none) none
  | _, _ => none

theorem sum63_ok : SumOK Try.prog body63 sum63 := by
  refine SumOK.of (T := ⟨T.l, []⟩) (call := callD T E4 F 10 10) (an := annOf 63) (lf := 10) (id := 4) (ls := [4, 6, 7]) (tok.dyn []) (callOK4 10 10) mixed (SumsOK.in (l := []) (by kernel_rfl) (fun b hb => by cases hb)) ?_
  intro s k r h
  unfold sum63 at h
  split at h
  case h_2 => cases h
  case h_1 k' line found i l c0 c1 c2 c3 c4 c5 c6 c7 c8 p0 p1 p2 p3 p4 p5 p6 p7 p8 =>
    obtain ⟨h1, g1⟩ := cond_none h
    obtain ⟨h2, g2⟩ := cond_none g1
    clear h g1
    have h2 := of_decide_eq_true h2
    subst h2
    obtain ⟨h3, h4⟩ := pgsOK_some h1
    obtain ⟨ps, hps⟩ : ∃ ps : List Pg, l = ps.map Pg.row := ⟨_, h3⟩
    subst hps
    rw [pgsOf_map] at g2
    rw [List.length_map] at h4
    refine ⟨ps.length + 1, ?_⟩
    have := run63 ps h4 line ⟨c0, c1, c2, c3, c4, c5, c6, c7, c8⟩ k ps.length 0 ⟨p0, p1, p2, p3, p4, p5, p6, p7, p8⟩ found (by omega)
    exact Eq.trans this g2

theorem rlatest_sem0 (ps : List Pg) (hp : ps.length ≤ 1000000) (line : Int) : FnSem Try.prog 63 [.one (.sl 9 (.sp Pg.ks (ps.map Pg.row))), ri line] (.tup [(latP ps line).t, rb (latB ps line)]) := by
  refine semL (E := E4) E4_ok (lf := 10) (lf' := 10) (depth := 10) (an := annS 63 [(4, sum63)]) Try.func63 (by kernel_rfl) (SumsOK.fn (l := [body63]) (by kernel_rfl) (fun b hb => ?_)) ?_
  · obtain rfl := List.mem_singleton.1 hb
    exact GoodL.some (f := sum63) (by kernel_rfl) sum63_ok
  · have h : ∀ l : List (List PC), evalFn T (callD T E4 F 10 10) (annS 63 [(4, sum63)]) 10 Try.f63 [.one (.sl 9 (.sp Pg.ks l)), ri line] some =
        (bif pgsOK l then lat2 (pgsOf l) line .zero false (fun q b => some (.tup [q.t, rb b])) else none) := fun l => by kernel_rfl
    rw [h, pgsOK_map hp, pgsOf_map]
    unfold lat2 latB latP
    cases latest ps line <;> rfl

/-! ### For any list -/

theorem list_arg {ps : List Pg} {E : Els} (h : E.list = ps.map Pg.row) (r : List D1) : All2 D1.same (.one (.sl 9 (.sp Pg.ks (ps.map Pg.row))) :: r) (.one (.sl 9 E) :: r) := by
  refine ⟨⟨rfl, h.symm⟩, ?_⟩
  have hdc : ∀ c : DC, c.same c := fun c => by cases c <;> first | rfl | exact ⟨rfl, rfl⟩
  have hl : ∀ l : List DC, All2 DC.same l l := fun l => by
    induction l with
    | nil => trivial
    | cons a l ih => exact ⟨hdc a, ih⟩
  have hd : ∀ x : D1, x.same x := fun x => by cases x with
    | one c => exact hdc c
    | agg l => exact hl l
  induction r with
  | nil => trivial
  | cons a r ih => exact ⟨hd a, ih⟩

def latS : List D1 → Option (Bool × DRes)
  | [.one (.sl z E), .one (.pc (.int .i64 line))] => cond (Nat.beq z 9) (some (pgsOK E.list, .tup [(latP (pgsOf E.list) line).t, rb (latB (pgsOf E.list) line)])) none
  | _ => none

theorem latS_some {l : List D1} {d : DRes} (h : latS l = some (true, d)) : ∃ E line, l = [.one (.sl 9 E), ri line] ∧ E.list = (pgsOf E.list).map Pg.row ∧ (pgsOf E.list).length ≤ 1000000 ∧ d = .tup [(latP (pgsOf E.list) line).t, rb (latB (pgsOf E.list) line)] := by
  unfold latS at h
  split at h
  case h_2 => cases h
  case h_1 z E line =>
    obtain ⟨h1, g1⟩ := cond_none h
    simp only [Option.some.injEq, Prod.mk.injEq] at g1
    obtain ⟨h2, g2⟩ := g1
    obtain ⟨h3, h4⟩ := pgsOK_some h2
    refine ⟨E, line, by rw [beq_iff.1 h1]; rfl, h3, ?_, g2.symm⟩
    rw [h3, List.length_map] at h4
    exact h4

theorem latS_ok : ∀ l d, latS l = some (true, d) → FnSem Try.prog 58 l d := fun l d h => by
  obtain ⟨E, line, rfl, h1, h2, rfl⟩ := latS_some h
  exact (latest_sem0 _ h2 line).same (list_arg h1 _)

theorem rlatS_ok : ∀ l d, latS l = some (true, d) → FnSem Try.prog 63 l d := fun l d h => by
  obtain ⟨E, line, rfl, h1, h2, rfl⟩ := latS_some h
  exact (rlatest_sem0 _ h2 line).same (list_arg h1 _)

def E5 : Env := (58, latS) :: (63, latS) :: E4
theorem E5_ok : EnvOK Try.prog E5 := .consO latS_ok (.consO rlatS_ok E4_ok)

end Go.Proofs.Ytjbmpimclagfoaa
