/-
  Soundness of the evaluator's single operations: reading and writing blocks.
-/
import Derived.Test.YtjbmpimclagfoaaEngT
import Derived.Laws.CopyRow
namespace Go.Eng
open Go.RowKit

theorem add_none (b o n : Nat) : (⟨b, o, none⟩ : Addr).add n = ⟨b, o + n, none⟩ := by
  unfold Addr.add
  split
  · rename_i h; subst h; rfl
  · rfl

theorem cell_of {w : World} {b : Nat} {arr : Array Value} {t : TypeId} {fr : Nat × Nat} (h : w.heap[b]? = some (.cells arr t fr)) (j : Nat) : w.cell? ⟨b, j, none⟩ = arr[j]? := by
  simp [World.cell?, h]

theorem All2.getElem {α β : Type} {r : α → β → Prop} {l : List α} {m : List β} (h : All2 r l m) {j : Nat} {a : α} (ha : l[j]? = some a) : ∃ b, m[j]? = some b ∧ r a b :=
  h.nth (by rw [nth_eq]; exact ha)

theorem ints_map {l : List Cell} {k : IntKind} {ns : List Int} (h : ints l = some (k, ns)) : l = ns.map (Cell.int k) := by
  induction l generalizing k ns with
  | nil => simp [ints] at h
  | cons c l ih =>
    cases c with
    | int k' n =>
      cases l with
      | nil =>
        simp only [ints, Option.some.injEq, Prod.mk.injEq] at h
        obtain ⟨rfl, rfl⟩ := h
        rfl
      | cons d l =>
        simp only [ints] at h
        cases hq : ints (d :: l) with
        | none => rw [hq] at h; simp at h
        | some q =>
          obtain ⟨k2, ns2⟩ := q
          rw [hq] at h
          simp only at h
          split at h
          · rename_i hk
            simp only [Option.some.injEq, Prod.mk.injEq] at h
            obtain ⟨rfl, rfl⟩ := h
            subst hk
            rw [List.map_cons, ← ih hq]
          · cases h
    | _ => simp [ints] at h

theorem intAt_eq (ns : List Int) (j : Nat) : intAt ns j = ns.getD j 0 := by
  induction ns generalizing j with
  | nil => simp [intAt]
  | cons n ns ih => cases j <;> simp [intAt, ih]

theorem selC_ok {cs : List Cell} {j : Nat} {c : Cell} (h : selC cs j = some c) (hj : j < cs.length) : cs[j]? = some c := by
  induction cs generalizing j with
  | nil => simp at hj
  | cons d r ih =>
    simp only [selC] at h
    cases hq : ints (d :: r) with
    | some q =>
      obtain ⟨k, ns⟩ := q
      rw [hq] at h
      simp only [Option.some.injEq] at h
      have := ints_map hq
      have hl : j < ns.length := by rw [this] at hj; simpa using hj
      rw [this, ← h, intAt_eq]
      simp [hl]
    | none =>
      rw [hq] at h
      cases j with
      | zero => simpa using h
      | succ j => simpa using ih h (by simpa using hj)

section reading
variable {β : Bt} {B : Nat} {w : World} {bi : BI}

theorem Els.len_eq (E : Els) : E.len = E.list.length := by
  cases E <;> simp [Els.len, Els.list]

theorem rowOf_eq (cols : List Col) (i : Nat) : rowOf cols i = cols.map fun c => c.at i := by
  induction cols with
  | nil => rfl
  | cons c cols ih => simp [rowOf, ih]

theorem mapC_eq (l : List PC) : mapC l = l.map PC.c := by
  induction l with
  | nil => rfl
  | cons c l ih => simp [mapC, ih]

theorem intAt_lt {ns : List Int} {t : Nat} (h : t < ns.length) : ns[t]? = some (intAt ns t) := by
  rw [intAt_eq, List.getD_eq_getElem?_getD, List.getElem?_eq_getElem h]
  rfl

theorem colOf_ok {j : Nat} : ∀ {l : List (List PC)} {k : IntKind} {ns : List Int}, colOf j l = some (k, ns) → ∀ (t : Nat) (e : List PC), l[t]? = some e → nth e j = some (.int k (intAt ns t)) := by
  intro l
  induction l with
  | nil => intro k ns h; simp [colOf] at h
  | cons x l ih =>
    intro k ns h t e ht
    simp only [colOf] at h
    split at h
    case h_2 => cases h
    case h_1 k0 n hn =>
      split at h
      · simp only [Option.some.injEq, Prod.mk.injEq] at h
        obtain ⟨rfl, rfl⟩ := h
        cases t with
        | zero => simp only [List.getElem?_cons_zero, Option.some.injEq] at ht; subst ht; exact hn
        | succ t => simp at ht
      · split at h
        case h_2 => cases h
        case h_1 k' ms hc =>
          split at h
          case isFalse => cases h
          case isTrue hk =>
            simp only [Option.some.injEq, Prod.mk.injEq] at h
            obtain ⟨rfl, rfl⟩ := h
            subst hk
            cases t with
            | zero => simp only [List.getElem?_cons_zero, Option.some.injEq] at ht; subst ht; exact hn
            | succ t => exact ih hc t e (by simpa using ht)

theorem takeN_cons {α : Type} {n j : Nat} {l : List α} {p : α} {r : List α} (h1 : nth l j = some p) (h2 : takeN n (dropN (j + 1) l) = some r) : takeN (n + 1) (dropN j l) = some (p :: r) := by
  induction l generalizing j with
  | nil => cases j <;> simp [nth] at h1
  | cons a l ih =>
    cases j with
    | zero =>
      simp only [nth, Option.some.injEq] at h1
      subst h1
      have : dropN (0 + 1) (a :: l) = l := by cases l <;> rfl
      rw [this] at h2
      simp [dropN, takeN, h2]
    | succ j => exact ih (by simpa [nth] using h1) (by simpa [dropN] using h2)

theorem colsOf_ok {l : List (List PC)} {t : Nat} {e : List PC} (ht : l[t]? = some e) : ∀ {n j : Nat} {cs : List (IntKind × List Int)}, colsOf l j n = some cs → takeN n (dropN j e) = some (colsAt t cs) := by
  intro n
  induction n with
  | zero => intro j cs h; simp only [colsOf, Option.some.injEq] at h; subst h; rfl
  | succ n ih =>
    intro j cs h
    simp only [colsOf] at h
    split at h
    case h_2 => cases h
    case h_1 c r hc hr =>
      simp only [Option.some.injEq] at h
      subst h
      obtain ⟨k, ns⟩ := c
      exact takeN_cons (colOf_ok hc t e ht) (ih hr)

theorem kindsOK_nth : ∀ {ks : List (Option IntKind)} {ps : List PC} {j : Nat} {k : Option IntKind}, kindsOK ks ps = true → nth ks j = some k → ∃ p, nth ps j = some p ∧ kindOK k p = true := by
  intro ks
  induction ks with
  | nil => intro ps j k _ h; cases j <;> simp [nth] at h
  | cons a ks ih =>
    intro ps j k h hj
    cases ps with
    | nil => simp [kindsOK] at h
    | cons p ps =>
      simp only [kindsOK] at h
      obtain ⟨h1, h2⟩ := cond_and h
      cases j with
      | zero => simp only [nth, Option.some.injEq] at hj; subst hj; exact ⟨p, rfl, h1⟩
      | succ j =>
        obtain ⟨q, h3, h4⟩ := ih (j := j) h2 (by simpa [nth] using hj)
        exact ⟨q, by simpa [nth] using h3, h4⟩

theorem kindsOK_length : ∀ {ks : List (Option IntKind)} {ps : List PC}, kindsOK ks ps = true → ks.length = ps.length := by
  intro ks
  induction ks with
  | nil => intro ps h; cases ps with
    | nil => rfl
    | cons => simp [kindsOK] at h
  | cons a ks ih => intro ps h; cases ps with
    | nil => simp [kindsOK] at h
    | cons p ps =>
      simp only [kindsOK] at h
      simp [ih (cond_and h).2]

theorem rowIs_some {ks : List (Option IntKind)} {l : List (List PC)} {i : Nat} (h : rowIs ks l i = true) : ∃ r, l[i]? = some r ∧ kindsOK ks r = true := by
  unfold rowIs at h
  split at h
  case h_1 r hr => exact ⟨r, hr, h⟩
  case h_2 => cases h

theorem cellAt_ok {l : List (List PC)} {i j : Nat} {r : List PC} {k : Option IntKind} {p : PC} (h1 : l[i]? = some r) (h2 : nth r j = some p) (h3 : kindOK k p = true) : cellAt l i j k = p := by
  cases k with
  | none =>
    cases p with
    | int => simp [kindOK] at h3
    | bool b => simp [cellAt, boolCell, h1, h2]
  | some k =>
    cases p with
    | bool => simp [kindOK] at h3
    | int k' n =>
      simp only [kindOK] at h3
      split at h3
      case isFalse => cases h3
      case isTrue hk => subst hk; simp [cellAt, intCell, h1, h2]

theorem takeN_of : ∀ {α : Type} (m : Nat) (l : List α), m ≤ l.length → takeN m l = some (l.take m) := fun {α} m l => by
  induction l generalizing m with
  | nil => intro hm; cases m with
    | zero => rfl
    | succ m => simp at hm
  | cons a l ih =>
    intro hm
    cases m with
    | zero => rfl
    | succ m => simp only [takeN, ih m (by simpa using hm), List.take_succ_cons]

theorem cellsAt_eq {l : List (List PC)} {i : Nat} {r : List PC} {ks : List (Option IntKind)} (h1 : l[i]? = some r) (h2 : kindsOK ks r = true) : ∀ {n j : Nat} {ks' : List (Option IntKind)}, takeN n (dropN j ks) = some ks' → takeN n (dropN j r) = some (cellsAt l i j ks') := by
  intro n
  induction n with
  | zero => intro j ks' h; simp only [takeN, Option.some.injEq] at h; subst h; rfl
  | succ n ih =>
    intro j ks' h
    obtain ⟨e1, e2⟩ := takeN_some h
    rw [dropN_eq] at e1 e2
    have hj : j < ks.length := by simp only [List.length_drop] at e2; omega
    have hd : ks.drop j = ks[j] :: ks.drop (j + 1) := List.drop_eq_getElem_cons hj
    have hk : nth ks j = some ks[j] := by rw [nth_eq, List.getElem?_eq_getElem hj]
    obtain ⟨p, hp, hkp⟩ := kindsOK_nth h2 hk
    rw [hd, List.take_succ_cons] at e1
    have h3 : takeN n (dropN (j + 1) ks) = some ((ks.drop (j + 1)).take n) := by
      rw [dropN_eq]
      exact takeN_of _ _ (by simp only [List.length_drop] at e2 ⊢; omega)
    subst e1
    have := takeN_cons hp (ih h3)
    rw [this]
    simp only [cellsAt, cellAt_ok h1 hp hkp]

theorem look_ok {E : Els} {i j : Nat} {dy : Bool} {p : PC} (h : E.look i j dy = some (true, p)) : ∃ e, E.list[i]? = some e ∧ e[j]? = some p := by
  have h0 : ∀ {l : List (List PC)}, look0 l i j = some (true, p) → ∃ e, l[i]? = some e ∧ e[j]? = some p := fun {l} h => by
    unfold look0 at h
    split at h
    case h_2 => cases h
    case h_1 e he =>
      split at h
      case h_2 => cases h
      case h_1 q hq =>
        simp only [Option.some.injEq, Prod.mk.injEq, true_and] at h
        subst h
        exact ⟨e, he, by rw [← nth_eq]; exact hq⟩
  cases E with
  | tab n cols =>
    simp only [Els.look] at h
    split at h
    case h_2 => cases h
    case h_1 c hc =>
      simp only [Option.some.injEq, Prod.mk.injEq] at h
      obtain ⟨h1, rfl⟩ := h
      have hlt := blt_iff.1 h1
      refine ⟨rowOf cols i, by simp [Els.list, hlt], ?_⟩
      rw [nth_eq] at hc
      rw [rowOf_eq, List.getElem?_map, hc]
      rfl
  | sp ks l =>
    simp only [Els.look] at h
    split at h
    case h_2 => cases h
    case h_1 k hk =>
      simp only [Option.some.injEq, Prod.mk.injEq] at h
      obtain ⟨h1, rfl⟩ := h
      obtain ⟨r, hr, hkr⟩ := rowIs_some h1
      obtain ⟨p, hp, hkp⟩ := kindsOK_nth hkr hk
      exact ⟨r, hr, by rw [← nth_eq, hp, cellAt_ok hr hp hkp]⟩
  | lit l =>
    simp only [Els.look] at h
    cases dy with
    | false => exact h0 h
    | true =>
      simp only [cond_true] at h
      split at h
      case h_2 => exact h0 h
      case h_1 k ns hc =>
        simp only [Option.some.injEq, Prod.mk.injEq] at h
        obtain ⟨h1, rfl⟩ := h
        have hlt := blt_iff.1 h1
        have he : l[i]? = some l[i] := List.getElem?_eq_getElem hlt
        exact ⟨l[i], he, by rw [← nth_eq]; exact colOf_ok hc i _ he⟩

theorem map_at_take {n j i : Nat} : ∀ {cols cs : List Col}, takeN n (dropN j cols) = some cs → takeN n (dropN j (rowOf cols i)) = some (rowOf cs i) := by
  intro cols cs h
  obtain ⟨h1, h2⟩ := takeN_some h
  rw [dropN_eq] at h1 h2
  have h3 : ∀ {α : Type} (m : Nat) (l : List α), m ≤ l.length → takeN m l = some (l.take m) := fun {α} m l => by
    induction l generalizing m with
    | nil => intro hm; cases m with
      | zero => rfl
      | succ m => simp at hm
    | cons a l ih =>
      intro hm
      cases m with
      | zero => rfl
      | succ m => simp only [takeN, ih m (by simpa using hm), List.take_succ_cons]
  rw [dropN_eq, rowOf_eq, rowOf_eq, h3 _ _ (by rw [← List.map_drop, List.length_map]; exact h2), h1, ← List.map_drop, ← List.map_take]

theorem lookN_ok {E : Els} {i j n : Nat} {dy : Bool} {ps : List PC} (h : E.lookN i j n dy = some (true, ps)) : ∃ e, E.list[i]? = some e ∧ takeN n (dropN j e) = some ps := by
  have h0 : ∀ {l : List (List PC)}, lookN0 l i j n = some (true, ps) → ∃ e, l[i]? = some e ∧ takeN n (dropN j e) = some ps := fun {l} h => by
    unfold lookN0 at h
    split at h
    case h_2 => cases h
    case h_1 e he =>
      split at h
      case h_2 => cases h
      case h_1 q hq =>
        simp only [Option.some.injEq, Prod.mk.injEq, true_and] at h
        subst h
        exact ⟨e, he, hq⟩
  cases E with
  | tab m cols =>
    simp only [Els.lookN] at h
    split at h
    case h_2 => cases h
    case h_1 cs hcs =>
      simp only [Option.some.injEq, Prod.mk.injEq] at h
      obtain ⟨h1, rfl⟩ := h
      have hlt := blt_iff.1 h1
      exact ⟨rowOf cols i, by simp [Els.list, hlt], map_at_take hcs⟩
  | sp ks l =>
    simp only [Els.lookN] at h
    split at h
    case h_2 => cases h
    case h_1 ks' hk =>
      simp only [Option.some.injEq, Prod.mk.injEq] at h
      obtain ⟨h1, rfl⟩ := h
      obtain ⟨r, hr, hkr⟩ := rowIs_some h1
      exact ⟨r, hr, cellsAt_eq hr hkr hk⟩
  | lit l =>
    simp only [Els.lookN] at h
    cases dy with
    | false => exact h0 h
    | true =>
      simp only [cond_true] at h
      split at h
      case h_2 => exact h0 h
      case h_1 cs hc =>
        simp only [Option.some.injEq, Prod.mk.injEq] at h
        obtain ⟨h1, rfl⟩ := h
        have hlt := blt_iff.1 h1
        have he : l[i]? = some l[i] := List.getElem?_eq_getElem hlt
        exact ⟨l[i], he, colsOf_ok he hc⟩

theorem shift_at (off : Nat) (cols : List Col) (i : Nat) : rowOf (shift off cols) i = rowOf cols (off + i) := by
  induction cols with
  | nil => rfl
  | cons c cols ih => cases c <;> simp [shift, rowOf, ih, Col.at]

theorem cut_list {E : Els} {off ln : Nat} (h : off + ln ≤ E.list.length) : (E.cut off ln).list = (E.list.drop off).take ln := by
  cases E with
  | lit l => rfl
  | sp ks l => rfl
  | tab n cols =>
    simp only [Els.list, List.length_map, List.length_range] at h
    simp only [Els.cut, Els.list]
    apply List.ext_getElem?
    intro k
    rw [List.getElem?_map, List.getElem?_take]
    by_cases hk : k < ln
    · rw [if_pos hk, List.getElem?_range hk, List.getElem?_drop, List.getElem?_map, List.getElem?_range (by omega)]
      simp [shift_at]
    · rw [if_neg hk, List.getElem?_eq_none (by simp; omega)]
      rfl

theorem app_list (E E' : Els) : (E.app E').list = E.list ++ E'.list := by
  cases E <;> cases E' <;> rfl

theorem own_cell {sz : Nat} {E : Els} (h : BRel β B w bi (.arr true sz E)) {i : Nat} {e : List PC} (hi : E.list[i]? = some e) :
    ∃ arr t, w.heap[bi.b]? = some (.cells arr t (0, 0)) ∧ bi.o = 0 ∧ bi.sz = sz ∧ e.length = sz ∧ arr.size = bi.cap * sz ∧ ElsIn sz arr E.list ∧ i < bi.cap ∧ B ≤ bi.b := by
  obtain ⟨_, h2, _, h4, h5, h6, h7⟩ := h
  have hlt : i < E.list.length := (List.getElem?_eq_some_iff.1 hi).1
  obtain ⟨h8, arr, t, h9, h10, h11⟩ := h7 (by omega)
  exact ⟨arr, t, h9, h5, h2, h4 i e hi, h10, h11, by omega, h8⟩

theorem rd1_ok {blk : Blk} {i j : Nat} {dy : Bool} {c : Cell} (h : rd1 blk i j dy = some (true, c)) (hb : BRel β B w bi blk) :
    ∃ v, w.cell? ⟨bi.b, bi.o + i * bi.sz + j, none⟩ = some v ∧ CRel β c v := by
  cases blk with
  | var cs =>
    obtain ⟨_, _, h3, _, arr, t, hh, hc⟩ := hb
    simp only [rd1] at h
    obtain ⟨hi, hx⟩ := cond_none h
    clear h
    have hi0 := beq_iff.1 hi
    clear hi
    subst hi0
    have h := hx
    clear hx
    have hn : cs[j]? = some c := by
      cases dy with
      | true =>
        simp only [cond_true] at h
        cases hs : selC cs j with
        | none => rw [hs] at h; simp at h
        | some c' =>
          rw [hs] at h
          simp only [Option.some.injEq, Prod.mk.injEq] at h
          obtain ⟨h1, rfl⟩ := h
          exact selC_ok hs (by rw [← len_eq]; exact blt_iff.1 h1)
      | false =>
        simp only [cond_false] at h
        cases hs : nth cs j with
        | none => rw [hs] at h; simp at h
        | some c' =>
          rw [hs] at h
          simp only [Option.some.injEq, Prod.mk.injEq, true_and] at h
          rw [← nth_eq, hs, h]
    obtain ⟨v, hv, hr⟩ := hc.getElem hn
    refine ⟨v, ?_, hr⟩
    rw [cell_of hh, h3]
    simpa using hv
  | arr own sz E =>
    simp only [rd1] at h
    split at h
    case h_2 => cases h
    case h_1 o p hlk =>
        simp only [Option.some.injEq, Prod.mk.injEq] at h
        obtain ⟨rfl, rfl⟩ := h
        obtain ⟨e, he, hp⟩ := look_ok hlk
        cases own with
        | true =>
          obtain ⟨arr, t, hh, ho, hsz, _, _, hin, _⟩ := own_cell hb he
          refine ⟨p.v, ?_, p.rel β⟩
          rw [cell_of hh, ho, hsz]
          simpa using hin i e he j p hp
        | false =>
          obtain ⟨_, h2, _, _, h5⟩ := hb
          refine ⟨p.v, ?_, p.rel β⟩
          rw [h2]
          exact (h5 i e he j p hp).2

theorem rdN_ok {blk : Blk} {i j n : Nat} {dy : Bool} {cs : List Cell} (h : rdN blk i j n dy = some (true, cs)) (hb : BRel β B w bi blk) :
    ∃ vs : List Value, vs.length = n ∧ All2 (CRel β) cs vs ∧ ∀ k v, vs[k]? = some v → w.cell? ⟨bi.b, bi.o + i * bi.sz + j + k, none⟩ = some v := by
  cases blk with
  | var l =>
    obtain ⟨_, _, h3, _, arr, t, hh, hc⟩ := hb
    simp only [rdN] at h
    obtain ⟨hi, hx⟩ := cond_none h
    clear h
    have hi0 := beq_iff.1 hi
    clear hi
    subst hi0
    have h := hx
    clear hx
    have h1 := hc.drop j
    have h : takeN n (dropN j l) = some cs := by
      split at h
      · rename_i q hq
        simp only [Option.some.injEq, Prod.mk.injEq, true_and] at h
        rw [hq, h]
      · cases h
    obtain ⟨h2, h4⟩ := h1.take h
    refine ⟨_, by rw [List.length_take]; omega, h2, fun k v hk => ?_⟩
    rw [cell_of hh, h3]
    rw [List.getElem?_take] at hk
    split at hk
    · simpa using hk
    · cases hk
  | arr own sz E =>
    simp only [rdN] at h
    split at h
    case h_2 => cases h
    case h_1 o l hlk =>
        simp only [Option.some.injEq, Prod.mk.injEq] at h
        obtain ⟨rfl, rfl⟩ := h
        rw [mapC_eq]
        obtain ⟨e, he, hp⟩ := lookN_ok hlk
        obtain ⟨h1, h2⟩ := takeN_some hp
        rw [dropN_eq] at h1 h2
        subst h1
        refine ⟨((e.drop j).take n).map PC.v, by rw [List.length_map, List.length_take]; omega, all2_pcs β _, fun k v hk => ?_⟩
        rw [List.getElem?_map] at hk
        cases hq : ((e.drop j).take n)[k]? with
        | none => rw [hq] at hk; simp at hk
        | some p =>
          rw [hq] at hk
          simp only [Option.map_some, Option.some.injEq] at hk
          subst hk
          have hq' : e[j + k]? = some p := by
            rw [List.getElem?_take] at hq
            split at hq
            · simpa using hq
            · cases hq
          cases own with
          | true =>
            obtain ⟨arr, t, hh, ho, hsz, _, _, hin, _⟩ := own_cell hb he
            rw [cell_of hh, ho, hsz]
            simpa [Nat.add_assoc] using hin i e he (j + k) p hq'
          | false =>
            obtain ⟨_, h2, _, _, h5⟩ := hb
            rw [h2]
            simpa [Nat.add_assoc] using (h5 i e he (j + k) p hq').2
end reading

/-! ### Loading -/

section loading
variable {P : Program}

theorem TEOK.isAgg {t : TypeId} {e : TE} (h : TEOK P t e) (w : World) : (isAgg t).run P w = .ok e.agg w := by
  have := h.und
  unfold TE.agg
  cases hd : e.d <;> rw [hd] at this <;> simp only at this
  case struct => obtain ⟨F, hF, _⟩ := this; simp [Go.isAgg, run_underlying hF]
  case other => obtain ⟨el, hF⟩ := this; simp [Go.isAgg, run_underlying hF]
  all_goals simp [Go.isAgg, run_underlying this]

theorem TEOK.sizeOf {t : TypeId} {e : TE} (h : TEOK P t e) (w : World) : (sizeOf t).run P w = .ok e.size w := by
  obtain ⟨i, z, hi, hs, _⟩ := h.info
  simp [Go.sizeOf, typeInfo, hi, hs]

theorem TEOK.zeroValue {t : TypeId} {e : TE} (h : TEOK P t e) (w : World) : ∃ z, (zeroValue t).run P w = .ok z w ∧ ∀ β, All2 (CRel β) e.zero z.cells.toList := by
  obtain ⟨i, z, hi, _, _, hz, hr⟩ := h.info
  exact ⟨z, by simp [Go.zeroValue, typeInfo, hi, hz], hr⟩

theorem TEOK.typeInfo {t : TypeId} {e : TE} (h : TEOK P t e) (w : World) : ∃ i, (typeInfo t).run P w = .ok i w ∧ i.size = e.size ∧ i.bytes = e.bytes := by
  obtain ⟨i, z, hi, hs, hb, _⟩ := h.info
  exact ⟨i, by simp [Go.typeInfo, hi], hs, hb⟩

theorem run_loadVar_cell {t : TypeId} {e : TE} (h : TEOK P t e) (hag : e.agg = false) {w : World} {a : Addr} {v : Value} (hv : w.cell? a = some v) : (loadVar t a).run P w = .ok v w := by
  simp [loadVar, Sem.run_bind, h.isAgg, hag, run_load, hv]

theorem run_loadVar_agg {t : TypeId} {e : TE} (h : TEOK P t e) (hag : e.agg = true) {w : World} {b o : Nat} {vs : List Value} (hl : vs.length = e.size)
    (hv : ∀ k v, vs[k]? = some v → w.cell? ⟨b, o + k, none⟩ = some v) : (loadVar t ⟨b, o, none⟩).run P w = .ok (.agg vs.toArray) w := by
  have := run_loadCells_list (P := P) w ⟨b, o, none⟩ vs (fun j v hj => by rw [add_none]; exact hv j v hj)
  simp [loadVar, Sem.run_bind, h.isAgg, hag, h.sizeOf, ← hl, this]

theorem run_storeVar {t : TypeId} {e : TE} (h : TEOK P t e) {w : World} {b o : Nat} {v : Value} (hl : v.cells.size = e.size) {cur : Array Value} {ty : TypeId} (hh : w.heap[b]? = some (.cells cur ty (0, 0)))
    (hfit : o + v.cells.size ≤ cur.size) (h1 : ∀ x ∈ v.cells.toList, x.oneCell' = true) :
    (storeVar t ⟨b, o, none⟩ v).run P w = .ok () (w.setRow b (cur.toList.take o ++ v.cells.toList ++ cur.toList.drop (o + v.cells.size)).toArray) := by
  have := run_storeCells_at P b o ty v.cells.toList 0 cur w hh (by simpa using hfit) h1
  simp only [storeVar, Sem.run_bind, h.sizeOf, Result.andThen_ok, hl, ne_eq, not_true_eq_false, if_false]
  simpa [hl] using this
end loading

/-! ### Writing -/

theorem put_ok {α : Type} {l l' : List α} {j : Nat} {cs : List α} (h : put l j cs = some l') : l' = l.take j ++ cs ++ l.drop (j + cs.length) ∧ j + cs.length ≤ l.length := by
  induction l generalizing j cs l' with
  | nil =>
    cases j with
    | zero => cases cs with
      | nil => simp only [put, Option.some.injEq] at h; subst h; simp
      | cons => simp [put] at h
    | succ => simp [put] at h
  | cons a l ih =>
    cases j with
    | zero => cases cs with
      | nil => simp only [put, Option.some.injEq] at h; subst h; simp
      | cons c cs =>
        simp only [put] at h
        cases hq : put l 0 cs with
        | none => rw [hq] at h; simp at h
        | some q =>
          rw [hq] at h
          simp only [Option.some.injEq] at h
          subst h
          obtain ⟨h1, h2⟩ := ih hq
          simp at h1 h2
          exact ⟨by simp [h1], by simp; omega⟩
    | succ j =>
      simp only [put] at h
      cases hq : put l j cs with
      | none => rw [hq] at h; simp at h
      | some q =>
        rw [hq] at h
        simp only [Option.some.injEq] at h
        subst h
        obtain ⟨h1, h2⟩ := ih hq
        exact ⟨by simp [h1, Nat.add_right_comm], by simp; omega⟩

theorem All2.takeL {α β : Type} {r : α → β → Prop} {l : List α} {m : List β} (h : All2 r l m) (n : Nat) : All2 r (l.take n) (m.take n) := by
  induction n generalizing l m with
  | zero => simp [All2]
  | succ n ih => cases l with
    | nil => cases m with
      | nil => simp [All2]
      | cons => simp [All2] at h
    | cons a l => cases m with
      | nil => simp [All2] at h
      | cons b m => simp only [All2] at h; simpa [All2] using ⟨h.1, ih h.2⟩

theorem All2.put {β : Bt} {l l' cs : List Cell} {j : Nat} {m vs : List Value} (h : All2 (CRel β) l m) (hc : All2 (CRel β) cs vs) (hp : put l j cs = some l') :
    All2 (CRel β) l' (m.take j ++ vs ++ m.drop (j + vs.length)) ∧ j + vs.length ≤ m.length := by
  obtain ⟨h1, h2⟩ := put_ok hp
  have hl := h.length
  have hl2 := hc.length
  rw [h1]
  refine ⟨((h.takeL j).append hc).append ?_, by omega⟩
  have := h.drop (j + cs.length)
  rw [dropN_eq, hl2] at this
  rwa [hl2]

theorem mixC_eq (b : Bool) (new old : Cell) : mixC b new old = cond b new old := by
  cases b <;> cases old <;> cases new <;> simp only [mixC, cond_true, cond_false] <;> (try rfl) <;> (split <;> simp_all)

theorem setC_eq (l : List Cell) (j i : Nat) (c : Cell) : setC l (j + i) c i = l.set j c := by
  induction l generalizing j i with
  | nil => rfl
  | cons a l ih =>
    simp only [setC, mixC_eq]
    cases j with
    | zero =>
      rw [Nat.zero_add, beq_iff.2 rfl]
      simp only [cond_true, List.set_cons_zero]
      congr 1
      have : ∀ (l : List Cell) (k : Nat), i < k → setC l i c k = l := by
        intro l
        induction l with
        | nil => intro k _; rfl
        | cons a l ih2 =>
          intro k hk
          simp only [setC, mixC_eq]
          rw [beq_false.2 (by omega), ih2 (k + 1) (by omega)]
          rfl
      exact this l (i + 1) (by omega)
    | succ j =>
      rw [beq_false.2 (by omega)]
      simp only [cond_false, List.set_cons_succ]
      congr 1
      have := ih j (i + 1)
      rwa [show j + (i + 1) = j + 1 + i by omega] at this

theorem put_of_set {α : Type} {l : List α} {j : Nat} {c : α} (h : j < l.length) : put l j [c] = some (l.set j c) := by
  induction l generalizing j with
  | nil => simp at h
  | cons a l ih => cases j with
    | zero => cases l <;> rfl
    | succ j => simp only [put, ih (by simpa using h), List.set_cons_succ]

theorem set_get {α : Type} {l : List α} {i k : Nat} {a x : α} (h : (l.set i a)[k]? = some x) : (k = i ∧ x = a) ∨ (k ≠ i ∧ l[k]? = some x) := by
  rw [List.getElem?_set] at h
  by_cases hik : i = k
  · subst hik
    by_cases hl : i < l.length
    · rw [if_pos rfl, if_pos hl] at h
      injection h with h
      exact .inl ⟨rfl, h.symm⟩
    · rw [if_pos rfl, if_neg hl] at h
      cases h
  · rw [if_neg hik] at h
    exact .inr ⟨Ne.symm hik, h⟩

section writing
variable {β : Bt} {B : Nat} {w : World} {bi : BI}

/-- A write into a block: memory behind it. -/
theorem mixP_eq (b : Bool) (x y : PC) : mixP b x y = cond b x y := by
  cases x <;> cases y <;> simp only [mixP]
  case int.int k n k' m =>
    split
    · rename_i h; subst h; cases b <;> rfl
    · rfl
  case bool.bool n m => cases b <;> rfl

theorem mixPs_eq (b : Bool) : ∀ {x y : List PC}, x.length = y.length → mixPs b x y = cond b x y := by
  intro x
  induction x with
  | nil => intro y h; cases y with
    | nil => cases b <;> rfl
    | cons => simp at h
  | cons p x ih => intro y h; cases y with
    | nil => simp at h
    | cons q y =>
      simp only [mixPs, mixP_eq, ih (y := y) (by simpa using h)]
      cases b <;> rfl

theorem setRows_ok {i j : Nat} {ps : List PC} : ∀ {l l' : List (List PC)} {t0 : Nat}, setRows i j ps t0 l = some l' → l'.length = l.length ∧ ∀ (t : Nat) (e : List PC), l[t]? = some e → ∃ e', put e j ps = some e' ∧ l'[t]? = some (cond (Nat.beq (t0 + t) i) e' e) := by
  intro l
  induction l with
  | nil => intro l' t0 h; simp only [setRows, Option.some.injEq] at h; subst h; exact ⟨rfl, fun t e ht => by simp at ht⟩
  | cons x l ih =>
    intro l' t0 h
    simp only [setRows] at h
    split at h
    case h_2 => cases h
    case h_1 x' r' hx hr =>
      simp only [Option.some.injEq] at h
      subst h
      obtain ⟨h1, h2⟩ := ih hr
      refine ⟨by simp [h1], fun t e ht => ?_⟩
      cases t with
      | zero =>
        simp only [List.getElem?_cons_zero, Option.some.injEq] at ht
        subst ht
        obtain ⟨hp1, hp2⟩ := put_ok hx
        refine ⟨x', hx, ?_⟩
        rw [List.getElem?_cons_zero, mixPs_eq, Nat.add_zero]
        rw [hp1]
        simp only [List.length_append, List.length_take, List.length_drop]
        omega
      | succ t =>
        obtain ⟨e', h3, h4⟩ := h2 t e (by simpa using ht)
        refine ⟨e', h3, ?_⟩
        rw [List.getElem?_cons_succ, h4, show t0 + (t + 1) = t0 + 1 + t by omega]

theorem eput_ok {E E' : Els} {i j : Nat} {ps : List PC} {dy : Bool} (h : E.put i j ps dy = some (true, E')) : ∃ e e', E.list[i]? = some e ∧ put e j ps = some e' ∧ E'.list = E.list.set i e' := by
  cases E with
  | tab n cols => simp [Els.put] at h
  | sp ks l =>
    simp only [Els.put] at h
    obtain ⟨hj, h⟩ := cond_none h
    obtain ⟨hk, h⟩ := cond_none h
    simp only [Option.some.injEq, Prod.mk.injEq] at h
    obtain ⟨h1, rfl⟩ := h
    obtain ⟨r, hr, hkr⟩ := rowIs_some h1
    have hj := beq_iff.1 hj
    subst hj
    have hl : r.length = ps.length := by rw [← kindsOK_length hkr, kindsOK_length hk]
    refine ⟨r, ps, hr, ?_, rfl⟩
    have : ∀ (a b : List PC), a.length = b.length → put a 0 b = some b := by
      intro a
      induction a with
      | nil => intro b hb; cases b with
        | nil => rfl
        | cons => simp at hb
      | cons x a ih => intro b hb; cases b with
        | nil => simp at hb
        | cons y b => simp [put, ih b (by simpa using hb)]
    exact this r ps hl
  | lit l =>
    simp only [Els.put] at h
    cases dy with
    | false =>
      simp only [cond_false] at h
      split at h
      case h_2 => cases h
      case h_1 e he =>
        split at h
        case h_2 => cases h
        case h_1 e' hp =>
          simp only [Option.some.injEq, Prod.mk.injEq, true_and] at h
          subst h
          exact ⟨e, e', he, hp, rfl⟩
    | true =>
      simp only [cond_true] at h
      split at h
      case h_2 => cases h
      case h_1 l' hl =>
        simp only [Option.some.injEq, Prod.mk.injEq] at h
        obtain ⟨h1, rfl⟩ := h
        have hlt := blt_iff.1 h1
        obtain ⟨h2, h3⟩ := setRows_ok hl
        have he : l[i]? = some l[i] := List.getElem?_eq_getElem hlt
        obtain ⟨e', h4, h5⟩ := h3 i _ he
        refine ⟨l[i], e', he, h4, ?_⟩
        apply List.ext_getElem?
        intro k
        show l'[k]? = (l.set i e')[k]?
        by_cases hk : k < l.length
        · have hek : l[k]? = some l[k] := List.getElem?_eq_getElem hk
          obtain ⟨e2, h6, h7⟩ := h3 k _ hek
          rw [h7, Nat.zero_add]
          by_cases hki : k = i
          · subst hki
            rw [h4] at h6
            obtain rfl : e' = e2 := by injection h6
            rw [List.getElem?_set, if_pos rfl, if_pos hlt, beq_iff.2 rfl]
            rfl
          · rw [List.getElem?_set, if_neg (Ne.symm hki), beq_false.2 hki, hek]
            rfl
        · rw [List.getElem?_eq_none (by omega), List.getElem?_eq_none (by simp; omega)]

theorem wrB_ok {blk blk' : Blk} {i j : Nat} {dy : Bool} {cs : List Cell} {vs : List Value} (h : wrB blk i j dy cs = some (true, blk')) (hb : BRel β B w bi blk) (hc : All2 (CRel β) cs vs) :
    ∃ cur t arr', w.heap[bi.b]? = some (.cells cur t (0, 0)) ∧ bi.o + i * bi.sz + j + vs.length ≤ cur.size ∧
      arr' = (cur.toList.take (bi.o + i * bi.sz + j) ++ vs ++ cur.toList.drop (bi.o + i * bi.sz + j + vs.length)).toArray ∧ bi.real ∧ B ≤ bi.b ∧
      BRel β B (w.setRow bi.b arr') bi blk' := by
  cases blk with
  | var l =>
    obtain ⟨h1, h2, h3, h4, cur, t, hh, hl⟩ := hb
    simp only [wrB] at h
    obtain ⟨hi, hx⟩ := cond_none h
    clear h
    have hi0 := beq_iff.1 hi
    clear hi
    subst hi0
    have h := hx
    clear hx
    have hput : ∃ l', put l j cs = some l' ∧ blk' = .var l' := by
      cases dy with
      | false =>
        simp only [cond_false] at h
        cases hp : put l j cs with
        | none => rw [hp] at h; simp at h
        | some l' =>
          rw [hp] at h
          simp only [Option.some.injEq, Prod.mk.injEq, true_and] at h
          exact ⟨l', rfl, h.symm⟩
      | true =>
        simp only [cond_true] at h
        match cs, h with
        | [c], h =>
          simp only [Option.some.injEq, Prod.mk.injEq] at h
          obtain ⟨h5, h6⟩ := h
          have h7 := blt_iff.1 h5
          rw [len_eq] at h7
          refine ⟨l.set j c, put_of_set h7, ?_⟩
          rw [← h6]
          congr 1
          exact setC_eq l j 0 c
    obtain ⟨l', hp, rfl⟩ := hput
    obtain ⟨h5, h6⟩ := hl.put hc hp
    have h6' : j + vs.length ≤ cur.size := by simpa using h6
    refine ⟨cur, t, _, hh, by rw [h3]; omega, rfl, ⟨h1, h2⟩, h4, h1, h2, h3, h4, _, t, setRow_heap w bi.b cur _ t _ hh, ?_⟩
    rw [h3]
    simpa using h5
  | arr own sz E =>
    cases own with
    | false => simp [wrB] at h
    | true =>
      simp only [wrB] at h
      cases hps : pcs cs with
      | none => rw [hps] at h; simp at h
      | some ps =>
        rw [hps] at h
        simp only at h
        split at h
        case h_1 => cases h
        case h_2 o E' hE =>
            simp only [Option.some.injEq, Prod.mk.injEq] at h
            obtain ⟨rfl, rfl⟩ := h
            obtain ⟨e, e', he, hp, hlist⟩ := eput_ok hE
            have hcs := pcs_c hps
            rw [hcs] at hc
            have hvs := hc.pcs
            subst hvs
            obtain ⟨cur, t, hh, ho, hsz, hel, hsize, hin, hcap, hB⟩ := own_cell hb he
            obtain ⟨hr1, hr2, hr3, hr4, hr5, hr6, hr7⟩ := hb
            obtain ⟨hp1, hp2⟩ := put_ok hp
            have hel' : e'.length = sz := by
              rw [hp1]; simp only [List.length_append, List.length_take, List.length_drop]; omega
            have hfit : i * sz + sz ≤ cur.size := by
              rw [hsize, ← Nat.succ_mul]
              exact Nat.mul_le_mul_right _ hcap
            have hlt : i < E.list.length := (List.getElem?_eq_some_iff.1 he).1
            refine ⟨cur, t, _, hh, ?_, rfl, ⟨hr1, by omega⟩, hB, BRel.congr (E := .lit (E.list.set i e')) hlist.symm ⟨hr1, hr2, by simpa [Els.list] using hr3, ?_, ?_⟩⟩
            · rw [ho, hsz, List.length_map]; omega
            · intro k x hk
              rcases set_get hk with ⟨_, rfl⟩ | ⟨_, hk⟩
              · exact hel'
              · exact hr4 k x hk
            · refine ⟨hr5, by simpa [Els.list] using hr6, fun _ => ⟨hB, _, t, setRow_heap w bi.b cur _ t _ hh, ?_, ?_⟩⟩
              · rw [ho, hsz]
                simp only [List.size_toArray, List.length_append, List.length_take, List.length_drop, List.length_map, Array.length_toList]
                omega
              · intro k x hk q p hq
                replace hk : (E.list.set i e')[k]? = some x := hk
                have hkold : ∃ y, E.list[k]? = some y := by
                  rcases set_get hk with ⟨rfl, _⟩ | ⟨_, hk⟩
                  · exact ⟨e, he⟩
                  · exact ⟨x, hk⟩
                have hxl : x.length = sz := by
                  rcases set_get hk with ⟨_, rfl⟩ | ⟨_, hk⟩
                  · exact hel'
                  · exact hr4 k x hk
                have hql : q < sz := by rw [← hxl]; exact (List.getElem?_eq_some_iff.1 hq).1
                rw [ho, hsz]
                simp only [Nat.zero_add, List.getElem?_toArray]
                by_cases hki : k = i
                · subst hki
                  rw [List.getElem?_set, if_pos rfl, if_pos hlt] at hk
                  simp only [Option.some.injEq] at hk
                  subst hk
                  rw [hp1] at hq
                  have hold := hin k e he
                  simp only [List.getElem?_append, List.length_take, List.length_append, List.length_map, Array.length_toList, List.getElem?_take, List.getElem?_drop] at hq ⊢
                  have hm1 : min j e.length = j := by omega
                  have hm2 : min (k * sz + j) cur.size = k * sz + j := by omega
                  rw [hm1] at hq
                  rw [hm2]
                  by_cases hqj : q < j
                  · have c1 : k * sz + q < k * sz + j := by omega
                    have c2 : k * sz + q < k * sz + j + ps.length := by omega
                    have c3 : q < j + ps.length := by omega
                    simp only [hqj, c1, c2, c3, if_true] at hq ⊢
                    simpa using hold q p hq
                  · by_cases hqp : q < j + ps.length
                    · have c1 : ¬ k * sz + q < k * sz + j := by omega
                      have c2 : k * sz + q < k * sz + j + ps.length := by omega
                      simp only [hqj, c1, c2, hqp, if_true, if_false] at hq ⊢
                      rw [List.getElem?_map, show k * sz + q - (k * sz + j) = q - j by omega, hq]
                      rfl
                    · have c2 : ¬ k * sz + q < k * sz + j + ps.length := by omega
                      simp only [c2, hqp, if_false] at hq ⊢
                      rw [show k * sz + j + ps.length + (k * sz + q - (k * sz + j + ps.length)) = k * sz + q by omega]
                      rw [show j + ps.length + (q - (j + ps.length)) = q by omega] at hq
                      simpa using hold q p hq
                · rw [List.getElem?_set, if_neg (Ne.symm hki)] at hk
                  have hold := hin k x hk q p hq
                  simp only [List.getElem?_append, List.length_take, List.length_append, List.length_map, Array.length_toList, List.getElem?_take, List.getElem?_drop]
                  have hm2 : min (i * sz + j) cur.size = i * sz + j := by omega
                  rw [hm2]
                  rcases Nat.lt_or_gt_of_ne hki with hlt2 | hgt2
                  · have hle : k * sz + sz ≤ i * sz := by rw [← Nat.succ_mul]; exact Nat.mul_le_mul_right _ hlt2
                    have c1 : k * sz + q < i * sz + j := by omega
                    have c2 : k * sz + q < i * sz + j + ps.length := by omega
                    simp only [c1, c2, if_true]
                    simpa using hold
                  · have hle : i * sz + sz ≤ k * sz := by rw [← Nat.succ_mul]; exact Nat.mul_le_mul_right _ hgt2
                    have c2 : ¬ k * sz + q < i * sz + j + ps.length := by omega
                    simp only [c2, if_false]
                    rw [show i * sz + j + ps.length + (k * sz + q - (i * sz + j + ps.length)) = k * sz + q by omega]
                    simpa using hold
end writing

end Go.Eng
