/-
  From a law's row to the evaluator: what the arguments are, and the row's last steps.
-/
import Derived.Test.YtjbmpimclagfoaaEngI
import Derived.WalkKit
import Derived.ProofKit
import Derived.OpenShut
import Derived.Carry
import Derived.ChangeSame
import Derived.ChangeCalls
namespace Go.Eng
open Go.RowKit Go.WideShapes Go.ChangeShapes Go.ChangeAt

/-- A plain cell of that kind, in its range. -/
def okPC : Option IntKind → PC → Prop
  | none, p => ∃ b, p = .bool b
  | some k, p => ∃ n, p = .int k n ∧ (Lit.int k n).wf = true

theorem All2.split_l {α β : Type} {r : α → β → Prop} {a b : List α} : ∀ {m : List β}, All2 r a (m.take a.length) → All2 r b (m.drop a.length) → All2 r (a ++ b) m := by
  induction a with
  | nil => intro m _ h; simpa using h
  | cons x a ih =>
    intro m h1 h2
    cases m with
    | nil => simp [All2] at h1
    | cons y m => exact ⟨h1.1, ih (by simpa [All2] using h1.2) (by simpa using h2)⟩

theorem mapM_some_length' {α β : Type} {f : α → Option β} : ∀ {l : List α} {r : List β}, l.mapM f = some r → r.length = l.length := by
  intro l
  induction l with
  | nil => intro r h; simp at h; subst h; rfl
  | cons a l ih =>
    intro r h
    simp only [List.mapM_cons, Option.bind_eq_bind, Option.bind_eq_some_iff, Option.pure_def, Option.some.injEq] at h
    obtain ⟨b, _, bs, hbs, rfl⟩ := h
    simp [ih hbs]

theorem mapM_some_each {α β : Type} {f : α → Option β} : ∀ {l : List α} {r : List β}, l.mapM f = some r → ∀ a ∈ l, ∃ b, f a = some b := by
  intro l
  induction l with
  | nil => intro r _ a ha; cases ha
  | cons a l ih =>
    intro r h x hx
    simp only [List.mapM_cons, Option.bind_eq_bind, Option.bind_eq_some_iff, Option.pure_def, Option.some.injEq] at h
    obtain ⟨b, hb, bs, hbs, rfl⟩ := h
    rcases List.mem_cons.1 hx with rfl | hx
    · exact ⟨b, hb⟩
    · exact ih hbs x hx

section
variable {H : Type} {enc : TypeId × Value → H} {P : Program} {w : World} {base : Nat} {sp : Nat → Bool} {held : Bool}

/-- The cells that a plain type's reading finds. -/
def PlainOf (ks : List (Option IntKind)) (cs : List Value) : Prop := ∃ ps : List PC, cs = ps.map PC.v ∧ All2 okPC ks ps

theorem PlainOf.append {a b : List (Option IntKind)} {cs : List Value} (h1 : PlainOf a (cs.take a.length)) (h2 : PlainOf b (cs.drop a.length)) : PlainOf (a ++ b) cs := by
  obtain ⟨p1, e1, r1⟩ := h1
  obtain ⟨p2, e2, r2⟩ := h2
  exact ⟨p1 ++ p2, by rw [List.map_append, ← e1, ← e2, List.take_append_drop], r1.append r2⟩

theorem cellsOf_flat {n : Nat} {t : TypeId} {ks : List (Option IntKind)} (h : flat P n t = some ks) : P.cellsOf t = ks.length := by
  obtain ⟨i, hi, hs⟩ := flat_size h
  simp [Program.cellsOf, hi, hs]

theorem plain_fields {n : Nat} (ih : ∀ t ks, flat P n t = some ks → ∀ fuel cs x, DataW.trod enc P w base sp held fuel t cs = some x → PlainOf ks cs) {fuel : Nat} : ∀ (fs : List Field) (off : Nat) (ks : List (Option IntKind)), flatF P (flat P n) fs off = some ks →
    ∀ (cs : List Value), (∀ f ∈ fs, ∃ y, DataW.trod enc P w base sp held fuel f.type ((cs.drop f.offset).take (P.cellsOf f.type)) = some y) → cs.length = off + ks.length → PlainOf ks (cs.drop off) := by
  intro fs
  induction fs with
  | nil => intro off ks h cs _ hl; simp only [flatF, Option.some.injEq] at h; subst h; exact ⟨[], by simp at hl; simp [← hl], trivial⟩
  | cons f fs ihf =>
    intro off ks h cs hall hl
    simp only [flatF] at h
    split at h
    · cases h
    · rename_i hoff
      have hoff' : f.offset = off := by
        rcases Nat.lt_trichotomy f.offset off with h1 | h1 | h1
        · exact absurd (Or.inr (by omega)) hoff
        · exact h1
        · exact absurd (Or.inr (by omega)) hoff
      split at h
      · cases h
      · rename_i k1 hk1
        split at h
        · cases h
        · rename_i k2 hk2
          simp only [Option.some.injEq] at h
          subst h
          obtain ⟨y, hy⟩ := hall f (by simp)
          have h1 := ih _ _ hk1 _ _ _ hy
          rw [hoff', cellsOf_flat hk1] at h1
          have h2 := ihf _ _ hk2 cs (fun g hg => hall g (by simp [hg])) (by rw [hl, List.length_append]; omega)
          exact PlainOf.append h1 (by rw [List.drop_drop]; exact h2)

theorem plain_items {e : TypeId} {k1 : List (Option IntKind)} (ih : ∀ fuel cs x, DataW.trod enc P w base sp held fuel e cs = some x → PlainOf k1 cs) {fuel : Nat} (hk : P.cellsOf e = k1.length) : ∀ (m i0 : Nat) (cs : List Value),
    (∀ i, i < m → ∃ y, DataW.trod enc P w base sp held fuel e ((cs.drop ((i0 + i) * P.cellsOf e)).take (P.cellsOf e)) = some y) → cs.length = i0 * k1.length + m * k1.length → PlainOf (repL k1 m) (cs.drop (i0 * k1.length)) := by
  intro m
  induction m with
  | zero => intro i0 cs _ hl; exact ⟨[], by simp [hl], trivial⟩
  | succ m ihm =>
    intro i0 cs hall hl
    obtain ⟨y, hy⟩ := hall 0 (by omega)
    have h1 := ih _ _ _ hy
    rw [Nat.add_zero, hk] at h1
    have h2 := ihm (i0 + 1) cs (fun i hi => by
      have := hall (i + 1) (by omega)
      rw [show i0 + (i + 1) = i0 + 1 + i by omega] at this
      exact this) (by rw [hl, Nat.succ_mul, Nat.succ_mul]; omega)
    refine PlainOf.append h1 ?_
    rw [List.drop_drop, show i0 * k1.length + k1.length = (i0 + 1) * k1.length by rw [Nat.succ_mul]]
    exact h2

theorem plain_trod : ∀ (n : Nat) (t : TypeId) (ks : List (Option IntKind)), flat P n t = some ks → ∀ (fuel : Nat) (cs : List Value) (x : DataW H × List MemPlace), DataW.trod enc P w base sp held fuel t cs = some x → PlainOf ks cs := by
  intro n
  induction n with
  | zero => intro t ks h; simp [flat] at h
  | succ n ih =>
    intro t ks h fuel cs x hx
    have hsz := cellsOf_flat h
    unfold flat at h
    cases hu : P.underlying t with
    | none => rw [hu] at h; simp at h
    | some d =>
      cases hi : P.info? t with
      | none => rw [hu, hi] at h; cases d <;> simp at h
      | some i =>
        rw [hu, hi] at h
        cases d <;> simp only at h
        case bool =>
          split at h
          · simp only [Option.some.injEq] at h
            subst h
            obtain ⟨b, rfl, _⟩ := DataW.trod_bool hu hx
            exact ⟨[.bool b], rfl, ⟨b, rfl⟩, trivial⟩
          · cases h
        case int k =>
          split at h
          · simp only [Option.some.injEq] at h
            subst h
            obtain ⟨m, rfl, _, hw⟩ := DataW.trod_int hu hx
            exact ⟨[.int k m], rfl, ⟨m, rfl, hw⟩, trivial⟩
          · cases h
        case struct F =>
          split at h
          · cases h
          · cases hf : flatF P (flat P n) F.toList 0 with
            | none => rw [hf] at h; simp at h
            | some q =>
              rw [hf] at h
              simp only at h
              split at h
              · simp only [Option.some.injEq] at h
                subst h
                obtain ⟨xs, m, rfl, _, hl, hxs, hall⟩ := DataW.trod_struct hu hx
                have := plain_fields ih F.toList 0 q hf cs (fun f hf' => by
                  obtain ⟨j, hj⟩ := List.getElem?_of_mem hf'
                  have hj' : F[j]? = some f := by simpa using hj
                  have h1 := hall j f hj'
                  have hlt : j < xs.length := by rw [hxs]; exact (Array.getElem?_eq_some_iff.1 hj').1
                  rw [List.getElem?_eq_getElem hlt] at h1
                  exact ⟨_, h1⟩) (by rw [hl, hsz]; omega)
                simpa using this
              · cases h
        case array m e =>
          cases hf : flat P n e with
          | none => rw [hf] at h; simp at h
          | some q =>
            rw [hf] at h
            simp only at h
            split at h
            · rename_i hisz
              simp only [Option.some.injEq] at h
              subst h
              cases fuel with
              | zero => simp [DataW.trod] at hx
              | succ fuel =>
                unfold DataW.trod at hx
                rw [hu] at hx
                simp only at hx
                split at hx
                · rename_i hl
                  rw [Option.map_eq_some_iff] at hx
                  obtain ⟨xs, hxs, _⟩ := hx
                  have hk : P.cellsOf e = q.length := cellsOf_flat hf
                  have := plain_items (fun f c y hy => ih _ _ hf f c y hy) (fuel := fuel) hk m 0 cs (fun j hj => by
                    obtain ⟨y, hy⟩ := mapM_some_each hxs j (by simpa using hj)
                    exact ⟨y, by rw [Nat.zero_add]; exact hy⟩) (by rw [hl, hsz, repL_length]; omega)
                  simpa using this
                · cases hx
            · cases h
        all_goals cases h
end

/-! ### Arguments -/

/-- A column of that kind, its integers in their range. -/
def okCol (n : Nat) : Option IntKind → Col → Prop
  | none, c => ∃ f, c = .bool f
  | some k, c => ∃ f, c = .int k f ∧ ∀ i, i < n → (Lit.int k (f i)).wf = true

def intOfPC : PC → Int
  | .int _ n => n
  | .bool _ => 0
def boolOfPC : PC → Bool
  | .bool b => b
  | .int _ _ => false

/-- Rows, as columns. -/
def colsFrom : List (Option IntKind) → (Nat → List PC) → List Col
  | [], _ => []
  | none :: ks, g => .bool (fun i => boolOfPC ((g i).headD (.bool false))) :: colsFrom ks fun i => (g i).tail
  | some k :: ks, g => .int k (fun i => intOfPC ((g i).headD (.bool false))) :: colsFrom ks fun i => (g i).tail

theorem colsFrom_row : ∀ {ks : List (Option IntKind)} {g : Nat → List PC} {i : Nat}, All2 okPC ks (g i) → rowOf (colsFrom ks g) i = g i := by
  intro ks
  induction ks with
  | nil =>
    intro g i h
    cases hg : g i with
    | nil => rfl
    | cons => rw [hg] at h; simp [All2] at h
  | cons k ks ih =>
    intro g i h
    cases hg : g i with
    | nil => rw [hg] at h; simp [All2] at h
    | cons p r =>
      rw [hg] at h
      have h2 := ih (g := fun i => (g i).tail) (i := i) (by rw [hg]; exact h.2)
      simp only [hg, List.tail_cons] at h2
      cases k with
      | none =>
        obtain ⟨b, rfl⟩ := h.1
        simp only [colsFrom, rowOf, Col.at, hg, List.headD_cons, boolOfPC, h2]
      | some k =>
        obtain ⟨n, rfl, _⟩ := h.1
        simp only [colsFrom, rowOf, Col.at, hg, List.headD_cons, intOfPC, h2]

theorem colsFrom_ok {n : Nat} : ∀ {ks : List (Option IntKind)} {g : Nat → List PC}, (∀ i, i < n → All2 okPC ks (g i)) → All2 (okCol n) ks (colsFrom ks g) := by
  intro ks
  induction ks with
  | nil => intro g _; trivial
  | cons k ks ih =>
    intro g h
    have hrest : ∀ i, i < n → All2 okPC ks (g i).tail := fun i hi => by
      have := h i hi
      cases hg : g i with
      | nil => rw [hg] at this; simp [All2] at this
      | cons p r => rw [hg] at this; exact this.2
    cases k with
    | none => exact ⟨⟨_, rfl⟩, ih hrest⟩
    | some k =>
      refine ⟨⟨_, rfl, fun i hi => ?_⟩, ih hrest⟩
      have := h i hi
      cases hg : g i with
      | nil => rw [hg] at this; simp [All2] at this
      | cons p r =>
        rw [hg] at this
        obtain ⟨m, rfl, hw⟩ := this.1
        exact hw

theorem tab_list {ks : List (Option IntKind)} {els : List (List PC)} (h : ∀ x ∈ els, All2 okPC ks x) : (Els.tab els.length (colsFrom ks fun i => (els[i]?).getD [])).list = els ∧ All2 (okCol els.length) ks (colsFrom ks fun i => (els[i]?).getD []) := by
  have hr : ∀ i, i < els.length → All2 okPC ks ((els[i]?).getD []) := fun i hi => by
    rw [List.getElem?_eq_getElem hi]
    exact h _ (List.getElem_mem hi)
  refine ⟨?_, colsFrom_ok hr⟩
  apply List.ext_getElem?
  intro i
  simp only [Els.list, List.getElem?_map]
  by_cases hi : i < els.length
  · rw [List.getElem?_range hi, Option.map_some, colsFrom_row (g := fun i => (els[i]?).getD []) (hr i hi), List.getElem?_eq_getElem hi]
    rfl
  · rw [List.getElem?_eq_none (by simp; omega), List.getElem?_eq_none (by omega)]
    rfl

/-- What an argument's part of one cell is. -/
def C1Of (P : Program) (t : TypeId) (c : DC) : Prop :=
  match P.underlying t with
  | some .bool => ∃ b, c = .pc (.bool b)
  | some (.int k) => ∃ n, c = .pc (.int k n) ∧ (Lit.int k n).wf = true
  | some (.slice e) => ∃ ks n cols, flat P 6 e = some ks ∧ c = .sl ks.length (.tab n cols) ∧ n ≤ maxLen ∧ All2 (okCol n) ks cols
  | _ => False

def cellB (P : Program) (t : TypeId) : Bool :=
  match P.underlying t with
  | some .bool => true
  | some (.int _) => true
  | some (.slice e) => (match flat P 6 e with | some (_ :: _) => true | _ => false)
  | _ => false

/-- Fields of one cell each, one behind the other. -/
def cellsB (P : Program) : Nat → List Field → Bool
  | _, [] => true
  | i, f :: r => cond (cellB P f.type) (cond (decide (f.offset = i ∧ P.cellsOf f.type = 1)) (cellsB P (i + 1) r) false) false

/-- What a deep argument of that type is. -/
def D1Of (P : Program) (t : TypeId) (d : D1) : Prop :=
  match P.underlying t with
  | some .bool => ∃ b, d = .one (.pc (.bool b))
  | some (.int k) => ∃ n, d = .one (.pc (.int k n)) ∧ (Lit.int k n).wf = true
  | some (.slice e) => ∃ ks n cols, flat P 6 e = some ks ∧ d = .one (.sl ks.length (.tab n cols)) ∧ n ≤ maxLen ∧ All2 (okCol n) ks cols
  | some (.struct F) => (match flat P 6 t with
    | some ks => ∃ ps, d = .agg (ps.map DC.pc) ∧ All2 okPC ks ps
    | none => ∃ ds, d = .agg ds ∧ All2 (fun (f : Field) c => C1Of P f.type c) F.toList ds)
  | some (.array _ _) => ∃ ks ps, flat P 6 t = some ks ∧ d = .agg (ps.map DC.pc) ∧ All2 okPC ks ps
  | _ => False

def argB (P : Program) (t : TypeId) : Bool :=
  P.readableRec t && decide (t < P.types.size) && (match P.underlying t with
  | some .bool => true
  | some (.int _) => true
  | some (.slice e) => (match flat P 6 e with | some (_ :: _) => true | _ => false)
  | some (.struct F) => (match flat P 6 t with | some _ => true | none => cond (cellsB P 0 F.toList) (decide (P.cellsOf t = F.size)) false)
  | some (.array _ _) => (match flat P 6 t with | some _ => true | none => false)
  | _ => false)

theorem plain_rel (own : Bool) (B : Nat) (w : World) (ps : List PC) : All2 (DRel own B w) (ps.map DC.pc) (ps.map PC.v) := by
  induction ps with
  | nil => trivial
  | cons p ps ih => exact ⟨rfl, ih⟩

section
variable {H : Type} {enc : TypeId × Value → H} {P : Program} {w : World}

theorem open_agg {t : TypeId} {ks : List (Option IntKind)} (hf : flat P 6 t = some ks) {v : Value} {cs : Array Value} (hv : v = .agg cs) {d : DataW H} {ps : List MemPlace} (h : DataW.Trod enc P w 0 (fun _ => true) true t v d ps) :
    ∃ ks ps, flat P 6 t = some ks ∧ All2 okPC ks ps ∧ D1Rel false w.heap.size w (.agg (ps.map DC.pc)) v := by
  obtain ⟨fuel, hx⟩ := h
  obtain ⟨qs, h1, h2⟩ := plain_trod 6 t ks hf fuel _ _ hx
  refine ⟨ks, qs, hf, h2, qs.map PC.v, ?_, plain_rel _ _ _ _⟩
  subst hv
  simp only [Value.cells] at h1
  rw [← h1]

theorem open_cell {t : TypeId} (hb : cellB P t = true) {v : Value} {fuel : Nat} {x : DataW H × List MemPlace} (hx : DataW.trod enc P w 0 (fun _ => true) true fuel t [v] = some x) : ∃ c, C1Of P t c ∧ DRel false w.heap.size w c v := by
  unfold cellB at hb
  unfold C1Of
  cases hu : P.underlying t with
  | none => rw [hu] at hb; cases hb
  | some desc =>
    rw [hu] at hb
    cases desc <;> simp only at hb ⊢
    case bool =>
      obtain ⟨b, h0, _⟩ := DataW.trod_bool hu hx
      simp only [List.cons.injEq, and_true] at h0
      subst h0
      exact ⟨_, ⟨b, rfl⟩, rfl⟩
    case int k =>
      obtain ⟨n, h0, _, hw⟩ := DataW.trod_int hu hx
      simp only [List.cons.injEq, and_true] at h0
      subst h0
      exact ⟨_, ⟨n, rfl, hw⟩, rfl⟩
    case slice e =>
      cases hf : flat P 6 e with
      | none => rw [hf] at hb; cases hb
      | some ks =>
        have hc := cellsOf_flat hf
        rcases DataW.trod_slice hu hx with ⟨h0, _⟩ | ⟨a, len, cap, elems, rest, n, _, h0, _, _, hl, hm, hlen, hel, _, _⟩
        · simp only [List.cons.injEq, and_true] at h0
          subst h0
          refine ⟨.sl ks.length (.tab 0 (colsFrom ks fun _ => [])), ⟨ks, 0, _, rfl, rfl, Nat.zero_le _, colsFrom_ok fun i hi => by omega⟩, ⟨0, 0, ks.length, false, 0, 0⟩, ⟨rfl, rfl, rfl, fun i e hi => by simp [Els.list] at hi, fun i e hi => by simp [Els.list] at hi⟩, none, 0, rfl, Nat.le_refl _, Nat.le_refl _, fun h => by simp at h, fun h => by simp at h⟩
        · simp only [List.cons.injEq, and_true] at h0
          subst h0
          have each : ∀ i, i < len → ∃ q : List PC, All2 okPC ks q ∧ ∀ j, j < ks.length → w.cell? ((a.add (i * ks.length)).add j) = (q[j]?).map PC.v := fun i hi => by
            have h1 := hel i hi
            have hlt : i < elems.length := by omega
            rw [List.getElem?_eq_getElem hlt, Option.bind_eq_some_iff] at h1
            obtain ⟨cs, hcs, hy⟩ := h1
            obtain ⟨q, hq1, hq2⟩ := plain_trod 6 e ks hf n cs _ hy
            rw [hc] at hcs
            obtain ⟨_, h3, h4⟩ := World.cells?_some hcs
            exact ⟨q, hq2, fun j hj => by rw [h4 j hj, hq1, List.getElem?_map]⟩
          have hlist : ∀ m, m ≤ len → ∃ els : List (List PC), els.length = m ∧ (∀ i q, els[i]? = some q → All2 okPC ks q ∧ ∀ j, j < ks.length → w.cell? ((a.add (i * ks.length)).add j) = (q[j]?).map PC.v) := fun m => by
            induction m with
            | zero => intro _; exact ⟨[], rfl, fun i q hi => by simp at hi⟩
            | succ m ihm =>
              intro hm
              obtain ⟨els, h1, h2⟩ := ihm (by omega)
              obtain ⟨q, hq⟩ := each m (by omega)
              refine ⟨els ++ [q], by simp [h1], fun i q' hi => ?_⟩
              by_cases him : i < els.length
              · rw [List.getElem?_append_left him] at hi; exact h2 i q' hi
              · have : i = m := by
                  have := (List.getElem?_eq_some_iff.1 hi).1
                  simp at this
                  omega
                subst this
                rw [List.getElem?_append_right (by omega), h1, Nat.sub_self] at hi
                simp only [List.getElem?_cons_zero, Option.some.injEq] at hi
                subst hi
                exact hq
          obtain ⟨els, hl1, hl2⟩ := hlist len (Nat.le_refl _)
          have hq : ∀ x ∈ els, All2 okPC ks x := fun x hx => by
            obtain ⟨i, hi⟩ := List.getElem?_of_mem hx
            exact (hl2 i x hi).1
          have hcell : ∀ (i : Nat) (q : List PC), els[i]? = some q → ∀ (j : Nat) (p : PC), q[j]? = some p → w.cell? ((a.add (i * ks.length)).add j) = some p.v := fun i q hi j p hj => by
            have hjl : j < ks.length := by rw [(hl2 i q hi).1.length]; exact (List.getElem?_eq_some_iff.1 hj).1
            rw [(hl2 i q hi).2 j hjl, hj]
            rfl
          obtain ⟨htab, hcols⟩ := tab_list hq
          refine ⟨.sl ks.length (.tab els.length (colsFrom ks fun i => (els[i]?).getD [])), ⟨ks, els.length, _, rfl, rfl, by omega, hcols⟩, ?_⟩
          obtain ⟨b, off, spot⟩ := a
          have hpos : 0 < ks.length := by
            cases ks with
            | nil => rw [hf] at hb; cases hb
            | cons => simp
          have hspot : 0 < els.length → spot = none := fun h0 => by
            have hq0 : els[0]? = some els[0] := List.getElem?_eq_getElem h0
            have hl0 : 0 < (els[0]).length := by rw [← (hl2 0 _ hq0).1.length]; exact hpos
            have := hcell 0 _ hq0 0 _ (List.getElem?_eq_getElem hl0)
            simpa [Addr.add] using World.cell?_spot this
          refine ⟨⟨b, off, ks.length, false, 0, els.length⟩, BRel.congr (E := .lit els) htab.symm ⟨rfl, rfl, rfl, fun i q hi => ((hl2 i q hi).1.length).symm, fun i q hi j p hj => ?_⟩, some ⟨b, off, spot⟩, cap, by rw [hl1], Nat.le_trans (Nat.le_of_eq hl1) hl, by simp, fun h => by simp at h, fun h => ?_⟩
          · replace hi : els[i]? = some q := hi
            have hlt : 0 < els.length := by have := (List.getElem?_eq_some_iff.1 hi).1; omega
            have := hcell i q hi j p hj
            rw [hspot hlt, add_none, add_none] at this
            refine ⟨?_, this⟩
            rcases Nat.lt_or_ge b w.heap.size with h1 | h1
            · exact h1
            · simp [World.cell?, Array.getElem?_eq_none h1] at this
          · rcases h with ⟨h, _⟩ | h
            · simp at h
            · rw [hspot h]; simp
    all_goals cases hb

theorem open_fields {fuel : Nat} : ∀ (fs : List Field) (off : Nat) (cs : List Value), cellsB P off fs = true → (∀ f ∈ fs, ∃ y, DataW.trod enc P w 0 (fun _ => true) true fuel f.type ((cs.drop f.offset).take (P.cellsOf f.type)) = some y) → cs.length = off + fs.length →
    ∃ ds, All2 (fun (f : Field) c => C1Of P f.type c) fs ds ∧ All2 (DRel false w.heap.size w) ds (cs.drop off) := by
  intro fs
  induction fs with
  | nil => intro off cs _ _ hl; exact ⟨[], trivial, by rw [List.drop_of_length_le (by simp at hl; omega)]; trivial⟩
  | cons f fs ih =>
    intro off cs hb hall hl
    simp only [cellsB] at hb
    obtain ⟨h1, hb⟩ := cond_and hb
    obtain ⟨h2, hb⟩ := cond_and hb
    obtain ⟨h2, h3⟩ := of_decide_eq_true h2
    obtain ⟨y, hy⟩ := hall f (by simp)
    have hlt : off < cs.length := by simp at hl; omega
    rw [h2, h3, List.drop_eq_getElem_cons hlt, List.take_succ_cons, List.take_zero] at hy
    obtain ⟨c, hc1, hc2⟩ := open_cell h1 hy
    obtain ⟨ds, hd1, hd2⟩ := ih (off + 1) cs hb (fun g hg => hall g (by simp [hg])) (by simp at hl; omega)
    refine ⟨c :: ds, ⟨hc1, hd1⟩, ?_⟩
    rw [List.drop_eq_getElem_cons hlt]
    exact ⟨hc2, hd2⟩

theorem open_arg {base : Nat} {t : TypeId} (hb : argB P t = true) {v : Value} {d : DataW H} {ps : List MemPlace} (hval : Value.okWide P w .any base t v) (h : DataW.Trod enc P w 0 (fun _ => true) true t v d ps) :
    ∃ x, D1Of P t x ∧ D1Rel false w.heap.size w x v := by
  unfold argB at hb
  simp only [Bool.and_eq_true] at hb
  obtain ⟨_, hb⟩ := hb
  unfold D1Of
  cases hu : P.underlying t with
  | none => rw [hu] at hb; cases hb
  | some desc =>
    rw [hu] at hb
    cases desc <;> simp only at hb ⊢
    case bool =>
      obtain ⟨b, rfl, _, _⟩ := open_bool hu hval h
      exact ⟨_, ⟨b, rfl⟩, rfl⟩
    case int k =>
      obtain ⟨n, rfl, _, _, hw⟩ := open_int hu hval h
      exact ⟨_, ⟨n, rfl, hw⟩, rfl⟩
    case struct F =>
      simp only [Value.okWide, hu] at hval
      obtain ⟨cs, hv, _, _⟩ := hval
      cases hf : flat P 6 t with
      | none =>
        rw [hf] at hb
        obtain ⟨hb1, hb2⟩ := cond_and hb
        have hb2 := of_decide_eq_true hb2
        obtain ⟨fuel, hx⟩ := h
        subst hv
        obtain ⟨xs, m, rfl, _, hl, hxs, hall⟩ := DataW.trod_struct hu hx
        simp only [Value.cells] at hl hall
        obtain ⟨ds, h1, h2⟩ := open_fields (fuel := m) F.toList 0 cs.toList hb1 (fun f hf' => by
          obtain ⟨j, hj⟩ := List.getElem?_of_mem hf'
          have hj' : F[j]? = some f := by simpa using hj
          have h1 := hall j f hj'
          have hlt : j < xs.length := by rw [hxs]; exact (Array.getElem?_eq_some_iff.1 hj').1
          rw [List.getElem?_eq_getElem hlt] at h1
          exact ⟨_, h1⟩) (by rw [hl, hb2]; simp)
        exact ⟨_, ⟨ds, rfl, h1⟩, cs.toList, rfl, h2⟩
      | some ks =>
        obtain ⟨ks', ps', h1, h2, h3⟩ := open_agg hf hv h
        rw [hf] at h1
        obtain rfl : ks = ks' := by injection h1
        exact ⟨_, ⟨ps', rfl, h2⟩, h3⟩
    case array m e =>
      cases hf : flat P 6 t with
      | none => rw [hf] at hb; cases hb
      | some ks =>
        simp only [Value.okWide, hu] at hval
        obtain ⟨cs, hv, _, _⟩ := hval
        obtain ⟨ks', ps', h1, h2, h3⟩ := open_agg hf hv h
        exact ⟨_, ⟨ks', ps', by rw [← hf]; exact h1, rfl, h2⟩, h3⟩
    case slice e =>
      cases hf : flat P 6 e with
      | none => rw [hf] at hb; cases hb
      | some ks =>
        have hc := cellsOf_flat hf
        obtain ⟨a0, len, cap, rfl⟩ := okWide_slice hu hval
        obtain ⟨fuel, hx⟩ := h
        rcases DataW.trod_slice hu hx with ⟨h0, _⟩ | ⟨a, len', cap', elems, rest, n, _, h0, _, _, hl, hm, hlen, hel, _, _⟩
        · simp only [Value.cells, List.cons.injEq, Value.slice.injEq, and_true] at h0
          obtain ⟨rfl, rfl, rfl⟩ := h0
          refine ⟨.one (.sl ks.length (.tab 0 (colsFrom ks fun _ => []))), ⟨ks, 0, _, rfl, rfl, Nat.zero_le _, colsFrom_ok fun i hi => by omega⟩, ⟨0, 0, ks.length, false, 0, 0⟩, ⟨rfl, rfl, rfl, fun i e hi => by simp [Els.list] at hi, fun i e hi => by simp [Els.list] at hi⟩, none, 0, rfl, Nat.le_refl _, Nat.le_refl _, fun h => by simp at h, fun h => by simp at h⟩
        · simp only [Value.cells, List.cons.injEq, Value.slice.injEq, and_true] at h0
          obtain ⟨rfl, rfl, rfl⟩ := h0
          have each : ∀ i, i < len → ∃ q : List PC, All2 okPC ks q ∧ ∀ j, j < ks.length → w.cell? ((a.add (i * ks.length)).add j) = (q[j]?).map PC.v := fun i hi => by
            have h1 := hel i hi
            have hlt : i < elems.length := by omega
            rw [List.getElem?_eq_getElem hlt, Option.bind_eq_some_iff] at h1
            obtain ⟨cs, hcs, hy⟩ := h1
            obtain ⟨q, hq1, hq2⟩ := plain_trod 6 e ks hf n cs _ hy
            rw [hc] at hcs
            obtain ⟨_, h3, h4⟩ := World.cells?_some hcs
            exact ⟨q, hq2, fun j hj => by rw [h4 j hj, hq1, List.getElem?_map]⟩
          have hlist : ∀ m, m ≤ len → ∃ els : List (List PC), els.length = m ∧ (∀ i q, els[i]? = some q → All2 okPC ks q ∧ ∀ j, j < ks.length → w.cell? ((a.add (i * ks.length)).add j) = (q[j]?).map PC.v) := fun m => by
            induction m with
            | zero => intro _; exact ⟨[], rfl, fun i q hi => by simp at hi⟩
            | succ m ihm =>
              intro hm
              obtain ⟨els, h1, h2⟩ := ihm (by omega)
              obtain ⟨q, hq⟩ := each m (by omega)
              refine ⟨els ++ [q], by simp [h1], fun i q' hi => ?_⟩
              by_cases him : i < els.length
              · rw [List.getElem?_append_left him] at hi; exact h2 i q' hi
              · have : i = m := by
                  have := (List.getElem?_eq_some_iff.1 hi).1
                  simp at this
                  omega
                subst this
                rw [List.getElem?_append_right (by omega), h1, Nat.sub_self] at hi
                simp only [List.getElem?_cons_zero, Option.some.injEq] at hi
                subst hi
                exact hq
          obtain ⟨els, hl1, hl2⟩ := hlist len (Nat.le_refl _)
          have hq : ∀ x ∈ els, All2 okPC ks x := fun x hx => by
            obtain ⟨i, hi⟩ := List.getElem?_of_mem hx
            exact (hl2 i x hi).1
          have hcell : ∀ (i : Nat) (q : List PC), els[i]? = some q → ∀ (j : Nat) (p : PC), q[j]? = some p → w.cell? ((a.add (i * ks.length)).add j) = some p.v := fun i q hi j p hj => by
            have hjl : j < ks.length := by rw [(hl2 i q hi).1.length]; exact (List.getElem?_eq_some_iff.1 hj).1
            rw [(hl2 i q hi).2 j hjl, hj]
            rfl
          obtain ⟨htab, hcols⟩ := tab_list hq
          refine ⟨.one (.sl ks.length (.tab els.length (colsFrom ks fun i => (els[i]?).getD []))), ⟨ks, els.length, _, rfl, rfl, by omega, hcols⟩, ?_⟩
          obtain ⟨b, off, spot⟩ := a
          have hpos : 0 < ks.length := by
            cases ks with
            | nil => rw [hf] at hb; cases hb
            | cons => simp
          have hspot : 0 < els.length → spot = none := fun h0 => by
            have hq0 : els[0]? = some els[0] := List.getElem?_eq_getElem h0
            have hl0 : 0 < (els[0]).length := by rw [← (hl2 0 _ hq0).1.length]; exact hpos
            have := hcell 0 _ hq0 0 _ (List.getElem?_eq_getElem hl0)
            simpa [Addr.add] using World.cell?_spot this
          refine ⟨⟨b, off, ks.length, false, 0, els.length⟩, BRel.congr (E := .lit els) htab.symm ⟨rfl, rfl, rfl, fun i q hi => ((hl2 i q hi).1.length).symm, fun i q hi j p hj => ?_⟩, some ⟨b, off, spot⟩, cap, by rw [hl1], Nat.le_trans (Nat.le_of_eq hl1) hl, by simp, fun h => by simp at h, fun h => ?_⟩
          · replace hi : els[i]? = some q := hi
            have hlt : 0 < els.length := by have := (List.getElem?_eq_some_iff.1 hi).1; omega
            have := hcell i q hi j p hj
            rw [hspot hlt, add_none, add_none] at this
            refine ⟨?_, this⟩
            rcases Nat.lt_or_ge b w.heap.size with h1 | h1
            · exact h1
            · simp [World.cell?, Array.getElem?_eq_none h1] at this
          · rcases h with ⟨h, _⟩ | h
            · simp at h
            · rw [hspot h]; simp
    all_goals cases hb
end

/-! ### The row's last steps -/

theorem post_of_below {H : Type} {enc : TypeId × Value → H} {P : Program} {f : Func} {s : ChangeSpec} {apart fresh handsOn again : Bool} {W W' : World} {args : Array Value} {v : Value} {ds gs : List (DataW H)} {before pa pv : List MemPlace}
    (hW : DataW.Whole enc P f.params.toList s.vars apart W args.toList ds gs before)
    (hres : ∀ (b : Nat) (sp : Nat → Bool) (hd : Bool), DataW.TrodAll enc P W' b sp hd f.resultTypes.toList (v.resultList f.resultTypes.size) (s.fn H (ds ++ gs)).results [])
    (hargs : ∀ sp : Nat → Bool, (∀ p ∈ before, sp p.block = true) → DataW.TrodAll enc P W' 0 sp true f.params.toList args.toList (s.fn H (ds ++ gs)).args pa)
    (hvars : ∀ sp : Nat → Bool, (∀ p ∈ before, sp p.block = true) → DataW.TrodVars enc P W' sp s.vars (s.fn H (ds ++ gs)).vars pv)
    (hps : before = pa ++ pv) (hb : Below W.heap.size W W')
    (hok : ∀ (j : Nat) (t : TypeId) (r : Value), f.resultTypes[j]? = some t → (v.resultList f.resultTypes.size)[j]? = some r → Value.okWide P W' .any 0 t r) :
    s.post enc P f apart fresh handsOn again W args v W' := by
  have hlt : ∀ p ∈ before, p.block < W.heap.size := fun p hp => hW.lt p hp
  have hold : ∀ p ∈ before, (fun b => decide (b < W.heap.size)) p.block = true := fun p hp => by simpa using hlt p hp
  refine ⟨ds, gs, before, [], pa, pv, hW, hres _ _ _, hargs _ hold, hvars _ hold, World.keptBut_mono (fun p hp => ⟨hp, ?_⟩) (hb.frame (· ∈ before)), fun _ => ?_⟩
  · rw [hps, List.mem_append] at hp
    exact Or.inr hp
  · obtain ⟨_, _, _, _, _, hz, hn⟩ := hW
    refine ⟨hok, _, _, ([] ++ pa) ++ pv, ⟨[] ++ pa, pv, trodAll_append (hargs _ (fun _ _ => rfl)) (hres _ _ _), hvars _ (fun _ _ => rfl), rfl, ?_, ?_⟩, ?_⟩
    · intro b off hp
      have hin : MemPlace.cell b off ∈ before := by rw [hps]; simpa using hp
      rw [hb.frozen (hlt _ hin)]
      exact hz b off hin
    · intro ha
      have := hn ha
      rw [hps] at this
      simpa using this
    · intro p hp _
      rw [hps]
      simpa using hp

section
variable {H : Type} {enc : TypeId × Value → H} {P : Program}

/-- All arguments, opened. -/
theorem open_args {base : Nat} {W : World} : ∀ {ts : List TypeId} {vs : List Value} {ds : List (DataW H)} {ps : List MemPlace}, (∀ t ∈ ts, argB P t = true) → (∀ (j : Nat) t v, ts[j]? = some t → vs[j]? = some v → Value.okWide P W .any base t v) →
    DataW.TrodAll enc P W 0 (fun _ => true) true ts vs ds ps → ∃ l, All2 (D1Of P) ts l ∧ All2 (D1Rel false W.heap.size W) l vs := by
  intro ts
  induction ts with
  | nil => intro vs ds ps _ _ h; obtain ⟨rfl, _, _⟩ := trodAll_nil h; exact ⟨[], trivial, trivial⟩
  | cons t ts ih =>
    intro vs ds ps hb hval h
    obtain ⟨v, vs', d, ds', p, q, rfl, rfl, rfl, h1, h2⟩ := trodAll_cons h
    obtain ⟨x, hx1, hx2⟩ := open_arg (hb t (by simp)) (hval 0 t v rfl rfl) h1
    obtain ⟨l, hl1, hl2⟩ := ih (fun u hu => hb u (by simp [hu])) (fun j u w hj hw => hval (j + 1) u w (by simpa using hj) (by simpa using hw)) h2
    exact ⟨x :: l, ⟨hx1, hl1⟩, ⟨hx2, hl2⟩⟩

/-- All arguments read as they did. -/
theorem keep_args (hlaid : laidOutB P = true) {W W' : World} (hbel : Below W.heap.size W W') {sp : Nat → Bool} : ∀ {ts : List TypeId} {vs : List Value} {ds : List (DataW H)} {ps : List MemPlace}, (∀ t ∈ ts, argB P t = true) →
    (∀ p ∈ ps, sp p.block = true) → (∀ p ∈ ps, p.block < W.heap.size) → DataW.TrodAll enc P W 0 (fun _ => true) true ts vs ds ps → DataW.TrodAll enc P W' 0 sp true ts vs ds ps := by
  intro ts
  induction ts with
  | nil => intro vs ds ps _ _ _ h; obtain ⟨rfl, rfl, rfl⟩ := trodAll_nil h; exact trodAll_mk0
  | cons t ts ih =>
    intro vs ds ps hb hsp hlt h
    obtain ⟨v, vs', d, ds', p, q, rfl, rfl, rfl, h1, h2⟩ := trodAll_cons h
    have hbt := hb t (by simp)
    unfold argB at hbt
    simp only [Bool.and_eq_true, decide_eq_true_eq] at hbt
    exact ⟨p, q, WideElems.Trod_stays hlaid hbt.1.1 hbt.1.2 h1 (fun x hx => hbel.same (hlt x (by simp [hx]))) (fun x hx => hsp x (by simp [hx])),
      ih (fun u hu => hb u (by simp [hu])) (fun x hx => hsp x (by simp [hx])) (fun x hx => hlt x (by simp [hx])) h2, rfl⟩
end

/-- A law: it returns true, whatever the arguments are; and they read as they did. -/
theorem law_lifted {H : Type} {enc : TypeId × Value → H} {C : Checked} {os : Os} {f : FuncId} {fn : Func} {s : ChangeSpec} {conds : List PathCond} {apart fresh handsOn again : Bool}
    (own : ownKnob C.prog.godebug = none) (started : os.Started) (noInit : C.prog.inits.idxOf? f = none) (hfn : C.prog.funcs[f]? = some fn)
    (witness : ∃ (w : World) (tape : Tape) (i : Input), w.os = os ∧ (w.forCall tape i).Shaped C.prog ∧ i.vars = [] ∧ Input.okWide C.prog (w.forCall tape i) .any w.heap.size f i ∧
      s.pre6 enc C.prog fn conds apart (w.forCall tape i).memory i.args ∧ ({} : Assume).holds C.prog (lone (Frame.enter C.prog f i.args .normal) [] (w.forCall tape i)))
    (hlaid : laidOutB C.prog = true) (hargs : ∀ t ∈ fn.params.toList, argB C.prog t = true) {rt : TypeId} (hres : fn.resultTypes = #[rt]) (hrt : C.prog.underlying rt = some .bool)
    (hvars : s.vars = []) (hspec : ∀ ds : List (DataW H), ds.length = fn.params.size → s.fn H ds = { results := [.lit (.bool true)], args := ds })
    (hsem : ∀ l, All2 (D1Of C.prog) fn.params.toList l → FnSem C.prog f l (.v (.one (.pc (.bool true))))) :
    ReturnsInHanded {} C os f .any (s.pre6 enc C.prog fn conds apart) (s.post enc C.prog fn apart fresh handsOn again) := by
  refine returnsInHanded_of_change own started noInit hfn witness ?_
  intro W base args ds gs before hval hW _ _
  have hW' := hW
  obtain ⟨p, q, hA, hV, hpq, hfz, hnd⟩ := hW
  have hval' : ∀ (j : Nat) t v, fn.params.toList[j]? = some t → args.toList[j]? = some v → Value.okWide C.prog W .any base t v := fun j t v h1 h2 => hval j t v (by simpa using h1) (by simpa using h2)
  obtain ⟨l, hl1, hl2⟩ := open_args hargs hval' hA
  have hcall := (hsem l hl1).call args.toList W hl2
  rw [Array.toArray_toList] at hcall
  refine hcall.mono fun e W' he => ?_
  obtain ⟨v, rfl, hv, hbel⟩ := he
  obtain rfl : v = .bool true := hv
  rw [hvars] at hV
  obtain ⟨rfl, rfl⟩ := trodVars_none hV
  rw [List.append_nil] at hpq
  subst hpq
  have hlen : ds.length = fn.params.size := by
    have := (trodAll_length hA).2
    simpa using this
  have hfn' : s.fn H (ds ++ []) = { results := [.lit (.bool true)], args := ds } := by rw [List.append_nil]; exact hspec ds hlen
  refine ⟨_, rfl, post_of_below (pa := before) (pv := []) hW' (fun _ _ _ => ?_) (fun sp hsp => ?_) (fun _ _ => ?_) (by simp) hbel (ok_one hres rfl (okWide_bool_mk hrt true))⟩
  · rw [hfn', hres]
    exact trodAll_cons_mk (shut_bool hrt true) trodAll_mk0
  · rw [hfn']
    exact keep_args hlaid hbel hargs hsp (fun x hx => hW'.lt x hx) hA
  · rw [hfn', hvars]
    rfl

/-! ### What the arguments are -/

theorem D1Of.int {P : Program} {t : TypeId} {k : IntKind} {d : D1} (hu : P.underlying t = some (.int k)) (h : D1Of P t d) : ∃ n, d = .one (.pc (.int k n)) ∧ (Lit.int k n).wf = true := by
  unfold D1Of at h
  rw [hu] at h
  exact h

theorem D1Of.bool {P : Program} {t : TypeId} {d : D1} (hu : P.underlying t = some .bool) (h : D1Of P t d) : ∃ b, d = .one (.pc (.bool b)) := by
  unfold D1Of at h
  rw [hu] at h
  exact h

theorem D1Of.slice {P : Program} {t e : TypeId} {d : D1} {ks : List (Option IntKind)} (hu : P.underlying t = some (.slice e)) (hf : flat P 6 e = some ks) (h : D1Of P t d) :
    ∃ n cols, d = .one (.sl ks.length (.tab n cols)) ∧ n ≤ maxLen ∧ All2 (okCol n) ks cols := by
  unfold D1Of at h
  rw [hu] at h
  obtain ⟨ks', n, cols, h1, h2, h3⟩ := h
  rw [hf] at h1
  obtain rfl : ks = ks' := by injection h1
  exact ⟨n, cols, h2, h3⟩

theorem D1Of.struct {P : Program} {t : TypeId} {F : Array Field} {d : D1} {ks : List (Option IntKind)} (hu : P.underlying t = some (.struct F)) (hf : flat P 6 t = some ks) (h : D1Of P t d) : ∃ ps, d = .agg (ps.map DC.pc) ∧ All2 okPC ks ps := by
  unfold D1Of at h
  rw [hu] at h
  simp only [hf] at h
  exact h

theorem D1Of.fields {P : Program} {t : TypeId} {F : Array Field} {d : D1} (hu : P.underlying t = some (.struct F)) (hf : flat P 6 t = none) (h : D1Of P t d) : ∃ ds, d = .agg ds ∧ All2 (fun (f : Field) c => C1Of P f.type c) F.toList ds := by
  unfold D1Of at h
  rw [hu] at h
  simp only [hf] at h
  exact h

theorem C1Of.one {P : Program} {t : TypeId} {c : DC} (h : C1Of P t c) : D1Of P t (.one c) := by
  unfold C1Of at h
  unfold D1Of
  split at h
  · rename_i hu; rw [hu]; obtain ⟨b, rfl⟩ := h; exact ⟨b, rfl⟩
  · rename_i hu; rw [hu]; obtain ⟨n, rfl, h⟩ := h; exact ⟨n, rfl, h⟩
  · rename_i hu; rw [hu]; obtain ⟨ks, n, cols, h1, rfl, h2⟩ := h; exact ⟨ks, n, cols, h1, rfl, h2⟩
  · cases h

theorem D1Of.array {P : Program} {t e : TypeId} {n : Nat} {d : D1} {ks : List (Option IntKind)} (hu : P.underlying t = some (.array n e)) (hf : flat P 6 t = some ks) (h : D1Of P t d) : ∃ ps, d = .agg (ps.map DC.pc) ∧ All2 okPC ks ps := by
  unfold D1Of at h
  rw [hu] at h
  obtain ⟨ks', ps, h1, h2, h3⟩ := h
  rw [hf] at h1
  obtain rfl : ks = ks' := by injection h1
  exact ⟨ps, h2, h3⟩

theorem okPC_cons {k : Option IntKind} {ks : List (Option IntKind)} {ps : List PC} (h : All2 okPC (k :: ks) ps) : ∃ p qs, ps = p :: qs ∧ okPC k p ∧ All2 okPC ks qs := by
  cases ps with
  | nil => simp [All2] at h
  | cons p qs => exact ⟨p, qs, rfl, h⟩

theorem okPC_nil {ps : List PC} (h : All2 okPC [] ps) : ps = [] := by
  cases ps with
  | nil => rfl
  | cons => simp [All2] at h

theorem all2_cons {α β : Type} {r : α → β → Prop} {a : α} {l : List α} {m : List β} (h : All2 r (a :: l) m) : ∃ b n, m = b :: n ∧ r a b ∧ All2 r l n := by
  cases m with
  | nil => simp [All2] at h
  | cons b n => exact ⟨b, n, rfl, h⟩

theorem all2_nil {α β : Type} {r : α → β → Prop} {m : List β} (h : All2 r ([] : List α) m) : m = [] := by
  cases m with
  | nil => rfl
  | cons => simp [All2] at h

end Go.Eng
