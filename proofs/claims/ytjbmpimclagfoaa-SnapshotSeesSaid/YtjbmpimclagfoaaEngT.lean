/-
  The table of types that the evaluator reads, held against the program's own; equality of plain structs and arrays.
-/
import Derived.Test.YtjbmpimclagfoaaEngR
import Derived.ChangeKeysEq
namespace Go.Eng

/-! ### Plain types: what their cells are -/

def flatF (P : Program) (f : TypeId → Option (List (Option IntKind))) : List Field → Nat → Option (List (Option IntKind))
  | [], _ => some []
  | g :: r, off => if g.name = "_" ∨ g.offset ≠ off then none else match f g.type with
    | none => none
    | some ks => match flatF P f r (off + ks.length) with
      | none => none
      | some l => some (ks ++ l)

def repL {α : Type} (l : List α) : Nat → List α
  | 0 => []
  | n + 1 => l ++ repL l n

def flat (P : Program) : Nat → TypeId → Option (List (Option IntKind))
  | 0, _ => none
  | n + 1, t => match P.underlying t, P.info? t with
    | some .bool, some i => if i.size = 1 then some [none] else none
    | some (.int k), some i => if i.size = 1 then some [some k] else none
    | some (.struct F), some i => if P.stoodInHeld t then none else match flatF P (flat P n) F.toList 0 with
      | none => none
      | some ks => if ks.length = i.size then some ks else none
    | some (.array m e), some i => match flat P n e with
      | none => none
      | some ks => if i.size = m * ks.length then some (repL ks m) else none
    | _, _ => none

def ofKind : Option IntKind → Cell → Prop
  | none, c => ∃ b, c = .bool b
  | some k, c => ∃ n, c = .int k n

theorem repL_length {α : Type} (l : List α) (n : Nat) : (repL l n).length = n * l.length := by
  induction n with
  | zero => simp [repL]
  | succ n ih => simp [repL, ih, Nat.succ_mul, Nat.add_comm]

theorem flat_size {P : Program} {n : Nat} {t : TypeId} {ks : List (Option IntKind)} (h : flat P n t = some ks) : ∃ i, P.info? t = some i ∧ i.size = ks.length := by
  cases n with
  | zero => simp [flat] at h
  | succ n =>
    unfold flat at h
    cases hu : P.underlying t with
    | none => rw [hu] at h; simp at h
    | some d =>
      cases hi : P.info? t with
      | none => rw [hu, hi] at h; cases d <;> simp at h
      | some i =>
        rw [hu, hi] at h
        refine ⟨i, rfl, ?_⟩
        cases d <;> simp only at h
        case bool => split at h <;> simp_all; subst h; simp
        case int => split at h <;> simp_all; subst h; simp
        case struct F =>
          split at h
          · cases h
          · cases hf : flatF P (flat P n) F.toList 0 with
            | none => rw [hf] at h; simp at h
            | some q =>
              rw [hf] at h
              simp only at h
              split at h
              · simp only [Option.some.injEq] at h; subst h; symm; assumption
              · cases h
        case array m e =>
          cases hf : flat P n e with
          | none => rw [hf] at h; simp at h
          | some q =>
            rw [hf] at h
            simp only at h
            split at h
            · simp only [Option.some.injEq] at h; subst h; rw [repL_length]; assumption
            · cases h
        all_goals cases h

/-! ### '==' -/

theorem eqCells_length {xs ys : List Cell} {b : Bool} (h : eqCells xs ys = some b) : xs.length = ys.length := by
  induction xs generalizing ys b with
  | nil => cases ys <;> simp_all [eqCells]
  | cons x xs ih =>
    cases ys with
    | nil => cases x <;> simp [eqCells] at h
    | cons y ys =>
      cases x <;> cases y <;> simp only [eqCells] at h <;> try (cases h; done)
      case int.int k a k' b' =>
        split at h
        · cases hq : eqCells xs ys with
          | none => rw [hq] at h; simp at h
          | some q => simp [ih hq]
        · cases h
      case bool.bool =>
        cases hq : eqCells xs ys with
        | none => rw [hq] at h; simp at h
        | some q => simp [ih hq]

theorem eqCells_append {a b c d : List Cell} {r : Bool} (hl : a.length = c.length) (h : eqCells (a ++ b) (c ++ d) = some r) :
    ∃ r1 r2, eqCells a c = some r1 ∧ eqCells b d = some r2 ∧ r = (r1 && r2) := by
  induction a generalizing c r with
  | nil => cases c with
    | nil => exact ⟨true, r, rfl, h, by simp⟩
    | cons => simp at hl
  | cons x a ih =>
    cases c with
    | nil => simp at hl
    | cons y c =>
      simp only [List.length_cons, Nat.add_right_cancel_iff] at hl
      cases x <;> cases y <;> simp only [eqCells, List.cons_append] at h <;> try (cases h; done)
      case int.int k a1 k' b1 =>
        split at h
        · rename_i hk
          cases hq : eqCells (a ++ b) (c ++ d) with
          | none => rw [hq] at h; simp at h
          | some q =>
            rw [hq] at h
            obtain ⟨r1, r2, e1, e2, rfl⟩ := ih hl hq
            simp only [Option.some.injEq] at h
            refine ⟨cond (a1 == b1) r1 false, r2, by simp [eqCells, hk, e1], e2, ?_⟩
            rw [← h]
            cases (a1 == b1) <;> simp
        · cases h
      case bool.bool a1 b1 =>
        cases hq : eqCells (a ++ b) (c ++ d) with
        | none => rw [hq] at h; simp at h
        | some q =>
          rw [hq] at h
          obtain ⟨r1, r2, e1, e2, rfl⟩ := ih hl hq
          simp only [Option.some.injEq] at h
          refine ⟨cond (a1 == b1) r1 false, r2, by simp [eqCells, e1], e2, ?_⟩
          rw [← h]
          cases (a1 == b1) <;> simp

/-- The cells of a part of a row. -/
def Seg (β : Bt) (cs : List Cell) (X : Array Value) (off : Nat) : Prop := All2 (CRel β) cs ((X.toList.drop off).take cs.length)

theorem all2_split {α β : Type} {r : α → β → Prop} {a b : List α} {m : List β} (h : All2 r (a ++ b) m) : All2 r a (m.take a.length) ∧ All2 r b (m.drop a.length) := by
  induction a generalizing m with
  | nil => simpa [All2] using h
  | cons x a ih => cases m with
    | nil => simp [All2] at h
    | cons y m =>
      simp only [List.cons_append, All2] at h
      obtain ⟨h1, h2⟩ := ih h.2
      exact ⟨by simpa [All2] using ⟨h.1, h1⟩, by simpa using h2⟩

theorem Seg.left {β : Bt} {a b : List Cell} {X : Array Value} {off : Nat} (h : Seg β (a ++ b) X off) : Seg β a X off := by
  unfold Seg at h ⊢
  have := (all2_split h).1
  rwa [List.take_take, List.length_append, Nat.min_eq_left (by omega)] at this

theorem Seg.right {β : Bt} {a b : List Cell} {X : Array Value} {off : Nat} (h : Seg β (a ++ b) X off) : Seg β b X (off + a.length) := by
  unfold Seg at h ⊢
  have := (all2_split h).2
  rwa [List.length_append, List.drop_take, List.drop_drop, Nat.add_sub_cancel_left] at this

theorem Seg.one {β : Bt} {c : Cell} {X : Array Value} {off : Nat} (h : Seg β [c] X off) : ∃ v, X[off]? = some v ∧ CRel β c v := by
  unfold Seg at h
  have hl := h.length
  cases hd : X.toList.drop off with
  | nil => rw [hd] at h; simp [All2] at h
  | cons v r =>
    rw [hd] at h
    simp only [List.length_cons, List.length_nil, Nat.zero_add, List.take_succ_cons, List.take_zero, All2, and_true] at h
    refine ⟨v, ?_, h⟩
    have := congrArg (·[0]?) hd
    simpa using this

section eqs
variable {P : Program}

theorem run_part_agg {t : TypeId} {i : TypeInfo} (w : World) (X : Array Value) (off : Nat) (hi : P.info? t = some i) (ha : (∃ n e, P.underlying t = some (.array n e)) ∨ ∃ F, P.underlying t = some (.struct F)) :
    (part t X off).run P w = .ok (.agg (X.extract off (off + i.size))) w := by
  rcases ha with ⟨n, e, hu⟩ | ⟨F, hu⟩ <;> simp [part, isAgg, run_underlying hu, sizeOf, typeInfo, hi]

theorem run_part_cell {t : TypeId} (w : World) {X : Array Value} {off : Nat} {v : Value} (hx : X[off]? = some v) {d : TypeDesc} (hu : P.underlying t = some d) (hd : (match d with | .struct _ | .array _ _ => true | _ => false) = false) :
    (part t X off).run P w = .ok v w := by
  cases d <;> simp_all [part, isAgg, run_underlying hu]

/-- What '==' says of two parts. -/
def EqPart (P : Program) (d : Nat) (t : TypeId) (ks : List (Option IntKind)) : Prop :=
  ∀ (w : World) (β : Bt) (cs ds : List Cell) (X Y : Array Value) (o1 o2 : Nat) (b : Bool), All2 ofKind ks cs → All2 ofKind ks ds → Seg β cs X o1 → Seg β ds Y o2 → eqCells cs ds = some b →
    ∃ x y, (part t X o1).run P w = .ok x w ∧ (part t Y o2).run P w = .ok y w ∧ (Op.equalIn d t x y).run P w = .ok b w

theorem seg_extract {β : Bt} {cs : List Cell} {X : Array Value} {off : Nat} (h : Seg β cs X off) {n : Nat} (hn : n = cs.length) : Seg β cs (X.extract off (off + n)) 0 := by
  unfold Seg at h ⊢
  subst hn
  simpa [List.take_take] using h

theorem eq_fields {d : Nat} {f : TypeId → Option (List (Option IntKind))} (hf : ∀ t ks, f t = some ks → EqPart P d t ks) : ∀ (fs : List Field) (off : Nat) (ks : List (Option IntKind)), flatF P f fs off = some ks →
    ∀ (w : World) (β : Bt) (cs ds : List Cell) (X Y : Array Value) (b : Bool), All2 ofKind ks cs → All2 ofKind ks ds → Seg β cs X off → Seg β ds Y off → eqCells cs ds = some b →
    (Op.eqFields d X Y fs).run P w = .ok b w := by
  intro fs
  induction fs with
  | nil =>
    intro off ks h w β cs ds X Y b hc hd _ _ he
    simp only [flatF, Option.some.injEq] at h
    subst h
    cases cs with
    | cons => simp [All2] at hc
    | nil => cases ds with
      | cons => simp [All2] at hd
      | nil => simp only [eqCells, Option.some.injEq] at he; subst he; simp [Op.eqFields]
  | cons g r ih =>
    intro off ks h w β cs ds X Y b hc hd hX hY he
    simp only [flatF] at h
    split at h
    · cases h
    · rename_i hno
      cases h1 : f g.type with
      | none => rw [h1] at h; simp at h
      | some k1 =>
        rw [h1] at h
        simp only at h
        cases h2 : flatF P f r (off + k1.length) with
        | none => rw [h2] at h; simp at h
        | some k2 =>
          rw [h2] at h
          simp only [Option.some.injEq] at h
          subst h
          obtain ⟨hc1, hc2⟩ := all2_split hc
          obtain ⟨hd1, hd2⟩ := all2_split hd
          have lc := hc.length
          have ld := hd.length
          rw [List.length_append] at lc ld
          have l1 : (cs.take k1.length).length = k1.length := by rw [List.length_take]; omega
          have l2 : (ds.take k1.length).length = k1.length := by rw [List.length_take]; omega
          rw [← List.take_append_drop k1.length cs] at hX he
          rw [← List.take_append_drop k1.length ds] at hY he
          obtain ⟨r1, r2, e1, e2, rfl⟩ := eqCells_append (by rw [l1, l2]) he
          have hname : g.name ≠ "_" := fun e => hno (.inl e)
          have hoff : g.offset = off := Classical.byContradiction fun e => hno (.inr e)
          obtain ⟨x, y, p1, p2, p3⟩ := hf g.type k1 h1 w β _ _ X Y off off r1 hc1 hd1 hX.left hY.left e1
          have hX2 := hX.right
          have hY2 := hY.right
          rw [l1] at hX2
          rw [l2] at hY2
          have p4 := ih (off + k1.length) k2 h2 w β _ _ X Y r2 hc2 hd2 hX2 hY2 e2
          simp only [Op.eqFields, hname, ne_eq, not_false_eq_true, if_true, hoff, Sem.run_bind, p1, p2, p3, Result.andThen_ok, Sem.run_ite, Sem.run_pure]
          cases r1
          · simp
          · simpa using p4

theorem eq_items {d : Nat} {e : TypeId} {k1 : List (Option IntKind)} (hf : EqPart P d e k1) (X Y : Array Value) : ∀ (m i0 : Nat)
    (w : World) (β : Bt) (cs ds : List Cell) (b : Bool), All2 ofKind (repL k1 m) cs → All2 ofKind (repL k1 m) ds → Seg β cs X (i0 * k1.length) → Seg β ds Y (i0 * k1.length) → eqCells cs ds = some b →
    (Op.eqItems d e k1.length X Y (List.range' i0 m)).run P w = .ok b w := by
  intro m
  induction m with
  | zero =>
    intro i0 w β cs ds b hc hd _ _ he
    cases cs with
    | cons => simp [All2, repL] at hc
    | nil => cases ds with
      | cons => simp [All2, repL] at hd
      | nil => simp only [eqCells, Option.some.injEq] at he; subst he; simp [Op.eqItems]
  | succ m ih =>
    intro i0 w β cs ds b hc hd hX hY he
    simp only [repL] at hc hd
    obtain ⟨hc1, hc2⟩ := all2_split hc
    obtain ⟨hd1, hd2⟩ := all2_split hd
    have lc := hc.length
    have ld := hd.length
    rw [List.length_append] at lc ld
    have l1 : (cs.take k1.length).length = k1.length := by rw [List.length_take]; omega
    have l2 : (ds.take k1.length).length = k1.length := by rw [List.length_take]; omega
    rw [← List.take_append_drop k1.length cs] at hX he
    rw [← List.take_append_drop k1.length ds] at hY he
    obtain ⟨r1, r2, e1, e2, rfl⟩ := eqCells_append (by rw [l1, l2]) he
    obtain ⟨x, y, p1, p2, p3⟩ := hf w β _ _ X Y _ _ r1 hc1 hd1 hX.left hY.left e1
    have hX2 := hX.right
    have hY2 := hY.right
    rw [l1, ← Nat.succ_mul] at hX2
    rw [l2, ← Nat.succ_mul] at hY2
    have p4 := ih (i0 + 1) w β _ _ r2 hc2 hd2 hX2 hY2 e2
    simp only [List.range'_succ, Op.eqItems, Sem.run_bind, p1, p2, p3, Result.andThen_ok, Sem.run_ite, Sem.run_pure]
    cases r1
    · simp
    · simpa using p4

theorem eq_part : ∀ (n : Nat) (t : TypeId) (ks : List (Option IntKind)), flat P n t = some ks → ∀ d, EqPart P (d + n) t ks := by
  intro n
  induction n with
  | zero => intro t ks h; simp [flat] at h
  | succ n ih =>
    intro t ks h d w β cs ds X Y o1 o2 b hc hd hX hY he
    have hsz := flat_size h
    unfold flat at h
    obtain ⟨i, hi, hlen⟩ := hsz
    cases hu : P.underlying t with
    | none => rw [hu] at h; simp at h
    | some dd =>
      rw [hu, hi] at h
      have lc : ks.length = cs.length := hc.length
      have ld : ks.length = ds.length := hd.length
      cases dd <;> simp only at h
      case bool =>
        split at h
        case isFalse => cases h
        case isTrue =>
          simp only [Option.some.injEq] at h
          subst h
          match cs, ds, hc, hd with
          | [c], [d'], hc, hd =>
            obtain ⟨x, rfl⟩ := hc.1
            obtain ⟨y, rfl⟩ := hd.1
            obtain ⟨v1, h1, rfl⟩ := hX.one
            obtain ⟨v2, h2, rfl⟩ := hY.one
            simp only [eqCells, Option.some.injEq] at he
            refine ⟨_, _, run_part_cell w h1 hu rfl, run_part_cell w h2 hu rfl, ?_⟩
            rw [← he, show d + (n + 1) = (d + n) + 1 from rfl, run_equalIn_bool w (d + n) t x y hu]
            cases (x == y) <;> rfl
      case int k =>
        split at h
        case isFalse => cases h
        case isTrue =>
          simp only [Option.some.injEq] at h
          subst h
          match cs, ds, hc, hd with
          | [c], [d'], hc, hd =>
            obtain ⟨x, rfl⟩ := hc.1
            obtain ⟨y, rfl⟩ := hd.1
            obtain ⟨v1, h1, rfl⟩ := hX.one
            obtain ⟨v2, h2, rfl⟩ := hY.one
            simp only [eqCells, if_true, Option.some.injEq] at he
            refine ⟨_, _, run_part_cell w h1 hu rfl, run_part_cell w h2 hu rfl, ?_⟩
            rw [← he, show d + (n + 1) = (d + n) + 1 from rfl, run_equalIn_int w (d + n) t k k x y hu]
            cases (x == y) <;> rfl
      case struct F =>
        split at h
        case isTrue => cases h
        case isFalse hst =>
          cases hf : flatF P (flat P n) F.toList 0 with
          | none => rw [hf] at h; simp at h
          | some q =>
            rw [hf] at h
            simp only at h
            split at h
            case isFalse => cases h
            case isTrue =>
              simp only [Option.some.injEq] at h
              subst h
              refine ⟨_, _, run_part_agg w X o1 hi (.inr ⟨F, hu⟩), run_part_agg w Y o2 hi (.inr ⟨F, hu⟩), ?_⟩
              have hF : P.fieldsOf t = F := by simp [Program.fieldsOf, hu]
              rw [show d + (n + 1) = (d + n) + 1 from rfl, run_equalIn_struct w (d + n) t _ _ (by rw [hF]; exact hu) (by simpa using hst), hF]
              exact eq_fields (fun t ks h => ih t ks h d) F.toList 0 q hf w β cs ds _ _ b hc hd (seg_extract hX (by rw [hlen, lc])) (seg_extract hY (by rw [hlen, ld])) he
      case array m e =>
        cases hf : flat P n e with
        | none => rw [hf] at h; simp at h
        | some q =>
          rw [hf] at h
          simp only at h
          split at h
          case isFalse => cases h
          case isTrue hm =>
            simp only [Option.some.injEq] at h
            subst h
            refine ⟨_, _, run_part_agg w X o1 hi (.inl ⟨m, e, hu⟩), run_part_agg w Y o2 hi (.inl ⟨m, e, hu⟩), ?_⟩
            obtain ⟨ie, hie, hel⟩ := flat_size hf
            have hce : P.cellsOf e = q.length := by simp [Program.cellsOf, hie, hel]
            rw [show d + (n + 1) = (d + n) + 1 from rfl, run_equalIn_array w (d + n) _ _ hu hie, hce, List.range_eq_range']
            exact eq_items (ih e q hf d) _ _ m 0 w β cs ds b hc hd (by simpa using seg_extract hX (by rw [hlen, lc])) (by simpa using seg_extract hY (by rw [hlen, ld])) he
      all_goals cases h

end eqs

/-! ### The table -/

def cellBeq : Cell → Cell → Bool
  | .int k n, .int k' m => if k = k' then n == m else false
  | .bool a, .bool b => a == b
  | .nils, .nils => true
  | .nilp, .nilp => true
  | _, _ => false

def zeroOK : List Cell → List Value → Bool
  | [], [] => true
  | c :: l, v :: m => match cellOf v with
    | some c' => cond (cellBeq c c') (zeroOK l m) false
    | none => false
  | _, _ => false

def kindsOf : List Cell → Option (List (Option IntKind))
  | [] => some []
  | .int k _ :: r => match kindsOf r with
    | some l => some (some k :: l)
    | none => none
  | .bool _ :: r => match kindsOf r with
    | some l => some (none :: l)
    | none => none
  | _ => none

def ksBeq : List (Option IntKind) → List (Option IntKind) → Bool
  | [], [] => true
  | none :: l, none :: m => ksBeq l m
  | some k :: l, some k' :: m => if k = k' then ksBeq l m else false
  | _, _ => false

def fieldsBeq : List Field → List (TypeId × Nat) → Bool
  | [], [] => true
  | f :: r, (t, off) :: r' => cond (Nat.beq f.type t) (cond (Nat.beq f.offset off) (fieldsBeq r r') false) false
  | _, _ => false

def teB (P : Program) (t : TypeId) (e : TE) : Bool :=
  cond (match P.underlying t, e.d with
    | some .bool, .bool => true
    | some (.int k), .int k' => if k = k' then true else false
    | some (.slice a), .slice b => Nat.beq a b
    | some (.array n a), .array m b => cond (Nat.beq n m) (Nat.beq a b) false
    | some (.struct F), .struct fs => cond (fieldsBeq F.toList fs) (match F.toList.mapM (fun f => (P.info? f.type).map fun i => (f.offset, i.size)) with | some _ => true | none => false) false
    | some (.pointer _), .other => true
    | _, _ => false)
  (cond (match P.info? t with
    | some i => cond (Nat.beq i.size e.size) (cond (Nat.beq i.bytes e.bytes) (match i.zero with
      | some z => zeroOK e.zero z.cells.toList
      | none => false) false) false
    | none => false)
  (cond e.plain (cond (cond e.agg (P.eqGuardType P.depth t) true) false (match flat P 6 t, kindsOf e.zero with
    | some a, some b => ksBeq a b
    | _, _ => false)) true) false) false

def ttLB (P : Program) : List (Nat × TE) → Bool
  | [] => true
  | (t, e) :: r => cond (teB P t e) (ttLB P r) false

def ttB (P : Program) (T : TT) : Bool := ttLB P T.l

structure TEOK (P : Program) (t : TypeId) (e : TE) : Prop where
  und : match e.d with
    | .bool => P.underlying t = some .bool
    | .int k => P.underlying t = some (.int k)
    | .slice el => P.underlying t = some (.slice el)
    | .array n el => P.underlying t = some (.array n el)
    | .struct fs => ∃ F, P.underlying t = some (.struct F) ∧ fieldsBeq F.toList fs = true ∧ ∃ places, F.toList.mapM (fun f => (P.info? f.type).map fun i => (f.offset, i.size)) = some places
    | .other => ∃ el, P.underlying t = some (.pointer el)
  info : ∃ i z, P.info? t = some i ∧ i.size = e.size ∧ i.bytes = e.bytes ∧ i.zero = some z ∧ ∀ β, All2 (CRel β) e.zero z.cells.toList
  plain : e.plain = true → e.agg = true ∧ P.eqGuardType P.depth t = false ∧ ∃ ks, flat P 6 t = some ks ∧ kindsOf e.zero = some ks

theorem cellOf_rel {v : Value} {c : Cell} (h : cellOf v = some c) (β : Bt) : CRel β c v := by
  unfold cellOf at h
  split at h <;> first | (cases h; done) | (injection h with h; subst h; rfl)

theorem cellBeq_rel {c c' : Cell} (h : cellBeq c c' = true) {β : Bt} {v : Value} (hv : CRel β c' v) : CRel β c v := by
  cases c <;> cases c' <;> simp only [cellBeq] at h <;> try (cases h; done)
  case int.int k n k' m =>
    split at h
    · rename_i hk
      have : n = m := by simpa using h
      subst hk; subst this; exact hv
    · cases h
  case bool.bool a b =>
    have : a = b := by simpa using h
    subst this; exact hv
  all_goals exact hv

theorem zeroOK_rel {l : List Cell} {m : List Value} (h : zeroOK l m = true) (β : Bt) : All2 (CRel β) l m := by
  induction l generalizing m with
  | nil => cases m <;> simp_all [zeroOK, All2]
  | cons c l ih => cases m with
    | nil => simp [zeroOK] at h
    | cons v m =>
      simp only [zeroOK] at h
      cases hc : cellOf v with
      | none => rw [hc] at h; simp at h
      | some c' =>
        rw [hc] at h
        obtain ⟨h1, h2⟩ := cond_and h
        exact ⟨cellBeq_rel h1 (cellOf_rel hc β), ih h2⟩

theorem ksBeq_eq {a b : List (Option IntKind)} (h : ksBeq a b = true) : a = b := by
  induction a generalizing b with
  | nil => cases b <;> simp_all [ksBeq]
  | cons x a ih => cases b with
    | nil => cases x <;> simp [ksBeq] at h
    | cons y b =>
      cases x <;> cases y <;> simp only [ksBeq] at h
      · rw [ih h]
      · cases h
      · cases h
      · split at h
        · rename_i hk; rw [ih h, hk]
        · cases h

theorem teB_ok {P : Program} {t : TypeId} {e : TE} (h : teB P t e = true) : TEOK P t e := by
  unfold teB at h
  obtain ⟨h1, h⟩ := cond_and h
  obtain ⟨h2, h3⟩ := cond_and h
  refine ⟨?_, ?_, ?_⟩
  · cases hu : P.underlying t with
    | none => rw [hu] at h1; simp at h1
    | some d =>
      rw [hu] at h1
      cases hd : e.d <;> rw [hd] at h1 <;> cases d <;> simp only at h1 <;> try (cases h1; done)
      case bool.bool => rfl
      case int.int k' k =>
        split at h1
        · rename_i hk; rw [hk]
        · cases h1
      case slice.slice a b => rw [beq_iff.1 h1]
      case struct.struct fs F =>
        obtain ⟨p, q⟩ := cond_and h1
        refine ⟨F, rfl, p, ?_⟩
        cases hm : F.toList.mapM (fun f => (P.info? f.type).map fun i => (f.offset, i.size)) with
        | none => rw [hm] at q; cases q
        | some places => exact ⟨places, rfl⟩
      case array.array m b n a => obtain ⟨p, q⟩ := cond_and h1; rw [beq_iff.1 p, beq_iff.1 q]
      case other.pointer el => exact ⟨el, rfl⟩
  · cases hi : P.info? t with
    | none => rw [hi] at h2; simp at h2
    | some i =>
      rw [hi] at h2
      simp only at h2
      obtain ⟨p, h2⟩ := cond_and h2
      obtain ⟨q, h2⟩ := cond_and h2
      cases hz : i.zero with
      | none => rw [hz] at h2; simp at h2
      | some z =>
        rw [hz] at h2
        exact ⟨i, z, rfl, beq_iff.1 p, beq_iff.1 q, hz, fun β => zeroOK_rel h2 β⟩
  · intro hp
    rw [hp] at h3
    simp only [cond_true] at h3
    cases hag : e.agg with
    | false => rw [hag] at h3; simp at h3
    | true =>
      rw [hag] at h3
      simp only [cond_true] at h3
      cases hg : P.eqGuardType P.depth t with
      | true => rw [hg] at h3; simp at h3
      | false =>
        rw [hg] at h3
        simp only [cond_false] at h3
        cases ha : flat P 6 t with
        | none => rw [ha] at h3; simp at h3
        | some a =>
          cases hb : kindsOf e.zero with
          | none => rw [ha, hb] at h3; simp at h3
          | some b =>
            rw [ha, hb] at h3
            exact ⟨rfl, rfl, a, rfl, by rw [ksBeq_eq h3]⟩

def TOK (P : Program) (T : TT) : Prop := ∀ t e, tt T t = some e → TEOK P t e

theorem ttL_ok {P : Program} {l : List (Nat × TE)} (h : ttLB P l = true) : ∀ t e, ttL l t = some e → TEOK P t e := by
  induction l with
  | nil => intro t e ht; simp [ttL] at ht
  | cons p r ih =>
    obtain ⟨u, e'⟩ := p
    simp only [ttLB] at h
    obtain ⟨h1, h2⟩ := cond_and h
    intro t e ht
    simp only [ttL] at ht
    cases hb : Nat.beq u t with
    | false => rw [hb] at ht; exact ih h2 t e ht
    | true =>
      rw [hb] at ht
      simp only [cond_true, Option.some.injEq] at ht
      subst ht
      rw [← beq_iff.1 hb]
      exact teB_ok h1

theorem ttB_ok {P : Program} {T : TT} (h : ttB P T = true) : TOK P T := ttL_ok h

theorem TOK.dyn {P : Program} {T : TT} (h : TOK P T) (d : List Nat) : TOK P ⟨T.l, d⟩ := h

/-- '==' of two plain structs or arrays. -/
theorem kindsEq_of {zs cs : List Cell} {ks : List (Option IntKind)} (hk : kindsOf zs = some ks) (h : kindsEq zs cs = true) : All2 ofKind ks cs := by
  induction zs generalizing cs ks with
  | nil =>
    simp only [kindsOf, Option.some.injEq] at hk
    subst hk
    cases cs with
    | nil => trivial
    | cons => simp [kindsEq] at h
  | cons z zs ih =>
    cases z <;> simp only [kindsOf] at hk <;> try (cases hk; done)
    case int k n =>
      cases hq : kindsOf zs with
      | none => rw [hq] at hk; simp at hk
      | some q =>
        rw [hq] at hk
        simp only [Option.some.injEq] at hk
        subst hk
        cases cs with
        | nil => simp [kindsEq] at h
        | cons c cs =>
          cases c <;> simp only [kindsEq] at h <;> try (cases h; done)
          case int k' m =>
            split at h
            · rename_i hkk; subst hkk; exact ⟨⟨m, rfl⟩, ih hq h⟩
            · cases h
    case bool b =>
      cases hq : kindsOf zs with
      | none => rw [hq] at hk; simp at hk
      | some q =>
        rw [hq] at hk
        simp only [Option.some.injEq] at hk
        subst hk
        cases cs with
        | nil => simp [kindsEq] at h
        | cons c cs =>
          cases c <;> simp only [kindsEq] at h <;> try (cases h; done)
          case bool b' => exact ⟨⟨b', rfl⟩, ih hq h⟩

theorem eqCells_kinds {ks : List (Option IntKind)} {xs ys : List Cell} {b : Bool} (hx : All2 ofKind ks xs) (h : eqCells xs ys = some b) : All2 ofKind ks ys := by
  induction ks generalizing xs ys b with
  | nil => cases xs with
    | cons => simp [All2] at hx
    | nil => cases ys with
      | nil => trivial
      | cons => simp [eqCells] at h
  | cons k ks ih => cases xs with
    | nil => simp [All2] at hx
    | cons x xs =>
      cases ys with
      | nil => cases x <;> simp [eqCells] at h
      | cons y ys =>
        cases x <;> cases y <;> simp only [eqCells] at h <;> try (cases h; done)
        case int.int k1 a k2 c =>
          split at h
          · rename_i hkk
            subst hkk
            cases hq : eqCells xs ys with
            | none => rw [hq] at h; simp at h
            | some q =>
              refine ⟨?_, ih hx.2 hq⟩
              have := hx.1
              cases k with
              | none => obtain ⟨_, e⟩ := this; cases e
              | some k => obtain ⟨_, e⟩ := this; injection e with e1 _; subst e1; exact ⟨c, rfl⟩
          · cases h
        case bool.bool a c =>
          cases hq : eqCells xs ys with
          | none => rw [hq] at h; simp at h
          | some q =>
            refine ⟨?_, ih hx.2 hq⟩
            have := hx.1
            cases k with
            | none => exact ⟨c, rfl⟩
            | some k => obtain ⟨_, e⟩ := this; cases e

theorem run_equal_agg {P : Program} {t : TypeId} {e : TE} (he : TEOK P t e) (hp : e.plain = true) {β : Bt} {xs ys : List Cell} {vx vy : List Value} {b : Bool} (hk : kindsEq e.zero xs = true)
    (hx : All2 (CRel β) xs vx) (hy : All2 (CRel β) ys vy) (hb : eqCells xs ys = some b) (w : World) : (Op.equalIn 10000 t (.agg vx.toArray) (.agg vy.toArray)).run P w = .ok b w := by
  obtain ⟨hag, _, ks, hf, hks⟩ := he.plain hp
  obtain ⟨i, hi, hlen⟩ := flat_size hf
  have hkx := kindsEq_of hks hk
  have hky := eqCells_kinds hkx hb
  have lx : i.size = vx.length := by rw [hlen, hkx.length, hx.length]
  have ly : i.size = vy.length := by rw [hlen, hky.length, hy.length]
  have h := eq_part 6 t ks hf 9994 w β xs ys vx.toArray vy.toArray 0 0 b hkx hky (by unfold Seg; simpa [hx.length] using hx) (by unfold Seg; simpa [hy.length] using hy) hb
  obtain ⟨x, y, p1, p2, p3⟩ := h
  have hu : (∃ n e, P.underlying t = some (.array n e)) ∨ ∃ F, P.underlying t = some (.struct F) := by
    have := he.und
    unfold TE.agg at hag
    cases hd : e.d <;> rw [hd] at this hag <;> simp only at this hag <;> try (cases hag; done)
    case struct => obtain ⟨F, hF, _⟩ := this; exact .inr ⟨F, hF⟩
    case array n el => exact .inl ⟨n, el, this⟩
  rw [run_part_agg w _ 0 hi hu] at p1 p2
  simp only [Result.ok.injEq, and_true] at p1 p2
  rw [← p1, ← p2] at p3
  have q1 : (vx.toArray.extract 0 (0 + i.size)) = vx.toArray := by rw [lx]; simp
  have q2 : (vy.toArray.extract 0 (0 + i.size)) = vy.toArray := by rw [ly]; simp
  rw [q1, q2] at p3
  exact p3
end Go.Eng
