/-
  SnapshotVectors: which words are a vector, and what is visible at it, for all words and stamps.
-/
import Derived.Test.YtjbmpimclagfoaaLawVA
import Derived.Test.YtjbmpimclagfoaaLawK2
namespace Go.Sp
open Go.Eng

/-- One word, brought near. -/
def stepX (k : Int) (i : Nat) (xs : List Int) : List Int := bif decide ((i : Int) ≥ 6) then bif decide (k > 1) then (xs.set i (Int.tmod (xs.getD i 0) 1073741825)).set i 0 else xs.set i (Int.tmod (xs.getD i 0) 1073741825) else xs.set i (Int.tmod (xs.getD i 0) 1073741825)
def loopX (k : Int) : Nat → Nat → List Int → List Int
  | 0, _, xs => xs
  | m + 1, i, xs => loopX k m (i + 1) (stepX k i xs)

theorem stepX_length (k : Int) (i : Nat) (xs : List Int) : (stepX k i xs).length = xs.length := by
  unfold stepX
  cases decide ((i : Int) ≥ 6)
  · simp
  · cases decide (k > 1) <;> simp

theorem loopX_length (k : Int) : ∀ (m i : Nat) (xs : List Int), (loopX k m i xs).length = xs.length := by
  intro m
  induction m with
  | zero => intro i xs; rfl
  | succ m ih => intro i xs; rw [loopX, ih, stepX_length]

end Go.Sp
namespace Go.Proofs.Ytjbmpimclagfoaa
open Go.Eng Go.Sp Go.RowKit

theorem callOKV (lf d : Nat) : CallOK Try.prog (callD T EV F lf d) := callD_ok tok EV_ok fnsok mixed d

/-- A vector's cells. -/
def vcs (v : Pg) : List Cell := [.int .u64 v.a, .int .u64 v.b, .int .u64 v.c, .int .u64 v.d, .int .u64 v.e, .int .u64 v.f]
def asVs : List Cell → Option Pg
  | [.int .u64 a, .int .u64 b, .int .u64 c, .int .u64 d, .int .u64 e, .int .u64 f] => some ⟨0, 0, a, b, c, d, e, f, 0⟩
  | _ => none

theorem asVs_some {x : List Cell} {p : Pg} (h : asVs x = some p) : x = vcs p := by
  unfold asVs at h
  split at h
  · simp only [Option.some.injEq] at h; subst h; rfl
  · cases h

def H6 (s n k : Int) (v : Pg) (l : List (List PC)) : St := ⟨[(2, some (.v (.one (.int .u64 s)))), (3, some (.v (.one (.int .i64 n)))), (5, some (.v (.one (.ptr (5, 0) 0 0 false)))), (9, some (.v (.one (.whole (1000009, 2000))))), (10, some (.v (.one (.int .i64 k))))],
  [((5, 0), some (.var (vcs v))), ((1000009, 2000), some (.arr true 1 (.sp [some .u64] l)))], 113⟩
def X10 (s n k : Int) (v : Pg) (l : List (List PC)) : St := ⟨[(2, some (.v (.one (.int .u64 s)))), (3, some (.v (.one (.int .i64 n)))), (5, some (.v (.one (.ptr (5, 0) 0 0 false)))), (9, some (.v (.one (.sl (1000009, 2000) 0 8)))), (10, some (.v (.one (.int .i64 k))))],
  [((5, 0), some (.var (vcs v))), ((1000009, 2000), some (.arr true 1 (.sp [some .u64] l)))], 113⟩
def H10 (s n k : Int) (v : Pg) (i : Int) (l : List (List PC)) : St := ⟨[(2, some (.v (.one (.int .u64 s)))), (3, some (.v (.one (.int .i64 n)))), (5, some (.v (.one (.ptr (5, 0) 0 0 false)))), (9, some (.v (.one (.sl (1000009, 2000) 0 8)))), (10, some (.v (.one (.int .i64 k)))), (11, some (.v (.one (.int .i64 i))))],
  [((5, 0), some (.var (vcs v))), ((1000009, 2000), some (.arr true 1 (.sp [some .u64] l)))], 113⟩

noncomputable def body6 : Code := bodyL 6 Try.f6
noncomputable def body10 : Code := bodyL 10 Try.f6

theorem step6 (s n k0 : Int) (v : Pg) (l : List (List PC)) (G : St → Ans) (k : Ex → St → Ans) :
    evalC ⟨T.l, [46, 49, 58, 76]⟩ (callD T EV F 10 10) (annOf 6) 10 body6 (H6 s n k0 v l) (fun e s' => match e with | .normal => atHead (annOf 6) 6 s' G | e => compact [2, 3, 5, 9, 10] s' (k e)) =
      (bif decide ((l.length : Int) < 8) then bif decide ((l.length + 1) * 8 ≤ 140737488355328) then G (H6 s n k0 v (l ++ [ur s])) else none else k (.exit 0) (H6 s n k0 v l)) := by kernel_rfl

theorem step10 (s n k0 : Int) (v : Pg) (i : Int) (l : List (List PC)) (G : St → Ans) (k : Ex → St → Ans) :
    evalC ⟨T.l, [46, 49, 58, 76]⟩ (callD T EV F 10 10) (annOf 6) 10 body10 (H10 s n k0 v i l) (fun e s' => match e with | .normal => atHead (annOf 6) 10 s' G | e => compact [2, 3, 5, 9, 10] s' (k e)) =
      (bif decide (i < ((8 : Nat) : Int)) then bif decide (0 ≤ i ∧ i < ((8 : Nat) : Int)) then bif rowIs [some .u64] l (0 + i.toNat) then bif decide (0 ≤ i ∧ i < ((8 : Nat) : Int)) then bif rowIs [some .u64] l (0 + i.toNat) then
        bif decide (i ≥ 6) then bif decide (k0 > 1) then bif decide (0 ≤ i ∧ i < ((8 : Nat) : Int)) then bif rowIs [some .u64] (l.set (0 + i.toNat) (ur (Int.tmod (intCell l (0 + i.toNat) 0) 1073741825))) (0 + i.toNat) then
            G (H10 s n k0 v (IntKind.wrap .i64 (i + 1)) ((l.set (0 + i.toNat) (ur (Int.tmod (intCell l (0 + i.toNat) 0) 1073741825))).set (0 + i.toNat) (ur 0))) else none else none
          else G (H10 s n k0 v (IntKind.wrap .i64 (i + 1)) (l.set (0 + i.toNat) (ur (Int.tmod (intCell l (0 + i.toNat) 0) 1073741825))))
        else G (H10 s n k0 v (IntKind.wrap .i64 (i + 1)) (l.set (0 + i.toNat) (ur (Int.tmod (intCell l (0 + i.toNat) 0) 1073741825)))) else none else none else none else none
       else k (.exit 2) (X10 s n k0 v l)) := by kernel_rfl

theorem run6 (s n k0 : Int) (v : Pg) (k : Ex → St → Ans) : ∀ (m : Nat) (xs : List Int), 8 - xs.length = m → xs.length ≤ 1000 →
    gN ⟨T.l, [46, 49, 58, 76]⟩ (callD T EV F 10 10) (annOf 6) 10 6 body6 (fun e s' => compact [2, 3, 5, 9, 10] s' (k e)) (m + 1) (H6 s n k0 v (xs.map ur)) = k (.exit 0) (H6 s n k0 v ((xs ++ List.replicate m s).map ur)) := by
  intro m
  induction m with
  | zero =>
    intro xs hm _
    rw [gN]
    refine (step6 _ _ _ _ _ _ _).trans ?_
    rw [List.length_map, decide_eq_false (by omega)]
    simp
  | succ m ih =>
    intro xs hm hx
    rw [gN]
    refine (step6 _ _ _ _ _ _ _).trans ?_
    have e : xs.map ur ++ [ur s] = (xs ++ [s]).map ur := by simp
    have e2 : (xs ++ [s]) ++ List.replicate m s = xs ++ List.replicate (m + 1) s := by rw [List.append_assoc, List.replicate_succ]; rfl
    rw [List.length_map, decide_eq_true (show (xs.length : Int) < 8 by omega), decide_eq_true (show (xs.length + 1) * 8 ≤ 140737488355328 by omega), e, ih (xs ++ [s]) (by simp; omega) (by simp; omega), e2]
    rfl

theorem run10 (s n k0 : Int) (v : Pg) (k : Ex → St → Ans) : ∀ (m i : Nat) (xs : List Int), i + m = 8 → 8 ≤ xs.length →
    gN ⟨T.l, [46, 49, 58, 76]⟩ (callD T EV F 10 10) (annOf 6) 10 10 body10 (fun e s' => compact [2, 3, 5, 9, 10] s' (k e)) (m + 1) (H10 s n k0 v i (xs.map ur)) = k (.exit 2) (X10 s n k0 v ((loopX k0 m i xs).map ur)) := by
  intro m
  induction m with
  | zero =>
    intro i xs hm _
    rw [gN]
    refine (step10 _ _ _ _ _ _ _ _).trans ?_
    rw [decide_eq_false (by omega)]
    rfl
  | succ m ih =>
    intro i xs hm hx
    have hlt : i < xs.length := by omega
    rw [gN]
    refine (step10 _ _ _ _ _ _ _ _).trans ?_
    have e3 : IntKind.wrap .i64 ((i : Int) + 1) = ((i + 1 : Nat) : Int) := by rw [i64_in (by omega) (by omega)]; rfl
    have hg : xs.getD i 0 = xs[i] := by rw [List.getD_eq_getElem?_getD, List.getElem?_eq_getElem hlt]; rfl
    have hs : ∀ y : Int, (xs.map ur).set i (ur y) = (xs.set i y).map ur := fun y => by rw [List.map_set]
    have hs2 : ∀ y z : Int, ((xs.set i y).map ur).set i (ur z) = ((xs.set i y).set i z).map ur := fun y z => by rw [List.map_set (l := xs.set i y)]
    have hr2 : ∀ y : Int, rowIs [some .u64] ((xs.set i y).map ur) i = true := fun y => rowIs_ur (by rw [List.length_set]; exact hlt)
    rw [decide_eq_true (show (i : Int) < ((8 : Nat) : Int) by omega), decide_eq_true (show 0 ≤ (i : Int) ∧ (i : Int) < ((8 : Nat) : Int) by omega), Int.toNat_natCast, Nat.zero_add, rowIs_ur hlt, intCell_ur hlt, hs, hs2, hr2, e3,
      ih (i + 1) _ (by omega) (by rw [List.length_set, List.length_set]; exact hx), ih (i + 1) _ (by omega) (by rw [List.length_set]; exact hx)]
    rw [loopX]
    unfold stepX
    rw [hg]
    cases decide ((i : Int) ≥ 6)
    · rfl
    · cases decide (k0 > 1) <;> rfl

noncomputable def sum6 : St → (Ex → St → Ans) → Ans
  | ⟨[(2, some (.v (.one (.int .u64 s)))), (3, some (.v (.one (.int .i64 n)))), (5, some (.v (.one (.ptr (5, 0) 0 0 false)))), (9, some (.v (.one (.whole (1000009, 2000))))), (10, some (.v (.one (.int .i64 k0))))], [((5, 0), some (.var cv)), ((1000009, 2000), some (.arr true 1 (.sp ks l)))], 113⟩, k =>
    match asVs cv with
    | some v => cond (qB (ks = [some .u64] ∧ l.length ≤ 1000 ∧ ∃ xs : List Int, l = xs.map ur)) (k (.exit 0) (H6 s n k0 v (l ++ List.replicate (8 - l.length) (ur s)))) none
    | none => none
  | _, _ => none

theorem sum6_ok : SumOK Try.prog body6 sum6 := by
  refine SumOK.of (T := ⟨T.l, [46, 49, 58, 76]⟩) (call := callD T EV F 10 10) (an := annOf 6) (lf := 10) (id := 6) (ls := [2, 3, 5, 9, 10]) (tok.dyn _) (callOKV 10 10) mixed (SumsOK.in (l := []) (by kernel_rfl) (fun b hb => by cases hb)) ?_
  intro s k r h
  unfold sum6 at h
  split at h
  case h_2 => cases h
  case h_1 k' s n k0 cv ks l =>
    split at h
    case h_2 => cases h
    case h_1 v hv =>
      obtain ⟨h0, g0⟩ := cond_none h
      obtain ⟨rfl, h1, xs, rfl⟩ := qB_of h0
      obtain rfl := asVs_some hv
      rw [List.length_map] at h1 g0
      refine ⟨8 - xs.length + 1, ?_⟩
      have := run6 s n k0 v k (8 - xs.length) xs rfl h1
      rw [List.map_append, List.map_replicate] at this
      exact this.trans g0

noncomputable def sum10 : St → (Ex → St → Ans) → Ans
  | ⟨[(2, some (.v (.one (.int .u64 s)))), (3, some (.v (.one (.int .i64 n)))), (5, some (.v (.one (.ptr (5, 0) 0 0 false)))), (9, some (.v (.one (.sl (1000009, 2000) 0 8)))), (10, some (.v (.one (.int .i64 k0)))), (11, some (.v (.one (.int .i64 i))))], [((5, 0), some (.var cv)), ((1000009, 2000), some (.arr true 1 (.sp ks l)))], 113⟩, k =>
    match asVs cv with
    | some v => cond (qB (ks = [some .u64] ∧ i = 0 ∧ 8 ≤ l.length ∧ ∃ xs : List Int, l = xs.map ur)) (k (.exit 2) (X10 s n k0 v ((loopX k0 8 0 ((List.range l.length).map fun j => intCell l j 0)).map ur))) none
    | none => none
  | _, _ => none

theorem ints_ur (xs : List Int) : ((List.range (xs.map ur).length).map fun j => intCell (xs.map ur) j 0) = xs := by
  apply List.ext_getElem?
  intro i
  rw [List.getElem?_map, List.length_map]
  by_cases h : i < xs.length
  · rw [List.getElem?_range h, Option.map_some, List.getElem?_eq_getElem h, intCell_ur h]
  · rw [List.getElem?_eq_none (by simp; omega), List.getElem?_eq_none (by omega)]
    rfl

theorem sum10_ok : SumOK Try.prog body10 sum10 := by
  refine SumOK.of (T := ⟨T.l, [46, 49, 58, 76]⟩) (call := callD T EV F 10 10) (an := annOf 6) (lf := 10) (id := 10) (ls := [2, 3, 5, 9, 10]) (tok.dyn _) (callOKV 10 10) mixed (SumsOK.in (l := []) (by kernel_rfl) (fun b hb => by cases hb)) ?_
  intro s k r h
  unfold sum10 at h
  split at h
  case h_2 => cases h
  case h_1 k' s n k0 i cv ks l =>
    split at h
    case h_2 => cases h
    case h_1 v hv =>
      obtain ⟨h0, g0⟩ := cond_none h
      obtain ⟨rfl, rfl, h1, xs, rfl⟩ := qB_of h0
      obtain rfl := asVs_some hv
      rw [ints_ur] at g0
      rw [List.length_map] at h1
      exact ⟨8 + 1, (run10 s n k0 v k 8 0 xs rfl h1).trans g0⟩

/-- The law's end: for the words that are asked about. -/
noncomputable def vecEnd (v : Pg) (s n : Int) (l : List (List PC)) : Option DRes :=
  bif qB (∃ xs : List Int, l = xs.map ur) then bif qB (∃ xs : List Int, l = xs.map ur) then
  bif decide (0 ≤ pick (IntKind.wrap .i64 (Int.tdiv n 4)) 6 ∧ pick (IntKind.wrap .i64 (Int.tdiv n 4)) 6 < ((6 : Nat) : Int)) then bif Nat.blt ((pick (IntKind.wrap .i64 (Int.tdiv n 4)) 6).toNat * 1 + 0) 6 then
  bif ofX l == ofX l then bif (bif ofA l == ofA l then bif ofB l == ofB l then bif ofC l == ofC l then bif ofD l == ofD l then bif ofE l == ofE l then bif ofF l == ofF l then true else false else false else false else false else false else false) then
  bif visP v.a v.b v.c v.d v.e v.f s == rvisP v.a v.b v.c v.d v.e v.f s then
    bs (visP v.a v.b v.c v.d v.e v.f (IntKind.wrap .u64 (IntKind.wrap .u64 (pick (IntKind.wrap .i64 (Int.tdiv n 4)) 8) + IntKind.wrap .u64 (256 * IntKind.wrap .u64 (Int.tmod (intAt [v.a, v.b, v.c, v.d, v.e, v.f] ((pick (IntKind.wrap .i64 (Int.tdiv n 4)) 6).toNat * 1 + 0)) 4294967296 + Int.tmod s 3))))
      == rvisP v.a v.b v.c v.d v.e v.f (IntKind.wrap .u64 (IntKind.wrap .u64 (pick (IntKind.wrap .i64 (Int.tdiv n 4)) 8) + IntKind.wrap .u64 (256 * IntKind.wrap .u64 (Int.tmod (intAt [v.a, v.b, v.c, v.d, v.e, v.f] ((pick (IntKind.wrap .i64 (Int.tdiv n 4)) 6).toNat * 1 + 0)) 4294967296 + Int.tmod s 3)))))
  else bs false else bs false else bs false else none else none else none else none

theorem vecEnd_true (v : Pg) {s : Int} (hs : rU64 s) (n : Int) (xs : List Int) : vecEnd v s n (xs.map ur) = bs true := by
  have hj : 0 ≤ pick (IntKind.wrap .i64 (Int.tdiv n 4)) 6 ∧ pick (IntKind.wrap .i64 (Int.tdiv n 4)) 6 < 6 := by
    rw [pick_eq (by decide) (by decide)]; omega
  unfold vecEnd
  rw [qB_true ⟨xs, rfl⟩, decide_eq_true ⟨hj.1, by omega⟩, blt_iff.2 (by omega), rvisP_of _ _ _ _ _ _ hs, rvisP_of _ _ _ _ _ _ (wrap_rU64 _)]
  simp only [beq_self_eq_true, cond_true]

theorem vectors_sem (xs : List Int) (v : Pg) (s n : Int) (hs : rU64 s) : FnSem Try.prog 6 [.one (.sl 1 (.sp [some .u64] (xs.map ur))), .agg [.pc (.int .u64 v.a), .pc (.int .u64 v.b), .pc (.int .u64 v.c), .pc (.int .u64 v.d), .pc (.int .u64 v.e), .pc (.int .u64 v.f)], ru64 s, ri n] (.v (.one (.pc (.bool true)))) := by
  refine semL (E := EV) EV_ok (lf := 10) (lf' := 10) (depth := 10) (an := annS 6 [(6, sum6), (10, sum10)]) Try.func6 (by kernel_rfl) (SumsOK.fn (l := [body6, body10]) (by kernel_rfl) (fun b hb => ?_)) ?_
  · rcases List.mem_cons.1 hb with rfl | hb
    · exact GoodL.some (f := sum6) (by kernel_rfl) sum6_ok
    · obtain rfl := List.mem_singleton.1 hb
      exact GoodL.some (f := sum10) (by kernel_rfl) sum10_ok
  · have h : ∀ (l l1 l2 : List (List PC)) (K : Int), pick n 4 = K → ([] ++ l) ++ List.replicate (8 - ([] ++ l).length) (ur s) = l1 → (loopX K 8 0 ((List.range l1.length).map fun j => intCell l1 j 0)).map ur = l2 →
        evalFn T (callD T EV F 10 10) (annS 6 [(6, sum6), (10, sum10)]) 10 Try.f6 [.one (.sl 1 (.sp [some .u64] l)), .agg [.pc (.int .u64 v.a), .pc (.int .u64 v.b), .pc (.int .u64 v.c), .pc (.int .u64 v.d), .pc (.int .u64 v.e), .pc (.int .u64 v.f)], ru64 s, ri n] some =
        (bif decide ((l.length : Int) > 20) then bs true else bif decide ((0 + l.length) * 8 ≤ 140737488355328) then bif decide (K > 0) then
          bif qB (([some .u64] : List (Option IntKind)) = [some .u64] ∧ ([] ++ l).length ≤ 1000 ∧ ∃ xs : List Int, ([] ++ l) = xs.map ur) then bif decide ((0 : Int) ≤ 0 ∧ (0 : Int) ≤ 8 ∧ (8 : Int) ≤ (l1.length : Int)) then
            bif qB (([some .u64] : List (Option IntKind)) = [some .u64] ∧ (0 : Int) = 0 ∧ 8 ≤ l1.length ∧ ∃ xs : List Int, l1 = xs.map ur) then vecEnd v s n ((l2.drop 0).take 8) else none else none else none
          else vecEnd v s n ([] ++ l) else none) := by
      intro l l1 l2 K h1 h2 h3
      subst h1 h2 h3
      kernel_rfl
    rw [h _ _ _ _ rfl rfl rfl]
    refine bif_elim (fun _ => rfl) fun hl => ?_
    have hl := of_decide_eq_false hl
    rw [List.length_map] at hl
    rw [List.nil_append, List.length_map, decide_eq_true (show (0 + xs.length) * 8 ≤ 140737488355328 by omega), cond_true]
    refine bif_elim (fun _ => ?_) (fun _ => vecEnd_true v hs n xs)
    have e1 : xs.map ur ++ List.replicate (8 - xs.length) (ur s) = (xs ++ List.replicate (8 - xs.length) s).map ur := by rw [List.map_append, List.map_replicate]
    have hlen : 8 ≤ ((xs ++ List.replicate (8 - xs.length) s).map ur).length := by simp; omega
    rw [e1, qB_true ⟨rfl, by omega, xs, rfl⟩, qB_true ⟨rfl, rfl, hlen, _, rfl⟩, decide_eq_true ⟨by decide, by decide, by omega⟩, List.drop_zero, ← List.map_take]
    exact vecEnd_true v hs n _

theorem und25 : Try.prog.underlying 25 = some (.slice 22) := by kernel_rfl
theorem flat22 : flat Try.prog 6 22 = some [some .u64] := by kernel_rfl

set_option maxRecDepth 100000 in
theorem open_wordsl {d : D1} (h : D1Of Try.prog 25 d) : ∃ (E : Els) (xs : List Int), d = .one (.sl 1 E) ∧ E.list = xs.map ur := by
  obtain ⟨n, cols, rfl, _, q0⟩ := D1Of.slice und25 flat22 h
  obtain ⟨c0, k0, rfl, ⟨f0, rfl, w0⟩, q1⟩ := all2_cons q0
  obtain rfl := all2_nil q1
  refine ⟨_, (List.range n).map f0, rfl, ?_⟩
  rw [List.map_map]; rfl

-- the law
set_option maxRecDepth 100000 in
theorem vectors_lifted (os : Os) (started : os.Started) (H : Type) (enc : TypeId × Value → H) :
    ReturnsInHanded {} Try.checked os 6 .any (Rows.snapshotVectorsSpec.pre6 enc Try.prog Try.f6 Rows.snapshotVectorsRow.domain false) (Rows.snapshotVectorsSpec.post enc Try.prog Try.f6 false true false false) :=
  law_lifted (C := Try.checked) (s := Rows.snapshotVectorsSpec) (conds := Rows.snapshotVectorsRow.domain) (apart := false) (fresh := true) (handsOn := false) (again := false) own started (by kernel_rfl) Try.func6
    (ChangeSpec.witness6 (enc := enc) (C := Try.checked) false ⟨#[], #[.slice none 0 0, .agg #[.int .u64 0, .int .u64 0, .int .u64 0, .int .u64 0, .int .u64 0, .int .u64 0], .int .u64 0, .int .i64 0], []⟩ 8 (by kernel_rfl) (by kernel_rfl) (by kernel_rfl) (by kernel_rfl))
    laid (fun t ht => List.all_eq_true.1 (show (Try.f6.params.toList.all fun t => argB Try.prog t) = true by kernel_rfl) t ht) (rt := 4) rfl und4 rfl
    (fun ds hds => by
      match ds, hds with
      | [_, _, _, _], _ => rfl)
    (fun l hl => by
      obtain ⟨d1, l1, rfl, h1, hl⟩ := all2_cons hl
      obtain ⟨d2, l2, rfl, h2, hl⟩ := all2_cons hl
      obtain ⟨d3, l3, rfl, h3, hl⟩ := all2_cons hl
      obtain ⟨d4, l4, rfl, h4, hl⟩ := all2_cons hl
      obtain rfl := all2_nil hl
      obtain ⟨E, xs, rfl, he⟩ := open_wordsl h1
      obtain ⟨a, b, c, d, e, f, rfl, _⟩ := open_vec h2
      obtain ⟨s, rfl, hs⟩ := h3.int und22
      obtain ⟨n, rfl, _⟩ := h4.int und3
      exact (vectors_sem xs ⟨0, 0, a, b, c, d, e, f, 0⟩ s n (wf_u64 hs)).same ⟨same_sl he.symm, same_refl _, same_refl _, same_refl _, trivial⟩
)

theorem vectors_law : Rows.SnapshotVectorsSaid :=
  OpenClaim.holds_of_wide 6 Try.f6 rfl rfl rfl rfl rfl rfl rfl ⟨rfl, rfl, rfl, rfl, rfl⟩ rfl rfl rfl rfl rfl (by kernel_rfl) Try.func6 (by kernel_rfl)
    (of_decide_eq_true (by kernel_rfl)) (by unfold Func.isWrapper; first | (rw [if_pos (by decide +kernel)]; kernel_rfl) | (rw [if_neg (by decide +kernel)]; exact ⟨rfl, rfl⟩))
    (fun os started H enc _ => vectors_lifted os started H enc)

end Go.Proofs.Ytjbmpimclagfoaa
