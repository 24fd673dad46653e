/-
  PointerLooks: what is found at a pointer in any list of pages, and the order of the errors.
-/
import Derived.Test.YtjbmpimclagfoaaSp10
import Derived.Test.YtjbmpimclagfoaaLawK2
namespace Go.Proofs.Ytjbmpimclagfoaa
open Go.Eng Go.Sp Go.RowKit

def looksT (a b : Pg) (x y : Bool) (c d : Pg) (h h' : Bool) (e f : Int) (c2 d2 : Pg) (g g' : Bool) (e2 f2 : Int) : Option DRes :=
  bif !(x == y) then bs false else bif !pgEq a b then bs false else bif !pgEq c d then bs false else bif !(h == h') then bs false else bif e != f then bs false else
    bif pgEq c2 d2 then bif g == g' then bs (e2 == f2) else bs false else bs false

theorem looksT_true (a : Pg) (x : Bool) (c : Pg) (h : Bool) (e : Int) (c2 : Pg) (g : Bool) (e2 : Int) : looksT a a x x c c h h e e c2 c2 g g e2 e2 = bs true := by
  unfold looksT
  rw [pgEq_self, pgEq_self, pgEq_self]
  simp

theorem looks_sem (ps : List Pg) (hps : ∀ p ∈ ps, p.ok) (a g k : Int) : FnSem Try.prog 13 [.agg [.sl 9 (.sp Pg.ks (ps.map Pg.row)), .pc (.int .i64 a), .pc (.int .i64 g), .pc (.int .i64 k)]] (.v (.one (.pc (.bool true)))) := by
  refine sem E7_ok (lf := 10) (depth := 10) ?_
  have h : ∀ (l m : List (List PC)) (L G K : Int), ((pgsOf l).map mkPg).map Pg.row = m → IntKind.wrap .i64 (103 + pick a 5) = L → pick g 4 = G → pick k 5 = K →
      callD T E7 F 10 10 13 [.agg [.sl 9 (.sp Pg.ks l), .pc (.int .i64 a), .pc (.int .i64 g), .pc (.int .i64 k)]] some =
      (bif decide ((l.length : Int) > 20) then bs true else bif pgsOK l then bif pgsOK m then bif pgsOK m then
        bif !(latB (pgsOf m) L == latB (pgsOf m) L) then bs false else bif !pgEq (latP (pgsOf m) L) (latP (pgsOf m) L) then bs false else
        bif pgsOK m then bif pgsOK m then bif !pgEq (lookP false (pgsOf m) L G K) (rlookP false (pgsOf m) L G K) then bs false else
        bif !(lookB false (pgsOf m) L G K == rlookB false (pgsOf m) L G K) then bs false else bif lookC false (pgsOf m) L G K != rlookC false (pgsOf m) L G K then bs false else
        bif pgsOK m then bif pgsOK m then bif pgEq (lookP true (pgsOf m) L G K) (rlookP true (pgsOf m) L G K) then bif lookB true (pgsOf m) L G K == rlookB true (pgsOf m) L G K then
          bs (lookC true (pgsOf m) L G K == rlookC true (pgsOf m) L G K) else bs false else bs false else none else none else none else none else none else none else none) := by
    intro l m L G K h1 h2 h3 h4
    subst h1 h2 h3 h4
    kernel_rfl
  rw [h _ _ _ _ _ rfl rfl rfl rfl, pgsOf_map]
  refine bif_elim (fun _ => rfl) fun hl => ?_
  have hl := of_decide_eq_false hl
  rw [List.length_map] at hl
  have hok : ∀ p ∈ ps.map mkPg, p.ok := fun p hp => by
    obtain ⟨q, hq, rfl⟩ := List.mem_map.1 hp
    exact mkPg_ok (hps q hq)
  rw [pgsOK_map (by omega), pgsOK_map (by rw [List.length_map]; omega), pgsOf_map, rlookP_of hok, rlookB_of hok, rlookC_of hok, rlookP_of hok, rlookB_of hok, rlookC_of hok]
  exact looksT_true _ _ _ _ _ _ _ _

def structTs (P : Program) (t : TypeId) : Option (List TypeId) :=
  match P.underlying t with
  | some (.struct F) => some (F.toList.map (·.type))
  | _ => none

theorem fieldsOf {P : Program} {t : TypeId} {ts : List TypeId} {d : D1} (hs : structTs P t = some ts) (hf : flat P 6 t = none) (h : D1Of P t d) : ∃ ds, d = .agg ds ∧ All2 (C1Of P) ts ds := by
  unfold structTs at hs
  split at hs
  case h_2 => cases hs
  case h_1 F hu =>
    simp only [Option.some.injEq] at hs
    subst hs
    obtain ⟨ds, rfl, h2⟩ := D1Of.fields hu hf h
    refine ⟨ds, rfl, ?_⟩
    clear h hu
    generalize F.toList = fs at h2
    induction fs generalizing ds with
    | nil => cases ds with
      | nil => trivial
      | cons => simp [All2] at h2
    | cons f fs ih => cases ds with
      | nil => simp [All2] at h2
      | cons c ds => exact ⟨h2.1, ih _ h2.2⟩

set_option maxRecDepth 100000 in
theorem open_look {d : D1} (h : D1Of Try.prog 106 d) : ∃ (E : Els) (ps : List Pg) (a g k : Int), d = .agg [.sl 9 E, .pc (.int .i64 a), .pc (.int .i64 g), .pc (.int .i64 k)] ∧ E.list = ps.map Pg.row ∧ (∀ p ∈ ps, p.ok) := by
  obtain ⟨ds, rfl, q⟩ := fieldsOf (ts := [50, 3, 3, 3]) (by kernel_rfl) (by kernel_rfl) h
  obtain ⟨c1, r1, rfl, h1, q⟩ := all2_cons q
  obtain ⟨c2, r2, rfl, h2, q⟩ := all2_cons q
  obtain ⟨c3, r3, rfl, h3, q⟩ := all2_cons q
  obtain ⟨c4, r4, rfl, h4, q⟩ := all2_cons q
  obtain rfl := all2_nil q
  obtain ⟨E, ps, e1, he, hps⟩ := open_pgs h1.one
  obtain ⟨a, e2, _⟩ := h2.one.int und3
  obtain ⟨g, e3, _⟩ := h3.one.int und3
  obtain ⟨k, e4, _⟩ := h4.one.int und3
  injection e1 with e1
  injection e2 with e2
  injection e3 with e3
  injection e4 with e4
  subst e1 e2 e3 e4
  exact ⟨E, ps, a, g, k, rfl, he, hps⟩

-- the law
set_option maxRecDepth 100000 in
theorem looks_lifted (os : Os) (started : os.Started) (H : Type) (enc : TypeId × Value → H) :
    ReturnsInHanded {} Try.checked os 13 .any (Rows.pointerLooksSpec.pre6 enc Try.prog Try.f13 Rows.pointerLooksRow.domain false) (Rows.pointerLooksSpec.post enc Try.prog Try.f13 false true false false) :=
  law_lifted (C := Try.checked) (s := Rows.pointerLooksSpec) (conds := Rows.pointerLooksRow.domain) (apart := false) (fresh := true) (handsOn := false) (again := false) own started (by kernel_rfl) Try.func13
    (ChangeSpec.witness6 (enc := enc) (C := Try.checked) false ⟨#[], #[.agg #[.slice none 0 0, .int .i64 0, .int .i64 0, .int .i64 0]], []⟩ 8 (by kernel_rfl) (by kernel_rfl) (by kernel_rfl) (by kernel_rfl))
    laid (fun t ht => List.all_eq_true.1 (show (Try.f13.params.toList.all fun t => argB Try.prog t) = true by kernel_rfl) t ht) (rt := 4) rfl und4 rfl
    (fun ds hds => by
      match ds, hds with
      | [_], _ => rfl)
    (fun l hl => by
      obtain ⟨d1, l1, rfl, h1, hl⟩ := all2_cons hl
      obtain rfl := all2_nil hl
      obtain ⟨E, ps, a, g, k, rfl, he, hps⟩ := open_look h1
      exact (looks_sem ps hps a g k).same ⟨⟨⟨rfl, he.symm⟩, rfl, rfl, rfl, trivial⟩, trivial⟩
)

theorem looks_law : Rows.PointerLooksSaid :=
  OpenClaim.holds_of_wide 13 Try.f13 rfl rfl rfl rfl rfl rfl rfl ⟨rfl, rfl, rfl, rfl, rfl⟩ rfl rfl rfl rfl rfl (by kernel_rfl) Try.func13 (by kernel_rfl)
    (of_decide_eq_true (by kernel_rfl)) (by unfold Func.isWrapper; first | (rw [if_pos (by decide +kernel)]; kernel_rfl) | (rw [if_neg (by decide +kernel)]; exact ⟨rfl, rfl⟩))
    (fun os started H enc _ => looks_lifted os started H enc)

end Go.Proofs.Ytjbmpimclagfoaa
