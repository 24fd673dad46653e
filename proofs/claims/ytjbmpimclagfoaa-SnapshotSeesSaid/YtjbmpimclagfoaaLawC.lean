/-
  RecordChain: after any number of replacements the chain from the head has all versions, newest first, and the head has never moved.
-/
import Derived.Test.YtjbmpimclagfoaaLawCC
import Derived.Test.YtjbmpimclagfoaaLawK3
namespace Go.Sp
open Go.Eng

theorem latest_rows {f : Nat → Pg} (hf : ∀ j, (f j).l = 105 + ((j + 1 : Nat) : Int)) : ∀ (n j : Nat), j < n → latest ((List.range n).map f) (105 + ((j + 1 : Nat) : Int)) = some (f j) := by
  intro n
  induction n with
  | zero => intro j hj; omega
  | succ n ih =>
    intro j hj
    rw [List.range_succ, List.map_append, List.map_cons, List.map_nil, latest_snoc, hf]
    by_cases h : j = n
    · subst h
      rw [beq_self_eq_true]; rfl
    · have e : ((105 : Int) + ((n + 1 : Nat) : Int) == 105 + ((j + 1 : Nat) : Int)) = false := by simp; omega
      rw [e, cond_false]
      exact ih j (by omega)

theorem latest_rows0 {f : Nat → Pg} (hf : ∀ j, (f j).l = 105 + ((j + 1 : Nat) : Int)) : ∀ (n : Nat), latest ((List.range n).map f) 105 = none := by
  intro n
  induction n with
  | zero => rfl
  | succ n ih =>
    rw [List.range_succ, List.map_append, List.map_cons, List.map_nil, latest_snoc, hf]
    have e : ((105 : Int) + ((n + 1 : Nat) : Int) == 105) = false := by simp; omega
    rw [e, cond_false, ih]

theorem open_of {ps : List Pg} {q : Pg} {line : Int} (h : latest ps line = some q) (hv : validP line 1 = true) (h1 : lockP q.h = false) (h2 : tK q.a = 1) (h3 : tG q.a = 1) : openOK ps line 1 1 = true ∧ lookP true ps line 1 1 = q := by
  have hb : latB ps line = true := by unfold latB; rw [h]
  have hp : latP ps line = q := by unfold latP; rw [h]
  unfold openOK lookB lookC lookP lookT
  rw [hv, hb, hp, h1, h2, h3]
  exact ⟨rfl, rfl⟩

end Go.Sp
namespace Go.Proofs.Ytjbmpimclagfoaa
open Go.Eng Go.Sp Go.RowKit

theorem lock256 : lockP 256 = false := by
  rw [(lock_of (h := 256) (by decide) (by decide)).1]; rfl

section
variable {cs ds : List (List PC)} {k : Int} (h : In7 cs ds k)
include h

theorem page_facts {i j : Nat} (hi : i < cs.length) (hj : j ≤ 100) : (fillP (fr j) (prv (vAt cs ds k i) i)).ok ∧ tK (fillP (fr j) (prv (vAt cs ds k i) i)).a = 1 ∧ tG (fillP (fr j) (prv (vAt cs ds k i) i)).a = 1 ∧ readC (fillP (fr j) (prv (vAt cs ds k i) i)) = 0 ∧ readV (fillP (fr j) (prv (vAt cs ds k i) i)) = prv (vAt cs ds k i) i := by
  obtain ⟨p1, p2⟩ := prv_ok h hi
  have f0 := fr_ok (i := j) (by omega) (by omega)
  obtain ⟨t1, t2⟩ := fr_tag
  have ok := fillP_ok (v := prv (vAt cs ds k i) i) f0 p1
  obtain ⟨g1, g2⟩ := fill_gen (v := prv (vAt cs ds k i) i) f0 t1
  obtain ⟨r1, r2⟩ := fill_read f0 p1 p2 t1
  refine ⟨ok, g1, by rw [g2]; exact t2, ?_, ?_⟩
  · rw [readC_of ok, r1]; rfl
  · rw [readV_of ok, r1, r2]; rfl

theorem reads_one {ps : List Pg} {i : Nat} (hi : i < cs.length) {j : Nat} (hj : j ≤ 100) (hl : latest ps (105 + (j : Int)) = some (fillP (fr j) (prv (vAt cs ds k i) i)))
    (ih : ReadsTo ps (wantV cs ds k i) (prv (vAt cs ds k i) i).l (prv (vAt cs ds k i) i).g) : ReadsTo ps (wantV cs ds k (i + 1)) (105 + (j : Int)) 1 := by
  obtain ⟨_, f2, f3, f4, f5⟩ := page_facts h hi hj
  obtain ⟨_, v2, v3, _, _, _⟩ := vAt_ok h hi
  obtain ⟨o1, o2⟩ := open_of hl (decide_eq_true (by omega)) lock256 f2 f3
  refine ⟨o1, by rw [o2]; exact f4, ?_, ?_⟩
  · rw [o2, f5]
    exact Ve.ext' rfl rfl rfl rfl rfl rfl rfl v2 v3
  · rw [o2, f5]; exact ih

theorem reads_rest {n : Nat} (hn : n ≤ cs.length) (h1 : 1 ≤ n) : ∀ i, i < n → ReadsTo (headP cs ds k n :: restP cs ds k n) (wantV cs ds k i) (if i = 0 then 0 else 105 + i) (if i = 0 then 0 else 1) := by
  have hlen := h.n
  intro i
  induction i with
  | zero => intro _; exact ⟨rfl, rfl⟩
  | succ i ih =>
    intro hi
    have hz : ¬ i + 1 = 0 := by omega
    rw [if_neg hz, if_neg hz]
    refine reads_one h (by omega) (j := i + 1) (by omega) ?_ (ih (by omega))
    have e : latest (restP cs ds k n) (105 + ((i + 1 : Nat) : Int)) = some (fillP (fr ((i + 1 : Nat) : Int)) (prv (vAt cs ds k i) i)) :=
      latest_rows (f := fun j => fillP (fr ((j + 1 : Nat) : Int)) (prv (vAt cs ds k j) j)) (fun j => rfl) (n - 1) i (by omega)
    simp only [latest, e]

theorem reads_all (h1 : 1 ≤ cs.length) : ReadsTo (headP cs ds k cs.length :: restP cs ds k cs.length) (wantV cs ds k cs.length) 105 1 := by
  have hlen := h.n
  obtain ⟨n, hn⟩ : ∃ n, cs.length = n + 1 := ⟨cs.length - 1, by omega⟩
  have ih := reads_rest h (n := cs.length) (Nat.le_refl _) h1 n (by omega)
  rw [hn] at ih ⊢
  refine reads_one h (ps := headP cs ds k (n + 1) :: restP cs ds k (n + 1)) (i := n) (by omega) (j := 0) (by omega) ?_ ih
  have e : latest (restP cs ds k (n + 1)) (105 + ((0 : Nat) : Int)) = none := latest_rows0 (f := fun j => fillP (fr ((j + 1 : Nat) : Int)) (prv (vAt cs ds k j) j)) (fun j => rfl) (n + 1 - 1)
  simp only [latest, e]
  rfl
end

/-- What the law makes of a key. -/
noncomputable def chainT (cs ds : List (List PC)) (k : Int) : Option DRes :=
  bif pB (k3 = k3 ∧ [none] = ([none] : List (Option IntKind)) ∧ (0 : Int) = 0 ∧ In7 cs ds k ∧ 1 ≤ cs.length) then
    bif decide ((0 : Int) ≤ 0 ∧ (0 : Int) < ((((restP cs ds k cs.length).map Pg.row).length + 1 : Nat) : Int)) then
    bif pB (Pg.ks = Pg.ks ∧ Ve.ks = Ve.ks ∧ (0 : Int) = 0 ∧ ∃ (ps : List Pg) (vs : List Ve), ((headP cs ds k cs.length).row :: (restP cs ds k cs.length).map Pg.row) = ps.map Pg.row ∧ (wantV cs ds k cs.length).map Ve.row = vs.map Ve.row ∧ ps.length ≤ 1000000 ∧ vs.length ≤ 1000000 ∧
        ReadsTo ps vs (headP cs ds k cs.length).l (genP (headP cs ds k cs.length).a)) then
    bif decide ((0 : Int) ≤ 0 ∧ (0 : Int) < ((((restP cs ds k cs.length).map Pg.row).length + 1 : Nat) : Int)) then bs true else none else none else none else none

theorem chainT_true {cs ds : List (List PC)} {k : Int} (h : In7 cs ds k) (h1 : 1 ≤ cs.length) : chainT cs ds k = bs true := by
  have hn := h.n
  have d : decide ((0 : Int) ≤ 0 ∧ (0 : Int) < ((((restP cs ds k cs.length).map Pg.row).length + 1 : Nat) : Int)) = true := decide_eq_true (by omega)
  obtain ⟨_, _, f3, _, _⟩ := head_facts h h1 (Nat.le_refl _)
  have hg : genP (headP cs ds k cs.length).a = 1 := f3
  unfold chainT
  rw [d, pB_true ⟨rfl, rfl, rfl, h, h1⟩, pB_true ⟨rfl, rfl, rfl, headP cs ds k cs.length :: restP cs ds k cs.length, wantV cs ds k cs.length, rfl, rfl, by unfold restP; simp; omega, by rw [wantV_length]; omega, by rw [hg]; exact reads_all h h1⟩]
  rfl

theorem chain_sem (key : Int) (cs ds : List (List PC)) (hc : ∀ i, i < cs.length → rowIs k3 cs i = true ∧ rI64 (intCell cs i 0) ∧ rI64 (intCell cs i 1) ∧ rI64 (intCell cs i 2)) (hd : ∀ i, i < ds.length → rowIs [none] ds i = true) :
    FnSem Try.prog 7 [ri key, .one (.sl 3 (.sp k3 cs)), .one (.sl 1 (.sp [none] ds))] (.v (.one (.pc (.bool true)))) := by
  refine semL (E := EO14) EO14_ok (lf := 10) (lf' := 10) (depth := 10) (an := annP 7 [(7, sum7), (33, sum33)] [7]) Try.func7 (by kernel_rfl) (SumsOK.fn (l := [body7, bodyL 26 Try.f7, body33]) (by kernel_rfl) (fun b hb => ?_)) ?_
  · rcases List.mem_cons.1 hb with rfl | hb
    · exact GoodL.some (f := sum7) (by kernel_rfl) sum7_ok
    · rcases List.mem_cons.1 hb with rfl | hb
      · exact GoodL.none (by kernel_rfl)
      · obtain rfl := List.mem_singleton.1 hb
        exact GoodL.some (f := sum33) (by kernel_rfl) sum33_ok
  · have e : evalFn T (callD T EO14 F 10 10) (annP 7 [(7, sum7), (33, sum33)] [7]) 10 Try.f7 [ri key, .one (.sl 3 (.sp k3 cs)), .one (.sl 1 (.sp [none] ds))] some =
        (bif (cs.length : Int) == 0 then bs (stamp 2 5 == 1283) else bif decide ((cs.length : Int) > 20) then bs (stamp 2 5 == 1283) else
          bif decide (pick key 50 ≥ 47) then chainT cs ds (IntKind.wrap .u32 (IntKind.wrap .u32 (pick key 4294967294) + 1)) else chainT cs ds (IntKind.wrap .u32 (IntKind.wrap .u32 (pick key 40) + 1))) := by kernel_rfl
    rw [e]
    have ha : (stamp 2 5 == 1283) = true := by rw [stamp_of (by decide) (by decide) (by decide) (by decide)]; rfl
    rw [ha]
    refine bif_elim (fun _ => rfl) fun h1 => bif_elim (fun _ => rfl) fun h2 => ?_
    have h1 : ¬ (cs.length : Int) = 0 := by simpa using h1
    have h2 := of_decide_eq_false h2
    have p1 : pick key 4294967294 = key % 4294967294 := pick_eq (by decide) (by decide)
    have p2 : pick key 40 = key % 40 := pick_eq (by decide) (by decide)
    refine bif_elim (fun _ => chainT_true ⟨hc, hd, by omega, ?_, ?_⟩ (by omega)) (fun _ => chainT_true ⟨hc, hd, by omega, ?_, ?_⟩ (by omega))
    · rw [p1, u32_in (n := key % 4294967294) (by omega) (by omega), u32_in (by omega) (by omega)]; omega
    · rw [p1, u32_in (n := key % 4294967294) (by omega) (by omega), u32_in (by omega) (by omega)]; omega
    · rw [p2, u32_in (n := key % 40) (by omega) (by omega), u32_in (by omega) (by omega)]; omega
    · rw [p2, u32_in (n := key % 40) (by omega) (by omega), u32_in (by omega) (by omega)]; omega

theorem und46 : Try.prog.underlying 46 = some (.slice 57) := by kernel_rfl
theorem und47 : Try.prog.underlying 47 = some (.slice 4) := by kernel_rfl
theorem flat57 : flat Try.prog 6 57 = some k3 := by kernel_rfl
theorem flat4 : flat Try.prog 6 4 = some [none] := by kernel_rfl

set_option maxRecDepth 100000 in
theorem open_cols {d : D1} (h : D1Of Try.prog 46 d) : ∃ (E : Els), d = .one (.sl 3 E) ∧ ∀ i, i < E.list.length → rowIs k3 E.list i = true ∧ rI64 (intCell E.list i 0) ∧ rI64 (intCell E.list i 1) ∧ rI64 (intCell E.list i 2) := by
  obtain ⟨n, cols, rfl, _, q0⟩ := D1Of.slice und46 flat57 h
  obtain ⟨c0, r0, rfl, ⟨f0, rfl, w0⟩, q1⟩ := all2_cons q0
  obtain ⟨c1, r1, rfl, ⟨f1, rfl, w1⟩, q2⟩ := all2_cons q1
  obtain ⟨c2, r2, rfl, ⟨f2, rfl, w2⟩, q3⟩ := all2_cons q2
  obtain rfl := all2_nil q3
  refine ⟨_, rfl, fun i hi => ?_⟩
  have hl : (Els.tab n [.int .i64 f0, .int .i64 f1, .int .i64 f2]).list[i]? = some [.int .i64 (f0 i), .int .i64 (f1 i), .int .i64 (f2 i)] := by
    simp only [Els.list, List.length_map, List.length_range] at hi
    simp only [Els.list, List.getElem?_map, List.getElem?_range hi]
    rfl
  have hi' : i < n := by simpa [Els.list] using hi
  unfold rowIs intCell
  rw [hl]
  exact ⟨rfl, wf_i64 (w0 i hi'), wf_i64 (w1 i hi'), wf_i64 (w2 i hi')⟩

set_option maxRecDepth 100000 in
theorem open_bools {d : D1} (h : D1Of Try.prog 47 d) : ∃ (E : Els), d = .one (.sl 1 E) ∧ ∀ i, i < E.list.length → rowIs [none] E.list i = true := by
  obtain ⟨n, cols, rfl, _, q0⟩ := D1Of.slice und47 flat4 h
  obtain ⟨c0, r0, rfl, ⟨f0, rfl⟩, q1⟩ := all2_cons q0
  obtain rfl := all2_nil q1
  refine ⟨_, rfl, fun i hi => ?_⟩
  have hl : (Els.tab n [.bool f0]).list[i]? = some [.bool (f0 i)] := by
    simp only [Els.list, List.length_map, List.length_range] at hi
    simp only [Els.list, List.getElem?_map, List.getElem?_range hi]
    rfl
  unfold rowIs
  rw [hl]
  rfl

-- the law
set_option maxRecDepth 100000 in
theorem chain_lifted (os : Os) (started : os.Started) (H : Type) (enc : TypeId × Value → H) :
    ReturnsInHanded {} Try.checked os 7 .any (Rows.recordChainSpec.pre6 enc Try.prog Try.f7 Rows.recordChainRow.domain false) (Rows.recordChainSpec.post enc Try.prog Try.f7 false true false false) :=
  law_lifted (C := Try.checked) (s := Rows.recordChainSpec) (conds := Rows.recordChainRow.domain) (apart := false) (fresh := true) (handsOn := false) (again := false) own started (by kernel_rfl) Try.func7
    (ChangeSpec.witness6 (enc := enc) (C := Try.checked) false ⟨#[], #[.int .i64 0, .slice none 0 0, .slice none 0 0], []⟩ 8 (by kernel_rfl) (by kernel_rfl) (by kernel_rfl) (by kernel_rfl))
    laid (fun t ht => List.all_eq_true.1 (show (Try.f7.params.toList.all fun t => argB Try.prog t) = true by kernel_rfl) t ht) (rt := 4) rfl und4 rfl
    (fun ds hds => by
      match ds, hds with
      | [_, _, _], _ => rfl)
    (fun l hl => by
      obtain ⟨d1, l1, rfl, h1, hl⟩ := all2_cons hl
      obtain ⟨d2, l2, rfl, h2, hl⟩ := all2_cons hl
      obtain ⟨d3, l3, rfl, h3, hl⟩ := all2_cons hl
      obtain rfl := all2_nil hl
      obtain ⟨key, rfl, _⟩ := h1.int und3
      obtain ⟨C, rfl, hc⟩ := open_cols h2
      obtain ⟨D, rfl, hd⟩ := open_bools h3
      exact (chain_sem key C.list D.list hc hd).same ⟨same_refl _, same_sl rfl, same_sl rfl, trivial⟩
)

theorem chain_law : Rows.RecordChainSaid :=
  OpenClaim.holds_of_wide 7 Try.f7 rfl rfl rfl rfl rfl rfl rfl ⟨rfl, rfl, rfl, rfl, rfl⟩ rfl rfl rfl rfl rfl (by kernel_rfl) Try.func7 (by kernel_rfl)
    (of_decide_eq_true (by kernel_rfl)) (by unfold Func.isWrapper; first | (rw [if_pos (by decide +kernel)]; kernel_rfl) | (rw [if_neg (by decide +kernel)]; exact ⟨rfl, rfl⟩))
    (fun os started H enc _ => chain_lifted os started H enc)

end Go.Proofs.Ytjbmpimclagfoaa
