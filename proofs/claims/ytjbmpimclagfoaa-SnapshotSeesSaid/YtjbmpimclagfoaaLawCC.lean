/-
  RecordChain: the first loop as a whole, and the loop that reads the chain.
-/
import Derived.Test.YtjbmpimclagfoaaLawCB
namespace Go.Sp
open Go.Eng

/-- A condition, as a boolean. -/
noncomputable def pB (p : Prop) : Bool := @decide p (Classical.propDecidable p)

theorem pB_true {p : Prop} (h : p) : pB p = true := by unfold pB; exact @decide_eq_true p (Classical.propDecidable p) h
theorem pB_of {p : Prop} (h : pB p = true) : p := @of_decide_eq_true p (Classical.propDecidable p) h

theorem rowIs_ve {vs : List Ve} {i : Nat} (h : i < vs.length) : rowIs Ve.ks (vs.map Ve.row) i = true := by
  unfold rowIs
  rw [List.getElem?_map, List.getElem?_eq_getElem h]
  rfl

theorem cell_ve {vs : List Ve} {i : Nat} (h : i < vs.length) : intCell (vs.map Ve.row) i 0 = vs[i].k ∧ intCell (vs.map Ve.row) i 1 = vs[i].a ∧ intCell (vs.map Ve.row) i 2 = vs[i].b ∧ intCell (vs.map Ve.row) i 3 = vs[i].c ∧ boolCell (vs.map Ve.row) i 4 = vs[i].d ∧
    intCell (vs.map Ve.row) i 5 = vs[i].e ∧ intCell (vs.map Ve.row) i 6 = vs[i].s ∧ intCell (vs.map Ve.row) i 7 = vs[i].l ∧ intCell (vs.map Ve.row) i 8 = vs[i].g := by
  unfold intCell boolCell
  rw [List.getElem?_map, List.getElem?_eq_getElem h]
  exact ⟨rfl, rfl, rfl, rfl, rfl, rfl, rfl, rfl, rfl⟩

/-- From that pointer on the pages hold these versions, and no others. -/
def ReadsTo (ps : List Pg) : List Ve → Int → Int → Prop
  | [], l, g => l = 0 ∧ g = 0
  | v :: vs, l, g => openOK ps l g 1 = true ∧ readC (lookP true ps l g 1) = 0 ∧ v = ⟨(readV (lookP true ps l g 1)).k, (readV (lookP true ps l g 1)).a, (readV (lookP true ps l g 1)).b, (readV (lookP true ps l g 1)).c, (readV (lookP true ps l g 1)).d, (readV (lookP true ps l g 1)).e, (readV (lookP true ps l g 1)).s, 0, 0⟩ ∧
    ReadsTo ps vs (readV (lookP true ps l g 1)).l (readV (lookP true ps l g 1)).g

end Go.Sp
namespace Go.Proofs.Ytjbmpimclagfoaa
open Go.Eng Go.Sp

noncomputable def sum7 : St → (Ex → St → Ans) → Ans
  | ⟨[(1, some (.v (.one (.whole (1, 1000))))), (2, some (.v (.one (.whole (2, 1000))))), (7, some (.v (.one (.int .u32 k)))), (8, some (.v (.one (.whole (1000008, 2000))))), (9, some (.v (.one .nils))), (10, some (.v (.one (.int .i64 i))))],
      [((1, 1000), some (.arr false 3 (.sp kx cs))), ((2, 1000), some (.arr false 1 (.sp kd ds))), ((1000008, 2000), some (.arr true 9 (.lit [])))], 201⟩, k' =>
    cond (pB (kx = k3 ∧ kd = [none] ∧ i = 0 ∧ In7 cs ds k ∧ 1 ≤ cs.length)) (k' (.exit 0) (X7 ((headP cs ds k cs.length).row :: (restP cs ds k cs.length).map Pg.row) ((wantV cs ds k cs.length).map Ve.row))) none
  | _, _ => none

theorem sum7_ok : SumOK Try.prog body7 sum7 := by
  refine SumOK.of (T := ⟨T.l, []⟩) (call := callD T EO14 F 10 10) (an := an7) (lf := 10) (id := 7) (ls := [8, 9]) (tok.dyn []) (callOKO 10 10) mixed (SumsOK.in (l := [bodyL 26 Try.f7]) (by kernel_rfl) (fun b hb => ?_)) ?_
  · obtain rfl := List.mem_singleton.1 hb
    exact GoodL.none (by kernel_rfl)
  intro s k' r h
  unfold sum7 at h
  split at h
  case h_2 => cases h
  case h_1 k'' k i kx cs kd ds =>
    obtain ⟨h0, g0⟩ := cond_none h
    obtain ⟨rfl, rfl, rfl, hin, hlen⟩ := pB_of h0
    clear h h0
    have hn := hin.n
    obtain ⟨n, hc⟩ : ∃ n, cs.length = n + 1 := ⟨cs.length - 1, by omega⟩
    refine ⟨(n + 1) + 1, ?_⟩
    rw [gN]
    refine (step7n _ _ _ _ _).trans ?_
    obtain ⟨a1, a2⟩ := free_alloc (i := 0) (by decide)
    obtain ⟨p1, p2⟩ := prv_ok hin (i := 0) (by omega)
    obtain ⟨v1, v2, v3, _, _, _⟩ := vAt_ok hin (i := 0) (by omega)
    have hpv : prv (vAt cs ds k 0) 0 = vAt cs ds k 0 := Ve.ext' rfl rfl rfl rfl rfl rfl rfl v2.symm v3.symm
    have hpk : ∀ f : Ve → Ans, pick7 cs ds k 0 f = f (vAt cs ds k 0) := fun f => pick7_of hin (i := 0) (by omega) f
    have a1' : allocC (free7 0) 1 = 0 := a1
    have a2' : allocO (free7 0) 1 0 = fr 0 := a2
    have hw : writeC (fr 0) (vAt cs ds k 0) = 0 := by
      have ht : tK (fr 0).a = 1 := fr_tag.1
      unfold writeC
      rw [← hpv, p2, ht]; rfl
    have e3 : IntKind.wrap .i64 ((0 : Int) + 1) = ((1 : Nat) : Int) := by rw [i64_in (by omega) (by omega)]; rfl
    have hf : fillO (fr 0) (vAt cs ds k 0) = headP cs ds k 1 := by
      rw [fillO_eq]; unfold headP; rw [hpv]
    have := run7 hin k' n 1 (Nat.le_refl 1) (by omega)
    have hr : (restP cs ds k 1).map Pg.row = [] := rfl
    have hwv : (wantV cs ds k 1).map Ve.row = [(vAt cs ds k 0).row] := rfl
    rw [hr, hwv] at this
    rw [decide_eq_true (show (0 : Int) < (cs.length : Int) by omega), a1', hpk, a2', hw, hf, e3]
    rw [cond_true, show ((0 : Int) == 0) = true from rfl, cond_true, cond_true]
    exact this.trans g0

def H33 (pl ws : List (List PC)) (aL aG i : Int) : St := ⟨[(8, some (.v (.one (.whole (1000008, 2000))))), (9, some (.v (.one (.whole (1000009, 2000))))), (20, some (.v (.one (.ptr (20, 0) 0 0 false)))), (21, some (.v (.one (.int .i64 i))))],
  [((1000008, 2000), some (.arr true 9 (.sp Pg.ks pl))), ((1000009, 2000), some (.arr true 9 (.sp Ve.ks ws))), ((20, 0), some (.var [.int .i64 aL, .int .i64 aG]))], 201⟩
def X33 (pl : List (List PC)) (aL aG : Int) : St := ⟨[(8, some (.v (.one (.whole (1000008, 2000))))), (20, some (.v (.one (.ptr (20, 0) 0 0 false))))], [((1000008, 2000), some (.arr true 9 (.sp Pg.ks pl))), ((20, 0), some (.var [.int .i64 aL, .int .i64 aG]))], 201⟩

noncomputable def body33 : Code := bodyL 33 Try.f7

def eq33 (ws : List (List PC)) (i : Nat) (V : Ve) : Bool :=
  bif V.k == intCell ws i 0 then bif V.a == intCell ws i 1 then bif V.b == intCell ws i 2 then bif V.c == intCell ws i 3 then bif V.d == boolCell ws i 4 then bif V.e == intCell ws i 5 then bif V.s == intCell ws i 6 then bif (0 : Int) == intCell ws i 7 then bif (0 : Int) == intCell ws i 8 then true
    else false else false else false else false else false else false else false else false else false

theorem step33 (pl ws : List (List PC)) (aL aG i : Int) (G : St → Ans) (k : Ex → St → Ans) :
    evalC ⟨T.l, []⟩ (callD T EO14 F 10 10) an7 10 body33 (H33 pl ws aL aG i) (fun e s' => match e with | .normal => atHead an7 33 s' G | e => compact [8, 20] s' (k e)) =
      (bif decide (i < (ws.length : Int)) then bif cond (pgsOK pl) (openOK (pgsOf pl) aL aG 1) false then bif readC (lookP true (pgsOf pl) aL aG 1) == 0 then bif decide (0 ≤ i ∧ i < (ws.length : Int)) then bif rowIs Ve.ks ws i.toNat then
        bif !eq33 ws i.toNat (readV (lookP true (pgsOf pl) aL aG 1)) then k .ret (X33 pl (readV (lookP true (pgsOf pl) aL aG 1)).l (readV (lookP true (pgsOf pl) aL aG 1)).g)
        else G (H33 pl ws (readV (lookP true (pgsOf pl) aL aG 1)).l (readV (lookP true (pgsOf pl) aL aG 1)).g (IntKind.wrap .i64 (i + 1))) else none else none else none else none
       else k (.exit 4) (X33 pl aL aG)) := by kernel_rfl

theorem run33 (ps : List Pg) (hp : ps.length ≤ 1000000) (vs : List Ve) (hv : vs.length ≤ 1000000) (k : Ex → St → Ans) : ∀ (m i : Nat) (l g : Int), i + m = vs.length → ReadsTo ps (vs.drop i) l g →
    gN ⟨T.l, []⟩ (callD T EO14 F 10 10) an7 10 33 body33 (fun e s' => compact [8, 20] s' (k e)) (m + 1) (H33 (ps.map Pg.row) (vs.map Ve.row) l g i) = k (.exit 4) (X33 (ps.map Pg.row) 0 0) := by
  intro m
  induction m with
  | zero =>
    intro i l g hi hr
    rw [List.drop_of_length_le (by omega)] at hr
    obtain ⟨rfl, rfl⟩ := hr
    rw [gN]
    refine (step33 _ _ _ _ _ _ _).trans ?_
    rw [List.length_map, decide_eq_false (by omega)]
    rfl
  | succ m ih =>
    intro i l g hi hr
    have hlt : i < vs.length := by omega
    rw [List.drop_eq_getElem_cons hlt] at hr
    obtain ⟨h1, h2, h3, h4⟩ := hr
    rw [gN]
    refine (step33 _ _ _ _ _ _ _).trans ?_
    have e3 : IntKind.wrap .i64 ((i : Int) + 1) = ((i + 1 : Nat) : Int) := by rw [i64_in (by omega) (by omega)]; rfl
    obtain ⟨c0, c1, c2, c3, c4, c5, c6, c7, c8⟩ := cell_ve hlt
    have he : eq33 (vs.map Ve.row) i (readV (lookP true ps l g 1)) = true := by
      unfold eq33
      rw [c0, c1, c2, c3, c4, c5, c6, c7, c8, h3]
      simp
    rw [List.length_map, decide_eq_true (show (i : Int) < (vs.length : Int) by omega), decide_eq_true (show 0 ≤ (i : Int) ∧ (i : Int) < (vs.length : Int) by omega), Int.toNat_natCast, rowIs_ve hlt, pgsOK_map hp, pgsOf_map, h1, h2, he, e3, ih (i + 1) _ _ (by omega) h4]
    rfl

noncomputable def sum33 : St → (Ex → St → Ans) → Ans
  | ⟨[(8, some (.v (.one (.whole (1000008, 2000))))), (9, some (.v (.one (.whole (1000009, 2000))))), (20, some (.v (.one (.ptr (20, 0) 0 0 false)))), (21, some (.v (.one (.int .i64 i))))],
      [((1000008, 2000), some (.arr true 9 (.sp kp pl))), ((1000009, 2000), some (.arr true 9 (.sp kv ws))), ((20, 0), some (.var [.int .i64 aL, .int .i64 aG]))], 201⟩, k =>
    cond (pB (kp = Pg.ks ∧ kv = Ve.ks ∧ i = 0 ∧ ∃ (ps : List Pg) (vs : List Ve), pl = ps.map Pg.row ∧ ws = vs.map Ve.row ∧ ps.length ≤ 1000000 ∧ vs.length ≤ 1000000 ∧ ReadsTo ps vs aL aG)) (k (.exit 4) (X33 pl 0 0)) none
  | _, _ => none

theorem sum33_ok : SumOK Try.prog body33 sum33 := by
  refine SumOK.of (T := ⟨T.l, []⟩) (call := callD T EO14 F 10 10) (an := an7) (lf := 10) (id := 33) (ls := [8, 20]) (tok.dyn []) (callOKO 10 10) mixed (SumsOK.in (l := []) (by kernel_rfl) (fun b hb => by cases hb)) ?_
  intro s k r h
  unfold sum33 at h
  split at h
  case h_2 => cases h
  case h_1 k' i kp pl kv ws aL aG =>
    obtain ⟨h0, g0⟩ := cond_none h
    obtain ⟨rfl, rfl, rfl, ps, vs, rfl, rfl, hp, hv, hr⟩ := pB_of h0
    exact ⟨vs.length + 1, (run33 ps hp vs hv k vs.length 0 aL aG (by omega) hr).trans g0⟩

end Go.Proofs.Ytjbmpimclagfoaa
