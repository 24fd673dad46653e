/-
  SnapshotOrder: inclusion is a partial order with Join as its least upper bound, and a later vector sees at least as much.
-/
import Derived.Test.YtjbmpimclagfoaaSp5
import Derived.Test.YtjbmpimclagfoaaLawK
namespace Go.Proofs.Ytjbmpimclagfoaa
open Go.Eng Go.Sp Go.RowKit

def ord6 (vA vB vJ : Bool) : Option DRes := bif vA then bs (vJ == true) else bs (vJ == vB)
def ord5 (ab vA vB vJ : Bool) : Option DRes := bif ab then bif vB then bif !vA then bs false else ord6 vA vB vJ else ord6 vA vB vJ else ord6 vA vB vJ
def ord4 (ca cb cj ab vA vB vJ : Bool) : Option DRes := bif ca then bif cb then bif !cj then bs false else ord5 ab vA vB vJ else ord5 ab vA vB vJ else ord5 ab vA vB vJ
def ord3 (bc ac ca cb cj ab vA vB vJ : Bool) : Option DRes := bif ab then bif bc then bif !ac then bs false else ord4 ca cb cj ab vA vB vJ else ord4 ca cb cj ab vA vB vJ else ord4 ca cb cj ab vA vB vJ
def ord1 (aa ja jb ba eq bc ac ca cb cj ab vA vB vJ : Bool) : Option DRes :=
  bif !aa then bs false else bif !ja then bs false else bif !jb then bs false else
    bif ab then bif ba then bif !eq then bs false else ord3 bc ac ca cb cj ab vA vB vJ else ord3 bc ac ca cb cj ab vA vB vJ else ord3 bc ac ca cb cj ab vA vB vJ

theorem ord1_true {aa ja jb ba eq bc ac ca cb cj ab vA vB vJ : Bool} (h1 : aa = true) (h2 : ja = true) (h3 : jb = true) (h4 : ab = true → ba = true → eq = true) (h5 : ab = true → bc = true → ac = true)
    (h6 : ca = true → cb = true → cj = true) (h7 : ab = true → vB = true → vA = true) (h8 : vJ = (vA || vB)) : ord1 aa ja jb ba eq bc ac ca cb cj ab vA vB vJ = bs true := by
  subst h1 h2 h3
  have e6 : ord6 vA vB vJ = bs true := by subst h8; unfold ord6; cases vA <;> cases vB <;> rfl
  have e5 : ord5 ab vA vB vJ = bs true := by
    unfold ord5
    rw [e6]
    cases ab
    · rfl
    · cases vB
      · rfl
      · rw [h7 rfl rfl]; rfl
  have e4 : ord4 ca cb cj ab vA vB vJ = bs true := by
    unfold ord4
    rw [e5]
    cases ca
    · rfl
    · cases cb
      · rfl
      · rw [h6 rfl rfl]; rfl
  have e3 : ord3 bc ac ca cb cj ab vA vB vJ = bs true := by
    unfold ord3
    rw [e4]
    cases ab
    · rfl
    · cases bc
      · rfl
      · rw [h5 rfl rfl]; rfl
  unfold ord1
  rw [e3]
  cases ab
  · rfl
  · cases ba
    · rfl
    · rw [h4 rfl rfl]; rfl

theorem mx_le (a b x : Int) : mx a b ≤ x ↔ a ≤ x ∧ b ≤ x := by unfold mx; split <;> omega
theorem le_mx (a b x : Int) : x ≤ mx a b ↔ x ≤ a ∨ x ≤ b := by unfold mx; split <;> omega

theorem dec_mx (x a b : Int) : decide (x ≤ mx a b) = (decide (x ≤ a) || decide (x ≤ b)) := by
  rw [Bool.eq_iff_iff]
  simp [le_mx]

theorem vis_mx (a b c d e f a' b' c' d' e' f' s : Int) : visP (mx a a') (mx b b') (mx c c') (mx d d') (mx e e') (mx f f') s = (visP a b c d e f s || visP a' b' c' d' e' f' s) := by
  unfold visP
  cases ho : orgO s with
  | false => rfl
  | true =>
    have hr := orgO_range ho
    have : ∃ i : Nat, i < 6 ∧ Int.toNat (orgC s) = i := ⟨Int.toNat (orgC s), by omega, rfl⟩
    obtain ⟨i, hi, he⟩ := this
    rw [he]
    simp only [cond_true, Nat.mul_one, Nat.add_zero]
    match i, hi with
    | 0, _ => exact dec_mx _ _ _
    | 1, _ => exact dec_mx _ _ _
    | 2, _ => exact dec_mx _ _ _
    | 3, _ => exact dec_mx _ _ _
    | 4, _ => exact dec_mx _ _ _
    | 5, _ => exact dec_mx _ _ _

theorem vis_mono {a b c d e f a' b' c' d' e' f' s : Int} (h : a' ≤ a ∧ b' ≤ b ∧ c' ≤ c ∧ d' ≤ d ∧ e' ≤ e ∧ f' ≤ f) (hv : visP a' b' c' d' e' f' s = true) : visP a b c d e f s = true := by
  have e := vis_mx a b c d e f a' b' c' d' e' f' s
  rw [hv, Bool.or_true] at e
  have m : ∀ {x y : Int}, y ≤ x → mx x y = x := fun {x y} hxy => by unfold mx; rw [if_neg (by omega)]
  rw [m h.1, m h.2.1, m h.2.2.1, m h.2.2.2.1, m h.2.2.2.2.1, m h.2.2.2.2.2] at e
  exact e

def EO : Env := [(26, joinS), (28, inclS), (29, visS), (27, awake22S)]
theorem EO_ok : EnvOK Try.prog EO := .cons joinS_ok (.cons inclS_ok (.cons visS_ok (.cons awake22S_ok (.nil _))))

theorem order_sem (a b c d e f a' b' c' d' e' f' a2 b2 c2 d2 e2 f2 s : Int) :
    FnSem Try.prog 5 [.agg [.pc (.int .u64 a), .pc (.int .u64 b), .pc (.int .u64 c), .pc (.int .u64 d), .pc (.int .u64 e), .pc (.int .u64 f)],
      .agg [.pc (.int .u64 a'), .pc (.int .u64 b'), .pc (.int .u64 c'), .pc (.int .u64 d'), .pc (.int .u64 e'), .pc (.int .u64 f')],
      .agg [.pc (.int .u64 a2), .pc (.int .u64 b2), .pc (.int .u64 c2), .pc (.int .u64 d2), .pc (.int .u64 e2), .pc (.int .u64 f2)], .one (.pc (.int .u64 s))] (.v (.one (.pc (.bool true)))) := by
  refine sem EO_ok (lf := 10) (depth := 10) ?_
  have h : ∀ A B C D E G A' B' C' D' E' G' A2 B2 C2 D2 E2 G2 S : Int, Int.tmod a 5 = A → Int.tmod b 5 = B → Int.tmod c 5 = C → Int.tmod d 5 = D → Int.tmod e 5 = E → Int.tmod f 5 = G →
      Int.tmod a' 5 = A' → Int.tmod b' 5 = B' → Int.tmod c' 5 = C' → Int.tmod d' 5 = D' → Int.tmod e' 5 = E' → Int.tmod f' 5 = G' →
      Int.tmod a2 5 = A2 → Int.tmod b2 5 = B2 → Int.tmod c2 5 = C2 → Int.tmod d2 5 = D2 → Int.tmod e2 5 = E2 → Int.tmod f2 5 = G2 →
      IntKind.wrap .u64 (Int.tmod s 7 + IntKind.wrap .u64 (Int.tmod (IntKind.wrap .u64 (Int.tdiv s 7)) 6 * 256)) = S →
      callD T EO F 10 10 5 [.agg [.pc (.int .u64 a), .pc (.int .u64 b), .pc (.int .u64 c), .pc (.int .u64 d), .pc (.int .u64 e), .pc (.int .u64 f)],
        .agg [.pc (.int .u64 a'), .pc (.int .u64 b'), .pc (.int .u64 c'), .pc (.int .u64 d'), .pc (.int .u64 e'), .pc (.int .u64 f')],
        .agg [.pc (.int .u64 a2), .pc (.int .u64 b2), .pc (.int .u64 c2), .pc (.int .u64 d2), .pc (.int .u64 e2), .pc (.int .u64 f2)], .one (.pc (.int .u64 s))] some =
      ord1 (inclP A B C D E G A B C D E G) (inclP (mx A A') (mx B B') (mx C C') (mx D D') (mx E E') (mx G G') A B C D E G) (inclP (mx A A') (mx B B') (mx C C') (mx D D') (mx E E') (mx G G') A' B' C' D' E' G')
        (inclP A' B' C' D' E' G' A B C D E G) (bif A == A' then bif B == B' then bif C == C' then bif D == D' then bif E == E' then bif G == G' then true else false else false else false else false else false else false)
        (inclP A' B' C' D' E' G' A2 B2 C2 D2 E2 G2) (inclP A B C D E G A2 B2 C2 D2 E2 G2) (inclP A2 B2 C2 D2 E2 G2 A B C D E G) (inclP A2 B2 C2 D2 E2 G2 A' B' C' D' E' G')
        (inclP A2 B2 C2 D2 E2 G2 (mx A A') (mx B B') (mx C C') (mx D D') (mx E E') (mx G G')) (inclP A B C D E G A' B' C' D' E' G')
        (visP A B C D E G S) (visP A' B' C' D' E' G' S) (visP (mx A A') (mx B B') (mx C C') (mx D D') (mx E E') (mx G G') S) := by
    intro A B C D E G A' B' C' D' E' G' A2 B2 C2 D2 E2 G2 S h1 h2 h3 h4 h5 h6 h7 h8 h9 h10 h11 h12 h13 h14 h15 h16 h17 h18 h19
    subst h1 h2 h3 h4 h5 h6 h7 h8 h9 h10 h11 h12 h13 h14 h15 h16 h17 h18 h19
    kernel_rfl
  rw [h _ _ _ _ _ _ _ _ _ _ _ _ _ _ _ _ _ _ _ rfl rfl rfl rfl rfl rfl rfl rfl rfl rfl rfl rfl rfl rfl rfl rfl rfl rfl rfl]
  refine ord1_true ?_ ?_ ?_ (fun i1 i2 => ?_) (fun i1 i2 => ?_) (fun i1 i2 => ?_) (fun i1 i2 => ?_) (vis_mx _ _ _ _ _ _ _ _ _ _ _ _ _)
  · rw [incl_of]; exact decide_eq_true (by omega)
  · rw [incl_of]; exact decide_eq_true (by simp only [le_mx]; omega)
  · rw [incl_of]; exact decide_eq_true (by simp only [le_mx]; omega)
  · rw [incl_of] at i1 i2
    have i1 := of_decide_eq_true i1
    have i2 := of_decide_eq_true i2
    have e : ∀ {x y : Int}, x ≤ y → y ≤ x → (x == y) = true := fun h1 h2 => by simp; omega
    rw [e i2.1 i1.1, e i2.2.1 i1.2.1, e i2.2.2.1 i1.2.2.1, e i2.2.2.2.1 i1.2.2.2.1, e i2.2.2.2.2.1 i1.2.2.2.2.1, e i2.2.2.2.2.2 i1.2.2.2.2.2]
    rfl
  · rw [incl_of] at i1 i2 ⊢
    have i1 := of_decide_eq_true i1
    have i2 := of_decide_eq_true i2
    exact decide_eq_true (by omega)
  · rw [incl_of] at i1 i2 ⊢
    have i1 := of_decide_eq_true i1
    have i2 := of_decide_eq_true i2
    exact decide_eq_true (by simp only [mx_le]; omega)
  · rw [incl_of] at i1
    exact vis_mono (of_decide_eq_true i1) i2

set_option maxRecDepth 100000 in
theorem order_lifted (os : Os) (started : os.Started) (H : Type) (enc : TypeId × Value → H) :
    ReturnsInHanded {} Try.checked os 5 .any (Rows.snapshotOrderSpec.pre6 enc Try.prog Try.f5 Rows.snapshotOrderRow.domain false) (Rows.snapshotOrderSpec.post enc Try.prog Try.f5 false true false false) :=
  law_lifted (C := Try.checked) (s := Rows.snapshotOrderSpec) (conds := Rows.snapshotOrderRow.domain) (apart := false) (fresh := true) (handsOn := false) (again := false) own started (by kernel_rfl) Try.func5
    (ChangeSpec.witness6 (enc := enc) (C := Try.checked) false ⟨#[], #[.agg #[.int .u64 0, .int .u64 0, .int .u64 0, .int .u64 0, .int .u64 0, .int .u64 0], .agg #[.int .u64 0, .int .u64 0, .int .u64 0, .int .u64 0, .int .u64 0, .int .u64 0], .agg #[.int .u64 0, .int .u64 0, .int .u64 0, .int .u64 0, .int .u64 0, .int .u64 0], .int .u64 0], []⟩ 8 (by kernel_rfl) (by kernel_rfl) (by kernel_rfl) (by kernel_rfl))
    laid (fun t ht => List.all_eq_true.1 (show (Try.f5.params.toList.all fun t => argB Try.prog t) = true by kernel_rfl) t ht) (rt := 4) rfl und4 rfl
    (fun ds hds => by
      match ds, hds with
      | [_, _, _, _], _ => rfl)
    (fun l hl => by
      obtain ⟨d1, l1, rfl, h1, hl⟩ := all2_cons hl
      obtain ⟨d2, l2, rfl, h2, hl⟩ := all2_cons hl
      obtain ⟨d3, l3, rfl, h3, hl⟩ := all2_cons hl
      obtain ⟨d4, l4, rfl, h4, hl⟩ := all2_cons hl
      obtain rfl := all2_nil hl
      obtain ⟨a, b, c, d, e, f, rfl, _⟩ := open_vec h1
      obtain ⟨a', b', c', d', e', f', rfl, _⟩ := open_vec h2
      obtain ⟨a2, b2, c2, d2, e2, f2, rfl, _⟩ := open_vec h3
      obtain ⟨s, rfl, _⟩ := h4.int und22
      exact order_sem a b c d e f a' b' c' d' e' f' a2 b2 c2 d2 e2 f2 s
)

theorem order_law : Rows.SnapshotOrderSaid :=
  OpenClaim.holds_of_wide 5 Try.f5 rfl rfl rfl rfl rfl rfl rfl ⟨rfl, rfl, rfl, rfl, rfl⟩ rfl rfl rfl rfl rfl (by kernel_rfl) Try.func5 (by kernel_rfl)
    (of_decide_eq_true (by kernel_rfl)) (by unfold Func.isWrapper; first | (rw [if_pos (by decide +kernel)]; kernel_rfl) | (rw [if_neg (by decide +kernel)]; exact ⟨rfl, rfl⟩))
    (fun os started H enc _ => order_lifted os started H enc)

end Go.Proofs.Ytjbmpimclagfoaa
