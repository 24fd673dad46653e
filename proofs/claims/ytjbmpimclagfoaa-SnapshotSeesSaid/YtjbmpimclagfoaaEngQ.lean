/-
  Soundness of the evaluator's operations on addresses and memory.
-/
import Derived.Test.YtjbmpimclagfoaaEngP
namespace Go.Eng
open Go.RowKit

/-- One more name. -/
def upd (β : Bt) (x : Nm) (bi : BI) : Bt := fun y => cond (nmb x y) (some bi) (β y)

theorem upd_same (β : Bt) (x : Nm) (bi : BI) : upd β x bi x = some bi := by simp [upd, nmb_self]
theorem upd_other (β : Bt) {x y : Nm} (bi : BI) (h : x ≠ y) : upd β x bi y = β y := by simp [upd, nmb_false.2 h]
theorem upd_ext {β : Bt} {x : Nm} (hx : β x = none) (bi : BI) : ∀ y bj, β y = some bj → upd β x bi y = some bj := fun y bj hy => by
  by_cases h : x = y
  · subst h; rw [hx] at hy; cases hy
  · rw [upd_other β bi h]; exact hy

theorem heap_push_new (w : World) (o : Obj) : (w.alloc o).heap[w.heap.size]? = some o := heap_alloc_new w o

/-- A new block, under a new name. -/
theorem Eff.newBlock {B : Nat} {β : Bt} {w : World} {x : Nm} {bi : BI} {blk : Blk} {o : Obj} (hx : β x = none) (hB : B ≤ w.heap.size) (hbi : bi.real → bi.b = w.heap.size)
    (hrel : BRel (upd β x bi) B (w.alloc o) bi blk) : Eff B β (upd β x bi) [(x, some blk)] w (w.alloc o) where
  ext := upd_ext hx bi
  dom y bj hy hn := by
    by_cases h : x = y
    · subst h; exact ⟨_, List.mem_singleton.2 rfl⟩
    · rw [upd_other β bi h, hn] at hy; cases hy
  def_ y b hm := by
    simp only [List.mem_singleton, Prod.mk.injEq] at hm
    rw [hm.1]; exact ⟨bi, upd_same β x bi⟩
  below := (Below.refl B w).alloc hB o
  keep k hk _ := Below.heap_alloc w o k hk
  blks y b hm := by
    simp only [List.mem_singleton, Prod.mk.injEq, Option.some.injEq] at hm
    obtain ⟨rfl, rfl⟩ := hm
    exact ⟨bi, upd_same β y bi, hrel⟩
  new y bj hn hy hr := by
    by_cases h : x = y
    · subst h
      rw [upd_same] at hy
      obtain rfl : bi = bj := by injection hy
      exact .inl (by rw [hbi hr]; omega)
    · rw [upd_other β bi h, hn] at hy; cases hy
  newinj y z bj bk hn hn' hy hz _ _ _ := by
    by_cases h : x = y
    · by_cases h' : x = z
      · rw [← h, ← h']
      · rw [upd_other β bi h', hn'] at hz; cases hz
    · rw [upd_other β bi h, hn] at hy; cases hy

theorem Below.setRow' {B : Nat} {w : World} {g : Nat} (hg : B ≤ g) (cs : Array Value) : Below B w (w.setRow g cs) :=
  ⟨rfl, rfl, rfl, by simp, fun k hk => setRow_other w g k cs (by omega)⟩

/-- A write into a block that has a name. -/
theorem Eff.write {B : Nat} {β : Bt} {w : World} {x : Nm} {bi : BI} {blk' : Blk} {arr' : Array Value} (hx : β x = some bi) (hr : bi.real) (hB : B ≤ bi.b)
    (hrel : BRel β B (w.setRow bi.b arr') bi blk') : Eff B β β [(x, some blk')] w (w.setRow bi.b arr') where
  ext _ _ h := h
  dom _ _ h h' := by rw [h'] at h; cases h
  def_ y b hm := by
    simp only [List.mem_singleton, Prod.mk.injEq] at hm
    rw [hm.1]; exact ⟨bi, hx⟩
  below := Below.setRow' hB arr'
  keep k _ hk := setRow_other w bi.b k arr' (fun e => hk x (some blk') bi (List.mem_singleton.2 rfl) hx hr e.symm)
  blks y b hm := by
    simp only [List.mem_singleton, Prod.mk.injEq, Option.some.injEq] at hm
    obtain ⟨rfl, rfl⟩ := hm
    exact ⟨bi, hx, hrel⟩
  new _ _ h h' := by rw [h] at h'; cases h'
  newinj _ _ _ _ h _ h' := by rw [h] at h'; cases h'

section
variable {P : Program} {T : TT} {B : Nat} {β : Bt} {w w0 : World} {s : St} {a : Act}

theorem live_ok (hr : RWs B w0 β s a w) {x : Nm} {blk : Blk} (h : live s.store x = some blk) : ∃ bi, β x = some bi ∧ BRel β B w bi blk := by
  unfold live at h
  split at h
  · rename_i b hf
    simp only [Option.some.injEq] at h
    subst h
    exact hr.blk x b hf
  · cases h

theorem eLoad_ok (hT : TOK P T) (hr : RWs B w0 β s a w) {t : TypeId} {c : Cell} {vc : Value} {v : SV} {ups : List Up} (h : eLoad T s t c = some (true, v, ups)) (hc : CRel β c vc) :
    ups = [] ∧ ∃ vv, (Instr.loadAt t vc).run P w = .ok vv w ∧ SRel β v vv := by
  cases c <;> try (simp [eLoad] at h; done)
  case ptr x i j dy =>
    obtain ⟨bi, hbi, rfl⟩ := hc
    simp only [eLoad] at h
    cases hl : live s.store x with
    | none => rw [hl] at h; simp at h
    | some blk =>
      cases he : tt T t with
      | none => rw [hl, he] at h; simp at h
      | some e =>
        rw [hl, he] at h
        simp only at h
        have hte := hT t e he
        obtain ⟨bi2, hbi2, hrel⟩ := live_ok hr hl
        rw [hbi] at hbi2
        obtain rfl : bi = bi2 := by injection hbi2
        cases hag : e.agg with
        | true =>
          rw [hag] at h
          simp only [cond_true] at h
          cases hq : rdN blk i j e.size dy with
          | none => rw [hq] at h; simp at h
          | some r =>
            obtain ⟨ob, cs⟩ := r
            rw [hq] at h
            simp only [Option.some.injEq, Prod.mk.injEq] at h
            obtain ⟨rfl, rfl, rfl⟩ := h
            obtain ⟨vs, h1, h2, h3⟩ := rdN_ok hq hrel
            refine ⟨rfl, _, ?_, vs, rfl, h2⟩
            simp only [Instr.loadAt, Instr.sureAddr, Sem.run_bind, Sem.run_pure, Result.andThen_ok]
            exact run_loadVar_agg hte hag h1 h3
        | false =>
          rw [hag] at h
          simp only [cond_false] at h
          cases hq : rd1 blk i j dy with
          | none => rw [hq] at h; simp at h
          | some r =>
            obtain ⟨ob, c⟩ := r
            rw [hq] at h
            simp only [Option.some.injEq, Prod.mk.injEq] at h
            obtain ⟨rfl, rfl, rfl⟩ := h
            obtain ⟨vv, h1, h2⟩ := rd1_ok hq hrel
            refine ⟨rfl, vv, ?_, h2⟩
            simp only [Instr.loadAt, Instr.sureAddr, Sem.run_bind, Sem.run_pure, Result.andThen_ok]
            exact run_loadVar_cell hte hag h1

theorem All2.oneCell {cs : List Cell} {vs : List Value} (h : All2 (CRel β) cs vs) : ∀ x ∈ vs, x.oneCell' = true := by
  induction cs generalizing vs with
  | nil => cases vs with
    | nil => intro x hx; cases hx
    | cons => simp [All2] at h
  | cons c cs ih => cases vs with
    | nil => simp [All2] at h
    | cons v vs =>
      intro x hx
      rcases List.mem_cons.1 hx with rfl | hx
      · exact CRel.oneCell h.1
      · exact ih h.2 x hx

theorem eStore_ok (hT : TOK P T) (hr : RWs B w0 β s a w) {t : TypeId} {x : V1} {c : Cell} {vc vx : Value} {v : SV} {ups : List Up} (h : eStore T s t x c = some (true, v, ups)) (hc : CRel β c vc) (hx : V1Rel β x vx) :
    v = .tup [] ∧ ∃ w', (Instr.storeAt t vc vx).run P w = .ok () w' ∧ Eff B β β ups w w' := by
  cases c <;> try (simp [eStore] at h; done)
  case ptr y i j dy =>
    obtain ⟨bi, hbi, rfl⟩ := hc
    simp only [eStore] at h
    cases hl : live s.store y with
    | none => rw [hl] at h; simp at h
    | some blk =>
      cases he : tt T t with
      | none => rw [hl, he] at h; simp at h
      | some e =>
        rw [hl, he] at h
        simp only at h
        obtain ⟨hsz, h⟩ := cond_none h
        have hte := hT t e he
        obtain ⟨bi2, hbi2, hrel⟩ := live_ok hr hl
        rw [hbi] at hbi2
        obtain rfl : bi = bi2 := by injection hbi2
        cases hq : wrB blk i j dy x.cells with
        | none => rw [hq] at h; simp at h
        | some r =>
          obtain ⟨ob, blk'⟩ := r
          rw [hq] at h
          simp only [Option.some.injEq, Prod.mk.injEq] at h
          obtain ⟨rfl, rfl, rfl⟩ := h
          have hxc := hx.cells
          obtain ⟨cur, ty, arr', h1, h2, h3, h4, h5, h6⟩ := wrB_ok hq hrel hxc
          refine ⟨rfl, w.setRow bi.b arr', ?_, Eff.write hbi h4 h5 h6⟩
          have hl2 : vx.cells.size = e.size := by
            have := beq_iff.1 hsz
            rw [len_eq, hxc.length] at this
            simpa using this
          have := run_storeVar (P := P) hte (o := bi.o + i * bi.sz + j) hl2 h1 (by simpa using h2) hxc.oneCell
          simp only [Instr.storeAt, Instr.sureAddr, Sem.run_bind, Sem.run_pure, Result.andThen_ok, this, h3]
          simp

theorem run_newRow (t : TypeId) (cells : Array Value) : (newRow t cells).run P w = .ok ⟨w.heap.size, 0, none⟩ (w.alloc (.cells cells t)) := by
  simp only [newRow, Sem.run_bind, run_newObj, Result.andThen_ok, Sem.run_pure]
  rfl

theorem newVar_ok (hB : B ≤ w.heap.size) {x : Nm} (hx : β x = none) {cs : List Cell} {cells : Array Value} {t : TypeId} (hc : All2 (CRel β) cs cells.toList) :
    ∃ β', CRel β' (.ptr x 0 0 false) (.pointer (some ⟨w.heap.size, 0, none⟩)) ∧ Eff B β β' [(x, some (.var cs))] w (w.alloc (.cells cells t)) := by
  refine ⟨upd β x ⟨w.heap.size, 0, 0, true, 1, 0⟩, ⟨_, upd_same _ _ _, by simp⟩, Eff.newBlock hx hB (fun _ => rfl) ?_⟩
  exact ⟨rfl, by simp, rfl, hB, cells, t, heap_push_new w _, hc.mono fun _ _ => CRel.mono (upd_ext hx _)⟩

theorem eFieldAddr_ok (hT : TOK P T) {t : TypeId} {f : Nat} {c : Cell} {vc : Value} {v : SV} {ups : List Up} (h : eFieldAddr T t f c = some (true, v, ups)) (hc : CRel β c vc) :
    ups = [] ∧ ∃ vv, (Instr.fieldAt t vc f).run P w = .ok vv w ∧ SRel β v vv := by
  cases c <;> try (simp [eFieldAddr] at h; done)
  case ptr x i j dy =>
    obtain ⟨bi, hbi, rfl⟩ := hc
    simp only [eFieldAddr] at h
    split at h
    case h_2 => cases h
    case h_1 =>
      rename_i fs _ _ _ _ he
      split at h
      case h_2 => cases h
      case h_1 ty off hn =>
        split at h
        case h_2 => cases h
        case h_1 e hty =>
          cases hz : Nat.beq e.size 0 with
          | true => rw [hz] at h; simp at h
          | false =>
            rw [hz] at h
            simp only [cond_false, ok1, Option.some.injEq, Prod.mk.injEq, true_and] at h
            obtain ⟨rfl, rfl⟩ := h
            obtain ⟨F, hF, hfb, places, hpl⟩ := (hT t _ he).und
            obtain ⟨⟨fl, hfl, rfl, rfl⟩, _⟩ := nth_places hpl hfb hn
            have hfl' : F[f]? = some fl := by simpa using hfl
            refine ⟨rfl, _, ?_, bi, hbi, rfl⟩
            have hne := beq_false.1 hz
            simp only [Instr.fieldAt, Sem.run_bind, run_underlying hF, Result.andThen_ok, hfl', Instr.sureAddr, Sem.run_pure, fieldPlace, (hT _ _ hty).sizeOf, hne, if_false, add_none]
            simp [Nat.add_assoc]

theorem eIndexAddr_ok (hT : TOK P T) (hr : RWs B w0 β s a w) {t : TypeId} {dy : Bool} {c ix : Cell} {vc vi : Value} {v : SV} {ups : List Up} (h : eIndexAddr T s t dy c ix = some (true, v, ups)) (hc : CRel β c vc) (hi : CRel β ix vi) :
    ups = [] ∧ ∃ vv, (Instr.indexAt t vc vi).run P w = .ok vv w ∧ SRel β v vv := by
  cases ix <;> try (cases c <;> simp [eIndexAddr] at h; done)
  case int k n =>
    obtain rfl : vi = .int k n := hi
    cases c <;> try (simp [eIndexAddr] at h; done)
    case ptr x i j dy0 =>
      obtain ⟨bi, hbi, rfl⟩ := hc
      simp only [eIndexAddr] at h
      split at h
      case h_2 => cases h
      case h_1 =>
        rename_i m el _ _ _ _ he
        split at h
        case h_2 => cases h
        case h_1 e hel =>
          simp only [Option.some.injEq, Prod.mk.injEq] at h
          obtain ⟨h1, rfl, rfl⟩ := h
          have hb := of_decide_eq_true h1
          have hu : P.underlying t = some (.array m el) := (hT t _ he).und
          refine ⟨rfl, _, ?_, bi, hbi, rfl⟩
          simp only [Instr.indexAt, asIntOf, Sem.run_bind, Sem.run_pure, Result.andThen_ok, run_underlying hu, Instr.sureAddr, hb, if_true, and_self, (hT el e hel).sizeOf, add_none, Sem.run_ite]
          have : bi.o + i * bi.sz + j + n.toNat * e.size = bi.o + i * bi.sz + (n.toNat * e.size + j) := by omega
          simp [this]
    case whole x =>
      obtain ⟨bi, hbi, av, cap, rfl, hcap, hlen, hown, had⟩ := hc
      simp only [eIndexAddr] at h
      split at h
      case h_2 => cases h
      case h_1 =>
        rename_i el _ _ _ _ he
        split at h
        case h_2 => cases h
        case h_1 e own sz els hel hl =>
          obtain ⟨hsz, h⟩ := cond_none h
          simp only [Option.some.injEq, Prod.mk.injEq] at h
          obtain ⟨h1, rfl, rfl⟩ := h
          have hb := of_decide_eq_true h1
          have hu : P.underlying t = some (.slice el) := (hT t _ he).und
          obtain ⟨bi2, hbi2, hrel⟩ := live_ok hr hl
          rw [hbi] at hbi2
          obtain rfl : bi = bi2 := by injection hbi2
          have hsz' : bi.sz = e.size := by rw [hrel.2.1, beq_iff.1 hsz]
          have hle : bi.len = els.len := by rw [els.len_eq]; exact hrel.2.2.1
          have hpos : 0 < bi.len := by rw [hle]; omega
          have hav := had (.inr hpos)
          subst hav
          refine ⟨rfl, _, ?_, bi, hbi, rfl⟩
          have hb' : 0 ≤ n ∧ n < (bi.len : Int) := by rw [hle]; exact hb
          simp only [Instr.indexAt, asIntOf, Sem.run_bind, Sem.run_pure, Result.andThen_ok, run_underlying hu, hb', if_true, and_self, (hT el e hel).sizeOf, add_none, Sem.run_ite]
          simp [hsz']
    case sl x off ln =>
      obtain ⟨bi, hbi, av, cap, rfl, hcap, hlen, hown, had⟩ := hc
      simp only [eIndexAddr] at h
      split at h
      case h_2 => cases h
      case h_1 =>
        rename_i el _ _ _ _ he
        split at h
        case h_2 => cases h
        case h_1 e own sz els hel hl =>
          obtain ⟨hsz, h⟩ := cond_none h
          simp only [Option.some.injEq, Prod.mk.injEq] at h
          obtain ⟨h1, rfl, rfl⟩ := h
          have hb := of_decide_eq_true h1
          have hu : P.underlying t = some (.slice el) := (hT t _ he).und
          obtain ⟨bi2, hbi2, hrel⟩ := live_ok hr hl
          rw [hbi] at hbi2
          obtain rfl : bi = bi2 := by injection hbi2
          have hsz' : bi.sz = e.size := by rw [hrel.2.1, beq_iff.1 hsz]
          have hpos : 0 < ln := by omega
          have hav := had (.inr hpos)
          subst hav
          refine ⟨rfl, _, ?_, bi, hbi, rfl⟩
          simp only [Instr.indexAt, asIntOf, Sem.run_bind, Sem.run_pure, Result.andThen_ok, run_underlying hu, hb, if_true, and_self, (hT el e hel).sizeOf, add_none, Sem.run_ite]
          simp [hsz', Nat.add_mul, Nat.add_assoc]

theorem intOr_ok (hr : RWs B w0 β s a w) {z n : Int} {x : Option Operand} (h : intOr s z x = some n) : (x = none ∧ n = z) ∨ ∃ y k, x = some y ∧ a.eval y = .int k n := by
  cases x with
  | none => simp only [intOr, Option.some.injEq] at h; exact .inl ⟨rfl, h.symm⟩
  | some y =>
    simp only [intOr] at h
    split at h
    case h_2 => cases h
    case h_1 k m he =>
      simp only [Option.some.injEq] at h
      subst h
      exact .inr ⟨y, k, rfl, evc_ok hr he⟩

theorem run_bounds {lo hi : Option Operand} {l h : Int} {ln cap : Nat} (hlo : (lo = none ∧ l = 0) ∨ ∃ y k, lo = some y ∧ a.eval y = .int k l) (hhi : (hi = none ∧ h = (ln : Int)) ∨ ∃ y k, hi = some y ∧ a.eval y = .int k h)
    (hc : ln ≤ cap) (hb : 0 ≤ l ∧ l ≤ h ∧ h ≤ (ln : Int)) : (Instr.sliceBounds true ln cap (lo.map a.eval) (hi.map a.eval) none).run P w = .ok (l.toNat, h.toNat, cap) w := by
  obtain ⟨h1, h2, h3⟩ := hb
  have c1 : 0 ≤ h ∧ h ≤ (cap : Int) := by omega
  have c2 : 0 ≤ l ∧ l ≤ ((h.toNat : Nat) : Int) := by omega
  rcases hlo with ⟨rfl, rfl⟩ | ⟨y, k, rfl, hy⟩ <;> rcases hhi with ⟨rfl, rfl⟩ | ⟨z, k', rfl, hz⟩
  · simp [Instr.sliceBounds]
  · simp only [Instr.sliceBounds, Option.map_none, Option.map_some, hz, Instr.sliceBound, asIntOf, Sem.run_bind, Sem.run_pure, Result.andThen_ok, Sem.run_ite, c1, and_self, if_true]
    rfl
  · simp only [Instr.sliceBounds, Option.map_none, Option.map_some, hy, Instr.sliceBound, asIntOf, Sem.run_bind, Sem.run_pure, Result.andThen_ok, Sem.run_ite]
    have c3 : 0 ≤ l ∧ l ≤ (ln : Int) := by omega
    simp [c3]
  · simp only [Instr.sliceBounds, Option.map_some, hy, hz, Instr.sliceBound, asIntOf, Sem.run_bind, Sem.run_pure, Result.andThen_ok, Sem.run_ite, c1, c2, and_self, if_true]

theorem sl_cut {bi : BI} {off ln : Nat} {av : Option Addr} {cap : Nat} {l h : Int} {size : Nat} (hcap : ln ≤ cap) (hlen : off + ln ≤ bi.len) (hown : bi.own = true → off + cap = bi.cap)
    (had : (bi.own = true ∧ 0 < cap) ∨ 0 < ln → av = some ⟨bi.b, bi.o + off * bi.sz, none⟩) (hb : 0 ≤ l ∧ l ≤ h ∧ h ≤ (ln : Int)) (hsz : bi.sz = size) :
    SlRel bi (off + l.toNat) (h.toNat - l.toNat) (.slice (if cap = l.toNat then av else av.map (·.add (l.toNat * size))) (h.toNat - l.toNat) (cap - l.toNat)) := by
  refine ⟨_, _, rfl, by omega, by omega, fun ho => by have := hown ho; omega, fun hc => ?_⟩
  have hne : ¬ cap = l.toNat := by
    rcases hc with ⟨_, h1⟩ | h1 <;> omega
  rw [if_neg hne]
  have := had (by rcases hc with ⟨h0, h1⟩ | h1
                  · exact .inl ⟨h0, by omega⟩
                  · exact .inr (by omega))
  rw [this, Option.map_some, add_none, hsz, Nat.add_mul, Nat.add_assoc]

theorem eSlice_ok (hT : TOK P T) (hr : RWs B w0 β s a w) {t : TypeId} {lo hi : Option Operand} {c : Cell} {vc : Value} {v : SV} {ups : List Up} (h : eSlice T s t lo hi c = some (true, v, ups)) (hc : CRel β c vc) :
    ups = [] ∧ ∃ vv, (Instr.sliceAt t vc (lo.map a.eval) (hi.map a.eval) none).run P w = .ok vv w ∧ SRel β v vv := by
  cases c <;> try (simp [eSlice] at h; done)
  case whole x =>
    obtain ⟨bi, hbi, av, cap, rfl, hcap, hlen, hown, had⟩ := hc
    simp only [eSlice] at h
    split at h
    case h_2 => cases h
    case h_1 =>
      rename_i el _ _ _ _ he
      split at h
      case h_2 => cases h
      case h_1 e own sz els hel hl =>
        split at h
        case h_2 => cases h
        case h_1 l hh hlo hhi =>
          obtain ⟨hsz, h⟩ := cond_none h
          simp only [Option.some.injEq, Prod.mk.injEq] at h
          obtain ⟨h1, rfl, rfl⟩ := h
          have hb := of_decide_eq_true h1
          have hu : P.underlying t = some (.slice el) := (hT t _ he).und
          obtain ⟨bi2, hbi2, hrel⟩ := live_ok hr hl
          rw [hbi] at hbi2
          obtain rfl : bi = bi2 := by injection hbi2
          have hle : bi.len = els.len := by rw [els.len_eq]; exact hrel.2.2.1
          rw [← hle] at hb hhi
          have hrun := run_bounds (P := P) (w := w) (intOr_ok hr hlo) (intOr_ok hr hhi) hcap hb
          have hq : (Instr.sliceAt t (.slice av bi.len cap) (lo.map a.eval) (hi.map a.eval) none).run P w = .ok (.slice (if cap = l.toNat then av else av.map (·.add (l.toNat * e.size))) (hh.toNat - l.toNat) (cap - l.toNat)) w := by
            simp only [Instr.sliceAt, Instr.slice, Sem.run_bind, run_underlying hu, Result.andThen_ok, hrun, (hT el e hel).sizeOf, Sem.run_pure]
          refine ⟨rfl, _, hq, bi, hbi, ?_⟩
          · have := sl_cut (size := e.size) hcap hlen hown had hb (by rw [hrel.2.1, beq_iff.1 hsz])
            simpa using this
  case sl x off ln =>
    obtain ⟨bi, hbi, av, cap, rfl, hcap, hlen, hown, had⟩ := hc
    simp only [eSlice] at h
    split at h
    case h_2 => cases h
    case h_1 =>
      rename_i el _ _ _ _ he
      split at h
      case h_2 => cases h
      case h_1 e own sz els hel hl =>
        split at h
        case h_2 => cases h
        case h_1 l hh hlo hhi =>
          obtain ⟨hsz, h⟩ := cond_none h
          simp only [Option.some.injEq, Prod.mk.injEq] at h
          obtain ⟨h1, rfl, rfl⟩ := h
          have hb := of_decide_eq_true h1
          have hu : P.underlying t = some (.slice el) := (hT t _ he).und
          obtain ⟨bi2, hbi2, hrel⟩ := live_ok hr hl
          rw [hbi] at hbi2
          obtain rfl : bi = bi2 := by injection hbi2
          have hrun := run_bounds (P := P) (w := w) (intOr_ok hr hlo) (intOr_ok hr hhi) hcap hb
          have hq : (Instr.sliceAt t (.slice av ln cap) (lo.map a.eval) (hi.map a.eval) none).run P w = .ok (.slice (if cap = l.toNat then av else av.map (·.add (l.toNat * e.size))) (hh.toNat - l.toNat) (cap - l.toNat)) w := by
            simp only [Instr.sliceAt, Instr.slice, Sem.run_bind, run_underlying hu, Result.andThen_ok, hrun, (hT el e hel).sizeOf, Sem.run_pure]
          refine ⟨rfl, _, hq, bi, hbi, ?_⟩
          · exact sl_cut (size := e.size) hcap hlen hown had hb (by rw [hrel.2.1, beq_iff.1 hsz])
  case nils =>
    obtain rfl : vc = .slice none 0 0 := hc
    simp only [eSlice] at h
    split at h
    case h_2 => cases h
    case h_1 =>
      rename_i el _ _ _ _ he
      split at h
      case h_2 => cases h
      case h_1 e l hh hel hlo hhi =>
        simp only [Option.some.injEq, Prod.mk.injEq] at h
        obtain ⟨h1, rfl, rfl⟩ := h
        have hb := of_decide_eq_true h1
        have hu : P.underlying t = some (.slice el) := (hT t _ he).und
        have hrun := run_bounds (P := P) (w := w) (intOr_ok hr hlo) (intOr_ok hr hhi) (Nat.le_refl 0) hb
        have hl0 : l.toNat = 0 := by omega
        have hh0 : hh.toNat = 0 := by omega
        rw [hl0, hh0] at hrun
        have hq : (Instr.sliceAt t (.slice none 0 0) (lo.map a.eval) (hi.map a.eval) none).run P w = .ok (.slice none 0 0) w := by
          simp only [Instr.sliceAt, Instr.slice, Sem.run_bind, run_underlying hu, Result.andThen_ok, hrun, (hT el e hel).sizeOf, Sem.run_pure]
          rfl
        exact ⟨rfl, _, hq, rfl⟩

theorem eLen_ok (hT : TOK P T) (hr : RWs B w0 β s a w) {t ty : TypeId} {x : V1} {vx : Value} {v : SV} {ups : List Up} (h : eLen T s t x = some (true, v, ups)) (hx : V1Rel β x vx) :
    ups = [] ∧ ∃ vv, (Builtin.len_ #[t] ty #[vx]).run P w = .ok vv w ∧ SRel β v vv := by
  cases x with
  | agg cs =>
    obtain ⟨vs, rfl, _⟩ := hx
    simp only [eLen] at h
    split at h
    case h_2 => cases h
    case h_1 =>
      rename_i n _ _ _ _ _ he
      simp only [ok1, Option.some.injEq, Prod.mk.injEq, true_and] at h
      obtain ⟨rfl, rfl⟩ := h
      have hu := (hT t _ he).und
      simp only at hu
      exact ⟨rfl, _, by simp [Builtin.len_, run_underlying hu, goInt], rfl⟩
  | one c =>
    cases c <;> try (simp [eLen] at h; done)
    case whole y =>
      obtain ⟨bi, hbi, av, cap, rfl, _⟩ := hx
      simp only [eLen] at h
      split at h
      case h_2 => cases h
      case h_1 =>
        rename_i he hl
        simp only [ok1, Option.some.injEq, Prod.mk.injEq, true_and] at h
        obtain ⟨rfl, rfl⟩ := h
        have hu := (hT t _ he).und
        simp only at hu
        obtain ⟨bi2, hbi2, hrel⟩ := live_ok hr hl
        rw [hbi] at hbi2
        obtain rfl : bi = bi2 := by injection hbi2
        refine ⟨rfl, _, by simp [Builtin.len_, run_underlying hu, goInt]; rfl, ?_⟩
        rw [hrel.2.2.1, Els.len_eq]
        rfl
    case sl y off ln =>
      obtain ⟨bi, hbi, av, cap, rfl, _⟩ := hx
      simp only [eLen] at h
      split at h
      case h_2 => cases h
      case h_1 =>
        rename_i he
        simp only [ok1, Option.some.injEq, Prod.mk.injEq, true_and] at h
        obtain ⟨rfl, rfl⟩ := h
        have hu := (hT t _ he).und
        simp only at hu
        exact ⟨rfl, _, by simp [Builtin.len_, run_underlying hu, goInt], rfl⟩
    case nils =>
      obtain rfl : vx = .slice none 0 0 := hx
      simp only [eLen] at h
      split at h
      case h_2 => cases h
      case h_1 =>
        rename_i he
        simp only [ok1, Option.some.injEq, Prod.mk.injEq, true_and] at h
        obtain ⟨rfl, rfl⟩ := h
        have hu := (hT t _ he).und
        simp only at hu
        exact ⟨rfl, _, by simp [Builtin.len_, run_underlying hu, goInt], rfl⟩

theorem eMax_ok {mx : Bool} {c d : Cell} {vc vd : Value} {v : SV} {ups : List Up} (h : eMax mx c d = some (true, v, ups)) (hc : CRel β c vc) (hd : CRel β d vd) (ts : Array TypeId) (ty : TypeId) :
    ups = [] ∧ ∃ vv, (cond mx (Builtin.max_ ts ty #[vc, vd]) (Builtin.min_ ts ty #[vc, vd])).run P w = .ok vv w ∧ SRel β v vv := by
  cases c <;> cases d <;> try (simp [eMax] at h; done)
  case int.int k x k' y =>
    obtain rfl : vc = .int k x := hc
    obtain rfl : vd = .int k' y := hd
    simp only [eMax] at h
    split at h
    case isFalse => cases h
    case isTrue hk =>
      subst hk
      simp only [ok1, Option.some.injEq, Prod.mk.injEq, true_and] at h
      obtain ⟨rfl, rfl⟩ := h
      cases mx
      · exact ⟨rfl, _, by simp [Builtin.min_, Builtin.min2, List.foldlM], rfl⟩
      · exact ⟨rfl, _, by simp [Builtin.max_, Builtin.max2, List.foldlM], rfl⟩
end
end Go.Eng
