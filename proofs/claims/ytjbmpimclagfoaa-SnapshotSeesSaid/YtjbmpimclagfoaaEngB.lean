/-
  Soundness of the evaluator's append, and of one operation altogether.
-/
import Derived.Test.YtjbmpimclagfoaaEngA
namespace Go.Eng
open Go.RowKit

/-- A name for a block that has no memory. -/
theorem Eff.phantom {B : Nat} {β : Bt} {w : World} {x : Nm} {bi : BI} {blk : Blk} (hx : β x = none) (hbi : ¬ bi.real)
    (hrel : BRel (upd β x bi) B w bi blk) : Eff B β (upd β x bi) [(x, some blk)] w w where
  ext := upd_ext hx bi
  dom y bj hy hn := by
    by_cases h : x = y
    · subst h; exact ⟨_, List.mem_singleton.2 rfl⟩
    · rw [upd_other β bi h, hn] at hy; cases hy
  def_ y b hm := by
    simp only [List.mem_singleton, Prod.mk.injEq] at hm
    rw [hm.1]; exact ⟨bi, upd_same β x bi⟩
  below := Below.refl B w
  keep k hk _ := rfl
  blks y b hm := by
    simp only [List.mem_singleton, Prod.mk.injEq, Option.some.injEq] at hm
    obtain ⟨rfl, rfl⟩ := hm
    exact ⟨bi, upd_same β y bi, hrel⟩
  new y bj hn hy hr := by
    by_cases h : x = y
    · subst h
      rw [upd_same] at hy
      obtain rfl : bi = bj := by injection hy
      exact absurd hr hbi
    · rw [upd_other β bi h, hn] at hy; cases hy
  newinj y z bj bk hn hn' hy hz _ _ _ := by
    by_cases h : x = y
    · by_cases h' : x = z
      · rw [← h, ← h']
      · rw [upd_other β bi h', hn'] at hz; cases hz
    · rw [upd_other β bi h, hn] at hy; cases hy

/-- Names given up beside. -/
theorem Eff.more {B : Nat} {β β' : Bt} {w w' : World} {ups g : List Up} (h : Eff B β β' ups w w') (hg : ∀ y b, (y, b) ∈ g → b = none ∧ ∃ bi, β y = some bi) : Eff B β β' (ups ++ g) w w' where
  ext := h.ext
  dom x bi hx hn := by
    obtain ⟨b, hb⟩ := h.dom x bi hx hn
    exact ⟨b, List.mem_append_left _ hb⟩
  def_ y b hm := by
    rcases List.mem_append.1 hm with hm | hm
    · exact h.def_ y b hm
    · obtain ⟨_, bi, hbi⟩ := hg y b hm
      exact ⟨bi, h.ext y bi hbi⟩
  below := h.below
  keep k hk hu := h.keep k hk fun x b bi hm => hu x b bi (List.mem_append_left _ hm)
  blks y b hm := by
    rcases List.mem_append.1 hm with hm | hm
    · exact h.blks y b hm
    · have := (hg y _ hm).1; cases this
  new x bi hn hx hr := by
    rcases h.new x bi hn hx hr with h1 | ⟨y, b', h1, h2⟩
    · exact .inl h1
    · exact .inr ⟨y, b', List.mem_append_left _ h1, h2⟩
  newinj := h.newinj

/-- A block's memory, written and taken over by a new name. -/
theorem Eff.reuse {B : Nat} {β : Bt} {w : World} {x y : Nm} {bi bj : BI} {blk : Blk} {arr' : Array Value} (hx : β x = none) (hy : β y = some bj) (hr : bj.real) (hB : B ≤ bj.b) (hbi : bi.b = bj.b)
    (hrel : BRel (upd β x bi) B (w.setRow bj.b arr') bi blk) : Eff B β (upd β x bi) [(x, some blk), (y, none)] w (w.setRow bj.b arr') where
  ext := upd_ext hx bi
  dom z bz hz hn := by
    by_cases h : x = z
    · subst h; exact ⟨_, List.mem_cons_self⟩
    · rw [upd_other β bi h, hn] at hz; cases hz
  def_ z b hm := by
    simp only [List.mem_cons, Prod.mk.injEq, List.not_mem_nil, or_false] at hm
    rcases hm with ⟨rfl, _⟩ | ⟨rfl, _⟩
    · exact ⟨bi, upd_same β _ bi⟩
    · exact ⟨bj, upd_ext hx bi _ _ hy⟩
  below := Below.setRow' hB arr'
  keep k _ hk := setRow_other w bj.b k arr' (fun e => hk y none bj (by simp) hy hr e.symm)
  blks z b hm := by
    simp only [List.mem_cons, Prod.mk.injEq, Option.some.injEq, reduceCtorEq, and_false, List.not_mem_nil, or_false] at hm
    obtain ⟨rfl, rfl⟩ := hm
    exact ⟨bi, upd_same β z bi, hrel⟩
  new z bz hn hz _ := by
    by_cases h : x = z
    · subst h
      rw [upd_same] at hz
      obtain rfl : bi = bz := by injection hz
      exact .inr ⟨y, bj, by simp, hy, hr, hbi.symm⟩
    · rw [upd_other β bi h, hn] at hz; cases hz
  newinj z u bz bu hn hn' hz hu _ _ _ := by
    by_cases h : x = z
    · by_cases h' : x = u
      · rw [← h, ← h']
      · rw [upd_other β bi h', hn'] at hu; cases hu
    · rw [upd_other β bi h, hn] at hz; cases hz

/-- The same elements. -/
theorem Eff.swap {B : Nat} {β β' : Bt} {w w' : World} {x : Nm} {own : Bool} {sz : Nat} {E E' : Els} {g : List Up} (he : E.list = E'.list) (h : Eff B β β' ((x, some (.arr own sz E)) :: g) w w') : Eff B β β' ((x, some (.arr own sz E')) :: g) w w' where
  ext := h.ext
  dom y bi hy hn := by
    obtain ⟨b, hb⟩ := h.dom y bi hy hn
    rcases List.mem_cons.1 hb with e | hb
    · simp only [Prod.mk.injEq] at e
      exact ⟨_, by rw [e.1]; exact List.mem_cons_self⟩
    · exact ⟨b, List.mem_cons_of_mem _ hb⟩
  def_ y b hm := by
    rcases List.mem_cons.1 hm with e | hm
    · simp only [Prod.mk.injEq] at e
      rw [e.1]
      exact h.def_ x _ List.mem_cons_self
    · exact h.def_ y b (List.mem_cons_of_mem _ hm)
  below := h.below
  keep k hk hu := h.keep k hk fun y b bi hm hb hr => by
    rcases List.mem_cons.1 hm with e | hm
    · simp only [Prod.mk.injEq] at e
      exact hu y _ bi (by rw [e.1]; exact List.mem_cons_self) hb hr
    · exact hu y b bi (List.mem_cons_of_mem _ hm) hb hr
  blks y b hm := by
    rcases List.mem_cons.1 hm with e | hm
    · simp only [Prod.mk.injEq, Option.some.injEq] at e
      obtain ⟨rfl, rfl⟩ := e
      obtain ⟨bi, h1, h2⟩ := h.blks y _ List.mem_cons_self
      exact ⟨bi, h1, BRel.congr he h2⟩
    · exact h.blks y b (List.mem_cons_of_mem _ hm)
  new y bi hn hy hr := by
    rcases h.new y bi hn hy hr with h1 | ⟨z, b', h1, h2⟩
    · exact .inl h1
    · rcases List.mem_cons.1 h1 with e | h1
      · simp only [Prod.mk.injEq, reduceCtorEq, and_false] at e
      · exact .inr ⟨z, b', List.mem_cons_of_mem _ h1, h2⟩
  newinj := h.newinj

theorem Eff.drew {B : Nat} {β β' : Bt} {w w' : World} {ups : List Up} (h : Eff B β β' ups w.drew w') : Eff B β β' ups w w' :=
  ⟨h.ext, h.dom, h.def_, ⟨h.below.os, h.below.tape, h.below.output, h.below.size, h.below.block⟩, h.keep, h.blks, h.new, h.newinj⟩

section
variable {P : Program} {T : TT} {B : Nat} {β : Bt} {w w0 : World} {s : St} {a : Act}

/-- What is given up: nothing, or an own block, whose first elements the slice holds. -/
theorem given_ok (hr : RWs B w0 β s a w) {size n cap : Nat} {c : Cell} {av : Option Addr} {g : List Up} (h : given s size c = some g) (hc : CRel β c (.slice av n cap)) :
    (g = [] ∧ av = none ∧ n = 0 ∧ cap = 0) ∨ ∃ x bi els, g = [(x, none)] ∧ β x = some bi ∧ BRel β B w bi (.arr true size els) ∧ bi.cap = cap ∧ (0 < cap → av = some ⟨bi.b, 0, none⟩) := by
  cases c <;> try (simp [given] at h; done)
  case nils =>
    simp only [given, Option.some.injEq] at h
    simp only [CRel, Value.slice.injEq] at hc
    exact .inl ⟨h.symm, hc.1, hc.2.1, hc.2.2⟩
  case whole x =>
    obtain ⟨bi, hbi, av', cap', he, hcap, hlen, hown, had⟩ := hc
    simp only [Value.slice.injEq] at he
    obtain ⟨rfl, rfl, rfl⟩ := he
    simp only [given] at h
    split at h
    case h_2 => cases h
    case h_1 sz es hl =>
      obtain ⟨hs, hq⟩ := cond_none h
      simp only [Option.some.injEq] at hq
      obtain ⟨bi2, hbi2, hrel⟩ := live_ok hr hl
      rw [hbi] at hbi2
      obtain rfl : bi = bi2 := by injection hbi2
      obtain rfl := beq_iff.1 hs
      have ho : bi.own = true := hrel.1
      have h0 : bi.o = 0 := hrel.2.2.2.2.1
      refine .inr ⟨x, bi, es, hq.symm, hbi, hrel, by have := hown ho; omega, fun hpos => ?_⟩
      have := had (.inl ⟨ho, hpos⟩)
      simpa [h0] using this
  case sl x off ln =>
    cases off with
    | succ o => simp [given] at h
    | zero =>
      obtain ⟨bi, hbi, av', cap', he, hcap, hlen, hown, had⟩ := hc
      simp only [Value.slice.injEq] at he
      obtain ⟨rfl, rfl, rfl⟩ := he
      simp only [given] at h
      split at h
      case h_2 => cases h
      case h_1 sz es hl =>
        obtain ⟨hs, hq⟩ := cond_none h
        simp only [Option.some.injEq] at hq
        obtain ⟨bi2, hbi2, hrel⟩ := live_ok hr hl
        rw [hbi] at hbi2
        obtain rfl : bi = bi2 := by injection hbi2
        obtain rfl := beq_iff.1 hs
        have ho : bi.own = true := hrel.1
        have h0 : bi.o = 0 := hrel.2.2.2.2.1
        refine .inr ⟨x, bi, es, hq.symm, hbi, hrel, by have := hown ho; omega, fun hpos => ?_⟩
        have := had (.inl ⟨ho, hpos⟩)
        simpa [h0] using this

theorem eAppend_ok (hT : TOK P T) (hr : RWs B w0 β s a w) {d : Nat} {t ty : TypeId} {x y : Cell} {vx vy : Value} {v : SV} {ups : List Up} (h : eAppend T s d t x y = some (true, v, ups)) (hx : CRel β x vx) (hy : CRel β y vy)
    (hfresh : β (d, 0) = none) : ∃ vv w' β', (Builtin.append_ #[t, t] ty #[vx, vy]).run P w = .ok vv w' ∧ SRel β' v vv ∧ Eff B β β' ups w w' := by
  unfold eAppend at h
  split at h
  case h_2 => cases h
  case h_1 =>
    rename_i el _ _ _ _ he
    split at h
    case h_2 => cases h
    case h_1 e hel =>
      split at h
      case h_2 => cases h
      case h_1 xs ys g hcx hcy hg =>
        obtain ⟨h1, h⟩ := cond_none h
        obtain ⟨h2, h⟩ := cond_none h
        obtain ⟨h3, h⟩ := cond_none h
        simp only [Option.some.injEq, Prod.mk.injEq] at h
        obtain ⟨h4, rfl, rfl⟩ := h
        have hu : P.underlying t = some (.slice el) := (hT t _ he).und
        have hte := hT el e hel
        obtain ⟨av, cap, rfl, hcap, hmx, hax⟩ := content_ok hr hcx hx
        obtain ⟨bv, c2, rfl, hc2, hmy, hay⟩ := content_ok hr hcy hy
        have happ := app_list xs ys
        rw [xs.len_eq] at hcap hax h4 hx ⊢
        rw [ys.len_eq] at hc2 hay h4 hy ⊢
        suffices hs : ∃ vv w' β', (Builtin.append_ #[t, t] ty #[.slice av xs.list.length cap, .slice bv ys.list.length c2]).run P w = .ok vv w' ∧ SRel β' (.v (.one (.whole (d, 0)))) vv ∧
            Eff B β β' (((d, 0), some (.arr true e.size (.lit (xs.list ++ ys.list)))) :: g) w w' by
          obtain ⟨vv, w', β', a1, a2, a3⟩ := hs
          exact ⟨vv, w', β', a1, a2, Eff.swap (E := .lit (xs.list ++ ys.list)) happ.symm a3⟩
        generalize xs.list = xs at *
        generalize ys.list = ys at *
        have hgv := given_ok hr hg hx
        have hmem : ∀ z b, (z, b) ∈ g → b = none ∧ ∃ bi, β z = some bi := fun z b hz => by
          rcases hgv with ⟨rfl, _⟩ | ⟨x', bi, es, rfl, hbi, _⟩
          · cases hz
          · simp only [List.mem_singleton, Prod.mk.injEq] at hz
            exact ⟨hz.2, bi, by rw [hz.1]; exact hbi⟩
        have hm : ∀ z ∈ xs ++ ys, z.length = e.size := fun z hz => by
          rcases List.mem_append.1 hz with hz | hz
          · exact hmx z hz
          · exact hmy z hz
        have hml : ∀ (i : Nat) (z : List PC), (xs ++ ys)[i]? = some z → z.length = e.size := fun i z hi => hm z (List.mem_of_getElem? hi)
        by_cases hfit : xs.length + ys.length ≤ cap
        · have hrun := run_append_in (P := P) (w := w) (ty := ty) (av := av) (sCap := cap) (c2 := c2) hu hte hmy rfl hay hfit
          rcases Nat.eq_zero_or_pos cap with h0 | hpos
          · -- no memory at all
            subst h0
            have e1 : xs = [] := List.eq_nil_of_length_eq_zero (by omega)
            have e2 : ys = [] := List.eq_nil_of_length_eq_zero (by omega)
            subst e1 e2
            refine ⟨.slice av 0 0, w, upd β (d, 0) ⟨0, 0, e.size, true, 0, 0⟩, ?_, ⟨_, upd_same _ _ _, av, 0, rfl, Nat.le_refl _, Nat.le_refl _, fun _ => rfl, fun hh => ?_⟩, ?_⟩
            · rw [hrun]
              cases av <;> simp [flatV, storeCells]
            · rcases hh with ⟨_, hh⟩ | hh <;> exact absurd hh (by simp)
            · refine Eff.more (ups := [_]) (Eff.phantom hfresh (fun hh => absurd hh.2 (by simp)) ⟨rfl, rfl, rfl, hml, rfl, Nat.le_refl _, fun hh => absurd hh (by simp)⟩) hmem
          · -- in place
            rcases hgv with ⟨_, _, _, hc0⟩ | ⟨x', bi, es, rfl, hbi, hrel, hbc, hav⟩
            · omega
            · have hav := hav hpos
              subst hav
              obtain ⟨ho, hsz, hlen, hes, hz, hle, hreal⟩ := hrel
              obtain ⟨hB, arr, ta, hh, hasz, hin⟩ := hreal (by omega)
              have hfl : (flatV ys).length = ys.length * e.size := flatV_length hmy
              have hst := run_storeCells_at P bi.b (xs.length * e.size) ta (flatV ys) 0 arr w hh (by
                rw [hfl, hasz, hbc, Nat.add_zero, ← Nat.add_mul]; exact Nat.mul_le_mul_right _ hfit) (flatV_oneCell ys)
              simp only [Nat.add_zero] at hst
              have hadd : (⟨bi.b, 0, none⟩ : Addr).add (xs.length * e.size) = ⟨bi.b, xs.length * e.size, none⟩ := by rw [add_none, Nat.zero_add]
              refine ⟨.slice (some ⟨bi.b, 0, none⟩) (xs.length + ys.length) cap, _, upd β (d, 0) ⟨bi.b, 0, e.size, true, bi.cap, xs.length + ys.length⟩, ?_, ?_, Eff.reuse hfresh hbi ⟨ho, by omega⟩ hB rfl (arr' := (arr.toList.take (xs.length * e.size) ++ flatV ys ++ arr.toList.drop (xs.length * e.size + (flatV ys).length)).toArray) ?_⟩
              · rw [hrun]
                simp only [hadd]
                have hst' : Sem.run P (storeCells ⟨bi.b, xs.length * e.size, none⟩ (flatV ys)) w = _ := hst
                rw [hst', Result.andThen_ok]
              · exact ⟨_, upd_same _ _ _, _, _, rfl, hfit, by simp, fun _ => by simp [hbc], fun _ => by simp⟩
              · have hxl : (flatV xs).length = xs.length * e.size := flatV_length hmx
                refine ⟨rfl, rfl, by simp [Els.list], hml, rfl, by simp [Els.list, hbc, hfit], fun _ => ⟨hB, _, ta, setRow_heap w _ _ _ _ _ hh, ?_, elsIn_of_prefix hm fun k u hk => ?_⟩⟩
                · simp only [List.size_toArray, List.length_append, List.length_take, List.length_drop, Array.length_toList, hfl, hasz]
                  have : xs.length * e.size + ys.length * e.size ≤ bi.cap * e.size := by rw [← Nat.add_mul, hbc]; exact Nat.mul_le_mul_right _ hfit
                  omega
                · rw [flatV_append] at hk
                  have hlt : k < (flatV xs).length + (flatV ys).length := by
                    have := (List.getElem?_eq_some_iff.1 hk).1
                    simpa using this
                  have htl : (arr.toList.take (xs.length * e.size)).length = xs.length * e.size := by
                    rw [List.length_take, Nat.min_eq_left]
                    rw [show arr.toList.length = bi.cap * e.size by simp [hasz], hbc]; exact Nat.mul_le_mul_right _ (by omega)
                  rw [List.getElem?_toArray, List.getElem?_append_left (by rw [List.length_append, htl]; omega)]
                  by_cases hkx : k < (flatV xs).length
                  · rw [List.getElem?_append_left (by rw [htl]; omega), List.getElem?_take, if_pos (by omega)]
                    rw [List.getElem?_append_left hkx] at hk
                    obtain ⟨b, o, hbo, hcell⟩ := hax (by
                      rcases Nat.eq_zero_or_pos xs.length with hz0 | hz0
                      · rw [hxl, hz0] at hkx; omega
                      · exact hz0)
                    simp only [Option.some.injEq, Addr.mk.injEq] at hbo
                    obtain ⟨rfl, rfl, _⟩ := hbo
                    have := hcell k u hk
                    rw [cell_of hh] at this
                    simpa using this
                  · rw [List.getElem?_append_right (by rw [htl]; omega), htl]
                    rw [List.getElem?_append_right (by omega), hxl] at hk
                    exact hk
        · -- a new row
          have hz : e.zero.length = e.size := by rw [← len_eq]; exact beq_iff.1 h2
          obtain ⟨cap', arr, hc', harr, hpre, hrun⟩ := run_append_new (P := P) (w := w) (ty := ty) (av := av) (bv := bv) (sCap := cap) (c2 := c2) hu hte hmx rfl hax hmy rfl hay (by omega) (blt_iff.1 h1) (of_decide_eq_true h4) hz
          refine ⟨_, _, upd β (d, 0) ⟨w.heap.size, 0, e.size, true, cap', xs.length + ys.length⟩, hrun, ⟨_, upd_same _ _ _, _, _, rfl, hc', by simp, fun _ => by simp, fun _ => by simp⟩, ?_⟩
          refine Eff.more (ups := [_]) (Eff.drew (Eff.newBlock hfresh hr.hB (fun _ => rfl) ⟨rfl, rfl, by simp [Els.list], hml, rfl, by simpa [Els.list] using hc', fun _ => ⟨hr.hB, arr, el, heap_push_new w.drew _, harr, ?_⟩⟩)) hmem
          exact elsIn_of_prefix hm fun k u hk => hpre k u (by rw [← flatV_append]; exact hk)

end
end Go.Eng
