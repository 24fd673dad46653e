/-
  Soundness of a region that draws its order: whatever order is drawn, each operation finds what the pass found.
-/
import Derived.Test.YtjbmpimclagfoaaEngF
namespace Go.Eng
open Go.RowKit

theorem loose_iff {ms : List Nat} {i j : Nat} : loose ms i j = true ↔ i ≠ j ∧ bit (nthD ms i) j = false ∧ bit (nthD ms j) i = false := by
  unfold loose
  cases h1 : Nat.beq i j with
  | true => simp [beq_iff.1 h1]
  | false =>
    have := beq_false.1 h1
    cases bit (nthD ms i) j <;> cases bit (nthD ms j) i <;> simp [this]

theorem loose_symm {ms : List Nat} {i j : Nat} (h : loose ms i j = true) : loose ms j i = true := by
  rw [loose_iff] at h ⊢
  exact ⟨Ne.symm h.1, h.2.2, h.2.1⟩

theorem upsOK_get {ms : List Nat} {wr : Wr} {full : List Oper} {st : List Up} {i d : Nat} : ∀ {ups : List Up}, upsOK ms wr full st i d ups = true →
    Nodup ups ∧ ∀ x b, (x, b) ∈ ups → (find st x = none ∧ idxOf x.1 0 full = some i) ∨ (∃ c, find st x = some (some c) ∧ x.1 ≠ d ∧ (x ∈ wrOf wr i ∨ tight ms i 0 full = true)) := by
  intro ups
  induction ups with
  | nil => intro _; exact ⟨trivial, fun x b h => by cases h⟩
  | cons p r ih =>
    intro h
    obtain ⟨y, c⟩ := p
    simp only [upsOK] at h
    obtain ⟨h1, h2⟩ := cond_and h
    obtain ⟨h3, h4⟩ := cond_and h1
    obtain ⟨h5, h6⟩ := ih h2
    refine ⟨⟨?_, h5⟩, fun x b hm => ?_⟩
    · cases hf : find r y with
      | none => rfl
      | some _ => rw [hf] at h4; cases h4
    · rcases List.mem_cons.1 hm with e | e
      · simp only [Prod.mk.injEq] at e
        obtain ⟨rfl, rfl⟩ := e
        cases hf : find st x with
        | none =>
          rw [hf] at h3
          simp only at h3
          cases hi : idxOf x.1 0 full with
          | none => rw [hi] at h3; cases h3
          | some k => rw [hi] at h3; exact .inl ⟨rfl, by rw [beq_iff.1 h3]⟩
        | some q => cases q with
          | none => rw [hf] at h3; cases h3
          | some q =>
            rw [hf] at h3
            simp only at h3
            refine .inr ⟨q, rfl, ?_⟩
            cases hb : Nat.beq x.1 d with
            | true => rw [hb] at h3; simp at h3
            | false =>
              rw [hb] at h3
              simp only [cond_false] at h3
              refine ⟨beq_false.1 hb, ?_⟩
              cases hw : memN x (wrOf wr i) with
              | true => exact .inl (memN_mem hw)
              | false => rw [hw] at h3; exact .inr h3
      · exact h6 x b e

theorem fromOK_get {ms : List Nat} {full : List Oper} {i : Nat} : ∀ {ups : List Up}, fromOK ms full i ups = true → ∀ x b, (x, b) ∈ ups → ∀ k, idxOf x.1 0 full = some k → k = i ∨ bit (nthD ms i) k = true := by
  intro ups
  induction ups with
  | nil => intro _ x b h; cases h
  | cons p r ih =>
    intro h x b hm k hk
    obtain ⟨y, c⟩ := p
    simp only [fromOK] at h
    obtain ⟨h1, h2⟩ := cond_and h
    rcases List.mem_cons.1 hm with e | e
    · simp only [Prod.mk.injEq] at e
      obtain ⟨rfl, rfl⟩ := e
      rw [hk] at h1
      simp only at h1
      cases hb : Nat.beq k i with
      | true => exact .inl (beq_iff.1 hb)
      | false => rw [hb] at h1; exact .inr h1
    · exact ih h2 x b e k hk

theorem find_entS {L : List Ent} {st : List Up} {x : Nm} {c : Option Blk} (h : find (entS L ++ st) x = some c) : (∃ e ∈ L, (x, c) ∈ e.ups) ∨ find st x = some c := by
  induction L with
  | nil => exact .inr h
  | cons e L ih =>
    simp only [entS, List.append_assoc, find_append e.ups] at h
    cases hf : find e.ups x with
    | some r =>
      rw [hf] at h
      simp only [Option.some.injEq] at h
      subst h
      exact .inl ⟨e, by simp, find_mem hf⟩
    | none =>
      rw [hf] at h
      rcases ih h with ⟨e', he', h1⟩ | h1
      · exact .inl ⟨e', by simp [he'], h1⟩
      · exact .inr h1

theorem find_entS_none {L : List Ent} {st : List Up} {x : Nm} (h : ∀ e ∈ L, find e.ups x = none) : find (entS L ++ st) x = find st x := by
  induction L with
  | nil => rfl
  | cons e L ih =>
    simp only [entS, List.append_assoc, find_append e.ups, h e (by simp)]
    exact ih fun e' he' => h e' (by simp [he'])

theorem slotsOf_get {f : Nat → Option SV} {xs : List Operand} {t : Nat} {v : SV} (h : getT (slotsOf f xs) t = some v) : f t = some v := by
  induction xs with
  | nil => simp [slotsOf, getT] at h
  | cons x xs ih =>
    cases x with
    | tmp u =>
      simp only [slotsOf, getT] at h
      cases hb : Nat.beq u t with
      | true => rw [hb] at h; rw [← beq_iff.1 hb]; exact h
      | false => rw [hb] at h; exact ih h
    | _ => exact ih h

/-- What the pass's checks and its entries are, all at once. -/
structure Pass (P : Program) (base : St) (ms : List Nat) (wr : Wr) (full : List Oper) (R : List Ent) : Prop where
  nodup : nodupD full = true
  below : allBelow ms 0 ms = true
  edges : edgesOK ms 0 full = true
  guards : guardsOK ms 0 full = true
  bases : baseOK full base.store = true
  dsts : dstsOK base.n full = true
  desc : Desc R full.length
  ents : ∀ e ∈ R, ∃ o, EntOK P base ms wr full R o e

section
variable {P : Program} {base : St} {ms : List Nat} {wr : Wr} {full : List Oper} {R : List Ent}

theorem Pass.trans (H : Pass P base ms wr full R) : ∀ (i : Nat), i < full.length → ∀ {l k : Nat}, bit (nthD ms i) l = true → bit (nthD ms l) k = true → bit (nthD ms i) k = true := by
  intro i
  induction i using Nat.strongRecOn with
  | _ i ih =>
    intro hi l k hl hk
    have hm := edgesOK_get H.edges (i := i) (List.getElem?_eq_getElem hi)
    rw [Nat.zero_add] at hm
    rw [hm] at hl ⊢
    rw [edgesM_bit] at hl ⊢
    obtain ⟨e, h1, h2, h3⟩ := hl
    have hlt : e.on < i := by
      have : bit (nthD ms i) e.on = true := by rw [hm, edgesM_bit]; exact ⟨e, h1, h2, .inl rfl⟩
      exact bit_lt H.below this
    rcases h3 with h3 | h3
    · exact ⟨e, h1, h2, .inr (by rw [← h3]; exact hk)⟩
    · exact ⟨e, h1, h2, .inr (ih e.on hlt (by omega) h3 hk)⟩

theorem Pass.ran (H : Pass P base ms wr full R) {e : Ent} (he : e ∈ R) {x : Nm} {b : Option Blk} (hx : (x, b) ∈ e.ups) : ∃ o, full[e.i]? = some o ∧ e.d = o.dst ∧
    upsOK ms wr full (stAt base ms wr full R e.i o).store e.i (slot o.dst) e.ups = true ∧ fromOK ms full e.i e.ups = true := by
  obtain ⟨o, ho⟩ := H.ents e he
  rcases ho.sem with ⟨_, _, h3, h4⟩ | ⟨_, h2, _⟩
  · exact ⟨o, ho.oper, ho.dst, h3, h4⟩
  · rw [h2] at hx; cases hx

theorem notin {e : Ent} {x : Nm} (h : ∀ b, (x, b) ∉ e.ups) : find e.ups x = none := by
  cases hf : find e.ups x with
  | none => rfl
  | some r => exact absurd (find_mem hf) (h r)

/-- Where a name lives for one operation, no operation that stands loose to it writes it. -/
theorem Pass.quiet (H : Pass P base ms wr full R) {e k : Ent} (he : e ∈ R) (hk : k ∈ R) (hl : loose ms e.i k.i = true) {o : Oper} {x : Nm} {c : Blk}
    (hx : find (stAt base ms wr full R e.i o).store x = some (some c)) : find k.ups x = none := by
  refine notin fun b hb => ?_
  obtain ⟨ok, h1, h2, h3, h4⟩ := H.ran hk hb
  have hst : find (hiddenS ms e.i wr) x = none ∧ find (entS (filt (bit (nthD ms e.i)) R) ++ base.store) x = some (some c) := by
    simp only [stAt, below_eq] at hx
    rw [find_append] at hx
    rcases hidden_some (ms := ms) (i := e.i) (x := x) wr with h | h
    · rw [h] at hx; simp at hx
    · rw [h] at hx; exact ⟨h, hx⟩
  rcases (upsOK_get h3).2 x b hb with ⟨_, h5⟩ | ⟨c', _, _, h5 | h5⟩
  · obtain ⟨_, oq, hq1, hq2⟩ := idxOf_some h5
    rcases find_entS hst.2 with ⟨l, hlm, hlx⟩ | hbx
    · obtain ⟨hlR, hlb⟩ := mem_filt.1 hlm
      obtain ⟨ol, _, _, _, h6⟩ := H.ran hlR hlx
      rcases fromOK_get h6 x _ hlx _ h5 with h7 | h7
      · rw [← h7, (loose_iff.1 hl).2.1] at hlb; cases hlb
      · have := H.trans e.i (H.desc.lt he) hlb h7
        rw [(loose_iff.1 hl).2.1] at this; cases this
    · exact baseOK_get H.bases (find_mem hbx) oq (List.mem_of_getElem? hq1) hq2
  · rw [hidden_wr hl h5] at hst; cases hst.1
  · have := tight_get h5 e.i (H.desc.lt he)
    rw [Nat.zero_add, loose_symm hl] at this; cases this

/-- A name that an operation makes is written by no operation that does not stand behind it. -/
theorem Pass.made (H : Pass P base ms wr full R) {e k : Ent} (hk : k ∈ R) (hne : k.i ≠ e.i) (hb : bit (nthD ms k.i) e.i = false) {x : Nm} (hx : idxOf x.1 0 full = some e.i) : find k.ups x = none := by
  refine notin fun b hm => ?_
  obtain ⟨ok, _, _, _, h4⟩ := H.ran hk hm
  rcases fromOK_get h4 x b hm _ hx with h | h
  · exact hne h.symm
  · rw [hb] at h; cases h

/-- Behind these operations. -/
def Done (ms : List Nat) (p : Nat → Bool) : Prop := ∀ j, p j = true → ∀ k, bit (nthD ms j) k = true → p k = true

structure Next (ms : List Nat) (p : Nat → Bool) (i : Nat) : Prop where
  not : p i = false
  ahead : ∀ k, bit (nthD ms i) k = true → p k = true

theorem Next.behind {p : Nat → Bool} {i : Nat} (hd : Done ms p) (hn : Next ms p i) {k : Nat} (hk : p k = true) : k ≠ i ∧ bit (nthD ms k) i = false := by
  refine ⟨(fun h => by rw [h, hn.not] at hk; cases hk), ?_⟩
  cases hb : bit (nthD ms k) i with
  | false => rfl
  | true => have := hd k hk i hb; rw [hn.not] at this; cases this

theorem Pass.dstUniq (H : Pass P base ms wr full R) {e e' : Ent} (he : e ∈ R) (he' : e' ∈ R) {t : Nat} (h1 : e.d = some t) (h2 : e'.d = some t) : e = e' := by
  obtain ⟨o, ho⟩ := H.ents e he
  obtain ⟨o', ho'⟩ := H.ents e' he'
  exact H.desc.uniq he he' (nodupD_uniq H.nodup ho.oper ho'.oper (by rw [← ho.dst]; exact h1) (by rw [← ho'.dst]; exact h2))

theorem Pass.slot (H : Pass P base ms wr full R) {p : Nat → Bool} (hd : Done ms p) {e : Ent} (hn : Next ms p e.i) {t : Nat} {v : SV} (h : slotIn base ms full R e.i t = some v) :
    getT (entT (filt p R) ++ base.tmps) t = some v := by
  unfold slotIn at h
  cases hi : idxOf t 0 full with
  | none =>
    rw [hi] at h
    simp only at h
    rw [getT_miss]
    · exact h
    · intro k hk hkd
      obtain ⟨o, ho⟩ := H.ents k (mem_filt.1 hk).1
      exact idxOf_none hi o (List.mem_of_getElem? ho.oper) (by rw [← ho.dst]; exact hkd)
  | some j =>
    rw [hi] at h
    simp only at h
    obtain ⟨_, oj, hj1, hj2⟩ := idxOf_some hi
    rw [Nat.sub_zero] at hj1
    have huniq : ∀ k ∈ R, k.d = some t → k.i = j := fun k hk hkd => by
      obtain ⟨o, ho⟩ := H.ents k hk
      exact nodupD_uniq H.nodup ho.oper hj1 (by rw [← ho.dst]; exact hkd) hj2
    cases hb : bit (nthD ms e.i) j with
    | true =>
      rw [hb] at h
      simp only [cond_true] at h
      obtain ⟨k, hk, hki, hkv⟩ := entGet_some h
      obtain ⟨o, ho⟩ := H.ents k hk
      have hkd : k.d = some t := by
        rw [ho.dst]
        have := ho.oper
        rw [hki, hj1] at this
        simp only [Option.some.injEq] at this
        rw [← this]; exact hj2
      have hkp : p k.i = true := by rw [hki]; exact hn.ahead j hb
      rw [getT_hit (e := k) (mem_filt.2 ⟨hk, hkp⟩) hkd fun k' hk' hkd' => H.dstUniq (mem_filt.1 hk').1 hk hkd' hkd, hkv]
    | false =>
      rw [hb] at h
      simp only [cond_false] at h
      cases hc : (cond (Nat.beq j e.i) true (bit (nthD ms j) e.i)) with
      | false => rw [hc] at h; simp at h
      | true =>
        rw [hc] at h
        simp only [cond_true] at h
        rw [getT_miss]
        · exact h
        · intro k hk hkd
          obtain ⟨hkR, hkp⟩ := mem_filt.1 hk
          have hki := huniq k hkR hkd
          obtain ⟨h1, h2⟩ := hn.behind hd hkp
          rw [hki] at h1 h2
          rw [beq_false.2 h1, h2] at hc
          simp at hc

theorem Pass.loose (_H : Pass P base ms wr full R) {p : Nat → Bool} (hd : Done ms p) {i k : Nat} (hn : Next ms p i) (hk : p k = true) (hb : bit (nthD ms i) k = false) : Eng.loose ms i k = true := by
  obtain ⟨h1, h2⟩ := hn.behind hd hk
  exact loose_iff.2 ⟨Ne.symm h1, hb, h2⟩

/-- What lives for the operation lives. -/
theorem Pass.live (H : Pass P base ms wr full R) {p : Nat → Bool} (hd : Done ms p) {e : Ent} (he : e ∈ R) (hn : Next ms p e.i) {o : Oper} {x : Nm} {c : Blk}
    (hx : find (stAt base ms wr full R e.i o).store x = some (some c)) : find (entS (filt p R) ++ base.store) x = some (some c) := by
  have h1 : find (entS (filt (bit (nthD ms e.i)) R) ++ base.store) x = some (some c) := by
    have hx' := hx
    simp only [stAt, below_eq] at hx'
    rw [find_append] at hx'
    rcases hidden_some (ms := ms) (i := e.i) (x := x) wr with h | h
    · rw [h] at hx'; simp at hx'
    · rw [h] at hx'; exact hx'
  rw [find_filt (q := bit (nthD ms e.i)) hn.ahead]
  · exact h1
  · intro k hk hkp hkb
    exact H.quiet he hk (H.loose hd hn hkp hkb) hx

/-- What the operation finds new is new. -/
theorem Pass.fresh (H : Pass P base ms wr full R) {p : Nat → Bool} (hd : Done ms p) {e : Ent} (hn : Next ms p e.i) {o : Oper} {x : Nm}
    (hx : find (stAt base ms wr full R e.i o).store x = none) (hi : idxOf x.1 0 full = some e.i) : find (entS (filt p R) ++ base.store) x = none := by
  rw [find_entS_none]
  · simp only [stAt, below_eq] at hx
    rw [find_append] at hx
    cases hh : find (hiddenS ms e.i wr) x with
    | some r => rw [hh] at hx; cases hx
    | none =>
      rw [hh] at hx
      simp only at hx
      rw [find_append] at hx
      cases hq : find (entS (filt (bit (nthD ms e.i)) R)) x with
      | some r => rw [hq] at hx; cases hx
      | none => rw [hq] at hx; exact hx
  · intro k hk
    obtain ⟨hkR, hkp⟩ := mem_filt.1 hk
    obtain ⟨h1, h2⟩ := hn.behind hd hkp
    exact H.made hkR h1 h2 hi

variable {B : Nat} {w0 : World}

/-- The state behind the operations in p. -/
def Inv (B : Nat) (w0 : World) (base : St) (R : List Ent) (p : Nat → Bool) (a : Act) (w : World) : Prop :=
  ∃ β, RF B w0 β (getT (entT (filt p R) ++ base.tmps)) (find (entS (filt p R) ++ base.store)) base.n a w

theorem Pass.put (H : Pass P base ms wr full R) {p : Nat → Bool} (hd : Done ms p) {e : Ent} (he : e ∈ R) (hn : Next ms p e.i) {o : Oper} (ho : EntOK P base ms wr full R o e) {β β' : Bt} {a : Act} {w w' : World} {vv : Value}
    (hr : RF B w0 β (getT (entT (filt p R) ++ base.tmps)) (find (entS (filt p R) ++ base.store)) base.n a w) (hv : SRel β' e.v vv) (hf : Eff B β β' e.ups w w') :
    RF B w0 β' (getT (entT (filt (addP p e.i) R) ++ base.tmps)) (find (entS (filt (addP p e.i) R) ++ base.store)) base.n (a.put o.dst vv) w' := by
  have hups : ∀ x b, (x, b) ∈ e.ups → ((find (entS (filt p R) ++ base.store) x = none ∧ x.1 = Eng.slot o.dst) ∨ (∃ c, find (entS (filt p R) ++ base.store) x = some (some c) ∧ x.1 ≠ Eng.slot o.dst)) ∧
      ∀ k ∈ R, p k.i = true → e.i < k.i → find k.ups x = none := fun x b hm => by
    obtain ⟨o', h1, h2, h3, h4⟩ := H.ran he hm
    have : o' = o := by have := ho.oper; rw [h1] at this; injection this
    subst this
    rcases (upsOK_get h3).2 x b hm with ⟨h5, h6⟩ | ⟨c, h5, h6, _⟩
    · refine ⟨.inl ⟨H.fresh hd hn h5 h6, ?_⟩, fun k hk hkp hlt => ?_⟩
      · obtain ⟨_, oq, hq1, hq2⟩ := idxOf_some h6
        rw [Nat.sub_zero, h1] at hq1
        simp only [Option.some.injEq] at hq1
        subst hq1
        rw [hq2]; rfl
      · exact H.made hk (by omega) (hn.behind hd hkp).2 h6
    · refine ⟨.inr ⟨c, H.live hd he hn h5, h6⟩, fun k hk hkp hlt => ?_⟩
      refine H.quiet he hk (H.loose hd hn hkp ?_) h5
      cases hb : bit (nthD ms e.i) k.i with
      | false => rfl
      | true => have := bit_lt H.below hb; omega
  have hnd : Nodup e.ups := by
    cases hu : e.ups with
    | nil => trivial
    | cons q r =>
      obtain ⟨x, b⟩ := q
      obtain ⟨o', _, _, h3, _⟩ := H.ran he (x := x) (b := b) (by rw [hu]; simp)
      rw [← hu]
      exact (upsOK_get h3).1
  refine RF.apply hr hf hv ⟨hnd, fun x b hm => (hups x b hm).1⟩ (fun t ht => ?_) (fun t u htu => ?_) (fun x => ?_)
  · have := dstsOK_get H.dsts o (List.mem_of_getElem? ho.oper)
    exact dstOK_iff this t ht
  · by_cases hdt : o.dst = some t
    · refine .inl ⟨hdt, ?_⟩
      rw [getT_hit (e := e) (mem_filt.2 ⟨he, addP_eq p e.i⟩) (by rw [ho.dst, hdt]) fun k hk hkd => H.dstUniq (mem_filt.1 hk).1 he hkd (by rw [ho.dst, hdt])] at htu
      injection htu with htu
      exact htu.symm
    · refine .inr ⟨hdt, ?_⟩
      by_cases hex : ∃ k ∈ filt p R, k.d = some t
      · obtain ⟨k, hk, hkd⟩ := hex
        have hkm := mem_filt.1 hk
        rw [getT_hit (e := k) hk hkd fun k' hk' hkd' => H.dstUniq (mem_filt.1 hk').1 hkm.1 hkd' hkd]
        have hkne : k.i ≠ e.i := fun h => by rw [h, hn.not] at hkm; cases hkm.2
        rw [getT_hit (e := k) (mem_filt.2 ⟨hkm.1, by rw [addP_ne hkne]; exact hkm.2⟩) hkd fun k' hk' hkd' => H.dstUniq (mem_filt.1 hk').1 hkm.1 hkd' hkd] at htu
        exact htu
      · rw [getT_miss fun k hk hkd => hex ⟨k, hk, hkd⟩]
        rw [getT_miss] at htu
        · exact htu
        · intro k hk hkd
          obtain ⟨hkR, hkp⟩ := mem_filt.1 hk
          by_cases hke : k.i = e.i
          · have := H.desc.uniq hkR he hke
            subst this
            rw [ho.dst] at hkd
            exact hdt hkd
          · rw [addP_ne hke] at hkp
            exact hex ⟨k, mem_filt.2 ⟨hkR, hkp⟩, hkd⟩
  · have := find_add (st := base.store) (x := x) H.desc he hn.not (fun hne k hk hkp hlt => by
      cases hf2 : find e.ups x with
      | none => exact absurd hf2 hne
      | some b => exact (hups x b (find_mem hf2)).2 k hk hkp hlt)
    rw [this]
    cases find e.ups x <;> rfl

theorem Pass.step (H : Pass P base ms wr full R) {ops : Array Oper} (hops : ops.toList = full) {Q : Exit → Act → World → Prop} {p : Nat → Bool} (hd : Done ms p) {e : Ent} (he : e ∈ R) (hn : Next ms p e.i) {K : Act → World → Prop}
    (hK : ∀ a w, Inv B w0 base R (addP p e.i) a w → K a w) {a : Act} {w : World} (hI : Inv B w0 base R p a w) : wpOp P ops Q e.i K a w := by
  obtain ⟨β, hr⟩ := hI
  obtain ⟨o, ho⟩ := H.ents e he
  have hop : ops[e.i]? = some o := by have := ho.oper; rw [← hops] at this; simpa using this
  have hst : RWs B w0 β (stAt base ms wr full R e.i o) a w := hr.toRW.weaken (fun t v ht => H.slot hd hn (slotsOf_get ht)) (fun x b hx => H.live hd he hn hx)
  have hknow : ∀ {j g : Nat} {want : Bool} {v : SV}, o.guard = some (j, want) → dstOf full j = some g → entGet R j = some v → SRel β v (a.tmps.getD g undef) := fun {j g want v} hgu hdg hv => by
    refine hr.tmps g v ?_
    have hbit := guardsOK_get H.guards ho.oper hgu
    rw [Nat.zero_add] at hbit
    obtain ⟨k, hk, hki, hkv⟩ := entGet_some hv
    obtain ⟨ok, hok⟩ := H.ents k hk
    have hkd : k.d = some g := by
      rw [hok.dst]
      rw [← hops] at hdg
      obtain ⟨o2, h1, h2⟩ := dstOf_some hdg
      have h3 := hok.oper
      rw [← hops, hki] at h3
      have h4 : ops[j]? = some ok := by simpa using h3
      rw [h1] at h4
      simp only [Option.some.injEq] at h4
      rw [← h4]; exact h2
    rw [getT_hit (e := k) (mem_filt.2 ⟨hk, by rw [hki]; exact hn.ahead j hbit⟩) hkd fun k' hk' hkd' => H.dstUniq (mem_filt.1 hk').1 hk hkd' hkd, hkv]
  unfold wpOp
  simp only [hop]
  rcases ho.sem with ⟨hg, hsem, h3, h4⟩ | ⟨hv, hu, j, want, g, hgu, hdg, hval⟩
  · have hw : Region.wanted o (yielded ops a.tmps) = true := by
      rcases hg with hg | ⟨j, want, g, hgu, hdg, hval⟩
      · simp [Region.wanted, hg]
      · have := yielded_bool (ops := ops) (by rw [hops]; exact hdg) (hknow hgu hdg hval)
        simp [Region.wanted, hgu, this]
    rw [hw, if_pos rfl]
    refine .inl (hsem B w0 β a w hst (fun x b hm hx => ?_) K Q fun vv w' β' h5 h6 => hK _ _ ⟨β', H.put hd he hn ho hr h5 h6⟩)
    rcases (upsOK_get h3).2 x b hm with ⟨h5, h6⟩ | ⟨c, h5, h6, _⟩
    · exact (hr.dom x).2 (H.fresh hd hn h5 h6)
    · exact absurd hx h6
  · have hw : Region.wanted o (yielded ops a.tmps) = false := by
      rcases hval with hval | hval
      · have := yielded_bool (ops := ops) (by rw [hops]; exact hdg) (hknow hgu hdg hval)
        simp only [Region.wanted, hgu, this]
        cases want <;> rfl
      · have := yielded_none (ops := ops) (by rw [hops]; exact hdg) (hknow hgu hdg hval)
        simp [Region.wanted, hgu, this]
    rw [hw, if_neg (by decide)]
    exact hK _ _ ⟨β, H.put hd he hn ho hr (by rw [hv]; exact tup_undef β) (by rw [hu]; exact Eff.refl B β w)⟩

/-! ### All orders -/

def unl : Nat → Array Bool → Nat
  | 0, _ => 0
  | n + 1, l => unl n l + cond (l.getD n true) 0 1

theorem unl_same {l : Array Bool} {i : Nat} : ∀ {n : Nat}, n ≤ i → unl n (l.setIfInBounds i true) = unl n l := by
  intro n
  induction n with
  | zero => intro _; rfl
  | succ n ih => intro h; simp only [unl, ih (by omega), getD_set_ne true (by omega : i ≠ n)]

theorem unl_set {l : Array Bool} {i : Nat} : ∀ {n : Nat}, i < n → l.getD i true = false → unl n (l.setIfInBounds i true) + 1 = unl n l := by
  intro n
  induction n with
  | zero => intro h; omega
  | succ n ih =>
    intro h hl
    simp only [unl]
    by_cases hn : n = i
    · subst hn
      have hlt : n < l.size := by
        rcases Nat.lt_or_ge n l.size with h' | h'
        · exact h'
        · simp [Array.getElem?_eq_none h'] at hl
      have h1 : (l.setIfInBounds n true).getD n true = true := by simp [hlt]
      rw [unl_same (Nat.le_refl _), h1, hl]
      simp
    · have := ih (by omega) hl
      rw [getD_set_ne true (Ne.symm hn)]
      omega

theorem unl_zero {l : Array Bool} : ∀ {n : Nat}, unl n l = 0 → ∀ j, j < n → l.getD j true = true := by
  intro n
  induction n with
  | zero => intro _ j h; omega
  | succ n ih =>
    intro h j hj
    simp only [unl] at h
    by_cases hjn : j = n
    · subst hjn
      cases hl : l.getD j true with
      | true => rfl
      | false => rw [hl] at h; simp at h
    · exact ih (by omega) j (by omega)

theorem getD_size {l : Array Bool} {j : Nat} (hj : j < l.size) (a b : Bool) : l.getD j a = l.getD j b := by simp [hj]

theorem Pass.all (H : Pass P base ms wr full R) {ops : Array Oper} (hops : ops.toList = full) {Q : Exit → Act → World → Prop} (hQ : ∀ a w, Inv B w0 base R (fun _ => true) a w → Q .normal a w) :
    ∀ (fuel : Nat) (listed : Array Bool) (a : Act) (w : World), listed.size = ops.size → unl ops.size listed ≤ fuel → Done ms (fun j => listed.getD j false) → Inv B w0 base R (fun j => listed.getD j false) a w →
      wpAny P .any ops Q fuel listed a w := by
  have hlen : full.length = ops.size := by rw [← hops]; simp
  have hready : ∀ (listed : Array Bool), listed.size = ops.size → ∀ j ∈ Region.ready .any ops listed, j < ops.size ∧ listed.getD j true = false ∧ (Done ms (fun j => listed.getD j false) → Next ms (fun j => listed.getD j false) j) := fun listed hsz j hj => by
    obtain ⟨h1, o, h2, h3⟩ := mem_ready.1 hj
    have hlt : j < ops.size := (Array.getElem?_eq_some_iff.1 h2).1
    refine ⟨hlt, h1, fun hdn => ⟨by rw [getD_size (by omega) false true]; exact h1, fun k hk => ?_⟩⟩
    have hm := edgesOK_get H.edges (i := j) (o := o) (by rw [← hops]; simpa using h2)
    rw [Nat.zero_add] at hm
    rw [hm, edgesM_bit] at hk
    obtain ⟨e, he, hb, hor⟩ := hk
    have hon := h3 e (by simpa using he) hb
    rcases hor with rfl | hor
    · exact hon
    · exact hdn e.on hon k hor
  have hend : ∀ (listed : Array Bool) (a : Act) (w : World), listed.size = ops.size → (∀ j, j < ops.size → listed.getD j true = true) → Inv B w0 base R (fun j => listed.getD j false) a w → Q .normal a w := fun listed a w hsz hall hI => by
    refine hQ a w ?_
    have : filt (fun j => listed.getD j false) R = filt (fun _ => true) R := by
      rw [filt_all (p := fun _ => true) fun _ _ => rfl]
      refine filt_all fun e he => ?_
      have hlt : e.i < ops.size := by have := H.desc.lt he; omega
      show listed.getD e.i false = true
      rw [getD_size (by omega) false true]
      exact hall _ hlt
    unfold Inv at hI ⊢
    rw [this] at hI
    exact hI
  have hnil : ∀ (listed : Array Bool), listed.size = ops.size → Region.ready .any ops listed = [] → ∀ j, j < ops.size → listed.getD j true = true := fun listed hsz hr => by
    intro j
    induction j using Nat.strongRecOn with
    | _ j ih =>
      intro hj
      cases hl : listed.getD j true with
      | true => rfl
      | false =>
        have : j ∈ Region.ready .any ops listed := by
          rw [mem_ready]
          refine ⟨hl, ops[j], Array.getElem?_eq_getElem hj, fun e he hb => ?_⟩
          have hm := edgesOK_get H.edges (i := j) (o := ops[j]) (by rw [← hops]; simp [hj])
          rw [Nat.zero_add] at hm
          have hlt : e.on < j := by
            have : bit (nthD ms j) e.on = true := by rw [hm, edgesM_bit]; exact ⟨e, by simpa using he, hb, .inl rfl⟩
            exact bit_lt H.below this
          rw [getD_size (by omega) false true]
          exact ih e.on hlt (by omega)
        rw [hr] at this
        cases this
  intro fuel
  induction fuel with
  | zero =>
    intro listed a w hsz hu hdn hI
    have hall := unl_zero (Nat.le_zero.1 hu)
    refine ⟨?_, hend listed a w hsz hall hI⟩
    cases hr : Region.ready .any ops listed with
    | nil => rfl
    | cons j l =>
      obtain ⟨h1, h2, _⟩ := hready listed hsz j (by rw [hr]; simp)
      rw [hall j h1] at h2; cases h2
  | succ fuel ih =>
    intro listed a w hsz hu hdn hI
    refine ⟨fun hr => hend listed a w hsz (hnil listed hsz hr) hI, fun j hj => ?_⟩
    obtain ⟨h1, h2, h3⟩ := hready listed hsz j hj
    have hn := h3 hdn
    obtain ⟨e, he, hei⟩ := H.desc.mem (by omega : j < full.length)
    subst hei
    refine H.step hops hdn he hn (fun a' w' hI' => ?_) hI
    have hp : (fun j => (listed.setIfInBounds e.i true).getD j false) = addP (fun j => listed.getD j false) e.i := by
      funext j
      by_cases hj : j = e.i
      · subst hj
        rw [addP_eq]
        simp [hsz, h1]
      · rw [addP_ne hj, getD_set_ne false (Ne.symm hj)]
    refine ih _ a' w' (by simpa using hsz) (by have := unl_set (n := ops.size) h1 h2; omega) ?_ (by rw [hp]; exact hI')
    rw [hp]
    intro k hk m hm
    by_cases hke : k = e.i
    · subst hke
      have := hn.ahead m hm
      by_cases hme : m = e.i
      · rw [hme]; exact addP_eq _ _
      · rw [addP_ne hme]; exact this
    · rw [addP_ne hke] at hk
      have := hdn k hk m hm
      by_cases hme : m = e.i
      · rw [hme]; exact addP_eq _ _
      · rw [addP_ne hme]; exact this

end

theorem RF.drew {B : Nat} {w0 : World} {β : Bt} {g : Nat → Option SV} {f : Nm → Option (Option Blk)} {n : Nat} {a : Act} {w : World} (h : RF B w0 β g f n a w) : RF B w0 β g f n a { w with drawn := w.drawn + 1 } where
  defers := h.defers
  size := h.size
  tmps := h.tmps
  blk x b hx := by
    obtain ⟨bi, h1, h2⟩ := h.blk x b hx
    exact ⟨bi, h1, h2.keep (fun _ _ h => h) (Below.refl B w).drew fun _ => rfl⟩
  inj := h.inj
  fr := h.fr.drew
  hB := h.hB
  dom := h.dom

theorem runDraw_sem {P : Program} {T : TT} {call : CallT} (hT : TOK P T) (hC : CallOK P call) (hm : P.follows .mixedOrders = true) {id : Nat} {ops : Array Oper} {ms : List Nat} {wr : Wr} {k : St → Ans} {r : DRes}
    {s : St} (hd : drawOK ms ops.toList s = true) (h : runDraw T call s ms wr ops.toList ops.toList 0 [] k = some r) :
    ∃ s', k s' = some r ∧ ∀ Q : Exit → Act → World → Prop, Goes s s' fun K a w => (∀ a w, K a w → Q .normal a w) → (Code.region id ops true).wp P Q a w := by
  unfold drawOK at hd
  obtain ⟨h1, hd⟩ := cond_and hd
  obtain ⟨h2, hd⟩ := cond_and hd
  obtain ⟨h3, hd⟩ := cond_and hd
  obtain ⟨h4, hd⟩ := cond_and hd
  obtain ⟨h5, h6⟩ := cond_and hd
  obtain ⟨R, hR1, hR2, hR3⟩ := runDraw_some (wr := wr) hT hC h2 h4 ops.toList 0 [] rfl (fun j => by rw [Nat.zero_add]) h
  rw [List.append_nil] at hR1 hR2 hR3
  rw [Nat.zero_add] at hR1
  have H : Pass P s ms wr ops.toList R := ⟨h1, h2, h3, h4, h5, h6, hR1, fun e he => (hR2 e he).2⟩
  refine ⟨_, hR3, fun Q B w0 β a w hr K hK hQ => ?_⟩
  refine wp_region_any hm (H.all (B := B) (w0 := w0) rfl (fun a' w' hI => ?_) ops.size _ a _ (by simp) ?_ (fun j hj => ?_) ?_)
  · obtain ⟨β', hI⟩ := hI
    rw [filt_all fun _ _ => rfl] at hI
    exact hQ _ _ (hK β' a' w' hI)
  · have : ∀ n, unl n (Array.replicate ops.size false) ≤ n := fun n => by
      induction n with
      | zero => exact Nat.le_refl _
      | succ n ih => simp only [unl]; cases (Array.replicate ops.size false).getD n true <;> simp <;> omega
    exact this _
  · exfalso
    replace hj : (Array.replicate ops.size false).getD j false = true := hj
    rw [Array.getD_eq_getD_getElem?] at hj
    by_cases hlt : j < ops.size
    · simp [hlt] at hj
    · simp [hlt] at hj
  · refine ⟨β, ?_⟩
    have : filt (fun j => (Array.replicate ops.size false).getD j false) R = [] := filt_nil fun e _ => by
      rw [Array.getD_eq_getD_getElem?]
      by_cases hlt : e.i < ops.size <;> simp [hlt]
    rw [this]
    exact RF.drew hr

end Go.Eng
