/-
  Soundness of the evaluator's slices made and grown.
-/
import Derived.Test.YtjbmpimclagfoaaEngQ
namespace Go.Eng
open Go.RowKit

/-- The cells of elements, one behind the other. -/
def flatV (els : List (List PC)) : List Value := (els.map (List.map PC.v)).flatten

theorem flatV_length {sz : Nat} {els : List (List PC)} (h : ∀ e ∈ els, e.length = sz) : (flatV els).length = els.length * sz := by
  induction els with
  | nil => simp [flatV]
  | cons e els ih =>
    have h1 := h e (by simp)
    have h2 := ih (fun x hx => h x (by simp [hx]))
    simp only [flatV, List.map_cons, List.flatten_cons, List.length_append, List.length_map, List.length_cons] at h2 ⊢
    rw [h2, h1, Nat.succ_mul, Nat.add_comm]

theorem flatV_get {sz : Nat} {els : List (List PC)} (h : ∀ e ∈ els, e.length = sz) {i j : Nat} {e : List PC} {p : PC} (hi : els[i]? = some e) (hj : e[j]? = some p) : (flatV els)[i * sz + j]? = some p.v := by
  induction els generalizing i with
  | nil => simp at hi
  | cons x els ih =>
    have h1 := h x (by simp)
    simp only [flatV, List.map_cons, List.flatten_cons]
    cases i with
    | zero =>
      simp only [List.getElem?_cons_zero, Option.some.injEq] at hi
      subst hi
      have hlt : j < x.length := (List.getElem?_eq_some_iff.1 hj).1
      rw [Nat.zero_mul, Nat.zero_add, List.getElem?_append_left (by simpa using hlt)]
      simp [hj]
    | succ i =>
      simp only [List.getElem?_cons_succ] at hi
      have h2 := ih (fun y hy => h y (by simp [hy])) hi
      rw [List.getElem?_append_right (by rw [List.length_map, h1, Nat.succ_mul]; omega)]
      rw [List.length_map, h1, show (i + 1) * sz + j - sz = i * sz + j by rw [Nat.succ_mul]; omega]
      exact h2

theorem flatV_inv {sz : Nat} {els : List (List PC)} (h : ∀ e ∈ els, e.length = sz) {k : Nat} {v : Value} (hk : (flatV els)[k]? = some v) : ∃ i j e p, k = i * sz + j ∧ els[i]? = some e ∧ e[j]? = some p ∧ v = p.v := by
  have hlt : k < els.length * sz := by
    rw [← flatV_length h]
    exact (List.getElem?_eq_some_iff.1 hk).1
  have hsz : 0 < sz := by
    rcases Nat.eq_zero_or_pos sz with h0 | h0
    · rw [h0] at hlt; omega
    · exact h0
  have hi : k / sz < els.length := Nat.div_lt_of_lt_mul (by rwa [Nat.mul_comm])
  have hj : k % sz < (els[k / sz]).length := by rw [h _ (List.getElem_mem hi)]; exact Nat.mod_lt _ hsz
  have he : k = k / sz * sz + k % sz := by rw [Nat.mul_comm]; exact (Nat.div_add_mod k sz).symm
  have h1 : els[k / sz]? = some els[k / sz] := List.getElem?_eq_getElem hi
  have h2 : (els[k / sz])[k % sz]? = some (els[k / sz])[k % sz] := List.getElem?_eq_getElem hj
  refine ⟨k / sz, k % sz, _, _, he, h1, h2, ?_⟩
  have h3 := flatV_get h h1 h2
  rw [← he, hk] at h3
  injection h3

theorem mem_len {sz : Nat} {els : List (List PC)} (h : ∀ (i : Nat) (e : List PC), els[i]? = some e → e.length = sz) : ∀ e ∈ els, e.length = sz := fun e he => by
  obtain ⟨i, hi⟩ := List.getElem?_of_mem he
  exact h i e hi

theorem flatV_oneCell (els : List (List PC)) : ∀ v ∈ flatV els, v.oneCell' = true := by
  intro v hv
  simp only [flatV, List.mem_flatten, List.mem_map] at hv
  obtain ⟨l, ⟨e, _, rfl⟩, hl⟩ := hv
  simp only [List.mem_map] at hl
  obtain ⟨p, _, rfl⟩ := hl
  cases p <;> rfl

theorem flatV_append (a b : List (List PC)) : flatV (a ++ b) = flatV a ++ flatV b := by simp [flatV]

/-- The row's first cells are the elements. -/
theorem elsIn_of_prefix {sz : Nat} {els : List (List PC)} (h : ∀ e ∈ els, e.length = sz) {arr : Array Value} (hp : ∀ (k : Nat) (v : Value), (flatV els)[k]? = some v → arr[k]? = some v) : ElsIn sz arr els :=
  fun _ _ hi _ _ hj => hp _ _ (flatV_get h hi hj)

section
variable {P : Program} {T : TT} {B : Nat} {β : Bt} {w w0 : World} {s : St} {a : Act}

/-! ### A slice literal -/

theorem fillS_ok (hr : RWs B w0 β s a w) {size n : Nat} : ∀ (parts : List (Nat × Operand)) (els els' : List (List PC)) (cells : Array Value), fillS size s els parts = some els' → els.length = n → (∀ e ∈ els, e.length = size) → cells.toList = flatV els →
    ∃ cells', Instr.fill (fun i => some (i * size, size)) cells (parts.map fun p => (p.1, a.eval p.2)) = some cells' ∧ els'.length = n ∧ (∀ e ∈ els', e.length = size) ∧ cells'.toList = flatV els' := by
  intro parts
  induction parts with
  | nil => intro els els' cells h hn hl hc; simp only [fillS, Option.some.injEq] at h; subst h; exact ⟨cells, rfl, hn, hl, hc⟩
  | cons p parts ih =>
    obtain ⟨i, x⟩ := p
    intro els els' cells h hn hl hc
    simp only [fillS] at h
    cases hx : s.ev1 x with
    | none => rw [hx] at h; simp at h
    | some v =>
      rw [hx] at h
      simp only at h
      cases hps : pcs v.cells with
      | none => rw [hps] at h; simp at h
      | some ps =>
        rw [hps] at h
        simp only at h
        obtain ⟨h1, h⟩ := cond_none h
        cases hq : put els i [ps] with
        | none => rw [hq] at h; simp at h
        | some els2 =>
          rw [hq] at h
          obtain ⟨h2, h3⟩ := put_ok hq
          simp only [List.length_singleton] at h2 h3
          have hv := (ev1_ok hr hx).cells
          rw [pcs_c hps] at hv
          have hvs := hv.pcs
          have hpl : ps.length = size := by
            have := beq_iff.1 h1
            rw [len_eq, pcs_c hps, List.length_map] at this
            exact this
          have hsz : (a.eval x).cells.size = size := by
            rw [← Array.length_toList, hvs, List.length_map, hpl]
          have hcs : cells.size = n * size := by rw [← Array.length_toList, hc, flatV_length hl, hn]
          have hfit : i * size + size ≤ cells.size := by
            rw [hcs, ← Nat.succ_mul]
            exact Nat.mul_le_mul_right _ (by omega)
          have hfold := foldl_set (i * size) (a.eval x).cells.toList 0 cells (by simp [hsz]; exact hfit)
          have hl2 : ∀ e ∈ els2, e.length = size := by
            intro e he
            rw [h2] at he
            simp only [List.mem_append, List.mem_singleton] at he
            rcases he with (he | rfl) | he
            · exact hl e (List.mem_of_mem_take he)
            · exact hpl
            · exact hl e (List.mem_of_mem_drop he)
          have hflat : cells.toList.take (i * size) ++ (a.eval x).cells.toList ++ cells.toList.drop (i * size + size) = flatV els2 := by
            rw [h2, flatV_append, flatV_append, hvs, hc]
            have e1 : flatV els = flatV (els.take i) ++ flatV (els.drop i) := by rw [← flatV_append, List.take_append_drop]
            have e2 : (flatV (els.take i)).length = i * size := by
              rw [flatV_length (fun e he => hl e (List.mem_of_mem_take he)), List.length_take, Nat.min_eq_left (by omega)]
            have e3 : flatV els = flatV (els.take (i + 1)) ++ flatV (els.drop (i + 1)) := by rw [← flatV_append, List.take_append_drop]
            have e4 : (flatV (els.take (i + 1))).length = i * size + size := by
              rw [flatV_length (fun e he => hl e (List.mem_of_mem_take he)), List.length_take, Nat.min_eq_left (by omega), Nat.succ_mul]
            have t1 : (flatV els).take (i * size) = flatV (els.take i) := by rw [e1, ← e2, List.take_left']; rfl
            have t2 : (flatV els).drop (i * size + size) = flatV (els.drop (i + 1)) := by rw [e3, ← e4, List.drop_left']; rfl
            rw [t1, t2]
            simp [flatV]
          obtain ⟨cells', h4, h5⟩ := ih els2 els' ((a.eval x).cells.zipIdx.foldl (fun cs (c, j) => cs.setIfInBounds (i * size + j) c) cells) h (by rw [h2]; simp; omega) hl2 (by
            rw [← Array.foldl_toList, Array.toList_zipIdx, hfold]
            simpa [hsz] using hflat)
          refine ⟨cells', ?_, h5⟩
          simp only [List.map_cons, Instr.fill, hsz, ne_eq, not_true_eq_false, decide_false, Bool.false_or, decide_eq_true_eq]
          rw [if_neg (by omega)]
          exact h4

theorem rep_length {α : Type} (x : α) (n : Nat) : (rep x n).length = n := by
  induction n with
  | zero => rfl
  | succ n ih => simp [rep, ih]

theorem rep_mem {α : Type} {x y : α} {n : Nat} (h : y ∈ rep x n) : y = x := by
  induction n with
  | zero => cases h
  | succ n ih => rcases List.mem_cons.1 h with h | h
                 · exact h
                 · exact ih h

theorem rep_get {α : Type} {x y : α} {n i : Nat} (h : (rep x n)[i]? = some y) : y = x := rep_mem (List.mem_of_getElem? h)

theorem zeros_flat (z : List PC) (zs : Array Value) (hz : zs.toList = z.map PC.v) (n size : Nat) (hs : z.length = size) :
    ((Array.range (n * size)).map (fun k => (if n * size = 0 then (#[] : Array Value) else zs)[k % (if n * size = 0 then (#[] : Array Value) else zs).size]!)).toList = flatV (rep z n) := by
  have hm : ∀ e ∈ rep z n, e.length = size := fun e he => by rw [rep_mem he, hs]
  apply List.ext_getElem?
  intro k
  by_cases hk : k < n * size
  · have h0 : ¬ n * size = 0 := by omega
    have hsz : 0 < size := by
      rcases Nat.eq_zero_or_pos size with h1 | h1
      · rw [h1] at hk; omega
      · exact h1
    have hzs : zs.size = size := by rw [← Array.length_toList, hz, List.length_map, hs]
    have hi : k / size < n := Nat.div_lt_of_lt_mul (by rwa [Nat.mul_comm])
    have hj : k % size < z.length := by rw [hs]; exact Nat.mod_lt _ hsz
    have he : k = k / size * size + k % size := by rw [Nat.mul_comm]; exact (Nat.div_add_mod k size).symm
    have h1 : (rep z n)[k / size]? = some z := by
      have hlt : k / size < (rep z n).length := by rw [rep_length]; exact hi
      rw [List.getElem?_eq_getElem hlt]
      congr 1
      exact rep_get (List.getElem?_eq_getElem hlt)
    have h2 : z[k % size]? = some z[k % size] := List.getElem?_eq_getElem hj
    have h3 := flatV_get hm h1 h2
    rw [← he] at h3
    rw [h3]
    have h4 : zs[k % size]? = some (z[k % size]).v := by
      rw [← Array.getElem?_toList, hz, List.getElem?_map, h2]
      rfl
    simp only [h0, if_false, hzs, Array.toList_map, Array.toList_range, List.getElem?_map]
    rw [List.getElem?_range hk]
    simp only [Option.map_some, Option.some.injEq]
    have hlt : k % size < zs.size := by rw [hzs]; exact Nat.mod_lt _ hsz
    rw [getElem!_pos zs (k % size) hlt]
    rw [Array.getElem?_eq_getElem hlt] at h4
    injection h4
  · rw [List.getElem?_eq_none (by simp; omega), List.getElem?_eq_none (by rw [flatV_length hm, rep_length]; omega)]

theorem eBuildSlice_ok (hT : TOK P T) (hr : RWs B w0 β s a w) {d n : Nat} {t : TypeId} {parts : Array (Nat × Operand)} {v : SV} {ups : List Up} (h : eBuildSlice T s d t n parts = some (true, v, ups))
    (hfresh : β (d, 0) = none) : ∃ vv w' β', (Instr.buildSlice t n (parts.map fun (i, x) => (i, a.eval x))).run P w = .ok vv w' ∧ SRel β' v vv ∧ Eff B β β' ups w w' := by
  unfold eBuildSlice at h
  split at h
  case h_2 => cases h
  case h_1 =>
    rename_i el _ _ _ _ he
    split at h
    case h_2 => cases h
    case h_1 f hel =>
      split at h
      case h_2 => cases h
      case h_1 z hz =>
        obtain ⟨h1, h⟩ := cond_none h
        obtain ⟨h2, h⟩ := cond_none h
        cases hq : fillS f.size s (rep z n) parts.toList with
        | none => rw [hq] at h; simp at h
        | some els =>
          rw [hq] at h
          simp only [Option.some.injEq, Prod.mk.injEq, true_and] at h
          obtain ⟨rfl, rfl⟩ := h
          have hu : P.underlying t = some (.slice el) := (hT t _ he).und
          have hte := hT el f hel
          obtain ⟨zv, hzv, hzr⟩ := hte.zeroValue w
          have hzc := hzr β
          rw [pcs_c hz] at hzc
          have hzs := hzc.pcs
          have hzl : z.length = f.size := by
            have := beq_iff.1 h1
            rwa [len_eq, pcs_c hz, List.length_map] at this
          have hm : ∀ e ∈ rep z n, e.length = f.size := fun e he => by rw [rep_mem he, hzl]
          obtain ⟨cells', h3, h4, h5, h6⟩ := fillS_ok hr (n := n) parts.toList (rep z n) els ((Array.range (n * f.size)).map (fun k => (if n * f.size = 0 then (#[] : Array Value) else zv.cells)[k % (if n * f.size = 0 then (#[] : Array Value) else zv.cells).size]!)) hq (rep_length z n) hm
            (zeros_flat z zv.cells hzs n f.size hzl)
          have hle : ¬ n * f.size > 16777216 := by have := ble_iff.1 h2; omega
          have hparts : (parts.map fun (i, x) => (i, a.eval x)).toList = parts.toList.map fun p => (p.1, a.eval p.2) := by simp
          have hrun : (Instr.buildSlice t n (parts.map fun (i, x) => (i, a.eval x))).run P w = .ok (.slice (some ⟨w.heap.size, 0, none⟩) n n) (w.alloc (.cells cells' el)) := by
            unfold Instr.buildSlice
            simp only [Sem.run_bind, run_underlying hu, Result.andThen_ok, hte.sizeOf, hparts]
            rw [if_neg (by simpa using hle)]
            by_cases h0 : n * f.size = 0
            · rw [if_pos h0] at h3 ⊢
              simp only [Sem.run_bind, Sem.run_pure, Result.andThen_ok]
              rw [h3]
              simp only [Sem.run_bind, run_newRow, Result.andThen_ok, Sem.run_pure]
            · rw [if_neg h0] at h3 ⊢
              simp only [Sem.run_bind, hzv, Sem.run_pure, Result.andThen_ok]
              rw [h3]
              simp only [Sem.run_bind, run_newRow, Result.andThen_ok, Sem.run_pure]
          refine ⟨_, _, upd β (d, 0) ⟨w.heap.size, 0, f.size, true, n, els.length⟩, hrun, ?_, Eff.newBlock hfresh hr.hB (fun _ => rfl) ?_⟩
          · refine ⟨_, upd_same _ _ _, _, _, by rw [h4], Nat.le_of_eq h4, by simp, by simp, by simp⟩
          · refine ⟨rfl, rfl, rfl, fun i e hi => h5 e (List.mem_of_getElem? hi), rfl, Nat.le_of_eq h4, fun _ => ⟨hr.hB, cells', el, heap_push_new w _, ?_, ?_⟩⟩
            · rw [← Array.length_toList, h6, flatV_length h5, h4]
            · exact elsIn_of_prefix h5 fun k x hk => by rw [← h6] at hk; simpa using hk

theorem rep_append {α : Type} (x : α) (n m : Nat) : rep x (n + m) = rep x n ++ rep x m := by
  induction n with
  | zero => simp [rep]
  | succ n ih => rw [Nat.succ_add]; simp [rep, ih]

theorem eMakeSlice_ok (hT : TOK P T) (hr : RWs B w0 β s a w) {d : Nat} {t : TypeId} {cl cc : Cell} {vl vc : Value} {v : SV} {ups : List Up} (h : eMakeSlice T d t cl cc = some (true, v, ups)) (hl : CRel β cl vl) (hc : CRel β cc vc)
    (hfresh : β (d, 0) = none) : ∃ vv w' β', (Instr.makeSlice t vl vc).run P w = .ok vv w' ∧ SRel β' v vv ∧ Eff B β β' ups w w' := by
  unfold eMakeSlice at h
  split at h
  case h_2 => cases h
  case h_1 k l k' c =>
    obtain rfl : vl = .int k l := hl
    obtain rfl : vc = .int k' c := hc
    split at h
    case h_2 => cases h
    case h_1 =>
      rename_i el _ _ _ _ he
      split at h
      case h_2 => cases h
      case h_1 f hel =>
        split at h
        case h_2 => cases h
        case h_1 z hz =>
          obtain ⟨h1, h⟩ := cond_none h
          simp only [Option.some.injEq, Prod.mk.injEq] at h
          obtain ⟨h2, rfl, rfl⟩ := h
          obtain ⟨b1, b2, b3, b4⟩ := of_decide_eq_true h2
          have hu : P.underlying t = some (.slice el) := (hT t _ he).und
          have hte := hT el f hel
          obtain ⟨zv, hzv, hzr⟩ := hte.zeroValue w
          have hzc := hzr β
          rw [pcs_c hz] at hzc
          have hzs := hzc.pcs
          have hzl : z.length = f.size := by
            have := beq_iff.1 h1
            rwa [len_eq, pcs_c hz, List.length_map] at this
          have hzero := zeros_flat z zv.cells hzs c.toNat f.size hzl
          have hm : ∀ e ∈ rep z l.toNat, e.length = f.size := fun e he => by rw [rep_mem he, hzl]
          have hmc : ∀ e ∈ rep z c.toNat, e.length = f.size := fun e he => by rw [rep_mem he, hzl]
          obtain ⟨i, z', hi, _, hib, _, _⟩ := hte.info
          have wl : IntKind.wrap .i64 l = l := by rw [IntKind.wrap_i64]; omega
          have wc : IntKind.wrap .i64 c = c := by rw [IntKind.wrap_i64]; omega
          have e48 : (2 : Int) ^ 48 = 281474976710656 := by decide
          have t1 : (decide (c < 0) || decide ((i.bytes : Int) * c > 2 ^ 48)) = false := by
            rw [hib, e48, decide_eq_false (by omega), decide_eq_false (by omega)]; rfl
          have hroom : ¬ c.toNat * i.bytes > roomBytes := by
            have e1 : ((c.toNat : Nat) : Int) = c := by omega
            have e2 : ((c.toNat * i.bytes : Nat) : Int) ≤ 16777216 := by
              rw [Int.natCast_mul, e1, hib, Int.mul_comm]; exact b4
            have : c.toNat * i.bytes ≤ 16777216 := by omega
            have e3 : roomBytes = 140737488355328 := by decide
            rw [e3]
            omega
          have hrun : (Instr.makeSlice t (.int k l) (.int k' c)).run P w = .ok (.slice (some ⟨w.heap.size, 0, none⟩) l.toNat c.toNat)
              (w.alloc (.cells ((Array.range (c.toNat * f.size)).map (fun k => (if c.toNat * f.size = 0 then (#[] : Array Value) else zv.cells)[k % (if c.toNat * f.size = 0 then (#[] : Array Value) else zv.cells).size]!)) el)) := by
            have hti : (typeInfo el).run P w = .ok i w := by simp [typeInfo, hi]
            have har : (askRoom (c.toNat * i.bytes)).run P w = .ok () w := by simp [askRoom, hroom]
            have hai : ∀ (k : IntKind) (n : Int), (asInt (.int k n)).run P w = .ok n w := fun k n => by simp [asInt, asIntOf]
            have hno : ((decide (c < 0) || decide ((i.bytes : Int) * c > 2 ^ 48)) || decide (l < 0) || decide (l > c)) = false := by
              rw [t1, decide_eq_false (show ¬ l < 0 by omega), decide_eq_false (show ¬ l > c by omega)]; rfl
            unfold Instr.makeSlice
            simp only [Sem.run_bind, run_underlying hu, Result.andThen_ok, hai, hti, wl, wc, hno, Bool.false_eq_true, if_false, har, hte.sizeOf]
            by_cases h0 : c.toNat * f.size = 0
            · simp only [if_pos h0, Sem.run_bind, Sem.run_pure, Result.andThen_ok, run_newRow]
            · simp only [if_neg h0, Sem.run_bind, hzv, Sem.run_pure, Result.andThen_ok, run_newRow]
          refine ⟨_, _, upd β (d, 0) ⟨w.heap.size, 0, f.size, true, c.toNat, l.toNat⟩, hrun, ?_, Eff.newBlock hfresh hr.hB (fun _ => rfl) ?_⟩
          · exact ⟨_, upd_same _ _ _, _, _, rfl, by show l.toNat ≤ c.toNat; omega, by simp, by simp, by simp⟩
          · refine ⟨rfl, rfl, by simp [Els.list, rep_length], fun i e hi => hm e (List.mem_of_getElem? hi), rfl, by simp only [Els.list, rep_length]; omega, fun _ => ⟨hr.hB, _, el, heap_push_new w _, by simp, ?_⟩⟩
            refine elsIn_of_prefix hm fun k x hk => ?_
            have e : rep z c.toNat = rep z l.toNat ++ rep z (c.toNat - l.toNat) := by rw [← rep_append]; congr 1; omega
            have hk2 : (flatV (rep z c.toNat))[k]? = some x := by
              rw [e, flatV_append]
              have hlt := (List.getElem?_eq_some_iff.1 hk).1
              rw [List.getElem?_append_left hlt]; exact hk
            rw [← hzero] at hk2
            rw [← Array.getElem?_toList]
            exact hk2

/-! ### append -/

/-- What a slice's cells are. -/
theorem content_ok (hr : RWs B w0 β s a w) {size : Nat} {c : Cell} {v : Value} {E : Els} (h : content s size c = some E) (hc : CRel β c v) :
    ∃ av cap, v = .slice av E.len cap ∧ E.len ≤ cap ∧ (∀ e ∈ E.list, e.length = size) ∧ (0 < E.len → ∃ b o, av = some ⟨b, o, none⟩ ∧ ∀ k x, (flatV E.list)[k]? = some x → w.cell? ⟨b, o + k, none⟩ = some x) := by
  have key : ∀ {bi : BI} {own : Bool} {sz : Nat} {E : Els}, BRel β B w bi (.arr own sz E) → ∀ (off ln : Nat), off + ln ≤ E.list.length → 0 < ln →
      ∀ k x, (flatV ((E.list.drop off).take ln))[k]? = some x → w.cell? ⟨bi.b, bi.o + off * bi.sz + k, none⟩ = some x := by
    intro bi own sz E hrel off ln hoff hpos k x hk
    obtain ⟨h1, h2, h3, h4, h5⟩ := hrel
    have hm := mem_len h4
    have hm' : ∀ e ∈ (E.list.drop off).take ln, e.length = sz := fun e he => hm e (List.mem_of_mem_drop (List.mem_of_mem_take he))
    obtain ⟨i, j, e, p, rfl, hi, hj, rfl⟩ := flatV_inv hm' hk
    have hi' : E.list[off + i]? = some e := by
      rw [List.getElem?_take] at hi
      split at hi
      · simpa using hi
      · cases hi
    have heq : bi.o + off * bi.sz + (i * sz + j) = bi.o + (off + i) * sz + j := by rw [h2, Nat.add_mul]; omega
    rw [heq]
    cases own with
    | true =>
      obtain ⟨h6, h7, h8⟩ := h5
      have hlt : off + i < E.list.length := (List.getElem?_eq_some_iff.1 hi').1
      obtain ⟨_, arr, t, hh, _, hin⟩ := h8 (by omega)
      rw [cell_of hh, h6]
      simpa using hin _ e hi' j p hj
    | false => exact (h5 _ e hi' j p hj).2
  cases c <;> try (simp [content] at h; done)
  case nils =>
    obtain rfl : v = .slice none 0 0 := hc
    simp only [content, Option.some.injEq] at h
    subst h
    exact ⟨none, 0, rfl, Nat.le_refl _, fun _ h => by simp [Els.list] at h, fun h => by simp [Els.len] at h⟩
  case whole x =>
    obtain ⟨bi, hbi, av, cap, rfl, hcap, hlen, hown, had⟩ := hc
    simp only [content] at h
    split at h
    case h_2 => cases h
    case h_1 own sz es hl =>
      obtain ⟨bi2, hbi2, hrel⟩ := live_ok hr hl
      rw [hbi] at hbi2
      obtain rfl : bi = bi2 := by injection hbi2
      have hle : bi.len = es.len := by rw [es.len_eq]; exact hrel.2.2.1
      cases hb : Nat.beq sz size with
      | true =>
        rw [hb] at h
        simp only [cond_true, Option.some.injEq] at h
        subst h
        refine ⟨av, cap, by rw [hle], by omega, by rw [← beq_iff.1 hb]; exact mem_len hrel.2.2.2.1, fun hpos => ?_⟩
        refine ⟨_, _, had (.inr (by omega)), fun k x hk => ?_⟩
        have := key hrel 0 es.len (by rw [es.len_eq]; omega) hpos k x (by rw [es.len_eq]; simpa using hk)
        simpa using this
      | false =>
        rw [hb] at h
        simp only [cond_false] at h
        split at h
        case h_2 => cases h
        case h_1 =>
          simp only [Option.some.injEq] at h
          subst h
          exact ⟨av, cap, by rw [hle], Nat.zero_le _, fun _ h => by simp [Els.list] at h, fun h => by simp [Els.len] at h⟩
  case sl x off ln =>
    obtain ⟨bi, hbi, av, cap, rfl, hcap, hlen, hown, had⟩ := hc
    simp only [content] at h
    split at h
    case h_2 => cases h
    case h_1 own sz es hl =>
      obtain ⟨bi2, hbi2, hrel⟩ := live_ok hr hl
      rw [hbi] at hbi2
      obtain rfl : bi = bi2 := by injection hbi2
      have hle : bi.len = es.list.length := hrel.2.2.1
      obtain ⟨hb, h⟩ := cond_none h
      simp only [Option.some.injEq] at h
      subst h
      have hcut := cut_list (E := es) (off := off) (ln := ln) (by omega)
      have hl2 : (es.cut off ln).len = ln := by rw [Els.len_eq, hcut, List.length_take, List.length_drop]; omega
      rw [hl2, hcut]
      refine ⟨av, cap, rfl, hcap, fun e he => ?_, fun hpos => ?_⟩
      · rw [← beq_iff.1 hb]
        exact mem_len hrel.2.2.2.1 e (List.mem_of_mem_drop (List.mem_of_mem_take he))
      · exact ⟨_, _, had (.inr hpos), key hrel off ln (by omega) hpos⟩

theorem run_firstCells {size n cap : Nat} {av : Option Addr} {els : List (List PC)} (hm : ∀ e ∈ els, e.length = size) (hn : els.length = n)
    (h : 0 < n → ∃ b o, av = some ⟨b, o, none⟩ ∧ ∀ k x, (flatV els)[k]? = some x → w.cell? ⟨b, o + k, none⟩ = some x) :
    (Builtin.firstCells size n (.slice av n cap)).run P w = .ok (flatV els).toArray w := by
  subst hn
  cases av with
  | none =>
    have h0 : els = [] := by
      rcases Nat.eq_zero_or_pos els.length with h1 | h1
      · exact List.eq_nil_of_length_eq_zero h1
      · obtain ⟨b, o, he, _⟩ := h h1; cases he
    subst h0
    simp [Builtin.firstCells, flatV]
  | some ad =>
    rcases Nat.eq_zero_or_pos els.length with h1 | h1
    · have h0 := List.eq_nil_of_length_eq_zero h1
      subst h0
      simp [Builtin.firstCells, flatV, loadCells, loadCellsFrom]
    · obtain ⟨b, o, he, hc⟩ := h h1
      injection he with he
      subst he
      have := run_loadCells_list (P := P) w ⟨b, o, none⟩ (flatV els) (fun j v hj => by rw [add_none]; exact hc j v hj)
      rw [flatV_length hm] at this
      simpa [Builtin.firstCells] using this

/-- append, in place. -/
theorem run_append_in {t el ty : TypeId} {e : TE} (hu : P.underlying t = some (.slice el)) (he : TEOK P el e) {av bv : Option Addr} {n m sCap c2 : Nat} {ys : List (List PC)} (hm : ∀ y ∈ ys, y.length = e.size) (hy : ys.length = m)
    (hb : 0 < m → ∃ b o, bv = some ⟨b, o, none⟩ ∧ ∀ k x, (flatV ys)[k]? = some x → w.cell? ⟨b, o + k, none⟩ = some x) (hfit : n + m ≤ sCap) :
    (Builtin.append_ #[t, t] ty #[.slice av n sCap, .slice bv m c2]).run P w = ((match av with | some ad => storeCells (ad.add (n * e.size)) (flatV ys) | none => pure () : Sem Unit).run P w).andThen fun _ w' => .ok (.slice av (n + m) sCap) w' := by
  have hf := run_firstCells (P := P) (w := w) (cap := c2) hm hy hb
  obtain ⟨i, _, hi, hs, _⟩ := he.info
  cases av <;> simp [Builtin.append_, run_underlying hu, sizeOf, typeInfo, hi, hs, Builtin.lenOf, hfit, hf]

/-- append, into a new row. -/
theorem run_append_new {t el ty : TypeId} {e : TE} (hu : P.underlying t = some (.slice el)) (he : TEOK P el e) {av bv : Option Addr} {n m sCap c2 : Nat} {xs ys : List (List PC)}
    (hmx : ∀ y ∈ xs, y.length = e.size) (hx : xs.length = n) (ha : 0 < n → ∃ b o, av = some ⟨b, o, none⟩ ∧ ∀ k x, (flatV xs)[k]? = some x → w.cell? ⟨b, o + k, none⟩ = some x)
    (hm : ∀ y ∈ ys, y.length = e.size) (hy : ys.length = m) (hb : 0 < m → ∃ b o, bv = some ⟨b, o, none⟩ ∧ ∀ k x, (flatV ys)[k]? = some x → w.cell? ⟨b, o + k, none⟩ = some x)
    (hg : sCap < n + m) (hby : 0 < e.bytes) (hfit : (n + m) * e.bytes ≤ 140737488355328) (hz : e.zero.length = e.size) :
    ∃ (cap : Nat) (arr : Array Value), n + m ≤ cap ∧ arr.size = cap * e.size ∧ (∀ (k : Nat) (x : Value), (flatV xs ++ flatV ys)[k]? = some x → arr[k]? = some x) ∧
      (Builtin.append_ #[t, t] ty #[.slice av n sCap, .slice bv m c2]).run P w = .ok (.slice (some ⟨w.heap.size, 0, none⟩) (n + m) cap) (w.drew.alloc (.cells arr el)) := by
  have hfx := run_firstCells (P := P) (w := w.drew) (cap := sCap) hmx hx (by simpa using ha)
  have hfy := run_firstCells (P := P) (w := w.drew) (cap := c2) hm hy (by simpa using hb)
  obtain ⟨i, z, hi, hs, hby2, hzv, hzr⟩ := he.info
  have hn : ¬ (n + m ≤ sCap) := by omega
  have hle : n + m ≤ 140737488355328 := Nat.le_trans (Nat.le_mul_of_pos_right _ hby) hfit
  have h63' : ¬ (9223372036854775807 < ((n : Int) + (m : Int))) := by omega
  have h48 := growslice_fits (need := n + m) (old := sCap) (bytes := e.bytes) hg hfit
  have h48' : ¬ (281474976710656 < Builtin.nextslicecap (n + m) sCap * i.bytes) := by rw [hby2]; omega
  have hzs : z.cells.size = e.size := by
    have := (hzr (fun _ => none)).length
    rw [hz] at this
    simpa using this.symm
  have hge := grownCap_ge w (n + m) sCap el
  refine ⟨grownCap w (n + m) sCap el, (flatV xs).toArray ++ (flatV ys).toArray ++ Builtin.zeroCells z.cells (grownCap w (n + m) sCap el - (n + m)), hge, ?_, ?_, ?_⟩
  · simp only [Array.size_append, List.size_toArray, flatV_length hmx, flatV_length hm, hx, hy, size_zeroCells, hzs]
    rw [← Nat.add_mul, ← Nat.add_mul]
    congr 1
    omega
  · intro k x hk
    have hlt : k < (flatV xs ++ flatV ys).length := (List.getElem?_eq_some_iff.1 hk).1
    rw [Array.getElem?_append_left (by simpa using hlt)]
    simpa using hk
  · simp only [grownCap] at hge ⊢
    simp [Builtin.append_, run_underlying hu, sizeOf, typeInfo, zeroValue, hi, hs, hzv, Builtin.lenOf, hn, h63', h48', Question.forced, hfx, hfy, newRow]
    apply congrArg fun x => w.drew.alloc (.cells x el)
    apply Array.ext'
    simp

end
end Go.Eng
