/- The abstract interpreter: the model's memory, step by step. -/
import Derived.Test.YtbnabgaepphlnaaGreatAevRel
import Derived.Laws.Cells
import Derived.Laws.Tables
set_option linter.unusedVariables false
namespace Go.Aev
open Go

theorem add_none (c o i : Nat) : (⟨c, o, none⟩ : Addr).add i = ⟨c, o + i, none⟩ := by
  unfold Addr.add; split
  · rename_i h; subst h; simp
  · rfl

theorem cell?_at {w : World} {c : Nat} {arr : Array Value} {el : TypeId} {fz : Nat × Nat} (h : w.heap[c]? = some (.cells arr el fz)) (i : Nat) :
    w.cell? ⟨c, i, none⟩ = arr[i]? := by
  simp [World.cell?, h]

theorem frozen?_at {w : World} {c : Nat} {arr : Array Value} {el : TypeId} {fz : Nat × Nat} (h : w.heap[c]? = some (.cells arr el fz)) (i : Nat) :
    w.frozen? ⟨c, i, none⟩ = (decide (fz.1 ≤ i) && decide (i < fz.2)) := by
  simp [World.frozen?, h]

theorem setRow_get {w : World} {c : Nat} {arr : Array Value} {el : TypeId} {fz : Nat × Nat} (h : w.heap[c]? = some (.cells arr el fz)) (cs : Array Value) :
    (w.setRow c cs).heap[c]? = some (.cells cs el fz) := by
  simp [World.setRow, Array.getElem?_modify, h]

theorem setRow_other {w : World} {c d : Nat} (cs : Array Value) (h : d ≠ c) : (w.setRow c cs).heap[d]? = w.heap[d]? := by
  simp only [World.setRow, Array.getElem?_modify]
  rw [if_neg (fun e => h e.symm)]

theorem setRow_size (w : World) (c : Nat) (cs : Array Value) : (w.setRow c cs).heap.size = w.heap.size := by simp [World.setRow]

theorem setCell_eq {w : World} {c i : Nat} {arr : Array Value} {el : TypeId} {fz : Nat × Nat} (h : w.heap[c]? = some (.cells arr el fz)) (v : Value) :
    w.setCell ⟨c, i, none⟩ v = w.setRow c (arr.setIfInBounds i v) := by
  have hlt : c < w.heap.size := (Array.getElem?_eq_some_iff.1 h).1
  have hv : w.heap[c] = .cells arr el fz := (Array.getElem?_eq_some_iff.1 h).2
  unfold World.setRow World.setCell
  congr 1
  apply Array.ext
  · simp
  · intro k h1 h2
    simp only [Array.getElem_modify]
    by_cases hk : c = k
    · subst hk; simp [hv]
    · simp [hk]

theorem setRow_twice (w : World) (c : Nat) (a b : Array Value) : (w.setRow c a).setRow c b = w.setRow c b := by
  unfold World.setRow
  congr 1
  apply Array.ext
  · simp
  · intro k h1 h2
    simp only [Array.getElem_modify]
    by_cases hk : c = k
    · subst hk
      simp
      cases w.heap[c]'(by simpa using h2) <;> rfl
    · simp [hk]

theorem setRow_same {w : World} {c : Nat} {arr : Array Value} {el : TypeId} {fz : Nat × Nat} (h : w.heap[c]? = some (.cells arr el fz)) : w.setRow c arr = w := by
  have hlt : c < w.heap.size := (Array.getElem?_eq_some_iff.1 h).1
  have hv : w.heap[c] = .cells arr el fz := (Array.getElem?_eq_some_iff.1 h).2
  unfold World.setRow
  cases w with
  | mk heap tape drawn os output =>
    congr 1
    apply Array.ext
    · simp
    · intro k h1 h2
      simp only [Array.getElem_modify]
      split
      · rename_i hk; subst hk; simp at hv; simp [hv]
      · rfl

theorem seg_step (l : List Value) (k : Nat) (v : Value) (rest : List Value) (hk : k + (rest.length + 1) ≤ l.length) :
    (l.set k v).take (k + 1) ++ (rest ++ (l.set k v).drop (k + 1 + rest.length)) = l.take k ++ ((v :: rest) ++ l.drop (k + (rest.length + 1))) := by
  have h1 : (l.set k v).take (k + 1) = l.take k ++ [v] := by
    apply List.ext_getElem?
    intro j
    simp only [List.getElem?_take, List.getElem?_set, List.getElem?_append, List.length_take]
    have hm : min k l.length = k := by omega
    rw [hm]
    by_cases hj : j < k
    · have : k ≠ j := by omega
      simp [hj, this] <;> omega
    · by_cases hj2 : j = k
      · subst hj2
        have : j < l.length := by omega
        simp [this]
      · have h3 : ¬ j < k + 1 := by omega
        have h4 : ¬ j - k = 0 := by omega
        simp [hj, h3, h4] <;> omega
  have h2 : (l.set k v).drop (k + 1 + rest.length) = l.drop (k + (rest.length + 1)) := by
    rw [List.drop_set_of_lt (by omega)]
    congr 1; omega
  rw [h1, h2]
  simp [List.append_assoc]

/-- Storing some cells one behind the other. -/
theorem run_storeCells {P : Program} (g o : Nat) (t : TypeId) (fz : Nat × Nat) : ∀ (vs : List Value) (i : Nat) (cur : Array Value) (w : World),
    w.heap[g]? = some (.cells cur t fz) → o + i + vs.length ≤ cur.size → (∀ v ∈ vs, v.oneCell' = true) → (∀ j, j < cur.size → (decide (fz.1 ≤ j) && decide (j < fz.2)) = false) →
    (storeCells ⟨g, o, none⟩ vs i).run P w = .ok () (w.setRow g (cur.toList.take (o + i) ++ (vs ++ cur.toList.drop (o + i + vs.length))).toArray)
  | [], i, cur, w, hg, _, _, _ => by
    simp only [storeCells, List.nil_append, List.length_nil, Nat.add_zero, List.take_append_drop, Array.toArray_toList]
    rw [setRow_same hg]
    rfl
  | v :: rest, i, cur, w, hg, hl, h1, hf => by
    have hi : o + i < cur.size := by simp at hl; omega
    have hcell : w.cell? ⟨g, o + i, none⟩ = some cur[o + i] := by rw [cell?_at hg]; simp [hi]
    have hfro : w.frozen? ⟨g, o + i, none⟩ = false := by rw [frozen?_at hg]; exact hf _ hi
    have hst : (store ((⟨g, o, none⟩ : Addr).add i) v).run P w = .ok () (w.setRow g (cur.setIfInBounds (o + i) v)) := by
      rw [add_none, run_store P w _ v _ (h1 v (by simp)), hcell]
      simp only [hfro, Bool.false_eq_true, if_false]
      rw [setCell_eq hg]
    have ih := run_storeCells (P := P) g o t fz rest (i + 1) (cur.setIfInBounds (o + i) v) (w.setRow g (cur.setIfInBounds (o + i) v)) (setRow_get hg _) (by simp at hl ⊢; omega) (fun x hx => h1 x (by simp [hx]))
      (fun j hj => hf j (by simpa using hj))
    simp only [storeCells, Sem.run_bind, hst, Result.andThen_ok, ih, setRow_twice]
    congr 3
    have e := seg_step cur.toList (o + i) v rest (by simp at hl ⊢; omega)
    rw [Array.toList_setIfInBounds]
    rw [show o + (i + 1) = o + i + 1 by omega]
    simpa [Nat.add_assoc] using e

theorem run_loads {P : Program} (w : World) (c o : Nat) (arr : Array Value) (el : TypeId) (fz : Nat × Nat) (h : w.heap[c]? = some (.cells arr el fz)) (cs : List Value)
    (hc : ∀ j v, cs[j]? = some v → arr[o + j]? = some v) : (loadCells ⟨c, o, none⟩ cs.length).run P w = .ok cs.toArray w :=
  run_loadCells_list w _ cs fun j v hj => by rw [add_none, cell?_at h]; exact hc j v hj

/- ### types -/
theorem tSize_some {P : Program} {t n : Nat} (h : tSize P t = some n) : ∃ i, P.info? t = some i ∧ i.size = n := by
  unfold tSize at h
  cases hi : P.info? t with
  | none => simp [hi] at h
  | some i => exact ⟨i, rfl, by simpa [hi] using h⟩
theorem tBytes_some {P : Program} {t n : Nat} (h : tBytes P t = some n) : ∃ i, P.info? t = some i ∧ i.bytes = n := by
  unfold tBytes at h
  cases hi : P.info? t with
  | none => simp [hi] at h
  | some i => exact ⟨i, rfl, by simpa [hi] using h⟩
theorem run_sizeOf' {P : Program} {t n : Nat} (h : tSize P t = some n) (w : World) : (sizeOf t).run P w = .ok n w := by
  obtain ⟨i, hi, rfl⟩ := tSize_some h
  simp [sizeOf, typeInfo, hi]
theorem run_under {P : Program} {t : Nat} {d : TypeDesc} (h : P.underlying t = some d) (w : World) : (underlying t).run P w = .ok d w := by
  simp [underlying, h]
theorem run_isAgg {P : Program} {t : Nat} {b : Bool} (h : tAgg P t = some b) (w : World) : (isAgg t).run P w = .ok b w := by
  unfold tAgg at h
  cases hu : P.underlying t with
  | none => simp [hu] at h
  | some d =>
    simp only [hu] at h
    cases d <;> simp only [Option.some.injEq] at h <;> subst h <;> simp [isAgg, underlying, hu]

/- ### constants -/
theorem ofVal0_rel {ρ : Ren} {x : Value} {v : V} (h : ofVal0 x = some v) : Rel ρ v x ∧ v.oneCell = true := by
  unfold ofVal0 at h
  split at h
  case h_8 =>
    rename_i f a c
    cases hb : a.isEmpty && c.isEmpty <;> simp only [hb, cond_true, cond_false, Option.some.injEq] at h
    · exact nomatch h
    · subst h
      simp only [Bool.and_eq_true, Array.isEmpty_iff] at hb
      obtain ⟨rfl, rfl⟩ := hb
      exact ⟨⟨#[], #[], rfl, RelL.nil, RelL.nil⟩, rfl⟩
  all_goals first
    | (simp only [Option.some.injEq] at h; subst h; exact ⟨rfl, rfl⟩)
    | exact absurd h (by simp)

theorem mapM_ofVal0_rel {ρ : Ren} : ∀ {xs : List Value} {vs : List V}, xs.mapM ofVal0 = some vs → RelL ρ vs xs ∧ vs.all V.oneCell = true
  | [], vs, h => by
    simp at h
    subst h; exact ⟨RelL.nil, rfl⟩
  | x :: xs, vs, h => by
    simp only [List.mapM_cons, Option.bind_eq_bind, Option.bind_eq_some_iff, Option.pure_def, Option.some.injEq] at h
    obtain ⟨v, h1, vs', h2, rfl⟩ := h
    obtain ⟨h3, h4⟩ := mapM_ofVal0_rel (ρ := ρ) h2
    obtain ⟨h5, h6⟩ := ofVal0_rel (ρ := ρ) h1
    exact ⟨RelL.cons h5 h3, by simp [h6, h4]⟩

theorem ofVal1_rel {ρ : Ren} {x : Value} {v : V} (h : ofVal1 x = some v) : Rel ρ v x ∧ v.cells.all V.oneCell = true := by
  unfold ofVal1 at h
  split at h
  · rename_i cs
    simp only [Option.map_eq_some_iff] at h
    obtain ⟨vs, h1, rfl⟩ := h
    obtain ⟨h2, h3⟩ := mapM_ofVal0_rel (ρ := ρ) h1
    exact ⟨by simp only [Rel]; exact ⟨cs, rfl, h2⟩, h3⟩
  · obtain ⟨h1, h2⟩ := ofVal0_rel (ρ := ρ) h
    refine ⟨h1, ?_⟩
    cases v <;> simp_all [V.cells, V.oneCell]

theorem mapM_ofVal1_rel {ρ : Ren} : ∀ {xs : List Value} {vs : List V}, xs.mapM ofVal1 = some vs → RelL ρ vs xs
  | [], vs, h => by
    simp at h
    subst h; exact RelL.nil
  | x :: xs, vs, h => by
    simp only [List.mapM_cons, Option.bind_eq_bind, Option.bind_eq_some_iff, Option.pure_def, Option.some.injEq] at h
    obtain ⟨v, h1, vs', h2, rfl⟩ := h
    exact RelL.cons (ofVal1_rel (ρ := ρ) h1).1 (mapM_ofVal1_rel h2)

theorem ofVal_rel {ρ : Ren} {x : Value} {v : V} (h : ofVal x = some v) : Rel ρ v x := by
  unfold ofVal at h
  split at h
  · rename_i cs
    simp only [Option.map_eq_some_iff] at h
    obtain ⟨vs, h1, rfl⟩ := h
    simp only [Rel]; exact ⟨cs, rfl, mapM_ofVal1_rel h1⟩
  · exact (ofVal1_rel h).1

/-- the zero value of a type, as cells. -/
theorem zCells_rel {P : Program} {t : Nat} {z : List V} (h : zCells P t = some z) : ∃ i x, P.info? t = some i ∧ i.zero = some x ∧ (∀ ρ, RelL ρ z x.cells.toList) ∧ z.all V.oneCell = true := by
  unfold zCells at h
  simp only [Option.map_eq_some_iff, Option.bind_eq_some_iff] at h
  obtain ⟨v, ⟨x, ⟨i, hi, hz⟩, hv⟩, rfl⟩ := h
  exact ⟨i, x, hi, hz, fun ρ => (ofVal1_rel (ρ := ρ) hv).1.cells, (ofVal1_rel (ρ := fun _ => none) hv).2⟩
theorem zVal_rel {P : Program} {t : Nat} {z : V} (h : zVal P t = some z) : ∃ i x, P.info? t = some i ∧ i.zero = some x ∧ ∀ ρ, Rel ρ z x := by
  unfold zVal at h
  simp only [Option.bind_eq_some_iff] at h
  obtain ⟨x, ⟨i, hi, hz⟩, hv⟩ := h
  exact ⟨i, x, hi, hz, fun ρ => (ofVal1_rel (ρ := ρ) hv).1⟩

/- ### a new block -/
def Ren.add (ρ : Ren) (b : Nat) (l : Loc) : Ren := fun i => if i = b then some l else ρ i
theorem Ren.add_same (ρ : Ren) (b : Nat) (l : Loc) : (ρ.add b l) b = some l := by simp [Ren.add]
theorem Ren.add_ne {ρ : Ren} {b i : Nat} (l : Loc) (h : i ≠ b) : (ρ.add b l) i = ρ i := by simp [Ren.add, h]
theorem Ren.le_add {ρ : Ren} {b : Nat} (h : ρ b = none) (l : Loc) : ρ.le (ρ.add b l) := fun i l' hi => by
  by_cases e : i = b
  · subst e; rw [h] at hi; exact nomatch hi
  · rw [Ren.add_ne l e]; exact hi

theorem Hp.get_new (H : Hp) (o : O) (b : Nat) : (H.new o).get b = if H.nx = b then (bif H.t.has H.nx then some o else none) else H.get b := by
  simp only [Hp.new, Hp.get, Tr.get_set]
theorem Hp.get_put (H : Hp) (i : Nat) (o : O) (b : Nat) : (H.put i o).get b = if i = b then (bif H.t.has i then some o else none) else H.get b := by
  simp only [Hp.put, Hp.get, Tr.get_set]
theorem Hp.get_del (H : Hp) (i b : Nat) : (H.del i).get b = if i = b then none else H.get b := by
  simp only [Hp.del, Hp.get, Tr.get_set]
  split
  · cases H.t.has i <;> rfl
  · rfl

theorem heap_alloc_new (w : World) (o : Obj) : (w.alloc o).heap[w.heap.size]? = some o := by
  show (w.heap.push o)[w.heap.size]? = some o
  simp
theorem heap_alloc_old (w : World) (o : Obj) {i : Nat} (h : i < w.heap.size) : (w.alloc o).heap[i]? = w.heap[i]? := by
  show (w.heap.push o)[i]? = w.heap[i]?
  rw [Array.getElem?_push, if_neg (by omega)]

/-- The world after a block was made, and the heap with it. -/
theorem new_ok {ρ : Ren} {H : Hp} {w : World} (hr : RelH ρ H w) (o : O) (obj : Obj) (l : Loc) (hc : l.c = w.heap.size) (ho : ORel ρ o l (w.alloc obj)) :
    RelH (ρ.add H.nx l) (H.new o) (w.alloc obj) ∧ Ext ρ H w (ρ.add H.nx l) (H.new o) (w.alloc obj) := by
  have hn : ρ H.nx = none := hr.nx _ (Nat.le_refl _)
  have hle := Ren.le_add hn l
  refine ⟨⟨?_, ?_, ?_, ?_, ?_⟩, ⟨hle, ?_, ?_, ?_, ?_, ?_, ?_, ?_⟩⟩
  · intro b l' h
    by_cases e : b = H.nx
    · subst e; rw [Ren.add_same] at h; cases h; rw [hc]; simp
    · rw [Ren.add_ne l e] at h
      have := hr.lt b l' h
      simp; omega
  · intro b hb
    have : H.nx + 1 ≤ b := hb
    rw [Ren.add_ne l (by omega)]; exact hr.nx b (by omega)
  · intro b hb
    have : H.nx + 1 ≤ b := hb
    rw [Hp.get_new, if_neg (by omega)]; exact hr.ng b (by omega)
  · intro b o' l' hg hl
    rw [Hp.get_new] at hg
    by_cases e : H.nx = b
    · subst e
      rw [Ren.add_same] at hl; cases hl
      rw [if_pos rfl] at hg
      cases hh : H.t.has H.nx <;> rw [hh] at hg <;> simp at hg
      subst hg
      exact ho.mono hle
    · rw [if_neg e] at hg
      rw [Ren.add_ne l (fun h => e h.symm)] at hl
      refine ((hr.obj b o' l' hg hl).of_heap ?_).mono hle
      exact heap_alloc_old w obj (hr.lt b l' hl)
  · intro b b' o1 o2 l1 l2 h1 h2 h3 h4 h5 h6
    rw [Hp.get_new] at h1 h2
    by_cases e : H.nx = b <;> by_cases e' : H.nx = b'
    · omega
    · subst e
      rw [Ren.add_same] at h3; cases h3
      rw [Ren.add_ne l (fun h => e' h.symm)] at h4
      have := hr.lt b' l2 h4
      omega
    · subst e'
      rw [Ren.add_same] at h4; cases h4
      rw [Ren.add_ne l (fun h => e h.symm)] at h3
      have := hr.lt b l1 h3
      omega
    · rw [if_neg e] at h1; rw [if_neg e'] at h2
      rw [Ren.add_ne l (fun h => e h.symm)] at h3
      rw [Ren.add_ne l (fun h => e' h.symm)] at h4
      exact hr.inj b b' o1 o2 l1 l2 h1 h2 h3 h4 h5 h6
  · intro b hb h
    rw [Ren.add_ne l (by omega), Hp.get_new, if_neg (by omega)]
    exact ⟨h, rfl⟩
  · exact Nat.le_succ _
  · intro b hb h
    rw [Hp.get_new, if_neg (by omega)]; exact h
  · intro b l' h h'
    by_cases e : b = H.nx
    · subst e; rw [Ren.add_same] at h'; cases h'; left; omega
    · rw [Ren.add_ne l e, h] at h'; exact nomatch h'
  · simp
  · intro c hlt _; exact heap_alloc_old w obj hlt
  · exact ⟨rfl, rfl⟩

/-- A new block of cells. -/
theorem new_cells {ρ : Ren} {H : Hp} {w : World} (hr : RelH ρ H w) (cs : List V) (xs : List Value) (spare : List Value) (el : TypeId) (h : RelL ρ cs xs) :
    let l : Loc := ⟨w.heap.size, 0, xs.length + spare.length, false⟩
    RelH (ρ.add H.nx l) (H.new (.cells cs false)) (w.alloc (.cells (xs ++ spare).toArray el)) ∧ Ext ρ H w (ρ.add H.nx l) (H.new (.cells cs false)) (w.alloc (.cells (xs ++ spare).toArray el)) := by
  intro l
  refine new_ok hr _ _ l rfl ?_
  exact ⟨rfl, _, _, _, [], xs, spare, heap_alloc_new _ _, by simp [l], fun _ => .inl rfl, by simp, rfl, h⟩

/-- An object that may be written is laid anew in its place. -/
theorem put_ok {ρ : Ren} {H : Hp} {w : World} (hr : RelH ρ H w) {b : Nat} {o o' : O} {l : Loc} (hg : H.get b = some o) (hl : ρ b = some l) (hro : l.ro = false)
    (w' : World) (hsz : w'.heap.size = w.heap.size) (hoth : ∀ d, d ≠ l.c → w'.heap[d]? = w.heap[d]?) (hos : w'.os = w.os ∧ w'.output = w.output) (ho : ORel ρ o' l w') :
    RelH ρ (H.put b o') w' ∧ Ext ρ H w ρ (H.put b o') w' := by
  have hhas : H.t.has b = true := Tr.has_of_get _ _ _ hg
  have hb : b < H.nx := by
    rcases Nat.lt_or_ge b H.nx with h | h
    · exact h
    · rw [hr.nx b h] at hl; exact nomatch hl
  refine ⟨⟨?_, hr.nx, ?_, ?_, ?_⟩, ⟨Ren.le_refl ρ, ?_, Nat.le_refl _, ?_, ?_, ?_, ?_, hos⟩⟩
  · intro b' l' h; rw [hsz]; exact hr.lt b' l' h
  · intro b' h'
    have h1 : H.nx ≤ b' := h'
    rw [Hp.get_put, if_neg (by omega)]; exact hr.ng b' h'
  · intro b' o1 l1 h1 h2
    rw [Hp.get_put] at h1
    by_cases e : b = b'
    · subst e
      rw [hl] at h2; cases h2
      rw [if_pos rfl, hhas] at h1
      simp at h1; subst h1
      exact ho
    · rw [if_neg e] at h1
      refine (hr.obj b' o1 l1 h1 h2).of_heap (hoth _ fun h3 => e ?_)
      exact hr.inj b b' o o1 l l1 hg h1 hl h2 hro h3.symm
  · intro b1 b2 o1 o2 l1 l2 h1 h2 h3 h4 h5 h6
    have hk : ∀ b' o1, (H.put b o').get b' = some o1 → ∃ o2, H.get b' = some o2 := by
      intro b' o1 h
      rw [Hp.get_put] at h
      by_cases e : b = b'
      · subst e; exact ⟨o, hg⟩
      · rw [if_neg e] at h; exact ⟨_, h⟩
    obtain ⟨_, k1⟩ := hk _ _ h1
    obtain ⟨_, k2⟩ := hk _ _ h2
    exact hr.inj b1 b2 _ _ l1 l2 k1 k2 h3 h4 h5 h6
  · intro b' h1 h2
    refine ⟨h2, ?_⟩
    rw [Hp.get_put, if_neg]
    intro e; subst e; rw [hl] at h2; exact nomatch h2
  · intro b' h1 h2
    rw [Hp.get_put, if_neg]
    · exact h2
    · intro e; subst e; rw [hg] at h2; exact nomatch h2
  · intro b' l' h h'; rw [h] at h'; exact nomatch h'
  · omega
  · intro c h1 h2
    refine hoth c fun e => h2 ⟨b, o, l, hg, hl, e.symm, hro⟩

theorem unfrozen_of {n : Nat} {fz : Nat × Nat} (h : fz = (0, 0) ∨ fz = (n, n + 1)) : ∀ j, j < n → (decide (fz.1 ≤ j) && decide (j < fz.2)) = false := by
  intro j hj
  rcases h with rfl | rfl
  · simp
  · simp; omega

/-- The cells from a place on. -/
theorem cellsAt_ok {P : Program} {ρ : Ren} {H : Hp} {w : World} (hr : RelH ρ H w) {b o n : Nat} {cs : List V} {l : Loc} (h : cellsAt H b o n = some cs) (hl : ρ b = some l) :
    ∃ xs : List Value, RelL ρ cs xs ∧ xs.length = n ∧ (loadCells ⟨l.c, l.base + o, none⟩ n).run P w = .ok xs.toArray w := by
  unfold cellsAt at h
  split at h
  · rename_i all ro hg
    obtain ⟨_, arr, el, fz, pre, mid, post, h1, h2, h3, h4, h5, h6⟩ := hr.obj b _ l hg hl
    cases hb : Nat.ble (o + n) all.length <;> rw [hb] at h <;> simp at h
    have hle := Nat.le_of_ble_eq_true hb
    subst h
    have hm := h6.length
    refine ⟨(mid.drop o).take n, (h6.drop o).take n, by simp; omega, ?_⟩
    have := run_loads (P := P) w l.c (l.base + o) arr el fz h1 ((mid.drop o).take n) (by
      intro j v hj
      have hjn : j < n := by
        rcases Nat.lt_or_ge j n with h | h
        · exact h
        · rw [List.getElem?_eq_none (by simp; omega)] at hj; exact nomatch hj
      rw [List.getElem?_take_of_lt hjn, List.getElem?_drop] at hj
      rw [← Array.getElem?_toList, h4, List.getElem?_append_right (by omega), List.getElem?_append_left (by omega)]
      rw [show l.base + o + j - pre.length = o + j by omega]; exact hj)
    rw [show ((mid.drop o).take n).length = n by simp; omega] at this
    exact this
  · exact nomatch h

/-- A store of some cells. -/
theorem storeAt_ok {P : Program} {ρ : Ren} {H H' : Hp} {w : World} (hr : RelH ρ H w) {b o : Nat} {vs : List V} {xs : List Value} {l : Loc} (h : storeAt H b o vs = some H') (hl : ρ b = some l) (hx : RelL ρ vs xs) :
    ∃ w', (storeCells ⟨l.c, l.base + o, none⟩ xs).run P w = .ok () w' ∧ RelH ρ H' w' ∧ Ext ρ H w ρ H' w' := by
  unfold storeAt at h
  split at h
  · rename_i all hg
    obtain ⟨hro, arr, el, fz, pre, mid, post, h1, h2, h3, h4, h5, h6⟩ := hr.obj b _ l hg hl
    cases hb : Nat.ble (o + vs.length) all.length && vs.all V.oneCell <;> rw [hb] at h <;> simp at h
    subst h
    rw [Bool.and_eq_true] at hb
    have hle := Nat.le_of_ble_eq_true hb.1
    have hm := h6.length
    have hxl := hx.length
    have hsz : arr.size = pre.length + (mid.length + post.length) := by
      rw [← Array.length_toList, h4]; simp
    have hst := run_storeCells (P := P) l.c (l.base + o) el fz xs 0 arr w h1 (by omega) (hx.oneCells hb.2) (unfrozen_of (h3 rfl))
    refine ⟨_, hst, ?_⟩
    refine put_ok hr hg hl hro.symm _ (setRow_size _ _ _) (fun d hd => setRow_other _ hd) ⟨rfl, rfl⟩ ?_
    have e : arr.toList.take (l.base + o + 0) ++ (xs ++ arr.toList.drop (l.base + o + 0 + xs.length)) = pre ++ ((mid.take o ++ (xs ++ mid.drop (o + xs.length))) ++ post) := by
      rw [h4, ← h5]
      simp only [Nat.add_zero, List.append_assoc]
      rw [List.take_append, List.drop_append]
      rw [List.take_of_length_le (by omega), List.drop_of_length_le (by omega)]
      rw [show pre.length + o - pre.length = o by omega, show pre.length + o + xs.length - pre.length = o + xs.length by omega]
      rw [List.take_append_of_le_length (by omega), List.drop_append_of_le_length (by omega)]
      simp
    refine ⟨hro, _, el, fz, pre, _, post, setRow_get h1 _, ?_, ?_, ?_, h5, h6.putAt hx hle⟩
    · rw [← h2]; simp; omega
    · intro hf
      rcases h3 hf with h | h
      · exact .inl h
      · refine .inr ?_
        rw [h]; simp; omega
    · exact e
  · exact nomatch h

end Go.Aev
