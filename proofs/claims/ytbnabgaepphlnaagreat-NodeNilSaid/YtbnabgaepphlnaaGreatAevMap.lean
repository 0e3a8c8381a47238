/- The abstract interpreter: maps. -/
import Derived.Test.YtbnabgaepphlnaaGreatAevEq
set_option linter.unusedVariables false
set_option linter.unusedSimpArgs false
namespace Go.Aev
open Go

mutual
theorem V.beq_eq : ∀ (v u : V), V.beq v u = true → v = u
  | .bool a, u, h => by cases u <;> simp [V.beq] at h; rw [h]
  | .int k a, u, h => by
    cases u <;> simp [V.beq] at h
    rename_i k' b
    obtain ⟨h1, h2⟩ := h
    rw [eqI_eq] at h2
    rw [(eqK_iff _ _).1 h1, eq_of_beq h2]
  | .str a, u, h => by cases u <;> simp [V.beq] at h; rw [h]
  | .nilp, u, h => by cases u <;> simp [V.beq] at h; rfl
  | .ptr b o, u, h => by cases u <;> simp [V.beq] at h; rw [h.1, h.2]
  | .nils, u, h => by cases u <;> simp [V.beq] at h; rfl
  | .sl b o n c z, u, h => by
    cases u <;> simp [V.beq] at h
    rename_i b' o' n' c' z'
    obtain ⟨⟨⟨⟨rfl, rfl⟩, rfl⟩, h4⟩, rfl⟩ := h
    cases c <;> cases c' <;> simp at h4 <;> rw [h4]
  | .nilm, u, h => by cases u <;> simp [V.beq] at h; rfl
  | .map r, u, h => by cases u <;> simp [V.beq] at h; rw [h]
  | .nilf, u, h => by cases u <;> simp [V.beq] at h; rfl
  | .fn f a c, u, h => by
    cases u <;> simp [V.beq] at h
    obtain ⟨⟨rfl, h2⟩, h3⟩ := h
    rw [V.beqs_eq _ _ h2, V.beqs_eq _ _ h3]
  | .nili, u, h => by cases u <;> simp [V.beq] at h; rfl
  | .ifc t v, u, h => by
    cases u <;> simp [V.beq] at h
    obtain ⟨rfl, h2⟩ := h
    rw [V.beq_eq _ _ h2]
  | .agg cs, u, h => by
    cases u <;> simp [V.beq] at h
    rw [V.beqs_eq _ _ h]
  | .tup cs, u, h => by
    cases u <;> simp [V.beq] at h
    rw [V.beqs_eq _ _ h]
theorem V.beqs_eq : ∀ (vs us : List V), V.beqs vs us = true → vs = us
  | [], us, h => by cases us <;> simp [V.beqs] at h; rfl
  | v :: vs, us, h => by
    cases us <;> simp [V.beqs] at h
    rw [V.beq_eq _ _ h.1, V.beqs_eq _ _ h.2]
end

theorem simple0_fun {ρ : Ren} {v : V} {x y : Value} (h : simple0 v = true) (hx : Rel ρ v x) (hy : Rel ρ v y) : x = y := by
  cases v <;> simp only [simple0] at h <;> (try contradiction)
  case ptr b o =>
    obtain ⟨l, hl, rfl⟩ := hx.ptr_inv
    obtain ⟨l', hl', rfl⟩ := hy.ptr_inv
    rw [hl] at hl'; cases hl'; rfl
  case map r =>
    obtain ⟨l, hl, rfl⟩ : ∃ l, ρ r = some l ∧ x = .map (some l.c) := hx
    obtain ⟨l', hl', rfl⟩ : ∃ l, ρ r = some l ∧ y = .map (some l.c) := hy
    rw [hl] at hl'; cases hl'; rfl
  all_goals
    simp only [Rel] at hx hy
    rw [hx, hy]

theorem simples_fun {ρ : Ren} : ∀ {vs : List V} {xs ys : List Value}, vs.all simple0 = true → RelL ρ vs xs → RelL ρ vs ys → xs = ys
  | [], _, _, _, hx, hy => by rw [hx.nil_inv, hy.nil_inv]
  | v :: vs, _, _, h, hx, hy => by
    obtain ⟨x, xs, rfl, h1, h2⟩ := hx.cons_inv
    obtain ⟨y, ys, rfl, h3, h4⟩ := hy.cons_inv
    simp only [List.all_cons, Bool.and_eq_true] at h
    rw [simple0_fun h.1 h1 h3, simples_fun h.2 h2 h4]

theorem simpleV_fun {ρ : Ren} {v : V} {x y : Value} (h : simpleV v = true) (hx : Rel ρ v x) (hy : Rel ρ v y) : x = y := by
  cases v
  case agg cs =>
    simp only [simpleV] at h
    obtain ⟨a, rfl, h1⟩ := hx.agg_inv
    obtain ⟨b, rfl, h2⟩ := hy.agg_inv
    have := simples_fun h h1 h2
    rw [Array.ext' this]
  all_goals exact simple0_fun (by simpa [simpleV] using h) hx hy

section
variable {P : Program}

theorem RelE.length {ρ : Ren} : ∀ {es : List (V × V × Nat)} {l : List MapEntry}, RelE ρ es l → l.length = es.length
  | [], _, h => by rw [show _ = [] from h]; rfl
  | (k, v, b) :: es, _, ⟨e, r, he, _, _, _, h4⟩ => by rw [he]; simp [RelE.length h4]

theorem RelE.get {ρ : Ren} : ∀ {es : List (V × V × Nat)} {l : List MapEntry}, RelE ρ es l → ∀ {i : Nat} {k v : V} {b : Nat}, es[i]? = some (k, v, b) →
    ∃ e, l[i]? = some e ∧ Rel ρ k e.key ∧ Rel ρ v e.val ∧ e.born = b
  | [], _, _, i, k, v, b, hi => by simp at hi
  | (k0, v0, b0) :: es, _, ⟨e, r, he, h1, h2, h3, h4⟩, i, k, v, b, hi => by
    subst he
    cases i with
    | zero => simp at hi; obtain ⟨rfl, rfl, rfl⟩ := hi; exact ⟨e, by simp, h1, h2, h3⟩
    | succ i => simp at hi; simpa using RelE.get h4 hi

theorem RelE.snoc {ρ : Ren} : ∀ {es : List (V × V × Nat)} {l : List MapEntry} {k v : V} {e : MapEntry}, RelE ρ es l → Rel ρ k e.key → Rel ρ v e.val → RelE ρ (es ++ [(k, v, e.born)]) (l ++ [e])
  | [], _, k, v, e, h, h1, h2 => by rw [show _ = [] from h]; exact ⟨e, [], rfl, h1, h2, rfl, rfl⟩
  | (k0, v0, b0) :: es, _, k, v, e, ⟨e0, r, he, h1, h2, h3, h4⟩, h5, h6 => by
    subst he; exact ⟨e0, r ++ [e], rfl, h1, h2, h3, RelE.snoc h4 h5 h6⟩

theorem RelE.set {ρ : Ren} : ∀ {es : List (V × V × Nat)} {l : List MapEntry} {k v : V} {e : MapEntry} (i : Nat), RelE ρ es l → Rel ρ k e.key → Rel ρ v e.val → RelE ρ (es.set i (k, v, e.born)) (l.set i e)
  | [], _, k, v, e, i, h, h1, h2 => by rw [show _ = [] from h]; simp [RelE]
  | (k0, v0, b0) :: es, _, k, v, e, 0, ⟨e0, r, he, h1, h2, h3, h4⟩, h5, h6 => by
    subst he; exact ⟨e, r, rfl, h5, h6, rfl, h4⟩
  | (k0, v0, b0) :: es, _, k, v, e, i + 1, ⟨e0, r, he, h1, h2, h3, h4⟩, h5, h6 => by
    subst he; exact ⟨e0, _, rfl, h1, h2, h3, RelE.set i h4 h5 h6⟩

theorem RelE.erase {ρ : Ren} : ∀ {es : List (V × V × Nat)} {l : List MapEntry} (i : Nat), RelE ρ es l → RelE ρ (es.eraseIdx i) (l.eraseIdx i)
  | [], _, i, h => by rw [show _ = [] from h]; simp [RelE]
  | (k0, v0, b0) :: es, _, 0, ⟨e0, r, he, h1, h2, h3, h4⟩ => by subst he; exact h4
  | (k0, v0, b0) :: es, _, i + 1, ⟨e0, r, he, h1, h2, h3, h4⟩ => by
    subst he; exact ⟨e0, _, rfl, h1, h2, h3, RelE.erase i h4⟩

/-- what the model's search gives, of a place. -/
def hit (l : List MapEntry) : Option Nat → Nat → Option (Nat × Value)
  | none => fun _ => none
  | some i => fun j => (l[i - j]?).map fun e => (i, e.val)

theorem idxV_ge {t : EqT} {k : V} : ∀ {es : List (V × V × Nat)} {j i : Nat}, idxV t k es j = some (some i) → j ≤ i ∧ i < j + es.length
  | [], j, i, h => by simp [idxV] at h
  | (k', v', b') :: es, j, i, h => by
    simp only [idxV] at h
    split at h
    · simp only [Option.some.injEq] at h; subst h; simp
    · have := idxV_ge h; simp; omega
    · exact nomatch h

theorem asking_ok {t : TypeId} {e : EqT} (he : trEq P 50 t = some e) {ρ : Ren} {k : V} {ck : Value} (hk : Rel ρ k ck) (w : World) : ∀ {es : List (V × V × Nat)} {l : List MapEntry} {j : Nat} {r : Option Nat},
    RelE ρ es l → idxV e k es j = some r → (Instr.findAsking t ck l j).run P w = .ok (hit l r j) w
  | [], _, j, r, h, hi => by
    rw [show _ = [] from h]
    simp only [idxV, Option.some.injEq] at hi; subst hi
    simp [Instr.findAsking, hit]
  | (k', v', b') :: es, _, j, r, ⟨e0, l, hl, h1, h2, h3, h4⟩, hi => by
    subst hl
    simp only [idxV] at hi
    split at hi
    · rename_i hq
      simp only [Option.some.injEq] at hi; subst hi
      have := eqv_ok (P := P) 50 t e he Op.maxDepth (by decide) ρ k k' ck e0.key true w hk h1 hq
      simp [Instr.findAsking, Op.equal, this, hit]
    · rename_i hq
      have := eqv_ok (P := P) 50 t e he Op.maxDepth (by decide) ρ k k' ck e0.key false w hk h1 hq
      simp only [Instr.findAsking, Op.equal, Sem.run_bind, this, Result.andThen_ok, Bool.false_eq_true, if_false]
      rw [asking_ok he hk w h4 hi]
      cases r with
      | none => rfl
      | some i =>
        have hge := idxV_ge hi
        simp only [hit]
        rw [show i - j = (i - (j + 1)) + 1 by omega]
        simp
    · exact nomatch hi

theorem sameNow_ok {t : TypeId} {e : EqT} {ud : TypeDesc} (hu : P.underlying t = some ud) (he : trEq P 50 t = some e) {ρ : Ren} {k k' : V} {ck ck' : Value} (hk : Rel ρ k ck) (hk' : Rel ρ k' ck') {b b' : Bool}
    (h : Instr.sameNow ud ck ck' = some b) (h' : eqv e k k' = some b') : b = b' := by
  unfold Instr.sameNow at h
  split at h
  · rename_i kk q1 a1 q2 a2
    split at h
    · simp only [Option.some.injEq] at h
      have e1 : trEq P 50 t = some .int := by simp [trEq, hu]
      rw [e1] at he; cases he
      simp only [eqv] at h'
      unfold eqInt at h'
      split at h'
      · rename_i j1 m1 j2 m2
        cases hq : eqK j1 j2 <;> rw [hq] at h' <;> simp only [cond_true, cond_false, Option.some.injEq] at h'
        · exact nomatch h'
        · have c1 := hk.int_inv; have c2 := hk'.int_inv
          cases c1; cases c2
          rw [← h, ← h', eqI_eq]
      · exact nomatch h'
    · exact nomatch h
  · rename_i a1 a2
    simp only [Option.some.injEq] at h
    have e1 : trEq P 50 t = some .str := by simp [trEq, hu]
    rw [e1] at he; cases he
    simp only [eqv] at h'
    unfold eqStr at h'
    split at h'
    · rename_i m1 m2
      simp only [Option.some.injEq] at h'
      have c1 := hk.str_inv; have c2 := hk'.str_inv
      cases c1; cases c2
      rw [← h, ← h', beq_toListBytes, ByteArray.toList_eq, ByteArray.toList_eq]
    · exact nomatch h'
  · rename_i a1 a2
    simp only [Option.some.injEq] at h
    have e1 : trEq P 50 t = some .bool := by simp [trEq, hu]
    rw [e1] at he; cases he
    simp only [eqv] at h'
    unfold eqBool at h'
    split at h'
    · rename_i m1 m2
      simp only [Option.some.injEq] at h'
      have c1 := hk.bool_inv; have c2 := hk'.bool_inv
      cases c1; cases c2
      rw [← h, ← h']
    · exact nomatch h'
  · exact nomatch h

theorem now_ok {t : TypeId} {e : EqT} {ud : TypeDesc} (hu : P.underlying t = some ud) (he : trEq P 50 t = some e) {ρ : Ren} {k : V} {ck : Value} (hk : Rel ρ k ck) : ∀ {es : List (V × V × Nat)} {l : List MapEntry} {j : Nat} {r : Option Nat} {q : Option (Nat × Value)},
    RelE ρ es l → idxV e k es j = some r → Instr.findNow ud ck l j = some q → q = hit l r j
  | [], _, j, r, q, h, hi, hq => by
    rw [show _ = [] from h] at hq ⊢
    simp only [idxV, Option.some.injEq] at hi; subst hi
    simp only [Instr.findNow, Option.some.injEq] at hq; subst hq; rfl
  | (k', v', b') :: es, _, j, r, q, ⟨e0, l, hl, h1, h2, h3, h4⟩, hi, hq => by
    subst hl
    simp only [Instr.findNow] at hq
    simp only [idxV] at hi
    split at hq
    · rename_i hs
      simp only [Option.some.injEq] at hq; subst hq
      split at hi
      · simp only [Option.some.injEq] at hi; subst hi; simp [hit]
      · rename_i hv; exact absurd (sameNow_ok hu he hk h1 hs hv) (by simp)
      · exact nomatch hi
    · rename_i hs
      split at hi
      · rename_i hv; exact absurd (sameNow_ok hu he hk h1 hs hv) (by simp)
      · rw [now_ok hu he hk h4 hi hq]
        cases r with
        | none => rfl
        | some i =>
          have hge := idxV_ge hi
          simp only [hit]
          rw [show i - j = (i - (j + 1)) + 1 by omega]
          simp
      · exact nomatch hi
    · exact nomatch hq

theorem findKey_ok {t : TypeId} {e : EqT} (he : trEq P 50 t = some e) {ρ : Ren} {k : V} {ck : Value} (hk : Rel ρ k ck) (w : World) {es : List (V × V × Nat)} {l : List MapEntry} {r : Option Nat}
    (h : RelE ρ es l) (hi : idxV e k es 0 = some r) : (Instr.findKey t ck l).run P w = .ok (hit l r 0) w := by
  cases hu : P.underlying t with
  | none => unfold trEq at he; simp [hu] at he
  | some ud =>
    simp only [Instr.findKey, Sem.run_bind, run_under hu, Result.andThen_ok]
    cases hn : Instr.findNow ud ck l 0 with
    | some q => rw [now_ok hu he hk h hi hn]; rfl
    | none => exact asking_ok he hk w h hi

theorem getObj_map {w : World} {c : Nat} {ces : Array MapEntry} {clk : Nat} (h : w.heap[c]? = some (.map ces clk)) : (getObj c).run P w = .ok (.map ces clk) w := by
  simp [getObj, Sem.run, h]
theorem getObj_iter {w : World} {c : Nat} {m : Option Nat} {s : Nat} {q : Array Nat} {u : Nat} (h : w.heap[c]? = some (.mapIter m s q u)) : (getObj c).run P w = .ok (.mapIter m s q u) w := by
  simp [getObj, Sem.run, h]

def World.lay (w : World) (c : Nat) (o : Obj) : World := { w with heap := w.heap.setIfInBounds c o }
theorem lay_get {w : World} {c : Nat} {o o' : Obj} (h : w.heap[c]? = some o) : (World.lay w c o').heap[c]? = some o' := by
  have hlt : c < w.heap.size := (Array.getElem?_eq_some_iff.1 h).1
  simp [World.lay, hlt]
theorem lay_other {w : World} {c d : Nat} {o : Obj} (h : d ≠ c) : (World.lay w c o).heap[d]? = w.heap[d]? := by
  simp only [World.lay]
  rw [Array.getElem?_setIfInBounds_ne (fun e => h e.symm)]
theorem lay_size (w : World) (c : Nat) (o : Obj) : (World.lay w c o).heap.size = w.heap.size := by simp [World.lay]
theorem setObj_map {w : World} {c : Nat} {ces : Array MapEntry} {clk : Nat} (h : w.heap[c]? = some (.map ces clk)) (o : Obj) : (setObj c o).run P w = .ok () (World.lay w c o) := by
  simp [setObj, Sem.run, h, World.lay]
theorem setObj_iter {w : World} {c : Nat} {m : Option Nat} {s : Nat} {q : Array Nat} {u : Nat} (h : w.heap[c]? = some (.mapIter m s q u)) (o : Obj) : (setObj c o).run P w = .ok () (World.lay w c o) := by
  simp [setObj, Sem.run, h, World.lay]

theorem RelH.map_obj {ρ : Ren} {H : Hp} {w : World} (hr : RelH ρ H w) {r : Nat} {es : List (V × V × Nat)} {clk : Nat} {l : Loc} (hg : H.get r = some (.map es clk)) (hl : ρ r = some l) :
    l.ro = false ∧ ∃ ces, w.heap[l.c]? = some (.map ces clk) ∧ RelE ρ es ces.toList := hr.obj r _ l hg hl

theorem keyOk_some {t : EqT} {k : V} (h : keyOk t k = true) : eqv t k k = some true := by
  unfold keyOk at h
  split at h
  · assumption
  · exact nomatch h

end
end Go.Aev
