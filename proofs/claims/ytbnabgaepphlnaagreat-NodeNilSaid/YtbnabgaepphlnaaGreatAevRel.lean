/- The abstract interpreter: when an abstract value, heap and frame stand for the model's. -/
import Derived.Test.YtbnabgaepphlnaaGreatAevDef
set_option linter.unusedVariables false
namespace Go.Aev
open Go

/-- Where a block lies in the model's memory: in which block, from which cell on, how many cells that block has; and whether it may only be read. -/
structure Loc where
  c : Nat
  base : Nat
  csz : Nat
  ro : Bool
abbrev Ren := Nat → Option Loc

def capOk : Cap → Nat → Prop
  | .ex n, c => c = n
  | .lo n, c => n ≤ c

mutual
def Rel (ρ : Ren) : V → Value → Prop
  | .bool b => fun cv => cv = .bool b
  | .int k n => fun cv => cv = .int k n
  | .str s => fun cv => cv = .string ⟨⟨s⟩⟩
  | .nilp => fun cv => cv = .pointer none
  | .ptr b o => fun cv => ∃ l, ρ b = some l ∧ cv = .pointer (some ⟨l.c, l.base + o, none⟩)
  | .nils => fun cv => cv = .slice none 0 0
  | .sl b o len cap sz => fun cv => ∃ l cc off, ρ b = some l ∧ cv = .slice (some ⟨l.c, off, none⟩) len cc ∧ capOk cap cc ∧ len ≤ cc ∧
      (cc = 0 ∨ (off = l.base + o ∧ l.base + o + cc * sz ≤ l.csz))
  | .nilm => fun cv => cv = .map none
  | .map r => fun cv => ∃ l, ρ r = some l ∧ cv = .map (some l.c)
  | .nilf => fun cv => cv = .nilFunc
  | .fn f a c => fun cv => ∃ ca cc, cv = .func (.func f) ca cc ∧ RelL ρ a ca.toList ∧ RelL ρ c cc.toList
  | .nili => fun cv => cv = .nilIface
  | .ifc t v => fun cv => ∃ x, cv = .iface t x ∧ Rel ρ v x
  | .agg cs => fun cv => ∃ a, cv = .agg a ∧ RelL ρ cs a.toList
  | .tup cs => fun cv => ∃ a, cv = .tuple a ∧ RelL ρ cs a.toList
def RelL (ρ : Ren) : List V → List Value → Prop
  | [] => fun l => l = []
  | v :: vs => fun l => ∃ x xs, l = x :: xs ∧ Rel ρ v x ∧ RelL ρ vs xs
end

def Ren.le (ρ ρ' : Ren) : Prop := ∀ b l, ρ b = some l → ρ' b = some l

theorem Ren.le_refl (ρ : Ren) : ρ.le ρ := fun _ _ h => h
theorem Ren.le_trans {ρ ρ' ρ'' : Ren} (h : ρ.le ρ') (h' : ρ'.le ρ'') : ρ.le ρ'' := fun b l e => h' b l (h b l e)

mutual
theorem Rel.mono {ρ ρ' : Ren} (h : ρ.le ρ') : ∀ (v : V) (x : Value), Rel ρ v x → Rel ρ' v x
  | .bool _, _, e => e
  | .int _ _, _, e => e
  | .str _, _, e => e
  | .nilp, _, e => e
  | .ptr b o, _, ⟨l, hl, e⟩ => ⟨l, h b l hl, e⟩
  | .nils, _, e => e
  | .sl b o len cap sz, _, ⟨l, cc, off, hl, e⟩ => ⟨l, cc, off, h b l hl, e⟩
  | .nilm, _, e => e
  | .map r, _, ⟨l, hl, e⟩ => ⟨l, h r l hl, e⟩
  | .nilf, _, e => e
  | .fn f a c, _, ⟨ca, cc, e, h1, h2⟩ => ⟨ca, cc, e, RelL.mono h a _ h1, RelL.mono h c _ h2⟩
  | .nili, _, e => e
  | .ifc t v, _, ⟨x, e, h1⟩ => ⟨x, e, Rel.mono h v x h1⟩
  | .agg cs, _, ⟨a, e, h1⟩ => ⟨a, e, RelL.mono h cs _ h1⟩
  | .tup cs, _, ⟨a, e, h1⟩ => ⟨a, e, RelL.mono h cs _ h1⟩
theorem RelL.mono {ρ ρ' : Ren} (h : ρ.le ρ') : ∀ (vs : List V) (xs : List Value), RelL ρ vs xs → RelL ρ' vs xs
  | [], _, e => e
  | v :: vs, _, ⟨x, xs, e, h1, h2⟩ => ⟨x, xs, e, Rel.mono h v x h1, RelL.mono h vs xs h2⟩
end

section lists
variable {ρ : Ren}
theorem RelL.nil : RelL ρ [] [] := rfl
theorem RelL.cons {v : V} {x : Value} {vs : List V} {xs : List Value} (h : Rel ρ v x) (h' : RelL ρ vs xs) : RelL ρ (v :: vs) (x :: xs) := ⟨x, xs, rfl, h, h'⟩
theorem RelL.cons_inv {v : V} {vs : List V} {xs : List Value} (h : RelL ρ (v :: vs) xs) : ∃ x xs', xs = x :: xs' ∧ Rel ρ v x ∧ RelL ρ vs xs' := h
theorem RelL.nil_inv {xs : List Value} (h : RelL ρ [] xs) : xs = [] := h

theorem RelL.length : ∀ {vs : List V} {xs : List Value}, RelL ρ vs xs → xs.length = vs.length
  | [], _, e => by rw [RelL.nil_inv e]; rfl
  | v :: vs, _, h => by
    obtain ⟨x, xs, rfl, _, h2⟩ := h.cons_inv
    simp [RelL.length h2]

theorem RelL.get : ∀ {vs : List V} {xs : List Value}, RelL ρ vs xs → ∀ {i : Nat} {v : V}, vs[i]? = some v → ∃ x, xs[i]? = some x ∧ Rel ρ v x
  | [], _, _, i, v, hi => by simp at hi
  | v :: vs, _, h, i, u, hi => by
    obtain ⟨x, xs, rfl, h1, h2⟩ := h.cons_inv
    cases i with
    | zero => simp at hi; subst hi; exact ⟨x, by simp, h1⟩
    | succ i => simp at hi; simpa using RelL.get h2 hi

theorem RelL.append : ∀ {vs ws : List V} {xs ys : List Value}, RelL ρ vs xs → RelL ρ ws ys → RelL ρ (vs ++ ws) (xs ++ ys)
  | [], _, _, _, h, h' => by rw [RelL.nil_inv h]; simpa using h'
  | v :: vs, _, _, _, h, h' => by
    obtain ⟨x, xs, rfl, h1, h2⟩ := h.cons_inv
    exact RelL.cons h1 (RelL.append h2 h')

theorem RelL.append_inv : ∀ {vs ws : List V} {zs : List Value}, RelL ρ (vs ++ ws) zs → ∃ xs ys, zs = xs ++ ys ∧ RelL ρ vs xs ∧ RelL ρ ws ys
  | [], _, zs, h => ⟨[], zs, rfl, RelL.nil, h⟩
  | v :: vs, ws, zs, h => by
    obtain ⟨x, xs, rfl, h1, h2⟩ := RelL.cons_inv h
    obtain ⟨as, bs, rfl, h3, h4⟩ := RelL.append_inv h2
    exact ⟨x :: as, bs, rfl, RelL.cons h1 h3, h4⟩

theorem RelL.take : ∀ {vs : List V} {xs : List Value} (n : Nat), RelL ρ vs xs → RelL ρ (vs.take n) (xs.take n)
  | [], _, n, h => by rw [RelL.nil_inv h]; simpa using RelL.nil
  | v :: vs, _, 0, h => by simpa using RelL.nil
  | v :: vs, _, n + 1, h => by
    obtain ⟨x, xs, rfl, h1, h2⟩ := h.cons_inv
    exact RelL.cons h1 (RelL.take n h2)

theorem RelL.drop : ∀ {vs : List V} {xs : List Value} (n : Nat), RelL ρ vs xs → RelL ρ (vs.drop n) (xs.drop n)
  | [], _, n, h => by rw [RelL.nil_inv h]; simpa using RelL.nil
  | v :: vs, _, 0, h => by simpa using h
  | v :: vs, _, n + 1, h => by
    obtain ⟨x, xs, rfl, h1, h2⟩ := h.cons_inv
    exact RelL.drop n h2
end lists

theorem putAt_eq : ∀ (cs : List V) (i : Nat) (vs : List V), i ≤ cs.length → putAt cs i vs = cs.take i ++ (vs ++ cs.drop (i + vs.length))
  | cs, 0, vs, _ => by simp [putAt]
  | [], i + 1, vs, h => by simp at h
  | c :: cs, i + 1, vs, h => by
    simp only [putAt, List.take_succ_cons, List.cons_append]
    rw [putAt_eq cs i vs (by simpa using h), show i + 1 + vs.length = (i + vs.length) + 1 by omega]
    simp

theorem RelL.putAt {ρ : Ren} {cs vs : List V} {ms xs : List Value} {i : Nat} (h : RelL ρ cs ms) (h' : RelL ρ vs xs) (hi : i + vs.length ≤ cs.length) :
    RelL ρ (putAt cs i vs) (ms.take i ++ (xs ++ ms.drop (i + xs.length))) := by
  rw [putAt_eq cs i vs (by omega), h'.length]
  exact (h.take i).append (h'.append (h.drop _))

theorem Rel.cells {ρ : Ren} {v : V} {x : Value} (h : Rel ρ v x) : RelL ρ v.cells x.cells.toList := by
  cases v <;> simp only [V.cells] <;> simp only [Rel] at h
  case agg cs => obtain ⟨a, rfl, h⟩ := h; simpa [Value.cells] using h
  case fn => obtain ⟨a, c, rfl, h1, h2⟩ := h; exact RelL.cons (by simp only [Rel]; exact ⟨_, _, rfl, h1, h2⟩) RelL.nil
  case ifc => obtain ⟨y, rfl, h1⟩ := h; exact RelL.cons (by simp only [Rel]; exact ⟨_, rfl, h1⟩) RelL.nil
  case tup => obtain ⟨y, rfl, h1⟩ := h; exact RelL.cons (by simp only [Rel]; exact ⟨_, rfl, h1⟩) RelL.nil
  case ptr => obtain ⟨l, h1, rfl⟩ := h; exact RelL.cons (by simp only [Rel]; exact ⟨_, h1, rfl⟩) RelL.nil
  case sl => obtain ⟨l, cc, off, h1, rfl, h2⟩ := h; exact RelL.cons (by simp only [Rel]; exact ⟨_, _, _, h1, rfl, h2⟩) RelL.nil
  case map => obtain ⟨l, h1, rfl⟩ := h; exact RelL.cons (by simp only [Rel]; exact ⟨_, h1, rfl⟩) RelL.nil
  all_goals (subst h; exact RelL.cons (by simp only [Rel]) RelL.nil)

theorem Rel.oneCell {ρ : Ren} {v : V} {x : Value} (h : Rel ρ v x) (hv : v.oneCell = true) : x.oneCell' = true := by
  cases v <;> simp only [Rel] at h <;> simp only [V.oneCell] at hv
  case agg => simp at hv
  case tup => simp at hv
  case fn => obtain ⟨a, c, rfl, _⟩ := h; rfl
  case ifc => obtain ⟨y, rfl, _⟩ := h; rfl
  case ptr => obtain ⟨l, _, rfl⟩ := h; rfl
  case sl => obtain ⟨l, cc, off, _, rfl, _⟩ := h; rfl
  case map => obtain ⟨l, _, rfl⟩ := h; rfl
  all_goals (subst h; rfl)

theorem RelL.oneCells {ρ : Ren} : ∀ {vs : List V} {xs : List Value}, RelL ρ vs xs → vs.all V.oneCell = true → ∀ x ∈ xs, x.oneCell' = true
  | [], _, h, _ => by rw [RelL.nil_inv h]; simp
  | v :: vs, _, h, ha => by
    obtain ⟨x, xs, rfl, h1, h2⟩ := h.cons_inv
    simp only [List.all_cons, Bool.and_eq_true] at ha
    intro y hy
    rcases List.mem_cons.1 hy with rfl | hy
    · exact h1.oneCell ha.1
    · exact RelL.oneCells h2 ha.2 y hy

/- ### the trees -/

theorem Tr.get_full {α : Type} : ∀ (d i : Nat), (Tr.full d : Tr α).get i = none
  | 0, i => rfl
  | d + 1, 0 => rfl
  | d + 1, i + 1 => by
    show (bif Nat.beq (i % 2) 0 then (Tr.full d : Tr α).get (i / 2) else (Tr.full d : Tr α).get (i / 2)) = none
    rw [Tr.get_full d (i / 2)]; cases Nat.beq (i % 2) 0 <;> rfl

/-- Is there a place of that number? -/
def Tr.has {α : Type} : Tr α → Nat → Bool
  | .e => fun _ => false
  | .n l _ r => fun i => match i with
    | 0 => true
    | j + 1 => bif Nat.beq (j % 2) 0 then l.has (j / 2) else r.has (j / 2)

theorem Tr.get_set {α : Type} : ∀ (t : Tr α) (i j : Nat) (v : Option α), (t.set i v).get j = if i = j then (bif t.has i then v else none) else t.get j
  | .e, i, j, v => by simp [Tr.set, Tr.get, Tr.has]
  | .n l x r, 0, 0, v => by simp [Tr.set, Tr.get, Tr.has]
  | .n l x r, 0, j + 1, v => by simp [Tr.set, Tr.get]
  | .n l x r, i + 1, 0, v => by
    simp only [Tr.set]
    cases Nat.beq (i % 2) 0 <;> simp [Tr.get]
  | .n l x r, i + 1, j + 1, v => by
    simp only [Tr.set, Tr.has]
    have hb : ∀ k, Nat.beq (k % 2) 0 = decide (k % 2 = 0) := fun k => by
      cases h : Nat.beq (k % 2) 0
      · have := Nat.ne_of_beq_eq_false h; simp [this]
      · have := Nat.eq_of_beq_eq_true h; simp [this]
    rw [hb i]
    by_cases hi : i % 2 = 0 <;> by_cases hj : j % 2 = 0 <;> simp only [hi, hj, decide_true, decide_false, cond_true, cond_false, Tr.get, hb j, Tr.get_set]
    · by_cases e : i = j
      · subst e; simp
      · have : i / 2 ≠ j / 2 := by omega
        simp [e, this]
    · have : i ≠ j := by omega
      simp [this]
    · have : i ≠ j := by omega
      simp [this]
    · by_cases e : i = j
      · subst e; simp
      · have : i / 2 ≠ j / 2 := by omega
        simp [e, this]

theorem Tr.has_set {α : Type} : ∀ (t : Tr α) (i j : Nat) (v : Option α), (t.set i v).has j = t.has j
  | .e, i, j, v => by simp [Tr.set]
  | .n l x r, 0, 0, v => by simp [Tr.set, Tr.has]
  | .n l x r, 0, j + 1, v => by simp [Tr.set, Tr.has]
  | .n l x r, i + 1, 0, v => by
    simp only [Tr.set]
    cases Nat.beq (i % 2) 0 <;> simp [Tr.has]
  | .n l x r, i + 1, j + 1, v => by
    simp only [Tr.set]
    cases Nat.beq (i % 2) 0 <;> simp only [cond_true, cond_false, Tr.has, Tr.has_set]

theorem Tr.has_full {α : Type} : ∀ (d i : Nat), i + 1 < 2 ^ d → (Tr.full d : Tr α).has i = true
  | 0, i, h => by simp at h
  | d + 1, 0, _ => by simp [Tr.full, Tr.has]
  | d + 1, i + 1, h => by
    have := Tr.has_full (α := α) d (i / 2) (by rw [Nat.pow_succ] at h; omega)
    simp only [Tr.full, Tr.has, this]
    cases Nat.beq (i % 2) 0 <;> rfl

theorem Tr.has_of_get {α : Type} : ∀ (t : Tr α) (i : Nat) (v : α), t.get i = some v → t.has i = true
  | .e, i, v, h => by simp [Tr.get] at h
  | .n l x r, 0, v, h => rfl
  | .n l x r, i + 1, v, h => by
    simp only [Tr.get, Tr.has] at h ⊢
    cases hb : Nat.beq (i % 2) 0 <;> simp only [hb, cond_true, cond_false] at h ⊢ <;> exact Tr.has_of_get _ _ _ h

/- ### the heap -/

def RelE (ρ : Ren) : List (V × V × Nat) → List MapEntry → Prop
  | [], l => l = []
  | (k, v, b) :: es, l => ∃ e r, l = e :: r ∧ Rel ρ k e.key ∧ Rel ρ v e.val ∧ e.born = b ∧ RelE ρ es r

def ORel (ρ : Ren) (o : O) (l : Loc) (w : World) : Prop :=
  match o with
  | .cells cs ro => ro = l.ro ∧ ∃ arr el fz pre mid post, w.heap[l.c]? = some (.cells arr el fz) ∧ arr.size = l.csz ∧
      (ro = false → fz = (0, 0) ∨ fz = (arr.size, arr.size + 1)) ∧ arr.toList = pre ++ (mid ++ post) ∧ pre.length = l.base ∧ RelL ρ cs mid
  | .map es clk => l.ro = false ∧ ∃ ces, w.heap[l.c]? = some (.map ces clk) ∧ RelE ρ es ces.toList
  | .iter m since seen stepped => l.ro = false ∧ l.base = 0 ∧ ∃ cm, w.heap[l.c]? = some (.mapIter cm since seen.toArray stepped) ∧
      (match m with
        | none => cm = none
        | some r => ∃ lr, ρ r = some lr ∧ cm = some lr.c)

theorem RelE.mono {ρ ρ' : Ren} (h : ρ.le ρ') : ∀ {es : List (V × V × Nat)} {l : List MapEntry}, RelE ρ es l → RelE ρ' es l
  | [], _, e => e
  | (k, v, b) :: es, _, ⟨e, r, he, h1, h2, h3, h4⟩ => ⟨e, r, he, Rel.mono h _ _ h1, Rel.mono h _ _ h2, h3, RelE.mono h h4⟩

theorem ORel.mono {ρ ρ' : Ren} (h : ρ.le ρ') {o : O} {l : Loc} {w : World} (ho : ORel ρ o l w) : ORel ρ' o l w := by
  cases o with
  | cells cs ro =>
    obtain ⟨h0, arr, el, fz, pre, mid, post, h1, h2, h3, h4, h5, h6⟩ := ho
    exact ⟨h0, arr, el, fz, pre, mid, post, h1, h2, h3, h4, h5, RelL.mono h _ _ h6⟩
  | map es clk =>
    obtain ⟨h0, ces, h1, h2⟩ := ho
    exact ⟨h0, ces, h1, RelE.mono h h2⟩
  | iter m since seen stepped =>
    obtain ⟨h0, h00, cm, h1, h2⟩ := ho
    refine ⟨h0, h00, cm, h1, ?_⟩
    cases m with
    | none => exact h2
    | some r => obtain ⟨lr, h3, h4⟩ := h2; exact ⟨lr, h _ _ h3, h4⟩

/-- An object hangs on its block alone. -/
theorem ORel.of_heap {ρ : Ren} {o : O} {l : Loc} {w w' : World} (ho : ORel ρ o l w) (he : w'.heap[l.c]? = w.heap[l.c]?) : ORel ρ o l w' := by
  cases o <;> (unfold ORel at *; rw [he]; exact ho)

structure RelH (ρ : Ren) (H : Hp) (w : World) : Prop where
  lt : ∀ b l, ρ b = some l → l.c < w.heap.size
  nx : ∀ b, H.nx ≤ b → ρ b = none
  ng : ∀ b, H.nx ≤ b → H.get b = none
  obj : ∀ b o l, H.get b = some o → ρ b = some l → ORel ρ o l w
  inj : ∀ b b' o o' l l', H.get b = some o → H.get b' = some o' → ρ b = some l → ρ b' = some l' → l.ro = false → l.c = l'.c → b = b'

/-- Which blocks of the model's memory may be written: those of blocks that are there and may be written. -/
def Wr (ρ : Ren) (H : Hp) (c : Nat) : Prop := ∃ b o l, H.get b = some o ∧ ρ b = some l ∧ l.c = c ∧ l.ro = false

structure Ext (ρ : Ren) (H : Hp) (w : World) (ρ' : Ren) (H' : Hp) (w' : World) : Prop where
  ren : ρ.le ρ'
  pend : ∀ b, b < H.nx → ρ b = none → ρ' b = none ∧ H'.get b = H.get b
  nx : H.nx ≤ H'.nx
  dead : ∀ b, b < H.nx → H.get b = none → H'.get b = none
  new : ∀ b l, ρ b = none → ρ' b = some l → w.heap.size ≤ l.c ∨ Wr ρ H l.c
  size : w.heap.size ≤ w'.heap.size
  same : ∀ c, c < w.heap.size → ¬ Wr ρ H c → w'.heap[c]? = w.heap[c]?
  os : w'.os = w.os ∧ w'.output = w.output

theorem Ext.refl (ρ : Ren) (H : Hp) (w : World) : Ext ρ H w ρ H w :=
  ⟨Ren.le_refl ρ, fun _ _ h => ⟨h, rfl⟩, Nat.le_refl _, fun _ _ h => h, fun b l h h' => (by rw [h] at h'; exact nomatch h'), Nat.le_refl _, fun _ _ _ => rfl, rfl, rfl⟩

/-- What may be written later might have been written before, or is new. -/
theorem Ext.wr {ρ ρ' : Ren} {H H' : Hp} {w w' : World} (e : Ext ρ H w ρ' H' w') (hr : RelH ρ H w) {c : Nat} (h : Wr ρ' H' c) : w.heap.size ≤ c ∨ Wr ρ H c := by
  obtain ⟨b, o, l, h1, h2, rfl, h4⟩ := h
  cases hb : ρ b with
  | some l0 =>
    have e0 := e.ren b l0 hb
    rw [h2] at e0
    cases e0
    have hlt : b < H.nx := by
      rcases Nat.lt_or_ge b H.nx with h | h
      · exact h
      · rw [hr.nx b h] at hb; cases hb
    cases hg : H.get b with
    | none => rw [e.dead b hlt hg] at h1; cases h1
    | some o' => exact .inr ⟨b, o', l, hg, hb, rfl, h4⟩
  | none => exact e.new b l hb h2

theorem Ext.trans {ρ ρ1 ρ2 : Ren} {H H1 H2 : Hp} {w w1 w2 : World} (hr : RelH ρ H w) (e : Ext ρ H w ρ1 H1 w1) (e' : Ext ρ1 H1 w1 ρ2 H2 w2) : Ext ρ H w ρ2 H2 w2 where
  ren := Ren.le_trans e.ren e'.ren
  pend b hb h := by
    obtain ⟨h1, h2⟩ := e.pend b hb h
    obtain ⟨h3, h4⟩ := e'.pend b (Nat.lt_of_lt_of_le hb e.nx) h1
    exact ⟨h3, h4.trans h2⟩
  nx := Nat.le_trans e.nx e'.nx
  dead b hb h := e'.dead b (Nat.lt_of_lt_of_le hb e.nx) (e.dead b hb h)
  new b l h h2 := by
    cases hb : ρ1 b with
    | some l' =>
      have := e'.ren b l' hb
      rw [h2] at this; cases this
      exact e.new b l h hb
    | none =>
      rcases e'.new b l hb h2 with h3 | h3
      · exact .inl (Nat.le_trans e.size h3)
      · exact e.wr hr h3
  size := Nat.le_trans e.size e'.size
  same c hc hn := by
    rw [e'.same c (Nat.lt_of_lt_of_le hc e.size) (fun h => (e.wr hr h).elim (fun h => absurd hc (Nat.not_lt.2 h)) hn)]
    exact e.same c hc hn
  os := ⟨e'.os.1.trans e.os.1, e'.os.2.trans e.os.2⟩

/-- A draw alone changes nothing. -/
theorem RelH.drew {ρ : Ren} {H : Hp} {w : World} (h : RelH ρ H w) : RelH ρ H { w with drawn := w.drawn + 1 } :=
  ⟨h.lt, h.nx, h.ng, fun b o l h1 h2 => (h.obj b o l h1 h2).of_heap rfl, h.inj⟩
theorem Ext.drew (ρ : Ren) (H : Hp) (w : World) : Ext ρ H w ρ H { w with drawn := w.drawn + 1 } :=
  ⟨Ren.le_refl ρ, fun _ _ h => ⟨h, rfl⟩, Nat.le_refl _, fun _ _ h => h, fun b l h h' => (by rw [h] at h'; exact nomatch h'), Nat.le_refl _, fun _ _ _ => rfl, rfl, rfl⟩

end Go.Aev
