/- The abstract interpreter: regions that draw their order; what the checks say. -/
import Derived.Test.YtbnabgaepphlnaaGreatAevRegA
set_option linter.unusedVariables false
set_option linter.unusedSimpArgs false
namespace Go.Aev
open Go
variable {P : Program}

/- ### bits -/

theorem bits_or (dn i x : Nat) : (dn ||| 2 ^ i).testBit x = (dn.testBit x || decide (i = x)) := by
  rw [Nat.testBit_or, Nat.testBit_two_pow]
theorem bits_sub {m d : Nat} (h : Nat.beq (m &&& d) m = true) {y : Nat} (hy : m.testBit y = true) : d.testBit y = true := by
  have h1 := Nat.eq_of_beq_eq_true h
  have h2 : (m &&& d).testBit y = m.testBit y := by rw [h1]
  rw [Nat.testBit_and, hy, Bool.true_and] at h2
  exact h2
theorem bits_sub' {m d : Nat} (h : Nat.beq (m &&& d) d = true) {y : Nat} (hy : d.testBit y = true) : m.testBit y = true := by
  have h1 := Nat.eq_of_beq_eq_true h
  have h2 : (m &&& d).testBit y = d.testBit y := by rw [h1]
  rw [Nat.testBit_and, hy, Bool.and_true] at h2
  exact h2

/- ### masks -/

theorem orMasks_bit (ms : List Nat) : ∀ (ps : List Nat) (y : Nat), (orMasks ms ps).testBit y = true ↔ ∃ p ∈ ps, p = y ∨ (ms.getD p 0).testBit y = true
  | [], y => by simp [orMasks]
  | p :: ps, y => by
    simp only [orMasks, Nat.testBit_or, Nat.testBit_two_pow, Bool.or_eq_true, decide_eq_true_eq, orMasks_bit ms ps y, List.mem_cons, exists_eq_or_imp]

theorem orMasks_congr {ms ms' : List Nat} : ∀ {ps : List Nat}, (∀ p ∈ ps, ms.getD p 0 = ms'.getD p 0) → orMasks ms ps = orMasks ms' ps
  | [], _ => rfl
  | p :: ps, h => by 
    have ih : orMasks ms ps = orMasks ms' ps := orMasks_congr fun q hq => h q (List.mem_cons_of_mem _ hq)
    simp only [orMasks, h p (List.mem_cons_self ..), ih]

theorem predsOf_some {i : Nat} {o : Oper} {ps : List Nat} (h : predsOf i o = some ps) : (∀ p ∈ ps, p < i) ∧ ∀ e ∈ o.after, Region.binds .any e = true → e.on ∈ ps := by
  unfold predsOf at h
  obtain ⟨hlen, hget⟩ := mapM_some h
  have hone : ∀ (e : Edge) (p : Nat), (bif Nat.blt e.on i then some e.on else none) = some p → p = e.on ∧ e.on < i := fun e p h => by
    cases hb : Nat.blt e.on i <;> rw [hb] at h <;> simp at h
    exact ⟨h.symm, by simpa [Nat.blt_eq] using hb⟩
  refine ⟨fun p hp => ?_, fun e he hb => ?_⟩
  · obtain ⟨k, hk, hkp⟩ := List.mem_iff_getElem.1 hp
    have hk' : k < (o.after.toList.filter (Region.binds .any)).length := by omega
    obtain ⟨h1, h2⟩ := hone _ _ (hget k _ p (List.getElem?_eq_getElem hk') (by rw [List.getElem?_eq_getElem hk, hkp]))
    omega
  · have hm : e ∈ o.after.toList.filter (Region.binds .any) := List.mem_filter.2 ⟨by simpa using he, hb⟩
    obtain ⟨k, hk, hke⟩ := List.mem_iff_getElem.1 hm
    have hk' : k < ps.length := by omega
    obtain ⟨h1, h2⟩ := hone _ _ (hget k e ps[k] (by rw [List.getElem?_eq_getElem hk, hke]) (List.getElem?_eq_getElem hk'))
    rw [← h1]; exact List.getElem_mem hk'

theorem masksFrom_spec : ∀ (os : List Oper) (i : Nat) (ms0 ms : List Nat), ms0.length = i → masksFrom os i ms0 = some ms →
    (∀ x, x < i → ms.getD x 0 = ms0.getD x 0) ∧ (∀ x, i + os.length ≤ x → ms.getD x 0 = 0) ∧ ∀ (j : Nat) (o : Oper), os[j]? = some o → ∃ ps, predsOf (i + j) o = some ps ∧ ms.getD (i + j) 0 = orMasks ms ps
  | [], i, ms0, ms, hlen, h => by
    simp only [masksFrom, Option.some.injEq] at h
    subst h
    refine ⟨fun x hx => rfl, fun x hx => ?_, fun j o h => by simp at h⟩
    simp at hx
    simp [List.getD, List.getElem?_eq_none (show ms0.length ≤ x by omega)]
  | o :: os, i, ms0, ms, hlen, h => by
    simp only [masksFrom] at h
    split at h
    · rename_i ps hps
      obtain ⟨h1, h2, h3⟩ := masksFrom_spec os (i + 1) (ms0 ++ [orMasks ms0 ps]) ms (by simp [hlen]) h
      have hlow : ∀ x, x < i → ms.getD x 0 = ms0.getD x 0 := fun x hx => by
        rw [h1 x (by omega)]
        simp [List.getD, List.getElem?_append_left (show x < ms0.length by omega)]
      refine ⟨hlow, fun x hx => h2 x (by simp at hx; omega), fun j o' hj => ?_⟩
      cases j with
      | zero =>
        simp only [List.getElem?_cons_zero, Option.some.injEq] at hj
        subst hj
        refine ⟨ps, by simpa using hps, ?_⟩
        rw [Nat.add_zero, h1 i (by omega)]
        have : (ms0 ++ [orMasks ms0 ps]).getD i 0 = orMasks ms0 ps := by simp [List.getD, ← hlen]
        rw [this]
        exact orMasks_congr fun p hp => (hlow p ((predsOf_some hps).1 p hp)).symm
      | succ j =>
        simp only [List.getElem?_cons_succ] at hj
        obtain ⟨ps', a1, a2⟩ := h3 j o' hj
        exact ⟨ps', by rw [show i + (j + 1) = i + 1 + j by omega]; exact a1, by rw [show i + (j + 1) = i + 1 + j by omega]; exact a2⟩
    · exact nomatch h

section masks
variable {os : List Oper} {ms : List Nat} (hms : masksFrom os 0 [] = some ms)
include hms
theorem mask_lt : ∀ (j y : Nat), (maskOf ms j).testBit y = true → y < j := by
  intro j
  induction j using Nat.strongRecOn with
  | ind j ih =>
    intro y hy
    obtain ⟨_, h2, h3⟩ := masksFrom_spec os 0 [] ms rfl hms
    rcases Nat.lt_or_ge j os.length with hj | hj
    · obtain ⟨ps, a1, a2⟩ := h3 j os[j] (List.getElem?_eq_getElem hj)
      rw [Nat.zero_add] at a1 a2
      unfold maskOf at hy
      rw [a2, orMasks_bit] at hy
      obtain ⟨p, hp, hy⟩ := hy
      have hpj := (predsOf_some a1).1 p hp
      rcases hy with rfl | hy
      · exact hpj
      · have := ih p hpj y hy; omega
    · have := h2 j (by omega)
      unfold maskOf at hy
      rw [this] at hy; simp at hy

/-- An operation whose edges are all listed has all that it waits for listed. -/
theorem mask_listed {j : Nat} {o : Oper} (ho : os[j]? = some o) {D : Nat → Bool} (hcl : ∀ i, D i = true → ∀ y, (maskOf ms i).testBit y = true → D y = true)
    (hd : ∀ e ∈ o.after, Region.binds .any e = true → D e.on = true) {y : Nat} (hy : (maskOf ms j).testBit y = true) : D y = true := by
  obtain ⟨_, h2, h3⟩ := masksFrom_spec os 0 [] ms rfl hms
  obtain ⟨ps, a1, a2⟩ := h3 j o ho
  rw [Nat.zero_add] at a1 a2
  unfold maskOf at hy
  rw [a2, orMasks_bit] at hy
  obtain ⟨p, hp, hy⟩ := hy
  have hDp : D p = true := by
    unfold predsOf at a1
    obtain ⟨hlen, hget⟩ := mapM_some a1
    obtain ⟨k, hk, hkp⟩ := List.mem_iff_getElem.1 hp
    have hk' : k < (o.after.toList.filter (Region.binds .any)).length := by omega
    have h5 := hget k _ p (List.getElem?_eq_getElem hk') (by rw [List.getElem?_eq_getElem hk, hkp])
    have hmem : (o.after.toList.filter (Region.binds .any))[k] ∈ o.after.toList.filter (Region.binds .any) := List.getElem_mem hk'
    obtain ⟨m1, m2⟩ := List.mem_filter.1 hmem
    have h6 : p = ((o.after.toList.filter (Region.binds .any))[k]).on := by
      revert h5
      cases Nat.blt ((o.after.toList.filter (Region.binds .any))[k]).on j <;> simp
      intro h; exact h.symm
    rw [h6]
    exact hd _ (by simpa using m1) m2
  rcases hy with rfl | hy
  · exact hDp
  · exact hcl p hDp y hy

theorem edge_lt {j : Nat} {o : Oper} (ho : os[j]? = some o) : ∀ e ∈ o.after, Region.binds .any e = true → e.on < j := by
  obtain ⟨_, h2, h3⟩ := masksFrom_spec os 0 [] ms rfl hms
  obtain ⟨ps, a1, a2⟩ := h3 j o ho
  rw [Nat.zero_add] at a1
  intro e he hb
  exact (predsOf_some a1).1 _ ((predsOf_some a1).2 e he hb)
end masks

/- ### slots -/

def dstOf (l : List AOper) (i : Nat) : Option Nat := (l[i]?).bind (·.dst)

/-- What is in a slot when some operations are done: what the last of those that write it gave. -/
def curV (l : List AOper) (r f0 : Nat → V) (D : Nat → Bool) (t : Nat) : Nat → V
  | 0 => f0 t
  | n + 1 => if D n = true ∧ dstOf l n = some t then r n else curV l r f0 D t n
def cur (l : List AOper) (r f0 : Nat → V) (D : Nat → Bool) (t : Nat) : V := curV l r f0 D t l.length

theorem curV_congr {l : List AOper} {r r' f0 : Nat → V} {D D' : Nat → Bool} {t : Nat} : ∀ {n : Nat}, (∀ i, i < n → dstOf l i = some t → D i = D' i ∧ (D i = true → r i = r' i)) → curV l r f0 D t n = curV l r' f0 D' t n
  | 0, _ => rfl
  | n + 1, h => by
    simp only [curV]
    have ih := curV_congr (f0 := f0) (n := n) fun i hi hd => h i (by omega) hd
    by_cases hd : dstOf l n = some t
    · obtain ⟨h1, h2⟩ := h n (by omega) hd
      rw [← h1]
      by_cases hD : D n = true
      · simp [hD, hd, h2 hD]
      · simp [hD, ih]
    · simp [hd, ih]

theorem cur_congr {l : List AOper} {r r' f0 : Nat → V} {D D' : Nat → Bool} {t : Nat} (h : ∀ i, dstOf l i = some t → D i = D' i ∧ (D i = true → r i = r' i)) : cur l r f0 D t = cur l r' f0 D' t :=
  curV_congr fun i _ hd => h i hd

theorem curV_last {l : List AOper} {r f0 : Nat → V} {D : Nat → Bool} {t j : Nat} (hD : D j = true) (hd : dstOf l j = some t) : ∀ {n : Nat}, j < n → (∀ i, j < i → dstOf l i = some t → D i = false) → curV l r f0 D t n = r j
  | 0, h, _ => absurd h (Nat.not_lt_zero _)
  | n + 1, h, hl => by
    simp only [curV]
    by_cases e : j = n
    · subst e; simp [hD, hd]
    · have hjn : j < n := by omega
      have : ¬ (D n = true ∧ dstOf l n = some t) := fun ⟨h1, h2⟩ => by rw [hl n hjn h2] at h1; exact nomatch h1
      rw [if_neg this]
      exact curV_last hD hd hjn hl
theorem dstOf_lt {l : List AOper} {i t : Nat} (h : dstOf l i = some t) : i < l.length := by
  rcases Nat.lt_or_ge i l.length with h' | h'
  · exact h'
  · simp [dstOf, List.getElem?_eq_none h'] at h
theorem cur_last {l : List AOper} {r f0 : Nat → V} {D : Nat → Bool} {t j : Nat} (hD : D j = true) (hd : dstOf l j = some t) (h : ∀ i, j < i → dstOf l i = some t → D i = false) : cur l r f0 D t = r j :=
  curV_last hD hd (dstOf_lt hd) h

theorem tmpsOk_spec {l : List AOper} {ms : List Nat} (h : tmpsOk l ms = true) {i j t : Nat} {o : AOper} (hi : dstOf l i = some t) (hj : l[j]? = some o) (ht : t ∈ namesOf o) (hne : i ≠ j) :
    (maskOf ms j).testBit i = true ∨ (maskOf ms i).testBit j = true := by
  unfold tmpsOk at h
  rw [List.all_eq_true] at h
  have hil := dstOf_lt hi
  have h1 := h (l[i], i) (by
    rw [List.mem_iff_getElem?]
    exact ⟨i, by simp [hil]⟩)
  have hd : l[i].dst = some t := by simpa [dstOf, hil] using hi
  simp only [hd] at h1
  rw [List.all_eq_true] at h1
  have h2 := h1 (o, j) (by
    rw [List.mem_iff_getElem?]
    exact ⟨j, by simp [hj]⟩)
  have hb : Nat.beq i j = false := by
    cases hb : Nat.beq i j
    · rfl
    · exact absurd (Nat.eq_of_beq_eq_true hb) hne
  have hc : (namesOf o).contains t = true := by simpa using ht
  simp only [hb, hc, Bool.not_true, Bool.false_or, Bool.or_eq_true] at h2
  exact h2

theorem opdTmps_mem : ∀ {as : List AOpd} {i : Nat}, .t i ∈ as → i ∈ opdTmps as
  | [], _, h => by simp at h
  | .t j :: as, i, h => by
    simp only [opdTmps, List.mem_cons, AOpd.t.injEq] at h ⊢
    exact h.imp id opdTmps_mem
  | .c _ :: as, i, h => by
    simp only [opdTmps, List.mem_cons] at h ⊢
    exact opdTmps_mem (h.resolve_left (fun e => nomatch e))

theorem evArgsF_congr {f g : Nat → V} : ∀ {as : List AOpd}, (∀ t ∈ opdTmps as, f t = g t) → evArgsF f as = evArgsF g as
  | [], _ => rfl
  | .t i :: as, h => by
    simp only [evArgsF, evOpdF]
    rw [h i (by simp [opdTmps]), evArgsF_congr fun t ht => h t (by simp [opdTmps, ht])]
  | .c v :: as, h => by
    simp only [evArgsF, evOpdF]
    rw [evArgsF_congr fun t ht => h t (by simpa [opdTmps] using ht)]

theorem wantedF_congr {f g : Nat → V} {q : Option (Nat × Bool)} (h : ∀ p, q = some p → f p.1 = g p.1) : wantedF f q = wantedF g q := by
  cases q with
  | none => rfl
  | some p => obtain ⟨t, w⟩ := p; simp only [wantedF]; rw [h _ rfl]

theorem names_args {o : AOper} {t : Nat} (h : t ∈ opdTmps o.args) : t ∈ namesOf o := by unfold namesOf; simp [h]
theorem names_dst {o : AOper} {t : Nat} (h : o.dst = some t) : t ∈ namesOf o := by unfold namesOf; simp [h]
theorem names_g {o : AOper} {p : Nat × Bool} (h : o.g = some p) : p.1 ∈ namesOf o := by obtain ⟨t, w⟩ := p; unfold namesOf; simp [h]

/- ### the check of the order -/

theorem dOk_cons {n : Nat} {ms : List Nat} {o : DOper} {os : List DOper} {dn de : Nat} {pl : List (Nat × Nat)} (h : dOk n ms (o :: os) dn de pl = true) :
    dn.testBit o.ix = false ∧ o.ix < n ∧ (∀ y, (maskOf ms o.ix).testBit y = true → dn.testBit y = true) ∧ (∀ y, de.testBit y = true → (maskOf ms o.ix).testBit y = true) ∧
    ((isE o.o.k.kd = true ∧ (∀ p ∈ pl, p.2 = 0 → (maskOf ms o.ix).testBit p.1 = true) ∧ dOk n ms os (dn ||| 2 ^ o.ix) (de ||| 2 ^ o.ix) ((pl.filter fun p => !Nat.beq p.2 0).map fun p => (p.1, p.2 - 1)) = true) ∨
     (isE o.o.k.kd = false ∧ isL o.o.k.kd = true ∧ (o.fl ≠ 0 → o.o.dst.isSome = true) ∧ dOk n ms os (dn ||| 2 ^ o.ix) de ((o.ix, o.fl) :: pl) = true) ∨
     (isE o.o.k.kd = false ∧ isL o.o.k.kd = false ∧ dOk n ms os (dn ||| 2 ^ o.ix) de pl = true)) := by
  simp only [dOk, Bool.and_eq_true, Bool.not_eq_true'] at h
  obtain ⟨⟨⟨⟨h1, h2⟩, h3⟩, h4⟩, h5⟩ := h
  refine ⟨h1, by simpa [Nat.blt_eq] using h2, fun y hy => bits_sub h3 hy, fun y hy => bits_sub' h4 hy, ?_⟩
  cases he : isE o.o.k.kd
  · rw [he] at h5
    simp only [cond_false] at h5
    cases hl : isL o.o.k.kd
    · rw [hl] at h5
      exact .inr (.inr ⟨rfl, rfl, h5⟩)
    · rw [hl] at h5
      simp only [cond_true, Bool.and_eq_true, Bool.or_eq_true] at h5
      refine .inr (.inl ⟨rfl, rfl, fun hf => ?_, h5.2⟩)
      exact h5.1.resolve_right fun hb => hf (Nat.eq_of_beq_eq_true hb)
  · rw [he] at h5
    simp only [cond_true, Bool.and_eq_true] at h5
    refine .inl ⟨rfl, fun p hp h0 => ?_, h5.2⟩
    have := List.all_eq_true.1 h5.1 p hp
    rw [h0] at this
    simpa using this

theorem dOk_de {n : Nat} {ms : List Nat} : ∀ {ds : List DOper} {dn de : Nat} {pl : List (Nat × Nat)}, dOk n ms ds dn de pl = true → ∀ o ∈ ds, ∀ y, de.testBit y = true → (maskOf ms o.ix).testBit y = true
  | [], _, _, _, _, o, h, _, _ => by simp at h
  | o :: os, dn, de, pl, h, o', ho', y, hy => by
    obtain ⟨h1, h2, h3, h4, h5⟩ := dOk_cons h
    rcases List.mem_cons.1 ho' with rfl | ho'
    · exact h4 y hy
    · rcases h5 with ⟨_, _, h6⟩ | ⟨_, _, _, h6⟩ | ⟨_, _, h6⟩
      · exact dOk_de h6 o' ho' y (by rw [bits_or, hy]; rfl)
      · exact dOk_de h6 o' ho' y hy
      · exact dOk_de h6 o' ho' y hy

theorem dOk_all {n : Nat} {ms : List Nat} : ∀ {ds : List DOper} {dn de : Nat} {pl : List (Nat × Nat)}, dOk n ms ds dn de pl = true → ∀ i, i < n → dn.testBit i = true ∨ ∃ o ∈ ds, o.ix = i
  | [], dn, _, _, h, i, hi => by
    simp only [dOk, List.all_eq_true, List.mem_range] at h
    exact .inl (h i hi)
  | o :: os, dn, de, pl, h, i, hi => by
    obtain ⟨h1, h2, h3, h4, h5⟩ := dOk_cons h
    have : (dn ||| 2 ^ o.ix).testBit i = true ∨ ∃ o' ∈ os, o'.ix = i := by
      rcases h5 with ⟨_, _, h6⟩ | ⟨_, _, _, h6⟩ | ⟨_, _, h6⟩ <;> exact dOk_all h6 i hi
    rcases this with h' | ⟨o', ho', e⟩
    · rw [bits_or] at h'
      simp only [Bool.or_eq_true, decide_eq_true_eq] at h'
      exact h'.imp id fun e => ⟨o, by simp, e⟩
    · exact .inr ⟨o', by simp [ho'], e⟩

theorem dOk_new {n : Nat} {ms : List Nat} : ∀ {ds : List DOper} {dn de : Nat} {pl : List (Nat × Nat)}, dOk n ms ds dn de pl = true → ∀ o ∈ ds, dn.testBit o.ix = false
  | [], _, _, _, _, o, h => by simp at h
  | o :: os, dn, de, pl, h, o', ho' => by
    obtain ⟨h1, h2, h3, h4, h5⟩ := dOk_cons h
    rcases List.mem_cons.1 ho' with rfl | ho'
    · exact h1
    · have : (dn ||| 2 ^ o.ix).testBit o'.ix = false := by
        rcases h5 with ⟨_, _, h6⟩ | ⟨_, _, _, h6⟩ | ⟨_, _, h6⟩ <;> exact dOk_new h6 o' ho'
      rw [bits_or] at this
      simp only [Bool.or_eq_false_iff] at this
      exact this.1

theorem checkPend_some {h : Hp} : ∀ {pd pd' : List Pend}, checkPend h pd = some pd' → (∀ p ∈ pd, readOf p.k p.vs h = some p.v) ∧ ∀ p ∈ pd, ∀ n, p.fl = n + 2 → (⟨p.k, p.vs, p.v, n + 1⟩ : Pend) ∈ pd'
  | [], pd', hc => ⟨fun p hp => by simp at hp, fun p hp => by simp at hp⟩
  | p :: ps, pd', hc => by
    simp only [checkPend] at hc
    split at hc
    · rename_i v hv
      cases hb : V.beq p.v v <;> rw [hb] at hc
      · exact nomatch hc
      · simp only [cond_true] at hc
        have hpv := V.beq_eq _ _ hb
        split at hc
        · rename_i r hr
          obtain ⟨h1, h2⟩ := checkPend_some hr
          have hhead : readOf p.k p.vs h = some p.v := by rw [hv, hpv]
          refine ⟨fun q hq => ?_, fun q hq n hn => ?_⟩
          · rcases List.mem_cons.1 hq with rfl | hq
            · exact hhead
            · exact h1 q hq
          · split at hc <;> simp only [Option.some.injEq] at hc <;> subst hc
            · rename_i hfl
              rcases List.mem_cons.1 hq with rfl | hq
              · rw [hfl] at hn; omega
              · exact h2 q hq n hn
            · rename_i hfl
              rcases List.mem_cons.1 hq with rfl | hq
              · rw [hfl] at hn; omega
              · exact h2 q hq n hn
            · rename_i m hfl
              rcases List.mem_cons.1 hq with rfl | hq
              · rw [hfl] at hn
                have : m = n := by omega
                subst this
                exact List.mem_cons_self ..
              · exact List.mem_cons_of_mem _ (h2 q hq n hn)
        · exact nomatch hc
    · exact nomatch hc

end Go.Aev
