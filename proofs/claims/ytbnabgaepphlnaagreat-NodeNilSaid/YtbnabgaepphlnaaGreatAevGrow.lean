/- The abstract interpreter: heaps that only grow; bytes that lie somewhere. For proofs with unknown values. -/
import Derived.Test.YtbnabgaepphlnaaGreatAevWp
import Derived.Test.YtbnabgaepphlnaaGreatAevTab
set_option linter.unusedVariables false
set_option linter.unusedSimpArgs false
namespace Go.Aev

/-- Room for k blocks more, and nothing behind the next place. -/
structure HW (h : Hp) (k : Nat) : Prop where
  ng : ∀ b, h.nx ≤ b → h.get b = none
  room : ∀ b, b < h.nx + k → h.t.has b = true

theorem HW.le {h : Hp} {j k : Nat} (hh : HW h k) (hj : j ≤ k) : HW h j := ⟨hh.ng, fun b hb => hh.room b (by omega)⟩
theorem HW.lt {h : Hp} {k b : Nat} {o : O} (hh : HW h k) (hb : h.get b = some o) : b < h.nx := by
  rcases Nat.lt_or_ge b h.nx with hl | hl
  · exact hl
  · rw [hh.ng b hl] at hb; exact nomatch hb
theorem HW.has {h : Hp} {k : Nat} (hh : HW h (k + 1)) : h.t.has h.nx = true := hh.room _ (by omega)

theorem Hp.at_put {h : Hp} {b : Nat} {o : O} (hb : h.t.has b = true) (b' : Nat) : (h.put b o).get b' = if b = b' then some o else h.get b' := by
  unfold Hp.put Hp.get
  rw [Tr.get_set]
  by_cases e : b = b'
  · rw [if_pos e, if_pos e, hb]; rfl
  · rw [if_neg e, if_neg e]
theorem Hp.at_del {h : Hp} {b : Nat} (b' : Nat) : (h.del b).get b' = if b = b' then none else h.get b' := by
  unfold Hp.del Hp.get
  rw [Tr.get_set]
  by_cases e : b = b'
  · rw [if_pos e, if_pos e]; cases h.t.has b <;> rfl
  · rw [if_neg e, if_neg e]
theorem Hp.at_new {h : Hp} {o : O} (hb : h.t.has h.nx = true) (b' : Nat) : (h.new o).get b' = if h.nx = b' then some o else h.get b' := by
  unfold Hp.new Hp.get
  rw [Tr.get_set]
  by_cases e : h.nx = b'
  · rw [if_pos e, if_pos e, hb]; rfl
  · rw [if_neg e, if_neg e]
theorem Hp.has_of_get {h : Hp} {b : Nat} {o : O} (hb : h.get b = some o) : h.t.has b = true := Tr.has_of_get _ _ _ hb

/-- All that was there is there yet, as it was; at most k blocks are new. -/
structure Grow (h h' : Hp) (k : Nat) : Prop where
  le : ∀ b, b < h.nx → h'.get b = h.get b
  nx : h.nx ≤ h'.nx
  nx' : h'.nx ≤ h.nx + k
  has : ∀ b, h'.t.has b = h.t.has b
  ng : ∀ b, h'.nx ≤ b → h'.get b = none

theorem Grow.refl {h : Hp} {k j : Nat} (hh : HW h k) : Grow h h j := ⟨fun _ _ => rfl, Nat.le_refl _, by omega, fun _ => rfl, hh.ng⟩
theorem Grow.hw {h h' : Hp} {j k : Nat} (g : Grow h h' j) (hh : HW h (j + k)) : HW h' k :=
  ⟨g.ng, fun b hb => by rw [g.has]; exact hh.room b (by have := g.nx'; omega)⟩
theorem Grow.more {h h' : Hp} {j k : Nat} (g : Grow h h' j) (hj : j ≤ k) : Grow h h' k := ⟨g.le, g.nx, by have := g.nx'; omega, g.has, g.ng⟩
theorem Grow.trans {h h1 h2 : Hp} {j k : Nat} (g : Grow h h1 j) (g' : Grow h1 h2 k) : Grow h h2 (j + k) :=
  ⟨fun b hb => (g'.le b (Nat.lt_of_lt_of_le hb g.nx)).trans (g.le b hb), Nat.le_trans g.nx g'.nx, by have := g.nx'; have := g'.nx'; omega, fun b => (g'.has b).trans (g.has b), g'.ng⟩
theorem Grow.new {h h' : Hp} {k m : Nat} (g : Grow h h' k) (hh : HW h (k + 1 + m)) (o : O) : Grow h (h'.new o) (k + 1) := by
  have hhas : h'.t.has h'.nx = true := (g.hw (k := m + 1) (hh.le (by omega))).has
  refine ⟨fun b hb => ?_, by have := g.nx; simp only [Hp.new]; omega, by have := g.nx'; simp only [Hp.new]; omega, fun b => ?_, fun b hb => ?_⟩
  · rw [Hp.at_new hhas, if_neg (by have := g.nx; omega), g.le b hb]
  · simp only [Hp.new, Tr.has_set, g.has]
  · simp only [Hp.new] at hb
    rw [Hp.at_new hhas, if_neg (by omega), g.ng b (by omega)]
theorem Grow.put {h h' : Hp} {k b : Nat} {o o' : O} (g : Grow h h' k) (hb : h.nx ≤ b) (hg : h'.get b = some o') : Grow h (h'.put b o) k := by
  have hhas := Hp.has_of_get hg
  have hlt : b < h'.nx := by
    rcases Nat.lt_or_ge b h'.nx with hl | hl
    · exact hl
    · rw [g.ng b hl] at hg; exact nomatch hg
  refine ⟨fun c hc => ?_, g.nx, g.nx', fun c => ?_, fun c hc => ?_⟩
  · rw [Hp.at_put hhas, if_neg (by omega), g.le c hc]
  · simp only [Hp.put, Tr.has_set, g.has]
  · have hc' : h'.nx ≤ c := hc
    rw [Hp.at_put hhas, if_neg (by omega), g.ng c hc']
theorem Grow.del {h h' : Hp} {k b : Nat} (g : Grow h h' k) (hb : h.nx ≤ b) : Grow h (h'.del b) k := by
  refine ⟨fun c hc => ?_, g.nx, g.nx', fun c => ?_, fun c hc => ?_⟩
  · rw [Hp.at_del, if_neg (by omega), g.le c hc]
  · simp only [Hp.del, Tr.has_set, g.has]
  · have hc' : h'.nx ≤ c := hc
    rw [Hp.at_del]; split
    · rfl
    · exact g.ng c hc'

/- ### bytes -/

def bytesV (bs : List UInt8) : List V := bs.map fun c => V.int .u8 (.ofNat c.toNat)
theorem bytesV_len (bs : List UInt8) : (bytesV bs).length = bs.length := by simp [bytesV]
theorem bytesV_at {bs : List UInt8} {i : Nat} (hi : i < bs.length) : (bytesV bs)[i]? = some (.int .u8 (.ofNat bs[i].toNat)) := by simp [bytesV, hi]

/-- Some bytes that lie somewhere. -/
def Bytes (h : Hp) (v : V) (bs : List UInt8) : Prop :=
  (v = .nils ∧ bs = []) ∨ ∃ b o c, v = .sl b o bs.length c 1 ∧ bs.length ≤ c.n ∧ (bs ≠ [] → b < h.nx ∧ cellsAt h b o bs.length = some (bytesV bs))

theorem cellsAt_some {h : Hp} {b o n : Nat} {cs : List V} (hc : cellsAt h b o n = some cs) : ∃ xs ro, h.get b = some (.cells xs ro) ∧ o + n ≤ xs.length ∧ cs = (xs.drop o).take n := by
  unfold cellsAt at hc
  split at hc
  · rename_i xs ro hg
    cases hb : Nat.ble (o + n) xs.length <;> rw [hb] at hc
    · exact nomatch hc
    · simp only [cond_true, Option.some.injEq] at hc
      exact ⟨xs, ro, hg, Nat.le_of_ble_eq_true hb, hc.symm⟩
  · exact nomatch hc
theorem cellsAt_eq {h : Hp} {b o n : Nat} {xs : List V} {ro : Bool} (hg : h.get b = some (.cells xs ro)) (hl : o + n ≤ xs.length) : cellsAt h b o n = some ((xs.drop o).take n) := by
  unfold cellsAt
  rw [hg]
  simp only [Nat.ble_eq_true_of_le hl, cond_true]

theorem Bytes.grow {h h' : Hp} {v : V} {bs : List UInt8} {k : Nat} (hb : Bytes h v bs) (g : Grow h h' k) : Bytes h' v bs := by
  rcases hb with h1 | ⟨b, o, c, rfl, hc, hh⟩
  · exact .inl h1
  · refine .inr ⟨b, o, c, rfl, hc, fun hne => ?_⟩
    obtain ⟨h1, h2⟩ := hh hne
    refine ⟨Nat.lt_of_lt_of_le h1 g.nx, ?_⟩
    unfold cellsAt at h2 ⊢
    rw [g.le b h1]; exact h2

theorem Bytes.len {h : Hp} {v : V} {bs : List UInt8} (hb : Bytes h v bs) : sLen .sl [v] h = some (gi bs.length) := by
  rcases hb with ⟨rfl, rfl⟩ | ⟨b, o, c, rfl, _⟩ <;> rfl

theorem Bytes.len_any {h : Hp} {v : V} {bs : List UInt8} (hb : Bytes h v bs) (h' : Hp) : sLen .sl [v] h' = some (gi bs.length) := by
  rcases hb with ⟨rfl, rfl⟩ | ⟨b, o, c, rfl, _⟩ <;> rfl

theorem Bytes.at {h : Hp} {v : V} {bs : List UInt8} {i : Nat} (hb : Bytes h v bs) (hi : i < bs.length) : ∃ p, sIxS 1 [v, .int .i64 (.ofNat i)] = some p ∧ sLd [p] h = some (.int .u8 (.ofNat bs[i].toNat)) := by
  rcases hb with ⟨rfl, rfl⟩ | ⟨b, o, c, rfl, hc, hh⟩
  · simp at hi
  · obtain ⟨h1, h2⟩ := hh (by intro e; rw [e] at hi; simp at hi)
    obtain ⟨xs, ro, hg, hl, he⟩ := cellsAt_some h2
    refine ⟨.ptr b (o + i * 1), ?_, ?_⟩
    · have : Nat.blt i bs.length = true := by simpa [Nat.blt_eq] using hi
      simp only [sIxS, this, Nat.beq_refl, Bool.true_and, cond_true]
    · simp only [sLd, hg, Nat.mul_one]
      have h3 := bytesV_at hi
      rw [he, List.getElem?_take_of_lt hi, List.getElem?_drop] at h3
      exact h3

theorem Bytes.first {h : Hp} {v : V} {bs : List UInt8} (hb : Bytes h v bs) : firstV 1 v h = some (bs.length, bytesV bs) := by
  rcases hb with ⟨rfl, rfl⟩ | ⟨b, o, c, rfl, hc, hh⟩
  · rfl
  · simp only [firstV, Nat.beq_refl, cond_true]
    cases bs with
    | nil => rfl
    | cons x xs =>
      obtain ⟨h1, h2⟩ := hh (by simp)
      have : Nat.beq (x :: xs).length 0 = false := rfl
      rw [this]
      simp only [cond_false, Nat.mul_one, h2]

theorem bnd_ofNat {k : IntKind} {n y : Nat} (h : n ≤ y) : bnd (.int k (.ofNat n)) y = some n := by
  simp only [bnd, Nat.ble_eq_true_of_le h, cond_true]

theorem Bytes.drop {h : Hp} {v : V} {bs : List UInt8} {l : Nat} {k : IntKind} (hb : Bytes h v bs) (hl : l ≤ bs.length) : ∃ v2, sSlL 1 true false false [v, .int k (.ofNat l)] = some v2 ∧ Bytes h v2 (bs.drop l) := by
  rcases hb with ⟨rfl, rfl⟩ | ⟨b, o, c, rfl, hc, hh⟩
  · simp at hl; subst hl; exact ⟨.nils, rfl, .inl ⟨rfl, by simp⟩⟩
  · have h0 : Nat.beq 1 1 = true := rfl
    simp only [sSlL, h0, Bool.not_true, cond_false, bnd_ofNat hl]
    have key : bs.drop l ≠ [] → b < h.nx ∧ cellsAt h b (o + l * 1) (bs.length - l) = some (bytesV (bs.drop l)) := fun hne => by
      obtain ⟨h1, h2⟩ := hh (by intro e; rw [e] at hne; simp at hne)
      obtain ⟨xs, ro, hg, hle, he⟩ := cellsAt_some h2
      refine ⟨h1, ?_⟩
      rw [cellsAt_eq hg (by omega)]
      have : bytesV (bs.drop l) = (bytesV bs).drop l := by simp [bytesV]
      rw [this, he, List.drop_take, List.drop_drop, Nat.mul_one]
    refine ⟨_, rfl, ?_⟩
    unfold cutSl
    cases c with
    | ex c =>
      simp only [Cap.n] at hc
      simp only
      by_cases e : c = l
      · subst e
        have e1 : bs.drop c = [] := List.drop_eq_nil_of_le hc
        rw [Nat.beq_refl]
        refine .inr ⟨b, o, .ex (c - c), ?_, ?_, fun hne => absurd e1 hne⟩
        · simp only [cond_true, e1, List.length_nil]
          rw [show bs.length - c = 0 by omega]
        · simp [e1]
      · have : Nat.beq c l = false := by
          cases hb : Nat.beq c l
          · rfl
          · exact absurd (Nat.eq_of_beq_eq_true hb) e
        rw [this]
        refine .inr ⟨b, o + l * 1, .ex (c - l), by simp, by simp [Cap.n]; omega, fun hne => ?_⟩
        rw [List.length_drop]; exact key hne
    | lo c =>
      simp only [Cap.n] at hc
      refine .inr ⟨b, o + l * 1, .lo (c - l), by simp, by simp [Cap.n]; omega, fun hne => ?_⟩
      rw [List.length_drop]; exact key hne

theorem Bytes.take {h : Hp} {v : V} {bs : List UInt8} {l : Nat} {k : IntKind} (hb : Bytes h v bs) (hl : l ≤ bs.length) : ∃ v2, sSlL 1 false true false [v, .int k (.ofNat l)] = some v2 ∧ Bytes h v2 (bs.take l) := by
  rcases hb with ⟨rfl, rfl⟩ | ⟨b, o, c, rfl, hc, hh⟩
  · simp at hl; subst hl; exact ⟨.nils, rfl, .inl ⟨rfl, by simp⟩⟩
  · have h0 : Nat.beq 1 1 = true := rfl
    simp only [sSlL, h0, Bool.not_true, cond_false, bnd_ofNat (Nat.le_trans hl hc)]
    have hlen : (bs.take l).length = l := by simp [Nat.min_eq_left hl]
    have key : ∀ o', o' = o → bs.take l ≠ [] → b < h.nx ∧ cellsAt h b o' l = some (bytesV (bs.take l)) := fun o' ho hne => by
      subst ho
      obtain ⟨h1, h2⟩ := hh (by intro e; rw [e] at hne; simp at hne)
      obtain ⟨xs, ro, hg, hle, he⟩ := cellsAt_some h2
      refine ⟨h1, ?_⟩
      rw [cellsAt_eq hg (by omega)]
      have : bytesV (bs.take l) = (bytesV bs).take l := by simp [bytesV]
      rw [this, he, List.take_take, Nat.min_eq_left hl]
    refine ⟨_, rfl, ?_⟩
    unfold cutSl
    cases c with
    | ex c =>
      simp only [Cap.n] at hc
      simp only
      by_cases e : c = 0
      · subst e
        have hl0 : l = 0 := by omega
        subst hl0
        refine .inr ⟨b, o, .ex 0, rfl, by simp, fun hne => by simp at hne⟩
      · have : Nat.beq c 0 = false := by
          cases hb : Nat.beq c 0
          · rfl
          · exact absurd (Nat.eq_of_beq_eq_true hb) e
        rw [this]
        refine .inr ⟨b, o + 0 * 1, .ex (c - 0), by simp [hlen], by simp [Cap.n]; omega, fun hne => ?_⟩
        rw [hlen]; exact key _ (by simp) hne
    | lo c =>
      simp only [Cap.n] at hc
      refine .inr ⟨b, o + 0 * 1, .lo (c - 0), by simp [hlen], by simp [Cap.n]; omega, fun hne => ?_⟩
      rw [hlen]; exact key _ (by simp) hne

/-- numbers that are known. -/
theorem kLits : (Nat.ble 0 1 = true) ∧ (Nat.ble 0 2 = true) ∧ (Nat.ble 1 2 = true) ∧ (Nat.ble 0 3 = true) ∧ (Nat.ble 1 3 = true) ∧ (Nat.ble 2 3 = true) ∧ (Nat.ble 0 4 = true) ∧ (Nat.ble 1 4 = true) ∧ (Nat.ble 2 4 = true) ∧ (Nat.ble 3 4 = true) ∧ (Nat.ble 0 5 = true) ∧ (Nat.ble 1 5 = true) ∧ (Nat.ble 2 5 = true) ∧ (Nat.ble 3 5 = true) ∧ (Nat.ble 4 5 = true) ∧ (Nat.ble 0 6 = true) ∧ (Nat.ble 1 6 = true) ∧ (Nat.ble 2 6 = true) ∧ (Nat.ble 3 6 = true) ∧ (Nat.ble 4 6 = true) ∧ (Nat.ble 5 6 = true) ∧ (Nat.ble 0 7 = true) ∧ (Nat.ble 1 7 = true) ∧ (Nat.ble 2 7 = true) ∧ (Nat.ble 3 7 = true) ∧ (Nat.ble 4 7 = true) ∧ (Nat.ble 5 7 = true) ∧ (Nat.ble 6 7 = true) ∧ (Nat.ble 0 8 = true) ∧ (Nat.ble 1 8 = true) ∧ (Nat.ble 2 8 = true) ∧ (Nat.ble 3 8 = true) ∧ (Nat.ble 4 8 = true) ∧ (Nat.ble 5 8 = true) ∧ (Nat.ble 6 8 = true) ∧ (Nat.ble 7 8 = true) ∧ (Nat.ble 0 9 = true) ∧ (Nat.ble 1 9 = true) ∧ (Nat.ble 2 9 = true) ∧ (Nat.ble 3 9 = true) ∧ (Nat.ble 4 9 = true) ∧ (Nat.ble 5 9 = true) ∧ (Nat.ble 6 9 = true) ∧ (Nat.ble 7 9 = true) ∧ (Nat.ble 8 9 = true) ∧ (Nat.ble 0 10 = true) ∧ (Nat.ble 1 10 = true) ∧ (Nat.ble 2 10 = true) ∧ (Nat.ble 3 10 = true) ∧ (Nat.ble 4 10 = true) ∧ (Nat.ble 5 10 = true) ∧ (Nat.ble 6 10 = true) ∧ (Nat.ble 7 10 = true) ∧ (Nat.ble 8 10 = true) ∧ (Nat.ble 9 10 = true) ∧ (Nat.ble 0 11 = true) ∧ (Nat.ble 1 11 = true) ∧ (Nat.ble 2 11 = true) ∧ (Nat.ble 3 11 = true) ∧ (Nat.ble 4 11 = true) ∧ (Nat.ble 5 11 = true) ∧ (Nat.ble 6 11 = true) ∧ (Nat.ble 7 11 = true) ∧ (Nat.ble 8 11 = true) ∧ (Nat.ble 9 11 = true) ∧ (Nat.ble 10 11 = true) ∧ (Nat.ble 0 12 = true) ∧ (Nat.ble 1 12 = true) ∧ (Nat.ble 2 12 = true) ∧ (Nat.ble 3 12 = true) ∧ (Nat.ble 4 12 = true) ∧ (Nat.ble 5 12 = true) ∧ (Nat.ble 6 12 = true) ∧ (Nat.ble 7 12 = true) ∧ (Nat.ble 8 12 = true) ∧ (Nat.ble 9 12 = true) ∧ (Nat.ble 10 12 = true) ∧ (Nat.ble 11 12 = true) ∧ (Nat.beq 1 0 = false) ∧ (Nat.beq 2 0 = false) ∧ (Nat.beq 3 0 = false) ∧ (Nat.beq 4 0 = false) ∧ (Nat.beq 5 0 = false) ∧ (Nat.beq 6 0 = false) ∧ (Nat.beq 7 0 = false) ∧ (Nat.beq 8 0 = false) ∧ (Nat.beq 0 1 = false) ∧ (Nat.beq 2 1 = false) ∧ (Nat.beq 3 1 = false) ∧ (Nat.beq 4 1 = false) ∧ (Nat.beq 5 1 = false) ∧ (Nat.beq 6 1 = false) ∧ (Nat.beq 7 1 = false) ∧ (Nat.beq 8 1 = false) ∧ (Nat.beq 0 2 = false) ∧ (Nat.beq 1 2 = false) ∧ (Nat.beq 3 2 = false) ∧ (Nat.beq 4 2 = false) ∧ (Nat.beq 5 2 = false) ∧ (Nat.beq 6 2 = false) ∧ (Nat.beq 7 2 = false) ∧ (Nat.beq 8 2 = false) ∧ (Nat.beq 0 3 = false) ∧ (Nat.beq 1 3 = false) ∧ (Nat.beq 2 3 = false) ∧ (Nat.beq 4 3 = false) ∧ (Nat.beq 5 3 = false) ∧ (Nat.beq 6 3 = false) ∧ (Nat.beq 7 3 = false) ∧ (Nat.beq 8 3 = false) ∧ (Nat.beq 0 4 = false) ∧ (Nat.beq 1 4 = false) ∧ (Nat.beq 2 4 = false) ∧ (Nat.beq 3 4 = false) ∧ (Nat.beq 5 4 = false) ∧ (Nat.beq 6 4 = false) ∧ (Nat.beq 7 4 = false) ∧ (Nat.beq 8 4 = false) ∧ (Nat.beq 0 5 = false) ∧ (Nat.beq 1 5 = false) ∧ (Nat.beq 2 5 = false) ∧ (Nat.beq 3 5 = false) ∧ (Nat.beq 4 5 = false) ∧ (Nat.beq 6 5 = false) ∧ (Nat.beq 7 5 = false) ∧ (Nat.beq 8 5 = false) ∧ (Nat.beq 0 6 = false) ∧ (Nat.beq 1 6 = false) ∧ (Nat.beq 2 6 = false) ∧ (Nat.beq 3 6 = false) ∧ (Nat.beq 4 6 = false) ∧ (Nat.beq 5 6 = false) ∧ (Nat.beq 7 6 = false) ∧ (Nat.beq 8 6 = false) ∧ (Nat.beq 0 7 = false) ∧ (Nat.beq 1 7 = false) ∧ (Nat.beq 2 7 = false) ∧ (Nat.beq 3 7 = false) ∧ (Nat.beq 4 7 = false) ∧ (Nat.beq 5 7 = false) ∧ (Nat.beq 6 7 = false) ∧ (Nat.beq 8 7 = false) ∧ (Nat.beq 0 8 = false) ∧ (Nat.beq 1 8 = false) ∧ (Nat.beq 2 8 = false) ∧ (Nat.beq 3 8 = false) ∧ (Nat.beq 4 8 = false) ∧ (Nat.beq 5 8 = false) ∧ (Nat.beq 6 8 = false) ∧ (Nat.beq 7 8 = false) ∧ (Nat.blt 0 0 = false) ∧ (Nat.blt 1 0 = false) ∧ (Nat.blt 2 0 = false) ∧ (Nat.blt 3 0 = false) ∧ (Nat.blt 4 0 = false) ∧ (Nat.blt 5 0 = false) ∧ (Nat.blt 6 0 = false) ∧ (Nat.blt 7 0 = false) ∧ (Nat.blt 8 0 = false) ∧ (Nat.blt 0 1 = true) ∧ (Nat.blt 1 1 = false) ∧ (Nat.blt 2 1 = false) ∧ (Nat.blt 3 1 = false) ∧ (Nat.blt 4 1 = false) ∧ (Nat.blt 5 1 = false) ∧ (Nat.blt 6 1 = false) ∧ (Nat.blt 7 1 = false) ∧ (Nat.blt 8 1 = false) ∧ (Nat.blt 0 2 = true) ∧ (Nat.blt 1 2 = true) ∧ (Nat.blt 2 2 = false) ∧ (Nat.blt 3 2 = false) ∧ (Nat.blt 4 2 = false) ∧ (Nat.blt 5 2 = false) ∧ (Nat.blt 6 2 = false) ∧ (Nat.blt 7 2 = false) ∧ (Nat.blt 8 2 = false) ∧ (Nat.blt 0 3 = true) ∧ (Nat.blt 1 3 = true) ∧ (Nat.blt 2 3 = true) ∧ (Nat.blt 3 3 = false) ∧ (Nat.blt 4 3 = false) ∧ (Nat.blt 5 3 = false) ∧ (Nat.blt 6 3 = false) ∧ (Nat.blt 7 3 = false) ∧ (Nat.blt 8 3 = false) ∧ (Nat.blt 0 4 = true) ∧ (Nat.blt 1 4 = true) ∧ (Nat.blt 2 4 = true) ∧ (Nat.blt 3 4 = true) ∧ (Nat.blt 4 4 = false) ∧ (Nat.blt 5 4 = false) ∧ (Nat.blt 6 4 = false) ∧ (Nat.blt 7 4 = false) ∧ (Nat.blt 8 4 = false) ∧ (Nat.blt 0 5 = true) ∧ (Nat.blt 1 5 = true) ∧ (Nat.blt 2 5 = true) ∧ (Nat.blt 3 5 = true) ∧ (Nat.blt 4 5 = true) ∧ (Nat.blt 5 5 = false) ∧ (Nat.blt 6 5 = false) ∧ (Nat.blt 7 5 = false) ∧ (Nat.blt 8 5 = false) ∧ (Nat.blt 0 6 = true) ∧ (Nat.blt 1 6 = true) ∧ (Nat.blt 2 6 = true) ∧ (Nat.blt 3 6 = true) ∧ (Nat.blt 4 6 = true) ∧ (Nat.blt 5 6 = true) ∧ (Nat.blt 6 6 = false) ∧ (Nat.blt 7 6 = false) ∧ (Nat.blt 8 6 = false) ∧ (Nat.blt 0 7 = true) ∧ (Nat.blt 1 7 = true) ∧ (Nat.blt 2 7 = true) ∧ (Nat.blt 3 7 = true) ∧ (Nat.blt 4 7 = true) ∧ (Nat.blt 5 7 = true) ∧ (Nat.blt 6 7 = true) ∧ (Nat.blt 7 7 = false) ∧ (Nat.blt 8 7 = false) ∧ (Nat.blt 0 8 = true) ∧ (Nat.blt 1 8 = true) ∧ (Nat.blt 2 8 = true) ∧ (Nat.blt 3 8 = true) ∧ (Nat.blt 4 8 = true) ∧ (Nat.blt 5 8 = true) ∧ (Nat.blt 6 8 = true) ∧ (Nat.blt 7 8 = true) ∧ (Nat.blt 8 8 = false) := by
  refine ⟨?_, ?_, ?_, ?_, ?_, ?_, ?_, ?_, ?_, ?_, ?_, ?_, ?_, ?_, ?_, ?_, ?_, ?_, ?_, ?_, ?_, ?_, ?_, ?_, ?_, ?_, ?_, ?_, ?_, ?_, ?_, ?_, ?_, ?_, ?_, ?_, ?_, ?_, ?_, ?_, ?_, ?_, ?_, ?_, ?_, ?_, ?_, ?_, ?_, ?_, ?_, ?_, ?_, ?_, ?_, ?_, ?_, ?_, ?_, ?_, ?_, ?_, ?_, ?_, ?_, ?_, ?_, ?_, ?_, ?_, ?_, ?_, ?_, ?_, ?_, ?_, ?_, ?_, ?_, ?_, ?_, ?_, ?_, ?_, ?_, ?_, ?_, ?_, ?_, ?_, ?_, ?_, ?_, ?_, ?_, ?_, ?_, ?_, ?_, ?_, ?_, ?_, ?_, ?_, ?_, ?_, ?_, ?_, ?_, ?_, ?_, ?_, ?_, ?_, ?_, ?_, ?_, ?_, ?_, ?_, ?_, ?_, ?_, ?_, ?_, ?_, ?_, ?_, ?_, ?_, ?_, ?_, ?_, ?_, ?_, ?_, ?_, ?_, ?_, ?_, ?_, ?_, ?_, ?_, ?_, ?_, ?_, ?_, ?_, ?_, ?_, ?_, ?_, ?_, ?_, ?_, ?_, ?_, ?_, ?_, ?_, ?_, ?_, ?_, ?_, ?_, ?_, ?_, ?_, ?_, ?_, ?_, ?_, ?_, ?_, ?_, ?_, ?_, ?_, ?_, ?_, ?_, ?_, ?_, ?_, ?_, ?_, ?_, ?_, ?_, ?_, ?_, ?_, ?_, ?_, ?_, ?_, ?_, ?_, ?_, ?_, ?_, ?_, ?_, ?_, ?_, ?_, ?_, ?_, ?_, ?_, ?_, ?_, ?_, ?_, ?_, ?_, ?_, ?_, ?_, ?_, ?_, ?_, ?_, ?_, ?_, ?_, ?_, ?_, ?_, ?_⟩ <;> rfl
theorem kCells : (∀ (k : IntKind) (n : Int), (V.int k n).cells = [V.int k n]) ∧ (∀ (b : Bool), (V.bool b).cells = [V.bool b]) ∧ (∀ (b : List UInt8), (V.str b).cells = [V.str b]) ∧ ((V.nils).cells = [V.nils]) ∧ ((V.nilp).cells = [V.nilp]) ∧ ((V.nilm).cells = [V.nilm]) ∧ ((V.nilf).cells = [V.nilf]) ∧ ((V.nili).cells = [V.nili]) ∧ (∀ (b o : Nat), (V.ptr b o).cells = [V.ptr b o]) ∧ (∀ (b : Nat), (V.map b).cells = [V.map b]) ∧ (∀ (b o n : Nat) (c : Cap) (z : Nat), (V.sl b o n c z).cells = [V.sl b o n c z]) ∧ (∀ (f : Nat) (a c : List V), (V.fn f a c).cells = [V.fn f a c]) ∧ (∀ (cs : List V), (V.agg cs).cells = cs) := by
  refine ⟨?_, ?_, ?_, ?_, ?_, ?_, ?_, ?_, ?_, ?_, ?_, ?_, ?_⟩ <;> first | rfl | (intros; rfl)
theorem kOnes : (∀ (k : IntKind) (n : Int), (V.int k n).oneCell = true) ∧ (∀ (b : Bool), (V.bool b).oneCell = true) ∧ (∀ (b : List UInt8), (V.str b).oneCell = true) ∧ ((V.nils).oneCell = true) ∧ ((V.nilp).oneCell = true) ∧ ((V.nilm).oneCell = true) ∧ ((V.nilf).oneCell = true) ∧ ((V.nili).oneCell = true) ∧ (∀ (b o : Nat), (V.ptr b o).oneCell = true) ∧ (∀ (b : Nat), (V.map b).oneCell = true) ∧ (∀ (b o n : Nat) (c : Cap) (z : Nat), (V.sl b o n c z).oneCell = true) ∧ (∀ (f : Nat) (a c : List V), (V.fn f a c).oneCell = true) := by
  refine ⟨?_, ?_, ?_, ?_, ?_, ?_, ?_, ?_, ?_, ?_, ?_, ?_⟩ <;> first | rfl | (intros; rfl)
theorem gtt : (true == true) = true := rfl
theorem gtf : (true == false) = false := rfl
theorem gft : (false == true) = false := rfl
theorem gff : (false == false) = true := rfl
theorem Bytes.cells {h : Hp} {v : V} {bs : List UInt8} (hb : Bytes h v bs) : v.cells = [v] := by
  rcases hb with ⟨rfl, rfl⟩ | ⟨b, o, c, rfl, _⟩ <;> rfl
theorem Bytes.one {h : Hp} {v : V} {bs : List UInt8} (hb : Bytes h v bs) : v.oneCell = true := by
  rcases hb with ⟨rfl, rfl⟩ | ⟨b, o, c, rfl, _⟩ <;> rfl
theorem beq11 : Nat.beq 1 1 = true := rfl
theorem ble11 : Nat.ble 1 1 = true := rfl
theorem ble_self (n : Nat) : Nat.ble n n = true := Nat.ble_eq_true_of_le (Nat.le_refl n)
theorem put_has {h : Hp} {b c : Nat} {o : O} (hb : h.t.has c = true) : (h.put b o).t.has c = true := by simpa only [Hp.put, Tr.has_set] using hb
theorem new_has {h : Hp} {c : Nat} {o : O} (hb : h.t.has c = true) : (h.new o).t.has c = true := by simpa only [Hp.new, Tr.has_set] using hb
theorem put_self {h : Hp} {b : Nat} {o o' : O} (hg : h.get b = some o') : (h.put b o).get b = some o := by rw [Hp.at_put (Hp.has_of_get hg), if_pos rfl]
section
variable {E : Env} {nt : Nat}
theorem wpF_skip (f : SF) (Q : X → SF → Prop) : wpF E nt .skip f Q = Q .n f := rfl
theorem wpF_reg (ops : List AOper) (f : SF) (Q : X → SF → Prop) : wpF E nt (.reg ops) f Q = opsW E ops f fun f1 => Q .n f1 := rfl
theorem wpF_dreg (ops : List DOper) (f : SF) (Q : X → SF → Prop) : wpF E nt (.dreg ops) f Q = dopsW E ops f [] fun f1 => Q .n f1 := rfl
theorem wpF_seq (a b : ACode) (f : SF) (Q : X → SF → Prop) : wpF E nt (.seq a b) f Q = wpF E nt a f fun x f1 => match x with
    | .n => wpF E nt b f1 Q
    | .x i => Q (.x i) f1
    | .r => Q .r f1 := rfl
theorem wpF_cond (c : AOpd) (a b : ACode) (f : SF) (Q : X → SF → Prop) : wpF E nt (.cond c a b) f Q = match evOpdF f.fr c with
    | .bool t => if t = true then wpF E nt a f Q else wpF E nt b f Q
    | _ => False := rfl
theorem wpF_block (id : Nat) (b : ACode) (f : SF) (Q : X → SF → Prop) : wpF E nt (.block id b) f Q = wpF E nt b f fun x f1 => match x with
    | .n => Q .n f1
    | .x i => (match Nat.beq i id with | true => Q .n f1 | false => Q (.x i) f1)
    | .r => Q .r f1 := rfl
theorem wpF_loop (b : ACode) (f : SF) (Q : X → SF → Prop) : wpF E nt (.loop b) f Q = ∃ x f', Ex E nt (.loop b) f x f' ∧ Q x f' := rfl
theorem wpF_exit (id : Nat) (f : SF) (Q : X → SF → Prop) : wpF E nt (.exit id) f Q = Q (.x id) f := rfl
theorem wpF_ret (f : SF) (Q : X → SF → Prop) : wpF E nt .ret f Q = Q .r f := rfl
theorem opsW_nil (f : SF) (Q : SF → Prop) : opsW E [] f Q = Q f := rfl
theorem opsW_cons (o : AOper) (os : List AOper) (f : SF) (Q : SF → Prop) : opsW E (o :: os) f Q = match wantedF f.fr o.g with
    | true => match o.k with
      | .call g => ∃ v h', Cl E g (evArgsF f.fr o.args) f.h v h' ∧ opsW E os ⟨upO f.fr o.dst v, h', f.ds⟩ Q
      | k => match step k (evArgsF f.fr o.args) f.h with
        | some (v, h') => opsW E os ⟨upO f.fr o.dst v, h', f.ds⟩ Q
        | none => False
    | false => opsW E os ⟨upO f.fr o.dst V.undef, f.h, f.ds⟩ Q := rfl
theorem dopsW_nil (f : SF) (pd : List Pend) (Q : SF → Prop) : dopsW E [] f pd Q = Q f := rfl
theorem dopsW_cons (o : DOper) (os : List DOper) (f : SF) (pd : List Pend) (Q : SF → Prop) : dopsW E (o :: os) f pd Q = opsW E [o.o] f fun f1 => match isE o.o.k.kd with
    | true => match checkPend f1.h pd with
      | some pd' => dopsW E os f1 pd' Q
      | none => False
    | false => dopsW E os f1 (addPendF o f f1 pd) Q := rfl
end
theorem initF0 (a : V) (l : List V) : initF (a :: l) 0 = a := rfl
theorem initF1 (a b : V) (l : List V) : initF (a :: b :: l) 1 = b := rfl
theorem initF2 (a b c : V) (l : List V) : initF (a :: b :: c :: l) 2 = c := rfl
theorem initF3 (a b c d : V) (l : List V) : initF (a :: b :: c :: d :: l) 3 = d := rfl
theorem lt_blt (i n : Nat) : ltI (.ofNat i) (.ofNat n) = Nat.blt i n := rfl
theorem wrap_nat {k : IntKind} {n : Nat} (h : fitsN k n = true) : wrapI k (.ofNat n) = .ofNat n := by simp only [wrapI, h, cond_true]
theorem fits_i64 {n : Nat} (h : n < 9223372036854775808) : fitsN .i64 n = true := by simp [fitsN]; omega
theorem fits_u64 {n : Nat} (h : n < 18446744073709551616) : fitsN .u64 n = true := by simp [fitsN]; omega
theorem wrap_succ {j : Nat} (h : j < 2 ^ 62) : wrapI .i64 (Int.add (.ofNat j) (.ofNat 1)) = .ofNat (j + 1) := wrap_nat (n := j + 1) (fits_i64 (by omega))
theorem blt_true {i n : Nat} (h : Nat.blt i n = true) : i < n := by simpa [Nat.blt_eq] using h
theorem blt_false {i n : Nat} (h : Nat.blt i n = false) : n ≤ i := by
  rcases Nat.lt_or_ge i n with h1 | h1
  · rw [show Nat.blt i n = true by simpa [Nat.blt_eq] using h1] at h; exact nomatch h
  · exact h1

end Go.Aev
