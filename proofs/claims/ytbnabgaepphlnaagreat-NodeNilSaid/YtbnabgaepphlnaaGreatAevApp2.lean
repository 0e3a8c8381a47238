/- The abstract interpreter: append, copy, clear. -/
import Derived.Test.YtbnabgaepphlnaaGreatAevApp
set_option linter.unusedVariables false
set_option linter.unusedSimpArgs false
namespace Go.Aev
open Go
section
variable {P : Program}

/-- The first elements of a slice or a text. -/
theorem firstV_ok {sz n : Nat} {x : V} {cx : Value} {ρ : Ren} {H : Hp} {w : World} {cs : List V} (hr : RelH ρ H w) (hx : Rel ρ x cx) (h : firstV sz x H = some (n, cs)) :
    (Builtin.lenOf cx).run P w = .ok n w ∧ ∃ xs : List Value, RelL ρ cs xs ∧ xs.length = n * sz ∧ (Builtin.firstCells sz n cx).run P w = .ok xs.toArray w := by
  unfold firstV at h
  split at h
  · simp only [Option.some.injEq, Prod.mk.injEq] at h
    obtain ⟨rfl, rfl⟩ := h
    have e1 : cx = .slice none 0 0 := hx
    subst e1
    exact ⟨rfl, [], rfl, by simp, rfl⟩
  · rename_i s
    cases hz : Nat.beq sz 1 <;> rw [hz] at h <;> simp only [cond_true, cond_false, Option.some.injEq, Prod.mk.injEq] at h
    · exact nomatch h
    have h1 := beq_true hz
    subst h1
    obtain ⟨rfl, rfl⟩ := h
    rw [hx.str_inv]
    refine ⟨rfl, s.map fun c => .int .u8 (.ofNat c.toNat), ?_, by simp, ?_⟩
    · refine RelL.of_get (by simp) fun i u hu => ?_
      simp only [List.getElem?_map, Option.map_eq_some_iff] at hu ⊢
      obtain ⟨c, hc, rfl⟩ := hu
      exact ⟨_, ⟨c, hc, rfl⟩, rfl⟩
    · have : (⟨⟨s⟩⟩ : ByteArray).extract 0 s.length = ⟨⟨s⟩⟩ := by rw [extract_bytes]; simp
      simp [Builtin.firstCells, this]
  · rename_i b o n' cap z
    cases hz : Nat.beq z sz <;> rw [hz] at h
    · exact nomatch h
    · have := beq_true hz
      subst this
      simp only [cond_true] at h
      obtain ⟨l, cc, off, hl, rfl, hcap, hlc, hoff⟩ := hx.sl_inv
      cases hn : Nat.beq n' 0 <;> rw [hn] at h
      · simp only [cond_false] at h
        split at h
        · rename_i cs' hcs
          simp only [Option.some.injEq, Prod.mk.injEq] at h
          obtain ⟨rfl, rfl⟩ := h
          obtain ⟨xs, h3, h4, h5⟩ := cellsAt_ok (P := P) hr hcs hl
          refine ⟨rfl, xs, h3, h4, ?_⟩
          have hne := beq_false hn
          obtain ⟨rfl, _⟩ := hoff.resolve_left (by omega)
          exact h5
        · exact nomatch h
      · have := beq_true hn
        subst this
        simp only [cond_true, Option.some.injEq, Prod.mk.injEq] at h
        obtain ⟨rfl, rfl⟩ := h
        exact ⟨rfl, [], rfl, by simp, by simp [Builtin.firstCells, loadCells, loadCellsFrom]⟩
  · exact nomatch h

theorem Hp.nx_del (H : Hp) (b : Nat) : (H.del b).nx = H.nx := rfl

theorem relH_del {ρ : Ren} {H : Hp} {w : World} (hr : RelH ρ H w) {b : Nat} {l : Loc} (hl : ρ b = some l) : RelH ρ (H.del b) w ∧ Ext ρ H w ρ (H.del b) w := by
  have hk : ∀ b' o, (H.del b).get b' = some o → H.get b' = some o := by
    intro b' o h
    rw [Hp.get_del] at h
    split at h
    · exact nomatch h
    · exact h
  refine ⟨⟨hr.lt, hr.nx, ?_, ?_, ?_⟩, ⟨Ren.le_refl ρ, ?_, Nat.le_refl _, ?_, ?_, Nat.le_refl _, fun _ _ _ => rfl, rfl, rfl⟩⟩
  · intro b' hb
    rw [Hp.get_del]
    split
    · rfl
    · exact hr.ng b' hb
  · intro b' o l' h1 h2; exact hr.obj b' o l' (hk _ _ h1) h2
  · intro b1 b2 o1 o2 l1 l2 h1 h2; exact hr.inj b1 b2 o1 o2 l1 l2 (hk _ _ h1) (hk _ _ h2)
  · intro b' h1 h2
    refine ⟨h2, ?_⟩
    rw [Hp.get_del, if_neg]
    intro e; subst e; rw [hl] at h2; exact nomatch h2
  · intro b' h1 h2
    rw [Hp.get_del]
    split
    · rfl
    · exact h2
  · intro b' l' h h'; rw [h] at h'; exact nomatch h'

/-- An append that goes on in the old array, of which the elder block is given up. -/
theorem take_over {ρ : Ren} {H : Hp} {w : World} (hr : RelH ρ H w) {b o : Nat} {all old new : List V} {xo xn : List Value} {l : Loc} (hg : H.get b = some (.cells all false)) (hl : ρ b = some l)
    (hxo : RelL ρ old xo) (hxn : RelL ρ new xn) (hone : new.all V.oneCell = true) (hold : ∀ (i : Nat) (x : Value), xo[i]? = some x → ∃ arr el fz, w.heap[l.c]? = some (.cells arr el fz) ∧ arr[l.base + o + i]? = some x)
    (hfit : l.base + o + xo.length + xn.length ≤ l.csz) :
    ∃ w', (storeCells ⟨l.c, l.base + o + xo.length, none⟩ xn).run P w = .ok () w' ∧
      RelH (ρ.add H.nx ⟨l.c, l.base + o, l.csz, false⟩) ((H.del b).new (.cells (old ++ new) false)) w' ∧ Ext ρ H w (ρ.add H.nx ⟨l.c, l.base + o, l.csz, false⟩) ((H.del b).new (.cells (old ++ new) false)) w' := by
  obtain ⟨hro, arr, el, fz, pre, mid, post, g1, g2, g3, g4, g5, g6⟩ := hr.obj b _ l hg hl
  have hb : b < H.nx := by
    rcases Nat.lt_or_ge b H.nx with h | h
    · exact h
    · rw [hr.nx b h] at hl; exact nomatch hl
  have hsz : arr.size = arr.toList.length := by simp
  have hst := run_storeCells (P := P) l.c (l.base + o + xo.length) el fz xn 0 arr w g1 (by omega) (hxn.oneCells hone) (unfrozen_of (g3 rfl))
  simp only [Nat.add_zero] at hst
  have hn : ρ H.nx = none := hr.nx _ (Nat.le_refl _)
  have hle := Ren.le_add hn ⟨l.c, l.base + o, l.csz, false⟩
  -- what the array's cells are then
  have hcells : arr.toList.take (l.base + o + xo.length) ++ (xn ++ arr.toList.drop (l.base + o + xo.length + xn.length)) =
      arr.toList.take (l.base + o) ++ ((xo ++ xn) ++ arr.toList.drop (l.base + o + xo.length + xn.length)) := by
    have : arr.toList.take (l.base + o + xo.length) = arr.toList.take (l.base + o) ++ xo := by
      apply List.ext_getElem?
      intro i
      rw [List.getElem?_take, List.getElem?_append, List.length_take, List.getElem?_take]
      have hm : min (l.base + o) arr.toList.length = l.base + o := by omega
      rw [hm]
      by_cases h1 : i < l.base + o
      · rw [if_pos (by omega), if_pos h1, if_pos h1]
      · rw [if_neg h1]
        by_cases h2 : i < l.base + o + xo.length
        · rw [if_pos h2]
          have hx : i - (l.base + o) < xo.length := by omega
          obtain ⟨arr', el', fz', q1, q2⟩ := hold (i - (l.base + o)) _ (List.getElem?_eq_getElem hx)
          rw [g1] at q1; cases q1
          rw [show l.base + o + (i - (l.base + o)) = i by omega] at q2
          rw [Array.getElem?_toList, q2, List.getElem?_eq_getElem hx]
        · rw [if_neg h2, List.getElem?_eq_none (by omega)]
    rw [this]; simp
  refine ⟨_, hst, ⟨?_, ?_, ?_, ?_, ?_⟩, ⟨hle, ?_, Nat.le_succ _, ?_, ?_, ?_, ?_, rfl, rfl⟩⟩
  · intro b' l' h
    rw [setRow_size]
    by_cases e : b' = H.nx
    · subst e; rw [Ren.add_same] at h; cases h; exact hr.lt b l hl
    · rw [Ren.add_ne _ e] at h; exact hr.lt b' l' h
  · intro b' hb'
    have : H.nx + 1 ≤ b' := hb'
    rw [Ren.add_ne _ (by omega)]; exact hr.nx b' (by omega)
  · intro b' hb'
    have : H.nx + 1 ≤ b' := hb'
    rw [Hp.get_new, Hp.nx_del, if_neg (by omega), Hp.get_del]
    split
    · rfl
    · exact hr.ng b' (by omega)
  · intro b' o' l' h1 h2
    rw [Hp.get_new, Hp.nx_del] at h1
    by_cases e : H.nx = b'
    · subst e
      rw [Ren.add_same] at h2; cases h2
      rw [if_pos rfl] at h1
      cases hh : (H.del b).t.has H.nx <;> rw [hh] at h1 <;> simp at h1
      subst h1
      refine ⟨rfl, _, el, fz, arr.toList.take (l.base + o), xo ++ xn, _, setRow_get g1 _, ?_, ?_, hcells, ?_, (hxo.append hxn).mono hle⟩
      · rw [← g2, List.size_toArray]
        have := congrArg List.length (List.take_append_drop (l.base + o + xo.length) arr.toList)
        simp; omega
      · intro _
        rcases g3 rfl with h | h
        · exact .inl h
        · refine .inr ?_
          rw [h]
          have : (arr.toList.take (l.base + o + xo.length) ++ (xn ++ arr.toList.drop (l.base + o + xo.length + xn.length))).toArray.size = arr.size := by
            simp; omega
          rw [this]
      · simp; omega
    · rw [if_neg e, Hp.get_del] at h1
      rw [Ren.add_ne _ (fun h => e h.symm)] at h2
      split at h1
      · exact nomatch h1
      · rename_i hne
        refine ((hr.obj b' o' l' h1 h2).of_heap (setRow_other _ fun h3 => hne ?_)).mono hle
        exact hr.inj b b' _ o' l l' hg h1 hl h2 hro.symm h3.symm
  · intro b1 b2 o1 o2 l1 l2 h1 h2 h3 h4 h5 h6
    rw [Hp.get_new, Hp.nx_del] at h1 h2
    by_cases e : H.nx = b1 <;> by_cases e' : H.nx = b2
    · omega
    · subst e
      rw [Ren.add_same] at h3; cases h3
      rw [Ren.add_ne _ (fun h => e' h.symm)] at h4
      rw [if_neg e', Hp.get_del] at h2
      split at h2
      · exact nomatch h2
      · rename_i hne
        exact absurd (hr.inj b b2 _ o2 l l2 hg h2 hl h4 hro.symm h6) hne
    · subst e'
      rw [Ren.add_same] at h4; cases h4
      rw [Ren.add_ne _ (fun h => e h.symm)] at h3
      rw [if_neg e, Hp.get_del] at h1
      split at h1
      · exact nomatch h1
      · rename_i hne
        exact absurd (hr.inj b b1 _ o1 l l1 hg h1 hl h3 hro.symm h6.symm) hne
    · rw [Ren.add_ne _ (fun h => e h.symm)] at h3
      rw [Ren.add_ne _ (fun h => e' h.symm)] at h4
      rw [if_neg e, Hp.get_del] at h1
      rw [if_neg e', Hp.get_del] at h2
      split at h1
      · exact nomatch h1
      · split at h2
        · exact nomatch h2
        · exact hr.inj b1 b2 o1 o2 l1 l2 h1 h2 h3 h4 h5 h6
  · intro b' h1 h2
    rw [Ren.add_ne _ (by omega), Hp.get_new, Hp.nx_del, if_neg (by omega), Hp.get_del, if_neg]
    · exact ⟨h2, rfl⟩
    · intro e; subst e; rw [hl] at h2; exact nomatch h2
  · intro b' h1 h2
    rw [Hp.get_new, Hp.nx_del, if_neg (by omega), Hp.get_del]
    split
    · rfl
    · exact h2
  · intro b' l' h h'
    by_cases e : b' = H.nx
    · subst e
      rw [Ren.add_same] at h'; cases h'
      exact .inr ⟨b, _, l, hg, hl, rfl, hro.symm⟩
    · rw [Ren.add_ne _ e, h] at h'; exact nomatch h'
  · rw [setRow_size]; exact Nat.le_refl _
  · intro c h1 h2
    exact setRow_other _ fun e => h2 ⟨b, _, l, hg, hl, e.symm, hro.symm⟩

end
end Go.Aev
