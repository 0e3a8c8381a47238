/- The abstract interpreter: aggregates, slices of slices, conversions, and the built-in functions that look at no memory. -/
import Derived.Test.YtbnabgaepphlnaaGreatAevStepQ
set_option linter.unusedVariables false
set_option linter.unusedSimpArgs false
namespace Go.Aev
open Go
section
variable {P : Program}

theorem RelL.of_get {ρ : Ren} : ∀ {vs : List V} {xs : List Value}, xs.length = vs.length → (∀ (i : Nat) (v : V), vs[i]? = some v → ∃ x, xs[i]? = some x ∧ Rel ρ v x) → RelL ρ vs xs
  | [], xs, hl, _ => by
    have : xs = [] := List.length_eq_zero_iff.1 (by simpa using hl)
    subst this; exact RelL.nil
  | v :: vs, [], hl, _ => by simp at hl
  | v :: vs, x :: xs, hl, h => by
    obtain ⟨y, h1, h2⟩ := h 0 v (by simp)
    simp at h1; subst h1
    exact RelL.cons h2 (RelL.of_get (by simpa using hl) fun i u hu => by simpa using h (i + 1) u (by simpa using hu))

theorem foldl_set (l : List Value) : ∀ (off : Nat) (cur : Array Value) (j : Nat), off + j + l.length ≤ cur.size →
    ((l.zipIdx j).foldl (fun cs (p : Value × Nat) => cs.setIfInBounds (off + p.2) p.1) cur).toList = cur.toList.take (off + j) ++ (l ++ cur.toList.drop (off + j + l.length)) := by
  induction l with
  | nil => intro off cur j h; simp
  | cons v rest ih =>
    intro off cur j h
    simp only [List.zipIdx_cons, List.foldl_cons]
    rw [ih off _ (j + 1) (by simp at h ⊢; omega)]
    have e := seg_step cur.toList (off + j) v rest (by simp at h ⊢; omega)
    rw [Array.toList_setIfInBounds, show off + (j + 1) = off + j + 1 by omega]
    simpa [Nat.add_assoc] using e

/-- The parts of an aggregate are laid in their places. -/
theorem fill_ok {ρ : Ren} {places : Nat → Option (Nat × Nat)} {ρc : Operand → Value} {fr : Nat → V} (hf : ∀ x ax, trOpd P x = some ax → Rel ρ (evOpdF fr ax) (ρc x)) :
    ∀ {parts : List (Nat × Operand)} {ps : List (Nat × Nat)} {as : List AOpd} {z cs : List V} {zc : Array Value}, trParts P places parts = some (ps, as) → fillV z ps (evArgsF fr as) = some cs → RelL ρ z zc.toList →
    ∃ cc : Array Value, Instr.fill places zc (parts.map fun p => (p.1, ρc p.2)) = some cc ∧ RelL ρ cs cc.toList
  | [], ps, as, z, cs, zc, h, h1, h2 => by
    simp only [trParts, Option.some.injEq, Prod.mk.injEq] at h
    obtain ⟨rfl, rfl⟩ := h
    simp only [evArgsF, fillV, Option.some.injEq] at h1
    subst h1
    exact ⟨zc, rfl, h2⟩
  | (i, x) :: parts, ps, as, z, cs, zc, h, h1, h2 => by
    simp only [trParts] at h
    split at h
    · rename_i p a ps' as' e1 e2 e3
      simp only [Option.some.injEq, Prod.mk.injEq] at h
      obtain ⟨rfl, rfl⟩ := h
      obtain ⟨off, n⟩ := p
      have hx := hf x a e2
      simp only [evArgsF, fillV] at h1
      cases hb : Nat.beq (evOpdF fr a).cells.length n && Nat.ble (off + n) z.length <;> rw [hb] at h1 <;> simp only [cond_true, cond_false] at h1
      · exact nomatch h1
      · rw [Bool.and_eq_true] at hb
        have hn := beq_true hb.1
        have hle := Nat.le_of_ble_eq_true hb.2
        have hxc := hx.cells
        have hxl := hxc.length
        have hzl := h2.length
        simp only [Array.length_toList] at hxl hzl
        have hput := h2.putAt hxc (i := off) (by omega)
        have hfold := foldl_set (ρc x).cells.toList off zc 0 (by simp; omega)
        obtain ⟨cc, h3, h4⟩ := fill_ok hf (zc := ((ρc x).cells.toList.zipIdx 0).foldl (fun cs (p : Value × Nat) => cs.setIfInBounds (off + p.2) p.1) zc) e3 h1 (by
          rw [hfold]; simpa using hput)
        refine ⟨cc, ?_, h4⟩
        simp only [List.map_cons, Instr.fill, e1]
        have hc : ¬ ((ρc x).cells.size ≠ n || decide (off + (ρc x).cells.size > zc.size)) = true := by
          simp; omega
        rw [if_neg hc]
        rw [← h3]
        congr 1
        rw [← Array.foldl_toList]
        simp
    · exact nomatch h

theorem run_mapM_list {α β : Type} (f : α → Sem β) (w : World) : ∀ (l : List α) (r : List β), l.length = r.length → (∀ (i : Nat) (a : α) (b : β), l[i]? = some a → r[i]? = some b → (f a).run P w = .ok b w) → (l.mapM f).run P w = .ok r w
  | [], [], _, _ => by simp
  | [], b :: r, h, _ => by simp at h
  | a :: l, [], h, _ => by simp at h
  | a :: l, b :: r, h, h1 => by
    have h0 := h1 0 a b (by simp) (by simp)
    have ih := run_mapM_list f w l r (by simpa using h) (fun i x y hx hy => h1 (i + 1) x y (by simpa using hx) (by simpa using hy))
    simp only [List.mapM_cons, Sem.run_bind, h0, Result.andThen_ok, ih, Sem.run_pure]

theorem mapM_some {α β : Type} {f : α → Option β} : ∀ {l : List α} {r : List β}, l.mapM f = some r → l.length = r.length ∧ ∀ (i : Nat) (a : α) (b : β), l[i]? = some a → r[i]? = some b → f a = some b
  | [], r, h => by
    simp at h; subst h; simp
  | a :: l, r, h => by
    simp only [List.mapM_cons, Option.bind_eq_bind, Option.bind_eq_some_iff, Option.pure_def, Option.some.injEq] at h
    obtain ⟨b, h1, r', h2, rfl⟩ := h
    obtain ⟨h3, h4⟩ := mapM_some h2
    refine ⟨by simp [h3], fun i x y hx hy => ?_⟩
    cases i with
    | zero => simp at hx hy; subst hx; subst hy; exact h1
    | succ i => exact h4 i x y (by simpa using hx) (by simpa using hy)

theorem run_zeroValue {t : TypeId} {i : TypeInfo} {x : Value} (hi : P.info? t = some i) (hz : i.zero = some x) (w : World) : (zeroValue t).run P w = .ok x w := by
  simp [zeroValue, typeInfo, hi, hz]

theorem snd_build (t : TypeId) (parts : Array (Nat × Operand)) : Sound1 P (.build t parts) := by
  intro od k as fr ρ H w ρc v H' ho hk hf hr hs
  simp only [trOp] at hk
  split at hk
  · rename_i fs z hu hz
    obtain ⟨i, x, hi, hzx, hzr, _⟩ := zCells_rel hz
    split at hk
    · rename_i pl hpl
      split at hk
      · rename_i ps as' hp
        simp only [Option.some.injEq, Prod.mk.injEq] at hk
        obtain ⟨rfl, rfl⟩ := hk
        obtain ⟨h2, rfl⟩ := pureS_some (f := sBuild z ps) rfl hs
        unfold sBuild at h2
        split at h2
        · rename_i cs hcs
          simp only [Option.some.injEq] at h2; subst h2
          obtain ⟨cc, h3, h4⟩ := fill_ok hf hp hcs (hzr ρ)
          refine .pure (cv := .agg cc) hr ?_ ⟨cc, rfl, h4⟩
          obtain ⟨hpl1, hpl2⟩ := mapM_some hpl
          have hm : (fs.mapM fun f => do pure (f.offset, ← sizeOf f.type) : Sem (Array (Nat × Nat))).run P w = .ok pl.toArray w := by
            rw [Array.mapM_eq_mapM_toList, Sem.run_map]
            rw [run_mapM_list _ w fs.toList pl hpl1 (fun i a b ha hb => by
              have := hpl2 i a b ha hb
              simp only [Option.map_eq_some_iff] at this
              obtain ⟨n, hn, rfl⟩ := this
              simp only [Sem.run_bind, run_sizeOf' hn, Result.andThen_ok, Sem.run_pure])]
            rfl
          have hrun : (Instr.build t (parts.map fun p => (p.1, ρc p.2))).run P w = .ok (.agg cc) w := by
            simp only [Instr.build, Sem.run_bind, run_zeroValue hi hzx, Result.andThen_ok, run_under hu, hm, Array.toList_map]
            have : (fun x : Nat => pl.toArray[x]?) = fun x : Nat => pl[x]? := by funext x; simp
            rw [this, h3]
            rfl
          simp only [execOp, ho, Sem.run_bind]
          rw [hrun]; rfl
        · exact nomatch h2
      · exact nomatch hk
    · exact nomatch hk
  · rename_i m e z hu hz
    obtain ⟨i, x, hi, hzx, hzr, _⟩ := zCells_rel hz
    split at hk
    · rename_i sz hsz
      split at hk
      · rename_i ps as' hp
        simp only [Option.some.injEq, Prod.mk.injEq] at hk
        obtain ⟨rfl, rfl⟩ := hk
        obtain ⟨h2, rfl⟩ := pureS_some (f := sBuild z ps) rfl hs
        unfold sBuild at h2
        split at h2
        · rename_i cs hcs
          simp only [Option.some.injEq] at h2; subst h2
          obtain ⟨cc, h3, h4⟩ := fill_ok hf hp hcs (hzr ρ)
          refine .pure (cv := .agg cc) hr ?_ ⟨cc, rfl, h4⟩
          have hrun : (Instr.build t (parts.map fun p => (p.1, ρc p.2))).run P w = .ok (.agg cc) w := by
            simp only [Instr.build, Sem.run_bind, run_zeroValue hi hzx, Result.andThen_ok, run_under hu, run_sizeOf' hsz, Array.toList_map, h3]
            rfl
          simp only [execOp, ho, Sem.run_bind]
          rw [hrun]; rfl
        · exact nomatch h2
      · exact nomatch hk
    · exact nomatch hk
  · exact nomatch hk


end
end Go.Aev
