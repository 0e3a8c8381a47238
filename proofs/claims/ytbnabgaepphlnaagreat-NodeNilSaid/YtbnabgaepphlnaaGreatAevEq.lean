/- The abstract interpreter: values held against each other; keys of maps. -/
import Derived.Test.YtbnabgaepphlnaaGreatAevStepV
import Derived.ChangeKeysEq
set_option linter.unusedVariables false
set_option linter.unusedSimpArgs false
namespace Go.Aev
open Go
section
variable {P : Program}

theorem trEq_struct {d : Nat} {t : TypeId} {fs : Array Field} {e : EqT} (hu : P.underlying t = some (.struct fs)) (h : trEq P (d + 1) t = some e) :
    P.stoodInHeld t = false ∧ ∃ l : List (EqT × (Nat × Nat × Bool)), e = .st (l.map (·.1)) (l.map (·.2)) ∧ l.length = fs.toList.length ∧
      ∀ (i : Nat) (f : Field) (p : EqT × (Nat × Nat × Bool)), fs.toList[i]? = some f → l[i]? = some p →
        f.name ≠ "_" ∧ trEq P d f.type = some p.1 ∧ p.2.1 = f.offset ∧ tSize P f.type = some p.2.2.1 ∧ tAgg P f.type = some p.2.2.2 := by
  unfold trEq at h
  simp only [hu] at h
  cases hs : P.stoodInHeld t <;> rw [hs] at h
  · simp only [cond_false] at h
    split at h
    · rename_i l hl
      simp only [Option.some.injEq] at h
      obtain ⟨h1, h2⟩ := mapM_some hl
      refine ⟨rfl, l, h.symm, h1.symm, fun i f p hf hp => ?_⟩
      have := h2 i f p hf hp
      cases hn : f.name == "_" <;> rw [hn] at this
      · simp only [cond_false] at this
        split at this
        · rename_i e' n ag h3 h4 h5
          simp only [Option.some.injEq] at this
          subst this
          exact ⟨by simpa using hn, h3, rfl, h4, h5⟩
        · exact nomatch this
      · exact nomatch this
    · exact nomatch h
  · exact nomatch h

theorem trEq_array {d n : Nat} {t c : TypeId} {e : EqT} (hu : P.underlying t = some (.array n c)) (h : trEq P (d + 1) t = some e) :
    ∃ e' sz ag, e = .arr n e' sz ag ∧ trEq P d c = some e' ∧ tSize P c = some sz ∧ tAgg P c = some ag := by
  unfold trEq at h
  simp only [hu] at h
  split at h
  · rename_i e' sz ag h1 h2 h3
    simp only [Option.some.injEq] at h
    exact ⟨e', sz, ag, h.symm, h1, h2, h3⟩
  · exact nomatch h

theorem eqv_ok : ∀ (d : Nat) (t : TypeId) (e : EqT), trEq P d t = some e → ∀ (D : Nat), d ≤ D → ∀ (ρ : Ren) (x y : V) (cx cy : Value) (b : Bool) (w : World), Rel ρ x cx → Rel ρ y cy → eqv e x y = some b →
    (Op.equalIn D t cx cy).run P w = .ok b w
  | 0, t, e, h => by simp [trEq] at h
  | d + 1, t, e, h => by
    intro D hD ρ x y cx cy b w hx hy hb
    obtain ⟨D, rfl⟩ : ∃ D', D = D' + 1 := ⟨D - 1, by omega⟩
    cases hu : P.underlying t with
    | none => unfold trEq at h; simp [hu] at h
    | some ud =>
      cases ud
      case int k =>
        unfold trEq at h; simp only [hu, Option.some.injEq] at h; subst h
        simp only [eqv] at hb
        unfold eqInt at hb
        split at hb
        · rename_i k1 n1 k2 n2
          cases hk : eqK k1 k2 <;> rw [hk] at hb <;> simp only [cond_true, cond_false, Option.some.injEq] at hb
          · exact nomatch hb
          · have := (eqK_iff k1 k2).1 hk; subst this
            subst hb
            rw [hx.int_inv, hy.int_inv, run_equalIn_int w D t k1 k n1 n2 hu, eqI_eq]
        · exact nomatch hb
      case bool =>
        unfold trEq at h; simp only [hu, Option.some.injEq] at h; subst h
        simp only [eqv] at hb
        unfold eqBool at hb
        split at hb
        · rename_i p q
          simp only [Option.some.injEq] at hb; subst hb
          rw [hx.bool_inv, hy.bool_inv, run_equalIn_bool' w D t p q hu]
        · exact nomatch hb
      case string =>
        unfold trEq at h; simp only [hu, Option.some.injEq] at h; subst h
        simp only [eqv] at hb
        unfold eqStr at hb
        split at hb
        · rename_i p q
          simp only [Option.some.injEq] at hb; subst hb
          rw [hx.str_inv, hy.str_inv, run_equalIn_string w D t _ _ hu, ByteArray.toList_eq, ByteArray.toList_eq]
        · exact nomatch hb
      case pointer el =>
        unfold trEq at h; simp only [hu] at h
        split at h
        · rename_i n hn
          cases hz : Nat.beq n 0 <;> rw [hz] at h <;> simp only [cond_true, cond_false, Option.some.injEq] at h
          · subst h
            have hne := beq_false hz
            simp only [eqv] at hb
            unfold eqPtr at hb
            split at hb
            · simp only [Option.some.injEq] at hb; subst hb
              have e1 : cx = .pointer none := hx
              have e2 : cy = .pointer none := hy
              simp [Op.equalIn, underlying, hu, e1, e2]
            · simp only [Option.some.injEq] at hb; subst hb
              have e1 : cx = .pointer none := hx
              obtain ⟨l, _, e2⟩ := hy.ptr_inv
              simp [Op.equalIn, underlying, hu, e1, e2]
            · simp only [Option.some.injEq] at hb; subst hb
              obtain ⟨l, _, e1⟩ := hx.ptr_inv
              have e2 : cy = .pointer none := hy
              simp [Op.equalIn, underlying, hu, e1, e2]
            · rename_i b1 o1 b2 o2
              cases hbb : Nat.beq b1 b2 <;> rw [hbb] at hb <;> simp only [cond_true, cond_false, Option.some.injEq] at hb
              · exact nomatch hb
              · have := beq_true hbb; subst this
                subst hb
                obtain ⟨l, hl, e1⟩ := hx.ptr_inv
                obtain ⟨l', hl', e2⟩ := hy.ptr_inv
                rw [hl] at hl'; cases hl'
                have hq : ((⟨l.c, l.base + o1, none⟩ : Addr) == ⟨l.c, l.base + o2, none⟩) = Nat.beq o1 o2 := by
                  rw [Bool.eq_iff_iff]
                  simp only [beq_iff_eq, Addr.mk.injEq, true_and, and_true]
                  constructor
                  · intro h; have : o1 = o2 := by omega
                    subst this; simp
                  · intro h; rw [beq_true h]
                simp only [Op.equalIn, Sem.run_bind, run_under hu, Result.andThen_ok, e1, e2, run_sizeOf' hn, hne, ne_eq, not_false_eq_true, if_true, sameAddr, beq_self_eq_true, Sem.run_pure, hq]
            · exact nomatch hb
          · exact nomatch h
        · exact nomatch h
      case slice el =>
        unfold trEq at h; simp only [hu, Option.some.injEq] at h; subst h
        simp only [eqv] at hb
        unfold eqSl at hb
        split at hb <;> (try simp only [Option.some.injEq] at hb) <;> (try contradiction)
        · subst hb
          have e1 : cx = .slice none 0 0 := hx
          have e2 : cy = .slice none 0 0 := hy
          simp [Op.equalIn, underlying, hu, e1, e2]
        · subst hb
          have e1 : cx = .slice none 0 0 := hx
          obtain ⟨l, cc, off, _, e2, _⟩ := hy.sl_inv
          simp [Op.equalIn, underlying, hu, e1, e2]
        · subst hb
          have e2 : cy = .slice none 0 0 := hy
          obtain ⟨l, cc, off, _, e1, _⟩ := hx.sl_inv
          simp [Op.equalIn, underlying, hu, e1, e2]
      case map k v =>
        unfold trEq at h; simp only [hu, Option.some.injEq] at h; subst h
        simp only [eqv] at hb
        unfold eqMap at hb
        split at hb <;> (try simp only [Option.some.injEq] at hb) <;> (try contradiction)
        · subst hb
          have e1 : cx = .map none := hx
          have e2 : cy = .map none := hy
          simp [Op.equalIn, underlying, hu, e1, e2]
        · subst hb
          have e1 : cx = .map none := hx
          obtain ⟨l, _, e2⟩ : ∃ l, ρ _ = some l ∧ cy = .map (some l.c) := hy
          simp [Op.equalIn, underlying, hu, e1, e2]
        · subst hb
          have e2 : cy = .map none := hy
          obtain ⟨l, _, e1⟩ : ∃ l, ρ _ = some l ∧ cx = .map (some l.c) := hx
          simp [Op.equalIn, underlying, hu, e1, e2]
      case func ps rs vr =>
        unfold trEq at h; simp only [hu, Option.some.injEq] at h; subst h
        simp only [eqv] at hb
        unfold eqFn at hb
        split at hb <;> (try simp only [Option.some.injEq] at hb) <;> (try contradiction)
        · subst hb
          have e1 : cx = .nilFunc := hx
          have e2 : cy = .nilFunc := hy
          simp [Op.equalIn, underlying, hu, e1, e2]
        · subst hb
          have e1 : cx = .nilFunc := hx
          obtain ⟨_, _, e2, _⟩ : ∃ ca cc, cy = .func (.func _) ca cc ∧ RelL ρ _ ca.toList ∧ RelL ρ _ cc.toList := hy
          simp [Op.equalIn, underlying, hu, e1, e2]
        · subst hb
          have e2 : cy = .nilFunc := hy
          obtain ⟨_, _, e1, _⟩ : ∃ ca cc, cx = .func (.func _) ca cc ∧ RelL ρ _ ca.toList ∧ RelL ρ _ cc.toList := hx
          simp [Op.equalIn, underlying, hu, e1, e2]
      case struct fs =>
        obtain ⟨hst, l, rfl, hll, hl⟩ := trEq_struct hu h
        simp only [eqv] at hb
        split at hb
        · rename_i xs ys
          obtain ⟨ax, e1, hxs⟩ := hx.agg_inv
          obtain ⟨ay, e2, hys⟩ := hy.agg_inv
          have hfo : P.fieldsOf t = fs := by simp [Program.fieldsOf, hu]
          rw [e1, e2, run_equalIn_struct w D t ax ay (by rw [hfo]; exact hu) hst, hfo]
          clear hu h hx hy e1 e2 hfo
          generalize fs.toList = fl at *
          induction fl generalizing l with
          | nil =>
            have : l = [] := List.length_eq_zero_iff.1 (by simpa using hll)
            subst this
            simp only [List.map_nil, eqvs, Option.some.injEq] at hb
            subst hb; rfl
          | cons f fl ih =>
            cases l with
            | nil => simp at hll
            | cons p l =>
              obtain ⟨hn, h1, h2, h3, h4⟩ := hl 0 f p (by simp) (by simp)
              obtain ⟨pe, po, pn, pa⟩ := p
              simp only [List.map_cons, eqvs] at hb
              split at hb
              · rename_i u v hu1 hv1
                simp only at h1 h2 h3 h4
                subst h2
                obtain ⟨cu, ru, relu⟩ := run_part (P := P) w h3 h4 hu1 hxs
                obtain ⟨cv, rv, relv⟩ := run_part (P := P) w h3 h4 hv1 hys
                simp only [Op.eqFields, ne_eq, hn, not_false_eq_true, if_true, Sem.run_bind, ru, Result.andThen_ok, rv]
                split at hb
                · rename_i hq
                  rw [eqv_ok d f.type pe h1 D (by omega) ρ u v cu cv true w relu relv hq]
                  simp only [Result.andThen_ok, Bool.not_true, Bool.false_eq_true, if_false]
                  exact ih l hb (by simpa using hll) (fun i f' p' hf hp => hl (i + 1) f' p' (by simpa using hf) (by simpa using hp))
                · rename_i r hq
                  cases b with
                  | true => exact absurd hb hq
                  | false =>
                    rw [eqv_ok d f.type pe h1 D (by omega) ρ u v cu cv false w relu relv hb]
                    rfl
              · exact nomatch hb
        · exact nomatch hb
      case array n c =>
        obtain ⟨e', sz, ag, rfl, h1, h2, h3⟩ := trEq_array hu h
        simp only [eqv] at hb
        split at hb
        · rename_i xs ys
          obtain ⟨ax, e1, hxs⟩ := hx.agg_inv
          obtain ⟨ay, e2, hys⟩ := hy.agg_inv
          obtain ⟨i, hi, hisz⟩ := tSize_some h2
          have hco : P.cellsOf c = sz := by simp [Program.cellsOf, hi, hisz]
          rw [e1, e2, run_equalIn_array w D ax ay hu hi, hco]
          clear hu h hx hy e1 e2
          have key : ∀ m j, eqvArr (eqv e') sz ag xs ys m j = some b → (Op.eqItems D c sz ax ay (List.range' j m)).run P w = .ok b w := by
            intro m
            induction m with
            | zero =>
              intro j hb
              simp only [eqvArr, Option.some.injEq] at hb; subst hb; rfl
            | succ m ih =>
              intro j hb
              simp only [eqvArr] at hb
              split at hb
              · rename_i u v hu1 hv1
                obtain ⟨cu, ru, relu⟩ := run_part (P := P) w h2 h3 hu1 hxs
                obtain ⟨cv, rv, relv⟩ := run_part (P := P) w h2 h3 hv1 hys
                simp only [List.range'_succ, Op.eqItems, Sem.run_bind, ru, Result.andThen_ok, rv]
                split at hb
                · rename_i hq
                  rw [eqv_ok d c e' h1 D (by omega) ρ u v cu cv true w relu relv hq]
                  simp only [Result.andThen_ok, Bool.not_true, Bool.false_eq_true, if_false]
                  exact ih (j + 1) hb
                · rename_i r hq
                  cases b with
                  | true => exact absurd hb hq
                  | false =>
                    rw [eqv_ok d c e' h1 D (by omega) ρ u v cu cv false w relu relv hb]
                    rfl
              · exact nomatch hb
          have := key n 0 hb
          rwa [← List.range_eq_range'] at this
        · exact nomatch hb
      all_goals (unfold trEq at h; simp [hu] at h)

/-- A key is a key of its type. -/
theorem checkKey_ok (em : Bool) : ∀ (d : Nat) (t : TypeId) (e : EqT), trEq P d t = some e → ∀ (D : Nat), d ≤ D → ∀ (ρ : Ren) (x : V) (cx : Value) (w : World), Rel ρ x cx → eqv e x x = some true →
    (Instr.checkKey em D t cx).run P w = .ok () w
  | 0, t, e, h => by simp [trEq] at h
  | d + 1, t, e, h => by
    intro D hD ρ x cx w hx hb
    obtain ⟨D, rfl⟩ : ∃ D', D = D' + 1 := ⟨D - 1, by omega⟩
    cases hu : P.underlying t with
    | none => unfold trEq at h; simp [hu] at h
    | some ud =>
      cases ud
      case struct fs =>
        obtain ⟨hst, l, rfl, hll, hl⟩ := trEq_struct hu h
        simp only [eqv] at hb
        split at hb
        · rename_i xs
          obtain ⟨ax, e1, hxs⟩ := hx.agg_inv
          rw [Instr.checkKey]
          simp only [Sem.run_bind, run_under hu, Result.andThen_ok, e1]
          rw [← Array.forIn_toList]
          clear hu h hx e1
          generalize fs.toList = fl at *
          induction fl generalizing l with
          | nil => simp
          | cons f fl ih =>
            cases l with
            | nil => simp at hll
            | cons p l =>
              obtain ⟨hn, h1, h2, h3, h4⟩ := hl 0 f p (by simp) (by simp)
              obtain ⟨pe, po, pn, pa⟩ := p
              simp only [List.map_cons, eqvs] at hb
              split at hb
              · rename_i u v hu1 hv1
                rw [hu1] at hv1; cases hv1
                simp only at h1 h2 h3 h4
                subst h2
                obtain ⟨cu, ru, relu⟩ := run_part (P := P) w h3 h4 hu1 hxs
                simp only [List.forIn_cons, Sem.run_bind, hn, ne_eq, not_false_eq_true, if_true, Result.andThen_ok, ru, Sem.run_pure]
                split at hb
                · rename_i hq
                  rw [checkKey_ok em d f.type pe h1 D (by omega) ρ u cu w relu hq]
                  simp only [Result.andThen_ok]
                  exact ih l hb (by simpa using hll) (fun i f' p' hf hp => hl (i + 1) f' p' (by simpa using hf) (by simpa using hp))
                · rename_i r hq
                  exact absurd hb hq
              · exact nomatch hb
        · exact nomatch hb
      case array n c =>
        obtain ⟨e', sz, ag, rfl, h1, h2, h3⟩ := trEq_array hu h
        simp only [eqv] at hb
        split at hb
        · rename_i xs
          obtain ⟨ax, e1, hxs⟩ := hx.agg_inv
          rw [Instr.checkKey]
          simp only [Sem.run_bind, run_under hu, Result.andThen_ok, e1]
          simp only [Std.Legacy.Range.forIn_eq_forIn_range', Std.Legacy.Range.size, Nat.sub_zero, Nat.add_one_sub_one, Nat.div_one]
          clear hu h hx e1
          have key : ∀ m j, eqvArr (eqv e') sz ag xs xs m j = some true → (forIn (List.range' j m) PUnit.unit (fun i _ => do
              Instr.checkKey em D c (← part c ax (i * (← sizeOf c)))
              pure (ForInStep.yield PUnit.unit)) : Sem PUnit).run P w = .ok PUnit.unit w := by
            intro m
            induction m with
            | zero => intro j hb; simp
            | succ m ih =>
              intro j hb
              simp only [eqvArr] at hb
              split at hb
              · rename_i u v hu1 hv1
                rw [hu1] at hv1; cases hv1
                obtain ⟨cu, ru, relu⟩ := run_part (P := P) w h2 h3 hu1 hxs
                simp only [List.range'_succ, List.forIn_cons, Sem.run_bind, run_sizeOf' h2, Result.andThen_ok, ru]
                split at hb
                · rename_i hq
                  rw [checkKey_ok em d c e' h1 D (by omega) ρ u cu w relu hq]
                  simp only [Result.andThen_ok, Sem.run_pure]
                  exact ih (j + 1) hb
                · rename_i r hq
                  exact absurd hb hq
              · exact nomatch hb
          rw [key n 0 hb]; rfl
        · exact nomatch hb
      case interface ms => unfold trEq at h; simp [hu] at h
      all_goals
        rw [Instr.checkKey]
        simp only [Sem.run_bind, run_under hu, Result.andThen_ok]
        rfl

end
end Go.Aev
