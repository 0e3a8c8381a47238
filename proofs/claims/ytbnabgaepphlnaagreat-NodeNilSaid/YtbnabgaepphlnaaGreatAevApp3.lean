/- The abstract interpreter: append, copy, clear. -/
import Derived.Test.YtbnabgaepphlnaaGreatAevApp2
set_option linter.unusedVariables false
set_option linter.unusedSimpArgs false
namespace Go.Aev
open Go
section
variable {P : Program}

/-- An append that makes a new array. -/
theorem grow_ok {ρ : Ren} {H : Hp} {w : World} (hr : RelH ρ H w) {e : TypeId} {sz need cc : Nat} {i : TypeInfo} {x0 : Value} {cs z : List V} {xs : List Value} (hz : RelL ρ z x0.cells.toList) (hzl : z.length = sz)
    (hcs : RelL ρ cs xs) (hxs : xs.length = need * sz) :
    let newCap := (Question.appendCap need cc e).cut (w.tape w.drawn (.appendCap need cc e))
    ∃ ρ' w', need ≤ newCap ∧ (newRow e (xs.toArray ++ Builtin.zeroCells x0.cells (newCap - need))).run P { w with drawn := w.drawn + 1 } = .ok ⟨w.heap.size, 0, none⟩ w' ∧
      RelH ρ' (H.new (.cells cs false)) w' ∧ Ext ρ H w ρ' (H.new (.cells cs false)) w' ∧
      Rel ρ' (.sl H.nx 0 need (.lo need) sz) (.slice (some ⟨w.heap.size, 0, none⟩) need newCap) := by
  intro newCap
  have hle : need ≤ newCap := Nat.le_add_right _ _
  let sp := (Builtin.zeroCells x0.cells (newCap - need)).toList
  obtain ⟨h1, h2⟩ := new_cells hr.drew cs xs sp e hcs
  have harr : (xs ++ sp).toArray = xs.toArray ++ Builtin.zeroCells x0.cells (newCap - need) := by
    apply Array.ext'; simp [sp]
  rw [harr] at h1 h2
  refine ⟨_, _, hle, ?_, h1, (Ext.drew ρ H w).trans hr h2, ?_⟩
  · simp only [newRow, Sem.run_bind, run_newObj, Result.andThen_ok, Sem.run_pure]
    rfl
  · refine ⟨_, newCap, 0, Ren.add_same _ _ _, rfl, hle, hle, .inr ⟨rfl, ?_⟩⟩
    have hzc : x0.cells.size = sz := by have := hz.length; simp at this; omega
    have : sp.length = (newCap - need) * sz := by simp [sp, Builtin.zeroCells, hzc]
    simp only [this, hxs, Nat.zero_add]
    rw [← Nat.add_mul]
    exact Nat.mul_le_mul_right _ (by omega)

def stIf (base : Option Addr) (k : Nat) (l : List Value) : Sem Unit :=
  match base with
  | some a => storeCells (a.add k) l
  | none => pure ()

/-- append's run where there is room. -/
theorem append_room {ats : Array TypeId} {t0 t1 e : TypeId} {d1 : TypeDesc} {sz : Nat} (ht0 : ats[0]? = some t0) (hu0 : P.underlying t0 = some (.slice e)) (ht1 : ats[1]? = some t1) (hu1 : P.underlying t1 = some d1)
    (hd : (∃ e', d1 = .slice e') ∨ d1 = .string) (hsz : tSize P e = some sz) (ty : TypeId) {base : Option Addr} {sLen sCap n : Nat} {cx : Value} {w w' : World}
    (hn : (Builtin.lenOf cx).run P w = .ok n w) {new : Array Value} (hnew : (Builtin.firstCells sz n cx).run P w = .ok new w) (hroom : sLen + n ≤ sCap)
    (hst : (stIf base (sLen * sz) new.toList).run P w = .ok () w') :
    (Builtin.append_ ats ty #[.slice base sLen sCap, cx]).run P w = .ok (.slice base (sLen + n) sCap) w' := by
  have h0 : (#[Value.slice base sLen sCap, cx] : Array Value)[0]? = some (.slice base sLen sCap) := rfl
  have h1 : (#[Value.slice base sLen sCap, cx] : Array Value)[1]? = some cx := rfl
  cases base with
  | none =>
    simp only [stIf, Sem.run_pure, Result.ok.injEq, true_and] at hst
    subst hst
    rcases hd with ⟨e', rfl⟩ | rfl <;>
    simp only [Builtin.append_, ht0, h0, h1, Sem.run_bind, run_under hu0, Result.andThen_ok, run_sizeOf' hsz, ht1, run_under hu1, Sem.run_pure, Bool.false_eq_true, if_false, hn, hroom, if_true, Bool.not_false, hnew]
  | some a =>
    simp only [stIf] at hst
    rcases hd with ⟨e', rfl⟩ | rfl <;>
    simp only [Builtin.append_, ht0, h0, h1, Sem.run_bind, run_under hu0, Result.andThen_ok, run_sizeOf' hsz, ht1, run_under hu1, Sem.run_pure, Bool.false_eq_true, if_false, hn, hroom, if_true, Bool.not_false, hnew, hst]

/-- append's run where a new array is made. -/
theorem append_grow {ats : Array TypeId} {t0 t1 e : TypeId} {d1 : TypeDesc} {sz by' : Nat} {i : TypeInfo} {x0 : Value} (ht0 : ats[0]? = some t0) (hu0 : P.underlying t0 = some (.slice e)) (ht1 : ats[1]? = some t1) (hu1 : P.underlying t1 = some d1)
    (hd : (∃ e', d1 = .slice e') ∨ d1 = .string) (hi : P.info? e = some i) (hsz : i.size = sz) (hby : i.bytes = by') (hz : i.zero = some x0) (ty : TypeId) {base : Option Addr} {sLen sCap n : Nat} {cx : Value} {w w' : World}
    (hn : (Builtin.lenOf cx).run P w = .ok n w) {old new : Array Value} (hold : (Builtin.firstCells sz sLen (.slice base sLen sCap)).run P { w with drawn := w.drawn + 1 } = .ok old { w with drawn := w.drawn + 1 })
    (hnew : (Builtin.firstCells sz n cx).run P { w with drawn := w.drawn + 1 } = .ok new { w with drawn := w.drawn + 1 }) (hroom : ¬ sLen + n ≤ sCap) (hfit : (sLen + n) * by' ≤ 140737488355328) (hint : sLen + n ≤ 9223372036854775807)
    {newCap : Nat} (hcap : (Question.appendCap (sLen + n) sCap e).cut (w.tape w.drawn (.appendCap (sLen + n) sCap e)) = newCap) {ad : Addr}
    (hrow : (newRow e (old ++ new ++ Builtin.zeroCells x0.cells (newCap - (sLen + n)))).run P { w with drawn := w.drawn + 1 } = .ok ad w') :
    (Builtin.append_ ats ty #[.slice base sLen sCap, cx]).run P w = .ok (.slice (some ad) (sLen + n) newCap) w' := by
  have h0 : (#[Value.slice base sLen sCap, cx] : Array Value)[0]? = some (.slice base sLen sCap) := rfl
  have h1 : (#[Value.slice base sLen sCap, cx] : Array Value)[1]? = some cx := rfl
  have hszr : ∀ w : World, (sizeOf e).run P w = .ok sz w := fun w => run_sizeOf' (by simp [tSize, hi, hsz]) w
  have hti : ∀ w : World, (typeInfo e).run P w = .ok i w := fun w => by simp [typeInfo, hi]
  have hq : (Question.appendCap (sLen + n) sCap e).forced = false := rfl
  have hgrow : Builtin.nextslicecap (sLen + n) sCap * i.bytes ≤ 281474976710656 := by rw [hby]; exact growslice_fits (by omega) hfit
  have hp : ¬ (Builtin.nextslicecap (sLen + n) sCap * i.bytes > 2 ^ 48) := by omega
  have hmax : ¬ (((sLen + n : Nat) : Int) > IntKind.i64.max) := by
    have : IntKind.i64.max = 9223372036854775807 := by decide
    rw [this]; omega
  rcases hd with ⟨e', rfl⟩ | rfl <;>
  simp only [Builtin.append_, ht0, h0, h1, Sem.run_bind, run_under hu0, Result.andThen_ok, hszr, ht1, run_under hu1, Sem.run_pure, Bool.false_eq_true, if_false, hn, hroom, Bool.not_false, if_true, hti, hmax, false_and, hp, run_choose, hq, hcap, run_askRoom, hold, hnew, run_zeroValue hi hz, hrow]

theorem sndB_append : SoundB P .append := by
  intro ats ty bs k vs args ρ H w v H' hk hrel hr hs
  -- what is asked of the types
  obtain ⟨t0, e, t1, d1, sz, by', z, i, x0, ht0, hu0, ht1, hu1, hi, hsz, hby, hz, hzr, hzl, hpos, hcase⟩ :
      ∃ t0 e t1 d1 sz by' z i x0, ats[0]? = some t0 ∧ P.underlying t0 = some (.slice e) ∧ ats[1]? = some t1 ∧ P.underlying t1 = some d1 ∧ P.info? e = some i ∧ i.size = sz ∧ i.bytes = by' ∧
        i.zero = some x0 ∧ (∀ ρ, RelL ρ z x0.cells.toList) ∧ z.length = sz ∧ sz ≠ 0 ∧ ((k = .app sz by' ∧ (d1 = .string → sz = 1) ∧ ((∃ e', d1 = .slice e') ∨ d1 = .string)) ∨ (k = .appz sz by' z ∧ ∃ kk, d1 = .int kk)) := by
    simp only [trBuiltin] at hk
    split at hk
    · rename_i e e' h0 h1
      split at hk
      · rename_i n m z hn hm hzz
        cases hb : Nat.beq n 0 || !Nat.beq z.length n <;> rw [hb] at hk
        · simp only [Bool.or_eq_false_iff, Bool.not_eq_false'] at hb
          simp only [cond_false, Option.some.injEq] at hk; subst hk
          obtain ⟨t0, ht0, hu0⟩ := ats_zero h0
          obtain ⟨t1, ht1, hu1⟩ := ats_one h1
          obtain ⟨i, hi, rfl⟩ := tSize_some hn
          obtain ⟨i', hi', rfl⟩ := tBytes_some hm
          rw [hi] at hi'; cases hi'
          obtain ⟨i', x0, hi', hz0, hzr, _⟩ := zCells_rel hzz
          rw [hi] at hi'; cases hi'
          exact ⟨t0, e, t1, _, _, _, z, i, x0, ht0, hu0, ht1, hu1, hi, rfl, rfl, hz0, hzr, beq_true hb.2, beq_false hb.1, .inl ⟨rfl, (fun h => nomatch h), .inl ⟨_, rfl⟩⟩⟩
        · exact nomatch hk
      · exact nomatch hk
    · rename_i e h0 h1
      split at hk
      · rename_i n m z hn hm hzz
        cases hb : Nat.beq n 1 && Nat.beq z.length n <;> rw [hb] at hk
        · exact nomatch hk
        · rw [Bool.and_eq_true] at hb
          simp only [cond_true, Option.some.injEq] at hk; subst hk
          obtain ⟨t0, ht0, hu0⟩ := ats_zero h0
          obtain ⟨t1, ht1, hu1⟩ := ats_one h1
          obtain ⟨i, hi, rfl⟩ := tSize_some hn
          obtain ⟨i', hi', rfl⟩ := tBytes_some hm
          rw [hi] at hi'; cases hi'
          obtain ⟨i', x0, hi', hz0, hzr, _⟩ := zCells_rel hzz
          rw [hi] at hi'; cases hi'
          have h1' := beq_true hb.1
          exact ⟨t0, e, t1, _, _, _, z, i, x0, ht0, hu0, ht1, hu1, hi, rfl, rfl, hz0, hzr, beq_true hb.2, by omega, .inl ⟨rfl, (fun _ => h1'), .inr rfl⟩⟩
      · exact nomatch hk
    · rename_i e kk h0 h1
      split at hk
      · rename_i n m z hn hm hzz
        cases hb : Nat.beq n 0 || !Nat.beq z.length n <;> rw [hb] at hk
        · simp only [Bool.or_eq_false_iff, Bool.not_eq_false'] at hb
          simp only [cond_false, Option.some.injEq] at hk; subst hk
          obtain ⟨t0, ht0, hu0⟩ := ats_zero h0
          obtain ⟨t1, ht1, hu1⟩ := ats_one h1
          obtain ⟨i, hi, rfl⟩ := tSize_some hn
          obtain ⟨i', hi', rfl⟩ := tBytes_some hm
          rw [hi] at hi'; cases hi'
          obtain ⟨i', x0, hi', hz0, hzr, _⟩ := zCells_rel hzz
          rw [hi] at hi'; cases hi'
          exact ⟨t0, e, t1, _, _, _, z, i, x0, ht0, hu0, ht1, hu1, hi, rfl, rfl, hz0, hzr, beq_true hb.2, beq_false hb.1, .inr ⟨rfl, _, rfl⟩⟩
        · exact nomatch hk
      · exact nomatch hk
    · exact nomatch hk
  have hszt : tSize P e = some sz := by simp [tSize, hi, hsz]
  rcases hcase with ⟨rfl, hone, hd⟩ | ⟨rfl, kk, rfl⟩
  · -- append(s, x...)
    have hs' : sApp sz by' vs H = some (v, H') := hs
    unfold sApp at hs'
    split at hs'
    · rename_i sv xv
      obtain ⟨cs, cx, ee, rs, rx⟩ := hrel.two
      have hargs := args_two ee
      subst hargs
      split at hs'
      · exact nomatch hs'
      · rename_i n new hfirst
        obtain ⟨hlen, xs0, hxs0, hxl0, hfc0⟩ := firstV_ok (P := P) hr rx hfirst
        obtain ⟨_, xs, hxs, hxl, hfc⟩ := firstV_ok (P := P) hr.drew rx hfirst
        -- the three endings
        have endRoom : ∀ {base : Option Addr} {sLen sCap : Nat} {w' : World}, cs = .slice base sLen sCap → sLen + n ≤ sCap →
            (stIf base (sLen * sz) xs0).run P w = .ok () w' →
            ∀ {ρ'}, Rel ρ' v (.slice base (sLen + n) sCap) → RelH ρ' H' w' → Ext ρ H w ρ' H' w' → StepTo ρ H w ((builtin .append ats ty bs #[cs, cx]).run P w) v H' := by
          intro base sLen sCap w' he hroom hst ρ' hv h3 h4
          subst he
          have := append_room (P := P) ht0 hu0 ht1 hu1 hd hszt ty hlen hfc0 hroom hst
          exact ⟨ρ', w', _, .inl (by simp only [builtin, Sem.run_bind, this]; rfl), hv, h3, h4⟩
        have endGrow : ∀ {base : Option Addr} {sLen sCap : Nat} {old : Array Value} {newCap : Nat} {ad : Addr} {w' : World}, cs = .slice base sLen sCap → ¬ sLen + n ≤ sCap → (sLen + n) * by' ≤ 140737488355328 → sLen + n ≤ 9223372036854775807 →
            (Builtin.firstCells sz sLen (.slice base sLen sCap)).run P { w with drawn := w.drawn + 1 } = .ok old { w with drawn := w.drawn + 1 } →
            (Question.appendCap (sLen + n) sCap e).cut (w.tape w.drawn (.appendCap (sLen + n) sCap e)) = newCap →
            (newRow e (old ++ xs.toArray ++ Builtin.zeroCells x0.cells (newCap - (sLen + n)))).run P { w with drawn := w.drawn + 1 } = .ok ad w' →
            ∀ {ρ'}, Rel ρ' v (.slice (some ad) (sLen + n) newCap) → RelH ρ' H' w' → Ext ρ H w ρ' H' w' → StepTo ρ H w ((builtin .append ats ty bs #[cs, cx]).run P w) v H' := by
          intro base sLen sCap old newCap ad w' he hroom hfit hint hold hcap hrow ρ' hv h3 h4
          subst he
          have := append_grow (P := P) ht0 hu0 ht1 hu1 hd hi hsz hby hz ty hlen hold hfc hroom hfit hint hcap hrow
          exact ⟨ρ', w', _, .inl (by simp only [builtin, Sem.run_bind, this]; rfl), hv, h3, h4⟩
        have hbytes : ∀ m : Nat, Nat.ble (m * by') 140737488355328 = true → m * by' ≤ 140737488355328 := fun m h => by
          have := Nat.le_of_ble_eq_true h; omega
        split at hs'
        · -- nil
          have ecs : cs = .slice none 0 0 := rs
          cases hn0 : Nat.beq n 0 <;> rw [hn0] at hs'
          · simp only [cond_false] at hs'
            cases hb : Nat.ble (n * by') 140737488355328 && Nat.ble n 4611686018427387904 <;> rw [hb] at hs'
            · exact nomatch hs'
            · simp only [cond_true, Option.some.injEq, Prod.mk.injEq] at hs'
              obtain ⟨rfl, rfl⟩ := hs'
              rw [Bool.and_eq_true] at hb
              have hne := beq_false hn0
              have hlt := Nat.le_of_ble_eq_true hb.2
              obtain ⟨ρ', w', hle, hrow, h3, h4, hv⟩ := grow_ok (P := P) (cc := 0) (e := e) hr (hzr ρ) hzl hxs hxl (i := i)
              refine endGrow (old := #[]) (ad := ⟨w.heap.size, 0, none⟩) ecs (by omega) (by rw [Nat.zero_add]; exact hbytes n hb.1) (by omega) rfl (by rw [Nat.zero_add]) ?_ (ρ' := ρ') ?_ h3 h4
              · rw [Nat.zero_add]; simpa using hrow
              · rw [Nat.zero_add]; exact hv
          · simp only [cond_true, Option.some.injEq, Prod.mk.injEq] at hs'
            obtain ⟨rfl, rfl⟩ := hs'
            have := beq_true hn0
            subst this
            exact endRoom ecs (Nat.le_refl _) rfl (ρ' := ρ) rfl hr (Ext.refl ρ H w)
        · -- a slice
          rename_i b o len cap z'
          obtain ⟨l, cc, off, hl, ecs, hcapo, hlc, hoff⟩ := rs.sl_inv
          cases hzz : Nat.beq z' sz <;> rw [hzz] at hs'
          · exact nomatch hs'
          · have hz' := beq_true hzz
            subst hz'
            simp only [Bool.not_true, cond_false] at hs'
            have hcn : cap.n ≤ cc := by cases cap <;> simp only [capOk, Cap.n] at * <;> omega
            cases hn0 : Nat.beq n 0 <;> rw [hn0] at hs'
            · have hne := beq_false hn0
              simp only [cond_false] at hs'
              cases hroom : Nat.ble (len + n) cap.n <;> rw [hroom] at hs'
              · -- no room that is known of
                simp only [cond_false] at hs'
                have hnr : ¬ len + n ≤ cap.n := fun h => by rw [Nat.ble_eq_true_of_le h] at hroom; exact nomatch hroom
                cases hb : Nat.ble ((len + n) * by') 140737488355328 && Nat.ble (len + n) 4611686018427387904 <;> rw [hb] at hs'
                · exact nomatch hs'
                · simp only [cond_true] at hs'
                  rw [Bool.and_eq_true] at hb
                  have hlt := Nat.le_of_ble_eq_true hb.2
                  split at hs'
                  · exact nomatch hs'
                  · rename_i m old hold
                    obtain ⟨hlo, ys0, hys0, hyl0, hfo0⟩ := firstV_ok (P := P) hr rs hold
                    obtain ⟨_, ys, hys, hyl, hfo⟩ := firstV_ok (P := P) hr.drew rs hold
                    have hm : m = len := by
                      rw [ecs] at hlo
                      simpa [Builtin.lenOf] using hlo.symm
                    subst hm
                    rw [ecs] at hfo
                    have hgrow : ¬ m + n ≤ cc → ∀ {H1 : Hp}, RelH ρ H1 w → Ext ρ H w ρ H1 w → H1.nx = H.nx → v = .sl H.nx 0 (m + n) (.lo (m + n)) z' → H' = H1.new (.cells (old ++ new) false) →
                        StepTo ρ H w ((builtin .append ats ty bs #[cs, cx]).run P w) v H' := by
                      intro hnc H1 hr1 hx1 hnx hvv hHH
                      subst hvv; subst hHH
                      obtain ⟨ρ', w', hle, hrow, h3, h4, hv⟩ := grow_ok (P := P) (cc := cc) (e := e) (need := m + n) hr1 (hzr ρ) hzl (hys.append hxs) (by rw [List.length_append, hyl, hxl, Nat.add_mul]) (i := i)
                      rw [hnx] at hv
                      refine endGrow ecs hnc (hbytes _ hb.1) (by omega) hfo rfl ?_ hv h3 (hx1.trans hr h4)
                      have : (ys ++ xs).toArray = ys.toArray ++ xs.toArray := by simp
                      rw [← this]; exact hrow
                    cases hex : cap.isEx <;> rw [hex] at hs'
                    · -- how much room there is isn't known
                      simp only [cond_false] at hs'
                      split at hs'
                      · rename_i all hg
                        cases hall : new.all V.oneCell <;> rw [hall] at hs'
                        · exact nomatch hs'
                        · simp only [cond_true, Option.some.injEq, Prod.mk.injEq] at hs'
                          obtain ⟨rfl, rfl⟩ := hs'
                          by_cases hnc : m + n ≤ cc
                          · obtain ⟨rfl, hfit⟩ := hoff.resolve_left (by omega)
                            have hmul : m * z' + n * z' ≤ cc * z' := by rw [← Nat.add_mul]; exact Nat.mul_le_mul_right _ hnc
                            obtain ⟨hro, arr, el, fz, pre, mid, post, g1, g2, g3, g4, g5, g6⟩ := hr.obj b _ l hg hl
                            obtain ⟨w', hst, h3, h4⟩ := take_over (P := P) (o := o) hr hg hl hys0 hxs0 hall (by
                              intro i x hx
                              refine ⟨arr, el, fz, g1, ?_⟩
                              have hil : i < ys0.length := by
                                rcases Nat.lt_or_ge i ys0.length with h | h
                                · exact h
                                · rw [List.getElem?_eq_none h] at hx; exact nomatch hx
                              -- the elements were read off the array
                              rw [ecs] at hfo0
                              have hbound : l.base + o + ys0.length ≤ arr.size := by omega
                              have hl2 := run_loads (P := P) w l.c (l.base + o) arr el fz g1 ((arr.toList.drop (l.base + o)).take ys0.length) (by
                                intro j v hj
                                have hjl : j < ys0.length := by
                                  rcases Nat.lt_or_ge j ys0.length with h | h
                                  · exact h
                                  · rw [List.getElem?_eq_none (by simp; omega)] at hj; exact nomatch hj
                                rw [List.getElem?_take_of_lt hjl, List.getElem?_drop, Array.getElem?_toList] at hj
                                exact hj)
                              have hlen2 : ((arr.toList.drop (l.base + o)).take ys0.length).length = ys0.length := by simp; omega
                              rw [hlen2] at hl2
                              simp only [Builtin.firstCells] at hfo0
                              rw [← hyl0, hl2] at hfo0
                              simp only [Result.ok.injEq, and_true] at hfo0
                              have heq : ys0 = (arr.toList.drop (l.base + o)).take ys0.length := by
                                have := congrArg Array.toList hfo0
                                simpa using this.symm
                              rw [heq] at hx
                              rw [List.getElem?_take_of_lt hil, List.getElem?_drop, Array.getElem?_toList] at hx
                              exact hx) (by omega)
                            refine endRoom ecs hnc ?_ (ρ' := ρ.add H.nx ⟨l.c, l.base + o, l.csz, false⟩) ?_ h3 h4
                            · rw [hyl0] at hst
                              simpa [stIf, add_none] using hst
                            · refine ⟨_, cc, l.base + o, Ren.add_same _ _ _, rfl, hnc, hnc, .inr ⟨rfl, ?_⟩⟩
                              simpa using hfit
                          · obtain ⟨h3, h4⟩ := relH_del hr hl
                            exact hgrow hnc h3 h4 rfl rfl rfl
                      · exact nomatch hs'
                    · -- there is none
                      simp only [cond_true, Option.some.injEq, Prod.mk.injEq] at hs'
                      obtain ⟨rfl, rfl⟩ := hs'
                      have hnc : ¬ m + n ≤ cc := by
                        cases cap with
                        | ex c => simp only [capOk] at hcapo; subst hcapo; exact hnr
                        | lo c => simp [Cap.isEx] at hex
                      exact hgrow hnc hr (Ext.refl ρ H w) rfl rfl rfl
              · -- there is room
                simp only [cond_true] at hs'
                have hroom' := Nat.le_of_ble_eq_true hroom
                obtain ⟨rfl, hfit⟩ := hoff.resolve_left (by omega)
                split at hs'
                · rename_i H1 hst
                  simp only [Option.some.injEq, Prod.mk.injEq] at hs'
                  obtain ⟨rfl, rfl⟩ := hs'
                  obtain ⟨w', hrun, h3, h4⟩ := storeAt_ok (P := P) hr hst hl hxs0
                  refine endRoom ecs (by omega) ?_ (ρ' := ρ) ?_ h3 h4
                  · simp only [stIf, add_none]
                    rw [Nat.add_assoc]; exact hrun
                  · exact ⟨l, cc, l.base + o, hl, rfl, hcapo, by omega, .inr ⟨rfl, hfit⟩⟩
                · exact nomatch hs'
            · simp only [cond_true, Option.some.injEq, Prod.mk.injEq] at hs'
              obtain ⟨rfl, rfl⟩ := hs'
              have := beq_true hn0
              subst this
              have hxs00 : xs0 = [] := List.length_eq_zero_iff.1 (by rw [hxl0]; simp)
              subst hxs00
              exact endRoom ecs (by omega) rfl (ρ' := ρ) ⟨l, cc, off, hl, rfl, hcapo, by omega, hoff⟩ hr (Ext.refl ρ H w)
        · exact nomatch hs'
    · exact nomatch hs'
  · -- append(s, make([]T, n)...)
    have hs' : sAppz sz by' z vs H = some (v, H') := hs
    unfold sAppz at hs'
    split at hs'
    · rename_i k1 n
      obtain ⟨cs, cx, ee, rs, rx⟩ := hrel.two
      have hargs := args_two ee
      subst hargs
      have ecs : cs = .slice none 0 0 := rs
      have ecx := rx.int_inv
      subst ecs; subst ecx
      have h0 : (#[Value.slice none 0 0, Value.int k1 ((n : Nat) : Int)] : Array Value)[0]? = some (.slice none 0 0) := rfl
      have h1 : (#[Value.slice none 0 0, Value.int k1 ((n : Nat) : Int)] : Array Value)[1]? = some (.int k1 ((n : Nat) : Int)) := rfl
      have hszr : ∀ w : World, (sizeOf e).run P w = .ok sz w := fun w => run_sizeOf' hszt w
      have hti : ∀ w : World, (typeInfo e).run P w = .ok i w := fun w => by simp [typeInfo, hi]
      cases hn0 : Nat.beq n 0 <;> rw [hn0] at hs'
      · have hne := beq_false hn0
        simp only [cond_false] at hs'
        cases hb : Nat.ble n 1073741824 && Nat.ble (n * by') 1099511627776 <;> rw [hb] at hs'
        · exact nomatch hs'
        · rw [Bool.and_eq_true] at hb
          have hb1 := Nat.le_of_ble_eq_true hb.1
          have hb2 := Nat.le_of_ble_eq_true hb.2
          simp only [cond_true, Option.some.injEq, Prod.mk.injEq] at hs'
          obtain ⟨rfl, rfl⟩ := hs'
          have hnew := zeroCells_rel (hzr ρ) n (by omega)
          have hx0s : x0.cells.size = sz := by have := (hzr ρ).length; simp at this; omega
          obtain ⟨ρ', w', hle, hrow, h3, h4, hv⟩ := grow_ok (P := P) (cc := 0) (e := e) (need := n) hr (hzr ρ) hzl hnew (by simp [Builtin.zeroCells, hx0s]) (i := i)
          refine ⟨ρ', w', _, .inl ?_, hv, h3, h4⟩
          have hwr : IntKind.i64.wrap (n : Int) = n := fitsN_wrap (k := .i64) (by simp [fitsN]; omega)
          have hq : (Question.appendCap n 0 e).forced = false := rfl
          have hgrow : Builtin.nextslicecap n 0 * i.bytes ≤ 281474976710656 := by rw [hby]; exact growslice_fits (by omega) (by omega)
          have hp : ¬ (Builtin.nextslicecap n 0 * i.bytes > 2 ^ 48) := by omega
          have hmax : ¬ (((n : Nat) : Int) > IntKind.i64.max) := by
            have : IntKind.i64.max = 9223372036854775807 := by decide
            rw [this]; omega
          have hneg : ¬ ((n : Int) < 0) := by omega
          have hfit : ¬ ((n : Int) * (i.bytes : Int) > 2 ^ 48) := by
            have : (n : Int) * (i.bytes : Int) = ((n * i.bytes : Nat) : Int) := by simp
            rw [this, hby]; omega
          have hmz : n * sz ≠ 0 := Nat.mul_ne_zero hne hpos
          have hroom : ¬ n ≤ 0 := by omega
          have hfc : ∀ w : World, (Builtin.firstCells sz 0 (.slice none 0 0)).run P w = .ok #[] w := fun w => rfl
          have hrow' : (newRow e (#[] ++ Builtin.zeroCells x0.cells n ++ Builtin.zeroCells x0.cells ((Question.appendCap n 0 e).cut (w.tape w.drawn (.appendCap n 0 e)) - n))).run P { w with drawn := w.drawn + 1 } = .ok ⟨w.heap.size, 0, none⟩ w' := by
            simpa using hrow
          have : (Builtin.append_ ats ty #[.slice none 0 0, .int k1 (Int.ofNat n)]).run P w = .ok (.slice (some ⟨w.heap.size, 0, none⟩) n ((Question.appendCap n 0 e).cut (w.tape w.drawn (.appendCap n 0 e)))) w' := by
            simp only [Builtin.append_, ht0, h0, h1, Sem.run_bind, run_under hu0, Result.andThen_ok, hszr, ht1, run_under hu1, Sem.run_pure, if_true, asInt, asIntOf, Int.ofNat_eq_natCast, hwr, hneg, if_false, hti, hfit, Int.toNat_natCast,
              Nat.zero_add, hroom, hmax, false_and, hp, run_choose, hq, Bool.false_eq_true, run_askRoom, hfc, Bool.not_true, hmz, run_zeroValue hi hz, hrow']
          simp only [builtin, Sem.run_bind, this]; rfl
      · simp only [cond_true, Option.some.injEq, Prod.mk.injEq] at hs'
        obtain ⟨rfl, rfl⟩ := hs'
        have := beq_true hn0
        subst this
        refine .pure (cv := .slice none 0 0) hr ?_ rfl
        have hwr : IntKind.i64.wrap ((0 : Nat) : Int) = 0 := by decide
        have hneg : ¬ ((0 : Int) < 0) := by omega
        have hfit : ¬ ((0 : Int) * (i.bytes : Int) > 2 ^ 48) := by omega
        have : (Builtin.append_ ats ty #[.slice none 0 0, .int k1 (Int.ofNat 0)]).run P w = .ok (.slice none 0 0) w := by
          simp only [Builtin.append_, ht0, h0, h1, Sem.run_bind, run_under hu0, Result.andThen_ok, hszr, ht1, run_under hu1, Sem.run_pure, if_true, asInt, asIntOf, Int.ofNat_eq_natCast, hwr, hneg, if_false, hti, hfit, Int.toNat_zero,
            Nat.zero_add, Nat.le_refl, Bool.not_true, Bool.false_eq_true, Nat.zero_mul]
        simp only [builtin, Sem.run_bind, this]; rfl
    · exact nomatch hs'

theorem sndB_copy : SoundB P .copy := by
  intro ats ty bs k vs args ρ H w v H' hk hrel hr hs
  simp only [trBuiltin] at hk
  split at hk <;> (try contradiction)
  rename_i e hu
  obtain ⟨t, ht, hu⟩ := ats_zero hu
  split at hk <;> (try contradiction)
  rename_i sz hsz
  cases hz : Nat.beq sz 0 <;> rw [hz] at hk <;> simp only [cond_true, cond_false, Option.some.injEq] at hk
  · subst hk
    have hpos := beq_false hz
    have hs' : sCpy sz vs H = some (v, H') := hs
    unfold sCpy at hs'
    split at hs' <;> (try contradiction)
    rename_i dv xv
    obtain ⟨cd, cx, ee, rd, rx⟩ := hrel.two
    have hargs := args_two ee
    subst hargs
    have h0 : (#[cd, cx] : Array Value)[0]? = some cd := rfl
    have h1 : (#[cd, cx] : Array Value)[1]? = some cx := rfl
    split at hs'
    · exact nomatch hs'
    · rename_i n new hfirst
      obtain ⟨hlen, xs, hxs, hxl, hfc⟩ := firstV_ok (P := P) hr rx hfirst
      -- fewer elements
      have hless : ∀ m, m ≤ n → (Builtin.firstCells sz m cx).run P w = .ok (xs.take (m * sz)).toArray w := by
        intro m hm
        unfold firstV at hfirst
        split at hfirst
        · simp only [Option.some.injEq, Prod.mk.injEq] at hfirst
          obtain ⟨rfl, rfl⟩ := hfirst
          have e1 : cx = .slice none 0 0 := rx
          have : xs = [] := hxs.nil_inv
          subst e1; subst this
          simp [Builtin.firstCells]
        · rename_i s
          cases hz1 : Nat.beq sz 1 <;> rw [hz1] at hfirst <;> simp only [cond_true, cond_false, Option.some.injEq, Prod.mk.injEq] at hfirst
          · exact nomatch hfirst
          · have hz1' := beq_true hz1
            subst hz1'
            obtain ⟨rfl, rfl⟩ := hfirst
            have ec := rx.str_inv
            subst ec
            have hxe : xs = s.map fun c => Value.int .u8 (.ofNat c.toNat) := by
              have : (⟨⟨s⟩⟩ : ByteArray).extract 0 s.length = ⟨⟨s⟩⟩ := by rw [extract_bytes]; simp
              simp only [Builtin.firstCells, this, Sem.run_pure, Result.ok.injEq, and_true] at hfc
              have := congrArg Array.toList hfc
              simpa using this.symm
            rw [hxe]
            simp [Builtin.firstCells, extract_bytes, List.map_take]
        · rename_i b o n' cap z
          cases hz1 : Nat.beq z sz <;> rw [hz1] at hfirst
          · exact nomatch hfirst
          · have hz1' := beq_true hz1
            subst hz1'
            simp only [cond_true] at hfirst
            obtain ⟨l, cc, off, hl, rfl, hcap, hlc, hoff⟩ := rx.sl_inv
            cases hn : Nat.beq n' 0 <;> rw [hn] at hfirst
            · simp only [cond_false] at hfirst
              split at hfirst
              · rename_i cs' hcs
                simp only [Option.some.injEq, Prod.mk.injEq] at hfirst
                obtain ⟨rfl, rfl⟩ := hfirst
                have hne := beq_false hn
                obtain ⟨rfl, hfit⟩ := hoff.resolve_left (by omega)
                -- the cells are the array's
                unfold cellsAt at hcs
                split at hcs
                · rename_i all ro hg
                  obtain ⟨_, arr, el, fz, pre, mid, post, g1, g2, g3, g4, g5, g6⟩ := hr.obj b _ l hg hl
                  have hmul : n' * z ≤ cc * z := Nat.mul_le_mul_right _ hlc
                  have hmm : m * z ≤ n' * z := Nat.mul_le_mul_right _ hm
                  have hasz : arr.toList.length = arr.size := by simp
                  have hld : ∀ q, q ≤ n' * z → (loadCells ⟨l.c, l.base + o, none⟩ q).run P w = .ok ((arr.toList.drop (l.base + o)).take q).toArray w := by
                    intro q hq
                    have := run_loads (P := P) w l.c (l.base + o) arr el fz g1 ((arr.toList.drop (l.base + o)).take q) (by
                      intro j v hj
                      have hjl : j < q := by
                        rcases Nat.lt_or_ge j q with h | h
                        · exact h
                        · rw [List.getElem?_eq_none (by simp; omega)] at hj; exact nomatch hj
                      rw [List.getElem?_take_of_lt hjl, List.getElem?_drop, Array.getElem?_toList] at hj
                      exact hj)
                    rwa [show ((arr.toList.drop (l.base + o)).take q).length = q by simp; omega] at this
                  have h2 := hld (n' * z) (Nat.le_refl _)
                  simp only [Builtin.firstCells] at hfc ⊢
                  rw [h2] at hfc
                  simp only [Result.ok.injEq, and_true] at hfc
                  have hxe : xs = (arr.toList.drop (l.base + o)).take (n' * z) := by
                    have := congrArg Array.toList hfc
                    simpa using this.symm
                  rw [hld (m * z) hmm, hxe, List.take_take, Nat.min_eq_left hmm]
                · exact nomatch hcs
              · exact nomatch hfirst
            · simp only [cond_true, Option.some.injEq, Prod.mk.injEq] at hfirst
              obtain ⟨rfl, rfl⟩ := hfirst
              have : xs = [] := hxs.nil_inv
              subst this
              have : m = 0 := by omega
              subst this
              simp [Builtin.firstCells, loadCells, loadCellsFrom]
        · exact nomatch hfirst
      split at hs'
      · simp only [Option.some.injEq, Prod.mk.injEq] at hs'
        obtain ⟨rfl, rfl⟩ := hs'
        have ed : cd = .slice none 0 0 := rd
        subst ed
        refine .pure (cv := goInt 0) hr ?_ rfl
        have hm0 : Nat.min n 0 = 0 := Nat.min_eq_right (Nat.zero_le _)
        have hf0 := hless 0 (Nat.zero_le _)
        simp only [builtin, Builtin.copy_, ht, h0, h1, Sem.run_bind, run_under hu, Result.andThen_ok, hlen, hm0, run_sizeOf' hsz, hf0, Sem.run_pure]
        rfl
      · rename_i b o len cap z'
        obtain ⟨l, cc, off, hl, ecs, hcapo, hlc, hoff⟩ := rd.sl_inv
        subst ecs
        cases hzz : Nat.beq z' sz <;> rw [hzz] at hs'
        · exact nomatch hs'
        · have hz' := beq_true hzz
          subst hz'
          simp only [Bool.not_true, cond_false] at hs'
          have hfm := hless (Nat.min n len) (Nat.min_le_left _ _)
          cases hm0 : Nat.beq (Nat.min n len) 0 <;> rw [hm0] at hs'
          · have hne := beq_false hm0
            simp only [cond_false] at hs'
            have hmin : Nat.min n len ≤ len := Nat.min_le_right _ _
            obtain ⟨rfl, hfit⟩ := hoff.resolve_left (by omega)
            split at hs'
            · rename_i H1 hst
              simp only [Option.some.injEq, Prod.mk.injEq] at hs'
              obtain ⟨rfl, rfl⟩ := hs'
              obtain ⟨w', hrun, h3, h4⟩ := storeAt_ok (P := P) hr hst hl (hxs.take (Nat.min n len * z'))
              refine ⟨ρ, w', goInt (Nat.min n len), .inl ?_, rfl, h3, h4⟩
              simp only [builtin, Builtin.copy_, ht, h0, h1, Sem.run_bind, run_under hu, Result.andThen_ok, hlen, run_sizeOf' hsz, hfm, hrun, Sem.run_pure]
            · exact nomatch hs'
          · simp only [cond_true, Option.some.injEq, Prod.mk.injEq] at hs'
            obtain ⟨rfl, rfl⟩ := hs'
            have hmz := beq_true hm0
            rw [hmz] at hfm
            refine .pure (cv := goInt 0) hr ?_ rfl
            have hst0 : ∀ a, (storeCells a (xs.take (0 * z')).toArray.toList).run P w = .ok () w := by intro a; simp [storeCells]
            simp only [builtin, Builtin.copy_, ht, h0, h1, Sem.run_bind, run_under hu, Result.andThen_ok, hlen, run_sizeOf' hsz, hmz, hfm, hst0, Sem.run_pure]
            rfl
      · exact nomatch hs'
  · exact nomatch hk

theorem sndB_clear : SoundB P .clear := by
  intro ats ty bs k vs args ρ H w v H' hk hrel hr hs
  simp only [trBuiltin] at hk
  split at hk <;> (try contradiction)
  · rename_i kt et hu
    obtain ⟨t, ht, hu⟩ := ats_zero hu
    simp only [Option.some.injEq] at hk; subst hk
    have hs' : sClrM vs H = some (v, H') := hs
    unfold sClrM at hs'
    split at hs' <;> (try contradiction)
    · simp only [Option.some.injEq, Prod.mk.injEq] at hs'
      obtain ⟨rfl, rfl⟩ := hs'
      obtain ⟨x, hx, r1⟩ := hrel.one
      have e1 : x = .map none := r1
      subst e1
      rw [args_one hx]
      refine .pure (cv := .tuple #[]) hr ?_ ⟨#[], rfl, RelL.nil⟩
      simp [builtin, Builtin.clear_, ht, run_under hu]
    · rename_i r
      obtain ⟨x, hx, r1⟩ := hrel.one
      obtain ⟨l, hl, rfl⟩ := r1.map_inv
      split at hs' <;> (try contradiction)
      rename_i es clk hg
      simp only [Option.some.injEq, Prod.mk.injEq] at hs'
      obtain ⟨rfl, rfl⟩ := hs'
      obtain ⟨hro, ces, g1, hE⟩ := hr.map_obj hg hl
      have hfin := lay_put hr hg hl hro g1 (o' := .map [] clk) (.map #[] clk) ⟨hro, #[], lay_get g1, rfl⟩
      rw [args_one hx]
      refine ⟨ρ, _, .tuple #[], .inl ?_, ⟨#[], rfl, RelL.nil⟩, hfin.1, hfin.2⟩
      simp [builtin, Builtin.clear_, ht, run_under hu, getObj_map g1, setObj_map g1]
  · rename_i e hu
    obtain ⟨t, ht, hu⟩ := ats_zero hu
    simp only [Option.map_eq_some_iff] at hk
    obtain ⟨z, hz, rfl⟩ := hk
    obtain ⟨i, x0, hi, hz0, hzr, _⟩ := zCells_rel hz
    have hs' : sClrS z vs H = some (v, H') := hs
    unfold sClrS at hs'
    split at hs' <;> (try contradiction)
    · simp only [Option.some.injEq, Prod.mk.injEq] at hs'
      obtain ⟨rfl, rfl⟩ := hs'
      obtain ⟨x, hx, r1⟩ := hrel.one
      have e1 : x = .slice none 0 0 := r1
      subst e1
      rw [args_one hx]
      refine .pure (cv := .tuple #[]) hr ?_ ⟨#[], rfl, RelL.nil⟩
      simp [builtin, Builtin.clear_, ht, run_under hu]
    · rename_i b o n cap sz
      obtain ⟨x, hx, r1⟩ := hrel.one
      obtain ⟨l, cc, off, hl, rfl, hcapo, hlc, hoff⟩ := r1.sl_inv
      rw [args_one hx]
      cases hn : Nat.beq n 0 <;> rw [hn] at hs'
      · have hne := beq_false hn
        simp only [cond_false] at hs'
        cases hzz : Nat.beq sz z.length <;> rw [hzz] at hs'
        · exact nomatch hs'
        · have hzl := beq_true hzz
          simp only [cond_true] at hs'
          obtain ⟨rfl, hfit⟩ := hoff.resolve_left (by omega)
          split at hs' <;> (try contradiction)
          rename_i H1 hst
          simp only [Option.some.injEq, Prod.mk.injEq] at hs'
          obtain ⟨rfl, rfl⟩ := hs'
          by_cases hz0l : z.length = 0
          · have hze : z = [] := List.length_eq_zero_iff.1 hz0l
            subst hze
            have hre : repl ([] : List V) n = [] := List.length_eq_zero_iff.1 (by rw [repl_length]; simp)
            rw [hre] at hst
            have hx0 : x0.cells = #[] := by
              have := (hzr ρ).nil_inv
              exact Array.ext' this
            obtain ⟨w', hrun, h3, h4⟩ := storeAt_ok (P := P) hr hst hl (RelL.nil (ρ := ρ))
            refine ⟨ρ, w', .tuple #[], .inl ?_, ⟨#[], rfl, RelL.nil⟩, h3, h4⟩
            have hzc : (Builtin.zeroCells x0.cells n).toList = [] := by simp [Builtin.zeroCells, hx0]
            obtain ⟨m, rfl⟩ : ∃ m, n = m + 1 := ⟨n - 1, by omega⟩
            simp [builtin, Builtin.clear_, ht, run_under hu, run_zeroValue hi hz0, hzc, hrun]
          · obtain ⟨w', hrun, h3, h4⟩ := storeAt_ok (P := P) hr hst hl (zeroCells_rel (hzr ρ) n (by omega))
            refine ⟨ρ, w', .tuple #[], .inl ?_, ⟨#[], rfl, RelL.nil⟩, h3, h4⟩
            obtain ⟨m, rfl⟩ : ∃ m, n = m + 1 := ⟨n - 1, by omega⟩
            simp [builtin, Builtin.clear_, ht, run_under hu, run_zeroValue hi hz0, hrun]
      · simp only [cond_true, Option.some.injEq, Prod.mk.injEq] at hs'
        obtain ⟨rfl, rfl⟩ := hs'
        have := beq_true hn
        subst this
        refine .pure (cv := .tuple #[]) hr ?_ ⟨#[], rfl, RelL.nil⟩
        simp [builtin, Builtin.clear_, ht, run_under hu]

end
end Go.Aev
