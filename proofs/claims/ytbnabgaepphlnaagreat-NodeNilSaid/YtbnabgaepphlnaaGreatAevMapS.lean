/- The abstract interpreter: the operations on maps. -/
import Derived.Test.YtbnabgaepphlnaaGreatAevMap
set_option linter.unusedVariables false
set_option linter.unusedSimpArgs false
namespace Go.Aev
open Go
section
variable {P : Program}

theorem Rel.map_inv {ρ : Ren} {r : Nat} {x : Value} (h : Rel ρ (.map r) x) : ∃ l, ρ r = some l ∧ x = .map (some l.c) := h

theorem lay_put {ρ : Ren} {H : Hp} {w : World} (hr : RelH ρ H w) {b : Nat} {o o' : O} {l : Loc} {ob : Obj} (hg : H.get b = some o) (hl : ρ b = some l) (hro : l.ro = false) (hh : w.heap[l.c]? = some ob) (ob' : Obj)
    (ho : ORel ρ o' l (World.lay w l.c ob')) : RelH ρ (H.put b o') (World.lay w l.c ob') ∧ Ext ρ H w ρ (H.put b o') (World.lay w l.c ob') :=
  put_ok hr hg hl hro _ (lay_size _ _ _) (fun d hd => lay_other hd) ⟨rfl, rfl⟩ ho

theorem snd_lookup (t : TypeId) (m k : Operand) (ok : Bool) : Sound1 P (.lookup t m k ok) := by
  intro od kk as fr ρ H w ρc v H' ho hk hf hr hs
  simp only [trOp] at hk
  split at hk
  · rename_i kt et hu
    split at hk
    · rename_i e z he hz
      obtain ⟨i, x, hi, hzx, hzr⟩ := zVal_rel hz
      obtain ⟨h1, rfl⟩ := withL_some hk
      obtain ⟨h2, rfl⟩ := readS_some (f := sLk e z ok) rfl hs
      have hrel := opds_rel hf h1
      unfold sLk at h2
      split at h2
      · rename_i mv kv hev
        rw [hev] at hrel
        obtain ⟨c1, c2, ee, r1, r2⟩ := hrel.two
        simp only [List.map_cons, List.map_nil, List.cons.injEq, and_true] at ee
        obtain ⟨rfl, rfl⟩ := ee
        cases hko : keyOk e kv <;> rw [hko] at h2
        · exact nomatch h2
        · simp only [cond_true] at h2
          split at h2
          · rename_i es hes'
            -- what the search comes to, over the model's entries
            have key : ∀ ces : Array MapEntry, RelE ρ es ces.toList → ∃ r, (Instr.findKey kt (ρc k) ces.toList).run P w = .ok r w ∧
                ((∃ i cv, r = some (i, cv) ∧ Rel ρ v (if ok then .tuple #[cv, .bool true] else cv)) ∨ (r = none ∧ Rel ρ v (if ok then .tuple #[x, .bool false] else x))) := by
              intro ces hE
              split at h2
              · rename_i j hj
                have hfk := findKey_ok (P := P) he r2 w hE hj
                split at h2
                · rename_i k' v' b' hget
                  simp only [Option.some.injEq] at h2; subst h2
                  obtain ⟨en, hen, _, hv, _⟩ := hE.get hget
                  refine ⟨_, hfk, .inl ⟨j, en.val, by simp only [hit, Nat.sub_zero, hen, Option.map_some], ?_⟩⟩
                  cases ok
                  · exact hv
                  · exact ⟨_, rfl, RelL.cons hv (RelL.cons rfl RelL.nil)⟩
                · exact nomatch h2
              · rename_i hj
                have hfk := findKey_ok (P := P) he r2 w hE hj
                simp only [Option.some.injEq] at h2; subst h2
                refine ⟨_, hfk, .inr ⟨rfl, ?_⟩⟩
                cases ok
                · exact hzr ρ
                · exact ⟨_, rfl, RelL.cons (hzr ρ) (RelL.cons rfl RelL.nil)⟩
              · exact nomatch h2
            cases mv <;> simp only [entsV, Option.some.injEq] at hes' <;> (try contradiction)
            case nilm =>
              subst hes'
              have e1 : ρc m = .map none := r1
              obtain ⟨r, hrun, hres⟩ := key #[] rfl
              have hck1 := checkKey_ok (P := P) (#[] : Array MapEntry).isEmpty 50 kt e he 10000 (by omega) ρ kv (ρc k) w r2 (keyOk_some hko)
              rcases hres with ⟨i', cv, rfl, hv⟩ | ⟨rfl, hv⟩
              · refine .pure hr ?_ hv
                have : (Instr.lookup t (ρc m) (ρc k) ok).run P w = .ok (if ok then .tuple #[cv, .bool true] else cv) w := by
                  simp only [Instr.lookup, Sem.run_bind, run_under hu, Result.andThen_ok, e1, Sem.run_pure, hck1, hrun]
                simp only [execOp, ho, Sem.run_bind, this]; rfl
              · refine .pure hr ?_ hv
                have : (Instr.lookup t (ρc m) (ρc k) ok).run P w = .ok (if ok then .tuple #[x, .bool false] else x) w := by
                  simp only [Instr.lookup, Sem.run_bind, run_under hu, Result.andThen_ok, e1, Sem.run_pure, hck1, hrun, run_zeroValue hi hzx]
                simp only [execOp, ho, Sem.run_bind, this]; rfl
            case map r =>
              obtain ⟨l, hl, e1⟩ := r1.map_inv
              split at hes'
              · rename_i es' clk hg
                simp only [Option.some.injEq] at hes'; subst hes'
                obtain ⟨_, ces, g1, g2⟩ := hr.map_obj hg hl
                obtain ⟨r, hrun, hres⟩ := key ces g2
                have hck1 := checkKey_ok (P := P) ces.isEmpty 50 kt e he 10000 (by omega) ρ kv (ρc k) w r2 (keyOk_some hko)
                rcases hres with ⟨i', cv, rfl, hv⟩ | ⟨rfl, hv⟩
                · refine .pure hr ?_ hv
                  have : (Instr.lookup t (ρc m) (ρc k) ok).run P w = .ok (if ok then .tuple #[cv, .bool true] else cv) w := by
                    simp only [Instr.lookup, Sem.run_bind, run_under hu, Result.andThen_ok, e1, getObj_map (P := P) g1, Sem.run_pure, hck1, hrun]
                  simp only [execOp, ho, Sem.run_bind, this]; rfl
                · refine .pure hr ?_ hv
                  have : (Instr.lookup t (ρc m) (ρc k) ok).run P w = .ok (if ok then .tuple #[x, .bool false] else x) w := by
                    simp only [Instr.lookup, Sem.run_bind, run_under hu, Result.andThen_ok, e1, getObj_map (P := P) g1, Sem.run_pure, hck1, hrun, run_zeroValue hi hzx]
                  simp only [execOp, ho, Sem.run_bind, this]; rfl
              · exact nomatch hes'
          · exact nomatch h2
      · exact nomatch h2
    · exact nomatch hk
  · exact nomatch hk

theorem keyThatStays_ok {a b : Value} (h : a = b) (w : World) : ∃ w', (w' = w ∨ w' = { w with drawn := w.drawn + 1 }) ∧ (Instr.keyThatStays a b).run P w = .ok b w' := by
  subst h
  simp only [Instr.keyThatStays]
  split
  · exact ⟨w, .inl rfl, rfl⟩
  · refine ⟨_, .inr rfl, ?_⟩
    simp only [Sem.run_bind, run_choose]
    have : (Question.extern "map.whichKeyStays" 2).forced = false := rfl
    rw [this]
    simp

theorem mapUpdate_ok {t kt et : TypeId} {e : EqT} (hu : P.underlying t = some (.map kt et)) (he : trEq P 50 kt = some e) {vs : List V} {cm ck cv : Value} {ρ : Ren} {H H' : Hp} {w : World} {v : V} (hr : RelH ρ H w)
    (hrel : RelL ρ vs [cm, ck, cv]) (hs : sMu e vs H = some (v, H')) : v = V.undef ∧ ∃ w', (Instr.mapUpdate t cm ck cv).run P w = .ok () w' ∧ RelH ρ H' w' ∧ Ext ρ H w ρ H' w' := by
  unfold sMu at hs
  split at hs
  · rename_i r kv vv
    obtain ⟨c1, c2, c3, ee, r1, r2, r3⟩ := hrel.three
    simp only [List.cons.injEq, and_true] at ee
    obtain ⟨rfl, rfl, rfl⟩ := ee
    cases hko : keyOk e kv <;> rw [hko] at hs
    · exact nomatch hs
    · simp only [cond_true] at hs
      obtain ⟨l, hl, rfl⟩ := r1.map_inv
      have hck1 := checkKey_ok (P := P) false 50 kt e he 10000 (by omega) ρ kv ck w r2 (keyOk_some hko)
      split at hs
      · rename_i es clk hg
        obtain ⟨hro, ces, g1, hE⟩ := hr.map_obj hg hl
        split at hs
        · rename_i i hj
          have hfk := findKey_ok (P := P) he r2 w hE hj
          split at hs
          · rename_i k' v' s hget
            cases hb : simpleV kv && V.beq k' kv <;> rw [hb] at hs
            · exact nomatch hs
            · rw [Bool.and_eq_true] at hb
              have hkk := V.beq_eq _ _ hb.2
              subst hkk
              simp only [cond_true, Option.some.injEq, Prod.mk.injEq] at hs
              obtain ⟨rfl, rfl⟩ := hs
              refine ⟨rfl, ?_⟩
              obtain ⟨en, hen, hke, hve, hbe⟩ := hE.get hget
              have hsame := simpleV_fun hb.1 hke r2
              have hen' : ces[i]? = some en := by rw [← Array.getElem?_toList]; exact hen
              have hold : ((ces[i]?).map (·.key)).getD ck = ck := by rw [hen']; exact hsame
              obtain ⟨w1, hw1, hkt⟩ := keyThatStays_ok (P := P) hold w
              have g1' : w1.heap[l.c]? = some (.map ces clk) := by rcases hw1 with rfl | rfl <;> exact g1
              have hr1 : RelH ρ H w1 := by
                rcases hw1 with rfl | rfl
                · exact hr
                · exact hr.drew
              have hx1 : Ext ρ H w ρ H w1 := by
                rcases hw1 with rfl | rfl
                · exact Ext.refl ρ H _
                · exact Ext.drew ρ H w
              have hfin := lay_put hr1 hg hl hro g1' (o' := .map (es.set i (k', vv, s)) clk) (.map (ces.modify i fun e => { e with key := ck, val := cv }) clk) (by
                refine ⟨hro, _, lay_get g1', ?_⟩
                have hilt : i < ces.size := (Array.getElem?_eq_some_iff.1 hen').1
                have hev : ces[i] = en := (Array.getElem?_eq_some_iff.1 hen').2
                have : (ces.modify i fun e => { e with key := ck, val := cv }).toList = ces.toList.set i { en with key := ck, val := cv } := by
                  apply List.ext_getElem?
                  intro j
                  rw [Array.getElem?_toList, Array.getElem?_modify, List.getElem?_set, Array.getElem?_toList, Array.length_toList]
                  by_cases hij : i = j
                  · subst hij; simp [hilt, hev]
                  · simp [hij]
                rw [this, ← hbe]
                exact hE.set i (e := { en with key := ck, val := cv }) r2 r3)
              refine ⟨_, ?_, hfin.1, hx1.trans hr hfin.2⟩
              simp only [Instr.mapUpdate, Sem.run_bind, run_under hu, Result.andThen_ok, getObj_map g1, hck1, hfk, hit, Nat.sub_zero, hen, Option.map_some, hkt, setObj_map g1']
          · exact nomatch hs
        · rename_i hj
          have hfk := findKey_ok (P := P) he r2 w hE hj
          simp only [Option.some.injEq, Prod.mk.injEq] at hs
          obtain ⟨rfl, rfl⟩ := hs
          refine ⟨rfl, ?_⟩
          have hfin := lay_put hr hg hl hro g1 (o' := .map (es ++ [(kv, vv, clk)]) (clk + 1)) (.map (ces.push { key := ck, val := cv, born := clk }) (clk + 1)) (by
            refine ⟨hro, _, lay_get g1, ?_⟩
            rw [Array.toList_push]
            exact hE.snoc (e := { key := ck, val := cv, born := clk }) r2 r3)
          refine ⟨_, ?_, hfin.1, hfin.2⟩
          simp only [Instr.mapUpdate, Sem.run_bind, run_under hu, Result.andThen_ok, getObj_map g1, hck1, hfk, hit, setObj_map g1]
        · exact nomatch hs
      · exact nomatch hs
  · exact nomatch hs

theorem snd_mapUpdate (t : TypeId) (m k x : Operand) : Sound1 P (.mapUpdate t m k x) := by
  intro od kk as fr ρ H w ρc v H' ho hk hf hr hs
  simp only [trOp] at hk
  split at hk
  · rename_i kt et hu
    simp only [Option.bind_eq_some_iff] at hk
    obtain ⟨e, he, hk⟩ := hk
    obtain ⟨h1, rfl⟩ := withL_some hk
    have hrel := opds_rel hf h1
    obtain ⟨rfl, w', hrun, h3, h4⟩ := mapUpdate_ok (P := P) hu he hr hrel (hs : sMu e (evArgsF fr as) H = some (v, H'))
    exact ⟨ρ, w', undef, .inr ⟨by simp only [execOp, ho, Sem.run_bind, hrun]; rfl, rfl⟩, ⟨#[], rfl, RelL.nil⟩, h3, h4⟩
  · exact nomatch hk

theorem snd_insert (t : TypeId) (m k x : Operand) : Sound1 P (.insert t m k x) := by
  intro od kk as fr ρ H w ρc v H' ho hk hf hr hs
  simp only [trOp] at hk
  split at hk
  · rename_i kt et hu
    simp only [Option.bind_eq_some_iff] at hk
    obtain ⟨e, he, hk⟩ := hk
    obtain ⟨h1, rfl⟩ := withL_some hk
    have hrel := opds_rel hf h1
    obtain ⟨rfl, w', hrun, h3, h4⟩ := mapUpdate_ok (P := P) hu he hr hrel (hs : sMu e (evArgsF fr as) H = some (v, H'))
    exact ⟨ρ, w', undef, .inr ⟨by simp only [execOp, ho, Sem.run_bind, hrun]; rfl, rfl⟩, ⟨#[], rfl, RelL.nil⟩, h3, h4⟩
  · exact nomatch hk

theorem snd_range (t : TypeId) (x : Operand) : Sound1 P (.range t x) := by
  intro od k as fr ρ H w ρc v H' ho hk hf hr hs
  simp only [trOp] at hk
  split at hk
  · rename_i kt et hu
    obtain ⟨a, h1, rfl, rfl⟩ := with1_some hk
    have hx := hf x a h1
    have hs' : sRg (evArgsF fr [a]) H = some (v, H') := hs
    simp only [evArgsF] at hs'
    unfold sRg at hs'
    split at hs'
    · rename_i he
      simp only [List.cons.injEq, and_true] at he
      rw [he] at hx
      have e1 : ρc x = .map none := hx
      simp only [Option.some.injEq, Prod.mk.injEq] at hs'
      obtain ⟨rfl, rfl⟩ := hs'
      obtain ⟨h3, h4⟩ := new_ok hr (.iter none 0 [] 0) (.mapIter none 0 #[] 0) ⟨w.heap.size, 0, 0, false⟩ rfl ⟨rfl, rfl, none, heap_alloc_new _ _, rfl⟩
      refine ⟨_, _, .pointer (some ⟨w.heap.size, 0, none⟩), .inl ?_, ⟨_, Ren.add_same _ _ _, rfl⟩, h3, h4⟩
      simp only [execOp, ho, Instr.range, Sem.run_bind, run_under hu, Result.andThen_ok, e1, Sem.run_pure, run_newObj]
      rfl
    · rename_i m he
      simp only [List.cons.injEq, and_true] at he
      rw [he] at hx
      obtain ⟨l, hl, e1⟩ := hx.map_inv
      split at hs'
      · rename_i es clk hg
        obtain ⟨hro, ces, g1, hE⟩ := hr.map_obj hg hl
        simp only [Option.some.injEq, Prod.mk.injEq] at hs'
        obtain ⟨rfl, rfl⟩ := hs'
        obtain ⟨h3, h4⟩ := new_ok hr (.iter (some m) clk [] clk) (.mapIter (some l.c) clk #[] clk) ⟨w.heap.size, 0, 0, false⟩ rfl ⟨rfl, rfl, some l.c, heap_alloc_new _ _, l, hl, rfl⟩
        refine ⟨_, _, .pointer (some ⟨w.heap.size, 0, none⟩), .inl ?_, ⟨_, Ren.add_same _ _ _, rfl⟩, h3, h4⟩
        simp only [execOp, ho, Instr.range, Sem.run_bind, run_under hu, Result.andThen_ok, e1, getObj_map g1, Sem.run_pure, run_newObj]
        rfl
      · exact nomatch hs'
    · exact nomatch hs'
  · exact nomatch hk

/-- which entries of a map are left to a range. -/
theorem relE_filter {ρ : Ren} (f : Nat → Bool) : ∀ {es : List (V × V × Nat)} {l : List MapEntry}, RelE ρ es l → RelE ρ (es.filter fun e => f e.2.2) (l.filter fun e => f e.born)
  | [], _, h => by rw [show _ = [] from h]; rfl
  | (k, v, b) :: es, _, ⟨e, r, he, h1, h2, h3, h4⟩ => by
    subst he
    simp only [List.filter_cons, h3]
    cases f b
    · exact relE_filter f h4
    · exact ⟨e, _, rfl, h1, h2, h3, relE_filter f h4⟩
theorem relE_all {ρ : Ren} (f : Nat → Bool) : ∀ {es : List (V × V × Nat)} {l : List MapEntry}, RelE ρ es l → l.all (fun e => f e.born) = es.all fun e => f e.2.2
  | [], _, h => by rw [show _ = [] from h]; rfl
  | (k, v, b) :: es, _, ⟨e, r, he, h1, h2, h3, h4⟩ => by
    subst he
    simp only [List.all_cons, h3, relE_all f h4]

theorem snd_next (x : Operand) : Sound1 P (.next x false) := by
  intro od k as fr ρ H w ρc v H' ho hk hf hr hs
  obtain ⟨a, h1, rfl, rfl⟩ := with1_some hk
  have hx := hf x a h1
  have hs' : sNx (evArgsF fr [a]) H = some (v, H') := hs
  simp only [evArgsF] at hs'
  unfold sNx at hs'
  split at hs'
  · rename_i b he
    simp only [List.cons.injEq, and_true] at he
    rw [he] at hx
    obtain ⟨l, hl, e1⟩ := hx.ptr_inv
    split at hs'
    · -- nothing is ranged over
      rename_i since seen stepped hg
      simp only [Option.some.injEq, Prod.mk.injEq] at hs'
      obtain ⟨rfl, rfl⟩ := hs'
      obtain ⟨hro, hb0, cm, g1, hcm⟩ := hr.obj b _ l hg hl
      simp only at hcm; subst hcm
      refine .pure (cv := .tuple #[.bool false]) hr ?_ ⟨_, rfl, RelL.cons rfl RelL.nil⟩
      rw [hb0] at e1
      simp only [execOp, ho, Instr.next, e1, Sem.run_bind, getObj_iter g1, Result.andThen_ok, Nat.zero_add]
      rfl
    · rename_i m since seen last hg
      obtain ⟨hro, hb0, cm, g1, lm, hlm, rfl⟩ := hr.obj b _ l hg hl
      rw [hb0] at e1
      split at hs'
      · rename_i es clk hgm
        obtain ⟨_, ces, g2, hE⟩ := hr.map_obj hgm hlm
        cases hbar : !seen.isEmpty && !es.isEmpty && es.all (fun e => Nat.ble last e.2.2) <;> rw [hbar] at hs'
        · simp only [cond_false] at hs'
          have hbar' : (!seen.toArray.isEmpty && !ces.isEmpty && ces.all (fun e => decide (e.born ≥ last))) = false := by
            have q1 : seen.toArray.isEmpty = seen.isEmpty := by simp
            have q2 : ces.isEmpty = es.isEmpty := by
              have := hE.length
              simp only [Array.length_toList] at this
              cases es with
              | nil => simpa using this
              | cons _ _ => simp at this ⊢; intro h; subst h; simp at this
            have q3 : ces.all (fun e => decide (e.born ≥ last)) = es.all (fun e => Nat.ble last e.2.2) := by
              have := relE_all (fun b => Nat.ble last b) hE
              rw [← this, ← Array.all_toList]
              congr 1
              funext e
              rw [Bool.eq_iff_iff]; simp
            rw [q1, q2, q3]; exact hbar
          have hleft := relE_filter (fun b => !seen.contains b) hE
          have hlarr : (ces.filter fun e => !seen.toArray.contains e.born).toList = ces.toList.filter fun e => !seen.contains e.born := by
            rw [Array.toList_filter]
            congr 1
            funext e
            simp
          split at hs'
          · -- nothing is left
            rename_i hnil
            simp only [Option.some.injEq, Prod.mk.injEq] at hs'
            obtain ⟨rfl, rfl⟩ := hs'
            rw [hnil] at hleft
            have hl0 : (ces.filter fun e => !seen.toArray.contains e.born) = #[] := by
              apply Array.ext'
              rw [hlarr]; exact hleft
            refine .pure (cv := .tuple #[.bool false]) hr ?_ ⟨_, rfl, RelL.cons rfl RelL.nil⟩
            simp only [execOp, ho, Instr.next, e1, Sem.run_bind, getObj_iter g1, Result.andThen_ok, Nat.zero_add, getObj_map g2, hbar', Bool.false_eq_true, if_false, hl0]
            simp [choose, Sem.run, Question.forced]
          · -- one is left
            rename_i kv vv s hone
            cases hlt : Nat.blt s since <;> rw [hlt] at hs'
            · exact nomatch hs'
            · simp only [cond_true, Option.some.injEq, Prod.mk.injEq] at hs'
              obtain ⟨rfl, rfl⟩ := hs'
              rw [hone] at hleft
              obtain ⟨e, r, he', h2, h3, h4, h5⟩ := hleft
              have hr0 : r = [] := h5
              subst hr0
              have hl1 : (ces.filter fun e => !seen.toArray.contains e.born) = #[e] := by
                apply Array.ext'
                rw [hlarr, he']
              have hs1 : e.born < since := by rw [h4]; simpa using hlt
              have hs2 : ¬ e.born ≥ since := by omega
              have hfin := lay_put hr hg hl hro g1 (o' := .iter (some m) since (seen ++ [s]) clk) (.mapIter (some lm.c) since (seen.toArray.push e.born) clk) (by
                refine ⟨hro, hb0, some lm.c, ?_, lm, hlm, rfl⟩
                rw [lay_get g1, h4]
                simp)
              refine ⟨ρ, _, .tuple #[.bool true, e.key, e.val], .inl ?_, ⟨_, rfl, RelL.cons rfl (RelL.cons h2 (RelL.cons h3 RelL.nil))⟩, hfin.1, hfin.2⟩
              simp only [execOp, ho, Instr.next, e1, Sem.run_bind, getObj_iter g1, Result.andThen_ok, Nat.zero_add, getObj_map g2, hbar', Bool.false_eq_true, if_false, hl1]
              have f1 : (#[e] : Array MapEntry).filter (fun x => decide (x.born < since)) = #[e] := by simp [hs1]
              have f2 : (#[e] : Array MapEntry).filter (fun x => decide (x.born ≥ since)) = #[] := by simp [hs1]
              rw [f1, f2]
              have hch : (choose (.mapNext 1)).run P w = .ok 0 w := by simp [choose, Sem.run, Question.forced]
              simp [hch, setObj_iter g1]
          · exact nomatch hs'
        · exact nomatch hs'
      · exact nomatch hs'
    · exact nomatch hs'
  · exact nomatch hs'

theorem snd_entry (x : Operand) : Sound1 P (.entry x) := by
  intro od k as fr ρ H w ρc v H' ho hk hf hr hs
  obtain ⟨a, h1, rfl, rfl⟩ := with1_some hk
  obtain ⟨h2, rfl⟩ := readS_some (f := sEn) rfl hs
  have hx := hf x a h1
  simp only [evArgsF] at h2
  unfold sEn at h2
  split at h2
  · rename_i b he
    simp only [List.cons.injEq, and_true] at he
    rw [he] at hx
    obtain ⟨l, hl, e1⟩ := hx.ptr_inv
    split at h2
    · rename_i m since seen stepped hg
      obtain ⟨hro, hb0, cm, g1, lm, hlm, rfl⟩ := hr.obj b _ l hg hl
      rw [hb0] at e1
      split at h2
      · rename_i s hlast
        split at h2
        · rename_i es clk hgm
          obtain ⟨_, ces, g2, hE⟩ := hr.map_obj hgm hlm
          cases hck : Nat.beq clk stepped <;> rw [hck] at h2
          · exact nomatch h2
          · have := beq_true hck
            subst this
            simp only [cond_true] at h2
            split at h2
            · rename_i kv vv s' hfind
              simp only [Option.some.injEq] at h2; subst h2
              have key : ∀ {es : List (V × V × Nat)} {l : List MapEntry}, RelE ρ es l → es.find? (fun e => Nat.beq e.2.2 s) = some (kv, vv, s') →
                  ∃ e, l.find? (fun e => e.born == s) = some e ∧ Rel ρ kv e.key ∧ Rel ρ vv e.val := by
                intro es
                induction es with
                | nil => intro l h hh; simp at hh
                | cons p es ih =>
                  intro l h hh
                  obtain ⟨k0, v0, b0⟩ := p
                  obtain ⟨e, r, rfl, q1, q2, q3, q4⟩ := h
                  simp only [List.find?_cons] at hh ⊢
                  cases hq : Nat.beq b0 s <;> rw [hq] at hh
                  · have : (e.born == s) = false := by rw [q3]; exact beq_eq_false_iff_ne.2 (beq_false hq)
                    rw [this]; exact ih q4 hh
                  · have : (e.born == s) = true := by rw [q3]; exact beq_iff_eq.2 (beq_true hq)
                    simp only [Option.some.injEq, Prod.mk.injEq] at hh
                    obtain ⟨rfl, rfl, rfl⟩ := hh
                    rw [this]; exact ⟨e, rfl, q1, q2⟩
              obtain ⟨e, hfe, q1, q2⟩ := key hE hfind
              refine .pure (cv := .tuple #[e.key, e.val]) hr ?_ ⟨_, rfl, RelL.cons q1 (RelL.cons q2 RelL.nil)⟩
              have hbk : seen.toArray.back? = some s := by simp [hlast]
              have hfa : ces.find? (fun e => e.born == s) = some e := by rw [← Array.find?_toList]; exact hfe
              simp only [execOp, ho, Instr.entry, e1, Sem.run_bind, getObj_iter g1, Result.andThen_ok, Nat.zero_add, hbk, getObj_map g2, bne_self_eq_false, Bool.false_eq_true, if_false, hfa]
              rfl
            · exact nomatch h2
        · exact nomatch h2
      · exact nomatch h2
    · exact nomatch h2
  · exact nomatch h2

end
end Go.Aev
