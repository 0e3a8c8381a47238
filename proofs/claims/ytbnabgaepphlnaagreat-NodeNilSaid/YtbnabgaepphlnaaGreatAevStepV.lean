/- The abstract interpreter: new blocks, loads and stores, lengths. -/
import Derived.Test.YtbnabgaepphlnaaGreatAevStepU
set_option linter.unusedVariables false
set_option linter.unusedSimpArgs false
namespace Go.Aev
open Go
section
variable {P : Program}

/-- A new row, all of whose cells are known. -/
theorem newRow_ok {ρ : Ren} {H : Hp} {w : World} (hr : RelH ρ H w) (cs : List V) (arr : Array Value) (el : TypeId) (h : RelL ρ cs arr.toList) :
    ∃ ρ' w', (newRow el arr).run P w = .ok ⟨w.heap.size, 0, none⟩ w' ∧ (∃ l, ρ' H.nx = some l ∧ l.c = w.heap.size ∧ l.base = 0 ∧ l.csz = arr.size) ∧
      RelH ρ' (H.new (.cells cs false)) w' ∧ Ext ρ H w ρ' (H.new (.cells cs false)) w' := by
  obtain ⟨h1, h2⟩ := new_cells hr cs arr.toList [] el h
  have e : (arr.toList ++ []).toArray = arr := by simp
  rw [e] at h1 h2
  exact ⟨_, _, by simp [newRow], ⟨_, by rw [Ren.add_same], rfl, rfl, by simp⟩, h1, h2⟩

theorem snd_alloc (t : TypeId) : Sound1 P (.alloc t) := by
  intro od k as fr ρ H w ρc v H' ho hk hf hr hs
  simp only [trOp, Option.map_eq_some_iff, Prod.mk.injEq] at hk
  obtain ⟨z, hz, rfl, rfl⟩ := hk
  obtain ⟨i, x, hi, hzx, hzr, _⟩ := zCells_rel hz
  have hs' : sAlloc z (evArgsF fr []) H = some (v, H') := hs
  simp only [evArgsF, sAlloc, Option.some.injEq, Prod.mk.injEq] at hs'
  obtain ⟨rfl, rfl⟩ := hs'
  obtain ⟨ρ', w', hrun, ⟨l, hl, hlc, hlb, _⟩, h3, h4⟩ := newRow_ok (P := P) hr z x.cells t (hzr ρ)
  refine ⟨ρ', w', .pointer (some ⟨w.heap.size, 0, none⟩), .inl ?_, ⟨l, hl, by rw [hlc, hlb]⟩, h3, h4⟩
  have : (Instr.alloc t true (.tuple #[])).run P w = .ok (.pointer (some ⟨w.heap.size, 0, none⟩)) w' := by
    simp only [Instr.alloc, Sem.run_bind, run_zeroValue hi hzx, Result.andThen_ok, newVar, hrun, Sem.run_pure]
  simp only [execOp, ho, Sem.run_bind, this]; rfl

theorem snd_box (t : TypeId) (x : Operand) : Sound1 P (.box t x) := by
  intro od k as fr ρ H w ρc v H' ho hk hf hr hs
  obtain ⟨a, h1, rfl, rfl⟩ := with1_some hk
  have hs' : sBox (evArgsF fr [a]) H = some (v, H') := hs
  simp only [evArgsF, sBox, Option.some.injEq, Prod.mk.injEq] at hs'
  obtain ⟨rfl, rfl⟩ := hs'
  obtain ⟨ρ', w', hrun, ⟨l, hl, hlc, hlb, _⟩, h3, h4⟩ := newRow_ok (P := P) hr _ (ρc x).cells t (hf x a h1).cells
  refine ⟨ρ', w', .pointer (some ⟨w.heap.size, 0, none⟩), .inl ?_, ⟨l, hl, by rw [hlc, hlb]⟩, h3, h4⟩
  have : (Instr.box t (ρc x)).run P w = .ok (.pointer (some ⟨w.heap.size, 0, none⟩)) w' := by
    simp only [Instr.box, Sem.run_bind, Result.andThen_ok, newVar, hrun, Sem.run_pure]
  simp only [execOp, ho, Sem.run_bind, this]; rfl

theorem repl_length (z : List V) : ∀ n, (repl z n).length = n * z.length
  | 0 => by simp [repl]
  | n + 1 => by simp [repl, repl_length z n, Nat.succ_mul]; omega

theorem repl_get (z : List V) : ∀ (n i : Nat), i < n * z.length → (repl z n)[i]? = z[i % z.length]?
  | 0, i, h => by simp at h
  | n + 1, i, h => by
    simp only [repl]
    rw [Nat.succ_mul] at h
    by_cases hi : i < z.length
    · rw [List.getElem?_append_left hi, Nat.mod_eq_of_lt hi]
    · rw [List.getElem?_append_right (by omega), repl_get z n _ (by omega)]
      congr 1
      rw [← Nat.sub_add_cancel (Nat.le_of_not_lt hi), Nat.add_sub_cancel, Nat.add_mod_right]

/-- Zero values, as many as there are elements. -/
theorem repl_rel {ρ : Ren} {z : List V} {zc : Array Value} (hz : RelL ρ z zc.toList) (n : Nat) (hp : 0 < z.length) :
    RelL ρ (repl z n) ((Array.range (n * z.length)).map fun i => zc[i % zc.size]!).toList := by
  have hl : zc.size = z.length := by have := hz.length; simpa using this
  refine RelL.of_get (by simp [repl_length]) fun i v hi => ?_
  have hlt : i < n * z.length := by
    rcases Nat.lt_or_ge i (n * z.length) with h | h
    · exact h
    · rw [List.getElem?_eq_none (by rw [repl_length]; exact h)] at hi; exact nomatch hi
  rw [repl_get z n i hlt] at hi
  obtain ⟨x, hx, hrel⟩ := hz.get hi
  refine ⟨x, ?_, hrel⟩
  rw [Array.getElem?_toList] at hx ⊢
  simp only [Array.getElem?_map, Array.getElem?_range, hlt, if_true, Option.map_some, Option.some.injEq, hl]
  rw [getElem!_def, hx]

theorem zeroCells_rel {ρ : Ren} {z : List V} {zc : Array Value} (hz : RelL ρ z zc.toList) (n : Nat) (hp : 0 < z.length) :
    RelL ρ (repl z n) (Builtin.zeroCells zc n).toList := by
  have hl : zc.size = z.length := by have := hz.length; simpa using this
  unfold Builtin.zeroCells
  rw [hl]
  have := repl_rel hz n hp
  rwa [hl] at this

theorem snd_buildSlice (t : TypeId) (len : Nat) (parts : Array (Nat × Operand)) : Sound1 P (.buildSlice t len parts) := by
  intro od k as fr ρ H w ρc v H' ho hk hf hr hs
  simp only [trOp] at hk
  split at hk
  · rename_i e hu
    split at hk
    · rename_i sz z hsz hz
      obtain ⟨i, x, hi, hzx, hzr, _⟩ := zCells_rel hz
      cases hb : Nat.ble (len * sz) 16777216 && !Nat.beq sz 0 && Nat.beq z.length sz <;> rw [hb] at hk
      · exact nomatch hk
      · simp only [Bool.and_eq_true, Bool.not_eq_true'] at hb
        obtain ⟨⟨hb1, hb2⟩, hb3⟩ := hb
        have hle := Nat.le_of_ble_eq_true hb1
        have hne := beq_false hb2
        have hzl := beq_true hb3
        simp only [cond_true] at hk
        split at hk
        · rename_i ps as' hp
          simp only [Option.some.injEq, Prod.mk.injEq] at hk
          obtain ⟨rfl, rfl⟩ := hk
          have hs' : sBsl sz len (repl z len) ps (evArgsF fr as') H = some (v, H') := hs
          unfold sBsl at hs'
          split at hs'
          · rename_i cs hcs
            simp only [Option.some.injEq, Prod.mk.injEq] at hs'
            obtain ⟨rfl, rfl⟩ := hs'
            have hz0 : RelL ρ (repl z len) ((Array.range (len * sz)).map fun i => x.cells[i % x.cells.size]!).toList := by
              have := repl_rel (hzr ρ) len (by omega)
              rwa [hzl] at this
            obtain ⟨cc, h3, h4⟩ := fill_ok hf hp hcs hz0
            obtain ⟨ρ', w', hrun, ⟨l, hl, hlc, hlb, hls⟩, h5, h6⟩ := newRow_ok (P := P) hr cs cc e h4
            have hcc : cc.size = len * sz := by
              have h7 := h4.length
              have h8 : cs.length = (repl z len).length := by
                clear h3 h4 h5 h6 hrun hl h7
                generalize evArgsF fr as' = vs at hcs
                have : ∀ (ps : List (Nat × Nat)) (vs z cs : List V), fillV z ps vs = some cs → cs.length = z.length := by
                  intro ps
                  induction ps with
                  | nil => intro vs z cs h; cases vs <;> simp [fillV] at h; rw [h]
                  | cons p ps ih =>
                    intro vs z cs h
                    cases vs with
                    | nil => simp [fillV] at h
                    | cons v vs =>
                      simp only [fillV] at h
                      cases hc : Nat.beq v.cells.length p.2 && Nat.ble (p.1 + p.2) z.length <;> rw [hc] at h
                      · exact nomatch h
                      · rw [Bool.and_eq_true] at hc
                        have h1 := beq_true hc.1
                        have h2 := Nat.le_of_ble_eq_true hc.2
                        rw [ih vs _ cs h, putAt_eq _ _ _ (by omega)]
                        simp; omega
                exact this ps vs _ cs hcs
              rw [repl_length, hzl] at h8
              simp only [Array.length_toList] at h7
              omega
            refine ⟨ρ', w', .slice (some ⟨w.heap.size, 0, none⟩) len len, .inl ?_, ⟨l, len, 0, hl, by rw [hlc], rfl, Nat.le_refl _, .inr ⟨by rw [hlb], by rw [hlb, hls, hcc]; omega⟩⟩, h5, h6⟩
            have hrunb : (Instr.buildSlice t len (parts.map fun p => (p.1, ρc p.2))).run P w = .ok (.slice (some ⟨w.heap.size, 0, none⟩) len len) w' := by
              by_cases h0 : len * sz = 0
              · have hl0 : len = 0 := by
                  rcases Nat.mul_eq_zero.1 h0 with h | h
                  · exact h
                  · omega
                subst hl0
                simp only [Nat.zero_mul] at h3
                have h0' : ¬ (0 > 2 ^ 24) := by omega
                simp only [Instr.buildSlice, Sem.run_bind, run_under hu, Result.andThen_ok, run_sizeOf' hsz, Nat.zero_mul, h0', if_false, if_true, Sem.run_pure, Array.toList_map]
                have e3 : (Array.range 0).map (fun i => (#[] : Array Value)[i % (#[] : Array Value).size]!) = (Array.range 0).map (fun i => x.cells[i % x.cells.size]!) := by simp
                rw [e3, h3]
                simp only [Sem.run_bind, hrun, Result.andThen_ok, Sem.run_pure]
              · have h0' : ¬ (len * sz > 2 ^ 24) := by omega
                simp only [Instr.buildSlice, Sem.run_bind, run_under hu, Result.andThen_ok, run_sizeOf' hsz, h0, h0', if_false, Sem.run_pure, run_zeroValue hi hzx, Array.toList_map, h3, hrun]
            simp only [execOp, ho, Sem.run_bind]
            rw [hrunb]; rfl
          · exact nomatch hs'
        · exact nomatch hk
    · exact nomatch hk
  · exact nomatch hk

theorem snd_load (t : TypeId) (x : Operand) : Sound1 P (.load t x) := by
  intro od k as fr ρ H w ρc v H' ho hk hf hr hs
  simp only [trOp] at hk
  split at hk
  · rename_i n ha hn
    obtain ⟨a, h1, rfl, rfl⟩ := with1_some hk
    obtain ⟨h2, rfl⟩ := readS_some (f := sLdA n) rfl hs
    have hx := hf x a h1
    simp only [evArgsF] at h2
    unfold sLdA at h2
    split at h2
    · rename_i b o he
      simp only [List.cons.injEq, and_true] at he
      rw [he] at hx
      obtain ⟨l, hl, e1⟩ := hx.ptr_inv
      split at h2
      · rename_i cs hcs
        simp only [Option.some.injEq] at h2; subst h2
        obtain ⟨xs, h3, h4, h5⟩ := cellsAt_ok (P := P) hr hcs hl
        refine .pure (cv := .agg xs.toArray) hr ?_ ⟨_, rfl, by simpa using h3⟩
        have : (Instr.loadAt t (ρc x)).run P w = .ok (.agg xs.toArray) w := by
          simp only [Instr.loadAt, Sem.run_bind, e1, Instr.sureAddr, Sem.run_pure, Result.andThen_ok, loadVar, run_isAgg ha, if_true, run_sizeOf' hn, h5]
        simp only [execOp, ho, Sem.run_bind, this]; rfl
      · exact nomatch h2
    · exact nomatch h2
  · rename_i n ha
    obtain ⟨a, h1, rfl, rfl⟩ := with1_some hk
    obtain ⟨h2, rfl⟩ := readS_some (f := sLd) rfl hs
    have hx := hf x a h1
    simp only [evArgsF] at h2
    unfold sLd at h2
    split at h2
    · rename_i b o he
      simp only [List.cons.injEq, and_true] at he
      rw [he] at hx
      obtain ⟨l, hl, e1⟩ := hx.ptr_inv
      split at h2
      · rename_i cs ro hg
        obtain ⟨_, arr, el, fz, pre, mid, post, g1, g2, g3, g4, g5, g6⟩ := hr.obj b _ l hg hl
        obtain ⟨cv, hc, hrel⟩ := g6.get h2
        have hlt : o < mid.length := by
          rcases Nat.lt_or_ge o mid.length with h | h
          · exact h
          · rw [List.getElem?_eq_none h] at hc; exact nomatch hc
        have hcell : w.cell? ⟨l.c, l.base + o, none⟩ = some cv := by
          rw [cell?_at g1, ← Array.getElem?_toList, g4, List.getElem?_append_right (by omega), List.getElem?_append_left (by omega)]
          rw [show l.base + o - pre.length = o by omega]; exact hc
        refine .pure (cv := cv) hr ?_ hrel
        have : (Instr.loadAt t (ρc x)).run P w = .ok cv w := by
          simp only [Instr.loadAt, Sem.run_bind, e1, Instr.sureAddr, Sem.run_pure, Result.andThen_ok, loadVar, run_isAgg ha, Bool.false_eq_true, if_false, run_load, hcell]
        simp only [execOp, ho, Sem.run_bind, this]; rfl
      · exact nomatch h2
    · exact nomatch h2
  · exact nomatch hk

theorem snd_store (t : TypeId) (a x : Operand) : Sound1 P (.store t a x) := by
  intro od k as fr ρ H w ρc v H' ho hk hf hr hs
  simp only [trOp] at hk
  split at hk
  · rename_i n hn
    obtain ⟨h1, rfl⟩ := withL_some hk
    have hrel := opds_rel hf h1
    have hs' : sSt n (evArgsF fr as) H = some (v, H') := hs
    unfold sSt at hs'
    split at hs'
    · rename_i b o u he
      rw [he] at hrel
      obtain ⟨c1, c2, ee, r1, r2⟩ := hrel.two
      simp only [List.map_cons, List.map_nil, List.cons.injEq, and_true] at ee
      obtain ⟨rfl, rfl⟩ := ee
      obtain ⟨l, hl, e1⟩ := r1.ptr_inv
      cases hb : Nat.beq u.cells.length n <;> rw [hb] at hs'
      · exact nomatch hs'
      · have hlen := beq_true hb
        simp only [cond_true] at hs'
        split at hs'
        · rename_i H1 hst
          simp only [Option.some.injEq, Prod.mk.injEq] at hs'
          obtain ⟨rfl, rfl⟩ := hs'
          obtain ⟨w', hrun, h3, h4⟩ := storeAt_ok (P := P) hr hst hl r2.cells
          refine ⟨ρ, w', undef, .inr ⟨?_, rfl⟩, ⟨#[], rfl, RelL.nil⟩, h3, h4⟩
          have hsz : (ρc x).cells.size = n := by
            have := r2.cells.length
            simp only [Array.length_toList] at this; omega
          have : (Instr.storeAt t (ρc a) (ρc x)).run P w = .ok () w' := by
            simp only [Instr.storeAt, Sem.run_bind, e1, Instr.sureAddr, Sem.run_pure, Result.andThen_ok, storeVar, run_sizeOf' hn, hsz, ne_eq, not_true_eq_false, if_false, hrun]
          simp only [execOp, ho, Sem.run_bind, this]; rfl
        · exact nomatch hs'
    · exact nomatch hs'
  · exact nomatch hk

theorem snd_makeMap (t : TypeId) : Sound1 P (.makeMap t none) := by
  intro od k as fr ρ H w ρc v H' ho hk hf hr hs
  simp only [trOp, Option.some.injEq, Prod.mk.injEq] at hk
  obtain ⟨rfl, rfl⟩ := hk
  have hs' : sMkm (evArgsF fr []) H = some (v, H') := hs
  simp only [evArgsF, sMkm, Option.some.injEq, Prod.mk.injEq] at hs'
  obtain ⟨rfl, rfl⟩ := hs'
  obtain ⟨h1, h2⟩ := new_ok hr (.map [] 0) (.map #[] 0) ⟨w.heap.size, 0, 0, false⟩ rfl ⟨rfl, #[], heap_alloc_new _ _, rfl⟩
  refine ⟨_, _, .map (some w.heap.size), .inl ?_, ⟨_, Ren.add_same _ _ _, rfl⟩, h1, h2⟩
  simp only [execOp, ho, Option.map_none, Instr.makeMap, Sem.run_bind, Sem.run_pure, Result.andThen_ok, run_newObj]
  rfl

theorem snd_makeSlice (t : TypeId) (l c : Operand) : Sound1 P (.makeSlice t l c) := by
  intro od k as fr ρ H w ρc v H' ho hk hf hr hs
  simp only [trOp] at hk
  split at hk
  · rename_i e hu
    split at hk
    · rename_i sz by' z hsz hby hz
      obtain ⟨i, x, hi, hzx, hzr, _⟩ := zCells_rel hz
      obtain ⟨i', hi', hbytes⟩ := tBytes_some hby
      rw [hi] at hi'; cases hi'
      cases hb : Nat.beq sz 0 || !Nat.beq z.length sz <;> rw [hb] at hk
      · simp only [Bool.or_eq_false_iff, Bool.not_eq_false'] at hb
        have hne := beq_false hb.1
        have hzl := beq_true hb.2
        obtain ⟨h1, rfl⟩ := withL_some hk
        have hrel := opds_rel hf h1
        have hs' : sMks sz by' z (evArgsF fr as) H = some (v, H') := hs
        unfold sMks at hs'
        split at hs'
        · rename_i k1 ll k2 cc he
          rw [he] at hrel
          obtain ⟨c1, c2, ee, r1, r2⟩ := hrel.two
          simp only [List.map_cons, List.map_nil, List.cons.injEq, and_true] at ee
          obtain ⟨rfl, rfl⟩ := ee
          have e1 := r1.int_inv
          have e2 := r2.int_inv
          cases hc : Nat.ble ll cc && Nat.ble (cc * by') 281474976710656 && Nat.blt cc 4611686018427387904 <;> rw [hc] at hs'
          · exact nomatch hs'
          · simp only [Bool.and_eq_true, Nat.blt_eq] at hc
            obtain ⟨⟨hc1, hc2⟩, hc3⟩ := hc
            have hlc := Nat.le_of_ble_eq_true hc1
            have hcb := Nat.le_of_ble_eq_true hc2
            simp only [cond_true, Option.some.injEq, Prod.mk.injEq] at hs'
            obtain ⟨rfl, rfl⟩ := hs'
            have hz0 : RelL ρ (repl z cc) ((Array.range (cc * sz)).map fun i => x.cells[i % x.cells.size]!).toList := by
              have := repl_rel (hzr ρ) cc (by omega)
              rwa [hzl] at this
            obtain ⟨ρ', w', hrun, ⟨lc, hl, hlc', hlb, hls⟩, h5, h6⟩ := newRow_ok (P := P) hr _ _ e hz0
            refine ⟨ρ', w', .slice (some ⟨w.heap.size, 0, none⟩) ll cc, .inl ?_, ⟨lc, cc, 0, hl, by rw [hlc'], rfl, hlc, .inr ⟨by rw [hlb], by rw [hlb, hls]; simp⟩⟩, h5, h6⟩
            have w1 : IntKind.i64.wrap (ll : Int) = ll := fitsN_wrap (k := .i64) (by simp [fitsN]; omega)
            have w2 : IntKind.i64.wrap (cc : Int) = cc := fitsN_wrap (k := .i64) (by simp [fitsN]; omega)
            have hn : cc * sz ≠ 0 ∨ cc = 0 := by
              by_cases h : cc = 0
              · exact .inr h
              · exact .inl (Nat.mul_ne_zero h hne)
            have : (Instr.makeSlice t (ρc l) (ρc c)).run P w = .ok (.slice (some ⟨w.heap.size, 0, none⟩) ll cc) w' := by
              have ht : ((decide ((cc : Int) < 0) || decide (i.bytes * (cc : Int) > 2 ^ 48)) || decide ((ll : Int) < 0) || decide ((ll : Int) > (cc : Int))) = false := by
                have : (i.bytes : Int) * (cc : Int) = ((cc * i.bytes : Nat) : Int) := by rw [Nat.mul_comm]; simp
                rw [this, hbytes]
                simp; omega
              have hty : (typeInfo e).run P w = .ok i w := by simp [typeInfo, hi]
              simp only [Instr.makeSlice, Sem.run_bind, run_under hu, Result.andThen_ok, e1, e2, asInt, asIntOf, Sem.run_pure, hty, Int.ofNat_eq_natCast, w1, w2]
              rw [ht]
              simp only [Bool.false_eq_true, if_false, Sem.run_bind, run_askRoom, Result.andThen_ok, Int.toNat_natCast, run_sizeOf' hsz]
              rcases hn with h | h
              · rw [if_neg h]
                simp only [Sem.run_bind, run_zeroValue hi hzx, Result.andThen_ok, Sem.run_pure, hrun]
              · subst h
                simp only [Nat.zero_mul] at hrun ⊢
                simp only [if_true, Sem.run_bind, Sem.run_pure, Result.andThen_ok]
                have e3 : (Array.range 0).map (fun i => (#[] : Array Value)[i % (#[] : Array Value).size]!) = (Array.range 0).map (fun i => x.cells[i % x.cells.size]!) := by simp
                rw [e3, hrun]
                rfl
            simp only [execOp, ho, Sem.run_bind, this]; rfl
        · exact nomatch hs'
      · exact nomatch hk
    · exact nomatch hk
  · exact nomatch hk

end
end Go.Aev
