/- The abstract interpreter: regions that draw their order are right. -/
import Derived.Test.YtbnabgaepphlnaaGreatAevDrawB
set_option linter.unusedVariables false
set_option linter.unusedSimpArgs false
namespace Go.Aev
open Go
variable {P : Program}

theorem getD_set {D : Array Bool} {j : Nat} (h : j < D.size) (i : Nat) : (D.setIfInBounds j true).getD i false = (D.getD i false || decide (i = j)) := by
  by_cases e : i = j
  · subst e; simp [h]
  · simp [e, Array.getElem?_setIfInBounds_ne (Ne.symm e)]

section
variable (C : DCtx P)
variable {D : Array Bool} {dn de : Nat} {pl : List (Nat × Nat)} {ds : List DOper} {s sF : St} {pd : List Pend} {r : Nat → V} {ρ : Ren} {a : Act} {w : World}

/-- The model does one that we have done. -/
theorem lag_done (hi : DInv C D dn de pl ds s pd r ρ a w) {j : Nat} {o : AOper} (ho : C.l[j]? = some o) (hdn : dn.testBit j = true) (hD : D.getD j false = false) (hM : ∀ y, C.M j y = true → D.getD y false = true)
    {ρ' : Ren} {w' : World} {cv : Value} (hv : Rel ρ' (r j) cv) (hle : ρ.le ρ') (hrh : RelH ρ' s.h w') (hext : Ext C.ρ0 C.H0 C.w0 ρ' s.h w')
    (hp : ∀ i o', i ≠ j → dn.testBit i = true → D.getD i false = false → C.l[i]? = some o' → o'.k.kd = .a → C.wt r i o' = true → ρ (r i).blk = none → ρ' (r i).blk = none) :
    DInv C (D.setIfInBounds j true) dn de pl ds s pd r ρ' (a.put o.dst cv) w' := by
  have hjl : j < C.l.length := hi.lt j hdn
  have hjD : j < D.size := by rw [hi.dsz, ← C.llen]; exact hjl
  have hD' := getD_set hjD
  obtain ⟨oo, hoo, htr⟩ := C.tr' ho
  obtain ⟨hk, hg, hdst, hdlt⟩ := trOper_some htr
  refine ⟨by simp [hi.dsz], fun i h => ?_, hi.lt, fun i h hDi o' ho' => ?_, fun i h y hy => ?_, hi.cln, fun i h => by rw [hD', hi.deD i h]; rfl, hi.ok, hi.hds, hi.fr, hi.has, fun t => ?_, ?_, hrh, hext, hi.sds, ?_, ?_⟩
  · rw [hD'] at h
    simp only [Bool.or_eq_true, decide_eq_true_eq] at h
    rcases h with h | rfl
    · exact hi.sub i h
    · exact hdn
  · rw [hD'] at hDi
    simp only [Bool.or_eq_false_iff, decide_eq_false_iff_not] at hDi
    obtain ⟨h1, h2⟩ := hi.lag i h hDi.1 o' ho'
    refine ⟨h1, ?_⟩
    cases h2 with
    | no hw hr => exact .no hw hr
    | p hw hk hs => exact .p hw hk hs
    | l hw hk hs f hf hp => exact .l hw hk hs f hf hp
    | a hw hk sh b ob hv' hs hg hn h0 hb =>
      refine .a hw hk sh b ob hv' hs hg ?_ h0 hb
      have := hp i o' hDi.2 h hDi.1 ho' hk hw (by rw [hv', Sh.blk_mk]; exact hn)
      rwa [hv', Sh.blk_mk] at this
  · rw [hD'] at h ⊢
    simp only [Bool.or_eq_true, decide_eq_true_eq] at h
    rcases h with h | rfl
    · rw [hi.cl i h y hy]; rfl
    · rw [hM y hy]; rfl
  · rw [cur_more C ho (T := fun i => D.getD i false) (r := r) hD hi.cl hM hD' (fun _ _ => rfl) t]
    cases hd : o.dst with
    | none => rw [if_neg (fun h => nomatch h)]; exact Rel.mono hle _ _ (hi.rel t)
    | some d =>
      have hdn : d < C.nt := hdlt d (hdst ▸ hd)
      rw [put_getD (Nat.lt_of_lt_of_le hdn hi.tsz)]
      by_cases e : d = t
      · subst e; simpa using hv
      · rw [if_neg e, if_neg (fun h => e (Option.some.inj h))]; exact Rel.mono hle _ _ (hi.rel t)
  · cases hd : o.dst with
    | none => exact hi.tsz
    | some d => simp only [Act.put, Array.size_setIfInBounds]; exact hi.tsz
  · rw [put_defers']; exact hi.adf
  · intro i i' o1 o2 a1 a2 a3 a4 a5 b1 b2 b3 b4 b5 hb
    rw [hD'] at a2 b2
    simp only [Bool.or_eq_false_iff] at a2 b2
    exact hi.inj i i' o1 o2 a1 a2.1 a3 a4 a5 b1 b2.1 b3 b4 b5 hb

theorem exec_lag {Q : Exit → Act → World → Prop} {K : Act → World → Prop} (hi : DInv C D dn de pl ds s pd r ρ a w) {j : Nat} (hj : j < C.ops.size) (hdn : dn.testBit j = true) (hD : D.getD j false = false)
    (hM : ∀ y, C.M j y = true → D.getD y false = true) (hK : ∀ ρ' a' w', DInv C (D.setIfInBounds j true) dn de pl ds s pd r ρ' a' w' → K a' w') : wpOp P C.ops Q j K a w := by
  have hoo : C.ops[j]? = some C.ops[j] := by simp [hj]
  obtain ⟨o, ho, htr⟩ := C.tr hoo
  obtain ⟨hk, hg, hdst, hdlt⟩ := trOper_some htr
  have hw : Region.wanted C.ops[j] (yielded C.ops a.tmps) = C.wt r j o := by
    rw [wanted_ok hg (ev := cur C.l r C.f0 (fun i => D.getD i false)) fun p _ => hi.rel p.1]
    exact wt_named C ho hM hD hi.cl r
  have hvs : evArgsF (cur C.l r C.f0 (fun i => D.getD i false)) o.args = C.vs r j o := vs_named C ho hM hD hi.cl r
  have hf := opd_rel (P := P) hi.rel
  obtain ⟨hE, hlag⟩ := hi.lag j hdn hD o ho
  have plain : isE o.k.kd = false → C.wt r j o = true → step o.k (C.vs r j o) s.h = some (r j, s.h) → wpOp P C.ops Q j K a w := fun hE hwt hst => by
    unfold wpOp
    rw [hoo]
    simp only [hw, hwt, if_true]
    refine .inl (oper_wp (v := r j) (H' := s.h) C.hcf hk ?_ ?_ hf hi.rh fun ρ' w' cv h1 h2 h3 => ?_)
    · intro e; rw [e] at hE; exact nomatch hE
    · rw [stepC_notE hE, hvs]; exact hst
    · rw [← hdst]
      refine hK ρ' _ _ (lag_done C hi ho hdn hD hM h1 h3.ren h2 (Ext.trans C.hr0 hi.ext h3) fun i o' hne a1 a2 a3 a4 a5 a6 => ?_)
      obtain ⟨_, hl⟩ := hi.lag i a1 a2 o' a3
      refine (h3.pend _ ?_ a6).1
      cases hl with
      | no hw _ => rw [hw] at a5; exact nomatch a5
      | p _ hk _ => rw [hk] at a4; exact nomatch a4
      | l _ hk _ _ _ _ => rw [hk] at a4; exact nomatch a4
      | a _ _ sh b ob hv _ _ _ _ hb => rw [hv, Sh.blk_mk]; exact hb
  cases hlag with
  | no hwt hr =>
    unfold wpOp
    rw [hoo]
    simp only [hw, hwt, Bool.false_eq_true, if_false]
    rw [← hdst]
    exact hK ρ _ _ (lag_done C hi ho hdn hD hM (by rw [hr]; exact undef_rel ρ) (Ren.le_refl ρ) hi.rh hi.ext fun _ _ _ _ _ _ _ _ h => h)
  | p hwt hkd hs => exact plain hE hwt (hs s.h)
  | l hwt hkd hs f hf' hp => exact plain hE hwt (read_step hkd hs)
  | a hwt hkd sh b ob hv hs hg' hn h0 hb =>
    unfold wpOp
    rw [hoo]
    simp only [hw, hwt, if_true]
    obtain ⟨l, w', cv, hrun, hrel, hrh, hfresh, hsz, hsame, hos, hout⟩ := pend_ok (od := C.ops[j]) hk hf hi.rh (by rw [hvs]; exact hs) hg' hb hn
    have hgoal : K (a.put C.ops[j].dst cv) w' := by
      rw [← hdst]
      refine hK (ρ.add b l) _ _ (lag_done C hi ho hdn hD hM (by rw [hv]; exact hrel) (Ren.le_add hn l) hrh ?_ fun i o' hne a1 a2 a3 a4 a5 a6 => ?_)
      · have he := hi.ext
        refine ⟨Ren.le_trans he.ren (Ren.le_add hn l), fun x hx hx0 => ?_, he.nx, he.dead, fun x lx hx0 hx1 => ?_, Nat.le_trans he.size hsz, fun c hc hnw => ?_, ⟨hos.trans he.os.1, hout.trans he.os.2⟩⟩
        · rw [Ren.add_ne l (by omega)]; exact he.pend x hx hx0
        · by_cases e : x = b
          · subst e
            rw [Ren.add_same] at hx1; cases hx1
            exact .inl (Nat.le_trans he.size hfresh)
          · rw [Ren.add_ne l e] at hx1; exact he.new x lx hx0 hx1
        · rw [hsame c (Nat.lt_of_lt_of_le hc he.size)]; exact he.same c hc hnw
      · rw [Ren.add_ne l, a6]
        intro e
        exact hne (hi.inj i j o' o a1 a2 a3 a4 a5 hdn hD ho hkd hwt (by rw [e, hv, Sh.blk_mk]))
    refine .inl ?_
    unfold Oper.wp
    rcases hrun with hrun | ⟨hrun, rfl⟩
    · rw [hrun]; exact hgoal
    · rw [hrun]; exact hgoal

/-- We and the model do one act. -/
theorem act_done {o : DOper} (hi : DInv C D dn de pl (o :: ds) s pd r ρ a w) (hE : isE o.o.k.kd = true) (hM : ∀ y, C.M o.ix y = true → D.getD y false = true)
    {v : V} {s' : St} {ρ' : Ren} {w' : World} {cv : Value} {pd' : List Pend} (hv : Rel ρ' v cv) (hrh : RelH ρ' s'.h w') (hext : Ext ρ s.h w ρ' s'.h w') (hfr : s'.fr = putF s.fr o.o.dst v) (hds : s'.ds = s.ds) (hpd : checkPend s'.h pd = some pd') :
    DInv C (D.setIfInBounds o.ix true) (dn ||| 2 ^ o.ix) (de ||| 2 ^ o.ix) ((pl.filter fun p => !Nat.beq p.2 0).map fun p => (p.1, p.2 - 1)) ds s' pd' (upd r o.ix v) ρ' (a.put o.o.dst cv) w' := by
  obtain ⟨k1, k2, k3, k4, k5⟩ := dOk_cons hi.ok
  obtain ⟨k6, k7⟩ : (∀ p ∈ pl, p.2 = 0 → (maskOf C.ms o.ix).testBit p.1 = true) ∧ dOk C.l.length C.ms ds (dn ||| 2 ^ o.ix) (de ||| 2 ^ o.ix) ((pl.filter fun p => !Nat.beq p.2 0).map fun p => (p.1, p.2 - 1)) = true := by
    rcases k5 with ⟨_, h1, h2⟩ | ⟨h, _⟩ | ⟨h, _⟩
    · exact ⟨h1, h2⟩
    · rw [hE] at h; exact nomatch h
    · rw [hE] at h; exact nomatch h
  have ho : C.l[o.ix]? = some o.o := hi.hds o (by simp)
  obtain ⟨oo, hoo, htr⟩ := C.tr' ho
  obtain ⟨hk, hg, hdst, hdlt⟩ := trOper_some htr
  have hjD : o.ix < D.size := by rw [hi.dsz, ← C.llen]; exact k2
  have hD' := getD_set hjD
  have hDj : D.getD o.ix false = false := by
    cases hD : D.getD o.ix false
    · rfl
    · rw [hi.sub _ hD] at k1; exact nomatch k1
  have hMi : ∀ i, dn.testBit i = true → C.M i o.ix = false := fun i h => by
    cases hm : C.M i o.ix
    · rfl
    · rw [hi.cln i h _ hm] at k1; exact nomatch k1
  have hne : ∀ i, dn.testBit i = true → i ≠ o.ix := fun i h e => by subst e; rw [h] at k1; exact nomatch k1
  have hrold : ∀ i, dn.testBit i = true → upd r o.ix v i = r i := fun i h => upd_ne v (hne i h)
  have hdn' : ∀ i, (dn ||| 2 ^ o.ix).testBit i = (dn.testBit i || decide (i = o.ix)) := fun i => by
    rw [bits_or]; congr 1; exact decide_eq_decide.2 eq_comm
  obtain ⟨hc1, hc2⟩ := checkPend_some hpd
  refine ⟨by simp [hi.dsz], fun i h => ?_, fun i h => ?_, fun i h hDi o' ho' => ?_, fun i h y hy => ?_, fun i h y hy => ?_, fun i h => ?_, k7, fun o' ho' => hi.hds o' (List.mem_cons_of_mem _ ho'), fun t => ?_, fun t ht => ?_, fun t => ?_, ?_,
    hrh, Ext.trans C.hr0 hi.ext hext, hds.trans hi.sds, ?_, ?_⟩
  · rw [hD'] at h
    rw [hdn']
    simp only [Bool.or_eq_true, decide_eq_true_eq] at h ⊢
    exact h.imp (hi.sub i) id
  · rw [hdn'] at h
    simp only [Bool.or_eq_true, decide_eq_true_eq] at h
    rcases h with h | rfl
    · exact hi.lt i h
    · exact k2
  · rw [hD'] at hDi
    simp only [Bool.or_eq_false_iff, decide_eq_false_iff_not] at hDi
    rw [hdn'] at h
    simp only [Bool.or_eq_true, decide_eq_true_eq, hDi.2, or_false] at h
    obtain ⟨h1, h2⟩ := hi.lag i h hDi.1 o' ho'
    refine ⟨h1, ?_⟩
    have e1 := vs_upd C (o := o') r v (hMi i h)
    have e2 := wt_upd C (o := o') r v (hMi i h)
    have e3 := hrold i h
    cases h2 with
    | no hw hr => exact .no (by rw [e2, hw]) (by rw [e3, hr])
    | p hw hk hs => exact .p (by rw [e2, hw]) hk (by rw [e1, e3]; exact hs)
    | l hw hk hs f hf hp =>
      have hf0 : f ≠ 0 := fun e => by
        have := k6 _ hf e
        rw [hM i this] at hDi
        exact nomatch hDi.1
      have hmem := hp hf0
      refine .l (by rw [e2, hw]) hk (by rw [e1, e3]; exact hc1 _ hmem) (f - 1) ?_ fun hf1 => ?_
      · refine List.mem_map.2 ⟨(i, f), List.mem_filter.2 ⟨hf, ?_⟩, rfl⟩
        cases hb : Nat.beq f 0
        · rfl
        · exact absurd (Nat.eq_of_beq_eq_true hb) hf0
      · have := hc2 _ hmem (f - 2) (show f = f - 2 + 2 by omega)
        rw [e1, e3]
        rwa [show f - 2 + 1 = f - 1 by omega] at this
    | a hw hk sh b ob hv' hs hg hn h0 hb =>
      obtain ⟨p1, p2⟩ := hext.pend b hb hn
      exact .a (by rw [e2, hw]) hk sh b ob (by rw [e3, hv']) (by rw [e1]; exact hs) (by rw [p2]; exact hg) p1 h0 (Nat.lt_of_lt_of_le hb hext.nx)
  · rw [hD'] at h ⊢
    simp only [Bool.or_eq_true, decide_eq_true_eq] at h
    rcases h with h | rfl
    · rw [hi.cl i h y hy]; rfl
    · rw [hM y hy]; rfl
  · rw [hdn'] at h
    rw [hdn']
    simp only [Bool.or_eq_true, decide_eq_true_eq] at h
    rcases h with h | rfl
    · rw [hi.cln i h y hy]; rfl
    · rw [k3 y hy]; rfl
  · rw [bits_or] at h
    rw [hD']
    simp only [Bool.or_eq_true, decide_eq_true_eq] at h ⊢
    exact h.imp (hi.deD i) fun e => e.symm
  · rw [cur_more C ho (T := fun i => dn.testBit i) (r := r) k1 hi.cln (fun y hy => k3 y hy) hdn' hrold t, upd_same, hfr]
    cases hd : o.o.dst with
    | none => simp only [putF]; rw [if_neg (fun h => nomatch h)]; exact hi.fr t
    | some d =>
      simp only [putF]
      rw [getF_set (hi.has d (hdlt d (hdst ▸ hd)))]
      by_cases e : d = t
      · subst e; simp
      · rw [if_neg e, if_neg (fun h => e (Option.some.inj h))]; exact hi.fr t
  · rw [hfr]
    cases o.o.dst with
    | none => exact hi.has t ht
    | some d => simp only [putF, Tr.has_set]; exact hi.has t ht
  · rw [cur_more C ho (T := fun i => D.getD i false) (r := r) hDj hi.cl hM hD' (fun i h => hrold i (hi.sub i h)) t, upd_same]
    cases hd : o.o.dst with
    | none => rw [if_neg (fun h => nomatch h)]; exact Rel.mono hext.ren _ _ (hi.rel t)
    | some d =>
      have hdn : d < C.nt := hdlt d (hdst ▸ hd)
      rw [put_getD (Nat.lt_of_lt_of_le hdn hi.tsz)]
      by_cases e : d = t
      · subst e; simpa using hv
      · rw [if_neg e, if_neg (fun h => e (Option.some.inj h))]; exact Rel.mono hext.ren _ _ (hi.rel t)
  · cases hd : o.o.dst with
    | none => exact hi.tsz
    | some d => simp only [Act.put, Array.size_setIfInBounds]; exact hi.tsz
  · rw [put_defers']; exact hi.adf
  · intro i i' o1 o2 a1 a2 a3 a4 a5 b1 b2 b3 b4 b5 hb
    rw [hD'] at a2 b2
    simp only [Bool.or_eq_false_iff, decide_eq_false_iff_not] at a2 b2
    rw [hdn'] at a1 b1
    simp only [Bool.or_eq_true, decide_eq_true_eq, a2.2, b2.2, or_false] at a1 b1
    rw [hrold i a1, hrold i' b1] at hb
    rw [wt_upd C r v (hMi i a1)] at a5
    rw [wt_upd C r v (hMi i' b1)] at b5
    exact hi.inj i i' o1 o2 a1 a2.1 a3 a4 a5 b1 b2.1 b3 b4 b5 hb

theorem exec_act {Q : Exit → Act → World → Prop} {K : Act → World → Prop} {o : DOper} (hi : DInv C D dn de pl (o :: ds) s pd r ρ a w) (hE : isE o.o.k.kd = true) (hev : evDOps C.cf (o :: ds) s pd = some sF)
    (hM : ∀ y, C.M o.ix y = true → D.getD y false = true)
    (hK : ∀ dn' de' pl' s' pd' r' ρ' a' w', DInv C (D.setIfInBounds o.ix true) dn' de' pl' ds s' pd' r' ρ' a' w' → evDOps C.cf ds s' pd' = some sF → K a' w') : wpOp P C.ops Q o.ix K a w := by
  obtain ⟨k1, k2, k3, k4, _⟩ := dOk_cons hi.ok
  have ho : C.l[o.ix]? = some o.o := hi.hds o (by simp)
  obtain ⟨oo, hoo, htr⟩ := C.tr' ho
  obtain ⟨hk, hg, hdst, hdlt⟩ := trOper_some htr
  have hDj : D.getD o.ix false = false := by
    cases hD : D.getD o.ix false
    · rfl
    · rw [hi.sub _ hD] at k1; exact nomatch k1
  have hnd : o.o.k ≠ .dfr := fun e => by
    have := List.all_eq_true.1 C.hnd o.o (List.mem_iff_getElem?.2 ⟨_, ho⟩)
    unfold notDfr at this
    rw [e] at this; exact nomatch this
  have hw : Region.wanted oo (yielded C.ops a.tmps) = C.wt r o.ix o.o := by
    rw [wanted_ok hg (ev := cur C.l r C.f0 (fun i => D.getD i false)) fun p _ => hi.rel p.1]
    exact wt_named C ho hM hDj hi.cl r
  have hfrf : getF s.fr = cur C.l r C.f0 (fun i => dn.testBit i) := funext hi.fr
  have hvs : evArgs s.fr o.o.args = C.vs r o.ix o.o := by
    rw [evArgs_eq, hfrf]; exact vs_named C ho (fun y hy => k3 y hy) k1 hi.cln r
  have hwt : wantedA s.fr o.o.g = C.wt r o.ix o.o := by
    rw [wantedA_eq, hfrf]; exact wt_named C ho (fun y hy => k3 y hy) k1 hi.cln r
  have hvs' : evArgsF (cur C.l r C.f0 (fun i => D.getD i false)) o.o.args = C.vs r o.ix o.o := vs_named C ho hM hDj hi.cl r
  simp only [evDOps] at hev
  split at hev
  · rename_i s' he
    rw [hE] at hev
    simp only [cond_true] at hev
    split at hev
    · rename_i pd' hpd
      unfold evOper at he
      rw [hwt] at he
      unfold wpOp
      rw [hoo]
      simp only [hw]
      cases hwt' : C.wt r o.ix o.o <;> rw [hwt'] at he
      · simp only [cond_false, Option.some.injEq] at he
        subst he
        simp only [Bool.false_eq_true, if_false]
        rw [← hdst]
        exact hK _ _ _ _ _ _ _ _ _ (act_done C hi hE hM (s' := putSt s o.o.dst V.undef) (v := V.undef) (undef_rel ρ) hi.rh (Ext.refl _ _ _) rfl rfl hpd) hev
      · simp only [cond_true] at he
        simp only [if_true]
        split at he
        · rename_i v h' hst
          rw [hvs] at hst
          simp only [Option.some.injEq] at he
          subst he
          refine .inl (oper_wp C.hcf hk hnd (by rw [hvs']; exact hst) (opd_rel hi.rel) hi.rh fun ρ' w' cv h1 h2 h3 => ?_)
          rw [← hdst]
          exact hK _ _ _ _ _ _ _ _ _ (act_done C hi hE hM (s' := ⟨putF s.fr o.o.dst v, h', s.ds⟩) h1 h2 h3 rfl rfl hpd) hev
        · exact nomatch he
    · exact nomatch hev
  · exact nomatch hev

/-- We go on to the next act. -/
theorem advance : ∀ {ds : List DOper} {dn : Nat} {pl : List (Nat × Nat)} {s : St} {pd : List Pend} {r : Nat → V}, DInv C D dn de pl ds s pd r ρ a w → evDOps C.cf ds s pd = some sF →
    ∃ dn' pl' ds' s' pd' r', DInv C D dn' de pl' ds' s' pd' r' ρ a w ∧ evDOps C.cf ds' s' pd' = some sF ∧ (ds' = [] ∨ ∃ o os, ds' = o :: os ∧ isE o.o.k.kd = true)
  | [], dn, pl, s, pd, r, hi, hev => ⟨dn, pl, [], s, pd, r, hi, hev, .inl rfl⟩
  | o :: os, dn, pl, s, pd, r, hi, hev => by
    cases hE : isE o.o.k.kd
    · obtain ⟨dn', pl', s', pd', r', hi', hev'⟩ := advance_one C hi hE hev
      exact advance hi' hev'
    · exact ⟨dn, pl, o :: os, s, pd, r, hi, hev, .inr ⟨o, os, rfl, hE⟩⟩

def unl (D : Nat → Bool) : Nat → Nat
  | 0 => 0
  | n + 1 => (if D n = true then 0 else 1) + unl D n

theorem unl_congr {D D' : Nat → Bool} : ∀ {n : Nat}, (∀ i, i < n → D i = D' i) → unl D n = unl D' n
  | 0, _ => rfl
  | n + 1, h => by simp only [unl, h n (Nat.lt_succ_self _), unl_congr fun i hi => h i (Nat.lt_succ_of_lt hi)]

theorem unl_less {D D' : Nat → Bool} {j : Nat} (h : ∀ i, D' i = (D i || decide (i = j))) (hj : D j = false) : ∀ {n : Nat}, j < n → unl D' n + 1 = unl D n
  | 0, hn => absurd hn (Nat.not_lt_zero _)
  | n + 1, hn => by
    simp only [unl]
    by_cases e : j = n
    · subst e
      have : unl D' j = unl D j := unl_congr fun i hi => by rw [h]; simp [show i ≠ j by omega]
      rw [h, hj, this]; simp; omega
    · have hlt : j < n := by omega
      have ih := unl_less h hj hlt
      rw [h n]
      simp only [show ¬ n = j from fun e' => e e'.symm, decide_false, Bool.or_false]
      omega

theorem unl_zero {D : Nat → Bool} : ∀ {n : Nat}, unl D n = 0 → ∀ i, i < n → D i = true
  | 0, _, i, hi => absurd hi (Nat.not_lt_zero _)
  | n + 1, h, i, hi => by
    simp only [unl] at h
    by_cases e : i = n
    · subst e
      by_cases hD : D i = true
      · exact hD
      · simp [hD] at h
    · have h0 : unl D n = 0 := by omega
      exact unl_zero h0 i (by omega)

theorem getD_true {D : Array Bool} {j : Nat} (h : D.getD j true = false) : j < D.size ∧ D.getD j false = false := by
  rcases Nat.lt_or_ge j D.size with h' | h'
  · refine ⟨h', ?_⟩
    simpa [h'] using h
  · simp [Array.getElem?_eq_none h'] at h

/-- What holds when nothing is ready. -/
theorem all_done {Q : Exit → Act → World → Prop} (hi : DInv C D dn de pl ds s pd r ρ a w) (hev : evDOps C.cf ds s pd = some sF) (hall : ∀ i, i < C.ops.size → D.getD i false = true)
    (hQ : ∀ ρ a w, FrOk C.nt ρ sF.fr a → RelH ρ sF.h w → sF.ds = C.ds0 → a.defers = C.d0 → Ext C.ρ0 C.H0 C.w0 ρ sF.h w → Q .normal a w) : Q .normal a w := by
  have hlen := C.llen
  have hds : ds = [] := by
    cases ds with
    | nil => rfl
    | cons o os =>
      obtain ⟨k1, k2, _⟩ := dOk_cons hi.ok
      rw [hi.sub _ (hall o.ix (by omega))] at k1
      exact nomatch k1
  subst hds
  simp only [evDOps, Option.some.injEq] at hev
  subst hev
  refine hQ ρ a w ⟨hi.tsz, hi.has, fun t => ?_⟩ hi.rh hi.sds hi.adf hi.ext
  rw [hi.fr]
  have : cur C.l r C.f0 (fun i => dn.testBit i) t = cur C.l r C.f0 (fun i => D.getD i false) t := cur_congr fun i hd => ⟨by
    have h1 := hall i (by have := dstOf_lt hd; omega)
    rw [h1, hi.sub i h1], fun _ => rfl⟩
  rw [this]; exact hi.rel t

theorem draw_any {Q : Exit → Act → World → Prop} (hQ : ∀ ρ a w, FrOk C.nt ρ sF.fr a → RelH ρ sF.h w → sF.ds = C.ds0 → a.defers = C.d0 → Ext C.ρ0 C.H0 C.w0 ρ sF.h w → Q .normal a w) :
    ∀ (fuel : Nat) {D : Array Bool} {dn de : Nat} {pl : List (Nat × Nat)} {ds : List DOper} {s : St} {pd : List Pend} {r : Nat → V} {ρ : Ren} {a : Act} {w : World}, DInv C D dn de pl ds s pd r ρ a w → evDOps C.cf ds s pd = some sF →
      unl (fun i => D.getD i false) C.ops.size ≤ fuel → wpAny P .any C.ops Q fuel D a w
  | 0, D, dn, de, pl, ds, s, pd, r, ρ, a, w, hi, hev, hu => by
    have hall := unl_zero (D := fun i => D.getD i false) (Nat.le_zero.1 hu)
    refine ⟨?_, all_done C hi hev hall hQ⟩
    cases hrd : Region.ready .any C.ops D with
    | nil => rfl
    | cons j js =>
      have hm : j ∈ Region.ready .any C.ops D := by rw [hrd]; simp
      obtain ⟨h1, _⟩ := mem_ready.1 hm
      obtain ⟨h2, h3⟩ := getD_true h1
      rw [hi.dsz] at h2
      have h4 : D.getD j false = true := hall j h2
      rw [h4] at h3; exact nomatch h3
  | fuel + 1, D, dn, de, pl, ds, s, pd, r, ρ, a, w, hi, hev, hu => by
    have ih := fun {D dn de pl ds s pd r ρ a w} => draw_any hQ fuel (D := D) (dn := dn) (de := de) (pl := pl) (ds := ds) (s := s) (pd := pd) (r := r) (ρ := ρ) (a := a) (w := w)
    refine ⟨fun hnil => all_done C hi hev ?_ hQ, fun j hj => ?_⟩
    · intro i
      induction i using Nat.strongRecOn with
      | ind i ihi =>
        intro hin
        cases hD : D.getD i false
        · exfalso
          have ho : C.ops[i]? = some C.ops[i] := by simp [hin]
          have : i ∈ Region.ready .any C.ops D := mem_ready.2 ⟨by
            have : i < D.size := by rw [hi.dsz]; exact hin
            simpa [this] using hD, C.ops[i], ho, fun e he hb => by
              have hlt := edge_lt C.hms (j := i) (o := C.ops[i]) (by simp [hin]) e he hb
              exact ihi e.on hlt (by omega)⟩
          rw [hnil] at this
          exact nomatch this
        · rfl
    · obtain ⟨h1, oo, hoo, hall⟩ := mem_ready.1 hj
      obtain ⟨h2, h3⟩ := getD_true h1
      have hjn : j < C.ops.size := by rw [← hi.dsz]; exact h2
      have hM : ∀ y, C.M j y = true → D.getD y false = true := fun y hy => mask_listed C.hms (j := j) (o := oo) (by simpa using hoo) (D := fun i => D.getD i false) hi.cl hall hy
      have hless : unl (fun i => (D.setIfInBounds j true).getD i false) C.ops.size ≤ fuel := by
        have := unl_less (D := fun i => D.getD i false) (D' := fun i => (D.setIfInBounds j true).getD i false) (getD_set h2) h3 hjn
        omega
      obtain ⟨dn', pl', ds', s', pd', r', hi', hev', hb⟩ := advance C hi hev
      cases hdj : dn'.testBit j
      · -- it is the next act
        have hlen := C.llen
        rcases dOk_all hi'.ok j (by omega) with h | ⟨oj, hoj, hij⟩
        · rw [hdj] at h; exact nomatch h
        · rcases hb with rfl | ⟨o, os, rfl, hE⟩
          · simp at hoj
          · rcases List.mem_cons.1 hoj with rfl | hoj
            · subst hij
              exact exec_act C hi' hE hev' hM fun _ _ _ _ _ _ _ _ _ hi'' hev'' => ih hi'' hev'' hless
            · exfalso
              obtain ⟨k1, k2, k3, k4, k5⟩ := dOk_cons hi'.ok
              rcases k5 with ⟨_, _, k6⟩ | ⟨h, _⟩ | ⟨h, _⟩
              · have hb := dOk_de k6 oj hoj o.ix (by rw [bits_or]; simp)
                rw [hij] at hb
                have := hi'.sub _ (hM o.ix hb)
                rw [k1] at this; exact nomatch this
              · rw [hE] at h; exact nomatch h
              · rw [hE] at h; exact nomatch h
      · exact exec_lag C hi' hjn hdj h3 hM fun ρ' a' w' hi'' => ih hi'' hev' hless
end
end Go.Aev
