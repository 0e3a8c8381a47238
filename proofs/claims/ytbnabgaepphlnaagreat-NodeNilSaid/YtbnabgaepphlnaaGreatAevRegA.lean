/- The abstract interpreter: the regions that keep their order. -/
import Derived.Test.YtbnabgaepphlnaaGreatAevOper
set_option linter.unusedVariables false
set_option linter.unusedSimpArgs false
namespace Go.Aev
open Go
variable {P : Program}

theorem trOper_some {nt : Nat} {ops : Array Oper} {o : Oper} {ao : AOper} (h : trOper P nt ops o = some ao) :
    trOp P o.op = some (ao.k, ao.args) ∧ trGuard ops o.guard = some ao.g ∧ ao.dst = o.dst ∧ ∀ x, o.dst = some x → x < nt := by
  unfold trOper at h
  split at h
  · rename_i k as g h1 h2
    have hb : ∀ b : Bool, (bif b then some (⟨o.dst, k, as, g⟩ : AOper) else none) = some ao → b = true ∧ ao = ⟨o.dst, k, as, g⟩ := fun b h => by
      cases b <;> simp at h; exact ⟨rfl, h.symm⟩
    obtain ⟨h3, rfl⟩ := hb _ h
    refine ⟨h1, h2, rfl, fun x hx => ?_⟩
    rw [hx] at h3
    simp only [Nat.blt_eq] at h3
    exact h3
  · exact nomatch h

/-- A `defer`. -/
theorem defer_run {o : Oper} {as : List AOpd} {ev : Nat → V} {ρ : Ren} {a : Act} {f : Nat} {first caps args : List V} (hk : trOp P o.op = some (.dfr, as)) (hv : evArgsF ev as = .fn f first caps :: args)
    (hf : ∀ x ax, trOpd P x = some ax → Rel ρ (evOpdF ev ax) (a.eval x)) (w : World) :
    ∃ cap cas, (execOp a.eval o).run P w = .ok (.defer { target := .fn (.func f) cap, args := cas }) w ∧ RelL ρ (first ++ (args ++ caps)) (cas ++ cap).toList := by
  by_cases hdf : ∃ c, o.op = .defer c
  · obtain ⟨c, ho⟩ := hdf
    rw [ho] at hk
    simp only [trOp] at hk
    cases hcal : c.callee with
    | value x =>
      rw [hcal] at hk
      obtain ⟨h1, _⟩ := withL_some hk
      have hrel := opds_rel hf h1
      rw [hv] at hrel
      obtain ⟨cx, cr, e, r1, r2⟩ := hrel.cons_inv
      simp only [List.map_cons, List.cons.injEq] at e
      obtain ⟨e1, e2⟩ := e
      subst e1; subst e2
      obtain ⟨ca, cc, e3, r3, r4⟩ := fnVal_rel r1
      refine ⟨cc, ca ++ c.args.map a.eval, by simp only [execOp, ho, resolve, hcal, e3, Deferred.ofValue, Sem.run_bind, Sem.run_pure, Result.andThen_ok], ?_⟩
      simp only [Array.toList_append, Array.toList_map, List.append_assoc]
      exact r3.append (r2.append r4)
    | builtin b => rw [hcal] at hk; exact nomatch hk
    | invoke r n => rw [hcal] at hk; exact nomatch hk
  · exfalso
    have hb : ∀ {b : Builtin} {ats : Array TypeId}, trBuiltin P b ats = some .dfr → False := fun {b ats} h => by
      have hcond : ∀ (c : Bool) (k1 : OpK), (bif c then none else some k1) = some OpK.dfr → OpK.dfr = k1 := fun c k1 h => by cases c <;> simp at h; exact h.symm
      have hcond' : ∀ (c : Bool) (k1 : OpK), (bif c then some k1 else none) = some OpK.dfr → OpK.dfr = k1 := fun c k1 h => by cases c <;> simp at h; exact h.symm
      cases b <;> simp only [trBuiltin] at h <;> (try contradiction) <;> (repeat' split at h) <;> (try contradiction)
      all_goals first
        | (simp at h; done)
        | (obtain ⟨_, _, h2⟩ := Option.map_eq_some_iff.1 h; exact OpK.noConfusion h2)
        | (have := hcond _ _ h; exact OpK.noConfusion this)
        | (have := hcond' _ _ h; exact OpK.noConfusion this)
    have hcond : ∀ (c : Bool) (r : Option (OpK × List AOpd)), (bif c then none else r) = some (.dfr, as) → r = some (.dfr, as) := fun c r h => by cases c <;> simp at h; exact h
    have hcond' : ∀ (c : Bool) (r : Option (OpK × List AOpd)), (bif c then r else none) = some (.dfr, as) → r = some (.dfr, as) := fun c r h => by cases c <;> simp at h; exact h
    revert hk
    intro h
    cases ho : o.op <;> rw [ho] at h
    case defer c => exact hdf ⟨c, ho⟩
    case call c =>
      simp only [trOp] at h
      cases hcal : c.callee with
      | builtin b =>
        rw [hcal] at h
        obtain ⟨kb, hb', hk'⟩ := Option.bind_eq_some_iff.1 h
        obtain ⟨h1, e⟩ := withL_some hk'
        subst e
        exact hb hb'
      | value x =>
        rw [hcal] at h
        cases x <;> (obtain ⟨_, e⟩ := withL_some h; exact OpK.noConfusion e)
      | invoke r n => rw [hcal] at h; exact nomatch h
    case buildSlice t len parts =>
      simp only [trOp] at h
      repeat' split at h
      all_goals first
        | contradiction
        | (have h2 := hcond' _ _ h
           first
             | contradiction
             | (simp at h2; done))
    case makeFunc c a p =>
      cases c <;> simp only [trOp] at h <;> first
        | contradiction
        | (obtain ⟨_, e⟩ := withL_some h; exact OpK.noConfusion e)
    case makeMap t r =>
      cases r <;> simp only [trOp] at h <;> first
        | contradiction
        | (simp at h; done)
    case next x s =>
      cases s <;> simp only [trOp] at h <;> first
        | contradiction
        | (obtain ⟨_, _, e, _⟩ := with1_some h; exact OpK.noConfusion e)
    all_goals
      simp only [trOp] at h
      (try contradiction)
      repeat' split at h
      all_goals first
        | contradiction
        | (obtain ⟨_, _, e, _⟩ := with1_some h; exact OpK.noConfusion e)
        | (obtain ⟨_, e⟩ := withL_some h; exact OpK.noConfusion e)
        | (obtain ⟨_, _, h2⟩ := Option.bind_eq_some_iff.1 h; obtain ⟨_, e⟩ := withL_some h2; exact OpK.noConfusion e)
        | (have h2 := hcond _ _ h; obtain ⟨_, e⟩ := withL_some h2; exact OpK.noConfusion e)
        | (have h2 := hcond' _ _ h; obtain ⟨_, e⟩ := withL_some h2; exact OpK.noConfusion e)
        | (have h2 := hcond _ _ h; obtain ⟨_, _, e, _⟩ := with1_some h2; exact OpK.noConfusion e)
        | (have h2 := hcond' _ _ h; obtain ⟨_, _, e, _⟩ := with1_some h2; exact OpK.noConfusion e)
        | (have h2 := hcond _ _ h; obtain ⟨_, _, h2⟩ := Option.bind_eq_some_iff.1 h2; obtain ⟨_, e⟩ := withL_some h2; exact OpK.noConfusion e)
        | (obtain ⟨_, _, h2⟩ := Option.map_eq_some_iff.1 h; simp only [Prod.mk.injEq] at h2; exact OpK.noConfusion h2.1)
        | (simp at h; done)

/-- One operation, done in the region's order. -/
theorem evOper_ok {cf : CF} (hcf : CFok P cf) {nt : Nat} {ops : Array Oper} {o : Oper} {ao : AOper} {s s' : St} {ρ : Ren} {a : Act} {w : World} (ho : trOper P nt ops o = some ao) (he : evOper cf ao s = some s')
    (hfr : FrOk nt ρ s.fr a) (hr : RelH ρ s.h w) (hd : DefsOk ρ s.ds a.defers) {K : Act → World → Prop} {Q : Exit → Act → World → Prop}
    (hK : ∀ ρ' a' w', FrOk nt ρ' s'.fr a' → RelH ρ' s'.h w' → DefsOk ρ' s'.ds a'.defers → Ext ρ s.h w ρ' s'.h w' → K a' w') :
    if Region.wanted o (yielded ops a.tmps) then o.wp P a w K Q ∨ (o.asks P a w ∧ LetsOut Q) else K (a.put o.dst undef) w := by
  obtain ⟨hk, hg, hdst, hlt⟩ := trOper_some ho
  have hw : Region.wanted o (yielded ops a.tmps) = wantedA s.fr ao.g := by
    rw [wantedA_eq]; exact wanted_ok hg fun p _ => hfr.rel p.1
  unfold evOper at he
  rw [hw]
  cases hwa : wantedA s.fr ao.g
  · rw [hwa] at he
    simp only [cond_false, Option.some.injEq] at he
    subst he
    simp only [Bool.false_eq_true, if_false]
    rw [hdst] at hK
    exact hK ρ _ _ (hfr.put hlt (undef_rel ρ)) hr (by rw [put_defers']; exact hd) (Ext.refl _ _ _)
  · rw [hwa] at he
    simp only [cond_true] at he
    simp only [if_true]
    have hf : ∀ x ax, trOpd P x = some ax → Rel ρ (evOpdF (getF s.fr) ax) (a.eval x) := opd_rel hfr.rel
    rw [evArgs_eq] at he
    split at he
    · rename_i hdfr
      split at he
      · rename_i f first caps args hv
        simp only [Option.some.injEq] at he
        subst he
        rw [hdfr] at hk
        obtain ⟨cap, cas, hrun, hrel⟩ := defer_run hk hv hf w
        refine .inl ?_
        unfold Oper.wp
        rw [hrun]
        simp only [Oper.upon]
        have h0 := hfr.put (a := a) hlt (undef_rel ρ)
        refine hK ρ _ _ ?_ hr ?_ (Ext.refl _ _ _)
        · rw [hdst]
          have : ({ a with defers := { target := .fn (.func f) cap, args := cas } :: a.defers } : Act).put o.dst undef = { a.put o.dst undef with defers := { target := .fn (.func f) cap, args := cas } :: a.defers } := by
            cases o.dst <;> rfl
          rw [this]
          exact ⟨h0.size, h0.has, h0.rel⟩
        · rw [put_defers']
          exact ⟨cap, cas, _, rfl, hrel, hd⟩
      · exact nomatch he
    · rename_i hnd
      split at he
      · rename_i v h' hst
        simp only [Option.some.injEq] at he
        subst he
        refine .inl (oper_wp hcf hk hnd hst hf hr fun ρ' w' cv hv hr' hx => ?_)
        refine hK ρ' _ _ ?_ hr' ?_ hx
        · rw [hdst]; exact (hfr.mono hx.ren).put hlt hv
        · rw [put_defers']; exact hd.mono hx.ren
      · exact nomatch he

theorem evOps_ok {cf : CF} (hcf : CFok P cf) {nt : Nat} {ops : Array Oper} {l : List AOper} (hl : ops.toList.mapM (trOper P nt ops) = some l) {Q : Exit → Act → World → Prop} {s' : St} :
    ∀ (m i : Nat), i + m = ops.size → ∀ (s : St) (ρ : Ren) (a : Act) (w : World), evOps cf (l.drop i) s = some s' → FrOk nt ρ s.fr a → RelH ρ s.h w → DefsOk ρ s.ds a.defers →
      (∀ ρ' a' w', FrOk nt ρ' s'.fr a' → RelH ρ' s'.h w' → DefsOk ρ' s'.ds a'.defers → Ext ρ s.h w ρ' s'.h w' → Q .normal a' w') →
      wpOps P ops Q (List.range' i m) a w
  | 0, i, hi, s, ρ, a, w, he, hfr, hr, hd, hQ => by
    have hlen := (mapM_some hl).1
    simp only [Array.length_toList] at hlen
    rw [List.drop_eq_nil_of_le (by omega)] at he
    simp only [evOps, Option.some.injEq] at he
    subst he
    exact hQ ρ a w hfr hr hd (Ext.refl _ _ _)
  | m + 1, i, hi, s, ρ, a, w, he, hfr, hr, hd, hQ => by
    obtain ⟨hlen, hget⟩ := mapM_some hl
    simp only [Array.length_toList] at hlen
    have hil : i < l.length := by omega
    have hio : i < ops.size := by omega
    rw [List.drop_eq_getElem_cons hil] at he
    simp only [evOps] at he
    split at he
    · rename_i s1 h1
      have hot : trOper P nt ops ops[i] = some l[i] := hget i ops[i] l[i] (by simp [hio]) (by simp [hil])
      have hoi : ops[i]? = some ops[i] := by simp [hio]
      simp only [List.range'_succ, wpOps, hoi]
      refine evOper_ok hcf hot h1 hfr hr hd fun ρ' a' w' f1 f2 f3 f4 => ?_
      refine evOps_ok hcf hl m (i + 1) (by omega) s1 ρ' a' w' he f1 f2 f3 fun ρ'' a'' w'' g1 g2 g3 g4 => ?_
      exact hQ ρ'' a'' w'' g1 g2 g3 (Ext.trans hr f4 g4)
    · exact nomatch he

end Go.Aev
