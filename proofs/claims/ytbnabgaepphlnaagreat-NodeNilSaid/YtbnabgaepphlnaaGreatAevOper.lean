/- The abstract interpreter: one operation of a region, and the regions that keep their order. -/
import Derived.Test.YtbnabgaepphlnaaGreatAevPend
set_option linter.unusedVariables false
set_option linter.unusedSimpArgs false
namespace Go.Aev
open Go
variable {P : Program}

theorem undef_rel (ρ : Ren) : Rel ρ V.undef undef := ⟨#[], rfl, rfl⟩

structure FrOk (nt : Nat) (ρ : Ren) (fr : Fr) (a : Act) : Prop where
  size : nt ≤ a.tmps.size
  has : ∀ t, t < nt → fr.has t = true
  rel : ∀ t, Rel ρ (getF fr t) (a.tmps.getD t undef)

def DefsOk (ρ : Ren) : List (Nat × List V) → List Deferred → Prop
  | [], l => l = []
  | (f, args) :: ds, l => ∃ cap as r, l = { target := .fn (.func f) cap, args := as } :: r ∧ RelL ρ args (as ++ cap).toList ∧ DefsOk ρ ds r

theorem DefsOk.mono {ρ ρ' : Ren} (h : ρ.le ρ') : ∀ {ds : List (Nat × List V)} {l : List Deferred}, DefsOk ρ ds l → DefsOk ρ' ds l
  | [], _, e => e
  | (f, args) :: ds, _, ⟨cap, as, r, e, h1, h2⟩ => ⟨cap, as, r, e, RelL.mono h _ _ h1, DefsOk.mono h h2⟩

theorem FrOk.mono {nt : Nat} {ρ ρ' : Ren} {fr : Fr} {a : Act} (h : ρ.le ρ') (hf : FrOk nt ρ fr a) : FrOk nt ρ' fr a := ⟨hf.size, hf.has, fun t => Rel.mono h _ _ (hf.rel t)⟩

theorem getF_set {fr : Fr} {d t : Nat} {v : V} (h : fr.has d = true) : getF (fr.set d (some v)) t = if d = t then v else getF fr t := by
  unfold getF
  rw [Tr.get_set]
  by_cases e : d = t
  · simp [e]; rw [← e, h]; rfl
  · simp [e]

theorem put_getD {a : Act} {d t : Nat} {cv : Value} (h : d < a.tmps.size) : (a.put (some d) cv).tmps.getD t undef = if d = t then cv else a.tmps.getD t undef := by
  by_cases e : d = t
  · subst e; simp [Act.put, h]
  · simp [Act.put, e, Array.getElem?_setIfInBounds_ne e]

theorem FrOk.put {nt : Nat} {ρ : Ren} {fr : Fr} {a : Act} (hf : FrOk nt ρ fr a) {d : Option Nat} (hd : ∀ x, d = some x → x < nt) {v : V} {cv : Value} (hv : Rel ρ v cv) : FrOk nt ρ (putF fr d v) (a.put d cv) := by
  cases d with
  | none => exact hf
  | some d =>
    have hlt := hd d rfl
    refine ⟨?_, fun t ht => ?_, fun t => ?_⟩
    · simp only [Act.put, Array.size_setIfInBounds]; exact hf.size
    · simp only [putF, Tr.has_set]; exact hf.has t ht
    · simp only [putF]
      rw [getF_set (hf.has d hlt), put_getD (Nat.lt_of_lt_of_le hlt hf.size)]
      split
      · exact hv
      · exact hf.rel t

theorem put_defers' (a : Act) (d : Option Tmp) (v : Value) : (a.put d v).defers = a.defers := by cases d <;> rfl

theorem evArgs_eq (fr : Fr) : ∀ as : List AOpd, evArgs fr as = evArgsF (getF fr) as
  | [] => rfl
  | a :: as => by
    simp only [evArgs, evArgsF, evArgs_eq fr as]
    cases a <;> rfl

theorem opd_rel {ρ : Ren} {ev : Nat → V} {a : Act} (h : ∀ t, Rel ρ (ev t) (a.tmps.getD t undef)) (x : Operand) (ax : AOpd) (hx : trOpd P x = some ax) : Rel ρ (evOpdF ev ax) (a.eval x) := by
  cases x <;> simp only [trOpd] at hx
  case tmp t => simp only [Option.some.injEq] at hx; subst hx; exact h t
  case const v =>
    obtain ⟨u, hu, rfl⟩ := Option.map_eq_some_iff.1 hx
    exact ofVal_rel hu
  case global => exact nomatch hx
  case func f => simp only [Option.some.injEq] at hx; subst hx; exact ⟨#[], #[], rfl, rfl, rfl⟩

theorem Rel.of_bool {ρ : Ren} {v : V} {b : Bool} (h : Rel ρ v (.bool b)) : v = .bool b := by
  cases v <;> simp only [Rel] at h
  case bool => injection h with e; rw [e]
  case fn => obtain ⟨_, _, e, _⟩ := h; exact nomatch e
  case ifc => obtain ⟨_, e, _⟩ := h; exact nomatch e
  case agg => obtain ⟨_, e, _⟩ := h; exact nomatch e
  case tup => obtain ⟨_, e, _⟩ := h; exact nomatch e
  case ptr => obtain ⟨_, _, e⟩ := h; exact nomatch e
  case sl => obtain ⟨_, _, _, _, e, _⟩ := h; exact nomatch e
  case map => obtain ⟨_, _, e⟩ := h; exact nomatch e
  all_goals exact nomatch h

def wantedF (ev : Nat → V) : Option (Nat × Bool) → Bool
  | none => true
  | some (t, w) => match ev t with
    | .bool b => b == w
    | _ => false
theorem wantedA_eq (fr : Fr) (g : Option (Nat × Bool)) : wantedA fr g = wantedF (getF fr) g := by
  cases g with
  | none => rfl
  | some p => rfl

theorem wanted_ok {ρ : Ren} {ops : Array Oper} {o : Oper} {g : Option (Nat × Bool)} {ev : Nat → V} {a : Act} (hg : trGuard ops o.guard = some g) (h : ∀ p, g = some p → Rel ρ (ev p.1) (a.tmps.getD p.1 undef)) :
    Region.wanted o (yielded ops a.tmps) = wantedF ev g := by
  unfold Region.wanted
  unfold trGuard at hg
  cases ho : o.guard with
  | none => rw [ho] at hg; cases hg; rfl
  | some p =>
    obtain ⟨j, w⟩ := p
    rw [ho] at hg
    simp only at hg ⊢
    split at hg
    · rename_i t ht
      simp only [Option.some.injEq] at hg; subst hg
      have hrel := h _ rfl
      simp only at hrel
      simp only [wantedF]
      have hy : yielded ops a.tmps j = match a.tmps[t]? with | some (.bool b) => some b | _ => none := by
        unfold yielded; rw [ht]; rfl
      rw [hy]
      cases hc : a.tmps[t]? with
      | none =>
        have : a.tmps.getD t undef = undef := by simp [Array.getD_eq_getD_getElem?, hc]
        rw [this] at hrel
        simp only
        cases hv : ev t <;> first
          | rfl
          | (rw [hv] at hrel; exact nomatch hrel)
      | some c =>
        have : a.tmps.getD t undef = c := by simp [Array.getD_eq_getD_getElem?, hc]
        rw [this] at hrel
        cases c
        case bool b =>
          rw [hrel.of_bool]
          cases b <;> cases w <;> rfl
        all_goals
          cases hv : ev t <;> first
            | rfl
            | (rw [hv] at hrel; exact nomatch hrel)
    · exact nomatch hg

/- ### calls -/

/-- A function is called, and answers. -/
def CallTo (P : Program) (f : Nat) (args : Array Value) (w : World) (R : Value → World → Prop) : Prop :=
  (∃ w', (callFunc f args).run P w = .ok (.enter f args) w' ∧ Calls P f args w' fun | .returned v, w'' => R v w'' | _, _ => False) ∨
  (∃ v w', (callFunc f args).run P w = .ok (.value v) w' ∧ R v w')

def CFok (P : Program) (cf : CF) : Prop := ∀ f args H v H', cf f args H = some (v, H') → ∀ (ρ : Ren) (w : World) (cargs : Array Value), RelL ρ args cargs.toList → RelH ρ H w →
  CallTo P f cargs w fun cv w' => ∃ ρ', Rel ρ' v cv ∧ RelH ρ' H' w' ∧ Ext ρ H w ρ' H' w'

theorem callTo_upon {o : Oper} {a : Act} {K : Act → World → Prop} {Q : Exit → Act → World → Prop} {f : Nat} {args : Array Value} {w : World} {R : Value → World → Prop} (h : CallTo P f args w R)
    (hK : ∀ cv w', R cv w' → K (a.put o.dst cv) w') : o.upon P a K Q ((callFunc f args).run P w) := by
  rcases h with ⟨w', hr, hc⟩ | ⟨v, w', hr, hR⟩
  · rw [hr]
    refine Calls.mono hc fun e w'' he => ?_
    cases e with
    | returned v => exact hK _ _ he
    | panicked c => exact he.elim
    | outgrown => exact he.elim
  · rw [hr]; exact hK _ _ hR

theorem fnVal_rel {ρ : Ren} {f : Nat} {a c : List V} {x : Value} (h : Rel ρ (.fn f a c) x) : ∃ ca cc, x = .func (.func f) ca cc ∧ RelL ρ a ca.toList ∧ RelL ρ c cc.toList := h

def isCallK : OpK → Bool
  | .call _ => true
  | .callv => true
  | _ => false

theorem trBuiltin_nocall {b : Builtin} {ats : Array TypeId} {k : OpK} (h : trBuiltin P b ats = some k) : isCallK k = false := by
  have hcond : ∀ (c : Bool) (k1 : OpK), (bif c then none else some k1) = some k → k = k1 := fun c k1 h => by cases c <;> simp at h; exact h.symm
  have hcond' : ∀ (c : Bool) (k1 : OpK), (bif c then some k1 else none) = some k → k = k1 := fun c k1 h => by cases c <;> simp at h; exact h.symm
  cases b <;> simp only [trBuiltin] at h <;> (try contradiction) <;> (repeat' split at h) <;> (try contradiction)
  all_goals first
    | (simp only [Option.some.injEq] at h; subst h; rfl)
    | (obtain ⟨_, _, rfl⟩ := Option.map_eq_some_iff.1 h; rfl)
    | (have := hcond _ _ h; subst this; rfl)
    | (have := hcond' _ _ h; subst this; rfl)

theorem trOp_nocall {o : Op} {k : OpK} {as : List AOpd} (h : trOp P o = some (k, as)) (hc : ∀ c x, o = .call c → c.callee ≠ .value x) : isCallK k = false := by
  have hcond : ∀ (c : Bool) (r : Option (OpK × List AOpd)), (bif c then none else r) = some (k, as) → r = some (k, as) := fun c r h => by cases c <;> simp at h; exact h
  have hcond' : ∀ (c : Bool) (r : Option (OpK × List AOpd)), (bif c then r else none) = some (k, as) → r = some (k, as) := fun c r h => by cases c <;> simp at h; exact h
  cases o
  case call c =>
    simp only [trOp] at h
    cases hcal : c.callee with
    | builtin b =>
      rw [hcal] at h
      obtain ⟨kb, hb, hk'⟩ := Option.bind_eq_some_iff.1 h
      obtain ⟨h1, rfl⟩ := withL_some hk'
      exact trBuiltin_nocall hb
    | value x => exact absurd hcal (hc c x rfl)
    | invoke r n => rw [hcal] at h; exact nomatch h
  case buildSlice t len parts =>
    simp only [trOp] at h
    repeat' split at h
    all_goals first
      | contradiction
      | (have h2 := hcond' _ _ h
         first
           | contradiction
           | (simp only [Option.some.injEq, Prod.mk.injEq] at h2
              obtain ⟨rfl, _⟩ := h2; rfl))
  case makeFunc c a p =>
    cases c <;> simp only [trOp] at h <;> first
      | contradiction
      | (obtain ⟨_, rfl⟩ := withL_some h; rfl)
  case makeMap t r =>
    cases r <;> simp only [trOp] at h <;> first
      | contradiction
      | (simp only [Option.some.injEq, Prod.mk.injEq] at h; obtain ⟨rfl, _⟩ := h; rfl)
  case next x s =>
    cases s <;> simp only [trOp] at h <;> first
      | contradiction
      | (obtain ⟨_, _, rfl, _⟩ := with1_some h; rfl)
  all_goals
    simp only [trOp] at h
    (try contradiction)
    repeat' split at h
    all_goals first
      | contradiction
      | (obtain ⟨_, _, rfl, _⟩ := with1_some h; rfl)
      | (obtain ⟨_, rfl⟩ := withL_some h; rfl)
      | (obtain ⟨_, _, h2⟩ := Option.bind_eq_some_iff.1 h; obtain ⟨_, rfl⟩ := withL_some h2; rfl)
      | (have h2 := hcond _ _ h; obtain ⟨_, rfl⟩ := withL_some h2; rfl)
      | (have h2 := hcond' _ _ h; obtain ⟨_, rfl⟩ := withL_some h2; rfl)
      | (have h2 := hcond _ _ h; obtain ⟨_, _, rfl, _⟩ := with1_some h2; rfl)
      | (have h2 := hcond' _ _ h; obtain ⟨_, _, rfl, _⟩ := with1_some h2; rfl)
      | (have h2 := hcond _ _ h; obtain ⟨_, _, h2⟩ := Option.bind_eq_some_iff.1 h2; obtain ⟨_, rfl⟩ := withL_some h2; rfl)
      | (obtain ⟨_, _, h2⟩ := Option.map_eq_some_iff.1 h; simp only [Prod.mk.injEq] at h2; obtain ⟨rfl, _⟩ := h2; rfl)
      | (simp only [Option.some.injEq, Prod.mk.injEq] at h; obtain ⟨rfl, _⟩ := h; rfl)

/-- One operation that is no `defer`, done now. -/
theorem oper_wp {cf : CF} (hcf : CFok P cf) {o : Oper} {k : OpK} {as : List AOpd} {ev : Nat → V} {ρ : Ren} {H H' : Hp} {w : World} {a : Act} {v : V} (hk : trOp P o.op = some (k, as)) (hd : k ≠ .dfr)
    (hs : stepC cf k (evArgsF ev as) H = some (v, H')) (hf : ∀ x ax, trOpd P x = some ax → Rel ρ (evOpdF ev ax) (a.eval x)) (hr : RelH ρ H w) {K : Act → World → Prop} {Q : Exit → Act → World → Prop}
    (hK : ∀ ρ' w' cv, Rel ρ' v cv → RelH ρ' H' w' → Ext ρ H w ρ' H' w' → K (a.put o.dst cv) w') : o.wp P a w K Q := by
  have plain : step k (evArgsF ev as) H = some (v, H') → o.wp P a w K Q := fun hs => by
    obtain ⟨ρ', w', cv, he, hv, hr', hx⟩ := step_sound o.op o k as ev ρ H w a.eval v H' rfl hk hf hr hs
    unfold Oper.wp
    rcases he with he | ⟨he, rfl⟩
    · rw [he]; exact hK _ _ _ hv hr' hx
    · rw [he]; exact hK _ _ _ hv hr' hx
  have unplain : isCallK k = false → o.wp P a w K Q := fun h => plain (by
    cases k <;> first
      | exact hs
      | exact absurd rfl hd
      | exact absurd h Bool.noConfusion)
  cases ho : o.op
  case call c =>
    cases hcal : c.callee with
    | value x =>
      rw [ho] at hk
      simp only [trOp, hcal] at hk
      have hwp : ∀ (f : Nat) (ca cc : Array Value), a.eval x = .func (.func f) ca cc → o.wp P a w K Q = o.upon P a K Q ((callFunc f ((ca ++ c.args.map a.eval) ++ cc)).run P w) := fun f ca cc he => by
        unfold Oper.wp
        have : (execOp a.eval o).run P w = (callFunc f ((ca ++ c.args.map a.eval) ++ cc)).run P w := by
          simp only [execOp, ho, resolve, hcal, he, Deferred.ofValue, Sem.run_bind, Sem.run_pure, Result.andThen_ok, invoke]
        rw [this]
      have gen : withL .callv (trOpds P (x :: c.args.toList)) = some (k, as) → o.wp P a w K Q := fun hk => by
        obtain ⟨h1, rfl⟩ := withL_some hk
        have hrel := opds_rel hf h1
        simp only [stepC] at hs
        split at hs
        · rename_i f first caps args hv
          rw [hv] at hrel
          obtain ⟨cx, cr, e, r1, r2⟩ := hrel.cons_inv
          simp only [List.map_cons, List.cons.injEq] at e
          obtain ⟨e1, e2⟩ := e
          subst e1; subst e2
          obtain ⟨ca, cc, e3, r3, r4⟩ := fnVal_rel r1
          rw [hwp f ca cc e3]
          refine callTo_upon (hcf f _ H v H' hs ρ w _ ?_ hr) fun cv w' ⟨ρ', h1, h2, h3⟩ => hK ρ' w' cv h1 h2 h3
          simp only [Array.toList_append, Array.toList_map, List.append_assoc]
          exact r3.append (r2.append r4)
        · exact nomatch hs
      cases x
      case func f =>
        obtain ⟨h1, rfl⟩ := withL_some hk
        have hrel := opds_rel hf h1
        rw [hwp f #[] #[] rfl]
        simp only [stepC] at hs
        refine callTo_upon (hcf f _ H v H' hs ρ w _ ?_ hr) fun cv w' ⟨ρ', h1, h2, h3⟩ => hK ρ' w' cv h1 h2 h3
        simpa using hrel
      all_goals exact gen hk
    | builtin b => exact unplain (trOp_nocall hk fun c' x' h h' => by rw [ho] at h; cases h; rw [hcal] at h'; exact nomatch h')
    | invoke r n => exact unplain (trOp_nocall hk fun c' x' h h' => by rw [ho] at h; cases h; rw [hcal] at h'; exact nomatch h')
  all_goals exact unplain (trOp_nocall hk fun c' x' h h' => by rw [ho] at h; exact nomatch h)

end Go.Aev
