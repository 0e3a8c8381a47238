/- The abstract interpreter: code, calls and what is deferred. -/
import Derived.Test.YtbnabgaepphlnaaGreatAevDrawC
import Derived.LoopN
set_option linter.unusedVariables false
set_option linter.unusedSimpArgs false
namespace Go.Aev
open Go
variable {P : Program}

theorem trDraw_some {l : List AOper} {ops : List Oper} {ds : List DOper} (h : trDraw l ops = some ds) :
    ∃ ms, masksFrom ops 0 [] = some ms ∧ tmpsOk l ms = true ∧ l.all notDfr = true ∧ dOk l.length ms ds 0 0 [] = true ∧ ∀ o ∈ ds, l[o.ix]? = some o.o := by
  unfold trDraw at h
  split at h
  · exact nomatch h
  · rename_i ms hms
    split at h
    · exact nomatch h
    · rename_i ds' hds
      have hb : ∀ b : Bool, (bif b then some ds' else none) = some ds → b = true ∧ ds' = ds := fun b h => by
        cases b <;> simp at h; exact ⟨rfl, h⟩
      obtain ⟨h1, rfl⟩ := hb _ h
      simp only [Bool.and_eq_true] at h1
      refine ⟨ms, hms, h1.1.1, h1.1.2, h1.2, ?_⟩
      have key : ∀ (is : List Nat) (ds : List DOper), dOpers l ms (esOf l) is = some ds → ∀ o ∈ ds, l[o.ix]? = some o.o := by
        intro is
        induction is with
        | nil => intro ds h o ho; simp only [dOpers, Option.some.injEq] at h; subst h; simp at ho
        | cons i is ih =>
          intro ds h o ho
          simp only [dOpers] at h
          split at h
          · rename_i ao t h1 h2
            simp only [Option.some.injEq] at h; subst h
            rcases List.mem_cons.1 ho with rfl | ho
            · exact h1
            · exact ih t h2 o ho
          · exact nomatch h
      exact key _ _ hds

theorem curV_empty (l : List AOper) (r f0 : Nat → V) (t : Nat) {D : Nat → Bool} (h : ∀ i, D i = false) : ∀ n, curV l r f0 D t n = f0 t
  | 0 => rfl
  | n + 1 => by
    simp only [curV, h n]
    rw [if_neg (by simp)]
    exact curV_empty l r f0 t h n

theorem unl_le (D : Nat → Bool) : ∀ n, unl D n ≤ n
  | 0 => Nat.le_refl _
  | n + 1 => by simp only [unl]; have := unl_le D n; split <;> omega

/-- A region that draws its order. -/
theorem draw_ok (hm : P.follows .mixedOrders = true) {cf : CF} (hcf : CFok P cf) {nt : Nat} {ops : Array Oper} {l : List AOper} (hl : ops.toList.mapM (trOper P nt ops) = some l) {ds : List DOper} (hd : trDraw l ops.toList = some ds)
    {id : Nat} {s s' : St} {ρ : Ren} {a : Act} {w : World} (he : evDOps cf ds s [] = some s') (hfr : FrOk nt ρ s.fr a) (hr : RelH ρ s.h w) (hdf : DefsOk ρ s.ds a.defers) {Q : Exit → Act → World → Prop}
    (hQ : ∀ ρ' a' w', FrOk nt ρ' s'.fr a' → RelH ρ' s'.h w' → DefsOk ρ' s'.ds a'.defers → Ext ρ s.h w ρ' s'.h w' → Q .normal a' w') : (Code.region id ops true).wp P Q a w := by
  obtain ⟨ms, hms, h1, h2, h3, h4⟩ := trDraw_some hd
  let C : DCtx P := ⟨cf, nt, ops, l, ms, hcf, hl, hms, h1, h2, getF s.fr, ρ, s.h, { w with drawn := w.drawn + 1 }, hr.drew, s.ds, a.defers⟩
  have hlen : l.length = ops.size := C.llen
  have hD : ∀ i, (Array.replicate ops.size false).getD i false = false := fun i => by
    rcases Nat.lt_or_ge i ops.size with h | h <;> simp [h, Array.getElem?_eq_none]
  refine wp_region_any hm (draw_any C (sF := s') (fun ρ' a' w' f1 f2 f3 f4 f5 => ?_) ops.size (D := Array.replicate ops.size false) (dn := 0) (de := 0) (pl := []) (ds := ds) (s := s) (pd := []) (r := fun _ => V.undef) (ρ := ρ) ?_ he (unl_le _ _))
  · have hx : Ext ρ s.h w ρ' s'.h w' := Ext.trans hr (Ext.drew ρ s.h w) f5
    exact hQ ρ' a' w' f1 f2 (by rw [f3, f4]; exact hdf.mono hx.ren) hx
  · refine ⟨by simp [C], fun i h => ?_, fun i h => ?_, fun i h => ?_, fun i h => ?_, fun i h => ?_, fun i h => ?_, h3, h4, fun t => ?_, hfr.has, fun t => ?_, hfr.size, hr.drew, Ext.refl _ _ _, rfl, rfl, fun i _ _ _ h => ?_⟩
    · rw [hD] at h; exact nomatch h
    · simp at h
    · simp at h
    · rw [hD] at h; exact nomatch h
    · simp at h
    · simp at h
    · exact (curV_empty _ _ _ _ (fun i => by simp) _).symm
    · have : cur l (fun _ => V.undef) (getF s.fr) (fun i => (Array.replicate ops.size false).getD i false) t = getF s.fr t := curV_empty _ _ _ _ hD _
      show Rel ρ (cur l (fun _ => V.undef) (getF s.fr) (fun i => (Array.replicate ops.size false).getD i false) t) _
      rw [this]; exact hfr.rel t
    · simp at h

def XOk : X → Exit → Prop
  | .n, .normal => True
  | .x i, .exit j => i = j
  | .r, .ret => True
  | _, _ => False

/-- A piece of code does what its resolved form does. -/
def CodeOk (P : Program) (nt : Nat) (c : Code) (run : St → R) : Prop :=
  ∀ s x s', run s = .ok x s' → ∀ (ρ : Ren) (a : Act) (w : World), FrOk nt ρ s.fr a → RelH ρ s.h w → DefsOk ρ s.ds a.defers → ∀ Q : Exit → Act → World → Prop,
    (∀ e ρ' a' w', XOk x e → FrOk nt ρ' s'.fr a' → RelH ρ' s'.h w' → DefsOk ρ' s'.ds a'.defers → Ext ρ s.h w ρ' s'.h w' → Q e a' w') → c.wp P Q a w

theorem XOk.normal {e : Exit} (h : XOk .n e) : e = .normal := by cases e <;> simp [XOk] at h; rfl
theorem XOk.exit {i : Nat} {e : Exit} (h : XOk (.x i) e) : e = .exit i := by cases e <;> simp [XOk] at h; rw [h]
theorem XOk.ret {e : Exit} (h : XOk .r e) : e = .ret := by cases e <;> simp [XOk] at h; rfl

theorem exec_ok (hm : P.follows .mixedOrders = true) {cf : CF} (hcf : CFok P cf) {lf : ACode → St → R} {nt : Nat} (hlf : ∀ cb b, trCode P nt cb = some b → CodeOk P nt (.loop cb) (lf b)) :
    ∀ (c : Code) (ac : ACode), trCode P nt c = some ac → CodeOk P nt c (exec cf lf ac)
  | .skip, ac, h => by
    simp only [trCode, Option.some.injEq] at h; subst h
    intro s x s' he ρ a w hfr hr hd Q hQ
    simp only [exec, R.ok.injEq] at he
    obtain ⟨rfl, rfl⟩ := he
    exact wp_skip (hQ .normal ρ a w trivial hfr hr hd (Ext.refl _ _ _))
  | .label l, ac, h => by
    simp only [trCode, Option.some.injEq] at h; subst h
    intro s x s' he ρ a w hfr hr hd Q hQ
    simp only [exec, R.ok.injEq] at he
    obtain ⟨rfl, rfl⟩ := he
    exact wp_label (hQ .normal ρ a w trivial hfr hr hd (Ext.refl _ _ _))
  | .exit id, ac, h => by
    simp only [trCode, Option.some.injEq] at h; subst h
    intro s x s' he ρ a w hfr hr hd Q hQ
    simp only [exec, R.ok.injEq] at he
    obtain ⟨rfl, rfl⟩ := he
    exact wp_exit (hQ (.exit id) ρ a w rfl hfr hr hd (Ext.refl _ _ _))
  | .ret, ac, h => by
    simp only [trCode, Option.some.injEq] at h; subst h
    intro s x s' he ρ a w hfr hr hd Q hQ
    simp only [exec, R.ok.injEq] at he
    obtain ⟨rfl, rfl⟩ := he
    exact wp_ret (hQ .ret ρ a w trivial hfr hr hd (Ext.refl _ _ _))
  | .region id ops draw, ac, h => by
    simp only [trCode, trRegion] at h
    intro s x s' he ρ a w hfr hr hd Q hQ
    split at h
    · exact nomatch h
    · rename_i l hl
      cases draw
      · simp only [cond_false, Option.some.injEq] at h; subst h
        simp only [exec] at he
        split at he
        · rename_i s1 hs1
          simp only [R.ok.injEq] at he
          obtain ⟨rfl, rfl⟩ := he
          refine wp_region ?_
          have := evOps_ok hcf hl (Q := Q) ops.size 0 (by omega) s ρ a w (by simpa using hs1) hfr hr hd fun ρ' a' w' f1 f2 f3 f4 => hQ .normal ρ' a' w' trivial f1 f2 f3 f4
          rwa [← List.range_eq_range'] at this
        · exact nomatch he
      · simp only [cond_true] at h
        obtain ⟨ds, hds, rfl⟩ := Option.map_eq_some_iff.1 h
        simp only [exec] at he
        split at he
        · rename_i s1 hs1
          simp only [R.ok.injEq] at he
          obtain ⟨rfl, rfl⟩ := he
          exact draw_ok hm hcf hl hds hs1 hfr hr hd fun ρ' a' w' f1 f2 f3 f4 => hQ .normal ρ' a' w' trivial f1 f2 f3 f4
        · exact nomatch he
  | .seq c1 c2, ac, h => by
    simp only [trCode] at h
    split at h
    · rename_i a1 a2 h1 h2
      simp only [Option.some.injEq] at h; subst h
      intro s x s' he ρ a w hfr hr hd Q hQ
      simp only [exec] at he
      split at he
      · rename_i s1 hs1
        refine wp_seq (exec_ok hm hcf hlf c1 a1 h1 s _ s1 hs1 ρ a w hfr hr hd _ fun e ρ1 a1' w1 hx f1 f2 f3 f4 => ?_)
        rw [hx.normal]
        exact exec_ok hm hcf hlf c2 a2 h2 s1 x s' he ρ1 a1' w1 f1 f2 f3 Q fun e ρ2 a2' w2 hx g1 g2 g3 g4 => hQ e ρ2 a2' w2 hx g1 g2 g3 (Ext.trans hr f4 g4)
      · rename_i hne
        refine wp_seq (exec_ok hm hcf hlf c1 a1 h1 s x s' he ρ a w hfr hr hd _ fun e ρ1 a1' w1 hx f1 f2 f3 f4 => ?_)
        cases x with
        | n => exact absurd he (hne s')
        | x i => have hq := hQ e ρ1 a1' w1 hx f1 f2 f3 f4; rw [hx.exit] at hq ⊢; exact hq
        | r => have hq := hQ e ρ1 a1' w1 hx f1 f2 f3 f4; rw [hx.ret] at hq ⊢; exact hq
    · exact nomatch h
  | .cond cnd c1 c2, ac, h => by
    simp only [trCode] at h
    split at h
    · rename_i z a1 a2 hz h1 h2
      simp only [Option.some.injEq] at h; subst h
      intro s x s' he ρ a w hfr hr hd Q hQ
      simp only [exec] at he
      split at he
      · rename_i t ht
        have hrel : Rel ρ (evOpdF (getF s.fr) z) (a.eval cnd) := opd_rel (P := P) hfr.rel cnd z hz
        have hz' : evOpdF (getF s.fr) z = .bool t := by rw [← ht]; cases z <;> rfl
        rw [hz'] at hrel
        refine wp_cond hrel.bool_inv ?_
        cases t
        · exact exec_ok hm hcf hlf c2 a2 h2 s x s' he ρ a w hfr hr hd Q hQ
        · exact exec_ok hm hcf hlf c1 a1 h1 s x s' he ρ a w hfr hr hd Q hQ
      · exact nomatch he
    · exact nomatch h
  | .block id c1, ac, h => by
    simp only [trCode] at h
    obtain ⟨a1, h1, rfl⟩ := Option.map_eq_some_iff.1 h
    intro s x s' he ρ a w hfr hr hd Q hQ
    simp only [exec] at he
    split at he
    · rename_i i s1 hs1
      refine wp_block (exec_ok hm hcf hlf c1 a1 h1 s _ s1 hs1 ρ a w hfr hr hd _ fun e ρ1 a1' w1 hx f1 f2 f3 f4 => ?_)
      rw [hx.exit]
      simp only [Exit.inBlock]
      cases hb : Nat.beq i id <;> rw [hb] at he
      · simp only [cond_false, R.ok.injEq] at he
        obtain ⟨rfl, rfl⟩ := he
        rw [if_neg (Nat.ne_of_beq_eq_false hb)]
        exact hQ _ ρ1 a1' w1 rfl f1 f2 f3 f4
      · simp only [cond_true, R.ok.injEq] at he
        obtain ⟨rfl, rfl⟩ := he
        rw [if_pos (Nat.eq_of_beq_eq_true hb)]
        exact hQ _ ρ1 a1' w1 trivial f1 f2 f3 f4
    · rename_i hne
      refine wp_block (exec_ok hm hcf hlf c1 a1 h1 s x s' he ρ a w hfr hr hd _ fun e ρ1 a1' w1 hx f1 f2 f3 f4 => ?_)
      cases x with
      | n => have hq := hQ e ρ1 a1' w1 hx f1 f2 f3 f4; rw [hx.normal] at hq ⊢; exact hq
      | x i => exact absurd he (hne i s')
      | r => have hq := hQ e ρ1 a1' w1 hx f1 f2 f3 f4; rw [hx.ret] at hq ⊢; exact hq
  | .loop c1, ac, h => by
    simp only [trCode] at h
    obtain ⟨a1, h1, rfl⟩ := Option.map_eq_some_iff.1 h
    exact hlf c1 a1 h1
  | .scope c1, ac, h => by
    simp only [trCode] at h
    intro s x s' he ρ a w hfr hr hd Q hQ
    refine wp_scope_straight (exec_ok hm hcf hlf c1 ac h s x s' he ρ a w hfr hr hd _ fun e ρ1 a1' w1 hx f1 f2 f3 f4 => ?_)
    have hq := hQ e ρ1 a1' w1 hx f1 f2 f3 f4
    cases x with
    | n => rw [hx.normal] at hq ⊢; exact hq
    | x i => rw [hx.exit] at hq ⊢; exact hq
    | r => rw [hx.ret] at hq ⊢; exact hq
  | .rangeFunc .., ac, h => by simp [trCode] at h
  | .goto _, ac, h => by simp [trCode] at h
  | .refuse _, ac, h => by simp [trCode] at h

/- ### calls -/

theorem initFr_get : ∀ (vs : List V) (i : Nat) (fr : Fr), (∀ t, i ≤ t → t < i + vs.length → fr.has t = true) → ∀ t, getF (initFr vs i fr) t = if i ≤ t ∧ t < i + vs.length then (vs[t - i]?).getD V.undef else getF fr t
  | [], i, fr, h, t => by simp [initFr]; omega
  | v :: vs, i, fr, h, t => by
    simp only [initFr]
    have hi : fr.has i = true := h i (Nat.le_refl _) (by simp)
    rw [initFr_get vs (i + 1) _ (fun t h1 h2 => by rw [Tr.has_set]; exact h t (by omega) (by simp; omega)) t, getF_set hi]
    by_cases e : i = t
    · subst e
      rw [if_neg (by omega), if_pos rfl, if_pos (by simp)]
      simp
    · by_cases h1 : i + 1 ≤ t ∧ t < i + 1 + vs.length
      · rw [if_pos h1, if_pos (by simp; omega)]
        rw [show t - i = (t - (i + 1)) + 1 by omega]; simp
      · rw [if_neg h1, if_neg e, if_neg (by simp; omega)]

theorem initFr_has : ∀ (vs : List V) (i : Nat) (fr : Fr) (t : Nat), (initFr vs i fr).has t = fr.has t
  | [], _, _, _ => rfl
  | v :: vs, i, fr, t => by simp only [initFr]; rw [initFr_has vs, Tr.has_set]

theorem init_ok {ρ : Ren} {args : List V} {cargs : Array Value} {nt : Nat} (hrel : RelL ρ args cargs.toList) (hlen : args.length < 2 ^ depthOf nt) :
    FrOk nt ρ (initFr args 0 (Tr.full (depthOf nt))) { tmps := cargs ++ Array.replicate (nt - cargs.size) undef, defers := [] } := by
  have hl := hrel.length
  simp only [Array.length_toList] at hl
  have hdep : nt + 1 < 2 ^ depthOf nt := by
    unfold depthOf
    exact Nat.lt_log2_self
  refine ⟨by simp; omega, fun t ht => ?_, fun t => ?_⟩
  · rw [initFr_has]; exact Tr.has_full _ _ (by omega)
  · rw [initFr_get _ _ _ (fun t h1 h2 => Tr.has_full _ _ (by omega))]
    by_cases h : t < args.length
    · rw [if_pos ⟨Nat.zero_le _, by omega⟩]
      obtain ⟨x, hx, hr⟩ := hrel.get (i := t) (v := args[t]) (List.getElem?_eq_getElem h)
      simp only [Array.getElem?_toList] at hx
      have hc : t < cargs.size := by omega
      have : (cargs ++ Array.replicate (nt - cargs.size) undef).getD t undef = x := by
        rw [Array.getD_eq_getD_getElem?, Array.getElem?_append_left hc, hx]; rfl
      rw [this]
      simpa [h] using hr
    · rw [if_neg (by omega)]
      have h1 : getF (Tr.full (depthOf nt)) t = V.undef := by unfold getF; rw [Tr.get_full]
      rw [h1]
      have : (cargs ++ Array.replicate (nt - cargs.size) undef).getD t undef = undef := by
        rw [Array.getD_eq_getD_getElem?, Array.getElem?_append_right (by omega)]
        by_cases h2 : t - cargs.size < nt - cargs.size
        · simp [h2]
        · simp [Array.getElem?_eq_none, h2]
      rw [this]; exact undef_rel ρ

def cellRun (tmps : Array Value) : ResultVar → Sem Value
  | .tmp t => pure (tmps.getD t undef)
  | .cell a t => do loadVar t (← asAddr (tmps.getD a undef))

theorem results_eq (fn : Func) (tmps : Array Value) : results fn tmps = (do
    let vs ← fn.results.mapM (cellRun tmps)
    pure (if h : vs.size = 1 then vs[0] else .tuple vs)) := by
  unfold results
  congr 1

theorem resOne_ok {ρ : Ren} {fr : Fr} {h : Hp} {w : World} {nt : Nat} {a : Act} (hfr : FrOk nt ρ fr a) (hr : RelH ρ h w) {r : ResultVar} {rs : List ResultVar} {rv : RV} {rvs : List RV} {v : V}
    (ht : trRes P (r :: rs) = some (rv :: rvs)) (hv : resOne fr h rv = some v) : ∃ cv, (cellRun a.tmps r).run P w = .ok cv w ∧ Rel ρ v cv := by
  simp only [trRes] at ht
  split at ht
  · rename_i x xs hx hxs
    simp only [Option.some.injEq, List.cons.injEq] at ht
    obtain ⟨rfl, rfl⟩ := ht
    split at hx
    · rename_i t
      simp only [Option.some.injEq] at hx; subst hx
      simp only [resOne, Option.some.injEq] at hv; subst hv
      exact ⟨_, rfl, hfr.rel t⟩
    · rename_i c t
      have hp := hfr.rel c
      split at hx
      · rename_i n ha hn
        simp only [Option.some.injEq] at hx; subst hx
        simp only [resOne] at hv
        unfold sLdA at hv
        split at hv
        · rename_i b o he
          simp only [List.cons.injEq, and_true] at he
          rw [he] at hp
          obtain ⟨l, hl, e1⟩ := hp.ptr_inv
          split at hv
          · rename_i cs hcs
            simp only [Option.some.injEq] at hv; subst hv
            obtain ⟨xs, h3, h4, h5⟩ := cellsAt_ok (P := P) hr hcs hl
            refine ⟨.agg xs.toArray, ?_, ⟨_, rfl, by simpa using h3⟩⟩
            simp only [cellRun, Sem.run_bind, e1, asAddr, Sem.run_pure, Result.andThen_ok, loadVar, run_isAgg ha, if_true, run_sizeOf' hn, h5]
          · exact nomatch hv
        · exact nomatch hv
      · rename_i n ha
        simp only [Option.some.injEq] at hx; subst hx
        simp only [resOne] at hv
        unfold sLd at hv
        split at hv
        · rename_i b o he
          simp only [List.cons.injEq, and_true] at he
          rw [he] at hp
          obtain ⟨l, hl, e1⟩ := hp.ptr_inv
          split at hv
          · rename_i cs ro hg
            obtain ⟨_, arr, el, fz, pre, mid, post, g1, g2, g3, g4, g5, g6⟩ := hr.obj b _ l hg hl
            obtain ⟨cv, hc, hrel⟩ := g6.get hv
            have hlt : o < mid.length := by
              rcases Nat.lt_or_ge o mid.length with h | h
              · exact h
              · rw [List.getElem?_eq_none h] at hc; exact nomatch hc
            have hcell : w.cell? ⟨l.c, l.base + o, none⟩ = some cv := by
              rw [cell?_at g1, ← Array.getElem?_toList, g4, List.getElem?_append_right (by omega), List.getElem?_append_left (by omega)]
              rw [show l.base + o - pre.length = o by omega]; exact hc
            refine ⟨cv, ?_, hrel⟩
            simp only [cellRun, Sem.run_bind, e1, asAddr, Sem.run_pure, Result.andThen_ok, loadVar, run_isAgg ha, Bool.false_eq_true, if_false, run_load, hcell]
          · exact nomatch hv
        · exact nomatch hv
      · exact nomatch hx
  · exact nomatch ht

theorem resAll_ok {ρ : Ren} {fr : Fr} {h : Hp} {w : World} {nt : Nat} {a : Act} (hfr : FrOk nt ρ fr a) (hr : RelH ρ h w) : ∀ {rs : List ResultVar} {rvs : List RV} {vs : List V},
    trRes P rs = some rvs → resAll fr h rvs = some vs → ∃ cvs, (rs.mapM (cellRun a.tmps)).run P w = .ok cvs w ∧ RelL ρ vs cvs
  | [], rvs, vs, ht, hv => by
    simp only [trRes, Option.some.injEq] at ht; subst ht
    simp only [resAll, Option.some.injEq] at hv; subst hv
    exact ⟨[], rfl, rfl⟩
  | r :: rs, rvs, vs, ht, hv => by
    have ht' := ht
    simp only [trRes] at ht
    split at ht
    · rename_i x xs hx hxs
      simp only [Option.some.injEq] at ht; subst ht
      simp only [resAll] at hv
      split at hv
      · rename_i v hv1
        split at hv
        · rename_i vs' hv2
          simp only [Option.some.injEq] at hv; subst hv
          obtain ⟨cv, h1, h2⟩ := resOne_ok hfr hr ht' hv1
          obtain ⟨cvs, h3, h4⟩ := resAll_ok hfr hr hxs hv2
          refine ⟨cv :: cvs, ?_, RelL.cons h2 h4⟩
          simp only [List.mapM_cons, Sem.run_bind, h1, Result.andThen_ok, h3, Sem.run_pure]
        · exact nomatch hv
      · exact nomatch hv
    · exact nomatch ht

theorem resV_ok {ρ : Ren} {fr : Fr} {h : Hp} {w : World} {nt : Nat} {a : Act} (hfr : FrOk nt ρ fr a) (hr : RelH ρ h w) {fn : Func} {rvs : List RV} {v : V} (ht : trRes P fn.results.toList = some rvs) (hv : resV fr h rvs = some v) :
    ∃ cv, (results fn a.tmps).run P w = .ok cv w ∧ Rel ρ v cv := by
  unfold resV at hv
  have key : ∀ vs, resAll fr h rvs = some vs → (match vs with | [u] => some u | vs => some (.tup vs)) = some v → ∃ cv, (results fn a.tmps).run P w = .ok cv w ∧ Rel ρ v cv := fun vs hvs he => by
    obtain ⟨cvs, h1, h2⟩ := resAll_ok hfr hr ht hvs
    have hrun : (fn.results.mapM (cellRun a.tmps)).run P w = .ok cvs.toArray w := by
      rw [Array.mapM_eq_mapM_toList, Sem.run_map, h1]; rfl
    refine ⟨if h : cvs.toArray.size = 1 then cvs.toArray[0] else .tuple cvs.toArray, ?_, ?_⟩
    · rw [results_eq]
      simp only [Sem.run_bind, hrun, Result.andThen_ok, Sem.run_pure]
    · match vs, he, h2 with
      | [u], he, h2 =>
        simp only [Option.some.injEq] at he; subst he
        obtain ⟨x, rfl, hx⟩ := h2.one
        simpa using hx
      | [], he, h2 =>
        simp only [Option.some.injEq] at he; subst he
        rw [RelL.nil_inv h2]
        exact ⟨_, rfl, rfl⟩
      | u1 :: u2 :: us, he, h2 =>
        simp only [Option.some.injEq] at he; subst he
        have hlen := h2.length
        rw [dif_neg (by simp at hlen ⊢; omega)]
        exact ⟨_, rfl, by simpa using h2⟩
  split at hv
  · rename_i u hu; exact key _ hu hv
  · rename_i vs hne hvs
    refine key vs hvs ?_
    match vs, hne with
    | [], _ => exact hv
    | [u], hne => exact (hne u rfl).elim
    | u1 :: u2 :: us, _ => exact hv
  · exact nomatch hv

structure EnvOk (P : Program) (E : Env) : Prop where
  tbl : ∀ f af, E.tbl f = some af → ∃ fn, P.funcs[f]? = some fn ∧ trFunc P fn = some af
  nat : ∀ f g, E.nat f = some g → ∀ args H v H', g args H = some (v, H') → ∀ (ρ : Ren) (w : World) (cargs : Array Value), RelL ρ args cargs.toList → RelH ρ H w →
    CallTo P f cargs w fun cv w' => ∃ ρ', Rel ρ' v cv ∧ RelH ρ' H' w' ∧ Ext ρ H w ρ' H' w'

theorem trFunc_some {fn : Func} {af : AFunc} (h : trFunc P fn = some af) :
    ∃ c, fn.body = some c ∧ (fn.name == "runtime.NumGoroutine") = false ∧ af.dep = depthOf fn.ntmps ∧ trCode P fn.ntmps c = some af.body ∧ trRes P fn.results.toList = some af.res := by
  unfold trFunc at h
  cases hn : (fn.name == "runtime.NumGoroutine") <;> rw [hn] at h
  · simp only [cond_false] at h
    split at h
    · exact nomatch h
    · rename_i c hc
      split at h
      · rename_i b r hb hr
        simp only [Option.some.injEq] at h; subst h
        exact ⟨c, hc, rfl, rfl, hb, hr⟩
      · exact nomatch h
  · exact nomatch h

theorem run_callFunc {f : Nat} {fn : Func} {c : Code} (hf : P.funcs[f]? = some fn) (hb : fn.body = some c) (hn : (fn.name == "runtime.NumGoroutine") = false) (args : Array Value) (w : World) :
    (callFunc f args).run P w = .ok (.enter f args) w := by
  have : ¬ fn.name = "runtime.NumGoroutine" := by simpa using hn
  simp [callFunc, hf, hb, this]

theorem runBody_some {ex : ACode → St → R} {af : AFunc} {args : List V} {h : Hp} {s : St} (hs : runBody ex af args h = some s) :
    args.length < 2 ^ af.dep ∧ ∃ x, ex af.body ⟨initFr args 0 (Tr.full af.dep), h, []⟩ = .ok x s ∧ (x = .n ∨ x = .r) := by
  unfold runBody at hs
  cases hb : Nat.ble (2 ^ af.dep) args.length <;> rw [hb] at hs
  · simp only [cond_false] at hs
    refine ⟨?_, ?_⟩
    · rcases Nat.lt_or_ge args.length (2 ^ af.dep) with h | h
      · exact h
      · rw [Nat.ble_eq_true_of_le h] at hb; exact nomatch hb
    · split at hs
      · rename_i s1 h1; simp only [Option.some.injEq] at hs; subst hs; exact ⟨.n, h1, .inl rfl⟩
      · rename_i s1 h1; simp only [Option.some.injEq] at hs; subst hs; exact ⟨.r, h1, .inr rfl⟩
      · exact nomatch hs
  · exact nomatch hs

theorem defs_ok {E : Env} (hE : EnvOk P E) {ex : ACode → St → R} (hex : ∀ nt c ac, trCode P nt c = some ac → CodeOk P nt c (ex ac)) {fn : Func} {tmps : Array Value} {R0 : Ending → World → Prop} :
    ∀ {ds : List (Nat × List V)} {dfs : List Deferred} {h h' : Hp} {ρ : Ren} {w : World}, runDefs E ex ds h = some h' → DefsOk ρ ds dfs → RelH ρ h w →
      (∀ ρ' w', RelH ρ' h' w' → Ext ρ h w ρ' h' w' → ∃ v, (results fn tmps).run P w' = .ok v w' ∧ R0 (.returned v) w') → Leaves P fn tmps R0 dfs .returning w
  | [], dfs, h, h', ρ, w, hd, hok, hr, hk => by
    simp only [runDefs, Option.some.injEq] at hd; subst hd
    have : dfs = [] := hok
    subst this
    exact hk ρ w hr (Ext.refl _ _ _)
  | (f, args) :: ds, dfs, h, h', ρ, w, hd, hok, hr, hk => by
    obtain ⟨cap, as, rest, rfl, hargs, hrest⟩ := hok
    simp only [runDefs] at hd
    split at hd
    · rename_i af haf
      split at hd
      · rename_i s hs
        split at hd
        · rename_i hsd
          split at hd
          · rename_i v hv
            obtain ⟨fd, hfd, htr⟩ := hE.tbl f af haf
            obtain ⟨c, hb, hn, hdep, hbody, hres⟩ := trFunc_some htr
            obtain ⟨hlen, x, hx, hxx⟩ := runBody_some hs
            refine ⟨FrameMode.noConfusion, Fn.func f, cap, f, as ++ cap, rfl, ?_, ?_⟩
            · simp only [invoke]; exact run_callFunc hfd hb hn _ _
            · have hcall : CallsD P f (as ++ cap) .returning w fun e u' w' => u' = .returning ∧ (∃ cv, e = .returned cv ∧ ∃ ρ', RelH ρ' s.h w' ∧ Ext ρ h w ρ' s.h w') := by
                refine callsD_of_wp (R := fun e w' => ∃ cv, e = .returned cv ∧ ∃ ρ', RelH ρ' s.h w' ∧ Ext ρ h w ρ' s.h w') hfd hb ?_
                rw [hdep] at hx hlen
                refine hex fd.ntmps c af.body hbody _ x s hx ρ _ w (init_ok hargs hlen) hr rfl _ fun e ρ1 a1 w1 hxe f1 f2 f3 f4 => ?_
                rw [hsd] at f3
                have f3' : a1.defers = [] := f3
                obtain ⟨cv, hrun, _⟩ := resV_ok f1 f2 hres hv
                rcases hxx with rfl | rfl
                · rw [hxe.normal]; exact ⟨f3', cv, hrun, cv, rfl, ρ1, f2, f4⟩
                · rw [hxe.ret]; exact ⟨f3', cv, hrun, cv, rfl, ρ1, f2, f4⟩
              intro c0 cs hc0
              obtain ⟨e, u', w', fr', ⟨hu', cv, he, ρ1, hr1, hx1⟩, hcomes⟩ := hcall c0 cs hc0
              subst he; subst hu'
              refine ⟨.returned cv, .returning, w', fr', ?_, hcomes⟩
              exact defs_ok hE hex hd (hrest.mono hx1.ren) hr1 fun ρ2 w2 g1 g2 => hk ρ2 w2 g1 (Ext.trans hr hx1 g2)
          · exact nomatch hd
        · exact nomatch hd
      · exact nomatch hd
    · exact nomatch hd

theorem callF_ok {E : Env} (hE : EnvOk P E) {ex : ACode → St → R} (hex : ∀ nt c ac, trCode P nt c = some ac → CodeOk P nt c (ex ac)) : CFok P (callF E ex) := by
  intro f args H v H' he ρ w cargs hrel hr
  unfold callF at he
  split at he
  · rename_i g hg
    exact hE.nat f g hg args H v H' he ρ w cargs hrel hr
  · split at he
    · exact nomatch he
    · rename_i af haf
      split at he
      · exact nomatch he
      · rename_i s hs
        split at he
        · exact nomatch he
        · rename_i h1 hd
          split at he
          · rename_i v' hv
            simp only [Option.some.injEq, Prod.mk.injEq] at he
            obtain ⟨rfl, rfl⟩ := he
            obtain ⟨fn, hfn, htr⟩ := hE.tbl f af haf
            obtain ⟨c, hb, hn, hdep, hbody, hres⟩ := trFunc_some htr
            obtain ⟨hlen, x, hx, hxx⟩ := runBody_some hs
            refine .inl ⟨w, run_callFunc hfn hb hn _ _, ?_⟩
            refine calls_of_wp_defers hfn hb ?_
            rw [hdep] at hx hlen
            refine hex fn.ntmps c af.body hbody _ x s hx ρ _ w (init_ok hrel hlen) hr rfl _ fun e ρ1 a1 w1 hxe f1 f2 f3 f4 => ?_
            have hleave : Leaves P fn a1.tmps (fun | .returned v, w'' => (∃ ρ', Rel ρ' v' v ∧ RelH ρ' h1 w'' ∧ Ext ρ H w ρ' h1 w'') | _, _ => False) a1.defers .returning w1 := by
              refine defs_ok hE hex hd f3 f2 fun ρ2 w2 g1 g2 => ?_
              obtain ⟨cv, hrun, hcv⟩ := resV_ok (f1.mono g2.ren) g1 hres hv
              exact ⟨cv, hrun, ρ2, hcv, g1, Ext.trans hr f4 g2⟩
            rcases hxx with rfl | rfl
            · rw [hxe.normal]; exact hleave
            · rw [hxe.ret]; exact hleave
          · exact nomatch he

theorem run_ok (hm : P.follows .mixedOrders = true) {E : Env} (hE : EnvOk P E) : ∀ n : Nat,
    (∀ nt c ac, trCode P nt c = some ac → CodeOk P nt c (execN E n ac)) ∧
    (∀ nt cb b, trCode P nt cb = some b → ∀ s x s', execN E n (.loop b) s = .ok x s' → ∀ (ρ : Ren) (a : Act) (w : World), FrOk nt ρ s.fr a → RelH ρ s.h w → DefsOk ρ s.ds a.defers → ∀ Q : Exit → Act → World → Prop,
      (∀ e ρ' a' w', XOk x e → FrOk nt ρ' s'.fr a' → RelH ρ' s'.h w' → DefsOk ρ' s'.ds a'.defers → Ext ρ s.h w ρ' s'.h w' → Q e a' w') → Code.rounds P cb Q n a w)
  | 0 => ⟨fun nt c ac h s x s' he => (nomatch he), fun nt cb b h s x s' he => (nomatch he)⟩
  | n + 1 => by
    obtain ⟨ih1, ih2⟩ := run_ok hm hE n
    have hcf := callF_ok hE ih1
    have hlf : ∀ nt cb b, trCode P nt cb = some b → ∀ s x s', (match execN E n b s with | .ok .n s' => execN E n (.loop b) s' | r => r) = .ok x s' → ∀ (ρ : Ren) (a : Act) (w : World), FrOk nt ρ s.fr a → RelH ρ s.h w → DefsOk ρ s.ds a.defers →
        ∀ Q : Exit → Act → World → Prop, (∀ e ρ' a' w', XOk x e → FrOk nt ρ' s'.fr a' → RelH ρ' s'.h w' → DefsOk ρ' s'.ds a'.defers → Ext ρ s.h w ρ' s'.h w' → Q e a' w') → Code.rounds P cb Q (n + 1) a w := by
      intro nt cb b hb s x s' he ρ a w hfr hr hd Q hQ
      rw [rounds_succ]
      split at he
      · rename_i s1 hs1
        refine ih1 nt cb b hb s _ s1 hs1 ρ a w hfr hr hd _ fun e ρ1 a1 w1 hx f1 f2 f3 f4 => ?_
        rw [hx.normal]
        exact ih2 nt cb b hb s1 x s' he ρ1 a1 w1 f1 f2 f3 Q fun e ρ2 a2 w2 hx g1 g2 g3 g4 => hQ e ρ2 a2 w2 hx g1 g2 g3 (Ext.trans hr f4 g4)
      · rename_i hne
        refine ih1 nt cb b hb s x s' he ρ a w hfr hr hd _ fun e ρ1 a1 w1 hx f1 f2 f3 f4 => ?_
        have hq := hQ e ρ1 a1 w1 hx f1 f2 f3 f4
        cases x with
        | n => exact absurd he (hne s')
        | x i => rw [hx.exit] at hq ⊢; exact hq
        | r => rw [hx.ret] at hq ⊢; exact hq
    refine ⟨fun nt c ac h => ?_, hlf⟩
    exact exec_ok hm hcf (fun cb b hb s x s' he ρ a w hfr hr hd Q hQ => wp_loop_rounds (n + 1) (hlf nt cb b hb s x s' he ρ a w hfr hr hd Q hQ)) c ac h

theorem callN_ok (hm : P.follows .mixedOrders = true) {E : Env} (hE : EnvOk P E) (n : Nat) : CFok P (callN E n) := callF_ok hE (run_ok hm hE n).1

end Go.Aev
