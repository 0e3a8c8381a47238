/- The abstract interpreter: regions that draw their order; what holds on the way. -/
import Derived.Test.YtbnabgaepphlnaaGreatAevDrawA
set_option linter.unusedVariables false
set_option linter.unusedSimpArgs false
namespace Go.Aev
open Go
variable {P : Program}

structure DCtx (P : Program) where
  cf : CF
  nt : Nat
  ops : Array Oper
  l : List AOper
  ms : List Nat
  hcf : CFok P cf
  hl : ops.toList.mapM (trOper P nt ops) = some l
  hms : masksFrom ops.toList 0 [] = some ms
  htm : tmpsOk l ms = true
  hnd : l.all notDfr = true
  f0 : Nat → V
  ρ0 : Ren
  H0 : Hp
  w0 : World
  hr0 : RelH ρ0 H0 w0
  ds0 : List (Nat × List V)
  d0 : List Deferred

def DCtx.M (C : DCtx P) (i y : Nat) : Bool := (maskOf C.ms i).testBit y
def DCtx.vs (C : DCtx P) (r : Nat → V) (i : Nat) (o : AOper) : List V := evArgsF (cur C.l r C.f0 (C.M i)) o.args
def DCtx.wt (C : DCtx P) (r : Nat → V) (i : Nat) (o : AOper) : Bool := wantedF (cur C.l r C.f0 (C.M i)) o.g

/-- An operation that we have done and the model hasn't. -/
inductive LagK (C : DCtx P) (r : Nat → V) (ρ : Ren) (H : Hp) (pd : List Pend) (pl : List (Nat × Nat)) (i : Nat) (o : AOper) : Prop
  | no (hw : C.wt r i o = false) (hr : r i = V.undef)
  | p (hw : C.wt r i o = true) (hk : o.k.kd = .p) (hs : ∀ g, step o.k (C.vs r i o) g = some (r i, g))
  | l (hw : C.wt r i o = true) (hk : o.k.kd = .l) (hs : readOf o.k (C.vs r i o) H = some (r i)) (f : Nat) (hf : (i, f) ∈ pl) (hp : f ≠ 0 → (⟨o.k, C.vs r i o, r i, f⟩ : Pend) ∈ pd)
  | a (hw : C.wt r i o = true) (hk : o.k.kd = .a) (s : Sh) (b : Nat) (ob : O) (hv : r i = s.mk b) (hs : ∀ g : Hp, step o.k (C.vs r i o) g = some (s.mk g.nx, g.new ob))
      (hg : H.get b = some ob ∨ H.get b = none) (hn : ρ b = none) (h0 : C.H0.nx ≤ b) (hb : b < H.nx)

structure DInv (C : DCtx P) (D : Array Bool) (dn de : Nat) (pl : List (Nat × Nat)) (ds : List DOper) (s : St) (pd : List Pend) (r : Nat → V) (ρ : Ren) (a : Act) (w : World) : Prop where
  dsz : D.size = C.ops.size
  sub : ∀ i, D.getD i false = true → dn.testBit i = true
  lt : ∀ i, dn.testBit i = true → i < C.l.length
  lag : ∀ i, dn.testBit i = true → D.getD i false = false → ∀ o, C.l[i]? = some o → isE o.k.kd = false ∧ LagK C r ρ s.h pd pl i o
  cl : ∀ i, D.getD i false = true → ∀ y, C.M i y = true → D.getD y false = true
  cln : ∀ i, dn.testBit i = true → ∀ y, C.M i y = true → dn.testBit y = true
  deD : ∀ i, de.testBit i = true → D.getD i false = true
  ok : dOk C.l.length C.ms ds dn de pl = true
  hds : ∀ o ∈ ds, C.l[o.ix]? = some o.o
  fr : ∀ t, getF s.fr t = cur C.l r C.f0 (fun i => dn.testBit i) t
  has : ∀ t, t < C.nt → s.fr.has t = true
  rel : ∀ t, Rel ρ (cur C.l r C.f0 (fun i => D.getD i false) t) (a.tmps.getD t undef)
  tsz : C.nt ≤ a.tmps.size
  rh : RelH ρ s.h w
  ext : Ext C.ρ0 C.H0 C.w0 ρ s.h w
  sds : s.ds = C.ds0
  adf : a.defers = C.d0
  inj : ∀ i i' o o', dn.testBit i = true → D.getD i false = false → C.l[i]? = some o → o.k.kd = .a → C.wt r i o = true →
    dn.testBit i' = true → D.getD i' false = false → C.l[i']? = some o' → o'.k.kd = .a → C.wt r i' o' = true → (r i).blk = (r i').blk → i = i'

section
variable (C : DCtx P)

theorem DCtx.llen : C.l.length = C.ops.size := by
  have := (mapM_some C.hl).1
  simpa using this.symm
theorem DCtx.tr {i : Nat} {o : Oper} (ho : C.ops[i]? = some o) : ∃ ao, C.l[i]? = some ao ∧ trOper P C.nt C.ops o = some ao := by
  have hi : i < C.ops.size := (Array.getElem?_eq_some_iff.1 ho).1
  have hil : i < C.l.length := by rw [C.llen]; exact hi
  have ho' : C.ops.toList[i]? = some o := by simpa using ho
  exact ⟨C.l[i], List.getElem?_eq_getElem hil, (mapM_some C.hl).2 i o C.l[i] ho' (List.getElem?_eq_getElem hil)⟩
theorem DCtx.tr' {i : Nat} {ao : AOper} (ho : C.l[i]? = some ao) : ∃ o, C.ops[i]? = some o ∧ trOper P C.nt C.ops o = some ao := by
  have hil : i < C.l.length := (List.getElem?_eq_some_iff.1 ho).1
  have hi : i < C.ops.size := by rw [← C.llen]; exact hil
  have ho' : C.ops.toList[i]? = some C.ops[i] := by simp [hi]
  exact ⟨C.ops[i], by simp [hi], (mapM_some C.hl).2 i _ ao ho' ho⟩
theorem DCtx.dst_lt {i t : Nat} (h : dstOf C.l i = some t) : t < C.nt := by
  have hil := dstOf_lt h
  obtain ⟨o, ho, htr⟩ := C.tr' (List.getElem?_eq_getElem hil)
  obtain ⟨_, _, h3, h4⟩ := trOper_some htr
  refine h4 t ?_
  rw [← h3]; simpa [dstOf, hil] using h
theorem DCtx.M_lt {i y : Nat} (h : C.M i y = true) : y < i := mask_lt C.hms i y h
theorem DCtx.comp {i j t : Nat} {o : AOper} (hi : dstOf C.l i = some t) (hj : C.l[j]? = some o) (ht : t ∈ namesOf o) (hne : i ≠ j) : C.M j i = true ∨ C.M i j = true := tmpsOk_spec C.htm hi hj ht hne

/-- In the slots that an operation names stands, just before it is done, what those gave that it waits for. -/
theorem cur_named {T : Nat → Bool} {j : Nat} {o : AOper} (ho : C.l[j]? = some o) (hM : ∀ y, C.M j y = true → T y = true) (hj : T j = false) (hcl : ∀ i, T i = true → ∀ y, C.M i y = true → T y = true) (r : Nat → V) {t : Nat} (ht : t ∈ namesOf o) :
    cur C.l r C.f0 T t = cur C.l r C.f0 (C.M j) t := by
  refine cur_congr fun i hi => ⟨?_, fun _ => rfl⟩
  by_cases e : i = j
  · subst e
    rw [hj]
    cases hm : C.M i i
    · rfl
    · exact absurd (C.M_lt hm) (Nat.lt_irrefl _)
  · rcases C.comp hi ho ht e with h | h
    · rw [h, hM i h]
    · have h1 : T i = false := by
        cases hT : T i
        · rfl
        · rw [hcl i hT j h] at hj; exact nomatch hj
      have h2 : C.M j i = false := by
        cases hm : C.M j i
        · rfl
        · have := C.M_lt hm; have := C.M_lt h; omega
      rw [h1, h2]

theorem vs_named {T : Nat → Bool} {j : Nat} {o : AOper} (ho : C.l[j]? = some o) (hM : ∀ y, C.M j y = true → T y = true) (hj : T j = false) (hcl : ∀ i, T i = true → ∀ y, C.M i y = true → T y = true) (r : Nat → V) :
    evArgsF (cur C.l r C.f0 T) o.args = C.vs r j o := evArgsF_congr fun t ht => cur_named C ho hM hj hcl r (names_args ht)
theorem wt_named {T : Nat → Bool} {j : Nat} {o : AOper} (ho : C.l[j]? = some o) (hM : ∀ y, C.M j y = true → T y = true) (hj : T j = false) (hcl : ∀ i, T i = true → ∀ y, C.M i y = true → T y = true) (r : Nat → V) :
    wantedF (cur C.l r C.f0 T) o.g = C.wt r j o := wantedF_congr fun p hp => cur_named C ho hM hj hcl r (names_g hp)

def upd (r : Nat → V) (i : Nat) (v : V) : Nat → V := fun x => if x = i then v else r x
theorem upd_same (r : Nat → V) (i : Nat) (v : V) : upd r i v i = v := by simp [upd]
theorem upd_ne {r : Nat → V} {i x : Nat} (v : V) (h : x ≠ i) : upd r i v x = r x := by simp [upd, h]

/-- What is given later isn't looked at. -/
theorem cur_M_upd {i j : Nat} (r : Nat → V) (v : V) (h : C.M i j = false) (t : Nat) : cur C.l (upd r j v) C.f0 (C.M i) t = cur C.l r C.f0 (C.M i) t :=
  cur_congr fun x _ => ⟨rfl, fun hx => upd_ne v fun e => by subst e; rw [hx] at h; exact nomatch h⟩
theorem vs_upd {i j : Nat} {o : AOper} (r : Nat → V) (v : V) (h : C.M i j = false) : C.vs (upd r j v) i o = C.vs r i o := evArgsF_congr fun t _ => cur_M_upd C r v h t
theorem wt_upd {i j : Nat} {o : AOper} (r : Nat → V) (v : V) (h : C.M i j = false) : C.wt (upd r j v) i o = C.wt r i o := wantedF_congr fun p _ => cur_M_upd C r v h p.1

/-- A slot after one more operation. -/
theorem cur_more {T T' : Nat → Bool} {j : Nat} {o : AOper} {r r' : Nat → V} (ho : C.l[j]? = some o) (hj : T j = false) (hcl : ∀ i, T i = true → ∀ y, C.M i y = true → T y = true) (hM : ∀ y, C.M j y = true → T y = true)
    (hT' : ∀ i, T' i = (T i || decide (i = j))) (hr : ∀ i, T i = true → r' i = r i) (t : Nat) :
    cur C.l r' C.f0 T' t = if o.dst = some t then r' j else cur C.l r C.f0 T t := by
  have hdj : dstOf C.l j = o.dst := by simp [dstOf, ho]
  by_cases hd : o.dst = some t
  · rw [if_pos hd]
    refine cur_last (by rw [hT']; simp) (hdj.trans hd) fun i hi hdi => ?_
    rw [hT']
    have hne : i ≠ j := by omega
    simp only [hne, decide_false, Bool.or_false]
    cases hTi : T i
    · rfl
    · exfalso
      rcases C.comp hdi ho (names_dst hd) hne with h | h
      · have := C.M_lt h; omega
      · rw [hcl i hTi j h] at hj; exact nomatch hj
  · rw [if_neg hd]
    refine cur_congr fun i hi => ?_
    have hne : i ≠ j := fun e => by subst e; exact hd (hdj.symm.trans hi)
    rw [hT']
    simp only [hne, decide_false, Bool.or_false, true_and]
    exact fun h => hr i h

theorem relH_new_pend {ρ : Ren} {H : Hp} {w : World} (hr : RelH ρ H w) (ob : O) : RelH ρ (H.new ob) w := by
  have hn : ρ H.nx = none := hr.nx _ (Nat.le_refl _)
  have hg : ∀ b l, ρ b = some l → (H.new ob).get b = H.get b := fun b l hl => by
    rw [Hp.get_new, if_neg]
    intro e; subst e; rw [hn] at hl; exact nomatch hl
  refine ⟨hr.lt, fun b hb => hr.nx b (Nat.le_trans (Nat.le_succ _) hb), fun b hb => ?_, fun b o l h1 h2 => ?_, fun b b' o o' l l' h1 h2 h3 h4 => ?_⟩
  · have hb' : H.nx + 1 ≤ b := hb
    rw [Hp.get_new, if_neg (by omega)]
    exact hr.ng b (by omega)
  · rw [hg b l h2] at h1; exact hr.obj b o l h1 h2
  · rw [hg b l h3] at h1; rw [hg b' l' h4] at h2
    exact hr.inj b b' o o' l l' h1 h2 h3 h4

theorem ext_new_pend {ρ0 ρ : Ren} {H0 H : Hp} {w0 w : World} (he : Ext ρ0 H0 w0 ρ H w) (ob : O) : Ext ρ0 H0 w0 ρ (H.new ob) w := by
  have hnx := he.nx
  have hg : ∀ b, b < H0.nx → (H.new ob).get b = H.get b := fun b hb => by rw [Hp.get_new, if_neg (by omega)]
  refine ⟨he.ren, fun b hb h => ?_, Nat.le_trans hnx (Nat.le_succ _), fun b hb h => ?_, he.new, he.size, he.same, he.os⟩
  · obtain ⟨h1, h2⟩ := he.pend b hb h
    exact ⟨h1, by rw [hg b hb, h2]⟩
  · rw [hg b hb]; exact he.dead b hb h

theorem get_new_some {H : Hp} {b : Nat} {ob o : O} (hng : ∀ b, H.nx ≤ b → H.get b = none) (h : H.get b = some o) : (H.new ob).get b = some o := by
  rw [Hp.get_new, if_neg]; exact h
  intro e; subst e; rw [hng _ (Nat.le_refl _)] at h; exact nomatch h

theorem kd_cases (k : OpK) : isE k.kd = true ∨ k.kd = .p ∨ k.kd = .l ∨ k.kd = .a := by
  cases k.kd <;> simp [isE]

theorem stepC_notE {cf : CF} {k : OpK} (h : isE k.kd = false) (vs : List V) (H : Hp) : stepC cf k vs H = step k vs H := by
  cases k <;> first | rfl | (exact absurd h Bool.noConfusion)

/-- We go on by one operation that is no act; the model stays. -/
theorem advance_one {D : Array Bool} {dn de : Nat} {pl : List (Nat × Nat)} {o : DOper} {os : List DOper} {s sF : St} {pd : List Pend} {r : Nat → V} {ρ : Ren} {a : Act} {w : World}
    (hi : DInv C D dn de pl (o :: os) s pd r ρ a w) (hE : isE o.o.k.kd = false) (hev : evDOps C.cf (o :: os) s pd = some sF) :
    ∃ dn' pl' s' pd' r', DInv C D dn' de pl' os s' pd' r' ρ a w ∧ evDOps C.cf os s' pd' = some sF := by
  obtain ⟨k1, k2, k3, k4, k5⟩ := dOk_cons hi.ok
  have ho : C.l[o.ix]? = some o.o := hi.hds o (by simp)
  obtain ⟨oo, hoo, htr⟩ := C.tr' ho
  obtain ⟨hk, hg, hdst, hdlt⟩ := trOper_some htr
  simp only [evDOps] at hev
  split at hev
  · rename_i s' he
    rw [hE] at hev
    simp only [cond_false] at hev
    have hDj : D.getD o.ix false = false := by
      cases hD : D.getD o.ix false
      · rfl
      · rw [hi.sub _ hD] at k1; exact nomatch k1
    -- what is looked at
    have hfrf : getF s.fr = cur C.l r C.f0 (fun i => dn.testBit i) := funext hi.fr
    have hvs : evArgs s.fr o.o.args = C.vs r o.ix o.o := by
      rw [evArgs_eq, hfrf]; exact vs_named C ho (fun y hy => k3 y hy) k1 hi.cln r
    have hwt : wantedA s.fr o.o.g = C.wt r o.ix o.o := by
      rw [wantedA_eq, hfrf]; exact wt_named C ho (fun y hy => k3 y hy) k1 hi.cln r
    -- what comes of it
    obtain ⟨v, H', hfr', hh', hds', hcase⟩ : ∃ v H', s'.fr = putF s.fr o.o.dst v ∧ s'.h = H' ∧ s'.ds = s.ds ∧
        ((C.wt r o.ix o.o = false ∧ v = V.undef ∧ H' = s.h) ∨ (C.wt r o.ix o.o = true ∧ step o.o.k (C.vs r o.ix o.o) s.h = some (v, H'))) := by
      unfold evOper at he
      rw [hwt] at he
      cases hw : C.wt r o.ix o.o <;> rw [hw] at he
      · simp only [cond_false, Option.some.injEq] at he
        subst he
        exact ⟨V.undef, s.h, rfl, rfl, rfl, .inl ⟨rfl, rfl, rfl⟩⟩
      · simp only [cond_true] at he
        split at he
        · rename_i hdf; rw [hdf] at hE; exact nomatch hE
        · rw [stepC_notE hE, hvs] at he
          split at he
          · rename_i v h' hst
            simp only [Option.some.injEq] at he
            subst he
            exact ⟨v, h', rfl, rfl, rfl, .inr ⟨rfl, hst⟩⟩
          · exact nomatch he
    have hMj : C.M o.ix o.ix = false := by
      cases hm : C.M o.ix o.ix
      · rfl
      · exact absurd (C.M_lt hm) (Nat.lt_irrefl _)
    have hMi : ∀ i, dn.testBit i = true → C.M i o.ix = false := fun i h => by
      cases hm : C.M i o.ix
      · rfl
      · rw [hi.cln i h _ hm] at k1; exact nomatch k1
    have hne : ∀ i, dn.testBit i = true → i ≠ o.ix := fun i h e => by subst e; rw [h] at k1; exact nomatch k1
    -- the heap
    have hheap : H' = s.h ∨ ∃ ob, H' = s.h.new ob := by
      rcases hcase with ⟨_, _, h⟩ | ⟨_, h⟩
      · exact .inl h
      · rcases kd_cases o.o.k with h' | h' | h' | h'
        · rw [hE] at h'; exact nomatch h'
        · exact .inl (pure_form h' h).1
        · exact .inl (read_form h' h).1
        · obtain ⟨_, ob, _, h2, _⟩ := new_form h' h; exact .inr ⟨ob, h2⟩
    have hrh : RelH ρ H' w := by
      rcases hheap with rfl | ⟨ob, rfl⟩
      · exact hi.rh
      · exact relH_new_pend hi.rh ob
    have hext : Ext C.ρ0 C.H0 C.w0 ρ H' w := by
      rcases hheap with rfl | ⟨ob, rfl⟩
      · exact hi.ext
      · exact ext_new_pend hi.ext ob
    have hmono : s.h.le H' := by
      rcases hheap with rfl | ⟨ob, rfl⟩
      · exact fun _ _ h => h
      · exact fun b o' h => get_new_some hi.rh.ng h
    have hnx : s.h.nx ≤ H'.nx := by
      rcases hheap with rfl | ⟨ob, rfl⟩
      · exact Nat.le_refl _
      · exact Nat.le_succ _
    have hget : ∀ b, b < s.h.nx → H'.get b = s.h.get b := by
      rcases hheap with rfl | ⟨ob, rfl⟩
      · exact fun b hb => rfl
      · exact fun b hb => by rw [Hp.get_new, if_neg (by omega)]
    -- the lists of readings
    obtain ⟨pl', hpl, hok', hplo, hself⟩ : ∃ pl', (∀ p ∈ pl, p ∈ pl') ∧ dOk C.l.length C.ms os (dn ||| 2 ^ o.ix) de pl' = true ∧
        (isL o.o.k.kd = true → (o.ix, o.fl) ∈ pl') ∧ (isL o.o.k.kd = true → o.fl ≠ 0 → o.o.dst.isSome = true) := by
      rcases k5 with ⟨h, _⟩ | ⟨_, h2, h3, h4⟩ | ⟨_, h2, h3⟩
      · rw [hE] at h; exact nomatch h
      · exact ⟨_, fun p hp => List.mem_cons_of_mem _ hp, h4, fun _ => List.mem_cons_self .., fun _ => h3⟩
      · exact ⟨pl, fun p hp => hp, h3, fun h => absurd (h2.symm.trans h) Bool.noConfusion, fun h => absurd (h2.symm.trans h) Bool.noConfusion⟩
    have hpd : ∀ p ∈ pd, p ∈ addPend o s s' pd := fun p hp => by
      unfold addPend
      cases isL o.o.k.kd && wantedA s.fr o.o.g && !Nat.beq o.fl 0
      · exact hp
      · simp only [cond_true]
        split
        · exact List.mem_cons_of_mem _ hp
        · exact hp
    -- the results
    have hrold : ∀ i, dn.testBit i = true → upd r o.ix v i = r i := fun i h => upd_ne v (hne i h)
    have hdn' : ∀ i, (dn ||| 2 ^ o.ix).testBit i = (dn.testBit i || decide (i = o.ix)) := fun i => by
      rw [bits_or]; congr 1; exact decide_eq_decide.2 eq_comm
    have hlagold : ∀ i o', dn.testBit i = true → LagK C r ρ s.h pd pl i o' → LagK C (upd r o.ix v) ρ H' (addPend o s s' pd) pl' i o' := fun i o' h hl => by
      have e1 := vs_upd C (o := o') r v (hMi i h)
      have e2 := wt_upd C (o := o') r v (hMi i h)
      have e3 := hrold i h
      cases hl with
      | no hw hr => exact .no (by rw [e2, hw]) (by rw [e3, hr])
      | p hw hk hs => exact .p (by rw [e2, hw]) hk (by rw [e1, e3]; exact hs)
      | l hw hk hs f hf hp => exact .l (by rw [e2, hw]) hk (by rw [e1, e3]; exact read_mono hmono hs) f (hpl _ hf) (by rw [e1, e3]; exact fun h => hpd _ (hp h))
      | a hw hk sh b ob hv hs hg hn h0 hb => exact .a (by rw [e2, hw]) hk sh b ob (by rw [e3, hv]) (by rw [e1]; exact hs) (by rw [hget b hb]; exact hg) hn h0 (Nat.lt_of_lt_of_le hb hnx)
    have hlagnew : LagK C (upd r o.ix v) ρ H' (addPend o s s' pd) pl' o.ix o.o := by
      have e1 := vs_upd C (o := o.o) r v hMj
      have e2 := wt_upd C (o := o.o) r v hMj
      have e3 := upd_same r o.ix v
      rcases hcase with ⟨hw, hv, _⟩ | ⟨hw, hs⟩
      · exact .no (by rw [e2, hw]) (by rw [e3, hv])
      · rcases kd_cases o.o.k with h' | h' | h' | h'
        · rw [hE] at h'; exact nomatch h'
        · exact .p (by rw [e2, hw]) h' (by rw [e1, e3]; exact (pure_form h' hs).2)
        · have hL : isL o.o.k.kd = true := by rw [h']; rfl
          obtain ⟨hh, hrd⟩ := read_form h' hs
          refine .l (by rw [e2, hw]) h' (by rw [e1, e3, hh]; exact hrd) o.fl (hplo hL) fun hf => ?_
          have hds := hself hL hf
          rw [e1, e3]
          obtain ⟨d, hd⟩ := Option.isSome_iff_exists.1 hds
          have hgf : getF s'.fr d = v := by
            rw [hfr', hd]
            simp only [putF]
            rw [getF_set (hi.has d (hdlt d (hdst ▸ hd)))]; simp
          unfold addPend
          have hfl : (!Nat.beq o.fl 0) = true := by
            cases hb : Nat.beq o.fl 0
            · rfl
            · exact absurd (Nat.eq_of_beq_eq_true hb) hf
          rw [hL, hwt, hw, hfl]
          simp only [Bool.true_and, cond_true, hd, hgf, hvs]
          exact List.mem_cons_self ..
        · obtain ⟨sh, ob, h1, h2, h3⟩ := new_form h' hs
          refine .a (by rw [e2, hw]) h' sh s.h.nx ob (by rw [e3, h1]) (by rw [e1]; exact h3) ?_ (hi.rh.nx _ (Nat.le_refl _)) hi.ext.nx (by rw [h2]; exact Nat.lt_succ_self _)
          rw [h2, Hp.get_new, if_pos rfl]
          cases s.h.t.has s.h.nx
          · exact .inr rfl
          · exact .inl rfl
    have hrelcur : ∀ t, cur C.l (upd r o.ix v) C.f0 (fun i => D.getD i false) t = cur C.l r C.f0 (fun i => D.getD i false) t := fun t =>
      cur_congr fun i _ => ⟨rfl, fun h => hrold i (hi.sub i h)⟩
    have hblk : ∀ i o', dn.testBit i = true → D.getD i false = false → C.l[i]? = some o' → o'.k.kd = .a → C.wt r i o' = true → (r i).blk < s.h.nx := fun i o' h1 h2 h3 h4 h5 => by
      obtain ⟨_, hl⟩ := hi.lag i h1 h2 o' h3
      cases hl with
      | no hw _ => rw [hw] at h5; exact nomatch h5
      | p _ hk _ => rw [hk] at h4; exact nomatch h4
      | l _ hk _ _ _ _ => rw [hk] at h4; exact nomatch h4
      | a _ _ sh b ob hv _ _ _ _ hb => rw [hv, Sh.blk_mk]; exact hb
    have hnewblk : o.o.k.kd = .a → C.wt r o.ix o.o = true → v.blk = s.h.nx := fun h4 h5 => by
      rcases hcase with ⟨hw, _, _⟩ | ⟨_, hs⟩
      · rw [hw] at h5; exact nomatch h5
      · obtain ⟨sh, ob, h1, _, _⟩ := new_form h4 hs
        rw [h1, Sh.blk_mk]
    refine ⟨dn ||| 2 ^ o.ix, pl', s', addPend o s s' pd, upd r o.ix v, ?_, hev⟩
    refine ⟨hi.dsz, fun i h => by rw [hdn', hi.sub i h]; rfl, fun i h => ?_, fun i h hD o' ho' => ?_, hi.cl, fun i h y hy => ?_, hi.deD, hok', fun o' ho' => hi.hds o' (List.mem_cons_of_mem _ ho'), fun t => ?_, fun t ht => ?_,
      fun t => by rw [hrelcur]; exact hi.rel t, hi.tsz, by rw [hh']; exact hrh, by rw [hh']; exact hext, hds'.trans hi.sds, hi.adf, ?_⟩
    · rw [hdn'] at h
      simp only [Bool.or_eq_true, decide_eq_true_eq] at h
      rcases h with h | rfl
      · exact hi.lt i h
      · exact k2
    · rw [hdn'] at h
      simp only [Bool.or_eq_true, decide_eq_true_eq] at h
      rw [hh']
      rcases h with h | rfl
      · obtain ⟨h1, h2⟩ := hi.lag i h hD o' ho'
        exact ⟨h1, hlagold i o' h h2⟩
      · rw [ho] at ho'; cases ho'
        exact ⟨hE, hlagnew⟩
    · rw [hdn'] at h
      rw [hdn']
      simp only [Bool.or_eq_true, decide_eq_true_eq] at h
      rcases h with h | rfl
      · rw [hi.cln i h y hy]; rfl
      · rw [k3 y hy]; rfl
    · rw [cur_more C ho (T := fun i => dn.testBit i) (r := r) k1 hi.cln (fun y hy => k3 y hy) hdn' hrold t, upd_same, hfr']
      cases hd : o.o.dst with
      | none => simp only [putF]; rw [if_neg (fun h => nomatch h)]; exact hi.fr t
      | some d =>
        simp only [putF]
        rw [getF_set (hi.has d (hdlt d (hdst ▸ hd)))]
        by_cases e : d = t
        · subst e; simp
        · rw [if_neg e, if_neg (fun h => e (Option.some.inj h))]; exact hi.fr t
    · rw [hfr']
      cases o.o.dst with
      | none => exact hi.has t ht
      | some d => simp only [putF, Tr.has_set]; exact hi.has t ht
    · intro i i' o1 o2 a1 a2 a3 a4 a5 b1 b2 b3 b4 b5 hb
      rw [hdn'] at a1 b1
      simp only [Bool.or_eq_true, decide_eq_true_eq] at a1 b1
      have ewt : ∀ i o', dn.testBit i = true → C.wt (upd r o.ix v) i o' = C.wt r i o' := fun i o' h => wt_upd C r v (hMi i h)
      rcases a1 with a1 | rfl <;> rcases b1 with b1 | rfl
      · rw [hrold i a1, hrold i' b1] at hb
        rw [ewt i o1 a1] at a5
        rw [ewt i' o2 b1] at b5
        exact hi.inj i i' o1 o2 a1 a2 a3 a4 a5 b1 b2 b3 b4 b5 hb
      · rw [ho] at b3; cases b3
        rw [wt_upd C r v hMj] at b5
        rw [hrold i a1, upd_same, hnewblk b4 b5] at hb
        rw [ewt i o1 a1] at a5
        have := hblk i o1 a1 a2 a3 a4 a5
        omega
      · rw [ho] at a3; cases a3
        rw [wt_upd C r v hMj] at a5
        rw [hrold i' b1, upd_same, hnewblk a4 a5] at hb
        rw [ewt i' o2 b1] at b5
        have := hblk i' o2 b1 b2 b3 b4 b5
        omega
      · rfl
  · exact nomatch hev

end
end Go.Aev
