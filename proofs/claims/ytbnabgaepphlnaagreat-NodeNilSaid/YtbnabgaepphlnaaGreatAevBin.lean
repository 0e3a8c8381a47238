/- The abstract interpreter: the operations on two values. -/
import Derived.Test.YtbnabgaepphlnaaGreatAevEq
import Derived.Laws.StructEq
set_option linter.unusedVariables false
set_option linter.unusedSimpArgs false
namespace Go.Aev
open Go
variable {P : Program}

/-- Values whose `==` asks the type. -/
def asksType : Value → Value → Bool
  | .bool _, .bool _ => true
  | .pointer _, .pointer _ => true
  | .slice .., .slice .. => true
  | .map _, .map _ => true
  | .nilFunc, .nilFunc => true
  | .nilFunc, .func .. => true
  | .func .., .nilFunc => true
  | .nilIface, .nilIface => true
  | .nilIface, .iface .. => true
  | .iface .., .nilIface => true
  | .agg _, .agg _ => true
  | _, _ => false

theorem binOp_asks {x y : Value} (h : asksType x y = true) (t : TypeId) {b : Bool} {w : World} (he : (Op.equal t x y).run P w = .ok b w) :
    (binOp .eql t x y).run P w = .ok (.bool b) w ∧ (binOp .neq t x y).run P w = .ok (.bool (!b)) w := by
  unfold asksType at h
  split at h
  all_goals first
    | (exact absurd h Bool.false_ne_true)
    | (constructor <;> simp only [binOp, Sem.run_bind, he, Result.andThen_ok, Sem.run_pure])

def isNeq (op : BinOp) : Bool := op matches .neq

def notPair : Value → Value → Bool
  | .nilIface, .nilIface => false
  | .agg _, .agg _ => false
  | _, _ => true

theorem guard_notPair {op : BinOp} {t : TypeId} {x y : Operand} {a b : Value} (h : notPair a b = true) (w : World) : (eqGuard op t x y a b).run P w = .ok () w :=
  eqGuard_none w (fun e e' => by subst e; subst e'; exact nomatch h) (fun u v e e' => by subst e; subst e'; exact nomatch h)

/-- The shapes of two values that are held against each other. -/
theorem eqv_shape {ρ : Ren} {d : Nat} {t : TypeId} {e : EqT} (he : trEq P d t = some e) {ud : TypeDesc} (hu : P.underlying t = some ud) (h1 : ∀ k, ud ≠ .int k) (h2 : ud ≠ .string) {x y : V} {cx cy : Value} {b : Bool}
    (hx : Rel ρ x cx) (hy : Rel ρ y cy) (hb : eqv e x y = some b) :
    asksType cx cy = true ∧ (notPair cx cy = true ∨ ((∃ u v, cx = .agg u ∧ cy = .agg v) ∧ ((∃ fs, ud = .struct fs) ∨ ∃ n c, ud = .array n c))) := by
  cases d with
  | zero => simp [trEq] at he
  | succ d =>
  cases ud
  case int k => exact absurd rfl (h1 k)
  case string => exact absurd rfl h2
  case bool =>
    unfold trEq at he; simp only [hu, Option.some.injEq] at he; subst he
    simp only [eqv] at hb
    unfold eqBool at hb
    split at hb
    · have e1 := hx.bool_inv; have e2 := hy.bool_inv; subst e1; subst e2; exact ⟨rfl, .inl rfl⟩
    · exact nomatch hb
  case pointer c =>
    unfold trEq at he; simp only [hu] at he
    split at he
    · rename_i n hn
      cases hz : Nat.beq n 0 <;> rw [hz] at he
      · simp only [cond_false, Option.some.injEq] at he; subst he
        simp only [eqv] at hb
        unfold eqPtr at hb
        split at hb
        · have e1 : cx = .pointer none := hx; have e2 : cy = .pointer none := hy; subst e1; subst e2; exact ⟨rfl, .inl rfl⟩
        · have e1 : cx = .pointer none := hx; obtain ⟨l, _, e2⟩ := hy.ptr_inv; subst e1; subst e2; exact ⟨rfl, .inl rfl⟩
        · have e1 : cy = .pointer none := hy; obtain ⟨l, _, e2⟩ := hx.ptr_inv; subst e1; subst e2; exact ⟨rfl, .inl rfl⟩
        · obtain ⟨l, _, e1⟩ := hx.ptr_inv; obtain ⟨l', _, e2⟩ := hy.ptr_inv; subst e1; subst e2; exact ⟨rfl, .inl rfl⟩
        · exact nomatch hb
      · exact nomatch he
    · exact nomatch he
  case slice c =>
    unfold trEq at he; simp only [hu, Option.some.injEq] at he; subst he
    simp only [eqv] at hb
    unfold eqSl at hb
    split at hb
    · have e1 : cx = .slice none 0 0 := hx; have e2 : cy = .slice none 0 0 := hy; subst e1; subst e2; exact ⟨rfl, .inl rfl⟩
    · have e1 : cx = .slice none 0 0 := hx; obtain ⟨l, cc, off, _, e2, _⟩ := hy.sl_inv; subst e1; subst e2; exact ⟨rfl, .inl rfl⟩
    · have e1 : cy = .slice none 0 0 := hy; obtain ⟨l, cc, off, _, e2, _⟩ := hx.sl_inv; subst e1; subst e2; exact ⟨rfl, .inl rfl⟩
    · exact nomatch hb
  case map c c' =>
    unfold trEq at he; simp only [hu, Option.some.injEq] at he; subst he
    simp only [eqv] at hb
    unfold eqMap at hb
    split at hb
    · have e1 : cx = .map none := hx; have e2 : cy = .map none := hy; subst e1; subst e2; exact ⟨rfl, .inl rfl⟩
    · have e1 : cx = .map none := hx; obtain ⟨l, _, e2⟩ : ∃ l, _ ∧ _ := hy; subst e1; subst e2; exact ⟨rfl, .inl rfl⟩
    · have e1 : cy = .map none := hy; obtain ⟨l, _, e2⟩ : ∃ l, _ ∧ _ := hx; subst e1; subst e2; exact ⟨rfl, .inl rfl⟩
    · exact nomatch hb
  case func c c' c'' =>
    unfold trEq at he; simp only [hu, Option.some.injEq] at he; subst he
    simp only [eqv] at hb
    unfold eqFn at hb
    split at hb
    · have e1 : cx = .nilFunc := hx; have e2 : cy = .nilFunc := hy; subst e1; subst e2; exact ⟨rfl, .inl rfl⟩
    · have e1 : cx = .nilFunc := hx; obtain ⟨l, cc, e2, _⟩ : ∃ ca cc, cy = .func (.func _) ca cc ∧ _ := hy; subst e1; subst e2; exact ⟨rfl, .inl rfl⟩
    · have e1 : cy = .nilFunc := hy; obtain ⟨l, cc, e2, _⟩ : ∃ ca cc, cx = .func (.func _) ca cc ∧ _ := hx; subst e1; subst e2; exact ⟨rfl, .inl rfl⟩
    · exact nomatch hb
  case struct fs =>
    obtain ⟨l, _, _, rfl⟩ : ∃ l : List (EqT × Nat × Nat × Bool), True ∧ True ∧ e = .st (l.map (·.1)) (l.map (·.2)) := by
      unfold trEq at he; simp only [hu] at he
      cases hs : P.stoodInHeld t <;> rw [hs] at he
      · simp only [cond_false] at he
        split at he
        · rename_i l _; simp only [Option.some.injEq] at he; exact ⟨l, trivial, trivial, he.symm⟩
        · exact nomatch he
      · exact nomatch he
    simp only [eqv] at hb
    split at hb
    · obtain ⟨a, rfl, _⟩ := hx.agg_inv; obtain ⟨a', rfl, _⟩ := hy.agg_inv
      exact ⟨rfl, .inr ⟨⟨_, _, rfl, rfl⟩, .inl ⟨_, rfl⟩⟩⟩
    · exact nomatch hb
  case array n c =>
    unfold trEq at he; simp only [hu] at he
    split at he
    · simp only [Option.some.injEq] at he; subst he
      simp only [eqv] at hb
      split at hb
      · obtain ⟨a, rfl, _⟩ := hx.agg_inv; obtain ⟨a', rfl, _⟩ := hy.agg_inv
        exact ⟨rfl, .inr ⟨⟨_, _, rfl, rfl⟩, .inr ⟨_, _, rfl⟩⟩⟩
      · exact nomatch hb
    · exact nomatch he
  all_goals (unfold trEq at he; simp [hu] at he)

theorem sEq_some {neg : Bool} {e : EqT} {vs : List V} {v : V} (h : sEq neg e vs = some v) : ∃ x y b, vs = [x, y] ∧ eqv e x y = some b ∧ v = .bool (bif neg then !b else b) := by
  unfold sEq at h
  split at h
  · rename_i x y
    split at h
    · rename_i b hb
      simp only [Option.some.injEq] at h
      exact ⟨x, y, b, rfl, hb, h.symm⟩
    · exact nomatch h
  · exact nomatch h

theorem eq_done {ρ : Ren} {H : Hp} {w : World} {ρc : Operand → Value} {od : Oper} {op : BinOp} {t : TypeId} {x y : Operand} {yt : TypeId} (hr : RelH ρ H w) (ho : od.op = .binOp op t x y yt) (hop : op = .eql ∨ op = .neq)
    (ha : asksType (ρc x) (ρc y) = true) (hg : (eqGuard op t x y (ρc x) (ρc y)).run P w = .ok () w) {b : Bool} (he : (Op.equal t (ρc x) (ρc y)).run P w = .ok b w) :
    StepTo ρ H w ((execOp ρc od).run P w) (.bool (bif (isNeq op) then !b else b)) H := by
  obtain ⟨h1, h2⟩ := binOp_asks ha t he
  rcases hop with rfl | rfl
  · exact .pure hr (execOp_bin ho (by rw [Sem.run_bind, hg]; exact h1)) rfl
  · exact .pure hr (execOp_bin ho (by rw [Sem.run_bind, hg]; exact h2)) rfl

theorem snd_bin_plain (op : BinOp) (t : TypeId) (x y : Operand) (yt : TypeId) {od : Oper} {k : OpK} {as : List AOpd} {fr : Nat → V} {ρ : Ren} {H H' : Hp} {w : World} {ρc : Operand → Value} {v : V} (ho : od.op = .binOp op t x y yt)
    (hk : withL (.bin op) (trOpds P [x, y]) = some (k, as)) (hf : ∀ x ax, trOpd P x = some ax → Rel ρ (evOpdF fr ax) (ρc x)) (hr : RelH ρ H w) (hs : step k (evArgsF fr as) H = some (v, H')) :
    StepTo ρ H w ((execOp ρc od).run P w) v H' := by
  obtain ⟨h1, rfl⟩ := withL_some hk
  obtain ⟨h2, rfl⟩ := pureS_some (f := sBin op) rfl hs
  have hrel := opds_rel hf h1
  have h20 := h2
  unfold sBin at h20
  split at h20
  · rename_i k a k' b hvs
    rw [hvs] at hrel h2
    obtain ⟨c1, c2, ee, r1, r2⟩ := hrel.two
    simp only [List.map_cons, List.map_nil, List.cons.injEq, and_true] at ee
    obtain ⟨rfl, rfl⟩ := ee
    obtain ⟨cv, hrun, hrl⟩ := sBin_ok (P := P) t w h2 r1 r2 x y
    exact .pure hr (execOp_bin ho hrun) hrl
  · rename_i a b hvs
    rw [hvs] at hrel h2
    obtain ⟨c1, c2, ee, r1, r2⟩ := hrel.two
    simp only [List.map_cons, List.map_nil, List.cons.injEq, and_true] at ee
    obtain ⟨rfl, rfl⟩ := ee
    obtain ⟨cv, hrun, hrl⟩ := sBin_ok (P := P) t w h2 r1 r2 x y
    exact .pure hr (execOp_bin ho hrun) hrl
  · exact nomatch h20

theorem snd_bin_type (op : BinOp) (t : TypeId) (x y : Operand) (yt : TypeId) {ud : TypeDesc} (hu : P.underlying t = some ud) (hn1 : ∀ k, ud ≠ .int k) (hn2 : ud ≠ .string)
    (hgd : (∃ fs, ud = .struct fs) ∨ (∃ n c, ud = .array n c) → P.eqGuardType P.depth t = false) {e : EqT} (he : trEq P 50 t = some e) (hop : op = .eql ∨ op = .neq)
    {od : Oper} {k : OpK} {as : List AOpd} {fr : Nat → V} {ρ : Ren} {H H' : Hp} {w : World} {ρc : Operand → Value} {v : V} (ho : od.op = .binOp op t x y yt)
    (hk : withL (.eq (isNeq op) e) (trOpds P [x, y]) = some (k, as)) (hf : ∀ x ax, trOpd P x = some ax → Rel ρ (evOpdF fr ax) (ρc x)) (hr : RelH ρ H w) (hs : step k (evArgsF fr as) H = some (v, H')) :
    StepTo ρ H w ((execOp ρc od).run P w) v H' := by
  obtain ⟨h1, rfl⟩ := withL_some hk
  obtain ⟨h2, rfl⟩ := pureS_some (f := sEq (isNeq op) e) rfl hs
  have hrel := opds_rel hf h1
  obtain ⟨a, b, r, hvs, hb, rfl⟩ := sEq_some h2
  rw [hvs] at hrel
  obtain ⟨c1, c2, ee, r1, r2⟩ := hrel.two
  simp only [List.map_cons, List.map_nil, List.cons.injEq, and_true] at ee
  obtain ⟨rfl, rfl⟩ := ee
  obtain ⟨ha, hp⟩ := eqv_shape he hu hn1 hn2 r1 r2 hb
  refine eq_done hr ho hop ha ?_ (eqv_ok 50 t e he Op.maxDepth (by decide) ρ a b _ _ r w r1 r2 hb)
  rcases hp with hp | ⟨⟨u, v, e1, e2⟩, hsa⟩
  · exact guard_notPair hp w
  · rw [e1, e2]; exact run_eqGuard_agg w op t x y u v (hgd hsa)

theorem guard_const {op : BinOp} {t : TypeId} {x y : Operand} (hop : op = .eql ∨ op = .neq) (hc : (isConstO x || isConstO y) = true) (w : World) : (eqGuard op t x y .nilIface .nilIface).run P w = .ok () w := by
  rcases hop with rfl | rfl <;> cases x <;> cases y <;> first
    | (exact absurd hc Bool.false_ne_true)
    | simp [eqGuard]

theorem ifc_eq {t : TypeId} {d : Array (String × TypeId)} (hu : P.underlying t = some (.interface d)) (D : Nat) (w : World) (k : TypeId) (z : Value) : (Op.equalIn (D + 1) t .nilIface .nilIface).run P w = .ok true w ∧ (Op.equalIn (D + 1) t .nilIface (.iface k z)).run P w = .ok false w ∧ (Op.equalIn (D + 1) t (.iface k z) .nilIface).run P w = .ok false w := by
  refine ⟨?_, ?_, ?_⟩ <;> simp only [Op.equalIn, Sem.run_bind, run_under hu, Result.andThen_ok, Sem.run_pure]

theorem snd_bin_ifc (op : BinOp) (t : TypeId) (x y : Operand) (yt : TypeId) {ms : Array (String × TypeId)} (hu : ∃ d, P.underlying t = some (.interface d)) (hc : (isConstO x || isConstO y) = true) (hop : op = .eql ∨ op = .neq)
    {od : Oper} {k : OpK} {as : List AOpd} {fr : Nat → V} {ρ : Ren} {H H' : Hp} {w : World} {ρc : Operand → Value} {v : V} (ho : od.op = .binOp op t x y yt)
    (hk : withL (.eq (isNeq op) .ifc) (trOpds P [x, y]) = some (k, as)) (hf : ∀ x ax, trOpd P x = some ax → Rel ρ (evOpdF fr ax) (ρc x)) (hr : RelH ρ H w) (hs : step k (evArgsF fr as) H = some (v, H')) :
    StepTo ρ H w ((execOp ρc od).run P w) v H' := by
  obtain ⟨d, hu⟩ := hu
  obtain ⟨h1, rfl⟩ := withL_some hk
  obtain ⟨h2, rfl⟩ := pureS_some (f := sEq (isNeq op) .ifc) rfl hs
  have hrel := opds_rel hf h1
  obtain ⟨a, b, r, hvs, hb, rfl⟩ := sEq_some h2
  rw [hvs] at hrel
  obtain ⟨c1, c2, ee, r1, r2⟩ := hrel.two
  simp only [List.map_cons, List.map_nil, List.cons.injEq, and_true] at ee
  obtain ⟨rfl, rfl⟩ := ee
  simp only [eqv] at hb
  unfold eqIfc at hb
  split at hb <;> (try contradiction)
  all_goals replace hb := Option.some.inj hb
  · subst hb
    have e1 : ρc x = .nilIface := r1
    have e2 : ρc y = .nilIface := r2
    refine eq_done hr ho hop (by rw [e1, e2]; rfl) ?_ ?_
    · rw [e1, e2]
      exact guard_const hop hc w
    · rw [e1, e2]; exact (ifc_eq hu 9999 w 0 .nilIface).1
  · subst hb
    have e1 : ρc x = .nilIface := r1
    obtain ⟨cz, e2, _⟩ : ∃ z, ρc y = .iface _ z ∧ _ := r2
    refine eq_done hr ho hop (by rw [e1, e2]; rfl) ?_ ?_
    · rw [e1, e2]; exact guard_notPair rfl w
    · rw [e1, e2]; exact (ifc_eq hu 9999 w _ cz).2.1
  · subst hb
    have e1 : ρc y = .nilIface := r2
    obtain ⟨cz, e2, _⟩ : ∃ z, ρc x = .iface _ z ∧ _ := r1
    refine eq_done hr ho hop (by rw [e1, e2]; rfl) ?_ ?_
    · rw [e1, e2]; exact guard_notPair rfl w
    · rw [e1, e2]; exact (ifc_eq hu 9999 w _ cz).2.2

theorem snd_binOp (op : BinOp) (t : TypeId) (x y : Operand) (yt : TypeId) : Sound1 P (.binOp op t x y yt) := by
  intro od k as fr ρ H w ρc v H' ho hk hf hr hs
  have hplain : withL (.bin op) (trOpds P [x, y]) = some (k, as) → StepTo ρ H w ((execOp ρc od).run P w) v H' := fun h => snd_bin_plain op t x y yt ho h hf hr hs
  by_cases hop : op = .eql ∨ op = .neq
  · have hk' : (match P.underlying t with
        | some (.int _) => withL (.bin op) (trOpds P [x, y])
        | some .string => withL (.bin op) (trOpds P [x, y])
        | some (.interface _) => bif isConstO x || isConstO y then withL (.eq (isNeq op) .ifc) (trOpds P [x, y]) else none
        | some (.struct _) | some (.array _ _) => bif P.eqGuardType P.depth t then none else
            (trEq P 50 t).bind fun e => withL (.eq (isNeq op) e) (trOpds P [x, y])
        | some _ => (trEq P 50 t).bind fun e => withL (.eq (isNeq op) e) (trOpds P [x, y])
        | none => none) = some (k, as) := by
      rcases hop with rfl | rfl <;> exact hk
    split at hk'
    · exact hplain hk'
    · exact hplain hk'
    · rename_i d hu
      cases hc : isConstO x || isConstO y <;> rw [hc] at hk'
      · exact nomatch hk'
      · exact snd_bin_ifc (ms := #[]) op t x y yt ⟨d, hu⟩ hc hop ho hk' hf hr hs
    · rename_i fs hu
      cases hg : P.eqGuardType P.depth t <;> rw [hg] at hk'
      · simp only [cond_false] at hk'
        obtain ⟨e, he, hk''⟩ := Option.bind_eq_some_iff.1 hk'
        exact snd_bin_type op t x y yt hu (fun k h => nomatch h) (fun h => nomatch h) (fun _ => hg) he hop ho hk'' hf hr hs
      · exact nomatch hk'
    · rename_i n c hu
      cases hg : P.eqGuardType P.depth t <;> rw [hg] at hk'
      · simp only [cond_false] at hk'
        obtain ⟨e, he, hk''⟩ := Option.bind_eq_some_iff.1 hk'
        exact snd_bin_type op t x y yt hu (fun k h => nomatch h) (fun h => nomatch h) (fun _ => hg) he hop ho hk'' hf hr hs
      · exact nomatch hk'
    · rename_i d h1 h2 h3 h4 h5 hu
      obtain ⟨e, he, hk''⟩ := Option.bind_eq_some_iff.1 hk'
      exact snd_bin_type op t x y yt hu (fun k h => h1 k h) (fun h => h2 h) (fun hsa => (hsa.elim (fun ⟨fs, e⟩ => (h4 fs e).elim) fun ⟨n, c, e⟩ => (h5 n c e).elim)) he hop ho hk'' hf hr hs
    · exact nomatch hk'
  · refine hplain ?_
    cases op
    case eql => exact absurd (.inl rfl) hop
    case neq => exact absurd (.inr rfl) hop
    all_goals exact hk

end Go.Aev
