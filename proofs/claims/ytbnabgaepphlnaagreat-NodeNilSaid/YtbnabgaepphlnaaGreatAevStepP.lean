/- The abstract interpreter: the operations that look at no memory. -/
import Derived.Test.YtbnabgaepphlnaaGreatAevMem
import Derived.Test.YtbnabgaepphlnaaGreatAevNum
import Derived.Laws.Strings
set_option linter.unusedVariables false
set_option linter.unusedSimpArgs false
namespace Go.Aev
open Go

def StepTo (ρ : Ren) (H : Hp) (w : World) (r : Result Next) (v : V) (H' : Hp) : Prop :=
  ∃ ρ' w' cv, (r = .ok (.value cv) w' ∨ (r = .ok .skip w' ∧ cv = undef)) ∧ Rel ρ' v cv ∧ RelH ρ' H' w' ∧ Ext ρ H w ρ' H' w'

theorem StepTo.pure {ρ : Ren} {H : Hp} {w : World} {r : Result Next} {v : V} {cv : Value} (hr : RelH ρ H w) (he : r = .ok (.value cv) w) (hv : Rel ρ v cv) : StepTo ρ H w r v H :=
  ⟨ρ, w, cv, .inl he, hv, hr, Ext.refl ρ H w⟩

/-- An operation of the model does what its resolved form does. -/
def Sound1 (P : Program) (o : Op) : Prop := ∀ (od : Oper) (k : OpK) (as : List AOpd) (fr : Nat → V) (ρ : Ren) (H : Hp) (w : World) (ρc : Operand → Value) (v : V) (H' : Hp),
  od.op = o → trOp P o = some (k, as) → (∀ x ax, trOpd P x = some ax → Rel ρ (evOpdF fr ax) (ρc x)) → RelH ρ H w → step k (evArgsF fr as) H = some (v, H') →
  StepTo ρ H w ((execOp ρc od).run P w) v H'

theorem with1_some {k' k : OpK} {x : Option AOpd} {as : List AOpd} (h : with1 k' x = some (k, as)) : ∃ a, x = some a ∧ k = k' ∧ as = [a] := by
  unfold with1 at h
  simp only [Option.map_eq_some_iff, Prod.mk.injEq] at h
  obtain ⟨a, h1, h2, h3⟩ := h
  exact ⟨a, h1, h2.symm, h3.symm⟩
theorem withL_some {k' k : OpK} {x : Option (List AOpd)} {as : List AOpd} (h : withL k' x = some (k, as)) : x = some as ∧ k = k' := by
  unfold withL at h
  simp only [Option.map_eq_some_iff, Prod.mk.injEq] at h
  obtain ⟨a, h1, h2, h3⟩ := h
  exact ⟨by rw [h1, h3], h2.symm⟩

theorem opds_rel {P : Program} {ρ : Ren} {fr : Nat → V} {ρc : Operand → Value} (hf : ∀ x ax, trOpd P x = some ax → Rel ρ (evOpdF fr ax) (ρc x)) : ∀ {xs : List Operand} {as : List AOpd},
    trOpds P xs = some as → RelL ρ (evArgsF fr as) (xs.map ρc)
  | [], as, h => by simp only [trOpds, Option.some.injEq] at h; subst h; exact RelL.nil
  | x :: xs, as, h => by
    simp only [trOpds] at h
    split at h
    · rename_i a as' h1 h2
      simp only [Option.some.injEq] at h; subst h
      exact RelL.cons (hf x a h1) (opds_rel hf h2)
    · exact nomatch h

theorem pureS_some {k : OpK} {f : List V → Option V} {vs : List V} {H H' : Hp} {v : V} (hk : step k = pureS f) (h : step k vs H = some (v, H')) : f vs = some v ∧ H' = H := by
  rw [hk] at h
  unfold pureS at h
  split at h
  · rename_i u hu
    simp only [Option.some.injEq, Prod.mk.injEq] at h
    exact ⟨by rw [hu, h.1], h.2.symm⟩
  · exact nomatch h
theorem readS_some {k : OpK} {f : List V → Hp → Option V} {vs : List V} {H H' : Hp} {v : V} (hk : step k = readS f) (h : step k vs H = some (v, H')) : f vs H = some v ∧ H' = H := by
  rw [hk] at h
  unfold readS at h
  split at h
  · rename_i u hu
    simp only [Option.some.injEq, Prod.mk.injEq] at h
    exact ⟨by rw [hu, h.1], h.2.symm⟩
  · exact nomatch h

section
variable {P : Program}

theorem snd_move (x : Operand) : Sound1 P (.move x) := by
  intro od k as fr ρ H w ρc v H' ho hk hf hr hs
  obtain ⟨a, h1, rfl, rfl⟩ := with1_some hk
  obtain ⟨h2, rfl⟩ := pureS_some (f := sMv) rfl hs
  simp only [evArgsF, sMv, Option.some.injEq] at h2
  subst h2
  exact .pure hr (by simp [execOp, ho]) (hf x a h1)

theorem snd_assign (x : Operand) : Sound1 P (.assign x) := by
  intro od k as fr ρ H w ρc v H' ho hk hf hr hs
  obtain ⟨a, h1, rfl, rfl⟩ := with1_some hk
  obtain ⟨h2, rfl⟩ := pureS_some (f := sMv) rfl hs
  simp only [evArgsF, sMv, Option.some.injEq] at h2
  subst h2
  exact .pure hr (by simp [execOp, ho]) (hf x a h1)

theorem Rel.bool_inv {ρ : Ren} {b : Bool} {x : Value} (h : Rel ρ (.bool b) x) : x = .bool b := h
theorem Rel.int_inv {ρ : Ren} {k : IntKind} {n : Int} {x : Value} (h : Rel ρ (.int k n) x) : x = .int k n := h
theorem Rel.str_inv {ρ : Ren} {s : List UInt8} {x : Value} (h : Rel ρ (.str s) x) : x = .string ⟨⟨s⟩⟩ := h
theorem RelL.one {ρ : Ren} {v : V} {xs : List Value} (h : RelL ρ [v] xs) : ∃ x, xs = [x] ∧ Rel ρ v x := by
  obtain ⟨x, xs', rfl, h1, h2⟩ := h.cons_inv
  rw [RelL.nil_inv h2]; exact ⟨x, rfl, h1⟩
theorem RelL.two {ρ : Ren} {u v : V} {xs : List Value} (h : RelL ρ [u, v] xs) : ∃ x y, xs = [x, y] ∧ Rel ρ u x ∧ Rel ρ v y := by
  obtain ⟨x, xs', rfl, h1, h2⟩ := h.cons_inv
  obtain ⟨y, rfl, h3⟩ := h2.one
  exact ⟨x, y, rfl, h1, h3⟩
theorem RelL.three {ρ : Ren} {u v t : V} {xs : List Value} (h : RelL ρ [u, v, t] xs) : ∃ x y z, xs = [x, y, z] ∧ Rel ρ u x ∧ Rel ρ v y ∧ Rel ρ t z := by
  obtain ⟨x, xs', rfl, h1, h2⟩ := h.cons_inv
  obtain ⟨y, z, rfl, h3, h4⟩ := h2.two
  exact ⟨x, y, z, rfl, h1, h3, h4⟩

theorem snd_pick (c a b : Operand) : Sound1 P (.pick c a b) := by
  intro od k as fr ρ H w ρc v H' ho hk hf hr hs
  obtain ⟨h1, rfl⟩ := withL_some hk
  obtain ⟨h2, rfl⟩ := pureS_some (f := sPick) rfl hs
  have hrel := opds_rel hf h1
  unfold sPick at h2
  split at h2
  · rename_i t x y he
    rw [he] at hrel
    simp only [Option.some.injEq] at h2
    obtain ⟨c1, c2, c3, e, r1, r2, r3⟩ := hrel.three
    simp only [List.map_cons, List.map_nil, List.cons.injEq, and_true] at e
    obtain ⟨e1, e2, e3⟩ := e
    have r1' := r1.bool_inv
    subst h2
    refine .pure (cv := if t then ρc a else ρc b) hr ?_ ?_
    · simp [execOp, ho, e1, r1', asBool]
    · rw [e2, e3]; cases t
      · exact r3
      · exact r2
  · exact nomatch h2

theorem eqGuard_none {op : BinOp} {t : TypeId} {x y : Operand} {a b : Value} (w : World) (h1 : ∀ (_ : a = .nilIface) (_ : b = .nilIface), False) (h2 : ∀ u v, a = .agg u → b = .agg v → False) :
    (eqGuard op t x y a b).run P w = .ok () w := by
  unfold eqGuard
  cases op <;> simp only [Bool.not_true, Bool.not_false, if_true, Bool.false_eq_true, if_false, Sem.run_pure]
  all_goals
    split
    · exact (h1 rfl rfl).elim
    · rename_i u v; exact (h2 u v rfl rfl).elim
    · rfl

theorem strBin_ok {op : BinOp} (t : Nat) {a b : List UInt8} {v : V} (w : World) (h : strBin op a b = some v) : ∃ cv, (binOp op t (.string ⟨⟨a⟩⟩) (.string ⟨⟨b⟩⟩)).run P w = .ok cv w ∧ ∀ ρ, Rel ρ v cv := by
  have hl : ∀ l : List UInt8, (⟨⟨l⟩⟩ : ByteArray).toList = l := fun l => by
    rw [ByteArray.toList_eq]
  have hb : ∀ a b : List UInt8, ((⟨⟨a⟩⟩ : ByteArray) ++ ⟨⟨b⟩⟩) = ⟨⟨a ++ b⟩⟩ := fun a b => by
    apply ByteArray.ext; simp
  cases op <;> simp only [strBin, Option.some.injEq] at h <;> (try contradiction)
  case add =>
    split at h
    · exact nomatch h
    · rename_i hn
      simp only [Option.some.injEq] at h; subst h
      refine ⟨.string ⟨⟨a ++ b⟩⟩, ?_, fun ρ => rfl⟩
      have hs : ∀ l : List UInt8, (⟨⟨l⟩⟩ : ByteArray).size = l.length := fun l => rfl
      simp only [binOp, Op.stringOp, hs, hn, if_false, Sem.run_pure, hb]
  all_goals
    subst h
    refine ⟨.bool _, ?_, fun ρ => rfl⟩
    simp only [binOp, Op.stringOp, hl, Sem.run_pure]

end
end Go.Aev
