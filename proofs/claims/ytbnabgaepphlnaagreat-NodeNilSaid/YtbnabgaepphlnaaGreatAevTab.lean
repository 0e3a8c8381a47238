/- The abstract interpreter: tables, natives that leave all as it was, runs from nothing. -/
import Derived.Test.YtbnabgaepphlnaaGreatAevRun
import Derived.Test.YtbnabgaepphlnaaGreatAevFuel
import Derived.Below
set_option linter.unusedVariables false
namespace Go.Aev
open Go Go.RowKit
variable {P : Program}

def Tr.AllAt {α : Type} (p : Nat → α → Prop) : Tr α → (Nat → Nat) → Prop
  | .e, _ => True
  | .n l x r, g => (∀ a, x = some a → p (g 0) a) ∧ Tr.AllAt p l (fun m => g (2 * m + 1)) ∧ Tr.AllAt p r (fun m => g (2 * m + 2))

theorem Tr.AllAt.get {α : Type} {p : Nat → α → Prop} : ∀ {t : Tr α} {g : Nat → Nat}, Tr.AllAt p t g → ∀ {i : Nat} {a : α}, t.get i = some a → p (g i) a
  | .e, _, _, i, a, h => by simp [Tr.get] at h
  | .n l x r, g, ⟨h1, h2, h3⟩, 0, a, h => h1 a h
  | .n l x r, g, ⟨h1, h2, h3⟩, j + 1, a, h => by
    simp only [Tr.get] at h
    cases hb : Nat.beq (j % 2) 0 <;> rw [hb] at h
    · have hj : j % 2 ≠ 0 := Nat.ne_of_beq_eq_false hb
      have := Tr.AllAt.get h3 h
      rwa [show 2 * (j / 2) + 2 = j + 1 by omega] at this
    · have hj : j % 2 = 0 := Nat.eq_of_beq_eq_true hb
      have := Tr.AllAt.get h2 h
      rwa [show 2 * (j / 2) + 1 = j + 1 by omega] at this

def IsTr (P : Program) (f : Nat) (af : AFunc) : Prop := ∃ fn, P.funcs[f]? = some fn ∧ trFunc P fn = some af
theorem one {P : Program} {f : Nat} {af : AFunc} (h : IsTr P f af) : ∀ a, some af = some a → IsTr P f a := fun a e => by cases e; exact h
theorem no {P : Program} {f : Nat} : ∀ a : AFunc, none = some a → IsTr P f a := fun a e => nomatch e

/-- What a native has to keep. -/
def NatOk (P : Program) (f : Nat) (g : List V → Hp → Option (V × Hp)) : Prop := ∀ args H v H', g args H = some (v, H') → ∀ (ρ : Ren) (w : World) (cargs : Array Value), RelL ρ args cargs.toList → RelH ρ H w →
    CallTo P f cargs w fun cv w' => ∃ ρ', Rel ρ' v cv ∧ RelH ρ' H' w' ∧ Ext ρ H w ρ' H' w'

theorem below_rel {ρ : Ren} {H : Hp} {w w' : World} (hr : RelH ρ H w) (hb : Below w.heap.size w w') : RelH ρ H w' ∧ Ext ρ H w ρ H w' :=
  ⟨⟨fun b l h => Nat.lt_of_lt_of_le (hr.lt b l h) hb.size, hr.nx, hr.ng, fun b o l h1 h2 => (hr.obj b o l h1 h2).of_heap (hb.block _ (hr.lt b l h2)), hr.inj⟩,
   ⟨Ren.le_refl ρ, fun _ _ h => ⟨h, rfl⟩, Nat.le_refl _, fun _ _ h => h, fun b l h h' => (by rw [h] at h'; exact nomatch h'), hb.size, fun c hc _ => hb.block c hc, hb.os, hb.output⟩⟩

/-- All that was there lies as it lay. -/
structure Kept (w w' : World) : Prop where
  size : w.heap.size ≤ w'.heap.size
  block : ∀ c, c < w.heap.size → w'.heap[c]? = w.heap[c]?
  os : w'.os = w.os
  output : w'.output = w.output

theorem Kept.rel {ρ : Ren} {H : Hp} {w w' : World} (hr : RelH ρ H w) (hb : Kept w w') : RelH ρ H w' ∧ Ext ρ H w ρ H w' :=
  ⟨⟨fun b l h => Nat.lt_of_lt_of_le (hr.lt b l h) hb.size, hr.nx, hr.ng, fun b o l h1 h2 => (hr.obj b o l h1 h2).of_heap (hb.block _ (hr.lt b l h2)), hr.inj⟩,
   ⟨Ren.le_refl ρ, fun _ _ h => ⟨h, rfl⟩, Nat.le_refl _, fun _ _ h => h, fun b l h h' => (by rw [h] at h'; exact nomatch h'), hb.size, fun c hc _ => hb.block c hc, hb.os, hb.output⟩⟩

def noRen : Ren := fun _ => none
/-- The heap with nothing in it. -/
def nil0 (d n : Nat) : Hp := ⟨Tr.full d, n⟩
theorem relH_nil (d n : Nat) (w : World) : RelH noRen (nil0 d n) w :=
  ⟨fun b l h => (nomatch h), fun _ _ => rfl, fun b _ => Tr.get_full _ _, fun b o l h => (by rw [show (nil0 d n).get b = none from Tr.get_full _ _] at h; exact nomatch h), fun b b' o o' l l' h => (by rw [show (nil0 d n).get b = none from Tr.get_full _ _] at h; exact nomatch h)⟩
theorem Ext.kept {ρ' : Ren} {d n : Nat} {H' : Hp} {w w' : World} (h : Ext noRen (nil0 d n) w ρ' H' w') : Kept w w' :=
  ⟨h.size, fun c hc => h.same c hc (by rintro ⟨b, o, l, h1, _⟩; rw [show (nil0 d n).get b = none from Tr.get_full _ _] at h1; exact nomatch h1), h.os.1, h.os.2⟩

/-- A run from nothing, of a function without arguments. -/
theorem closed_call {cf : CF} (hcf : CFok P cf) {f d n : Nat} {v : V} {H' : Hp} (h : cf f [] (nil0 d n) = some (v, H')) (w : World) :
    CallTo P f #[] w fun cv w' => (∃ ρ', Rel ρ' v cv) ∧ Kept w w' := by
  have := hcf f [] (nil0 d n) v H' h noRen w #[] rfl (relH_nil d n w)
  rcases this with ⟨w1, h1, h2⟩ | ⟨cv, w1, h1, ρ', h2, h3, h4⟩
  · refine .inl ⟨w1, h1, h2.mono fun e w'' he => ?_⟩
    cases e with
    | returned cv => obtain ⟨ρ', a1, a2, a3⟩ := he; exact ⟨⟨ρ', a1⟩, a3.kept⟩
    | panicked c => exact he.elim
    | outgrown => exact he.elim
  · exact .inr ⟨cv, w1, h1, ⟨ρ', h2⟩, h4.kept⟩

theorem CallTo.mono {f : Nat} {args : Array Value} {w : World} {R R' : Value → World → Prop} (h : CallTo P f args w R) (hR : ∀ v w', R v w' → R' v w') : CallTo P f args w R' := by
  rcases h with ⟨w1, h1, h2⟩ | ⟨cv, w1, h1, h2⟩
  · refine .inl ⟨w1, h1, h2.mono fun e w'' he => ?_⟩
    cases e with
    | returned cv => exact hR _ _ he
    | panicked c => exact he.elim
    | outgrown => exact he.elim
  · exact .inr ⟨cv, w1, h1, hR _ _ h2⟩

/-- The native of a closed run that gave a boolean. -/
def natB (b : Bool) : List V → Hp → Option (V × Hp) := fun vs h => match vs with
  | [] => some (.bool b, h)
  | _ => none
theorem natB_ok {cf : CF} (hcf : CFok P cf) {f d n : Nat} {b : Bool} (h : (cf f [] (nil0 d n)).map (fun r => V.beq r.1 (.bool b)) = some true) : NatOk P f (natB b) := by
  intro args H v H' hg ρ w cargs hrel hr
  unfold natB at hg
  split at hg
  · simp only [Option.some.injEq, Prod.mk.injEq] at hg
    obtain ⟨rfl, rfl⟩ := hg
    have hc : cargs = #[] := by
      have := RelL.nil_inv hrel
      exact Array.ext' this
    subst hc
    obtain ⟨⟨v, H1⟩, h1, h2⟩ := Option.map_eq_some_iff.1 h
    have hv : v = .bool b := V.beq_eq _ _ h2
    subst hv
    refine (closed_call hcf h1 w).mono fun cv w' ⟨⟨ρ', h3⟩, h4⟩ => ?_
    obtain ⟨a1, a2⟩ := h4.rel hr
    exact ⟨ρ, h3.bool_inv, a1, a2⟩
  · exact nomatch hg

/-- A world in which a call is the model's whole run. -/
theorem CallTo.calls {f : Nat} {args : Array Value} {w : World} {R : Value → World → Prop} {fn : Func} {c : Code} (hf : P.funcs[f]? = some fn) (hb : fn.body = some c) (hn : (fn.name == "runtime.NumGoroutine") = false) (h : CallTo P f args w R) :
    Calls P f args w fun | .returned v, w' => R v w' | _, _ => False := by
  have hrun := run_callFunc hf hb hn args w
  rcases h with ⟨w1, h1, h2⟩ | ⟨cv, w1, h1, h2⟩
  · rw [hrun] at h1
    cases h1
    exact h2
  · rw [hrun] at h1; exact nomatch h1

end Go.Aev
