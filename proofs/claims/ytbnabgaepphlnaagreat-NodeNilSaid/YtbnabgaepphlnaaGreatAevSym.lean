/- The abstract interpreter with frames as functions: rules for proofs with unknown values. -/
import Derived.Test.YtbnabgaepphlnaaGreatAevRun
import Derived.Test.YtbnabgaepphlnaaGreatAevFuel
set_option linter.unusedVariables false
set_option linter.unusedSimpArgs false
namespace Go.Aev

/-- A frame as a function. -/
abbrev FF := Nat → V
def up (f : FF) (d : Nat) (v : V) : FF := fun t => match Nat.beq d t with
  | true => v
  | false => f t
def upO (f : FF) : Option Nat → V → FF
  | some d, v => up f d v
  | none, _ => f
structure SF where
  fr : FF
  h : Hp
  ds : List (Nat × List V)

theorem up_eq (f : FF) (d t : Nat) (v : V) : up f d v t = if d = t then v else f t := by
  unfold up
  cases h : Nat.beq d t
  · rw [if_neg (Nat.ne_of_beq_eq_false h)]
  · rw [if_pos (Nat.eq_of_beq_eq_true h)]

/-- A tree's frame is a function's. -/
structure Sim (nt : Nat) (s : St) (s' : SF) : Prop where
  get : ∀ t, getF s.fr t = s'.fr t
  has : ∀ t, t < nt → s.fr.has t = true
  h : s.h = s'.h
  ds : s.ds = s'.ds

theorem Sim.put {nt : Nat} {s : St} {s' : SF} (hs : Sim nt s s') {d : Option Nat} (hd : ∀ x, d = some x → x < nt) (v : V) (h : Hp) (ds : List (Nat × List V)) : Sim nt ⟨putF s.fr d v, h, ds⟩ ⟨upO s'.fr d v, h, ds⟩ := by
  cases d with
  | none => exact ⟨hs.get, hs.has, rfl, rfl⟩
  | some d =>
    refine ⟨fun t => ?_, fun t ht => ?_, rfl, rfl⟩
    · simp only [putF, upO]
      rw [getF_set (hs.has d (hd d rfl)), up_eq, hs.get]
    · simp only [putF, Tr.has_set]; exact hs.has t ht

def evOperF (cf : CF) (o : AOper) (s : SF) : Option SF :=
  bif wantedF s.fr o.g then
    match o.k with
    | .dfr => match evArgsF s.fr o.args with
      | .fn f first caps :: args => some ⟨upO s.fr o.dst V.undef, s.h, (f, first ++ (args ++ caps)) :: s.ds⟩
      | _ => none
    | k => match stepC cf k (evArgsF s.fr o.args) s.h with
      | some (v, h') => some ⟨upO s.fr o.dst v, h', s.ds⟩
      | none => none
  else some ⟨upO s.fr o.dst V.undef, s.h, s.ds⟩
def evOpsF (cf : CF) : List AOper → SF → Option SF
  | [] => fun s => some s
  | o :: os => fun s => match evOperF cf o s with
    | some s' => evOpsF cf os s'
    | none => none
def addPendF (o : DOper) (s : SF) (s' : SF) (pd : List Pend) : List Pend :=
  bif isL o.o.k.kd && wantedF s.fr o.o.g && !Nat.beq o.fl 0 then
    match o.o.dst with
    | some d => ⟨o.o.k, evArgsF s.fr o.o.args, s'.fr d, o.fl⟩ :: pd
    | none => pd
  else pd
def evDOpsF (cf : CF) : List DOper → SF → List Pend → Option SF
  | [] => fun s _ => some s
  | o :: os => fun s pd => match evOperF cf o.o s with
    | some s' => bif isE o.o.k.kd then
        match checkPend s'.h pd with
        | some pd' => evDOpsF cf os s' pd'
        | none => none
      else evDOpsF cf os s' (addPendF o s s' pd)
    | none => none

def dstOk (nt : Nat) (o : AOper) : Bool := match o.dst with
  | some d => Nat.blt d nt
  | none => true
theorem dstOk_lt {nt : Nat} {o : AOper} (h : dstOk nt o = true) : ∀ x, o.dst = some x → x < nt := fun x hx => by
  unfold dstOk at h; rw [hx] at h; simpa [Nat.blt_eq] using h

theorem evOperF_ok {cf : CF} {nt : Nat} {o : AOper} {s : St} {f f' : SF} (hs : Sim nt s f) (hd : dstOk nt o = true) (he : evOperF cf o f = some f') : ∃ s', evOper cf o s = some s' ∧ Sim nt s' f' := by
  have hget : getF s.fr = f.fr := funext hs.get
  unfold evOperF at he
  unfold evOper
  rw [wantedA_eq, hget, evArgs_eq, hget, hs.h, hs.ds]
  cases hw : wantedF f.fr o.g <;> rw [hw] at he
  · simp only [cond_false, Option.some.injEq] at he ⊢
    subst he
    have := hs.put (dstOk_lt hd) V.undef s.h s.ds
    refine ⟨_, rfl, ?_⟩
    have e : (⟨upO f.fr o.dst V.undef, f.h, f.ds⟩ : SF) = ⟨upO f.fr o.dst V.undef, s.h, s.ds⟩ := by rw [hs.h, hs.ds]
    rw [e]; exact this
  · simp only [cond_true] at he ⊢
    split at he
    · rename_i hk
      split at he
      · rename_i g first caps args hv
        simp only [Option.some.injEq] at he
        subst he
        exact ⟨⟨putF s.fr o.dst V.undef, f.h, (g, first ++ (args ++ caps)) :: f.ds⟩, by simp only [hk, hv], hs.put (dstOk_lt hd) V.undef _ _⟩
      · exact nomatch he
    · rename_i hk
      split at he
      · rename_i v h' hst
        simp only [Option.some.injEq] at he
        subst he
        refine ⟨⟨putF s.fr o.dst v, h', f.ds⟩, ?_, hs.put (dstOk_lt hd) v _ _⟩
        split
        · rename_i hk'; exact absurd hk' hk
        · rw [hst]
      · exact nomatch he

theorem evOpsF_ok {cf : CF} {nt : Nat} : ∀ {os : List AOper} {s : St} {f f' : SF}, Sim nt s f → os.all (dstOk nt) = true → evOpsF cf os f = some f' → ∃ s', evOps cf os s = some s' ∧ Sim nt s' f'
  | [], s, f, f', hs, _, he => by
    simp only [evOpsF, Option.some.injEq] at he; subst he
    exact ⟨s, rfl, hs⟩
  | o :: os, s, f, f', hs, hd, he => by
    simp only [List.all_cons, Bool.and_eq_true] at hd
    simp only [evOpsF] at he
    split at he
    · rename_i f1 h1
      obtain ⟨s1, h2, h3⟩ := evOperF_ok hs hd.1 h1
      obtain ⟨s', h4, h5⟩ := evOpsF_ok h3 hd.2 he
      exact ⟨s', by simp only [evOps, h2]; exact h4, h5⟩
    · exact nomatch he

theorem evDOpsF_ok {cf : CF} {nt : Nat} : ∀ {os : List DOper} {s : St} {f f' : SF} {pd : List Pend}, Sim nt s f → os.all (fun o => dstOk nt o.o) = true → evDOpsF cf os f pd = some f' → ∃ s', evDOps cf os s pd = some s' ∧ Sim nt s' f'
  | [], s, f, f', pd, hs, _, he => by
    simp only [evDOpsF, Option.some.injEq] at he; subst he
    exact ⟨s, rfl, hs⟩
  | o :: os, s, f, f', pd, hs, hd, he => by
    simp only [List.all_cons, Bool.and_eq_true] at hd
    simp only [evDOpsF] at he
    split at he
    · rename_i f1 h1
      obtain ⟨s1, h2, h3⟩ := evOperF_ok hs hd.1 h1
      cases hE : isE o.o.k.kd <;> rw [hE] at he
      · simp only [cond_false] at he
        have hp : addPend o s s1 pd = addPendF o f f1 pd := by
          unfold addPend addPendF
          have hget : getF s.fr = f.fr := funext hs.get
          rw [wantedA_eq, hget, evArgs_eq, hget]
          cases o.o.dst with
          | none => rfl
          | some d => simp only [h3.get]
        obtain ⟨s', h4, h5⟩ := evDOpsF_ok h3 hd.2 he
        exact ⟨s', by simp only [evDOps, h2, hE, cond_false, hp]; exact h4, h5⟩
      · simp only [cond_true] at he
        split at he
        · rename_i pd' hpd
          obtain ⟨s', h4, h5⟩ := evDOpsF_ok h3 hd.2 he
          exact ⟨s', by simp only [evDOps, h2, hE, cond_true, h3.h, hpd]; exact h4, h5⟩
        · exact nomatch he
    · exact nomatch he

end Go.Aev
