/- The abstract interpreter: a machine for proofs with unknown values. What is to be done next lies in a list, so that nothing behind an unknown is looked at. -/
import Derived.Test.YtbnabgaepphlnaaGreatAevGrow
set_option linter.unusedVariables false
set_option linter.unusedSimpArgs false
namespace Go.Aev
variable {E : Env} {nt : Nat}

inductive KF where
  | seq (b : ACode)
  | blk (id : Nat)

/-- What is left to do behind an ending. -/
def retK (E : Env) (nt : Nat) (Q : X → SF → Prop) : List KF → X → SF → Prop
  | [], x, f => Q x f
  | .seq b :: ks, .n, f => wpF E nt b f fun x f1 => retK E nt Q ks x f1
  | .seq _ :: ks, .x i, f => retK E nt Q ks (.x i) f
  | .seq _ :: ks, .r, f => retK E nt Q ks .r f
  | .blk _ :: ks, .n, f => retK E nt Q ks .n f
  | .blk id :: ks, .x i, f => if Nat.beq i id = true then retK E nt Q ks .n f else retK E nt Q ks (.x i) f
  | .blk _ :: ks, .r, f => retK E nt Q ks .r f

def wpK (E : Env) (nt : Nat) (c : ACode) (ks : List KF) (f : SF) (Q : X → SF → Prop) : Prop := wpF E nt c f fun x f1 => retK E nt Q ks x f1
def opsK (E : Env) (nt : Nat) (os : List AOper) (ks : List KF) (f : SF) (Q : X → SF → Prop) : Prop := opsW E os f fun f1 => retK E nt Q ks .n f1
def dopsK (E : Env) (nt : Nat) (os : List DOper) (ks : List KF) (f : SF) (pd : List Pend) (Q : X → SF → Prop) : Prop := dopsW E os f pd fun f1 => retK E nt Q ks .n f1

/-- a condition. -/
def brK (E : Env) (nt : Nat) (t : Bool) (a b : ACode) (ks : List KF) (f : SF) (Q : X → SF → Prop) : Prop := if t = true then wpK E nt a ks f Q else wpK E nt b ks f Q
/-- a condition's value. -/
def cvK (E : Env) (nt : Nat) (v : V) (a b : ACode) (ks : List KF) (f : SF) (Q : X → SF → Prop) : Prop := match v with
  | .bool t => brK E nt t a b ks f Q
  | _ => False
/-- a step's outcome. -/
def stK (E : Env) (nt : Nat) (r : Option (V × Hp)) (d : Option Nat) (os : List AOper) (ks : List KF) (f : SF) (Q : X → SF → Prop) : Prop := match r with
  | some (v, h') => opsK E nt os ks ⟨upO f.fr d v, h', f.ds⟩ Q
  | none => False
/-- a call. -/
def callK (E : Env) (nt : Nat) (g : Nat) (as : List V) (h : Hp) (d : Option Nat) (os : List AOper) (ks : List KF) (f : SF) (Q : X → SF → Prop) : Prop := ∃ v h', Cl E g as h v h' ∧ opsK E nt os ks ⟨upO f.fr d v, h', f.ds⟩ Q
/-- an operation that is wanted. -/
def opK (E : Env) (nt : Nat) (k : OpK) (as : List V) (d : Option Nat) (os : List AOper) (ks : List KF) (f : SF) (Q : X → SF → Prop) : Prop := match k with
  | .call g => callK E nt g as f.h d os ks f Q
  | k => stK E nt (step k as f.h) d os ks f Q
/-- a guard. -/
def gK (E : Env) (nt : Nat) (t : Bool) (o : AOper) (os : List AOper) (ks : List KF) (f : SF) (Q : X → SF → Prop) : Prop := match t with
  | true => opK E nt o.k (evArgsF f.fr o.args) o.dst os ks f Q
  | false => opsK E nt os ks ⟨upO f.fr o.dst V.undef, f.h, f.ds⟩ Q
def loopK (E : Env) (nt : Nat) (b : ACode) (ks : List KF) (f : SF) (Q : X → SF → Prop) : Prop := ∃ x f', Ex E nt (.loop b) f x f' ∧ retK E nt Q ks x f'

/-- behind an operation of a region that draws. -/
def chkK (E : Env) (nt : Nat) (r : Option (List Pend)) (os : List DOper) (ks : List KF) (f1 : SF) (Q : X → SF → Prop) : Prop := match r with
  | some pd' => dopsK E nt os ks f1 pd' Q
  | none => False
def isLD : OpK → Bool := fun k => isL k.kd
/-- a reading that is to be held. -/
def pndK (E : Env) (nt : Nat) (o : DOper) (w : Bool) (as : List V) (v : V) (os : List DOper) (ks : List KF) (f1 : SF) (pd : List Pend) (Q : X → SF → Prop) : Prop :=
  dopsK E nt os ks f1 (match isLD o.o.k && w && !Nat.beq o.fl 0 with
    | true => (match o.o.dst with | some d => ⟨o.o.k, as, v, o.fl⟩ :: pd | none => pd)
    | false => pd) Q
def aftK (E : Env) (nt : Nat) (e : Bool) (o : DOper) (w : Bool) (as : List V) (v : V) (os : List DOper) (ks : List KF) (f1 : SF) (pd : List Pend) (Q : X → SF → Prop) : Prop := match e with
  | true => chkK E nt (checkPend f1.h pd) os ks f1 Q
  | false => pndK E nt o w as v os ks f1 pd Q
def stD (E : Env) (nt : Nat) (r : Option (V × Hp)) (o : DOper) (as : List V) (os : List DOper) (ks : List KF) (f : SF) (pd : List Pend) (Q : X → SF → Prop) : Prop := match r with
  | some (v, h') => aftK E nt (isE o.o.k.kd) o true as v os ks ⟨upO f.fr o.o.dst v, h', f.ds⟩ pd Q
  | none => False
def callD (E : Env) (nt : Nat) (g : Nat) (as : List V) (h : Hp) (o : DOper) (os : List DOper) (ks : List KF) (f : SF) (pd : List Pend) (Q : X → SF → Prop) : Prop :=
  ∃ v h', Cl E g as h v h' ∧ aftK E nt true o true as v os ks ⟨upO f.fr o.o.dst v, h', f.ds⟩ pd Q
def opD (E : Env) (nt : Nat) (k : OpK) (as : List V) (o : DOper) (os : List DOper) (ks : List KF) (f : SF) (pd : List Pend) (Q : X → SF → Prop) : Prop := match k with
  | .call g => callD E nt g as f.h o os ks f pd Q
  | k => stD E nt (step k as f.h) o as os ks f pd Q
def gD (E : Env) (nt : Nat) (t : Bool) (o : DOper) (os : List DOper) (ks : List KF) (f : SF) (pd : List Pend) (Q : X → SF → Prop) : Prop := match t with
  | true => opD E nt o.o.k (evArgsF f.fr o.o.args) o os ks f pd Q
  | false => aftK E nt (isE o.o.k.kd) o false [] V.undef os ks ⟨upO f.fr o.o.dst V.undef, f.h, f.ds⟩ pd Q

section rules
variable {ks : List KF} {f : SF} {Q : X → SF → Prop}

theorem wpK_seq (a b : ACode) : wpK E nt (.seq a b) ks f Q = wpK E nt a (.seq b :: ks) f Q := by
  show wpF E nt a f _ = wpF E nt a f _
  congr 1; funext x f1; cases x <;> rfl
theorem wpK_skip : wpK E nt .skip ks f Q = retK E nt Q ks .n f := by unfold wpK; rfl
theorem wpK_reg (os : List AOper) : wpK E nt (.reg os) ks f Q = opsK E nt os ks f Q := by unfold wpK; rfl
theorem wpK_dreg (os : List DOper) : wpK E nt (.dreg os) ks f Q = dopsK E nt os ks f [] Q := by unfold wpK; rfl
theorem wpK_cond (c : AOpd) (a b : ACode) : wpK E nt (.cond c a b) ks f Q = cvK E nt (evOpdF f.fr c) a b ks f Q := by
  unfold wpK cvK brK wpK
  show (match evOpdF f.fr c with | .bool t => _ | _ => False) = _
  split <;> rfl
theorem wpK_block (id : Nat) (b : ACode) : wpK E nt (.block id b) ks f Q = wpK E nt b (.blk id :: ks) f Q := by
  show wpF E nt b f _ = wpF E nt b f _
  congr 1; funext x f1; cases x with
  | n => rfl
  | x i =>
    simp only [retK]
    cases Nat.beq i id
    · rw [if_neg (by simp)]
    · rw [if_pos rfl]
  | r => rfl
theorem wpK_loop (b : ACode) : wpK E nt (.loop b) ks f Q = loopK E nt b ks f Q := by unfold wpK loopK; rfl
theorem wpK_exit (i : Nat) : wpK E nt (.exit i) ks f Q = retK E nt Q ks (.x i) f := by unfold wpK; rfl
theorem wpK_ret : wpK E nt .ret ks f Q = retK E nt Q ks .r f := by unfold wpK; rfl
theorem retK_nil (x : X) : retK E nt Q [] x f = Q x f := by unfold retK; rfl
theorem retK_seq_n (b : ACode) : retK E nt Q (.seq b :: ks) .n f = wpK E nt b ks f Q := by unfold wpK; rfl
theorem retK_seq_x (b : ACode) (i : Nat) : retK E nt Q (.seq b :: ks) (.x i) f = retK E nt Q ks (.x i) f := by rw [retK]
theorem retK_seq_r (b : ACode) : retK E nt Q (.seq b :: ks) .r f = retK E nt Q ks .r f := by rw [retK]
theorem retK_blk_n (id : Nat) : retK E nt Q (.blk id :: ks) .n f = retK E nt Q ks .n f := by rw [retK]
theorem retK_blk_r (id : Nat) : retK E nt Q (.blk id :: ks) .r f = retK E nt Q ks .r f := by rw [retK]
theorem retK_blk_x (id i : Nat) : retK E nt Q (.blk id :: ks) (.x i) f = if i = id then retK E nt Q ks .n f else retK E nt Q ks (.x i) f := by
  rw [retK]
  by_cases e : i = id
  · subst e; rw [if_pos (Nat.beq_refl i), if_pos rfl]
  · rw [if_neg (fun h => e (Nat.eq_of_beq_eq_true h)), if_neg e]
theorem brK_true (a b : ACode) : brK E nt true a b ks f Q = wpK E nt a ks f Q := by unfold brK; rw [if_pos rfl]
theorem brK_false (a b : ACode) : brK E nt false a b ks f Q = wpK E nt b ks f Q := by unfold brK; rw [if_neg (by simp)]
theorem cvK_bool (t : Bool) (a b : ACode) : cvK E nt (.bool t) a b ks f Q = brK E nt t a b ks f Q := by unfold cvK; rfl
theorem opsK_nil : opsK E nt [] ks f Q = retK E nt Q ks .n f := by unfold opsK; rfl
theorem opsK_cons (o : AOper) (os : List AOper) : opsK E nt (o :: os) ks f Q = gK E nt (wantedF f.fr o.g) o os ks f Q := by
  unfold opsK gK opK
  rw [opsW_cons]
  cases wantedF f.fr o.g
  · rfl
  · simp only
    obtain ⟨d, k, as, g⟩ := o
    cases k <;> simp only [stK, opsK, callK] <;> first | rfl | (split <;> rfl)
theorem gK_false (o : AOper) (os : List AOper) : gK E nt false o os ks f Q = opsK E nt os ks ⟨upO f.fr o.dst V.undef, f.h, f.ds⟩ Q := by unfold gK; rfl
theorem gK_true (o : AOper) (os : List AOper) : gK E nt true o os ks f Q = opK E nt o.k (evArgsF f.fr o.args) o.dst os ks f Q := by unfold gK; rfl
theorem opK_eq (k : OpK) (as : List V) (d : Option Nat) (os : List AOper) : opK E nt k as d os ks f Q = match k with
    | .call g => callK E nt g as f.h d os ks f Q
    | k => stK E nt (step k as f.h) d os ks f Q := by unfold opK; rfl
theorem stK_some (v : V) (h' : Hp) (d : Option Nat) (os : List AOper) : stK E nt (some (v, h')) d os ks f Q = opsK E nt os ks ⟨upO f.fr d v, h', f.ds⟩ Q := by unfold stK; rfl
theorem dopsK_nil (pd : List Pend) : dopsK E nt [] ks f pd Q = retK E nt Q ks .n f := by unfold dopsK; rfl
theorem dopsK_cons (o : DOper) (os : List DOper) (pd : List Pend) : dopsK E nt (o :: os) ks f pd Q = gD E nt (wantedF f.fr o.o.g) o os ks f pd Q := by
  unfold dopsK
  rw [dopsW_cons, opsW_cons]
  have aft : ∀ (w : Bool) (as : List V) (v : V) (h' : Hp), wantedF f.fr o.o.g = w → (w = true → as = evArgsF f.fr o.o.args) →
      (opsW E [] ⟨upO f.fr o.o.dst v, h', f.ds⟩ fun f1 => match isE o.o.k.kd with
        | true => match checkPend f1.h pd with
          | some pd' => dopsW E os f1 pd' fun f1 => retK E nt Q ks .n f1
          | none => False
        | false => dopsW E os f1 (addPendF o f f1 pd) fun f1 => retK E nt Q ks .n f1) = aftK E nt (isE o.o.k.kd) o w as v os ks ⟨upO f.fr o.o.dst v, h', f.ds⟩ pd Q := by
    intro w as v h' hw ha
    rw [opsW_nil]
    unfold aftK
    cases isE o.o.k.kd
    · simp only [pndK, dopsK]
      congr 1
      unfold addPendF isLD
      rw [hw]
      cases w
      · simp
      · rw [ha rfl]
        cases hb : (isL o.o.k.kd && true && !Nat.beq o.fl 0)
        · simp
        · simp only [cond_true]
          cases hd : o.o.dst with
          | none => rfl
          | some d => simp only [upO, up_eq, if_true]
    · simp only [chkK, dopsK]
  unfold gD
  cases hw : wantedF f.fr o.o.g
  · simp only
    exact aft false [] V.undef f.h hw (fun e => nomatch e)
  · simp only
    obtain ⟨⟨d, k, as, g⟩, ix, fl⟩ := o
    have := fun v h' => aft true (evArgsF f.fr as) v h' hw (fun _ => rfl)
    have key : ∀ r : Option (V × Hp), (match r with
        | some (v, h') => (opsW E [] ⟨upO f.fr d v, h', f.ds⟩ fun f1 => match isE k.kd with
          | true => match checkPend f1.h pd with
            | some pd' => dopsW E os f1 pd' fun f1 => retK E nt Q ks .n f1
            | none => False
          | false => dopsW E os f1 (addPendF ⟨⟨d, k, as, g⟩, ix, fl⟩ f f1 pd) fun f1 => retK E nt Q ks .n f1)
        | none => False) = stD E nt r ⟨⟨d, k, as, g⟩, ix, fl⟩ (evArgsF f.fr as) os ks f pd Q := fun r => by
      cases r with
      | none => rfl
      | some p => exact this p.1 p.2
    have key := key (step k (evArgsF f.fr as) f.h)
    cases k <;> first
      | exact key
      | exact propext ⟨fun ⟨v, h', h1, h2⟩ => ⟨v, h', h1, (this v h').mp h2⟩, fun ⟨v, h', h1, h2⟩ => ⟨v, h', h1, (this v h').mpr h2⟩⟩
theorem gD_false (o : DOper) (os : List DOper) (pd : List Pend) : gD E nt false o os ks f pd Q = aftK E nt (isE o.o.k.kd) o false [] V.undef os ks ⟨upO f.fr o.o.dst V.undef, f.h, f.ds⟩ pd Q := by unfold gD; rfl
theorem gD_true (o : DOper) (os : List DOper) (pd : List Pend) : gD E nt true o os ks f pd Q = opD E nt o.o.k (evArgsF f.fr o.o.args) o os ks f pd Q := by unfold gD; rfl
theorem opD_eq (k : OpK) (as : List V) (o : DOper) (os : List DOper) (pd : List Pend) : opD E nt k as o os ks f pd Q = match k with
    | .call g => callD E nt g as f.h o os ks f pd Q
    | k => stD E nt (step k as f.h) o as os ks f pd Q := by unfold opD; rfl
theorem stD_some (v : V) (h' : Hp) (o : DOper) (as : List V) (os : List DOper) (pd : List Pend) : stD E nt (some (v, h')) o as os ks f pd Q = aftK E nt (isE o.o.k.kd) o true as v os ks ⟨upO f.fr o.o.dst v, h', f.ds⟩ pd Q := by unfold stD; rfl
theorem aftK_true (o : DOper) (w : Bool) (as : List V) (v : V) (os : List DOper) (pd : List Pend) : aftK E nt true o w as v os ks f pd Q = chkK E nt (checkPend f.h pd) os ks f Q := by unfold aftK; rfl
theorem aftK_false (o : DOper) (w : Bool) (as : List V) (v : V) (os : List DOper) (pd : List Pend) : aftK E nt false o w as v os ks f pd Q = dopsK E nt os ks f (match isL o.o.k.kd && w && !Nat.beq o.fl 0 with
    | true => (match o.o.dst with | some d => ⟨o.o.k, as, v, o.fl⟩ :: pd | none => pd)
    | false => pd) Q := by unfold aftK pndK; rfl
theorem chkK_some (pd' : List Pend) (os : List DOper) : chkK E nt (some pd') os ks f Q = dopsK E nt os ks f pd' Q := by unfold chkK; rfl
end rules

/- ### from the machine back -/

theorem brK_i {t : Bool} {a b : ACode} {ks : List KF} {f : SF} {Q : X → SF → Prop} (h1 : t = true → wpK E nt a ks f Q) (h2 : t = false → wpK E nt b ks f Q) : brK E nt t a b ks f Q := by
  cases t
  · rw [brK_false]; exact h2 rfl
  · rw [brK_true]; exact h1 rfl
theorem gK_i {t : Bool} {o : AOper} {os : List AOper} {ks : List KF} {f : SF} {Q : X → SF → Prop} (h1 : t = true → gK E nt true o os ks f Q) (h2 : t = false → gK E nt false o os ks f Q) : gK E nt t o os ks f Q := by
  cases t
  · exact h2 rfl
  · exact h1 rfl
theorem gD_i {t : Bool} {o : DOper} {os : List DOper} {ks : List KF} {f : SF} {pd : List Pend} {Q : X → SF → Prop} (h1 : t = true → gD E nt true o os ks f pd Q) (h2 : t = false → gD E nt false o os ks f pd Q) : gD E nt t o os ks f pd Q := by
  cases t
  · exact h2 rfl
  · exact h1 rfl
theorem callI {g : Nat} {as : List V} {h h' : Hp} {v : V} {d : Option Nat} {os : List AOper} {ks : List KF} {f : SF} {Q : X → SF → Prop} (hc : Cl E g as h v h') (hr : opsK E nt os ks ⟨upO f.fr d v, h', f.ds⟩ Q) : callK E nt g as h d os ks f Q := ⟨v, h', hc, hr⟩
theorem callDI {g : Nat} {as : List V} {h h' : Hp} {v : V} {o : DOper} {os : List DOper} {ks : List KF} {f : SF} {pd : List Pend} {Q : X → SF → Prop} (hc : Cl E g as h v h') (hr : aftK E nt true o true as v os ks ⟨upO f.fr o.o.dst v, h', f.ds⟩ pd Q) : callD E nt g as h o os ks f pd Q := ⟨v, h', hc, hr⟩
theorem stI {r : Option (V × Hp)} {v : V} {h' : Hp} {d : Option Nat} {os : List AOper} {ks : List KF} {f : SF} {Q : X → SF → Prop} (hs : r = some (v, h')) (hr : opsK E nt os ks ⟨upO f.fr d v, h', f.ds⟩ Q) : stK E nt r d os ks f Q := by
  rw [hs, stK_some]; exact hr

/-- A loop, by what holds at each round's beginning and a number that falls. -/
theorem loopI {b : ACode} {ks : List KF} {Q : X → SF → Prop} (I : Nat → SF → Prop) (hw : wfC nt b = true)
    (h : ∀ k f, I k f → wpK E nt b [] f fun x f1 => match x with | .n => ∃ k', k' < k ∧ I k' f1 | .x i => retK E nt Q ks (.x i) f1 | .r => retK E nt Q ks .r f1)
    {k : Nat} {f : SF} (hi : I k f) : loopK E nt b ks f Q :=
  loop_rule I (Q := fun x f1 => retK E nt Q ks x f1) hw (fun k f hi => by
    have := h k f hi
    unfold wpK at this
    have e : (fun x f1 => retK E nt (fun x f1 => match x with | .n => ∃ k', k' < k ∧ I k' f1 | .x i => retK E nt Q ks (.x i) f1 | .r => retK E nt Q ks .r f1) [] x f1) = fun x f1 => match x with | .n => ∃ k', k' < k ∧ I k' f1 | .x i => retK E nt Q ks (.x i) f1 | .r => retK E nt Q ks .r f1 := by
      funext x f1; rw [retK_nil]
    rw [e] at this
    exact this) k f hi

/-- what a function is to leave. -/
def postK (rs : List RV) (R : V → Hp → Prop) : X → SF → Prop := fun x f' => (match x with | .x _ => False | _ => True) ∧ f'.ds = [] ∧ ∃ v, resVF f'.fr f'.h rs = some v ∧ R v f'.h
def resK (r : Option V) (R : V → Hp → Prop) (h : Hp) : Prop := match r with
  | some v => R v h
  | none => False
theorem postK_r (rs : List RV) (R : V → Hp → Prop) (fr : FF) (h : Hp) : postK rs R .r ⟨fr, h, []⟩ = resK (resVF fr h rs) R h := by
  unfold postK resK
  cases hv : resVF fr h rs with
  | none => simp
  | some v => simp
theorem postK_n (rs : List RV) (R : V → Hp → Prop) (fr : FF) (h : Hp) : postK rs R .n ⟨fr, h, []⟩ = resK (resVF fr h rs) R h := by
  unfold postK resK
  cases hv : resVF fr h rs with
  | none => simp
  | some v => simp
theorem resK_some (v : V) (R : V → Hp → Prop) (h : Hp) : resK (some v) R h = R v h := by unfold resK; rfl

theorem Cl.of_wpK {g : Nat} {af : AFunc} {args : List V} {h : Hp} {R : V → Hp → Prop} (hn : E.nat g = none) (ht : E.tbl g = some af) (hl : Nat.blt args.length (2 ^ af.dep) = true) (hnt : Nat.blt (nt + 1) (2 ^ af.dep) = true) (hw : wfC nt af.body = true)
    (hb : wpK E nt af.body [] ⟨initF args, h, []⟩ (postK af.res R)) : ∃ v h', Cl E g args h v h' ∧ R v h' := by
  refine Cl.of_wp hn ht hl hnt hw ?_
  have e : (fun x f1 => retK E nt (postK af.res R) [] x f1) = postK af.res R := by funext x f1; rw [retK_nil]
  unfold wpK at hb
  rw [e] at hb
  exact hb

theorem kW :
    (∀ (E : Env) (nt : Nat) (ks : List KF) (f : SF) (Q : X → SF → Prop) (a b : ACode), wpK E nt (.seq a b) ks f Q = wpK E nt a (.seq b :: ks) f Q) ∧
    (∀ (E : Env) (nt : Nat) (ks : List KF) (f : SF) (Q : X → SF → Prop) , wpK E nt .skip ks f Q = retK E nt Q ks .n f) ∧
    (∀ (E : Env) (nt : Nat) (ks : List KF) (f : SF) (Q : X → SF → Prop) (os : List AOper), wpK E nt (.reg os) ks f Q = opsK E nt os ks f Q) ∧
    (∀ (E : Env) (nt : Nat) (ks : List KF) (f : SF) (Q : X → SF → Prop) (os : List DOper), wpK E nt (.dreg os) ks f Q = dopsK E nt os ks f [] Q) ∧
    (∀ (E : Env) (nt : Nat) (ks : List KF) (f : SF) (Q : X → SF → Prop) (c : AOpd) (a b : ACode), wpK E nt (.cond c a b) ks f Q = cvK E nt (evOpdF f.fr c) a b ks f Q) ∧
    (∀ (E : Env) (nt : Nat) (ks : List KF) (f : SF) (Q : X → SF → Prop) (id : Nat) (b : ACode), wpK E nt (.block id b) ks f Q = wpK E nt b (.blk id :: ks) f Q) ∧
    (∀ (E : Env) (nt : Nat) (ks : List KF) (f : SF) (Q : X → SF → Prop) (b : ACode), wpK E nt (.loop b) ks f Q = loopK E nt b ks f Q) ∧
    (∀ (E : Env) (nt : Nat) (ks : List KF) (f : SF) (Q : X → SF → Prop) (i : Nat), wpK E nt (.exit i) ks f Q = retK E nt Q ks (.x i) f) ∧
    (∀ (E : Env) (nt : Nat) (ks : List KF) (f : SF) (Q : X → SF → Prop) , wpK E nt .ret ks f Q = retK E nt Q ks .r f) := by
  refine ⟨?_, ?_, ?_, ?_, ?_, ?_, ?_, ?_, ?_⟩
  · intros; exact wpK_seq ..
  · intros; exact wpK_skip
  · intros; exact wpK_reg ..
  · intros; exact wpK_dreg ..
  · intros; exact wpK_cond ..
  · intros; exact wpK_block ..
  · intros; exact wpK_loop ..
  · intros; exact wpK_exit ..
  · intros; exact wpK_ret
theorem kK :
    (∀ (E : Env) (nt : Nat) (f : SF) (Q : X → SF → Prop) (x : X), retK E nt Q [] x f = Q x f) ∧
    (∀ (E : Env) (nt : Nat) (ks : List KF) (f : SF) (Q : X → SF → Prop) (b : ACode), retK E nt Q (.seq b :: ks) .n f = wpK E nt b ks f Q) ∧
    (∀ (E : Env) (nt : Nat) (ks : List KF) (f : SF) (Q : X → SF → Prop) (b : ACode) (i : Nat), retK E nt Q (.seq b :: ks) (.x i) f = retK E nt Q ks (.x i) f) ∧
    (∀ (E : Env) (nt : Nat) (ks : List KF) (f : SF) (Q : X → SF → Prop) (b : ACode), retK E nt Q (.seq b :: ks) .r f = retK E nt Q ks .r f) ∧
    (∀ (E : Env) (nt : Nat) (ks : List KF) (f : SF) (Q : X → SF → Prop) (id : Nat), retK E nt Q (.blk id :: ks) .n f = retK E nt Q ks .n f) ∧
    (∀ (E : Env) (nt : Nat) (ks : List KF) (f : SF) (Q : X → SF → Prop) (id : Nat), retK E nt Q (.blk id :: ks) .r f = retK E nt Q ks .r f) ∧
    (∀ (E : Env) (nt : Nat) (ks : List KF) (f : SF) (Q : X → SF → Prop) (id i : Nat), retK E nt Q (.blk id :: ks) (.x i) f = if i = id then retK E nt Q ks .n f else retK E nt Q ks (.x i) f) ∧
    (∀ (E : Env) (nt : Nat) (ks : List KF) (f : SF) (Q : X → SF → Prop) (a b : ACode), brK E nt true a b ks f Q = wpK E nt a ks f Q) ∧
    (∀ (E : Env) (nt : Nat) (ks : List KF) (f : SF) (Q : X → SF → Prop) (a b : ACode), brK E nt false a b ks f Q = wpK E nt b ks f Q) ∧
    (∀ (E : Env) (nt : Nat) (ks : List KF) (f : SF) (Q : X → SF → Prop) (t : Bool) (a b : ACode), cvK E nt (.bool t) a b ks f Q = brK E nt t a b ks f Q) ∧
    (∀ (E : Env) (nt : Nat) (ks : List KF) (f : SF) (Q : X → SF → Prop) , opsK E nt [] ks f Q = retK E nt Q ks .n f) ∧
    (∀ (E : Env) (nt : Nat) (ks : List KF) (f : SF) (Q : X → SF → Prop) (o : AOper) (os : List AOper), opsK E nt (o :: os) ks f Q = gK E nt (wantedF f.fr o.g) o os ks f Q) ∧
    (∀ (E : Env) (nt : Nat) (ks : List KF) (f : SF) (Q : X → SF → Prop) (o : AOper) (os : List AOper), gK E nt false o os ks f Q = opsK E nt os ks ⟨upO f.fr o.dst V.undef, f.h, f.ds⟩ Q) ∧
    (∀ (E : Env) (nt : Nat) (ks : List KF) (f : SF) (Q : X → SF → Prop) (o : AOper) (os : List AOper), gK E nt true o os ks f Q = opK E nt o.k (evArgsF f.fr o.args) o.dst os ks f Q) ∧
    (∀ (E : Env) (nt : Nat) (ks : List KF) (f : SF) (Q : X → SF → Prop) (k : OpK) (as : List V) (d : Option Nat) (os : List AOper), opK E nt k as d os ks f Q = match k with
    | .call g => callK E nt g as f.h d os ks f Q
    | k => stK E nt (step k as f.h) d os ks f Q) ∧
    (∀ (E : Env) (nt : Nat) (ks : List KF) (f : SF) (Q : X → SF → Prop) (v : V) (h' : Hp) (d : Option Nat) (os : List AOper), stK E nt (some (v, h')) d os ks f Q = opsK E nt os ks ⟨upO f.fr d v, h', f.ds⟩ Q) ∧
    (∀ (E : Env) (nt : Nat) (ks : List KF) (f : SF) (Q : X → SF → Prop) (pd : List Pend), dopsK E nt [] ks f pd Q = retK E nt Q ks .n f) ∧
    (∀ (E : Env) (nt : Nat) (ks : List KF) (f : SF) (Q : X → SF → Prop) (o : DOper) (os : List DOper) (pd : List Pend), dopsK E nt (o :: os) ks f pd Q = gD E nt (wantedF f.fr o.o.g) o os ks f pd Q) ∧
    (∀ (E : Env) (nt : Nat) (ks : List KF) (f : SF) (Q : X → SF → Prop) (o : DOper) (os : List DOper) (pd : List Pend), gD E nt false o os ks f pd Q = aftK E nt (isE o.o.k.kd) o false [] V.undef os ks ⟨upO f.fr o.o.dst V.undef, f.h, f.ds⟩ pd Q) ∧
    (∀ (E : Env) (nt : Nat) (ks : List KF) (f : SF) (Q : X → SF → Prop) (o : DOper) (os : List DOper) (pd : List Pend), gD E nt true o os ks f pd Q = opD E nt o.o.k (evArgsF f.fr o.o.args) o os ks f pd Q) ∧
    (∀ (E : Env) (nt : Nat) (ks : List KF) (f : SF) (Q : X → SF → Prop) (k : OpK) (as : List V) (o : DOper) (os : List DOper) (pd : List Pend), opD E nt k as o os ks f pd Q = match k with
    | .call g => callD E nt g as f.h o os ks f pd Q
    | k => stD E nt (step k as f.h) o as os ks f pd Q) ∧
    (∀ (E : Env) (nt : Nat) (ks : List KF) (f : SF) (Q : X → SF → Prop) (v : V) (h' : Hp) (o : DOper) (as : List V) (os : List DOper) (pd : List Pend), stD E nt (some (v, h')) o as os ks f pd Q = aftK E nt (isE o.o.k.kd) o true as v os ks ⟨upO f.fr o.o.dst v, h', f.ds⟩ pd Q) ∧
    (∀ (E : Env) (nt : Nat) (ks : List KF) (f : SF) (Q : X → SF → Prop) (o : DOper) (w : Bool) (as : List V) (v : V) (os : List DOper) (pd : List Pend), aftK E nt true o w as v os ks f pd Q = chkK E nt (checkPend f.h pd) os ks f Q) ∧
    (∀ (E : Env) (nt : Nat) (ks : List KF) (f : SF) (Q : X → SF → Prop) (o : DOper) (w : Bool) (as : List V) (v : V) (os : List DOper) (pd : List Pend), aftK E nt false o w as v os ks f pd Q = dopsK E nt os ks f (match isL o.o.k.kd && w && !Nat.beq o.fl 0 with
    | true => (match o.o.dst with | some d => ⟨o.o.k, as, v, o.fl⟩ :: pd | none => pd)
    | false => pd) Q) ∧
    (∀ (E : Env) (nt : Nat) (ks : List KF) (f : SF) (Q : X → SF → Prop) (pd' : List Pend) (os : List DOper), chkK E nt (some pd') os ks f Q = dopsK E nt os ks f pd' Q) := by
  refine ⟨?_, ?_, ?_, ?_, ?_, ?_, ?_, ?_, ?_, ?_, ?_, ?_, ?_, ?_, ?_, ?_, ?_, ?_, ?_, ?_, ?_, ?_, ?_, ?_, ?_⟩
  · intros; exact retK_nil ..
  · intros; exact retK_seq_n ..
  · intros; exact retK_seq_x ..
  · intros; exact retK_seq_r ..
  · intros; exact retK_blk_n ..
  · intros; exact retK_blk_r ..
  · intros; exact retK_blk_x ..
  · intros; exact brK_true ..
  · intros; exact brK_false ..
  · intros; exact cvK_bool ..
  · intros; exact opsK_nil
  · intros; exact opsK_cons ..
  · intros; exact gK_false ..
  · intros; exact gK_true ..
  · intros; exact opK_eq ..
  · intros; exact stK_some ..
  · intros; exact dopsK_nil ..
  · intros; exact dopsK_cons ..
  · intros; exact gD_false ..
  · intros; exact gD_true ..
  · intros; exact opD_eq ..
  · intros; exact stD_some ..
  · intros; exact aftK_true ..
  · intros; exact aftK_false ..
  · intros; exact chkK_some ..

end Go.Aev
