/- The abstract interpreter: walking code with unknown values. -/
import Derived.Test.YtbnabgaepphlnaaGreatAevBig
set_option linter.unusedVariables false
set_option linter.unusedSimpArgs false
namespace Go.Aev
variable {E : Env} {nt : Nat}

/-- The operations of a region, one by one; calls by what is known of them. -/
def opsW (E : Env) : List AOper → SF → (SF → Prop) → Prop
  | [], f, Q => Q f
  | o :: os, f, Q => match wantedF f.fr o.g with
    | true => match o.k with
      | .call g => ∃ v h', Cl E g (evArgsF f.fr o.args) f.h v h' ∧ opsW E os ⟨upO f.fr o.dst v, h', f.ds⟩ Q
      | k => match step k (evArgsF f.fr o.args) f.h with
        | some (v, h') => opsW E os ⟨upO f.fr o.dst v, h', f.ds⟩ Q
        | none => False
    | false => opsW E os ⟨upO f.fr o.dst V.undef, f.h, f.ds⟩ Q

theorem opsW_ok : ∀ {ops : List AOper} {f : SF} {Q : SF → Prop}, opsW E ops f Q → ∃ f', OpsR E ops f f' ∧ Q f'
  | [], f, Q, h => ⟨f, OpsR.nil, h⟩
  | o :: os, f, Q, h => by
    unfold opsW at h
    split at h
    · rename_i hw
      split at h
      · rename_i g hk
        obtain ⟨v, h', hc, hr⟩ := h
        obtain ⟨f', h1, h2⟩ := opsW_ok hr
        exact ⟨f', OpsR.call hk hw hc h1, h2⟩
      · rename_i hk
        split at h
        · rename_i v h' hst
          obtain ⟨f', h1, h2⟩ := opsW_ok h
          refine ⟨f', OpsR.app (a := [o]) (f1 := ⟨upO f.fr o.dst v, h', f.ds⟩) (OpsR.all ?_) h1, h2⟩
          have hs : stepC noCalls o.k (evArgsF f.fr o.args) f.h = some (v, h') := by
            cases hkk : o.k <;> first
              | (rw [hkk] at hst; exact hst)
              | (rw [hkk] at hst; exact nomatch hst)
          simp only [evOpsF, evOperF, hw, cond_true]
          split
          · rename_i h1 h2
            split at h2
            · rename_i hd; rw [hd] at hst; exact nomatch hst
            · rw [hs] at h2; simp only [Option.some.injEq] at h2; rw [h2]
          · rename_i h2
            split at h2
            · rename_i hd; rw [hd] at hst; exact nomatch hst
            · rw [hs] at h2; exact nomatch h2
        · exact h.elim
    · rename_i hw
      obtain ⟨f', h1, h2⟩ := opsW_ok h
      refine ⟨f', OpsR.app (a := [o]) (f1 := ⟨upO f.fr o.dst V.undef, f.h, f.ds⟩) (OpsR.all ?_) h1, h2⟩
      simp only [evOpsF, evOperF, hw, cond_false]

def DOpsR1 (E : Env) (o : DOper) (f f1 : SF) : Prop := ∃ n, evOperF (callN E n) o.o f = some f1

/-- The same for a region that draws its order. -/
def dopsW (E : Env) : List DOper → SF → List Pend → (SF → Prop) → Prop
  | [], f, _, Q => Q f
  | o :: os, f, pd, Q => opsW E [o.o] f fun f1 => match isE o.o.k.kd with
    | true => match checkPend f1.h pd with
      | some pd' => dopsW E os f1 pd' Q
      | none => False
    | false => dopsW E os f1 (addPendF o f f1 pd) Q

theorem dopsW_ok : ∀ {ops : List DOper} {f : SF} {pd : List Pend} {Q : SF → Prop}, dopsW E ops f pd Q → ∃ f', DOpsR E ops f pd f' ∧ Q f'
  | [], f, pd, Q, h => ⟨f, ⟨0, rfl⟩, h⟩
  | o :: os, f, pd, Q, h => by
    unfold dopsW at h
    obtain ⟨f1, ⟨n, hn⟩, h1⟩ := opsW_ok h
    have hone : evOperF (callN E n) o.o f = some f1 := by
      simp only [evOpsF] at hn
      split at hn
      · rename_i s' hs; rw [hs, hn]
      · exact nomatch hn
    split at h1
    · rename_i hE
      split at h1
      · rename_i pd' hpd
        obtain ⟨f', ⟨m, hm⟩, h3⟩ := dopsW_ok h1
        refine ⟨f', ⟨max n m, ?_⟩, h3⟩
        simp only [evDOpsF, evOperF_mono (callN_mono E (Nat.le_max_left n m)) hone, hE, cond_true, hpd]
        exact evDOpsF_mono (callN_mono E (Nat.le_max_right n m)) hm
      · exact h1.elim
    · rename_i hE
      obtain ⟨f', ⟨m, hm⟩, h3⟩ := dopsW_ok h1
      refine ⟨f', ⟨max n m, ?_⟩, h3⟩
      simp only [evDOpsF, evOperF_mono (callN_mono E (Nat.le_max_left n m)) hone, hE, cond_false]
      exact evDOpsF_mono (callN_mono E (Nat.le_max_right n m)) hm

/-- What holds behind a piece of code. -/
def wpF (E : Env) (nt : Nat) : ACode → SF → (X → SF → Prop) → Prop
  | .skip, f, Q => Q .n f
  | .reg ops, f, Q => opsW E ops f fun f1 => Q .n f1
  | .dreg ops, f, Q => dopsW E ops f [] fun f1 => Q .n f1
  | .seq a b, f, Q => wpF E nt a f fun x f1 => match x with
    | .n => wpF E nt b f1 Q
    | .x i => Q (.x i) f1
    | .r => Q .r f1
  | .cond c a b, f, Q => match evOpdF f.fr c with
    | .bool t => if t = true then wpF E nt a f Q else wpF E nt b f Q
    | _ => False
  | .block id b, f, Q => wpF E nt b f fun x f1 => match x with
    | .n => Q .n f1
    | .x i => (match Nat.beq i id with | true => Q .n f1 | false => Q (.x i) f1)
    | .r => Q .r f1
  | .loop b, f, Q => ∃ x f', Ex E nt (.loop b) f x f' ∧ Q x f'
  | .exit id, f, Q => Q (.x id) f
  | .ret, f, Q => Q .r f

def wfC (nt : Nat) : ACode → Bool
  | .reg ops => ops.all (dstOk nt)
  | .dreg ops => ops.all fun o => dstOk nt o.o
  | .seq a b => wfC nt a && wfC nt b
  | .cond _ a b => wfC nt a && wfC nt b
  | .block _ b => wfC nt b
  | .loop b => wfC nt b
  | _ => true

theorem wpF_ok : ∀ {c : ACode} {f : SF} {Q : X → SF → Prop}, wfC nt c = true → wpF E nt c f Q → ∃ x f', Ex E nt c f x f' ∧ Q x f'
  | .skip, f, Q, _, h => ⟨.n, f, Ex.skip, h⟩
  | .reg ops, f, Q, hw, h => by
    obtain ⟨f', h1, h2⟩ := opsW_ok h
    exact ⟨.n, f', Ex.reg hw h1, h2⟩
  | .dreg ops, f, Q, hw, h => by
    obtain ⟨f', h1, h2⟩ := dopsW_ok h
    exact ⟨.n, f', Ex.dreg hw h1, h2⟩
  | .seq a b, f, Q, hw, h => by
    simp only [wfC, Bool.and_eq_true] at hw
    obtain ⟨x, f1, h1, h2⟩ := wpF_ok (c := a) hw.1 h
    cases x with
    | n =>
      obtain ⟨y, f2, h3, h4⟩ := wpF_ok (c := b) hw.2 h2
      exact ⟨y, f2, Ex.seq h1 h3, h4⟩
    | x i => exact ⟨_, f1, Ex.seqx h1 (fun e => nomatch e), h2⟩
    | r => exact ⟨_, f1, Ex.seqx h1 (fun e => nomatch e), h2⟩
  | .cond c a b, f, Q, hw, h => by
    simp only [wfC, Bool.and_eq_true] at hw
    unfold wpF at h
    split at h
    · rename_i t ht
      cases t
      · obtain ⟨x, f1, h1, h2⟩ := wpF_ok (c := b) hw.2 (by simpa using h)
        exact ⟨x, f1, Ex.cond false ht h1, h2⟩
      · obtain ⟨x, f1, h1, h2⟩ := wpF_ok (c := a) hw.1 (by simpa using h)
        exact ⟨x, f1, Ex.cond true ht h1, h2⟩
    · exact h.elim
  | .block id b, f, Q, hw, h => by
    simp only [wfC] at hw
    obtain ⟨x, f1, h1, h2⟩ := wpF_ok (c := b) hw h
    cases x with
    | n => exact ⟨_, f1, Ex.block_n h1, h2⟩
    | x i =>
      simp only at h2
      cases hb : Nat.beq i id <;> rw [hb] at h2
      · exact ⟨_, f1, Ex.block_other h1 hb, h2⟩
      · have := Nat.eq_of_beq_eq_true hb
        subst this
        exact ⟨_, f1, Ex.block_exit h1, h2⟩
    | r => exact ⟨_, f1, Ex.block_r h1, h2⟩
  | .loop b, f, Q, _, h => h
  | .exit id, f, Q, _, h => ⟨_, f, Ex.exit, h⟩
  | .ret, f, Q, _, h => ⟨_, f, Ex.ret, h⟩

theorem sp {t : Bool} {A B : Prop} (h1 : t = true → A) (h2 : t = false → B) : if t = true then A else B := by
  cases t
  · simpa using h2 rfl
  · simpa using h1 rfl

/-- A loop, by what holds at each round's beginning and a number that falls. -/
theorem loop_rule {b : ACode} (I : Nat → SF → Prop) {Q : X → SF → Prop} (hw : wfC nt b = true)
    (h : ∀ k f, I k f → wpF E nt b f fun x f1 => match x with | .n => ∃ k', k' < k ∧ I k' f1 | .x i => Q (.x i) f1 | .r => Q .r f1) :
    ∀ k f, I k f → ∃ x f', Ex E nt (.loop b) f x f' ∧ Q x f' := by
  intro k
  induction k using Nat.strongRecOn with
  | ind k ih =>
    intro f hi
    obtain ⟨x, f1, h1, h2⟩ := wpF_ok hw (h k f hi)
    cases x with
    | n =>
      obtain ⟨k', hk, hi'⟩ := h2
      obtain ⟨y, f2, h3, h4⟩ := ih k' hk f1 hi'
      exact ⟨y, f2, Ex.loop_n h1 h3, h4⟩
    | x i => exact ⟨_, f1, Ex.loop_x h1 (fun e => nomatch e), h2⟩
    | r => exact ⟨_, f1, Ex.loop_x h1 (fun e => nomatch e), h2⟩

/-- A function of the table: what its body leaves. -/
theorem Cl.of_wp {g : Nat} {af : AFunc} {args : List V} {h : Hp} {R : V → Hp → Prop} (hn : E.nat g = none) (ht : E.tbl g = some af) (hl : Nat.blt args.length (2 ^ af.dep) = true) (hnt : Nat.blt (nt + 1) (2 ^ af.dep) = true) (hw : wfC nt af.body = true)
    (hb : wpF E nt af.body ⟨initF args, h, []⟩ fun x f' => (match x with | .x _ => False | _ => True) ∧ f'.ds = [] ∧ ∃ v, resVF f'.fr f'.h af.res = some v ∧ R v f'.h) : ∃ v h', Cl E g args h v h' ∧ R v h' := by
  obtain ⟨x, f', h1, h2, h3, v, h4, h5⟩ := wpF_ok hw hb
  refine ⟨v, f'.h, Cl.body (nt := nt) (x := x) (f' := f'.fr) hn ht (by simpa [Nat.blt_eq] using hl) (by simpa [Nat.blt_eq] using hnt) ?_ ?_ h4, h5⟩
  · obtain ⟨fr, hh, ds⟩ := f'
    simp only at h3; subst h3; exact h1
  · cases x with
    | n => exact .inl rfl
    | x i => exact h2.elim
    | r => exact .inr rfl

theorem eqK_self (k : IntKind) : eqK k k = true := by cases k <;> rfl

end Go.Aev
