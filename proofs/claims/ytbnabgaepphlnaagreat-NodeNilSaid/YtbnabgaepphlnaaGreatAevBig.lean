/- The abstract interpreter: rules in the large, for proofs with unknown values. -/
import Derived.Test.YtbnabgaepphlnaaGreatAevSym
set_option linter.unusedVariables false
set_option linter.unusedSimpArgs false
namespace Go.Aev

/-- A piece of code, from a state to a state, with enough fuel. -/
def Ex (E : Env) (nt : Nat) (c : ACode) (f : SF) (x : X) (f' : SF) : Prop := ∃ n, ∀ s, Sim nt s f → ∃ s', execN E n c s = .ok x s' ∧ Sim nt s' f'
/-- A call. -/
def Cl (E : Env) (f : Nat) (args : List V) (h : Hp) (v : V) (h' : Hp) : Prop := ∃ n, callN E n f args h = some (v, h')
def OpsR (E : Env) (ops : List AOper) (f f' : SF) : Prop := ∃ n, evOpsF (callN E n) ops f = some f'
def DOpsR (E : Env) (ops : List DOper) (f : SF) (pd : List Pend) (f' : SF) : Prop := ∃ n, evDOpsF (callN E n) ops f pd = some f'

def noCalls : CF := fun _ _ _ => none
theorem noCalls_le (cf : CF) : CF.le noCalls cf := fun _ _ _ _ h => nomatch h

section mono
variable {cf cf' : CF} (h : CF.le cf cf')
include h
theorem evOperF_mono {o : AOper} {s s' : SF} (hs : evOperF cf o s = some s') : evOperF cf' o s = some s' := by
  unfold evOperF at hs ⊢
  cases hw : wantedF s.fr o.g <;> rw [hw] at hs
  · exact hs
  · simp only [cond_true] at hs ⊢
    split at hs
    · exact hs
    · rename_i hk
      split at hs
      · rename_i v h' hst
        rw [stepC_mono h hst]; exact hs
      · exact nomatch hs
theorem evOpsF_mono : ∀ {os : List AOper} {s s' : SF}, evOpsF cf os s = some s' → evOpsF cf' os s = some s'
  | [], s, s', hs => hs
  | o :: os, s, s', hs => by
    simp only [evOpsF] at hs ⊢
    split at hs
    · rename_i s1 h1; rw [evOperF_mono h h1]; exact evOpsF_mono hs
    · exact nomatch hs
theorem evDOpsF_mono : ∀ {os : List DOper} {s s' : SF} {pd : List Pend}, evDOpsF cf os s pd = some s' → evDOpsF cf' os s pd = some s'
  | [], s, s', pd, hs => hs
  | o :: os, s, s', pd, hs => by
    simp only [evDOpsF] at hs ⊢
    split at hs
    · rename_i s1 h1
      rw [evOperF_mono h h1]
      cases hE : isE o.o.k.kd <;> rw [hE] at hs
      · exact evDOpsF_mono hs
      · simp only [cond_true] at hs ⊢
        split at hs
        · rename_i pd' hp; exact evDOpsF_mono hs
        · exact nomatch hs
    · exact nomatch hs
end mono

variable {E : Env} {nt : Nat}

theorem OpsR.nil {f : SF} : OpsR E [] f f := ⟨0, rfl⟩
theorem OpsR.all {ops : List AOper} {f f' : SF} (h : evOpsF noCalls ops f = some f') : OpsR E ops f f' := ⟨0, evOpsF_mono (noCalls_le _) h⟩
theorem evOpsF_append (cf : CF) : ∀ (a b : List AOper) (f : SF), evOpsF cf (a ++ b) f = match evOpsF cf a f with | some f1 => evOpsF cf b f1 | none => none
  | [], b, f => rfl
  | o :: a, b, f => by
    simp only [List.cons_append, evOpsF]
    cases evOperF cf o f with
    | none => rfl
    | some f1 => exact evOpsF_append cf a b f1
theorem OpsR.app {a b : List AOper} {f f1 f2 : SF} (h : OpsR E a f f1) (h' : OpsR E b f1 f2) : OpsR E (a ++ b) f f2 := by
  obtain ⟨n, hn⟩ := h
  obtain ⟨m, hm⟩ := h'
  refine ⟨max n m, ?_⟩
  rw [evOpsF_append, evOpsF_mono (callN_mono E (Nat.le_max_left n m)) hn]
  exact evOpsF_mono (callN_mono E (Nat.le_max_right n m)) hm
theorem OpsR.call {o : AOper} {os : List AOper} {f f2 : SF} {g : Nat} {v : V} {h' : Hp} (hk : o.k = .call g) (hw : wantedF f.fr o.g = true) (hc : Cl E g (evArgsF f.fr o.args) f.h v h') (hr : OpsR E os ⟨upO f.fr o.dst v, h', f.ds⟩ f2) :
    OpsR E (o :: os) f f2 := by
  obtain ⟨n, hn⟩ := hc
  have h1 : OpsR E [o] f ⟨upO f.fr o.dst v, h', f.ds⟩ := ⟨n, by
    simp only [evOpsF, evOperF, hw, cond_true, hk, stepC, hn]⟩
  exact h1.app hr

theorem evDOpsF_append (cf : CF) : ∀ (a b : List DOper) (f : SF) (pd : List Pend), a.all (fun o => !isE o.o.k.kd && !isL o.o.k.kd) = true → evDOpsF cf (a ++ b) f pd = match evOpsF cf (a.map (·.o)) f with | some f1 => evDOpsF cf b f1 pd | none => none
  | [], b, f, pd, _ => rfl
  | o :: a, b, f, pd, h => by
    simp only [List.all_cons, Bool.and_eq_true, Bool.not_eq_true'] at h
    simp only [List.cons_append, evDOpsF, List.map_cons, evOpsF]
    cases evOperF cf o.o f with
    | none => rfl
    | some f1 =>
      have hp : addPendF o f f1 pd = pd := by unfold addPendF; rw [h.1.2]; rfl
      simp only [h.1.1, cond_false, hp]
      exact evDOpsF_append cf a b f1 pd h.2

theorem Ex.reg {ops : List AOper} {f f' : SF} (hd : ops.all (dstOk nt) = true) (h : OpsR E ops f f') : Ex E nt (.reg ops) f .n f' := by
  obtain ⟨n, hn⟩ := h
  refine ⟨n + 1, fun s hs => ?_⟩
  obtain ⟨s', h1, h2⟩ := evOpsF_ok hs hd hn
  exact ⟨s', by show (match evOps (callF E (execN E n)) ops s with | some s' => R.ok .n s' | none => .bad) = _; rw [show evOps (callF E (execN E n)) ops s = some s' from h1], h2⟩
theorem Ex.dreg {ops : List DOper} {f f' : SF} (hd : ops.all (fun o => dstOk nt o.o) = true) (h : DOpsR E ops f [] f') : Ex E nt (.dreg ops) f .n f' := by
  obtain ⟨n, hn⟩ := h
  refine ⟨n + 1, fun s hs => ?_⟩
  obtain ⟨s', h1, h2⟩ := evDOpsF_ok hs hd hn
  exact ⟨s', by show (match evDOps (callF E (execN E n)) ops s [] with | some s' => R.ok .n s' | none => .bad) = _; rw [show evDOps (callF E (execN E n)) ops s [] = some s' from h1], h2⟩
theorem Ex.skip {f : SF} : Ex E nt .skip f .n f := ⟨1, fun s hs => ⟨s, rfl, hs⟩⟩
theorem Ex.exit {f : SF} {i : Nat} : Ex E nt (.exit i) f (.x i) f := ⟨1, fun s hs => ⟨s, rfl, hs⟩⟩
theorem Ex.ret {f : SF} : Ex E nt .ret f .r f := ⟨1, fun s hs => ⟨s, rfl, hs⟩⟩

theorem execN_seq (n : Nat) (a b : ACode) (s : St) : execN E (n + 1) (.seq a b) s = match execN E (n + 1) a s with | .ok .n s' => execN E (n + 1) b s' | r => r := rfl
theorem execN_block (n id : Nat) (b : ACode) (s : St) : execN E (n + 1) (.block id b) s = match execN E (n + 1) b s with | .ok (.x i) s' => (bif Nat.beq i id then R.ok .n s' else .ok (.x i) s') | r => r := rfl
theorem execN_loop (n : Nat) (b : ACode) (s : St) : execN E (n + 1) (.loop b) s = match execN E n b s with | .ok .n s' => execN E n (.loop b) s' | r => r := rfl
theorem execN_cond (n : Nat) (c : AOpd) (a b : ACode) (s : St) : execN E (n + 1) (.cond c a b) s = match evOpd s.fr c with | .bool t => (bif t then execN E (n + 1) a s else execN E (n + 1) b s) | _ => .bad := rfl

theorem Ex.seq {a b : ACode} {f f1 f2 : SF} {x : X} (h : Ex E nt a f .n f1) (h' : Ex E nt b f1 x f2) : Ex E nt (.seq a b) f x f2 := by
  obtain ⟨n, hn⟩ := h
  obtain ⟨m, hm⟩ := h'
  refine ⟨max n m + 1, fun s hs => ?_⟩
  obtain ⟨s1, h1, h2⟩ := hn s hs
  obtain ⟨s2, h3, h4⟩ := hm s1 h2
  refine ⟨s2, ?_, h4⟩
  rw [execN_seq, execN_mono E (by omega : n ≤ max n m + 1) _ _ _ _ h1]
  exact execN_mono E (by omega : m ≤ max n m + 1) _ _ _ _ h3
theorem Ex.seqx {a b : ACode} {f f1 : SF} {x : X} (h : Ex E nt a f x f1) (hx : x ≠ .n) : Ex E nt (.seq a b) f x f1 := by
  obtain ⟨n, hn⟩ := h
  refine ⟨n + 1, fun s hs => ?_⟩
  obtain ⟨s1, h1, h2⟩ := hn s hs
  refine ⟨s1, ?_, h2⟩
  rw [execN_seq, execN_mono E (by omega : n ≤ n + 1) _ _ _ _ h1]
  cases x with
  | n => exact absurd rfl hx
  | x i => rfl
  | r => rfl
theorem Ex.cond {c : AOpd} {a b : ACode} {f f' : SF} {x : X} (t : Bool) (hc : evOpdF f.fr c = .bool t) (h : Ex E nt (match t with | true => a | false => b) f x f') : Ex E nt (.cond c a b) f x f' := by
  obtain ⟨n, hn⟩ := h
  refine ⟨n + 1, fun s hs => ?_⟩
  obtain ⟨s1, h1, h2⟩ := hn s hs
  refine ⟨s1, ?_, h2⟩
  have hv : evOpd s.fr c = .bool t := by
    rw [← hc]; cases c with
    | t i => exact hs.get i
    | c v => rfl
  rw [execN_cond, hv]
  cases t
  · exact execN_mono E (Nat.le_succ n) _ _ _ _ h1
  · exact execN_mono E (Nat.le_succ n) _ _ _ _ h1
theorem Ex.block_exit {id : Nat} {b : ACode} {f f' : SF} (h : Ex E nt b f (.x id) f') : Ex E nt (.block id b) f .n f' := by
  obtain ⟨n, hn⟩ := h
  refine ⟨n + 1, fun s hs => ?_⟩
  obtain ⟨s1, h1, h2⟩ := hn s hs
  refine ⟨s1, ?_, h2⟩
  rw [execN_block, execN_mono E (Nat.le_succ n) _ _ _ _ h1]
  have : Nat.beq id id = true := Nat.beq_refl id
  simp only [this, cond_true]
theorem Ex.block_other {id i : Nat} {b : ACode} {f f' : SF} (h : Ex E nt b f (.x i) f') (hi : Nat.beq i id = false) : Ex E nt (.block id b) f (.x i) f' := by
  obtain ⟨n, hn⟩ := h
  refine ⟨n + 1, fun s hs => ?_⟩
  obtain ⟨s1, h1, h2⟩ := hn s hs
  refine ⟨s1, ?_, h2⟩
  rw [execN_block, execN_mono E (Nat.le_succ n) _ _ _ _ h1]
  simp only [hi, cond_false]
theorem Ex.block_n {id : Nat} {b : ACode} {f f' : SF} (h : Ex E nt b f .n f') : Ex E nt (.block id b) f .n f' := by
  obtain ⟨n, hn⟩ := h
  refine ⟨n + 1, fun s hs => ?_⟩
  obtain ⟨s1, h1, h2⟩ := hn s hs
  exact ⟨s1, by rw [execN_block, execN_mono E (Nat.le_succ n) _ _ _ _ h1], h2⟩
theorem Ex.block_r {id : Nat} {b : ACode} {f f' : SF} (h : Ex E nt b f .r f') : Ex E nt (.block id b) f .r f' := by
  obtain ⟨n, hn⟩ := h
  refine ⟨n + 1, fun s hs => ?_⟩
  obtain ⟨s1, h1, h2⟩ := hn s hs
  exact ⟨s1, by rw [execN_block, execN_mono E (Nat.le_succ n) _ _ _ _ h1], h2⟩
theorem Ex.loop_n {b : ACode} {f f1 f2 : SF} {x : X} (h : Ex E nt b f .n f1) (h' : Ex E nt (.loop b) f1 x f2) : Ex E nt (.loop b) f x f2 := by
  obtain ⟨n, hn⟩ := h
  obtain ⟨m, hm⟩ := h'
  refine ⟨max n m + 1, fun s hs => ?_⟩
  obtain ⟨s1, h1, h2⟩ := hn s hs
  obtain ⟨s2, h3, h4⟩ := hm s1 h2
  refine ⟨s2, ?_, h4⟩
  rw [execN_loop, execN_mono E (by omega : n ≤ max n m) _ _ _ _ h1]
  exact execN_mono E (by omega : m ≤ max n m) _ _ _ _ h3
theorem Ex.loop_x {b : ACode} {f f1 : SF} {x : X} (h : Ex E nt b f x f1) (hx : x ≠ .n) : Ex E nt (.loop b) f x f1 := by
  obtain ⟨n, hn⟩ := h
  refine ⟨n + 1, fun s hs => ?_⟩
  obtain ⟨s1, h1, h2⟩ := hn s hs
  refine ⟨s1, ?_, h2⟩
  rw [execN_loop, h1]
  cases x with
  | n => exact absurd rfl hx
  | x i => rfl
  | r => rfl

def initF (args : List V) : FF := fun t => match args[t]? with
  | some v => v
  | none => V.undef
def resOneF (fr : FF) (h : Hp) : RV → Option V
  | .tmp t => some (fr t)
  | .cell t => sLd [fr t] h
  | .cellA t n => sLdA n [fr t] h
def resAllF (fr : FF) (h : Hp) : List RV → Option (List V)
  | [] => some []
  | r :: rs => match resOneF fr h r with
    | some v => match resAllF fr h rs with
      | some vs => some (v :: vs)
      | none => none
    | none => none
def resVF (fr : FF) (h : Hp) (rs : List RV) : Option V :=
  match resAllF fr h rs with
  | some [v] => some v
  | some vs => some (.tup vs)
  | none => none
theorem resVF_eq {fr : Fr} {f : FF} (hg : getF fr = f) (h : Hp) (rs : List RV) : resV fr h rs = resVF f h rs := by
  have h1 : ∀ r, resOne fr h r = resOneF f h r := fun r => by cases r <;> simp only [resOne, resOneF, hg]
  have h2 : ∀ rs, resAll fr h rs = resAllF f h rs := fun rs => by
    induction rs with
    | nil => rfl
    | cons r rs ih => simp only [resAll, resAllF, h1, ih]; rfl
  unfold resV resVF
  rw [h2]; rfl

/-- A call of a function of the table. -/
theorem Cl.body {g : Nat} {af : AFunc} {args : List V} {h h' : Hp} {v : V} {x : X} {f' : FF} (hn : E.nat g = none) (ht : E.tbl g = some af) (hl : args.length < 2 ^ af.dep) (hnt : nt + 1 < 2 ^ af.dep)
    (he : Ex E nt af.body ⟨initF args, h, []⟩ x ⟨f', h', []⟩) (hx : x = .n ∨ x = .r) (hv : resVF f' h' af.res = some v) : Cl E g args h v h' := by
  obtain ⟨n, hn'⟩ := he
  have hsim : Sim nt ⟨initFr args 0 (Tr.full af.dep), h, []⟩ ⟨initF args, h, []⟩ := by
    refine ⟨fun t => ?_, fun t ht => ?_, rfl, rfl⟩
    · rw [initFr_get _ _ _ (fun t h1 h2 => Tr.has_full _ _ (by omega))]
      unfold initF
      by_cases hlt : t < args.length
      · rw [if_pos ⟨Nat.zero_le _, by omega⟩]
        simp [hlt]
      · rw [if_neg (by omega)]
        have h1 : getF (Tr.full af.dep) t = V.undef := by unfold getF; rw [Tr.get_full]
        have h2 : args[t]? = none := List.getElem?_eq_none (by omega)
        rw [h1]; simp only [h2]
    · rw [initFr_has]; exact Tr.has_full _ _ (by omega)
  obtain ⟨s', h1, h2⟩ := hn' _ hsim
  refine ⟨n, ?_⟩
  unfold callN callF
  rw [hn, ht]
  have hb : Nat.ble (2 ^ af.dep) args.length = false := by
    cases hb : Nat.ble (2 ^ af.dep) args.length
    · rfl
    · have := Nat.le_of_ble_eq_true hb; omega
  have hrun : runBody (execN E n) af args h = some s' := by
    unfold runBody
    rw [hb, h1]
    rcases hx with rfl | rfl <;> rfl
  simp only [hrun, h2.ds, runDefs, h2.h, resVF_eq (funext h2.get), hv]

theorem Cl.nat {g : Nat} {fn : List V → Hp → Option (V × Hp)} {args : List V} {h h' : Hp} {v : V} (hn : E.nat g = some fn) (he : fn args h = some (v, h')) : Cl E g args h v h' :=
  ⟨0, by unfold callN callF; rw [hn]; exact he⟩

end Go.Aev
