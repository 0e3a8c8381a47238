/- The abstract interpreter: more fuel changes nothing. -/
import Derived.Test.YtbnabgaepphlnaaGreatAevDef
set_option linter.unusedVariables false
namespace Go.Aev

def CF.le (c c' : CF) : Prop := ∀ f a h r, c f a h = some r → c' f a h = some r
def Xf.le (e e' : ACode → St → R) : Prop := ∀ c s x s', e c s = .ok x s' → e' c s = .ok x s'

theorem stepC_mono {cf cf' : CF} (h : CF.le cf cf') {k : OpK} {vs : List V} {H : Hp} {r : V × Hp} (hs : stepC cf k vs H = some r) : stepC cf' k vs H = some r := by
  cases k <;> first
    | exact hs
    | exact h _ _ _ _ hs
    | (simp only [stepC] at hs ⊢
       split at hs
       · exact h _ _ _ _ hs
       · exact nomatch hs)

theorem evOper_mono {cf cf' : CF} (h : CF.le cf cf') {o : AOper} {s s' : St} (hs : evOper cf o s = some s') : evOper cf' o s = some s' := by
  unfold evOper at hs ⊢
  cases hw : wantedA s.fr o.g <;> rw [hw] at hs
  · exact hs
  · simp only [cond_true] at hs ⊢
    split at hs
    · exact hs
    · rename_i hk
      split at hs
      · rename_i v h' hst
        rw [stepC_mono h hst]; exact hs
      · exact nomatch hs

theorem evOps_mono {cf cf' : CF} (h : CF.le cf cf') : ∀ {os : List AOper} {s s' : St}, evOps cf os s = some s' → evOps cf' os s = some s'
  | [], s, s', hs => hs
  | o :: os, s, s', hs => by
    simp only [evOps] at hs ⊢
    split at hs
    · rename_i s1 h1; rw [evOper_mono h h1]; exact evOps_mono h hs
    · exact nomatch hs

theorem evDOps_mono {cf cf' : CF} (h : CF.le cf cf') : ∀ {os : List DOper} {s s' : St} {pd : List Pend}, evDOps cf os s pd = some s' → evDOps cf' os s pd = some s'
  | [], s, s', pd, hs => hs
  | o :: os, s, s', pd, hs => by
    simp only [evDOps] at hs ⊢
    split at hs
    · rename_i s1 h1
      rw [evOper_mono h h1]
      cases hE : isE o.o.k.kd <;> rw [hE] at hs
      · exact evDOps_mono h hs
      · simp only [cond_true] at hs ⊢
        split at hs
        · exact evDOps_mono h hs
        · exact nomatch hs
    · exact nomatch hs

theorem exec_mono {cf cf' : CF} {lf lf' : ACode → St → R} (h : CF.le cf cf') (hl : Xf.le lf lf') : ∀ (c : ACode) {s s' : St} {x : X}, exec cf lf c s = .ok x s' → exec cf' lf' c s = .ok x s'
  | .skip, s, s', x, hs => hs
  | .exit _, s, s', x, hs => hs
  | .ret, s, s', x, hs => hs
  | .reg ops, s, s', x, hs => by
    simp only [exec] at hs ⊢
    split at hs
    · rename_i s1 h1; rw [evOps_mono h h1]; exact hs
    · exact nomatch hs
  | .dreg ops, s, s', x, hs => by
    simp only [exec] at hs ⊢
    split at hs
    · rename_i s1 h1; rw [evDOps_mono h h1]; exact hs
    · exact nomatch hs
  | .seq a b, s, s', x, hs => by
    simp only [exec] at hs ⊢
    split at hs
    · rename_i s1 h1; rw [exec_mono h hl a h1]; exact exec_mono h hl b hs
    · rename_i hne
      rw [exec_mono h hl a hs]
      cases x with
      | n => exact absurd hs (hne s')
      | x i => rfl
      | r => rfl
  | .cond c a b, s, s', x, hs => by
    simp only [exec] at hs ⊢
    split at hs
    · rename_i t ht
      cases t
      · exact exec_mono h hl b hs
      · exact exec_mono h hl a hs
    · exact nomatch hs
  | .block id b, s, s', x, hs => by
    simp only [exec] at hs ⊢
    split at hs
    · rename_i i s1 h1; rw [exec_mono h hl b h1]; exact hs
    · rename_i hne
      rw [exec_mono h hl b hs]
      cases x with
      | n => rfl
      | x i => exact absurd hs (hne i s')
      | r => rfl
  | .loop b, s, s', x, hs => hl b s x s' hs

theorem runBody_mono {ex ex' : ACode → St → R} (h : Xf.le ex ex') {af : AFunc} {args : List V} {H : Hp} {s : St} (hs : runBody ex af args H = some s) : runBody ex' af args H = some s := by
  unfold runBody at hs ⊢
  cases hb : Nat.ble (2 ^ af.dep) args.length <;> rw [hb] at hs
  · simp only [cond_false] at hs ⊢
    split at hs
    · rename_i s1 h1; rw [h _ _ _ _ h1]; exact hs
    · rename_i s1 h1; rw [h _ _ _ _ h1]; exact hs
    · exact nomatch hs
  · exact nomatch hs

theorem runDefs_mono {E : Env} {ex ex' : ACode → St → R} (h : Xf.le ex ex') : ∀ {ds : List (Nat × List V)} {H H' : Hp}, runDefs E ex ds H = some H' → runDefs E ex' ds H = some H'
  | [], H, H', hs => hs
  | (f, args) :: ds, H, H', hs => by
    simp only [runDefs] at hs ⊢
    split at hs
    · rename_i af haf
      split at hs
      · rename_i s h1
        rw [runBody_mono h h1]
        simp only
        split at hs
        · rename_i hd
          split at hs
          · rename_i v hv; exact runDefs_mono h hs
          · exact nomatch hs
        · exact nomatch hs
      · exact nomatch hs
    · exact nomatch hs

theorem callF_mono {E : Env} {ex ex' : ACode → St → R} (h : Xf.le ex ex') : CF.le (callF E ex) (callF E ex') := by
  intro f args H r hs
  unfold callF at hs ⊢
  split at hs
  · rename_i g hg; exact hs
  · split at hs
    · exact nomatch hs
    · rename_i af haf
      split at hs
      · exact nomatch hs
      · rename_i s h1
        rw [runBody_mono h h1]
        simp only
        split at hs
        · exact nomatch hs
        · rename_i h' h2
          rw [runDefs_mono h h2]
          exact hs

theorem execN_step (E : Env) : ∀ n, Xf.le (execN E n) (execN E (n + 1))
  | 0 => fun c s x s' h => nomatch h
  | n + 1 => fun c s x s' h => by
    have ih := execN_step E n
    refine exec_mono (callF_mono ih) (fun b s x s' hb => ?_) c h
    split at hb
    · rename_i s1 h1; rw [ih _ _ _ _ h1]; exact ih _ _ _ _ hb
    · rename_i hne
      rw [ih _ _ _ _ hb]
      cases x with
      | n => exact absurd hb (hne s')
      | x i => rfl
      | r => rfl

theorem execN_mono (E : Env) {n m : Nat} (h : n ≤ m) : Xf.le (execN E n) (execN E m) := by
  induction h with
  | refl => exact fun c s x s' h => h
  | step _ ih => exact fun c s x s' h => execN_step E _ c s x s' (ih c s x s' h)
theorem callN_mono (E : Env) {n m : Nat} (h : n ≤ m) : CF.le (callN E n) (callN E m) := callF_mono (execN_mono E h)

end Go.Aev
