/- NodeNil: a process that is none is out: for every byte slice the law answers true and leaves its argument as it was. No condition. -/
import Derived.Test.YtbnabgaepphlnaaGreatRows
import Derived.WalkKit
import Derived.ProofKit
import Derived.OpenShut
import Derived.HandedShaped
import Derived.SizedLaws
import Derived.Test.YtbnabgaepphlnaaGreatAevLaw
import Derived.Test.YtbnabgaepphlnaaGreatAevSeq
import Derived.Test.YtbnabgaepphlnaaGreatAevY
import Derived.Test.YtbnabgaepphlnaaGreatNil
set_option maxRecDepth 100000
set_option linter.unusedVariables false
namespace Go.Proofs.YtbnabgaepphlnaaGreat.NodeNil
open Go.ChangeShapes Go.WideShapes Go.RowKit Go.Aev Go.Proofs.YtbnabgaepphlnaaGreat.T

/-- slices.AppendSeq of the keys of a map with nothing in it. -/
def natSeq : List V → Hp → Option (V × Hp) := fun vs h => match vs with
  | [.nils, .fn 300 [] [.ptr b o]] => match sLd [.ptr b o] h with
    | some .nilm => some (.nils, h)
    | some (.map r) => match h.get r with
      | some (.map [] _) => some (.nils, h)
      | _ => none
    | _ => none
  | _ => none

theorem natSeq_ok : NatOk Tryz.prog 299 natSeq := by
  intro args H v H' hg ρ w cargs hrel hr
  unfold natSeq at hg
  split at hg
  · rename_i b o
    obtain ⟨x1, xs1, hx1, r1, hrel⟩ := hrel.cons_inv
    obtain ⟨x2, xs2, rfl, r2, hrel⟩ := hrel.cons_inv
    obtain rfl := RelL.nil_inv hrel
    obtain ⟨ca, cc, rfl, ha, hc⟩ := fnVal_rel r2
    have ha := RelL.nil_inv ha
    obtain ⟨x3, xs3, hx3, r3, hc⟩ := hc.cons_inv
    obtain rfl := RelL.nil_inv hc
    obtain ⟨l, hl, rfl⟩ := r3.ptr_inv
    obtain rfl : x1 = .slice none 0 0 := r1
    obtain rfl : cargs = #[.slice none 0 0, .func (.func 300) #[] #[.pointer (some ⟨l.c, l.base + o, none⟩)]] := by
      apply Array.ext'
      rw [hx1]
      have e1 : ca = #[] := Array.ext' ha
      have e2 : cc = #[.pointer (some ⟨l.c, l.base + o, none⟩)] := Array.ext' hx3
      rw [e1, e2]
    have cell : ∀ {u : V}, sLd [.ptr b o] H = some u → ∃ cu, w.cell? ⟨l.c, l.base + o, none⟩ = some cu ∧ Rel ρ u cu := by
      intro u hu
      simp only [sLd] at hu
      split at hu
      · rename_i cs ro hcs
        obtain ⟨_, arr, el, fz, pre, mid, post, h1, h2, h3, h4, h5, h6⟩ := hr.obj b _ l hcs hl
        obtain ⟨cu, h7, h8⟩ := h6.get hu
        refine ⟨cu, ?_, h8⟩
        have hlt : o < mid.length := (List.getElem?_eq_some_iff.1 h7).1
        rw [cell?_at h1, ← Array.getElem?_toList, h4, List.getElem?_append_right (by omega), List.getElem?_append_left (by omega), show l.base + o - pre.length = o by omega]
        exact h7
      · exact nomatch hu
    have go : ∀ m, w.cell? ⟨l.c, l.base + o, none⟩ = some (.map m) → Seq.EmptyMap m w → v = .nils → H' = H → CallTo Tryz.prog 299 #[.slice none 0 0, .func (.func 300) #[] #[.pointer (some ⟨l.c, l.base + o, none⟩)]] w fun cv w' => ∃ ρ', Rel ρ' v cv ∧ RelH ρ' H' w' ∧ Ext ρ H w ρ' H' w' := by
      rintro m hm he rfl rfl
      refine .inl ⟨w, enters_of Tryz.func299 (by kernel_rfl) rfl _ _, (Seq.appendSeq_empty l.c (l.base + o) m w (hr.lt b l hl) hm he).mono ?_⟩
      rintro e w' ⟨rfl, hb⟩
      obtain ⟨q1, q2⟩ := below_rel hr hb
      exact ⟨ρ, rfl, q1, q2⟩
    split at hg
    · rename_i hu
      simp only [Option.some.injEq, Prod.mk.injEq] at hg
      obtain ⟨cu, h1, h2⟩ := cell hu
      obtain rfl : cu = .map none := h2
      exact go none h1 (.inl rfl) hg.1.symm hg.2.symm
    · rename_i r hu
      obtain ⟨cu, h1, h2⟩ := cell hu
      obtain ⟨lm, hlm, rfl⟩ := h2.map_inv
      split at hg
      · rename_i clk hm
        simp only [Option.some.injEq, Prod.mk.injEq] at hg
        obtain ⟨_, ces, h3, h4⟩ := hr.obj r _ lm hm hlm
        have : ces = #[] := Array.ext' h4
        subst this
        exact go _ h1 (.inr ⟨lm.c, clk, rfl, h3⟩) hg.1.symm hg.2.symm
      · exact nomatch hg
    · exact nomatch hg
  · exact nomatch hg

def E1 : Env := ⟨tbl.get, fun f => bif Nat.beq f 299 then some natSeq else none⟩
theorem E1_ok : EnvOk Tryz.prog E1 where
  tbl f af h := tbl_ok.get h
  nat f g h := by
    simp only [E1] at h
    cases hb : Nat.beq f 299 <;> rw [hb] at h
    · exact nomatch h
    · simp only [cond_true, Option.some.injEq] at h; subst h
      obtain rfl := Nat.eq_of_beq_eq_true hb
      exact natSeq_ok

theorem mixed : Tryz.prog.follows .mixedOrders = true := by kernel_rfl

theorem awake_run : ((callN E1 4000 7 [] (nil0 16 0)).map fun r => V.beq r.1 (.bool true)) = some true := by decide +kernel

theorem awake_ok : NatOk Tryz.prog 7 (natB true) := natB_ok (callN_ok mixed E1_ok 4000) awake_run

def E0 : Env := ⟨tbl.get, fun f => bif Nat.beq f 7 then some (natB true) else none⟩
theorem E0_ok : EnvOk Tryz.prog E0 where
  tbl f af h := tbl_ok.get h
  nat f g h := by
    simp only [E0] at h
    cases hb : Nat.beq f 7 <;> rw [hb] at h
    · exact nomatch h
    · simp only [cond_true, Option.some.injEq] at h; subst h
      obtain rfl := Nat.eq_of_beq_eq_true hb
      exact awake_ok

theorem std : StdN E0 where
  all f h _ _ := by
    have : Nat.beq f 7 = false := by
      cases hb : Nat.beq f 7
      · rfl
      · exact absurd (Nat.eq_of_beq_eq_true hb) h
    simp only [E0, this, cond_false]
  n7 := rfl
  t57 := rfl
  t87 := rfl
  t115 := rfl
  t120 := rfl
  t121 := rfl
  t122 := rfl
  t123 := rfl
  t159 := rfl
  t216 := rfl
  t217 := rfl
  t301 := rfl
  t302 := rfl
  t303 := rfl
  t6 := rfl
  t11 := rfl
  t12 := rfl
  t13 := rfl
  t14 := rfl
  t15 := rfl
  t16 := rfl
  t19 := rfl
  t20 := rfl
  t21 := rfl
  t23 := rfl
  t24 := rfl
  t25 := rfl
  t34 := rfl
  t37 := rfl

theorem own : ownKnob Tryz.prog.godebug = none := by kernel_rfl
theorem laid : laidOutB Tryz.prog = true := by kernel_rfl
end Go.Proofs.YtbnabgaepphlnaaGreat.NodeNil
