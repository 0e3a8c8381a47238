/- The abstract interpreter: slices of slices, conversions, the built-in functions that look at no memory. -/
import Derived.Test.YtbnabgaepphlnaaGreatAevStepR
set_option linter.unusedVariables false
set_option linter.unusedSimpArgs false
namespace Go.Aev
open Go
section
variable {P : Program}

theorem bnd_ok {x : V} {y n c : Nat} {cx : Value} {ρ : Ren} (h : bnd x y = some n) (hr : Rel ρ x cx) (hc : y ≤ c) (code : BoundsCode) (w : World) :
    n ≤ y ∧ (Instr.sliceBound cx c code).run P w = .ok n w := by
  unfold bnd at h
  split at h
  · rename_i k m
    cases hb : Nat.ble m y <;> rw [hb] at h <;> simp at h
    subst h
    have hle := Nat.le_of_ble_eq_true hb
    have e := hr.int_inv
    subst e
    refine ⟨hle, ?_⟩
    have hc' : (0 : Int) ≤ (m : Int) ∧ (m : Int) ≤ (c : Int) := by omega
    simp only [Instr.sliceBound, Sem.run_bind, asIntOf, Sem.run_pure, Result.andThen_ok, Int.ofNat_eq_natCast, hc', and_self, if_true, Int.toNat_natCast]
  · exact nomatch h

/-- What is cut out of a slice. -/
theorem cutSl_rel {ρ : Ren} {b o : Nat} {cap : Cap} {sz l h m cc off : Nat} {lc : Loc} (hl : ρ b = some lc) (hcap : capOk cap m) (hlh : l ≤ h) (hhm : h ≤ m) (hmc : m ≤ cc)
    (hoff : cc = 0 ∨ (off = lc.base + o ∧ lc.base + o + cc * sz ≤ lc.csz)) :
    Rel ρ (cutSl b o cap sz l h) (.slice (if m = l then some ⟨lc.c, off, none⟩ else (some (⟨lc.c, off, none⟩ : Addr)).map (·.add (l * sz))) (h - l) (m - l)) := by
  unfold cutSl
  split
  · rename_i c
    simp only [capOk] at hcap; subst hcap
    cases hb : Nat.beq m l
    · have hne := beq_false hb
      simp only [cond_false]
      rw [if_neg hne]
      rw [Option.map_some, add_none]
      refine ⟨lc, m - l, off + l * sz, hl, rfl, rfl, by omega, .inr ?_⟩
      rcases hoff with h0 | ⟨rfl, h1⟩
      · omega
      · refine ⟨by omega, ?_⟩
        have : l * sz + (m - l) * sz ≤ cc * sz := by
          rw [← Nat.add_mul]; exact Nat.mul_le_mul_right _ (by omega)
        omega
    · have he := beq_true hb
      subst he
      simp only [cond_true, if_true]
      exact ⟨lc, m - m, off, hl, rfl, rfl, by omega, .inl (by omega)⟩
  · rename_i c
    simp only [capOk] at hcap
    by_cases he : m = l
    · subst he
      rw [if_pos rfl]
      exact ⟨lc, m - m, off, hl, rfl, (by show c - m ≤ m - m; omega), by omega, .inl (by omega)⟩
    · rw [if_neg he, Option.map_some, add_none]
      refine ⟨lc, m - l, off + l * sz, hl, rfl, (by show c - l ≤ m - l; omega), by omega, .inr ?_⟩
      rcases hoff with h0 | ⟨rfl, h1⟩
      · omega
      · refine ⟨by omega, ?_⟩
        have : l * sz + (m - l) * sz ≤ cc * sz := by
          rw [← Nat.add_mul]; exact Nat.mul_le_mul_right _ (by omega)
        omega

/-- The bounds of a slice expression, and what it gives. -/
theorem sSlL_ok {sz : Nat} {lo hi mx : Bool} {b o len : Nat} {cap : Cap} {z : Nat} {rest : List V} {v : V} {cr : List Value} {ρ : Ren} {lc : Loc} {cc off : Nat}
    (h : sSlL sz lo hi mx (.sl b o len cap z :: rest) = some v) (hrel : RelL ρ rest cr) (hl : ρ b = some lc) (hcap : capOk cap cc) (hlen : len ≤ cc)
    (hoff : cc = 0 ∨ (off = lc.base + o ∧ lc.base + o + cc * z ≤ lc.csz)) (w : World) (isS : Bool) :
    ∃ l hh m, (Instr.sliceBounds isS len cc (if lo then cr[0]? else none) (if hi then cr[lo.toNat]? else none) (if mx then cr[lo.toNat + hi.toNat]? else none)).run P w = .ok (l, hh, m) w ∧
      Rel ρ v (.slice (if m = l then some ⟨lc.c, off, none⟩ else (some (⟨lc.c, off, none⟩ : Addr)).map (·.add (l * sz))) (hh - l) (m - l)) := by
  have hcn : cap.n ≤ cc := by cases cap <;> simp only [capOk, Cap.n] at * <;> omega
  simp only [sSlL] at h
  cases hz : Nat.beq z sz <;> rw [hz] at h
  · exact nomatch h
  · have hzz := beq_true hz
    subst hzz
    simp only [Bool.not_true, cond_false] at h
    split at h
    · -- x[:]
      rw [hrel.nil_inv]
      simp only [Option.some.injEq] at h; subst h
      refine ⟨0, len, cc, rfl, ?_⟩
      by_cases he : cc = 0
      · rw [if_pos he]; exact ⟨lc, cc - 0, off, hl, by simp, by simpa using hcap, by omega, by simpa using hoff⟩
      · rw [if_neg he, Option.map_some, add_none]
        exact ⟨lc, cc - 0, off, hl, by simp, by simpa using hcap, by omega, by simpa using hoff⟩
    · -- x[l:]
      rename_i x
      obtain ⟨cx, rfl, hx⟩ := hrel.one
      split at h
      · rename_i l hb
        simp only [Option.some.injEq] at h; subst h
        obtain ⟨hle, hrun⟩ := bnd_ok (P := P) hb hx (Nat.le_refl _) .sliceB w
        refine ⟨l, len, cc, ?_, cutSl_rel hl hcap hle hlen (Nat.le_refl _) hoff⟩
        simp [Instr.sliceBounds, hrun]
      · exact nomatch h
    · -- x[:h]
      rename_i y
      obtain ⟨cy, rfl, hy⟩ := hrel.one
      split at h
      · rename_i hh hb
        simp only [Option.some.injEq] at h; subst h
        obtain ⟨hle, hrun⟩ := bnd_ok (P := P) hb hy hcn (if isS then .sliceAcap else .sliceAlen) w
        refine ⟨0, hh, cc, ?_, cutSl_rel hl hcap (Nat.zero_le _) (by omega) (Nat.le_refl _) hoff⟩
        simp [Instr.sliceBounds, hrun]
      · exact nomatch h
    · -- x[l:h]
      rename_i x y
      obtain ⟨cx, cy, rfl, hx, hy⟩ := hrel.two
      split at h
      · rename_i hh hb
        split at h
        · rename_i l hb2
          simp only [Option.some.injEq] at h; subst h
          obtain ⟨hle, hrun⟩ := bnd_ok (P := P) hb hy hcn (if isS then .sliceAcap else .sliceAlen) w
          obtain ⟨hle2, hrun2⟩ := bnd_ok (P := P) hb2 hx (Nat.le_refl _) .sliceB w
          refine ⟨l, hh, cc, ?_, cutSl_rel hl hcap hle2 (by omega) (Nat.le_refl _) hoff⟩
          simp [Instr.sliceBounds, hrun, hrun2]
        · exact nomatch h
      · exact nomatch h
    · -- x[:h:m]
      rename_i y u
      obtain ⟨cy, cu, rfl, hy, hu⟩ := hrel.two
      split at h
      · rename_i m hb
        split at h
        · rename_i hh hb2
          simp only [Option.some.injEq] at h; subst h
          obtain ⟨hle, hrun⟩ := bnd_ok (P := P) hb hu hcn (if isS then .slice3Acap else .slice3Alen) w
          obtain ⟨hle2, hrun2⟩ := bnd_ok (P := P) hb2 hy (Nat.le_refl _) .slice3B w
          refine ⟨0, hh, m, ?_, cutSl_rel hl rfl (Nat.zero_le _) hle2 (by omega) hoff⟩
          simp [Instr.sliceBounds, hrun, hrun2]
        · exact nomatch h
      · exact nomatch h
    · -- x[l:h:m]
      rename_i x y u
      obtain ⟨cx, cy, cu, rfl, hx, hy, hu⟩ := hrel.three
      split at h
      · rename_i m hb
        split at h
        · rename_i hh hb2
          split at h
          · rename_i l hb3
            simp only [Option.some.injEq] at h; subst h
            obtain ⟨hle, hrun⟩ := bnd_ok (P := P) hb hu hcn (if isS then .slice3Acap else .slice3Alen) w
            obtain ⟨hle2, hrun2⟩ := bnd_ok (P := P) hb2 hy (Nat.le_refl _) .slice3B w
            obtain ⟨hle3, hrun3⟩ := bnd_ok (P := P) hb3 hx (Nat.le_refl _) .slice3C w
            refine ⟨l, hh, m, ?_, cutSl_rel hl rfl hle3 hle2 (by omega) hoff⟩
            simp [Instr.sliceBounds, hrun, hrun2, hrun3]
          · exact nomatch h
        · exact nomatch h
      · exact nomatch h
    · exact nomatch h

end
end Go.Aev
