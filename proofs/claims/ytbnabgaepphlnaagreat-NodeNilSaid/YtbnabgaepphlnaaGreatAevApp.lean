/- The abstract interpreter: the built-in functions. -/
import Derived.Test.YtbnabgaepphlnaaGreatAevMapS
set_option linter.unusedVariables false
set_option linter.unusedSimpArgs false
namespace Go.Aev
open Go
section
variable {P : Program}

/-- A built-in function does what its resolved form does. -/
def SoundB (P : Program) (b : Builtin) : Prop := ∀ (ats : Array TypeId) (ty : TypeId) (cs : Array Bool) (k : OpK) (vs : List V) (args : Array Value) (ρ : Ren) (H : Hp) (w : World) (v : V) (H' : Hp),
  trBuiltin P b ats = some k → RelL ρ vs args.toList → RelH ρ H w → step k vs H = some (v, H') → StepTo ρ H w ((builtin b ats ty cs args).run P w) v H'

theorem args_one {args : Array Value} {x : Value} (h : args.toList = [x]) : args = #[x] := Array.ext' h
theorem args_two {args : Array Value} {x y : Value} (h : args.toList = [x, y]) : args = #[x, y] := Array.ext' h

theorem ats_zero {ats : Array TypeId} {d : TypeDesc} (h : ats[0]?.bind P.underlying = some d) : ∃ t, ats[0]? = some t ∧ P.underlying t = some d := by
  simpa [Option.bind_eq_some_iff] using h
theorem ats_one {ats : Array TypeId} {d : TypeDesc} (h : ats[1]?.bind P.underlying = some d) : ∃ t, ats[1]? = some t ∧ P.underlying t = some d := by
  simpa [Option.bind_eq_some_iff] using h

theorem sndB_len : SoundB P .len := by
  intro ats ty cs k vs args ρ H w v H' hk hrel hr hs
  simp only [trBuiltin] at hk
  split at hk <;> (try simp only [Option.some.injEq] at hk) <;> (try contradiction)
  · rename_i hu
    obtain ⟨t, ht, hu⟩ := ats_zero hu
    subst hk
    obtain ⟨h2, rfl⟩ := readS_some (f := sLen .str) rfl hs
    unfold sLen at h2
    split at h2 <;> (try contradiction)
    rename_i s he0
    simp only [Option.some.injEq] at h2; subst h2
    obtain ⟨x, hx, r1⟩ := hrel.one
    rw [args_one hx, r1.str_inv]
    have hsz : (⟨⟨s⟩⟩ : ByteArray).size = s.length := rfl
    refine .pure (cv := goInt s.length) hr ?_ rfl
    simp [builtin, Builtin.len_, ht, run_under hu, hsz]
  · rename_i n e hu
    obtain ⟨t, ht, hu⟩ := ats_zero hu
    subst hk
    obtain ⟨h2, rfl⟩ := readS_some (f := sLen (.arr n)) rfl hs
    unfold sLen at h2
    split at h2 <;> (try contradiction)
    rename_i n' x0 he
    cases he
    simp only [Option.some.injEq] at h2; subst h2
    obtain ⟨x, hx, r1⟩ := hrel.one
    rw [args_one hx]
    refine .pure (cv := goInt n) hr ?_ rfl
    simp [builtin, Builtin.len_, ht, run_under hu]
  · rename_i e hu
    obtain ⟨t, ht, hu⟩ := ats_zero hu
    subst hk
    obtain ⟨h2, rfl⟩ := readS_some (f := sLen .sl) rfl hs
    unfold sLen at h2
    split at h2 <;> (try contradiction)
    · rename_i b o n cap z he0
      simp only [Option.some.injEq] at h2; subst h2
      obtain ⟨x, hx, r1⟩ := hrel.one
      obtain ⟨l, cc, off, hl, rfl, _⟩ := r1.sl_inv
      rw [args_one hx]
      refine .pure (cv := goInt n) hr ?_ rfl
      simp [builtin, Builtin.len_, ht, run_under hu]
    · simp only [Option.some.injEq] at h2; subst h2
      obtain ⟨x, hx, r1⟩ := hrel.one
      have e1 : x = .slice none 0 0 := r1
      subst e1
      rw [args_one hx]
      refine .pure (cv := goInt 0) hr ?_ rfl
      simp [builtin, Builtin.len_, ht, run_under hu]
  · rename_i kt et hu
    obtain ⟨t, ht, hu⟩ := ats_zero hu
    subst hk
    obtain ⟨h2, rfl⟩ := readS_some (f := sLen .map) rfl hs
    unfold sLen at h2
    split at h2 <;> (try contradiction)
    · simp only [Option.some.injEq] at h2; subst h2
      obtain ⟨x, hx, r1⟩ := hrel.one
      have e1 : x = .map none := r1
      subst e1
      rw [args_one hx]
      refine .pure (cv := goInt 0) hr ?_ rfl
      simp [builtin, Builtin.len_, ht, run_under hu]
    · rename_i r he0
      obtain ⟨x, hx, r1⟩ := hrel.one
      obtain ⟨l, hl, rfl⟩ := r1.map_inv
      split at h2
      · rename_i es clk hg
        simp only [Option.some.injEq] at h2; subst h2
        obtain ⟨_, ces, g1, hE⟩ := hr.map_obj hg hl
        rw [args_one hx]
        have hlen := hE.length
        simp only [Array.length_toList] at hlen
        refine .pure (cv := goInt es.length) hr ?_ rfl
        simp [builtin, Builtin.len_, ht, run_under hu, getObj_map g1, hlen]
      · exact nomatch h2

theorem sndB_cap : SoundB P .cap := by
  intro ats ty cs k vs args ρ H w v H' hk hrel hr hs
  simp only [trBuiltin] at hk
  split at hk <;> (try simp only [Option.some.injEq] at hk) <;> (try contradiction)
  rename_i e hu
  obtain ⟨t, ht, hu⟩ := ats_zero hu
  subst hk
  obtain ⟨h2, rfl⟩ := pureS_some (f := sCap) rfl hs
  unfold sCap at h2
  split at h2 <;> (try contradiction)
  · simp only [Option.some.injEq] at h2; subst h2
    obtain ⟨x, hx, r1⟩ := hrel.one
    have e1 : x = .slice none 0 0 := r1
    subst e1
    rw [args_one hx]
    refine .pure (cv := goInt 0) hr ?_ rfl
    simp [builtin, Builtin.cap_, ht, run_under hu]
  · rename_i b o n c z
    simp only [Option.some.injEq] at h2; subst h2
    obtain ⟨x, hx, r1⟩ := hrel.one
    obtain ⟨l, cc, off, hl, rfl, hcap, _⟩ := r1.sl_inv
    have : cc = c := hcap
    subst this
    rw [args_one hx]
    refine .pure (cv := goInt cc) hr ?_ rfl
    simp [builtin, Builtin.cap_, ht, run_under hu]

theorem maxL_ok {ρ : Ren} {k : IntKind} (w : World) : ∀ {r : List V} {a : Int} {v : V} {cr : List Value}, maxL k a r = some v → RelL ρ r cr → ∃ b, v = .int k b ∧ (cr.foldlM Builtin.max2 (.int k a)).run P w = .ok (.int k b) w
  | [], a, v, cr, h, hr => by
    simp only [maxL, Option.some.injEq] at h; subst h
    rw [hr.nil_inv]; exact ⟨a, rfl, rfl⟩
  | u :: r, a, v, cr, h, hr => by
    obtain ⟨x, cr', rfl, h1, h2⟩ := hr.cons_inv
    cases u <;> simp only [maxL] at h <;> (try contradiction)
    rename_i k' b
    have e1 := h1.int_inv
    subst e1
    obtain ⟨c, rfl, hrun⟩ := maxL_ok w h h2
    refine ⟨c, rfl, ?_⟩
    simp only [List.foldlM_cons, Sem.run_bind, Builtin.max2, Sem.run_pure, Result.andThen_ok]
    rw [ltI_eq] at hrun
    have : (if b > a then b else a) = bif decide (a < b) then b else a := by
      by_cases hq : a < b
      · simp [hq]
      · simp [hq]
    rw [this]; exact hrun

theorem minL_ok {ρ : Ren} {k : IntKind} (w : World) : ∀ {r : List V} {a : Int} {v : V} {cr : List Value}, minL k a r = some v → RelL ρ r cr → ∃ b, v = .int k b ∧ (cr.foldlM Builtin.min2 (.int k a)).run P w = .ok (.int k b) w
  | [], a, v, cr, h, hr => by
    simp only [minL, Option.some.injEq] at h; subst h
    rw [hr.nil_inv]; exact ⟨a, rfl, rfl⟩
  | u :: r, a, v, cr, h, hr => by
    obtain ⟨x, cr', rfl, h1, h2⟩ := hr.cons_inv
    cases u <;> simp only [minL] at h <;> (try contradiction)
    rename_i k' b
    have e1 := h1.int_inv
    subst e1
    obtain ⟨c, rfl, hrun⟩ := minL_ok w h h2
    refine ⟨c, rfl, ?_⟩
    simp only [List.foldlM_cons, Sem.run_bind, Builtin.min2, Sem.run_pure, Result.andThen_ok]
    rw [ltI_eq] at hrun
    have : (if b < a then b else a) = bif decide (b < a) then b else a := by
      by_cases hq : b < a
      · simp [hq]
      · simp [hq]
    rw [this]; exact hrun

theorem sndB_max : SoundB P .max := by
  intro ats ty cs k vs args ρ H w v H' hk hrel hr hs
  simp only [trBuiltin, Option.some.injEq] at hk
  subst hk
  obtain ⟨h2, rfl⟩ := pureS_some (f := sMax) rfl hs
  unfold sMax at h2
  split at h2 <;> (try contradiction)
  rename_i k a r
  obtain ⟨x, cr, he, h3, h4⟩ := hrel.cons_inv
  have e1 := h3.int_inv
  subst e1
  obtain ⟨b, rfl, hrun⟩ := maxL_ok (P := P) w h2 h4
  refine .pure (cv := .int k b) hr ?_ rfl
  simp only [builtin, Builtin.max_, he, Sem.run_bind, hrun]; rfl

theorem sndB_min : SoundB P .min := by
  intro ats ty cs k vs args ρ H w v H' hk hrel hr hs
  simp only [trBuiltin, Option.some.injEq] at hk
  subst hk
  obtain ⟨h2, rfl⟩ := pureS_some (f := sMin) rfl hs
  unfold sMin at h2
  split at h2 <;> (try contradiction)
  rename_i k a r
  obtain ⟨x, cr, he, h3, h4⟩ := hrel.cons_inv
  have e1 := h3.int_inv
  subst e1
  obtain ⟨b, rfl, hrun⟩ := minL_ok (P := P) w h2 h4
  refine .pure (cv := .int k b) hr ?_ rfl
  simp only [builtin, Builtin.min_, he, Sem.run_bind, hrun]; rfl

theorem sndB_delete : SoundB P .delete := by
  intro ats ty cs k vs args ρ H w v H' hk hrel hr hs
  simp only [trBuiltin] at hk
  split at hk <;> (try contradiction)
  rename_i kt et hu
  obtain ⟨t, ht, hu⟩ := ats_zero hu
  simp only [Option.map_eq_some_iff] at hk
  obtain ⟨e, he, rfl⟩ := hk
  have hs' : sDel e vs H = some (v, H') := hs
  unfold sDel at hs'
  split at hs'
  · rename_i kv
    obtain ⟨c1, c2, ee, r1, r2⟩ := hrel.two
    rw [args_two ee]
    have e1 : c1 = .map none := r1
    subst e1
    cases hko : keyOk e kv <;> rw [hko] at hs'
    · exact nomatch hs'
    · simp only [cond_true, Option.some.injEq, Prod.mk.injEq] at hs'
      obtain ⟨rfl, rfl⟩ := hs'
      have hck := checkKey_ok (P := P) true 50 kt e he 10000 (by omega) ρ kv c2 w r2 (keyOk_some hko)
      refine .pure (cv := .tuple #[]) hr ?_ ⟨#[], rfl, RelL.nil⟩
      simp [builtin, Builtin.delete_, ht, run_under hu, hck]
  · rename_i r kv
    obtain ⟨c1, c2, ee, r1, r2⟩ := hrel.two
    rw [args_two ee]
    obtain ⟨l, hl, rfl⟩ := r1.map_inv
    cases hko : keyOk e kv <;> rw [hko] at hs'
    · exact nomatch hs'
    · simp only [cond_true] at hs'
      split at hs'
      · rename_i es clk hg
        obtain ⟨hro, ces, g1, hE⟩ := hr.map_obj hg hl
        have hck := checkKey_ok (P := P) ces.isEmpty 50 kt e he 10000 (by omega) ρ kv c2 w r2 (keyOk_some hko)
        split at hs'
        · rename_i i hj
          have hfk := findKey_ok (P := P) he r2 w hE hj
          simp only [Option.some.injEq, Prod.mk.injEq] at hs'
          obtain ⟨rfl, rfl⟩ := hs'
          have hlt := (idxV_ge hj).2
          simp only [Nat.zero_add] at hlt
          have hlen := hE.length
          simp only [Array.length_toList] at hlen
          have hic : i < ces.size := by omega
          have hen : ces.toList[i]? = some ces[i] := by simp [hic]
          have hfin := lay_put hr hg hl hro g1 (o' := .map (es.eraseIdx i) clk) (.map (ces.eraseIdxIfInBounds i) clk) (by
            refine ⟨hro, _, lay_get g1, ?_⟩
            have : (ces.eraseIdxIfInBounds i).toList = ces.toList.eraseIdx i := by
              unfold Array.eraseIdxIfInBounds
              rw [dif_pos hic, Array.toList_eraseIdx]
            rw [this]; exact hE.erase i)
          refine ⟨ρ, _, .tuple #[], .inl ?_, ⟨#[], rfl, RelL.nil⟩, hfin.1, hfin.2⟩
          simp [builtin, Builtin.delete_, ht, run_under hu, getObj_map g1, hck, hfk, hit, hen, setObj_map g1]
        · rename_i hj
          have hfk := findKey_ok (P := P) he r2 w hE hj
          simp only [Option.some.injEq, Prod.mk.injEq] at hs'
          obtain ⟨rfl, rfl⟩ := hs'
          have hfin := lay_put hr hg hl hro g1 (o' := .map es clk) (.map ces clk) ⟨hro, _, lay_get g1, hE⟩
          refine ⟨ρ, _, .tuple #[], .inl ?_, ⟨#[], rfl, RelL.nil⟩, hfin.1, hfin.2⟩
          simp [builtin, Builtin.delete_, ht, run_under hu, getObj_map g1, hck, hfk, hit, setObj_map g1]
        · exact nomatch hs'
      · exact nomatch hs'
  · exact nomatch hs'

end
end Go.Aev
