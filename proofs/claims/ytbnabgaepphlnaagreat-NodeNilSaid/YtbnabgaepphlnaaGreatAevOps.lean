/- The abstract interpreter: every operation. -/
import Derived.Test.YtbnabgaepphlnaaGreatAevBin
import Derived.Test.YtbnabgaepphlnaaGreatAevStepV
import Derived.Test.YtbnabgaepphlnaaGreatAevStepU
import Derived.Test.YtbnabgaepphlnaaGreatAevStepT
import Derived.Test.YtbnabgaepphlnaaGreatAevMapS
import Derived.Test.YtbnabgaepphlnaaGreatAevApp3
set_option linter.unusedVariables false
set_option linter.unusedSimpArgs false
namespace Go.Aev
open Go
variable {P : Program}

theorem trBuiltin_sound (b : Builtin) : SoundB P b := by
  cases b
  case append => exact sndB_append
  case cap => exact sndB_cap
  case clear => exact sndB_clear
  case copy => exact sndB_copy
  case delete => exact sndB_delete
  case len => exact sndB_len
  case max => exact sndB_max
  case min => exact sndB_min
  all_goals (intro ats ty cs k vs args ρ H w v H' hk; simp only [trBuiltin] at hk; exact nomatch hk)

theorem snd_call (c : Call) : Sound1 P (.call c) := by
  intro od k as fr ρ H w ρc v H' ho hk hf hr hs
  cases hc : c.callee with
  | builtin b =>
    simp only [trOp, hc] at hk
    obtain ⟨kb, hb, hk'⟩ := Option.bind_eq_some_iff.1 hk
    obtain ⟨h1, rfl⟩ := withL_some hk'
    have hrel := opds_rel hf h1
    obtain ⟨bs, he⟩ : ∃ bs, (execOp ρc od).run P w = (builtin b c.argTypes od.type bs (c.args.map ρc)).run P w :=
      ⟨_, by simp only [execOp, ho, resolve, hc, Sem.run_bind, Sem.run_pure, Result.andThen_ok, invoke]; rfl⟩
    rw [he]
    exact trBuiltin_sound b _ _ _ _ _ _ ρ H w v H' hb (by simpa using hrel) hr hs
  | value x =>
    simp only [trOp, hc] at hk
    cases x
    case func f =>
      obtain ⟨h1, rfl⟩ := withL_some hk
      exact nomatch hs
    all_goals (obtain ⟨h1, rfl⟩ := withL_some hk; exact nomatch hs)
  | invoke r n => simp only [trOp, hc] at hk; exact nomatch hk

theorem step_sound (o : Op) : Sound1 P o := by
  cases o
  case move => exact snd_move _
  case assign => exact snd_assign _
  case pick => exact snd_pick _ _ _
  case alloc => exact snd_alloc _
  case box => exact snd_box _ _
  case build => exact snd_build _ _
  case buildSlice => exact snd_buildSlice _ _ _
  case load => exact snd_load _ _
  case store => exact snd_store _ _ _
  case nilCheck => exact snd_nilCheck _
  case binOp => exact snd_binOp _ _ _ _ _
  case unOp => exact snd_un _ _ _
  case convert => exact snd_convert _ _ _
  case makeInterface => exact snd_makeInterface _ _
  case makeSlice => exact snd_makeSlice _ _ _
  case slice => exact snd_slice _ _ _ _ _
  case fieldAddr => exact snd_fieldAddr _ _ _
  case field => exact snd_field _ _ _
  case indexAddr => exact snd_indexAddr _ _ _
  case index => exact snd_index _ _ _
  case lookup => exact snd_lookup _ _ _ _
  case mapUpdate => exact snd_mapUpdate _ _ _ _
  case insert => exact snd_insert _ _ _ _
  case range => exact snd_range _ _
  case entry => exact snd_entry _
  case extract => exact snd_extract _ _
  case call => exact snd_call _
  case makeFunc c a p =>
    cases c
    case func => exact snd_makeFunc _ _ _
    all_goals (intro od k as fr ρ H w ρc v H' ho hk; simp only [trOp] at hk; exact nomatch hk)
  case makeMap t r =>
    cases r
    case none => exact snd_makeMap _
    all_goals (intro od k as fr ρ H w ρc v H' ho hk; simp only [trOp] at hk; exact nomatch hk)
  case next x s =>
    cases s
    case false => exact snd_next _
    all_goals (intro od k as fr ρ H w ρc v H' ho hk; simp only [trOp] at hk; exact nomatch hk)
  case panic x =>
    intro od k as fr ρ H w ρc v H' ho hk hf hr hs
    obtain ⟨a, h1, rfl, rfl⟩ := with1_some hk
    exact nomatch hs
  case defer c =>
    intro od k as fr ρ H w ρc v H' ho hk hf hr hs
    cases hc : c.callee <;> simp only [trOp, hc] at hk
    case value x => obtain ⟨h1, rfl⟩ := withL_some hk; exact nomatch hs
    all_goals exact nomatch hk
  all_goals (intro od k as fr ρ H w ρc v H' ho hk; simp only [trOp] at hk; exact nomatch hk)

end Go.Aev
