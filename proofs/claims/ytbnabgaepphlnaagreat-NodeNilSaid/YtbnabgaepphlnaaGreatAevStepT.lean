/- The abstract interpreter: slice expressions, conversions, and some built-in functions. -/
import Derived.Test.YtbnabgaepphlnaaGreatAevStepS
set_option linter.unusedVariables false
set_option linter.unusedSimpArgs false
namespace Go.Aev
open Go
section
variable {P : Program}

/-- A slice expression of a nil slice. -/
theorem sSlL_nil {sz : Nat} {lo hi mx : Bool} {rest : List V} {v : V} {cr : List Value} {ρ : Ren}
    (h : sSlL sz lo hi mx (.nils :: rest) = some v) (hrel : RelL ρ rest cr) (w : World) :
    v = .nils ∧ (Instr.sliceBounds true 0 0 (if lo then cr[0]? else none) (if hi then cr[lo.toNat]? else none) (if mx then cr[lo.toNat + hi.toNat]? else none)).run P w = .ok (0, 0, 0) w := by
  simp only [sSlL] at h
  have z : ∀ {x : V} {cx : Value} {n : Nat} (code : BoundsCode), bnd x 0 = some n → Rel ρ x cx → (Instr.sliceBound cx 0 code).run P w = .ok 0 w := by
    intro x cx n code hb hx
    obtain ⟨hle, hrun⟩ := bnd_ok (P := P) hb hx (Nat.le_refl _) code w
    have : n = 0 := by omega
    subst this; exact hrun
  split at h
  · rw [hrel.nil_inv]; simp only [Option.some.injEq] at h; exact ⟨h.symm, rfl⟩
  · obtain ⟨cx, rfl, hx⟩ := hrel.one
    split at h
    · rename_i hb; simp only [Option.some.injEq] at h
      exact ⟨h.symm, by simp [Instr.sliceBounds, z .sliceB hb hx]⟩
    · exact nomatch h
  · obtain ⟨cx, rfl, hx⟩ := hrel.one
    split at h
    · rename_i hb; simp only [Option.some.injEq] at h
      exact ⟨h.symm, by simp [Instr.sliceBounds, z .sliceAcap hb hx]⟩
    · exact nomatch h
  · obtain ⟨cx, cy, rfl, hx, hy⟩ := hrel.two
    split at h
    · rename_i hb hb2; simp only [Option.some.injEq] at h
      exact ⟨h.symm, by simp [Instr.sliceBounds, z .sliceAcap hb2 hy, z .sliceB hb hx]⟩
    · exact nomatch h
  · obtain ⟨cx, cy, rfl, hx, hy⟩ := hrel.two
    split at h
    · rename_i hb hb2; simp only [Option.some.injEq] at h
      exact ⟨h.symm, by simp [Instr.sliceBounds, z .slice3Acap hb2 hy, z .slice3B hb hx]⟩
    · exact nomatch h
  · obtain ⟨cx, cy, cu, rfl, hx, hy, hu⟩ := hrel.three
    split at h
    · rename_i hb hb2 hb3; simp only [Option.some.injEq] at h
      exact ⟨h.symm, by simp [Instr.sliceBounds, z .slice3Acap hb3 hu, z .slice3B hb2 hy, z .slice3C hb hx]⟩
    · exact nomatch h
  · exact nomatch h

theorem bounds_opds {ρc : Operand → Value} (lo hi mx : Option Operand) :
    let cr := (lo.toList ++ (hi.toList ++ mx.toList)).map ρc
    lo.map ρc = (if lo.isSome then cr[0]? else none) ∧ hi.map ρc = (if hi.isSome then cr[lo.isSome.toNat]? else none) ∧ mx.map ρc = (if mx.isSome then cr[lo.isSome.toNat + hi.isSome.toNat]? else none) := by
  cases lo <;> cases hi <;> cases mx <;> simp

theorem snd_slice_slice (t : TypeId) (x : Operand) (lo hi mx : Option Operand) {e : TypeId} (hu : P.underlying t = some (.slice e)) : Sound1 P (.slice t x lo hi mx) := by
  intro od k as fr ρ H w ρc v H' ho hk hf hr hs
  simp only [trOp, hu] at hk
  split at hk
  · rename_i sz hsz
    obtain ⟨h1, rfl⟩ := withL_some hk
    obtain ⟨h2, rfl⟩ := pureS_some (f := sSlL sz lo.isSome hi.isSome mx.isSome) rfl hs
    have hrel := opds_rel hf h1
    obtain ⟨hlo, hhi, hmx⟩ := bounds_opds (ρc := ρc) lo hi mx
    simp only [List.map_cons] at hrel
    cases hev : evArgsF fr as with
    | nil => rw [hev] at hrel; exact nomatch hrel.nil_inv
    | cons u rest =>
      rw [hev] at hrel h2
      obtain ⟨cx, cr, ee, r1, r2⟩ := hrel.cons_inv
      simp only [List.cons.injEq] at ee
      obtain ⟨rfl, rfl⟩ := ee
      cases u <;> (try (simp [sSlL] at h2; done))
      case nils =>
        have e1 : ρc x = .slice none 0 0 := r1
        obtain ⟨rfl, hb⟩ := sSlL_nil (P := P) h2 r2 w
        refine .pure (cv := .slice none 0 0) hr ?_ rfl
        have hrun : (Instr.sliceAt t (ρc x) (lo.map ρc) (hi.map ρc) (mx.map ρc)).run P w = .ok (.slice none 0 0) w := by
          simp only [Instr.sliceAt, Sem.run_bind, run_under hu, Result.andThen_ok, Instr.slice, e1, hlo, hhi, hmx, hb, run_sizeOf' hsz]
          rfl
        simp only [execOp, ho, Sem.run_bind, hrun]; rfl
      case sl b o len cap z =>
        obtain ⟨l, cc, off, hl, e1, hcap, hlc, hoff⟩ := r1.sl_inv
        obtain ⟨ll, hh, m, hb, hv⟩ := sSlL_ok (P := P) h2 r2 hl hcap hlc hoff w true
        have hz : z = sz := by
          simp only [sSlL] at h2
          cases hzb : Nat.beq z sz
          · rw [hzb] at h2; exact nomatch h2
          · exact beq_true hzb
        subst hz
        have hz : z = z := rfl
        refine .pure hr ?_ hv
        have hrun : (Instr.sliceAt t (ρc x) (lo.map ρc) (hi.map ρc) (mx.map ρc)).run P w =
            .ok (.slice (if m = ll then some ⟨l.c, off, none⟩ else (some (⟨l.c, off, none⟩ : Addr)).map (·.add (ll * z))) (hh - ll) (m - ll)) w := by
          simp only [Instr.sliceAt, Sem.run_bind, run_under hu, Result.andThen_ok, Instr.slice, e1, hlo, hhi, hmx, hb, run_sizeOf' hsz]
          rfl
        simp only [execOp, ho, Sem.run_bind, hrun]; rfl
  · exact nomatch hk

theorem extract_bytes (s : List UInt8) (l h : Nat) : (⟨⟨s⟩⟩ : ByteArray).extract l h = ⟨⟨(s.take h).drop l⟩⟩ := by
  apply ByteArray.ext
  rw [ByteArray.data_extract]
  apply Array.ext'
  rw [Array.toList_extract, List.extract_eq_take_drop, List.drop_take]

theorem snd_slice_string (t : TypeId) (x : Operand) (lo hi mx : Option Operand) (hu : P.underlying t = some .string) : Sound1 P (.slice t x lo hi mx) := by
  intro od k as fr ρ H w ρc v H' ho hk hf hr hs
  simp only [trOp, hu] at hk
  cases mx with
  | some m => simp at hk
  | none =>
    simp only [Option.isSome_none, cond_false] at hk
    obtain ⟨h1, rfl⟩ := withL_some hk
    obtain ⟨h2, rfl⟩ := pureS_some (f := sSlS lo.isSome hi.isSome) rfl hs
    have hrel := opds_rel hf h1
    cases hev : evArgsF fr as with
    | nil => rw [hev] at hrel; exact nomatch hrel.nil_inv
    | cons u rest =>
      rw [hev] at hrel h2
      obtain ⟨cx, cr, ee, r1, r2⟩ := hrel.cons_inv
      simp only [List.map_cons, List.cons.injEq] at ee
      obtain ⟨rfl, rfl⟩ := ee
      cases u <;> (try (simp [sSlS] at h2; done))
      case str s =>
        have e1 := r1.str_inv
        have hsz : ∀ l : List UInt8, (⟨⟨l⟩⟩ : ByteArray).size = l.length := fun l => rfl
        suffices hsuf : ∃ r : List UInt8, v = .str r ∧ (Instr.sliceAt t (ρc x) (lo.map ρc) (hi.map ρc) none).run P w = .ok (.string ⟨⟨r⟩⟩) w by
          obtain ⟨r, rfl, hrun⟩ := hsuf
          refine .pure (cv := .string ⟨⟨r⟩⟩) hr ?_ rfl
          simp only [execOp, ho, Sem.run_bind, Option.map_none, hrun]; rfl
        have hgo : ∀ l h, (Instr.sliceBounds false s.length s.length (lo.map ρc) (hi.map ρc) none).run P w = .ok (l, h, s.length) w →
            (Instr.sliceAt t (ρc x) (lo.map ρc) (hi.map ρc) none).run P w = .ok (.string ⟨⟨(s.take h).drop l⟩⟩) w := by
          intro l h hb
          simp only [Instr.sliceAt, Sem.run_bind, run_under hu, Result.andThen_ok, Instr.slice, e1, Option.isSome_none, Bool.false_eq_true, if_false, Sem.run_pure, hsz, hb, extract_bytes]
        cases lo with
        | none => cases hi with
          | none =>
            simp only [sSlS, Option.isSome_none] at h2
            rw [r2.length.symm.trans (by simp : _ = 0) |> List.length_eq_zero_iff.1] at h2
            simp only [Option.some.injEq] at h2; subst h2
            refine ⟨s, rfl, ?_⟩
            have := hgo 0 s.length rfl
            simpa using this
          | some b =>
            obtain ⟨y, rfl⟩ : ∃ y, rest = [y] := by
              have := r2.length; simp at this
              exact List.length_eq_one_iff.1 this.symm
            obtain ⟨cy, ey, hy⟩ := r2.one
            simp only [Option.toList_none, Option.toList_some, List.nil_append, List.append_nil, List.map_cons, List.map_nil, List.cons.injEq, and_true] at ey
            subst ey
            simp only [sSlS, Option.isSome_none, Option.isSome_some] at h2
            split at h2
            · rename_i h hb
              simp only [Option.some.injEq] at h2; subst h2
              obtain ⟨hle, hrun⟩ := bnd_ok (P := P) hb hy (Nat.le_refl _) .sliceAlen w
              refine ⟨_, rfl, ?_⟩
              have := hgo 0 h (by simp [Instr.sliceBounds, hrun])
              simpa using this
            · exact nomatch h2
        | some a => cases hi with
          | none =>
            obtain ⟨y, rfl⟩ : ∃ y, rest = [y] := by
              have := r2.length; simp at this
              exact List.length_eq_one_iff.1 this.symm
            obtain ⟨cy, ey, hy⟩ := r2.one
            simp only [Option.toList_none, Option.toList_some, List.cons_append, List.nil_append, List.append_nil, List.map_cons, List.map_nil, List.cons.injEq, and_true] at ey
            subst ey
            simp only [sSlS, Option.isSome_none, Option.isSome_some] at h2
            split at h2
            · rename_i l hb
              simp only [Option.some.injEq] at h2; subst h2
              obtain ⟨hle, hrun⟩ := bnd_ok (P := P) hb hy (Nat.le_refl _) .sliceB w
              refine ⟨_, rfl, ?_⟩
              have := hgo l s.length (by simp [Instr.sliceBounds, hrun])
              simpa using this
            · exact nomatch h2
          | some b =>
            obtain ⟨y, z, rfl⟩ : ∃ y z, rest = [y, z] := by
              have := r2.length; simp at this
              match rest, this with
              | [y, z], _ => exact ⟨y, z, rfl⟩
            obtain ⟨cy, cz, ey, hy, hz⟩ := r2.two
            simp only [Option.toList_none, Option.toList_some, List.cons_append, List.nil_append, List.append_nil, List.map_cons, List.map_nil, List.cons.injEq, and_true] at ey
            obtain ⟨rfl, rfl⟩ := ey
            simp only [sSlS, Option.isSome_some] at h2
            split at h2
            · rename_i h hb
              split at h2
              · rename_i l hb2
                simp only [Option.some.injEq] at h2; subst h2
                obtain ⟨hle, hrun⟩ := bnd_ok (P := P) hb hz (Nat.le_refl _) .sliceAlen w
                obtain ⟨hle2, hrun2⟩ := bnd_ok (P := P) hb2 hy (Nat.le_refl _) .sliceB w
                exact ⟨_, rfl, hgo l h (by simp [Instr.sliceBounds, hrun, hrun2])⟩
              · exact nomatch h2
            · exact nomatch h2

theorem snd_slice_array (t : TypeId) (x : Operand) (lo hi mx : Option Operand) {n : Nat} {e : TypeId} (hu : P.underlying t = some (.array n e)) : Sound1 P (.slice t x lo hi mx) := by
  intro od k as fr ρ H w ρc v H' ho hk hf hr hs
  simp only [trOp, hu] at hk
  split at hk
  · rename_i sz hsz
    cases mx with
    | some m => simp at hk
    | none =>
      simp only [Option.isSome_none, cond_false] at hk
      obtain ⟨h1, rfl⟩ := withL_some hk
      obtain ⟨h2, rfl⟩ := readS_some (f := sSlA n sz lo.isSome hi.isSome) rfl hs
      have hrel := opds_rel hf h1
      obtain ⟨hlo, hhi, _⟩ := bounds_opds (ρc := ρc) lo hi none
      cases hev : evArgsF fr as with
      | nil => rw [hev] at hrel; exact nomatch hrel.nil_inv
      | cons u rest =>
        rw [hev] at hrel h2
        obtain ⟨cx, cr, ee, r1, r2⟩ := hrel.cons_inv
        simp only [List.map_cons, List.cons.injEq] at ee
        obtain ⟨rfl, rfl⟩ := ee
        cases u <;> (try (simp [sSlA] at h2; done))
        case ptr b o =>
          obtain ⟨l, hl, e1⟩ := r1.ptr_inv
          simp only [sSlA] at h2
          split at h2
          · rename_i cs ro hg
            cases hb : Nat.ble (o + n * sz) cs.length <;> rw [hb] at h2
            · exact nomatch h2
            · have hle := Nat.le_of_ble_eq_true hb
              simp only [cond_true] at h2
              obtain ⟨_, arr, el, fz, pre, mid, post, g1, g2, g3, g4, g5, g6⟩ := hr.obj b _ l hg hl
              have hml := g6.length
              have hsize : arr.size = pre.length + (mid.length + post.length) := by
                rw [← Array.length_toList, g4]; simp
              obtain ⟨ll, hh, m, hbd, hv⟩ := sSlL_ok (P := P) (cc := n) (off := l.base + o) h2 r2 hl rfl (Nat.le_refl _) (.inr ⟨rfl, by omega⟩) w false
              refine .pure hr ?_ hv
              simp only [List.append_nil, Option.toList_none] at hlo hhi
              have hrun : (Instr.sliceAt t (ρc x) (lo.map ρc) (hi.map ρc) none).run P w =
                  .ok (.slice (if m = ll then some ⟨l.c, l.base + o, none⟩ else (some (⟨l.c, l.base + o, none⟩ : Addr)).map (·.add (ll * sz))) (hh - ll) (m - ll)) w := by
                simp only [Bool.false_eq_true, if_false] at hbd
                simp only [Instr.sliceAt, Sem.run_bind, run_under hu, Result.andThen_ok, e1, Instr.sureAddr, Sem.run_pure, hlo, hhi, hbd, run_sizeOf' hsz, Option.map_some]
                split <;> rfl
              simp only [execOp, ho, Sem.run_bind, Option.map_none, hrun]; rfl
          · exact nomatch h2
  · exact nomatch hk

theorem snd_slice (t : TypeId) (x : Operand) (lo hi mx : Option Operand) : Sound1 P (.slice t x lo hi mx) := by
  intro od k as fr ρ H w ρc v H' ho hk hf hr hs
  have hk0 := hk
  simp only [trOp] at hk
  split at hk
  · rename_i hu; exact snd_slice_string t x lo hi mx hu od k as fr ρ H w ρc v H' ho hk0 hf hr hs
  · rename_i e hu; exact snd_slice_slice t x lo hi mx hu od k as fr ρ H w ρc v H' ho hk0 hf hr hs
  · rename_i n e hu; exact snd_slice_array t x lo hi mx hu od k as fr ρ H w ρc v H' ho hk0 hf hr hs
  · exact nomatch hk

end
end Go.Aev
