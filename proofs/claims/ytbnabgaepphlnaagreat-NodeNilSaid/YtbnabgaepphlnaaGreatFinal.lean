/- NodeNil: the row. -/
import Derived.Test.YtbnabgaepphlnaaGreatFrame
import Derived.Test.YtbnabgaepphlnaaGreatP2
set_option maxRecDepth 100000
set_option linter.unusedVariables false
namespace Go.Proofs.YtbnabgaepphlnaaGreat.NodeNil
open Go.ChangeShapes Go.WideShapes Go.RowKit Go.Aev Go.Proofs.YtbnabgaepphlnaaGreat.T

def oneBlock (cs : List V) : Hp := ⟨(Tr.full 10).set 0 (some (.cells cs true)), 1⟩
theorem oneBlock_get (cs : List V) (b : Nat) : (oneBlock cs).get b = if 0 = b then some (.cells cs true) else none := by
  show ((Tr.full 10).set 0 (some (O.cells cs true))).get b = _
  rw [Tr.get_set, Tr.get_full, Tr.has_full _ _ (by decide)]; rfl
theorem oneBlock_hw (cs : List V) : HW (oneBlock cs) 40 := by
  refine ⟨fun b hb => ?_, fun b hb => ?_⟩
  · rw [oneBlock_get, if_neg (by simp [oneBlock] at hb; omega)]
  · show ((Tr.full 10).set 0 _).has b = true
    rw [Tr.has_set]; exact Tr.has_full _ _ (by simp [oneBlock] at hb; omega)
theorem empty_hw : HW (nil0 10 0) 40 := ⟨fun b _ => Tr.get_full _ _, fun b hb => Tr.has_full _ _ (by simp [nil0] at hb; omega)⟩

theorem ext_kept {ρ ρ' : Ren} {H H' : Hp} {w w' : World} (h : Ext ρ H w ρ' H' w') (hro : ∀ b o l, H.get b = some o → ρ b = some l → l.ro = true) : Kept w w' :=
  ⟨h.size, fun c hc => h.same c hc (by rintro ⟨b, o, l, h1, h2, _, h4⟩; rw [hro b o l h1 h2] at h4; exact nomatch h4), h.os.1, h.os.2⟩

/-- A byte slice that came in, as a block that is only read. -/
theorem argBytes {H : Type} {enc : TypeId × Value → H} {W : World} {base : Nat} {v : Value} {d : DataW H} {p : List MemPlace} (hok : Value.okWide Tryz.prog W .any base 46 v) (h : DataW.Trod enc Tryz.prog W 0 (fun _ => true) true 46 v d p)
    (hw : (DataW.weightsEach Tryz.prog [46] [d]).all (· ≤ reachBytes) = true) :
    ∃ ρ Ha av bs, Rel ρ av v ∧ RelH ρ Ha W ∧ HW Ha 40 ∧ Bytes Ha av bs ∧ bs.length ≤ 140737488355328 ∧ ∀ b o l, Ha.get b = some o → ρ b = some l → l.ro = true := by
  obtain ⟨fuel, h⟩ := h
  have hv : v = .slice none 0 0 ∨ ∃ a len cap, v = .slice (some a) len cap ∧ W.has Tryz.prog .any base a 5 cap := by
    unfold Value.okWide at hok
    rw [Tryz.underlying46] at hok
    simp only at hok
    unfold Cell.okWide at hok
    rw [Tryz.underlying46] at hok
    cases v <;> simp [Cell.ok, Tryz.underlying46] at hok
    rename_i x len cap
    cases x with
    | none =>
      cases len <;> cases cap <;> simp at hok
      exact .inl rfl
    | some a => exact .inr ⟨a, len, cap, rfl, hok.2.2⟩
  rcases open_ints Tryz.underlying46 Tryz.underlying5 (by kernel_rfl) h with ⟨hcs, hx⟩ | ⟨a, len, cap, zs, hcs, _, hlc, hmax, hzl, hx, hcell, hwf⟩
  · have : v = .slice none 0 0 := by
      rcases hv with rfl | ⟨a, len, cap, rfl, _⟩
      · rfl
      · simp [Value.cells] at hcs
    subst this
    exact ⟨noRen, nil0 10 0, .nils, [], rfl, relH_nil _ _ _, empty_hw, .inl ⟨rfl, rfl⟩, by simp, fun b o l h => by rw [show (nil0 10 0).get b = none from Tr.get_full _ _] at h; exact nomatch h⟩
  · have hv' : v = .slice (some a) len cap ∧ W.has Tryz.prog .any base a 5 cap := by
      rcases hv with rfl | ⟨a', len', cap', rfl, hh⟩
      · simp [Value.cells] at hcs
      · simp [Value.cells] at hcs
        obtain ⟨rfl, rfl, rfl⟩ := hcs
        exact ⟨rfl, hh⟩
    obtain ⟨rfl, _, hspot, row, ncells, hshape, _⟩ := hv'
    obtain ⟨blk, off, spot⟩ := a
    simp only at hspot hshape; subst hspot
    simp only [if_true] at hzl
    have hd : d = .slice (lits .u8 (zs.take len)) (lits .u8 (zs.drop len)) := by
      have := congrArg Prod.fst hx; exact this
    subst hd
    have hreach := sized_slice hw (j := 0) (t := 46) (e := 5) rfl rfl Tryz.underlying46
    rw [show Tryz.prog.bytesOf 5 = 1 by kernel_rfl] at hreach
    simp only [lits, List.length_map, List.length_take, List.length_drop, reachBytes] at hreach
    obtain ⟨arr, fz, harr⟩ : ∃ arr fz, W.heap[blk]? = some (.cells arr row fz) := by
      unfold World.shape? at hshape
      split at hshape
      · rename_i c el fz hc; simp at hshape; exact ⟨c, fz, by rw [hc, hshape.1]⟩
      · exact nomatch hshape
    have hat : ∀ i, i < cap → arr[off + i]? = some (.int .u8 (zs.getD i 0)) := fun i hi => by
      have := hcell i (by omega)
      rw [add_none, cell?_at harr] at this; exact this
    have hz8 : ∀ n ∈ zs, n = .ofNat (UInt8.ofNat n.toNat).toNat := fun n hn => by
      have h1 := hwf n hn
      simp [Lit.wf, IntKind.min, IntKind.max, IntKind.signed, IntKind.bits] at h1
      simp [UInt8.toNat_ofNat']
      omega
    obtain ⟨z8, hz⟩ : ∃ z8 : List UInt8, z8 = zs.map fun n => UInt8.ofNat n.toNat := ⟨_, rfl⟩
    have hzlen : z8.length = cap := by rw [hz, List.length_map, hzl]
    have hzat : ∀ i, (hi : i < cap) → zs.getD i 0 = .ofNat (z8[i]'(by omega)).toNat := fun i hi => by
      have hi' : i < zs.length := by omega
      have e1 : zs.getD i 0 = zs[i] := by simp [List.getD, hi']
      have e2 : z8[i]'(by omega) = UInt8.ofNat zs[i].toNat := by simp [hz]
      rw [e1, e2]; exact hz8 _ (List.getElem_mem hi')
    by_cases hc0 : cap = 0
    · subst hc0
      obtain rfl : len = 0 := by omega
      refine ⟨fun b => if b = 0 then some ⟨blk, off, 0, true⟩ else none, nil0 10 1, .sl 0 0 0 (.ex 0) 1, [], ?_, ?_, ?_, .inr ⟨0, 0, .ex 0, rfl, Nat.le_refl _, fun e => absurd rfl e⟩, by simp, fun b o l h => by rw [show (nil0 10 1).get b = none from Tr.get_full _ _] at h; exact nomatch h⟩
      · exact ⟨_, 0, off, rfl, rfl, rfl, Nat.le_refl _, .inl rfl⟩
      · refine ⟨fun b l h => ?_, fun b h => ?_, fun b _ => Tr.get_full _ _, fun b o l h => ?_, fun b b' o o' l l' h => ?_⟩
        · split at h
          · simp only [Option.some.injEq] at h; subst h
            exact (Array.getElem?_eq_some_iff.1 harr).1
          · exact nomatch h
        · simp only [nil0] at h; rw [if_neg (by omega)]
        · rw [show (nil0 10 1).get b = none from Tr.get_full _ _] at h; exact nomatch h
        · rw [show (nil0 10 1).get b = none from Tr.get_full _ _] at h; exact nomatch h
      · exact ⟨fun b _ => Tr.get_full _ _, fun b hb => Tr.has_full _ _ (by simp [nil0] at hb; omega)⟩
    · have hsz : off + cap ≤ arr.size := by
        have := hat (cap - 1) (by omega)
        have := (Array.getElem?_eq_some_iff.1 this).1
        omega
      refine ⟨fun b => if b = 0 then some ⟨blk, off, arr.size, true⟩ else none, oneBlock (bytesV z8), .sl 0 0 len (.ex cap) 1, z8.take len, ?_, ?_, oneBlock_hw _, ?_, ?_, ?_⟩
      · exact ⟨_, cap, off, rfl, rfl, rfl, hlc, .inr ⟨rfl, by simp; omega⟩⟩
      · refine ⟨fun b l h => ?_, fun b h => ?_, fun b h => (oneBlock_hw _).ng b h, fun b o l h h' => ?_, fun b b' o o' l l' h h' _ _ _ _ => ?_⟩
        · split at h
          · simp only [Option.some.injEq] at h; subst h
            exact (Array.getElem?_eq_some_iff.1 harr).1
          · exact nomatch h
        · simp only [oneBlock] at h; rw [if_neg (by omega)]
        · rw [oneBlock_get] at h
          split at h
          · rename_i e; subst e
            simp only [if_true, Option.some.injEq] at h h'; subst h; subst h'
            refine ⟨rfl, arr, row, fz, arr.toList.take off, (arr.toList.drop off).take cap, arr.toList.drop (off + cap), harr, rfl, fun e => (nomatch e), ?_, by simp; omega, ?_⟩
            · rw [← List.drop_drop, List.take_append_drop, List.take_append_drop]
            · have : (arr.toList.drop off).take cap = z8.map fun c => Value.int .u8 (.ofNat c.toNat) := by
                apply List.ext_getElem?
                intro i
                by_cases hi : i < cap
                · rw [List.getElem?_take_of_lt hi, List.getElem?_drop, Array.getElem?_toList, hat i hi, hzat i hi]
                  simp [hzlen, hi]
                · rw [List.getElem?_eq_none (by simp; omega), List.getElem?_eq_none (by simp; omega)]
              rw [this]
              have gen : ∀ l : List UInt8, RelL (fun b => if b = 0 then some ⟨blk, off, arr.size, true⟩ else none) (bytesV l) (l.map fun c => Value.int .u8 (.ofNat c.toNat)) := fun l => by
                induction l with
                | nil => exact RelL.nil
                | cons c cs ih => exact RelL.cons rfl ih
              exact gen z8
          · exact nomatch h
        · rw [oneBlock_get] at h h'
          split at h
          · split at h'
            · rename_i e1 e2; omega
            · exact nomatch h'
          · exact nomatch h
      · have hl' : (z8.take len).length = len := by simp; omega
        refine .inr ⟨0, 0, .ex cap, by rw [hl'], by rw [hl']; exact hlc, fun _ => ⟨by simp [oneBlock], ?_⟩⟩
        rw [hl', cellsAt_eq (xs := bytesV z8) (ro := true) (by rw [oneBlock_get]; rfl) (by rw [bytesV_len]; omega)]
        simp [bytesV]
      · simp; omega
      · intro b o l h h'
        simp only at h'
        split at h'
        · simp only [Option.some.injEq] at h'; subst h'; rfl
        · exact nomatch h'

theorem callTo_run {f n : Nat} {E : Env} (hE : EnvOk Tryz.prog E) {args : List V} {H H' : Hp} {v : V} {ρ : Ren} {W : World} {cargs : Array Value} (h : callN E n f args H = some (v, H')) (ha : RelL ρ args cargs.toList) (hr : RelH ρ H W) :
    CallTo Tryz.prog f cargs W fun cv w' => ∃ ρ', Rel ρ' v cv ∧ RelH ρ' H' w' ∧ Ext ρ H W ρ' H' w' := callN_ok mixed hE n f args H v H' h ρ W cargs ha hr

theorem run {H : Type} {enc : TypeId × Value → H} {W : World} {base : Nat} {v : Value} {d : DataW H} {p : List MemPlace} (hok : Value.okWide Tryz.prog W .any base 46 v) (h : DataW.Trod enc Tryz.prog W 0 (fun _ => true) true 46 v d p)
    (hw : (DataW.weightsEach Tryz.prog [46] [d]).all (· ≤ reachBytes) = true) : CallTo Tryz.prog 6 #[v] W fun cv W' => cv = .bool true ∧ Kept W W' := by
  obtain ⟨ρ, Ha, av, bs, h1, h2, h3, h4, h5, h6⟩ := argBytes hok h hw
  obtain ⟨r, H', ⟨n, hc⟩, rfl, g⟩ := nodeNil_run std h3 h4 h5
  refine (callTo_run E0_ok hc (RelL.cons h1 RelL.nil) h2).mono fun cv w' ⟨ρ', r1, r2, r3⟩ => ⟨r1.bool_inv, ext_kept r3 h6⟩

theorem contract (H : Type) (enc : TypeId × Value → H) (W : World) (base : Nat) (args : Array Value) (ds gs : List (DataW H)) (before : List MemPlace)
    (hval : ∀ (j : Nat) t v, Tryz.f6.params[j]? = some t → args[j]? = some v → Value.okWide Tryz.prog W .any base t v)
    (hW : DataW.Whole enc Tryz.prog Tryz.f6.params.toList Rows.nodeNilSpec.vars false W args.toList ds gs before)
    (hw : (DataW.weightsEach Tryz.prog (Tryz.f6.params.toList ++ Rows.nodeNilSpec.plain.varTypes Tryz.prog) (ds ++ gs)).all (· ≤ reachBytes) = true) :
    Calls Tryz.prog 6 args W fun e W' => ∃ v, e = .returned v ∧ Rows.nodeNilSpec.post enc Tryz.prog Tryz.f6 false true false false W args v W' := by
  have hW' := hW
  obtain ⟨p, q, hA, hV, hpq, hfz, hnd⟩ := hW
  obtain ⟨rfl, rfl⟩ := trodVars_none hV
  rw [Tryz.params6] at hA hval hw
  obtain ⟨v0, vs0, d0, ds0, p0, q0, hargs, hds, hp, h0, r0⟩ := trodAll_cons hA
  obtain ⟨rfl, rfl, rfl⟩ := trodAll_nil r0
  obtain rfl : args = #[v0] := by cases args; simp_all
  have hv0 := hval 0 46 v0 rfl rfl
  subst hds
  refine ((run hv0 h0 hw).calls Tryz.func6 rfl (by decide)).mono fun e W' he => ?_
  cases e with
  | returned v =>
    obtain ⟨rfl, hk⟩ := he
    exact ⟨_, rfl, law_post laid (by kernel_rfl) rfl rfl Tryz.underlying4 (fun ds h => by
      match ds, h with
      | [d], _ => rfl) hW' hk⟩
  | panicked c => exact he.elim
  | outgrown => exact he.elim

theorem lifted (os : Os) (started : os.Started) (H : Type) (enc : TypeId × Value → H) :
    ReturnsInHanded {} Tryz.checked os 6 .any (Rows.nodeNilSpec.pre6 enc Tryz.prog Tryz.f6 Rows.nodeNilRow.domain false) (Rows.nodeNilSpec.post enc Tryz.prog Tryz.f6 false true false false) := by
  refine returnsInHanded_of_change_shaped (C := Tryz.checked) (s := Rows.nodeNilSpec) own started (by kernel_rfl) Tryz.func6
    (ChangeSpec.witness6 (enc := enc) (C := Tryz.checked) (s := Rows.nodeNilSpec) false ⟨#[], #[.slice none 0 0], []⟩ 8 (by kernel_rfl) (by kernel_rfl) (by kernel_rfl) (by kernel_rfl)) ?_
  intro W base args ds gs before hval hW _ hw _ _
  exact contract H enc W base args ds gs before hval hW hw

theorem p1 : Tryz.pinned.checked.prog.funcNamed Rows.nodeNilRow.func = some 6 := by kernel_rfl
theorem p3 : Tryz.f6.isInstance Tryz.pinned.checked.prog Rows.nodeNilRow.origin Rows.nodeNilRow.targs := of_decide_eq_true (by kernel_rfl)
theorem p4 : Tryz.f6.isWrapper Tryz.pinned.checked.prog Rows.nodeNilRow.wrapper Rows.nodeNilRow.mainSum := by
  unfold Func.isWrapper; first | (rw [if_pos (by decide +kernel)]; kernel_rfl) | (rw [if_neg (by decide +kernel)]; exact ⟨rfl, rfl⟩)

theorem proved : Rows.NodeNilSaid :=
  OpenClaim.holds_of_wide 6 Tryz.f6 rfl rfl rfl rfl rfl rfl rfl ⟨rfl, rfl, rfl, rfl, rfl⟩ rfl rfl rfl rfl rfl p1 Tryz.func6 p2 p3 p4
    (fun os started H enc _ => lifted os started H enc)
#print axioms proved
end Go.Proofs.YtbnabgaepphlnaaGreat.NodeNil
