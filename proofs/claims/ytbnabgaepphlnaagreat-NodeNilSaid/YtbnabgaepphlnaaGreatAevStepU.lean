/- The abstract interpreter: conversions; loads, stores, new blocks. -/
import Derived.Test.YtbnabgaepphlnaaGreatAevStepT
import Derived.Laws.BytesString
import Derived.Laws.Append
set_option linter.unusedVariables false
set_option linter.unusedSimpArgs false
namespace Go.Aev
open Go
section
variable {P : Program}

theorem bytesOf_ok {ρ : Ren} : ∀ {cs : List V} {l : List UInt8} {xs : List Value}, bytesOf cs = some l → RelL ρ cs xs → ∃ ns : List Int, xs = ns.map (Value.int .u8) ∧ ns.map (fun n => UInt8.ofNat n.toNat) = l
  | [], l, xs, h, hr => by
    simp only [bytesOf, Option.some.injEq] at h; subst h
    exact ⟨[], hr.nil_inv, rfl⟩
  | c :: cs, l, xs, h, hr => by
    obtain ⟨x, xs', rfl, h1, h2⟩ := hr.cons_inv
    unfold bytesOf at h
    split at h
    · exact nomatch ‹c :: cs = []›
    · rename_i n vs he
      simp only [List.cons.injEq] at he
      obtain ⟨rfl, rfl⟩ := he
      split at h
      · rename_i l' hl
        simp only [Option.some.injEq] at h; subst h
        obtain ⟨ns, rfl, h3⟩ := bytesOf_ok hl h2
        exact ⟨n :: ns, by rw [h1.int_inv]; rfl, by simp [h3]⟩
      · exact nomatch h
    · exact nomatch h

theorem foldl_push (ns : List Int) : ∀ s : ByteArray, ns.foldl (fun r n => r.push (UInt8.ofNat n.toNat)) s = ⟨⟨s.data.toList ++ ns.map fun n => UInt8.ofNat n.toNat⟩⟩ := by
  induction ns with
  | nil => intro s; simp
  | cons n ns ih =>
    intro s
    rw [List.foldl_cons, ih]
    apply ByteArray.ext
    simp [ByteArray.push]

/-- The mark that the model lays behind the bytes of a text. -/
theorem freeze_get {w : World} {c : Nat} {arr : Array Value} {el : TypeId} {fz : Nat × Nat} (hb : w.heap[c]? = some (.cells arr el fz)) (hfz : fz = (0, 0) ∨ fz = (arr.size, arr.size + 1)) :
    (w.freeze ⟨c, arr.size, none⟩ 1).heap[c]? = some (.cells arr el (arr.size, arr.size + 1)) := by
  unfold World.freeze
  rw [if_neg (by omega)]
  simp only [Array.getElem?_modify, if_true, hb, Option.map_some]
  rcases hfz with rfl | rfl
  · simp
  · simp
theorem freeze_other {w : World} {c d n : Nat} (h : d ≠ c) : (w.freeze ⟨c, n, none⟩ 1).heap[d]? = w.heap[d]? := by
  unfold World.freeze
  rw [if_neg (by omega)]
  simp only [Array.getElem?_modify]
  rw [if_neg (fun e => h e.symm)]
theorem freeze_size (w : World) (c n : Nat) : (w.freeze ⟨c, n, none⟩ 1).heap.size = w.heap.size := by
  unfold World.freeze
  rw [if_neg (by omega)]
  simp
theorem freeze_os (w : World) (c n : Nat) : (w.freeze ⟨c, n, none⟩ 1).os = w.os ∧ (w.freeze ⟨c, n, none⟩ 1).output = w.output := by
  unfold World.freeze
  rw [if_neg (by omega)]
  exact ⟨rfl, rfl⟩

theorem mark_rel {ρ : Ren} {H : Hp} {w : World} (hr : RelH ρ H w) {c : Nat} {arr : Array Value} {el : TypeId} {fz : Nat × Nat} (hb : w.heap[c]? = some (.cells arr el fz)) (hfz : fz = (0, 0) ∨ fz = (arr.size, arr.size + 1)) :
    RelH ρ H (w.freeze ⟨c, arr.size, none⟩ 1) := by
  refine ⟨fun b l h => by rw [freeze_size]; exact hr.lt b l h, hr.nx, hr.ng, fun b o l hg hl => ?_, hr.inj⟩
  have ho := hr.obj b o l hg hl
  by_cases hc : l.c = c
  · cases o with
    | cells cs ro =>
      obtain ⟨h0, arr', el', fz', pre, mid, post, h1, h2, h3, h4, h5, h6⟩ := ho
      rw [hc, hb] at h1
      cases h1
      exact ⟨h0, arr, el, _, pre, mid, post, by rw [hc]; exact freeze_get hb hfz, h2, fun _ => .inr rfl, h4, h5, h6⟩
    | map es clk => obtain ⟨_, ces, h1, _⟩ := ho; rw [hc, hb] at h1; exact nomatch h1
    | iter m s q u => obtain ⟨_, _, cm, h1, _⟩ := ho; rw [hc, hb] at h1; exact nomatch h1
  · exact ho.of_heap (freeze_other hc)

theorem mark_ext {ρ ρ' : Ren} {H H' : Hp} {w w' : World} (he : Ext ρ H w ρ' H' w') {c n : Nat} (hc : w.heap.size ≤ c ∨ Wr ρ H c) : Ext ρ H w ρ' H' (w'.freeze ⟨c, n, none⟩ 1) where
  ren := he.ren
  pend := he.pend
  nx := he.nx
  dead := he.dead
  new := he.new
  size := by rw [freeze_size]; exact he.size
  same d hd hn := by
    have hdc : d ≠ c := by
      intro e; subst e
      rcases hc with h | h
      · omega
      · exact hn h
    rw [freeze_other hdc]; exact he.same d hd hn
  os := ⟨(freeze_os _ _ _).1.trans he.os.1, (freeze_os _ _ _).2.trans he.os.2⟩

theorem run_mark {w : World} {c o : Nat} {arr : Array Value} {el : TypeId} {fz : Nat × Nat} (hb : w.heap[c]? = some (.cells arr el fz)) :
    (markStringish ⟨c, o, none⟩).run P w = .ok () (w.freeze ⟨c, arr.size, none⟩ 1) := by
  have : w.shape? c = some (el, arr.size) := by simp [World.shape?, hb]
  simp [markStringish, this]

theorem s2b_ok {e : TypeId} {s0 : List UInt8} {ρ : Ren} {H : Hp} {w : World} (hr : RelH ρ H w) :
    ∃ ρ' w' cv, (Conv.stringToBytes e ⟨⟨s0⟩⟩).run P w = .ok cv w' ∧ Rel ρ' (.sl H.nx 0 s0.length (.lo s0.length) 1) cv ∧
      RelH ρ' (H.new (.cells (s0.map fun c => V.int .u8 (.ofNat c.toNat)) false)) w' ∧ Ext ρ H w ρ' (H.new (.cells (s0.map fun c => V.int .u8 (.ofNat c.toNat)) false)) w' := by
  have hsz : ∀ l : List UInt8, (⟨⟨l⟩⟩ : ByteArray).size = l.length := fun l => rfl
  generalize hcpd : (Question.appendCap s0.length 0 e).cut (w.tape w.drawn (.appendCap s0.length 0 e)) = cp
  have hcp : s0.length ≤ cp := by rw [← hcpd]; exact Nat.le_add_right _ _
  have hrel : RelL ρ (s0.map fun c => V.int .u8 (.ofNat c.toNat)) (s0.map fun c => Value.int .u8 (.ofNat c.toNat)) := by
    refine RelL.of_get (by simp) fun i u hu => ?_
    simp only [List.getElem?_map, Option.map_eq_some_iff] at hu ⊢
    obtain ⟨c, hc, rfl⟩ := hu
    exact ⟨_, ⟨c, hc, rfl⟩, rfl⟩
  obtain ⟨hr1, hx1⟩ := new_cells hr.drew _ _ (List.replicate (cp - s0.length) (.int .u8 0)) e hrel
  have hmap : (Array.map (fun b : UInt8 => Value.int .u8 b.toNat) ⟨s0⟩ ++ Array.replicate (cp - s0.length) (.int .u8 0)) =
      ((s0.map fun c : UInt8 => Value.int .u8 (.ofNat c.toNat)) ++ List.replicate (cp - s0.length) (Value.int .u8 0)).toArray := by
    apply Array.ext'
    simp
  have hb1 := heap_alloc_new { w with drawn := w.drawn + 1 } (.cells ((s0.map fun c : UInt8 => Value.int .u8 (.ofNat c.toNat)) ++ List.replicate (cp - s0.length) (Value.int .u8 0)).toArray e)
  refine ⟨_, _, .slice (some ⟨w.heap.size, 0, none⟩) s0.length cp, ?_, ?_, mark_rel hr1 hb1 (.inl rfl), (Ext.drew ρ H w).trans hr (mark_ext hx1 (.inl (Nat.le_refl _)))⟩
  · have hq : (Question.appendCap s0.length 0 e).forced = false := rfl
    simp only [Conv.stringToBytes, Sem.run_bind, run_choose, hsz, hq, Bool.false_eq_true, if_false, Result.andThen_ok, newRow, run_newObj, Sem.run_pure, hcpd, hmap]
    have := run_mark (P := P) (o := 0) hb1
    exact congrArg (fun r : Result Unit => r.andThen fun _ w' => Result.ok (Value.slice (some ⟨w.heap.size, 0, none⟩) s0.length cp) w') this
  · refine ⟨⟨w.heap.size, 0, _, false⟩, cp, 0, by simp only [Ren.add_same]; rfl, rfl, hcp, hcp, .inr ⟨rfl, ?_⟩⟩
    simp; omega

theorem snd_convert (s d : TypeId) (x : Operand) : Sound1 P (.convert s d x) := by
  intro od k as fr ρ H w ρc v H' ho hk hf hr hs
  simp only [trOp] at hk
  split at hk
  · -- to a whole number
    rename_i ds kk hsrc hdst
    obtain ⟨a, h1, rfl, rfl⟩ := with1_some hk
    obtain ⟨h2, rfl⟩ := pureS_some (f := sCvi kk) rfl hs
    have hx := hf x a h1
    simp only [evArgsF] at h2
    unfold sCvi at h2
    split at h2
    · rename_i k0 n he
      simp only [List.cons.injEq, and_true] at he
      rw [he] at hx
      simp only [Option.some.injEq] at h2; subst h2
      have e1 := hx.int_inv
      refine .pure (cv := .int kk (kk.wrap n)) hr ?_ (by rw [wrapI_eq]; rfl)
      have : (convert s d (ρc x)).run P w = .ok (.int kk (kk.wrap n)) w := by
        simp [convert, run_under hsrc, run_under hdst, e1, Conv.intToInt]
      simp only [execOp, ho, Sem.run_bind, this]; rfl
    · exact nomatch h2
  · -- text to text
    rename_i hsrc hdst
    obtain ⟨a, h1, rfl, rfl⟩ := with1_some hk
    obtain ⟨h2, rfl⟩ := pureS_some (f := sCvs) rfl hs
    have hx := hf x a h1
    simp only [evArgsF] at h2
    unfold sCvs at h2
    split at h2
    · rename_i s0 he
      simp only [List.cons.injEq, and_true] at he
      rw [he] at hx
      simp only [Option.some.injEq] at h2; subst h2
      have e1 := hx.str_inv
      refine .pure (cv := ρc x) hr ?_ hx
      have : (convert s d (ρc x)).run P w = .ok (ρc x) w := by
        simp [convert, run_under hsrc, run_under hdst, e1]
      simp only [execOp, ho, Sem.run_bind, this]; rfl
    · exact nomatch h2
  · -- text to bytes
    rename_i e hsrc hdst
    split at hk
    · rename_i he8
      obtain ⟨a, h1, rfl, rfl⟩ := with1_some hk
      have hx := hf x a h1
      have hs' : sS2b (evArgsF fr [a]) H = some (v, H') := hs
      simp only [evArgsF] at hs'
      unfold sS2b at hs'
      split at hs'
      · rename_i s0 he
        simp only [List.cons.injEq, and_true] at he
        rw [he] at hx
        simp only [Option.some.injEq, Prod.mk.injEq] at hs'
        obtain ⟨rfl, rfl⟩ := hs'
        have e1 := hx.str_inv
        obtain ⟨ρ', w', cv, hrun, h3, h4, h5⟩ := s2b_ok (P := P) (e := e) (s0 := s0) hr
        refine ⟨ρ', w', cv, .inl ?_, h3, h4, h5⟩
        have : (convert s d (ρc x)).run P w = .ok cv w' := by
          simp [convert, run_under hsrc, run_under hdst, run_under he8, e1, hrun]
        simp only [execOp, ho, Sem.run_bind, this]; rfl
      · exact nomatch hs'
    · exact nomatch hk
  · -- bytes to text
    rename_i e hsrc hdst
    split at hk
    · rename_i he8
      obtain ⟨a, h1, rfl, rfl⟩ := with1_some hk
      obtain ⟨h2, rfl⟩ := readS_some (f := sB2s) rfl hs
      have hx := hf x a h1
      simp only [evArgsF] at h2
      unfold sB2s at h2
      split at h2
      · rename_i he
        simp only [List.cons.injEq, and_true] at he
        rw [he] at hx
        simp only [Option.some.injEq] at h2; subst h2
        have e1 : ρc x = .slice none 0 0 := hx
        refine .pure (cv := .string ⟨⟨[]⟩⟩) hr ?_ rfl
        have : (convert s d (ρc x)).run P w = .ok (.string ⟨⟨[]⟩⟩) w := by
          rw [e1, run_convert_bytes_string w s d e _ _ _ hsrc he8 hdst]
          rfl
        simp only [execOp, ho, Sem.run_bind, this]; rfl
      · rename_i b o len cap z he
        simp only [List.cons.injEq, and_true] at he
        rw [he] at hx
        obtain ⟨l, cc, off, hl, e1, hcap, hlc, hoff⟩ := hx.sl_inv
        split at h2
        · rename_i cs hcs
          split at h2
          · rename_i bs hbs
            simp only [Option.some.injEq] at h2; subst h2
            refine .pure (cv := .string ⟨⟨bs⟩⟩) hr ?_ rfl
            obtain ⟨xs, h3, h4, h5⟩ := cellsAt_ok (P := P) hr hcs hl
            obtain ⟨ns, rfl, h6⟩ := bytesOf_ok hbs h3
            have hld : (loadCells ⟨l.c, off, none⟩ len).run P w = .ok (ns.map (Value.int .u8)).toArray w := by
              rcases hoff with h0 | ⟨rfl, _⟩
              · have : len = 0 := by omega
                subst this
                have : ns = [] := by simpa using h4
                subst this; rfl
              · exact h5
            have : (convert s d (ρc x)).run P w = .ok (.string ⟨⟨bs⟩⟩) w := by
              rw [e1, run_convert_bytes_string w s d e _ _ _ hsrc he8 hdst, run_bytesToString w _ len cc ns hld, foldl_push, h6]
              rfl
            simp only [execOp, ho, Sem.run_bind, this]; rfl
          · exact nomatch h2
        · cases hz : Nat.beq len 0 <;> rw [hz] at h2 <;> simp only [cond_true, cond_false, Option.some.injEq] at h2
          · exact nomatch h2
          · subst h2
            have := beq_true hz
            subst this
            refine .pure (cv := .string ⟨⟨[]⟩⟩) hr ?_ rfl
            have : (convert s d (ρc x)).run P w = .ok (.string ⟨⟨[]⟩⟩) w := by
              rw [e1, run_convert_bytes_string w s d e _ _ _ hsrc he8 hdst, run_bytesToString w _ 0 cc [] rfl]
              rfl
            simp only [execOp, ho, Sem.run_bind, this]; rfl
      · exact nomatch h2
    · exact nomatch hk
  · -- a text's bytes, marked
    rename_i e0 e hsrc hdst
    split at hk
    · rename_i he8
      cases hsd : Nat.beq s d <;> rw [hsd] at hk
      · exact nomatch hk
      · have := beq_true hsd
        subst this
        obtain ⟨a, h1, rfl, rfl⟩ := with1_some hk
        have hx := hf x a h1
        have hs' : sCvm (evArgsF fr [a]) H = some (v, H') := hs
        simp only [evArgsF] at hs'
        unfold sCvm at hs'
        split at hs'
        · rename_i b o len cap z he
          simp only [List.cons.injEq, and_true] at he
          rw [he] at hx
          split at hs'
          · rename_i cs hg
            simp only [Option.some.injEq, Prod.mk.injEq] at hs'
            obtain ⟨rfl, rfl⟩ := hs'
            obtain ⟨l, cc, off, hl, e1, hcap, hlc, hoff⟩ := hx.sl_inv
            obtain ⟨hro, arr, el, fz, pre, mid, post, g1, g2, g3, g4, g5, g6⟩ := hr.obj b _ l hg hl
            refine ⟨ρ, _, ρc x, .inl ?_, hx, mark_rel hr g1 (g3 rfl), mark_ext (Ext.refl ρ H w) (.inr ⟨b, _, l, hg, hl, rfl, hro.symm⟩)⟩
            have : (convert s s (ρc x)).run P w = .ok (ρc x) (w.freeze ⟨l.c, arr.size, none⟩ 1) := by
              rw [e1]
              simp [convert, run_under hdst, run_under he8, run_mark g1]
            simp only [execOp, ho, Sem.run_bind, this]; rfl
          · exact nomatch hs'
        · exact nomatch hs'
    · exact nomatch hk
  · exact nomatch hk

end
end Go.Aev
