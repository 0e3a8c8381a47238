/- From a call that answers true and leaves all as it lay to a law's row. -/
import Derived.Test.YtbnabgaepphlnaaGreatAevTab
import Derived.Carry
import Derived.ChangeSame
import Derived.OpenShut
import Derived.RowKit
set_option linter.unusedVariables false
namespace Go.Aev
open Go Go.RowKit Go.ChangeShapes
variable {P : Program} {H : Type} {enc : TypeId × Value → H}

theorem Kept.below {w w' : World} (h : Kept w w') : Below w.heap.size w { w' with tape := w.tape } := ⟨h.os, rfl, h.output, h.size, h.block⟩
theorem Kept.frozen {w w' : World} (h : Kept w w') {a : Addr} (ha : a.block < w.heap.size) : w'.frozen? a = w.frozen? a := h.below.frozen (p := a) ha
theorem Kept.frame {w w' : World} (h : Kept w w') (may : MemPlace → Prop) : w.keptBut w' may := h.below.frame may
theorem Kept.refl (w : World) : Kept w w := ⟨Nat.le_refl _, fun _ _ => rfl, rfl, rfl⟩

theorem kept_trodAll (hl : laidOutB P = true) {w w' : World} (hk : Kept w w') {sp : Nat → Bool} : ∀ {ts : List TypeId} {vs : List Value} {ds : List (DataW H)} {ps : List MemPlace},
    (∀ t ∈ ts, P.readableRec t = true ∧ t < P.types.size) → DataW.TrodAll enc P w 0 (fun _ => true) true ts vs ds ps → (∀ p ∈ ps, p.block < w.heap.size) → (∀ p ∈ ps, sp p.block = true) → DataW.TrodAll enc P w' 0 sp true ts vs ds ps
  | [], vs, ds, ps, _, h, _, _ => by
    obtain ⟨rfl, rfl, rfl⟩ := trodAll_nil h
    exact trodAll_mk0
  | t :: ts, vs, ds, ps, ht, h, hlt, hsp => by
    obtain ⟨v, vs', d, ds', p, q, rfl, rfl, rfl, h1, h2⟩ := trodAll_cons h
    obtain ⟨hr, hrow⟩ := ht t (by simp)
    refine trodAll_cons_mk ?_ (kept_trodAll hl hk (fun t h => ht t (List.mem_cons_of_mem _ h)) h2 (fun x hx => hlt x (List.mem_append_right _ hx)) fun x hx => hsp x (List.mem_append_right _ hx))
    have h3 : DataW.Trod enc P { w' with tape := w.tape } 0 sp true t v d p := WideElems.Trod_stays hl hr hrow h1 (fun x hx => hk.below.same (hlt x (List.mem_append_left _ hx))) fun x hx => hsp x (List.mem_append_left _ hx)
    exact DataW.Trod.of_heap (by rfl) h3

/-- A law's row: true, and the arguments as they were. -/
theorem law_post {f : Func} {s : ChangeSpec} {fresh handsOn : Bool} {W W' : World} {args : Array Value} {ds gs : List (DataW H)} {before : List MemPlace}
    (hl : laidOutB P = true) (hts0 : f.params.toList.all (fun t => P.readableRec t && Nat.blt t P.types.size) = true) (hvars : s.vars = []) {tb : TypeId} (hres : f.resultTypes = #[tb]) (htb : P.underlying tb = some .bool)
    (hspec : ∀ ds : List (DataW H), ds.length = f.params.size → s.fn H ds = { results := [.lit (.bool true)], args := ds })
    (hW : DataW.Whole enc P f.params.toList s.vars false W args.toList ds gs before) (hk : Kept W W') : s.post enc P f false fresh handsOn false W args (.bool true) W' := by
  have hts : ∀ t ∈ f.params.toList, P.readableRec t = true ∧ t < P.types.size := fun t ht => by
    have := List.all_eq_true.1 hts0 t ht
    simp only [Bool.and_eq_true, Nat.blt_eq] at this
    exact this
  have hW0 := hW
  obtain ⟨p, q, hA, hV, rfl, hfz, hnd⟩ := hW
  rw [hvars] at hV
  obtain ⟨rfl, rfl⟩ := trodVars_none hV
  have hlt : ∀ x ∈ p, x.block < W.heap.size := fun x hx => hW0.lt x (by simpa using hx)
  have hlen : ∀ {ts : List TypeId} {vs : List Value} {ds : List (DataW H)} {ps : List MemPlace}, DataW.TrodAll enc P W 0 (fun _ => true) true ts vs ds ps → ds.length = ts.length := by
    intro ts
    induction ts with
    | nil => intro vs ds ps h; obtain ⟨_, rfl, _⟩ := trodAll_nil h; rfl
    | cons t ts ih => intro vs ds ps h; obtain ⟨v, vs', d, ds', p, q, rfl, rfl, rfl, h1, h2⟩ := trodAll_cons h; simp [ih h2]
  have hds := hlen hA
  have hsp := hspec (ds ++ []) (by simpa using hds)
  have hresult : ∀ (b : Nat) (sp : Nat → Bool) (hd : Bool), DataW.TrodAll enc P W' b sp hd f.resultTypes.toList ((Value.bool true).resultList f.resultTypes.size) (s.fn H (ds ++ [])).results [] := fun b sp hd => by
    rw [hsp, hres]
    exact trodAll_mk1 ⟨1, by simp [DataW.trod, Value.cells, htb]⟩
  refine ⟨ds, [], p ++ [], [], p, [], hW0, hresult _ _ _, ?_, ?_, hk.frame _, fun h => nomatch h⟩
  · rw [hsp]
    simp only [List.append_nil]
    exact kept_trodAll hl hk hts hA hlt fun x hx => by simpa using hlt x hx
  · rw [hvars, hsp]; exact rfl

end Go.Aev
