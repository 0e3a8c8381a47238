/- slices.AppendSeq of the keys of an empty map (seat Ytbohkgmfkeohbaa.Z): the nil slice. -/
import Derived.Test.YtbnabgaepphlnaaGreatProg
import Derived.RangeFuncGives
import Derived.RangeFuncSeq
import Derived.RangeFuncOwn
import Derived.Sort.MapsRangeIn
import Derived.WalkKit
import Derived.OwnWalkIn
import Derived.TacticsInMore
import Derived.RegionIn
import Derived.LoopNIn
import Derived.LoopIn
import Derived.Maps.AppendAt
import Derived.Shelf.Abstract
import Derived.Laws.IdiomRangeMap
namespace Go.Proofs.Seq
open Go.RowKit Go.Maps

/-- A map value with nothing in it. -/
def EmptyMap (m : Option Nat) (w : World) : Prop := m = none ∨ ∃ c clk, m = some c ∧ w.heap[c]? = some (.map #[] clk)

theorem range_empty {P : Program} {t k e : TypeId} (ht : P.underlying t = some (.map k e)) {m : Option Nat} {w : World} (hm : EmptyMap m w) :
    ∃ it : Obj, it.isWalk = true ∧ (Instr.range t (.map m)).run P w = .ok (.pointer (some ⟨w.heap.size, 0, none⟩)) (w.alloc it) ∧
      ∀ ty, (Instr.next (.pointer (some ⟨w.heap.size, 0, none⟩)) false ty).run P (w.alloc it) = .ok (.tuple #[.bool false]) (w.alloc it) := by
  rcases hm with rfl | ⟨c, clk, rfl, hc⟩
  · exact ⟨_, rfl, run_range_nilMap w t k e ht, fun ty => run_next_nilMap w ty _ _ _⟩
  · have hlt : c < w.heap.size := (Array.getElem?_eq_some_iff.1 hc).1
    refine ⟨.mapIter (some c) clk #[] clk, rfl, ?_, fun ty => ?_⟩
    · simp [Instr.range, run_underlying ht, getObj, Sem.run, hc]
    · have h1 : (w.alloc (.mapIter (some c) clk #[] clk)).heap[w.heap.size]? = some (.mapIter (some c) clk #[] clk) := World.alloc_heap_new w _
      have h2 : (w.alloc (.mapIter (some c) clk #[] clk)).heap[c]? = some (.map #[] clk) := (Below.heap_alloc w _ c hlt).trans hc
      simp only [Instr.next, getObj, Sem.run_bind, Sem.run, h1, Result.andThen, h2]
      have e0 : ∀ p : MapEntry → Bool, Array.filter p #[] 0 0 = #[] := fun _ => rfl
      simp [choose, Sem.run, Question.forced, e0]

set_option maxRecDepth 100000 in
set_option maxHeartbeats 1000000 in
theorem keys_empty (l Bm off : Nat) (m : Option Nat) (W : World) (hm : W.cell? ⟨Bm, off, none⟩ = some (.map m)) (he : EmptyMap m W) :
    Calls Tryz.prog 300 #[.func (.yield l) #[] #[], .pointer (some ⟨Bm, off, none⟩)] W fun e W' => (∃ v, e = .returned v) ∧ Below W.heap.size W W' := by
  obtain ⟨it, hw, hrg, hnx⟩ := range_empty Tryz.underlying161 he
  go_enter Tryz.func300, Tryz.ntmps300
  go_wp2
  refine wp_loop_rounds 1 ?_
  rw [rounds_succ]
  go_wp2
  go_end0
  exact ⟨⟨_, rfl⟩, (Below.refl _ W).alloc (Nat.le_refl _) _⟩

theorem EmptyMap.below {m : Option Nat} {w w' : World} (h : EmptyMap m w) (hb : Below w.heap.size w w') : EmptyMap m w' := by
  rcases h with rfl | ⟨c, clk, rfl, hc⟩
  · exact .inl rfl
  · exact .inr ⟨c, clk, rfl, (hb.block c (Array.getElem?_eq_some_iff.1 hc).1).trans hc⟩

theorem cell_of_box {W : World} {B : Nat} {v : Value} {t : TypeId} (h : W.heap[B]? = some (.cells #[v] t (0, 0))) : W.cell? ⟨B, 0, none⟩ = some v ∧ W.frozen? ⟨B, 0, none⟩ = false := by
  refine ⟨?_, ?_⟩
  · simp [World.cell?, h]
  · simp [World.frozen?, h]

set_option maxRecDepth 100000 in
set_option maxHeartbeats 2000000 in
theorem appendSeq_empty_in (Bm off : Nat) (m : Option Nat) (w : World) (hBm : Bm < w.heap.size) (hm : w.cell? ⟨Bm, off, none⟩ = some (.map m)) (he : EmptyMap m w) :
    CallsIn Fence.wide 2 Tryz.prog 299 #[.slice none 0 0, .func (.func 300) #[] #[.pointer (some ⟨Bm, off, none⟩)]] w fun e w' => e = .returned (.slice none 0 0) ∧ Below w.heap.size w w' := by
  have eg : ∀ args w, (callFunc 300 args).run Tryz.prog w = .ok (.enter 300 args) w := enters_of Tryz.func300 (by kernel_rfl) rfl
  refine callsIn_of_wp_marks Tryz.func299 rfl trivial ?_ rfl
  simp only [Tryz.ntmps299, List.size_toArray, List.length_cons, List.length_nil, Nat.reduceAdd, Nat.reduceSub, Array.replicate_succ, Array.replicate_zero, List.push_toArray, List.append_toArray, List.nil_append, List.cons_append]
  gi_wp2
  refine wpIn_rangeFunc ?_
  intro fn hfn
  obtain ⟨W0, hW0⟩ : ∃ W0, w.alloc (.cells #[.slice none 0 0] 26) = W0 := ⟨_, rfl⟩
  have hb0 : Below w.heap.size w W0 := by rw [← hW0]; exact (Below.refl _ w).alloc (Nat.le_refl _) _
  have hv0 : W0.heap[w.heap.size]? = some (.cells #[.slice none 0 0] 26 (0, 0)) := by rw [← hW0]; exact World.alloc_heap_new w _
  have hs0 : W0.heap.size = w.heap.size + 1 := by rw [← hW0]; simp
  rw [hW0]
  iterate 8 apply Exists.intro
  refine ⟨run_enterLoop_outer (P := Tryz.prog) (w := W0) _ _ _ _ _, ?_, ?_, ?_, fun h => (by simp [Fence.wide] at h), ?_⟩
  · simp [resolve, go_sem]
    exact ⟨rfl, rfl⟩
  · intro f' hf'; trivial
  · simp only [invoke]
    exact eg _ _
  · generalize hrec : ({ state := .ready, pending := none, fn := fn, tmps := _, params := _, assign := _, body := _, defers := W0.heap.size } : Loop) = rec
    have hst : rec.state ≠ .busy := by rw [← hrec]; exact fun h => nomatch h
    have hpd : rec.pending = none := by rw [← hrec]
    clear hrec
    have hb1 : Below W0.heap.size W0 ((W0.alloc (.deferred (some []))).alloc (.loop rec)) := ((Below.refl _ W0).alloc (Nat.le_refl _) _).alloc (by simp) _
    have hs1 : ((W0.alloc (.deferred (some []))).alloc (.loop rec)).heap.size = W0.heap.size + 2 := by simp
    have hL1 : ((W0.alloc (.deferred (some []))).alloc (.loop rec)).heap[W0.heap.size + 1]? = some (.loop rec) := by
      have := World.alloc_heap_new (W0.alloc (.deferred (some []))) (.loop rec); rwa [World.size_alloc] at this
    have hK1 : ((W0.alloc (.deferred (some []))).alloc (.loop rec)).heap[W0.heap.size]? = some (.deferred (some [])) :=
      (Below.heap_alloc _ _ _ (by simp)).trans (World.alloc_heap_new W0 _)
    generalize (W0.alloc (.deferred (some []))).alloc (.loop rec) = W1 at hb1 hs1 hL1 hK1 ⊢
    have hbB : Below w.heap.size w W1 := hb0.trans (hb1.mono (by omega))
    refine (callsIn_wide.2 (keys_empty (W0.heap.size + 1) Bm off m W1 ((hbB.cell (p := ⟨Bm, off, none⟩) hBm).trans hm) (he.below hbB))).mono ?_
    rintro e W2 ⟨⟨v0, rfl⟩, hb2⟩
    have hL2 : W2.heap[W0.heap.size + 1]? = some (.loop rec) := (hb2.block _ (by omega)).trans hL1
    have hK2 : W2.heap[W0.heap.size]? = some (.deferred (some [])) := (hb2.block _ (by omega)).trans hK1
    have hv2 : W2.heap[w.heap.size]? = some (.cells #[.slice none 0 0] 26 (0, 0)) := (hb2.block _ (by omega)).trans ((hb1.block _ (by omega)).trans hv0)
    have hend := run_endLoop (P := Tryz.prog) hL2 hst
    obtain ⟨W3, hW3⟩ : ∃ W3, W2.putObj (W0.heap.size + 1) (.loop { rec with state := .exhausted }) = W3 := ⟨_, rfl⟩
    rw [hW3, hpd] at hend
    have hK3 : W3.heap[W0.heap.size]? = some (.deferred (some [])) := by rw [← hW3]; exact (World.putObj_heap_other (by omega)).trans hK2
    have hv3 : W3.heap[w.heap.size]? = some (.cells #[.slice none 0 0] 26 (0, 0)) := by rw [← hW3]; exact (World.putObj_heap_other (by omega)).trans hv2
    have hb3 : Below w.heap.size w W3 := by
      have h2 : Below w.heap.size w W2 := hbB.trans (hb2.mono (by omega))
      exact h2.grown (by rw [← hW3]; exact grownBy_putObj' _ _ _) h2.size (fun k e => by cases e; omega)
    obtain ⟨hc3, hf3⟩ := cell_of_box hv3
    clear hW3
    refine ⟨none, W3, hend, ?_⟩
    gi_wp2
    rw [← hs0]
    refine ⟨by simp, .inl ⟨_, _, rfl, run_takeDeferred hK3, ?_⟩⟩
    exact ⟨_, results_tmp rfl _ _ _, rfl, hb3.grown (grownBy_putObj' _ _ _) hb3.size (fun k e => by cases e; omega)⟩

theorem appendSeq_empty (Bm off : Nat) (m : Option Nat) (w : World) (hBm : Bm < w.heap.size) (hm : w.cell? ⟨Bm, off, none⟩ = some (.map m)) (he : EmptyMap m w) :
    Calls Tryz.prog 299 #[.slice none 0 0, .func (.func 300) #[] #[.pointer (some ⟨Bm, off, none⟩)]] w fun e w' => e = .returned (.slice none 0 0) ∧ Below w.heap.size w w' :=
  callsIn_wide.1 (appendSeq_empty_in Bm off m w hBm hm he)

end Go.Proofs.Seq
