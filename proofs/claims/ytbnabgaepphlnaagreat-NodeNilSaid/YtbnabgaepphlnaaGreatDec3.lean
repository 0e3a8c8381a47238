/- frame.Decode answers: part 3. -/
import Derived.Test.YtbnabgaepphlnaaGreatDec2
set_option maxRecDepth 100000
set_option linter.unusedSimpArgs false
set_option linter.unusedVariables false
namespace Go.Proofs.YtbnabgaepphlnaaGreat.T
open Go Go.Aev
variable {E : Env}

def z7 : List V := [.int .i64 (.ofNat 0), .int .u16 (.ofNat 0), .int .u32 (.ofNat 0), .int .u16 (.ofNat 0), .int .u32 (.ofNat 0), .int .u64 (.ofNat 0), .nils]

structure DI (h3 : Hp) (A C : Nat) (kk : V) (i : Nat) (w : V) (l : List UInt8) (a b c d : Int) (f : SF) : Prop where
  g : Grow h3 f.h (2 + 2 * i)
  gB : f.h.get h3.nx = some (.cells [kk, .int .u16 a, .int .u32 b, .int .u16 c, .int .u32 d, .int .u64 (.ofNat 0), .nils] false)
  gC : f.h.get C = some (.cells [.ptr h3.nx 1, .ptr h3.nx 3] false)
  W : Bytes h3 w l
  L : l.length ≤ 140737488355328
  ds : f.ds = []
  f2 : f.fr 2 = .ptr A 0
  f10 : f.fr 10 = .ptr h3.nx 0
  f11 : f.fr 11 = w
  f63 : f.fr 63 = .sl C 0 2 (.ex 2) 1
  f64 : f.fr 64 = .int .i64 (.ofNat 2)
  f65 : f.fr 65 = .int .i64 (.ofNat i)

set_option maxHeartbeats 2000000 in
theorem decode_ok (hE : Std E) {h : Hp} {v : V} {bs : List UInt8} (hh : HW h 30) (hb : Bytes h v bs) (hn : bs.length ≤ 140737488355328) :
    ∃ r h', Cl E 57 [v] h r h' ∧ (Grow h h' 30 ∧ ∃ k a b c d s w e, r = .tup [.agg [.int .i64 k, .int .u16 a, .int .u32 b, .int .u16 c, .int .u32 d, .int .u64 s, w], .int .i64 e] ∧ w.oneCell = true ∧ w.cells = [w]) := by
  refine Cl.of_wp (nt := 106) (hE.n 57 rfl) hE.t57 rfl rfl rfl ?_
  have g1 : Grow h (h.new (.cells z7 false)) 1 := (Grow.refl (j := 0) hh).new (m := 29) hh _
  have hA : (h.new (.cells z7 false)).get h.nx = some (.cells z7 false) := by rw [Hp.at_new (hh.le (by omega : 1 ≤ 30)).has]; simp
  have hb1 := hb.grow g1
  have hl := hb1.len
  cases q1 : Nat.blt bs.length 12
  rotate_left
  · simp only [z7] at hA hl g1
    simp only [a57, ↓wpF_skip, ↓wpF_reg, ↓wpF_dreg, ↓wpF_seq, ↓wpF_cond, ↓wpF_block, ↓wpF_loop, ↓wpF_exit, ↓wpF_ret, ↓opsW_nil, ↓opsW_cons, ↓dopsW_nil, ↓dopsW_cons, wantedF, evArgsF, evOpdF, Aev.step, pureS, readS, sMv, sPick, sBin, sUn, sCvi, sEx, sFa, sBuild, fillV, putAt, kCells, List.drop_succ_cons, List.drop_zero, List.drop_nil, List.cons_append, List.nil_append, List.length_cons, List.length_nil, Nat.reduceAdd, Nat.reduceLeDiff, Nat.reduceBEq, Nat.beq_refl, ble_self, eq_self, Bool.true_and, Bool.and_true, List.all_cons, List.all_nil, isShift, intBin, intShift, iAnd, iXor, iOr, iAdd, iSub, iMul, eqK_self, upO, up_eq, reduceIte, Nat.reduceEqDiff, cond_true, cond_false, lt_blt, initF0, initF1, initF2, initF3, isE, isL, OpK.kd, checkPend, addPendF, List.getElem?_cons_zero, List.getElem?_cons_succ, Bool.not_true, Bool.not_false, Bool.false_eq_true, Bool.true_eq_false, false_implies, true_implies, gtt, gtf, gft, gff, kLits, resVF, resAllF, resOneF, Option.some.injEq, Prod.mk.injEq, exists_eq_left', cellsAt, sLdA, sSt, storeAt, kOnes, List.take_succ_cons, List.take_zero, List.take_nil, sAlloc, sBox, sLd, true_and, and_true, hl, gi, q1, hA, put_self hA]
    exact ⟨g1.put (Nat.le_refl _) hA |>.more (by omega), _, _, _, _, _, _, _, _, rfl, rfl, rfl⟩
  have hlen : 12 ≤ bs.length := blt_false q1
  obtain ⟨r1, h1, hc1, rfl, x1, y1, rfl⟩ := get_ok hE hb1 (by omega)
  obtain ⟨v2, hv2, hb2⟩ := hb1.drop (l := 4) (k := .i64) (by omega)
  obtain ⟨r2, h2, hc2, rfl, x2, y2, rfl⟩ := get_ok hE hb2 (by rw [List.length_drop]; omega)
  obtain ⟨r3, h3, hc3, g3, w, e3, rfl, hw⟩ := open_ok hE (g1.hw (k := 3) (hh.le (by omega))) hb1 hn (by omega)
  have hA3 := (g3.le h.nx (by simp [Hp.new])).trans hA
  simp only [z7] at hA hl g1 hA3 hc1 hc2 hc3 g3 hv2
  simp only [a57, ↓wpF_skip, ↓wpF_reg, ↓wpF_dreg, ↓wpF_seq, ↓wpF_cond, ↓wpF_block, ↓wpF_loop, ↓wpF_exit, ↓wpF_ret, ↓opsW_nil, ↓opsW_cons, ↓dopsW_nil, ↓dopsW_cons, wantedF, evArgsF, evOpdF, Aev.step, pureS, readS, sMv, sPick, sBin, sUn, sCvi, sEx, sFa, sBuild, fillV, putAt, kCells, List.drop_succ_cons, List.drop_zero, List.drop_nil, List.cons_append, List.nil_append, List.length_cons, List.length_nil, Nat.reduceAdd, Nat.reduceLeDiff, Nat.reduceBEq, Nat.beq_refl, ble_self, eq_self, Bool.true_and, Bool.and_true, List.all_cons, List.all_nil, isShift, intBin, intShift, iAnd, iXor, iOr, iAdd, iSub, iMul, eqK_self, upO, up_eq, reduceIte, Nat.reduceEqDiff, cond_true, cond_false, lt_blt, initF0, initF1, initF2, initF3, isE, isL, OpK.kd, checkPend, addPendF, List.getElem?_cons_zero, List.getElem?_cons_succ, Bool.not_true, Bool.not_false, Bool.false_eq_true, Bool.true_eq_false, false_implies, true_implies, gtt, gtf, gft, gff, kLits, sAlloc, hl, gi, q1]
  refine ⟨_, _, hc1, ?_⟩
  simp only [↓wpF_skip, ↓wpF_reg, ↓wpF_dreg, ↓wpF_seq, ↓wpF_cond, ↓wpF_block, ↓wpF_loop, ↓wpF_exit, ↓wpF_ret, ↓opsW_nil, ↓opsW_cons, ↓dopsW_nil, ↓dopsW_cons, wantedF, evArgsF, evOpdF, Aev.step, pureS, readS, sMv, sPick, sBin, sUn, sCvi, sEx, sFa, sBuild, fillV, putAt, kCells, List.drop_succ_cons, List.drop_zero, List.drop_nil, List.cons_append, List.nil_append, List.length_cons, List.length_nil, Nat.reduceAdd, Nat.reduceLeDiff, Nat.reduceBEq, Nat.beq_refl, ble_self, eq_self, Bool.true_and, Bool.and_true, List.all_cons, List.all_nil, isShift, intBin, intShift, iAnd, iXor, iOr, iAdd, iSub, iMul, eqK_self, upO, up_eq, reduceIte, Nat.reduceEqDiff, cond_true, cond_false, lt_blt, initF0, initF1, initF2, initF3, isE, isL, OpK.kd, checkPend, addPendF, List.getElem?_cons_zero, List.getElem?_cons_succ, Bool.not_true, Bool.not_false, Bool.false_eq_true, Bool.true_eq_false, false_implies, true_implies, gtt, gtf, gft, gff, kLits, hv2]
  refine ⟨_, _, hc2, ?_⟩
  simp only [↓wpF_skip, ↓wpF_reg, ↓wpF_dreg, ↓wpF_seq, ↓wpF_cond, ↓wpF_block, ↓wpF_loop, ↓wpF_exit, ↓wpF_ret, ↓opsW_nil, ↓opsW_cons, ↓dopsW_nil, ↓dopsW_cons, wantedF, evArgsF, evOpdF, Aev.step, pureS, readS, sMv, sPick, sBin, sUn, sCvi, sEx, sFa, sBuild, fillV, putAt, kCells, List.drop_succ_cons, List.drop_zero, List.drop_nil, List.cons_append, List.nil_append, List.length_cons, List.length_nil, Nat.reduceAdd, Nat.reduceLeDiff, Nat.reduceBEq, Nat.beq_refl, ble_self, eq_self, Bool.true_and, Bool.and_true, List.all_cons, List.all_nil, isShift, intBin, intShift, iAnd, iXor, iOr, iAdd, iSub, iMul, eqK_self, upO, up_eq, reduceIte, Nat.reduceEqDiff, cond_true, cond_false, lt_blt, initF0, initF1, initF2, initF3, isE, isL, OpK.kd, checkPend, addPendF, List.getElem?_cons_zero, List.getElem?_cons_succ, Bool.not_true, Bool.not_false, Bool.false_eq_true, Bool.true_eq_false, false_implies, true_implies, gtt, gtf, gft, gff, kLits, resVF, resAllF, resOneF, Option.some.injEq, Prod.mk.injEq, exists_eq_left', cellsAt, sLdA, sSt, storeAt, kOnes, List.take_succ_cons, List.take_zero, List.take_nil, sAlloc, sBox, sLd, true_and, and_true, hA, hl, gi, put_self hA]
  refine sp (fun _ => ⟨g1.put (Nat.le_refl _) hA |>.more (by omega), _, _, _, _, _, _, _, _, rfl, rfl, rfl⟩) (fun _ => sp (fun _ => ⟨g1.put (Nat.le_refl _) hA |>.more (by omega), _, _, _, _, _, _, _, _, rfl, rfl, rfl⟩) (fun _ => ?_))
  refine ⟨_, _, hc3, ?_⟩
  simp only [↓wpF_skip, ↓wpF_reg, ↓wpF_dreg, ↓wpF_seq, ↓wpF_cond, ↓wpF_block, ↓wpF_loop, ↓wpF_exit, ↓wpF_ret, ↓opsW_nil, ↓opsW_cons, ↓dopsW_nil, ↓dopsW_cons, wantedF, evArgsF, evOpdF, Aev.step, pureS, readS, sMv, sPick, sBin, sUn, sCvi, sEx, sFa, sBuild, fillV, putAt, kCells, List.drop_succ_cons, List.drop_zero, List.drop_nil, List.cons_append, List.nil_append, List.length_cons, List.length_nil, Nat.reduceAdd, Nat.reduceLeDiff, Nat.reduceBEq, Nat.beq_refl, ble_self, eq_self, Bool.true_and, Bool.and_true, List.all_cons, List.all_nil, isShift, intBin, intShift, iAnd, iXor, iOr, iAdd, iSub, iMul, eqK_self, upO, up_eq, reduceIte, Nat.reduceEqDiff, cond_true, cond_false, lt_blt, initF0, initF1, initF2, initF3, isE, isL, OpK.kd, checkPend, addPendF, List.getElem?_cons_zero, List.getElem?_cons_succ, Bool.not_true, Bool.not_false, Bool.false_eq_true, Bool.true_eq_false, false_implies, true_implies, gtt, gtf, gft, gff, kLits, resVF, resAllF, resOneF, Option.some.injEq, Prod.mk.injEq, exists_eq_left', cellsAt, sLdA, sSt, storeAt, kOnes, List.take_succ_cons, List.take_zero, List.take_nil, sAlloc, sBox, sLd, true_and, and_true, hA3, put_self hA3]
  refine sp (fun _ => ⟨(g1.trans g3).put (Nat.le_refl _) hA3 |>.more (by omega), _, _, _, _, _, _, _, _, rfl, rfl, rfl⟩) (fun q3 => ?_)
  have q3' : eqI e3 (Int.ofNat 0) = true := by cases hx : eqI e3 (Int.ofNat 0) <;> simp_all
  have hbw := hw q3'
  obtain ⟨w2, hw2, hbw2⟩ := hbw.drop (l := 8) (k := .i64) (by rw [List.length_take]; omega)
  have hh3 : HW h3 26 := (g1.trans g3).hw (k := 26) hh
  have gB : Grow h3 (h3.new (.cells z7 false)) 1 := (Grow.refl (j := 0) hh3).new (m := 25) hh3 _
  have hB : (h3.new (.cells z7 false)).get h3.nx = some (.cells z7 false) := by rw [Hp.at_new (hh3.le (by omega : 1 ≤ 26)).has]; simp
  simp only [z7] at gB hB
  simp only [↓wpF_skip, ↓wpF_reg, ↓wpF_dreg, ↓wpF_seq, ↓wpF_cond, ↓wpF_block, ↓wpF_loop, ↓wpF_exit, ↓wpF_ret, ↓opsW_nil, ↓opsW_cons, ↓dopsW_nil, ↓dopsW_cons, wantedF, evArgsF, evOpdF, Aev.step, pureS, readS, sMv, sPick, sBin, sUn, sCvi, sEx, sFa, sBuild, fillV, putAt, kCells, List.drop_succ_cons, List.drop_zero, List.drop_nil, List.cons_append, List.nil_append, List.length_cons, List.length_nil, Nat.reduceAdd, Nat.reduceLeDiff, Nat.reduceBEq, Nat.beq_refl, ble_self, eq_self, Bool.true_and, Bool.and_true, List.all_cons, List.all_nil, isShift, intBin, intShift, iAnd, iXor, iOr, iAdd, iSub, iMul, eqK_self, upO, up_eq, reduceIte, Nat.reduceEqDiff, cond_true, cond_false, lt_blt, initF0, initF1, initF2, initF3, isE, isL, OpK.kd, checkPend, addPendF, List.getElem?_cons_zero, List.getElem?_cons_succ, Bool.not_true, Bool.not_false, Bool.false_eq_true, Bool.true_eq_false, false_implies, true_implies, gtt, gtf, gft, gff, kLits, hB, sSt, storeAt, kOnes, hw2, sBsl, sLen, gi]
  have hBp := put_self (o := .cells [.int .i64 (wrapI .i64 (wrapI .u8 x1)), .int .u16 (.ofNat 0), .int .u32 (.ofNat 0), .int .u16 (.ofNat 0), .int .u32 (.ofNat 0), .int .u64 (.ofNat 0), .nils] false) hB
  have gB2 := gB.put (o := .cells [.int .i64 (wrapI .i64 (wrapI .u8 x1)), .int .u16 (.ofNat 0), .int .u32 (.ofNat 0), .int .u16 (.ofNat 0), .int .u32 (.ofNat 0), .int .u64 (.ofNat 0), .nils] false) (Nat.le_refl _) hB
  generalize hp4 : (h3.new (.cells [.int .i64 (.ofNat 0), .int .u16 (.ofNat 0), .int .u32 (.ofNat 0), .int .u16 (.ofNat 0), .int .u32 (.ofNat 0), .int .u64 (.ofNat 0), .nils] false)).put h3.nx (.cells [.int .i64 (wrapI .i64 (wrapI .u8 x1)), .int .u16 (.ofNat 0), .int .u32 (.ofNat 0), .int .u16 (.ofNat 0), .int .u32 (.ofNat 0), .int .u64 (.ofNat 0), .nils] false) = h4 at hBp gB2 ⊢
  have hh4 : HW h4 25 := gB2.hw (k := 25) hh3
  have gC : Grow h4 (h4.new (.cells [.ptr h3.nx 1, .ptr h3.nx 3] false)) 1 := (Grow.refl (j := 0) hh4).new (m := 24) hh4 _
  have hC : (h4.new (.cells [.ptr h3.nx 1, .ptr h3.nx 3] false)).get h4.nx = some (.cells [.ptr h3.nx 1, .ptr h3.nx 3] false) := by rw [Hp.at_new (hh4.le (by omega : 1 ≤ 25)).has]; simp
  have hltB : h3.nx < h4.nx := by rw [← hp4]; simp [Hp.put, Hp.new]
  have hltA : h.nx < h3.nx := Nat.lt_of_lt_of_le (by simp [Hp.new]) g3.nx
  have hBC := (gC.le _ hltB).trans hBp
  have hA4 := (gC.le _ (by omega)).trans ((gB2.le _ hltA).trans hA3)
  have hbw5 := hbw2.grow (gB2.trans gC)
  have gAll : Grow h (h4.new (.cells [.ptr h3.nx 1, .ptr h3.nx 3] false)) 6 := (g1.trans g3).trans (gB2.trans gC)
  have gBC : Grow h3 (h4.new (.cells [.ptr h3.nx 1, .ptr h3.nx 3] false)) 2 := gB2.trans gC
  refine loop_rule (fun k f => ∃ i w5 l5 a b c d, k = 2 - i ∧ i ≤ 2 ∧ DI h3 h.nx h4.nx (.int .i64 (wrapI .i64 (wrapI .u8 x1))) i w5 l5 a b c d f) rfl ?_ 2 _ ⟨0, w2, _, _, _, _, _, rfl, Nat.zero_le _, ⟨gBC, hBC, hC, hbw2, ?_, rfl, ?_, ?_, ?_, ?_, ?_, ?_⟩⟩
  rotate_left
  · rw [List.length_drop, List.length_take]; omega
  rotate_right
  · rintro k ⟨fr, hf, ds⟩ ⟨i, w6, l6, a, b, c, d, hk, hi2, ⟨pg, pB, pC, pW, pL, pd, p2, p10, p11, p63, p64, p65⟩⟩
    simp only at pg pB pC pW pL pd p2 p10 p11 p63 p64 p65
    subst pd
    have pA : hf.get h.nx = _ := (pg.le h.nx hltA).trans hA3
    have hhf : HW hf 20 := pg.hw (k := 20) (hh3.le (by omega))
    have q9 : (i = 0 ∨ i = 1) ∨ i = 2 := by omega
    rcases q9 with q9 | q9
    · obtain ⟨r6, h6, hc6, g6, i6, j6, u6, e6, rfl, hu6⟩ := pidGet_ok hE (hhf.le (by omega)) (pW.grow pg) (by omega)
      obtain ⟨v6, hv6, hb6⟩ := pW.drop (k := .i64) hu6
      have hh6 : HW h6 19 := g6.hw (k := 19) (hhf.le (by omega))
      have ltB := hhf.lt pB
      have ltC := hhf.lt pC
      have pA6 := (g6.le h.nx (by omega)).trans pA
      have pB6 := (g6.le h3.nx (by omega)).trans pB
      have pC6 := (g6.le h4.nx (by omega)).trans pC
      have l6nx := g6.nx
      have hDD : (h6.new (.cells [.int .u16 (.ofNat 0), .int .u32 (.ofNat 0)] false)).get h6.nx = some (.cells [.int .u16 (.ofNat 0), .int .u32 (.ofNat 0)] false) := by rw [Hp.at_new (hh6.le (by omega : 1 ≤ 19)).has]; simp
      have hD7 := put_self (o := .cells [.int .u16 i6, .int .u32 j6] false) hDD
      have g7 : Grow h6 ((h6.new (.cells [.int .u16 (.ofNat 0), .int .u32 (.ofNat 0)] false)).put h6.nx (.cells [.int .u16 i6, .int .u32 j6] false)) 1 := ((Grow.refl (j := 0) hh6).new (m := 18) hh6 _).put (Nat.le_refl _) hDD
      have pA7 := (g7.le h.nx (by omega)).trans pA6
      have pB7 := (g7.le h3.nx (by omega)).trans pB6
      have pC7 := (g7.le h4.nx (by omega)).trans pC6
      have gx := (pg.trans g6).trans g7
      rcases q9 with rfl | rfl
      · -- round 0
        have e1 : sIxS 1 [.sl h4.nx 0 2 (.ex 2) 1, .int .i64 (.ofNat 0)] = some (.ptr h4.nx 0) := rfl
        simp only [↓wpF_skip, ↓wpF_reg, ↓wpF_dreg, ↓wpF_seq, ↓wpF_cond, ↓wpF_block, ↓wpF_loop, ↓wpF_exit, ↓wpF_ret, ↓opsW_nil, ↓opsW_cons, ↓dopsW_nil, ↓dopsW_cons, wantedF, evArgsF, evOpdF, Aev.step, pureS, readS, sMv, sPick, sBin, sUn, sCvi, sEx, sFa, sBuild, fillV, putAt, kCells, List.drop_succ_cons, List.drop_zero, List.drop_nil, List.cons_append, List.nil_append, List.length_cons, List.length_nil, Nat.reduceAdd, Nat.reduceLeDiff, Nat.reduceBEq, Nat.beq_refl, ble_self, eq_self, Bool.true_and, Bool.and_true, List.all_cons, List.all_nil, isShift, intBin, intShift, iAnd, iXor, iOr, iAdd, iSub, iMul, eqK_self, upO, up_eq, reduceIte, Nat.reduceEqDiff, cond_true, cond_false, lt_blt, initF0, initF1, initF2, initF3, isE, isL, OpK.kd, checkPend, addPendF, List.getElem?_cons_zero, List.getElem?_cons_succ, Bool.not_true, Bool.not_false, Bool.false_eq_true, Bool.true_eq_false, false_implies, true_implies, gtt, gtf, gft, gff, kLits, e1, sLd, pC, p63, p64, p65, p11]
        refine ⟨_, _, hc6, ?_⟩
        simp only [↓wpF_skip, ↓wpF_reg, ↓wpF_dreg, ↓wpF_seq, ↓wpF_cond, ↓wpF_block, ↓wpF_loop, ↓wpF_exit, ↓wpF_ret, ↓opsW_nil, ↓opsW_cons, ↓dopsW_nil, ↓dopsW_cons, wantedF, evArgsF, evOpdF, Aev.step, pureS, readS, sMv, sPick, sBin, sUn, sCvi, sEx, sFa, sBuild, fillV, putAt, kCells, List.drop_succ_cons, List.drop_zero, List.drop_nil, List.cons_append, List.nil_append, List.length_cons, List.length_nil, Nat.reduceAdd, Nat.reduceLeDiff, Nat.reduceBEq, Nat.beq_refl, ble_self, eq_self, Bool.true_and, Bool.and_true, List.all_cons, List.all_nil, isShift, intBin, intShift, iAnd, iXor, iOr, iAdd, iSub, iMul, eqK_self, upO, up_eq, reduceIte, Nat.reduceEqDiff, cond_true, cond_false, lt_blt, initF0, initF1, initF2, initF3, isE, isL, OpK.kd, checkPend, addPendF, List.getElem?_cons_zero, List.getElem?_cons_succ, Bool.not_true, Bool.not_false, Bool.false_eq_true, Bool.true_eq_false, false_implies, true_implies, gtt, gtf, gft, gff, kLits, sAlloc, sSt, storeAt, kOnes, hDD, p2, p10, p11, p63, p64, p65]
        generalize (h6.new (.cells [.int .u16 (.ofNat 0), .int .u32 (.ofNat 0)] false)).put h6.nx (.cells [.int .u16 i6, .int .u32 j6] false) = h7 at hD7 g7 pA7 pB7 pC7 gx ⊢
        simp only [↓wpF_skip, ↓wpF_reg, ↓wpF_dreg, ↓wpF_seq, ↓wpF_cond, ↓wpF_block, ↓wpF_loop, ↓wpF_exit, ↓wpF_ret, ↓opsW_nil, ↓opsW_cons, ↓dopsW_nil, ↓dopsW_cons, wantedF, evArgsF, evOpdF, Aev.step, pureS, readS, sMv, sPick, sBin, sUn, sCvi, sEx, sFa, sBuild, fillV, putAt, kCells, List.drop_succ_cons, List.drop_zero, List.drop_nil, List.cons_append, List.nil_append, List.length_cons, List.length_nil, Nat.reduceAdd, Nat.reduceLeDiff, Nat.reduceBEq, Nat.beq_refl, ble_self, eq_self, Bool.true_and, Bool.and_true, List.all_cons, List.all_nil, isShift, intBin, intShift, iAnd, iXor, iOr, iAdd, iSub, iMul, eqK_self, upO, up_eq, reduceIte, Nat.reduceEqDiff, cond_true, cond_false, lt_blt, initF0, initF1, initF2, initF3, isE, isL, OpK.kd, checkPend, addPendF, List.getElem?_cons_zero, List.getElem?_cons_succ, Bool.not_true, Bool.not_false, Bool.false_eq_true, Bool.true_eq_false, false_implies, true_implies, gtt, gtf, gft, gff, kLits, resVF, resAllF, resOneF, Option.some.injEq, Prod.mk.injEq, exists_eq_left', cellsAt, sLdA, sSt, storeAt, kOnes, List.take_succ_cons, List.take_zero, List.take_nil, sAlloc, sBox, sLd, true_and, and_true, pA7, pB7, pC7, hD7, put_self pA7, hv6, sNilc, p2, p10, p11, p63, p64, p65]
        refine sp (fun _ => ⟨((g1.trans g3).trans gx).put (Nat.le_refl _) pA7 |>.more (by omega), _, _, _, _, _, _, _, _, rfl, rfl, rfl⟩) (fun _ => ?_)
        have gy := gx.put (o := .cells [.int .i64 (wrapI .i64 (wrapI .u8 x1)), .int .u16 i6, .int .u32 j6, .int .u16 c, .int .u32 d, .int .u64 (.ofNat 0), .nils] false) (b := h3.nx) (Nat.le_refl _) pB7
        have gyB := put_self (o := .cells [.int .i64 (wrapI .i64 (wrapI .u8 x1)), .int .u16 i6, .int .u32 j6, .int .u16 c, .int .u32 d, .int .u64 (.ofNat 0), .nils] false) pB7
        have gyC : (h7.put h3.nx (.cells [.int .i64 (wrapI .i64 (wrapI .u8 x1)), .int .u16 i6, .int .u32 j6, .int .u16 c, .int .u32 d, .int .u64 (.ofNat 0), .nils] false)).get h4.nx = _ := (Hp.at_put (Hp.has_of_get pB7) _).trans ((if_neg (by omega)).trans pC7)
        refine ⟨2 - (0 + 1), by omega, 0 + 1, v6, l6.drop u6, _, _, _, _, rfl, by omega, ⟨gy.more (by omega), gyB, gyC, hb6, by rw [List.length_drop]; omega, rfl, ?_, ?_, ?_, ?_, ?_, ?_⟩⟩
        all_goals simp only [resVF, resAllF, resOneF, up_eq, reduceIte, Nat.reduceEqDiff, p2, p10, p11, p63, p64, p65]
        all_goals rfl
      · -- round 1
        have e1 : sIxS 1 [.sl h4.nx 0 2 (.ex 2) 1, .int .i64 (.ofNat 1)] = some (.ptr h4.nx 1) := rfl
        simp only [↓wpF_skip, ↓wpF_reg, ↓wpF_dreg, ↓wpF_seq, ↓wpF_cond, ↓wpF_block, ↓wpF_loop, ↓wpF_exit, ↓wpF_ret, ↓opsW_nil, ↓opsW_cons, ↓dopsW_nil, ↓dopsW_cons, wantedF, evArgsF, evOpdF, Aev.step, pureS, readS, sMv, sPick, sBin, sUn, sCvi, sEx, sFa, sBuild, fillV, putAt, kCells, List.drop_succ_cons, List.drop_zero, List.drop_nil, List.cons_append, List.nil_append, List.length_cons, List.length_nil, Nat.reduceAdd, Nat.reduceLeDiff, Nat.reduceBEq, Nat.beq_refl, ble_self, eq_self, Bool.true_and, Bool.and_true, List.all_cons, List.all_nil, isShift, intBin, intShift, iAnd, iXor, iOr, iAdd, iSub, iMul, eqK_self, upO, up_eq, reduceIte, Nat.reduceEqDiff, cond_true, cond_false, lt_blt, initF0, initF1, initF2, initF3, isE, isL, OpK.kd, checkPend, addPendF, List.getElem?_cons_zero, List.getElem?_cons_succ, Bool.not_true, Bool.not_false, Bool.false_eq_true, Bool.true_eq_false, false_implies, true_implies, gtt, gtf, gft, gff, kLits, e1, sLd, pC, p63, p64, p65, p11]
        refine ⟨_, _, hc6, ?_⟩
        simp only [↓wpF_skip, ↓wpF_reg, ↓wpF_dreg, ↓wpF_seq, ↓wpF_cond, ↓wpF_block, ↓wpF_loop, ↓wpF_exit, ↓wpF_ret, ↓opsW_nil, ↓opsW_cons, ↓dopsW_nil, ↓dopsW_cons, wantedF, evArgsF, evOpdF, Aev.step, pureS, readS, sMv, sPick, sBin, sUn, sCvi, sEx, sFa, sBuild, fillV, putAt, kCells, List.drop_succ_cons, List.drop_zero, List.drop_nil, List.cons_append, List.nil_append, List.length_cons, List.length_nil, Nat.reduceAdd, Nat.reduceLeDiff, Nat.reduceBEq, Nat.beq_refl, ble_self, eq_self, Bool.true_and, Bool.and_true, List.all_cons, List.all_nil, isShift, intBin, intShift, iAnd, iXor, iOr, iAdd, iSub, iMul, eqK_self, upO, up_eq, reduceIte, Nat.reduceEqDiff, cond_true, cond_false, lt_blt, initF0, initF1, initF2, initF3, isE, isL, OpK.kd, checkPend, addPendF, List.getElem?_cons_zero, List.getElem?_cons_succ, Bool.not_true, Bool.not_false, Bool.false_eq_true, Bool.true_eq_false, false_implies, true_implies, gtt, gtf, gft, gff, kLits, sAlloc, sSt, storeAt, kOnes, hDD, p2, p10, p11, p63, p64, p65]
        generalize (h6.new (.cells [.int .u16 (.ofNat 0), .int .u32 (.ofNat 0)] false)).put h6.nx (.cells [.int .u16 i6, .int .u32 j6] false) = h7 at hD7 g7 pA7 pB7 pC7 gx ⊢
        simp only [↓wpF_skip, ↓wpF_reg, ↓wpF_dreg, ↓wpF_seq, ↓wpF_cond, ↓wpF_block, ↓wpF_loop, ↓wpF_exit, ↓wpF_ret, ↓opsW_nil, ↓opsW_cons, ↓dopsW_nil, ↓dopsW_cons, wantedF, evArgsF, evOpdF, Aev.step, pureS, readS, sMv, sPick, sBin, sUn, sCvi, sEx, sFa, sBuild, fillV, putAt, kCells, List.drop_succ_cons, List.drop_zero, List.drop_nil, List.cons_append, List.nil_append, List.length_cons, List.length_nil, Nat.reduceAdd, Nat.reduceLeDiff, Nat.reduceBEq, Nat.beq_refl, ble_self, eq_self, Bool.true_and, Bool.and_true, List.all_cons, List.all_nil, isShift, intBin, intShift, iAnd, iXor, iOr, iAdd, iSub, iMul, eqK_self, upO, up_eq, reduceIte, Nat.reduceEqDiff, cond_true, cond_false, lt_blt, initF0, initF1, initF2, initF3, isE, isL, OpK.kd, checkPend, addPendF, List.getElem?_cons_zero, List.getElem?_cons_succ, Bool.not_true, Bool.not_false, Bool.false_eq_true, Bool.true_eq_false, false_implies, true_implies, gtt, gtf, gft, gff, kLits, resVF, resAllF, resOneF, Option.some.injEq, Prod.mk.injEq, exists_eq_left', cellsAt, sLdA, sSt, storeAt, kOnes, List.take_succ_cons, List.take_zero, List.take_nil, sAlloc, sBox, sLd, true_and, and_true, pA7, pB7, pC7, hD7, put_self pA7, hv6, sNilc, p2, p10, p11, p63, p64, p65]
        refine sp (fun _ => ⟨((g1.trans g3).trans gx).put (Nat.le_refl _) pA7 |>.more (by omega), _, _, _, _, _, _, _, _, rfl, rfl, rfl⟩) (fun _ => ?_)
        have gy := gx.put (o := .cells [.int .i64 (wrapI .i64 (wrapI .u8 x1)), .int .u16 a, .int .u32 b, .int .u16 i6, .int .u32 j6, .int .u64 (.ofNat 0), .nils] false) (b := h3.nx) (Nat.le_refl _) pB7
        have gyB := put_self (o := .cells [.int .i64 (wrapI .i64 (wrapI .u8 x1)), .int .u16 a, .int .u32 b, .int .u16 i6, .int .u32 j6, .int .u64 (.ofNat 0), .nils] false) pB7
        have gyC : (h7.put h3.nx (.cells [.int .i64 (wrapI .i64 (wrapI .u8 x1)), .int .u16 a, .int .u32 b, .int .u16 i6, .int .u32 j6, .int .u64 (.ofNat 0), .nils] false)).get h4.nx = _ := (Hp.at_put (Hp.has_of_get pB7) _).trans ((if_neg (by omega)).trans pC7)
        refine ⟨2 - (1 + 1), by omega, 1 + 1, v6, l6.drop u6, _, _, _, _, rfl, by omega, ⟨gy.more (by omega), gyB, gyC, hb6, by rw [List.length_drop]; omega, rfl, ?_, ?_, ?_, ?_, ?_, ?_⟩⟩
        all_goals simp only [resVF, resAllF, resOneF, up_eq, reduceIte, Nat.reduceEqDiff, p2, p10, p11, p63, p64, p65]
        all_goals rfl
    · subst q9
      obtain ⟨r8, h8, hc8, e8, x8, u8, y8, rfl, hu8⟩ := getShort_ok hE (pW.grow pg) (by omega)
      subst e8
      obtain ⟨v9, hv9, hb9⟩ := pW.drop (k := .i64) hu8
      obtain ⟨r9, h9, hc9, g9, hbr9⟩ := clone_ok hE (hhf.le (by omega)) (hb9.grow pg) (by rw [List.length_drop]; omega)
      have hh9 : HW h9 18 := g9.hw (k := 18) (hhf.le (by omega))
      have ltB := hhf.lt pB
      have pA9 := (g9.le h.nx (by omega)).trans pA
      have pB9 := (g9.le h3.nx (by omega)).trans pB
      have gx := pg.trans g9
      simp only [↓wpF_skip, ↓wpF_reg, ↓wpF_dreg, ↓wpF_seq, ↓wpF_cond, ↓wpF_block, ↓wpF_loop, ↓wpF_exit, ↓wpF_ret, ↓opsW_nil, ↓opsW_cons, ↓dopsW_nil, ↓dopsW_cons, wantedF, evArgsF, evOpdF, Aev.step, pureS, readS, sMv, sPick, sBin, sUn, sCvi, sEx, sFa, sBuild, fillV, putAt, kCells, List.drop_succ_cons, List.drop_zero, List.drop_nil, List.cons_append, List.nil_append, List.length_cons, List.length_nil, Nat.reduceAdd, Nat.reduceLeDiff, Nat.reduceBEq, Nat.beq_refl, ble_self, eq_self, Bool.true_and, Bool.and_true, List.all_cons, List.all_nil, isShift, intBin, intShift, iAnd, iXor, iOr, iAdd, iSub, iMul, eqK_self, upO, up_eq, reduceIte, Nat.reduceEqDiff, cond_true, cond_false, lt_blt, initF0, initF1, initF2, initF3, isE, isL, OpK.kd, checkPend, addPendF, List.getElem?_cons_zero, List.getElem?_cons_succ, Bool.not_true, Bool.not_false, Bool.false_eq_true, Bool.true_eq_false, false_implies, true_implies, gtt, gtf, gft, gff, kLits, p64, p65]
      simp only [↓wpF_skip, ↓wpF_reg, ↓wpF_dreg, ↓wpF_seq, ↓wpF_cond, ↓wpF_block, ↓wpF_loop, ↓wpF_exit, ↓wpF_ret, ↓opsW_nil, ↓opsW_cons, ↓dopsW_nil, ↓dopsW_cons, wantedF, evArgsF, evOpdF, Aev.step, pureS, readS, sMv, sPick, sBin, sUn, sCvi, sEx, sFa, sBuild, fillV, putAt, kCells, List.drop_succ_cons, List.drop_zero, List.drop_nil, List.cons_append, List.nil_append, List.length_cons, List.length_nil, Nat.reduceAdd, Nat.reduceLeDiff, Nat.reduceBEq, Nat.beq_refl, ble_self, eq_self, Bool.true_and, Bool.and_true, List.all_cons, List.all_nil, isShift, intBin, intShift, iAnd, iXor, iOr, iAdd, iSub, iMul, eqK_self, upO, up_eq, reduceIte, Nat.reduceEqDiff, cond_true, cond_false, lt_blt, initF0, initF1, initF2, initF3, isE, isL, OpK.kd, checkPend, addPendF, List.getElem?_cons_zero, List.getElem?_cons_succ, Bool.not_true, Bool.not_false, Bool.false_eq_true, Bool.true_eq_false, false_implies, true_implies, gtt, gtf, gft, gff, kLits, p2, p10, p11]
      refine ⟨_, _, hc8, ?_⟩
      simp only [↓wpF_skip, ↓wpF_reg, ↓wpF_dreg, ↓wpF_seq, ↓wpF_cond, ↓wpF_block, ↓wpF_loop, ↓wpF_exit, ↓wpF_ret, ↓opsW_nil, ↓opsW_cons, ↓dopsW_nil, ↓dopsW_cons, wantedF, evArgsF, evOpdF, Aev.step, pureS, readS, sMv, sPick, sBin, sUn, sCvi, sEx, sFa, sBuild, fillV, putAt, kCells, List.drop_succ_cons, List.drop_zero, List.drop_nil, List.cons_append, List.nil_append, List.length_cons, List.length_nil, Nat.reduceAdd, Nat.reduceLeDiff, Nat.reduceBEq, Nat.beq_refl, ble_self, eq_self, Bool.true_and, Bool.and_true, List.all_cons, List.all_nil, isShift, intBin, intShift, iAnd, iXor, iOr, iAdd, iSub, iMul, eqK_self, upO, up_eq, reduceIte, Nat.reduceEqDiff, cond_true, cond_false, lt_blt, initF0, initF1, initF2, initF3, isE, isL, OpK.kd, checkPend, addPendF, List.getElem?_cons_zero, List.getElem?_cons_succ, Bool.not_true, Bool.not_false, Bool.false_eq_true, Bool.true_eq_false, false_implies, true_implies, gtt, gtf, gft, gff, kLits, resVF, resAllF, resOneF, Option.some.injEq, Prod.mk.injEq, exists_eq_left', cellsAt, sLdA, sSt, storeAt, kOnes, List.take_succ_cons, List.take_zero, List.take_nil, sAlloc, sBox, sLd, true_and, and_true, pA, put_self pA, hv9, p2, p10, p11]
      refine sp (fun _ => ⟨((g1.trans g3).trans pg).put (Nat.le_refl _) pA |>.more (by omega), _, _, _, _, _, _, _, _, rfl, rfl, rfl⟩) (fun _ => ?_)
      refine ⟨_, _, hc9, ?_⟩
      have c9 := hbr9.cells
      have o9 := hbr9.one
      have k1 := put_self (o := .cells [.int .i64 (wrapI .i64 (wrapI .u8 x1)), .int .u16 a, .int .u32 b, .int .u16 c, .int .u32 d, .int .u64 x8, .nils] false) pB9
      have k2 := put_self (o := .cells [.int .i64 (wrapI .i64 (wrapI .u8 x1)), .int .u16 a, .int .u32 b, .int .u16 c, .int .u32 d, .int .u64 x8, r9] false) k1
      have gz := (gx.put (Nat.le_refl _) pB9).put (Nat.le_refl _) k1 (o := .cells [.int .i64 (wrapI .i64 (wrapI .u8 x1)), .int .u16 a, .int .u32 b, .int .u16 c, .int .u32 d, .int .u64 x8, r9] false)
      simp only [↓wpF_skip, ↓wpF_reg, ↓wpF_dreg, ↓wpF_seq, ↓wpF_cond, ↓wpF_block, ↓wpF_loop, ↓wpF_exit, ↓wpF_ret, ↓opsW_nil, ↓opsW_cons, ↓dopsW_nil, ↓dopsW_cons, wantedF, evArgsF, evOpdF, Aev.step, pureS, readS, sMv, sPick, sBin, sUn, sCvi, sEx, sFa, sBuild, fillV, putAt, kCells, List.drop_succ_cons, List.drop_zero, List.drop_nil, List.cons_append, List.nil_append, List.length_cons, List.length_nil, Nat.reduceAdd, Nat.reduceLeDiff, Nat.reduceBEq, Nat.beq_refl, ble_self, eq_self, Bool.true_and, Bool.and_true, List.all_cons, List.all_nil, isShift, intBin, intShift, iAnd, iXor, iOr, iAdd, iSub, iMul, eqK_self, upO, up_eq, reduceIte, Nat.reduceEqDiff, cond_true, cond_false, lt_blt, initF0, initF1, initF2, initF3, isE, isL, OpK.kd, checkPend, addPendF, List.getElem?_cons_zero, List.getElem?_cons_succ, Bool.not_true, Bool.not_false, Bool.false_eq_true, Bool.true_eq_false, false_implies, true_implies, gtt, gtf, gft, gff, kLits, sSt, storeAt, kOnes, pB9, k1, k2, c9, o9, sLdA, cellsAt, List.take_succ_cons, List.take_zero]
      have hAz : ((h9.put h3.nx (.cells [.int .i64 (wrapI .i64 (wrapI .u8 x1)), .int .u16 a, .int .u32 b, .int .u16 c, .int .u32 d, .int .u64 x8, .nils] false)).put h3.nx (.cells [.int .i64 (wrapI .i64 (wrapI .u8 x1)), .int .u16 a, .int .u32 b, .int .u16 c, .int .u32 d, .int .u64 x8, r9] false)).get h.nx = _ := (gz.le h.nx hltA).trans hA3
      generalize (h9.put h3.nx (.cells [.int .i64 (wrapI .i64 (wrapI .u8 x1)), .int .u16 a, .int .u32 b, .int .u16 c, .int .u32 d, .int .u64 x8, .nils] false)).put h3.nx (.cells [.int .i64 (wrapI .i64 (wrapI .u8 x1)), .int .u16 a, .int .u32 b, .int .u16 c, .int .u32 d, .int .u64 x8, r9] false) = hz at k2 gz hAz ⊢
      obtain ⟨r10, h10, hc10, g10, e10, rfl⟩ := check_ok hE (h := hz) ((gz.hw (k := 3) (hh3.le (by omega)))) (wrapI .i64 (wrapI .u8 x1)) a b c d x8 hbr9.len_any
      have pA10 := (g10.le h.nx (by have := gz.nx; omega)).trans hAz
      have pB10 := (g10.le h3.nx (by have := gz.nx; have := (gz.hw (k := 3) (hh3.le (by omega))).lt k2; omega)).trans k2
      refine ⟨_, _, hc10, ?_⟩
      simp only [↓wpF_skip, ↓wpF_reg, ↓wpF_dreg, ↓wpF_seq, ↓wpF_cond, ↓wpF_block, ↓wpF_loop, ↓wpF_exit, ↓wpF_ret, ↓opsW_nil, ↓opsW_cons, ↓dopsW_nil, ↓dopsW_cons, wantedF, evArgsF, evOpdF, Aev.step, pureS, readS, sMv, sPick, sBin, sUn, sCvi, sEx, sFa, sBuild, fillV, putAt, kCells, List.drop_succ_cons, List.drop_zero, List.drop_nil, List.cons_append, List.nil_append, List.length_cons, List.length_nil, Nat.reduceAdd, Nat.reduceLeDiff, Nat.reduceBEq, Nat.beq_refl, ble_self, eq_self, Bool.true_and, Bool.and_true, List.all_cons, List.all_nil, isShift, intBin, intShift, iAnd, iXor, iOr, iAdd, iSub, iMul, eqK_self, upO, up_eq, reduceIte, Nat.reduceEqDiff, cond_true, cond_false, lt_blt, initF0, initF1, initF2, initF3, isE, isL, OpK.kd, checkPend, addPendF, List.getElem?_cons_zero, List.getElem?_cons_succ, Bool.not_true, Bool.not_false, Bool.false_eq_true, Bool.true_eq_false, false_implies, true_implies, gtt, gtf, gft, gff, kLits, resVF, resAllF, resOneF, Option.some.injEq, Prod.mk.injEq, exists_eq_left', cellsAt, sLdA, sSt, storeAt, kOnes, List.take_succ_cons, List.take_zero, List.take_nil, sAlloc, sBox, sLd, true_and, and_true, pA10, pB10, put_self pA10, c9, o9]
      refine sp (fun _ => ⟨(((g1.trans g3).trans gz).trans g10).put (Nat.le_refl _) pA10 |>.more (by omega), _, _, _, _, _, _, _, _, rfl, rfl, rfl⟩) (fun _ => ?_)
      exact ⟨(((g1.trans g3).trans gz).trans g10).put (Nat.le_refl _) pA10 |>.more (by omega), _, _, _, _, _, _, _, _, rfl, o9, c9⟩
  all_goals simp only [resVF, resAllF, resOneF, up_eq, reduceIte, Nat.reduceEqDiff]
end Go.Proofs.YtbnabgaepphlnaaGreat.T
