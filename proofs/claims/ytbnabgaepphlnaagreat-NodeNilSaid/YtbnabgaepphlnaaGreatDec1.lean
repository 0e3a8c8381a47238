/- frame.Decode answers, whatever bytes come. -/
import Derived.Test.YtbnabgaepphlnaaGreatAevGrow
import Derived.Test.YtbnabgaepphlnaaGreatAevT0
import Derived.Test.YtbnabgaepphlnaaGreatAevT1
set_option maxRecDepth 100000
set_option linter.unusedSimpArgs false
set_option linter.unusedVariables false
namespace Go.Proofs.YtbnabgaepphlnaaGreat.T
open Go Go.Aev
variable {E : Env}

/-- The functions that these proofs reach are those of the table. -/
structure Std (E : Env) : Prop where
  all : ∀ f, f ≠ 7 → f ≠ 299 → f ≠ 111 → E.nat f = none
  t57 : E.tbl 57 = some a57
  t87 : E.tbl 87 = some a87
  t115 : E.tbl 115 = some a115
  t120 : E.tbl 120 = some a120
  t121 : E.tbl 121 = some a121
  t122 : E.tbl 122 = some a122
  t123 : E.tbl 123 = some a123
  t159 : E.tbl 159 = some a159
  t216 : E.tbl 216 = some a216
  t217 : E.tbl 217 = some a217
  t301 : E.tbl 301 = some a301
  t302 : E.tbl 302 = some a302
  t303 : E.tbl 303 = some a303

theorem Std.n (hE : Std E) (f : Nat) (h : (Nat.beq f 7 || Nat.beq f 299 || Nat.beq f 111) = false) : E.nat f = none := by
  simp only [Bool.or_eq_false_iff] at h
  exact hE.all f (Nat.ne_of_beq_eq_false h.1.1) (Nat.ne_of_beq_eq_false h.1.2) (Nat.ne_of_beq_eq_false h.2)

/-- an unsigned number behind a wrap. -/
def wU (k : IntKind) (z : Int) : Nat := (wrapI k z).toNat
theorem wrap_u64 (z : Int) : wrapI .u64 z = .ofNat (wU .u64 z) := by
  have : 0 ≤ wrapI .u64 z := by
    unfold wrapI
    split
    · cases fitsN .u64 _ <;> simp only [cond_true, cond_false]
      · simp [IntKind.wrap, IntKind.bits, IntKind.signed]; omega
      · exact Int.natCast_nonneg _
    · simp [IntKind.wrap, IntKind.bits, IntKind.signed]; omega
  exact (Int.toNat_of_nonneg this).symm

theorem wide_ok (hE : Std E) (h : Hp) : Cl E 216 [.int .i64 (.ofNat 4)] h (.bool true) h := by
  obtain ⟨v, h', h1, h2⟩ : ∃ v h', Cl E 216 [.int .i64 (.ofNat 4)] h v h' ∧ (v = .bool true ∧ h' = h) := by
    refine Cl.of_wp (nt := 9) (hE.n 216 rfl) hE.t216 rfl rfl rfl ?_
    simp [a216, ↓wpF_skip, ↓wpF_reg, ↓wpF_dreg, ↓wpF_seq, ↓wpF_cond, ↓wpF_block, ↓wpF_loop, ↓wpF_exit, ↓wpF_ret, ↓opsW_nil, ↓opsW_cons, ↓dopsW_nil, ↓dopsW_cons, wantedF, evArgsF, evOpdF, Aev.step, pureS, readS, sMv, sPick, sBin, sUn, sCvi, sEx, sFa, sBuild, fillV, putAt, kCells, List.drop_succ_cons, List.drop_zero, List.drop_nil, List.cons_append, List.nil_append, List.length_cons, List.length_nil, Nat.reduceAdd, Nat.reduceLeDiff, Nat.reduceBEq, Nat.beq_refl, ble_self, eq_self, Bool.true_and, Bool.and_true, List.all_cons, List.all_nil, isShift, intBin, intShift, iAnd, iXor, iOr, iAdd, iSub, iMul, eqK_self, upO, up_eq, reduceIte, Nat.reduceEqDiff, cond_true, cond_false, lt_blt, initF0, initF1, initF2, initF3, isE, isL, OpK.kd, checkPend, addPendF, List.getElem?_cons_zero, List.getElem?_cons_succ, Bool.not_true, Bool.not_false, Bool.false_eq_true, Bool.true_eq_false, false_implies, true_implies, gtt, gtf, gft, gff, kLits, resVF, resAllF, resOneF, up_eq, reduceIte, Nat.reduceEqDiff, eqI]
  obtain ⟨rfl, rfl⟩ := h2
  exact h1

theorem get_ok (hE : Std E) {h : Hp} {v : V} {bs : List UInt8} (hb : Bytes h v bs) (h4 : 4 ≤ bs.length) :
    ∃ r h', Cl E 120 [v, .int .i64 (.ofNat 4)] h r h' ∧ (h' = h ∧ ∃ x e, r = .tup [.int .u64 x, .int .i64 e]) := by
  refine Cl.of_wp (nt := 33) (hE.n 120 rfl) hE.t120 rfl rfl rfl ?_
  have h40 : Nat.blt bs.length 4 = false := by
    cases hx : Nat.blt bs.length 4
    · rfl
    · have := blt_true hx; omega
  obtain ⟨v2, hv2, hb2⟩ := hb.take (k := .i64) h4
  have hl2 := hb2.len
  have e2 : (bs.take 4).length = 4 := by simp [h4]
  rw [e2] at hl2
  simp only [a120, ↓wpF_skip, ↓wpF_reg, ↓wpF_dreg, ↓wpF_seq, ↓wpF_cond, ↓wpF_block, ↓wpF_loop, ↓wpF_exit, ↓wpF_ret, ↓opsW_nil, ↓opsW_cons, ↓dopsW_nil, ↓dopsW_cons, wantedF, evArgsF, evOpdF, Aev.step, pureS, readS, sMv, sPick, sBin, sUn, sCvi, sEx, sFa, sBuild, fillV, putAt, kCells, List.drop_succ_cons, List.drop_zero, List.drop_nil, List.cons_append, List.nil_append, List.length_cons, List.length_nil, Nat.reduceAdd, Nat.reduceLeDiff, Nat.reduceBEq, Nat.beq_refl, ble_self, eq_self, Bool.true_and, Bool.and_true, List.all_cons, List.all_nil, isShift, intBin, intShift, iAnd, iXor, iOr, iAdd, iSub, iMul, eqK_self, upO, up_eq, reduceIte, Nat.reduceEqDiff, cond_true, cond_false, lt_blt, initF0, initF1, initF2, initF3, isE, isL, OpK.kd, checkPend, addPendF, List.getElem?_cons_zero, List.getElem?_cons_succ, Bool.not_true, Bool.not_false, Bool.false_eq_true, Bool.true_eq_false, false_implies, true_implies, gtt, gtf, gft, gff, kLits]
  refine ⟨.bool true, h, wide_ok hE h, ?_⟩
  simp only [↓wpF_skip, ↓wpF_reg, ↓wpF_dreg, ↓wpF_seq, ↓wpF_cond, ↓wpF_block, ↓wpF_loop, ↓wpF_exit, ↓wpF_ret, ↓opsW_nil, ↓opsW_cons, ↓dopsW_nil, ↓dopsW_cons, wantedF, evArgsF, evOpdF, Aev.step, pureS, readS, sMv, sPick, sBin, sUn, sCvi, sEx, sFa, sBuild, fillV, putAt, kCells, List.drop_succ_cons, List.drop_zero, List.drop_nil, List.cons_append, List.nil_append, List.length_cons, List.length_nil, Nat.reduceAdd, Nat.reduceLeDiff, Nat.reduceBEq, Nat.beq_refl, ble_self, eq_self, Bool.true_and, Bool.and_true, List.all_cons, List.all_nil, isShift, intBin, intShift, iAnd, iXor, iOr, iAdd, iSub, iMul, eqK_self, upO, up_eq, reduceIte, Nat.reduceEqDiff, cond_true, cond_false, lt_blt, initF0, initF1, initF2, initF3, isE, isL, OpK.kd, checkPend, addPendF, List.getElem?_cons_zero, List.getElem?_cons_succ, Bool.not_true, Bool.not_false, Bool.false_eq_true, Bool.true_eq_false, false_implies, true_implies, gtt, gtf, gft, gff, kLits, hb.len, gi, h40, hv2, hl2]
  refine loop_rule (fun k f => ∃ i x, k = 4 - i ∧ i ≤ 4 ∧ f.h = h ∧ f.ds = [] ∧ f.fr 20 = v2 ∧ f.fr 21 = .int .i64 (.ofNat 4) ∧ f.fr 22 = .int .i64 (.ofNat i) ∧ f.fr 6 = .int .u64 x) rfl ?_ 4 _ ⟨0, _, rfl, Nat.zero_le _, rfl, rfl, by simp only [resVF, resAllF, resOneF, up_eq, reduceIte, Nat.reduceEqDiff], by simp only [resVF, resAllF, resOneF, up_eq, reduceIte, Nat.reduceEqDiff], by simp only [resVF, resAllF, resOneF, up_eq, reduceIte, Nat.reduceEqDiff] <;> rfl, by simp only [resVF, resAllF, resOneF, up_eq, reduceIte, Nat.reduceEqDiff] <;> rfl⟩
  rintro k ⟨fr, h', ds⟩ ⟨i, x, hk, hi4, rfl, rfl, g20, g21, g22, g6⟩
  simp only at g20 g21 g22 g6
  simp only [↓wpF_skip, ↓wpF_reg, ↓wpF_dreg, ↓wpF_seq, ↓wpF_cond, ↓wpF_block, ↓wpF_loop, ↓wpF_exit, ↓wpF_ret, ↓opsW_nil, ↓opsW_cons, ↓dopsW_nil, ↓dopsW_cons, wantedF, evArgsF, evOpdF, Aev.step, pureS, readS, sMv, sPick, sBin, sUn, sCvi, sEx, sFa, sBuild, fillV, putAt, kCells, List.drop_succ_cons, List.drop_zero, List.drop_nil, List.cons_append, List.nil_append, List.length_cons, List.length_nil, Nat.reduceAdd, Nat.reduceLeDiff, Nat.reduceBEq, Nat.beq_refl, ble_self, eq_self, Bool.true_and, Bool.and_true, List.all_cons, List.all_nil, isShift, intBin, intShift, iAnd, iXor, iOr, iAdd, iSub, iMul, eqK_self, upO, up_eq, reduceIte, Nat.reduceEqDiff, cond_true, cond_false, lt_blt, initF0, initF1, initF2, initF3, isE, isL, OpK.kd, checkPend, addPendF, List.getElem?_cons_zero, List.getElem?_cons_succ, Bool.not_true, Bool.not_false, Bool.false_eq_true, Bool.true_eq_false, false_implies, true_implies, gtt, gtf, gft, gff, kLits, g20, g21, g22, g6]
  refine sp (fun hlt => ?_) (fun hlt => ?_)
  · have hi : i < 4 := blt_true hlt
    obtain ⟨p, hp1, hp2⟩ := hb2.at (i := i) (by rw [e2]; exact hi)
    simp only [hp1, hp2, ↓wpF_skip, ↓wpF_reg, ↓wpF_dreg, ↓wpF_seq, ↓wpF_cond, ↓wpF_block, ↓wpF_loop, ↓wpF_exit, ↓wpF_ret, ↓opsW_nil, ↓opsW_cons, ↓dopsW_nil, ↓dopsW_cons, wantedF, evArgsF, evOpdF, Aev.step, pureS, readS, sMv, sPick, sBin, sUn, sCvi, sEx, sFa, sBuild, fillV, putAt, kCells, List.drop_succ_cons, List.drop_zero, List.drop_nil, List.cons_append, List.nil_append, List.length_cons, List.length_nil, Nat.reduceAdd, Nat.reduceLeDiff, Nat.reduceBEq, Nat.beq_refl, ble_self, eq_self, Bool.true_and, Bool.and_true, List.all_cons, List.all_nil, isShift, intBin, intShift, iAnd, iXor, iOr, iAdd, iSub, iMul, eqK_self, upO, up_eq, reduceIte, Nat.reduceEqDiff, cond_true, cond_false, lt_blt, initF0, initF1, initF2, initF3, isE, isL, OpK.kd, checkPend, addPendF, List.getElem?_cons_zero, List.getElem?_cons_succ, Bool.not_true, Bool.not_false, Bool.false_eq_true, Bool.true_eq_false, false_implies, true_implies, gtt, gtf, gft, gff, kLits, g20, g21, g22, g6]
    refine ⟨4 - (i + 1), by omega, i + 1, _, rfl, by omega, trivial, trivial, trivial, trivial, ?_, rfl⟩
    rw [wrap_succ (by omega)]
  · exact ⟨trivial, trivial, _, rfl, trivial, _, _, rfl⟩

theorem go_ok (hE : Std E) {h : Hp} {v : V} {bs : List UInt8} (hb : Bytes h v bs) (hnn : bs.length < 2 ^ 62) (s : Int) : ∃ r h', Cl E 302 [.int .u32 s, v] h r h' ∧ ((∃ k, r = .int .u32 k) ∧ h' = h) := by
  refine Cl.of_wp (nt := 29) (hE.n 302 rfl) hE.t302 rfl rfl rfl ?_
  have hl := hb.len
  simp only [a302, ↓wpF_skip, ↓wpF_reg, ↓wpF_dreg, ↓wpF_seq, ↓wpF_cond, ↓wpF_block, ↓wpF_loop, ↓wpF_exit, ↓wpF_ret, ↓opsW_nil, ↓opsW_cons, ↓dopsW_nil, ↓dopsW_cons, wantedF, evArgsF, evOpdF, Aev.step, pureS, readS, sMv, sPick, sBin, sUn, sCvi, sEx, sFa, sBuild, fillV, putAt, kCells, List.drop_succ_cons, List.drop_zero, List.drop_nil, List.cons_append, List.nil_append, List.length_cons, List.length_nil, Nat.reduceAdd, Nat.reduceLeDiff, Nat.reduceBEq, Nat.beq_refl, ble_self, eq_self, Bool.true_and, Bool.and_true, List.all_cons, List.all_nil, isShift, intBin, intShift, iAnd, iXor, iOr, iAdd, iSub, iMul, eqK_self, upO, up_eq, reduceIte, Nat.reduceEqDiff, cond_true, cond_false, lt_blt, initF0, initF1, initF2, initF3, isE, isL, OpK.kd, checkPend, addPendF, List.getElem?_cons_zero, List.getElem?_cons_succ, Bool.not_true, Bool.not_false, Bool.false_eq_true, Bool.true_eq_false, false_implies, true_implies, gtt, gtf, gft, gff, kLits, hl, gi]
  refine loop_rule (fun k f => ∃ i s, k = bs.length - i ∧ i ≤ bs.length ∧ f.h = h ∧ f.ds = [] ∧ f.fr 7 = v ∧ f.fr 8 = .int .i64 (.ofNat bs.length) ∧ f.fr 9 = .int .i64 (.ofNat i) ∧ f.fr 0 = .int .u32 s) rfl ?_ bs.length _ ⟨0, s, rfl, Nat.zero_le _, rfl, rfl, by simp only [resVF, resAllF, resOneF, up_eq, reduceIte, Nat.reduceEqDiff], by simp only [resVF, resAllF, resOneF, up_eq, reduceIte, Nat.reduceEqDiff], by simp only [resVF, resAllF, resOneF, up_eq, reduceIte, Nat.reduceEqDiff] <;> rfl, by simp only [resVF, resAllF, resOneF, up_eq, reduceIte, Nat.reduceEqDiff, initF0]⟩
  rintro k ⟨fr, h', ds⟩ ⟨i, s, hk, hin, rfl, rfl, h7, h8, h9, h0⟩
  simp only at h7 h8 h9 h0
  simp only [↓wpF_skip, ↓wpF_reg, ↓wpF_dreg, ↓wpF_seq, ↓wpF_cond, ↓wpF_block, ↓wpF_loop, ↓wpF_exit, ↓wpF_ret, ↓opsW_nil, ↓opsW_cons, ↓dopsW_nil, ↓dopsW_cons, wantedF, evArgsF, evOpdF, Aev.step, pureS, readS, sMv, sPick, sBin, sUn, sCvi, sEx, sFa, sBuild, fillV, putAt, kCells, List.drop_succ_cons, List.drop_zero, List.drop_nil, List.cons_append, List.nil_append, List.length_cons, List.length_nil, Nat.reduceAdd, Nat.reduceLeDiff, Nat.reduceBEq, Nat.beq_refl, ble_self, eq_self, Bool.true_and, Bool.and_true, List.all_cons, List.all_nil, isShift, intBin, intShift, iAnd, iXor, iOr, iAdd, iSub, iMul, eqK_self, upO, up_eq, reduceIte, Nat.reduceEqDiff, cond_true, cond_false, lt_blt, initF0, initF1, initF2, initF3, isE, isL, OpK.kd, checkPend, addPendF, List.getElem?_cons_zero, List.getElem?_cons_succ, Bool.not_true, Bool.not_false, Bool.false_eq_true, Bool.true_eq_false, false_implies, true_implies, gtt, gtf, gft, gff, kLits, h7, h8, h9, h0]
  refine sp (fun hlt => ?_) (fun hlt => ?_)
  · have hi : i < bs.length := blt_true hlt
    obtain ⟨p, hp1, hp2⟩ := hb.at hi
    simp only [hp1, hp2, ↓wpF_skip, ↓wpF_reg, ↓wpF_dreg, ↓wpF_seq, ↓wpF_cond, ↓wpF_block, ↓wpF_loop, ↓wpF_exit, ↓wpF_ret, ↓opsW_nil, ↓opsW_cons, ↓dopsW_nil, ↓dopsW_cons, wantedF, evArgsF, evOpdF, Aev.step, pureS, readS, sMv, sPick, sBin, sUn, sCvi, sEx, sFa, sBuild, fillV, putAt, kCells, List.drop_succ_cons, List.drop_zero, List.drop_nil, List.cons_append, List.nil_append, List.length_cons, List.length_nil, Nat.reduceAdd, Nat.reduceLeDiff, Nat.reduceBEq, Nat.beq_refl, ble_self, eq_self, Bool.true_and, Bool.and_true, List.all_cons, List.all_nil, isShift, intBin, intShift, iAnd, iXor, iOr, iAdd, iSub, iMul, eqK_self, upO, up_eq, reduceIte, Nat.reduceEqDiff, cond_true, cond_false, lt_blt, initF0, initF1, initF2, initF3, isE, isL, OpK.kd, checkPend, addPendF, List.getElem?_cons_zero, List.getElem?_cons_succ, Bool.not_true, Bool.not_false, Bool.false_eq_true, Bool.true_eq_false, false_implies, true_implies, gtt, gtf, gft, gff, kLits]
    refine loop_rule (fun k f => ∃ j s, k = 8 - j ∧ j ≤ 8 ∧ f.h = h' ∧ f.ds = [] ∧ f.fr 7 = v ∧ f.fr 8 = .int .i64 (.ofNat bs.length) ∧ f.fr 9 = .int .i64 (.ofNat i) ∧ f.fr 0 = .int .u32 s ∧ f.fr 17 = .int .i64 (.ofNat j)) rfl ?_ 8 _ ⟨0, _, rfl, Nat.zero_le _, rfl, rfl, by simp only [resVF, resAllF, resOneF, up_eq, reduceIte, Nat.reduceEqDiff, h7], by simp only [resVF, resAllF, resOneF, up_eq, reduceIte, Nat.reduceEqDiff, h8], by simp only [resVF, resAllF, resOneF, up_eq, reduceIte, Nat.reduceEqDiff, h9], by simp only [resVF, resAllF, resOneF, up_eq, reduceIte, Nat.reduceEqDiff] <;> rfl, by simp only [resVF, resAllF, resOneF, up_eq, reduceIte, Nat.reduceEqDiff] <;> rfl⟩
    rintro k2 ⟨fr2, h2, ds2⟩ ⟨j, s2, hk2, hj, rfl, rfl, g7, g8, g9, g0, g17⟩
    simp only at g7 g8 g9 g0 g17
    simp only [↓wpF_skip, ↓wpF_reg, ↓wpF_dreg, ↓wpF_seq, ↓wpF_cond, ↓wpF_block, ↓wpF_loop, ↓wpF_exit, ↓wpF_ret, ↓opsW_nil, ↓opsW_cons, ↓dopsW_nil, ↓dopsW_cons, wantedF, evArgsF, evOpdF, Aev.step, pureS, readS, sMv, sPick, sBin, sUn, sCvi, sEx, sFa, sBuild, fillV, putAt, kCells, List.drop_succ_cons, List.drop_zero, List.drop_nil, List.cons_append, List.nil_append, List.length_cons, List.length_nil, Nat.reduceAdd, Nat.reduceLeDiff, Nat.reduceBEq, Nat.beq_refl, ble_self, eq_self, Bool.true_and, Bool.and_true, List.all_cons, List.all_nil, isShift, intBin, intShift, iAnd, iXor, iOr, iAdd, iSub, iMul, eqK_self, upO, up_eq, reduceIte, Nat.reduceEqDiff, cond_true, cond_false, lt_blt, initF0, initF1, initF2, initF3, isE, isL, OpK.kd, checkPend, addPendF, List.getElem?_cons_zero, List.getElem?_cons_succ, Bool.not_true, Bool.not_false, Bool.false_eq_true, Bool.true_eq_false, false_implies, true_implies, gtt, gtf, gft, gff, kLits, g7, g8, g9, g0, g17]
    refine sp (fun hl => ?_) (fun hl => ?_)
    · have hj8 : j < 8 := blt_true hl
      exact ⟨8 - (j + 1), by omega, j + 1, _, rfl, by omega, trivial, trivial, trivial, trivial, trivial, rfl, by rw [wrap_succ (by omega)]⟩
    · exact ⟨bs.length - (i + 1), by omega, i + 1, _, rfl, by omega, trivial, trivial, trivial, trivial, by rw [wrap_succ (by omega)], rfl⟩
  · exact ⟨trivial, trivial, _, rfl, ⟨s, rfl⟩, trivial⟩

theorem clone_ok (hE : Std E) {h : Hp} {v : V} {bs : List UInt8} (hh : HW h 2) (hb : Bytes h v bs) (hn : bs.length ≤ 140737488355328) :
    ∃ r h', Cl E 87 [v] h r h' ∧ (Grow h h' 2 ∧ Bytes h' r bs) := by
  refine Cl.of_wp (nt := 8) (hE.n 87 rfl) hE.t87 rfl rfl rfl ?_
  have g1 : Grow h (h.new (.cells [] false)) 1 := (Grow.refl (j := 0) hh).new (m := 1) hh _
  have hb1 := (hb.grow g1).first
  rcases hb with ⟨rfl, rfl⟩ | ⟨b, o, c, rfl, hc, hk⟩
  · simp only [a87, ↓wpF_skip, ↓wpF_reg, ↓wpF_dreg, ↓wpF_seq, ↓wpF_cond, ↓wpF_block, ↓wpF_loop, ↓wpF_exit, ↓wpF_ret, ↓opsW_nil, ↓opsW_cons, ↓dopsW_nil, ↓dopsW_cons, wantedF, evArgsF, evOpdF, Aev.step, pureS, readS, sMv, sPick, sBin, sUn, sCvi, sEx, sFa, sBuild, fillV, putAt, kCells, List.drop_succ_cons, List.drop_zero, List.drop_nil, List.cons_append, List.nil_append, List.length_cons, List.length_nil, Nat.reduceAdd, Nat.reduceLeDiff, Nat.reduceBEq, Nat.beq_refl, ble_self, eq_self, Bool.true_and, Bool.and_true, List.all_cons, List.all_nil, isShift, intBin, intShift, iAnd, iXor, iOr, iAdd, iSub, iMul, eqK_self, upO, up_eq, reduceIte, Nat.reduceEqDiff, cond_true, cond_false, lt_blt, initF0, initF1, initF2, initF3, isE, isL, OpK.kd, checkPend, addPendF, List.getElem?_cons_zero, List.getElem?_cons_succ, Bool.not_true, Bool.not_false, Bool.false_eq_true, Bool.true_eq_false, false_implies, true_implies, gtt, gtf, gft, gff, kLits, sEq, eqv, eqSl]
    exact ⟨trivial, trivial, _, rfl, Grow.refl hh, .inl ⟨rfl, rfl⟩⟩
  · simp only [a87, ↓wpF_skip, ↓wpF_reg, ↓wpF_dreg, ↓wpF_seq, ↓wpF_cond, ↓wpF_block, ↓wpF_loop, ↓wpF_exit, ↓wpF_ret, ↓opsW_nil, ↓opsW_cons, ↓dopsW_nil, ↓dopsW_cons, wantedF, evArgsF, evOpdF, Aev.step, pureS, readS, sMv, sPick, sBin, sUn, sCvi, sEx, sFa, sBuild, fillV, putAt, kCells, List.drop_succ_cons, List.drop_zero, List.drop_nil, List.cons_append, List.nil_append, List.length_cons, List.length_nil, Nat.reduceAdd, Nat.reduceLeDiff, Nat.reduceBEq, Nat.beq_refl, ble_self, eq_self, Bool.true_and, Bool.and_true, List.all_cons, List.all_nil, isShift, intBin, intShift, iAnd, iXor, iOr, iAdd, iSub, iMul, eqK_self, upO, up_eq, reduceIte, Nat.reduceEqDiff, cond_true, cond_false, lt_blt, initF0, initF1, initF2, initF3, isE, isL, OpK.kd, checkPend, addPendF, List.getElem?_cons_zero, List.getElem?_cons_succ, Bool.not_true, Bool.not_false, Bool.false_eq_true, Bool.true_eq_false, false_implies, true_implies, gtt, gtf, gft, gff, kLits, sEq, eqv, eqSl]
    simp only [↓wpF_skip, ↓wpF_reg, ↓wpF_dreg, ↓wpF_seq, ↓wpF_cond, ↓wpF_block, ↓wpF_loop, ↓wpF_exit, ↓wpF_ret, ↓opsW_nil, ↓opsW_cons, ↓dopsW_nil, ↓dopsW_cons, wantedF, evArgsF, evOpdF, Aev.step, pureS, readS, sMv, sPick, sBin, sUn, sCvi, sEx, sFa, sBuild, fillV, putAt, kCells, List.drop_succ_cons, List.drop_zero, List.drop_nil, List.cons_append, List.nil_append, List.length_cons, List.length_nil, Nat.reduceAdd, Nat.reduceLeDiff, Nat.reduceBEq, Nat.beq_refl, ble_self, eq_self, Bool.true_and, Bool.and_true, List.all_cons, List.all_nil, isShift, intBin, intShift, iAnd, iXor, iOr, iAdd, iSub, iMul, eqK_self, upO, up_eq, reduceIte, Nat.reduceEqDiff, cond_true, cond_false, lt_blt, initF0, initF1, initF2, initF3, isE, isL, OpK.kd, checkPend, addPendF, List.getElem?_cons_zero, List.getElem?_cons_succ, Bool.not_true, Bool.not_false, Bool.false_eq_true, Bool.true_eq_false, false_implies, true_implies, gtt, gtf, gft, gff, kLits, sBsl, sApp, hb1]
    have e0 : Nat.beq 1 1 = true := rfl
    by_cases hbs : bs = []
    · subst hbs
      have e1 : Nat.beq ([] : List UInt8).length 0 = true := rfl
      simp only [↓wpF_skip, ↓wpF_reg, ↓wpF_dreg, ↓wpF_seq, ↓wpF_cond, ↓wpF_block, ↓wpF_loop, ↓wpF_exit, ↓wpF_ret, ↓opsW_nil, ↓opsW_cons, ↓dopsW_nil, ↓dopsW_cons, wantedF, evArgsF, evOpdF, Aev.step, pureS, readS, sMv, sPick, sBin, sUn, sCvi, sEx, sFa, sBuild, fillV, putAt, kCells, List.drop_succ_cons, List.drop_zero, List.drop_nil, List.cons_append, List.nil_append, List.length_cons, List.length_nil, Nat.reduceAdd, Nat.reduceLeDiff, Nat.reduceBEq, Nat.beq_refl, ble_self, eq_self, Bool.true_and, Bool.and_true, List.all_cons, List.all_nil, isShift, intBin, intShift, iAnd, iXor, iOr, iAdd, iSub, iMul, eqK_self, upO, up_eq, reduceIte, Nat.reduceEqDiff, cond_true, cond_false, lt_blt, initF0, initF1, initF2, initF3, isE, isL, OpK.kd, checkPend, addPendF, List.getElem?_cons_zero, List.getElem?_cons_succ, Bool.not_true, Bool.not_false, Bool.false_eq_true, Bool.true_eq_false, false_implies, true_implies, gtt, gtf, gft, gff, kLits, resVF, resAllF, resOneF, Option.some.injEq, Prod.mk.injEq, exists_eq_left', cellsAt, sLdA, sSt, storeAt, kOnes, List.take_succ_cons, List.take_zero, List.take_nil, sAlloc, sBox, sLd, true_and, and_true, e0, e1]
      exact ⟨g1.more (by omega), .inr ⟨_, _, _, rfl, Nat.zero_le _, fun e => absurd rfl e⟩⟩
    · have hpos : 0 < bs.length := List.length_pos_iff.2 hbs
      obtain ⟨n, hn'⟩ : ∃ n, bs.length = n := ⟨_, rfl⟩
      rw [hn'] at hpos hn
      have e1 : Nat.beq n 0 = false := by
        cases hx : Nat.beq n 0
        · rfl
        · have := Nat.eq_of_beq_eq_true hx; omega
      have e2 : Nat.ble n (Cap.ex 0).n = false := by
        cases hx : Nat.ble n (Cap.ex 0).n
        · rfl
        · have := Nat.le_of_ble_eq_true hx; simp only [Cap.n] at this; omega
      have e3 : (Nat.ble (n * 1) 140737488355328 && Nat.ble n 4611686018427387904) = true := by
        rw [Bool.and_eq_true]; exact ⟨Nat.ble_eq_true_of_le (by omega), Nat.ble_eq_true_of_le (by omega)⟩
      have e4 : Nat.beq 0 0 = true := rfl
      have g2 : Grow h ((h.new (.cells [] false)).new (.cells (bytesV bs) false)) 2 := g1.new (m := 0) hh _
      simp only [↓wpF_skip, ↓wpF_reg, ↓wpF_dreg, ↓wpF_seq, ↓wpF_cond, ↓wpF_block, ↓wpF_loop, ↓wpF_exit, ↓wpF_ret, ↓opsW_nil, ↓opsW_cons, ↓dopsW_nil, ↓dopsW_cons, wantedF, evArgsF, evOpdF, Aev.step, pureS, readS, sMv, sPick, sBin, sUn, sCvi, sEx, sFa, sBuild, fillV, putAt, kCells, List.drop_succ_cons, List.drop_zero, List.drop_nil, List.cons_append, List.nil_append, List.length_cons, List.length_nil, Nat.reduceAdd, Nat.reduceLeDiff, Nat.reduceBEq, Nat.beq_refl, ble_self, eq_self, Bool.true_and, Bool.and_true, List.all_cons, List.all_nil, isShift, intBin, intShift, iAnd, iXor, iOr, iAdd, iSub, iMul, eqK_self, upO, up_eq, reduceIte, Nat.reduceEqDiff, cond_true, cond_false, lt_blt, initF0, initF1, initF2, initF3, isE, isL, OpK.kd, checkPend, addPendF, List.getElem?_cons_zero, List.getElem?_cons_succ, Bool.not_true, Bool.not_false, Bool.false_eq_true, Bool.true_eq_false, false_implies, true_implies, gtt, gtf, gft, gff, kLits, resVF, resAllF, resOneF, Option.some.injEq, Prod.mk.injEq, exists_eq_left', cellsAt, sLdA, sSt, storeAt, kOnes, List.take_succ_cons, List.take_zero, List.take_nil, sAlloc, sBox, sLd, true_and, and_true, hn', e0, e1, e2, e3, e4, firstV, Cap.isEx, Nat.zero_add]
      refine ⟨g2, .inr ⟨_, _, _, by rw [hn'], by rw [hn']; exact Nat.le_refl _, fun _ => ⟨?_, ?_⟩⟩⟩
      · simp [Hp.new]
      · have hr := (g1.hw (k := 1) hh).has
        rw [cellsAt_eq (xs := bytesV bs) (ro := false) (by rw [Hp.at_new hr]; simp) (by simp [bytesV])]
        rw [List.drop_zero, List.take_of_length_le (by rw [bytesV_len]; exact Nat.le_refl _)]

theorem getShort_ok (hE : Std E) {h : Hp} {v : V} {bs : List UInt8} (hb : Bytes h v bs) (hnn : bs.length < 2 ^ 62) :
    ∃ r h', Cl E 123 [v] h r h' ∧ (h' = h ∧ ∃ x u e, r = .tup [.int .u64 x, .int .i64 (.ofNat u), .int .i64 e] ∧ u ≤ bs.length) := by
  refine Cl.of_wp (nt := 41) (hE.n 123 rfl) hE.t123 rfl rfl rfl ?_
  have hl := hb.len
  simp only [a123, ↓wpF_skip, ↓wpF_reg, ↓wpF_dreg, ↓wpF_seq, ↓wpF_cond, ↓wpF_block, ↓wpF_loop, ↓wpF_exit, ↓wpF_ret, ↓opsW_nil, ↓opsW_cons, ↓dopsW_nil, ↓dopsW_cons, wantedF, evArgsF, evOpdF, Aev.step, pureS, readS, sMv, sPick, sBin, sUn, sCvi, sEx, sFa, sBuild, fillV, putAt, kCells, List.drop_succ_cons, List.drop_zero, List.drop_nil, List.cons_append, List.nil_append, List.length_cons, List.length_nil, Nat.reduceAdd, Nat.reduceLeDiff, Nat.reduceBEq, Nat.beq_refl, ble_self, eq_self, Bool.true_and, Bool.and_true, List.all_cons, List.all_nil, isShift, intBin, intShift, iAnd, iXor, iOr, iAdd, iSub, iMul, eqK_self, upO, up_eq, reduceIte, Nat.reduceEqDiff, cond_true, cond_false, lt_blt, initF0, initF1, initF2, initF3, isE, isL, OpK.kd, checkPend, addPendF, List.getElem?_cons_zero, List.getElem?_cons_succ, Bool.not_true, Bool.not_false, Bool.false_eq_true, Bool.true_eq_false, false_implies, true_implies, gtt, gtf, gft, gff, kLits, hl, gi]
  refine loop_rule (fun k f => ∃ i x, k = bs.length - i ∧ i ≤ bs.length ∧ f.h = h ∧ f.ds = [] ∧ f.fr 7 = v ∧ f.fr 8 = .int .i64 (.ofNat bs.length) ∧ f.fr 9 = .int .i64 (.ofNat i) ∧ f.fr 2 = .int .u64 x) rfl ?_ bs.length _ ⟨0, _, rfl, Nat.zero_le _, rfl, rfl, by simp only [resVF, resAllF, resOneF, up_eq, reduceIte, Nat.reduceEqDiff], by simp only [resVF, resAllF, resOneF, up_eq, reduceIte, Nat.reduceEqDiff], by simp only [resVF, resAllF, resOneF, up_eq, reduceIte, Nat.reduceEqDiff] <;> rfl, by simp only [resVF, resAllF, resOneF, up_eq, reduceIte, Nat.reduceEqDiff] <;> rfl⟩
  rintro k ⟨fr, h', ds⟩ ⟨i, x, hk, hin, rfl, rfl, g7, g8, g9, g2⟩
  simp only at g7 g8 g9 g2
  simp only [↓wpF_skip, ↓wpF_reg, ↓wpF_dreg, ↓wpF_seq, ↓wpF_cond, ↓wpF_block, ↓wpF_loop, ↓wpF_exit, ↓wpF_ret, ↓opsW_nil, ↓opsW_cons, ↓dopsW_nil, ↓dopsW_cons, wantedF, evArgsF, evOpdF, Aev.step, pureS, readS, sMv, sPick, sBin, sUn, sCvi, sEx, sFa, sBuild, fillV, putAt, kCells, List.drop_succ_cons, List.drop_zero, List.drop_nil, List.cons_append, List.nil_append, List.length_cons, List.length_nil, Nat.reduceAdd, Nat.reduceLeDiff, Nat.reduceBEq, Nat.beq_refl, ble_self, eq_self, Bool.true_and, Bool.and_true, List.all_cons, List.all_nil, isShift, intBin, intShift, iAnd, iXor, iOr, iAdd, iSub, iMul, eqK_self, upO, up_eq, reduceIte, Nat.reduceEqDiff, cond_true, cond_false, lt_blt, initF0, initF1, initF2, initF3, isE, isL, OpK.kd, checkPend, addPendF, List.getElem?_cons_zero, List.getElem?_cons_succ, Bool.not_true, Bool.not_false, Bool.false_eq_true, Bool.true_eq_false, false_implies, true_implies, gtt, gtf, gft, gff, kLits, g7, g8, g9, g2]
  refine sp (fun hlt => ?_) (fun hlt => ?_)
  · have hi : i < bs.length := blt_true hlt
    obtain ⟨p, hp1, hp2⟩ := hb.at hi
    simp only [hp1, hp2, ↓wpF_skip, ↓wpF_reg, ↓wpF_dreg, ↓wpF_seq, ↓wpF_cond, ↓wpF_block, ↓wpF_loop, ↓wpF_exit, ↓wpF_ret, ↓opsW_nil, ↓opsW_cons, ↓dopsW_nil, ↓dopsW_cons, wantedF, evArgsF, evOpdF, Aev.step, pureS, readS, sMv, sPick, sBin, sUn, sCvi, sEx, sFa, sBuild, fillV, putAt, kCells, List.drop_succ_cons, List.drop_zero, List.drop_nil, List.cons_append, List.nil_append, List.length_cons, List.length_nil, Nat.reduceAdd, Nat.reduceLeDiff, Nat.reduceBEq, Nat.beq_refl, ble_self, eq_self, Bool.true_and, Bool.and_true, List.all_cons, List.all_nil, isShift, intBin, intShift, iAnd, iXor, iOr, iAdd, iSub, iMul, eqK_self, upO, up_eq, reduceIte, Nat.reduceEqDiff, cond_true, cond_false, lt_blt, initF0, initF1, initF2, initF3, isE, isL, OpK.kd, checkPend, addPendF, List.getElem?_cons_zero, List.getElem?_cons_succ, Bool.not_true, Bool.not_false, Bool.false_eq_true, Bool.true_eq_false, false_implies, true_implies, gtt, gtf, gft, gff, kLits, g7, g8, g9, g2, wrap_u64]
    cases q1 : eqI (Int.ofNat i) (Int.ofNat 9) <;> cases q2 : Nat.blt 1 bs[i].toNat <;> cases q3 : Nat.blt bs[i].toNat 128 <;> cases q4 : eqI (Int.ofNat bs[i].toNat) (Int.ofNat 0) <;> cases q5 : Nat.blt 0 i <;> simp only [q1, q2, q3, q4, q5, ↓wpF_skip, ↓wpF_reg, ↓wpF_dreg, ↓wpF_seq, ↓wpF_cond, ↓wpF_block, ↓wpF_loop, ↓wpF_exit, ↓wpF_ret, ↓opsW_nil, ↓opsW_cons, ↓dopsW_nil, ↓dopsW_cons, wantedF, evArgsF, evOpdF, Aev.step, pureS, readS, sMv, sPick, sBin, sUn, sCvi, sEx, sFa, sBuild, fillV, putAt, kCells, List.drop_succ_cons, List.drop_zero, List.drop_nil, List.cons_append, List.nil_append, List.length_cons, List.length_nil, Nat.reduceAdd, Nat.reduceLeDiff, Nat.reduceBEq, Nat.beq_refl, ble_self, eq_self, Bool.true_and, Bool.and_true, List.all_cons, List.all_nil, isShift, intBin, intShift, iAnd, iXor, iOr, iAdd, iSub, iMul, eqK_self, upO, up_eq, reduceIte, Nat.reduceEqDiff, cond_true, cond_false, lt_blt, initF0, initF1, initF2, initF3, isE, isL, OpK.kd, checkPend, addPendF, List.getElem?_cons_zero, List.getElem?_cons_succ, Bool.not_true, Bool.not_false, Bool.false_eq_true, Bool.true_eq_false, false_implies, true_implies, gtt, gtf, gft, gff, kLits, resVF, resAllF, resOneF, Option.some.injEq, Prod.mk.injEq, exists_eq_left', cellsAt, sLdA, sSt, storeAt, kOnes, List.take_succ_cons, List.take_zero, List.take_nil, sAlloc, sBox, sLd, true_and, and_true]
    all_goals first
      | exact ⟨bs.length - (i + 1), by omega, i + 1, _, rfl, by omega, by rw [wrap_succ (by omega)], rfl⟩
      | exact ⟨_, 0, _, rfl, Nat.zero_le _⟩
      | exact ⟨_, i + 1, _, by rw [wrap_succ (by omega)], hi⟩
  · exact ⟨trivial, trivial, _, rfl, trivial, _, 0, _, rfl, Nat.zero_le _⟩

theorem begin_ok (hE : Std E) (h : Hp) : ∃ r h', Cl E 301 [] h r h' ∧ ((∃ s, r = .int .u32 s) ∧ h' = h) := by
  refine Cl.of_wp (nt := 1) (hE.n 301 rfl) hE.t301 rfl rfl rfl ?_
  simp only [a301, ↓wpF_skip, ↓wpF_reg, ↓wpF_dreg, ↓wpF_seq, ↓wpF_cond, ↓wpF_block, ↓wpF_loop, ↓wpF_exit, ↓wpF_ret, ↓opsW_nil, ↓opsW_cons, ↓dopsW_nil, ↓dopsW_cons, wantedF, evArgsF, evOpdF, Aev.step, pureS, readS, sMv, sPick, sBin, sUn, sCvi, sEx, sFa, sBuild, fillV, putAt, kCells, List.drop_succ_cons, List.drop_zero, List.drop_nil, List.cons_append, List.nil_append, List.length_cons, List.length_nil, Nat.reduceAdd, Nat.reduceLeDiff, Nat.reduceBEq, Nat.beq_refl, ble_self, eq_self, Bool.true_and, Bool.and_true, List.all_cons, List.all_nil, isShift, intBin, intShift, iAnd, iXor, iOr, iAdd, iSub, iMul, eqK_self, upO, up_eq, reduceIte, Nat.reduceEqDiff, cond_true, cond_false, lt_blt, initF0, initF1, initF2, initF3, isE, isL, OpK.kd, checkPend, addPendF, List.getElem?_cons_zero, List.getElem?_cons_succ, Bool.not_true, Bool.not_false, Bool.false_eq_true, Bool.true_eq_false, false_implies, true_implies, gtt, gtf, gft, gff, kLits, resVF, resAllF, resOneF, Option.some.injEq, Prod.mk.injEq, exists_eq_left', cellsAt, sLdA, sSt, storeAt, kOnes, List.take_succ_cons, List.take_zero, List.take_nil, sAlloc, sBox, sLd, true_and, and_true]
  exact ⟨_, rfl⟩
theorem end_ok (hE : Std E) (h : Hp) (s : Int) : ∃ r h', Cl E 303 [.int .u32 s] h r h' ∧ ((∃ s, r = .int .u32 s) ∧ h' = h) := by
  refine Cl.of_wp (nt := 5) (hE.n 303 rfl) hE.t303 rfl rfl rfl ?_
  simp only [a303, ↓wpF_skip, ↓wpF_reg, ↓wpF_dreg, ↓wpF_seq, ↓wpF_cond, ↓wpF_block, ↓wpF_loop, ↓wpF_exit, ↓wpF_ret, ↓opsW_nil, ↓opsW_cons, ↓dopsW_nil, ↓dopsW_cons, wantedF, evArgsF, evOpdF, Aev.step, pureS, readS, sMv, sPick, sBin, sUn, sCvi, sEx, sFa, sBuild, fillV, putAt, kCells, List.drop_succ_cons, List.drop_zero, List.drop_nil, List.cons_append, List.nil_append, List.length_cons, List.length_nil, Nat.reduceAdd, Nat.reduceLeDiff, Nat.reduceBEq, Nat.beq_refl, ble_self, eq_self, Bool.true_and, Bool.and_true, List.all_cons, List.all_nil, isShift, intBin, intShift, iAnd, iXor, iOr, iAdd, iSub, iMul, eqK_self, upO, up_eq, reduceIte, Nat.reduceEqDiff, cond_true, cond_false, lt_blt, initF0, initF1, initF2, initF3, isE, isL, OpK.kd, checkPend, addPendF, List.getElem?_cons_zero, List.getElem?_cons_succ, Bool.not_true, Bool.not_false, Bool.false_eq_true, Bool.true_eq_false, false_implies, true_implies, gtt, gtf, gft, gff, kLits, resVF, resAllF, resOneF, Option.some.injEq, Prod.mk.injEq, exists_eq_left', cellsAt, sLdA, sSt, storeAt, kOnes, List.take_succ_cons, List.take_zero, List.take_nil, sAlloc, sBox, sLd, true_and, and_true]
  exact ⟨_, rfl⟩

theorem sum_ok (hE : Std E) {h : Hp} {v : V} {bs : List UInt8} {b : Nat} {ro : Bool} (hg : h.get b = some (.cells [v] ro)) (hb : Bytes h v bs) (hnn : bs.length < 2 ^ 62) :
    ∃ r h', Cl E 217 [.sl b 0 1 (.ex 1) 1] h r h' ∧ ((∃ s, r = .int .u32 s) ∧ h' = h) := by
  refine Cl.of_wp (nt := 19) (hE.n 217 rfl) hE.t217 rfl rfl rfl ?_
  obtain ⟨s0, h0, hc0, ⟨s, rfl⟩, rfl⟩ := begin_ok hE h
  simp only [a217, ↓wpF_skip, ↓wpF_reg, ↓wpF_dreg, ↓wpF_seq, ↓wpF_cond, ↓wpF_block, ↓wpF_loop, ↓wpF_exit, ↓wpF_ret, ↓opsW_nil, ↓opsW_cons, ↓dopsW_nil, ↓dopsW_cons, wantedF, evArgsF, evOpdF, Aev.step, pureS, readS, sMv, sPick, sBin, sUn, sCvi, sEx, sFa, sBuild, fillV, putAt, kCells, List.drop_succ_cons, List.drop_zero, List.drop_nil, List.cons_append, List.nil_append, List.length_cons, List.length_nil, Nat.reduceAdd, Nat.reduceLeDiff, Nat.reduceBEq, Nat.beq_refl, ble_self, eq_self, Bool.true_and, Bool.and_true, List.all_cons, List.all_nil, isShift, intBin, intShift, iAnd, iXor, iOr, iAdd, iSub, iMul, eqK_self, upO, up_eq, reduceIte, Nat.reduceEqDiff, cond_true, cond_false, lt_blt, initF0, initF1, initF2, initF3, isE, isL, OpK.kd, checkPend, addPendF, List.getElem?_cons_zero, List.getElem?_cons_succ, Bool.not_true, Bool.not_false, Bool.false_eq_true, Bool.true_eq_false, false_implies, true_implies, gtt, gtf, gft, gff, kLits, sLen, gi]
  refine ⟨_, _, hc0, ?_⟩
  refine loop_rule (fun k f => ∃ i s, k = 1 - i ∧ i ≤ 1 ∧ f.h = h0 ∧ f.ds = [] ∧ f.fr 7 = .sl b 0 1 (.ex 1) 1 ∧ f.fr 8 = .int .i64 (.ofNat 1) ∧ f.fr 9 = .int .i64 (.ofNat i) ∧ f.fr 3 = .int .u32 s) rfl ?_ 1 _ ⟨0, s, rfl, Nat.zero_le _, rfl, rfl, by simp only [resVF, resAllF, resOneF, up_eq, reduceIte, Nat.reduceEqDiff], by simp only [resVF, resAllF, resOneF, up_eq, reduceIte, Nat.reduceEqDiff], by simp only [resVF, resAllF, resOneF, up_eq, reduceIte, Nat.reduceEqDiff] <;> rfl, by simp only [resVF, resAllF, resOneF, up_eq, reduceIte, Nat.reduceEqDiff]⟩
  rintro k ⟨fr, h', ds⟩ ⟨i, s, hk, hin, rfl, rfl, g7, g8, g9, g3⟩
  simp only at g7 g8 g9 g3
  simp only [↓wpF_skip, ↓wpF_reg, ↓wpF_dreg, ↓wpF_seq, ↓wpF_cond, ↓wpF_block, ↓wpF_loop, ↓wpF_exit, ↓wpF_ret, ↓opsW_nil, ↓opsW_cons, ↓dopsW_nil, ↓dopsW_cons, wantedF, evArgsF, evOpdF, Aev.step, pureS, readS, sMv, sPick, sBin, sUn, sCvi, sEx, sFa, sBuild, fillV, putAt, kCells, List.drop_succ_cons, List.drop_zero, List.drop_nil, List.cons_append, List.nil_append, List.length_cons, List.length_nil, Nat.reduceAdd, Nat.reduceLeDiff, Nat.reduceBEq, Nat.beq_refl, ble_self, eq_self, Bool.true_and, Bool.and_true, List.all_cons, List.all_nil, isShift, intBin, intShift, iAnd, iXor, iOr, iAdd, iSub, iMul, eqK_self, upO, up_eq, reduceIte, Nat.reduceEqDiff, cond_true, cond_false, lt_blt, initF0, initF1, initF2, initF3, isE, isL, OpK.kd, checkPend, addPendF, List.getElem?_cons_zero, List.getElem?_cons_succ, Bool.not_true, Bool.not_false, Bool.false_eq_true, Bool.true_eq_false, false_implies, true_implies, gtt, gtf, gft, gff, kLits, g7, g8, g9, g3]
  refine sp (fun hlt => ?_) (fun hlt => ?_)
  · have hi : i < 1 := blt_true hlt
    obtain rfl : i = 0 := by omega
    have e1 : sIxS 1 [.sl b 0 1 (.ex 1) 1, .int .i64 (.ofNat 0)] = some (.ptr b 0) := rfl
    have e2 : sLd [.ptr b 0] h' = some v := by simp [sLd, hg]
    obtain ⟨r1, h1, hc1, ⟨s1, rfl⟩, rfl⟩ := go_ok hE hb hnn s
    simp only [↓wpF_skip, ↓wpF_reg, ↓wpF_dreg, ↓wpF_seq, ↓wpF_cond, ↓wpF_block, ↓wpF_loop, ↓wpF_exit, ↓wpF_ret, ↓opsW_nil, ↓opsW_cons, ↓dopsW_nil, ↓dopsW_cons, wantedF, evArgsF, evOpdF, Aev.step, pureS, readS, sMv, sPick, sBin, sUn, sCvi, sEx, sFa, sBuild, fillV, putAt, kCells, List.drop_succ_cons, List.drop_zero, List.drop_nil, List.cons_append, List.nil_append, List.length_cons, List.length_nil, Nat.reduceAdd, Nat.reduceLeDiff, Nat.reduceBEq, Nat.beq_refl, ble_self, eq_self, Bool.true_and, Bool.and_true, List.all_cons, List.all_nil, isShift, intBin, intShift, iAnd, iXor, iOr, iAdd, iSub, iMul, eqK_self, upO, up_eq, reduceIte, Nat.reduceEqDiff, cond_true, cond_false, lt_blt, initF0, initF1, initF2, initF3, isE, isL, OpK.kd, checkPend, addPendF, List.getElem?_cons_zero, List.getElem?_cons_succ, Bool.not_true, Bool.not_false, Bool.false_eq_true, Bool.true_eq_false, false_implies, true_implies, gtt, gtf, gft, gff, kLits, e1, e2, g7, g8, g9, g3]
    refine ⟨_, _, hc1, ?_⟩
    exact ⟨0, by omega, 1, _, rfl, by omega, rfl, trivial, trivial, trivial, rfl, rfl⟩
  · obtain ⟨r1, h1, hc1, ⟨s1, rfl⟩, rfl⟩ := end_ok hE h' s
    simp only [↓wpF_skip, ↓wpF_reg, ↓wpF_dreg, ↓wpF_seq, ↓wpF_cond, ↓wpF_block, ↓wpF_loop, ↓wpF_exit, ↓wpF_ret, ↓opsW_nil, ↓opsW_cons, ↓dopsW_nil, ↓dopsW_cons, wantedF, evArgsF, evOpdF, Aev.step, pureS, readS, sMv, sPick, sBin, sUn, sCvi, sEx, sFa, sBuild, fillV, putAt, kCells, List.drop_succ_cons, List.drop_zero, List.drop_nil, List.cons_append, List.nil_append, List.length_cons, List.length_nil, Nat.reduceAdd, Nat.reduceLeDiff, Nat.reduceBEq, Nat.beq_refl, ble_self, eq_self, Bool.true_and, Bool.and_true, List.all_cons, List.all_nil, isShift, intBin, intShift, iAnd, iXor, iOr, iAdd, iSub, iMul, eqK_self, upO, up_eq, reduceIte, Nat.reduceEqDiff, cond_true, cond_false, lt_blt, initF0, initF1, initF2, initF3, isE, isL, OpK.kd, checkPend, addPendF, List.getElem?_cons_zero, List.getElem?_cons_succ, Bool.not_true, Bool.not_false, Bool.false_eq_true, Bool.true_eq_false, false_implies, true_implies, gtt, gtf, gft, gff, kLits, resVF, resAllF, resOneF, Option.some.injEq, Prod.mk.injEq, exists_eq_left', cellsAt, sLdA, sSt, storeAt, kOnes, List.take_succ_cons, List.take_zero, List.take_nil, sAlloc, sBox, sLd, true_and, and_true, g7, g8, g9, g3]
    refine ⟨_, _, hc1, ?_⟩
    exact ⟨⟨_, rfl⟩, rfl⟩

theorem open_ok (hE : Std E) {h : Hp} {v : V} {bs : List UInt8} (hh : HW h 3) (hb : Bytes h v bs) (hn : bs.length ≤ 140737488355328) (h4 : 4 ≤ bs.length) :
    ∃ r h', Cl E 121 [v] h r h' ∧ (Grow h h' 3 ∧ ∃ w e, r = .tup [w, .int .i64 e] ∧ (eqI e (.ofNat 0) = true → Bytes h' w (bs.take (bs.length - 4)))) := by
  refine Cl.of_wp (nt := 31) (hE.n 121 rfl) hE.t121 rfl rfl rfl ?_
  have hl := hb.len
  have e1 : wrapI .i64 (Int.sub (Int.ofNat bs.length) (Int.ofNat 4)) = Int.ofNat (bs.length - 4) := by
    rw [show Int.sub (Int.ofNat bs.length) (Int.ofNat 4) = Int.ofNat (bs.length - 4) from (Int.ofNat_sub h4).symm]
    exact wrap_nat (fits_i64 (by omega))
  have e2 : ltI (Int.ofNat (bs.length - 4)) (Int.ofNat 0) = false := rfl
  obtain ⟨v1, hv1, hb1⟩ := hb.drop (l := bs.length - 4) (k := .i64) (by omega)
  obtain ⟨v2, hv2, hb2⟩ := hb.take (l := bs.length - 4) (k := .i64) (by omega)
  obtain ⟨r1, h1, hc1, rfl, x1, y1, rfl⟩ := get_ok hE hb1 (by rw [List.length_drop]; omega)
  simp only [a121, ↓wpF_skip, ↓wpF_reg, ↓wpF_dreg, ↓wpF_seq, ↓wpF_cond, ↓wpF_block, ↓wpF_loop, ↓wpF_exit, ↓wpF_ret, ↓opsW_nil, ↓opsW_cons, ↓dopsW_nil, ↓dopsW_cons, wantedF, evArgsF, evOpdF, Aev.step, pureS, readS, sMv, sPick, sBin, sUn, sCvi, sEx, sFa, sBuild, fillV, putAt, kCells, List.drop_succ_cons, List.drop_zero, List.drop_nil, List.cons_append, List.nil_append, List.length_cons, List.length_nil, Nat.reduceAdd, Nat.reduceLeDiff, Nat.reduceBEq, Nat.beq_refl, ble_self, eq_self, Bool.true_and, Bool.and_true, List.all_cons, List.all_nil, isShift, intBin, intShift, iAnd, iXor, iOr, iAdd, iSub, iMul, eqK_self, upO, up_eq, reduceIte, Nat.reduceEqDiff, cond_true, cond_false, lt_blt, initF0, initF1, initF2, initF3, isE, isL, OpK.kd, checkPend, addPendF, List.getElem?_cons_zero, List.getElem?_cons_succ, Bool.not_true, Bool.not_false, Bool.false_eq_true, Bool.true_eq_false, false_implies, true_implies, gtt, gtf, gft, gff, kLits, hl, gi, e1, e2, hv1]
  refine ⟨_, _, hc1, ?_⟩
  have g1 : Grow h1 (h1.new (.cells [v2] false)) 1 := (Grow.refl (j := 0) hh).new (m := 2) hh _
  obtain ⟨r3, h3, hc3, ⟨s3, rfl⟩, rfl⟩ := sum_ok (b := h1.nx) (ro := false) hE (by rw [Hp.at_new (hh.le (by omega : 1 ≤ 3)).has]; simp) (hb2.grow g1) (by rw [List.length_take]; omega)
  have c2 : v2.cells = [v2] := hb2.cells
  obtain ⟨r4, h4', hc4, g4, hb4⟩ := clone_ok hE (h := h1.new (.cells [v2] false)) (g1.hw (k := 2) hh) (hb2.grow g1) (by rw [List.length_take]; omega)
  simp only [↓wpF_skip, ↓wpF_reg, ↓wpF_dreg, ↓wpF_seq, ↓wpF_cond, ↓wpF_block, ↓wpF_loop, ↓wpF_exit, ↓wpF_ret, ↓opsW_nil, ↓opsW_cons, ↓dopsW_nil, ↓dopsW_cons, wantedF, evArgsF, evOpdF, Aev.step, pureS, readS, sMv, sPick, sBin, sUn, sCvi, sEx, sFa, sBuild, fillV, putAt, kCells, List.drop_succ_cons, List.drop_zero, List.drop_nil, List.cons_append, List.nil_append, List.length_cons, List.length_nil, Nat.reduceAdd, Nat.reduceLeDiff, Nat.reduceBEq, Nat.beq_refl, ble_self, eq_self, Bool.true_and, Bool.and_true, List.all_cons, List.all_nil, isShift, intBin, intShift, iAnd, iXor, iOr, iAdd, iSub, iMul, eqK_self, upO, up_eq, reduceIte, Nat.reduceEqDiff, cond_true, cond_false, lt_blt, initF0, initF1, initF2, initF3, isE, isL, OpK.kd, checkPend, addPendF, List.getElem?_cons_zero, List.getElem?_cons_succ, Bool.not_true, Bool.not_false, Bool.false_eq_true, Bool.true_eq_false, false_implies, true_implies, gtt, gtf, gft, gff, kLits, hv2, sBsl, c2]
  refine ⟨_, _, hc3, ?_⟩
  simp only [↓wpF_skip, ↓wpF_reg, ↓wpF_dreg, ↓wpF_seq, ↓wpF_cond, ↓wpF_block, ↓wpF_loop, ↓wpF_exit, ↓wpF_ret, ↓opsW_nil, ↓opsW_cons, ↓dopsW_nil, ↓dopsW_cons, wantedF, evArgsF, evOpdF, Aev.step, pureS, readS, sMv, sPick, sBin, sUn, sCvi, sEx, sFa, sBuild, fillV, putAt, kCells, List.drop_succ_cons, List.drop_zero, List.drop_nil, List.cons_append, List.nil_append, List.length_cons, List.length_nil, Nat.reduceAdd, Nat.reduceLeDiff, Nat.reduceBEq, Nat.beq_refl, ble_self, eq_self, Bool.true_and, Bool.and_true, List.all_cons, List.all_nil, isShift, intBin, intShift, iAnd, iXor, iOr, iAdd, iSub, iMul, eqK_self, upO, up_eq, reduceIte, Nat.reduceEqDiff, cond_true, cond_false, lt_blt, initF0, initF1, initF2, initF3, isE, isL, OpK.kd, checkPend, addPendF, List.getElem?_cons_zero, List.getElem?_cons_succ, Bool.not_true, Bool.not_false, Bool.false_eq_true, Bool.true_eq_false, false_implies, true_implies, gtt, gtf, gft, gff, kLits, resVF, resAllF, resOneF, Option.some.injEq, Prod.mk.injEq, exists_eq_left', cellsAt, sLdA, sSt, storeAt, kOnes, List.take_succ_cons, List.take_zero, List.take_nil, sAlloc, sBox, sLd, true_and, and_true, hv2]
  exact sp (fun _ => ⟨g1.more (by omega), _, _, rfl, fun e => nomatch e⟩) (fun _ => ⟨_, _, hc4, g1.trans g4, _, _, rfl, fun _ => hb4⟩)

end Go.Proofs.YtbnabgaepphlnaaGreat.T
