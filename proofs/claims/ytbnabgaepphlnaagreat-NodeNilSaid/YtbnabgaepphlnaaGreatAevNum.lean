/- The abstract interpreter: numbers as the model reckons them. -/
import Derived.Test.YtbnabgaepphlnaaGreatAevDef
set_option linter.unusedVariables false
namespace Go.Aev
open Go

theorem eqK_iff (k k' : IntKind) : eqK k k' = true ↔ k = k' := by
  cases k <;> cases k' <;> decide

theorem eqI_eq (a b : Int) : eqI a b = (a == b) := by
  cases a with
  | ofNat m => cases b with
    | ofNat n =>
      show Nat.beq m n = _
      rw [Bool.eq_iff_iff]; simp; omega
    | negSucc n => simp [eqI]
  | negSucc m => cases b with
    | ofNat n => simp [eqI]
    | negSucc n =>
      show Nat.beq m n = _
      rw [Bool.eq_iff_iff]; simp

theorem ltI_eq (a b : Int) : ltI a b = decide (a < b) := by
  cases a with
  | ofNat m => cases b with
    | ofNat n =>
      show Nat.blt m n = _
      rw [Bool.eq_iff_iff, Nat.blt_eq]; simp
    | negSucc n => simp [ltI]; omega
  | negSucc m => cases b with
    | ofNat n => simp [ltI]; omega
    | negSucc n =>
      show Nat.blt n m = _
      rw [Bool.eq_iff_iff, Nat.blt_eq]; simp; omega

theorem leI_eq (a b : Int) : leI a b = decide (a ≤ b) := by
  cases a with
  | ofNat m => cases b with
    | ofNat n =>
      show Nat.ble m n = _
      rw [Bool.eq_iff_iff, Nat.ble_eq]; simp
    | negSucc n => simp [leI]; omega
  | negSucc m => cases b with
    | ofNat n => simp [leI]; omega
    | negSucc n =>
      show Nat.ble n m = _
      rw [Bool.eq_iff_iff, Nat.ble_eq]; simp; omega

theorem fitsN_wrap {k : IntKind} {m : Nat} (h : fitsN k m = true) : k.wrap (m : Int) = m := by
  cases k <;> simp [fitsN] at h <;> simp [IntKind.wrap, IntKind.bits, IntKind.signed] <;> omega

theorem wrapI_eq (k : IntKind) (n : Int) : wrapI k n = k.wrap n := by
  cases n with
  | ofNat m =>
    simp only [wrapI]
    cases h : fitsN k m
    · rfl
    · exact (fitsN_wrap h).symm
  | negSucc m => rfl

theorem fitsN_lt {k : IntKind} {m : Nat} (h : fitsN k m = true) : m < 2 ^ k.bits := by
  cases k <;> simp [fitsN] at h <;> simp [IntKind.bits] <;> omega

theorem bitsOf_eq (k : IntKind) (n : Int) : bitsOf k n = (BitVec.ofInt k.bits n).toNat := by
  cases n with
  | ofNat m =>
    simp only [bitsOf]
    cases h : fitsN k m
    · rfl
    · have := fitsN_lt h
      simp only [cond_true, BitVec.toNat_ofInt]
      have e : ((Int.ofNat m) % ((2 ^ k.bits : Nat) : Int)) = m := by
        exact Int.emod_eq_of_lt (Int.natCast_nonneg m) (Int.ofNat_lt.2 this)
      rw [e]; simp
  | negSucc m => rfl

theorem allOnes_eq (k : IntKind) : allOnes k = 2 ^ k.bits - 1 := by cases k <;> rfl
theorem widthK_eq (k : IntKind) : widthK k = k.bits := by cases k <;> rfl

/-- Each operation on numbers gives what the model's gives. -/
theorem run_intBin {P : Program} (op : BinOp) (t : Nat) (k : IntKind) (a b : Int) (v : V) (w : World) (h : intBin op k a b = some v) :
    ∃ x, (v = .int k x ∧ (binOp op t (.int k a) (.int k b)).run P w = .ok (.int k x) w) ∨ (∃ c, v = .bool c ∧ (binOp op t (.int k a) (.int k b)).run P w = .ok (.bool c) w) := by
  cases op <;> simp only [intBin, iAdd, iSub, iMul, iQuo, iRem, iAnd, iOr, iXor, iAndNot, Option.some.injEq] at h
  case shl => exact nomatch h
  case shr => exact nomatch h
  case add => subst h; exact ⟨_, .inl ⟨rfl, by simp [binOp, Op.intArith, wrapI_eq]⟩⟩
  case sub => subst h; exact ⟨_, .inl ⟨rfl, by simp [binOp, Op.intArith, wrapI_eq]; rfl⟩⟩
  case mul => subst h; exact ⟨_, .inl ⟨rfl, by simp [binOp, Op.intArith, wrapI_eq]⟩⟩
  case quo =>
    cases hb : eqI b (.ofNat 0) <;> rw [hb] at h <;> simp at h
    subst h
    rw [eqI_eq] at hb
    have : b ≠ 0 := by simpa using hb
    exact ⟨_, .inl ⟨rfl, by simp [binOp, Op.intDiv, this, wrapI_eq]⟩⟩
  case rem =>
    cases hb : eqI b (.ofNat 0) <;> rw [hb] at h <;> simp at h
    subst h
    rw [eqI_eq] at hb
    have : b ≠ 0 := by simpa using hb
    exact ⟨_, .inl ⟨rfl, by simp [binOp, Op.intDiv, this]⟩⟩
  case and =>
    subst h
    refine ⟨_, .inl ⟨rfl, ?_⟩⟩
    simp only [binOp, ne_eq, not_true_eq_false, if_false, Op.intBits, Sem.run_pure, wrapI_eq, bitsOf_eq, BitVec.toNat_and]
    rfl
  case or =>
    subst h
    refine ⟨_, .inl ⟨rfl, ?_⟩⟩
    simp only [binOp, ne_eq, not_true_eq_false, if_false, Op.intBits, Sem.run_pure, wrapI_eq, bitsOf_eq, BitVec.toNat_or]
    rfl
  case xor =>
    subst h
    refine ⟨_, .inl ⟨rfl, ?_⟩⟩
    simp only [binOp, ne_eq, not_true_eq_false, if_false, Op.intBits, Sem.run_pure, wrapI_eq, bitsOf_eq, BitVec.toNat_xor]
    rfl
  case andNot =>
    subst h
    refine ⟨_, .inl ⟨rfl, ?_⟩⟩
    simp only [binOp, ne_eq, not_true_eq_false, if_false, Op.intBits, Sem.run_pure, wrapI_eq, bitsOf_eq, BitVec.toNat_and, BitVec.toNat_not, allOnes_eq]
    rfl
  all_goals
    subst h
    refine ⟨0, .inr ⟨_, rfl, ?_⟩⟩
    simp [binOp, Op.intCmp, eqI_eq, ltI_eq, leI_eq, bne]

theorem run_intShift {P : Program} (op : BinOp) (t : Nat) (k k' : IntKind) (a b : Int) (v : V) (w : World) (h : intShift op k a b = some v) (hs : isShift op = true) :
    ∃ x, v = .int k x ∧ (binOp op t (.int k a) (.int k' b)).run P w = .ok (.int k x) w := by
  cases op <;> first | exact absurd hs (by decide) | skip
  · simp only [intShift] at h
    split at h <;> simp at h
    rename_i n
    subst h
    refine ⟨_, rfl, ?_⟩
    have hn : ¬ ((n : Int) < 0) := by omega
    simp only [binOp, Op.shift, Int.ofNat_eq_natCast, hn, if_false, Int.toNat_natCast, Sem.run_pure, iShl, wrapI_eq, widthK_eq]
    congr 4
    have : (bif n.ble k.bits then n else k.bits) = min n k.bits := by
      cases hb : n.ble k.bits
      · have : ¬ n ≤ k.bits := fun h => by rw [Nat.ble_eq_true_of_le h] at hb; exact nomatch hb
        simp; omega
      · have := Nat.le_of_ble_eq_true hb; simp; omega
    rw [this]; simp
  · simp only [intShift] at h
    split at h <;> simp at h
    rename_i n
    subst h
    refine ⟨_, rfl, ?_⟩
    have hn : ¬ ((n : Int) < 0) := by omega
    simp only [binOp, Op.shift, Int.ofNat_eq_natCast, hn, if_false, Int.toNat_natCast, Sem.run_pure]
    congr 3
    have hm : (bif n.ble k.bits then n else k.bits) = min n k.bits := by
      cases hb : n.ble k.bits
      · have : ¬ n ≤ k.bits := fun h => by rw [Nat.ble_eq_true_of_le h] at hb; exact nomatch hb
        simp; omega
      · have := Nat.le_of_ble_eq_true hb; simp; omega
    have hp : ((2 : Int) ^ min n k.bits) = ((2 ^ min n k.bits : Nat) : Int) := by simp
    rw [hp]
    cases a with
    | ofNat m => simp only [iShr, widthK_eq, hm]; exact (Int.ofNat_fdiv m _).symm
    | negSucc m =>
      simp only [iShr, widthK_eq, hm]
      have h2 : 0 < 2 ^ min n k.bits := Nat.pow_pos (by omega)
      cases hq : 2 ^ min n k.bits with
      | zero => omega
      | succ q =>
        rw [show Nat.pow 2 (min n k.bits) = 2 ^ min n k.bits from rfl, hq]
        rfl

theorem run_unary {P : Program} (op : UnOp) (k : IntKind) (n : Int) (v : V) (w : World) (h : sUn op [.int k n] = some v) :
    ∃ x, v = .int k x ∧ (Op.unary op (.int k n)).run P w = .ok (.int k x) w := by
  cases op <;> simp only [sUn, Option.some.injEq] at h
  case not => exact nomatch h
  case plus => exact nomatch h
  · subst h
    exact ⟨_, rfl, by simp [Op.unary, Op.intArith, wrapI_eq]; rw [show Int.sub 0 n = 0 - n from rfl]; simp⟩
  · subst h
    refine ⟨_, rfl, ?_⟩
    simp only [Op.unary, Op.intBits, Sem.run_pure, wrapI_eq, bitsOf_eq, allOnes_eq, BitVec.toNat_xor]
    congr 3
    have e : (BitVec.ofInt k.bits (if k.signed then -1 else k.max)).toNat = 2 ^ k.bits - 1 := by cases k <;> rfl
    rw [e]
    have hlt := (BitVec.ofInt k.bits n).isLt
    generalize (BitVec.ofInt k.bits n).toNat = y at *
    show ((2 ^ k.bits - 1 ^^^ y : Nat) : Int) = ((2 ^ k.bits - 1 - y : Nat) : Int)
    congr 1
    have := BitVec.toNat_not (x := BitVec.ofNat k.bits y)
    rw [BitVec.toNat_ofNat, Nat.mod_eq_of_lt hlt] at this
    rw [← this, show ~~~ BitVec.ofNat k.bits y = BitVec.allOnes k.bits ^^^ BitVec.ofNat k.bits y by rw [BitVec.allOnes_xor]]
    rw [BitVec.toNat_xor, BitVec.toNat_allOnes, BitVec.toNat_ofNat, Nat.mod_eq_of_lt hlt]

end Go.Aev
