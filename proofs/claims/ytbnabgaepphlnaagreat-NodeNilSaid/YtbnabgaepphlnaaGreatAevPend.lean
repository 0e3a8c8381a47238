/- The abstract interpreter: a new block that the model lays later than we do. -/
import Derived.Test.YtbnabgaepphlnaaGreatAevOps
set_option linter.unusedVariables false
set_option linter.unusedSimpArgs false
namespace Go.Aev
open Go
variable {P : Program}

/-- What stands for a new block. -/
inductive Sh where
  | p
  | s (len : Nat) (cap : Cap) (sz : Nat)
  | m
def Sh.mk : Sh → Nat → V
  | .p, b => .ptr b 0
  | .s len cap sz, b => .sl b 0 len cap sz
  | .m, b => .map b
def V.blk : V → Nat
  | .ptr b _ => b
  | .sl b _ _ _ _ => b
  | .map b => b
  | _ => 0
theorem Sh.blk_mk (s : Sh) (b : Nat) : (s.mk b).blk = b := by cases s <;> rfl

/-- An operation that makes a block looks at no memory. -/
theorem new_form {k : OpK} {vs : List V} {h h' : Hp} {v : V} (hk : k.kd = .a) (hs : step k vs h = some (v, h')) :
    ∃ (s : Sh) (o : O), v = s.mk h.nx ∧ h' = h.new o ∧ ∀ g : Hp, step k vs g = some (s.mk g.nx, g.new o) := by
  cases k <;> simp only [OpK.kd] at hk <;> (try contradiction)
  case alloc z =>
    simp only [step] at hs ⊢
    unfold sAlloc at hs ⊢
    split at hs
    · simp only [Option.some.injEq, Prod.mk.injEq] at hs
      obtain ⟨rfl, rfl⟩ := hs
      exact ⟨.p, _, rfl, rfl, fun g => rfl⟩
    · exact nomatch hs
  case box =>
    simp only [step] at hs ⊢
    unfold sBox at hs ⊢
    split at hs
    · simp only [Option.some.injEq, Prod.mk.injEq] at hs
      obtain ⟨rfl, rfl⟩ := hs
      exact ⟨.p, _, rfl, rfl, fun g => rfl⟩
    · exact nomatch hs
  case bsl sz len z ps =>
    simp only [step] at hs ⊢
    unfold sBsl at hs ⊢
    split at hs
    · rename_i cs hc
      simp only [Option.some.injEq, Prod.mk.injEq] at hs
      obtain ⟨rfl, rfl⟩ := hs
      exact ⟨.s len (.ex len) sz, _, rfl, rfl, fun g => rfl⟩
    · exact nomatch hs
  case s2b =>
    simp only [step] at hs ⊢
    unfold sS2b at hs ⊢
    split at hs
    · rename_i t
      simp only [Option.some.injEq, Prod.mk.injEq] at hs
      obtain ⟨rfl, rfl⟩ := hs
      exact ⟨.s t.length (.lo t.length) 1, _, rfl, rfl, fun g => rfl⟩
    · exact nomatch hs
  case mkm =>
    simp only [step] at hs ⊢
    unfold sMkm at hs ⊢
    split at hs
    · simp only [Option.some.injEq, Prod.mk.injEq] at hs
      obtain ⟨rfl, rfl⟩ := hs
      exact ⟨.m, _, rfl, rfl, fun g => rfl⟩
    · exact nomatch hs
  case mks sz by' z =>
    simp only [step] at hs ⊢
    unfold sMks at hs ⊢
    split at hs
    · rename_i k1 l k2 c
      cases hb : (Nat.ble l c && Nat.ble (c * by') 281474976710656 && Nat.blt c 4611686018427387904) <;> rw [hb] at hs
      · exact nomatch hs
      · simp only [cond_true, Option.some.injEq, Prod.mk.injEq] at hs
        obtain ⟨rfl, rfl⟩ := hs
        exact ⟨.s l (.ex c) sz, _, rfl, rfl, fun g => by simp only [hb, cond_true]; rfl⟩
    · exact nomatch hs

/-- A pure operation looks at no memory. -/
theorem pure_form {k : OpK} {vs : List V} {h h' : Hp} {v : V} (hk : k.kd = .p) (hs : step k vs h = some (v, h')) : h' = h ∧ ∀ g : Hp, step k vs g = some (v, g) := by
  have key : ∀ f : List V → Option V, step k = pureS f → h' = h ∧ ∀ g : Hp, step k vs g = some (v, g) := fun f hf => by
    obtain ⟨h1, h2⟩ := pureS_some hf hs
    refine ⟨h2, fun g => ?_⟩
    rw [hf]; unfold pureS; rw [h1]
  cases k <;> simp only [OpK.kd] at hk <;> first | contradiction | exact key _ rfl | exact key (sMkf _ _) rfl

theorem read_form {k : OpK} {vs : List V} {h h' : Hp} {v : V} (hk : k.kd = .l) (hs : step k vs h = some (v, h')) : h' = h ∧ readOf k vs h = some v := by
  have key : step k = readS (readOf k) → h' = h ∧ readOf k vs h = some v := fun hf => by
    obtain ⟨h1, h2⟩ := readS_some hf hs
    exact ⟨h2, h1⟩
  cases k <;> simp only [OpK.kd] at hk <;> first | contradiction | exact key rfl

theorem read_step {k : OpK} {vs : List V} {h : Hp} {v : V} (hk : k.kd = .l) (hs : readOf k vs h = some v) : step k vs h = some (v, h) := by
  have key : step k = readS (readOf k) → step k vs h = some (v, h) := fun hf => by
    rw [hf]; unfold readS; rw [hs]
  cases k <;> simp only [OpK.kd] at hk <;> first | contradiction | exact key rfl

def Hp.le (H H' : Hp) : Prop := ∀ b o, H.get b = some o → H'.get b = some o

theorem cellsAt_mono {H H' : Hp} (hm : H.le H') {b o n : Nat} {cs : List V} (h : cellsAt H b o n = some cs) : cellsAt H' b o n = some cs := by
  unfold cellsAt at h ⊢
  split at h
  · rename_i cs' ro hg; rw [hm _ _ hg]; exact h
  · exact nomatch h

theorem entsV_mono {H H' : Hp} (hm : H.le H') {m : V} {es : List (V × V × Nat)} (h : entsV H m = some es) : entsV H' m = some es := by
  unfold entsV at h ⊢
  split at h
  · exact h
  · split at h
    · rename_i es' clk hg; rw [hm _ _ hg]; exact h
    · exact nomatch h
  · exact nomatch h

theorem read_mono {k : OpK} {vs : List V} {H H' : Hp} {v : V} (hm : H.le H') (h : readOf k vs H = some v) : readOf k vs H' = some v := by
  cases k <;> simp only [readOf] at h ⊢ <;> (try contradiction)
  case ld =>
    unfold sLd at h ⊢
    split at h
    · rename_i b o
      split at h
      · rename_i cs ro hg; simp only [hm _ _ hg]; exact h
      · exact nomatch h
    · exact nomatch h
  case ldA n =>
    unfold sLdA at h ⊢
    split at h
    · rename_i b o
      split at h
      · rename_i cs hc; simp only [cellsAt_mono hm hc]; exact h
      · exact nomatch h
    · exact nomatch h
  case b2s =>
    unfold sB2s at h ⊢
    split at h
    · exact h
    · rename_i b o len cap sz
      split at h
      · rename_i cs hc; simp only [cellsAt_mono hm hc]; exact h
      · rename_i hc
        cases hz : Nat.beq len 0 <;> rw [hz] at h
        · exact nomatch h
        · have := Nat.eq_of_beq_eq_true hz
          subst this
          simp only [cond_true, Option.some.injEq] at h; subst h
          split
          · rename_i cs hc'
            unfold cellsAt at hc'
            split at hc'
            · cases hb : Nat.ble (o + 0) (List.length ‹List V›) <;> rw [hb] at hc'
              · exact nomatch hc'
              · simp only [List.take_zero, cond_true, Option.some.injEq] at hc'
                subst hc'; rfl
            · exact nomatch hc'
          · rfl
    · exact nomatch h
  case slA n sz lo hi =>
    unfold sSlA at h ⊢
    split at h
    · rename_i b o r
      split at h
      · rename_i cs ro hg; simp only [hm _ _ hg]; exact h
      · exact nomatch h
    · exact nomatch h
  case lk t z ok =>
    unfold sLk at h ⊢
    split at h
    · rename_i m k
      cases hk : keyOk t k <;> rw [hk] at h
      · exact nomatch h
      · simp only [cond_true] at h ⊢
        split at h
        · rename_i es he; simp only [entsV_mono hm he]; exact h
        · exact nomatch h
    · exact nomatch h
  case en =>
    unfold sEn at h ⊢
    split at h
    · rename_i b
      split at h
      · rename_i m s0 seen stepped hg
        simp only [hm _ _ hg]
        split at h
        · rename_i s hs
          split at h
          · rename_i es clk hg'; simp only [hs, hm _ _ hg']; exact h
          · exact nomatch h
        · exact nomatch h
      · exact nomatch h
    · exact nomatch h
  case len k =>
    unfold sLen at h ⊢
    split at h
    all_goals first
      | exact h
      | (split at h
         · rename_i es clk hg; simp only [hm _ _ hg]; exact h
         · exact nomatch h)
      | exact nomatch h

/- ### a block that isn't laid yet -/

mutual
theorem Rel.inter {ρ ρ1 ρ2 : Ren} (h : ∀ x l, ρ1 x = some l → ρ2 x ≠ none → ρ x = some l) : ∀ (v : V) (x y : Value), Rel ρ1 v x → Rel ρ2 v y → Rel ρ v x
  | .bool _, _, _, e, _ => e
  | .int _ _, _, _, e, _ => e
  | .str _, _, _, e, _ => e
  | .nilp, _, _, e, _ => e
  | .ptr b o, _, _, ⟨l, hl, e⟩, ⟨l', hl', _⟩ => ⟨l, h b l hl (by rw [hl']; exact fun h => nomatch h), e⟩
  | .nils, _, _, e, _ => e
  | .sl b o len cap sz, _, _, ⟨l, cc, off, hl, e⟩, ⟨l', _, _, hl', _⟩ => ⟨l, cc, off, h b l hl (by rw [hl']; exact fun h => nomatch h), e⟩
  | .nilm, _, _, e, _ => e
  | .map r, _, _, ⟨l, hl, e⟩, ⟨l', hl', _⟩ => ⟨l, h r l hl (by rw [hl']; exact fun h => nomatch h), e⟩
  | .nilf, _, _, e, _ => e
  | .fn f a c, _, _, ⟨ca, cc, e, h1, h2⟩, ⟨ca', cc', _, h1', h2'⟩ => ⟨ca, cc, e, RelL.inter h a _ _ h1 h1', RelL.inter h c _ _ h2 h2'⟩
  | .nili, _, _, e, _ => e
  | .ifc t v, _, _, ⟨x, e, h1⟩, ⟨x', _, h1'⟩ => ⟨x, e, Rel.inter h v x x' h1 h1'⟩
  | .agg cs, _, _, ⟨a, e, h1⟩, ⟨a', _, h1'⟩ => ⟨a, e, RelL.inter h cs _ _ h1 h1'⟩
  | .tup cs, _, _, ⟨a, e, h1⟩, ⟨a', _, h1'⟩ => ⟨a, e, RelL.inter h cs _ _ h1 h1'⟩
theorem RelL.inter {ρ ρ1 ρ2 : Ren} (h : ∀ x l, ρ1 x = some l → ρ2 x ≠ none → ρ x = some l) : ∀ (vs : List V) (xs ys : List Value), RelL ρ1 vs xs → RelL ρ2 vs ys → RelL ρ vs xs
  | [], _, _, e, _ => e
  | v :: vs, _, _, ⟨x, xs, e, h1, h2⟩, ⟨y, ys, _, h1', h2'⟩ => ⟨x, xs, e, Rel.inter h v x y h1 h1', RelL.inter h vs xs ys h2 h2'⟩
end

theorem RelE.inter {ρ ρ1 ρ2 : Ren} (h : ∀ x l, ρ1 x = some l → ρ2 x ≠ none → ρ x = some l) : ∀ {es : List (V × V × Nat)} {xs ys : List MapEntry}, RelE ρ1 es xs → RelE ρ2 es ys → RelE ρ es xs
  | [], _, _, e, _ => e
  | (k, v, b) :: es, _, _, ⟨e, r, he, h1, h2, h3, h4⟩, ⟨e', r', _, h1', h2', _, h4'⟩ => ⟨e, r, he, Rel.inter h _ _ _ h1 h1', Rel.inter h _ _ _ h2 h2', h3, RelE.inter h h4 h4'⟩

theorem ORel.inter {ρ ρ1 ρ2 : Ren} (h : ∀ x l, ρ1 x = some l → ρ2 x ≠ none → ρ x = some l) {o : O} {l l' : Loc} {w w' : World} (h1 : ORel ρ1 o l w) (h2 : ORel ρ2 o l' w') : ORel ρ o l w := by
  cases o with
  | cells cs ro =>
    obtain ⟨h0, arr, el, fz, pre, mid, post, a1, a2, a3, a4, a5, a6⟩ := h1
    obtain ⟨_, _, _, _, _, mid', _, _, _, _, _, _, b6⟩ := h2
    exact ⟨h0, arr, el, fz, pre, mid, post, a1, a2, a3, a4, a5, RelL.inter h _ _ _ a6 b6⟩
  | map es clk =>
    obtain ⟨h0, ces, a1, a2⟩ := h1
    obtain ⟨_, ces', _, b2⟩ := h2
    exact ⟨h0, ces, a1, RelE.inter h a2 b2⟩
  | iter m since seen stepped =>
    obtain ⟨h0, h00, cm, a1, a2⟩ := h1
    obtain ⟨_, _, cm', _, b2⟩ := h2
    refine ⟨h0, h00, cm, a1, ?_⟩
    cases m with
    | none => exact a2
    | some r =>
      obtain ⟨lr, a3, a4⟩ := a2
      obtain ⟨lr', b3, _⟩ := b2
      exact ⟨lr, h r lr a3 (by rw [b3]; exact fun h => nomatch h), a4⟩

/-- The heap with nothing in it, whose next name is given. -/
def bare (n : Nat) : Hp := ⟨Tr.full (n + 2), n⟩
theorem bare_get (n b : Nat) : (bare n).get b = none := Tr.get_full _ _
theorem bare_has (n : Nat) : (bare n).t.has n = true := Tr.has_full _ _ (by
  have : n + 1 < 2 ^ (n + 1) := Nat.lt_two_pow_self
  show n + 1 < 2 ^ (n + 2)
  rw [Nat.pow_succ]; omega)

theorem relH_bare {ρ : Ren} {H : Hp} {w : World} (hr : RelH ρ H w) {n : Nat} (hn : H.nx ≤ n) : RelH ρ (bare n) w where
  lt := hr.lt
  nx b hb := hr.nx b (Nat.le_trans hn hb)
  ng b _ := bare_get n b
  obj b o l h := by rw [bare_get] at h; exact nomatch h
  inj b b' o o' l l' h := by rw [bare_get] at h; exact nomatch h

theorem not_wr_bare {ρ : Ren} {n c : Nat} : ¬ Wr ρ (bare n) c := by
  rintro ⟨b, o, l, h, _⟩
  rw [bare_get] at h; exact nomatch h

theorem mk_loc {ρ : Ren} {s : Sh} {b : Nat} {cv : Value} (h : Rel ρ (s.mk b) cv) : ∃ l, ρ b = some l := by
  cases s
  case p => obtain ⟨l, hl, _⟩ := Rel.ptr_inv h; exact ⟨l, hl⟩
  case s => obtain ⟨l, _, _, hl, _⟩ := Rel.sl_inv h; exact ⟨l, hl⟩
  case m => obtain ⟨l, hl, _⟩ := Rel.map_inv h; exact ⟨l, hl⟩
theorem mk_move {ρ ρ' : Ren} {s : Sh} {b b' : Nat} {cv : Value} (h : Rel ρ (s.mk b) cv) (he : ρ' b' = ρ b) : Rel ρ' (s.mk b') cv := by
  cases s
  case p => obtain ⟨l, hl, e⟩ := Rel.ptr_inv h; exact ⟨l, he.trans hl, e⟩
  case s => obtain ⟨l, cc, off, hl, e⟩ := Rel.sl_inv h; exact ⟨l, cc, off, he.trans hl, e⟩
  case m => obtain ⟨l, hl, e⟩ := Rel.map_inv h; exact ⟨l, he.trans hl, e⟩

/-- An operation that makes a block, done now; our own block has been there for long. -/
theorem pend_ok {od : Oper} {k : OpK} {as : List AOpd} {fr : Nat → V} {ρ : Ren} {H : Hp} {w : World} {ρc : Operand → Value} {s : Sh} {o : O} {b : Nat}
    (hk : trOp P od.op = some (k, as)) (hf : ∀ x ax, trOpd P x = some ax → Rel ρ (evOpdF fr ax) (ρc x)) (hr : RelH ρ H w)
    (hs : ∀ g : Hp, step k (evArgsF fr as) g = some (s.mk g.nx, g.new o)) (hg : H.get b = some o ∨ H.get b = none) (hb : b < H.nx) (hn : ρ b = none) :
    ∃ l w' cv, ((execOp ρc od).run P w = .ok (.value cv) w' ∨ ((execOp ρc od).run P w = .ok .skip w' ∧ cv = undef)) ∧ Rel (ρ.add b l) (s.mk b) cv ∧ RelH (ρ.add b l) H w' ∧
      w.heap.size ≤ l.c ∧ w.heap.size ≤ w'.heap.size ∧ (∀ c, c < w.heap.size → w'.heap[c]? = w.heap[c]?) ∧ w'.os = w.os ∧ w'.output = w.output := by
  obtain ⟨ρ1, w1, cv, he1, hv1, hr1, hx1⟩ := step_sound od.op od k as fr ρ (bare H.nx) w ρc _ _ rfl hk hf (relH_bare hr (Nat.le_refl _)) (hs (bare H.nx))
  obtain ⟨ρ2, w2, cv2, he2, hv2, hr2, hx2⟩ := step_sound od.op od k as fr ρ (bare (H.nx + 1)) w ρc _ _ rfl hk hf (relH_bare hr (Nat.le_succ _)) (hs (bare (H.nx + 1)))
  have hw : w2 = w1 := by
    rcases he1 with he1 | ⟨he1, _⟩ <;> rcases he2 with he2 | ⟨he2, _⟩ <;> rw [he1] at he2 <;> (injection he2 with _ h; exact h.symm)
  subst hw
  have hnx : (bare H.nx).nx = H.nx := rfl
  have hnx2 : (bare (H.nx + 1)).nx = H.nx + 1 := rfl
  rw [hnx] at hv1
  rw [hnx2] at hv2
  obtain ⟨l, hl⟩ := mk_loc hv1
  obtain ⟨l2, hl2⟩ := mk_loc hv2
  have hnone : ρ H.nx = none := hr.nx _ (Nat.le_refl _)
  have hfresh : w.heap.size ≤ l.c := (hx1.new _ l hnone hl).elim id (fun h => absurd h not_wr_bare)
  have hsame : ∀ c, c < w.heap.size → w2.heap[c]? = w.heap[c]? := fun c hc => hx1.same c hc not_wr_bare
  have hint : ∀ x lx, ρ1 x = some lx → ρ2 x ≠ none → ρ x = some lx := fun x lx h1 h2 => by
    cases hx : ρ x with
    | some l0 => rw [← hx1.ren x l0 hx, h1]
    | none =>
      exfalso
      rcases Nat.lt_trichotomy x H.nx with h | h | h
      · rw [(hx1.pend x h hx).1] at h1; exact nomatch h1
      · subst h
        exact h2 (hx2.pend H.nx (Nat.lt_succ_self _) hx).1
      · rw [hr1.nx x h] at h1; exact nomatch h1
  have hle : ρ.le (ρ.add b l) := Ren.le_add hn l
  have ho : (H.get b = some o → ORel (ρ.add b l) o l w2) := fun _ => by
    have h1 : ORel ρ1 o l w2 := hr1.obj H.nx o l (by rw [Hp.get_new, hnx, if_pos rfl, bare_has]; rfl) hl
    have h2 : ORel ρ2 o l2 w2 := hr2.obj (H.nx + 1) o l2 (by rw [Hp.get_new, hnx2, if_pos rfl, bare_has]; rfl) hl2
    exact (ORel.inter hint h1 h2).mono hle
  have hlt2 : l.c < w2.heap.size := hr1.lt _ _ hl
  refine ⟨l, w2, cv, he1, mk_move hv1 (by rw [Ren.add_same, hl]), ?_, hfresh, hx1.size, hsame, hx1.os⟩
  refine ⟨fun x lx hx => ?_, fun x hx => ?_, hr.ng, fun x ox lx h1 h2 => ?_, fun x y ox oy lx ly h1 h2 h3 h4 h5 h6 => ?_⟩
  · by_cases e : x = b
    · subst e; rw [Ren.add_same] at hx; cases hx; exact hlt2
    · rw [Ren.add_ne l e] at hx; exact Nat.lt_of_lt_of_le (hr.lt x lx hx) hx1.size
  · rw [Ren.add_ne l (by omega)]; exact hr.nx x hx
  · by_cases e : x = b
    · subst e
      rw [Ren.add_same] at h2; cases h2
      rcases hg with hg | hg
      · rw [hg] at h1; cases h1; exact ho hg
      · rw [hg] at h1; exact nomatch h1
    · rw [Ren.add_ne l e] at h2
      exact ((hr.obj x ox lx h1 h2).of_heap (hsame _ (hr.lt x lx h2))).mono hle
  · by_cases ex : x = b <;> by_cases ey : y = b
    · rw [ex, ey]
    · subst ex
      rw [Ren.add_same] at h3; cases h3
      rw [Ren.add_ne l ey] at h4
      have := hr.lt y ly h4
      omega
    · subst ey
      rw [Ren.add_same] at h4; cases h4
      rw [Ren.add_ne l ex] at h3
      have := hr.lt x lx h3
      omega
    · rw [Ren.add_ne l ex] at h3
      rw [Ren.add_ne l ey] at h4
      exact hr.inj x y ox oy lx ly h1 h2 h3 h4 h5 h6

end Go.Aev
