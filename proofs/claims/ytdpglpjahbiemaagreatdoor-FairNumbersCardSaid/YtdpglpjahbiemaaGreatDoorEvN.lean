/- Operations that read at most do what the evaluator says. No program. -/
import Derived.Test.YtdpglpjahbiemaaGreatDoorEvSem
import Derived.Laws.StructEq
namespace Go.Proofs.YtdpglpjahbiemaaGreatDoor.Ev
open Go

section
variable {P : Program} {σ : Sg} {s : St} {w : World} {o : Oper} {ρ : Operand → Value}

theorem VRs.inv1 {args : List AV} {v : Value} (h : VRs σ args [v]) : ∃ a, args = [a] ∧ VR σ a v := by
  cases args with
  | nil => rw [VRs.nil_iff] at h; cases h
  | cons a l =>
    obtain ⟨u, vs, e, h1, h2⟩ := VRs.cons_iff.1 h
    cases e
    cases l with
    | nil => exact ⟨a, rfl, h1⟩
    | cons b l => obtain ⟨_, _, e, _⟩ := VRs.cons_iff.1 h2; cases e
theorem VRs.invc {args : List AV} {v : Value} {vs : List Value} (h : VRs σ args (v :: vs)) : ∃ a l, args = a :: l ∧ VR σ a v ∧ VRs σ l vs := by
  cases args with
  | nil => rw [VRs.nil_iff] at h; cases h
  | cons a l => obtain ⟨u, us, e, h1, h2⟩ := VRs.cons_iff.1 h; cases e; exact ⟨a, l, rfl, h1, h2⟩
theorem VRs.inv0 {args : List AV} (h : VRs σ args []) : args = [] := by
  cases args with
  | nil => rfl
  | cons a l => obtain ⟨_, _, e, _⟩ := VRs.cons_iff.1 h; cases e
theorem VRs.inv2 {args : List AV} {v u : Value} (h : VRs σ args [v, u]) : ∃ a b, args = [a, b] ∧ VR σ a v ∧ VR σ b u := by
  obtain ⟨a, l, rfl, h1, h2⟩ := h.invc; obtain ⟨b, rfl, h3⟩ := h2.inv1; exact ⟨a, b, rfl, h1, h3⟩
theorem VRs.inv3 {args : List AV} {v u x : Value} (h : VRs σ args [v, u, x]) : ∃ a b c, args = [a, b, c] ∧ VR σ a v ∧ VR σ b u ∧ VR σ c x := by
  obtain ⟨a, l, rfl, h1, h2⟩ := h.invc; obtain ⟨b, c, rfl, h3, h4⟩ := h2.inv2; exact ⟨a, b, c, rfl, h1, h3, h4⟩
theorem VRs.inv4 {args : List AV} {v u x y : Value} (h : VRs σ args [v, u, x, y]) : ∃ a b c d, args = [a, b, c, d] ∧ VR σ a v ∧ VR σ b u ∧ VR σ c x ∧ VR σ d y := by
  obtain ⟨a, l, rfl, h1, h2⟩ := h.invc; obtain ⟨b, c, d, rfl, h3⟩ := h2.inv3; exact ⟨a, b, c, d, rfl, h1, h3⟩

/-- The operation yields, in the world as it is, what the evaluator says. -/
def Yl (P : Program) (σ : Sg) (w : World) (o : Oper) (ρ : Operand → Value) (v : AV) : Prop := ∃ u, (execOp ρ o).run P w = .ok (.value u) w ∧ VR σ v u

theorem takeN_some {c l : List AV} {o n : Nat} (h : takeN c o n = some l) : o + n ≤ c.length ∧ l = (c.drop o).take n := by
  unfold takeN at h
  split at h
  · rename_i e; cases h; exact ⟨Nat.le_of_ble_eq_true e, rfl⟩
  · cases h

theorem intEq_iff {a b : Int} : intEq a b = true ↔ a = b := by
  cases a <;> cases b <;> simp only [intEq, Nat.beq_eq, Int.ofNat_eq_natCast, Int.negSucc_eq, Bool.false_eq_true] <;> (first | omega | (constructor <;> intro h <;> first | exact h.elim | omega))
theorem intEq_false {a b : Int} (h : intEq a b = false) : a ≠ b := fun e => by rw [intEq_iff.2 e] at h; cases h
theorem intLt_iff {a b : Int} : intLt a b = true ↔ a < b := by
  cases a <;> cases b <;> simp [intLt, Nat.blt_eq] <;> omega
theorem intLt_false {a b : Int} (h : intLt a b = false) : b ≤ a := by
  rcases Int.lt_or_le a b with k | k
  · rw [intLt_iff.2 k] at h; cases h
  · exact k
theorem kindEq_iff {a b : IntKind} (h : kindEq a b = true) : a = b := by cases a <;> cases b <;> first | rfl | cases h
theorem bEq_eq (a b : Bool) : bEq a b = (a == b) := by cases a <;> cases b <;> rfl
theorem intEq_eq (a b : Int) : intEq a b = (a == b) := by
  rw [Bool.eq_iff_iff, intEq_iff]; simp
theorem intLt_eq (a b : Int) : intLt a b = decide (a < b) := by
  rw [Bool.eq_iff_iff, intLt_iff]; simp

theorem eqS_iff : ∀ {a b : List Nat}, eqS a b = true ↔ a = b
  | [], [] => by simp [eqS]
  | [], _ :: _ | _ :: _, [] => by simp [eqS]
  | x :: a, y :: b => by
    simp only [eqS]
    cases h : Nat.beq x y
    · have : x ≠ y := fun e => by rw [e, Nat.beq_refl] at h; cases h
      simp [this]
    · have : x = y := Nat.eq_of_beq_eq_true h
      simp [this, eqS_iff (a := a) (b := b)]
theorem toU8_inj {a b : Nat} (ha : a < 256) (hb : b < 256) (h : UInt8.ofNat a = UInt8.ofNat b) : a = b := by
  have := congrArg UInt8.toNat h
  simpa [UInt8.toNat_ofNat', Nat.mod_eq_of_lt ha, Nat.mod_eq_of_lt hb] using this
theorem bytesOk_cons {a : Nat} {l : List Nat} (h : bytesOk (a :: l) = true) : a < 256 ∧ bytesOk l = true := by
  simp only [bytesOk, List.all_cons, Bool.and_eq_true, Nat.blt_eq] at *; exact h
theorem mapU8_inj : ∀ {a b : List Nat}, bytesOk a = true → bytesOk b = true → a.map UInt8.ofNat = b.map UInt8.ofNat → a = b
  | [], [], _, _, _ => rfl
  | [], _ :: _, _, _, h | _ :: _, [], _, _, h => by simp at h
  | x :: a, y :: b, ha, hb, h => by
    obtain ⟨h1, h2⟩ := bytesOk_cons ha
    obtain ⟨h3, h4⟩ := bytesOk_cons hb
    simp only [List.map_cons, List.cons.injEq] at h
    rw [toU8_inj h1 h3 h.1, mapU8_inj h2 h4 h.2]
theorem mkBytes_inj {a b : List Nat} (ha : bytesOk a = true) (hb : bytesOk b = true) (h : mkBytes a = mkBytes b) : a = b := by
  unfold mkBytes at h
  have := congrArg (fun x : ByteArray => x.data.toList) h
  exact mapU8_inj ha hb (by simpa using this)
theorem mkBytes_eq {a b : List Nat} (ha : bytesOk a = true) (hb : bytesOk b = true) : (mkBytes a == mkBytes b) = eqS a b := by
  rw [beq_toListBytes, ByteArray.toList_eq, ByteArray.toList_eq]
  rw [Bool.eq_iff_iff, eqS_iff]
  simp only [beq_iff_eq]
  exact ⟨fun h => mapU8_inj ha hb (by simpa [mkBytes] using h), fun h => by rw [h]⟩
theorem mkBytes_toList (a : List Nat) : (mkBytes a).toList = a.map UInt8.ofNat := by
  rw [ByteArray.toList_eq]; simp [mkBytes]
theorem mkBytes_size (a : List Nat) : (mkBytes a).size = a.length := by
  show (mkBytes a).data.size = _; simp [mkBytes]

theorem toList_eqS {a b : List Nat} (ha : bytesOk a = true) (hb : bytesOk b = true) : ((mkBytes a).toList == (mkBytes b).toList) = eqS a b := by
  rw [mkBytes_toList, mkBytes_toList, Bool.eq_iff_iff, eqS_iff]
  simp only [beq_iff_eq]
  exact ⟨mapU8_inj ha hb, fun h => by rw [h]⟩
theorem u8_lt {a b : Nat} (ha : a < 256) (hb : b < 256) : decide (UInt8.ofNat a < UInt8.ofNat b) = Nat.blt a b := by
  rw [Bool.eq_iff_iff]
  simp [UInt8.lt_iff_toNat_lt, UInt8.toNat_ofNat', Nat.mod_eq_of_lt ha, Nat.mod_eq_of_lt hb, Nat.blt_eq]
theorem u8_eq {a b : Nat} (ha : a < 256) (hb : b < 256) : (UInt8.ofNat a == UInt8.ofNat b) = Nat.beq a b := by
  rw [Bool.eq_iff_iff, Nat.beq_eq]
  simp only [beq_iff_eq]
  exact ⟨toU8_inj ha hb, fun h => by rw [h]⟩
theorem ltS_eq : ∀ {a b : List Nat}, bytesOk a = true → bytesOk b = true → Op.bytesLess (a.map UInt8.ofNat) (b.map UInt8.ofNat) = ltS a b
  | [], [], _, _ => rfl
  | [], _ :: _, _, _ => rfl
  | _ :: _, [], _, _ => rfl
  | x :: a, y :: b, ha, hb => by
    obtain ⟨h1, h2⟩ := bytesOk_cons ha
    obtain ⟨h3, h4⟩ := bytesOk_cons hb
    simp only [List.map_cons, Op.bytesLess, ltS, u8_lt h1 h3, u8_eq h1 h3, ltS_eq h2 h4]
    cases Nat.blt x y <;> cases Nat.beq x y <;> simp

/-! One operation after the other. -/

theorem n_mv {x : Operand} (ho : o.op = .move x ∨ o.op = .assign x) {a v : AV} (ha : VR σ a (ρ x)) (h : nMv [a] = some v) : Yl P σ w o ρ v := by
  cases h
  rcases ho with ho | ho <;> exact ⟨ρ x, by simp [execOp, ho], ha⟩
theorem n_pick {c x y : Operand} (ho : o.op = .pick c x y) {a b d v : AV} (ha : VR σ a (ρ c)) (hb : VR σ b (ρ x)) (hd : VR σ d (ρ y)) (h : nPick [a, b, d] = some v) : Yl P σ w o ρ v := by
  unfold nPick at h
  split at h
  · rename_i cc _ _ e
    cases e
    cases h
    simp only [VR] at ha
    cases cc
    · exact ⟨ρ y, by simp [execOp, ho, ha, asBool], hd⟩
    · exact ⟨ρ x, by simp [execOp, ho, ha, asBool], hb⟩
  · cases h
theorem n_ld1 {t : TypeId} {x : Operand} (ho : o.op = .load t x) (hag : aggT P t = false) (hu : (P.underlying t).isSome) (hr : HR P σ s w) {a v : AV} (ha : VR σ a (ρ x)) (h : nLd1 s.h [a] = some v) : Yl P σ w o ρ v := by
  obtain ⟨d, hd⟩ := Option.isSome_iff_exists.1 hu
  unfold nLd1 at h
  split at h
  · rename_i id off e
    cases e
    split at h
    · rename_i c hc
      obtain ⟨b, sh, n, cs, t', fr, h1, h2, h3, h4, h5, h6⟩ := hr.lcells hc
      obtain ⟨u, h7, h8⟩ := h6 _ _ h
      simp only [VR] at ha
      obtain ⟨b', sh', n', e1, e2⟩ := ha
      rw [h1] at e1; cases e1
      refine ⟨u, ?_, h8⟩
      simp [execOp, ho, e2, Instr.loadAt, Instr.sureAddr, loadVar, run_isAgg hd, hag, cell_of h2, h7]
    · cases h
  · cases h
theorem take_spec {c l : List AV} {cs : Array Value} {sh o n : Nat} (h6 : ∀ (i : Nat) a, c[i]? = some a → ∃ v, cs[sh + i]? = some v ∧ VR σ a v) (h : takeN c o n = some l) :
    ∃ vs : List Value, vs.length = n ∧ (∀ (j : Nat) v, vs[j]? = some v → cs[sh + o + j]? = some v) ∧ VRs σ l vs := by
  obtain ⟨hl, rfl⟩ := takeN_some h
  refine ⟨(cs.toList.drop (sh + o)).take n, ?_, ?_, ?_⟩
  · have : ∀ j, j < n → (sh + o + j) < cs.size := by
      intro j hj
      obtain ⟨v, hv, _⟩ := h6 (o + j) _ (List.getElem?_eq_getElem (by omega))
      rw [Nat.add_assoc]
      exact (Array.getElem?_eq_some_iff.1 hv).1
    simp only [List.length_take, List.length_drop, Array.length_toList]
    rcases Nat.eq_zero_or_pos n with e | e
    · subst e; simp
    · have := this (n - 1) (by omega); omega
  · intro j v hv
    rw [List.getElem?_take] at hv
    split at hv
    · rw [List.getElem?_drop] at hv; simpa using hv
    · cases hv
  · refine VRs.of_get ?_ ?_
    · have : ∀ j, j < n → (sh + o + j) < cs.size := by
        intro j hj
        obtain ⟨v, hv, _⟩ := h6 (o + j) _ (List.getElem?_eq_getElem (by omega))
        rw [Nat.add_assoc]
        exact (Array.getElem?_eq_some_iff.1 hv).1
      simp only [List.length_take, List.length_drop, Array.length_toList]
      rcases Nat.eq_zero_or_pos n with e | e
      · subst e; simp
      · have := this (n - 1) (by omega); omega
    · intro i a hi
      rw [List.getElem?_take] at hi
      split at hi
      · rename_i hin
        rw [List.getElem?_drop] at hi
        obtain ⟨v, hv, h2⟩ := h6 _ _ hi
        refine ⟨v, ?_, h2⟩
        rw [List.getElem?_take, if_pos hin, List.getElem?_drop]
        simpa [Nat.add_assoc] using hv
      · cases hi
theorem n_ldn {t : TypeId} {x : Operand} {n : Nat} (ho : o.op = .load t x) (hag : aggT P t = true) (hn : sizeT P t = some n) (hr : HR P σ s w) {a v : AV} (ha : VR σ a (ρ x)) (h : nLdn s.h n [a] = some v) : Yl P σ w o ρ v := by
  obtain ⟨d, hd⟩ := aggT_some hag
  unfold nLdn at h
  split at h
  · rename_i id off e
    cases e
    split at h
    · rename_i c hc
      split at h
      · rename_i l hl
        cases h
        obtain ⟨b, sh, m, cs, t', fr, h1, h2, h3, h4, h5, h6⟩ := hr.lcells hc
        obtain ⟨vs, hv1, hv2, hv3⟩ := take_spec h6 hl
        simp only [VR] at ha
        obtain ⟨b', sh', n', e1, e2⟩ := ha
        rw [h1] at e1; cases e1
        refine ⟨.agg vs.toArray, ?_, by simp only [VR]; exact ⟨_, rfl, hv3⟩⟩
        have hload := run_loadCells (P := P) (w := w) (b := b) (o := sh + off) (vs := vs) (fun j u hu => by rw [cell_of h2]; exact hv2 j u hu)
        rw [hv1] at hload
        simp [execOp, ho, e2, Instr.loadAt, Instr.sureAddr, loadVar, run_isAgg hd, hag, run_sizeOf hn, hload]
      · cases h
    · cases h
  · cases h
theorem n_nil {x : Operand} (ho : o.op = .nilCheck x) {a v : AV} (ha : VR σ a (ρ x)) (h : nNil [a] = some v) : Yl P σ w o ρ v := by
  unfold nNil at h
  split at h
  · rename_i e; cases e; cases h; have h0 := ha; simp only [VR] at ha; obtain ⟨b, s, n, _, e⟩ := ha; exact ⟨ρ x, by simp [execOp, ho, e], h0⟩
  · rename_i e; cases e; cases h; have h0 := ha; simp only [VR] at ha; obtain ⟨_, _, e, _⟩ := ha; exact ⟨ρ x, by simp [execOp, ho, e], h0⟩
  · rename_i e; cases e; cases h; have h0 := ha; simp only [VR] at ha; obtain ⟨_, _, _, e⟩ := ha; exact ⟨ρ x, by simp [execOp, ho, e], h0⟩
  · cases h

theorem bin_int {op : BinOp} {t yt : TypeId} {x y : Operand} (ho : o.op = .binOp op t x y yt) {k k' : IntKind} {a b : Int} (hx : ρ x = .int k a) (hy : ρ y = .int k' b) {v : Value}
    (h : (binOp op t (.int k a) (.int k' b)).run P w = .ok v w) : (execOp ρ o).run P w = .ok (.value v) w := by
  have : (eqGuard op t x y (.int k a) (.int k' b)).run P w = .ok () w := by
    unfold eqGuard; cases op <;> simp
  simp [execOp, ho, hx, hy, this, h]
theorem n_arith {op : BinOp} {t yt : TypeId} {x y : Operand} (ho : o.op = .binOp op t x y yt)
    {a b v : AV} (ha : VR σ a (ρ x)) (hb : VR σ b (ρ y)) (h : nArith op [a, b] = some v) : Yl P σ w o ρ v := by
  unfold nArith at h
  split at h
  · rename_i k n k' m e
    cases e
    split at h
    · rename_i hk
      have := kindEq_iff hk
      subst this
      split at h
      · rename_i r hr
        cases h
        simp only [VR] at ha hb
        refine ⟨.int k r, bin_int ho ha hb ?_, by simp only [VR]⟩
        unfold arithI at hr
        cases op <;> simp only [reduceCtorEq, Option.some.injEq] at hr <;> first
          | (subst hr; simp [binOp, Op.intArith]; done)
          | (subst hr; simp [binOp, Op.intBits, arithI.bits]; done)
          | (split at hr
             · cases hr
             · rename_i h0
               cases hr
               have hm : m ≠ 0 := intEq_false (by simpa using h0)
               simp [binOp, Op.intDiv, hm])
      · cases h
    · cases h
  · cases h
theorem n_shift {op : BinOp} {t yt : TypeId} {x y : Operand} (ho : o.op = .binOp op t x y yt) 
    {a b v : AV} (ha : VR σ a (ρ x)) (hb : VR σ b (ρ y)) (h : nShift op [a, b] = some v) : Yl P σ w o ρ v := by
  unfold nShift at h
  split at h
  · rename_i k n k' m e
    cases e
    split at h
    · cases h
    · rename_i h0
      have hm : ¬ m < 0 := by have := intLt_false (by simpa using h0); omega
      simp only [VR] at ha hb
      split at h <;> (try cases h)
      · exact ⟨.int k _, bin_int ho ha hb (by simp [binOp, Op.shift, hm]; rfl), by simp only [VR]⟩
      · exact ⟨.int k _, bin_int ho ha hb (by simp [binOp, Op.shift, hm]; rfl), by simp only [VR]⟩
  · cases h
theorem n_cmp {op : BinOp} {t yt : TypeId} {x y : Operand} (ho : o.op = .binOp op t x y yt) 
    {a b v : AV} (ha : VR σ a (ρ x)) (hb : VR σ b (ρ y)) (h : nCmp op [a, b] = some v) : Yl P σ w o ρ v := by
  unfold nCmp at h
  split at h
  · rename_i k n k' m e
    cases e
    split at h
    · rename_i hk
      have := kindEq_iff hk
      subst this
      split at h
      · rename_i r hr
        cases h
        simp only [VR] at ha hb
        refine ⟨.bool r, bin_int ho ha hb ?_, by simp only [VR]⟩
        unfold cmpI at hr
        cases op <;> simp only [reduceCtorEq, Option.some.injEq] at hr <;> subst hr <;> simp [binOp, Op.intCmp, intEq_eq, intLt_eq, bne, ← decide_not]
      · cases h
    · cases h
  · cases h
end
end Go.Proofs.YtdpglpjahbiemaaGreatDoor.Ev
