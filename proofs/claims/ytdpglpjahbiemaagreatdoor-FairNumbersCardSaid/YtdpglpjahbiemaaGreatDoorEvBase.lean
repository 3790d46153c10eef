/- The evaluator's values, its memory, and what they stand for in the model's memory. No program. -/
import Derived.OrdersIn
import Derived.RangeFuncLeaves
import Derived.KernelRfl
namespace Go.Proofs.YtdpglpjahbiemaaGreatDoor.Ev
open Go

/-! ### Names, and trees that they lead into. -/

inductive Pos where
  | h | o (p : Pos) | i (p : Pos)
  deriving DecidableEq

def Pos.succ : Pos → Pos
  | .h => .o .h
  | .o p => .i p
  | .i p => .o p.succ
def Pos.toNat : Pos → Nat
  | .h => 1
  | .o p => 2 * p.toNat
  | .i p => 2 * p.toNat + 1
def Pos.num (p : Pos) : Nat := p.toNat - 1
theorem Pos.toNat_pos (p : Pos) : 0 < p.toNat := by induction p <;> simp only [Pos.toNat] <;> omega
theorem Pos.toNat_inj : ∀ {p q : Pos}, p.toNat = q.toNat → p = q := by
  intro p
  induction p with
  | h => intro q h; cases q with
    | h => rfl
    | o q => simp only [Pos.toNat] at h; omega
    | i q => simp only [Pos.toNat] at h; have := q.toNat_pos; omega
  | o p ih => intro q h; cases q with
    | h => simp only [Pos.toNat] at h; omega
    | o q => simp only [Pos.toNat] at h; rw [ih (by omega : p.toNat = q.toNat)]
    | i q => simp only [Pos.toNat] at h; omega
  | i p ih => intro q h; cases q with
    | h => simp only [Pos.toNat] at h; have := p.toNat_pos; omega
    | o q => simp only [Pos.toNat] at h; omega
    | i q => simp only [Pos.toNat] at h; rw [ih (by omega : p.toNat = q.toNat)]
theorem Pos.num_inj {p q : Pos} (h : p.num = q.num) : p = q := Pos.toNat_inj (by have := p.toNat_pos; have := q.toNat_pos; unfold Pos.num at h; omega)
theorem Pos.toNat_succ (p : Pos) : p.succ.toNat = p.toNat + 1 := by
  induction p with
  | h => rfl
  | o p _ => rfl
  | i p ih => simp only [Pos.succ, Pos.toNat, ih]; omega

inductive T (α : Type) where
  | l | n (v : Option α) (a b : T α)

def T.get {α : Type} : Pos → T α → Option α
  | _, .l => none
  | .h, .n v _ _ => v
  | .o p, .n _ a _ => T.get p a
  | .i p, .n _ _ b => T.get p b
def T.set {α : Type} : Pos → Option α → T α → T α
  | .h, v, .l => .n v .l .l
  | .h, v, .n _ a b => .n v a b
  | .o p, v, .l => .n none (T.set p v .l) .l
  | .o p, v, .n u a b => .n u (T.set p v a) b
  | .i p, v, .l => .n none .l (T.set p v .l)
  | .i p, v, .n u a b => .n u a (T.set p v b)
def T.setK {α β : Type} : Pos → Option α → T α → (T α → β) → β
  | .h, v, .l, k => k (.n v .l .l)
  | .h, v, .n _ a b, k => k (.n v a b)
  | .o p, v, .l, k => T.setK p v .l fun a' => k (.n none a' .l)
  | .o p, v, .n u a b, k => T.setK p v a fun a' => k (.n u a' b)
  | .i p, v, .l, k => T.setK p v .l fun b' => k (.n none .l b')
  | .i p, v, .n u a b, k => T.setK p v b fun b' => k (.n u a b')

theorem T.setK_eq {α β : Type} : ∀ (p : Pos) (v : Option α) (t : T α) (k : T α → β), T.setK p v t k = k (T.set p v t) := by
  intro p
  induction p with
  | h => intro v t k; cases t <;> rfl
  | o p ih => intro v t k; cases t <;> simp only [T.setK, T.set, ih]
  | i p ih => intro v t k; cases t <;> simp only [T.setK, T.set, ih]
theorem T.get_l {α : Type} (p : Pos) : T.get p (.l : T α) = none := by cases p <;> rfl
theorem T.get_same {α : Type} : ∀ (p : Pos) (v : Option α) (t : T α), T.get p (T.set p v t) = v := by
  intro p
  induction p with
  | h => intro v t; cases t <;> rfl
  | o p ih => intro v t; cases t <;> simp only [T.get, T.set, ih]
  | i p ih => intro v t; cases t <;> simp only [T.get, T.set, ih]
theorem T.get_other {α : Type} : ∀ (p q : Pos) (v : Option α) (t : T α), p ≠ q → T.get q (T.set p v t) = T.get q t := by
  intro p
  induction p with
  | h => intro q v t h; cases q <;> cases t <;> first | exact absurd rfl h | rfl | (simp only [T.set, T.get, T.get_l])
  | o p ih =>
    intro q v t h
    cases q <;> cases t <;> simp only [T.set, T.get, T.get_l] <;>
      first | done | (rw [ih _ _ _ (fun e => h (by rw [e]))]; try rw [T.get_l])
  | i p ih =>
    intro q v t h
    cases q <;> cases t <;> simp only [T.set, T.get, T.get_l] <;>
      first | done | (rw [ih _ _ _ (fun e => h (by rw [e]))]; try rw [T.get_l])
theorem T.get_set {α : Type} (p q : Pos) (v : Option α) (t : T α) : T.get q (T.set p v t) = if p = q then v else T.get q t := by
  split
  · rename_i e; subst e; exact T.get_same p v t
  · rename_i e; exact T.get_other p q v t e

/-! ### Values. -/

/-- sl: how many cells an element has; of the capacity: at least so many; exactly so many. f: a function's number, less one; es: a slice of no element that is not nil, wherever it lies. -/
inductive AV where
  | b (x : Bool)
  | i (k : IntKind) (n : Int)
  | s (x : List Nat)
  | p (id : Pos) (off : Nat)
  | np
  | sl (id : Pos) (off len lo size : Nat) (exact : Bool)
  | nsl
  | es
  | m (id : Pos)
  | nm
  | f (fn : Pos) (first captured : List AV)
  | y (l : Pos)
  | nf
  | ifc (t : Nat) (v : AV)
  | nif
  | agg (l : List AV)
  | tup (l : List AV)

/-- In which block a name's cells lie; how far in; how many cells the block has. -/
abbrev Sg := Pos → Option (Nat × Nat × Nat)
def mkBytes (x : List Nat) : ByteArray := ⟨(x.map UInt8.ofNat).toArray⟩
def bytesOk (x : List Nat) : Bool := x.all fun c => Nat.blt c 256

mutual
/-- What a value stands for, where σ tells in which block, and how far in, each name's cells lie. -/
def VR (σ : Sg) : AV → Value → Prop
  | .b x, v => v = .bool x
  | .i k n, v => v = .int k n
  | .s x, v => v = .string (mkBytes x) ∧ bytesOk x = true
  | .p id o, v => ∃ b s n, σ id = some (b, s, n) ∧ v = .pointer (some ⟨b, s + o, none⟩)
  | .np, v => v = .pointer none
  | .sl id o len lo sz ex, v => ∃ b s n c, σ id = some (b, s, n) ∧ v = .slice (some ⟨b, s + o, none⟩) len c ∧ len ≤ lo ∧ lo ≤ c ∧ (ex = true → c = lo) ∧ s + o + c * sz ≤ n
  | .nsl, v => v = .slice none 0 0
  | .es, v => ∃ a c, v = .slice (some a) 0 c
  | .m id, v => ∃ b n, σ id = some (b, 0, n) ∧ v = .map (some b)
  | .nm, v => v = .map none
  | .f fn fs cs, v => ∃ first captured, v = .func (.func fn.num) first captured ∧ VRs σ fs first.toList ∧ VRs σ cs captured.toList
  | .y l, v => ∃ b n, σ l = some (b, 0, n) ∧ v = .func (.yield b) #[] #[]
  | .nf, v => v = .nilFunc
  | .ifc t a, v => ∃ w, v = .iface t w ∧ VR σ a w
  | .nif, v => v = .nilIface
  | .agg l, v => ∃ cs, v = .agg cs ∧ VRs σ l cs.toList
  | .tup l, v => ∃ cs, v = .tuple cs ∧ VRs σ l cs.toList
def VRs (σ : Sg) : List AV → List Value → Prop
  | [], vs => vs = []
  | a :: l, vs => ∃ v vs', vs = v :: vs' ∧ VR σ a v ∧ VRs σ l vs'
end

def Ext (σ σ' : Sg) : Prop := ∀ id x, σ id = some x → σ' id = some x
theorem Ext.refl (σ : Sg) : Ext σ σ := fun _ _ h => h
theorem Ext.trans {σ σ' σ'' : Sg} (h : Ext σ σ') (k : Ext σ' σ'') : Ext σ σ'' := fun _ _ e => k _ _ (h _ _ e)

mutual
theorem VR.ext {σ σ' : Sg} (h : Ext σ σ') : ∀ {a : AV} {v : Value}, VR σ a v → VR σ' a v
  | .b _, _, k | .i _ _, _, k | .s _, _, k | .np, _, k | .nsl, _, k | .es, _, k | .nm, _, k | .nf, _, k | .nif, _, k => by simpa only [VR] using k
  | .p id o, v, k => by simp only [VR] at *; obtain ⟨b, s, n, h1, h2⟩ := k; exact ⟨b, s, n, h _ _ h1, h2⟩
  | .sl id o len lo sz ex, v, k => by simp only [VR] at *; obtain ⟨b, s, n, c, h1, h2⟩ := k; exact ⟨b, s, n, c, h _ _ h1, h2⟩
  | .m id, v, k => by simp only [VR] at *; obtain ⟨b, n, h1, h2⟩ := k; exact ⟨b, n, h _ _ h1, h2⟩
  | .y id, v, k => by simp only [VR] at *; obtain ⟨b, n, h1, h2⟩ := k; exact ⟨b, n, h _ _ h1, h2⟩
  | .f fn fs cs, v, k => by simp only [VR] at *; obtain ⟨x, y, h1, h2, h3⟩ := k; exact ⟨x, y, h1, VRs.ext h h2, VRs.ext h h3⟩
  | .ifc t a, v, k => by simp only [VR] at *; obtain ⟨w, h1, h2⟩ := k; exact ⟨w, h1, VR.ext h h2⟩
  | .agg l, v, k => by simp only [VR] at *; obtain ⟨cs, h1, h2⟩ := k; exact ⟨cs, h1, VRs.ext h h2⟩
  | .tup l, v, k => by simp only [VR] at *; obtain ⟨cs, h1, h2⟩ := k; exact ⟨cs, h1, VRs.ext h h2⟩
theorem VRs.ext {σ σ' : Sg} (h : Ext σ σ') : ∀ {l : List AV} {vs : List Value}, VRs σ l vs → VRs σ' l vs
  | [], _, k => by simpa only [VRs] using k
  | a :: l, _, k => by simp only [VRs] at *; obtain ⟨v, vs', h1, h2, h3⟩ := k; exact ⟨v, vs', h1, VR.ext h h2, VRs.ext h h3⟩
end

section
variable {σ : Sg}

theorem VRs.nil : VRs σ [] [] := by simp only [VRs]
theorem VRs.cons {a : AV} {l : List AV} {v : Value} {vs : List Value} (h : VR σ a v) (k : VRs σ l vs) : VRs σ (a :: l) (v :: vs) := by
  simp only [VRs]; exact ⟨v, vs, rfl, h, k⟩
theorem VRs.nil_iff {vs : List Value} : VRs σ [] vs ↔ vs = [] := by simp only [VRs]
theorem VRs.cons_iff {a : AV} {l : List AV} {vs : List Value} : VRs σ (a :: l) vs ↔ ∃ v vs', vs = v :: vs' ∧ VR σ a v ∧ VRs σ l vs' := by simp only [VRs]

theorem VRs.length {l : List AV} {vs : List Value} (h : VRs σ l vs) : l.length = vs.length := by
  induction l generalizing vs with
  | nil => rw [VRs.nil_iff] at h; subst h; rfl
  | cons a l ih => obtain ⟨v, vs', rfl, _, h⟩ := VRs.cons_iff.1 h; simp [ih h]
theorem VRs.get {l : List AV} {vs : List Value} (h : VRs σ l vs) : ∀ {i : Nat} {a : AV}, l[i]? = some a → ∃ v, vs[i]? = some v ∧ VR σ a v := by
  induction l generalizing vs with
  | nil => intro i a e; simp at e
  | cons x l ih =>
    obtain ⟨v, vs', rfl, h1, h⟩ := VRs.cons_iff.1 h
    intro i a e
    cases i with
    | zero => simp at e; subst e; exact ⟨v, rfl, h1⟩
    | succ i => simpa using ih h (by simpa using e)
theorem VRs.of_get {l : List AV} : ∀ {vs : List Value}, l.length = vs.length → (∀ (i : Nat) a, l[i]? = some a → ∃ v, vs[i]? = some v ∧ VR σ a v) → VRs σ l vs := by
  induction l with
  | nil => intro vs hl _; rw [VRs.nil_iff]; exact List.length_eq_zero_iff.1 hl.symm
  | cons a l ih =>
    intro vs hl h
    cases vs with
    | nil => simp at hl
    | cons v vs =>
      obtain ⟨u, h1, h2⟩ := h 0 a rfl
      simp at h1; subst h1
      exact VRs.cons h2 (ih (by simpa using hl) fun i b hb => by simpa using h (i + 1) b (by simpa using hb))
theorem VRs.append {l m : List AV} {vs us : List Value} (h : VRs σ l vs) (k : VRs σ m us) : VRs σ (l ++ m) (vs ++ us) := by
  induction l generalizing vs with
  | nil => rw [VRs.nil_iff] at h; subst h; exact k
  | cons a l ih => obtain ⟨v, vs', rfl, h1, h⟩ := VRs.cons_iff.1 h; exact VRs.cons h1 (ih h)
theorem VRs.take {l : List AV} {vs : List Value} (h : VRs σ l vs) (n : Nat) : VRs σ (l.take n) (vs.take n) := by
  induction n generalizing l vs with
  | zero => simpa using VRs.nil
  | succ n ih =>
    cases l with
    | nil => rw [VRs.nil_iff] at h; subst h; simpa using VRs.nil
    | cons a l => obtain ⟨v, vs', rfl, h1, h⟩ := VRs.cons_iff.1 h; exact VRs.cons h1 (ih h)
theorem VRs.drop {l : List AV} {vs : List Value} (h : VRs σ l vs) (n : Nat) : VRs σ (l.drop n) (vs.drop n) := by
  induction n generalizing l vs with
  | zero => simpa using h
  | succ n ih =>
    cases l with
    | nil => rw [VRs.nil_iff] at h; subst h; simpa using VRs.nil
    | cons a l => obtain ⟨v, vs', rfl, h1, h⟩ := VRs.cons_iff.1 h; exact ih h
theorem VRs.one {a : AV} {vs : List Value} (h : VRs σ [a] vs) : ∃ v, vs = [v] ∧ VR σ a v := by
  obtain ⟨v, vs', rfl, h1, h⟩ := VRs.cons_iff.1 h; rw [VRs.nil_iff] at h; subst h; exact ⟨v, rfl, h1⟩
theorem VRs.two {a b : AV} {vs : List Value} (h : VRs σ [a, b] vs) : ∃ v u, vs = [v, u] ∧ VR σ a v ∧ VR σ b u := by
  obtain ⟨v, vs', rfl, h1, h⟩ := VRs.cons_iff.1 h; obtain ⟨u, rfl, h2⟩ := h.one; exact ⟨v, u, rfl, h1, h2⟩
theorem VRs.three {a b c : AV} {vs : List Value} (h : VRs σ [a, b, c] vs) : ∃ v u x, vs = [v, u, x] ∧ VR σ a v ∧ VR σ b u ∧ VR σ c x := by
  obtain ⟨v, vs', rfl, h1, h⟩ := VRs.cons_iff.1 h; obtain ⟨u, x, rfl, h2, h3⟩ := h.two; exact ⟨v, u, x, rfl, h1, h2, h3⟩
theorem VRs.set {l : List AV} {vs : List Value} (h : VRs σ l vs) {a : AV} {v : Value} (ha : VR σ a v) (i : Nat) : VRs σ (l.set i a) (vs.set i v) := by
  induction i generalizing l vs with
  | zero =>
    cases l with
    | nil => rw [VRs.nil_iff] at h; subst h; simpa using VRs.nil
    | cons b l => obtain ⟨u, vs', rfl, h1, h⟩ := VRs.cons_iff.1 h; exact VRs.cons ha h
  | succ i ih =>
    cases l with
    | nil => rw [VRs.nil_iff] at h; subst h; simpa using VRs.nil
    | cons b l => obtain ⟨u, vs', rfl, h1, h⟩ := VRs.cons_iff.1 h; exact VRs.cons h1 (ih h)
end

/-! ### A value with nothing left to reckon (it says the same). -/

def natK {β : Type} : Nat → (Nat → β) → β
  | 0, k => k 0
  | n + 1, k => k (n + 1)
theorem natK_eq {β : Type} (n : Nat) (k : Nat → β) : natK n k = k n := by cases n <;> rfl
def intK {β : Type} : Int → (Int → β) → β
  | .ofNat n, k => natK n fun n => k (.ofNat n)
  | .negSucc n, k => natK n fun n => k (.negSucc n)
theorem intK_eq {β : Type} (n : Int) (k : Int → β) : intK n k = k n := by cases n <;> simp only [intK, natK_eq]
def natsK {β : Type} : List Nat → (List Nat → β) → β
  | [], k => k []
  | n :: l, k => natK n fun n => natsK l fun l => k (n :: l)
theorem natsK_eq {β : Type} (l : List Nat) : ∀ (k : List Nat → β), natsK l k = k l := by
  induction l with
  | nil => intro k; rfl
  | cons n l ih => intro k; simp only [natsK, natK_eq, ih]
def boolK {β : Type} : Bool → (Bool → β) → β
  | true, k => k true
  | false, k => k false
theorem boolK_eq {β : Type} (b : Bool) (k : Bool → β) : boolK b k = k b := by cases b <;> rfl

mutual
def AV.normK {β : Type} : AV → (AV → β) → β
  | .b x, k => boolK x fun x => k (.b x)
  | .i d n, k => intK n fun n => k (.i d n)
  | .s x, k => natsK x fun x => k (.s x)
  | .p id o, k => natK o fun o => k (.p id o)
  | .sl id o len lo sz ex, k => natK o fun o => natK len fun len => natK lo fun lo => natK sz fun sz => boolK ex fun ex => k (.sl id o len lo sz ex)
  | .f fn fs cs, k => AV.normsK fs fun fs => AV.normsK cs fun cs => k (.f fn fs cs)
  | .ifc t v, k => AV.normK v fun v => k (.ifc t v)
  | .agg l, k => AV.normsK l fun l => k (.agg l)
  | .tup l, k => AV.normsK l fun l => k (.tup l)
  | .np, k => k .np
  | .nsl, k => k .nsl
  | .es, k => k .es
  | .m id, k => k (.m id)
  | .nm, k => k .nm
  | .y l, k => k (.y l)
  | .nf, k => k .nf
  | .nif, k => k .nif
def AV.normsK {β : Type} : List AV → (List AV → β) → β
  | [], k => k []
  | a :: l, k => AV.normK a fun a => AV.normsK l fun l => k (a :: l)
end
mutual
theorem AV.normK_eq {β : Type} : ∀ (a : AV) (k : AV → β), AV.normK a k = k a
  | .b x, k => by simp only [AV.normK, boolK_eq]
  | .i d n, k => by simp only [AV.normK, intK_eq]
  | .s x, k => by simp only [AV.normK, natsK_eq]
  | .p id o, k => by simp only [AV.normK, natK_eq]
  | .sl .., k => by simp only [AV.normK, natK_eq, boolK_eq]
  | .f fn fs cs, k => by simp only [AV.normK]; rw [AV.normsK_eq fs, AV.normsK_eq cs]
  | .ifc t v, k => by simp only [AV.normK]; rw [AV.normK_eq v]
  | .agg l, k => by simp only [AV.normK]; rw [AV.normsK_eq l]
  | .tup l, k => by simp only [AV.normK]; rw [AV.normsK_eq l]
  | .np, _ | .nsl, _ | .es, _ | .m _, _ | .nm, _ | .y _, _ | .nf, _ | .nif, _ => by simp only [AV.normK]
theorem AV.normsK_eq {β : Type} : ∀ (l : List AV) (k : List AV → β), AV.normsK l k = k l
  | [], k => by simp only [AV.normsK]
  | a :: l, k => by simp only [AV.normsK]; rw [AV.normK_eq a, AV.normsK_eq l]
end

end Go.Proofs.YtdpglpjahbiemaaGreatDoor.Ev
