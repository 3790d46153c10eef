/- Operations that read at most: texts, comparisons, slices, fields, maps. No program. -/
import Derived.Test.YtdpglpjahbiemaaGreatDoorEvN
namespace Go.Proofs.YtdpglpjahbiemaaGreatDoor.Ev
open Go

section
variable {P : Program} {σ : Sg} {s : St} {w : World} {o : Oper} {ρ : Operand → Value}

theorem run_bin {op : BinOp} {t yt : TypeId} {x y : Operand} (ho : o.op = .binOp op t x y yt) {v : Value}
    (hg : (eqGuard op t x y (ρ x) (ρ y)).run P w = .ok () w) (h : (binOp op t (ρ x) (ρ y)).run P w = .ok v w) : (execOp ρ o).run P w = .ok (.value v) w := by
  simp [execOp, ho, hg, h]
theorem bytesOk_append {a b : List Nat} (ha : bytesOk a = true) (hb : bytesOk b = true) : bytesOk (a ++ b) = true := by
  simp only [bytesOk, List.all_append, Bool.and_eq_true] at *; exact ⟨ha, hb⟩
theorem mkBytes_append (a b : List Nat) : mkBytes a ++ mkBytes b = mkBytes (a ++ b) := by
  apply ByteArray.ext
  simp [mkBytes]
theorem n_str {op : BinOp} {t yt : TypeId} {x y : Operand} (ho : o.op = .binOp op t x y yt)
    {a b v : AV} (ha : VR σ a (ρ x)) (hb : VR σ b (ρ y)) (h : nStr op [a, b] = some v) : Yl P σ w o ρ v := by
  unfold nStr at h
  split at h
  · rename_i p q e
    cases e
    simp only [VR] at ha hb
    obtain ⟨ha, ka⟩ := ha
    obtain ⟨hb, kb⟩ := hb
    have hg : (eqGuard op t x y (ρ x) (ρ y)).run P w = .ok () w := by rw [ha, hb]; unfold eqGuard; cases op <;> simp
    have e1 := toList_eqS ka kb
    have e2 : Op.bytesLess (mkBytes p).toList (mkBytes q).toList = ltS p q := by rw [mkBytes_toList, mkBytes_toList]; exact ltS_eq ka kb
    unfold strI at h
    have fin : ∀ {u : Value} {r : AV}, (binOp op t (ρ x) (ρ y)).run P w = .ok u w → VR σ r u → Yl P σ w o ρ r := fun hh hv => ⟨_, run_bin ho hg hh, hv⟩
    rw [ha, hb] at fin
    cases op <;> simp only [reduceCtorEq] at h
    case add =>
      split at h
      · rename_i hl
        cases h
        have hl' : p.length + q.length < 1000000 := by simpa [Nat.blt_eq] using hl
        refine fin (u := .string (mkBytes (p ++ q))) ?_ (by simp only [VR]; exact ⟨trivial, bytesOk_append ka kb⟩)
        simp only [binOp, Op.stringOp, mkBytes_size]
        rw [if_neg (by have : IntKind.i64.max = 9223372036854775807 := by decide
                       rw [this]; omega)]
        simp [mkBytes_append]
      · cases h
    all_goals
      cases h
      exact fin (u := .bool _) (by simp only [binOp, Op.stringOp, e1, e2]; rfl) (by simp only [VR])
  · cases h

theorem run_equal_eq {op : BinOp} {t yt : TypeId} {x y : Operand} (ho : o.op = .binOp op t x y yt) (neg : Bool) (hop : op = if neg then .neq else .eql) {b : Bool}
    (hg : (eqGuard op t x y (ρ x) (ρ y)).run P w = .ok () w)
    (hb : binOp op t (ρ x) (ρ y) = (if neg then (do pure (.bool (!(← Op.equal t (ρ x) (ρ y))))) else (do pure (.bool (← Op.equal t (ρ x) (ρ y))))))
    (h : (Op.equalIn 10000 t (ρ x) (ρ y)).run P w = .ok b w) : Yl P σ w o ρ (.b (xorb neg b)) := by
  refine ⟨.bool (xorb neg b), run_bin ho hg ?_, by simp only [VR]⟩
  rw [hb]
  cases neg <;> simp [Op.equal, Op.maxDepth, h, xorb]

theorem addr_beq (b o o' : Nat) : ((⟨b, o, none⟩ : Addr) == ⟨b, o', none⟩) = Nat.beq o o' := by
  rw [Bool.eq_iff_iff, Nat.beq_eq]; simp
theorem eqIn_pn (d : Nat) {t e : TypeId} (hu : P.underlying t = some (.pointer e)) (a b : Option Addr) (h : a = none ∨ b = none) : (Op.equalIn (d + 1) t (.pointer a) (.pointer b)).run P w = .ok (a.isNone && b.isNone) w := by
  rcases h with rfl | rfl
  · simp [Op.equalIn, run_underlying hu]
  · cases a <;> simp [Op.equalIn, run_underlying hu]
theorem eqIn_pp (d : Nat) {t e : TypeId} (hu : P.underlying t = some (.pointer e)) {n : Nat} (hn : sizeT P e = some n) (hn0 : n ≠ 0) (a b : Addr) : (Op.equalIn (d + 1) t (.pointer (some a)) (.pointer (some b))).run P w = (sameAddr a b).run P w := by
  simp [Op.equalIn, run_underlying hu, run_sizeOf hn, hn0]
theorem eqIn_bool (d : Nat) {t : TypeId} (hu : P.underlying t = some .bool) (a b : Bool) : (Op.equalIn (d + 1) t (.bool a) (.bool b)).run P w = .ok (a == b) w := by
  simp [Op.equalIn, run_underlying hu]
theorem eqIn_sl (d : Nat) {t e : TypeId} (hu : P.underlying t = some (.slice e)) (a : Option Addr) (n c m k : Nat) : (Op.equalIn (d + 1) t (.slice a n c) (.slice none m k)).run P w = .ok a.isNone w := by
  cases a <;> simp [Op.equalIn, run_underlying hu]
theorem eqIn_map (d : Nat) {t k e : TypeId} (hu : P.underlying t = some (.map k e)) (a : Option Nat) : (Op.equalIn (d + 1) t (.map a) (.map none)).run P w = .ok a.isNone w := by
  cases a <;> simp [Op.equalIn, run_underlying hu]
theorem eqIn_fn0 (d : Nat) {t : TypeId} {p r q} (hu : P.underlying t = some (.func p r q)) : (Op.equalIn (d + 1) t .nilFunc .nilFunc).run P w = .ok true w := by
  simp [Op.equalIn, run_underlying hu]
theorem eqIn_fn1 (d : Nat) {t : TypeId} {p r q} (hu : P.underlying t = some (.func p r q)) (fn : Fn) (x y : Array Value) : (Op.equalIn (d + 1) t (.func fn x y) .nilFunc).run P w = .ok false w := by
  simp [Op.equalIn, run_underlying hu]

theorem guard_of {op : BinOp} {t : TypeId} {x y : Operand} {a b : Value} (h1 : ∀ c, a ≠ .agg c) (h2 : a ≠ .nilIface) : (eqGuard op t x y a b).run P w = .ok () w := by
  unfold eqGuard
  cases op <;> cases a <;> first | exact absurd rfl (h1 _) | exact absurd rfl h2 | simp
theorem eqBin {op : BinOp} {t : TypeId} {a b : Value} {neg : Bool} (hop : op = if neg then .neq else .eql)
    (h1 : ∀ k n, a ≠ .int k n) (h2 : ∀ k n, a ≠ .float k n) (h3 : ∀ k x y, a ≠ .complex k x y) (h4 : ∀ x, a ≠ .string x) :
    binOp op t a b = (if neg then (do pure (.bool (!(← Op.equal t a b)))) else (do pure (.bool (← Op.equal t a b)))) := by
  subst hop
  cases neg <;> cases a <;> first | exact absurd rfl (h1 _ _) | exact absurd rfl (h2 _ _) | exact absurd rfl (h3 _ _ _) | exact absurd rfl (h4 _) | rfl

theorem n_eqP {op : BinOp} {t yt e : TypeId} {x y : Operand} (ho : o.op = .binOp op t x y yt) (neg : Bool) (hop : op = if neg then .neq else .eql) (hu : P.underlying t = some (.pointer e)) {n : Nat} (hn : sizeT P e = some n) (hn0 : n ≠ 0)
    (hr : HR P σ s w) {a b v : AV} (ha : VR σ a (ρ x)) (hb : VR σ b (ρ y)) (h : nEqP s.h neg [a, b] = some v) : Yl P σ w o ρ v := by
  have fin : ∀ {p q : Option Addr} {r : Bool}, ρ x = .pointer p → ρ y = .pointer q → (Op.equalIn 10000 t (.pointer p) (.pointer q)).run P w = .ok r w → Yl P σ w o ρ (.b (xorb neg r)) := by
    intro p q r hx hy hh
    refine run_equal_eq ho neg hop ?_ ?_ ?_
    · rw [hx]; exact guard_of (fun _ => by simp) (by simp)
    · rw [hx]; exact eqBin hop (by simp) (by simp) (by simp) (by simp)
    · rw [hx, hy]; exact hh
  unfold nEqP at h
  split at h
  · rename_i e; cases e; cases h
    simp only [VR] at ha hb
    exact fin ha hb (eqIn_pn 9999 hu _ _ (Or.inl rfl))
  · rename_i id o1 e; cases e; cases h
    simp only [VR] at ha hb
    obtain ⟨b1, s1, n1, _, ha⟩ := ha
    exact fin ha hb (eqIn_pn 9999 hu _ _ (Or.inr rfl))
  · rename_i id o1 e; cases e; cases h
    simp only [VR] at ha hb
    obtain ⟨b1, s1, n1, _, hb⟩ := hb
    exact fin ha hb (eqIn_pn 9999 hu _ _ (Or.inl rfl))
  · rename_i id o1 id' o2 e; cases e
    simp only [VR] at ha hb
    obtain ⟨b1, s1, n1, ka, ha⟩ := ha
    obtain ⟨b2, s2, n2, kb, hb⟩ := hb
    split at h
    · rename_i hid
      have hid : id = id' := by simpa using hid
      subst hid
      rw [ka] at kb; cases kb
      cases h
      refine fin ha hb ((eqIn_pp 9999 hu hn hn0 _ _).trans ?_)
      have : Nat.beq o1 o2 = Nat.beq (s1 + o1) (s1 + o2) := by rw [Bool.eq_iff_iff, Nat.beq_eq, Nat.beq_eq]; omega
      simp [sameAddr, addr_beq, this]
    · rename_i hid
      have hid : id ≠ id' := by simpa using hid
      split at h
      · rename_i c1 c2 g1 g2
        cases h
        obtain ⟨_, _, _, _, e1, f1, q1⟩ := hr.obj id _ g1
        obtain ⟨_, _, _, _, e2, f2, q2⟩ := hr.obj id' _ g2
        have hne := fun e => hid (hr.inj id id' _ _ _ _ g1 g2 ka kb e)
        rw [ka] at e1; cases e1
        rw [kb] at e2; cases e2
        obtain ⟨cs1, t1, fr1, rfl, hs1, hf1, _⟩ := q1
        obtain ⟨cs2, t2, fr2, rfl, hs2, hf2, _⟩ := q2
        have hf1 := hf1 rfl
        have hf2 := hf2 rfl
        subst hf1; subst hf2
        have hne' : (b1 == b2) = false := by simpa using hne
        refine fin ha hb ((eqIn_pp 9999 hu hn hn0 _ _).trans ?_)
        have z1 : ∀ i, w.frozen? ⟨b1, i, none⟩ = false := fun i => by simp [World.frozen?, f1]
        have z2 : ∀ i, w.frozen? ⟨b2, i, none⟩ = false := fun i => by simp [World.frozen?, f2]
        have y1 : w.shape? b1 = some (t1, cs1.size) := by simp [World.shape?, f1]
        have y2 : w.shape? b2 = some (t2, cs2.size) := by simp [World.shape?, f2]
        simp [sameAddr, hne', z1, z2, y1, y2, noView, viewAt, mayBeOne, stringish]
      · cases h
  · cases h
theorem n_eqB {op : BinOp} {t yt : TypeId} {x y : Operand} (ho : o.op = .binOp op t x y yt) (neg : Bool) (hop : op = if neg then .neq else .eql) (hu : P.underlying t = some .bool)
    {a b v : AV} (ha : VR σ a (ρ x)) (hb : VR σ b (ρ y)) (h : nEqB neg [a, b] = some v) : Yl P σ w o ρ v := by
  unfold nEqB at h
  split at h
  · rename_i e; cases e; cases h
    simp only [VR] at ha hb
    refine run_equal_eq ho neg hop ?_ ?_ ?_
    · rw [ha]; exact guard_of (fun _ => by simp) (by simp)
    · rw [ha]; exact eqBin hop (by simp) (by simp) (by simp) (by simp)
    · rw [ha, hb, bEq_eq]; exact eqIn_bool 9999 hu _ _
  · cases h
theorem n_eqN {op : BinOp} {t yt : TypeId} {x y : Operand} (ho : o.op = .binOp op t x y yt) (neg : Bool) (hop : op = if neg then .neq else .eql) {c : Nat}
    (hu : (c = 0 ∧ ∃ e, P.underlying t = some (.slice e)) ∨ (c = 1 ∧ ∃ k e, P.underlying t = some (.map k e)) ∨ (c = 2 ∧ ∃ p r q, P.underlying t = some (.func p r q)))
    {a b v : AV} (ha : VR σ a (ρ x)) (hb : VR σ b (ρ y)) (h : nEqN c neg [a, b] = some v) : Yl P σ w o ρ v := by
  have fin : ∀ {p q : Value} {r : Bool}, ρ x = p → ρ y = q → (∀ k n, p ≠ .int k n) → (∀ k n, p ≠ .float k n) → (∀ k x y, p ≠ .complex k x y) → (∀ x, p ≠ .string x) → (∀ c, p ≠ .agg c) → p ≠ .nilIface →
      (Op.equalIn 10000 t p q).run P w = .ok r w → Yl P σ w o ρ (.b (xorb neg r)) := by
    intro p q r hx hy h1 h2 h3 h4 h5 h6 hh
    refine run_equal_eq ho neg hop ?_ ?_ ?_
    · rw [hx]; exact guard_of h5 h6
    · rw [hx]; exact eqBin hop h1 h2 h3 h4
    · rw [hx, hy]; exact hh
  have sl : c = 0 → ∃ e, P.underlying t = some (.slice e) := fun hc => by rcases hu with ⟨_, h⟩ | ⟨h, _⟩ | ⟨h, _⟩; exact h; omega; omega
  have mp : c = 1 → ∃ k e, P.underlying t = some (.map k e) := fun hc => by rcases hu with ⟨h, _⟩ | ⟨_, h⟩ | ⟨h, _⟩; omega; exact h; omega
  have fn : c = 2 → ∃ p r q, P.underlying t = some (.func p r q) := fun hc => by rcases hu with ⟨h, _⟩ | ⟨h, _⟩ | ⟨_, h⟩; omega; omega; exact h
  unfold nEqN at h
  split at h
  · rename_i e; cases e
    split at h
    · rename_i hc; cases h
      obtain ⟨_, hu⟩ := sl (Nat.eq_of_beq_eq_true hc)
      simp only [VR] at ha hb
      exact fin ha hb (by simp) (by simp) (by simp) (by simp) (by simp) (by simp) (eqIn_sl 9999 hu _ _ _ _ _)
    · cases h
  · rename_i e; cases e
    split at h
    · rename_i hc; cases h
      obtain ⟨_, hu⟩ := sl (Nat.eq_of_beq_eq_true hc)
      simp only [VR] at ha hb
      obtain ⟨_, _, _, _, _, ha, _⟩ := ha
      exact fin ha hb (by simp) (by simp) (by simp) (by simp) (by simp) (by simp) (eqIn_sl 9999 hu _ _ _ _ _)
    · cases h
  · rename_i e; cases e
    split at h
    · rename_i hc; cases h
      obtain ⟨_, hu⟩ := sl (Nat.eq_of_beq_eq_true hc)
      simp only [VR] at ha hb
      obtain ⟨_, _, ha⟩ := ha
      exact fin ha hb (by simp) (by simp) (by simp) (by simp) (by simp) (by simp) (eqIn_sl 9999 hu _ _ _ _ _)
    · cases h
  · rename_i e; cases e
    split at h
    · rename_i hc; cases h
      obtain ⟨_, _, hu⟩ := mp (Nat.eq_of_beq_eq_true hc)
      simp only [VR] at ha hb
      exact fin ha hb (by simp) (by simp) (by simp) (by simp) (by simp) (by simp) (eqIn_map 9999 hu _)
    · cases h
  · rename_i e; cases e
    split at h
    · rename_i hc; cases h
      obtain ⟨_, _, hu⟩ := mp (Nat.eq_of_beq_eq_true hc)
      simp only [VR] at ha hb
      obtain ⟨_, _, _, ha⟩ := ha
      exact fin ha hb (by simp) (by simp) (by simp) (by simp) (by simp) (by simp) (eqIn_map 9999 hu _)
    · cases h
  · rename_i e; cases e
    split at h
    · rename_i hc; cases h
      obtain ⟨_, _, _, hu⟩ := fn (Nat.eq_of_beq_eq_true hc)
      simp only [VR] at ha hb
      exact fin ha hb (by simp) (by simp) (by simp) (by simp) (by simp) (by simp) (eqIn_fn0 9999 hu)
    · cases h
  · rename_i e; cases e
    split at h
    · rename_i hc; cases h
      obtain ⟨_, _, _, hu⟩ := fn (Nat.eq_of_beq_eq_true hc)
      simp only [VR] at ha hb
      obtain ⟨_, _, ha, _⟩ := ha
      exact fin ha hb (by simp) (by simp) (by simp) (by simp) (by simp) (by simp) (eqIn_fn1 9999 hu _ _ _)
    · cases h
  · cases h
theorem n_not {t : TypeId} {x : Operand} (ho : o.op = .unOp .not t x) {a v : AV} (ha : VR σ a (ρ x)) (h : nNot [a] = some v) : Yl P σ w o ρ v := by
  unfold nNot at h
  split at h
  · rename_i z e; cases e; cases h; simp only [VR] at ha
    exact ⟨.bool (!z), by simp [execOp, ho, ha, Op.unary], by simp only [VR]⟩
  · cases h
theorem n_neg {t : TypeId} {x : Operand} (ho : o.op = .unOp .neg t x) {a v : AV} (ha : VR σ a (ρ x)) (h : nNeg [a] = some v) : Yl P σ w o ρ v := by
  unfold nNeg at h
  split at h
  · rename_i k n e; cases e; cases h; simp only [VR] at ha
    exact ⟨.int k (k.wrap (0 - n)), by simp [execOp, ho, ha, Op.unary, Op.intArith], by simp only [VR]⟩
  · cases h
theorem n_cv {t d : TypeId} {x : Operand} (ho : o.op = .convert t d x) {j k : IntKind} (ht : P.underlying t = some (.int j)) (hd : P.underlying d = some (.int k)) {a v : AV} (ha : VR σ a (ρ x)) (h : nCv k [a] = some v) : Yl P σ w o ρ v := by
  unfold nCv at h
  split at h
  · rename_i k' n e; cases e; cases h; simp only [VR] at ha
    exact ⟨.int k (k.wrap n), by simp [execOp, ho, ha, convert, run_underlying ht, run_underlying hd, Conv.intToInt], by simp only [VR]⟩
  · cases h
theorem n_cvss {t d : TypeId} {x : Operand} (ho : o.op = .convert t d x) (ht : P.underlying t = some .string) (hd : P.underlying d = some .string) {a v : AV} (ha : VR σ a (ρ x)) (h : nCvss [a] = some v) : Yl P σ w o ρ v := by
  unfold nCvss at h
  split at h
  · rename_i e; cases e; cases h; have h0 := ha; simp only [VR] at ha
    exact ⟨ρ x, by simp [execOp, ho, ha.1, convert, run_underlying ht, run_underlying hd], h0⟩
  · cases h
theorem n_mkI {t : TypeId} {x : Operand} (ho : o.op = .makeInterface t x) {d : TypeDesc} (ht : P.underlying t = some d) (hd : ∀ m, d ≠ .interface m) {a v : AV} (ha : VR σ a (ρ x)) (h : nMkI t [a] = some v) : Yl P σ w o ρ v := by
  simp only [nMkI] at h
  cases h
  refine ⟨.iface t (ρ x), ?_, by simp only [VR]; exact ⟨_, rfl, ha⟩⟩
  cases d <;> first | exact absurd rfl (hd _) | simp [execOp, ho, Instr.makeInterface, run_underlying ht]
theorem n_mkF {fn : Nat} {first captured : Array Operand} (ho : o.op = .makeFunc (.func fn) first captured) {args : List AV} (ha : VRs σ args ((first.toList ++ captured.toList).map ρ)) {v : AV}
    (h : some (AV.f (posOf fn) (args.take first.size) (args.drop first.size)) = some v) : Yl P σ w o ρ v := by
  cases h
  refine ⟨.func (.func fn) (first.map ρ) (captured.map ρ), by simp [execOp, ho, Instr.makeFunc], ?_⟩
  simp only [VR, posOf_num]
  refine ⟨_, _, rfl, ?_, ?_⟩
  · have := ha.take first.size
    simpa using this
  · have := ha.drop first.size
    simpa using this
theorem n_extr {x : Operand} {i : Nat} (ho : o.op = .extract x i) {a v : AV} (ha : VR σ a (ρ x)) (h : nExtr i [a] = some v) : Yl P σ w o ρ v := by
  unfold nExtr at h
  split at h
  · rename_i e; cases e; simp only [VR] at ha
    obtain ⟨cs, ha, hc⟩ := ha
    obtain ⟨u, h1, h2⟩ := hc.get h
    exact ⟨u, by simp [execOp, ho, ha, Instr.extract]; simp at h1; simp [h1], h2⟩
  · cases h
theorem n_tAss {x : Operand} {xt t : TypeId} (ho : o.op = .typeAssert x xt t false) {d : TypeDesc} (ht : P.underlying t = some d) (hd : ∀ m, d ≠ .interface m) {a v : AV} (ha : VR σ a (ρ x)) (h : nTAss t [a] = some v) : Yl P σ w o ρ v := by
  unfold nTAss at h
  split at h
  · rename_i u b e; cases e
    split at h
    · rename_i hc
      have hc := Nat.eq_of_beq_eq_true hc
      subst hc
      cases h
      simp only [VR] at ha
      obtain ⟨q, ha, hb⟩ := ha
      refine ⟨q, ?_, hb⟩
      cases d <;> first | exact absurd rfl (hd _) | simp [execOp, ho, ha, Instr.typeAssert, run_underlying ht]
    · cases h
  · cases h
theorem n_fa {t : TypeId} {x : Operand} {f : Nat} {fs : Array Field} {fd : Field} (ho : o.op = .fieldAddr t x f) (ht : P.underlying t = some (.struct fs)) (hf : fs[f]? = some fd) {n : Nat} (hn : sizeT P fd.type = some n) (hn0 : n ≠ 0)
    {a v : AV} (ha : VR σ a (ρ x)) (h : nFa fd.offset [a] = some v) : Yl P σ w o ρ v := by
  unfold nFa at h
  split at h
  · rename_i id off e; cases e; cases h
    simp only [VR] at ha
    obtain ⟨b, s, m, k, ha⟩ := ha
    refine ⟨.pointer (some ⟨b, s + (off + fd.offset), none⟩), ?_, by simp only [VR]; exact ⟨_, _, _, k, rfl⟩⟩
    have hadd : (⟨b, s + off, none⟩ : Addr).add fd.offset = ⟨b, s + (off + fd.offset), none⟩ := by
      unfold Addr.add; split
      · rename_i e; simp []
      · simp [Nat.add_assoc]
    simp [execOp, ho, ha, Instr.fieldAt, run_underlying ht, hf, Instr.sureAddr, fieldPlace, run_sizeOf hn, hn0, hadd]
  · cases h
end
end Go.Proofs.YtdpglpjahbiemaaGreatDoor.Ev
