/- Operations that turn something: cells, maps. No program. -/
import Derived.Test.YtdpglpjahbiemaaGreatDoorEvM
namespace Go.Proofs.YtdpglpjahbiemaaGreatDoor.Ev
open Go

section
variable {P : Program} {σ : Sg} {s : St} {w w' : World} {o : Oper} {ρ : Operand → Value}

/-- The operation ends so: a value (none: what has none), the memory behind it. -/
def Did (P : Program) (σ : Sg) (s : St) (w : World) (o : Oper) (ρ : Operand → Value) (v : AV) (s' : St) : Prop :=
  ∃ u n w' σ', (execOp ρ o).run P w = .ok n w' ∧ (n = .value u ∨ (n = .skip ∧ u = undef)) ∧ VR σ' v u ∧ Stp P σ s w σ' s' w'

theorem VR_undef : VR σ (.tup []) undef := by simp only [VR]; exact ⟨#[], rfl, VRs.nil⟩

/-- One block has turned. -/
structure Turned (w w' : World) (b : Nat) (ob : Obj) : Prop where
  new : w'.heap[b]? = some ob
  old : ∀ c, c ≠ b → w'.heap[c]? = w.heap[c]?
  size : w'.heap.size = w.heap.size
  os : w'.os = w.os
  tape : w'.tape = w.tape
  output : w'.output = w.output

theorem stp_set (hr : HR P σ s w) {id : Pos} {o0 o1 : AO} {b sh n : Nat} {ob : Obj} (h0 : T.get id s.h = some o0) (hs : σ id = some (b, sh, n)) (ht : Turned w w' b ob) (ho : OR P σ o1 sh n ob) :
    Stp P σ s w σ { s with h := T.set id (some o1) s.h } w' := by
  refine ⟨fun _ _ => rfl, Nat.le_refl _, ⟨hr.dom, ?_, ?_⟩, ⟨ht.os, ht.tape, ht.output, Nat.le_of_eq ht.size.symm, ?_, ?_⟩⟩
  · intro q q1 hq
    rw [T.get_set] at hq
    split at hq
    · rename_i e; subst e; cases hq; exact ⟨b, sh, n, ob, hs, ht.new, ho⟩
    · rename_i e
      obtain ⟨b', sh', n', ob', k1, k2, k3⟩ := hr.obj q q1 hq
      refine ⟨b', sh', n', ob', k1, ?_, k3⟩
      rw [ht.old b' (fun eb => e (hr.inj id q _ _ _ _ h0 hq hs k1 eb.symm))]
      exact k2
  · intro p q p1 q1 x x' hp hq kp kq e
    have hp' : ∃ z, T.get p s.h = some z := by
      rw [T.get_set] at hp; split at hp
      · rename_i e; subst e; exact ⟨_, h0⟩
      · exact ⟨_, hp⟩
    have hq' : ∃ z, T.get q s.h = some z := by
      rw [T.get_set] at hq; split at hq
      · rename_i e; subst e; exact ⟨_, h0⟩
      · exact ⟨_, hq⟩
    obtain ⟨_, hp'⟩ := hp'
    obtain ⟨_, hq'⟩ := hq'
    exact hr.inj p q _ _ _ _ hp' hq' kp kq e
  · intro c hc hl
    refine ht.old c (fun e => hl ?_)
    subst e
    exact ⟨id, o0, _, h0, hs, rfl⟩
  · rintro c ⟨q, q1, x, hq, kq, rfl⟩
    left
    rw [T.get_set] at hq; split at hq
    · rename_i e; subst e; exact ⟨_, _, _, h0, kq, rfl⟩
    · exact ⟨_, _, _, hq, kq, rfl⟩

def Sg.put (σ : Sg) (id : Pos) (x : Nat × Nat × Nat) : Sg := fun q => if q = id then some x else σ q
theorem Sg.put_same (σ : Sg) (id : Pos) (x : Nat × Nat × Nat) : σ.put id x id = some x := by simp [Sg.put]
theorem Sg.put_other (σ : Sg) {id q : Pos} (x : Nat × Nat × Nat) (h : q ≠ id) : σ.put id x q = σ q := by simp [Sg.put, h]
theorem Sg.put_ext (hr : HR P σ s w) (x : Nat × Nat × Nat) : Ext σ (σ.put s.nx x) := fun q y hq => by
  rw [Sg.put_other]
  · exact hq
  · intro e; subst e; rw [hr.dom _ (Nat.le_refl _)] at hq; cases hq
theorem ne_nx {q nx : Pos} (h : q.toNat < nx.toNat) : q ≠ nx := fun e => by subst e; omega

theorem stp_new (hr : HR P σ s w) {o1 : AO} {n : Nat} {ob : Obj} (hp : Pushed w w' ob) (ho : OR P σ o1 0 n ob) :
    Stp P σ s w (σ.put s.nx (w.heap.size, 0, n)) { h := T.set s.nx (some o1) s.h, nx := s.nx.succ } w' := by
  have hext := Sg.put_ext hr (w.heap.size, 0, n)
  have hlt : ∀ {q : Pos} {q1 : AO}, T.get q s.h = some q1 → q ≠ s.nx ∧ ∃ b sh m, σ q = some (b, sh, m) ∧ b < w.heap.size := by
    intro q q1 hq
    obtain ⟨b, sh, m, ob, k1, k2, _⟩ := hr.obj q q1 hq
    exact ⟨ne_nx (hr.lt k1), b, sh, m, k1, (Array.getElem?_eq_some_iff.1 k2).1⟩
  have hold : ∀ b, b < w.heap.size → w'.heap[b]? = w.heap[b]? := by
    intro b hb; rw [hp.heap, Array.getElem?_push_lt hb]; simp [hb]
  refine ⟨fun q hq => Sg.put_other _ _ (ne_nx hq), by simp only [Pos.toNat_succ]; omega, ⟨?_, ?_, ?_⟩, ⟨hp.os, hp.tape, hp.output, by rw [hp.heap]; simp, ?_, ?_⟩⟩
  · intro q hq
    simp only [Pos.toNat_succ] at hq
    rw [Sg.put_other _ _ (fun e => by subst e; omega)]
    exact hr.dom q (by omega)
  · intro q q1 hq
    rw [T.get_set] at hq
    split at hq
    · rename_i e; subst e; cases hq
      exact ⟨_, _, _, ob, Sg.put_same _ _ _, by rw [hp.heap]; simp, ho.ext hext⟩
    · obtain ⟨b', sh', n', ob', k1, k2, k3⟩ := hr.obj q q1 hq
      exact ⟨b', sh', n', ob', hext _ _ k1, (hold _ (Array.getElem?_eq_some_iff.1 k2).1).trans k2, k3.ext hext⟩
  · intro p q p1 q1 x x' hp1 hq1 kp kq e
    rw [T.get_set] at hp1 hq1
    split at hp1 <;> split at hq1
    · rename_i e1 e2; rw [← e1, ← e2]
    · rename_i e1 e2
      subst e1
      rw [Sg.put_same] at kp; cases kp
      obtain ⟨hne, b, sh, m, k1, k2⟩ := hlt hq1
      rw [Sg.put_other _ _ hne, k1] at kq; cases kq
      simp only at e; omega
    · rename_i e1 e2
      subst e2
      rw [Sg.put_same] at kq; cases kq
      obtain ⟨hne, b, sh, m, k1, k2⟩ := hlt hp1
      rw [Sg.put_other _ _ hne, k1] at kp; cases kp
      simp only at e; omega
    · obtain ⟨hne, b, sh, m, k1, k2⟩ := hlt hp1
      obtain ⟨hne', b', sh', m', k1', k2'⟩ := hlt hq1
      rw [Sg.put_other _ _ hne, k1] at kp; cases kp
      rw [Sg.put_other _ _ hne', k1'] at kq; cases kq
      exact hr.inj p q _ _ _ _ hp1 hq1 k1 k1' e
  · intro c hc _
    exact hold c hc
  · rintro c ⟨q, q1, x, hq, kq, rfl⟩
    rw [T.get_set] at hq; split at hq
    · rename_i e; subst e; rw [Sg.put_same] at kq; cases kq; exact Or.inr (Nat.le_refl _)
    · obtain ⟨hne, b, sh, m, k1, k2⟩ := hlt hq
      rw [Sg.put_other _ _ hne] at kq
      exact Or.inl ⟨_, _, _, hq, kq, rfl⟩

/-! ### Writing cells. -/
def setA (cs : Array Value) (o : Nat) : List Value → Array Value
  | [] => cs
  | v :: vs => setA (cs.setIfInBounds o v) (o + 1) vs
theorem setA_size : ∀ (vs : List Value) (cs : Array Value) (o : Nat), (setA cs o vs).size = cs.size
  | [], _, _ => rfl
  | v :: vs, cs, o => by simp only [setA]; rw [setA_size vs]; simp
theorem setAll_length : ∀ (us : List AV) (c : List AV) (o : Nat), (setAll c o us).length = c.length
  | [], _, _ => rfl
  | u :: us, c, o => by simp [setAll, setAll_length us]
theorem setAll_VR {sh : Nat} : ∀ {us : List AV} {vs : List Value} {c : List AV} {cs : Array Value} {o : Nat}, VRs σ us vs → o + us.length ≤ c.length → sh + c.length ≤ cs.size →
    (∀ (i : Nat) a, c[i]? = some a → ∃ v, cs[sh + i]? = some v ∧ VR σ a v) → ∀ (i : Nat) a, (setAll c o us)[i]? = some a → ∃ v, (setA cs (sh + o) vs)[sh + i]? = some v ∧ VR σ a v
  | [], vs, c, cs, o, hv, _, _, h, i, a, e => by rw [VRs.nil_iff] at hv; subst hv; exact h i a e
  | u :: us, vs, c, cs, o, hv, hl, hs, h, i, a, e => by
    obtain ⟨v, vs', rfl, h1, h2⟩ := VRs.cons_iff.1 hv
    simp only [List.length_cons] at hl
    simp only [setAll] at e
    show ∃ v', (setA (cs.setIfInBounds (sh + o) v) (sh + o + 1) vs')[sh + i]? = some v' ∧ VR σ a v'
    rw [Nat.add_assoc]
    refine setAll_VR h2 (by simp; omega) (by simp; omega) ?_ i a e
    intro j b hj
    rw [List.getElem?_set] at hj
    split at hj
    · rename_i e; subst e
      split at hj
      · cases hj; exact ⟨v, by rw [Array.getElem?_setIfInBounds]; simp; omega, h1⟩
      · cases hj
    · rename_i e
      obtain ⟨x, k1, k2⟩ := h j b hj
      exact ⟨x, by rw [Array.getElem?_setIfInBounds, if_neg (by omega)]; exact k1, k2⟩
theorem oneCell_of {a : AV} {v : Value} (h : oneA a = true) (ha : VR σ a v) : v.oneCell' = true := by
  cases a <;> simp only [VR] at ha <;> first
    | (subst ha; rfl)
    | (obtain ⟨rfl, _⟩ := ha; rfl)
    | (obtain ⟨_, _, _, _, rfl⟩ := ha; rfl)
    | (obtain ⟨_, _, _, _, _, rfl, _⟩ := ha; rfl)
    | (obtain ⟨_, _, rfl⟩ := ha; rfl)
    | (obtain ⟨_, _, _, rfl⟩ := ha; rfl)
    | (obtain ⟨_, _, rfl, _⟩ := ha; rfl)
    | (obtain ⟨_, rfl, _⟩ := ha; rfl)
    | (simp [oneA] at h)
theorem oneCells_of : ∀ {l : List AV} {vs : List Value}, l.all oneA = true → VRs σ l vs → ∀ v ∈ vs, v.oneCell' = true
  | [], vs, _, hv, v, hm => by rw [VRs.nil_iff] at hv; subst hv; cases hm
  | a :: l, vs, h, hv, v, hm => by
    obtain ⟨u, vs', rfl, h1, h2⟩ := VRs.cons_iff.1 hv
    simp only [List.all_cons, Bool.and_eq_true] at h
    rcases List.mem_cons.1 hm with e | hm
    · subst e; exact oneCell_of h.1 h1
    · exact oneCells_of h.2 h2 v hm
theorem run_store1 {b i : Nat} {cs : Array Value} {t : TypeId} {fr : Nat × Nat} (h : w.heap[b]? = some (.cells cs t fr)) (hi : i < cs.size) (hf : ¬ (fr.1 ≤ i ∧ i < fr.2)) {v : Value} (hv : v.oneCell' = true) :
    ∃ w', (store ⟨b, i, none⟩ v).run P w = .ok () w' ∧ Turned w w' b (.cells (cs.setIfInBounds i v) t fr) := by
  refine ⟨w.setCell ⟨b, i, none⟩ v, ?_, ?_⟩
  · rw [run_store P w _ _ _ hv]
    have h1 : w.cell? ⟨b, i, none⟩ = some cs[i] := by simp [World.cell?, h, hi]
    have h2 : w.frozen? ⟨b, i, none⟩ = false := by simp [World.frozen?, h]; omega
    simp [h1, h2]
  · refine ⟨by simp [World.setCell, Array.getElem?_modify, h], fun c hc => ?_, by simp [World.setCell], rfl, rfl, rfl⟩
    simp only [World.setCell, Array.getElem?_modify]
    rw [if_neg (fun e => hc e.symm)]
theorem Turned.trans {w1 w2 w3 : World} {b : Nat} {o1 o2 : Obj} (h : Turned w1 w2 b o1) (k : Turned w2 w3 b o2) : Turned w1 w3 b o2 :=
  ⟨k.new, fun c hc => (k.old c hc).trans (h.old c hc), k.size.trans h.size, k.os.trans h.os, k.tape.trans h.tape, k.output.trans h.output⟩
theorem Turned.refl {b : Nat} {ob : Obj} (h : w.heap[b]? = some ob) : Turned w w b ob := ⟨h, fun _ _ => rfl, rfl, rfl, rfl, rfl⟩
theorem run_storeCells {b o : Nat} {t : TypeId} {fr : Nat × Nat} : ∀ (vs : List Value) (i : Nat) {w : World} {cs : Array Value}, w.heap[b]? = some (.cells cs t fr) → (∀ j, j < cs.size → ¬ (fr.1 ≤ j ∧ j < fr.2)) → o + i + vs.length ≤ cs.size →
    (∀ v ∈ vs, v.oneCell' = true) → ∃ w', (storeCells ⟨b, o, none⟩ vs i).run P w = .ok () w' ∧ Turned w w' b (.cells (setA cs (o + i) vs) t fr)
  | [], i, w, cs, h, _, _, _ => ⟨w, by simp [storeCells], Turned.refl h⟩
  | v :: vs, i, w, cs, h, hf, hl, hv => by
    simp only [List.length_cons] at hl
    obtain ⟨w1, h1, h2⟩ := run_store1 (P := P) h (i := o + i) (by omega) (hf _ (by omega)) (hv v (by simp))
    obtain ⟨w2, h3, h4⟩ := run_storeCells (o := o) vs (i + 1) h2.new (by simpa using hf) (by simp; omega) (fun u hu => hv u (by simp [hu]))
    refine ⟨w2, ?_, ?_⟩
    · simp [storeCells, addr_add, h1, h3]
    · rw [← Nat.add_assoc] at h4
      exact h2.trans h4

/-- The cells of a name. -/
theorem HR.cellsOf (hr : HR P σ s w) {id : Pos} {c : List AV} {pl : Bool} (h : T.get id s.h = some (.cells c pl)) : ∃ b sh n cs t fr, σ id = some (b, sh, n) ∧ w.heap[b]? = some (.cells cs t fr) ∧ cs.size = n ∧ (pl = true → fr = (0, 0)) ∧
    (fr = (0, 0) ∨ n ≤ fr.1) ∧ sh + c.length ≤ n ∧ ∀ (i : Nat) a, c[i]? = some a → ∃ v, cs[sh + i]? = some v ∧ VR σ a v := by
  obtain ⟨b, sh, n, ob, h1, h2, cs, t, fr, rfl, h3, h4, h5, h6, h7⟩ := hr.obj id _ h
  exact ⟨b, sh, n, cs, t, fr, h1, h2, h3, h4, h5, h6, h7⟩

/-- Writing a row of cells at a name. -/
theorem write_cells (hr : HR P σ s w) {id : Pos} {c : List AV} {pl : Bool} (h : T.get id s.h = some (.cells c pl)) {us : List AV} {vs : List Value} (hv : VRs σ us vs) (h1 : us.all oneA = true) {o : Nat} (hl : o + us.length ≤ c.length)
    {b sh n : Nat} (hσ : σ id = some (b, sh, n)) :
    ∃ w', (storeCells ⟨b, sh + o, none⟩ vs 0).run P w = .ok () w' ∧ Stp P σ s w σ { s with h := T.set id (some (.cells (setAll c o us) pl)) s.h } w' := by
  obtain ⟨b', sh', n', cs, t, fr, g1, g2, g3, g4, g5, g6, g7⟩ := hr.cellsOf h
  rw [hσ] at g1; cases g1
  have hlen := hv.length
  obtain ⟨w', k1, k2⟩ := run_storeCells (P := P) (b := b) (o := sh + o) (t := t) (fr := fr) vs 0 g2 (by rw [g3]; exact nofr g5) (by omega) (oneCells_of h1 hv)
  refine ⟨w', k1, stp_set hr h hσ k2 ⟨_, t, fr, rfl, by rw [setA_size]; exact g3, g4, g5, by rw [setAll_length]; exact g6, ?_⟩⟩
  exact setAll_VR hv hl (by omega) g7

theorem x_st {t : TypeId} {x y : Operand} {n : Nat} (ho : o.op = .store t x y) (hn : sizeT P t = some n) (hr : HR P σ s w) {a b v : AV} {s' : St} (ha : VR σ a (ρ x)) (hb : VR σ b (ρ y)) (h : xrun (.st n) [a, b] s = some (v, s')) : Did P σ s w o ρ v s' := by
  cases a <;> simp only [xrun, reduceCtorEq] at h
  rename_i id off
  split at h
  · rename_i c pl hc
    split at h
    · rename_i hcond
      simp only [Bool.and_eq_true, Nat.beq_eq] at hcond
      obtain ⟨⟨q1, q2⟩, q3⟩ := hcond
      have q2 := Nat.le_of_ble_eq_true q2
      simp only [AV.normsK_eq, setO, T.setK_eq, Option.some.injEq, Prod.mk.injEq] at h
      obtain ⟨rfl, rfl⟩ := h
      simp only [VR] at ha
      obtain ⟨bk, sh, m, hσ, ha⟩ := ha
      have hcells := cells_VR hb
      obtain ⟨w', k1, k2⟩ := write_cells (o := off) hr hc hcells q3 (by omega) hσ
      have hsz : (ρ y).cells.size = n := by have := hcells.length; simp only [Array.length_toList] at this; omega
      refine ⟨undef, .skip, w', σ, ?_, Or.inr ⟨rfl, rfl⟩, VR_undef, k2⟩
      simp [execOp, ho, ha, Instr.storeAt, Instr.sureAddr, storeVar, run_sizeOf hn, hsz, k1]
    · cases h
  · cases h

/-! ### Maps. -/
theorem turn_obj {b : Nat} {ob ob' : Obj} (h : w.heap[b]? = some ob) : Turned w { w with heap := w.heap.setIfInBounds b ob' } b ob' := by
  have hlt := (Array.getElem?_eq_some_iff.1 h).1
  refine ⟨by simp [hlt], fun c hc => ?_, by simp, rfl, rfl, rfl⟩
  simp only
  rw [Array.getElem?_setIfInBounds_ne (Ne.symm hc)]
theorem run_setObj {b : Nat} {ob ob' : Obj} (h : w.heap[b]? = some ob) (hc : ∀ c t f, ob ≠ .cells c t f) : (setObj b ob').run P w = .ok () { w with heap := w.heap.setIfInBounds b ob' } := by
  simp only [setObj, Sem.run, h]
theorem lmap_get {h : T AO} {id : Pos} {es : List (AV × AV × Nat)} {c : Nat} (e : lmap h id = some (es, c)) : T.get id h = some (.map es c) := by
  unfold Ev.lmap at e
  split at e
  · rename_i e'; cases e; exact e'
  · cases e
theorem ERs_set {es : List (AV × AV × Nat)} {k v : AV} {ku vu : Value} (hk : VR σ k ku) (hv : VR σ v vu) : ∀ {en : List MapEntry} {i : Nat}, ERs σ es en → ERs σ (setKey i k v es) (en.modify i fun e => { e with key := ku, val := vu }) := by
  induction es with
  | nil => intro en i h; have : en = [] := h; subst this; simp [setKey]; rfl
  | cons e es ih =>
    rintro en i ⟨m, l, rfl, h1, h2⟩
    cases i with
    | zero => simp only [setKey, List.modify_zero_cons]; exact ⟨_, _, rfl, ⟨hk, hv, h1.2.2⟩, h2⟩
    | succ i => simp only [setKey, List.modify_succ_cons]; exact ⟨_, _, rfl, h1, ih h2⟩
theorem ERs_del {es : List (AV × AV × Nat)} : ∀ {en : List MapEntry} {i : Nat}, ERs σ es en → ERs σ (delKey i es) (en.eraseIdx i) := by
  induction es with
  | nil => intro en i h; have : en = [] := h; subst this; simp [delKey]; rfl
  | cons e es ih =>
    rintro en i ⟨m, l, rfl, h1, h2⟩
    cases i with
    | zero => simp only [delKey, List.eraseIdx_cons_zero]; exact h2
    | succ i => simp only [delKey, List.eraseIdx_cons_succ]; exact ⟨_, _, rfl, h1, ih h2⟩
theorem sameBits_key {kk : Nat} {a b : AV} {u v : Value} (hk : isKey kk a = true) (ha : VR σ a u) (hb : VR σ b v) (h : keyEq a b = some true) (n : Nat) : Instr.sameBits n v u = true := by
  rcases isKey_shape hk ha with ⟨_, k, m, rfl, rfl⟩ | ⟨_, x, rfl, rfl, hx⟩ | ⟨_, x, rfl, rfl⟩
  · cases b <;> simp only [keyEq, reduceCtorEq] at h
    split at h
    · rename_i hkd
      have := kindEq_iff hkd; subst this
      simp only [Option.some.injEq, intEq_iff] at h
      subst h
      simp only [VR] at hb; subst hb
      cases n <;> simp [Instr.sameBits]
    · cases h
  · cases b <;> simp only [keyEq, reduceCtorEq] at h
    simp only [Option.some.injEq, eqS_iff] at h
    subst h
    simp only [VR] at hb
    obtain ⟨rfl, _⟩ := hb
    have := (mkBytes_eq hx hx).trans (eqS_iff.2 rfl)
    cases n <;> simp [Instr.sameBits, this]
  · cases b <;> simp only [keyEq, reduceCtorEq] at h
    rename_i y
    simp only [VR] at hb; subst hb
    simp only [Option.some.injEq, bEq_eq, beq_iff_eq] at h
    subst h
    cases n <;> simp [Instr.sameBits]
theorem x_mapUp {t k e : TypeId} {x y z : Operand} {kk : Nat} (ho : o.op = .mapUpdate t x y z ∨ o.op = .insert t x y z) (ht : P.underlying t = some (.map k e)) (hk : kindT P k = some kk) (hr : HR P σ s w) {a b c v : AV} {s' : St}
    (ha : VR σ a (ρ x)) (hb : VR σ b (ρ y)) (hc : VR σ c (ρ z)) (h : xrun (.mapUp kk) [a, b, c] s = some (v, s')) : Did P σ s w o ρ v s' := by
  obtain ⟨d, hu, hd⟩ := kindT_some hk
  cases a <;> simp only [xrun, reduceCtorEq] at h
  rename_i id
  split at h
  · rename_i es clock hm
    obtain ⟨bk, n, en, h1, h2, h3⟩ := hr.lmap hm
    simp only [VR] at ha
    obtain ⟨bk', n', e1, ha⟩ := ha
    rw [h1] at e1; cases e1
    have hg := getObj_run (P := P) h2 (by simp)
    have hck := run_checkKey (w := w) hu hd 9999 false (ρ y)
    have hexec : (execOp ρ o).run P w = ((Instr.mapUpdate t (.map (some bk)) (ρ y) (ρ z)).run P w).andThen fun _ w' => .ok .skip w' := by
      rcases ho with ho | ho <;> simp [execOp, ho, ha]
    split at h
    · rename_i hkey
      split at h
      · rename_i j r hfk
        have := findNow_of hd hkey hb h3 hfk
        simp only at this
        obtain ⟨u, m, me, f1, f2, _, f4, f5, f6, f7, f8⟩ := this
        simp only [Nat.sub_zero] at f4 f5
        have hf := run_findKey (P := P) (w := w) hu f1
        simp only [entK_eq, setO, T.setK_eq, Option.some.injEq, Prod.mk.injEq] at h
        obtain ⟨rfl, rfl⟩ := h
        have hmk : VR σ me.1 m.key := by
          have hER : ∀ {es : List (AV × AV × Nat)} {en : List MapEntry} {j : Nat} {me m}, ERs σ es en → en[j]? = some m → es[j]? = some me → ER σ me m := by
            intro es
            induction es with
            | nil => intro en j me m _ _ h; simp at h
            | cons e es ih =>
              rintro en j me m ⟨m', l, rfl, q1, q2⟩ q3 q4
              cases j with
              | zero => simp at q3 q4; subst q3; subst q4; exact q1
              | succ j => exact ih q2 (by simpa using q3) (by simpa using q4)
          exact (hER h3 f4 f5).1
        have hsb := sameBits_key hkey hb hmk f6 10000
        have hak : en[j]? = some m := by simpa using f4
        refine ⟨undef, .skip, _, σ, ?_, Or.inr ⟨rfl, rfl⟩, VR_undef, stp_set hr (lmap_get hm) h1 (turn_obj (ob' := .map (en.modify j fun e => { e with key := ρ y, val := ρ z }) clock) h2) ⟨rfl, _, rfl, ?_⟩⟩
        · rw [hexec]
          simp [Instr.mapUpdate, run_underlying ht, hg, hck, hf, Instr.keyThatStays, hak, hsb, run_setObj h2 (by simp)]
        · rw [Array.toList_modify]; exact ERs_set hb hc h3
      · rename_i hfk
        have := findNow_of hd hkey hb h3 hfk
        simp only at this
        have hf := run_findKey (P := P) (w := w) hu this
        simp only [entK_eq, natK_eq, setO, T.setK_eq, Option.some.injEq, Prod.mk.injEq] at h
        obtain ⟨rfl, rfl⟩ := h
        refine ⟨undef, .skip, _, σ, ?_, Or.inr ⟨rfl, rfl⟩, VR_undef, stp_set hr (lmap_get hm) h1 (turn_obj (ob' := .map (en.push { key := ρ y, val := ρ z, born := clock }) (clock + 1)) h2) ⟨rfl, _, rfl, ?_⟩⟩
        · rw [hexec]
          simp [Instr.mapUpdate, run_underlying ht, hg, hck, hf, run_setObj h2 (by simp)]
        · rw [Array.toList_push]; exact ERs.append ⟨hb, hc, rfl⟩ h3
      · cases h
    · cases h
  · cases h
end
end Go.Proofs.YtdpglpjahbiemaaGreatDoor.Ev
