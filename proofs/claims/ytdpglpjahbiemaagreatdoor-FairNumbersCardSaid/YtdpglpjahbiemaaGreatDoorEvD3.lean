/- A region whose order is drawn: what holds between two of its operations. No program. -/
import Derived.Test.YtdpglpjahbiemaaGreatDoorEvD2
namespace Go.Proofs.YtdpglpjahbiemaaGreatDoor.Ev
open Go

def osOf (P : Program) (ops : Array Oper) : List AOp := ops.toList.zipIdx.map fun p => compOper P ops (Region.before ops) p.1 p.2
theorem osOf_len (P : Program) (ops : Array Oper) : (osOf P ops).length = ops.size := by simp [osOf]
theorem osOf_get {P : Program} {ops : Array Oper} {i : Nat} {o : Oper} (h : ops[i]? = some o) : (osOf P ops)[i]? = some (compOper P ops (Region.before ops) o i) := by
  have : ops.toList[i]? = some o := by simpa using h
  simp [osOf, List.getElem?_map, List.getElem?_zipIdx, this]
theorem osOf_inv {P : Program} {ops : Array Oper} {i : Nat} {q : AOp} (h : (osOf P ops)[i]? = some q) : ∃ o, ops[i]? = some o ∧ q = compOper P ops (Region.before ops) o i := by
  have hl := (List.getElem?_eq_some_iff.1 h).1
  rw [osOf_len] at hl
  have ho : ops[i]? = some ops[i] := Array.getElem?_eq_getElem hl
  rw [osOf_get ho] at h
  exact ⟨_, ho, (Option.some.inj h).symm⟩

/-- What the check of the text says. -/
structure Dr (P : Program) (ops : Array Oper) : Prop where
  edge : ∀ (i : Nat) o, ops[i]? = some o → ∀ e ∈ o.after, Region.binds .any e = true → e.on < i
  uniq : ∀ (i j : Nat) o q p, (osOf P ops)[i]? = some o → (osOf P ops)[j]? = some q → o.dst = some p → q.dst = some p → i = j
  look : ∀ (i j : Nat) o q p, (osOf P ops)[i]? = some o → (osOf P ops)[j]? = some q → q.dst = some p → (Opd.t p ∈ o.args ∨ ∃ b, o.guard = some (p, b)) → Nat.testBit o.pre j = true
  row : ∀ (i j : Nat) o q k k', (osOf P ops)[i]? = some o → (osOf P ops)[j]? = some q → o.k = .x k → q.k = .x k' → i < j → Nat.testBit q.pre i = true
  norng : ∀ (i : Nat) o, (osOf P ops)[i]? = some o → o.k ≠ .m .rngM
theorem mem_zip {l : List AOp} {i : Nat} {o : AOp} (h : l[i]? = some o) : (o, i) ∈ l.zipIdx := by
  rw [List.mem_zipIdx_iff_getElem?]; exact h
theorem isAct_x {o : AOp} {k : XK} (h : o.k = .x k) : isAct o = true := by
  obtain ⟨d, k', a, g, p⟩ := o; simp only at h; subst h; rfl
theorem Dr.of {P : Program} {ops : Array Oper} (h : drawOk ops (osOf P ops) = true) : Dr P ops := by
  simp only [drawOk, Bool.and_eq_true, List.all_eq_true] at h
  obtain ⟨⟨⟨⟨⟨h1, h2⟩, h3⟩, h4⟩, h5⟩, h6⟩ := h
  refine ⟨?_, ?_, ?_, ?_, ?_⟩
  · intro i o ho e he hb
    have := h1 (o, i) (by rw [List.mem_zipIdx_iff_getElem?]; simpa using ho)
    have := Array.all_eq_true_iff_forall_mem.1 this e he
    simpa [hb] using this
  · intro i j o q p hi hj ho hq
    have := h2 (o, i) (mem_zip hi) (q, j) (mem_zip hj)
    simp only [ho, hq, Bool.or_eq_true, beq_iff_eq, Option.isNone_some, Bool.false_eq_true, or_false, decide_true, Bool.not_true] at this
    exact this
  · intro i j o q p hi hj hq hl
    have := h3 (o, i) (mem_zip hi) (q, j) (mem_zip hj)
    simp only [hq, Bool.or_eq_true] at this
    rcases this with k | k
    · exact k
    · exfalso
      simp only [Bool.and_eq_true, Bool.not_eq_true', List.any_eq_false] at k
      rcases hl with hl | ⟨b, hl⟩
      · have := k.1 _ hl; simp at this
      · have := k.2; rw [hl] at this; simp at this
  · intro i j o q k k' hi hj ho hq hlt
    have := h4 (o, i) (mem_zip hi) (q, j) (mem_zip hj)
    simpa [isAct_x ho, isAct_x hq, hlt] using this
  · intro i o hi e
    have := h5 o (List.mem_of_getElem? hi)
    rw [e] at this; simp at this

/-! ### What was made and waits. -/
section
variable {P : Program} {σ σ' σ0 : Sg} {s s' s0 : St} {w w' w0 : World}

def Fl (P : Program) (σ : Sg) (s : St) (w w0 : World) (p : Nat × Pos × AO) : Prop :=
  ∃ b m cob, σ p.2.1 = some (b, 0, m) ∧ w.heap[b]? = some cob ∧ OR P σ p.2.2 0 m cob ∧ ¬ Live σ s b ∧ w0.heap.size ≤ b
structure Fls (P : Program) (σ : Sg) (s : St) (w w0 : World) (F : Nat × Pos × AO → Prop) : Prop where
  one : ∀ p, F p → Fl P σ s w w0 p
  two : ∀ p q, F p → F q → ∀ x y, σ p.2.1 = some x → σ q.2.1 = some y → x.1 = y.1 → p.2.1 = q.2.1

theorem insH_cases {id : Pos} {o : AO} {l : List (Nat × Pos × AO)} {h : T AO} (hn : (l.map (·.2.1)).Nodup) (e : T.get id (insH l h) = some o) : (∃ p ∈ l, p.2.1 = id ∧ p.2.2 = o) ∨ ((∀ p ∈ l, p.2.1 ≠ id) ∧ T.get id h = some o) := by
  by_cases hp : ∃ p ∈ l, p.2.1 = id
  · obtain ⟨p, hp, rfl⟩ := hp
    rw [insH_same hn p hp] at e
    exact Or.inl ⟨p, hp, rfl, Option.some.inj e⟩
  · have hp' : ∀ p ∈ l, p.2.1 ≠ id := fun p h1 h2 => hp ⟨p, h1, h2⟩
    rw [insH_other hp'] at e
    exact Or.inr ⟨hp', e⟩
theorem live_ins {l : List (Nat × Pos × AO)} (hn : (l.map (·.2.1)).Nodup) {b : Nat} (h : Live σ { s with h := insH l s.h } b) : Live σ s b ∨ ∃ p ∈ l, ∃ x, σ p.2.1 = some x ∧ x.1 = b := by
  obtain ⟨id, o, x, h1, h2, h3⟩ := h
  rcases insH_cases hn h1 with ⟨p, hp, rfl, rfl⟩ | ⟨_, h4⟩
  · exact Or.inr ⟨p, hp, x, h2, h3⟩
  · exact Or.inl ⟨id, o, x, h4, h2, h3⟩
theorem hr_ins {F : Nat × Pos × AO → Prop} {l : List (Nat × Pos × AO)} (hr : HR P σ s w) (hf : Fls P σ s w w0 F) (hl : ∀ p ∈ l, F p) (hn : (l.map (·.2.1)).Nodup) : HR P σ { s with h := insH l s.h } w := by
  refine ⟨hr.dom, ?_, ?_⟩
  · intro id o e
    rcases insH_cases hn e with ⟨p, hp, rfl, rfl⟩ | ⟨_, h4⟩
    · obtain ⟨b, m, cob, h1, h2, h3, _⟩ := hf.one p (hl p hp)
      exact ⟨b, 0, m, cob, h1, h2, h3⟩
    · exact hr.obj id o h4
  · intro id id' o o' x x' e e' hx hx' hxx
    rcases insH_cases hn e with ⟨p, hp, rfl, rfl⟩ | ⟨_, h4⟩ <;> rcases insH_cases hn e' with ⟨q, hq, rfl, rfl⟩ | ⟨_, h5⟩
    · exact hf.two p q (hl p hp) (hl q hq) x x' hx hx' hxx
    · exfalso
      obtain ⟨b, m, cob, h1, h2, h3, h6, _⟩ := hf.one p (hl p hp)
      rw [h1] at hx; cases hx
      exact h6 ⟨_, _, _, h5, hx', hxx.symm⟩
    · exfalso
      obtain ⟨b, m, cob, h1, h2, h3, h6, _⟩ := hf.one q (hl q hq)
      rw [h1] at hx'; cases hx'
      exact h6 ⟨_, _, _, h4, hx, hxx⟩
    · exact hr.inj id id' o o' x x' h4 h5 hx hx' hxx
theorem upd_ins {F : Nat × Pos × AO → Prop} {l : List (Nat × Pos × AO)} (hu : Upd w0 w (Live σ0 s0) (Live σ s)) (hf : Fls P σ s w w0 F) (hl : ∀ p ∈ l, F p) (hn : (l.map (·.2.1)).Nodup) : Upd w0 w (Live σ0 s0) (Live σ { s with h := insH l s.h }) := by
  refine { hu with own := fun b hb => ?_ }
  rcases live_ins hn hb with h1 | ⟨p, hp, x, h1, h2⟩
  · exact hu.own b h1
  · obtain ⟨b', m, cob, h3, _, _, _, h7⟩ := hf.one p (hl p hp)
    rw [h3] at h1; cases h1; subst h2
    exact Or.inr h7

/-- Through a step that may turn some of what waits. -/
theorem fls_step {F F' : Nat × Pos × AO → Prop} {l : List (Nat × Pos × AO)} (hf : Fls P σ s w w0 F) (hr : HR P σ s w) (hl : ∀ p ∈ l, F p) (hn : (l.map (·.2.1)).Nodup) (hlt : ∀ p, F p → p.2.1.toNat < s.nx.toNat)
    (hst : Stp P σ { s with h := insH l s.h } w σ' s' w') (hF : ∀ p, F' p → F p ∧ ∀ q ∈ l, q.2.1 ≠ p.2.1) : Fls P σ' s' w' w0 F' := by
  have hag : ∀ p, F p → σ' p.2.1 = σ p.2.1 := fun p hp => hst.agree _ (hlt p hp)
  have hext : Ext σ σ' := hst.ext (hr_ins hr hf hl hn)
  refine ⟨fun p hp => ?_, fun p q hp hq x y hx hy hxy => ?_⟩
  · obtain ⟨hp, hne⟩ := hF p hp
    obtain ⟨b, m, cob, h1, h2, h3, h4, h5⟩ := hf.one p hp
    have hb := (Array.getElem?_eq_some_iff.1 h2).1
    have hnl : ¬ Live σ { s with h := insH l s.h } b := by
      intro hlv
      rcases live_ins hn hlv with k | ⟨q, hq, x, k1, k2⟩
      · exact h4 k
      · exact hne q hq (hf.two q p (hl q hq) hp x _ k1 h1 k2)
    refine ⟨b, m, cob, (hag p hp).trans h1, (hst.upd.old b hb hnl).trans h2, h3.ext hext, fun hlv => ?_, h5⟩
    rcases hst.upd.own b hlv with k | k
    · exact hnl k
    · omega
  · rw [hag p (hF p hp).1] at hx
    rw [hag q (hF q hq).1] at hy
    exact hf.two p q (hF p hp).1 (hF q hq).1 x y hx hy hxy

/-- Through the making of one that is to wait. -/
theorem fls_new {F F' : Nat × Pos × AO → Prop} {id : Pos} {n : Nat} {ob : AO} {cob : Obj} (hf : Fls P σ s w w0 F) (hr : HR P σ s w) (hid : σ id = none) (hlt : id.toNat < s.nx.toNat) (hp : Pushed w w' cob) (ho : OR P σ ob 0 n cob) (hsz : w0.heap.size ≤ w.heap.size)
    (hF : ∀ p, F' p → F p ∨ (p.2.1 = id ∧ p.2.2 = ob)) : HR P (σ.put id (w.heap.size, 0, n)) s w' ∧ Fls P (σ.put id (w.heap.size, 0, n)) s w' w0 F' ∧ (∀ b, Live (σ.put id (w.heap.size, 0, n)) s b → Live σ s b) := by
  have hext : Ext σ (σ.put id (w.heap.size, 0, n)) := by
    intro q x hq
    rw [Sg.put_other]
    · exact hq
    · intro e; rw [e, hid] at hq; cases hq
  have hold : ∀ b, b < w.heap.size → w'.heap[b]? = w.heap[b]? := by
    intro b hb; rw [hp.heap, Array.getElem?_push_lt hb]; simp [hb]
  have hgn : T.get id s.h = none := by
    cases hg : T.get id s.h with
    | none => rfl
    | some o => obtain ⟨b, sh, m, ob', h1, _⟩ := hr.obj id o hg; rw [hid] at h1; cases h1
  have hne : ∀ {q : Pos} {o : AO}, T.get q s.h = some o → q ≠ id := by
    intro q o hq e; rw [e, hgn] at hq; cases hq
  have hliv : ∀ b, Live (σ.put id (w.heap.size, 0, n)) s b → Live σ s b := by
    rintro b ⟨q, o, x, h1, h2, h3⟩
    rw [Sg.put_other _ _ (hne h1)] at h2
    exact ⟨q, o, x, h1, h2, h3⟩
  have hlb : ∀ b, Live σ s b → b < w.heap.size := by
    rintro b ⟨q, o, x, h1, h2, h3⟩
    obtain ⟨b', sh, m, ob', k1, k2, _⟩ := hr.obj q o h1
    rw [k1] at h2; cases h2; subst h3
    exact (Array.getElem?_eq_some_iff.1 k2).1
  refine ⟨⟨?_, ?_, ?_⟩, ⟨?_, ?_⟩, hliv⟩
  · intro q hq
    rw [Sg.put_other _ _ (fun e => by subst e; omega)]
    exact hr.dom q hq
  · intro q o hq
    obtain ⟨b, sh, m, ob', h1, h2, h3⟩ := hr.obj q o hq
    exact ⟨b, sh, m, ob', hext _ _ h1, (hold _ (Array.getElem?_eq_some_iff.1 h2).1).trans h2, h3.ext hext⟩
  · intro q q' o o' x x' h1 h2 h3 h4 h5
    rw [Sg.put_other _ _ (hne h1)] at h3
    rw [Sg.put_other _ _ (hne h2)] at h4
    exact hr.inj q q' o o' x x' h1 h2 h3 h4 h5
  · intro p hp'
    rcases hF p hp' with h1 | ⟨h1, h2⟩
    · obtain ⟨b, m, cob', k1, k2, k3, k4, k5⟩ := hf.one p h1
      exact ⟨b, m, cob', hext _ _ k1, (hold _ (Array.getElem?_eq_some_iff.1 k2).1).trans k2, k3.ext hext, fun hl => k4 (hliv b hl), k5⟩
    · refine ⟨w.heap.size, n, cob, by rw [h1]; exact Sg.put_same _ _ _, by rw [hp.heap]; simp, by rw [h2]; exact ho.ext hext, fun hl => ?_, hsz⟩
      have := hlb _ (hliv _ hl); omega
  · intro p q hp' hq' x y hx hy hxy
    rcases hF p hp' with h1 | ⟨h1, h2⟩ <;> rcases hF q hq' with k1 | ⟨k1, k2⟩
    · obtain ⟨b, m, cob', e1, _⟩ := hf.one p h1
      obtain ⟨b', m', cob'', e2, _⟩ := hf.one q k1
      rw [hext _ _ e1] at hx; rw [hext _ _ e2] at hy
      exact hf.two p q h1 k1 _ _ (by rw [e1, hx]) (by rw [e2, hy]) hxy
    · obtain ⟨b, m, cob', e1, e2, _⟩ := hf.one p h1
      rw [hext _ _ e1] at hx
      rw [k1, Sg.put_same] at hy
      cases hx; cases hy
      have := (Array.getElem?_eq_some_iff.1 e2).1
      simp only at hxy; omega
    · obtain ⟨b, m, cob', e1, e2, _⟩ := hf.one q k1
      rw [hext _ _ e1] at hy
      rw [h1, Sg.put_same] at hx
      cases hx; cases hy
      have := (Array.getElem?_eq_some_iff.1 e2).1
      simp only at hxy; omega
    · rw [h1, k1]
end
end Go.Proofs.YtdpglpjahbiemaaGreatDoor.Ev
