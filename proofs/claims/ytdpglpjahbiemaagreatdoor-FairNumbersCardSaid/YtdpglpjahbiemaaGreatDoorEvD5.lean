/- A region whose order is drawn, one operation. No program. -/
import Derived.Test.YtdpglpjahbiemaaGreatDoorEvD4
namespace Go.Proofs.YtdpglpjahbiemaaGreatDoor.Ev
open Go

section
variable {P : Program} {ops : Array Oper} {N : Nat} {f : Nat → DS} {σ0 : Sg} {s0 : St} {w0 : World} {a0 : Act} {listed : Array Bool} {a : Act} {w : World} {R done : List AE} {σ : Sg} {t t0 : T AV} {self : Req → St → Option Res}

theorem down_step (hsz : listed.size = ops.size) {i : Nat} {o : Oper} (ho : ops[i]? = some o) (hed : ∀ e ∈ o.after, Region.binds .any e = true → listed[e.on]? = some true)
    (down : ∀ (i : Nat) o, ops[i]? = some o → listed[i]? = some true → ∀ e ∈ o.after, Region.binds .any e = true → listed[e.on]? = some true) :
    ∀ (j : Nat) q, ops[j]? = some q → (listed.setIfInBounds i true)[j]? = some true → ∀ e ∈ q.after, Region.binds .any e = true → (listed.setIfInBounds i true)[e.on]? = some true := by
  have hi := (Array.getElem?_eq_some_iff.1 ho).1
  intro j q hq hj e he hb
  rw [set_true (by omega)] at hj ⊢
  rcases hj with rfl | hj
  · rw [ho] at hq; cases hq; exact Or.inr (hed e he hb)
  · exact Or.inr (down j q hq hj e he hb)

/-- An operation that neither turns something nor makes something. -/
theorem iv_quiet (hd : Dr P ops) (hn : Rn self (osOf P ops) t0 s0 (advMk (osOf P ops) s0.nx) f) (hf : ops.all (fitOper N ops) = true) (h : Iv P ops N f (advMk (osOf P ops) s0.nx) σ0 s0 w0 a0 listed a w R done σ t) {i : Nat} {o : Oper} (ho : ops[i]? = some o)
    (hed : ∀ e ∈ o.after, Region.binds .any e = true → listed[e.on]? = some true) (hla : ∀ e ∈ (f ops.size).acts, e.i ≠ i) (hlm : ∀ p ∈ (f ops.size).mks, p.1 ≠ i) {v : AV} {u : Value} (hv : VR σ v u) (ht : (f (i + 1)).t = putD (f i).t (o.dst.map posOf) v) :
    Iv P ops N f (advMk (osOf P ops) s0.nx) σ0 s0 w0 a0 (listed.setIfInBounds i true) (a.put o.dst u) w R done σ (putD t (o.dst.map posOf) v) := by
  have hi := (Array.getElem?_eq_some_iff.1 ho).1
  have hsz := h.sz
  have hfo : fitOper N ops o = true := Array.all_eq_true_iff_forall_mem.1 hf o (Array.mem_of_getElem? ho)
  have hdst : ∀ q, o.dst = some q → q < N := by
    intro q hq
    simp only [fitOper, hq, Bool.and_eq_true, decide_eq_true_eq] at hfo
    exact hfo.1
  refine ⟨by simpa using hsz, h.split, ?_, ?_, down_step hsz ho hed h.down, h.hr, h.upd, h.agree, h.le, ?_, ?_, ?_, ?_, ?_⟩
  · intro e he; rw [set_true (by omega)]; exact Or.inr (h.dn e he)
  · intro e he; rw [set_false (by omega)]; exact ⟨hla e (by rw [h.split]; simp [he]), h.rs e he⟩
  · have := TR_putO h.tr hdst hv
    cases hq : o.dst <;> simpa [putD, hq] using this
  · exact tt_step hd hn hsz (osOf_get ho) ht h.tt
  · intro p hp hl; rw [set_false (by omega)] at hl; exact h.un p hp hl.2
  · refine ⟨fun p ⟨h1, h2, h3⟩ => h.fl.one p ⟨h1, ?_, h3⟩, fun p q ⟨h1, h2, h3⟩ ⟨k1, k2, k3⟩ => h.fl.two p q ⟨h1, ?_, h3⟩ ⟨k1, ?_, k3⟩⟩
    · rw [set_true (by omega)] at h2; exact h2.resolve_left (hlm p h1)
    · rw [set_true (by omega)] at h2; exact h2.resolve_left (hlm p h1)
    · rw [set_true (by omega)] at k2; exact k2.resolve_left (hlm q k1)
  · rw [put_defers]; exact h.df

/-- One that makes something. -/
theorem iv_mk (hd : Dr P ops) (hn : Rn self (osOf P ops) t0 s0 (advMk (osOf P ops) s0.nx) f) (hf : ops.all (fitOper N ops) = true) (h : Iv P ops N f (advMk (osOf P ops) s0.nx) σ0 s0 w0 a0 listed a w R done σ t) {i : Nat} {o : Oper} (ho : ops[i]? = some o)
    (hno : listed[i]? = some false) (hed : ∀ e ∈ o.after, Region.binds .any e = true → listed[e.on]? = some true) (hla : ∀ e ∈ (f ops.size).acts, e.i ≠ i) {id : Pos} {ob : AO} (hm : (i, id, ob) ∈ (f ops.size).mks)
    {n : Nat} {cob : Obj} {w' : World} (hp : Pushed w w' cob) (hor : OR P σ ob 0 n cob) {v : AV} {u : Value} (hv : VR (σ.put id (w.heap.size, 0, n)) v u) (ht : (f (i + 1)).t = putD (f i).t (o.dst.map posOf) v) :
    Iv P ops N f (advMk (osOf P ops) s0.nx) σ0 s0 w0 a0 (listed.setIfInBounds i true) (a.put o.dst u) w' R done (σ.put id (w.heap.size, 0, n)) (putD t (o.dst.map posOf) v) := by
  have hi := (Array.getElem?_eq_some_iff.1 ho).1
  have hsz := h.sz
  have hfo : fitOper N ops o = true := Array.all_eq_true_iff_forall_mem.1 hf o (Array.mem_of_getElem? ho)
  have hdst : ∀ q, o.dst = some q → q < N := by
    intro q hq
    simp only [fitOper, hq, Bool.and_eq_true, decide_eq_true_eq] at hfo
    exact hfo.1
  have hnd := hn.nodup ops.size (by rw [osOf_len]; exact Nat.le_refl _)
  have hrl := hn.ridle
  rw [osOf_len] at hrl
  have hid : σ id = none := h.un _ hm hno
  have hidlt : id.toNat < (nxOf (advMk (osOf P ops) s0.nx) done).toNat := Nat.lt_of_lt_of_le (hrl _ hm) h.le
  -- one index, one thing
  have hone : ∀ p ∈ (f ops.size).mks, p.1 = i → p = (i, id, ob) := by
    intro p hp' e
    have key : ∀ {l : List (Nat × Pos × AO)}, (l.map (·.1)).Nodup → ∀ p ∈ l, ∀ q ∈ l, p.1 = q.1 → p = q := by
      intro l
      induction l with
      | nil => intro _ p hp; cases hp
      | cons x l ih =>
        intro hnn p hp q hq e
        simp only [List.map_cons, List.nodup_cons] at hnn
        rcases List.mem_cons.1 hp with rfl | hp1 <;> rcases List.mem_cons.1 hq with rfl | hq1
        · rfl
        · exact absurd (by rw [e]; exact List.mem_map_of_mem hq1) hnn.1
        · exact absurd (by rw [← e]; exact List.mem_map_of_mem hp1) hnn.1
        · exact ih hnn.2 p hp1 q hq1 e
    exact key hnd.2.2 p hp' _ hm e
  obtain ⟨k1, k2, k3⟩ := fls_new (F' := fun p => p ∈ (f ops.size).mks ∧ (listed.setIfInBounds i true)[p.1]? = some true ∧ ∀ e ∈ done, Nat.testBit e.pre p.1 = false) h.fl h.hr hid hidlt hp hor h.upd.size (fun p ⟨h1, h2, h3⟩ => by
    rw [set_true (by omega)] at h2
    rcases h2 with h2 | h2
    · rw [hone p h1 h2]; exact Or.inr ⟨rfl, rfl⟩
    · exact Or.inl ⟨h1, h2, h3⟩)
  have hext : Ext σ (σ.put id (w.heap.size, 0, n)) := by
    intro q x hq
    rw [Sg.put_other]
    · exact hq
    · intro e; rw [e, hid] at hq; cases hq
  refine ⟨by simpa using hsz, h.split, ?_, ?_, down_step hsz ho hed h.down, k1, ?_, ?_, h.le, ?_, ?_, ?_, k2, ?_⟩
  · intro e he; rw [set_true (by omega)]; exact Or.inr (h.dn e he)
  · intro e he; rw [set_false (by omega)]; exact ⟨hla e (by rw [h.split]; simp [he]), h.rs e he⟩
  · refine ⟨hp.os.trans h.upd.os, hp.tape.trans h.upd.tape, hp.output.trans h.upd.output, by rw [hp.heap]; simp; have := h.upd.size; omega, fun b hb hl => ?_, fun b hb => h.upd.own b (k3 b hb)⟩
    rw [hp.heap, Array.getElem?_push_lt (by have := h.upd.size; omega), ← h.upd.old b hb hl]
    simp [show b < w.heap.size by have := h.upd.size; omega]
  · intro q hq
    rw [Sg.put_other]
    · exact h.agree q hq
    · intro e; subst e; have := (hnd.2.1 _ hm).1; simp only at this; omega
  · have := TR_putO (h.tr.ext hext) hdst hv
    cases hq : o.dst <;> simpa [putD, hq] using this
  · exact tt_step hd hn hsz (osOf_get ho) ht h.tt
  · intro p hp' hl
    rw [set_false (by omega)] at hl
    rw [Sg.put_other]
    · exact h.un p hp' hl.2
    · intro e
      have key : ∀ {l : List (Nat × Pos × AO)}, (l.map (·.2.1)).Nodup → ∀ p ∈ l, ∀ q ∈ l, p.2.1 = q.2.1 → p = q := by
        intro l
        induction l with
        | nil => intro _ p hp; cases hp
        | cons x l ih =>
          intro hnn p hp q hq e
          simp only [List.map_cons, List.nodup_cons] at hnn
          rcases List.mem_cons.1 hp with rfl | hp1 <;> rcases List.mem_cons.1 hq with rfl | hq1
          · rfl
          · exact absurd (by rw [e]; exact List.mem_map_of_mem hq1) hnn.1
          · exact absurd (by rw [← e]; exact List.mem_map_of_mem hp1) hnn.1
          · exact ih hnn.2 p hp1 q hq1 e
      have := key hnd.1 p hp' _ hm e
      rw [this] at hl; exact hl.1 rfl
  · rw [put_defers]; exact h.df

/-- One that turns something. -/
theorem iv_act (hd : Dr P ops) (hn : Rn self (osOf P ops) t0 s0 (advMk (osOf P ops) s0.nx) f) (hf : ops.all (fitOper N ops) = true) {e0 : AE} (h : Iv P ops N f (advMk (osOf P ops) s0.nx) σ0 s0 w0 a0 listed a w (R ++ [e0]) done σ t) {i : Nat} {o : Oper} (ho : ops[i]? = some o)
    (hei : e0.i = i) (hni : ∀ e ∈ R, e.i ≠ i) (hed : ∀ e ∈ o.after, Region.binds .any e = true → listed[e.on]? = some true) (hlm : ∀ p ∈ (f ops.size).mks, p.1 ≠ i) {l : List (Nat × Pos × AO)} (hl : ∀ p ∈ l, p ∈ (f ops.size).mks ∧ listed[p.1]? = some true ∧ ∀ e ∈ done, Nat.testBit e.pre p.1 = false)
    (hll : ∀ p ∈ l, Nat.testBit e0.pre p.1 = true) (hnl : (l.map (·.2.1)).Nodup) (hlc : ∀ p, p ∈ (f ops.size).mks → listed[p.1]? = some true → (∀ e ∈ done, Nat.testBit e.pre p.1 = false) → Nat.testBit e0.pre p.1 = false → ∀ q ∈ l, q.2.1 ≠ p.2.1)
    {σ' : Sg} {w' : World} (hst : Stp P σ { h := insH l (hOf s0.h done), nx := nxOf (advMk (osOf P ops) s0.nx) done } w σ' e0.so w') {v : AV} {u : Value} (hv : VR σ' v u) (ht : (f (i + 1)).t = putD (f i).t (o.dst.map posOf) v) :
    Iv P ops N f (advMk (osOf P ops) s0.nx) σ0 s0 w0 a0 (listed.setIfInBounds i true) (a.put o.dst u) w' R (e0 :: done) σ' (putD t (o.dst.map posOf) v) := by
  have hi := (Array.getElem?_eq_some_iff.1 ho).1
  have hsz := h.sz
  have hfo : fitOper N ops o = true := Array.all_eq_true_iff_forall_mem.1 hf o (Array.mem_of_getElem? ho)
  have hdst : ∀ q, o.dst = some q → q < N := by
    intro q hq
    simp only [fitOper, hq, Bool.and_eq_true, decide_eq_true_eq] at hfo
    exact hfo.1
  have hnd := hn.nodup ops.size (by rw [osOf_len]; exact Nat.le_refl _)
  have hrl := hn.ridle
  rw [osOf_len] at hrl
  have hHR := hr_ins h.hr h.fl hl hnl
  have hext : Ext σ σ' := hst.ext hHR
  have hmlt : ∀ p ∈ (f ops.size).mks, p.2.1.toNat < (nxOf (advMk (osOf P ops) s0.nx) done).toNat := fun p hp => Nat.lt_of_lt_of_le (hrl p hp) h.le
  refine ⟨by simpa using hsz, by rw [h.split]; simp, ?_, ?_, down_step hsz ho hed h.down, hst.hr, (upd_ins h.upd h.fl hl hnl).trans hst.upd, ?_, Nat.le_trans h.le hst.le, ?_, ?_, ?_, ?_, ?_⟩
  · intro e he
    rw [set_true (by omega)]
    rcases List.mem_cons.1 he with rfl | he
    · exact Or.inl hei
    · exact Or.inr (h.dn e he)
  · intro e he; rw [set_false (by omega)]; exact ⟨hni e he, h.rs e (by simp [he])⟩
  · intro q hq
    rw [hst.agree q (by
      have : s0.nx.toNat ≤ (advMk (osOf P ops) s0.nx).toNat := by rw [advMk_cnt]; omega
      have := h.le; simp only; omega)]
    exact h.agree q hq
  · have := TR_putO (h.tr.ext hext) hdst hv
    cases hq : o.dst <;> simpa [putD, hq] using this
  · exact tt_step hd hn hsz (osOf_get ho) ht h.tt
  · intro p hp hlp
    rw [set_false (by omega)] at hlp
    rw [hst.agree p.2.1 (hmlt p hp)]
    exact h.un p hp hlp.2
  · refine fls_step h.fl h.hr hl hnl (fun p hp => hmlt p hp.1) hst ?_
    rintro p ⟨h1, h2, h3⟩
    rw [set_true (by omega)] at h2
    have h2 := h2.resolve_left (hlm p h1)
    have h4 : ∀ e ∈ done, Nat.testBit e.pre p.1 = false := fun e he => h3 e (by simp [he])
    exact ⟨⟨h1, h2, h4⟩, hlc p h1 h2 h4 (h3 e0 (by simp))⟩
  · rw [put_defers]; exact h.df
end
end Go.Proofs.YtdpglpjahbiemaaGreatDoor.Ev
