/- Operations that turn something: append, copy, clear, the next of a map. No program. -/
import Derived.Test.YtdpglpjahbiemaaGreatDoorEvX2
namespace Go.Proofs.YtdpglpjahbiemaaGreatDoor.Ev
open Go

section
variable {P : Program} {σ : Sg} {s : St} {w w' : World} {o : Oper} {ρ : Operand → Value}

/-- What the model's append does, at a slice and n elements more (new: their cells). -/
structure Ap (P : Program) (w : World) (o : Oper) (ρ : Operand → Value) (base : Option Addr) (sLen sCap size n : Nat) (e : TypeId) (zs : Array Value) (bytes : Nat) (new : List Value) : Prop where
  room : ∀ w1, sLen + n ≤ sCap → (match base with | some a => (storeCells (a.add (sLen * size)) new 0).run P w = .ok () w1 | none => w1 = w) → (execOp ρ o).run P w = .ok (.value (.slice base (sLen + n) sCap)) w1
  grow : sCap < sLen + n → sLen + n < 1000000 → bytes < 1000000 → ∀ old : List Value, (∀ W, W.heap = w.heap → (Builtin.firstCells size sLen (.slice base sLen sCap)).run P W = .ok old.toArray W) →
    ∃ c w', sLen + n ≤ c ∧ (execOp ρ o).run P w = .ok (.value (.slice (some ⟨w.heap.size, 0, none⟩) (sLen + n) c)) w' ∧ Pushed w w' (.cells (old.toArray ++ (new.toArray ++ Builtin.zeroCells zs (c - (sLen + n)))) e)

theorem notInt {d : TypeDesc} (hd : ∀ k, d ≠ .int k) : (match d with | TypeDesc.int _ => true | _ => false) = false := by
  cases d <;> first | rfl | exact absurd rfl (hd _)

theorem ap_append {t tx e : TypeId} {d : TypeDesc} {x y : Operand} {ts : Array TypeId} {size : Nat} {i : TypeInfo} {zs : Value} (ho : o.op = .call { callee := .builtin .append, args := #[x, y], argTypes := ts })
    (h0 : ts[0]? = some t) (ht : P.underlying t = some (.slice e)) (h1 : ts[1]? = some tx) (htx : P.underlying tx = some d) (hd : ∀ k, d ≠ .int k) (hn : sizeT P e = some size) (hi : P.info? e = some i) (hz : ∀ W, (zeroValue e).run P W = .ok zs W)
    {base : Option Addr} {sLen sCap n : Nat} (hx : ρ x = .slice base sLen sCap) {new : List Value} (hlen : ∀ W, (Builtin.lenOf (ρ y)).run P W = .ok n W) (hnew : ∀ W, W.heap = w.heap → (Builtin.firstCells size n (ρ y)).run P W = .ok new.toArray W) :
    Ap P w o ρ base sLen sCap size n e zs.cells i.bytes new := by
  have hnewW := hnew w rfl
  have hsz : ∀ W, (sizeOf e).run P W = .ok size W := fun W => run_sizeOf hn
  refine ⟨fun w1 hroom hst => ?_, fun hgrow hb hbytes old hold => ?_⟩
  · refine run_builtinX ho ?_
    cases base with
    | none =>
      simp only at hst; subst hst
      simp [builtin, Builtin.append_, h0, h1, hx, run_underlying ht, run_underlying htx, hsz, hlen, hroom, hnewW]
    | some a =>
      simp only at hst
      simp [builtin, Builtin.append_, h0, h1, hx, run_underlying ht, run_underlying htx, hsz, hlen, hroom, hnewW, hst]
  · have hcapb := nextcap_le hgrow
    have hg1 : ¬ (sLen + n ≤ sCap) := by omega
    have hm : IntKind.i64.max = 9223372036854775807 := by decide
    have hg2 : ¬ (9223372036854775807 < (sLen : Int) + (n : Int)) := by omega
    have hg3 : ¬ (Builtin.nextslicecap (sLen + n) sCap * i.bytes > 2 ^ 48) := by
      have h5 : Builtin.nextslicecap (sLen + n) sCap * i.bytes ≤ 2001000 * 1000000 := Nat.mul_le_mul (by omega) (by omega)
      omega
    obtain ⟨c, hc⟩ : ∃ c, c = Question.cut (.appendCap (sLen + n) sCap e) (w.tape w.drawn (.appendCap (sLen + n) sCap e)) := ⟨_, rfl⟩
    refine ⟨c, w.drew.alloc (.cells (old.toArray ++ (new.toArray ++ Builtin.zeroCells zs.cells (c - (sLen + n)))) e), by rw [hc]; simp only [Question.cut]; omega, ?_, ⟨rfl, rfl, rfl, rfl⟩⟩
    refine run_builtinX ho ?_
    have hq : (Question.appendCap (sLen + n) sCap e).forced = false := rfl
    have hold' := hold w.drew rfl
    have hnew' := hnew w.drew rfl
    simp [builtin, Builtin.append_, h0, h1, hx, run_underlying ht, run_underlying htx, hsz, hlen, hg1, hg2, hg3, typeInfo, hi, hq, hold', hnew', hz, newRow, ← hc]
theorem zeroCells_size (zs : Array Value) (n : Nat) : (Builtin.zeroCells zs n).size = n * zs.size := by simp [Builtin.zeroCells]
theorem app_core {base : Option Addr} {sLen sCap size n bytes : Nat} {e : TypeId} {zs : Array Value} {newV : List Value} (hA : Ap P w o ρ base sLen sCap size n e zs bytes newV) (hr : HR P σ s w) {a v : AV} {zero new : List AV} {s' : St}
    {sv : Value} (hsv : sv = .slice base sLen sCap) (ha : VR σ a sv) (hnew : VRs σ new newV) (hzs : zs.size = zero.length) (h : appRun size zero bytes a n new s = some (v, s')) : Did P σ s w o ρ v s' := by
  subst hsv
  unfold appRun at h
  split at h
  · cases h
  · rename_i hcond
    simp only [Bool.or_eq_true, Bool.not_eq_true', not_or, Bool.not_eq_false, Nat.beq_eq, Nat.blt_eq] at hcond
    obtain ⟨⟨⟨⟨q1, q2⟩, q3⟩, q4⟩, q5⟩ := hcond
    have hs0 : size ≠ 0 := q1
    have hnl := hnew.length
    -- a new block
    have fresh : ∀ {c : Nat} {w' : World} {old : List AV} {oldV : List Value} {σ0 : Sg} {s0 : St}, Stp P σ s w σ0 s0 w → s0.nx = s.nx → VRs σ0 old oldV → VRs σ0 new newV → old.length = sLen * size → sLen + n ≤ c →
        Pushed w w' (.cells (oldV.toArray ++ (newV.toArray ++ Builtin.zeroCells zs (c - (sLen + n)))) e) →
        (execOp ρ o).run P w = .ok (.value (.slice (some ⟨w.heap.size, 0, none⟩) (sLen + n) c)) w' → ∀ pl : Bool,
        Did P σ s w o ρ (.sl s.nx 0 (sLen + n) (sLen + n) size false) { h := T.set s.nx (some (.cells (old ++ new) pl)) s0.h, nx := s.nx.succ } := by
      intro c w' old oldV σ0 s0 h0 hnx ho hn hol hc hp hexec pl
      obtain ⟨cs, hcs⟩ : ∃ cs : Array Value, cs = oldV.toArray ++ (newV.toArray ++ Builtin.zeroCells zs (c - (sLen + n))) := ⟨_, rfl⟩
      rw [← hcs] at hp
      have hovl := ho.length
      have hsz : cs.size = c * size := by
        rw [hcs]
        simp only [Array.size_append, List.size_toArray, zeroCells_size, hzs, q3, ← hovl, ← hnl, hol, q4]
        have : sLen * size + (n * size + (c - (sLen + n)) * size) = (sLen + n + (c - (sLen + n))) * size := by simp only [Nat.add_mul]; omega
        rw [this]; congr 1; omega
      have hor : OR P σ0 (.cells (old ++ new) pl) 0 (c * size) (.cells cs e) := by
        refine ⟨cs, e, (0, 0), rfl, hsz, fun _ => rfl, Or.inl rfl, ?_, ?_⟩
        · simp only [List.length_append, hol, q4]
          have : (sLen + n) * size ≤ c * size := Nat.mul_le_mul_right _ hc
          rw [Nat.add_mul] at this; omega
        · intro i b hi
          have hall := ho.append hn
          obtain ⟨u, h1, h2⟩ := hall.get hi
          refine ⟨u, ?_, h2⟩
          have hlt := (List.getElem?_eq_some_iff.1 h1).1
          rw [hcs, Nat.zero_add, ← Array.append_assoc, Array.getElem?_append_left (by simpa using hlt)]
          rw [← Array.getElem?_toList]
          simpa using h1
      have hs := stp_new h0.hr hp hor
      rw [hnx] at hs
      refine ⟨_, _, w', _, hexec, Or.inl rfl, ?_, h0.trans hs⟩
      simp only [VR]
      refine ⟨w.heap.size, 0, c * size, c, Sg.put_same _ _ _, rfl, Nat.le_refl _, hc, (fun e => by cases e), by omega⟩
    split at h
    · -- nil
      simp only [VR, Value.slice.injEq] at ha
      obtain ⟨rfl, rfl, rfl⟩ := ha
      split at h
      · cases h
      · rename_i hb
        split at h
        · rename_i hn
          have hn := Nat.eq_of_beq_eq_true hn
          subst hn
          simp only [Option.some.injEq, Prod.mk.injEq] at h
          obtain ⟨rfl, rfl⟩ := h
          exact ⟨_, _, w, σ, hA.room w (by omega) rfl, Or.inl rfl, by simp only [VR], Stp.refl hr⟩
        · rename_i hn
          have hn : n ≠ 0 := fun e => hn (by rw [e]; rfl)
          simp only [AV.normsK_eq, T.setK_eq, Option.some.injEq, Prod.mk.injEq] at h
          obtain ⟨rfl, rfl⟩ := h
          simp only [Bool.not_eq_true', Bool.not_eq_false, Nat.blt_eq] at hb
          obtain ⟨c, w', h1, h2, h3⟩ := hA.grow (by omega) (by omega) q2 [] (fun W _ => by simp [Builtin.firstCells])
          have := fresh (old := []) (oldV := []) (Stp.refl hr) rfl VRs.nil hnew (by simp) h1 h3 h2 true
          simpa using this
    · rename_i id off m lo sz ex
      split at h
      · cases h
      · rename_i hc2
        simp only [Bool.or_eq_true, Bool.not_eq_true', not_or, Bool.not_eq_false, Nat.beq_eq, Nat.blt_eq] at hc2
        obtain ⟨hsz, hmn⟩ := hc2
        subst hsz
        have ha0 := ha
        simp only [VR, Value.slice.injEq] at ha
        obtain ⟨bk, sh, N, c0, hσ, ⟨rfl, rfl, rfl⟩, hlo1, hlo2, hex, hroomN⟩ := ha
        split at h
        · rename_i c pl hget
          obtain ⟨bk', sh', N', cs, t, fr, g1, g2, g3, g4, g5, g6, g7⟩ := hr.cellsOf hget
          rw [hσ] at g1; cases g1
          split at h
          · rename_i hle
            have hle := Nat.le_of_ble_eq_true hle
            split at h
            · rename_i hfit
              have hfit := Nat.le_of_ble_eq_true hfit
              simp only [AV.normsK_eq, setO, T.setK_eq, Option.some.injEq, Prod.mk.injEq] at h
              obtain ⟨rfl, rfl⟩ := h
              rw [Nat.add_mul] at hfit
              obtain ⟨w', k1, k2⟩ := write_cells (o := off + sLen * sz) hr hget hnew q5 (by omega) hσ
              refine ⟨_, _, w', σ, hA.room w' (by omega) ?_, Or.inl rfl, ?_, k2⟩
              · simp only [addr_add]; rw [Nat.add_assoc]; exact k1
              · simp only [VR]; exact ⟨bk, sh, N, sCap, hσ, rfl, hle, hlo2, hex, hroomN⟩
            · cases h
          · rename_i hle
            have hle : lo < sLen + n := Nat.lt_of_not_le (fun e => hle (Nat.ble_eq_true_of_le e))
            split at h
            · rename_i old hold
              obtain ⟨vs, hv1, hv2, hv3⟩ := take_spec g7 hold
              have hol := (takeN_some hold)
              have holl : old.length = sLen * sz := by rw [hol.2, List.length_take, List.length_drop]; have := hol.1; omega
              have hfirst : ∀ W : World, W.heap = w.heap → (Builtin.firstCells sz sLen (.slice (some ⟨bk, sh + off, none⟩) sLen sCap)).run P W = .ok vs.toArray W := by
                intro W hW
                have hload := run_loadCells (P := P) (w := W) (b := bk) (o := sh + off) (vs := vs) (fun j u hu => by rw [cell_of (by rw [hW]; exact g2)]; exact hv2 j u hu)
                rw [hv1] at hload
                simp [Builtin.firstCells, hload]
              simp only [AV.normsK_eq] at h
              split at h
              · rename_i hexx
                have hcap := hex hexx
                simp only [T.setK_eq, Option.some.injEq, Prod.mk.injEq] at h
                obtain ⟨rfl, rfl⟩ := h
                obtain ⟨c1, w', h1, h2, h3⟩ := hA.grow (by omega) (by omega) q2 vs hfirst
                exact fresh (Stp.refl hr) rfl hv3 hnew holl h1 h3 h2 true
              · simp only [T.setK_eq, Option.some.injEq, Prod.mk.injEq] at h
                obtain ⟨rfl, rfl⟩ := h
                by_cases hin : sLen + n ≤ sCap
                · -- in place
                  have hN : sh + off + sLen * sz + newV.length ≤ cs.size := by
                    have : (sLen + n) * sz ≤ sCap * sz := Nat.mul_le_mul_right _ hin
                    rw [Nat.add_mul] at this
                    omega
                  obtain ⟨w', k1, k2⟩ := run_storeCells (P := P) (b := bk) (o := sh + off + sLen * sz) (t := t) (fr := fr) newV 0 g2 (by rw [g3]; exact nofr g5) (by omega) (oneCells_of q5 hnew)
                  simp only [Nat.add_zero] at k2
                  have hor : OR P σ (.cells (old ++ new) false) (sh + off) N (.cells (setA cs (sh + off + sLen * sz) newV) t fr) := by
                    refine ⟨_, t, fr, rfl, by rw [setA_size]; exact g3, (fun e => by cases e), g5, by simp only [List.length_append]; omega, ?_⟩
                    have hbase : ∀ (i : Nat) b, (old ++ List.replicate new.length AV.np)[i]? = some b → i < old.length → ∃ v, cs[sh + off + i]? = some v ∧ VR σ b v := by
                      intro i b hi hlt
                      rw [List.getElem?_append_left hlt] at hi
                      obtain ⟨v, e1, e2⟩ := hv3.get hi
                      exact ⟨v, hv2 i v e1, e2⟩
                    intro i b hi
                    rcases Nat.lt_or_ge i old.length with hlt | hge
                    · rw [List.getElem?_append_left hlt] at hi
                      obtain ⟨v, e1, e2⟩ := hv3.get hi
                      refine ⟨v, ?_, e2⟩
                      have : ∀ (us : List Value) (cs : Array Value) (k j : Nat), j < k → (setA cs k us)[j]? = cs[j]? := by
                        intro us
                        induction us with
                        | nil => intro cs k j _; rfl
                        | cons u us ih => intro cs k j hj; simp only [setA]; rw [ih _ _ _ (by omega), Array.getElem?_setIfInBounds_ne (by omega)]
                      rw [this _ _ _ _ (by omega)]
                      exact hv2 i v e1
                    · rw [List.getElem?_append_right hge] at hi
                      obtain ⟨v, e1, e2⟩ := hnew.get hi
                      refine ⟨v, ?_, e2⟩
                      have : ∀ (us : List Value) (cs : Array Value) (k j : Nat) (u : Value), k + us.length ≤ cs.size → us[j]? = some u → (setA cs k us)[k + j]? = some u := by
                        intro us
                        induction us with
                        | nil => intro cs k j u _ h; simp at h
                        | cons x us ih =>
                          intro cs k j u hk h
                          simp only [List.length_cons] at hk
                          cases j with
                          | zero =>
                            simp at h; subst h
                            simp only [setA, Nat.add_zero]
                            have pres : ∀ (us : List Value) (cs : Array Value) (k j : Nat), j < k → (setA cs k us)[j]? = cs[j]? := by
                              intro us
                              induction us with
                              | nil => intro cs k j _; rfl
                              | cons u us ih => intro cs k j hj; simp only [setA]; rw [ih _ _ _ (by omega), Array.getElem?_setIfInBounds_ne (by omega)]
                            rw [pres _ _ _ _ (by omega), Array.getElem?_setIfInBounds]
                            simp; omega
                          | succ j =>
                            simp only [setA]
                            rw [show k + (j + 1) = (k + 1) + j by omega]
                            exact ih _ _ _ _ (by simp; omega) (by simpa using h)
                      rw [show sh + off + i = (sh + off + sLen * sz) + (i - old.length) by omega]
                      exact this _ _ _ _ _ hN e1
                  refine ⟨_, _, w', _, hA.room w' hin ?_, Or.inl rfl, ?_, stp_adopt hr hget hσ k2 hor⟩
                  · simp only [addr_add]; exact k1
                  · simp only [VR]; exact ⟨bk, sh + off, N, sCap, Sg.put_same _ _ _, by simp, Nat.le_refl _, hin, (fun e => by cases e), by omega⟩
                · obtain ⟨c1, w', h1, h2, h3⟩ := hA.grow (by omega) (by omega) q2 vs hfirst
                  exact fresh (stp_kill hr id) rfl hv3 hnew holl h1 h3 h2 false
            · cases h
        · cases h
    · cases h
end
end Go.Proofs.YtdpglpjahbiemaaGreatDoor.Ev
