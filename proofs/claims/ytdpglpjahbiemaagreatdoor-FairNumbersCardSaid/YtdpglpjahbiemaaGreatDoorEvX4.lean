/- Every operation that turns something does what the evaluator says. No program. -/
import Derived.Test.YtdpglpjahbiemaaGreatDoorEvX3
namespace Go.Proofs.YtdpglpjahbiemaaGreatDoor.Ev
open Go

section
variable {P : Program} {σ : Sg} {s : St} {w w' : World} {o : Oper} {ρ : Operand → Value}

theorem slice_shape {a : AV} {v : Value} (ha : VR σ a v) {size n : Nat} {zero new : List AV} {bytes : Nat} {r : AV × St} (h : appRun size zero bytes a n new s = some r) : ∃ base l c, v = .slice base l c := by
  unfold appRun at h
  split at h
  · cases h
  · split at h
    · simp only [VR] at ha; exact ⟨_, _, _, ha⟩
    · simp only [VR] at ha; obtain ⟨_, _, _, _, _, ha, _⟩ := ha; exact ⟨_, _, _, ha⟩
    · cases h
theorem x_append {t tx e : TypeId} {d : TypeDesc} {x y : Operand} {ts : Array TypeId} {size : Nat} {i : TypeInfo} {zero : List AV} (ho : o.op = .call { callee := .builtin .append, args := #[x, y], argTypes := ts })
    (h0 : ts[0]? = some t) (ht : P.underlying t = some (.slice e)) (h1 : ts[1]? = some tx) (htx : P.underlying tx = some d) (hd : ∀ k, d ≠ .int k) (hn : sizeT P e = some size) (hi : P.info? e = some i) (hz : zeroCellsA P e = some zero) (hr : HR P σ s w)
    {a b v : AV} {s' : St} (ha : VR σ a (ρ x)) (hb : VR σ b (ρ y)) (h : xrun (.append size zero i.bytes) [a, b] s = some (v, s')) : Did P σ s w o ρ v s' := by
  obtain ⟨i', zs, g1, g2, g3, g4⟩ := zeroCellsA_some (σ := σ) hz
  simp only [xrun] at h
  split at h
  · rename_i n hlen
    split at h
    · rename_i new hnew
      have hs0 : size ≠ 0 := by
        intro e; subst e
        unfold appRun at h
        simp at h
      obtain ⟨vs, k1, k2⟩ := src_cells hr hb hnew hs0
      obtain ⟨base, l, c, hx⟩ := slice_shape ha h
      have hA := ap_append (P := P) (w := w) ho h0 ht h1 htx hd hn hi g4 hx (fun W => src_len hb hlen) k1
      exact app_core hA hr hx ha k2 (by have := g3.length; simpa using this.symm) h
    · cases h
  · cases h

theorem x_copy {t e : TypeId} {x y : Operand} {ts : Array TypeId} {size : Nat} (ho : o.op = .call { callee := .builtin .copy, args := #[x, y], argTypes := ts })
    (h0 : ts[0]? = some t) (ht : P.underlying t = some (.slice e)) (hn : sizeT P e = some size) (hr : HR P σ s w)
    {a b v : AV} {s' : St} (ha : VR σ a (ρ x)) (hb : VR σ b (ρ y)) (h : xrun (.copy size) [a, b] s = some (v, s')) : Did P σ s w o ρ v s' := by
  simp only [xrun] at h
  split at h
  · cases h
  · rename_i hs0
    have hs0 : size ≠ 0 := fun e => hs0 (by rw [e]; rfl)
    split at h
    · rename_i m n hm hn'
      split at h
      · rename_i new hnew
        obtain ⟨vs, k1, k2⟩ := src_cells hr hb hnew hs0
        have kl := src_len (P := P) (w := w) hb hn'
        have k1w := k1 w rfl
        split at h
        · simp only [srcLen, Option.some.injEq] at hm
          subst hm
          simp only [Option.some.injEq, Prod.mk.injEq] at h
          obtain ⟨rfl, rfl⟩ := h
          simp only [VR] at ha
          refine ⟨.int .i64 0, _, w, σ, run_builtinX ho ?_, Or.inl rfl, by simp only [VR]; rfl, Stp.refl hr⟩
          have : Nat.min n 0 = 0 := Nat.min_zero n
          rw [this] at k1w
          simp [builtin, Builtin.copy_, h0, run_underlying ht, ha, kl, run_sizeOf hn, k1w, goInt]
        · rename_i id off len lo sz ex
          simp only [srcLen, Option.some.injEq] at hm
          subst hm
          split at h
          · cases h
          · rename_i hc2
            simp only [Bool.or_eq_true, Bool.not_eq_true', not_or, Bool.not_eq_false, Nat.beq_eq] at hc2
            split at h
            · rename_i c pl hget
              split at h
              · rename_i hfit
                have hfit := Nat.le_of_ble_eq_true hfit
                simp only [AV.normsK_eq, setO, T.setK_eq, Option.some.injEq, Prod.mk.injEq] at h
                obtain ⟨rfl, rfl⟩ := h
                simp only [VR] at ha
                obtain ⟨bk, sh, N, c0, hσ, ha, _⟩ := ha
                obtain ⟨w', q1, q2⟩ := write_cells (o := off) hr hget k2 hc2.2 hfit hσ
                refine ⟨.int .i64 (Nat.min n len : Nat), _, w', σ, run_builtinX ho ?_, Or.inl rfl, by simp only [VR]; rfl, q2⟩
                simp [builtin, Builtin.copy_, h0, run_underlying ht, ha, kl, run_sizeOf hn, k1w, q1, goInt]
              · cases h
            · cases h
        · cases h
      · cases h
    · cases h

theorem x_clear {t e : TypeId} {x : Operand} {ts : Array TypeId} {size : Nat} {zero : List AV} (ho : o.op = .call { callee := .builtin .clear, args := #[x], argTypes := ts })
    (h0 : ts[0]? = some t) (ht : P.underlying t = some (.slice e)) (hz : zeroCellsA P e = some zero) (hr : HR P σ s w)
    {a v : AV} {s' : St} (ha : VR σ a (ρ x)) (h : xrun (.clear size zero) [a] s = some (v, s')) : Did P σ s w o ρ v s' := by
  obtain ⟨i', zs, g1, g2, g3, g4⟩ := zeroCellsA_some (σ := σ) hz
  cases a <;> simp only [xrun, reduceCtorEq] at h
  · rename_i id off len lo sz ex
    simp only [VR] at ha
    obtain ⟨bk, sh, N, c0, hσ, ha, _⟩ := ha
    split at h
    · rename_i hl
      have hl := Nat.eq_of_beq_eq_true hl
      subst hl
      simp only [Option.some.injEq, Prod.mk.injEq] at h
      obtain ⟨rfl, rfl⟩ := h
      refine ⟨undef, .value undef, w, σ, run_builtinX ho ?_, Or.inl rfl, VR_undef, Stp.refl hr⟩
      simp [builtin, Builtin.clear_, h0, run_underlying ht, ha, undef]
    · rename_i hl
      have hl : len ≠ 0 := fun e => hl (by rw [e]; rfl)
      split at h
      · cases h
      · rename_i hc2
        simp only [Bool.or_eq_true, Bool.not_eq_true', not_or, Bool.not_eq_false, Nat.beq_eq] at hc2
        obtain ⟨⟨hsz, hzl⟩, hone⟩ := hc2
        split at h
        · rename_i c pl hget
          split at h
          · rename_i hfit
            have hfit := Nat.le_of_ble_eq_true hfit
            simp only [AV.normsK_eq, setO, T.setK_eq, Option.some.injEq, Prod.mk.injEq] at h
            obtain ⟨rfl, rfl⟩ := h
            have hrep := VRs_repl g3 len
            have hall : (repl zero len).all oneA = true := by
              have : ∀ n, (repl zero n).all oneA = true := by
                intro n; induction n with
                | zero => rfl
                | succ n ih => simp [repl, List.all_append, hone, ih]
              exact this len
            obtain ⟨w', q1, q2⟩ := write_cells (o := off) hr hget hrep hall (by rw [repl_length, hzl]; exact hfit) hσ
            refine ⟨undef, .value undef, w', σ, run_builtinX ho ?_, Or.inl rfl, VR_undef, q2⟩
            have q1' : (storeCells ⟨bk, sh + off, none⟩ (Builtin.zeroCells zs.cells len).toList 0).run P w = .ok () w' := q1
            cases len with
            | zero => exact absurd rfl hl
            | succ len => simp [builtin, Builtin.clear_, h0, run_underlying ht, ha, undef, g4, q1']
          · cases h
        · cases h
  · simp only [VR] at ha
    simp only [Option.some.injEq, Prod.mk.injEq] at h
    obtain ⟨rfl, rfl⟩ := h
    refine ⟨undef, .value undef, w, σ, run_builtinX ho ?_, Or.inl rfl, VR_undef, Stp.refl hr⟩
    simp [builtin, Builtin.clear_, h0, run_underlying ht, ha, undef]

theorem x_nextM {x : Operand} (ho : o.op = .next x false) (hr : HR P σ s w) {a v : AV} {s' : St} (ha : VR σ a (ρ x)) (h : xrun .nextM [a] s = some (v, s')) : Did P σ s w o ρ v s' := by
  cases a <;> simp only [xrun, reduceCtorEq] at h
  rename_i id off
  split at h
  · cases h
  · rename_i h0
    have h0 : off = 0 := by simpa [Nat.beq_eq] using h0
    subst h0
    split at h
    · rename_i m since seen last hit
      split at h
      · rename_i es clock hm
        obtain ⟨b, sh, n, ob, k1, k2, rfl, b2, n2, k3, rfl⟩ := hr.obj id _ hit
        obtain ⟨b3, n3, en, k4, k5, k6⟩ := hr.lmap hm
        rw [k3] at k4; cases k4
        simp only [VR] at ha
        obtain ⟨b', s', n', e1, ha⟩ := ha
        rw [k1] at e1; cases e1
        have g1 := getObj_run (P := P) k2 (by simp)
        have g2 := getObj_run (P := P) k5 (by simp)
        split at h
        · simp only [Option.some.injEq, Prod.mk.injEq] at h
          obtain ⟨rfl, rfl⟩ := h
          have hen : en = #[] := by have := k6.length; exact Array.eq_empty_of_size_eq_zero (by simpa using this.symm)
          subst hen
          refine ⟨.tuple #[.bool false], _, w, σ, ?_, Or.inl rfl, by simp only [VR]; exact ⟨_, rfl, VRs.cons (by simp only [VR]) VRs.nil⟩, Stp.refl hr⟩
          simp [execOp, ho, ha, Instr.next, g1, g2, Question.forced]
        · rename_i e
          obtain ⟨me, l, hl, he, hnil⟩ := k6
          have hnil : l = [] := hnil
          subst hnil
          have hen : en = #[me] := by apply Array.toList_inj.1; rw [hl]
          subst hen
          split at h
          · rename_i hseen
            split at h
            · rename_i hlt
              rw [Nat.blt_eq] at hlt
              simp only [Option.some.injEq, Prod.mk.injEq] at h
              obtain ⟨rfl, rfl⟩ := h
              rw [he.2.2] at hseen hlt
              have hsn : seen.contains me.born = true := hseen
              have hs2 : me.born ∈ seen := by simpa using hsn
              refine ⟨.tuple #[.bool false], _, w, σ, ?_, Or.inl rfl, by simp only [VR]; exact ⟨_, rfl, VRs.cons (by simp only [VR]) VRs.nil⟩, Stp.refl hr⟩
              have hnl : ¬ (last ≤ me.born) := by omega
              simp [execOp, ho, ha, Instr.next, g1, g2, Question.forced, hs2, hnl]
            · cases h
          · rename_i hseen
            split at h
            · rename_i hc
              simp only [Bool.and_eq_true, Nat.blt_eq, List.isEmpty_iff] at hc
              obtain ⟨hc1, rfl⟩ := hc
              simp only [setO, T.setK_eq, Option.some.injEq, Prod.mk.injEq] at h
              obtain ⟨rfl, rfl⟩ := h
              rw [he.2.2] at hc1
              refine ⟨.tuple #[.bool true, me.key, me.val], _, _, σ, ?_, Or.inl rfl, by simp only [VR]; exact ⟨_, rfl, VRs.cons (by simp only [VR]) (VRs.cons he.1 (VRs.cons he.2.1 VRs.nil))⟩, stp_set hr hit k1 (turn_obj (ob' := .mapIter (some b2) since #[me.born] clock) k2) ⟨rfl, b2, n2, k3, by rw [he.2.2]⟩⟩
              have hge : ¬ (since ≤ me.born) := by omega
              simp [execOp, ho, ha, Instr.next, g1, g2, Question.forced, hc1, hge, run_setObj k2 (by simp)]
            · cases h
        · cases h
      · cases h
    · cases h

theorem x_same {t e : TypeId} {x : Operand} (ho : o.op = .convert t t x) (ht : P.underlying t = some (.slice e)) (he : P.underlying e = some (.int .u8)) (hr : HR P σ s w) {a v : AV} {s' : St} (ha : VR σ a (ρ x)) (h : xrun .same [a] s = some (v, s')) : Did P σ s w o ρ v s' := by
  cases a <;> simp only [xrun, reduceCtorEq] at h
  rename_i id off len lo sz ex
  split at h
  · rename_i c pl hget
    simp only [setO, T.setK_eq, Option.some.injEq, Prod.mk.injEq] at h
    obtain ⟨rfl, rfl⟩ := h
    obtain ⟨bk, sh, N, cs, ty, fr, g1, g2, g3, g4, g5, g6, g7⟩ := hr.cellsOf hget
    have ha0 := ha
    simp only [VR] at ha
    obtain ⟨bk', sh', N', c0, hσ, ha, _⟩ := ha
    rw [g1] at hσ; cases hσ
    obtain ⟨fr', hfr'⟩ : ∃ f : Nat × Nat, f = (if (fr.1 == fr.2) = true then (cs.size, cs.size + 1) else (min fr.1 cs.size, max fr.2 (cs.size + 1))) := ⟨_, rfl⟩
    have hrun : (markStringish ⟨bk, sh + off, none⟩).run P w = .ok () (w.freeze ⟨bk, cs.size, none⟩ 1) := by
      have hsh : w.shape? bk = some (ty, cs.size) := by simp [World.shape?, g2]
      simp [markStringish, hsh]
    have hturn : Turned w (w.freeze ⟨bk, cs.size, none⟩ 1) bk (.cells cs ty fr') := by
      refine ⟨?_, fun q hq => ?_, by simp [World.freeze], rfl, rfl, rfl⟩
      · simp only [World.freeze]
        rw [if_neg (by omega)]
        simp only [Array.getElem?_modify, g2, if_true, Option.map_some]
        obtain ⟨f1, f2⟩ := fr
        simp only at hfr'
        rw [hfr']
      · simp only [World.freeze]
        rw [if_neg (by omega)]
        simp only [Array.getElem?_modify]
        rw [if_neg (fun e => hq e.symm)]
    refine ⟨ρ x, _, _, σ, ?_, Or.inl rfl, ha0, stp_set hr hget g1 hturn ⟨cs, ty, fr', rfl, g3, (fun e => by cases e), Or.inr ?_, g6, g7⟩⟩
    · simp [execOp, ho, ha, convert, run_underlying ht, run_underlying he, hrun]
    · rw [hfr']
      split
      · simp only; omega
      · rename_i hne
        rcases g5 with rfl | g5
        · exact absurd rfl hne
        · simp only; omega
  · cases h
end
end Go.Proofs.YtdpglpjahbiemaaGreatDoor.Ev
