/- Operations that make one new thing do what the evaluator says. No program. -/
import Derived.Test.YtdpglpjahbiemaaGreatDoorEvN7
namespace Go.Proofs.YtdpglpjahbiemaaGreatDoor.Ev
open Go

section
variable {P : Program} {σ : Sg} {s : St} {w : World} {o : Oper} {ρ : Operand → Value}

/-- One new block; all else as it was. -/
structure Pushed (w w' : World) (ob : Obj) : Prop where
  heap : w'.heap = w.heap.push ob
  os : w'.os = w.os
  tape : w'.tape = w.tape
  output : w'.output = w.output

def Mk (P : Program) (σ : Sg) (w : World) (o : Oper) (ρ : Operand → Value) (id : Pos) (ob : AO) (v : AV) : Prop :=
  ∃ u cob n w', (execOp ρ o).run P w = .ok (.value u) w' ∧ Pushed w w' cob ∧ OR P σ ob 0 n cob ∧ ∀ σ' : Sg, σ' id = some (w.heap.size, 0, n) → VR σ' v u

theorem OR_fresh {c : List AV} {cs : Array Value} {t : TypeId} (h : VRs σ c cs.toList) : OR P σ (.cells c true) 0 cs.size (.cells cs t) :=
  ⟨cs, t, (0, 0), rfl, rfl, fun _ => rfl, Or.inl rfl, by have := h.length; simp only [Array.length_toList] at this; omega, fun i a e => by
    obtain ⟨v, h1, h2⟩ := h.get e
    exact ⟨v, by simpa using h1, h2⟩⟩
theorem m_zero {t : TypeId} {c : List AV} (ho : o.op = .alloc t) (hz : zeroCellsA P t = some c) (id : Pos) : Mk P σ w o ρ id (.cells c true) (.p id 0) := by
  obtain ⟨i, v, _, _, h3, h4⟩ := zeroCellsA_some (σ := σ) hz
  refine ⟨.pointer (some ⟨w.heap.size, 0, none⟩), .cells v.cells t, v.cells.size, { w with heap := w.heap.push (.cells v.cells t) }, ?_, ⟨rfl, rfl, rfl, rfl⟩, OR_fresh h3, fun σ' h => by simp only [VR]; exact ⟨_, _, _, h, rfl⟩⟩
  simp [execOp, ho, Instr.alloc, h4, newVar, newRow]
theorem m_box {t : TypeId} {x : Operand} (ho : o.op = .box t x) {a : AV} (ha : VR σ a (ρ x)) (id : Pos) : Mk P σ w o ρ id (.cells (cellsOfAV a) true) (.p id 0) := by
  refine ⟨.pointer (some ⟨w.heap.size, 0, none⟩), .cells (ρ x).cells t, (ρ x).cells.size, { w with heap := w.heap.push (.cells (ρ x).cells t) }, ?_, ⟨rfl, rfl, rfl, rfl⟩, OR_fresh (cells_VR ha), fun σ' h => by simp only [VR]; exact ⟨_, _, _, h, rfl⟩⟩
  simp [execOp, ho, Instr.box, newVar, newRow]
theorem m_map {t : TypeId} (ho : o.op = .makeMap t none) (id : Pos) : Mk P σ w o ρ id (.map [] 0) (.m id) := by
  refine ⟨.map (some w.heap.size), .map #[] 0, 0, { w with heap := w.heap.push (.map #[] 0) }, ?_, ⟨rfl, rfl, rfl, rfl⟩, ⟨rfl, #[], rfl, rfl⟩, fun σ' h => by simp only [VR]; exact ⟨_, _, h, rfl⟩⟩
  simp [execOp, ho, Instr.makeMap]

theorem repl_length (z : List AV) (n : Nat) : (repl z n).length = n * z.length := by
  induction n with
  | zero => simp [repl]
  | succ n ih => simp only [repl, List.length_append, ih, Nat.add_mul]; omega
theorem repl_get {z : List AV} : ∀ {n i : Nat}, i < n * z.length → (repl z n)[i]? = z[i % z.length]?
  | 0, i, h => by simp at h
  | n + 1, i, h => by
    simp only [repl]
    rcases Nat.lt_or_ge i z.length with k | k
    · rw [List.getElem?_append_left k, Nat.mod_eq_of_lt k]
    · rw [List.getElem?_append_right k, repl_get (by rw [Nat.add_mul] at h; omega)]
      congr 1
      rw [Nat.mod_eq_sub_mod k]
theorem VRs_repl {z : List AV} {zs : Array Value} (h : VRs σ z zs.toList) (n : Nat) : VRs σ (repl z n) ((Array.range (n * zs.size)).map (zs[· % zs.size]!)).toList := by
  have hl := h.length
  simp only [Array.length_toList] at hl
  refine VRs.of_get (by simp [repl_length, hl]) ?_
  intro i a hi
  have hlt : i < n * z.length := by
    have := (List.getElem?_eq_some_iff.1 hi).1
    rwa [repl_length] at this
  rw [repl_get hlt] at hi
  obtain ⟨v, h1, h2⟩ := h.get hi
  refine ⟨v, ?_, h2⟩
  rw [hl] at hlt h1
  rw [Array.getElem?_toList] at h1
  simp only [Array.getElem?_toList, Array.getElem?_map]
  rw [Array.getElem?_range]
  simp [hlt, getElem!_def, h1]
theorem m_bslice {t e : TypeId} {len n : Nat} {parts : Array (Nat × Operand)} {z : List AV} (ho : o.op = .buildSlice t len parts) (ht : P.underlying t = some (.slice e)) (hn : sizeT P e = some n) (hz : zeroCellsA P e = some z)
    (hn0 : n ≠ 0) (hzl : z.length = n) (hb : ¬ 2 ^ 24 < len * n) {args : List AV} (ha : VRs σ args ((parts.toList.map (·.2)).map ρ)) {c : List AV} (hf : fillA (repl z len) (parts.toList.map fun p => (p.1 * n, n)) args = some c) (id : Pos) :
    Mk P σ w o ρ id (.cells c true) (.sl id 0 len len n true) := by
  obtain ⟨i, v, h1, h2, h3, h4⟩ := zeroCellsA_some (σ := σ) hz
  have hvs : v.cells.size = n := by have := h3.length; simp only [Array.length_toList] at this; omega
  have hrep : VRs σ (repl z len) ((Array.range (len * n)).map (v.cells[· % v.cells.size]!)).toList := by
    have := VRs_repl h3 len; rwa [hvs] at this ⊢
  obtain ⟨cells', g1, g2⟩ := fill_of (pl := fun i => some (i * n, n)) (parts := parts.toList.map fun p => (p.1, ρ p.2)) (by simp [List.map_map, Function.comp_def]) (by simpa [List.map_map, Function.comp_def] using ha) hrep hf
  have hcl : cells'.size = len * n := by
    have e1 := g2.length
    have : ∀ (ps : List (Nat × Nat)) (vs c c' : List AV), fillA c ps vs = some c' → c'.length = c.length := by
      intro ps
      induction ps with
      | nil => intro vs c c' h; cases vs with | nil => simp [fillA] at h; rw [h] | cons _ _ => simp [fillA] at h
      | cons p ps ih =>
        intro vs c c' h
        cases vs with
        | nil => simp [fillA] at h
        | cons v vs =>
          simp only [fillA] at h
          split at h
          · rw [ih _ _ _ h]
            have : ∀ (us : List AV) (c : List AV) (o : Nat), (setAll c o us).length = c.length := by
              intro us; induction us with
              | nil => intro c o; rfl
              | cons u us ih => intro c o; simp [setAll, ih]
            exact this _ _ _
          · cases h
    have e2 := this _ _ _ _ hf
    rw [repl_length, hzl] at e2
    simp only [Array.length_toList] at e1
    omega
  refine ⟨.slice (some ⟨w.heap.size, 0, none⟩) len len, .cells cells' e, cells'.size, { w with heap := w.heap.push (.cells cells' e) }, ?_, ⟨rfl, rfl, rfl, rfl⟩, OR_fresh g2, fun σ' h => by
    simp only [VR]; exact ⟨_, _, _, len, h, rfl, Nat.le_refl _, Nat.le_refl _, fun _ => rfl, by omega⟩⟩
  have hr0 : Array.range 0 = #[] := rfl
  by_cases hl0 : len = 0
  · subst hl0
    have g1' : Instr.fill (fun i => some (i * n, n)) #[] (parts.toList.map fun p => (p.1, ρ p.2)) = some cells' := by simpa [hr0] using g1
    simp [execOp, ho, Instr.buildSlice, run_underlying ht, run_sizeOf hn, newRow, hr0, g1']
  · have hne : ¬ (len * n = 0) := Nat.mul_ne_zero hl0 hn0
    have g1' : Instr.fill (fun i => some (i * n, n)) ((Array.range (len * n)).map (v.cells[· % v.cells.size]!)) (parts.toList.map fun p => (p.1, ρ p.2)) = some cells' := g1
    simp [execOp, ho, Instr.buildSlice, run_underlying ht, run_sizeOf hn, newRow, hb, hne, h4, g1']
theorem m_rngS {t : TypeId} {x : Operand} (ho : o.op = .range t x) (ht : P.underlying t = some .string) {y : List Nat} (ha : VR σ (.s y) (ρ x)) (id : Pos) : Mk P σ w o ρ id (.strIter y 0) (.p id 0) := by
  simp only [VR] at ha
  refine ⟨.pointer (some ⟨w.heap.size, 0, none⟩), .stringIter (mkBytes y) 0, 0, { w with heap := w.heap.push (.stringIter (mkBytes y) 0) }, ?_, ⟨rfl, rfl, rfl, rfl⟩, ⟨rfl, rfl, ha.2⟩, fun σ' h => by simp only [VR]; exact ⟨_, _, _, h, rfl⟩⟩
  simp [execOp, ho, Instr.range, run_underlying ht, ha.1]
theorem m_rngM {t k e : TypeId} {x : Operand} (ho : o.op = .range t x) (ht : P.underlying t = some (.map k e)) (hr : HR P σ s w) {m : Pos} (ha : VR σ (.m m) (ρ x)) {es : List (AV × AV × Nat)} {c : Nat} (hm : lmap s.h m = some (es, c)) (id : Pos) : Mk P σ w o ρ id (.mapIter m c [] c) (.p id 0) := by
  obtain ⟨b, n, en, h1, h2, h3⟩ := hr.lmap hm
  simp only [VR] at ha
  obtain ⟨b', n', e1, ha⟩ := ha
  rw [h1] at e1; cases e1
  refine ⟨.pointer (some ⟨w.heap.size, 0, none⟩), .mapIter (some b) c #[] c, 0, { w with heap := w.heap.push (.mapIter (some b) c #[] c) }, ?_, ⟨rfl, rfl, rfl, rfl⟩, ⟨rfl, b, n, h1, rfl⟩, fun σ' h => by simp only [VR]; exact ⟨_, _, _, h, rfl⟩⟩
  simp [execOp, ho, Instr.range, run_underlying ht, ha, getObj_run h2 (by simp)]
theorem m_s2b {t d e : TypeId} {x : Operand} (ho : o.op = .convert t d x) (ht : P.underlying t = some .string) (hd : P.underlying d = some (.slice e)) (he : P.underlying e = some (.int .u8)) {y : List Nat} (ha : VR σ (.s y) (ρ x)) (_ : y.length < 2 ^ 63) (id : Pos) :
    Mk P σ w o ρ id (.cells (byteCells y) false) (.sl id 0 y.length y.length 1 false) := by
  simp only [VR] at ha
  obtain ⟨ha, hok⟩ := ha
  obtain ⟨cap, hcap⟩ : ∃ cap, cap = Question.cut (.appendCap (mkBytes y).size 0 e) (w.tape w.drawn (.appendCap (mkBytes y).size 0 e)) := ⟨_, rfl⟩
  have hle : y.length ≤ cap := by rw [hcap]; simp only [Question.cut, mkBytes_size]; omega
  obtain ⟨cs, hcs⟩ : ∃ cs : Array Value, cs = (mkBytes y).data.map (fun b => Value.int .u8 b.toNat) ++ Array.replicate (cap - (mkBytes y).size) (.int .u8 0) := ⟨_, rfl⟩
  have hsz : cs.size = cap := by rw [hcs]; have := mkBytes_size y; simp only [Array.size_append, Array.size_map, Array.size_replicate]; have e : (mkBytes y).data.size = y.length := this; omega
  refine ⟨.slice (some ⟨w.heap.size, 0, none⟩) y.length cap, .cells cs e (cs.size, cs.size + 1), cap, { w with heap := w.heap.push (.cells cs e (cs.size, cs.size + 1)), drawn := w.drawn + 1 }, ?_, ⟨rfl, rfl, rfl, rfl⟩, ?_, fun σ' h => by
    simp only [VR]; exact ⟨_, _, _, cap, h, rfl, Nat.le_refl _, hle, (fun e => by cases e), by omega⟩⟩
  · have hm : ∀ W : World, W.heap = w.heap.push (.cells cs e) → (markStringish ⟨w.heap.size, 0, none⟩).run P W = .ok () { W with heap := w.heap.push (.cells cs e (cs.size, cs.size + 1)) } := by
      intro W hW
      have h1 : W.heap[w.heap.size]? = some (.cells cs e) := by rw [hW]; simp
      have hsh : W.shape? w.heap.size = some (e, cs.size) := by simp [World.shape?, h1]
      simp only [markStringish, Sem.run_bind, run_shape, hsh, Result.andThen_ok, run_freeze, World.freeze]
      rw [if_neg (by omega)]
      congr 1
      simp only [World.mk.injEq, and_true]
      rw [hW]
      apply Array.ext
      · simp
      · intro i hi1 hi2
        simp only [Array.getElem_modify]
        split
        · rename_i hh; subst hh; simp
        · rename_i hh
          rw [Array.getElem_push, Array.getElem_push]
          have hi3 : i < w.heap.size := by simp at hi2; omega
          simp [hi3]
    simp only [execOp, ho, ha, convert, Sem.run_bind, run_underlying ht, run_underlying hd, run_underlying he, Result.andThen_ok, Conv.stringToBytes, run_choose]
    rw [if_neg (by simp [Question.forced])]
    simp only [Result.andThen_ok, newRow, Sem.run_bind, run_newObj, Sem.run_pure]
    rw [← hcap, ← hcs, hm _ rfl]
    simp [mkBytes_size]
  · refine ⟨cs, e, _, rfl, hsz, (fun h => by cases h), Or.inr (by simp only; omega), ?_, ?_⟩
    · have : ∀ l : List Nat, (byteCells l).length = l.length := by intro l; induction l with | nil => rfl | cons a l ih => simp [byteCells, ih]
      rw [this]; omega
    · intro i a hi
      have hget : ∀ (l : List Nat) (i : Nat) (a : AV), (byteCells l)[i]? = some a → ∃ b, l[i]? = some b ∧ a = .i .u8 (.ofNat b) := by
        intro l
        induction l with
        | nil => intro i a h; simp [byteCells] at h
        | cons b l ih =>
          intro i a h
          cases i with
          | zero => simp [byteCells] at h; exact ⟨b, rfl, h.symm⟩
          | succ i => simp only [byteCells, List.getElem?_cons_succ] at h; simpa using ih i a h
      obtain ⟨b, hb, rfl⟩ := hget y i a hi
      have hlt := (List.getElem?_eq_some_iff.1 hb).1
      have hbv := bytesOk_get hok hb
      refine ⟨.int .u8 b, ?_, by simp only [VR]; rfl⟩
      rw [hcs, Nat.zero_add]
      have hi2 : i < ((mkBytes y).data.map (fun b => Value.int .u8 b.toNat)).size := by have := mkBytes_size y; simp only [Array.size_map]; exact (show (mkBytes y).data.size = y.length from this) ▸ hlt
      rw [Array.getElem?_append_left hi2]
      have : y[i] = b := (List.getElem?_eq_some_iff.1 hb).2
      simp [mkBytes, hlt, this, UInt8.toNat_ofNat', Nat.mod_eq_of_lt hbv]

theorem wrap64_small {n : Int} (h0 : 0 ≤ n) (h1 : n < 9223372036854775808) : IntKind.i64.wrap n = n := wrap_small n h0 h1
theorem m_slice {t e : TypeId} {l c : Operand} {z : List AV} {n : Nat} {i : TypeInfo} (ho : o.op = .makeSlice t l c) (ht : P.underlying t = some (.slice e)) (hn : sizeT P e = some n) (hz : zeroCellsA P e = some z) (hi : P.info? e = some i)
    (_ : n ≠ 0) (hzl : z.length = n) {a b : AV} (ha : VR σ a (ρ l)) (hb : VR σ b (ρ c)) {id : Pos} {ob : AO} {v : AV} (h : mrun s.h id (.slice n z i.bytes) [a, b] = some (ob, v)) : Mk P σ w o ρ id ob v := by
  unfold mrun at h
  split at h <;> try (cases h; done)
  all_goals rename_i e1 e2
  all_goals cases e1
  all_goals first | (cases e2; done) | skip
  cases e2
  split at h
  · cases h
  · rename_i g0
    split at h
    · cases h
    · rename_i g1
      split at h
      · rename_i g2
        cases h
        simp only [Bool.and_eq_true, Nat.blt_eq] at g2
        obtain ⟨⟨g2, g3⟩, g4⟩ := g2
        have g2 := Nat.le_of_ble_eq_true g2
        rename_i k1 len k2 cap _
        have g0 := intLt_false (a := len) (b := 0) (by simpa using g0)
        have g1 := intLt_false (a := cap) (b := 0) (by simpa using g1)
        simp only [VR] at ha hb
        obtain ⟨i', v, h1, h2, h3, h4⟩ := zeroCellsA_some (σ := σ) hz
        rw [hi] at h1; cases h1
        have hvs : v.cells.size = n := by have := h3.length; simp only [Array.length_toList] at this; omega
        have wl := wrap64_small g0 (by omega)
        have wc := wrap64_small g1 (by omega)
        have hrep : VRs σ (repl z cap.toNat) ((Array.range (cap.toNat * n)).map (v.cells[· % v.cells.size]!)).toList := by
          have := VRs_repl h3 cap.toNat; rwa [hvs] at this ⊢
        obtain ⟨cs, hcs⟩ : ∃ cs : Array Value, cs = (Array.range (cap.toNat * n)).map (v.cells[· % v.cells.size]!) := ⟨_, rfl⟩
        rw [← hcs] at hrep
        have hsz : cs.size = cap.toNat * n := by rw [hcs]; simp
        refine ⟨.slice (some ⟨w.heap.size, 0, none⟩) len.toNat cap.toNat, .cells cs e, cs.size, { w with heap := w.heap.push (.cells cs e) }, ?_, ⟨rfl, rfl, rfl, rfl⟩, OR_fresh hrep, fun σ' h => by
          simp only [VR]; exact ⟨_, _, _, cap.toNat, h, rfl, g2, Nat.le_refl _, fun _ => rfl, by omega⟩⟩
        have t1 : ¬ (cap < 0) := by omega
        have t2 : ¬ ((i.bytes : Int) * cap > 2 ^ 48) := by
          have h5 : (i.bytes : Int) ≤ 1000000 := by omega
          have h6 : (i.bytes : Int) * cap ≤ 1000000 * cap := Int.mul_le_mul_of_nonneg_right h5 g1
          have : (2 : Int) ^ 48 = 281474976710656 := by decide
          omega
        have t5 : ¬ (281474976710656 < (i.bytes : Int) * cap) := by have : (2 : Int) ^ 48 = 281474976710656 := by decide
                                                                    omega
        have t3 : ¬ (len < 0) := by omega
        have t4 : ¬ (len > cap) := by omega
        have hr0 : Array.range 0 = #[] := rfl
        by_cases hc0 : cap.toNat * n = 0
        · have hcs0 : cs = #[] := by rw [hcs, hc0]; simp [hr0]
          simp [execOp, ho, ha, hb, Instr.makeSlice, run_underlying ht, typeInfo, hi, asInt, asIntOf, wl, wc, t1, t5, t3, t4, run_sizeOf hn, hc0, hr0, hcs0, newRow]
        · simp [execOp, ho, ha, hb, Instr.makeSlice, run_underlying ht, typeInfo, hi, asInt, asIntOf, wl, wc, t1, t5, t3, t4, run_sizeOf hn, hc0, h4, ← hcs, newRow]
      · cases h

theorem mOk {k : MK} {xs : List Operand} {args : List AV} {id : Pos} {ob : AO} {v : AV} (hc : compOp P o.op = (.m k, xs)) (hr : HR P σ s w) (ha : VRs σ args (xs.map ρ)) (h : mrun s.h id k args = some (ob, v)) : Mk P σ w o ρ id ob v := by
  generalize hop : o.op = op at hc
  unfold compOp at hc
  split at hc
  case h_4 t =>
    split at hc
    · rename_i c hz
      cases hc
      have := VRs.inv0 ha
      subst this
      simp only [mrun, Option.some.injEq, Prod.mk.injEq] at h
      obtain ⟨rfl, rfl⟩ := h
      exact m_zero hop hz id
    · cases hc
  case h_5 t x =>
    cases hc
    obtain ⟨a, rfl, h1⟩ := ha.inv1
    simp only [mrun, Option.some.injEq, Prod.mk.injEq] at h
    obtain ⟨rfl, rfl⟩ := h
    exact m_box hop h1 id
  case h_7 t len parts =>
    split at hc
    · rename_i e hu
      split at hc
      · rename_i n z hn hz
        split at hc
        · cases hc
        · rename_i hcond
          cases hc
          simp only [mrun] at h
          split at h
          · rename_i c hf
            simp only [Option.some.injEq, Prod.mk.injEq] at h
            obtain ⟨rfl, rfl⟩ := h
            exact m_bslice hop hu hn hz (fun e => hcond (Or.inl e)) (Decidable.byContradiction fun e => hcond (Or.inr (Or.inl e))) (fun e => hcond (Or.inr (Or.inr e))) ha hf id
          · cases h
      · cases hc
    · cases hc
  case h_13 => 
    unfold compBin at hc
    (repeat' split at hc) <;> cases hc
  case h_15 t d x =>
    split at hc <;> (try cases hc)
    · split at hc <;> cases hc
    · rename_i e ht hd
      split at hc
      · rename_i he
        cases hc
        obtain ⟨a, rfl, h1⟩ := ha.inv1
        cases a <;> simp only [mrun, reduceCtorEq] at h
        split at h
        · rename_i hl
          simp only [Option.some.injEq, Prod.mk.injEq] at h
          obtain ⟨rfl, rfl⟩ := h
          rw [Nat.blt_eq] at hl
          exact m_s2b hop ht hd he h1 (by omega) id
        · cases h
      · cases hc
    · (repeat' split at hc) <;> cases hc
  case h_18 t =>
    cases hc
    simp only [mrun, Option.some.injEq, Prod.mk.injEq] at h
    obtain ⟨rfl, rfl⟩ := h
    exact m_map hop id
  case h_19 t l c =>
    split at hc
    · rename_i e hu
      split at hc
      · rename_i n z i hn hz hi
        split at hc
        · cases hc
        · rename_i hcond
          cases hc
          obtain ⟨a, b, rfl, h1, h2⟩ := ha.inv2
          exact m_slice hop hu hn hz hi (fun e => hcond (Or.inl e)) (Decidable.byContradiction fun e => hcond (Or.inr e)) h1 h2 h
      · cases hc
    · cases hc
  case h_20 => 
    unfold compSlice at hc
    simp only at hc
    (repeat' split at hc) <;> cases hc
  case h_26 t x =>
    split at hc
    · rename_i hu
      cases hc
      obtain ⟨a, rfl, h1⟩ := ha.inv1
      cases a <;> simp only [mrun, reduceCtorEq, Option.some.injEq, Prod.mk.injEq] at h
      obtain ⟨rfl, rfl⟩ := h
      exact m_rngS hop hu h1 id
    · rename_i k e hu
      cases hc
      obtain ⟨a, rfl, h1⟩ := ha.inv1
      cases a <;> simp only [mrun, reduceCtorEq] at h
      split at h
      · rename_i es c hm
        simp only [Option.some.injEq, Prod.mk.injEq] at h
        obtain ⟨rfl, rfl⟩ := h
        exact m_rngM hop hu hr h1 hm id
      · cases h
    · cases hc
  case h_31 c =>
    unfold compCall at hc
    (repeat' split at hc) <;> cases hc
  all_goals
    (repeat' split at hc)
    all_goals (cases hc; done)
end
end Go.Proofs.YtdpglpjahbiemaaGreatDoor.Ev
