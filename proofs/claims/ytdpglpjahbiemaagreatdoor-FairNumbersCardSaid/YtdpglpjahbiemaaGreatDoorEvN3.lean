/- Operations that read at most: fields, indices, slices, lengths. No program. -/
import Derived.Test.YtdpglpjahbiemaaGreatDoorEvN2
namespace Go.Proofs.YtdpglpjahbiemaaGreatDoor.Ev
open Go

section
variable {P : Program} {σ : Sg} {s : St} {w : World} {o : Oper} {ρ : Operand → Value}

theorem run_part1 {t : TypeId} {d : TypeDesc} (hd : P.underlying t = some d) (hag : aggT P t = false) {cs : Array Value} {off : Nat} {v : Value} (h : cs[off]? = some v) : (part t cs off).run P w = .ok v w := by
  simp [part, run_isAgg hd, hag, h]
theorem run_partn {t : TypeId} (hag : aggT P t = true) {n : Nat} (hn : sizeT P t = some n) (cs : Array Value) (off : Nat) : (part t cs off).run P w = .ok (.agg (cs.extract off (off + n))) w := by
  obtain ⟨d, hd⟩ := aggT_some hag
  simp [part, run_isAgg hd, hag, run_sizeOf hn]
theorem VRs.takeN {c l : List AV} {cs : Array Value} {o n : Nat} (h : VRs σ c cs.toList) (e : takeN c o n = some l) : VRs σ l (cs.extract o (o + n)).toList := by
  obtain ⟨hl, rfl⟩ := takeN_some e
  have := (h.drop o).take n
  rw [show (cs.extract o (o + n)).toList = (cs.toList.drop o).take n from ?_]
  · exact this
  · rw [Array.toList_extract, List.extract_eq_take_drop]
    congr 1; omega
theorem n_fld1 {t : TypeId} {x : Operand} {f : Nat} {fs : Array Field} {fd : Field} (ho : o.op = .field t x f) (ht : P.underlying t = some (.struct fs)) (hf : fs[f]? = some fd) (hag : aggT P fd.type = false) (hu : (P.underlying fd.type).isSome)
    {a v : AV} (ha : VR σ a (ρ x)) (h : nFld1 fd.offset [a] = some v) : Yl P σ w o ρ v := by
  obtain ⟨d, hd⟩ := Option.isSome_iff_exists.1 hu
  unfold nFld1 at h
  split at h
  · rename_i c e; cases e
    simp only [VR] at ha
    obtain ⟨cs, ha, hc⟩ := ha
    obtain ⟨u, h1, h2⟩ := hc.get h
    exact ⟨u, by simp [execOp, ho, ha, Instr.field, run_underlying ht, hf, asAgg, run_part1 hd hag (by simpa using h1)], h2⟩
  · cases h
theorem n_fldn {t : TypeId} {x : Operand} {f n : Nat} {fs : Array Field} {fd : Field} (ho : o.op = .field t x f) (ht : P.underlying t = some (.struct fs)) (hf : fs[f]? = some fd) (hag : aggT P fd.type = true) (hn : sizeT P fd.type = some n)
    {a v : AV} (ha : VR σ a (ρ x)) (h : nFldn fd.offset n [a] = some v) : Yl P σ w o ρ v := by
  unfold nFldn at h
  split at h
  · rename_i c e; cases e
    split at h
    · rename_i l hl
      cases h
      simp only [VR] at ha
      obtain ⟨cs, ha, hc⟩ := ha
      exact ⟨.agg (cs.extract fd.offset (fd.offset + n)), by simp [execOp, ho, ha, Instr.field, run_underlying ht, hf, asAgg, run_partn hag hn], by simp only [VR]; exact ⟨_, rfl, hc.takeN hl⟩⟩
    · cases h
  · cases h

theorem addr_add (b o k : Nat) : (⟨b, o, none⟩ : Addr).add k = ⟨b, o + k, none⟩ := by
  unfold Addr.add; split
  · rename_i e; simp []
  · rfl
theorem ix_bounds {j : Int} {n : Nat} (h0 : intLt j 0 = false) (h1 : Nat.blt j.toNat n = true) : 0 ≤ j ∧ j < (n : Int) := by
  have := intLt_false h0
  rw [Nat.blt_eq] at h1
  omega
theorem n_ixA {t e : TypeId} {x y : Operand} {n z : Nat} (ho : o.op = .indexAddr t x y) (ht : P.underlying t = some (.array n e)) (hz : sizeT P e = some z) {a b v : AV} (ha : VR σ a (ρ x)) (hb : VR σ b (ρ y)) (h : nIxA n z [a, b] = some v) : Yl P σ w o ρ v := by
  unfold nIxA at h
  split at h
  · rename_i id off k j e; cases e
    split at h
    · cases h
    · rename_i h0
      split at h
      · rename_i h1
        cases h
        have hj := ix_bounds (by simpa using h0) h1
        simp only [VR] at ha hb
        obtain ⟨b, s, m, hk, ha⟩ := ha
        refine ⟨.pointer (some ⟨b, s + (off + j.toNat * z), none⟩), ?_, by simp only [VR]; exact ⟨_, _, _, hk, rfl⟩⟩
        simp [execOp, ho, ha, hb, Instr.indexAt, asIntOf, run_underlying ht, Instr.sureAddr, run_sizeOf hz, hj, addr_add, Nat.add_assoc]
      · cases h
  · cases h
theorem n_ixL {t e : TypeId} {x y : Operand} {z : Nat} (ho : o.op = .indexAddr t x y) (ht : P.underlying t = some (.slice e)) (hz : sizeT P e = some z) {a b v : AV} (ha : VR σ a (ρ x)) (hb : VR σ b (ρ y)) (h : nIxL z [a, b] = some v) : Yl P σ w o ρ v := by
  unfold nIxL at h
  split at h
  · rename_i id off len _ _ _ k j e; cases e
    split at h
    · cases h
    · rename_i h0
      split at h
      · rename_i h1
        cases h
        have hj := ix_bounds (by simpa using h0) h1
        simp only [VR] at ha hb
        obtain ⟨b, s, m, c, hk, ha, _⟩ := ha
        refine ⟨.pointer (some ⟨b, s + (off + j.toNat * z), none⟩), ?_, by simp only [VR]; exact ⟨_, _, _, hk, rfl⟩⟩
        simp [execOp, ho, ha, hb, Instr.indexAt, asIntOf, run_underlying ht, run_sizeOf hz, hj, addr_add, Nat.add_assoc]
      · cases h
  · cases h
theorem n_ixV1 {t e : TypeId} {x y : Operand} {n : Nat} (ho : o.op = .index t x y) (ht : P.underlying t = some (.array n e)) (hz : sizeT P e = some 1) (hag : aggT P e = false) (hu : (P.underlying e).isSome)
    {a b v : AV} (ha : VR σ a (ρ x)) (hb : VR σ b (ρ y)) (h : nIxV1 n [a, b] = some v) : Yl P σ w o ρ v := by
  obtain ⟨d, hd⟩ := Option.isSome_iff_exists.1 hu
  unfold nIxV1 at h
  split at h
  · rename_i c k j e; cases e
    split at h
    · cases h
    · rename_i h0
      split at h
      · rename_i h1
        have hj := ix_bounds (by simpa using h0) h1
        simp only [VR] at ha hb
        obtain ⟨cs, ha, hc⟩ := ha
        obtain ⟨u, h2, h3⟩ := hc.get h
        exact ⟨u, by simp [execOp, ho, ha, hb, Instr.index, asIntOf, run_underlying ht, run_sizeOf hz, hj, run_part1 hd hag (show cs[j.toNat]? = some u by simpa using h2)], h3⟩
      · cases h
  · cases h
theorem n_ixVn {t e : TypeId} {x y : Operand} {n z : Nat} (ho : o.op = .index t x y) (ht : P.underlying t = some (.array n e)) (hz : sizeT P e = some z) (hag : aggT P e = true)
    {a b v : AV} (ha : VR σ a (ρ x)) (hb : VR σ b (ρ y)) (h : nIxVn n z [a, b] = some v) : Yl P σ w o ρ v := by
  unfold nIxVn at h
  split at h
  · rename_i c k j e; cases e
    split at h
    · cases h
    · rename_i h0
      split at h
      · rename_i h1
        split at h
        · rename_i l hl
          cases h
          have hj := ix_bounds (by simpa using h0) h1
          simp only [VR] at ha hb
          obtain ⟨cs, ha, hc⟩ := ha
          exact ⟨.agg (cs.extract (j.toNat * z) (j.toNat * z + z)), by simp [execOp, ho, ha, hb, Instr.index, asIntOf, run_underlying ht, run_sizeOf hz, hj, run_partn hag hz], by simp only [VR]; exact ⟨_, rfl, hc.takeN hl⟩⟩
        · cases h
      · cases h
  · cases h
theorem mkBytes_get {x : List Nat} {i b : Nat} (h : x[i]? = some b) : (mkBytes x)[i]? = some (UInt8.ofNat b) := by
  have hlt : i < x.length := (List.getElem?_eq_some_iff.1 h).1
  have hb : x[i] = b := (List.getElem?_eq_some_iff.1 h).2
  have hs : i < (mkBytes x).size := by rw [mkBytes_size]; exact hlt
  rw [getElem?_pos (mkBytes x) i hs]
  congr 1
  show (mkBytes x).data[i] = _
  simp [mkBytes, hb]
theorem bytesOk_get {x : List Nat} (hx : bytesOk x = true) {i b : Nat} (h : x[i]? = some b) : b < 256 := by
  have := List.all_eq_true.1 hx b (List.mem_of_getElem? h)
  simpa [Nat.blt_eq] using this
theorem n_ixS {t : TypeId} {x y : Operand} (ho : o.op = .index t x y) (ht : P.underlying t = some .string) {a b v : AV} (ha : VR σ a (ρ x)) (hb : VR σ b (ρ y)) (h : nIxS [a, b] = some v) : Yl P σ w o ρ v := by
  unfold nIxS at h
  split at h
  · rename_i z k j e; cases e
    split at h
    · cases h
    · rename_i h0
      split at h
      · rename_i q hq
        cases h
        have hj := intLt_false (a := j) (b := 0) (by simpa using h0)
        simp only [VR] at ha hb
        obtain ⟨ha, hz⟩ := ha
        have hlt := bytesOk_get hz hq
        refine ⟨.int .u8 q, ?_, by simp only [VR]; rfl⟩
        simp [execOp, ho, ha, hb, Instr.index, asIntOf, run_underlying ht, hj, mkBytes_get hq, UInt8.toNat_ofNat', Nat.mod_eq_of_lt hlt]
      · cases h
  · cases h

/-! Lengths. -/
theorem run_builtin {b : Builtin} {args : Array Operand} {ts : Array TypeId} (ho : o.op = .call { callee := .builtin b, args := args, argTypes := ts }) {v : Value}
    (h : (builtin b ts o.type (args.map fun | .const _ => true | _ => false) (args.map ρ)).run P w = .ok (.value v) w) : (execOp ρ o).run P w = .ok (.value v) w := by
  simp [execOp, ho, resolve, invoke]
  exact h
theorem HR.lmap (hr : HR P σ s w) {id : Pos} {es : List (AV × AV × Nat)} {c : Nat} (h : lmap s.h id = some (es, c)) : ∃ b n en, σ id = some (b, 0, n) ∧ w.heap[b]? = some (.map en c) ∧ ERs σ es en.toList := by
  unfold Ev.lmap at h
  split at h
  · rename_i es' c' he
    cases h
    obtain ⟨b, sh, n, ob, h1, h2, h0, en, rfl, h3⟩ := hr.obj id _ he
    subst h0
    exact ⟨b, n, en, h1, h2, h3⟩
  · cases h
theorem getObj_run {b : Nat} {ob : Obj} (h : w.heap[b]? = some ob) (hc : ∀ c t f, ob ≠ .cells c t f) : (getObj b).run P w = .ok ob w := by
  simp only [getObj, Sem.run, h]
theorem n_lenS {x : Operand} {ts : Array TypeId} {t : TypeId} (ho : o.op = .call { callee := .builtin .len, args := #[x], argTypes := ts }) (h0 : ts[0]? = some t) (ht : P.underlying t = some .string) {a v : AV} (ha : VR σ a (ρ x)) (h : nLenS [a] = some v) : Yl P σ w o ρ v := by
  unfold nLenS at h
  split at h
  · rename_i z e; cases e; cases h; simp only [VR] at ha
    exact ⟨.int .i64 z.length, run_builtin ho (by simp [builtin, Builtin.len_, h0, run_underlying ht, ha.1, goInt, mkBytes_size]), by simp only [VR]; rfl⟩
  · cases h
theorem n_lenL {x : Operand} {ts : Array TypeId} {t e : TypeId} (ho : o.op = .call { callee := .builtin .len, args := #[x], argTypes := ts }) (h0 : ts[0]? = some t) (ht : P.underlying t = some (.slice e)) {a v : AV} (ha : VR σ a (ρ x)) (h : nLenL [a] = some v) : Yl P σ w o ρ v := by
  unfold nLenL at h
  split at h
  · rename_i e; cases e; cases h; simp only [VR] at ha
    exact ⟨.int .i64 0, run_builtin ho (by simp [builtin, Builtin.len_, h0, run_underlying ht, ha, goInt]), by simp only [VR]; rfl⟩
  · rename_i e; cases e; cases h; simp only [VR] at ha; obtain ⟨_, _, ha⟩ := ha
    exact ⟨.int .i64 0, run_builtin ho (by simp [builtin, Builtin.len_, h0, run_underlying ht, ha, goInt]), by simp only [VR]; rfl⟩
  · rename_i _ _ n _ _ _ e; cases e; cases h; simp only [VR] at ha; obtain ⟨_, _, _, _, _, ha, _⟩ := ha
    exact ⟨.int .i64 n, run_builtin ho (by simp [builtin, Builtin.len_, h0, run_underlying ht, ha, goInt]), by simp only [VR]; rfl⟩
  · cases h
theorem n_lenC {x : Operand} {ts : Array TypeId} {t e : TypeId} {n : Nat} (ho : o.op = .call { callee := .builtin .len, args := #[x], argTypes := ts }) (h0 : ts[0]? = some t) (ht : P.underlying t = some (.array n e)) {a v : AV} (_ : VR σ a (ρ x)) (h : nLenC n [a] = some v) : Yl P σ w o ρ v := by
  simp only [nLenC] at h
  cases h
  exact ⟨.int .i64 n, run_builtin ho (by simp [builtin, Builtin.len_, h0, run_underlying ht, goInt]), by simp only [VR]; rfl⟩
theorem n_lenM {x : Operand} {ts : Array TypeId} {t k e : TypeId} (ho : o.op = .call { callee := .builtin .len, args := #[x], argTypes := ts }) (h0 : ts[0]? = some t) (ht : P.underlying t = some (.map k e)) (hr : HR P σ s w) {a v : AV} (ha : VR σ a (ρ x)) (h : nLenM s.h [a] = some v) : Yl P σ w o ρ v := by
  unfold nLenM at h
  split at h
  · rename_i e; cases e; cases h; simp only [VR] at ha
    exact ⟨.int .i64 0, run_builtin ho (by simp [builtin, Builtin.len_, h0, run_underlying ht, ha, goInt]), by simp only [VR]; rfl⟩
  · rename_i id e; cases e
    split at h
    · rename_i es c hm
      cases h
      obtain ⟨b, n, en, h1, h2, h3⟩ := hr.lmap hm
      simp only [VR] at ha
      obtain ⟨b', n', e1, ha⟩ := ha
      rw [h1] at e1; cases e1
      have hl := h3.length
      exact ⟨.int .i64 en.size, run_builtin ho (by simp [builtin, Builtin.len_, h0, run_underlying ht, ha, goInt, getObj_run h2 (by simp)]), by simp only [VR, hl]; simp⟩
    · cases h
  · cases h
theorem n_capL {x : Operand} {ts : Array TypeId} {t e : TypeId} (ho : o.op = .call { callee := .builtin .cap, args := #[x], argTypes := ts }) (h0 : ts[0]? = some t) (ht : P.underlying t = some (.slice e)) {a v : AV} (ha : VR σ a (ρ x)) (h : nCapL [a] = some v) : Yl P σ w o ρ v := by
  unfold nCapL at h
  split at h
  · rename_i e; cases e; cases h; simp only [VR] at ha
    exact ⟨.int .i64 0, run_builtin ho (by simp [builtin, Builtin.cap_, h0, run_underlying ht, ha, goInt]), by simp only [VR]; rfl⟩
  · rename_i _ _ _ cap _ e; cases e; cases h; simp only [VR] at ha; obtain ⟨_, _, _, c, _, ha, _, _, hc, _⟩ := ha
    have hc := hc trivial
    subst hc
    exact ⟨.int .i64 c, run_builtin ho (by simp [builtin, Builtin.cap_, h0, run_underlying ht, ha, goInt]), by simp only [VR]; rfl⟩
  · cases h
theorem n_min {x y : Operand} {ts : Array TypeId} (ho : o.op = .call { callee := .builtin .min, args := #[x, y], argTypes := ts }) {a b v : AV} (ha : VR σ a (ρ x)) (hb : VR σ b (ρ y)) (h : nMin [a, b] = some v) : Yl P σ w o ρ v := by
  unfold nMin at h
  split at h
  · rename_i k n k' m e; cases e; cases h; simp only [VR] at ha hb
    exact ⟨.int k (if m < n then m else n), run_builtin ho (by simp [builtin, Builtin.min_, ha, hb, Builtin.min2]), by simp only [VR, intLt_eq, decide_eq_true_eq]⟩
  · cases h
theorem n_max {x y : Operand} {ts : Array TypeId} (ho : o.op = .call { callee := .builtin .max, args := #[x, y], argTypes := ts }) {a b v : AV} (ha : VR σ a (ρ x)) (hb : VR σ b (ρ y)) (h : nMax [a, b] = some v) : Yl P σ w o ρ v := by
  unfold nMax at h
  split at h
  · rename_i k n k' m e; cases e; cases h; simp only [VR] at ha hb
    exact ⟨.int k (if m > n then m else n), run_builtin ho (by simp [builtin, Builtin.max_, ha, hb, Builtin.max2]), by simp only [VR, intLt_eq, decide_eq_true_eq]⟩
  · cases h
end
end Go.Proofs.YtdpglpjahbiemaaGreatDoor.Ev
