/- Operations that read at most: maps, literals, bytes as a text, whole structs held against one another. No program. -/
import Derived.Test.YtdpglpjahbiemaaGreatDoorEvN4
import Derived.ChangeKeysEq
import Derived.Laws.BytesString
import Derived.Laws.Tables
namespace Go.Proofs.YtdpglpjahbiemaaGreatDoor.Ev
open Go

section
variable {P : Program} {σ : Sg} {s : St} {w : World} {o : Oper} {ρ : Operand → Value}

/-! Maps. -/
theorem kindT_some {t : TypeId} {kk : Nat} (h : kindT P t = some kk) : ∃ d, P.underlying t = some d ∧ ((kk = 0 ∧ ∃ k, d = .int k) ∨ (kk = 1 ∧ d = .string) ∨ (kk = 2 ∧ d = .bool)) := by
  unfold kindT at h
  split at h
  · rename_i k hu; cases h; exact ⟨_, hu, Or.inl ⟨rfl, k, rfl⟩⟩
  · rename_i hu; cases h; exact ⟨_, hu, Or.inr (Or.inl ⟨rfl, rfl⟩)⟩
  · rename_i hu; cases h; exact ⟨_, hu, Or.inr (Or.inr ⟨rfl, rfl⟩)⟩
  · cases h
theorem isKey_shape {kk : Nat} {a : AV} {v : Value} (h : isKey kk a = true) (ha : VR σ a v) : (kk = 0 ∧ ∃ k n, a = .i k n ∧ v = .int k n) ∨ (kk = 1 ∧ ∃ x, a = .s x ∧ v = .string (mkBytes x) ∧ bytesOk x = true) ∨ (kk = 2 ∧ ∃ b, a = .b b ∧ v = .bool b) := by
  unfold isKey at h
  split at h
  · simp only [VR] at ha; exact Or.inl ⟨rfl, _, _, rfl, ha⟩
  · simp only [VR] at ha; exact Or.inr (Or.inl ⟨rfl, _, rfl, ha.1, ha.2⟩)
  · simp only [VR] at ha; exact Or.inr (Or.inr ⟨rfl, _, rfl, ha⟩)
  · cases h
theorem sameNow_of {kk : Nat} {d : TypeDesc} (hd : (kk = 0 ∧ ∃ k, d = .int k) ∨ (kk = 1 ∧ d = .string) ∨ (kk = 2 ∧ d = .bool)) {a b : AV} {u v : Value} (hk : isKey kk a = true) (ha : VR σ a u) (hb : VR σ b v) {r : Bool} (h : keyEq a b = some r) :
    Instr.sameNow d u v = some r := by
  rcases isKey_shape hk ha with ⟨hkk, k, n, rfl, rfl⟩ | ⟨hkk, x, rfl, rfl, hx⟩ | ⟨hkk, x, rfl, rfl⟩
  · obtain ⟨j, rfl⟩ : ∃ j, d = .int j := by rcases hd with ⟨_, h⟩ | ⟨h, _⟩ | ⟨h, _⟩; exact h; omega; omega
    cases b <;> simp only [keyEq, reduceCtorEq] at h
    rename_i k' m
    split at h
    · rename_i hkd
      have hkd := kindEq_iff hkd
      subst hkd
      cases h
      simp only [VR] at hb; subst hb
      simp [Instr.sameNow, intEq_eq]
    · cases h
  · obtain rfl : d = .string := by rcases hd with ⟨h, _⟩ | ⟨_, h⟩ | ⟨h, _⟩; omega; exact h; omega
    cases b <;> simp only [keyEq, reduceCtorEq] at h
    cases h
    simp only [VR] at hb
    obtain ⟨rfl, hy⟩ := hb
    simp [Instr.sameNow, mkBytes_eq hx hy]
  · obtain rfl : d = .bool := by rcases hd with ⟨h, _⟩ | ⟨h, _⟩ | ⟨_, h⟩; omega; omega; exact h
    cases b <;> simp only [keyEq, reduceCtorEq] at h
    cases h
    simp only [VR] at hb; subst hb
    simp [Instr.sameNow, bEq_eq]
theorem findNow_of {kk : Nat} {d : TypeDesc} (hd : (kk = 0 ∧ ∃ k, d = .int k) ∨ (kk = 1 ∧ d = .string) ∨ (kk = 2 ∧ d = .bool)) {a : AV} {u : Value} (hk : isKey kk a = true) (ha : VR σ a u) :
    ∀ {es : List (AV × AV × Nat)} {en : List MapEntry} {i : Nat} {r : Option (Nat × AV)}, ERs σ es en → findK a es i = some r →
      match r with
      | none => Instr.findNow d u en i = some none
      | some (j, v) => ∃ x m e, Instr.findNow d u en i = some (some (j, x)) ∧ VR σ v x ∧ i ≤ j ∧ en[j - i]? = some m ∧ es[j - i]? = some e ∧ keyEq a e.1 = some true ∧ x = m.val ∧ v = e.2.1
  | [], en, i, r, he, h => by
    simp only [findK, Option.some.injEq] at h
    subst h
    have : en = [] := he
    subst this
    rfl
  | e :: es, en, i, r, he, h => by
    obtain ⟨m, l', rfl, hm, hl⟩ := he
    simp only [findK] at h
    split at h
    · rename_i hq
      cases h
      simp only
      refine ⟨m.val, m, e, ?_, hm.2.1, Nat.le_refl _, by simp, by simp, hq, rfl, rfl⟩
      simp [Instr.findNow, sameNow_of hd hk ha hm.1 hq]
    · rename_i hq
      have := findNow_of hd hk ha hl h
      have hs := sameNow_of hd hk ha hm.1 hq
      cases r with
      | none => simp only at this ⊢; simp [Instr.findNow, hs, this]
      | some jv =>
        obtain ⟨j, v⟩ := jv
        simp only at this ⊢
        obtain ⟨x, m', e', h1, h2, h3, h4, h5, h6⟩ := this
        refine ⟨x, m', e', by simp [Instr.findNow, hs, h1], h2, by omega, ?_, ?_, h6⟩
        · rw [show j - i = (j - (i + 1)) + 1 by omega]; simpa using h4
        · rw [show j - i = (j - (i + 1)) + 1 by omega]; simpa using h5
    · cases h
theorem run_checkKey {t : TypeId} {kk : Nat} {d : TypeDesc} (hu : P.underlying t = some d) (hd : (kk = 0 ∧ ∃ k, d = .int k) ∨ (kk = 1 ∧ d = .string) ∨ (kk = 2 ∧ d = .bool)) (n : Nat) (e : Bool) (v : Value) : (Instr.checkKey e (n + 1) t v).run P w = .ok () w := by
  rcases hd with ⟨_, k, rfl⟩ | ⟨_, rfl⟩ | ⟨_, rfl⟩ <;> simp [Instr.checkKey, run_underlying hu]
theorem run_findKey {t : TypeId} {d : TypeDesc} (hu : P.underlying t = some d) {u : Value} {en : List MapEntry} {r : Option (Nat × Value)} (h : Instr.findNow d u en 0 = some r) : (Instr.findKey t u en).run P w = .ok r w := by
  simp [Instr.findKey, run_underlying hu, h]
theorem n_look {t k e : TypeId} {x y : Operand} {ok : Bool} {kk : Nat} {zero : AV} (ho : o.op = .lookup t x y ok) (ht : P.underlying t = some (.map k e)) (hk : kindT P k = some kk) (hz : zeroA P e = some zero) (hr : HR P σ s w)
    {a b v : AV} (ha : VR σ a (ρ x)) (hb : VR σ b (ρ y)) (h : nLook s.h kk zero ok [a, b] = some v) : Yl P σ w o ρ v := by
  obtain ⟨d, hu, hd⟩ := kindT_some hk
  obtain ⟨z, hz1, hz2, _⟩ := run_zero (P := P) (w := w) hz
  have hz3 : VR σ zero z := cval_VR hz2
  unfold nLook at h
  split at h
  · rename_i q e'; cases e'
    split at h
    · rename_i hkey
      cases h
      simp only [VR] at ha
      have hc := run_checkKey (w := w) hu hd 9999 true (ρ y)
      have hf : (Instr.findKey k (ρ y) []).run P w = .ok none w := run_findKey hu rfl
      refine ⟨if ok then .tuple #[z, .bool false] else z, ?_, ?_⟩
      · simp [execOp, ho, ha, Instr.lookup, run_underlying ht, hc, hf, hz1]
      · cases ok
        · exact hz3
        · simp only [if_true, VR]; exact ⟨_, rfl, VRs.cons hz3 (VRs.cons (by simp only [VR]) VRs.nil)⟩
    · cases h
  · rename_i id q e'; cases e'
    split at h
    · rename_i hkey
      split at h
      · rename_i es c hm
        obtain ⟨bk, n, en, h1, h2, h3⟩ := hr.lmap hm
        simp only [VR] at ha
        obtain ⟨bk', n', e1, ha⟩ := ha
        rw [h1] at e1; cases e1
        have hg := getObj_run (P := P) h2 (by simp)
        have hc := run_checkKey (w := w) hu hd 9999 en.isEmpty (ρ y)
        split at h
        · rename_i j r hfk
          cases h
          have := findNow_of hd hkey hb h3 hfk
          simp only at this
          obtain ⟨u, m, _, f1, f2, _⟩ := this
          have hf := run_findKey (P := P) (w := w) hu f1
          refine ⟨if ok then .tuple #[u, .bool true] else u, ?_, ?_⟩
          · simp [execOp, ho, ha, Instr.lookup, run_underlying ht, hg, hc, hf]
          · cases ok
            · exact f2
            · simp only [if_true, VR]; exact ⟨_, rfl, VRs.cons f2 (VRs.cons (by simp only [VR]) VRs.nil)⟩
        · rename_i hfk
          cases h
          have := findNow_of hd hkey hb h3 hfk
          simp only at this
          have hf := run_findKey (P := P) (w := w) hu this
          refine ⟨if ok then .tuple #[z, .bool false] else z, ?_, ?_⟩
          · simp [execOp, ho, ha, Instr.lookup, run_underlying ht, hg, hc, hf, hz1]
          · cases ok
            · exact hz3
            · simp only [if_true, VR]; exact ⟨_, rfl, VRs.cons hz3 (VRs.cons (by simp only [VR]) VRs.nil)⟩
        · cases h
      · cases h
    · cases h
  · cases h

theorem find_of {es : List (AV × AV × Nat)} {k : Nat} : ∀ {en : List MapEntry} {e : AV × AV × Nat}, ERs σ es en → es.find? (fun e => Nat.beq e.2.2 k) = some e → ∃ m, en.find? (fun m => m.born == k) = some m ∧ ER σ e m := by
  induction es with
  | nil => intro en e he h; simp at h
  | cons e' es ih =>
    rintro en e ⟨m, l', rfl, hm, hl⟩ h
    have hb : Nat.beq e'.2.2 k = (m.born == k) := by rw [hm.2.2, Bool.eq_iff_iff, Nat.beq_eq]; simp
    simp only [List.find?_cons] at h
    split at h
    · rename_i hq; cases h; exact ⟨m, by simp only [List.find?_cons]; rw [← hb, hq], hm⟩
    · rename_i hq
      obtain ⟨m', h1, h2⟩ := ih hl h
      exact ⟨m', by simp only [List.find?_cons]; rw [← hb, hq]; exact h1, h2⟩
theorem n_entry {x : Operand} (ho : o.op = .entry x) (hr : HR P σ s w) {a v : AV} (ha : VR σ a (ρ x)) (h : nEntry s.h [a] = some v) : Yl P σ w o ρ v := by
  unfold nEntry at h
  split at h
  · rename_i id off e; cases e
    split at h
    · rename_i h0
      have h0 := Nat.eq_of_beq_eq_true h0
      subst h0
      split at h
      · rename_i m since seen stepped hit
        split at h
        · rename_i es clock hm
          split at h
          · rename_i hcl
            have hcl := Nat.eq_of_beq_eq_true hcl
            subst hcl
            split at h
            · rename_i stamp hst
              split at h
              · rename_i e hfe
                cases h
                obtain ⟨b, sh, n, ob, h1, h2, rfl, b2, k2, h3, rfl⟩ := hr.obj id _ hit
                obtain ⟨b3, n3, en, h4, h5, h6⟩ := hr.lmap hm
                rw [h3] at h4; cases h4
                simp only [VR] at ha
                obtain ⟨b', s', n', e1, ha⟩ := ha
                rw [h1] at e1; cases e1
                obtain ⟨me, hf, hme⟩ := find_of h6 hfe
                refine ⟨.tuple #[me.key, me.val], ?_, by simp only [VR]; exact ⟨_, rfl, VRs.cons hme.1 (VRs.cons hme.2.1 VRs.nil)⟩⟩
                have g1 := getObj_run (P := P) h2 (by simp)
                have g2 := getObj_run (P := P) h5 (by simp)
                have g3 : seen.toArray.back? = some stamp := by simpa using hst
                have g4 : en.find? (fun x => x.born == stamp) = some me := by rw [← Array.find?_toList]; exact hf
                simp [execOp, ho, ha, Instr.entry, g1, g2, g3, g4]
              · cases h
            · cases h
          · cases h
        · cases h
      · cases h
    · cases h
  · cases h

/-! Bytes as a text. -/
theorem bytesCells {l : List AV} : ∀ {vs : List Value} {x : List Nat}, VRs σ l vs → bytesOfCells l = some x → vs = x.map (fun n : Nat => Value.int .u8 (n : Int)) ∧ bytesOk x = true := by
  induction l with
  | nil => intro vs x hv h; simp only [bytesOfCells, Option.some.injEq] at h; subst h; rw [VRs.nil_iff] at hv; subst hv; exact ⟨rfl, rfl⟩
  | cons a l ih =>
    intro vs x hv h
    obtain ⟨v, vs', rfl, h1, h2⟩ := VRs.cons_iff.1 hv
    unfold bytesOfCells at h
    split at h
    · rename_i e; cases e
    · rename_i n l' e; cases e
      split at h
      · rename_i hn
        split at h
        · rename_i y hy
          cases h
          obtain ⟨rfl, hok⟩ := ih h2 hy
          simp only [VR] at h1
          subst h1
          exact ⟨rfl, by simp only [bytesOk, List.all_cons, Bool.and_eq_true]; exact ⟨hn, hok⟩⟩
        · cases h
      · cases h
    · cases h
theorem push_all (y : List Nat) : (y.map Int.ofNat).foldl (fun r n => r.push (UInt8.ofNat n.toNat)) ByteArray.empty = mkBytes y := by
  have : ∀ (l : List Nat) (acc : ByteArray), (l.map Int.ofNat).foldl (fun r n => r.push (UInt8.ofNat n.toNat)) acc = ⟨acc.data ++ (l.map UInt8.ofNat).toArray⟩ := by
    intro l
    induction l with
    | nil => intro acc; simp
    | cons a l ih =>
      intro acc
      simp only [List.map_cons, List.foldl_cons]
      rw [ih]
      apply ByteArray.ext
      apply Array.toList_inj.1
      simp [ByteArray.push]
  rw [this]
  apply ByteArray.ext
  simp [mkBytes]
theorem n_b2s {t d e : TypeId} {x : Operand} (ho : o.op = .convert t d x) (ht : P.underlying t = some (.slice e)) (he : P.underlying e = some (.int .u8)) (hd : P.underlying d = some .string) (hr : HR P σ s w) {a v : AV} (ha : VR σ a (ρ x)) (h : nB2s s.h [a] = some v) : Yl P σ w o ρ v := by
  unfold nB2s at h
  split at h
  · rename_i e; cases e; cases h
    simp only [VR] at ha
    refine ⟨.string .empty, by simp [execOp, ho, ha, convert, run_underlying ht, run_underlying hd, run_underlying he, Conv.bytesToString], by simp only [VR]; exact ⟨rfl, rfl⟩⟩
  · rename_i id off len lo sz ex e; cases e
    split at h
    · rename_i c hc
      split at h
      · rename_i l hl
        split at h
        · rename_i y hy
          cases h
          obtain ⟨b, sh, n, cs, t', fr, h1, h2, h3, h4, h5, h6⟩ := hr.lcells hc
          obtain ⟨vs, hv1, hv2, hv3⟩ := take_spec h6 hl
          obtain ⟨rfl, hok⟩ := bytesCells hv3 hy
          simp only [VR] at ha
          obtain ⟨b', sh', n', cc, e1, e2, _⟩ := ha
          rw [h1] at e1; cases e1
          have hload := run_loadCells (P := P) (w := w) (b := b) (o := sh + off) (vs := y.map (fun n : Nat => Value.int .u8 (n : Int))) (fun j u hu => by rw [cell_of h2]; exact hv2 j u hu)
          rw [hv1] at hload
          refine ⟨.string (mkBytes y), ?_, by simp only [VR]; exact ⟨trivial, hok⟩⟩
          have hb := run_bytesToString (P := P) w ⟨b, sh + off, none⟩ len cc (y.map Int.ofNat) (by rw [hload]; simp [List.map_map, Function.comp_def])
          rw [push_all] at hb
          simp [execOp, ho, e2, convert, run_underlying ht, run_underlying hd, run_underlying he, hb]
        · cases h
      · cases h
    · cases h
  · cases h
end
end Go.Proofs.YtdpglpjahbiemaaGreatDoor.Ev
