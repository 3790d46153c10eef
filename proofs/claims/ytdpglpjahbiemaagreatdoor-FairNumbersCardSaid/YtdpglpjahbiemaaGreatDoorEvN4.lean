/- Operations that read at most: slices of slices, maps, literals. No program. -/
import Derived.Test.YtdpglpjahbiemaaGreatDoorEvN3
namespace Go.Proofs.YtdpglpjahbiemaaGreatDoor.Ev
open Go

section
variable {P : Program} {σ : Sg} {s : St} {w : World} {o : Oper} {ρ : Operand → Value}

theorem run_sliceBound {k : IntKind} {i : Int} {y : Nat} {c : BoundsCode} (h0 : 0 ≤ i) (h1 : i ≤ y) : (Instr.sliceBound (.int k i) y c).run P w = .ok i.toNat w := by
  simp [Instr.sliceBound, asIntOf, h0, h1]
theorem asI_VR {a : AV} {v : Value} {n : Int} (h : asI a = some n) (ha : VR σ a v) : ∃ k, v = .int k n := by
  unfold asI at h
  split at h
  · cases h; simp only [VR] at ha; exact ⟨_, ha⟩
  · cases h
theorem bounds_some {l r : Option Int} {len cap a b : Nat} (h : bounds l r len cap = some (a, b)) (hl : len ≤ cap) :
    a ≤ b ∧ b ≤ cap ∧ (match r with | none => b = len | some n => 0 ≤ n ∧ b = n.toNat ∧ n ≤ (cap : Int)) ∧ (match l with | none => a = 0 | some n => 0 ≤ n ∧ a = n.toNat ∧ n ≤ (b : Int)) := by
  unfold bounds at h
  simp only at h
  cases r with
  | none =>
    simp only at h
    cases l with
    | none => simp only [Option.some.injEq, Prod.mk.injEq] at h; obtain ⟨rfl, rfl⟩ := h; exact ⟨Nat.zero_le _, hl, rfl, rfl⟩
    | some n =>
      simp only at h
      split at h
      · cases h
      · rename_i h0
        have h0 := intLt_false (by simpa using h0 : intLt n 0 = false)
        split at h
        · rename_i h1
          have h1 := Nat.le_of_ble_eq_true h1
          simp only [Option.some.injEq, Prod.mk.injEq] at h; obtain ⟨rfl, rfl⟩ := h
          exact ⟨h1, hl, rfl, h0, rfl, by omega⟩
        · cases h
  | some m =>
    simp only at h
    by_cases hm0 : intLt m 0 = true
    · simp only [hm0, if_true] at h; cases h
    · have g0 := intLt_false (by simpa using hm0 : intLt m 0 = false)
      simp only [hm0, if_false, Bool.false_eq_true] at h
      by_cases hm1 : Nat.ble m.toNat cap = true
      · simp only [hm1, if_true] at h
        have g1 := Nat.le_of_ble_eq_true hm1
        cases l with
        | none => simp only [Option.some.injEq, Prod.mk.injEq] at h; obtain ⟨rfl, rfl⟩ := h; exact ⟨Nat.zero_le _, g1, ⟨g0, rfl, by omega⟩, rfl⟩
        | some n =>
          simp only at h
          split at h
          · cases h
          · rename_i h0
            have h0 := intLt_false (by simpa using h0 : intLt n 0 = false)
            split at h
            · rename_i h1
              have h1 := Nat.le_of_ble_eq_true h1
              simp only [Option.some.injEq, Prod.mk.injEq] at h; obtain ⟨rfl, rfl⟩ := h
              exact ⟨h1, g1, ⟨g0, rfl, by omega⟩, h0, rfl, by omega⟩
            · cases h
      · simp only [hm1, if_false, Bool.false_eq_true] at h; cases h

theorem run_bounds {isS : Bool} {lo hi : Option Operand} {vs : List AV} (hv : VRs σ vs ((lo.toList ++ hi.toList).map ρ)) {l r : Option Int} (hlh : loHi lo.isSome hi.isSome vs = some (l, r))
    {len cap c a b : Nat} (hb : bounds l r len cap = some (a, b)) (hl : len ≤ cap) (hc : cap ≤ c) : (Instr.sliceBounds isS len c (lo.map ρ) (hi.map ρ) none).run P w = .ok (a, b, c) w := by
  obtain ⟨h1, h2, h3, h4⟩ := bounds_some hb hl
  cases lo with
  | none =>
    cases hi with
    | none =>
      simp only [Option.isSome_none, loHi] at hlh
      cases vs with
      | nil => cases hlh; simp only at h3 h4; subst h3; subst h4; simp [Instr.sliceBounds]
      | cons _ _ => simp [] at hlh
    | some y =>
      simp only [Option.toList, List.nil_append, List.map_cons, List.map_nil] at hv
      obtain ⟨av, rfl, hav⟩ := hv.inv1
      simp only [Option.isSome_none, Option.isSome_some, loHi, Option.map_eq_some_iff, Prod.mk.injEq] at hlh
      obtain ⟨n, hn, rfl, rfl⟩ := hlh
      obtain ⟨k, hk⟩ := asI_VR hn hav
      simp only at h3 h4
      obtain ⟨g0, rfl, g1⟩ := h3
      subst h4
      have := run_sliceBound (P := P) (w := w) (k := k) (i := n) (y := c) (c := if isS then .sliceAcap else .sliceAlen) g0 (by omega)
      simp [Instr.sliceBounds, hk, this]
  | some x =>
    cases hi with
    | none =>
      simp only [Option.toList, List.append_nil, List.map_cons, List.map_nil] at hv
      obtain ⟨av, rfl, hav⟩ := hv.inv1
      simp only [Option.isSome_none, Option.isSome_some, loHi, Option.map_eq_some_iff, Prod.mk.injEq] at hlh
      obtain ⟨n, hn, rfl, rfl⟩ := hlh
      obtain ⟨k, hk⟩ := asI_VR hn hav
      simp only at h3 h4
      subst h3
      obtain ⟨g0, rfl, g1⟩ := h4
      have := run_sliceBound (P := P) (w := w) (k := k) (i := n) (y := b) (c := .sliceB) g0 g1
      simp [Instr.sliceBounds, hk, this]
    | some y =>
      simp only [Option.toList, List.cons_append, List.nil_append, List.map_cons, List.map_nil] at hv
      obtain ⟨av, bv, rfl, hav, hbv⟩ := hv.inv2
      simp only [Option.isSome_some, loHi] at hlh
      split at hlh
      · rename_i n m e1 e2
        cases hlh
        obtain ⟨k, hk⟩ := asI_VR e1 hav
        obtain ⟨k', hk'⟩ := asI_VR e2 hbv
        simp only at h3 h4
        obtain ⟨g0, rfl, g1⟩ := h3
        obtain ⟨g2, rfl, g3⟩ := h4
        have z1 := run_sliceBound (P := P) (w := w) (k := k') (i := m) (y := c) (c := if isS then .sliceAcap else .sliceAlen) g0 (by omega)
        have z2 := run_sliceBound (P := P) (w := w) (k := k) (i := n) (y := m.toNat) (c := .sliceB) g2 g3
        simp [Instr.sliceBounds, hk, hk', z1, z2]
      · cases hlh

theorem mkBytes_extract (x : List Nat) (a b : Nat) : (mkBytes x).extract a b = mkBytes ((x.take b).drop a) := by
  apply ByteArray.ext
  rw [ByteArray.data_extract]
  apply Array.toList_inj.1
  simp [mkBytes, List.extract_eq_take_drop, List.map_drop, List.map_take, List.drop_take]
theorem bytesOk_sub {x : List Nat} (h : bytesOk x = true) (a b : Nat) : bytesOk ((x.take b).drop a) = true := by
  simp only [bytesOk, List.all_eq_true] at *
  exact fun c hc => h c (List.mem_of_mem_take (List.mem_of_mem_drop hc))
theorem n_slS {t : TypeId} {x : Operand} {lo hi : Option Operand} (ho : o.op = .slice t x lo hi none) (ht : P.underlying t = some .string) {args : List AV} (ha : VRs σ args (([x] ++ lo.toList ++ hi.toList).map ρ)) {v : AV} (h : nSlS lo.isSome hi.isSome args = some v) : Yl P σ w o ρ v := by
  simp only [List.cons_append, List.nil_append, List.map_cons] at ha
  obtain ⟨a, l, rfl, h1, h2⟩ := ha.invc
  unfold nSlS at h
  split at h
  · rename_i z vs e; cases e
    split at h
    · rename_i l' r hlh
      split at h
      · rename_i p q hb
        cases h
        simp only [VR] at h1
        have := run_bounds (P := P) (w := w) (isS := false) h2 hlh hb (Nat.le_refl _) (Nat.le_refl _)
        refine ⟨.string (mkBytes ((z.take q).drop p)), ?_, by simp only [VR]; exact ⟨trivial, bytesOk_sub h1.2 p q⟩⟩
        simp [execOp, ho, h1.1, Instr.sliceAt, Instr.slice, run_underlying ht, mkBytes_size, this, mkBytes_extract]
      · cases h
    · cases h
  · cases h
theorem n_slL {t e : TypeId} {x : Operand} {lo hi : Option Operand} {z : Nat} (ho : o.op = .slice t x lo hi none) (ht : P.underlying t = some (.slice e)) (hz : sizeT P e = some z) {args : List AV} (ha : VRs σ args (([x] ++ lo.toList ++ hi.toList).map ρ)) {v : AV} (h : nSlL z lo.isSome hi.isSome args = some v) : Yl P σ w o ρ v := by
  simp only [List.cons_append, List.nil_append, List.map_cons] at ha
  obtain ⟨a, l, rfl, h1, h2⟩ := ha.invc
  unfold nSlL at h
  split at h
  · rename_i vs e; cases e
    split at h
    · rename_i l' r hlh
      split at h
      · rename_i pq hb
        obtain ⟨p, q⟩ := pq
        cases h
        simp only [VR] at h1
        have := run_bounds (P := P) (w := w) (isS := true) h2 hlh hb (Nat.le_refl _) (Nat.le_refl _)
        obtain ⟨g1, g2, _, _⟩ := bounds_some hb (Nat.le_refl _)
        refine ⟨.slice none 0 0, ?_, by simp only [VR]⟩
        have hp : p = 0 := by omega
        have hq : q = 0 := by omega
        subst hp; subst hq
        simp [execOp, ho, h1, Instr.sliceAt, Instr.slice, run_underlying ht, this, run_sizeOf hz]
      · cases h
    · cases h
  · rename_i id off len cap sz ex vs e; cases e
    split at h
    · rename_i hsz
      have hsz := Nat.eq_of_beq_eq_true hsz
      subst hsz
      split at h
      · rename_i l' r hlh
        split at h
        · rename_i p q hb
          have h0 := h1
          simp only [VR] at h1
          obtain ⟨bk, sh, n, c, k1, k2, k3, k4, k5, k6⟩ := h1
          have := run_bounds (P := P) (w := w) (isS := true) h2 hlh hb k3 k4
          obtain ⟨g1, g2, _, _⟩ := bounds_some hb k3
          have hrun : (execOp ρ o).run P w = .ok (.value (.slice (if c = p then some ⟨bk, sh + off, none⟩ else some ⟨bk, sh + off + p * sz, none⟩) (q - p) (c - p))) w := by
            simp [execOp, ho, k2, Instr.sliceAt, Instr.slice, run_underlying ht, this, run_sizeOf hz, addr_add]
          split at h
          · rename_i hp
            have hp := Nat.eq_of_beq_eq_true hp
            subst hp
            cases h
            refine ⟨_, hrun, ?_⟩
            simp only [VR]
            refine ⟨bk, sh, n, c, k1, ?_, g2, k4, k5, k6⟩
            simp
          · rename_i hp
            have hp : p ≠ 0 := fun e => hp (by rw [e]; rfl)
            split at h
            · rename_i hlt
              rw [Nat.blt_eq] at hlt
              cases h
              refine ⟨_, hrun, ?_⟩
              rw [if_neg (by omega)]
              simp only [VR]
              refine ⟨bk, sh, n, c - p, k1, ?_, by omega, by omega, fun he => by have := k5 he; omega, ?_⟩
              · rw [Nat.add_assoc]
              · have : p * sz + (c - p) * sz = c * sz := by rw [← Nat.add_mul]; congr 1; omega
                omega
            · rename_i hlt
              rw [Nat.blt_eq] at hlt
              cases h
              refine ⟨_, hrun, ?_⟩
              have : q - p = 0 := by omega
              rw [this]
              simp only [VR]
              split <;> exact ⟨_, _, rfl⟩
        · cases h
      · cases h
    · cases h
  · cases h
theorem n_slA {t e : TypeId} {x : Operand} {lo hi : Option Operand} {m z : Nat} (ho : o.op = .slice t x lo hi none) (ht : P.underlying t = some (.array m e)) (hz : sizeT P e = some z) (hr : HR P σ s w) {args : List AV} (ha : VRs σ args (([x] ++ lo.toList ++ hi.toList).map ρ)) {v : AV} (h : nSlA s.h m z lo.isSome hi.isSome args = some v) : Yl P σ w o ρ v := by
  simp only [List.cons_append, List.nil_append, List.map_cons] at ha
  obtain ⟨a, l, rfl, h1, h2⟩ := ha.invc
  unfold nSlA at h
  split at h
  · rename_i id off vs e; cases e
    split at h
    · rename_i l' r hlh
      split at h
      · rename_i p q hb
        split at h
        · rename_i c hc
          split at h
          · rename_i hle
            have hle := Nat.le_of_ble_eq_true hle
            obtain ⟨bk, sh, n, cs, t', fr, g1, g2, g3, g4, g5, g6⟩ := hr.lcells hc
            simp only [VR] at h1
            obtain ⟨bk', sh', n', k1, k2⟩ := h1
            rw [g1] at k1; cases k1
            have := run_bounds (P := P) (w := w) (isS := false) h2 hlh hb (Nat.le_refl _) (Nat.le_refl _)
            obtain ⟨q1, q2, _, _⟩ := bounds_some hb (Nat.le_refl _)
            have hrun : (execOp ρ o).run P w = .ok (.value (.slice (some (if m = p then ⟨bk, sh + off, none⟩ else ⟨bk, sh + off + p * z, none⟩)) (q - p) (m - p))) w := by
              simp [execOp, ho, k2, Instr.sliceAt, Instr.sureAddr, run_underlying ht, this, run_sizeOf hz, addr_add]
            split at h
            · rename_i hmp
              have hmp := Nat.eq_of_beq_eq_true hmp
              cases h
              refine ⟨_, hrun, ?_⟩
              have : q - p = 0 := by omega
              rw [this]
              simp only [VR]
              exact ⟨_, _, rfl⟩
            · rename_i hmp
              have hmp : m ≠ p := fun e => hmp (by rw [e]; exact Nat.beq_refl _)
              cases h
              refine ⟨_, hrun, ?_⟩
              rw [if_neg hmp]
              simp only [VR]
              refine ⟨bk, sh, n, m - p, g1, by rw [Nat.add_assoc], by omega, Nat.le_refl _, fun _ => rfl, ?_⟩
              have : p * z + (m - p) * z = m * z := by rw [← Nat.add_mul]; congr 1; omega
              omega
          · cases h
        · cases h
      · cases h
    · cases h
  · cases h
theorem n_sl3 {t e : TypeId} {x l h' m : Operand} {z : Nat} (ho : o.op = .slice t x (some l) (some h') (some m)) (ht : P.underlying t = some (.slice e)) (hz : sizeT P e = some z) {a b c d v : AV} (ha : VR σ a (ρ x)) (hb : VR σ b (ρ l)) (hc : VR σ c (ρ h')) (hd : VR σ d (ρ m)) (h : nSl3 z [a, b, c, d] = some v) : Yl P σ w o ρ v := by
  unfold nSl3 at h
  split at h
  · rename_i id off len cap sz ex k1 i1 k2 i2 k3 i3 e; cases e
    split at h
    · rename_i hcond
      cases h
      simp only [Bool.and_eq_true, Bool.not_eq_true', Nat.beq_eq] at hcond
      obtain ⟨⟨⟨⟨⟨hsz, q0⟩, q1⟩, q2⟩, q3⟩, q4⟩ := hcond
      subst hsz
      have q0 := intLt_false q0
      have q1 := intLt_false q1
      have q2 := intLt_false q2
      have q3 := Nat.le_of_ble_eq_true q3
      have q4 := intLt_iff.1 q4
      simp only [VR] at ha hb hc hd
      obtain ⟨bk, sh, n, cc, g1, g2, g3, g4, g5, g6⟩ := ha
      have z1 := run_sliceBound (P := P) (w := w) (k := k3) (i := i3) (y := cc) (c := .slice3Acap) (by omega) (by omega)
      have z2 := run_sliceBound (P := P) (w := w) (k := k2) (i := i2) (y := i3.toNat) (c := .slice3B) (by omega) (by omega)
      have z3 := run_sliceBound (P := P) (w := w) (k := k1) (i := i1) (y := i2.toNat) (c := .slice3C) (by omega) (by omega)
      refine ⟨.slice (some ⟨bk, sh + off + i1.toNat * sz, none⟩) (i2.toNat - i1.toNat) (i3.toNat - i1.toNat), ?_, ?_⟩
      · have hne : i3.toNat ≠ i1.toNat := by omega
        simp [execOp, ho, g2, hb, hc, hd, Instr.sliceAt, Instr.slice, Instr.sliceBounds, run_underlying ht, z1, z2, z3, run_sizeOf hz, addr_add, hne]
      · simp only [VR]
        refine ⟨bk, sh, n, i3.toNat - i1.toNat, g1, by rw [Nat.add_assoc], by omega, Nat.le_refl _, fun _ => rfl, ?_⟩
        have e1 : i1.toNat * sz + (i3.toNat - i1.toNat) * sz = i3.toNat * sz := by rw [← Nat.add_mul]; congr 1; omega
        have e2 : i3.toNat * sz ≤ cc * sz := Nat.mul_le_mul_right _ (by omega)
        omega
    · cases h
  · cases h
end
end Go.Proofs.YtdpglpjahbiemaaGreatDoor.Ev
