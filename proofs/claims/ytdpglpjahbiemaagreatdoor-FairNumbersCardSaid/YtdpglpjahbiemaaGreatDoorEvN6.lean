/- Literals of structs and arrays; structs held against one another; all operations that read at most. No program. -/
import Derived.Test.YtdpglpjahbiemaaGreatDoorEvN5
namespace Go.Proofs.YtdpglpjahbiemaaGreatDoor.Ev
open Go

section
variable {P : Program} {σ : Sg} {s : St} {w : World} {o : Oper} {ρ : Operand → Value}

def setV : List Value → Nat → List Value → List Value
  | c, _, [] => c
  | c, o, v :: vs => setV (c.set o v) (o + 1) vs
theorem VRs_setAll : ∀ {vs : List AV} {us : List Value} {c : List AV} {l : List Value} {o : Nat}, VRs σ c l → VRs σ vs us → VRs σ (setAll c o vs) (setV l o us)
  | [], us, c, l, o, hc, hv => by rw [VRs.nil_iff] at hv; subst hv; exact hc
  | v :: vs, us, c, l, o, hc, hv => by
    obtain ⟨u, us', rfl, h1, h2⟩ := VRs.cons_iff.1 hv
    show VRs σ (setAll (c.set o v) (o + 1) vs) (setV (l.set o u) (o + 1) us')
    exact VRs_setAll (hc.set h1 o) h2
theorem foldSet_list (off : Nat) : ∀ (l : List Value) (k : Nat) (cells : Array Value), ((l.zipIdx k).foldl (fun cs (p : Value × Nat) => cs.setIfInBounds (off + p.2) p.1) cells).toList = setV cells.toList (off + k) l
  | [], k, cells => rfl
  | v :: l, k, cells => by
    simp only [List.zipIdx_cons, List.foldl_cons, setV]
    rw [foldSet_list off l (k + 1), Array.toList_setIfInBounds]
    congr 1
theorem foldSet (off : Nat) (vs cells : Array Value) : (vs.zipIdx.foldl (fun cs (p : Value × Nat) => cs.setIfInBounds (off + p.2) p.1) cells).toList = setV cells.toList off vs.toList := by
  rw [← Array.foldl_toList, Array.toList_zipIdx]
  exact foldSet_list off vs.toList 0 cells
theorem fill_of {pl : Nat → Option (Nat × Nat)} : ∀ {parts : List (Nat × Value)} {ps : List (Nat × Nat)} {vs c c' : List AV} {cells : Array Value},
    parts.map (fun p => pl p.1) = ps.map some → VRs σ vs (parts.map (·.2)) → VRs σ c cells.toList → fillA c ps vs = some c' → ∃ cells', Instr.fill pl cells parts = some cells' ∧ VRs σ c' cells'.toList
  | [], ps, vs, c, c', cells, hp, hv, hc, h => by
    have : ps = [] := by cases ps with | nil => rfl | cons _ _ => simp at hp
    subst this
    have := VRs.inv0 hv
    subst this
    simp only [fillA, Option.some.injEq] at h
    subst h
    exact ⟨cells, rfl, hc⟩
  | p :: parts, ps, vs, c, c', cells, hp, hv, hc, h => by
    cases ps with
    | nil => simp at hp
    | cons q ps =>
      simp only [List.map_cons, List.cons.injEq] at hp
      simp only [List.map_cons] at hv
      obtain ⟨v, l, rfl, h1, h2⟩ := hv.invc
      simp only [fillA] at h
      split at h
      · rename_i hcond
        simp only [Bool.and_eq_true, Nat.beq_eq] at hcond
        have hle := Nat.le_of_ble_eq_true hcond.2
        have hv1 := cells_VR h1
        have hlen := hv1.length
        have hclen := hc.length
        simp only [Array.length_toList] at hlen hclen
        have hset := VRs_setAll (o := q.1) hc hv1
        rw [← foldSet] at hset
        obtain ⟨cells', g1, g2⟩ := fill_of hp.2 h2 hset h
        refine ⟨cells', ?_, g2⟩
        obtain ⟨i, u⟩ := p
        simp only at hp g1 h1 hlen
        simp only [Instr.fill, hp.1]
        rw [if_neg]
        · exact g1
        · simp only [ne_eq, gt_iff_lt, Bool.or_eq_true, decide_eq_true_eq, not_or, Decidable.not_not, Nat.not_lt]
          simp [← hlen, hcond.1]; omega
      · cases h

theorem pick_of {places : Array (Nat × Nat)} : ∀ {l : List (Nat × Operand)} {ps : List (Nat × Nat)}, placesOf.pick places l = some ps → (l.map fun p => (p.1, ρ p.2)).map (fun p => places[p.1]?) = ps.map some
  | [], ps, h => by simp only [placesOf.pick, Option.some.injEq] at h; subst h; rfl
  | p :: l, ps, h => by
    simp only [placesOf.pick] at h
    split at h
    · rename_i q m h1 h2
      cases h
      simp only [List.map_cons, h1, pick_of h2]
    · cases h
theorem zeroCellsA_some {t : TypeId} {z : List AV} (h : zeroCellsA P t = some z) : ∃ i v, P.info? t = some i ∧ i.zero = some v ∧ VRs σ z v.cells.toList ∧ ∀ w, (zeroValue t).run P w = .ok v w := by
  unfold zeroCellsA at h
  cases hz : zeroA P t with
  | none => rw [hz] at h; cases h
  | some a =>
    rw [hz] at h; cases h
    obtain ⟨v, h1, h2, i, h3, h4⟩ := run_zero (P := P) (w := (default : World)) hz
    refine ⟨i, v, h3, h4, cells_VR (cval_VR h2), fun w => ?_⟩
    obtain ⟨v', g1, _, i', g3, g4⟩ := run_zero (P := P) (w := w) hz
    rw [h3] at g3; cases g3; rw [h4] at g4; cases g4
    exact g1
theorem n_build_s {t : TypeId} {parts : Array (Nat × Operand)} {fs : Array Field} {z : List AV} {ps : List (Nat × Nat)} (ho : o.op = .build t parts) (hz : zeroCellsA P t = some z) (ht : P.underlying t = some (.struct fs)) (hp : placesOf P fs parts.toList = some ps)
    {args : List AV} (ha : VRs σ args ((parts.toList.map (·.2)).map ρ)) {v : AV} (h : nBuild z ps args = some v) : Yl P σ w o ρ v := by
  obtain ⟨i, zv, h1, h2, h3, _⟩ := zeroCellsA_some (σ := σ) hz
  unfold placesOf at hp
  split at hp
  · rename_i places hpl
    unfold nBuild at h
    split at h
    · rename_i c' hf
      cases h
      obtain ⟨cells', g1, g2⟩ := fill_of (pl := (places.toArray[·]?)) (parts := parts.toList.map fun p => (p.1, ρ p.2)) (pick_of hp) (by simpa [List.map_map, Function.comp_def] using ha) h3 hf
      refine ⟨.agg cells', ?_, by simp only [VR]; exact ⟨_, rfl, g2⟩⟩
      have hb : P.built t (parts.map fun p => (p.1, ρ p.2)).toList = some cells' := by
        simp only [Program.built, h1, ht, h2, hpl, Array.toList_map]
        exact g1
      have := run_build w t _ cells' hb
      simp [execOp, ho, this]
    · cases h
  · cases hp
theorem n_build_a {t e : TypeId} {parts : Array (Nat × Operand)} {m n : Nat} {z : List AV} (ho : o.op = .build t parts) (hz : zeroCellsA P t = some z) (ht : P.underlying t = some (.array m e)) (hn : sizeT P e = some n)
    {args : List AV} (ha : VRs σ args ((parts.toList.map (·.2)).map ρ)) {v : AV} (h : nBuild z (parts.toList.map fun p => (p.1 * n, n)) args = some v) : Yl P σ w o ρ v := by
  obtain ⟨i, zv, h1, h2, h3, _⟩ := zeroCellsA_some (σ := σ) hz
  unfold sizeT at hn
  cases hie : P.info? e with
  | none => rw [hie] at hn; cases hn
  | some ie =>
    rw [hie] at hn; cases hn
    unfold nBuild at h
    split at h
    · rename_i c' hf
      cases h
      obtain ⟨cells', g1, g2⟩ := fill_of (pl := fun i => some (i * ie.size, ie.size)) (parts := parts.toList.map fun p => (p.1, ρ p.2)) (by simp [List.map_map, Function.comp_def]) (by simpa [List.map_map, Function.comp_def] using ha) h3 hf
      refine ⟨.agg cells', ?_, by simp only [VR]; exact ⟨_, rfl, g2⟩⟩
      have hb : P.built t (parts.map fun p => (p.1, ρ p.2)).toList = some cells' := by
        simp only [Program.built, h1, ht, h2, hie, Array.toList_map]
        exact g1
      have := run_build w t _ cells' hb
      simp [execOp, ho, this]
    · cases h

/-! Structs and arrays held against one another. -/
theorem eqLeaf_VR {a b : AV} {u v : Value} {r : Bool} (ha : VR σ a u) (hb : VR σ b v) (h : eqLeaf a b = some r) :
    (∃ k n m, u = .int k n ∧ v = .int k m ∧ r = (n == m)) ∨ (∃ x y, u = .bool x ∧ v = .bool y ∧ r = (x == y)) ∨ (∃ x y : ByteArray, u = .string x ∧ v = .string y ∧ r = (x == y)) := by
  unfold eqLeaf at h
  split at h
  · split at h
    · rename_i hk
      cases h
      have := kindEq_iff hk
      subst this
      simp only [VR] at ha hb
      exact Or.inl ⟨_, _, _, ha, hb, intEq_eq _ _⟩
    · cases h
  · cases h; simp only [VR] at ha hb; exact Or.inr (Or.inl ⟨_, _, ha, hb, bEq_eq _ _⟩)
  · cases h; simp only [VR] at ha hb; exact Or.inr (Or.inr ⟨_, _, ha.1, hb.1, (mkBytes_eq ha.2 hb.2).symm⟩)
  · cases h
theorem eqAt_append {x y : List AV} : ∀ {l m : List (Nat × Nat)} {r : Bool}, eqAt x y (l ++ m) = some r → ∃ p q, eqAt x y l = some p ∧ eqAt x y m = some q ∧ r = (p && q)
  | [], m, r, h => ⟨true, r, rfl, h, by simp⟩
  | i :: l, m, r, h => by
    simp only [List.cons_append, eqAt] at h ⊢
    cases hx : x[i.1]? with
    | none => rw [hx] at h; simp at h
    | some a =>
      cases hy : y[i.1]? with
      | none => rw [hx, hy] at h; simp at h
      | some b =>
        rw [hx, hy] at h
        simp only at h ⊢
        split at h
        · rename_i hk
          rw [if_pos hk]
          cases he : eqLeaf a b with
          | none => simp [he] at h
          | some e =>
            simp only [he] at h
            cases hr : eqAt x y (l ++ m) with
            | none => rw [hr] at h; simp at h
            | some r' =>
              rw [hr] at h
              simp only [Option.some.injEq] at h
              obtain ⟨p, q, h1, h2, h3⟩ := eqAt_append hr
              refine ⟨e && p, q, by simp [h1], h2, by rw [← h, h3, Bool.and_assoc]⟩
        · cases h

/-- A value of a type is the part of a row of cells that begins at a place. -/
def At (P : Program) (t : TypeId) (u : Value) (xs : Array Value) (off : Nat) : Prop :=
  (aggT P t = true ∧ ∃ A : Array Value, u = .agg A ∧ ∀ i, i < P.cellsOf t → A[i]? = xs[off + i]?) ∨ (aggT P t = false ∧ xs[off]? = some u)
theorem sizeT_of {t : TypeId} (h : (P.info? t).isNone = false) : sizeT P t = some (P.cellsOf t) := by
  unfold sizeT Program.cellsOf
  cases hi : P.info? t with
  | none => rw [hi] at h; cases h
  | some i => rfl
theorem extract_get {A : Array Value} {a n i : Nat} (h : i < n) : (A.extract a (a + n))[i]? = A[a + i]? := by
  rw [Array.getElem?_extract]
  split
  · rfl
  · rename_i hh
    symm
    apply Array.getElem?_eq_none
    omega
theorem part_at {t : TypeId} {d : TypeDesc} (hd : P.underlying t = some d) (hs : sizeT P t = some (P.cellsOf t)) {A xs : Array Value} {o1 off : Nat} (hA : ∀ i, i < P.cellsOf t → A[o1 + i]? = xs[off + i]?) (h1 : aggT P t = false → 0 < P.cellsOf t ∧ ∃ u, xs[off]? = some u) :
    ∃ u, (part t A o1).run P w = .ok u w ∧ At P t u xs off := by
  cases hag : aggT P t with
  | true =>
    refine ⟨_, run_partn hag hs A o1, Or.inl ⟨hag, _, rfl, fun i hi => ?_⟩⟩
    rw [extract_get hi]; exact hA i hi
  | false =>
    obtain ⟨hp, u, hu⟩ := h1 hag
    have := hA 0 hp
    simp only [Nat.add_zero] at this
    rw [hu] at this
    exact ⟨u, run_part1 hd hag this, Or.inr ⟨hag, hu⟩⟩

theorem eqT {x y : List AV} {xs ys : Array Value} (hx : VRs σ x xs.toList) (hy : VRs σ y ys.toList) : ∀ (D : Nat) {t : TypeId} {off : Nat} {L : List (Nat × Nat)} {r : Bool}, leavesT P D t off = some L → eqAt x y L = some r →
    (∀ u v, At P t u xs off → At P t v ys off → ∀ d, D ≤ d → (Op.equalIn d t u v).run P w = .ok r w) ∧ (∃ d, P.underlying t = some d) ∧ (aggT P t = false → 0 < P.cellsOf t ∧ (∃ u, xs[off]? = some u) ∧ ∃ u, ys[off]? = some u)
  | 0, t, off, L, r, hL, _ => by simp [leavesT] at hL
  | D + 1, t, off, L, r, hL, he => by
    unfold leavesT at hL
    have basic : ∀ {d' : TypeDesc} {kk : Nat}, P.underlying t = some d' → aggT P t = false → P.cellsOf t = 1 → L = [(off, kk)] → ((kk = 0 ∧ ∃ k, d' = .int k) ∨ (kk = 1 ∧ d' = .string) ∨ (kk = 2 ∧ d' = .bool)) →
        (∀ u v, At P t u xs off → At P t v ys off → ∀ d, D + 1 ≤ d → (Op.equalIn d t u v).run P w = .ok r w) ∧ (∃ d, P.underlying t = some d) ∧ (aggT P t = false → 0 < P.cellsOf t ∧ (∃ u, xs[off]? = some u) ∧ ∃ u, ys[off]? = some u) := by
      intro d' kk hu hag hz hl hd'
      subst hl
      simp only [eqAt] at he
      cases ha : x[off]? with
      | none => rw [ha] at he; simp at he
      | some a =>
        cases hb : y[off]? with
        | none => rw [ha, hb] at he; simp at he
        | some b =>
          rw [ha, hb] at he
          simp only at he
          split at he
          · rename_i hkey
            cases hl : eqLeaf a b with
            | none => simp [hl] at he
            | some q =>
              simp only [hl, Bool.and_true, Option.some.injEq] at he
              subst he
              obtain ⟨u0, hu0, ku⟩ := hx.get ha
              obtain ⟨v0, hv0, kv⟩ := hy.get hb
              rw [Array.getElem?_toList] at hu0 hv0
              refine ⟨fun u v hu1 hv1 d hd => ?_, ⟨_, hu⟩, fun _ => ⟨by omega, ⟨_, hu0⟩, ⟨_, hv0⟩⟩⟩
              have e1 : u = u0 := by
                rcases hu1 with ⟨h, _⟩ | ⟨_, h⟩
                · rw [hag] at h; cases h
                · rw [hu0] at h; cases h; rfl
              have e2 : v = v0 := by
                rcases hv1 with ⟨h, _⟩ | ⟨_, h⟩
                · rw [hag] at h; cases h
                · rw [hv0] at h; cases h; rfl
              subst e1; subst e2
              obtain ⟨d, rfl⟩ : ∃ e, d = e + 1 := ⟨d - 1, by omega⟩
              rcases isKey_shape hkey ku with ⟨h0, k, n, rfl, rfl⟩ | ⟨h0, z, rfl, rfl, _⟩ | ⟨h0, z, rfl, rfl⟩
              · obtain ⟨j, rfl⟩ : ∃ j, d' = .int j := by rcases hd' with ⟨_, h⟩ | ⟨h, _⟩ | ⟨h, _⟩; exact h; omega; omega
                rcases eqLeaf_VR ku kv hl with ⟨k', n', m', e1, rfl, rfl⟩ | ⟨_, _, e1, _⟩ | ⟨_, _, e1, _⟩ <;> cases e1
                exact run_equalIn_int w d t k j n m' hu
              · obtain rfl : d' = .string := by rcases hd' with ⟨h, _⟩ | ⟨_, h⟩ | ⟨h, _⟩; omega; exact h; omega
                rcases eqLeaf_VR ku kv hl with ⟨k', n', m', e1, rfl, rfl⟩ | ⟨_, _, e1, _⟩ | ⟨_, y', e1, rfl, rfl⟩ <;> cases e1
                rw [beq_toListBytes]
                exact run_equalIn_string w d t _ y' hu
              · obtain rfl : d' = .bool := by rcases hd' with ⟨h, _⟩ | ⟨h, _⟩ | ⟨_, h⟩; omega; omega; exact h
                rcases eqLeaf_VR ku kv hl with ⟨k', n', m', e1, rfl, rfl⟩ | ⟨_, y', e1, rfl, rfl⟩ | ⟨_, _, e1, _⟩ <;> cases e1
                exact eqIn_bool d hu z y'
          · cases he
    split at hL
    · rename_i k hu
      split at hL
      · rename_i hz; cases hL; exact basic hu (by simp [aggT, hu]) hz rfl (Or.inl ⟨rfl, _, rfl⟩)
      · cases hL
    · rename_i hu
      split at hL
      · rename_i hz; cases hL; exact basic hu (by simp [aggT, hu]) hz rfl (Or.inr (Or.inl ⟨rfl, rfl⟩))
      · cases hL
    · rename_i hu
      split at hL
      · rename_i hz; cases hL; exact basic hu (by simp [aggT, hu]) hz rfl (Or.inr (Or.inr ⟨rfl, rfl⟩))
      · cases hL
    · rename_i fs hu
      split at hL
      · cases hL
      · rename_i hst
        have hag : aggT P t = true := by simp [aggT, hu]
        refine ⟨fun u v hu1 hv1 d hd => ?_, ⟨_, hu⟩, fun h => by rw [hag] at h; cases h⟩
        obtain ⟨A, rfl, hA⟩ : ∃ A : Array Value, u = .agg A ∧ ∀ i, i < P.cellsOf t → A[i]? = xs[off + i]? := by
          rcases hu1 with ⟨_, h⟩ | ⟨h, _⟩
          · exact h
          · rw [hag] at h; cases h
        obtain ⟨B, rfl, hB⟩ : ∃ A : Array Value, v = .agg A ∧ ∀ i, i < P.cellsOf t → A[i]? = ys[off + i]? := by
          rcases hv1 with ⟨_, h⟩ | ⟨h, _⟩
          · exact h
          · rw [hag] at h; cases h
        obtain ⟨d, rfl⟩ : ∃ e, d = e + 1 := ⟨d - 1, by omega⟩
        have hfo : P.fieldsOf t = fs := by simp [Program.fieldsOf, hu]
        rw [run_equalIn_agg w d t A B (by rw [hfo]; exact hu) (by simpa using hst), hfo]
        have key : ∀ (l : List Field) {L : List (Nat × Nat)} {r : Bool}, leavesT.inFs P (leavesT P D) (P.cellsOf t) off l = some L → eqAt x y L = some r → (Op.eqFields d A B l).run P w = .ok r w := by
          intro l
          induction l with
          | nil => intro L r h1 h2; simp only [leavesT.inFs, Option.some.injEq] at h1; subst h1; simp only [eqAt, Option.some.injEq] at h2; subst h2; simp [Op.eqFields]
          | cons f l ih =>
            intro L r h1 h2
            simp only [leavesT.inFs] at h1
            split at h1
            · cases h1
            · rename_i hc
              split at h1
              · rename_i m l' e1 e2
                cases h1
                obtain ⟨p, q, g1, g2, rfl⟩ := eqAt_append h2
                have hc1 : f.name ≠ "_" := fun e => hc (Or.inl e)
                have hc2 : (P.info? f.type).isNone = false := by
                  cases h : (P.info? f.type).isNone
                  · rfl
                  · exact absurd (Or.inr (Or.inl h)) hc
                have hc3 : f.offset + P.cellsOf f.type ≤ P.cellsOf t := by
                  rcases Nat.lt_or_ge (P.cellsOf t) (f.offset + P.cellsOf f.type) with h | h
                  · exact absurd (Or.inr (Or.inr h)) hc
                  · exact h
                obtain ⟨h3, ⟨dd, h4⟩, h5⟩ := eqT hx hy D e1 g1
                obtain ⟨u1, k1, k2⟩ := part_at (P := P) (w := w) (t := f.type) (A := A) (xs := xs) (o1 := f.offset) (off := off + f.offset) h4 (sizeT_of hc2) (fun i hi => by rw [hA _ (by omega), Nat.add_assoc]) (fun h => ⟨(h5 h).1, (h5 h).2.1⟩)
                obtain ⟨v1, k3, k4⟩ := part_at (P := P) (w := w) (t := f.type) (A := B) (xs := ys) (o1 := f.offset) (off := off + f.offset) h4 (sizeT_of hc2) (fun i hi => by rw [hB _ (by omega), Nat.add_assoc]) (fun h => ⟨(h5 h).1, (h5 h).2.2⟩)
                have h6 := h3 u1 v1 k2 k4 d (by omega)
                have h7 := ih e2 g2
                simp only [Op.eqFields, ne_eq, hc1, not_false_eq_true, if_true, Sem.run_bind, k1, k3, h6, Result.andThen_ok]
                cases p <;> simp [h7]
              · cases h1
        exact key _ hL he
    · rename_i n e hu
      split at hL
      · cases hL
      · rename_i hc
        have hc2 : (P.info? e).isNone = false := by
          cases h : (P.info? e).isNone
          · rfl
          · exact absurd (Or.inl h) hc
        have hc3 : n * P.cellsOf e ≤ P.cellsOf t := by
          rcases Nat.lt_or_ge (P.cellsOf t) (n * P.cellsOf e) with h | h
          · exact absurd (Or.inr h) hc
          · exact h
        have hag : aggT P t = true := by simp [aggT, hu]
        refine ⟨fun u v hu1 hv1 d hd => ?_, ⟨_, hu⟩, fun h => by rw [hag] at h; cases h⟩
        obtain ⟨A, rfl, hA⟩ : ∃ A : Array Value, u = .agg A ∧ ∀ i, i < P.cellsOf t → A[i]? = xs[off + i]? := by
          rcases hu1 with ⟨_, h⟩ | ⟨h, _⟩
          · exact h
          · rw [hag] at h; cases h
        obtain ⟨B, rfl, hB⟩ : ∃ A : Array Value, v = .agg A ∧ ∀ i, i < P.cellsOf t → A[i]? = ys[off + i]? := by
          rcases hv1 with ⟨_, h⟩ | ⟨h, _⟩
          · exact h
          · rw [hag] at h; cases h
        obtain ⟨d, rfl⟩ : ∃ e, d = e + 1 := ⟨d - 1, by omega⟩
        obtain ⟨ie, hie⟩ : ∃ i, P.info? e = some i := by
          cases h : P.info? e with
          | none => rw [h] at hc2; cases hc2
          | some i => exact ⟨i, rfl⟩
        rw [run_equalIn_array w d A B hu hie]
        have key : ∀ (l : List Nat) {L : List (Nat × Nat)} {r : Bool}, (∀ i ∈ l, i < n) → leavesT.inIs (leavesT P D e) (P.cellsOf e) off l = some L → eqAt x y L = some r → (Op.eqItems d e (P.cellsOf e) A B l).run P w = .ok r w := by
          intro l
          induction l with
          | nil => intro L r _ h1 h2; simp only [leavesT.inIs, Option.some.injEq] at h1; subst h1; simp only [eqAt, Option.some.injEq] at h2; subst h2; simp [Op.eqItems]
          | cons j l ih =>
            intro L r hj h1 h2
            simp only [leavesT.inIs] at h1
            split at h1
            · rename_i m l' e1 e2
              cases h1
              obtain ⟨p, q, g1, g2, rfl⟩ := eqAt_append h2
              have hjn := hj j (by simp)
              have hb : j * P.cellsOf e + P.cellsOf e ≤ P.cellsOf t := by
                have : (j + 1) * P.cellsOf e ≤ n * P.cellsOf e := Nat.mul_le_mul_right _ hjn
                rw [Nat.add_mul] at this; omega
              obtain ⟨h3, ⟨dd, h4⟩, h5⟩ := eqT hx hy D e1 g1
              obtain ⟨u1, k1, k2⟩ := part_at (P := P) (w := w) (t := e) (A := A) (xs := xs) (o1 := j * P.cellsOf e) (off := off + j * P.cellsOf e) h4 (sizeT_of hc2) (fun i hi => by rw [hA _ (by omega), Nat.add_assoc]) (fun h => ⟨(h5 h).1, (h5 h).2.1⟩)
              obtain ⟨v1, k3, k4⟩ := part_at (P := P) (w := w) (t := e) (A := B) (xs := ys) (o1 := j * P.cellsOf e) (off := off + j * P.cellsOf e) h4 (sizeT_of hc2) (fun i hi => by rw [hB _ (by omega), Nat.add_assoc]) (fun h => ⟨(h5 h).1, (h5 h).2.2⟩)
              have h6 := h3 u1 v1 k2 k4 d (by omega)
              have h7 := ih (fun i hi => hj i (by simp [hi])) e2 g2
              simp only [Op.eqItems, Sem.run_bind, k1, k3, h6, Result.andThen_ok]
              cases p <;> simp [h7]
            · cases h1
        exact key _ (fun i hi => List.mem_range.1 hi) hL he
    · cases hL
theorem n_eqA {op : BinOp} {t yt : TypeId} {x y : Operand} (ho : o.op = .binOp op t x y yt) (neg : Bool) (hop : op = if neg then .neq else .eql) (hag : aggT P t = true) (hg : P.eqGuardType P.depth t = false) {L : List (Nat × Nat)} (hL : leavesT P 20 t 0 = some L)
    {a b v : AV} (ha : VR σ a (ρ x)) (hb : VR σ b (ρ y)) (h : nEqA neg L [a, b] = some v) : Yl P σ w o ρ v := by
  unfold nEqA at h
  split at h
  · rename_i p q e; cases e
    split at h
    · rename_i r hr
      cases h
      simp only [VR] at ha hb
      obtain ⟨xs, ha, hx⟩ := ha
      obtain ⟨ys, hb, hy⟩ := hb
      obtain ⟨h1, _⟩ := eqT (w := w) hx hy 20 hL hr
      have h2 := h1 (.agg xs) (.agg ys) (Or.inl ⟨hag, xs, rfl, fun i _ => by simp⟩) (Or.inl ⟨hag, ys, rfl, fun i _ => by simp⟩) 10000 (by omega)
      refine run_equal_eq ho neg hop ?_ ?_ ?_
      · rw [ha, hb]; exact run_eqGuard_agg w op t x y xs ys hg
      · rw [ha]; exact eqBin hop (by simp) (by simp) (by simp) (by simp)
      · rw [ha, hb]; exact h2
    · cases h
  · cases h
end
end Go.Proofs.YtdpglpjahbiemaaGreatDoor.Ev
