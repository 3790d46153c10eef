/- What the evaluator's memory stands for; the model's small steps. No program. -/
import Derived.Test.YtdpglpjahbiemaaGreatDoorEvComp
import Derived.WalkKit
import Derived.ProofKit
namespace Go.Proofs.YtdpglpjahbiemaaGreatDoor.Ev
open Go

/-! ### What may turn. -/

structure Upd (w w' : World) (F F' : Nat → Prop) : Prop where
  os : w'.os = w.os
  tape : w'.tape = w.tape
  output : w'.output = w.output
  size : w.heap.size ≤ w'.heap.size
  old : ∀ b, b < w.heap.size → ¬ F b → w'.heap[b]? = w.heap[b]?
  own : ∀ b, F' b → F b ∨ w.heap.size ≤ b

theorem Upd.refl (w : World) (F : Nat → Prop) : Upd w w F F := ⟨rfl, rfl, rfl, Nat.le_refl _, fun _ _ _ => rfl, fun _ h => Or.inl h⟩
theorem Upd.trans {w w1 w2 : World} {F F1 F2 : Nat → Prop} (h : Upd w w1 F F1) (k : Upd w1 w2 F1 F2) : Upd w w2 F F2 where
  os := k.os.trans h.os
  tape := k.tape.trans h.tape
  output := k.output.trans h.output
  size := Nat.le_trans h.size k.size
  old := fun b hb hF => by
    rw [k.old b (Nat.lt_of_lt_of_le hb h.size) (fun hF1 => by rcases h.own b hF1 with h1 | h1; exact hF h1; omega)]
    exact h.old b hb hF
  own := fun b hb => by
    rcases k.own b hb with h1 | h1
    · exact h.own b h1
    · exact Or.inr (Nat.le_trans h.size h1)

/-! ### What lies where. -/

section
variable (P : Program)

def TR (σ : Sg) (N : Nat) (t : T AV) (tmps : Array Value) : Prop :=
  tmps.size = N ∧ ∀ p a, T.get p t = some a → ∃ v, tmps[p.num]? = some v ∧ VR σ a v

def ER (σ : Sg) (e : AV × AV × Nat) (m : MapEntry) : Prop := VR σ e.1 m.key ∧ VR σ e.2.1 m.val ∧ e.2.2 = m.born
def ERs (σ : Sg) : List (AV × AV × Nat) → List MapEntry → Prop
  | [], l => l = []
  | e :: es, l => ∃ m l', l = m :: l' ∧ ER σ e m ∧ ERs σ es l'

def jumpC : AExit → Option Code
  | .normal => none
  | .exit id => some (.exit id)
  | .ret => some .ret
def stC : LS → LoopState
  | .ready => .ready
  | .busy => .busy
  | .done => .done

def OR (σ : Sg) (o : AO) (sh n : Nat) (ob : Obj) : Prop :=
  match o with
  | .cells c pl => ∃ cs t fr, ob = .cells cs t fr ∧ cs.size = n ∧ (pl = true → fr = (0, 0)) ∧ (fr = (0, 0) ∨ n ≤ fr.1) ∧ sh + c.length ≤ n ∧ ∀ (i : Nat) a, c[i]? = some a → ∃ v, cs[sh + i]? = some v ∧ VR σ a v
  | .map es clock => sh = 0 ∧ ∃ en, ob = .map en clock ∧ ERs σ es en.toList
  | .strIter x pos => sh = 0 ∧ ob = .stringIter (mkBytes x) pos ∧ bytesOk x = true
  | .mapIter m since seen stepped => sh = 0 ∧ ∃ b k, σ m = some (b, 0, k) ∧ ob = .mapIter (some b) since seen.toArray stepped
  | .loop st pend t ps as body => sh = 0 ∧ ∃ r, ob = .loop r ∧ r.state = stC st ∧ (st ≠ .busy → r.pending = jumpC pend) ∧ (st = .done → pend ≠ .normal) ∧ TR σ r.tmps.size t r.tmps ∧ compCode P r.tmps.size r.assign = as ∧
      compCode P r.tmps.size r.body = body ∧ r.params.toList.map posOf = ps ∧ ∀ p ∈ r.params.toList, p < r.tmps.size

structure HR (σ : Sg) (s : St) (w : World) : Prop where
  dom : ∀ id, s.nx.toNat ≤ id.toNat → σ id = none
  obj : ∀ id o, T.get id s.h = some o → ∃ b sh n ob, σ id = some (b, sh, n) ∧ w.heap[b]? = some ob ∧ OR P σ o sh n ob
  inj : ∀ id id' o o' x x', T.get id s.h = some o → T.get id' s.h = some o' → σ id = some x → σ id' = some x' → x.1 = x'.1 → id = id'

def Live (σ : Sg) (s : St) (b : Nat) : Prop := ∃ id o x, T.get id s.h = some o ∧ σ id = some x ∧ x.1 = b

structure Stp (σ : Sg) (s : St) (w : World) (σ' : Sg) (s' : St) (w' : World) : Prop where
  agree : ∀ id, id.toNat < s.nx.toNat → σ' id = σ id
  le : s.nx.toNat ≤ s'.nx.toNat
  hr : HR P σ' s' w'
  upd : Upd w w' (Live σ s) (Live σ' s')
end

section
variable {P : Program} {σ σ' σ'' : Sg} {s s' s'' : St} {w w' w'' : World}

theorem HR.lt (h : HR P σ s w) {id : Pos} {x : Nat × Nat × Nat} (e : σ id = some x) : id.toNat < s.nx.toNat := by
  rcases Nat.lt_or_ge id.toNat s.nx.toNat with k | k
  · exact k
  · rw [h.dom id k] at e; cases e
theorem Stp.refl (h : HR P σ s w) : Stp P σ s w σ s w := ⟨fun _ _ => rfl, Nat.le_refl _, h, Upd.refl _ _⟩
theorem Stp.trans (h : Stp P σ s w σ' s' w') (k : Stp P σ' s' w' σ'' s'' w'') : Stp P σ s w σ'' s'' w'' :=
  ⟨fun id e => (k.agree id (Nat.lt_of_lt_of_le e h.le)).trans (h.agree id e), Nat.le_trans h.le k.le, k.hr, h.upd.trans k.upd⟩
theorem Stp.ext (h : HR P σ s w) (k : Stp P σ s w σ' s' w') : Ext σ σ' := fun id _ e => (k.agree id (h.lt e)).trans e

theorem TR.ext {N : Nat} {t : T AV} {tmps : Array Value} (h : TR σ N t tmps) (e : Ext σ σ') : TR σ' N t tmps :=
  ⟨h.1, fun p a hp => let ⟨v, h1, h2⟩ := h.2 p a hp; ⟨v, h1, h2.ext e⟩⟩
theorem ER.ext {e : AV × AV × Nat} {m : MapEntry} (h : ER σ e m) (x : Ext σ σ') : ER σ' e m := ⟨h.1.ext x, h.2.1.ext x, h.2.2⟩
theorem ERs.ext {es : List (AV × AV × Nat)} (x : Ext σ σ') : ∀ {l : List MapEntry}, ERs σ es l → ERs σ' es l := by
  induction es with
  | nil => intro l h; exact h
  | cons e es ih => rintro l ⟨m, l', rfl, h1, h2⟩; exact ⟨m, l', rfl, h1.ext x, ih h2⟩
theorem OR.ext {o : AO} {sh n : Nat} {ob : Obj} (h : OR P σ o sh n ob) (x : Ext σ σ') : OR P σ' o sh n ob := by
  cases o with
  | cells c pl => obtain ⟨cs, t, fr, h1, h2, h3, h4, h5, h6⟩ := h; exact ⟨cs, t, fr, h1, h2, h3, h4, h5, fun i a e => let ⟨v, k1, k2⟩ := h6 i a e; ⟨v, k1, k2.ext x⟩⟩
  | map es clock => obtain ⟨h0, en, h1, h2⟩ := h; exact ⟨h0, en, h1, h2.ext x⟩
  | strIter y pos => exact h
  | mapIter m since seen stepped => obtain ⟨h0, b, k, h1, h2⟩ := h; exact ⟨h0, b, k, x _ _ h1, h2⟩
  | loop st pend t ps as body => obtain ⟨h0, r, h1, h2, h3, h4, h5, h6⟩ := h; exact ⟨h0, r, h1, h2, h3, h4, h5.ext x, h6⟩

/-! Rows of parts. -/
theorem ERs.length {es : List (AV × AV × Nat)} : ∀ {l : List MapEntry}, ERs σ es l → es.length = l.length := by
  induction es with
  | nil => intro l h; have : l = [] := h; subst this; rfl
  | cons e es ih => rintro l ⟨m, l', rfl, _, h2⟩; simp [ih h2]
theorem ERs.append {es : List (AV × AV × Nat)} {e : AV × AV × Nat} {m : MapEntry} (he : ER σ e m) : ∀ {l : List MapEntry}, ERs σ es l → ERs σ (es ++ [e]) (l ++ [m]) := by
  induction es with
  | nil => intro l h; have : l = [] := h; subst this; exact ⟨m, [], rfl, he, rfl⟩
  | cons e' es ih => rintro l ⟨m', l', rfl, h1, h2⟩; exact ⟨m', l' ++ [m], rfl, h1, ih h2⟩

/-! ### The program's tables. -/

theorem run_underlying {t : TypeId} {d : TypeDesc} (h : P.underlying t = some d) : (underlying t).run P w = .ok d w := by simp [underlying, h]
theorem run_isAgg {t : TypeId} {d : TypeDesc} (h : P.underlying t = some d) : (isAgg t).run P w = .ok (aggT P t) w := by
  unfold isAgg aggT
  simp only [h]
  cases d <;> simp [underlying, h]
theorem aggT_some {t : TypeId} (h : aggT P t = true) : ∃ d, P.underlying t = some d := by
  unfold aggT at h
  cases hu : P.underlying t with
  | none => rw [hu] at h; cases h
  | some d => exact ⟨d, rfl⟩
theorem run_sizeOf {t : TypeId} {n : Nat} (h : sizeT P t = some n) : (sizeOf t).run P w = .ok n w := by
  unfold sizeT at h
  cases hi : P.info? t with
  | none => rw [hi] at h; cases h
  | some i => rw [hi] at h; cases h; simp [sizeOf, typeInfo, hi]
theorem run_zero {t : TypeId} {a : AV} (h : zeroA P t = some a) : ∃ z, (zeroValue t).run P w = .ok z w ∧ cval z = some a ∧ ∃ i, P.info? t = some i ∧ i.zero = some z := by
  unfold zeroA at h
  cases hi : P.info? t with
  | none => rw [hi] at h; cases h
  | some i =>
    rw [hi] at h
    simp only [Option.bind_some] at h
    cases hz : i.zero with
    | none => rw [hz] at h; cases h
    | some z => rw [hz] at h; exact ⟨z, by simp [zeroValue, typeInfo, hi, hz], h, i, rfl, hz⟩

theorem bytes_back (l : List UInt8) : (l.map UInt8.toNat).map UInt8.ofNat = l := by
  induction l with
  | nil => rfl
  | cons a l ih => simp only [List.map_cons, ih, UInt8.ofNat_toNat]
theorem bytesOk_of (l : List UInt8) : bytesOk (l.map UInt8.toNat) = true := by
  simp only [bytesOk, List.all_map, List.all_eq_true, Function.comp]
  intro c _
  have := c.toNat_lt
  simp [Nat.blt_eq, this]
theorem mkBytes_of (b : ByteArray) : mkBytes (b.data.toList.map UInt8.toNat) = b := by
  unfold mkBytes
  rw [bytes_back]

mutual
theorem cval_VR : ∀ {v : Value} {a : AV}, cval v = some a → VR σ a v
  | .bool b, a, h => by simp only [cval, Option.some.injEq] at h; subst h; simp only [VR]
  | .int k n, a, h => by simp only [cval, Option.some.injEq] at h; subst h; simp only [VR]
  | .string s, a, h => by
    simp only [cval, Option.some.injEq] at h; subst h; simp only [VR]
    exact ⟨by rw [mkBytes_of], bytesOk_of _⟩
  | .pointer none, a, h => by simp only [cval, Option.some.injEq] at h; subst h; simp only [VR]
  | .slice none 0 0, a, h => by simp only [cval, Option.some.injEq] at h; subst h; simp only [VR]
  | .map none, a, h => by simp only [cval, Option.some.injEq] at h; subst h; simp only [VR]
  | .nilFunc, a, h => by simp only [cval, Option.some.injEq] at h; subst h; simp only [VR]
  | .nilIface, a, h => by simp only [cval, Option.some.injEq] at h; subst h; simp only [VR]
  | .agg ⟨cs⟩, a, h => by
    simp only [cval] at h
    cases hc : cvals cs with
    | none => rw [hc] at h; cases h
    | some l => rw [hc] at h; cases h; simp only [VR]; exact ⟨_, rfl, cvals_VR hc⟩
  | .tuple ⟨cs⟩, a, h => by
    simp only [cval] at h
    cases hc : cvals cs with
    | none => rw [hc] at h; cases h
    | some l => rw [hc] at h; cases h; simp only [VR]; exact ⟨_, rfl, cvals_VR hc⟩
  | .float _ _, a, h | .complex _ _ _, a, h | .pointer (some _), a, h | .slice (some _) _ _, a, h | .slice none (_ + 1) _, a, h | .slice none 0 (_ + 1), a, h | .map (some _), a, h | .chan _, a, h | .func _ _ _, a, h | .iface _ _, a, h => by simp [cval] at h
theorem cvals_VR : ∀ {l : List Value} {m : List AV}, cvals l = some m → VRs σ m l
  | [], m, h => by simp only [cvals, Option.some.injEq] at h; subst h; exact VRs.nil
  | v :: l, m, h => by
    simp only [cvals] at h
    split at h
    · rename_i a m' h1 h2
      cases h
      exact VRs.cons (cval_VR h1) (cvals_VR h2)
    · cases h
end

theorem cells_VR {a : AV} {v : Value} (h : VR σ a v) : VRs σ (cellsOfAV a) v.cells.toList := by
  cases a with
  | agg l => simp only [VR] at h; obtain ⟨cs, rfl, k⟩ := h; exact k
  | b x => simp only [VR] at h; subst h; exact VRs.cons (by simp only [VR]) VRs.nil
  | i k n => simp only [VR] at h; subst h; exact VRs.cons (by simp only [VR]) VRs.nil
  | s x => simp only [VR] at h; obtain ⟨rfl, k⟩ := h; exact VRs.cons (by simp only [VR]; exact ⟨trivial, k⟩) VRs.nil
  | p id o => have h0 := h; simp only [VR] at h; obtain ⟨b, s, n, k, rfl⟩ := h; exact VRs.cons h0 VRs.nil
  | np => simp only [VR] at h; subst h; exact VRs.cons (by simp only [VR]) VRs.nil
  | sl id o len lo sz ex => have h0 := h; simp only [VR] at h; obtain ⟨b, s, n, c, k, rfl, _⟩ := h; exact VRs.cons h0 VRs.nil
  | nsl => simp only [VR] at h; subst h; exact VRs.cons (by simp only [VR]) VRs.nil
  | es => have h0 := h; simp only [VR] at h; obtain ⟨b, c, rfl⟩ := h; exact VRs.cons h0 VRs.nil
  | m id => have h0 := h; simp only [VR] at h; obtain ⟨b, n, k, rfl⟩ := h; exact VRs.cons h0 VRs.nil
  | nm => simp only [VR] at h; subst h; exact VRs.cons (by simp only [VR]) VRs.nil
  | f fn x y => have h0 := h; simp only [VR] at h; obtain ⟨_, _, rfl, _⟩ := h; exact VRs.cons h0 VRs.nil
  | y id => have h0 := h; simp only [VR] at h; obtain ⟨b, n, k, rfl⟩ := h; exact VRs.cons h0 VRs.nil
  | nf => simp only [VR] at h; subst h; exact VRs.cons (by simp only [VR]) VRs.nil
  | ifc t v => have h0 := h; simp only [VR] at h; obtain ⟨_, rfl, _⟩ := h; exact VRs.cons h0 VRs.nil
  | nif => simp only [VR] at h; subst h; exact VRs.cons (by simp only [VR]) VRs.nil
  | tup l => have h0 := h; simp only [VR] at h; obtain ⟨_, rfl, _⟩ := h; exact VRs.cons h0 VRs.nil

/-! ### Reading cells. -/

theorem nofr {fr : Nat × Nat} {n : Nat} (h : fr = (0, 0) ∨ n ≤ fr.1) : ∀ i, i < n → ¬ (fr.1 ≤ i ∧ i < fr.2) := by
  intro i hi
  rcases h with rfl | h
  · simp
  · omega

theorem HR.lcells (h : HR P σ s w) {id : Pos} {c : List AV} (e : lcells s.h id = some c) :
    ∃ b sh n cs t fr, σ id = some (b, sh, n) ∧ w.heap[b]? = some (.cells cs t fr) ∧ cs.size = n ∧ (∀ i, i < n → ¬ (fr.1 ≤ i ∧ i < fr.2)) ∧ sh + c.length ≤ n ∧
      ∀ (i : Nat) a, c[i]? = some a → ∃ v, cs[sh + i]? = some v ∧ VR σ a v := by
  unfold Ev.lcells at e
  split at e
  · rename_i c' pl he
    cases e
    obtain ⟨b, sh, n, ob, h1, h2, cs, t, fr, rfl, h3, _, h4, h5, h6⟩ := h.obj id _ he
    exact ⟨b, sh, n, cs, t, fr, h1, h2, h3, nofr h4, h5, h6⟩
  · cases e

theorem cell_of {b : Nat} {cs : Array Value} {t : TypeId} {fr : Nat × Nat} (h : w.heap[b]? = some (.cells cs t fr)) (i : Nat) : w.cell? ⟨b, i, none⟩ = cs[i]? := by
  simp [World.cell?, h]

theorem run_loadCellsFrom {a : Addr} (hs : a.spot = none) : ∀ (vs : List Value) (i : Nat) (acc : Array Value), (∀ (j : Nat) v, vs[j]? = some v → w.cell? ⟨a.block, a.off + (i + j), none⟩ = some v) →
    (loadCellsFrom a i vs.length acc).run P w = .ok (acc ++ vs.toArray) w := by
  intro vs
  induction vs with
  | nil => intro i acc _; simp [loadCellsFrom, go_sem]
  | cons v vs ih =>
    intro i acc h
    have h0 := h 0 v rfl
    have ha : a.add i = ⟨a.block, a.off + i, none⟩ := by
      unfold Addr.add
      split
      · rename_i e; subst e; cases a; simp at hs; subst hs; rfl
      · rfl
    have := ih (i + 1) (acc.push v) (fun j u hu => by have := h (j + 1) u (by simpa using hu); rw [← this]; congr 2; omega)
    simp only [List.length_cons, loadCellsFrom]
    simp only [Nat.add_zero] at h0
    simp [go_sem, ha, h0, this]

theorem run_loadCells {b o : Nat} {vs : List Value} (h : ∀ (j : Nat) v, vs[j]? = some v → w.cell? ⟨b, o + j, none⟩ = some v) :
    (loadCells ⟨b, o, none⟩ vs.length).run P w = .ok vs.toArray w := by
  have := run_loadCellsFrom (P := P) (w := w) (a := ⟨b, o, none⟩) rfl vs 0 #[] (fun j v hv => by simpa using h j v hv)
  simpa [loadCells] using this

end
end Go.Proofs.YtdpglpjahbiemaaGreatDoor.Ev
