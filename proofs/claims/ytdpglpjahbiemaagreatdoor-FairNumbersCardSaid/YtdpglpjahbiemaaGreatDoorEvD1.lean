/- A region whose order is drawn: what the evaluator's run in the order of the text has laid down. No program. -/
import Derived.Test.YtdpglpjahbiemaaGreatDoorEvS2
namespace Go.Proofs.YtdpglpjahbiemaaGreatDoor.Ev
open Go

def putD (t : T AV) (dst : Option Pos) (v : AV) : T AV := match dst with
  | none => t
  | some p => T.set p (some v) t
def insH (l : List (Nat × Pos × AO)) (h : T AO) : T AO := l.foldl (fun h p => T.set p.2.1 (some p.2.2) h) h
theorem insAll_eq {β : Type} : ∀ (l : List (Nat × Pos × AO)) (h : T AO) (k : T AO → β), insAll l h k = k (insH l h)
  | [], h, k => rfl
  | p :: l, h, k => by simp only [insAll, T.setK_eq, insAll_eq l]; rfl
theorem insH_other {q : Pos} : ∀ {l : List (Nat × Pos × AO)} {h : T AO}, (∀ p ∈ l, p.2.1 ≠ q) → T.get q (insH l h) = T.get q h
  | [], h, _ => rfl
  | p :: l, h, hq => by
    show T.get q (insH l (T.set p.2.1 (some p.2.2) h)) = _
    rw [insH_other (fun p' hp => hq p' (by simp [hp])), T.get_other _ _ _ _ (hq p (by simp))]
theorem insH_same : ∀ {l : List (Nat × Pos × AO)} {h : T AO}, (l.map (·.2.1)).Nodup → ∀ p ∈ l, T.get p.2.1 (insH l h) = some p.2.2
  | [], h, _, p, hp => by cases hp
  | q :: l, h, hn, p, hp => by
    simp only [List.map_cons, List.nodup_cons] at hn
    show T.get p.2.1 (insH l (T.set q.2.1 (some q.2.2) h)) = _
    rcases List.mem_cons.1 hp with e | hp
    · subst e
      rw [insH_other (fun p' hp' e => hn.1 (by rw [← e]; exact List.mem_map_of_mem hp')), T.get_same]
    · exact insH_same hn.2 p hp

/-- One step of the run. -/
def Sp (self : Req → St → Option Res) (o : AOp) (d d1 : DS) : Prop :=
  (wantedA d.t o.guard = some false ∧ d1 = { d with i := d.i + 1, t := putD d.t o.dst (.tup []) }) ∨
  (wantedA d.t o.guard = some true ∧ ∃ args, getAll d.t o.args = some args ∧
    ((∃ k v, o.k = .n k ∧ nrun d.s.h k args = some v ∧ d1 = { d with i := d.i + 1, t := putD d.t o.dst v, neu := (d.i, o.pre, k, args, v) :: d.neu }) ∨
     (∃ k ob v, o.k = .m k ∧ mrun d.s.h d.rid k args = some (ob, v) ∧ d1 = { d with i := d.i + 1, t := putD d.t o.dst v, rid := d.rid.succ, mks := (d.i, d.rid, ob) :: d.mks }) ∨
     (∃ k v s, o.k = .x k ∧ actRun self k args { d.s with h := insH (newMk d.mks o.pre d.acts) d.s.h } = some (v, s) ∧ d1 = { d with i := d.i + 1, t := putD d.t o.dst v, s := s, acts := ⟨d.i, o.pre, k, args, v, s⟩ :: d.acts })))

theorem dgo_chain {self : Req → St → Option Res} : ∀ (l : List AOp) {d d' : DS}, dgo self l d = some d' → ∃ f : Nat → DS, f 0 = d ∧ f l.length = d' ∧ ∀ (j : Nat) o, l[j]? = some o → Sp self o (f j) (f (j + 1))
  | [], d, d', h => by
    simp only [dgo, Option.some.injEq] at h
    exact ⟨fun _ => d, rfl, h, fun j o e => by simp at e⟩
  | o :: l, d, d', h => by
    have cons : ∀ {d1 : DS}, Sp self o d d1 → dgo self l d1 = some d' → ∃ f : Nat → DS, f 0 = d ∧ f (o :: l).length = d' ∧ ∀ (j : Nat) q, (o :: l)[j]? = some q → Sp self q (f j) (f (j + 1)) := by
      intro d1 hsp hd
      obtain ⟨f, h0, h1, h2⟩ := dgo_chain l hd
      refine ⟨fun j => match j with | 0 => d | j + 1 => f j, rfl, h1, fun j q e => ?_⟩
      cases j with
      | zero => simp only [List.getElem?_cons_zero, Option.some.injEq] at e; subst e; simp only; rw [h0]; exact hsp
      | succ j => simp only [List.getElem?_cons_succ] at e; exact h2 j q e
    simp only [dgo] at h
    split at h
    · cases h
    · rename_i hw
      simp only [putT_eq, natK_eq] at h
      exact cons (Or.inl ⟨hw, rfl⟩) h
    · rename_i hw
      split at h
      · cases h
      · rename_i args ha
        split at h
        · rename_i k hk
          split at h
          · rename_i v hv
            simp only [putT_eq, natK_eq] at h
            exact cons (Or.inr ⟨hw, args, ha, Or.inl ⟨k, v, hk, hv, rfl⟩⟩) h
          · cases h
        · rename_i k hk
          split at h
          · rename_i ob v hv
            simp only [aok_eq, putT_eq, natK_eq] at h
            exact cons (Or.inr ⟨hw, args, ha, Or.inr (Or.inl ⟨k, ob, v, hk, hv, rfl⟩)⟩) h
          · cases h
        · rename_i k hk
          rw [insAll_eq] at h
          split at h
          · rename_i v s hv
            simp only [putT_eq, natK_eq] at h
            exact cons (Or.inr ⟨hw, args, ha, Or.inr (Or.inr ⟨k, v, s, hk, hv, rfl⟩)⟩) h
          · cases h

def nxOf (p : Pos) : List AE → Pos
  | [] => p
  | a :: _ => a.so.nx

/-! ### What follows of the steps. -/
section
variable {self : Req → St → Option Res} {os : List AOp} {f : Nat → DS} {t0 : T AV} {s0 : St} {nx0 : Pos}

/-- The run, from its beginning. -/
structure Rn (ev : Req → St → Option Res) (os : List AOp) (t0 : T AV) (s0 : St) (nx0 : Pos) (f : Nat → DS) : Prop where
  z : f 0 = { i := 0, t := t0, s := { s0 with nx := nx0 }, rid := s0.nx, mks := [], acts := [], neu := [] }
  sp : ∀ (j : Nat) o, os[j]? = some o → Sp ev o (f j) (f (j + 1))

theorem Rn.i (h : Rn self os t0 s0 nx0 f) : ∀ j, j ≤ os.length → (f j).i = j
  | 0, _ => by rw [h.z]
  | j + 1, hj => by
    obtain ⟨o, ho⟩ : ∃ o, os[j]? = some o := ⟨os[j], List.getElem?_eq_getElem (by omega)⟩
    have ih := h.i j (by omega)
    rcases h.sp j o ho with ⟨_, e⟩ | ⟨_, args, _, ⟨k, v, _, _, e⟩ | ⟨k, ob, v, _, _, e⟩ | ⟨k, v, s, _, _, e⟩⟩ <;> rw [e] <;> simp [ih]

/-- Its temporaries: only the operations' own turn. -/
theorem Rn.t1 (h : Rn self os t0 s0 nx0 f) {j : Nat} {o : AOp} (ho : os[j]? = some o) : ∃ v, (f (j + 1)).t = putD (f j).t o.dst v := by
  rcases h.sp j o ho with ⟨_, e⟩ | ⟨_, args, _, ⟨k, v, _, _, e⟩ | ⟨k, ob, v, _, _, e⟩ | ⟨k, v, s, _, _, e⟩⟩ <;> rw [e] <;> exact ⟨_, rfl⟩
theorem Rn.tk (h : Rn self os t0 s0 nx0 f) {p : Pos} : ∀ (m j : Nat), j + m ≤ os.length → (∀ i o, j ≤ i → i < j + m → os[i]? = some o → o.dst ≠ some p) → T.get p (f (j + m)).t = T.get p (f j).t
  | 0, j, _, _ => rfl
  | m + 1, j, hl, hno => by
    obtain ⟨o, ho⟩ : ∃ o, os[j + m]? = some o := ⟨os[j + m], List.getElem?_eq_getElem (by omega)⟩
    obtain ⟨v, e⟩ := h.t1 ho
    rw [show j + (m + 1) = (j + m) + 1 by omega, e]
    have hne := hno (j + m) o (by omega) (by omega) ho
    have ih := h.tk m j (by omega) (fun i o h1 h2 => hno i o h1 (by omega))
    cases hd : o.dst with
    | none => simpa [putD] using ih
    | some q =>
      simp only [putD]
      rw [T.get_other]
      · exact ih
      · intro e'; exact hne (by rw [hd, e'])

/-- What was there stays there. -/
theorem Rn.mono1 (h : Rn self os t0 s0 nx0 f) {j : Nat} (hj : j < os.length) :
    (∃ l, (f (j + 1)).acts = l ++ (f j).acts ∧ ∀ a ∈ l, a.i = j) ∧ (∃ l, (f (j + 1)).mks = l ++ (f j).mks ∧ ∀ p ∈ l, p.1 = j ∧ p.2.1 = (f j).rid ∧ (f (j + 1)).rid = (f j).rid.succ) ∧ (∃ l, (f (j + 1)).neu = l ++ (f j).neu) ∧ ((f (j + 1)).rid = (f j).rid ∨ (f (j + 1)).rid = (f j).rid.succ) := by
  obtain ⟨o, ho⟩ : ∃ o, os[j]? = some o := ⟨os[j], List.getElem?_eq_getElem hj⟩
  have hi := h.i j (by omega)
  rcases h.sp j o ho with ⟨_, e⟩ | ⟨_, args, _, ⟨k, v, _, _, e⟩ | ⟨k, ob, v, _, _, e⟩ | ⟨k, v, s, _, _, e⟩⟩ <;> rw [e]
  · exact ⟨⟨[], rfl, by simp⟩, ⟨[], rfl, by simp⟩, ⟨[], rfl⟩, Or.inl rfl⟩
  · exact ⟨⟨[], rfl, by simp⟩, ⟨[], rfl, by simp⟩, ⟨[_], rfl⟩, Or.inl rfl⟩
  · exact ⟨⟨[], rfl, by simp⟩, ⟨[_], rfl, by simp [hi]⟩, ⟨[], rfl⟩, Or.inr rfl⟩
  · exact ⟨⟨[_], rfl, by simp [hi]⟩, ⟨[], rfl, by simp⟩, ⟨[], rfl⟩, Or.inl rfl⟩
theorem Rn.mono (h : Rn self os t0 s0 nx0 f) : ∀ (m j : Nat), j + m ≤ os.length →
    (∃ l, (f (j + m)).acts = l ++ (f j).acts ∧ ∀ a ∈ l, j ≤ a.i ∧ a.i < j + m) ∧ (∃ l, (f (j + m)).mks = l ++ (f j).mks ∧ ∀ p ∈ l, j ≤ p.1 ∧ p.1 < j + m ∧ (f j).rid.toNat ≤ p.2.1.toNat ∧ p.2.1.toNat < (f (j + m)).rid.toNat) ∧ (∃ l, (f (j + m)).neu = l ++ (f j).neu) ∧ (f j).rid.toNat ≤ (f (j + m)).rid.toNat
  | 0, j, _ => ⟨⟨[], rfl, by simp⟩, ⟨[], rfl, by simp⟩, ⟨[], rfl⟩, Nat.le_refl _⟩
  | m + 1, j, hl => by
    obtain ⟨⟨l1, a1, b1⟩, ⟨l2, a2, b2⟩, ⟨l3, a3⟩, a4⟩ := h.mono m j (by omega)
    obtain ⟨⟨m1, c1, d1⟩, ⟨m2, c2, d2⟩, ⟨m3, c3⟩, c4⟩ := h.mono1 (j := j + m) (by omega)
    rw [show j + (m + 1) = (j + m) + 1 by omega]
    refine ⟨⟨m1 ++ l1, by rw [c1, a1, List.append_assoc], fun a ha => ?_⟩, ⟨m2 ++ l2, by rw [c2, a2, List.append_assoc], fun p hp => ?_⟩, ⟨m3 ++ l3, by rw [c3, a3, List.append_assoc]⟩, ?_⟩
    · rcases List.mem_append.1 ha with k | k
      · have := d1 a k; omega
      · have := b1 a k; omega
    · rcases List.mem_append.1 hp with k | k
      · obtain ⟨e1, e2, e3⟩ := d2 p k
        rw [e2, e3, Pos.toNat_succ]; omega
      · obtain ⟨e1, e2, e3, e4⟩ := b2 p k
        rcases c4 with e | e <;> rw [e]
        · omega
        · rw [Pos.toNat_succ]; omega
    · rcases c4 with e | e <;> rw [e]
      · omega
      · rw [Pos.toNat_succ]; omega
theorem Rn.st (h : Rn self os t0 s0 nx0 f) : ∀ (j : Nat), j ≤ os.length → (f j).s.h = hOf s0.h (f j).acts ∧ (f j).s.nx = nxOf nx0 (f j).acts
  | 0, _ => by rw [h.z]; exact ⟨rfl, rfl⟩
  | j + 1, hj => by
    obtain ⟨o, ho⟩ : ∃ o, os[j]? = some o := ⟨os[j], List.getElem?_eq_getElem (by omega)⟩
    have ih := h.st j (by omega)
    rcases h.sp j o ho with ⟨_, e⟩ | ⟨_, args, _, ⟨k, v, _, _, e⟩ | ⟨k, ob, v, _, _, e⟩ | ⟨k, v, s, _, _, e⟩⟩ <;> rw [e]
    · exact ih
    · exact ih
    · exact ih
    · exact ⟨rfl, rfl⟩
theorem mks_nodup_aux {l m : List (Nat × Pos × AO)} {x : Nat} (h1 : (l.map (·.2.1)).Nodup) (h2 : (m.map (·.2.1)).Nodup) (h3 : ∀ p ∈ l, x ≤ p.2.1.toNat) (h4 : ∀ p ∈ m, p.2.1.toNat < x) : ((l ++ m).map (·.2.1)).Nodup := by
  rw [List.map_append, List.nodup_append]
  refine ⟨h1, h2, fun a ha b hb e => ?_⟩
  obtain ⟨p, hp, rfl⟩ := List.mem_map.1 ha
  obtain ⟨q, hq, rfl⟩ := List.mem_map.1 hb
  have := h3 p hp
  have := h4 q hq
  rw [e] at *
  omega
theorem Rn.nodup (h : Rn self os t0 s0 nx0 f) : ∀ (j : Nat), j ≤ os.length → (((f j).mks).map (·.2.1)).Nodup ∧ (∀ p ∈ (f j).mks, s0.nx.toNat ≤ p.2.1.toNat ∧ p.2.1.toNat < (f j).rid.toNat ∧ p.1 < j) ∧ (((f j).mks).map (·.1)).Nodup
  | 0, _ => by rw [h.z]; exact ⟨List.nodup_nil, by simp, List.nodup_nil⟩
  | j + 1, hj => by
    obtain ⟨ih1, ih2, ih3⟩ := h.nodup j (by omega)
    obtain ⟨_, ⟨m2, c2, d2⟩, _, c4⟩ := h.mono1 (j := j) (by omega)
    obtain ⟨o, ho⟩ : ∃ o, os[j]? = some o := ⟨os[j], List.getElem?_eq_getElem (by omega)⟩
    have hi := h.i j (by omega)
    have hr := (h.mono j 0 (by omega)).2.2.2
    rw [Nat.zero_add, h.z] at hr
    simp only at hr
    rcases h.sp j o ho with ⟨_, e⟩ | ⟨_, args, _, ⟨k, v, _, _, e⟩ | ⟨k, ob, v, _, _, e⟩ | ⟨k, v, s, _, _, e⟩⟩ <;> rw [e] <;> simp only
    · exact ⟨ih1, fun p hp => by have := ih2 p hp; omega, ih3⟩
    · exact ⟨ih1, fun p hp => by have := ih2 p hp; omega, ih3⟩
    · refine ⟨?_, fun p hp => ?_, ?_⟩
      · simp only [List.map_cons, List.nodup_cons]
        refine ⟨fun hm => ?_, ih1⟩
        obtain ⟨p, hp, e'⟩ := List.mem_map.1 hm
        have := ih2 p hp
        rw [e'] at this; omega
      · rcases List.mem_cons.1 hp with e' | hp
        · subst e'; simp only [Pos.toNat_succ, hi]; omega
        · have := ih2 p hp; rw [Pos.toNat_succ]; omega
      · simp only [List.map_cons, List.nodup_cons]
        refine ⟨fun hm => ?_, ih3⟩
        obtain ⟨p, hp, e'⟩ := List.mem_map.1 hm
        have := ih2 p hp
        rw [e', hi] at this; omega
    · exact ⟨ih1, fun p hp => by have := ih2 p hp; omega, ih3⟩
end
end Go.Proofs.YtdpglpjahbiemaaGreatDoor.Ev
