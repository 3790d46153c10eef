/- A region whose order is drawn: any order does what the run in the order of the text does. No program. -/
import Derived.Test.YtdpglpjahbiemaaGreatDoorEvD3
namespace Go.Proofs.YtdpglpjahbiemaaGreatDoor.Ev
open Go

theorem getAll_congr {t t' : T AV} : ∀ {xs : List Opd}, (∀ p, Opd.t p ∈ xs → T.get p t = T.get p t') → getAll t xs = getAll t' xs
  | [], _ => rfl
  | x :: xs, h => by
    have h1 : x.get t = x.get t' := by
      cases x with
      | t p => exact h p (by simp)
      | c v => rfl
      | bad => rfl
    have h2 : getAll t xs = getAll t' xs := getAll_congr (fun p hp => h p (List.mem_cons_of_mem _ hp))
    simp only [getAll, h1, h2]
theorem wantedA_congr {t t' : T AV} {g : Option (Pos × Bool)} (h : ∀ p b, g = some (p, b) → T.get p t = T.get p t') : wantedA t g = wantedA t' g := by
  cases g with
  | none => rfl
  | some x => obtain ⟨p, b⟩ := x; simp only [wantedA, h p b rfl]
theorem split_unique {α : Type} {F : α → Prop} : ∀ {a b c d : List α}, a ++ b = c ++ d → (∀ x ∈ a, ¬ F x) → (∀ x ∈ b, F x) → (∀ x ∈ c, ¬ F x) → (∀ x ∈ d, F x) → a = c ∧ b = d
  | [], b, [], d, h, _, _, _, _ => ⟨rfl, h⟩
  | [], b, y :: c, d, h, _, hb, hc, _ => absurd (hb y (by have : b = y :: (c ++ d) := h; rw [this]; simp)) (hc y (by simp))
  | x :: a, b, [], d, h, ha, _, _, hd => absurd (hd x (by have : d = x :: (a ++ b) := h.symm; rw [this]; simp)) (ha x (by simp))
  | x :: a, b, y :: c, d, h, ha, hb, hc, hd => by
    simp only [List.cons_append, List.cons.injEq] at h
    obtain ⟨h1, h2⟩ := split_unique h.2 (fun z hz => ha z (by simp [hz])) hb (fun z hz => hc z (by simp [hz])) hd
    exact ⟨by rw [h.1, h1], h2⟩
theorem chkN_split {h : T AO} {n : Nat × Nat × NK × List AV × AV} : ∀ {R done rest : List AE}, chkN h n (R ++ done) rest = true → chkN.chk1 h n done (R.reverse ++ rest) = true
  | [], done, rest, e => by
    cases done with
    | nil => simpa [chkN] using e
    | cons a d => simp only [List.nil_append, chkN, Bool.and_eq_true] at e; exact e.1
  | a :: R, done, rest, e => by
    simp only [List.cons_append, chkN, Bool.and_eq_true] at e
    have := chkN_split e.2
    simpa using this

section
variable {P : Program} {ops : Array Oper}

/-- Those that are ahead of one that is at hand are behind us. -/
theorem chain_listed {listed : Array Bool} (hd : Dr P ops) (down : ∀ (i : Nat) o, ops[i]? = some o → listed[i]? = some true → ∀ e ∈ o.after, Region.binds .any e = true → listed[e.on]? = some true) :
    ∀ (n i : Nat) (o : Oper), i < n → ops[i]? = some o → (∀ e ∈ o.after, Region.binds .any e = true → listed[e.on]? = some true) → ∀ j, Nat.testBit ((Region.before ops).getD i 0) j = true → listed[j]? = some true
  | 0, i, o, hlt, _, _, _, _ => by omega
  | n + 1, i, o, hlt, ho, hed, j, hb => by
    obtain ⟨e, h1, h2, h3⟩ := before_bit ops.toList.length ops.toList rfl i j o (by simpa using ho) (fun k q hk e he hb' => hd.edge k q (by simpa using hk) e he hb') (by simpa using hb)
    rcases h3 with h3 | h3
    · rw [← h3]; exact hed e h1 h2
    · have hlt' := hd.edge i o ho e h1 h2
      have hil := (Array.getElem?_eq_some_iff.1 ho).1
      obtain ⟨q, hq⟩ : ∃ q, ops[e.on]? = some q := ⟨ops[e.on], Array.getElem?_eq_getElem (by omega)⟩
      have he := hed e h1 h2
      exact chain_listed hd down n e.on q (by omega) hq (fun e' h' hb' => down e.on q hq he e' h' hb') j (by simpa using h3)
theorem ready_inv {listed : Array Bool} {i : Nat} (hsz : listed.size = ops.size) (h : i ∈ Region.ready .any ops listed) : ∃ o, ops[i]? = some o ∧ listed[i]? = some false ∧ ∀ e ∈ o.after, Region.binds .any e = true → listed[e.on]? = some true := by
  simp only [Region.ready, List.mem_filter, List.mem_range, Bool.and_eq_true, Bool.not_eq_true'] at h
  obtain ⟨h1, h2, h3⟩ := h
  refine ⟨ops[i], Array.getElem?_eq_getElem h1, ?_, fun e he hb => ?_⟩
  · rw [Array.getElem?_eq_getElem (by omega)]
    simp only [Array.getD_eq_getD_getElem?, Array.getElem?_eq_getElem (show i < listed.size by omega), Option.getD_some] at h2
    rw [h2]
  · rw [Array.getElem?_eq_getElem h1] at h3
    simp only [Option.map_some, Option.getD_some] at h3
    have := Array.all_eq_true_iff_forall_mem.1 h3 e he
    simp only [hb, Bool.not_true, Bool.false_or, Array.getD_eq_getD_getElem?] at this
    cases hg : listed[e.on]? with
    | none => rw [hg] at this; cases this
    | some b => rw [hg] at this; simp only [Option.getD_some] at this; rw [this]
/-- Where none is at hand, all are behind us. -/
theorem all_listed {listed : Array Bool} (hd : Dr P ops) (hsz : listed.size = ops.size) (h : Region.ready .any ops listed = []) : ∀ (n i : Nat), i < n → i < ops.size → listed[i]? = some true
  | 0, i, hlt, _ => by omega
  | n + 1, i, hlt, hi => by
    cases hb : listed[i] with
    | true => rw [Array.getElem?_eq_getElem (by omega), hb]
    | false =>
      exfalso
      have : i ∈ Region.ready .any ops listed := by
        simp only [Region.ready, List.mem_filter, List.mem_range, Bool.and_eq_true, Bool.not_eq_true']
        refine ⟨hi, ?_, ?_⟩
        · simp only [Array.getD_eq_getD_getElem?, Array.getElem?_eq_getElem (show i < listed.size by omega), Option.getD_some]; exact hb
        · rw [Array.getElem?_eq_getElem hi]
          simp only [Option.map_some, Option.getD_some]
          rw [Array.all_eq_true_iff_forall_mem]
          intro e he
          cases hbd : Region.binds .any e with
          | false => rfl
          | true =>
            have hlt' := hd.edge i _ (Array.getElem?_eq_getElem hi) e he hbd
            have := all_listed hd hsz h n e.on (by omega) (by omega)
            simp [Array.getD_eq_getD_getElem?, this]
      rw [h] at this; cases this

theorem set_true {listed : Array Bool} {i j : Nat} (hi : i < listed.size) : (listed.setIfInBounds i true)[j]? = some true ↔ j = i ∨ listed[j]? = some true := by
  rw [Array.getElem?_setIfInBounds]
  by_cases h : i = j
  · subst h; simp [hi]
  · simp only [h, if_false]
    constructor
    · intro k; exact Or.inr k
    · rintro (k | k)
      · exact absurd k.symm h
      · exact k
theorem set_false {listed : Array Bool} {i j : Nat} (hi : i < listed.size) : (listed.setIfInBounds i true)[j]? = some false ↔ j ≠ i ∧ listed[j]? = some false := by
  rw [Array.getElem?_setIfInBounds]
  by_cases h : i = j
  · subst h; simp [hi]
  · simp only [h, if_false]
    constructor
    · intro k; exact ⟨fun e => h e.symm, k⟩
    · intro k; exact k.2
theorem count_set {listed : Array Bool} {i n : Nat} (h : listed[i]? = some false) (hc : listed.toList.count false ≤ n + 1) : (listed.setIfInBounds i true).toList.count false ≤ n := by
  have hi := (Array.getElem?_eq_some_iff.1 h).1
  have hv := (Array.getElem?_eq_some_iff.1 h).2
  rw [Array.toList_setIfInBounds, List.count_set (by simpa using hi)]
  have : listed.toList[i]'(by simpa using hi) = false := by simpa using hv
  rw [this]
  simp only [beq_self_eq_true, if_true]
  have : (true == false) = false := rfl
  rw [this]
  simp only [Bool.false_eq_true, if_false]
  omega

/-- What the run and the machine have in common. -/
structure Iv (P : Program) (ops : Array Oper) (N : Nat) (f : Nat → DS) (nx0 : Pos) (σ0 : Sg) (s0 : St) (w0 : World) (a0 : Act) (listed : Array Bool) (a : Act) (w : World) (R done : List AE) (σ : Sg) (t : T AV) : Prop where
  sz : listed.size = ops.size
  split : (f ops.size).acts = R ++ done
  dn : ∀ e ∈ done, listed[e.i]? = some true
  rs : ∀ e ∈ R, listed[e.i]? = some false
  down : ∀ (i : Nat) o, ops[i]? = some o → listed[i]? = some true → ∀ e ∈ o.after, Region.binds .any e = true → listed[e.on]? = some true
  hr : HR P σ ⟨hOf s0.h done, nxOf nx0 done⟩ w
  upd : Upd w0 w (Live σ0 s0) (Live σ ⟨hOf s0.h done, nxOf nx0 done⟩)
  agree : ∀ id, id.toNat < s0.nx.toNat → σ id = σ0 id
  le : nx0.toNat ≤ (nxOf nx0 done).toNat
  tr : TR σ N t a.tmps
  tt : ∀ p, (∀ (j : Nat) o, (osOf P ops)[j]? = some o → o.dst = some p → listed[j]? = some true) → T.get p t = T.get p (f ops.size).t
  un : ∀ p ∈ (f ops.size).mks, listed[p.1]? = some false → σ p.2.1 = none
  fl : Fls P σ ⟨hOf s0.h done, nxOf nx0 done⟩ w w0 (fun p => p ∈ (f ops.size).mks ∧ listed[p.1]? = some true ∧ ∀ e ∈ done, Nat.testBit e.pre p.1 = false)
  df : a.defers = a0.defers

section
variable {N : Nat} {f : Nat → DS} {σ0 : Sg} {s0 : St} {w0 : World} {a0 : Act} {listed : Array Bool} {a : Act} {w : World} {R done : List AE} {σ : Sg} {t t0 : T AV} {self : Req → St → Option Res}

/-- The temporaries, through one operation. -/
theorem tt_step (hd : Dr P ops) (hn : Rn self (osOf P ops) t0 s0 (advMk (osOf P ops) s0.nx) f) (hsz : listed.size = ops.size) {i : Nat} {o : AOp} (ho : (osOf P ops)[i]? = some o) {v : AV} (hv : (f (i + 1)).t = putD (f i).t o.dst v)
    (htt : ∀ p, (∀ (j : Nat) o, (osOf P ops)[j]? = some o → o.dst = some p → listed[j]? = some true) → T.get p t = T.get p (f ops.size).t) :
    ∀ p, (∀ (j : Nat) o, (osOf P ops)[j]? = some o → o.dst = some p → (listed.setIfInBounds i true)[j]? = some true) → T.get p (putD t o.dst v) = T.get p (f ops.size).t := by
  have hi : i < ops.size := by have := (List.getElem?_eq_some_iff.1 ho).1; rwa [osOf_len] at this
  intro p hp
  by_cases hdst : o.dst = some p
  · have h1 := hn.tk (p := p) (ops.size - (i + 1)) (i + 1) (by rw [osOf_len]; omega) (fun j q h1 h2 hq e => by
      have := hd.uniq i j o q p ho hq hdst e; omega)
    rw [show i + 1 + (ops.size - (i + 1)) = ops.size by omega] at h1
    rw [h1, hv, hdst]
    simp only [putD, T.get_same]
  · have h1 : T.get p (putD t o.dst v) = T.get p t := by
      cases hq : o.dst with
      | none => rfl
      | some q => simp only [putD]; rw [T.get_other]; intro e; exact hdst (by rw [hq, e])
    rw [h1]
    refine htt p fun j q hj hq => ?_
    rcases (set_true (by omega)).1 (hp j q hj hq) with e | e
    · subst e; rw [ho] at hj; cases hj; exact absurd hq hdst
    · exact e

/-- What an operation at hand looks at, the run looked at. -/
theorem look_same (hd : Dr P ops) (hn : Rn self (osOf P ops) t0 s0 (advMk (osOf P ops) s0.nx) f) {i : Nat} {o : AOp} (ho : (osOf P ops)[i]? = some o) (hlo : ∀ j, Nat.testBit o.pre j = true → listed[j]? = some true) (_ : listed[i]? = some false)
    (hlt : ∀ j, Nat.testBit o.pre j = true → j < i)
    (htt : ∀ p, (∀ (j : Nat) o, (osOf P ops)[j]? = some o → o.dst = some p → listed[j]? = some true) → T.get p t = T.get p (f ops.size).t) {p : Pos} (hp : Opd.t p ∈ o.args ∨ ∃ b, o.guard = some (p, b)) : T.get p t = T.get p (f i).t := by
  have hi : i < ops.size := by have := (List.getElem?_eq_some_iff.1 ho).1; rwa [osOf_len] at this
  rw [htt p (fun j q hj hq => hlo j (hd.look i j o q p ho hj hq hp))]
  have h1 := hn.tk (p := p) (ops.size - i) i (by rw [osOf_len]; omega) (fun j q h1 h2 hq e => by
    have := hlt j (hd.look i j o q p ho hq e hp); omega)
  rw [show i + (ops.size - i) = ops.size by omega] at h1
  exact h1

/-- A bit is of one further up. -/
theorem bit_lt (hd : Dr P ops) : ∀ (n i : Nat) (o : Oper), i < n → ops[i]? = some o → ∀ j, Nat.testBit ((Region.before ops).getD i 0) j = true → j < i
  | 0, i, o, hlt, _, _, _ => by omega
  | n + 1, i, o, hlt, ho, j, hb => by
    obtain ⟨e, h1, h2, h3⟩ := before_bit ops.toList.length ops.toList rfl i j o (by simpa using ho) (fun k q hk e he hb' => hd.edge k q (by simpa using hk) e he hb') (by simpa using hb)
    have hlt' := hd.edge i o ho e h1 h2
    rcases h3 with h3 | h3
    · omega
    · have hil := (Array.getElem?_eq_some_iff.1 ho).1
      obtain ⟨q, hq⟩ : ∃ q, ops[e.on]? = some q := ⟨ops[e.on], Array.getElem?_eq_getElem (by omega)⟩
      have := bit_lt hd n e.on q (by omega) hq j (by simpa using h3)
      omega
end
end
end Go.Proofs.YtdpglpjahbiemaaGreatDoor.Ev
