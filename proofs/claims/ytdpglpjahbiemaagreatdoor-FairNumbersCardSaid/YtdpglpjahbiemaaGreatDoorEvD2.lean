/- A region whose order is drawn: which operations its run met, what its text's check says. No program. -/
import Derived.Test.YtdpglpjahbiemaaGreatDoorEvD1
namespace Go.Proofs.YtdpglpjahbiemaaGreatDoor.Ev
open Go

/-! ### Values told alike are the same. -/
theorem bEq_iff {a b : Bool} (h : bEq a b = true) : a = b := by cases a <;> cases b <;> first | rfl | cases h
mutual
theorem avBeq_iff : ∀ {a b : AV}, avBeq a b = true → a = b
  | .b x, c, h => by cases c <;> simp only [avBeq, Bool.false_eq_true] at h; rw [bEq_iff h]
  | .i k n, c, h => by cases c <;> simp only [avBeq, Bool.false_eq_true, Bool.and_eq_true] at h; rw [kindEq_iff h.1, intEq_iff.1 h.2]
  | .s x, c, h => by cases c <;> simp only [avBeq, Bool.false_eq_true] at h; rw [eqS_iff.1 h]
  | .p a o, c, h => by cases c <;> simp only [avBeq, Bool.false_eq_true, Bool.and_eq_true, decide_eq_true_eq] at h; rw [h.1, Nat.eq_of_beq_eq_true h.2]
  | .np, c, h => by cases c <;> simp only [avBeq, Bool.false_eq_true] at h; rfl
  | .sl a o n l z e, c, h => by
    cases c <;> simp only [avBeq, Bool.false_eq_true, Bool.and_eq_true, decide_eq_true_eq] at h
    obtain ⟨⟨⟨⟨⟨h1, h2⟩, h3⟩, h4⟩, h5⟩, h6⟩ := h
    rw [h1, Nat.eq_of_beq_eq_true h2, Nat.eq_of_beq_eq_true h3, Nat.eq_of_beq_eq_true h4, Nat.eq_of_beq_eq_true h5, bEq_iff h6]
  | .nsl, c, h => by cases c <;> simp only [avBeq, Bool.false_eq_true] at h; rfl
  | .es, c, h => by cases c <;> simp only [avBeq, Bool.false_eq_true] at h; rfl
  | .m a, c, h => by cases c <;> simp only [avBeq, Bool.false_eq_true, decide_eq_true_eq] at h; rw [h]
  | .nm, c, h => by cases c <;> simp only [avBeq, Bool.false_eq_true] at h; rfl
  | .f a x y, c, h => by
    cases c <;> simp only [avBeq, Bool.false_eq_true, Bool.and_eq_true, decide_eq_true_eq] at h
    rw [h.1.1, avBeqs_iff h.1.2, avBeqs_iff h.2]
  | .y a, c, h => by cases c <;> simp only [avBeq, Bool.false_eq_true, decide_eq_true_eq] at h; rw [h]
  | .nf, c, h => by cases c <;> simp only [avBeq, Bool.false_eq_true] at h; rfl
  | .ifc t x, c, h => by cases c <;> simp only [avBeq, Bool.false_eq_true, Bool.and_eq_true] at h; rw [Nat.eq_of_beq_eq_true h.1, avBeq_iff h.2]
  | .nif, c, h => by cases c <;> simp only [avBeq, Bool.false_eq_true] at h; rfl
  | .agg x, c, h => by cases c <;> simp only [avBeq, Bool.false_eq_true] at h; rw [avBeqs_iff h]
  | .tup x, c, h => by cases c <;> simp only [avBeq, Bool.false_eq_true] at h; rw [avBeqs_iff h]
theorem avBeqs_iff : ∀ {a b : List AV}, avBeqs a b = true → a = b
  | [], c, h => by cases c <;> simp only [avBeqs, Bool.false_eq_true] at h; rfl
  | a :: l, c, h => by
    cases c <;> simp only [avBeqs, Bool.false_eq_true, Bool.and_eq_true] at h
    rw [avBeq_iff h.1, avBeqs_iff h.2]
end

/-! ### What the run met. -/
section
variable {self : Req → St → Option Res} {os : List AOp} {f : Nat → DS} {t0 : T AV} {s0 : St} {nx0 : Pos}

theorem Rn.acts_at (h : Rn self os t0 s0 nx0 f) : ∀ (j : Nat), j ≤ os.length → ∀ e ∈ (f j).acts, e.i < j ∧ ∃ o, os[e.i]? = some o ∧ wantedA (f e.i).t o.guard = some true ∧ ∃ k, o.k = .x k ∧ e.pre = o.pre
  | 0, _, e, he => by rw [h.z] at he; cases he
  | j + 1, hj, e, he => by
    obtain ⟨o, ho⟩ : ∃ o, os[j]? = some o := ⟨os[j], List.getElem?_eq_getElem (by omega)⟩
    have ih := h.acts_at j (by omega)
    have hi := h.i j (by omega)
    have old : e ∈ (f j).acts → e.i < j + 1 ∧ ∃ o, os[e.i]? = some o ∧ wantedA (f e.i).t o.guard = some true ∧ ∃ k, o.k = .x k ∧ e.pre = o.pre := fun hm => ⟨by have := (ih e hm).1; omega, (ih e hm).2⟩
    rcases h.sp j o ho with ⟨_, e'⟩ | ⟨hw, args, _, ⟨k, v, _, _, e'⟩ | ⟨k, ob, v, _, _, e'⟩ | ⟨k, v, s, hk, _, e'⟩⟩ <;> rw [e'] at he
    · exact old he
    · exact old he
    · exact old he
    · rcases List.mem_cons.1 he with e1 | he
      · subst e1; simp only [hi]; exact ⟨by omega, o, ho, hw, k, hk, rfl⟩
      · exact old he
theorem Rn.mks_at (h : Rn self os t0 s0 nx0 f) : ∀ (j : Nat), j ≤ os.length → ∀ e ∈ (f j).mks, e.1 < j ∧ ∃ o, os[e.1]? = some o ∧ wantedA (f e.1).t o.guard = some true ∧ ∃ k, o.k = .m k
  | 0, _, e, he => by rw [h.z] at he; cases he
  | j + 1, hj, e, he => by
    obtain ⟨o, ho⟩ : ∃ o, os[j]? = some o := ⟨os[j], List.getElem?_eq_getElem (by omega)⟩
    have ih := h.mks_at j (by omega)
    have hi := h.i j (by omega)
    have old : e ∈ (f j).mks → e.1 < j + 1 ∧ ∃ o, os[e.1]? = some o ∧ wantedA (f e.1).t o.guard = some true ∧ ∃ k, o.k = .m k := fun hm => ⟨by have := (ih e hm).1; omega, (ih e hm).2⟩
    rcases h.sp j o ho with ⟨_, e'⟩ | ⟨hw, args, _, ⟨k, v, _, _, e'⟩ | ⟨k, ob, v, hk, _, e'⟩ | ⟨k, v, s, _, _, e'⟩⟩ <;> rw [e'] at he
    · exact old he
    · exact old he
    · rcases List.mem_cons.1 he with e1 | he
      · subst e1; simp only [hi]; exact ⟨by omega, o, ho, hw, k, hk⟩
      · exact old he
    · exact old he

def cntM : List AOp → Nat
  | [] => 0
  | o :: l => (match o.k with | .m _ => 1 | _ => 0) + cntM l
theorem advMk_cnt : ∀ (l : List AOp) (p : Pos), (advMk l p).toNat = p.toNat + cntM l
  | [], p => rfl
  | o :: l, p => by
    simp only [advMk, cntM]
    split
    · rename_i hk; rw [advMk_cnt l, Pos.toNat_succ, hk]; simp only; omega
    · rename_i hk; rw [advMk_cnt l]
      have : (match o.k with | .m _ => 1 | _ => 0) = 0 := by
        split
        · rename_i k e; exact absurd e (hk k)
        · rfl
      simp only []; omega
theorem Rn.rid (h : Rn self os t0 s0 nx0 f) : ∀ (j : Nat), j ≤ os.length → (f j).rid.toNat + cntM (os.drop j) ≤ s0.nx.toNat + cntM os
  | 0, _ => by rw [h.z]; simp
  | j + 1, hj => by
    obtain ⟨o, ho⟩ : ∃ o, os[j]? = some o := ⟨os[j], List.getElem?_eq_getElem (by omega)⟩
    have ih := h.rid j (by omega)
    have hdr : os.drop j = o :: os.drop (j + 1) := by
      rw [List.drop_eq_getElem_cons (by omega)]; congr 1; rw [List.getElem?_eq_getElem (by omega)] at ho; simpa using ho
    rw [hdr] at ih
    simp only [cntM] at ih
    rcases h.sp j o ho with ⟨_, e⟩ | ⟨_, args, _, ⟨k, v, _, _, e⟩ | ⟨k, ob, v, hk, _, e⟩ | ⟨k, v, s, _, _, e⟩⟩ <;> rw [e] <;> simp only
    · omega
    · omega
    · rw [hk] at ih; rw [Pos.toNat_succ]; simp only at ih; omega
    · omega
theorem Rn.ridle (h : Rn self os t0 s0 (advMk os s0.nx) f) : ∀ p ∈ (f os.length).mks, p.2.1.toNat < (advMk os s0.nx).toNat := by
  intro p hp
  have h1 := (h.nodup os.length (Nat.le_refl _)).2.1 p hp
  have h2 := h.rid os.length (Nat.le_refl _)
  rw [advMk_cnt]
  omega
end

/-! ### What an operation waits for. -/
section
variable {ops : Array Oper}

def oneB (A : Array Nat) (o : Oper) : Nat := o.after.foldl (fun s e => if Region.binds .any e then s ||| 2 ^ e.on ||| A.getD e.on 0 else s) 0
theorem before_list (l : List Oper) : ∀ (A : Array Nat), ∃ B : List Nat, (l.foldl (fun acc o => acc.push (oneB acc o)) A).toList = A.toList ++ B ∧ B.length = l.length := by
  induction l with
  | nil => intro A; exact ⟨[], by simp, rfl⟩
  | cons o l ih =>
    intro A
    obtain ⟨B, h1, h2⟩ := ih (A.push (oneB A o))
    exact ⟨oneB A o :: B, by simp only [List.foldl_cons, h1]; simp, by simp [h2]⟩
theorem bits_fold (A : Array Nat) (j : Nat) : ∀ (l : List Edge) (s : Nat), Nat.testBit (l.foldl (fun s e => if Region.binds .any e then s ||| 2 ^ e.on ||| A.getD e.on 0 else s) s) j = true → Nat.testBit s j = true ∨ ∃ e ∈ l, Region.binds .any e = true ∧ (e.on = j ∨ Nat.testBit (A.getD e.on 0) j = true)
  | [], s, h => Or.inl h
  | e :: l, s, h => by
    simp only [List.foldl_cons] at h
    rcases bits_fold A j l _ h with h1 | ⟨e', h1, h2⟩
    · split at h1
      · rename_i hb
        rw [Nat.testBit_or, Nat.testBit_or, Bool.or_eq_true, Bool.or_eq_true] at h1
        rcases h1 with (h1 | h1) | h1
        · exact Or.inl h1
        · rw [Nat.testBit_two_pow] at h1
          exact Or.inr ⟨e, by simp, hb, Or.inl (by simpa using h1)⟩
        · exact Or.inr ⟨e, by simp, hb, Or.inr h1⟩
      · exact Or.inl h1
    · exact Or.inr ⟨e', by simp [h1], h2⟩
theorem before_eq (l : List Oper) : Region.before l.toArray = l.foldl (fun acc o => acc.push (oneB acc o)) #[] := by
  unfold Region.before
  rw [← Array.foldl_toList]
  rfl
theorem before_snoc (l : List Oper) (o : Oper) : (Region.before (l ++ [o]).toArray) = (Region.before l.toArray).push (oneB (Region.before l.toArray) o) := by
  rw [before_eq, before_eq, List.foldl_append]; rfl
theorem before_size (l : List Oper) : (Region.before l.toArray).size = l.length := by
  obtain ⟨B, h1, h2⟩ := before_list l #[]
  rw [before_eq, ← Array.length_toList, h1]; simp [h2]
/-- A bit tells of an edge, or of one ahead of an edge's end. -/
theorem before_bit : ∀ (m : Nat) (l : List Oper), l.length = m → ∀ (i j : Nat) (o : Oper), l[i]? = some o → (∀ (k : Nat) q, l[k]? = some q → ∀ e ∈ q.after, Region.binds .any e = true → e.on < k) → Nat.testBit ((Region.before l.toArray).getD i 0) j = true → ∃ e ∈ o.after, Region.binds .any e = true ∧ (e.on = j ∨ Nat.testBit ((Region.before l.toArray).getD e.on 0) j = true) := by
  intro m
  induction m with
  | zero => intro l hl i j o h; rw [List.length_eq_zero_iff.1 hl] at h; simp at h
  | succ m ih =>
    intro l0 hl0 i j o ho hed hb
    obtain ⟨l, q, rfl⟩ : ∃ l q, l0 = l ++ [q] := ⟨l0.dropLast, l0.getLast (by intro e; rw [e] at hl0; cases hl0), (List.dropLast_concat_getLast _).symm⟩
    have ih := ih l (by simpa using hl0)
    have hsz := before_size l
    have hget : ∀ k, k < l.length → (Region.before (l ++ [q]).toArray).getD k 0 = (Region.before l.toArray).getD k 0 := by
      intro k hk
      rw [before_snoc]
      simp only [Array.getD_eq_getD_getElem?]
      rw [Array.getElem?_push_lt (by omega)]
      rw [Array.getElem?_eq_getElem (by omega)]
    rcases Nat.lt_or_ge i l.length with hi | hi
    · rw [hget i hi] at hb
      rw [List.getElem?_append_left hi] at ho
      obtain ⟨e, h1, h2, h3⟩ := ih i j o ho (fun k q' hk e he hb' => hed k q' (by rw [List.getElem?_append_left (List.getElem?_eq_some_iff.1 hk).1]; exact hk) e he hb') hb
      refine ⟨e, h1, h2, ?_⟩
      have := hed i o (by rw [List.getElem?_append_left hi]; exact ho) e h1 h2
      rw [hget e.on (by omega)]
      exact h3
    · have hi' : i = l.length := by
        have := (List.getElem?_eq_some_iff.1 ho).1
        simp at this; omega
      subst hi'
      have ho' : o = q := by simpa using ho.symm
      subst ho'
      rw [before_snoc] at hb
      simp only [Array.getD_eq_getD_getElem?] at hb
      rw [← hsz, Array.getElem?_push_size] at hb
      simp only [Option.getD_some, oneB, ← Array.foldl_toList] at hb
      rcases bits_fold _ j _ _ hb with h1 | ⟨e, h1, h2, h3⟩
      · simp at h1
      · have h1' : e ∈ o.after := by simpa using h1
        refine ⟨e, h1', h2, ?_⟩
        have := hed l.length o (by simp) e h1' h2
        rw [hget e.on this]
        exact h3
end
end Go.Proofs.YtdpglpjahbiemaaGreatDoor.Ev
