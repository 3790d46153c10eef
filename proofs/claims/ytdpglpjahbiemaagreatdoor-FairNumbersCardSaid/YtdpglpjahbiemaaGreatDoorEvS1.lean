/- Rows of operations: what the evaluator runs, the model runs. No program. -/
import Derived.Test.YtdpglpjahbiemaaGreatDoorEvX5
namespace Go.Proofs.YtdpglpjahbiemaaGreatDoor.Ev
open Go

/-- The fence of a function's own code, or of a round's. -/
def Fo (lo : Option Nat) : Fence := match lo with
  | none => Fence.wide
  | some l => Fence.wide.inRound l
theorem Fo_fn (lo : Option Nat) (f : FuncId) : (Fo lo).fn f := by cases lo <;> exact trivial
theorem Fo_depth (lo : Option Nat) : (Fo lo).depth = none := by cases lo <;> rfl
theorem Fo_round (lo : Option Nat) : (Fo lo).round = lo := by cases lo <;> rfl

/-- An operation's meaning ends in a value, in a call that returns one, or in a round that does. -/
def CallS (P : Program) (x : Sem Next) (w : World) (R : Value → World → Prop) : Prop :=
  (∃ u w', x.run P w = .ok (.value u) w' ∧ R u w') ∨ (∃ w', x.run P w = .ok .skip w' ∧ R undef w') ∨
  (∃ f args w1, x.run P w = .ok (.enter f args) w1 ∧ Calls P f args w1 (fun e w' => ∃ u, e = .returned u ∧ R u w')) ∨
  (∃ l f tmps as body w1, x.run P w = .ok (.round l f tmps as body) w1 ∧ RoundIn Fence.wide 0 P l f tmps as body w1 (fun e w' => ∃ u, e = .returned u ∧ R u w'))

theorem CallS.mono {P : Program} {x : Sem Next} {w : World} {R R' : Value → World → Prop} (h : CallS P x w R) (k : ∀ u w', R u w' → R' u w') : CallS P x w R' := by
  rcases h with ⟨u, w', h1, h2⟩ | ⟨w', h1, h2⟩ | ⟨f, args, w1, h1, h2⟩ | ⟨l, f, tmps, as, body, w1, h1, h2⟩
  · exact Or.inl ⟨u, w', h1, k _ _ h2⟩
  · exact Or.inr (Or.inl ⟨w', h1, k _ _ h2⟩)
  · exact Or.inr (Or.inr (Or.inl ⟨f, args, w1, h1, h2.mono fun e w' ⟨u, he, hu⟩ => ⟨u, he, k _ _ hu⟩⟩))
  · exact Or.inr (Or.inr (Or.inr ⟨l, f, tmps, as, body, w1, h1, h2.mono fun e w' ⟨u, he, hu⟩ => ⟨u, he, k _ _ hu⟩⟩))

theorem wpIn_of_CallS {P : Program} {o : Oper} {a : Act} {w : World} {R : Value → World → Prop} {next : Act → World → Prop} {Q : Exit → Act → World → Prop} {lo : Option Nat} {m : Nat} (hd : ∀ c, o.op ≠ .defer c)
    (h : CallS P (execOp a.eval o) w R) (k : ∀ u w', R u w' → next (a.put o.dst u) w') : o.wpIn (Fo lo) m P a w next Q := by
  refine ⟨fun f _ => Fo_fn lo f, ?_⟩
  rw [Oper.semAt_eq _ _ _ hd]
  rcases h with ⟨u, w', h1, h2⟩ | ⟨w', h1, h2⟩ | ⟨f, args, w1, h1, h2⟩ | ⟨l, f, tmps, as, body, w1, h1, h2⟩
  · rw [h1]; exact k _ _ h2
  · rw [h1]; exact k _ _ h2
  · rw [h1]
    refine ⟨(fun hh => by rw [Fo_depth] at hh; cases hh), ?_⟩
    have hc : CallsIn Fence.wide (m - 1) P f args w1 fun
      | .returned v, w'' => next (a.put o.dst v) w''
      | .panicked chain, w'' => Q (.panic chain) a w''
      | .outgrown, _ => LetsOut Q := callsIn_wide.2 (h2.mono fun e w' ⟨u, he, hu⟩ => by subst he; exact k _ _ hu)
    cases lo with
    | none => exact hc
    | some l => exact hc
  · rw [h1]
    refine ⟨(fun hh => by rw [Fo_depth] at hh; cases hh), ?_⟩
    have hc : RoundIn Fence.wide (m - 1) P l f tmps as body w1 fun
      | .returned v, w'' => next (a.put o.dst v) w''
      | .panicked chain, w'' => Q (.panic chain) a w''
      | .outgrown, _ => LetsOut Q := by
      have h3 : RoundIn Fence.wide (m - 1) P l f tmps as body w1 (fun e w' => ∃ u, e = .returned u ∧ R u w') := ⟨h2.1, fun c cs _ => h2.2 c cs (room_wide _)⟩
      exact h3.mono fun e w' ⟨u, he, hu⟩ => by subst he; exact k _ _ hu
    cases lo with
    | none => exact hc
    | some l => exact hc

section
variable {P : Program} {σ : Sg} {s : St} {w : World}

/-- What is owed of the evaluator below. -/
def SoundCall (P : Program) (self : Req → St → Option Res) : Prop :=
  ∀ {fv : AV} {args : List AV} {s : St} {r : Res}, self (.call fv args) s = some r → ∀ {σ : Sg} {w : World} {fvV : Value} {vs : List Value}, VR σ fv fvV → VRs σ args vs → HR P σ s w →
    CallS P (Deferred.ofValue fvV vs.toArray >>= fun d => invoke d.target d.args) w (fun u w' => ∃ σ', VR σ' r.v u ∧ Stp P σ s w σ' r.s w')

/-- Where the evaluator's operand is known, so is the model's. -/
theorem opd_get {N : Nat} {t : T AV} {a : Act} (ht : TR σ N t a.tmps) {x : Operand} {v : AV} (h : (opdOf x).get t = some v) : VR σ v (a.eval x) := by
  cases x with
  | tmp k =>
    simp only [opdOf, Opd.get] at h
    obtain ⟨u, h1, h2⟩ := ht.2 _ _ h
    rw [posOf_num] at h1
    simp only [Act.eval, Array.getD_eq_getD_getElem?, h1, Option.getD_some]
    exact h2
  | const c =>
    simp only [opdOf] at h
    split at h
    · rename_i b hb
      simp only [Opd.get, Option.some.injEq] at h
      subst h
      exact cval_VR hb
    · simp [Opd.get] at h
  | global g => simp [opdOf, Opd.get] at h
  | func f =>
    simp only [opdOf, Opd.get, Option.some.injEq] at h
    subst h
    simp only [Act.eval, VR, posOf_num]
    exact ⟨#[], #[], rfl, VRs.nil, VRs.nil⟩
theorem getAll_VR {N : Nat} {t : T AV} {a : Act} (ht : TR σ N t a.tmps) : ∀ {xs : List Operand} {vs : List AV}, getAll t (xs.map opdOf) = some vs → VRs σ vs (xs.map a.eval)
  | [], vs, h => by simp only [List.map_nil, getAll, Option.some.injEq] at h; subst h; exact VRs.nil
  | x :: xs, vs, h => by
    simp only [List.map_cons, getAll] at h
    split at h
    · rename_i v hv
      split at h
      · rename_i vs' hvs
        cases h
        exact VRs.cons (opd_get ht hv) (getAll_VR ht hvs)
      · cases h
    · cases h
theorem TR_put {N : Nat} {t : T AV} {tmps : Array Value} (ht : TR σ N t tmps) {d : Nat} (hd : d < N) {v : AV} {u : Value} (hv : VR σ v u) : TR σ N (T.set (posOf d) (some v) t) (tmps.setIfInBounds d u) := by
  refine ⟨by simp [ht.1], fun p a hp => ?_⟩
  rw [T.get_set] at hp
  split at hp
  · rename_i e; subst e; cases hp
    refine ⟨u, ?_, hv⟩
    rw [posOf_num, Array.getElem?_setIfInBounds]
    simp [ht.1, hd]
  · rename_i e
    obtain ⟨x, h1, h2⟩ := ht.2 p a hp
    refine ⟨x, ?_, h2⟩
    rw [Array.getElem?_setIfInBounds_ne]
    · exact h1
    · intro e'; exact e (Pos.num_inj (by rw [posOf_num]; exact e'))
theorem TR_putO {N : Nat} {t : T AV} {a : Act} (ht : TR σ N t a.tmps) {o : Oper} (hf : ∀ d, o.dst = some d → d < N) {v : AV} {u : Value} (hv : VR σ v u) :
    TR σ N (match o.dst.map posOf with | none => t | some p => T.set p (some v) t) (a.put o.dst u).tmps := by
  cases hd : o.dst with
  | none => simpa [Act.put] using ht
  | some d => simp only [Option.map_some, Act.put]; exact TR_put ht (hf d hd) hv
theorem putT_eq {β : Type} (t : T AV) (dst : Option Pos) (v : AV) (k : T AV → β) : putT t dst v k = k (match dst with | none => t | some p => T.set p (some v) t) := by
  cases dst <;> simp only [putT, AV.normK_eq, T.setK_eq]
theorem put_defers (a : Act) (d : Option Tmp) (u : Value) : (a.put d u).defers = a.defers := by cases d <;> rfl

theorem wanted_of {N : Nat} {ops : Array Oper} {pre : Array Nat} {o : Oper} {i : Nat} {t : T AV} {a : Act} (ht : TR σ N t a.tmps) (hf : fitOper N ops o = true) {b : Bool} (h : wantedA t (compOper P ops pre o i).guard = some b) :
    Region.wanted o (yielded ops a.tmps) = b := by
  simp only [fitOper, Bool.and_eq_true] at hf
  have hf := hf.2
  unfold Region.wanted
  cases hg : o.guard with
  | none => simp only [compOper, hg, wantedA, Option.some.injEq] at h; exact h
  | some jw =>
    obtain ⟨j, wnt⟩ := jw
    simp only [hg] at hf
    obtain ⟨tj, htj⟩ := Option.isSome_iff_exists.1 hf
    simp only [compOper, hg, htj, wantedA] at h
    simp only [yielded, htj, Option.bind_some]
    split at h
    · rename_i x hx
      cases h
      obtain ⟨u, h1, h2⟩ := ht.2 _ _ hx
      rw [posOf_num] at h1
      simp only [VR] at h2; subst h2
      rw [h1, bEq_eq]
      simp
    · rename_i v hx hnb
      cases h
      obtain ⟨u, h1, h2⟩ := ht.2 _ _ hnb
      rw [posOf_num] at h1
      rw [h1]
      cases u with
      | bool q =>
        exfalso
        cases v <;> simp only [VR, reduceCtorEq, false_and, and_false, exists_false] at h2 <;> first | exact hx _ rfl | skip
        all_goals (simp_all)
      | _ => rfl
    · cases h
end
end Go.Proofs.YtdpglpjahbiemaaGreatDoor.Ev
