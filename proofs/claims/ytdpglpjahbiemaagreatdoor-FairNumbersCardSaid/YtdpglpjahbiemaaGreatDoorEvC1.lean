/- What the evaluator's code, calls and rounds need: scopes, loops' records, results. No program. -/
import Derived.Test.YtdpglpjahbiemaaGreatDoorEvD6
import Derived.Sort.LoopGhostIn
import Derived.RangeFuncRecord
import Derived.RangeFuncNested
import Derived.Scope
namespace Go.Proofs.YtdpglpjahbiemaaGreatDoor.Ev
open Go

section scope
variable {F : Fence} {n : Nat} {P : Program} {b : Frame} {a : Act} {k : List Item} {cs : List Frame} {w : World} {Q : Exit → Act → World → Prop}
theorem stepR_scope {c : Code} : Go.step P (lone (b.atR a (.code (.scope c) :: k)) cs w) = .next (lone (b.atR a (.code c :: .inScope c :: k)) cs w) :=
  step_lone_go (by simp [stepG, stepG.exec, Frame.atR])
theorem stepR_inScope {c : Code} : Go.step P (lone (b.atR a (.inScope c :: k)) cs w) = .next (lone (b.atR a k) cs w) :=
  step_lone_go (by simp [stepG, stepG.exec, Frame.atR])
theorem wpIn_scope_straight {c : Code} (h : c.wpIn F n P (Exit.noGoto Q) a w) : (Code.scope c).wpIn F n P Q a w := by
  intro b k cs hro hb hr
  have h0 : (lone (b.atR a (.code (.scope c) :: k)) cs w).fenced P F := fenced_calm hb hr rfl
  obtain ⟨e, a₁, w₁, hq, harr⟩ := h b (.inScope c :: k) cs hro hb hr
  cases e with
  | normal => exact ⟨.normal, a₁, w₁, hq, .head h0 stepR_scope (StepsIn.trans harr (.one (fenced_calm hb hr rfl) stepR_inScope))⟩
  | exit id =>
    have hx : exitTo id (.inScope c :: k) = exitTo id k := by simp [exitTo]
    exact ⟨.exit id, a₁, w₁, hq, fun k' hk => .head h0 stepR_scope (harr.1 k' (by rw [hx]; exact hk)), fun hr' hk => let ⟨k₁, h1, h2⟩ := harr.2 hr' (by rw [hx]; exact hk); ⟨k₁, h1, .head h0 stepR_scope h2⟩⟩
  | goto l => exact hq.elim
  | ret => exact ⟨_, a₁, w₁, hq, .of_steps (.one h0 stepR_scope) harr⟩
  | panic ch => exact ⟨_, a₁, w₁, hq, .of_steps (.one h0 stepR_scope) harr⟩
  | outgrown => exact ⟨_, a₁, w₁, hq, .of_steps (.one h0 stepR_scope) harr⟩
end scope

/-- Marks of loops entered since: blocks that are nobody's. -/
def DB (B : Nat) (σ : Sg) (s : St) (w : World) (ds : List Deferred) : Prop :=
  ∃ Ds : List Nat, ds = Ds.map (fun D => { target := .collected D, args := #[] }) ∧ Ds.Nodup ∧ ∀ D ∈ Ds, B ≤ D ∧ w.heap[D]? = some (.deferred (some [])) ∧ ¬ Live σ s D

section
variable {P : Program} {σ σ' σ0 : Sg} {s s' s0 : St} {w w' w0 : World}

theorem DB.nil {B : Nat} : DB B σ s w [] := ⟨[], rfl, List.nodup_nil, fun _ h => by cases h⟩
theorem DB.upd {B : Nat} {ds : List Deferred} (h : DB B σ s w ds) (hu : Upd w w' (Live σ s) (Live σ' s')) : DB B σ' s' w' ds := by
  obtain ⟨Ds, h1, h2, h3⟩ := h
  refine ⟨Ds, h1, h2, fun D hD => ?_⟩
  obtain ⟨hB, h4, h5⟩ := h3 D hD
  have hlt := (Array.getElem?_eq_some_iff.1 h4).1
  refine ⟨hB, (hu.old D hlt h5).trans h4, fun hl => ?_⟩
  rcases hu.own D hl with h6 | h6
  · exact h5 h6
  · omega

/-- Which exit. -/
def EQ : AExit → Exit → Prop
  | .normal, x => x = .normal
  | .exit id, x => x = .exit id
  | .ret, x => x = .ret
/-- Within a round: of which loop. -/
def RoOk (σ : Sg) : Option Pos → Option Nat → Prop
  | none, none => True
  | some l, some b => ∃ n, σ l = some (b, 0, n)
  | _, _ => False
theorem RoOk.ext {ro : Option Pos} {lo : Option Nat} (h : RoOk σ ro lo) (e : Ext σ σ') : RoOk σ' ro lo := by
  cases ro <;> cases lo <;> first | exact h | exact h.elim | (obtain ⟨n, h⟩ := h; exact ⟨n, e _ _ h⟩)

/-- A block of nobody's is laid. -/
theorem stp_nobody (hr : HR P σ s w) {ob : Obj} (hp : Pushed w w' ob) : Stp P σ s w σ s w' := by
  have hold : ∀ b, b < w.heap.size → w'.heap[b]? = w.heap[b]? := by
    intro b hb; rw [hp.heap, Array.getElem?_push_lt hb]; simp [hb]
  refine ⟨fun _ _ => rfl, Nat.le_refl _, ⟨hr.dom, ?_, hr.inj⟩, ⟨hp.os, hp.tape, hp.output, by rw [hp.heap]; simp, fun b hb _ => hold b hb, fun b hb => Or.inl hb⟩⟩
  intro q o hq
  obtain ⟨b, sh, m, ob', h1, h2, h3⟩ := hr.obj q o hq
  exact ⟨b, sh, m, ob', h1, (hold _ (Array.getElem?_eq_some_iff.1 h2).1).trans h2, h3⟩
/-- A block of nobody's that is new turns. -/
theorem stp_dead (h : Stp P σ0 s0 w0 σ s w) {D : Nat} {ob : Obj} (ht : Turned w w' D ob) (hB : w0.heap.size ≤ D) (hl : ¬ Live σ s D) : Stp P σ0 s0 w0 σ s w' := by
  refine ⟨h.agree, h.le, ⟨h.hr.dom, ?_, h.hr.inj⟩, ⟨ht.os.trans h.upd.os, ht.tape.trans h.upd.tape, ht.output.trans h.upd.output, by rw [ht.size]; exact h.upd.size, fun b hb hF => ?_, h.upd.own⟩⟩
  · intro q o hq
    obtain ⟨b, sh, m, ob', h1, h2, h3⟩ := h.hr.obj q o hq
    refine ⟨b, sh, m, ob', h1, ?_, h3⟩
    rw [ht.old b (fun e => hl ⟨q, o, _, hq, h1, e⟩)]; exact h2
  · rw [ht.old b (fun e => by omega)]; exact h.upd.old b hb hF
/-- One is let go: its block turns. -/
theorem stp_drop (hr : HR P σ s w) {id : Pos} {o : AO} {b sh n : Nat} {ob : Obj} (h0 : T.get id s.h = some o) (hs : σ id = some (b, sh, n)) (ht : Turned w w' b ob) : Stp P σ s w σ { s with h := T.set id none s.h } w' := by
  have hg : ∀ {q : Pos} {q1 : AO}, T.get q (T.set id none s.h) = some q1 → q ≠ id ∧ T.get q s.h = some q1 := by
    intro q q1 hq
    rw [T.get_set] at hq
    split at hq
    · cases hq
    · rename_i e; exact ⟨fun e' => e e'.symm, hq⟩
  refine ⟨fun _ _ => rfl, Nat.le_refl _, ⟨hr.dom, ?_, ?_⟩, ⟨ht.os, ht.tape, ht.output, Nat.le_of_eq ht.size.symm, ?_, ?_⟩⟩
  · intro q q1 hq
    obtain ⟨hne, hq⟩ := hg hq
    obtain ⟨b', sh', n', ob', k1, k2, k3⟩ := hr.obj q q1 hq
    refine ⟨b', sh', n', ob', k1, ?_, k3⟩
    rw [ht.old b' (fun eb => hne (hr.inj id q _ _ _ _ h0 hq hs k1 eb.symm).symm)]
    exact k2
  · intro p q p1 q1 x x' hp hq kp kq e
    exact hr.inj p q _ _ _ _ (hg hp).2 (hg hq).2 kp kq e
  · intro c hc hl
    refine ht.old c (fun e => hl ?_)
    subst e
    exact ⟨id, o, _, h0, hs, rfl⟩
  · rintro c ⟨q, q1, x, hq, kq, rfl⟩
    exact Or.inl ⟨q, q1, x, (hg hq).2, kq, rfl⟩

theorem turned_put {b : Nat} {ob : Obj} (h : b < w.heap.size) : Turned w (w.putObj b ob) b ob :=
  ⟨World.putObj_heap_same h, fun _ hc => World.putObj_heap_other hc, World.putObj_size, rfl, rfl, rfl⟩
theorem pushed_alloc (ob : Obj) : Pushed w (w.alloc ob) ob := ⟨rfl, rfl, rfl, rfl⟩

/-! ### Arguments; results. -/

theorem putArgs_fixed {N : Nat} {tmps : Array Value} {k : T AV → Option Res} {r : Res} : ∀ {ps : List Pos} {vs : List AV} {t : T AV}, putArgs ps vs t k = some r → TR σ N t tmps →
    (∀ (i : Nat) p v, ps[i]? = some p → vs[i]? = some v → ∃ u, tmps[p.num]? = some u ∧ VR σ v u) → ps.length = vs.length ∧ ∃ t', TR σ N t' tmps ∧ k t' = some r
  | [], [], t, h, ht, _ => ⟨rfl, t, ht, h⟩
  | p :: ps, v :: vs, t, h, ht, hp => by
    simp only [putArgs, T.setK_eq] at h
    obtain ⟨h1, h2⟩ := putArgs_fixed h (⟨ht.1, fun q a hq => by
      rw [T.get_set] at hq
      split at hq
      · rename_i e; subst e; cases hq; exact hp 0 _ _ rfl rfl
      · exact ht.2 q a hq⟩ : TR σ N (T.set p (some v) t) tmps) (fun i q a h1 h2 => hp (i + 1) q a (by simpa using h1) (by simpa using h2))
    exact ⟨by simp [h1], h2⟩
  | [], _ :: _, t, h, _, _ => by simp [putArgs] at h
  | _ :: _, [], t, h, _, _ => by simp [putArgs] at h
theorem putArgs_fold {N : Nat} {k : T AV → Option Res} {r : Res} : ∀ {ps : List Nat} {vs : List AV} {us : List Value} {t : T AV} {tmps : Array Value}, putArgs (ps.map posOf) vs t k = some r → TR σ N t tmps → VRs σ vs us → (∀ p ∈ ps, p < N) →
    ps.length = us.length ∧ ∃ t', TR σ N t' ((ps.zip us).foldl (fun tmps (x : Nat × Value) => tmps.setIfInBounds x.1 x.2) tmps) ∧ k t' = some r
  | [], [], us, t, tmps, h, ht, hv, _ => by
    rw [VRs.nil_iff] at hv; subst hv
    exact ⟨rfl, t, ht, h⟩
  | p :: ps, v :: vs, us, t, tmps, h, ht, hv, hp => by
    obtain ⟨u, us', rfl, h1, h2⟩ := VRs.cons_iff.1 hv
    simp only [List.map_cons, putArgs, T.setK_eq] at h
    obtain ⟨e1, e2⟩ := putArgs_fold h (TR_put ht (hp p (by simp)) h1) h2 (fun q hq => hp q (by simp [hq]))
    exact ⟨by simp [e1], e2⟩
  | [], _ :: _, us, t, tmps, h, _, _, _ => by simp [putArgs] at h
  | _ :: _, [], us, t, tmps, h, _, _, _ => by simp [putArgs] at h

/-- One result. -/
def res1 (tmps : Array Value) : ResultVar → Sem Value
  | .tmp t => pure (tmps.getD t undef)
  | .cell a t => do loadVar t (← asAddr (tmps.getD a undef))
theorem run_res1 {N : Nat} {t : T AV} {tmps : Array Value} (ht : TR σ N t tmps) (hr : HR P σ s w) {x : ResultVar} {ar : ARes} (hc : compRes P x = some ar) {vs : List AV} (h : resOf s.h t [ar] = some vs) : ∃ v u, vs = [v] ∧ (res1 tmps x).run P w = .ok u w ∧ VR σ v u := by
  simp only [resOf] at h
  cases x with
  | tmp k =>
    simp only [compRes, Option.some.injEq] at hc
    subst hc
    simp only at h
    split at h
    · rename_i v hv
      simp only [Option.some.injEq] at h
      obtain ⟨u, h1, h2⟩ := ht.2 _ _ hv
      rw [posOf_num] at h1
      exact ⟨v, u, h.symm, by simp [res1, Array.getD_eq_getD_getElem?, h1], h2⟩
    · cases h
  | cell k ty =>
    simp only [compRes] at hc
    have key : ∀ {id : Pos} {o : Nat}, T.get (posOf k) t = some (.p id o) → ∃ b sh n, σ id = some (b, sh, n) ∧ tmps.getD k undef = .pointer (some ⟨b, sh + o, none⟩) := by
      intro id o e
      obtain ⟨u, h1, h2⟩ := ht.2 _ _ e
      rw [posOf_num] at h1
      simp only [VR] at h2
      obtain ⟨b, sh, n, e1, e2⟩ := h2
      exact ⟨b, sh, n, e1, by simp [Array.getD_eq_getD_getElem?, h1, e2]⟩
    split at hc
    · rename_i hag
      cases hz : sizeT P ty with
      | none => rw [hz] at hc; cases hc
      | some n =>
        rw [hz] at hc; simp only [Option.map_some, Option.some.injEq] at hc; subst hc
        simp only at h
        split at h
        · rename_i v hv
          simp only [Option.some.injEq] at h
          split at hv
          · rename_i id o hid
            split at hv
            · rename_i c hcl
              split at hv
              · rename_i l hl
                cases hv
                obtain ⟨b, sh, m, cs, t', fr, h1, h2, h3, h4, h5, h6⟩ := hr.lcells hcl
                obtain ⟨us, hv1, hv2, hv3⟩ := take_spec h6 hl
                obtain ⟨b', sh', n', e1, e2⟩ := key hid
                rw [h1] at e1; cases e1
                refine ⟨_, .agg us.toArray, h.symm, ?_, by simp only [VR]; exact ⟨_, rfl, by simpa using hv3⟩⟩
                obtain ⟨d, hd⟩ := aggT_some hag
                have hlc := run_loadCells (P := P) (w := w) (b := b) (o := sh + o) (vs := us) (fun j v hj => by rw [cell_of h2]; exact hv2 j v hj)
                rw [hv1] at hlc
                simp [res1, e2, asAddr, loadVar, run_isAgg hd, hag, run_sizeOf hz, hlc]
              · cases hv
            · cases hv
          · cases hv
        · cases h
    · rename_i hag
      split at hc
      · rename_i hu
        simp only [Option.some.injEq] at hc; subst hc
        simp only at h
        split at h
        · rename_i v hv
          simp only [Option.some.injEq] at h
          split at hv
          · rename_i id o hid
            split at hv
            · rename_i c hcl
              obtain ⟨b, sh, m, cs, t', fr, h1, h2, h3, h4, h5, h6⟩ := hr.lcells hcl
              obtain ⟨u, h7, h8⟩ := h6 _ _ hv
              obtain ⟨b', sh', n', e1, e2⟩ := key hid
              rw [h1] at e1; cases e1
              obtain ⟨d, hd⟩ := Option.isSome_iff_exists.1 hu
              refine ⟨_, u, h.symm, ?_, h8⟩
              have hag' : aggT P ty = false := by simpa using hag
              simp [res1, e2, asAddr, loadVar, run_isAgg hd, hag', cell_of h2, h7]
            · cases hv
          · cases hv
        · cases h
      · cases hc
theorem resOf_cons {h : T AO} {t : T AV} {r : ARes} {l : List ARes} {vs : List AV} (e : resOf h t (r :: l) = some vs) : ∃ v vs', vs = v :: vs' ∧ resOf h t [r] = some [v] ∧ resOf h t l = some vs' := by
  simp only [resOf] at e ⊢
  split at e
  · rename_i v hv
    split at e
    · rename_i vs' hvs
      cases e
      exact ⟨v, vs', rfl, rfl, hvs⟩
    · cases e
  · cases e
theorem run_resL {N : Nat} {t : T AV} {tmps : Array Value} (ht : TR σ N t tmps) (hr : HR P σ s w) : ∀ {xs : List ResultVar} {rs : List ARes} {vs : List AV}, xs.mapM (compRes P) = some rs → resOf s.h t rs = some vs → ∃ us : List Value, (xs.mapM (res1 tmps)).run P w = .ok us w ∧ VRs σ vs us
  | [], rs, vs, hc, h => by
    simp only [List.mapM_nil, pure, Option.some.injEq] at hc
    subst hc
    simp only [resOf, Option.some.injEq] at h; subst h
    exact ⟨[], by simp, VRs.nil⟩
  | x :: xs, rs, vs, hc, h => by
    rw [List.mapM_cons] at hc
    cases h1 : compRes P x with
    | none => rw [h1] at hc; cases hc
    | some ar =>
      cases h2 : xs.mapM (compRes P) with
      | none => rw [h1, h2] at hc; cases hc
      | some ars =>
        rw [h1, h2] at hc
        cases hc
        obtain ⟨v, vs', rfl, e1, e2⟩ := resOf_cons h
        obtain ⟨v', u, e3, e4, e5⟩ := run_res1 ht hr h1 e1
        cases e3
        obtain ⟨us, e6, e7⟩ := run_resL ht hr h2 e2
        refine ⟨u :: us, ?_, VRs.cons e5 e7⟩
        simp [List.mapM_cons, e4, e6, Result.andThen]
theorem run_results {N : Nat} {t : T AV} {tmps : Array Value} (ht : TR σ N t tmps) (hr : HR P σ s w) {fn : Func} {rs : List ARes} {vs : List AV} (hc : fn.results.toList.mapM (compRes P) = some rs) (h : resOf s.h t rs = some vs) : ∃ u, (results fn tmps).run P w = .ok u w ∧ VR σ (resVal vs) u := by
  obtain ⟨us, e1, e2⟩ := run_resL ht hr hc h
  have he : (fn.results.mapM (res1 tmps)).run P w = .ok us.toArray w := by
    rw [Array.mapM_eq_mapM_toList]
    simp [e1, Result.andThen]
  have hres : results fn tmps = (fn.results.mapM (res1 tmps) >>= fun vs => pure (if h : vs.size = 1 then vs[0] else .tuple vs)) := by
    unfold results
    congr 1
  rw [hres]
  simp only [Sem.run_bind, he, Result.andThen, Sem.run_pure]
  refine ⟨_, rfl, ?_⟩
  have hlen := e2.length
  match vs, e2, hlen with
  | [], e2, _ => rw [VRs.nil_iff] at e2; subst e2; simp only [resVal, VR]; exact ⟨_, rfl, VRs.nil⟩
  | [v], e2, _ => obtain ⟨u, rfl, h3⟩ := e2.one; exact h3
  | v :: v' :: l, e2, hlen =>
    have : us.toArray.size ≠ 1 := by simp at hlen ⊢; omega
    rw [dif_neg this]
    simp only [resVal, VR]
    exact ⟨_, rfl, by simpa using e2⟩
end
end Go.Proofs.YtdpglpjahbiemaaGreatDoor.Ev
