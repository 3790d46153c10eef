/- A region in the order of its text. No program. -/
import Derived.Test.YtdpglpjahbiemaaGreatDoorEvS1
namespace Go.Proofs.YtdpglpjahbiemaaGreatDoor.Ev
open Go

/-- The marks of loops that were entered: blocks that are nobody's. -/
def DF (σ : Sg) (s : St) (w : World) (ds : List Deferred) : Prop :=
  ∃ Ds : List Nat, ds = Ds.map (fun D => { target := .collected D, args := #[] }) ∧ Ds.Nodup ∧ ∀ D ∈ Ds, w.heap[D]? = some (.deferred (some [])) ∧ ¬ Live σ s D

section
variable {P : Program} {σ σ' : Sg} {s s' : St} {w w' : World}

theorem DF.nil : DF σ s w [] := ⟨[], rfl, List.nodup_nil, fun _ h => by cases h⟩
theorem DF.upd {ds : List Deferred} (h : DF σ s w ds) (hu : Upd w w' (Live σ s) (Live σ' s')) : DF σ' s' w' ds := by
  obtain ⟨Ds, h1, h2, h3⟩ := h
  refine ⟨Ds, h1, h2, fun D hD => ?_⟩
  obtain ⟨h4, h5⟩ := h3 D hD
  have hlt := (Array.getElem?_eq_some_iff.1 h4).1
  refine ⟨(hu.old D hlt h5).trans h4, fun hl => ?_⟩
  rcases hu.own D hl with h6 | h6
  · exact h5 h6
  · omega

theorem nodefer_n {o : Oper} {k : NK} {xs : List Operand} (hc : compOp P o.op = (.n k, xs)) (hk : k ≠ .bad) : ∀ c, o.op ≠ .defer c := by
  intro c e; rw [e] at hc; simp only [compOp, bad, Prod.mk.injEq, OpK.n.injEq] at hc; exact hk hc.1.symm
theorem nodefer_m {o : Oper} {k : MK} {xs : List Operand} (hc : compOp P o.op = (.m k, xs)) : ∀ c, o.op ≠ .defer c := by
  intro c e; rw [e] at hc; simp [compOp, bad] at hc
theorem nodefer_x {o : Oper} {k : XK} {xs : List Operand} (hc : compOp P o.op = (.x k, xs)) : ∀ c, o.op ≠ .defer c := by
  intro c e; rw [e] at hc; simp [compOp, bad] at hc

theorem aok_eq {β : Type} (ob : AO) (k : AO → β) : opsRun.AOK ob k = k ob := by
  cases ob <;> simp only [opsRun.AOK, AV.normsK_eq, natK_eq]

/-- A call, or another operation that turns something. -/
theorem act_sound {self : Req → St → Option Res} (hs : SoundCall P self) {o : Oper} {ρ : Operand → Value} {k : XK} {xs : List Operand} (hc : compOp P o.op = (.x k, xs)) {args : List AV} (ha : VRs σ args (xs.map ρ)) (hr : HR P σ s w) {v : AV} (h : actRun self k args s = some (v, s')) :
    CallS P (execOp ρ o) w (fun u w' => ∃ σ', VR σ' v u ∧ Stp P σ s w σ' s' w') := by
  by_cases hk : k = .call
  · subst hk
    cases args with
    | nil => simp [actRun] at h
    | cons fv l =>
      simp only [actRun] at h
      split at h
      · rename_i r hr'
        simp only [Option.some.injEq, Prod.mk.injEq] at h
        obtain ⟨rfl, rfl⟩ := h
        -- which operation it is
        have hop : ∃ f cargs ts, o.op = .call { callee := .value f, args := cargs, argTypes := ts } ∧ xs = f :: cargs.toList := by
          generalize o.op = op at hc
          unfold compOp at hc
          split at hc
          case h_31 c =>
            obtain ⟨callee, cargs, ts⟩ := c
            unfold compCall at hc
            simp only at hc
            split at hc
            · cases hc; exact ⟨_, _, _, rfl, rfl⟩
            · cases hc
            · (repeat' split at hc) <;> cases hc
          case h_13 => unfold compBin at hc; (repeat' split at hc) <;> cases hc
          case h_20 => unfold compSlice at hc; simp only at hc; (repeat' split at hc) <;> cases hc
          all_goals
            (repeat' split at hc)
            all_goals (cases hc; done)
        obtain ⟨f, cargs, ts, hop, rfl⟩ := hop
        simp only [List.map_cons] at ha
        obtain ⟨fv', l', e1, h1, h2⟩ := ha.invc
        cases e1
        have := hs hr' h1 h2 hr
        have he : execOp ρ o = (Deferred.ofValue (ρ f) (cargs.map ρ) >>= fun d => invoke d.target d.args) := by
          simp only [execOp, hop, resolve]
        rw [he]
        have e2 : (cargs.toList.map ρ).toArray = cargs.map ρ := by apply Array.toList_inj.1; simp
        rw [e2] at this
        exact this
      · cases h
  · have h' : xrun k args s = some (v, s') := by
      cases k <;> first | exact absurd rfl hk | exact h
    obtain ⟨u, n, w', σ', h1, h2, h3, h4⟩ := xOk hc hk hr ha h'
    rcases h2 with rfl | ⟨rfl, rfl⟩
    · exact Or.inl ⟨u, w', h1, σ', h3, h4⟩
    · exact Or.inr (Or.inl ⟨w', h1, σ', h3, h4⟩)

theorem ops_drop {ops : Array Oper} {k : Nat} {o : Oper} (h : ops[k]? = some o) {β : Type} (f : Oper × Nat → β) : (ops.toList.zipIdx.map f).drop k = f (o, k) :: (ops.toList.zipIdx.map f).drop (k + 1) := by
  have hlt := (Array.getElem?_eq_some_iff.1 h).1
  have hval : ops.toList[k]? = some o := by simpa using h
  rw [List.drop_eq_getElem_cons (by simpa using hlt)]
  congr 1
  simp only [List.getElem_map, List.getElem_zipIdx, Nat.zero_add]
  congr 2
  have := (List.getElem?_eq_some_iff.1 hval).2
  exact this

/-- What the evaluator's row of operations runs to, the model's does. -/
theorem opsRun_sound {self : Req → St → Option Res} (hs : SoundCall P self) {N : Nat} {ops : Array Oper} {pre : Array Nat} {lo : Option Nat} {m : Nat} {Q : Exit → Act → World → Prop} {t' : T AV} (hf : ops.all (fitOper N ops) = true) :
    ∀ (d k : Nat), ops.size - k = d → ∀ {t : T AV} {s : St} {σ : Sg} {w : World} {a : Act}, opsRun self ((ops.toList.zipIdx.map fun p => compOper P ops pre p.1 p.2).drop k) t s = some (t', s') → TR σ N t a.tmps → HR P σ s w →
      (∀ a' w' σ', TR σ' N t' a'.tmps → Stp P σ s w σ' s' w' → a'.defers = a.defers → Q .normal a' w') → wpOpsIn (Fo lo) m P ops Q (List.range' k (ops.size - k)) a w
  | 0, k, hd, t, s, σ, w, a, h, ht, hr, hQ => by
    rw [hd]
    rw [List.drop_eq_nil_of_le (by simp; omega)] at h
    simp only [opsRun, Option.some.injEq, Prod.mk.injEq] at h
    obtain ⟨rfl, rfl⟩ := h
    exact hQ a w σ ht (Stp.refl hr) rfl
  | d + 1, k, hd, t, s, σ, w, a, h, ht, hr, hQ => by
    have hlt : k < ops.size := by omega
    obtain ⟨o, ho⟩ : ∃ o, ops[k]? = some o := ⟨ops[k], Array.getElem?_eq_getElem hlt⟩
    rw [ops_drop ho] at h
    rw [hd, List.range'_succ]
    have hfo : fitOper N ops o = true := Array.all_eq_true_iff_forall_mem.1 hf o (Array.mem_of_getElem? ho)
    have hdst : ∀ q, o.dst = some q → q < N := by
      intro q hq
      simp only [fitOper, hq, Bool.and_eq_true, decide_eq_true_eq] at hfo
      exact hfo.1
    have next : ∀ {σ1 : Sg} {s1 : St} {w1 : World} {v : AV} {u : Value}, VR σ1 v u → Stp P σ s w σ1 s1 w1 → opsRun self ((ops.toList.zipIdx.map fun p => compOper P ops pre p.1 p.2).drop (k + 1)) (match o.dst.map posOf with | none => t | some p => T.set p (some v) t) s1 = some (t', s') →
        wpOpsIn (Fo lo) m P ops Q (List.range' (k + 1) d) (a.put o.dst u) w1 := by
      intro σ1 s1 w1 v u hv hst hrun
      have := opsRun_sound (lo := lo) (m := m) hs hf d (k + 1) (by omega) (a := a.put o.dst u) hrun (TR_putO (ht.ext (hst.ext hr)) hdst hv) hst.hr
        (fun a' w' σ' h1 h2 h3 => hQ a' w' σ' h1 (hst.trans h2) (by rw [h3, put_defers]))
      rwa [show ops.size - (k + 1) = d by omega] at this
    simp only [opsRun] at h
    simp only [wpOpsIn, ho]
    split at h
    · cases h
    · rename_i hw
      have hw' := wanted_of ht hfo hw
      rw [hw']
      simp only [Bool.false_eq_true, if_false]
      rw [putT_eq] at h
      exact ⟨fun f _ => Fo_fn lo f, next VR_undef (Stp.refl hr) h⟩
    · rename_i hw
      have hw' := wanted_of ht hfo hw
      rw [hw']
      simp only [if_true]
      split at h
      · cases h
      · rename_i args hargs
        have hav : VRs σ args ((compOp P o.op).2.map a.eval) := getAll_VR ht hargs
        split at h
        · rename_i nk hk
          have hcomp : compOp P o.op = (.n nk, (compOp P o.op).2) := by rw [← show (compOp P o.op).1 = .n nk from hk]
          split at h
          · rename_i v hv
            rw [putT_eq] at h
            have hnb : nk ≠ .bad := by rintro rfl; simp [nrun] at hv
            obtain ⟨u, h1, h2⟩ := nOk hcomp hr hav hv
            exact wpIn_of_CallS (R := fun u' w' => u' = u ∧ w' = w) (nodefer_n hcomp hnb) (Or.inl ⟨u, w, h1, rfl, rfl⟩) (fun u' w' ⟨e1, e2⟩ => by subst e1; subst e2; exact next h2 (Stp.refl hr) h)
          · cases h
        · rename_i mk hk
          have hcomp : compOp P o.op = (.m mk, (compOp P o.op).2) := by rw [← show (compOp P o.op).1 = .m mk from hk]
          split at h
          · rename_i ob v hv
            simp only [aok_eq, T.setK_eq, putT_eq] at h
            obtain ⟨u, cob, n, w1, h1, h2, h3, h4⟩ := mOk hcomp hr hav hv
            have hst := stp_new hr h2 h3
            have hvr := h4 (σ.put s.nx (w.heap.size, 0, n)) (Sg.put_same _ _ _)
            exact wpIn_of_CallS (R := fun u' w' => u' = u ∧ w' = w1) (nodefer_m hcomp) (Or.inl ⟨u, w1, h1, rfl, rfl⟩) (fun u' w' ⟨e1, e2⟩ => by subst e1; subst e2; exact next hvr hst h)
          · cases h
        · rename_i xk hk
          have hcomp : compOp P o.op = (.x xk, (compOp P o.op).2) := by rw [← show (compOp P o.op).1 = .x xk from hk]
          split at h
          · rename_i v s1 hv
            rw [putT_eq] at h
            exact wpIn_of_CallS (nodefer_x hcomp) (act_sound hs hcomp hav hr hv) (fun u' w' ⟨σ1, e1, e2⟩ => next e1 e2 h)
          · cases h
end
end Go.Proofs.YtdpglpjahbiemaaGreatDoor.Ev
