/- The evaluator is sound. No program. -/
import Derived.Test.YtdpglpjahbiemaaGreatDoorEvC2
namespace Go.Proofs.YtdpglpjahbiemaaGreatDoor.Ev
open Go

section
variable {P : Program}

def TabOk (P : Program) (tab : T AFnK) : Prop := ∀ p k, T.get p tab = some k → ∃ fn, P.funcs[p.num]? = some fn ∧ compFn P fn = some k
def ExtOk (P : Program) (tab : T AFnK) : Prop := ∀ p e, T.get p tab = some (.ext e) → ∀ {args : List AV} {s s' : St} {v : AV}, extRun e args s = some (v, s') → ∀ {σ : Sg} {w : World} {vs : List Value}, VRs σ args vs → HR P σ s w →
  CallS P (callFunc p.num vs.toArray) w (fun u w' => ∃ σ', VR σ' v u ∧ Stp P σ s w σ' s' w')

theorem compFn_go {fn : Func} {f : AFn} (h : compFn P fn = some (.go f)) : ∃ c, fn.body = some c ∧ f.body = compCode P fn.ntmps c ∧ f.ps = rangePos (fn.params.size + fn.nfree) ∧ fn.results.toList.mapM (compRes P) = some f.res ∧ fn.params.size + fn.nfree ≤ fn.ntmps ∧ fn.name ≠ "runtime.NumGoroutine" := by
  unfold compFn at h
  split at h
  · rename_i c hc
    split at h
    · rename_i rs hrs
      split at h
      · rename_i hcond
        simp only [Option.some.injEq, AFnK.go.injEq] at h
        subst h
        exact ⟨c, hc, rfl, rfl, hrs, hcond.1, hcond.2⟩
      · cases h
    · cases h
  · (repeat' split at h) <;> cases h

/-- Leaving: the marks are taken, the results read. -/
theorem leaves_sound {σ0 σ : Sg} {s0 s : St} {w0 : World} {N B : Nat} {t : T AV} {tmps : Array Value} {fn : Func} {rs : List ARes} {vs : List AV} (ht : TR σ N t tmps) (hc : fn.results.toList.mapM (compRes P) = some rs) (h : resOf s.h t rs = some vs) (hB : w0.heap.size ≤ B) :
    ∀ (Ds : List Nat) {w : World}, Stp P σ0 s0 w0 σ s w → Ds.Nodup → (∀ D ∈ Ds, B ≤ D ∧ w.heap[D]? = some (.deferred (some [])) ∧ ¬ Live σ s D) →
      LeavesInM Fence.wide 0 P fn tmps (fun e w' => ∃ u, e = .returned u ∧ ∃ σ', VR σ' (resVal vs) u ∧ Stp P σ0 s0 w0 σ' s w') (Ds.map (fun D => { target := .collected D, args := #[] })) .returning w
  | [], w, hst, _, _ => by
    obtain ⟨u, h1, h2⟩ := run_results ht hst.hr hc h
    exact ⟨u, h1, u, rfl, σ, h2, hst⟩
  | D :: Ds, w, hst, hn, hD => by
    obtain ⟨h1, h2, h3⟩ := hD D (by simp)
    have hlt := (Array.getElem?_eq_some_iff.1 h2).1
    rw [List.nodup_cons] at hn
    refine ⟨by simp, Or.inl ⟨D, _, rfl, run_takeDeferred h2, ?_⟩⟩
    refine leaves_sound ht hc h hB Ds (stp_dead hst (turned_put hlt) (by omega) h3) hn.2 fun D' hD' => ?_
    obtain ⟨k1, k2, k3⟩ := hD D' (by simp [hD'])
    exact ⟨k1, by rw [World.putObj_heap_other (fun e => hn.1 (by rw [← e]; exact hD'))]; exact k2, k3⟩

theorem fn_sound {tab : T AFnK} (htab : TabOk P tab) {self : Req → St → Option Res} (hs : Sound P self) {p : Pos} {args : List AV} {s : St} {r : Res} (h : step tab self (.fn p args) s = some r) {σ : Sg} {w : World} {vs : List Value} (hv : VRs σ args vs) (hr : HR P σ s w) :
    (∃ fn, P.funcs[p.num]? = some fn ∧ fn.body.isSome ∧ fn.name ≠ "runtime.NumGoroutine") ∧ Calls P p.num vs.toArray w (fun e w' => ∃ u, e = .returned u ∧ ∃ σ', VR σ' r.v u ∧ Stp P σ s w σ' r.s w') := by
  simp only [step] at h
  split at h
  · rename_i f hf
    obtain ⟨fn, hfn, hcf⟩ := htab p _ hf
    obtain ⟨c, hb, e1, e2, e3, e4, e5⟩ := compFn_go hcf
    refine ⟨⟨fn, hfn, by simp [hb], e5⟩, ?_⟩
    have hlen := hv.length
    obtain ⟨h1, t', h2, h3⟩ := putArgs_fixed (N := (vs.toArray ++ Array.replicate (fn.ntmps - vs.toArray.size) undef).size) (tmps := vs.toArray ++ Array.replicate (fn.ntmps - vs.toArray.size) undef) (σ := σ) h ⟨rfl, fun p a hp => by rw [T.get_l] at hp; cases hp⟩ (by
      intro i q v hq hvi
      obtain ⟨u, hu1, hu2⟩ := hv.get hvi
      refine ⟨u, ?_, hu2⟩
      rw [e2] at hq
      simp only [rangePos, List.getElem?_map] at hq
      cases hri : (List.range (fn.params.size + fn.nfree))[i]? with
      | none => rw [hri] at hq; cases hq
      | some j =>
        rw [hri] at hq
        simp only [Option.map_some, Option.some.injEq] at hq
        have hj : j = i := by
          have := List.getElem?_eq_some_iff.1 hri
          obtain ⟨_, h⟩ := this
          simpa using h.symm
        subst hq; subst hj
        rw [posOf_num]
        have hlt := (List.getElem?_eq_some_iff.1 hu1).1
        rw [Array.getElem?_append_left (by simpa using hlt)]
        simpa using hu1)
    have hsz : (vs.toArray ++ Array.replicate (fn.ntmps - vs.toArray.size) undef).size = fn.ntmps := by
      rw [e2] at h1
      simp [rangePos] at h1
      simp
      omega
    rw [hsz] at h2
    rw [e1] at h3
    split at h3
    · rename_i r0 hr0
      have key : ∀ {vs' : List AV}, resOf r0.s.h r0.t f.res = some vs' → r = ⟨.normal, resVal vs', .l, r0.s⟩ → (∀ id, r0.e ≠ .exit id) → Calls P p.num vs.toArray w (fun e w' => ∃ u, e = .returned u ∧ ∃ σ', VR σ' r.v u ∧ Stp P σ s w σ' r.s w') := by
        rintro vs' hres rfl hne
        refine callsIn_wide (n := 0) |>.1 (callsIn_of_wp_marks hfn hb trivial ?_)
        refine wpIn_mono (hs.code (lo := none) (m := 0) (B := w.heap.size) hr0 h2 hr DB.nil (Nat.le_refl _) trivial) ?_
        rintro e a' w' ⟨k1, σ', k2, k3, Ds, k4, k5, k6⟩
        have hL := leaves_sound (B := w.heap.size) k2 e3 hres (Nat.le_refl _) Ds k3 k5 k6
        rw [← k4] at hL
        cases hre : r0.e with
        | normal => rw [hre] at k1; cases k1; exact hL
        | ret => rw [hre] at k1; cases k1; exact hL
        | exit id => exact absurd hre (hne id)
      split at h3
      · cases h3
      · rename_i hne
        split at h3
        · rename_i vs' hres
          simp only [Option.some.injEq] at h3
          exact key hres h3.symm (fun id e => hne id e)
        · cases h3
    · cases h3
  · cases h

theorem ofValue_run {f : Fn} {first captured args : Array Value} {w : World} {R : Value → World → Prop} (h : CallS P (invoke (.fn f captured) (first ++ args)) w R) : CallS P (Deferred.ofValue (.func f first captured) args >>= fun d => invoke d.target d.args) w R := by
  have : (Deferred.ofValue (.func f first captured) args >>= fun d => invoke d.target d.args).run P w = (invoke (.fn f captured) (first ++ args)).run P w := by
    simp [Deferred.ofValue]
  unfold CallS at h ⊢
  rw [this]
  exact h

theorem call_sound {tab : T AFnK} (_ : TabOk P tab) (hext : ExtOk P tab) {self : Req → St → Option Res} (hs : Sound P self) : SoundCall P (step tab self) := by
  intro fv args s r h σ w fvV vs hfv hv hr
  cases fv with
  | f fn fs cs =>
    simp only [VR] at hfv
    obtain ⟨first, captured, rfl, h1, h2⟩ := hfv
    refine ofValue_run ?_
    have harr : (first ++ vs.toArray ++ captured : Array Value) = (first.toList ++ (vs ++ captured.toList)).toArray := by apply Array.toList_inj.1; simp
    simp only [invoke]
    rw [harr]
    have hall : VRs σ (fs ++ (args ++ cs)) (first.toList ++ (vs ++ captured.toList)) := h1.append (hv.append h2)
    simp only [step] at h
    split at h
    · obtain ⟨⟨fd, hfd, hfb, hfn⟩, hcall⟩ := hs.fn h hall hr
      exact Or.inr (Or.inr (Or.inl ⟨_, _, _, run_callFunc hfd hfb hfn, hcall⟩))
    · rename_i e he
      split at h
      · rename_i v s' hx
        simp only [Option.some.injEq] at h
        subst h
        exact hext fn e he hx hall hr
      · cases h
    · cases h
  | y l =>
    simp only [VR] at hfv
    obtain ⟨b, n0, hl, rfl⟩ := hfv
    refine ofValue_run ?_
    simp only [invoke]
    simp only [step] at h
    split at h
    · rename_i pend t psA asA bodyA hget
      obtain ⟨b', sh, n, ob, j1, j2, j3⟩ := hr.obj l _ hget
      rw [hl] at j1; cases j1
      obtain ⟨_, rr, rfl, k1, k2, _, k4, k5, k6, k7, k8⟩ := j3
      rw [← k7] at h
      obtain ⟨hlen, t', ht', h⟩ := putArgs_fold h k4 hv k8
      have hlen' : vs.toArray.size = rr.params.size := by simpa using hlen.symm
      have hfold : (rr.params.zip vs.toArray).foldl (fun tmps (x : Nat × Value) => tmps.setIfInBounds x.1 x.2) rr.tmps = (rr.params.toList.zip vs).foldl (fun tmps (x : Nat × Value) => tmps.setIfInBounds x.1 x.2) rr.tmps := by
        rw [← Array.foldl_toList]; simp
      refine Or.inr (Or.inr (Or.inr ⟨b, rr.fn, (rr.params.zip vs.toArray).foldl (fun tmps (t, a) => tmps.setIfInBounds t a) rr.tmps, rr.assign, rr.body, w, ?_, ?_⟩))
      · rw [show #[] ++ vs.toArray = vs.toArray by simp]
        rw [run_yield j2 hlen']
      · refine roundIn_of_wpIn trivial ?_
        split at h
        · rename_i r0 hr0
          split at h
          · rename_i hre
            split at h
            · rename_i p1 t1 ps1 as1 body1 hg1
              rw [T.setK_eq] at h
              split at h
              · rename_i q hq
                have hfa : (rr.params.zip vs.toArray).foldl (fun tmps (x : Nat × Value) => tmps.setIfInBounds x.1 x.2) rr.tmps = (rr.params.zip vs.toArray).foldl (fun tmps x => match x with | (t, a) => tmps.setIfInBounds t a) rr.tmps := rfl
                rw [← k5] at hr0
                refine wpIn_mono (hs.code (lo := some b) (m := 0) (B := 0) (a := { tmps := _, defers := [] }) hr0 (by rw [← hfold] at ht'; exact ht') hr DB.nil (Nat.zero_le _) ⟨n0, hl⟩) ?_
                rintro e a1 w1 ⟨g1, σ1, g2, g3, g4⟩
                rw [hre] at g1
                cases g1
                -- the round begins
                have hl1 : σ1 l = some (b, 0, n0) := (g3.agree l (hr.lt hl)).trans hl
                obtain ⟨b1, sh1, n1, ob1, i1, i2, i3⟩ := g3.hr.obj l _ hg1
                rw [hl1] at i1; cases i1
                obtain ⟨_, r1, rfl, m1, m2, m3, m4, m5, m6, m7, m8⟩ := i3
                refine ⟨_, run_beginRound i2 m1, ?_⟩
                have hlt1 := (Array.getElem?_eq_some_iff.1 i2).1
                have hst1 := stp_set (o1 := .loop .busy .normal t1 ps1 as1 body1) g3.hr hg1 hl1 (turned_put (ob := .loop { r1 with state := .busy }) hlt1) ⟨rfl, _, rfl, rfl, fun e => absurd rfl e, fun e => (by cases e), m4, m5, m6, m7, m8⟩
                rw [← k6] at hq
                refine wpIn_mono (hs.code (lo := some b) (m := 0) (B := 0) hq (g2.ext (hst1.ext g3.hr)) hst1.hr (g4.upd hst1.upd) (Nat.zero_le _) ⟨n0, hl1⟩) ?_
                rintro e a2 w2 ⟨f1, σ2, f2, f3, _⟩
                have hl2 : σ2 l = some (b, 0, n0) := (f3.agree l (hst1.hr.lt hl1)).trans hl1
                split at h
                · rename_i st3 p3 t3 ps3 as3 body3 hg3
                  obtain ⟨b2, sh2, n2, ob2, u1, u2, u3⟩ := f3.hr.obj l _ hg3
                  rw [hl2] at u1; cases u1
                  obtain ⟨_, r2, rfl, o1, o2, o3, o4, o5, o6, o7, o8⟩ := u3
                  have hlt2 := (Array.getElem?_eq_some_iff.1 u2).1
                  have hfin : ∀ (q0 : AExit) (vb : Bool) (ls : LS), (ls = if (jumpC q0).isNone then .ready else .done) → vb = (jumpC q0).isNone → (ls = .done → q0 ≠ .normal) → r = ⟨.normal, .b vb, .l, { q.s with h := T.set l (some (.loop ls q0 t3 ps3 as3 body3)) q.s.h }⟩ →
                      ∃ v w', (Instr.endRound b (jumpC q0)).run P w2 = .ok v w' ∧ (∃ u, Ending.returned v = .returned u ∧ ∃ σ', VR σ' r.v u ∧ Stp P σ s w σ' r.s w') := by
                    rintro q0 vb ls hls rfl hdn rfl
                    refine ⟨_, _, run_endRound _ u2, _, rfl, σ2, (by simp only [VR]), ?_⟩
                    have hst3 := stp_set (o1 := .loop ls q0 t3 ps3 as3 body3) f3.hr hg3 hl2 (turned_put (ob := .loop { r2 with state := if (jumpC q0).isNone then .ready else .done, pending := jumpC q0 }) hlt2)
                      ⟨rfl, _, rfl, (by rw [hls]; cases (jumpC q0).isNone <;> rfl), fun _ => rfl, hdn, o4, o5, o6, o7, o8⟩
                    exact ((g3.trans hst1).trans f3).trans hst3
                  cases hqe : q.e with
                  | normal =>
                    rw [hqe] at f1 h
                    cases f1
                    simp only [T.setK_eq, Option.some.injEq] at h
                    exact hfin .normal true .ready rfl rfl (fun e => (by cases e)) h.symm
                  | exit id =>
                    rw [hqe] at f1 h
                    cases f1
                    simp only [T.setK_eq, Option.some.injEq] at h
                    exact hfin (.exit id) false .done rfl rfl (fun _ e => (by cases e)) h.symm
                  | ret =>
                    rw [hqe] at f1 h
                    cases f1
                    simp only [T.setK_eq, Option.some.injEq] at h
                    exact hfin .ret false .done rfl rfl (fun _ e => (by cases e)) h.symm
                · cases h
              · cases h
            · cases h
          · cases h
        · cases h
    · cases h
  | _ => simp [step] at h

/-- **THE EVALUATOR IS SOUND.** -/
theorem run_sound (hm : P.follows .mixedOrders = true) {tab : T AFnK} (htab : TabOk P tab) (hext : ExtOk P tab) : ∀ n, ∀ k, k ≤ n → Sound P (run tab k)
  | 0, k, hk => by
    have : k = 0 := by omega
    subst this
    exact ⟨fun h => by simp [run] at h, fun h => by simp [run] at h, fun h => by simp [run] at h⟩
  | n + 1, k, hk => by
    have ih := run_sound hm htab hext n
    rcases Nat.lt_or_ge k (n + 1) with h | h
    · exact ih k (by omega)
    · have : k = n + 1 := by omega
      subst this
      have hn := ih n (Nat.le_refl _)
      exact ⟨by intro N c t ro s r h σ w a lo m B ht hr hd hB hro; exact code_sound hm ih h ht hr hd hB hro, by intro p args s r h σ w vs hv hr; exact fn_sound htab hn h hv hr, call_sound htab hext hn⟩
end
end Go.Proofs.YtdpglpjahbiemaaGreatDoor.Ev
