/- The evaluator's code is sound. No program. -/
import Derived.Test.YtdpglpjahbiemaaGreatDoorEvC1
namespace Go.Proofs.YtdpglpjahbiemaaGreatDoor.Ev
open Go

section
variable {P : Program}

def CPost (P : Program) (N B : Nat) (σ : Sg) (s : St) (w : World) (r : Res) (e : Exit) (a' : Act) (w' : World) : Prop :=
  EQ r.e e ∧ ∃ σ', TR σ' N r.t a'.tmps ∧ Stp P σ s w σ' r.s w' ∧ DB B σ' r.s w' a'.defers
theorem CPost.trans {N B : Nat} {σ σ1 : Sg} {s s1 : St} {w w1 w' : World} {r : Res} {e : Exit} {a' : Act} (h : Stp P σ s w σ1 s1 w1) (k : CPost P N B σ1 s1 w1 r e a' w') : CPost P N B σ s w r e a' w' := by
  obtain ⟨h1, σ', h2, h3, h4⟩ := k
  exact ⟨h1, σ', h2, h.trans h3, h4⟩

structure Sound (P : Program) (ev : Req → St → Option Res) : Prop where
  code : ∀ {N : Nat} {c : Code} {t : T AV} {ro : Option Pos} {s : St} {r : Res}, ev (.code (compCode P N c) t ro) s = some r → ∀ {σ : Sg} {w : World} {a : Act} {lo : Option Nat} {m B : Nat}, TR σ N t a.tmps → HR P σ s w → DB B σ s w a.defers → B ≤ w.heap.size → RoOk σ ro lo →
    c.wpIn (Fo lo) m P (CPost P N B σ s w r) a w
  fn : ∀ {p : Pos} {args : List AV} {s : St} {r : Res}, ev (.fn p args) s = some r → ∀ {σ : Sg} {w : World} {vs : List Value}, VRs σ args vs → HR P σ s w →
    (∃ fn, P.funcs[p.num]? = some fn ∧ fn.body.isSome ∧ fn.name ≠ "runtime.NumGoroutine") ∧ Calls P p.num vs.toArray w (fun e w' => ∃ u, e = .returned u ∧ ∃ σ', VR σ' r.v u ∧ Stp P σ s w σ' r.s w')
  call : SoundCall P ev

theorem wpIn_region_sound {self : Req → St → Option Res} (hs : SoundCall P self) (hm : P.follows .mixedOrders = true) {N id : Nat} {ops : Array Oper} {draw : Bool} {t t' : T AV} {s s' : St} {σ : Sg} {w : World} {a : Act} {lo : Option Nat} {m : Nat} {Q : Exit → Act → World → Prop}
    (hf : ops.all (fitOper N ops) = true) (hd : draw = true → drawOk ops (osOf P ops) = true) (h : regRun self (osOf P ops) draw t s = some (t', s')) (ht : TR σ N t a.tmps) (hr : HR P σ s w)
    (hQ : ∀ a' w' σ', TR σ' N t' a'.tmps → Stp P σ s w σ' s' w' → a'.defers = a.defers → Q .normal a' w') : (Code.region id ops draw).wpIn (Fo lo) m P Q a w := by
  cases draw with
  | true => exact regRun_draw hs hf (hd rfl) hm h ht hr hQ
  | false =>
    simp only [regRun, Bool.false_eq_true, if_false] at h
    refine wpIn_region ?_
    have := opsRun_sound (lo := lo) (m := m) (pre := Region.before ops) hs hf ops.size 0 (by simp) (t := t) (s := s) (by rw [List.drop_zero]; exact h) ht hr hQ
    rw [List.range_eq_range']
    simpa using this

theorem run_callFunc {f : FuncId} {fn : Func} {args : Array Value} {w : World} (hf : P.funcs[f]? = some fn) (hb : fn.body.isSome) (hn : fn.name ≠ "runtime.NumGoroutine") : (callFunc f args).run P w = .ok (.enter f args) w := by
  obtain ⟨c, hc⟩ := Option.isSome_iff_exists.1 hb
  simp [callFunc, hf, hc, hn]

/-- A range over a function. -/
theorem rangeFunc_sound {self : Req → St → Option Res} (hs : Sound P self) {tab : T AFnK} {N : Nat} {g : Operand} {ps : Array Tmp} {as body : Code} {t : T AV} {ro : Option Pos} {s : St} {r : Res} (hps : ps.all (· < N) = true)
    (h : step tab self (.code (.rangeFunc (opdOf g) (ps.toList.map posOf) (compCode P N as) (compCode P N body)) t ro) s = some r) {σ : Sg} {w : World} {a : Act} {lo : Option Nat} {m B : Nat} (ht : TR σ N t a.tmps) (hr : HR P σ s w) (hd : DB B σ s w a.defers) (hB : B ≤ w.heap.size) (hro : RoOk σ ro lo) :
    (Code.rangeFunc g ps as body).wpIn (Fo lo) m P (CPost P N B σ s w r) a w := by
  simp only [step] at h
  split at h
  · rename_i fn fs cs hg
    split at h
    · rename_i har
      rw [T.setK_eq] at h
      split at h
      · rename_i r0 hr0
        split at h
        · rename_i st pend t' ps' as' body' hget
          have hgv := opd_get ht hg
          simp only [VR] at hgv
          obtain ⟨first, captured, hev, hfirst, hcap⟩ := hgv
          have hst : st ≠ .busy ∧ r = ⟨pend, .np, t, { r0.s with h := T.set s.nx none r0.s.h }⟩ := by
            cases st with
            | busy => simp at h
            | ready => simp only [T.setK_eq, Option.some.injEq] at h; exact ⟨by simp, h.symm⟩
            | done => simp only [T.setK_eq, Option.some.injEq] at h; exact ⟨by simp, h.symm⟩
          obtain ⟨hnb, rfl⟩ := hst
          refine wpIn_rangeFunc fun fnid _ => ?_
          have hor : ∀ {l D : Nat}, OR P σ (.loop .ready .normal t (ps.toList.map posOf) (compCode P N as) (compCode P N body)) 0 0 (.loop { state := .ready, pending := none, fn := fnid, tmps := a.tmps, params := ps, assign := as, body := body, defers := D }) := by
            intro l D
            refine ⟨rfl, _, rfl, rfl, fun _ => rfl, fun e => (by cases e), ?_, ?_, ?_, rfl, ?_⟩
            · exact ⟨rfl, ht.2⟩
            · simp only [ht.1]
            · simp only [ht.1]
            · intro p hp
              have := Array.all_eq_true_iff_forall_mem.1 hps p (by simpa using hp)
              simp only [ht.1]
              simpa using this
          have key : ∃ l mark w₁, (Instr.enterLoop fnid a.tmps ps as body (Fo lo).round).run P w = .ok (l, mark) w₁ ∧ ∃ σ1, Stp P σ s w σ1 { h := T.set s.nx (some (.loop .ready .normal t (ps.toList.map posOf) (compCode P N as) (compCode P N body))) s.h, nx := s.nx.succ } w₁ ∧ σ1 s.nx = some (l, 0, 0) ∧
              DB B σ1 { h := T.set s.nx (some (.loop .ready .normal t (ps.toList.map posOf) (compCode P N as) (compCode P N body))) s.h, nx := s.nx.succ } w₁ (mark ++ a.defers) := by
            rw [Fo_round]
            cases lo with
            | none =>
              refine ⟨_, _, _, run_enterLoop_outer _ _ _ _ _, ?_⟩
              have h1 : Stp P σ s w σ s (w.alloc (.deferred (some []))) := stp_nobody hr (pushed_alloc _)
              have hsz : (w.alloc (.deferred (some []))).heap.size = w.heap.size + 1 := World.size_alloc _ _
              have h2 := stp_new h1.hr (pushed_alloc (.loop { state := .ready, pending := none, fn := fnid, tmps := a.tmps, params := ps, assign := as, body := body, defers := w.heap.size })) (hor (l := 0))
              rw [hsz] at h2
              have h12 := h1.trans h2
              refine ⟨_, h12, Sg.put_same _ _ _, ?_⟩
              obtain ⟨Ds, e1, e2, e3⟩ := hd.upd h12.upd
              obtain ⟨Ds0, f1, f2, f3⟩ := hd
              refine ⟨w.heap.size :: Ds0, by rw [f1]; rfl, ?_, ?_⟩
              · rw [List.nodup_cons]
                refine ⟨fun hm => ?_, f2⟩
                have := (Array.getElem?_eq_some_iff.1 (f3 _ hm).2.1).1; omega
              · intro D hD
                rcases List.mem_cons.1 hD with e | hD
                · subst e
                  refine ⟨hB, ?_, ?_⟩
                  · show ((w.heap.push _).push _)[w.heap.size]? = _
                    rw [Array.getElem?_push_lt (by simp)]; simp
                  · intro hl
                    obtain ⟨q, o, x, k1, k2, k3⟩ := hl
                    rw [T.get_set] at k1
                    split at k1
                    · rename_i e; subst e
                      rw [Sg.put_same] at k2; cases k2; simp at k3
                    · rename_i e
                      rw [Sg.put_other _ _ (fun e' => e e'.symm)] at k2
                      obtain ⟨b, sh, n, ob, j1, j2, _⟩ := hr.obj q o k1
                      rw [j1] at k2; cases k2
                      have := (Array.getElem?_eq_some_iff.1 j2).1
                      simp only at k3; omega
                · have hDD : Ds = Ds0 := by
                    have := e1.symm.trans f1
                    exact (List.map_inj_right (fun x y hxy => by simpa using hxy)).1 this
                  subst hDD
                  exact e3 D hD
            | some lb =>
              cases ro with
              | none => exact hro.elim
              | some l =>
                obtain ⟨n0, hl⟩ := hro
                simp only [aroundOk] at har
                split at har
                · rename_i hgl
                  obtain ⟨b, sh, n, ob, j1, j2, j3⟩ := hr.obj l _ hgl
                  rw [hl] at j1; cases j1
                  obtain ⟨_, r₀, rfl, _⟩ := j3
                  refine ⟨_, _, _, run_enterLoop_inner j2 _ _ _ _ _, ?_⟩
                  have h2 := stp_new hr (pushed_alloc (.loop { state := .ready, pending := none, fn := fnid, tmps := a.tmps, params := ps, assign := as, body := body, defers := r₀.defers })) (hor (l := 0))
                  exact ⟨_, h2, Sg.put_same _ _ _, hd.upd h2.upd⟩
                · cases har
          obtain ⟨l, mark, w₁, he, σ1, hst1, hl1, hdb1⟩ := key
          have hext1 := hst1.ext hr
          have hargs : VRs σ1 (fs ++ ([.y s.nx] ++ cs)) (first.toList ++ ([Value.func (.yield l) #[] #[]] ++ captured.toList)) :=
            (hfirst.ext hext1).append ((VRs.cons (by simp only [VR]; exact ⟨l, 0, hl1, rfl⟩) VRs.nil).append (hcap.ext hext1))
          obtain ⟨⟨fd, hfd, hfb, hfn⟩, hcall⟩ := hs.fn hr0 hargs hst1.hr
          refine ⟨l, mark, w₁, { target := .fn (.func fn.num) captured, args := first ++ #[Value.func (.yield l) #[] #[]] }, w₁, fn.num, (first.toList ++ ([Value.func (.yield l) #[] #[]] ++ captured.toList)).toArray, w₁, he, ?_, fun f' _ => Fo_fn lo f', ?_, (fun hh => by rw [Fo_depth] at hh; cases hh), ?_⟩
          · simp only [resolve, hev, Deferred.ofValue]
            simp [Act.eval]
          · have : (first ++ #[Value.func (.yield l) #[] #[]] ++ captured : Array Value) = (first.toList ++ ([Value.func (.yield l) #[] #[]] ++ captured.toList)).toArray := by
              apply Array.toList_inj.1; simp
            simp only [invoke]
            rw [this]
            exact run_callFunc hfd hfb hfn
          · have hc : CallsIn Fence.wide (m - 1) P fn.num (first.toList ++ ([Value.func (.yield l) #[] #[]] ++ captured.toList)).toArray w₁ (rangePost (Fo lo) m P l (CPost P N B σ s w ⟨pend, .np, t, { r0.s with h := T.set s.nx none r0.s.h }⟩) { a with defers := mark ++ a.defers }) := by
              refine callsIn_wide.2 (hcall.mono ?_)
              rintro e w₃ ⟨u, rfl, σ', _, hst2⟩
              obtain ⟨b, sh, n, ob, j1, j2, j3⟩ := hst2.hr.obj s.nx _ hget
              have hag : σ' s.nx = σ1 s.nx := hst2.agree s.nx (by simp only [Pos.toNat_succ]; omega)
              rw [hag, hl1] at j1; cases j1
              obtain ⟨_, rr, rfl, k1, k2, k3, _⟩ := j3
              have hb : rr.state ≠ .busy := by rw [k1]; cases st <;> simp [stC] at hnb ⊢
              refine ⟨_, _, run_endLoop j2 hb, ?_⟩
              have hlt := (Array.getElem?_eq_some_iff.1 j2).1
              have hst3 := stp_drop hst2.hr hget (hag.trans hl1) (turned_put (ob := .loop { rr with state := .exhausted }) hlt)
              have hall := (hst1.trans hst2).trans hst3
              have hdb := (hdb1.upd hst2.upd).upd hst3.upd
              have htr : TR σ' N t a.tmps := ht.ext (hall.ext hr)
              have k2' := k2 hnb
              rw [k2'] at hall hdb
              rw [k2']
              cases pend with
              | normal => exact ⟨rfl, σ', htr, hall, hdb⟩
              | exit id => exact wpIn_exit ⟨rfl, σ', htr, hall, hdb⟩
              | ret => exact wpIn_ret ⟨rfl, σ', htr, hall, hdb⟩
            cases lo with
            | none => exact hc
            | some l => exact hc
        · cases h
      · cases h
    · cases h
  · cases h

theorem code_sound (hm : P.follows .mixedOrders = true) {tab : T AFnK} {n : Nat} (hs : ∀ k, k ≤ n → Sound P (run tab k)) {N : Nat} {c : Code} {t : T AV} {ro : Option Pos} {s : St} {r : Res} (h : run tab (n + 1) (.code (compCode P N c) t ro) s = some r) {σ : Sg} {w : World} {a : Act} {lo : Option Nat} {m B : Nat}
    (ht : TR σ N t a.tmps) (hr : HR P σ s w) (hd : DB B σ s w a.defers) (hB : B ≤ w.heap.size) (hro : RoOk σ ro lo) : c.wpIn (Fo lo) m P (CPost P N B σ s w r) a w := by
  have hn := hs n (Nat.le_refl _)
  cases c with
  | skip => simp only [run, compCode, step, Option.some.injEq] at h; subst h; exact wpIn_skip ⟨rfl, σ, ht, Stp.refl hr, hd⟩
  | label l => simp only [run, compCode, step, Option.some.injEq] at h; subst h; exact wpIn_label ⟨rfl, σ, ht, Stp.refl hr, hd⟩
  | exit id => simp only [run, compCode, step, Option.some.injEq] at h; subst h; exact wpIn_exit ⟨rfl, σ, ht, Stp.refl hr, hd⟩
  | ret => simp only [run, compCode, step, Option.some.injEq] at h; subst h; exact wpIn_ret ⟨rfl, σ, ht, Stp.refl hr, hd⟩
  | goto l => simp [run, compCode, step] at h
  | refuse d => simp [run, compCode, step] at h
  | region id ops draw =>
    simp only [run, compCode, compRegion] at h
    split at h
    · rename_i hc
      simp only [Bool.and_eq_true, Bool.or_eq_true, Bool.not_eq_true'] at hc
      simp only [step] at h
      split at h
      · rename_i t' s' hreg
        simp only [Option.some.injEq] at h; subst h
        refine wpIn_region_sound hn.call hm hc.1 (fun e => hc.2.resolve_left (by simp [e])) hreg ht hr (fun a' w' σ' h1 h2 h3 => ⟨rfl, σ', h1, h2, by rw [h3]; exact hd.upd h2.upd⟩)
      · cases h
    · simp [step] at h
  | seq x y =>
    simp only [run, compCode, step] at h
    split at h
    · rename_i r1 hr1
      refine wpIn_seq (wpIn_mono (hn.code hr1 ht hr hd hB hro) ?_)
      rintro e a' w' ⟨h1, σ', h2, h3, h4⟩
      split at h
      · rename_i he
        rw [he] at h1
        cases h1
        refine wpIn_mono (hn.code h h2 h3.hr h4 (Nat.le_trans hB h3.upd.size) (hro.ext (h3.ext hr))) (fun e a w hq => hq.trans h3)
      · rename_i he
        simp only [Option.some.injEq] at h; subst h
        cases hre : r1.e with
        | normal => exact absurd hre he
        | exit id => rw [hre] at h1; cases h1; exact ⟨by rw [hre]; rfl, σ', h2, h3, h4⟩
        | ret => rw [hre] at h1; cases h1; exact ⟨by rw [hre]; rfl, σ', h2, h3, h4⟩
    · cases h
  | cond c x y =>
    simp only [run, compCode, step] at h
    split at h
    · rename_i hc
      have hv := opd_get ht hc
      simp only [VR] at hv
      exact wpIn_cond_true hv (hn.code h ht hr hd hB hro)
    · rename_i hc
      have hv := opd_get ht hc
      simp only [VR] at hv
      exact wpIn_cond_false hv (hn.code h ht hr hd hB hro)
    · cases h
  | block id x =>
    simp only [run, compCode, step] at h
    split at h
    · rename_i r1 hr1
      refine wpIn_block (wpIn_mono (hn.code hr1 ht hr hd hB hro) ?_)
      rintro e a' w' ⟨h1, σ', h2, h3, h4⟩
      split at h
      · rename_i id' he
        rw [he] at h1
        cases h1
        simp only [Exit.inBlock]
        split at h
        · rename_i hbeq
          simp only [Option.some.injEq] at h; subst h
          rw [if_pos (Nat.eq_of_beq_eq_true hbeq)]
          exact ⟨rfl, σ', h2, h3, h4⟩
        · rename_i hbeq
          simp only [Option.some.injEq] at h; subst h
          rw [if_neg (fun e => hbeq (by rw [e]; exact Nat.beq_refl _))]
          exact ⟨by rw [he]; rfl, σ', h2, h3, h4⟩
      · rename_i he
        simp only [Option.some.injEq] at h; subst h
        cases hre : r1.e with
        | normal => rw [hre] at h1; cases h1; exact ⟨by rw [hre]; rfl, σ', h2, h3, h4⟩
        | exit id => exact absurd hre (he id)
        | ret => rw [hre] at h1; cases h1; exact ⟨by rw [hre]; rfl, σ', h2, h3, h4⟩
    · cases h
  | scope x =>
    simp only [run, compCode, step] at h
    refine wpIn_scope_straight (wpIn_mono (hn.code h ht hr hd hB hro) ?_)
    rintro e a' w' hq
    cases e with
    | goto l => exfalso; have := hq.1; cases hre : r.e <;> rw [hre] at this <;> cases this
    | _ => exact hq
  | loop x =>
    simp only [compCode] at h
    refine wpIn_loop_ghost (fun k a' w' => k ≤ n + 1 ∧ ∃ t' s' σ', run tab k (.code (.loop (compCode P N x)) t' ro) s' = some r ∧ TR σ' N t' a'.tmps ∧ Stp P σ s w σ' s' w' ∧ DB B σ' s' w' a'.defers) (n + 1) ⟨Nat.le_refl _, t, s, σ, h, ht, Stp.refl hr, hd⟩ ?_
    rintro k a' w' ⟨hk, t', s', σ', h1, h2, h3, h4⟩
    cases k with
    | zero => simp [run] at h1
    | succ k =>
      simp only [run, step] at h1
      split at h1
      · rename_i r1 hr1
        refine wpIn_mono ((hs k (by omega)).code hr1 h2 h3.hr h4 (Nat.le_trans hB h3.upd.size) (hro.ext (h3.ext hr))) ?_
        rintro e a'' w'' ⟨k1, σ'', k2, k3, k4⟩
        split at h1
        · rename_i he
          rw [he] at k1
          cases k1
          exact ⟨k, by omega, by omega, r1.t, r1.s, σ'', h1, k2, h3.trans k3, k4⟩
        · rename_i he
          simp only [Option.some.injEq] at h1; subst h1
          cases hre : r1.e with
          | normal => exact absurd hre he
          | exit id => rw [hre] at k1; cases k1; exact ⟨by rw [hre]; rfl, σ'', k2, h3.trans k3, k4⟩
          | ret => rw [hre] at k1; cases k1; exact ⟨by rw [hre]; rfl, σ'', k2, h3.trans k3, k4⟩
      · cases h1
  | rangeFunc g ps as body =>
    simp only [run, compCode] at h
    split at h
    · rename_i hps
      exact rangeFunc_sound hn hps h ht hr hd hB hro
    · simp [step] at h
end
end Go.Proofs.YtdpglpjahbiemaaGreatDoor.Ev
