/- A region whose order is drawn, whole. No program. -/
import Derived.Test.YtdpglpjahbiemaaGreatDoorEvD5
namespace Go.Proofs.YtdpglpjahbiemaaGreatDoor.Ev
open Go

theorem map_inj {α β : Type} (g : α → β) : ∀ {l : List α}, (l.map g).Nodup → ∀ p ∈ l, ∀ q ∈ l, g p = g q → p = q
  | [], _, p, hp, _, _, _ => by cases hp
  | x :: l, hnn, p, hp, q, hq, e => by
    simp only [List.map_cons, List.nodup_cons] at hnn
    rcases List.mem_cons.1 hp with e1 | hp1 <;> rcases List.mem_cons.1 hq with e2 | hq1
    · rw [e1, e2]
    · subst e1; exact absurd (by rw [e]; exact List.mem_map_of_mem hq1) hnn.1
    · subst e2; exact absurd (by rw [← e]; exact List.mem_map_of_mem hp1) hnn.1
    · exact map_inj g hnn.2 p hp1 q hq1 e
theorem mrun_irrel {h h' : T AO} {id : Pos} {k : MK} {args : List AV} (hk : k ≠ .rngM) : mrun h id k args = mrun h' id k args := by
  unfold mrun
  split <;> first | rfl | exact absurd rfl hk

section
variable {P : Program} {ops : Array Oper} {N : Nat} {f : Nat → DS} {σ0 : Sg} {s0 : St} {w0 : World} {a0 : Act} {t0 : T AV} {self : Req → St → Option Res} {Q : Exit → Act → World → Prop} {lo : Option Nat} {m : Nat}

theorem fin_sound (hd : Dr P ops) (hn : Rn self (osOf P ops) t0 s0 (advMk (osOf P ops) s0.nx) f)
    (hQ : ∀ a' w' σ', TR σ' N (f ops.size).t a'.tmps → Stp P σ0 s0 w0 σ' { (f ops.size).s with h := insH (lastMk (f ops.size).mks (f ops.size).acts) (f ops.size).s.h } w' → a'.defers = a0.defers → Q .normal a' w')
    {listed : Array Bool} {a : Act} {w : World} {R done : List AE} {σ : Sg} {t : T AV} (h : Iv P ops N f (advMk (osOf P ops) s0.nx) σ0 s0 w0 a0 listed a w R done σ t) (hr : Region.ready .any ops listed = []) : Q .normal a w := by
  have hall : ∀ i, i < ops.size → listed[i]? = some true := fun i hi => all_listed hd h.sz hr (i + 1) i (by omega) hi
  have hacts := hn.acts_at ops.size (by rw [osOf_len]; exact Nat.le_refl _)
  have hmks := hn.mks_at ops.size (by rw [osOf_len]; exact Nat.le_refl _)
  have hnd := hn.nodup ops.size (by rw [osOf_len]; exact Nat.le_refl _)
  obtain ⟨hst1, hst2⟩ := hn.st ops.size (by rw [osOf_len]; exact Nat.le_refl _)
  have hR : R = [] := by
    cases R with
    | nil => rfl
    | cons e R =>
      exfalso
      have h1 := h.rs e (by simp)
      have h2 := (hacts e (by rw [h.split]; simp)).1
      rw [hall e.i h2] at h1; cases h1
  subst hR
  have hsp := h.split
  simp only [List.nil_append] at hsp
  have hl : ∀ p ∈ lastMk (f ops.size).mks (f ops.size).acts, p ∈ (f ops.size).mks ∧ listed[p.1]? = some true ∧ ∀ e ∈ done, Nat.testBit e.pre p.1 = false := by
    intro p hp
    simp only [lastMk, List.mem_filter, List.all_eq_true, Bool.not_eq_true'] at hp
    exact ⟨hp.1, hall _ (hmks p hp.1).1, fun e he => hp.2 e (by rw [hsp]; exact he)⟩
  have hnl : ((lastMk (f ops.size).mks (f ops.size).acts).map (·.2.1)).Nodup := hnd.1.sublist (List.Sublist.map _ List.filter_sublist)
  have h1 := hr_ins h.hr h.fl hl hnl
  have h2 := upd_ins h.upd h.fl hl hnl
  have hst : ({ (f ops.size).s with h := insH (lastMk (f ops.size).mks (f ops.size).acts) (f ops.size).s.h } : St) = { h := insH (lastMk (f ops.size).mks (f ops.size).acts) (hOf s0.h done), nx := nxOf (advMk (osOf P ops) s0.nx) done } := by
    show ({ h := insH (lastMk (f ops.size).mks (f ops.size).acts) (f ops.size).s.h, nx := (f ops.size).s.nx } : St) = _
    rw [hst1, hst2, hsp]
  refine hQ a w σ ⟨h.tr.1, fun p v hp => h.tr.2 p v ?_⟩ ?_ h.df
  · rw [h.tt p (fun j o hj _ => hall j (by have := (List.getElem?_eq_some_iff.1 hj).1; rwa [osOf_len] at this))]; exact hp
  · rw [hst]
    exact ⟨h.agree, by
      have : s0.nx.toNat ≤ (advMk (osOf P ops) s0.nx).toNat := by rw [advMk_cnt]; omega
      have := h.le; simp only; omega, h1, h2⟩

theorem any_sound (hs : SoundCall P self) (hf : ops.all (fitOper N ops) = true) (hd : Dr P ops) (hn : Rn self (osOf P ops) t0 s0 (advMk (osOf P ops) s0.nx) f) (hchk : chkAll s0.h (f ops.size) = true)
    (hQ : ∀ a' w' σ', TR σ' N (f ops.size).t a'.tmps → Stp P σ0 s0 w0 σ' { (f ops.size).s with h := insH (lastMk (f ops.size).mks (f ops.size).acts) (f ops.size).s.h } w' → a'.defers = a0.defers → Q .normal a' w') :
    ∀ (fuel : Nat) {listed : Array Bool} {a : Act} {w : World} {R done : List AE} {σ : Sg} {t : T AV}, listed.toList.count false ≤ fuel → Iv P ops N f (advMk (osOf P ops) s0.nx) σ0 s0 w0 a0 listed a w R done σ t → wpAnyIn (Fo lo) m P .any ops Q fuel listed a w
  | 0, listed, a, w, R, done, σ, t, hc, h => by
    have hr : Region.ready .any ops listed = [] := by
      cases hr : Region.ready .any ops listed with
      | nil => rfl
      | cons i l =>
        exfalso
        obtain ⟨o, ho, hno, _⟩ := ready_inv h.sz (show i ∈ Region.ready .any ops listed by rw [hr]; simp)
        have hm : false ∈ listed.toList := List.mem_of_getElem? (i := i) (by simpa using hno)
        have := List.count_pos_iff.2 hm
        omega
    exact ⟨hr, fin_sound hd hn hQ h hr⟩
  | fuel + 1, listed, a, w, R, done, σ, t, hc, h => by
    refine ⟨fun hr => fin_sound hd hn hQ h hr, fun i hi => ?_⟩
    obtain ⟨o, ho, hno, hed⟩ := ready_inv h.sz hi
    have hil := (Array.getElem?_eq_some_iff.1 ho).1
    have hao := osOf_get (P := P) ho
    have hlo := chain_listed hd h.down (i + 1) i o (by omega) ho hed
    have hlt := bit_lt hd (i + 1) i o (by omega) ho
    have hfo : fitOper N ops o = true := Array.all_eq_true_iff_forall_mem.1 hf o (Array.mem_of_getElem? ho)
    have hlook : ∀ p, (Opd.t p ∈ (compOper P ops (Region.before ops) o i).args ∨ ∃ b, (compOper P ops (Region.before ops) o i).guard = some (p, b)) → T.get p t = T.get p (f i).t :=
      fun p hp => look_same hd hn hao hlo hno hlt h.tt hp
    have hwant : wantedA t (compOper P ops (Region.before ops) o i).guard = wantedA (f i).t (compOper P ops (Region.before ops) o i).guard := wantedA_congr fun p b e => hlook p (Or.inr ⟨b, e⟩)
    have hargs : getAll t (compOper P ops (Region.before ops) o i).args = getAll (f i).t (compOper P ops (Region.before ops) o i).args := getAll_congr fun p hp => hlook p (Or.inl hp)
    have hlen : (osOf P ops).length = ops.size := osOf_len P ops
    have hacts := hn.acts_at ops.size (by omega)
    have hmks := hn.mks_at ops.size (by omega)
    have hnd := hn.nodup ops.size (by omega)
    have hfi := hn.i i (by omega)
    obtain ⟨hst1, hst2⟩ := hn.st i (by omega)
    obtain ⟨⟨L, hL1, hL2⟩, ⟨M, hM1, hM2⟩, ⟨U, hU1⟩, _⟩ := hn.mono (ops.size - (i + 1)) (i + 1) (by omega)
    rw [show i + 1 + (ops.size - (i + 1)) = ops.size by omega] at hL1 hM1 hU1
    have hcnt := count_set hno hc
    simp only [wpOpIn, ho]
    rcases hn.sp i _ hao with ⟨hw, e⟩ | ⟨hw, args, hga, hcase⟩
    · have hw' := wanted_of h.tr hfo (hwant.trans hw)
      rw [hw']
      simp only [Bool.false_eq_true, if_false]
      refine ⟨fun g _ => Fo_fn lo g, any_sound hs hf hd hn hchk hQ fuel hcnt (iv_quiet hd hn hf h ho hed ?_ ?_ (v := .tup []) VR_undef (by rw [e]; rfl))⟩
      · rintro e' he' rfl
        obtain ⟨_, q, hq, hqw, _⟩ := hacts e' he'
        rw [hao] at hq; cases hq
        rw [hw] at hqw; cases hqw
      · rintro e' he' rfl
        obtain ⟨_, q, hq, hqw, _⟩ := hmks e' he'
        rw [hao] at hq; cases hq
        rw [hw] at hqw; cases hqw
    · have hw' := wanted_of h.tr hfo (hwant.trans hw)
      rw [hw']
      simp only [if_true]
      have hav : VRs σ args ((compOp P o.op).2.map a.eval) := getAll_VR h.tr (hargs.trans hga)
      rcases hcase with ⟨k, v, hk, hv, e⟩ | ⟨k, ob, v, hk, hv, e⟩ | ⟨k, v, s, hk, hv, e⟩
      · have hcomp : compOp P o.op = (.n k, (compOp P o.op).2) := by rw [← show (compOp P o.op).1 = .n k from hk]
        have hnb : k ≠ .bad := by rintro rfl; simp [nrun] at hv
        have hv' : nrun (hOf s0.h done) k args = some v := by
          simp only [chkAll, Bool.or_eq_true, List.isEmpty_iff] at hchk
          rcases hchk with hemp | hchk
          · have hfa : (f i).acts = [] := by
              obtain ⟨⟨L', h1, _⟩, _⟩ := hn.mono (ops.size - i) i (by omega)
              rw [show i + (ops.size - i) = ops.size by omega, hemp] at h1
              exact (List.append_eq_nil_iff.1 h1.symm).2
            have hdn : done = [] := by
              have := h.split; rw [hemp] at this
              exact (List.append_eq_nil_iff.1 this.symm).2
            rw [hdn]; rw [hst1, hfa] at hv; exact hv
          · have hmem : (i, (compOper P ops (Region.before ops) o i).pre, k, args, v) ∈ (f ops.size).neu := by
              rw [hU1, e]; simp [hfi]
            have h1 := List.all_eq_true.1 hchk _ hmem
            rw [h.split] at h1
            rw [show R ++ done = R ++ done from rfl] at h1
            have h2 := chkN_split h1
            simp only [chkN.chk1] at h2
            have hin : inWin i (compOper P ops (Region.before ops) o i).pre done (R.reverse ++ []) = true := by
              simp only [inWin, Bool.and_eq_true, List.all_eq_true, Bool.not_eq_true', List.append_nil, List.mem_reverse]
              refine ⟨fun x hx => ?_, fun x hx => ?_⟩
              · cases hb : Nat.testBit x.pre i with
                | false => rfl
                | true =>
                  exfalso
                  obtain ⟨hxl, q, hq, _, k', _, hpre⟩ := hacts x (by rw [h.split]; simp [hx])
                  obtain ⟨qo, hqo, rfl⟩ := osOf_inv hq
                  have hxli := h.dn x hx
                  have := chain_listed hd h.down (x.i + 1) x.i qo (by omega) hqo (fun e' he' hb' => h.down x.i qo hqo hxli e' he' hb') i (by rw [hpre] at hb; exact hb)
                  rw [hno] at this; cases this
              · cases hb : Nat.testBit (compOper P ops (Region.before ops) o i).pre x.i with
                | false => rfl
                | true =>
                  exfalso
                  have := hlo _ hb
                  rw [h.rs x hx] at this; cases this
            rw [hin] at h2
            simp only [if_true] at h2
            split at h2
            · rename_i v' hv'
              rw [avBeq_iff h2] at hv'; exact hv'
            · cases h2
        obtain ⟨u, h1, h2⟩ := nOk hcomp h.hr hav hv'
        refine wpIn_of_CallS (R := fun u' w' => u' = u ∧ w' = w) (nodefer_n hcomp hnb) (Or.inl ⟨u, w, h1, rfl, rfl⟩) (fun u' w' ⟨e1, e2⟩ => ?_)
        subst e1; subst e2
        refine any_sound hs hf hd hn hchk hQ fuel hcnt (iv_quiet hd hn hf h ho hed ?_ ?_ h2 (by rw [e]; rfl))
        · rintro e' he' rfl
          obtain ⟨_, q, hq, _, k', hk', _⟩ := hacts e' he'
          rw [hao] at hq; cases hq
          rw [hk] at hk'; cases hk'
        · rintro e' he' rfl
          obtain ⟨_, q, hq, _, k', hk'⟩ := hmks e' he'
          rw [hao] at hq; cases hq
          rw [hk] at hk'; cases hk'
      · have hcomp : compOp P o.op = (.m k, (compOp P o.op).2) := by rw [← show (compOp P o.op).1 = .m k from hk]
        have hkr : k ≠ .rngM := by rintro rfl; exact hd.norng i _ hao hk
        rw [mrun_irrel (h' := hOf s0.h done) hkr] at hv
        obtain ⟨u, cob, n, w1, h1, h2, h3, h4⟩ := mOk (id := (f i).rid) hcomp h.hr hav hv
        have hmem : (i, (f i).rid, ob) ∈ (f ops.size).mks := by rw [hM1, e]; simp [hfi]
        refine wpIn_of_CallS (R := fun u' w' => u' = u ∧ w' = w1) (nodefer_m hcomp) (Or.inl ⟨u, w1, h1, rfl, rfl⟩) (fun u' w' ⟨e1, e2⟩ => ?_)
        subst e1; subst e2
        refine any_sound hs hf hd hn hchk hQ fuel hcnt (iv_mk hd hn hf h ho hno hed ?_ hmem h2 h3 (h4 _ (Sg.put_same _ _ _)) (by rw [e]; rfl))
        rintro e' he' rfl
        obtain ⟨_, q, hq, _, k', hk', _⟩ := hacts e' he'
        rw [hao] at hq; cases hq
        rw [hk] at hk'; cases hk'
      · have hcomp : compOp P o.op = (.x k, (compOp P o.op).2) := by rw [← show (compOp P o.op).1 = .x k from hk]
        have hfacts := hn.acts_at i (by omega)
        have hmem : (⟨(f i).i, (compOper P ops (Region.before ops) o i).pre, k, args, v, s⟩ : AE) ∈ (f ops.size).acts := by rw [hL1, e]; simp
        obtain ⟨hRe, hde⟩ := split_unique (F := fun x : AE => listed[x.i]? = some true) (a := R) (b := done) (c := L ++ [⟨(f i).i, (compOper P ops (Region.before ops) o i).pre, k, args, v, s⟩]) (d := (f i).acts)
          (by rw [← h.split, hL1, e]; simp) (fun x hx hF => by rw [h.rs x hx] at hF; cases hF) h.dn
          (fun x hx hF => by
            rcases List.mem_append.1 hx with hx | hx
            · obtain ⟨hxl, q, hq, _, k', hk', _⟩ := hacts x (by rw [hL1]; simp [hx])
              have hx1 := (hL2 x hx).1
              have hb := hd.row i x.i _ q k k' hao hq hk hk' (by omega)
              obtain ⟨qo, hqo, rfl⟩ := osOf_inv hq
              have := chain_listed hd h.down (x.i + 1) x.i qo (by omega) hqo (fun e' he' hb' => h.down x.i qo hqo hF e' he' hb') i hb
              rw [hno] at this; cases this
            · rw [List.mem_singleton] at hx
              rw [hx] at hF
              simp only [hfi, hno, Option.some.injEq, Bool.false_eq_true] at hF)
          (fun x hx => by
            obtain ⟨hxl, q, hq, _, k', hk', _⟩ := hfacts x hx
            exact hlo _ (hd.row x.i i q _ k' k hq hao hk' hk hxl))
        subst hRe
        subst hde
        have hnl : ((newMk (f i).mks (compOper P ops (Region.before ops) o i).pre (f i).acts).map (·.2.1)).Nodup := by
          refine List.Nodup.sublist (List.Sublist.map _ List.filter_sublist) ?_
          exact (hn.nodup i (by omega)).1
        have hsub : ∀ p ∈ (f i).mks, p ∈ (f ops.size).mks := by
          obtain ⟨_, ⟨M', h1, _⟩, _⟩ := hn.mono (ops.size - i) i (by omega)
          rw [show i + (ops.size - i) = ops.size by omega] at h1
          intro p hp; rw [h1]; simp [hp]
        have hl : ∀ p ∈ newMk (f i).mks (compOper P ops (Region.before ops) o i).pre (f i).acts, (p ∈ (f ops.size).mks ∧ listed[p.1]? = some true ∧ ∀ e ∈ (f i).acts, Nat.testBit e.pre p.1 = false) ∧ Nat.testBit (compOper P ops (Region.before ops) o i).pre p.1 = true := by
          intro p hp
          simp only [newMk, List.mem_filter, List.all_eq_true, Bool.not_eq_true', Bool.and_eq_true] at hp
          exact ⟨⟨hsub p hp.1, hlo _ hp.2.1, hp.2.2⟩, hp.2.1⟩
        have hHR := hr_ins h.hr h.fl (fun p hp => (hl p hp).1) hnl
        have hv2 : actRun self k args { h := insH (newMk (f i).mks (compOper P ops (Region.before ops) o i).pre (f i).acts) (hOf s0.h (f i).acts), nx := nxOf (advMk (osOf P ops) s0.nx) (f i).acts } = some (v, s) := by
          rw [← hst2, ← hst1]; exact hv
        refine wpIn_of_CallS (nodefer_x hcomp) (act_sound hs hcomp hav hHR hv2) (fun u' w' ⟨σ1, e1, e2⟩ => ?_)
        refine any_sound hs hf hd hn hchk hQ fuel hcnt (iv_act hd hn hf h ho hfi (fun x hx => ?_) hed ?_ (fun p hp => (hl p hp).1) (fun p hp => (hl p hp).2) hnl ?_ e2 e1 (by rw [e]; rfl))
        · have := (hL2 x hx).1; omega
        · rintro e' he' rfl
          obtain ⟨_, q, hq, _, k', hk'⟩ := hmks e' he'
          rw [hao] at hq; cases hq
          rw [hk] at hk'; cases hk'
        · intro p hp _ _ hpf q hq e'
          have := map_inj (·.2.1) hnd.1 q (hl q hq).1.1 p hp e'
          subst this
          have h9 := (hl q hq).2
          simp only at hpf
          rw [hpf] at h9; cases h9

/-- What the evaluator's region runs to, the model's does, in whatever order it draws. -/
theorem regRun_draw (hs : SoundCall P self) (hf : ops.all (fitOper N ops) = true) (hd : drawOk ops (osOf P ops) = true) {id : Nat} (hm : P.follows .mixedOrders = true) {t : T AV} {t' : T AV} {s s' : St} {σ : Sg} {w : World} {a : Act} (h : regRun self (osOf P ops) true t s = some (t', s')) (ht : TR σ N t a.tmps) (hr : HR P σ s w)
    (hQ : ∀ a' w' σ', TR σ' N t' a'.tmps → Stp P σ s w σ' s' w' → a'.defers = a.defers → Q .normal a' w') : (Code.region id ops true).wpIn (Fo lo) m P Q a w := by
  have hD := Dr.of hd
  simp only [regRun, if_true] at h
  split at h
  · rename_i d hdg
    split at h
    · rename_i hck
      rw [insAll_eq] at h
      obtain ⟨rfl, rfl⟩ : d.t = t' ∧ ({ d.s with h := insH (lastMk d.mks d.acts) d.s.h } : St) = s' := by
        simp only [Option.some.injEq, Prod.mk.injEq] at h; exact h
      obtain ⟨f, f0, f1, f2⟩ := dgo_chain _ hdg
      rw [osOf_len] at f1
      have hn : Rn self (osOf P ops) t s (advMk (osOf P ops) s.nx) f := ⟨f0, f2⟩
      subst f1
      have hr' : HR P σ s { w with drawn := w.drawn + 1 } := ⟨hr.dom, hr.obj, hr.inj⟩
      refine wpIn_region_any hm (any_sound (σ0 := σ) (w0 := { w with drawn := w.drawn + 1 }) (a0 := a) hs hf hD hn hck ?_ ops.size (R := (f ops.size).acts) (done := []) (σ := σ) (t := t) (by simp [List.count_replicate_self]) ?_)
      · intro a' w' σ' h1 h2 h3
        exact hQ a' w' σ' h1 ⟨h2.agree, h2.le, h2.hr, ⟨h2.upd.os, h2.upd.tape, h2.upd.output, h2.upd.size, h2.upd.old, h2.upd.own⟩⟩ h3
      · have hle : s.nx.toNat ≤ (advMk (osOf P ops) s.nx).toNat := by rw [advMk_cnt]; omega
        have hacts := hn.acts_at ops.size (by rw [osOf_len]; exact Nat.le_refl _)
        have hmks := hn.mks_at ops.size (by rw [osOf_len]; exact Nat.le_refl _)
        have hnd := hn.nodup ops.size (by rw [osOf_len]; exact Nat.le_refl _)
        have hrep : ∀ i, i < ops.size → (Array.replicate ops.size false)[i]? = some false := by
          intro i hi; simp [hi]
        have hrep2 : ∀ i : Nat, (Array.replicate ops.size false)[i]? = some true → False := by
          intro i hi; simp [Array.getElem?_replicate] at hi
        refine ⟨by simp, by simp, (fun e he => by cases he), (fun e he => hrep _ (hacts e he).1), (fun i o _ hi => (hrep2 i hi).elim), ⟨fun id hid => hr.dom id (by simp only [nxOf] at hid; omega), hr.obj, hr.inj⟩, ⟨rfl, rfl, rfl, Nat.le_refl _, fun _ _ _ => rfl, fun b hb => Or.inl hb⟩, fun _ _ => rfl, Nat.le_refl _, ht, ?_, ?_, ⟨?_, ?_⟩, rfl⟩
        · intro p hp
          have h1 := hn.tk (p := p) ops.size 0 (by rw [osOf_len]; omega) (fun j q _ h2 hq e => (hrep2 j (hp j q hq e)).elim)
          rw [Nat.zero_add, f0] at h1
          exact h1.symm
        · intro p hp _
          exact hr.dom _ (hnd.2.1 p hp).1
        · rintro p ⟨_, h2, _⟩; exact (hrep2 _ h2).elim
        · rintro p q ⟨_, h2, _⟩; exact (hrep2 _ h2).elim
    · cases h
  · cases h
end
end Go.Proofs.YtdpglpjahbiemaaGreatDoor.Ev
