/- Every operation that reads at most does what the evaluator says. No program. -/
import Derived.Test.YtdpglpjahbiemaaGreatDoorEvN6
namespace Go.Proofs.YtdpglpjahbiemaaGreatDoor.Ev
open Go

section
variable {P : Program} {σ : Sg} {s : St} {w : World} {o : Oper} {ρ : Operand → Value}

theorem nrun_bad {k : NK} {args : List AV} {v : AV} (hk : OpK.n .bad = .n k) (h : nrun s.h k args = some v) : False := by
  cases hk; simp [nrun] at h
theorem getD_ne {x : Option Nat} (h : ¬ x.getD 0 = 0) : ∃ n, x = some n ∧ n ≠ 0 := by
  cases x with
  | none => exact absurd rfl h
  | some n => exact ⟨n, rfl, h⟩

theorem nOk_bin {op : BinOp} {t yt : TypeId} {x y : Operand} (ho : o.op = .binOp op t x y yt) {k : NK} {xs : List Operand} {args : List AV} {v : AV} (hc : compBin P op t x y = (.n k, xs)) (hr : HR P σ s w) (ha : VRs σ args (xs.map ρ)) (h : nrun s.h k args = some v) : Yl P σ w o ρ v := by
  unfold compBin at hc
  split at hc
  · split at hc <;> cases hc <;> (obtain ⟨a, b, rfl, h1, h2⟩ := ha.inv2) <;> simp only [nrun] at h <;> first | exact n_arith ho h1 h2 h | exact n_shift ho h1 h2 h | exact n_cmp ho h1 h2 h
  · cases hc; obtain ⟨a, b, rfl, h1, h2⟩ := ha.inv2; simp only [nrun] at h; exact n_str ho h1 h2 h
  · rename_i hu
    split at hc <;> cases hc
    · obtain ⟨a, b, rfl, h1, h2⟩ := ha.inv2; simp only [nrun] at h; exact n_eqB ho false rfl hu h1 h2 h
    · obtain ⟨a, b, rfl, h1, h2⟩ := ha.inv2; simp only [nrun] at h; exact n_eqB ho true rfl hu h1 h2 h
    · exact (nrun_bad rfl h).elim
  · rename_i e hu
    split at hc
    · cases hc; exact (nrun_bad rfl h).elim
    · rename_i hz
      obtain ⟨n, hn, hn0⟩ := getD_ne hz
      split at hc <;> cases hc
      · obtain ⟨a, b, rfl, h1, h2⟩ := ha.inv2; simp only [nrun] at h; exact n_eqP ho false rfl hu hn hn0 hr h1 h2 h
      · obtain ⟨a, b, rfl, h1, h2⟩ := ha.inv2; simp only [nrun] at h; exact n_eqP ho true rfl hu hn hn0 hr h1 h2 h
      · exact (nrun_bad rfl h).elim
  · rename_i e hu
    split at hc <;> cases hc
    · obtain ⟨a, b, rfl, h1, h2⟩ := ha.inv2; simp only [nrun] at h; exact n_eqN ho false rfl (Or.inl ⟨rfl, _, hu⟩) h1 h2 h
    · obtain ⟨a, b, rfl, h1, h2⟩ := ha.inv2; simp only [nrun] at h; exact n_eqN ho true rfl (Or.inl ⟨rfl, _, hu⟩) h1 h2 h
    · exact (nrun_bad rfl h).elim
  · rename_i e hu
    split at hc <;> cases hc
    · obtain ⟨a, b, rfl, h1, h2⟩ := ha.inv2; simp only [nrun] at h; exact n_eqN ho false rfl (Or.inr (Or.inl ⟨rfl, _, _, hu⟩)) h1 h2 h
    · obtain ⟨a, b, rfl, h1, h2⟩ := ha.inv2; simp only [nrun] at h; exact n_eqN ho true rfl (Or.inr (Or.inl ⟨rfl, _, _, hu⟩)) h1 h2 h
    · exact (nrun_bad rfl h).elim
  · rename_i e hu
    split at hc <;> cases hc
    · obtain ⟨a, b, rfl, h1, h2⟩ := ha.inv2; simp only [nrun] at h; exact n_eqN ho false rfl (Or.inr (Or.inr ⟨rfl, _, _, _, hu⟩)) h1 h2 h
    · obtain ⟨a, b, rfl, h1, h2⟩ := ha.inv2; simp only [nrun] at h; exact n_eqN ho true rfl (Or.inr (Or.inr ⟨rfl, _, _, _, hu⟩)) h1 h2 h
    · exact (nrun_bad rfl h).elim
  all_goals first
    | (cases hc; exact (nrun_bad rfl h).elim)
    | skip
  all_goals
    rename_i hu
    have hag : aggT P t = true := by simp [aggT, hu]
    split at hc
    · cases hc; exact (nrun_bad rfl h).elim
    · rename_i hg
      split at hc
      · cases hc; exact (nrun_bad rfl h).elim
      · rename_i l hl
        split at hc <;> cases hc
        · obtain ⟨a, b, rfl, h1, h2⟩ := ha.inv2; simp only [nrun] at h; exact n_eqA ho false rfl hag (by simpa using hg) hl h1 h2 h
        · obtain ⟨a, b, rfl, h1, h2⟩ := ha.inv2; simp only [nrun] at h; exact n_eqA ho true rfl hag (by simpa using hg) hl h1 h2 h
        · exact (nrun_bad rfl h).elim

theorem nOk_slice {t : TypeId} {x : Operand} {lo hi mx : Option Operand} (ho : o.op = .slice t x lo hi mx) {k : NK} {xs : List Operand} {args : List AV} {v : AV} (hc : compSlice P t x lo hi mx = (.n k, xs)) (hr : HR P σ s w) (ha : VRs σ args (xs.map ρ)) (h : nrun s.h k args = some v) : Yl P σ w o ρ v := by
  unfold compSlice at hc
  simp only at hc
  split at hc
  · split at hc
    · rename_i e l h' m hu _
      split at hc
      · rename_i n hn
        cases hc
        simp only [List.map_cons, List.map_nil] at ha
        obtain ⟨a, b, c, d, rfl, h1, h2, h3, h4⟩ := ha.inv4
        simp only [nrun, if_true] at h
        exact n_sl3 ho hu hn h1 h2 h3 h4 h
      · cases hc; exact (nrun_bad rfl h).elim
    · cases hc; exact (nrun_bad rfl h).elim
  · rename_i hmx
    have : mx = none := by cases mx with | none => rfl | some _ => exact absurd rfl hmx
    subst this
    split at hc
    · rename_i hu; cases hc; simp only [nrun] at h; exact n_slS ho hu ha h
    · rename_i e hu
      split at hc
      · rename_i n hn; cases hc; simp only [nrun, Bool.false_eq_true, if_false] at h; exact n_slL ho hu hn ha h
      · cases hc; exact (nrun_bad rfl h).elim
    · rename_i m e hu
      split at hc
      · rename_i n hn; cases hc; simp only [nrun] at h; exact n_slA ho hu hn hr ha h
      · cases hc; exact (nrun_bad rfl h).elim
    · cases hc; exact (nrun_bad rfl h).elim

theorem bindU {ts : Array TypeId} {d : TypeDesc} (h : (ts[0]?).bind (P.underlying ·) = some d) : ∃ t, ts[0]? = some t ∧ P.underlying t = some d := by
  cases ht : ts[0]? with
  | none => rw [ht] at h; cases h
  | some t => rw [ht] at h; exact ⟨t, rfl, h⟩
theorem argsOf {args : Array Operand} {l : List Operand} (h : args.toList = l) : args = l.toArray := by
  subst h; simp

theorem nOk_call {c : Call} (ho : o.op = .call c) {k : NK} {xs : List Operand} {args : List AV} {v : AV} (hc : compCall P c = (.n k, xs)) (hr : HR P σ s w) (ha : VRs σ args (xs.map ρ)) (h : nrun s.h k args = some v) : Yl P σ w o ρ v := by
  obtain ⟨callee, cargs, ts⟩ := c
  unfold compCall at hc
  simp only at hc
  split at hc
  · cases hc
  · cases hc; exact (nrun_bad rfl h).elim
  · rename_i b
    split at hc
    case h_1 x e1 e2 =>
      cases hc; obtain ⟨t, h0, hu⟩ := bindU e2; have := argsOf e1; subst this
      obtain ⟨a, rfl, h1⟩ := ha.inv1; simp only [nrun] at h; exact n_lenS ho h0 hu h1 h
    case h_2 x e1 e2 =>
      cases hc; obtain ⟨t, h0, hu⟩ := bindU e2; have := argsOf e1; subst this
      obtain ⟨a, rfl, h1⟩ := ha.inv1; simp only [nrun] at h; exact n_lenL ho h0 hu h1 h
    case h_3 x n e1 e2 =>
      cases hc; obtain ⟨t, h0, hu⟩ := bindU e2; have := argsOf e1; subst this
      obtain ⟨a, rfl, h1⟩ := ha.inv1; simp only [nrun] at h; exact n_lenC ho h0 hu h1 h
    case h_4 x e1 e2 =>
      cases hc; obtain ⟨t, h0, hu⟩ := bindU e2; have := argsOf e1; subst this
      obtain ⟨a, rfl, h1⟩ := ha.inv1; simp only [nrun] at h; exact n_lenM ho h0 hu hr h1 h
    case h_5 x e1 e2 =>
      cases hc; obtain ⟨t, h0, hu⟩ := bindU e2; have := argsOf e1; subst this
      obtain ⟨a, rfl, h1⟩ := ha.inv1; simp only [nrun] at h; exact n_capL ho h0 hu h1 h
    case h_6 x y e1 e2 =>
      cases hc; have := argsOf e1; subst this
      obtain ⟨a, b, rfl, h1, h2⟩ := ha.inv2; simp only [nrun] at h; exact n_min ho h1 h2 h
    case h_7 x y e1 e2 =>
      cases hc; have := argsOf e1; subst this
      obtain ⟨a, b, rfl, h1, h2⟩ := ha.inv2; simp only [nrun] at h; exact n_max ho h1 h2 h
    all_goals
      (repeat' split at hc)
      all_goals (cases hc; try exact (nrun_bad rfl h).elim)

theorem nOk {k : NK} {xs : List Operand} {args : List AV} {v : AV} (hc : compOp P o.op = (.n k, xs)) (hr : HR P σ s w) (ha : VRs σ args (xs.map ρ)) (h : nrun s.h k args = some v) : Yl P σ w o ρ v := by
  generalize hop : o.op = op at hc
  unfold compOp at hc
  split at hc
  case h_1 x => cases hc; obtain ⟨a, rfl, h1⟩ := ha.inv1; exact n_mv (Or.inl hop) h1 h
  case h_2 x => cases hc; obtain ⟨a, rfl, h1⟩ := ha.inv1; exact n_mv (Or.inr hop) h1 h
  case h_3 c x y => cases hc; obtain ⟨a, b, d, rfl, h1, h2, h3⟩ := ha.inv3; exact n_pick hop h1 h2 h3 h
  case h_4 t => split at hc <;> cases hc; exact (nrun_bad rfl h).elim
  case h_5 t x => cases hc
  case h_6 t parts =>
    split at hc
    · rename_i z fs hz hu
      split at hc
      · rename_i ps hp; cases hc; exact n_build_s hop hz hu hp ha h
      · cases hc; exact (nrun_bad rfl h).elim
    · rename_i z m e hz hu
      split at hc
      · rename_i n hn; cases hc; exact n_build_a hop hz hu hn ha h
      · cases hc; exact (nrun_bad rfl h).elim
    · cases hc; exact (nrun_bad rfl h).elim
  case h_10 t x =>
    split at hc
    · rename_i hag
      split at hc
      · rename_i n hn; cases hc; obtain ⟨a, rfl, h1⟩ := ha.inv1; exact n_ldn hop hag hn hr h1 h
      · cases hc; exact (nrun_bad rfl h).elim
    · rename_i hag
      split at hc
      · rename_i hu; cases hc; obtain ⟨a, rfl, h1⟩ := ha.inv1; exact n_ld1 hop (by simpa using hag) hu hr h1 h
      · cases hc; exact (nrun_bad rfl h).elim
  case h_12 x => cases hc; obtain ⟨a, rfl, h1⟩ := ha.inv1; exact n_nil hop h1 h
  case h_13 op t x y yt => exact nOk_bin hop hc hr ha h
  case h_14 u t x =>
    split at hc <;> cases hc
    · obtain ⟨a, rfl, h1⟩ := ha.inv1; exact n_not hop h1 h
    · obtain ⟨a, rfl, h1⟩ := ha.inv1; exact n_neg hop h1 h
    · exact (nrun_bad rfl h).elim
  case h_15 t d x =>
    split at hc
    · rename_i ht hd; cases hc; obtain ⟨a, rfl, h1⟩ := ha.inv1; exact n_cv hop ht hd h1 h
    · rename_i ht hd; cases hc; obtain ⟨a, rfl, h1⟩ := ha.inv1; exact n_cvss hop ht hd h1 h
    · rename_i e ht hd
      split at hc
      · rename_i he; cases hc; obtain ⟨a, rfl, h1⟩ := ha.inv1; exact n_b2s hop ht he hd hr h1 h
      · cases hc; exact (nrun_bad rfl h).elim
    all_goals
      (repeat' split at hc)
      all_goals (cases hc; try exact (nrun_bad rfl h).elim)
  case h_16 t x =>
    split at hc
    · cases hc; exact (nrun_bad rfl h).elim
    · rename_i d hn hd; cases hc; obtain ⟨a, rfl, h1⟩ := ha.inv1; exact n_mkI hop hd (fun m e => hn m e) h1 h
    · cases hc; exact (nrun_bad rfl h).elim
  case h_17 fn first captured => cases hc; exact n_mkF hop ha h
  case h_20 t x lo hi mx => exact nOk_slice hop hc hr ha h
  case h_21 t x f =>
    split at hc
    · rename_i fs hu
      split at hc
      · rename_i fd hf
        split at hc
        · cases hc; exact (nrun_bad rfl h).elim
        · rename_i hz
          obtain ⟨n, hn, hn0⟩ := getD_ne hz
          cases hc; obtain ⟨a, rfl, h1⟩ := ha.inv1; exact n_fa hop hu hf hn hn0 h1 h
      · cases hc; exact (nrun_bad rfl h).elim
    · cases hc; exact (nrun_bad rfl h).elim
  case h_22 t x f =>
    split at hc
    · rename_i fs hu
      split at hc
      · rename_i fd hf
        split at hc
        · rename_i n hn
          split at hc
          · rename_i hag; cases hc; obtain ⟨a, rfl, h1⟩ := ha.inv1; exact n_fldn hop hu hf hag hn h1 h
          · rename_i hag
            split at hc
            · rename_i hs; cases hc; obtain ⟨a, rfl, h1⟩ := ha.inv1; exact n_fld1 hop hu hf (by simpa using hag) hs h1 h
            · cases hc; exact (nrun_bad rfl h).elim
        · cases hc; exact (nrun_bad rfl h).elim
      · cases hc; exact (nrun_bad rfl h).elim
    · cases hc; exact (nrun_bad rfl h).elim
  case h_23 t x i =>
    split at hc
    · rename_i n e hu
      split at hc
      · rename_i z hz; cases hc; obtain ⟨a, b, rfl, h1, h2⟩ := ha.inv2; exact n_ixA hop hu hz h1 h2 h
      · cases hc; exact (nrun_bad rfl h).elim
    · rename_i e hu
      split at hc
      · rename_i z hz; cases hc; obtain ⟨a, b, rfl, h1, h2⟩ := ha.inv2; exact n_ixL hop hu hz h1 h2 h
      · cases hc; exact (nrun_bad rfl h).elim
    · cases hc; exact (nrun_bad rfl h).elim
  case h_24 t x i =>
    split at hc
    · rename_i n e hu
      split at hc
      · rename_i hh; cases hc; obtain ⟨a, b, rfl, h1, h2⟩ := ha.inv2; exact n_ixV1 hop hu hh.1 hh.2.1 hh.2.2 h1 h2 h
      · split at hc
        · rename_i hag
          split at hc
          · rename_i z hz; cases hc; obtain ⟨a, b, rfl, h1, h2⟩ := ha.inv2; exact n_ixVn hop hu hz hag h1 h2 h
          · cases hc; exact (nrun_bad rfl h).elim
        · cases hc; exact (nrun_bad rfl h).elim
    · rename_i hu; cases hc; obtain ⟨a, b, rfl, h1, h2⟩ := ha.inv2; exact n_ixS hop hu h1 h2 h
    · cases hc; exact (nrun_bad rfl h).elim
  case h_25 t x i ok =>
    split at hc
    · rename_i k' e hu
      split at hc
      · rename_i kk z hk hz; cases hc; obtain ⟨a, b, rfl, h1, h2⟩ := ha.inv2; exact n_look hop hu hk hz hr h1 h2 h
      · cases hc; exact (nrun_bad rfl h).elim
    · cases hc; exact (nrun_bad rfl h).elim
  case h_28 x => cases hc; obtain ⟨a, rfl, h1⟩ := ha.inv1; exact n_entry hop hr h1 h
  case h_29 x xt a =>
    split at hc
    · cases hc; exact (nrun_bad rfl h).elim
    · rename_i d hn hd; cases hc; obtain ⟨a, rfl, h1⟩ := ha.inv1; exact n_tAss hop hd (fun m e => hn m e) h1 h
    · cases hc; exact (nrun_bad rfl h).elim
  case h_30 x i => cases hc; obtain ⟨a, rfl, h1⟩ := ha.inv1; exact n_extr hop h1 h
  case h_31 c => exact nOk_call hop hc hr ha h
  all_goals
    (repeat' split at hc)
    all_goals (cases hc; try exact (nrun_bad rfl h).elim)
end
end Go.Proofs.YtdpglpjahbiemaaGreatDoor.Ev
