/- Every operation that turns something, but calls, does what the evaluator says. No program. -/
import Derived.Test.YtdpglpjahbiemaaGreatDoorEvX4
namespace Go.Proofs.YtdpglpjahbiemaaGreatDoor.Ev
open Go

section
variable {P : Program} {σ : Sg} {s : St} {w w' : World} {o : Oper} {ρ : Operand → Value}

theorem xOk_call {c : Call} (ho : o.op = .call c) {k : XK} {xs : List Operand} {args : List AV} {v : AV} {s' : St} (hc : compCall P c = (.x k, xs)) (hk : k ≠ .call) (hr : HR P σ s w) (ha : VRs σ args (xs.map ρ)) (h : xrun k args s = some (v, s')) : Did P σ s w o ρ v s' := by
  obtain ⟨callee, cargs, ts⟩ := c
  unfold compCall at hc
  simp only at hc
  split at hc
  · cases hc; exact absurd rfl hk
  · cases hc
  · rename_i b
    split at hc
    case h_8 x y e e1 e2 =>
      have := argsOf e1; subst this
      obtain ⟨t, h0, hu⟩ := bindU e2
      split at hc
      · cases hc
      · rename_i d hd hbind
        split at hc
        · rename_i n z i hn hz hi
          cases hc
          obtain ⟨tx, htx1, htx2⟩ : ∃ tx, ts[1]? = some tx ∧ P.underlying tx = some d := by
            cases ht : ts[1]? with
            | none => rw [ht] at hbind; cases hbind
            | some t => rw [ht] at hbind; exact ⟨t, rfl, hbind⟩
          obtain ⟨a, b, rfl, h1, h2⟩ := ha.inv2
          exact x_append ho h0 hu htx1 htx2 (fun k e => hd k e) hn hi hz hr h1 h2 h
        · cases hc
      · cases hc
    case h_9 x y e e1 e2 =>
      have := argsOf e1; subst this
      obtain ⟨t, h0, hu⟩ := bindU e2
      split at hc
      · rename_i n hn
        cases hc
        obtain ⟨a, b, rfl, h1, h2⟩ := ha.inv2
        exact x_copy ho h0 hu hn hr h1 h2 h
      · cases hc
    case h_10 x y k' e' e1 e2 =>
      have := argsOf e1; subst this
      obtain ⟨t, h0, hu⟩ := bindU e2
      split at hc
      · rename_i kk hkk
        cases hc
        obtain ⟨a, b, rfl, h1, h2⟩ := ha.inv2
        exact x_del ho h0 hu hkk hr h1 h2 h
      · cases hc
    case h_11 x e e1 e2 =>
      have := argsOf e1; subst this
      obtain ⟨t, h0, hu⟩ := bindU e2
      split at hc
      · rename_i n z hn hz
        cases hc
        obtain ⟨a, rfl, h1⟩ := ha.inv1
        exact x_clear ho h0 hu hz hr h1 h
      · cases hc
    all_goals cases hc

theorem xOk {k : XK} {xs : List Operand} {args : List AV} {v : AV} {s' : St} (hc : compOp P o.op = (.x k, xs)) (hk : k ≠ .call) (hr : HR P σ s w) (ha : VRs σ args (xs.map ρ)) (h : xrun k args s = some (v, s')) : Did P σ s w o ρ v s' := by
  generalize hop : o.op = op at hc
  unfold compOp at hc
  split at hc
  case h_8 t m k v' =>
    split at hc
    · rename_i k' e hu
      split at hc
      · rename_i kk hkk
        cases hc
        obtain ⟨a, b, c, rfl, h1, h2, h3⟩ := ha.inv3
        exact x_mapUp (Or.inr hop) hu hkk hr h1 h2 h3 h
      · cases hc
    · cases hc
  case h_9 t m k v' =>
    split at hc
    · rename_i k' e hu
      split at hc
      · rename_i kk hkk
        cases hc
        obtain ⟨a, b, c, rfl, h1, h2, h3⟩ := ha.inv3
        exact x_mapUp (Or.inl hop) hu hkk hr h1 h2 h3 h
      · cases hc
    · cases hc
  case h_11 t a v' =>
    split at hc
    · rename_i n hn
      cases hc
      obtain ⟨a, b, rfl, h1, h2⟩ := ha.inv2
      exact x_st hop hn hr h1 h2 h
    · cases hc
  case h_13 =>
    unfold compBin at hc
    (repeat' split at hc) <;> cases hc
  case h_15 t d x =>
    split at hc <;> (try cases hc)
    · split at hc <;> cases hc
    · split at hc <;> cases hc
    · rename_i e ht hd
      split at hc
      · rename_i he
        split at hc
        · rename_i heq
          subst heq
          cases hc
          obtain ⟨a, rfl, h1⟩ := ha.inv1
          exact x_same hop hd he hr h1 h
        · cases hc
      · cases hc
  case h_20 =>
    unfold compSlice at hc
    simp only at hc
    (repeat' split at hc) <;> cases hc
  case h_27 it s =>
    split at hc
    · cases hc
    · rename_i hs
      cases hc
      obtain ⟨a, rfl, h1⟩ := ha.inv1
      have hs : s = false := by cases s <;> simp_all
      subst hs
      exact x_nextM hop hr h1 h
  case h_31 c => exact xOk_call hop hc hk hr ha h
  all_goals
    (repeat' split at hc)
    all_goals (cases hc; done)
end
end Go.Proofs.YtdpglpjahbiemaaGreatDoor.Ev
