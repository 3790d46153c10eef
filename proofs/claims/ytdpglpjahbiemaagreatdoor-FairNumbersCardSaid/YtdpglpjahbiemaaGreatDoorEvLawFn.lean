/- PROVED: the tied card of 'warrenlaw25.FairNumbers': whatever the start that meets the row, in whatever order the code is evaluated where Go leaves it open: the call returns true, and all that was there is as it was. Conditions: the row's own (two tables of unicode/utf8 lie as the program's text lays them; they are not read). -/
import Derived.Test.YtdpglpjahbiemaaGreatDoorTie
import Derived.Test.YtdpglpjahbiemaaGreatDoorCards
import Derived.Test.YtdpglpjahbiemaaGreatDoorEvTokFn
import Derived.Test.YtdpglpjahbiemaaGreatDoorEvEvFn
import Derived.Test.YtdpglpjahbiemaaGreatDoorEvFactsFn
import Derived.ProofKit
import Derived.OpenShut
import Derived.LaidMore
import Derived.Lay
import Derived.SevenTiedAt
import Derived.Stop.Joined
namespace Go.Proofs.YtdpglpjahbiemaaGreatDoor
open Go.ChangeShapes Go.WideShapes Go.ChangeAt Go.RowKit

theorem mixed : Tryz.prog.follows .mixedOrders = true := by kernel_rfl
theorem emptyHR (W : World) : Ev.HR Tryz.prog (fun _ => none) { h := .l, nx := .h } W :=
  ⟨fun _ _ => rfl, fun id o h => (by rw [Ev.T.get_l] at h; cases h), fun id id' o o' x x' h => (by rw [Ev.T.get_l] at h; cases h)⟩
theorem keptBut_of_stp {W W' : World} {σ' : Ev.Sg} {s' : Ev.St} (h : Ev.Stp Tryz.prog (fun _ => none) { h := .l, nx := .h } W σ' s' W') (may : MemPlace → Prop) : W.keptBut W' may := by
  refine ⟨h.upd.os, h.upd.output, fun i hi => ?_⟩
  have hs : W'.heap[i]? = W.heap[i]? := h.upd.old i hi (fun ⟨id, o, x, h1, _⟩ => by rw [Ev.T.get_l] at h1; cases h1)
  rw [hs]
  exact (World.keptBut_refl W may).2.2 i hi

theorem law (W : World) : Calls Tryz.prog 4 #[] W fun e W' => e = .returned (.bool true) ∧ ∀ may, W.keptBut W' may := by
  obtain ⟨r, hr, hv⟩ := Ev.Fn.yes_some Ev.Fn.answer
  have h := ((Ev.run_sound mixed Ev.Fn.tabOk Ev.Fn.extOk 100000 100000 (Nat.le_refl _)).fn hr Ev.VRs.nil (emptyHR W)).2
  have h' : Calls Tryz.prog 4 #[] W fun e W' => ∃ u, e = .returned u ∧ ∃ σ', Ev.VR σ' r.v u ∧ Ev.Stp Tryz.prog (fun _ => none) { h := .l, nx := .h } W σ' r.s W' := h
  refine h'.mono ?_
  rintro e W' ⟨u, rfl, σ', h1, h2⟩
  rw [hv] at h1
  simp only [Ev.VR] at h1
  subst h1
  exact ⟨rfl, keptBut_of_stp h2⟩

set_option maxRecDepth 100000 in
theorem lifted (os : Os) (started : os.Started) (H : Type) (enc : TypeId × Value → H) :
    ReturnsInHanded {} Tryz.checked os 4 .any (fun w args => (Rows.fairNumbersSpec.pre enc Tryz.prog Tryz.f4 Rows.fairNumbersRow.domain false w args ∧ laidMetH Tryz.prog Rows.fairNumbersRow.laid w) ∧ sizedMet enc Tryz.prog Tryz.f4 (OpenSpec.ofChange Rows.fairNumbersSpec) false w args)
      (Rows.fairNumbersSpec.post enc Tryz.prog Tryz.f4 false true false false) := by
  refine returnsInHanded_of_change_and (C := Tryz.checked) (X := fun w _ => laidMetH Tryz.prog Rows.fairNumbersRow.laid w) (fun _ _ _ hh h => h.of_heap hh) FactsFn.own started (by kernel_rfl) Tryz.func4
    (ChangeSpec.witness_shaped (enc := enc) (C := Tryz.checked) (os := os) (X := fun w _ => laidMetH Tryz.prog Rows.fairNumbersRow.laid w) false (World.laidAll Tryz.prog os Rows.fairNumbersRow.laid) #[] 8 (World.laidAll_os _ _ _)
      (World.shaped_of_ZipB (by kernel_rfl) (by kernel_rfl)) (by kernel_rfl) (by kernel_rfl) (by kernel_rfl)
      (by rw [MakeChecks.laidMetH_plain _ _ _ (by kernel_rfl)]; exact laidMet_laidAll _ (by kernel_rfl) (by kernel_rfl))) ?_
  intro W base args ds gs before hval0 hW _ _ _ _
  have hW' := hW
  obtain ⟨p, q, hA0, hV, rfl, _, _⟩ := hW
  have hA : DataW.TrodAll enc Tryz.prog W 0 (fun _ => true) true Tryz.f4.params.toList args.toList ds p := hA0
  rw [Tryz.params4] at hA
  obtain ⟨rfl, rfl, rfl⟩ := trodAll_none hA
  obtain ⟨rfl, rfl⟩ := trodVars_none hV
  refine (law W).mono fun e W' ⟨he, hk⟩ => ?_
  subst he
  exact ⟨_, rfl, _, _, _, [], [], [], hW', trodAll_mk1 (shut_bool Tryz.underlying4 true), trodAll_mk0, rfl, hk _, fun h => by cases h⟩

theorem fairNumbers_holds : Rows.FairNumbersSaid :=
  OpenClaim.holds_of_wide 4 Tryz.f4 rfl rfl rfl rfl rfl rfl rfl ⟨rfl, rfl, rfl, rfl, rfl⟩ rfl rfl rfl rfl rfl FactsFn.byName Tryz.func4 FactsFn.joined
    FactsFn.instance_ FactsFn.wrapper_
    (fun os started H enc _ => lifted os started H enc)
theorem fairNumbers_card : Rows.FairNumbersCardSaid :=
  Claim7.holds_tied_plain_at .later [] [.data, .pinned] true (true, "1dedab6c43c0a3281aa66487ab49ebd19209f5d19807971138c7ff164ea28a05") true fairNumbers_holds (fun _ h => by cases h) (by kernel_rfl) (fun _ h => by cases h) fairNumbers_row_tie rfl ⟨rfl, rfl⟩ (by kernel_rfl) rfl
    (fun f fn hf hfn => by
      obtain rfl : f = 4 := Option.some.inj (FactsFn.byName.symm.trans hf) |>.symm
      obtain rfl : fn = Tryz.f4 := (Option.some.inj (Tryz.func4.symm.trans hfn)).symm
      exact ⟨by kernel_rfl, fun j t ht => by
        rw [Tryz.params4] at ht
        simp at ht⟩)
    (by kernel_rfl)
#print axioms fairNumbers_card
end Go.Proofs.YtdpglpjahbiemaaGreatDoor
