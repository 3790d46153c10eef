/- Functions without a body. No program. -/
import Derived.Test.YtdpglpjahbiemaaGreatDoorEvC3
import Derived.Laws.Externs
import Derived.Lib.Bytealg
namespace Go.Proofs.YtdpglpjahbiemaaGreatDoor.Ev
open Go

/-- Of all that a tree holds. -/
def T.all {α : Type} (Q : Pos → α → Prop) : T α → (Pos → Pos) → Prop
  | .l, _ => True
  | .n v a b, g => (match v with | some k => Q (g .h) k | none => True) ∧ T.all Q a (fun p => g (.o p)) ∧ T.all Q b (fun p => g (.i p))
theorem T.all_get {α : Type} {Q : Pos → α → Prop} : ∀ {t : T α} {g : Pos → Pos}, T.all Q t g → ∀ p k, T.get p t = some k → Q (g p) k
  | .l, g, _, p, k, h => by rw [T.get_l] at h; cases h
  | .n v a b, g, ⟨h1, h2, h3⟩, p, k, h => by
    cases p with
    | h => simp only [T.get] at h; subst h; exact h1
    | o p => exact T.all_get (g := fun p => g (.o p)) h2 p k h
    | i p => exact T.all_get (g := fun p => g (.i p)) h3 p k h

section
variable {P : Program} {σ : Sg} {s s' : St} {w : World}

theorem idx_neg (l : List UInt8) (c : UInt8) : Lib.indexByte l c = -1 ∨ 0 ≤ Lib.indexByte l c := by
  have := Lib.indexByte_ge l c; omega
theorem idx_spec (c : Nat) (hc : c < 256) : ∀ (x : List Nat) (n : Nat), (bytesOk x = true) → extRun.idx c x n = if Lib.indexByte (x.map UInt8.ofNat) (UInt8.ofNat c) = -1 then -1 else Lib.indexByte (x.map UInt8.ofNat) (UInt8.ofNat c) + n
  | [], n, _ => by simp [extRun.idx, Lib.indexByte]
  | b :: x, n, h => by
    simp only [bytesOk, List.all_cons, Bool.and_eq_true] at h
    have hb : b < 256 := by simpa [Nat.blt_eq] using h.1
    have ih := idx_spec c hc x (n + 1) h.2
    have hne : (UInt8.ofNat b == UInt8.ofNat c) = Nat.beq b c := by
      rw [Bool.eq_iff_iff]
      simp only [beq_iff_eq, Nat.beq_eq]
      constructor
      · intro e
        have := congrArg UInt8.toNat e
        simp only [UInt8.toNat_ofNat'] at this
        omega
      · intro e; rw [e]
    simp only [extRun.idx, List.map_cons, Lib.indexByte, hne]
    cases Nat.beq b c with
    | true => simp
    | false =>
      simp only [Bool.false_eq_true, if_false, ih]
      rcases idx_neg (x.map UInt8.ofNat) (UInt8.ofNat c) with h1 | h1
      · simp [h1]
      · have h2 : Lib.indexByte (x.map UInt8.ofNat) (UInt8.ofNat c) ≠ -1 := by omega
        have h3 : (Lib.indexByte (x.map UInt8.ofNat) (UInt8.ofNat c) == -1) = false := by simpa using h2
        have h4 : Lib.indexByte (x.map UInt8.ofNat) (UInt8.ofNat c) + 1 ≠ -1 := by omega
        simp only [h3, h2, h4, if_false, Bool.false_eq_true]
        omega

theorem ext_indexByte {f : FuncId} {fn : Func} (hf : P.funcs[f]? = some fn) (h1 : (fn.name == "runtime.NumGoroutine") = false) (h2 : fn.body.isNone = true) (h3 : Extern.findNext fn = none) (h4 : Extern.find fn = some Extern.BytealgIndexByte.indexByte) {args : List AV} {v : AV} (h : extRun .indexByte args s = some (v, s')) {vs : List Value} (hv : VRs σ args vs) (hr : HR P σ s w) :
    CallS P (callFunc f vs.toArray) w (fun u w' => ∃ σ', VR σ' v u ∧ Stp P σ s w σ' s' w') := by
  unfold extRun at h
  split at h
  · rename_i x c _
    split at h
    · rename_i hc
      simp only [Option.some.injEq, Prod.mk.injEq] at h
      obtain ⟨rfl, rfl⟩ := h
      obtain ⟨a, b, rfl, ha, hb⟩ := hv.two
      simp only [VR] at ha hb
      obtain ⟨rfl, hok⟩ := ha
      subst hb
      refine Or.inl ⟨.int .i64 (Lib.indexByte (mkBytes x).data.toList (Int.ofNat c).toNat.toUInt8), w, ?_, σ, ?_, Stp.refl hr⟩
      · rw [run_callFunc_extern hf h1 h2 h3 h4]
        show ((Extern.BytealgIndexByte.indexByte #[.string (mkBytes x), .int .u8 (Int.ofNat c)]).run P w).andThen _ = _
        rw [Lib.run_indexByteString]
        rfl
      · rw [Nat.blt_eq] at hc
        simp only [VR]
        rw [idx_spec _ hc _ _ hok]
        have e1 : (mkBytes x).data.toList = x.map UInt8.ofNat := by simp [mkBytes]
        rw [e1]
        have e2 : (Int.ofNat c).toNat.toUInt8 = UInt8.ofNat c := rfl
        rw [e2]
        split
        · rename_i h; rw [h]
        · simp
    · cases h
  · rename_i e; cases e
  · cases h

theorem run_mapsClone {r : Nat} {es : Array MapEntry} {clock : Nat} (t : TypeId) (hb : w.heap[r]? = some (.map es clock)) :
    (Extern.MapsClone.clone #[.iface t (.map (some r))]).run P w = .ok (.iface t (.map (some w.heap.size))) (w.alloc (.map es clock)) := by
  have hg : (getObj r).run P w = .ok (.map es clock) w := by simp [getObj, Sem.run, hb]
  have e : Extern.MapsClone.clone #[.iface t (.map (some r))] = (getObj r >>= fun o => match o with
      | .map entries clock => (newObj (.map entries clock) >>= fun n => pure (.iface t (.map (some n))))
      | _ => stuck "maps.clone: a map expected") := rfl
  rw [e]
  simp [hg, Result.andThen, go_sem]
theorem ext_mapsClone {f : FuncId} {fn : Func} (hf : P.funcs[f]? = some fn) (h1 : (fn.name == "runtime.NumGoroutine") = false) (h2 : fn.body.isNone = true) (h3 : Extern.findNext fn = none) (h4 : Extern.find fn = some Extern.MapsClone.clone) {args : List AV} {v : AV} (h : extRun .mapsClone args s = some (v, s')) {vs : List Value} (hv : VRs σ args vs) (hr : HR P σ s w) :
    CallS P (callFunc f vs.toArray) w (fun u w' => ∃ σ', VR σ' v u ∧ Stp P σ s w σ' s' w') := by
  unfold extRun at h
  split at h
  · rename_i e; cases e
  · rename_i t id _
    split at h
    · rename_i es clock hm
      rw [T.setK_eq] at h
      simp only [Option.some.injEq, Prod.mk.injEq] at h
      obtain ⟨rfl, rfl⟩ := h
      obtain ⟨a, rfl, ha⟩ := hv.one
      simp only [VR] at ha
      obtain ⟨u, rfl, b, n, hb, rfl⟩ := ha
      unfold lmap at hm
      split at hm
      · rename_i es' clock' hg
        simp only [Option.some.injEq, Prod.mk.injEq] at hm
        obtain ⟨rfl, rfl⟩ := hm
        obtain ⟨b', sh, n', ob, j1, j2, j3⟩ := hr.obj id _ hg
        rw [hb] at j1; cases j1
        obtain ⟨_, en, rfl, hen⟩ := j3
        have hst := stp_new (n := 0) hr (pushed_alloc (.map en clock')) (o1 := .map es' clock') ⟨rfl, en, rfl, hen⟩
        refine Or.inl ⟨.iface t (.map (some w.heap.size)), _, ?_, _, ?_, hst⟩
        · rw [run_callFunc_extern hf h1 h2 h3 h4]
          show ((Extern.MapsClone.clone #[.iface t (.map (some b))]).run P w).andThen _ = _
          rw [run_mapsClone t j2]
          rfl
        · simp only [VR]
          exact ⟨_, rfl, _, 0, Sg.put_same _ _ _, rfl⟩
      · cases hm
    · cases h
  · cases h
end
end Go.Proofs.YtdpglpjahbiemaaGreatDoor.Ev
