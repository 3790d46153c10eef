/- Operations that turn something: delete, append, copy, clear, the next of a map. No program. -/
import Derived.Test.YtdpglpjahbiemaaGreatDoorEvX
namespace Go.Proofs.YtdpglpjahbiemaaGreatDoor.Ev
open Go

section
variable {P : Program} {σ : Sg} {s : St} {w w' : World} {o : Oper} {ρ : Operand → Value}

theorem run_builtinX {b : Builtin} {args : Array Operand} {ts : Array TypeId} (ho : o.op = .call { callee := .builtin b, args := args, argTypes := ts }) {n : Next} {w' : World}
    (h : (builtin b ts o.type (args.map fun | .const _ => true | _ => false) (args.map ρ)).run P w = .ok n w') : (execOp ρ o).run P w = .ok n w' := by
  simp [execOp, ho, resolve, invoke]
  exact h
theorem x_del {t k e : TypeId} {x y : Operand} {kk : Nat} {ts : Array TypeId} (ho : o.op = .call { callee := .builtin .delete, args := #[x, y], argTypes := ts }) (h0 : ts[0]? = some t) (ht : P.underlying t = some (.map k e)) (hk : kindT P k = some kk) (hr : HR P σ s w) {a b v : AV} {s' : St}
    (ha : VR σ a (ρ x)) (hb : VR σ b (ρ y)) (h : xrun (.del kk) [a, b] s = some (v, s')) : Did P σ s w o ρ v s' := by
  obtain ⟨d, hu, hd⟩ := kindT_some hk
  cases a <;> simp only [xrun, reduceCtorEq] at h
  · rename_i id
    split at h
    · rename_i es clock hm
      obtain ⟨bk, n, en, h1, h2, h3⟩ := hr.lmap hm
      simp only [VR] at ha
      obtain ⟨bk', n', e1, ha⟩ := ha
      rw [h1] at e1; cases e1
      have hg := getObj_run (P := P) h2 (by simp)
      have hck := run_checkKey (w := w) hu hd 9999 en.isEmpty (ρ y)
      split at h
      · rename_i hkey
        split at h
        · rename_i j r hfk
          have := findNow_of hd hkey hb h3 hfk
          simp only at this
          obtain ⟨u, m, me, f1, f2, _, f4, f5, f6, f7, f8⟩ := this
          have hf := run_findKey (P := P) (w := w) hu f1
          simp only [entK_eq, setO, T.setK_eq, Option.some.injEq, Prod.mk.injEq] at h
          obtain ⟨rfl, rfl⟩ := h
          refine ⟨undef, .value undef, _, σ, run_builtinX ho ?_, Or.inl rfl, VR_undef, stp_set hr (lmap_get hm) h1 (turn_obj (ob' := .map (en.eraseIdxIfInBounds j) clock) h2) ⟨rfl, _, rfl, ?_⟩⟩
          · simp [builtin, Builtin.delete_, h0, ha, run_underlying ht, hg, hck, hf, run_setObj h2 (by simp), undef]
          · rw [Array.toList_eraseIdxIfInBounds]; exact ERs_del h3
        · rename_i hfk
          have := findNow_of hd hkey hb h3 hfk
          simp only at this
          have hf := run_findKey (P := P) (w := w) hu this
          simp only [setO, T.setK_eq, Option.some.injEq, Prod.mk.injEq] at h
          obtain ⟨rfl, rfl⟩ := h
          refine ⟨undef, .value undef, _, σ, run_builtinX ho ?_, Or.inl rfl, VR_undef, stp_set hr (lmap_get hm) h1 (turn_obj (ob' := .map en clock) h2) ⟨rfl, _, rfl, h3⟩⟩
          simp [builtin, Builtin.delete_, h0, ha, run_underlying ht, hg, hck, hf, run_setObj h2 (by simp), undef]
        · cases h
      · cases h
    · cases h
  · split at h
    · simp only [VR] at ha
      simp only [Option.some.injEq, Prod.mk.injEq] at h
      obtain ⟨rfl, rfl⟩ := h
      have hck := run_checkKey (w := w) hu hd 9999 true (ρ y)
      refine ⟨undef, .value undef, w, σ, run_builtinX ho ?_, Or.inl rfl, VR_undef, Stp.refl hr⟩
      simp [builtin, Builtin.delete_, h0, ha, run_underlying ht, hck, undef]
    · cases h

/-! What is handed in, as cells. -/
theorem src_len {a : AV} {v : Value} {n : Nat} (ha : VR σ a v) (h : srcLen a = some n) : (Builtin.lenOf v).run P w = .ok n w := by
  unfold srcLen at h
  split at h <;> cases h <;> simp only [VR] at ha
  · subst ha; simp [Builtin.lenOf]
  · obtain ⟨_, _, rfl⟩ := ha; simp [Builtin.lenOf]
  · obtain ⟨_, _, _, _, _, rfl, _⟩ := ha; simp [Builtin.lenOf]
  · obtain ⟨rfl, _⟩ := ha; simp [Builtin.lenOf, mkBytes_size]
theorem byteCells_len (l : List Nat) : (byteCells l).length = l.length := by induction l with | nil => rfl | cons a l ih => simp [byteCells, ih]
theorem byteCells_VR {l : List Nat} (h : bytesOk l = true) : VRs σ (byteCells l) ((mkBytes l).data.map fun b => Value.int .u8 b.toNat).toList := by
  induction l with
  | nil => simpa [byteCells, mkBytes] using VRs.nil
  | cons a l ih =>
    obtain ⟨h1, h2⟩ := bytesOk_cons h
    have := ih h2
    simp only [byteCells, mkBytes, List.map_cons, Array.toList_map] at this ⊢
    refine VRs.cons ?_ this
    simp only [VR, UInt8.toNat_ofNat', Nat.mod_eq_of_lt h1]; rfl
theorem src_cells (hr : HR P σ s w) {a : AV} {v : Value} {size n : Nat} {new : List AV} (ha : VR σ a v) (h : srcCells s.h size n a = some new) (hs0 : size ≠ 0) :
    ∃ vs : List Value, (∀ W : World, W.heap = w.heap → (Builtin.firstCells size n v).run P W = .ok vs.toArray W) ∧ VRs σ new vs := by
  unfold srcCells at h
  split at h
  · split at h
    · cases h; simp only [VR] at ha; subst ha; exact ⟨[], fun W _ => by simp [Builtin.firstCells], VRs.nil⟩
    · cases h
  · split at h
    · rename_i hn
      have hn := Nat.eq_of_beq_eq_true hn
      cases h; simp only [VR] at ha; obtain ⟨_, _, rfl⟩ := ha; subst hn
      exact ⟨[], fun W _ => by simp [Builtin.firstCells, loadCells, loadCellsFrom], VRs.nil⟩
    · cases h
  · rename_i id off _ _ sz _
    split at h
    · rename_i hsz
      have hsz := Nat.eq_of_beq_eq_true hsz
      subst hsz
      split at h
      · rename_i c hc
        obtain ⟨b, sh, m, cs, t', fr, h1, h2, h3, h4, h5, h6⟩ := hr.lcells hc
        obtain ⟨vs, hv1, hv2, hv3⟩ := take_spec h6 h
        simp only [VR] at ha
        obtain ⟨b', sh', n', cc, e1, rfl, _⟩ := ha
        rw [h1] at e1; cases e1
        refine ⟨vs, fun W hW => ?_, hv3⟩
        have hload := run_loadCells (P := P) (w := W) (b := b) (o := sh + off) (vs := vs) (fun j u hu => by rw [cell_of (by rw [hW]; exact h2)]; exact hv2 j u hu)
        rw [hv1] at hload
        simp [Builtin.firstCells, hload]
      · cases h
    · cases h
  · rename_i x
    split at h
    · rename_i hc
      simp only [Bool.and_eq_true, Nat.beq_eq] at hc
      cases h
      simp only [VR] at ha
      obtain ⟨rfl, hok⟩ := ha
      have hok' : bytesOk (x.take n) = true := by have := bytesOk_sub hok 0 n; simpa using this
      refine ⟨_, fun W _ => ?_, byteCells_VR hok'⟩
      simp only [Builtin.firstCells, mkBytes_extract, List.drop_zero, Sem.run_pure, Array.toArray_toList]
    · cases h
  · cases h
theorem growBy_le (newLen : Nat) : ∀ (r c : Nat), Builtin.growBy newLen r c ≤ max c (newLen + (newLen + 768) / 4)
  | 0, c => by simp only [Builtin.growBy]; omega
  | r + 1, c => by
    simp only [Builtin.growBy]
    split
    · omega
    · have := growBy_le newLen r (c + (c + 768) / 4)
      omega
theorem nextcap_le {need cap : Nat} (h : cap < need) : Builtin.nextslicecap need cap ≤ 2 * need + 1000 := by
  unfold Builtin.nextslicecap
  split
  · omega
  · split
    · omega
    · have := growBy_le need 4 cap
      omega

theorem stp_kill (hr : HR P σ s w) (id : Pos) : Stp P σ s w σ { s with h := T.set id none s.h } w := by
  have hsub : ∀ {q : Pos} {q1 : AO}, T.get q (T.set id none s.h) = some q1 → T.get q s.h = some q1 := by
    intro q q1 hq; rw [T.get_set] at hq; split at hq
    · cases hq
    · exact hq
  refine ⟨fun _ _ => rfl, Nat.le_refl _, ⟨hr.dom, fun q q1 hq => hr.obj q q1 (hsub hq), fun p q p1 q1 x x' hp hq => hr.inj p q p1 q1 x x' (hsub hp) (hsub hq)⟩, ⟨rfl, rfl, rfl, Nat.le_refl _, fun _ _ _ => rfl, ?_⟩⟩
  rintro b ⟨q, q1, x, hq, kq, rfl⟩
  exact Or.inl ⟨q, q1, x, hsub hq, kq, rfl⟩
/-- A new name takes over the block of one that is gone. -/
theorem stp_adopt (hr : HR P σ s w) {id : Pos} {o0 o1 : AO} {b sh0 n0 sh1 n1 : Nat} {ob : Obj} (h0 : T.get id s.h = some o0) (hs : σ id = some (b, sh0, n0)) (ht : Turned w w' b ob) (ho : OR P σ o1 sh1 n1 ob) :
    Stp P σ s w (σ.put s.nx (b, sh1, n1)) { h := T.set s.nx (some o1) (T.set id none s.h), nx := s.nx.succ } w' := by
  have hext := Sg.put_ext hr (b, sh1, n1)
  have hold : ∀ {q : Pos} {q1 : AO}, q ≠ s.nx → T.get q (T.set s.nx (some o1) (T.set id none s.h)) = some q1 → T.get q s.h = some q1 ∧ q ≠ id := by
    intro q q1 hne hq
    rw [T.get_set, if_neg (fun e => hne e.symm), T.get_set] at hq
    split at hq
    · cases hq
    · rename_i e; exact ⟨hq, fun e' => e e'.symm⟩
  have hnb : ∀ {q : Pos} {q1 : AO} {x : Nat × Nat × Nat}, T.get q s.h = some q1 → q ≠ id → σ q = some x → x.1 ≠ b := fun hq hne hx e => hne (hr.inj _ _ _ _ _ _ hq h0 hx hs e)
  refine ⟨fun q hq => Sg.put_other _ _ (ne_nx hq), by simp only [Pos.toNat_succ]; omega, ⟨?_, ?_, ?_⟩, ⟨ht.os, ht.tape, ht.output, Nat.le_of_eq ht.size.symm, ?_, ?_⟩⟩
  · intro q hq
    simp only [Pos.toNat_succ] at hq
    rw [Sg.put_other _ _ (fun e => by subst e; omega)]
    exact hr.dom q (by omega)
  · intro q q1 hq
    by_cases e : q = s.nx
    · subst e; rw [T.get_set, if_pos rfl] at hq; cases hq
      exact ⟨_, _, _, ob, Sg.put_same _ _ _, ht.new, ho.ext hext⟩
    · obtain ⟨hq', hne⟩ := hold e hq
      obtain ⟨b', sh', n', ob', k1, k2, k3⟩ := hr.obj q q1 hq'
      exact ⟨b', sh', n', ob', hext _ _ k1, (ht.old _ (hnb hq' hne k1)).trans k2, k3.ext hext⟩
  · intro p q p1 q1 x x' hp hq kp kq e
    by_cases e1 : p = s.nx
    · by_cases e2 : q = s.nx
      · rw [e1, e2]
      · exfalso
        subst e1
        rw [Sg.put_same] at kp; cases kp
        obtain ⟨hq', hne⟩ := hold e2 hq
        rw [Sg.put_other _ _ e2] at kq
        exact hnb hq' hne kq e.symm
    · by_cases e2 : q = s.nx
      · exfalso
        subst e2
        rw [Sg.put_same] at kq; cases kq
        obtain ⟨hp', hne⟩ := hold e1 hp
        rw [Sg.put_other _ _ e1] at kp
        exact hnb hp' hne kp e
      · obtain ⟨hp', _⟩ := hold e1 hp
        obtain ⟨hq', _⟩ := hold e2 hq
        rw [Sg.put_other _ _ e1] at kp
        rw [Sg.put_other _ _ e2] at kq
        exact hr.inj p q _ _ _ _ hp' hq' kp kq e
  · intro c hc hl
    exact ht.old c (fun e => hl (by subst e; exact ⟨id, o0, _, h0, hs, rfl⟩))
  · rintro c ⟨q, q1, x, hq, kq, rfl⟩
    left
    by_cases e : q = s.nx
    · subst e; rw [Sg.put_same] at kq; cases kq; exact ⟨id, o0, _, h0, hs, rfl⟩
    · obtain ⟨hq', _⟩ := hold e hq
      rw [Sg.put_other _ _ e] at kq
      exact ⟨q, q1, x, hq', kq, rfl⟩
theorem Stp.drew {σ' : Sg} {s' : St} {w2 : World} (h : Stp P σ s w σ' s' w') (e1 : w2.heap = w'.heap) (e2 : w2.os = w'.os) (e3 : w2.tape = w'.tape) (e4 : w2.output = w'.output) : Stp P σ s w σ' s' w2 :=
  ⟨h.agree, h.le, ⟨h.hr.dom, fun id o e => by rw [e1]; exact h.hr.obj id o e, h.hr.inj⟩, ⟨e2.trans h.upd.os, e3.trans h.upd.tape, e4.trans h.upd.output, by rw [e1]; exact h.upd.size, fun b hb hF => by rw [e1]; exact h.upd.old b hb hF, h.upd.own⟩⟩
end
end Go.Proofs.YtdpglpjahbiemaaGreatDoor.Ev
