/- Vx: the machine's operations that look at no memory, against the world's. By this project. -/
import Derived.Test.YtaahfdjobpbpjaaGreatDoorVw
set_option linter.unusedVariables false
set_option linter.unusedSectionVars false
set_option linter.unusedSimpArgs false
namespace Go.Proofs.YtaahfdjobpbpjaaGreatDoor
open Go.RowKit Go.Extern.Stop

section
variable {P : Program} {C : Cx} (hC : COk P C) {E : Env} {fr : Tr V} {a : Act} (hF : FrR E fr a)
include hC
theorem tiV_ok {t : TypeId} {ti : TI} (h : tiV C t = some ti) : TIok P t ti := hC.T t ti h
theorem partV_ok {t : TypeId} {cs : List V} {o : Nat} {v : V} {l : List Value} (h : partV C t cs o = some v) (hl : renL E cs = some l) (h1 : l.all (·.oneCell') = true) :
    ∃ x, ren E v = some x ∧ ∀ w, (part t l.toArray o).run P w = .ok x w := by
  simp only [partV, Option.bind_eq_some_iff] at h
  obtain ⟨ti, ht, h⟩ := h
  have hT := tiV_ok hC ht
  cases hr : ti.d.row with
  | true =>
    rw [hr] at h
    simp only [Option.bind_eq_some_iff, Option.some.injEq] at h
    obtain ⟨m, hm, rfl⟩ := h
    obtain ⟨e1, e2, e3⟩ := cutL_some hm
    refine ⟨.agg ((l.drop o).take ti.size).toArray, ren_agg_mk (e1 ▸ renL_take _ (renL_drop _ hl)) (List.all_eq_true.2 fun x hx => List.all_eq_true.1 h1 x (List.mem_of_mem_drop (List.mem_of_mem_take hx))), fun w => ?_⟩
    have h2 := hT.agg w
    rw [hr] at h2
    simp [part, h2, hT.size w, ← List.drop_take]
  | false =>
    rw [hr] at h
    simp only [getL_eq] at h
    obtain ⟨x, h3, h4⟩ := renL_get hl h
    refine ⟨x, h4, fun w => ?_⟩
    have h2 := hT.agg w
    rw [hr] at h2
    simp [part, h2, h3]
omit hC in
theorem fill_step (vs C : List Value) (o : Nat) (h : o + vs.length ≤ C.length) : (vs.toArray.zipIdx.foldl (fun (cs : Array Value) (x : Value × Nat) => cs.setIfInBounds (o + x.2) x.1) C.toArray) = (C.take o ++ vs ++ C.drop (o + vs.length)).toArray := by
  have h1 := foldl_set vs o C h
  unfold overC at h1
  rw [← h1, ← Array.foldl_toList]
  simp only [Array.toList_zipIdx]
  have : vs.zipIdx o = (vs.zipIdx 0).map fun x => (x.1, o + x.2) := by
    rw [List.zipIdx_eq_map_add]
    first | done | simp [Nat.add_comm]
  rw [this, List.foldl_map]
include hF
omit hC in
theorem fillV_ok {place : Nat → Option (Nat × Nat)} : ∀ {parts : List (Nat × Operand)} {cs l : List V} {L : List Value}, fillV fr place cs parts = some l → renL E cs = some L → L.all (·.oneCell') = true →
    ∃ M, renL E l = some M ∧ M.all (·.oneCell') = true ∧ l.length = cs.length ∧ Instr.fill place L.toArray (parts.map fun x => (x.1, a.eval x.2)) = some M.toArray
  | [], cs, l, L, h, hL, h1 => by
    simp [fillV] at h
    subst h
    exact ⟨L, hL, h1, rfl, rfl⟩
  | (i, x) :: r, cs, l, L, h, hL, h1 => by
    simp only [fillV, Option.bind_eq_some_iff] at h
    obtain ⟨v, hv, vc, hc, p, hp, h⟩ := h
    split at h
    · rename_i hb
      simp only [Bool.and_eq_true, Nat.beq_eq, lenF_eq] at hb
      have hb2 := geL_iff.1 hb.2
      obtain ⟨m, g1, g2, g3⟩ := ren_cells (hF.ev hv) hc
      have hl := renL_len hL
      have hm := renL_len g1
      have hput := renL_putAt hL g1 (o := p.1) (by omega)
      have hlen := putAt_len (o := p.1) (cs := cs) (vs := vc) (by omega)
      obtain ⟨M, k1, k2, k3, k4⟩ := fillV_ok h hput (by
        rw [List.all_append, List.all_append, g2]
        simp only [Bool.and_true, Bool.and_eq_true]
        exact ⟨List.all_eq_true.2 fun x hx => List.all_eq_true.1 h1 x (List.mem_of_mem_take hx), List.all_eq_true.2 fun x hx => List.all_eq_true.1 h1 x (List.mem_of_mem_drop hx)⟩)
      refine ⟨M, k1, k2, by rw [k3, hlen], ?_⟩
      simp only [List.map_cons, Instr.fill, hp, g3, List.size_toArray]
      rw [if_neg (by simp; omega), fill_step _ _ _ (by omega)]
      exact k4
    · simp at h
include hC
theorem vbuild_ok {t : TypeId} {parts : List (Nat × Operand)} {v : V} (h : vbuild C fr t parts = some v) : ∃ x, ren E v = some x ∧ ∀ w, (Instr.build t (parts.map fun x => (x.1, a.eval x.2)).toArray).run P w = .ok x w := by
  simp only [vbuild, Option.bind_eq_some_iff] at h
  obtain ⟨ti, ht, z, hz, h⟩ := h
  have hT := tiV_ok hC ht
  split at h
  · rename_i fs cs hd
    simp only [Option.bind_eq_some_iff, Option.some.injEq] at h
    obtain ⟨ps, hps, l, hl, rfl⟩ := h
    obtain ⟨Fs, hu, hfs⟩ := hT.st hd
    obtain ⟨zv, _, hzr⟩ := hT.zero hz default
    obtain ⟨L, g1, g2, rfl⟩ := ren_agg (hzr E)
    obtain ⟨M, k1, k2, k3, k4⟩ := fillV_ok hF hl g1 g2
    refine ⟨.agg M.toArray, ren_agg_mk k1 k2, fun w => ?_⟩
    obtain ⟨zv', hz', hzr'⟩ := hT.zero hz w
    have : zv' = .agg L.toArray := by
      have e1 := hzr' E
      rw [hzr E] at e1
      exact (Option.some.inj e1).symm
    subst this
    have hm : ∀ (F : List Field) (ps : List (Nat × Nat)), mapO (fun f : Nat × TypeId => (tiV C f.2).bind fun fi => some (f.1, fi.size)) (F.map fun f => (f.offset, f.type)) = some ps → (F.mapM fun f => (sizeT P f.type).map fun s => (f.offset, s)) = some ps := by
      intro F
      induction F with
      | nil => intro ps h; simp [mapO_nil] at h; subst h; rfl
      | cons f r ih =>
        intro ps h
        rw [List.map_cons, mapO_cons] at h
        cases h1 : tiV C f.type with
        | none => rw [h1] at h; simp at h
        | some fi =>
          rw [h1] at h
          simp only [Option.bind_some] at h
          cases h2 : mapO (fun f : Nat × TypeId => (tiV C f.2).bind fun fi => some (f.1, fi.size)) (r.map fun f => (f.offset, f.type)) with
          | none => rw [h2] at h; simp at h
          | some qs =>
            rw [h2] at h
            simp at h
            subst h
            obtain ⟨i, i1, i2, _⟩ := (tiV_ok hC h1).info
            rw [List.mapM_cons, ih qs h2]
            simp [sizeT, i1, i2]
    have hrun := run_mapM_places (P := P) w Fs.toList ps (hm _ _ (hfs ▸ hps))
    have hrun' : (Fs.mapM fun f => (do pure (f.offset, ← sizeOf f.type) : Sem (Nat × Nat))).run P w = .ok ps.toArray w := by
      rw [Array.mapM_eq_mapM_toList]
      rw [← bind_pure_comp, Sem.run_bind, hrun]
      rfl
    simp only [Instr.build, Sem.run_bind, hz', Result.andThen_ok, run_underlying hu w, hrun', Value.cells]
    have e : (fun i : Nat => ps.toArray[i]?) = (fun i : Nat => getL ps i) := by funext i; rw [getL_eq]; simp
    rw [e, k4]
    rfl
  · rename_i n e cs hd
    simp only [Option.bind_eq_some_iff, Option.some.injEq] at h
    obtain ⟨ei, he, l, hl, rfl⟩ := h
    have hu := hT.arr hd
    obtain ⟨zv, _, hzr⟩ := hT.zero hz default
    obtain ⟨L, g1, g2, rfl⟩ := ren_agg (hzr E)
    obtain ⟨M, k1, k2, k3, k4⟩ := fillV_ok hF hl g1 g2
    refine ⟨.agg M.toArray, ren_agg_mk k1 k2, fun w => ?_⟩
    obtain ⟨zv', hz', hzr'⟩ := hT.zero hz w
    have : zv' = .agg L.toArray := by
      have e1 := hzr' E
      rw [hzr E] at e1
      exact (Option.some.inj e1).symm
    subst this
    simp only [Instr.build, Sem.run_bind, hz', Result.andThen_ok, run_underlying hu w, Value.cells, (tiV_ok hC he).size w, k4]
    rfl
  · simp at h
/-! ### One operation after another -/
theorem vpure_ok {o : Op} {v : V} (h : vpure C fr o = some v) (dst : Option Tmp) (ty : TypeId) (ps : String) (af : Array Edge) (gd : Option (Nat × Bool)) : ∃ x, ren E v = some x ∧ ∀ w, (execOp a.eval ⟨dst, o, ty, ps, af, gd⟩).run P w = .ok (.value x) w := by
  cases o with
  | move x => exact ⟨_, hF.ev h, fun w => rfl⟩
  | assign x => exact ⟨_, hF.ev h, fun w => rfl⟩
  | pick c x y =>
    simp only [vpure, pPick, pNil, pUn, pArr, pMkIf, pFa, pFld, pIa, pIx, pExt, pTa, Option.bind_eq_some_iff] at h
    obtain ⟨q, hq, h⟩ := h
    have h1 := hF.ev hq
    split at h
    · simp [ren] at h1
      exact ⟨_, hF.ev h, fun w => by simp only [execOp, ← h1]; rfl⟩
    · simp [ren] at h1
      exact ⟨_, hF.ev h, fun w => by simp only [execOp, ← h1]; rfl⟩
    · simp at h
  | build t parts =>
    obtain ⟨x, h1, h2⟩ := vbuild_ok hC hF h
    refine ⟨x, h1, fun w => ?_⟩
    have := h2 w
    have e : (parts.map fun (x : Nat × Operand) => (x.1, a.eval x.2)) = (parts.toList.map fun x => (x.1, a.eval x.2)).toArray := by
      apply Array.ext'; simp
    simp only [execOp, Sem.run_bind]
    rw [e, this]
    rfl
  | nilCheck x =>
    simp only [vpure, pPick, pNil, pUn, pArr, pMkIf, pFa, pFld, pIa, pIx, pExt, pTa, Option.bind_eq_some_iff] at h
    obtain ⟨q, hq, h⟩ := h
    have h1 := hF.ev hq
    split at h
    · rename_i y
      simp at h
      subst h
      simp only [ren, Option.map_eq_some_iff] at h1
      obtain ⟨e, h2, h3⟩ := h1
      exact ⟨_, by simp only [ren, h2, Option.map_some]; rfl, fun w => by simp only [execOp, ← h3]; rfl⟩
    · simp at h
      subst h
      have h2 := h1
      simp only [ren, Option.map_eq_some_iff] at h1
      obtain ⟨e, _, h3⟩ := h1
      exact ⟨_, h2, fun w => by simp only [execOp, ← h3]; rfl⟩
    · simp at h
      subst h
      have h2 := h1
      simp only [ren, Option.map_eq_some_iff, Option.bind_eq_some_iff] at h1
      obtain ⟨e, _, b, _, h3⟩ := h1
      exact ⟨_, h2, fun w => by simp only [execOp, ← h3]; rfl⟩
    · simp at h
  | unOp op t x =>
    simp only [vpure, pPick, pNil, pUn, pArr, pMkIf, pFa, pFld, pIa, pIx, pExt, pTa, Option.bind_eq_some_iff] at h
    obtain ⟨q, hq, h⟩ := h
    have h1 := hF.ev hq
    unfold vun at h
    split at h
    · rename_i k n
      simp only [Option.some.injEq] at h
      subst h
      simp only [ren, Option.some.injEq] at h1
      exact ⟨_, rfl, fun w => by simp only [execOp, ← h1]; rfl⟩
    · rename_i k n
      simp only [ren, Option.some.injEq] at h1
      simp only [vint, Option.some.injEq] at h
      subst h
      refine ⟨_, rfl, fun w => ?_⟩
      simp only [execOp, ← h1, Op.unary, Op.intBits]
      cases k.signed <;> rfl
    · simp only [Option.some.injEq] at h
      subst h
      simp only [ren, Option.some.injEq] at h1
      exact ⟨_, rfl, fun w => by simp only [execOp, ← h1]; rfl⟩
    · simp at h
  | sliceToArrayPointer t x =>
    simp only [vpure, pPick, pNil, pUn, pArr, pMkIf, pFa, pFld, pIa, pIx, pExt, pTa, Option.bind_eq_some_iff] at h
    obtain ⟨ti, ht, q, hq, h⟩ := h
    have h1 := hF.ev hq
    have hT := tiV_ok hC ht
    split at h
    · rename_i n e A len c op hd
      split at h
      · rename_i hb
        have hb := Nat.le_of_ble_eq_true hb
        simp at h
        subst h
        have hu := hT.arr hd
        cases A with
        | none =>
          simp [ren] at h1
          refine ⟨.pointer none, rfl, fun w => ?_⟩
          simp only [execOp, ← h1]
          simp [Instr.arrayAt, run_underlying hu w, show ¬ len < n by omega]
        | some A =>
          simp only [ren, Option.map_eq_some_iff] at h1
          obtain ⟨e, h2, h3⟩ := h1
          refine ⟨.pointer (some ⟨e.1, e.2.1 + A.2, none⟩), by simp [ren, h2], fun w => ?_⟩
          simp only [execOp, ← h3]
          simp [Instr.arrayAt, run_underlying hu w, show ¬ len < n by omega]
      · simp at h
    · simp at h
  | makeInterface t x =>
    simp only [vpure, pPick, pNil, pUn, pArr, pMkIf, pFa, pFld, pIa, pIx, pExt, pTa, Option.bind_eq_some_iff] at h
    obtain ⟨ti, ht, h⟩ := h
    have hT := tiV_ok hC ht
    obtain ⟨D, hu, hd, _⟩ := hT.run_und default
    split at h
    · simp at h
    · rename_i hne
      simp only [Option.bind_eq_some_iff, Option.some.injEq] at h
      obtain ⟨q, hq, rfl⟩ := h
      refine ⟨.iface t (a.eval x), by simp [ren, hF.ev hq], fun w => ?_⟩
      cases D <;> first | (exact absurd hd.symm (by simpa [tdOf] using hne)) | simp [execOp, Instr.makeInterface, run_underlying hu w]
  | makeFunc fn first cap =>
    cases fn <;> simp only [vpure, pMkFn] at h <;> try (simp at h; done)
    rename_i f
    simp only [Option.bind_eq_some_iff, Option.some.injEq] at h
    obtain ⟨p, hp, q, hq, rfl⟩ := h
    have h1 := hF.evs hp
    have h2 := hF.evs hq
    refine ⟨.func (.func f) (first.map a.eval) (cap.map a.eval), ?_, fun w => rfl⟩
    simp only [ren, h1, h2, Option.bind_some, Option.map_some]
    congr 2 <;> (apply Array.ext'; simp)
  | fieldAddr t x f =>
    simp only [vpure, pPick, pNil, pUn, pArr, pMkIf, pFa, pFld, pIa, pIx, pExt, pTa, Option.bind_eq_some_iff] at h
    obtain ⟨ti, ht, h⟩ := h
    have hT := tiV_ok hC ht
    split at h
    · rename_i fs hd
      simp only [Option.bind_eq_some_iff] at h
      obtain ⟨fo, hfo, fi, hfi, h⟩ := h
      split at h
      · simp at h
      · rename_i hz
        simp only [Option.bind_eq_some_iff, Option.some.injEq] at h
        obtain ⟨A, ⟨q, hq, hqa⟩, rfl⟩ := h
        have h1 := hF.ev hq
        obtain ⟨Fs, hu, hfs⟩ := hT.st hd
        have hfi' := tiV_ok hC hfi
        have hsz : fi.size ≠ 0 := fun e => by rw [e] at hz; simp at hz
        cases q <;> simp [ptrV] at hqa
        subst hqa
        simp only [ren, Option.map_eq_some_iff] at h1
        obtain ⟨e, h2, h3⟩ := h1
        rw [getL_eq, ← hfs, List.getElem?_map, Option.map_eq_some_iff] at hfo
        obtain ⟨F, hF1, rfl⟩ := hfo
        refine ⟨.pointer (some ⟨e.1, e.2.1 + (A.2 + F.offset), none⟩), by simp [ren, h2], fun w => ?_⟩
        have hF2 : Fs[f]? = some F := by simpa using hF1
        simp only [execOp, ← h3]
        simp [Instr.fieldAt, run_underlying hu w, hF2, Instr.sureAddr, fieldPlace, hfi'.size w, hsz, Addr.add_mid, Nat.add_assoc]
    · simp at h
  | field t x f =>
    simp only [vpure, pPick, pNil, pUn, pArr, pMkIf, pFa, pFld, pIa, pIx, pExt, pTa, Option.bind_eq_some_iff] at h
    obtain ⟨ti, ht, h⟩ := h
    have hT := tiV_ok hC ht
    split at h
    · rename_i fs hd
      simp only [Option.bind_eq_some_iff] at h
      obtain ⟨fo, hfo, q, hq, h⟩ := h
      have h1 := hF.ev hq
      split at h
      · obtain ⟨Fs, hu, hfs⟩ := hT.st hd
        obtain ⟨l, g1, g2, g3⟩ := ren_agg h1
        rw [getL_eq, ← hfs, List.getElem?_map, Option.map_eq_some_iff] at hfo
        obtain ⟨F, hF1, rfl⟩ := hfo
        have hF2 : Fs[f]? = some F := by simpa using hF1
        obtain ⟨X, k1, k2⟩ := partV_ok hC h g1 g2
        refine ⟨X, k1, fun w => ?_⟩
        simp only [execOp, g3]
        simp [Instr.field, run_underlying hu w, hF2, asAgg, k2 w]
      · simp at h
    · simp at h
  | indexAddr t x i =>
    simp only [vpure, pPick, pNil, pUn, pArr, pMkIf, pFa, pFld, pIa, pIx, pExt, pTa, Option.bind_eq_some_iff] at h
    obtain ⟨q, hq, n, hn, h⟩ := h
    have h1 := hF.ev hq
    have h2 := hF.ev hn
    simp only [vindexA, Option.bind_eq_some_iff] at h
    obtain ⟨ti, ht, m, hm, h⟩ := h
    simp only [natV, Option.bind_eq_some_iff] at hm
    obtain ⟨z, hz, hz2⟩ := hm
    have hT := tiV_ok hC ht
    have hz3 := asNat_some hz2
    cases n <;> simp [intV?] at hz
    subst hz
    rename_i k n
    simp [ren] at h2
    subst hz3
    split at h
    · rename_i len e b o hd
      simp only [Option.bind_eq_some_iff] at h
      obtain ⟨ei, he, h⟩ := h
      split at h
      · rename_i hb
        simp at h
        subst h
        have hb : m < len := by simpa [Nat.blt_eq] using hb
        simp only [ren, Option.map_eq_some_iff] at h1
        obtain ⟨e, h3, h4⟩ := h1
        refine ⟨.pointer (some ⟨e.1, e.2.1 + (o + m * ei.size), none⟩), by simp [ren, h3], fun w => ?_⟩
        simp only [execOp, ← h4, ← h2]
        simp [Instr.indexAt, asIntOf, Instr.sureAddr, run_underlying (hT.arr hd) w, hb, (tiV_ok hC he).size w, Addr.add_mid, Nat.add_assoc]
      · simp at h
    · rename_i e b o len c op hd
      simp only [Option.bind_eq_some_iff] at h
      obtain ⟨ei, he, h⟩ := h
      split at h
      · rename_i hb
        simp at h
        subst h
        have hb : m < len := by simpa [Nat.blt_eq] using hb
        simp only [ren, Option.map_eq_some_iff] at h1
        obtain ⟨e, h3, h4⟩ := h1
        refine ⟨.pointer (some ⟨e.1, e.2.1 + (o + m * ei.size), none⟩), by simp [ren, h3], fun w => ?_⟩
        simp only [execOp, ← h4, ← h2]
        simp [Instr.indexAt, asIntOf, Instr.sureAddr, run_underlying (hT.sl hd) w, hb, (tiV_ok hC he).size w, Addr.add_mid, Nat.add_assoc]
      · simp at h
    · simp at h
  | index t x i =>
    simp only [vpure, pPick, pNil, pUn, pArr, pMkIf, pFa, pFld, pIa, pIx, pExt, pTa, Option.bind_eq_some_iff] at h
    obtain ⟨q, hq, n, hn, h⟩ := h
    have h1 := hF.ev hq
    have h2 := hF.ev hn
    simp only [vindex, Option.bind_eq_some_iff] at h
    obtain ⟨ti, ht, m, hm, h⟩ := h
    simp only [natV, Option.bind_eq_some_iff] at hm
    obtain ⟨z, hz, hz2⟩ := hm
    have hT := tiV_ok hC ht
    have hz3 := asNat_some hz2
    cases n <;> simp [intV?] at hz
    subst hz
    rename_i k n
    simp [ren] at h2
    subst hz3
    split at h
    · rename_i len e cs hd
      simp only [Option.bind_eq_some_iff] at h
      obtain ⟨ei, he, h⟩ := h
      split at h
      · rename_i hb
        have hb : m < len := by simpa [Nat.blt_eq] using hb
        obtain ⟨l, g1, g2, g3⟩ := ren_agg h1
        obtain ⟨X, k1, k2⟩ := partV_ok hC h g1 g2
        refine ⟨X, k1, fun w => ?_⟩
        simp only [execOp, g3, ← h2]
        simp [Instr.index, asIntOf, run_underlying (hT.arr hd) w, hb, (tiV_ok hC he).size w, k2 w]
      · simp at h
    · rename_i s hd
      simp only [Option.bind_eq_some_iff, Option.some.injEq] at h
      obtain ⟨c, hc, rfl⟩ := h
      simp [ren] at h1
      rw [getL_eq] at hc
      refine ⟨.int .u8 (c.toNat : Int), rfl, fun w => ?_⟩
      simp only [execOp, ← h1, ← h2]
      have hm : m < s.length := (List.getElem?_eq_some_iff.1 hc).1
      have : (⟨s.toArray⟩ : ByteArray)[m]? = some c := by
        show (if h : _ then some _ else none) = _
        have hs : m < (⟨s.toArray⟩ : ByteArray).size := by simpa [ByteArray.size] using hm
        rw [dif_pos hs]
        have := (List.getElem?_eq_some_iff.1 hc).2
        rw [← this]
        rfl
      simp [Instr.index, asIntOf, run_underlying (hT.str hd) w, this]
    · simp at h
  | extract x i =>
    simp only [vpure, pPick, pNil, pUn, pArr, pMkIf, pFa, pFld, pIa, pIx, pExt, pTa, Option.bind_eq_some_iff] at h
    obtain ⟨q, hq, h⟩ := h
    have h1 := hF.ev hq
    split at h
    · simp only [ren, Option.map_eq_some_iff] at h1
      obtain ⟨l, g1, g2⟩ := h1
      rw [getL_eq] at h
      obtain ⟨X, k1, k2⟩ := renL_get g1 h
      refine ⟨X, k2, fun w => ?_⟩
      simp only [execOp, ← g2]
      simp [Instr.extract, k1]
    · simp at h
  | typeAssert x xt t ok =>
    simp only [vpure, pPick, pNil, pUn, pArr, pMkIf, pFa, pFld, pIa, pIx, pExt, pTa, Option.bind_eq_some_iff] at h
    obtain ⟨ti, ht, h⟩ := h
    have hT := tiV_ok hC ht
    obtain ⟨D, hu, hd, _⟩ := hT.run_und default
    split at h
    · simp at h
    · rename_i hne
      have hni : ∀ ms, D ≠ .interface ms := fun ms e => by subst e; exact hne (by rw [← hd]; rfl)
      simp only [Option.bind_eq_some_iff] at h
      obtain ⟨q, hq, h⟩ := h
      have h1 := hF.ev hq
      split at h
      · rename_i u y
        simp only [ren, Option.map_eq_some_iff] at h1
        obtain ⟨Y, g1, g2⟩ := h1
        split at h
        · rename_i hb
          simp at h
          subst h
          have hb : u = t := Nat.eq_of_beq_eq_true hb
          subst hb
          refine ⟨.tuple #[Y, .bool true], by simp [ren, renL, g1], fun w => ?_⟩
          simp only [execOp, ← g2]
          simp only [Instr.typeAssert, Sem.run_bind, run_underlying hu w, Result.andThen_ok]
          cases D <;> first | (exact absurd rfl (hni _)) | simp
        · rename_i hb
          simp at h
          subst h
          have hb : u = t := Nat.eq_of_beq_eq_true hb
          subst hb
          refine ⟨Y, g1, fun w => ?_⟩
          simp only [execOp, ← g2]
          simp only [Instr.typeAssert, Sem.run_bind, run_underlying hu w, Result.andThen_ok]
          cases D <;> first | (exact absurd rfl (hni _)) | simp
        · rename_i hb
          simp only [Option.bind_eq_some_iff, Option.some.injEq] at h
          obtain ⟨z, hz, rfl⟩ := h
          have hb : u ≠ t := fun e => by subst e; simp [Nat.beq_eq] at hb
          obtain ⟨zv, _, hzr⟩ := hT.zero hz default
          refine ⟨.tuple #[zv, .bool false], by simp [ren, renL, hzr E], fun w => ?_⟩
          obtain ⟨zv', hz', hzr'⟩ := hT.zero hz w
          have : zv' = zv := by
            have e1 := hzr' E
            rw [hzr E] at e1
            exact (Option.some.inj e1).symm
          subst this
          simp only [execOp, ← g2]
          simp only [Instr.typeAssert, Sem.run_bind, run_underlying hu w, Result.andThen_ok]
          cases D <;> first | (exact absurd rfl (hni _)) | simp [hb, hz']
        · simp at h
      · simp [ren] at h1
        split at h
        · simp only [Option.bind_eq_some_iff, Option.some.injEq] at h
          obtain ⟨z, hz, rfl⟩ := h
          obtain ⟨zv, _, hzr⟩ := hT.zero hz default
          refine ⟨.tuple #[zv, .bool false], by simp [ren, renL, hzr E], fun w => ?_⟩
          obtain ⟨zv', hz', hzr'⟩ := hT.zero hz w
          have : zv' = zv := by
            have e1 := hzr' E
            rw [hzr E] at e1
            exact (Option.some.inj e1).symm
          subst this
          simp only [execOp, ← h1]
          simp only [Instr.typeAssert, Sem.run_bind, run_underlying hu w, Result.andThen_ok]
          cases D <;> first | (exact absurd rfl (hni _)) | simp [hz']
        · simp at h
      · simp at h
  | _ => simp [vpure] at h
end
end Go.Proofs.YtaahfdjobpbpjaaGreatDoor
