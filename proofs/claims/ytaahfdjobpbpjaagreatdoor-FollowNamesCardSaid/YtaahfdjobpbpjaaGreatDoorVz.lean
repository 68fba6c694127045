/- Vz: the machine's memory operations, against the world's: cells read, written, made. By this project. -/
import Derived.Test.YtaahfdjobpbpjaaGreatDoorVy
import Derived.Test.YtaahfdjobpbpjaaGreatDoorSxo
set_option linter.unusedVariables false
set_option linter.unusedSectionVars false
set_option linter.unusedSimpArgs false
namespace Go.Proofs.YtaahfdjobpbpjaaGreatDoor
open Go.RowKit Go.Extern.Stop

/-- What something that hands back a value comes to. -/
def OkV (P : Program) (E : Env) (hp : Hp) (w : World) (s : Sem Value) (v : V) (hp' : Hp) : Prop := hp.nx ≤ hp'.nx ∧ (Free E hp.nx hp'.nx → ∃ x w' E', s.run P w = .ok x w' ∧ ren E' v = some x ∧ Out E hp w E' hp' w')
/-- What something that hands back nothing comes to. -/
def OkU (P : Program) (E : Env) (hp : Hp) (w : World) (s : Sem Unit) (hp' : Hp) : Prop := hp.nx ≤ hp'.nx ∧ (Free E hp.nx hp'.nx → ∃ w' E', s.run P w = .ok () w' ∧ Out E hp w E' hp' w')
theorem okv_same {P : Program} {E : Env} {hp : Hp} {w : World} {s : Sem Value} {v : V} {x : Value} (hR : Rep E hp.t w) (hs : s.run P w = .ok x w) (hv : ren E v = some x) : OkV P E hp w s v hp := ⟨Nat.le_refl _, fun _ => ⟨x, w, E, hs, hv, out_refl hR⟩⟩

section
variable {P : Program} {C : Cx} (hC : COk P C) {E : Env} {hp : Hp} {w : World} (hR : Rep E hp.t w)
theorem rep_cells {t : Tr VO} (hR : Rep E t w) {h : Nat} {cs : List V} {T : TypeId} {op : Option Nat} {mk : Bool} (hg : t.get h = some (.cells cs T op mk)) :
    ∃ b ex pre l sp fz, E h = some (b, pre.length, ex) ∧ w.heap[b]? = some (.cells (pre ++ l ++ sp).toArray T fz) ∧ renL E cs = some l ∧ l.all (·.oneCell') = true ∧ (op = none → sp = [] ∧ ex = 0) ∧ (∀ s, op = some s → sp.length = ex * s) ∧
      (mk = false → fz = (0, 0)) ∧ (fz = (0, 0) ∨ fz = ((pre ++ l ++ sp).length, (pre ++ l ++ sp).length + 1)) := by
  obtain ⟨⟨b, k, ex⟩, x, h1, h2, h3⟩ := hR.has h _ hg
  obtain ⟨pre, l, sp, fz, g1, g2, g3, rfl, g5, g6, g7, g8⟩ := h3
  simp only at g3 g5 g6
  subst g3
  exact ⟨b, ex, pre, l, sp, fz, h1, h2, g1, g2, g5, g6, g7, g8⟩
theorem cell_mid {b : Nat} {pre l sp : List Value} {T : TypeId} {fz : Nat × Nat} (hb : w.heap[b]? = some (.cells (pre ++ l ++ sp).toArray T fz)) {j : Nat} {v : Value} (hj : l[j]? = some v) : w.cell? ⟨b, pre.length + j, none⟩ = some v := by
  have hl : j < l.length := (List.getElem?_eq_some_iff.1 hj).1
  simp only [World.cell?, hb]
  simp only [Option.isSome_none, Bool.false_eq_true, if_false, List.getElem?_toArray]
  rw [List.getElem?_append_left (by simp; omega), List.getElem?_append_right (by omega)]
  simpa using hj
theorem frozen_mid {b : Nat} {pre l sp : List Value} {T : TypeId} {fz : Nat × Nat} (hb : w.heap[b]? = some (.cells (pre ++ l ++ sp).toArray T fz)) (hfz : fz = (0, 0) ∨ fz = ((pre ++ l ++ sp).length, (pre ++ l ++ sp).length + 1)) {j : Nat} (hj : j < (pre ++ l ++ sp).length) : w.frozen? ⟨b, j, none⟩ = false := by
  simp only [World.frozen?, hb]
  rcases hfz with rfl | rfl
  · simp
  · simp at hj ⊢; omega
omit hR in
theorem over_mid {pre l sp L : List Value} {o : Nat} (h : o + L.length ≤ l.length) : (pre ++ l ++ sp).take (pre.length + o) ++ L ++ (pre ++ l ++ sp).drop (pre.length + o + L.length) = pre ++ (l.take o ++ L ++ l.drop (o + L.length)) ++ sp := by
  have e1 : (pre ++ l ++ sp).take (pre.length + o) = pre ++ l.take o := by
    rw [List.append_assoc, List.take_append, List.take_append]
    have : pre.length + o - pre.length = o := by omega
    rw [this, List.take_of_length_le (by omega), show o - l.length = 0 by omega, List.take_zero, List.append_nil]
  have e2 : (pre ++ l ++ sp).drop (pre.length + o + L.length) = l.drop (o + L.length) ++ sp := by
    rw [List.append_assoc, List.drop_append, List.drop_append]
    have : pre.length + o + L.length - pre.length = o + L.length := by omega
    rw [this, List.drop_of_length_le (by omega), show o + L.length - l.length = 0 by omega, List.drop_zero, List.nil_append]
  rw [e1, e2]
  simp [List.append_assoc]
/-- So many cells at a place. -/
theorem cellsAt_ok {h o n : Nat} {cs vs : List V} (hR : Rep E hp.t w) (hg : cellsAt hp h = some cs) (hc : cutL cs o n = some vs) : ∃ b k ex L, E h = some (b, k, ex) ∧ renL E vs = some L ∧ L.length = n ∧ L.all (·.oneCell') = true ∧ ∀ j v, L[j]? = some v → w.cell? ⟨b, k + o + j, none⟩ = some v := by
  unfold cellsAt Hp.get at hg
  split at hg
  · rename_i cs' t op mk hg'
    simp only [Option.some.injEq] at hg
    subst hg
    obtain ⟨b, ex, pre, l, sp, fz, h1, h2, h3, h4, _⟩ := rep_cells hR hg'
    obtain ⟨e1, e2, e3⟩ := cutL_some hc
    have hlen := renL_len h3
    refine ⟨b, pre.length, ex, (l.drop o).take n, h1, e1 ▸ renL_take _ (renL_drop _ h3), by simp; omega, List.all_eq_true.2 fun x hx => List.all_eq_true.1 h4 x (List.mem_of_mem_drop (List.mem_of_mem_take hx)), fun j v hv => ?_⟩
    rw [List.getElem?_take] at hv
    split at hv
    · rw [Nat.add_assoc]
      exact cell_mid h2 (by simpa using hv)
    · simp at hv
  · simp at hg
theorem loadV_ok {h o n : Nat} {vs : List V} (hR : Rep E hp.t w) (hl : loadV hp h o n = some vs) : ∃ L, renL E vs = some L ∧ L.length = n ∧ L.all (·.oneCell') = true ∧ ∀ b k ex, E h = some (b, k, ex) → ∀ j v, L[j]? = some v → w.cell? ⟨b, k + o + j, none⟩ = some v := by
  cases n with
  | zero =>
    simp [loadV] at hl
    subst hl
    exact ⟨[], rfl, rfl, rfl, fun b k ex _ j v hv => by simp at hv⟩
  | succ n =>
    simp only [loadV, Option.bind_eq_some_iff] at hl
    obtain ⟨cs, h1, h2⟩ := hl
    obtain ⟨b, k, ex, L, g1, g2, g3, g4, g5⟩ := cellsAt_ok hR h1 h2
    refine ⟨L, g2, g3, g4, fun b' k' ex' he => ?_⟩
    rw [g1] at he
    simp only [Option.some.injEq, Prod.mk.injEq] at he
    obtain ⟨rfl, rfl, rfl⟩ := he
    exact g5
include hC
/-- A variable read. -/
theorem load_ok {t : TypeId} {h o : Nat} {cs : List V} {v : V} (hR : Rep E hp.t w) (hg : cellsAt hp h = some cs) (hp' : partV C t cs o = some v) : ∃ b k ex x, E h = some (b, k, ex) ∧ ren E v = some x ∧ (loadVar t ⟨b, k + o, none⟩).run P w = .ok x w := by
  simp only [partV, Option.bind_eq_some_iff] at hp'
  obtain ⟨ti, ht, hp'⟩ := hp'
  have hT := tiV_ok hC ht
  have hrow := hT.agg w
  cases hr : ti.d.row with
  | true =>
    rw [hr] at hp' hrow
    simp only [Option.bind_eq_some_iff, Option.some.injEq] at hp'
    obtain ⟨m, hm, rfl⟩ := hp'
    obtain ⟨b, k, ex, L, g1, g2, g3, g4, g5⟩ := cellsAt_ok hR hg hm
    refine ⟨b, k, ex, .agg L.toArray, g1, ren_agg_mk g2 g4, ?_⟩
    have := run_loadCells_list (P := P) w ⟨b, k + o, none⟩ L (fun j v hv => by rw [Addr.add_mid]; exact g5 j v hv)
    rw [g3] at this
    simp [loadVar, hrow, hT.size w, this]
  | false =>
    rw [hr] at hp' hrow
    simp only [getL_eq] at hp'
    have hc : cutL cs o 1 = some [v] := by
      have hl := (List.getElem?_eq_some_iff.1 hp').1
      rw [cutL_mk (by omega)]
      simp only [Option.some.injEq]
      rw [List.drop_eq_getElem_cons hl, List.take_succ_cons, List.take_zero]
      rw [List.getElem?_eq_getElem hl] at hp'
      rw [Option.some.inj hp']
    obtain ⟨b, k, ex, L, g1, g2, g3, g4, g5⟩ := cellsAt_ok hR hg hc
    obtain ⟨x, t', h1, h2, rfl⟩ := renL_cons g2
    refine ⟨b, k, ex, x, g1, h1, ?_⟩
    have := g5 0 x (by simp)
    simp [loadVar, hrow, load, Sem.run]
    simp at this
    simp [this]
omit hC
/-- Cells written over. -/
theorem storeV_ok {h o : Nat} {vs : List V} {hp' : Hp} {L : List Value} (hR : Rep E hp.t w) (hs : storeV hp h o vs = some hp') (hL : renL E vs = some L) (hL1 : L.all (·.oneCell') = true) {b k ex : Nat} (he : E h = some (b, k, ex)) :
    hp.nx = hp'.nx ∧ (∀ j, j < L.length → (w.cell? ⟨b, k + o + j, none⟩).isSome = true) ∧ (∀ j, j < L.length → w.frozen? ⟨b, k + o + j, none⟩ = false) ∧ Out E hp w E hp' (w.setCells b (k + o) L) := by
  have hlen := renL_len hL
  cases vs with
  | nil =>
    simp [storeV] at hs
    subst hs
    have : L = [] := by simpa using hlen
    subst this
    exact ⟨rfl, fun j hj => by simp at hj, fun j hj => by simp at hj, out_refl hR⟩
  | cons v r =>
    simp only [storeV] at hs
    split at hs
    · rename_i cs t op mk hg
      obtain ⟨hg, hro⟩ := getW_some hg
      split at hs
      · rename_i hb
        have hb := geL_iff.1 hb
        rw [lenF_eq] at hb
        simp only [Option.some.injEq] at hs
        subst hs
        obtain ⟨b', ex', pre, l, sp, fz, h1, h2, h3, h4, h5, h6, h7, h8⟩ := rep_cells hR hg
        rw [he] at h1
        simp only [Option.some.injEq, Prod.mk.injEq] at h1
        obtain ⟨rfl, rfl, rfl⟩ := h1
        have hl := renL_len h3
        have hcell : ∀ j, j < L.length → (w.cell? ⟨b, pre.length + o + j, none⟩).isSome = true := fun j hj => by
          have hjl : o + j < l.length := by omega
          rw [Nat.add_assoc, cell_mid h2 (List.getElem?_eq_getElem hjl)]
          rfl
        have hfr : ∀ j, j < L.length → w.frozen? ⟨b, pre.length + o + j, none⟩ = false := fun j hj => frozen_mid h2 h8 (by simp; omega)
        refine ⟨rfl, hcell, hfr, ?_⟩
        obtain ⟨r1, r2, r3, r4⟩ := setCells_rest (b := b) L (pre.length + o) w
        refine out_put hro hR hg he (x' := .cells (pre ++ (l.take o ++ L ++ l.drop (o + L.length)) ++ sp).toArray t fz) ?_ ?_ (fun k' hk' => heap_setCells_other _ _ _ _ hk') r4 r1 r2 r3
        · refine ⟨pre, _, sp, fz, renL_putAt h3 hL hb, ?_, rfl, rfl, h5, h6, h7, ?_⟩
          · rw [List.all_append, List.all_append, hL1]
            simp only [Bool.and_true, Bool.and_eq_true]
            exact ⟨List.all_eq_true.2 fun x hx => List.all_eq_true.1 h4 x (List.mem_of_mem_take hx), List.all_eq_true.2 fun x hx => List.all_eq_true.1 h4 x (List.mem_of_mem_drop hx)⟩
          · have : (pre ++ (l.take o ++ L ++ l.drop (o + L.length)) ++ sp).length = (pre ++ l ++ sp).length := by simp; omega
            rw [this]; exact h8
        · have := heap_setCells_at (b := b) (E := t) (fz := fz) L (pre.length + o) w (pre ++ l ++ sp) h2 (by simp; omega)
          rw [this]
          congr 2
          rw [over_mid]
          omega
      · simp at hs
    · simp at hs
end
end Go.Proofs.YtaahfdjobpbpjaaGreatDoor
