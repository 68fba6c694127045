/- Opening slices of bytes that are handed in. By this project. -/
import Derived.Test.YtfanghiakbddcaaRow
import Derived.Test.YtfanghiakbddcaaSame
import Derived.ChangeSlices
import Derived.Deep.Slices
set_option linter.unusedVariables false
set_option linter.unusedSimpArgs false
namespace Go.Proofs.Ytfanghiakbddcaa
open Go.ChangeShapes Go.WideShapes Go.ChangeAt Go.RowKit Go.Extern.Stop

theorem bulk_one {H : Type} (d : DataW H) : 1 ≤ Rows.uptoBulk d := by
  cases d with
  | lit l => cases l <;> simp [Rows.uptoBulk]
  | nil => simp [Rows.uptoBulk]
  | ptr d => simp [Rows.uptoBulk]
  | slice elems spare => simp [Rows.uptoBulk]
  | agg parts => simp [Rows.uptoBulk]
  | iface t d => simp [Rows.uptoBulk]
  | map entries => simp [Rows.uptoBulk]
  | held h => simp [Rows.uptoBulk]
theorem bulk_len {H : Type} : ∀ (l : List (DataW H)), l.length ≤ Rows.uptoBulkAll l
  | [] => Nat.zero_le _
  | x :: r => by have := bulk_one x; have := bulk_len r; simp only [Rows.uptoBulkAll, List.length_cons]; omega
theorem bulk_mem {H : Type} {d : DataW H} : ∀ {l : List (DataW H)}, d ∈ l → Rows.uptoBulk d ≤ Rows.uptoBulkAll l
  | x :: r, h => by
    simp only [Rows.uptoBulkAll]
    rcases List.mem_cons.1 h with rfl | h
    · omega
    · have := bulk_mem h; omega
section
variable {H : Type} {enc : TypeId × Value → H} {P : Program} {W : World} {base : Nat} {held : Bool} {t e q : TypeId}
/-- A slice of bytes. -/
structure OpenB (W : World) (v : Value) (xs : List UInt8) (d : DataW H) : Prop where
  get : ∃ A c, v = .slice A xs.length c ∧ xs.length ≤ c ∧ RW W A (xs.map cell)
  bulk : xs.length ≤ Rows.uptoBulk d
  shape : xs = [] ∨ ∃ elems spare, d = .slice elems spare ∧ elems.length = xs.length
theorem open_b (ht : sliceT P t = some e) (he : intT P e = some .u8) (hc : P.cellsOf e = 1) {fuel : Nat} {cs : List Value} {d : DataW H} {ps : List MemPlace} (h : DataW.trod enc P W base (fun _ => true) held fuel t cs = some (d, ps)) :
    ∃ v xs, cs = [v] ∧ OpenB W v xs d := by
  rcases open_ints (und_slice ht) (und_int he) hc h with ⟨rfl, hx⟩ | ⟨a, len, cap, zs, rfl, hb, hl, hm, hz, hx, hcell, hwf⟩
  · exact ⟨_, [], rfl, ⟨none, 0, rfl, Nat.le_refl _, fun j v hv => by simp at hv⟩, Nat.zero_le _, .inl rfl⟩
  · simp only [if_true] at hz
    simp only [Prod.mk.injEq] at hx
    obtain ⟨rfl, _⟩ := hx
    obtain ⟨xs, hxs⟩ := bytes_of_cells ((zs.take len).map fun n => .int .u8 n) (fun v hv => by
      obtain ⟨n, hn, rfl⟩ := List.mem_map.1 hv
      refine ⟨n, rfl, ?_⟩
      have := hwf n (List.mem_of_mem_take hn)
      simpa [Lit.wf, IntKind.has] using this)
    have hlen : xs.length = len := by
      have := congrArg List.length hxs
      simp at this
      omega
    refine ⟨_, xs, by rw [← hlen], ⟨some a, cap, rfl, by omega, fun j v hv => ?_⟩, ?_, .inr ⟨_, _, rfl, by simp [lits]; omega⟩⟩
    · rw [← hxs, List.getElem?_map, List.getElem?_take] at hv
      split at hv
      · rename_i hj
        have h1 := hcell j (by omega)
        have hj2 : j < zs.length := by omega
        rw [List.getElem?_eq_getElem hj2, Option.map_some, Option.some.injEq] at hv
        refine ⟨a, rfl, ?_⟩
        rw [h1, ← hv]
        simp [List.getD, hj2]
      · simp at hv
    · have h1 := bulk_len (lits (H := H) .u8 (zs.take len))
      have h2 : (lits (H := H) .u8 (zs.take len)).length = len := by simp [lits]; omega
      simp only [Rows.uptoBulk]
      omega
theorem okWide_slice {r : Reach} {v : Value} (ht : sliceT P t = some e) (h : Value.okWide P W r base t v) : ∃ A m c, v = .slice A m c := by
  have hu := und_slice ht
  unfold Value.okWide at h
  rw [hu] at h
  have h' : Cell.okWide P W r base t v := h
  unfold Cell.okWide at h'
  rw [hu] at h'
  have h2 : Cell.ok P W r base t v := by cases v <;> exact h'
  unfold Cell.ok at h2
  rw [hu] at h2
  cases v <;> first | exact ⟨_, _, _, rfl⟩ | exact h2.elim
theorem okWide_int {r : Reach} {v : Value} {k : IntKind} (ht : intT P t = some k) (h : Value.okWide P W r base t v) : ∃ n, v = .int k n ∧ k.has n := by
  refine okWide_cell_int (w := W) (r := r) (base := base) ht ?_
  have hu := und_int ht
  unfold Value.okWide at h
  rw [hu] at h
  exact h
theorem open_bv {r : Reach} {b0 : Nat} (ht : sliceT P t = some e) (he : intT P e = some .u8) (hc : P.cellsOf e = 1) {v : Value} {d : DataW H} {ps : List MemPlace} (hv : Value.okWide P W r b0 t v) (h : DataW.Trod enc P W base (fun _ => true) held t v d ps) : ∃ xs, OpenB W v xs d := by
  obtain ⟨fuel, h⟩ := h
  obtain ⟨A, m, c, rfl⟩ := okWide_slice ht hv
  obtain ⟨v', xs, h1, h2⟩ := open_b ht he hc h
  obtain rfl : Value.slice A m c = v' := by simpa [Value.cells] using h1
  exact ⟨xs, h2⟩
/-- A slice of slices of bytes. -/
structure OpenBB (W : World) (v : Value) (ps : List (List UInt8)) (d : DataW H) : Prop where
  get : ∃ A c vs, v = .slice A ps.length c ∧ ps.length ≤ c ∧ RW W A vs ∧ RowsW W vs ps
  len : ps.length ≤ Rows.uptoBulk d
  bulk : ∀ p ∈ ps, p.length ≤ Rows.uptoBulk d
theorem open_bb {r : Reach} {b0 : Nat} (ht : sliceT P t = some e) (he : sliceT P e = some q) (hq : intT P q = some .u8) (hc : P.cellsOf e = 1) (hcq : P.cellsOf q = 1) {v : Value} {d : DataW H} {pl : List MemPlace} (hv : Value.okWide P W r b0 t v) (h : DataW.Trod enc P W base (fun _ => true) held t v d pl) : ∃ ps, OpenBB W v ps d := by
  obtain ⟨fuel, h⟩ := h
  obtain ⟨A, m, c, rfl⟩ := okWide_slice ht hv
  have h : DataW.trod enc P W base (fun _ => true) held fuel t [.slice A m c] = some (d, pl) := h
  rcases DataW.trod_slice (und_slice ht) h with ⟨h1, hx⟩ | ⟨a, len, cap, elems, rest, n, _, h1, hx, hb, hl, hm, hlen, hel, _⟩
  · simp only [List.cons.injEq, Value.slice.injEq, and_true] at h1
    obtain ⟨rfl, rfl, rfl⟩ := h1
    exact ⟨[], ⟨none, 0, [], rfl, Nat.le_refl _, fun j v hv => by simp at hv, rfl, fun i v p hv => by simp at hv⟩, Nat.zero_le _, fun p hp => by cases hp⟩
  · simp only [List.cons.injEq, Value.slice.injEq, and_true] at h1
    obtain ⟨rfl, rfl, rfl⟩ := h1
    simp only [Prod.mk.injEq] at hx
    obtain ⟨rfl, _⟩ := hx
    have each : ∀ i, i < m → ∃ y : Value × List UInt8, W.cell? (a.add i) = some y.1 ∧ ∃ d', d' ∈ elems.map (·.1) ∧ OpenB W y.1 y.2 d' := by
      intro i hi
      have h2 := hel i hi
      have hi2 : i < elems.length := by omega
      rw [hc, Nat.mul_one, List.getElem?_eq_getElem hi2] at h2
      simp only [Option.bind_eq_some_iff] at h2
      obtain ⟨cs, h3, h4⟩ := h2
      obtain ⟨w1, xs, rfl, h6⟩ := open_b (d := (elems[i]).1) (ps := (elems[i]).2) he hq hcq h4
      refine ⟨(w1, xs), cell_of_cells?_one h3, _, ?_, h6⟩
      exact List.mem_map.2 ⟨_, List.getElem_mem hi2, rfl⟩
    obtain ⟨f, hf⟩ := Go.Deep.choose_lt (α := Value × List UInt8) each
    have hbk : ∀ i, i < m → (f i).2.length ≤ Rows.uptoBulk (DataW.slice (elems.map (·.1)) (rest.map (·.1))) := fun i hi => by
      obtain ⟨_, d', hd, ho⟩ := hf i hi
      have h7 := ho.bulk
      have h8 := bulk_mem hd
      simp only [Rows.uptoBulk]
      omega
    refine ⟨(List.range m).map fun i => (f i).2, ⟨some a, c, (List.range m).map fun i => (f i).1, by simp, by simpa using hl, fun j v hv => ?_, by simp, fun i v p h1 h2 => ?_⟩, ?_, fun p hp => ?_⟩
    · rw [List.getElem?_map] at hv
      cases hj : (List.range m)[j]? with
      | none => rw [hj] at hv; simp at hv
      | some j' =>
        obtain ⟨j1, j2⟩ := List.getElem?_eq_some_iff.1 hj
        simp at j1 j2
        subst j2
        rw [hj] at hv
        simp only [Option.map_some, Option.some.injEq] at hv
        exact ⟨a, rfl, by rw [(hf j j1).1, hv]⟩
    · rw [List.getElem?_map] at h1 h2
      cases hj : (List.range m)[i]? with
      | none => rw [hj] at h1; simp at h1
      | some j' =>
        obtain ⟨j1, j2⟩ := List.getElem?_eq_some_iff.1 hj
        simp at j1 j2
        subst j2
        rw [hj] at h1 h2
        simp only [Option.map_some, Option.some.injEq] at h1 h2
        subst h1 h2
        obtain ⟨_, d', _, ho⟩ := hf i j1
        exact ho.get
    · have := bulk_len (elems.map (·.1))
      simp only [Rows.uptoBulk]
      simp at this ⊢
      omega
    · obtain ⟨i, hi, rfl⟩ := List.mem_map.1 hp
      exact hbk i (by simpa using hi)
end
end Go.Proofs.Ytfanghiakbddcaa
