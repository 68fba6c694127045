/- What a law's row asks, out of a call that hands back true and turns nothing that was there. By this project. -/
import Derived.Test.YtfanghiakbddcaaRows
import Derived.WalkKit
import Derived.ProofKit
import Derived.OpenShut
import Derived.Deep.DeepHandedRow
import Derived.Test.YtfanghiakbddcaaTy
set_option linter.unusedVariables false
set_option linter.unusedSimpArgs false
namespace Go.Proofs.Ytfanghiakbddcaa
open Go.ChangeShapes Go.WideShapes Go.ChangeAt Go.RowKit

section
variable {H : Type} {enc : TypeId × Value → H} {P : Program}
theorem trodAll_below (hl : laidOutB P = true) {W W' : World} (hb : Below W.heap.size W W') : ∀ (ts : List TypeId) (vs : List Value) (ds : List (DataW H)) (ps : List MemPlace), (ts.all fun t => P.readableRec t && decide (t < P.types.size)) = true →
    DataW.TrodAll enc P W 0 (fun _ => true) true ts vs ds ps → (∀ x ∈ ps, x.block < W.heap.size) → DataW.TrodAll enc P W' 0 (fun b => decide (b < W.heap.size)) true ts vs ds ps
  | [], vs, ds, ps, _, h, _ => by
    cases vs <;> cases ds <;> simp [DataW.TrodAll] at h ⊢
    exact h
  | t :: ts, vs, ds, ps, ht, h, hlt => by
    obtain ⟨v, vs', d, ds', p, q, rfl, rfl, rfl, h1, h2⟩ := trodAll_cons h
    simp only [List.all_cons, Bool.and_eq_true, decide_eq_true_eq] at ht
    have k1 := Below.trod hl ht.1.1 ht.1.2 h1 hb (fun x hx => hlt x (by simp [hx]))
    have k2 := trodAll_below hl hb ts vs' ds' q ht.2 h2 (fun x hx => hlt x (by simp [hx]))
    exact ⟨p, q, k1, k2, rfl⟩
theorem law_post {f : Func} {s : ChangeSpec} {W W' : World} {args : Array Value} {ds gs : List (DataW H)} {before : List MemPlace} {tb : TypeId} (hW : DataW.Whole enc P f.params.toList s.vars false W args.toList ds gs before)
    (hl : laidOutB P = true) (hp : (f.params.toList.all fun t => P.readableRec t && decide (t < P.types.size)) = true) (hr : f.resultTypes = #[tb]) (hb : P.underlying tb = some .bool) (hs : s.vars = [])
    (h1 : (s.fn H (ds ++ gs)).results = [.lit (.bool true)]) (h2 : (s.fn H (ds ++ gs)).args = ds) (h3 : (s.fn H (ds ++ gs)).vars = []) (hbel : Below W.heap.size W W') :
    s.post enc P f false true false false W args (.bool true) W' := by
  have hW' := hW
  obtain ⟨p, q, hA, hV, rfl, hfz, hnd⟩ := hW
  rw [hs] at hV
  obtain ⟨rfl, rfl⟩ := trodVars_none hV
  refine ⟨ds, [], _, [], p, [], hW', ?_, ?_, ?_, hbel.frame _, fun h => by cases h⟩
  · rw [h1, hr]
    exact trodAll_mk1 (shut_bool hb true)
  · rw [h2]
    exact trodAll_below hl hbel _ _ _ _ hp hA (fun x hx => by simpa using hW'.lt x (by simpa using hx))
  · rw [h3, hs]
    rfl
end

/-- A value's cells and their types. -/
theorem okWide_agg {P : Program} {w : World} {r : Reach} {base : Nat} {t : TypeId} {v : Value} {ts : List TypeId} {n : Nat} (hrow : rowT P t = some true) (hn : P.cellsOf t = n) (hts : P.cellTypes P.depth t = some ts) (hl : ts.length = n) (h : Value.okWide P w r base t v) :
    ∃ C : List Value, v = .agg C.toArray ∧ C.length = n ∧ ∀ (i : Nat) (x : Value) (u : TypeId), C[i]? = some x → ts[i]? = some u → Cell.okWide P w r base u x := by
  unfold rowT at hrow
  cases hu : P.underlying t with
  | none => rw [hu] at hrow; simp at hrow
  | some d =>
    rw [hu] at hrow
    have key : (∃ cs, v = .agg cs ∧ cs.size = P.cellsOf t ∧ Row.okWide P w r base t cs) := by
      unfold Value.okWide at h
      rw [hu] at h
      cases d <;> first | exact h | simp at hrow
    obtain ⟨cs, rfl, hsz, ts', hts', _, hc⟩ := key
    rw [hts] at hts'
    obtain rfl := Option.some.inj hts'
    refine ⟨cs.toList, by simp, by simpa [hn] using hsz, fun i x u hx hu' => ?_⟩
    have hi : i < n := by have := (List.getElem?_eq_some_iff.1 hu').1; omega
    obtain ⟨u2, h1, h2⟩ := hc i x (by simpa using hx)
    rw [hl, Nat.mod_eq_of_lt hi, hu'] at h1
    obtain rfl := Option.some.inj h1
    exact h2
theorem okWide_cell_int {P : Program} {w : World} {r : Reach} {base : Nat} {t : TypeId} {v : Value} {k : IntKind} (ht : intT P t = some k) (h : Cell.okWide P w r base t v) : ∃ n, v = .int k n ∧ k.has n := by
  have hu := und_int ht
  unfold Cell.okWide at h
  rw [hu] at h
  have h' : Cell.ok P w r base t v := by cases v <;> exact h
  unfold Cell.ok at h'
  rw [hu] at h'
  cases v <;> simp at h'
  obtain ⟨rfl, h2⟩ := h'
  exact ⟨_, rfl, h2⟩
open Go.Extern.Stop in
theorem bytes_of_cells : ∀ (L : List Value), (∀ v ∈ L, ∃ n, v = .int .u8 n ∧ IntKind.u8.has n) → ∃ xs : List UInt8, L = xs.map cell
  | [], _ => ⟨[], rfl⟩
  | v :: r, h => by
    obtain ⟨n, rfl, hn⟩ := h v (by simp)
    obtain ⟨xs, rfl⟩ := bytes_of_cells r (fun v hv => h v (by simp [hv]))
    refine ⟨UInt8.ofNat n.toNat :: xs, ?_⟩
    have h1 : 0 ≤ n ∧ n ≤ 255 := by simpa [IntKind.has, IntKind.min, IntKind.max, IntKind.signed, IntKind.bits] using hn
    have : ((UInt8.ofNat n.toNat).toNat : Int) = n := by simp; omega
    show _ = Value.int .u8 ((UInt8.ofNat n.toNat).toNat : Int) :: _
    rw [this]

section
variable {H : Type} {enc : TypeId × Value → H} {P : Program} {w : World} {base fuel : Nat} {sp : Nat → Bool} {held : Bool} {t e : TypeId} {cs : List Value} {ds : List (DataW H)} {p : List MemPlace}
theorem trod_field {i o : Nat} (hT : fieldT P t i = some (o, e)) (h : DataW.trod enc P w base sp held fuel t cs = some (.agg ds, p)) :
    ∃ m d q, ds[i]? = some d ∧ DataW.trod enc P w base sp held m e ((cs.drop o).take (P.cellsOf e)) = some (d, q) := by
  obtain ⟨fs, f, h1, h2, rfl, rfl⟩ := und_field hT
  obtain ⟨xs, m, rfl, hx, hl, hxl, hf⟩ := DataW.trod_struct h1 h
  have hi : i < fs.size := (Array.getElem?_eq_some_iff.1 h2).1
  have h3 := hf i f h2
  have hds : ds = xs.map (·.1) := by
    have := congrArg Prod.fst hx
    simpa using this
  rw [List.getElem?_eq_getElem (by omega)] at h3
  refine ⟨m, (xs[i]'(by omega)).1, (xs[i]'(by omega)).2, ?_, h3⟩
  rw [hds, List.getElem?_map, List.getElem?_eq_getElem (by omega)]
  rfl
theorem trod_elem {k i : Nat} (hT : arrayT P t = some (k, e)) (hi : i < k) (h : DataW.trod enc P w base sp held fuel t cs = some (.agg ds, p)) :
    ∃ m d q, ds[i]? = some d ∧ DataW.trod enc P w base sp held m e ((cs.drop (i * P.cellsOf e)).take (P.cellsOf e)) = some (d, q) := by
  obtain ⟨xs, m, rfl, hx, hl, hxl, hf⟩ := DataW.trod_array (und_array hT) h
  have h3 := hf i hi
  have hds : ds = xs.map (·.1) := by
    have := congrArg Prod.fst hx
    simpa using this
  rw [List.getElem?_eq_getElem (by omega)] at h3
  refine ⟨m, (xs[i]'(by omega)).1, (xs[i]'(by omega)).2, ?_, h3⟩
  rw [hds, List.getElem?_map, List.getElem?_eq_getElem (by omega)]
  rfl
theorem trod_int1 {k : IntKind} {n : Int} {o : Nat} {q : List MemPlace} (ht : intT P t = some k) (h : DataW.trod enc P w base sp held fuel t ((cs.drop o).take 1) = some (.lit (.int k n), q)) : cs[o]? = some (.int k n) := by
  obtain ⟨m, h1, h2, _⟩ := DataW.trod_int (und_int ht) h
  simp only [Prod.mk.injEq, DataW.lit.injEq, Lit.int.injEq, true_and] at h2
  obtain ⟨rfl, _⟩ := h2
  have := congrArg (·[0]?) h1
  simpa [List.getElem?_take, List.getElem?_drop] using this
theorem trod_bool1 {b : Bool} {o : Nat} {q : List MemPlace} (ht : P.underlying t = some .bool) (h : DataW.trod enc P w base sp held fuel t ((cs.drop o).take 1) = some (.lit (.bool b), q)) : cs[o]? = some (.bool b) := by
  obtain ⟨m, h1, h2⟩ := DataW.trod_bool ht h
  simp only [Prod.mk.injEq, DataW.lit.injEq, Lit.bool.injEq] at h2
  obtain ⟨rfl, _⟩ := h2
  have := congrArg (·[0]?) h1
  simpa [List.getElem?_take, List.getElem?_drop] using this
end

open Go.Extern.Stop in
/-- Thirty-two bytes, told by their types. -/
theorem seg_bytes {P : Program} {w : World} {r : Reach} {base : Nat} {ts : List TypeId} {C : List Value} {o n : Nat} {e : TypeId} (he : intT P e = some .u8) (hC : o + n ≤ C.length) (hts : ∀ i, i < n → ts[o + i]? = some e)
    (h : ∀ (i : Nat) (x : Value) (u : TypeId), C[i]? = some x → ts[i]? = some u → Cell.okWide P w r base u x) : ∃ xs : List UInt8, (C.drop o).take n = xs.map cell := by
  refine bytes_of_cells _ fun v hv => ?_
  obtain ⟨i, hi, rfl⟩ := List.mem_iff_getElem.1 hv
  have hin : i < n := by simp at hi; omega
  have hx : C[o + i]? = some ((C.drop o).take n)[i] := by
    rw [List.getElem_take, List.getElem_drop]
    exact List.getElem?_eq_getElem _
  exact okWide_cell_int he (h _ _ _ hx (hts i hin))
end Go.Proofs.Ytfanghiakbddcaa
