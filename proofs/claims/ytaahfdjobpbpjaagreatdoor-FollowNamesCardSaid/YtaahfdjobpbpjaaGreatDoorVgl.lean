/- Vgl: package variables of numbers and truth values at a law's beginning. By this project. -/
import Derived.Test.YtaahfdjobpbpjaaGreatDoorVlaw
import Derived.Test.YtaahfdjobpbpjaaGreatDoorVp
import Derived.Test.YtaahfdjobpbpjaaGreatDoorCards
set_option linter.unusedVariables false
set_option linter.unusedSectionVars false
set_option linter.unusedSimpArgs false
set_option maxRecDepth 100000
namespace Go.Proofs.YtaahfdjobpbpjaaGreatDoor
open Go.ChangeShapes Go.WideShapes Go.ChangeAt Go.RowKit Go.Extern.Stop

/-- Cells that are the same (whole numbers and truth values). -/
def vSame : V → V → Bool
  | .i k n, .i k' n' => kindEq k k' && intEq n n'
  | .b x, .b y => x == y
  | _, _ => false
theorem vSame_eq {a b : V} (h : vSame a b = true) : a = b := by
  unfold vSame at h
  split at h
  · rename_i k n k' n'
    simp only [Bool.and_eq_true] at h
    obtain ⟨h1, h2⟩ := h
    have e1 : k = k' := by cases k <;> cases k' <;> first | rfl | simp [kindEq] at h1
    have e2 : n = n' := by
      cases n <;> cases n' <;> simp only [intEq] at h2 <;> first | exact congrArg _ (Nat.eq_of_beq_eq_true h2) | simp at h2
    rw [e1, e2]
  · simp only [beq_iff_eq] at h
    rw [h]
  · simp at h
noncomputable def lSame (a : List V) : List V → Bool := List.rec (fun b => b.isEmpty) (fun x _ ih b => List.rec false (fun y s _ => Bool.rec false (ih s) (vSame x y)) b) a
theorem lSame_eq : ∀ {a b : List V}, lSame a b = true → a = b
  | [], [], _ => rfl
  | [], y :: s, h => by simp [lSame] at h
  | x :: r, [], h => by simp [lSame] at h
  | x :: r, y :: s, h => by
    have e : lSame (x :: r) (y :: s) = Bool.rec false (lSame r s) (vSame x y) := rfl
    rw [e] at h
    cases hb : vSame x y with
    | false => rw [hb] at h; simp at h
    | true =>
      rw [hb] at h
      rw [vSame_eq hb, lSame_eq h]
/-- Package variables: number, cells, type. -/
abbrev Gs := List (Nat × List V × TypeId)
noncomputable def gsT : Gs → Tr VO
  | [] => .lf
  | (g, cs, T) :: r => (gsT r).set g (some (.cells cs T none false))
noncomputable def gsHp (gs : Gs) : Hp := ⟨gsT gs, gMax, []⟩
noncomputable def gsSame (hp : Hp) : Gs → Bool
  | [] => true
  | (g, cs, T) :: r => match hp.t.get g with
    | some (.cells cs' T' none false) => match Nat.beq T' T && lSame cs' cs with
      | true => gsSame hp r
      | false => false
    | _ => false
theorem gsSame_mem {hp : Hp} : ∀ {gs : Gs}, gsSame hp gs = true → ∀ x ∈ gs, hp.t.get x.1 = some (.cells x.2.1 x.2.2 none false)
  | [], _, x, hx => by simp at hx
  | (g, cs, T) :: r, h, x, hx => by
    simp only [gsSame] at h
    split at h
    · rename_i cs' T' hg
      split at h
      · rename_i hb
        simp only [Bool.and_eq_true] at hb
        rcases List.mem_cons.mp hx with rfl | hx
        · rw [hg, Nat.eq_of_beq_eq_true hb.1, lSame_eq hb.2]
        · exact gsSame_mem h x hx
      · simp at h
    · simp at h
theorem gsT_get : ∀ {gs : Gs}, (∀ x ∈ gs, x.1 < trMax) → ∀ h o, (gsT gs).get h = some o → ∃ x ∈ gs, x.1 = h ∧ o = .cells x.2.1 x.2.2 none false
  | [], _, h, o, ho => by rw [gsT, Tr.get_eq, tr_get_lf] at ho; simp at ho
  | (g, cs, T) :: r, hl, h, o, ho => by
    rw [gsT, Tr.get_set _ _ _] at ho
    split at ho
    · rename_i e
      simp only [Option.some.injEq] at ho
      exact ⟨(g, cs, T), by simp, e.symm, ho.symm⟩
    · obtain ⟨x, h1, h2⟩ := gsT_get (fun x hx => hl x (List.mem_cons_of_mem _ hx)) h o ho
      exact ⟨x, List.mem_cons_of_mem _ h1, h2⟩
/-- What is told of one of them. -/
def GOk (W : World) (x : Nat × List V × TypeId) : Prop := x.1 < gMax ∧ ∃ l, (∀ E, renL E x.2.1 = some l) ∧ l.all (·.oneCell') = true ∧ W.heap[x.1]? = some (.cells l.toArray x.2.2 (0, 0))
theorem gs_ok {gs : Gs} {W : World} (h : ∀ x ∈ gs, GOk W x) : GlOk (gsT gs) W := fun i o ho => by
  obtain ⟨x, hx, rfl, rfl⟩ := gsT_get (fun x hx => by have := (h x hx).1; unfold gMax at this; unfold trMax; omega) i o ho
  obtain ⟨h1, l, h2, h3, h4⟩ := h x hx
  exact ⟨h1, _, _, l, rfl, h2, h3, h4⟩
noncomputable def gsTrue (gs : Gs) (r : Option (VR × Hp)) : Bool := match r with
  | some (.v (.b true), hp) => gsSame hp gs
  | _ => false
theorem gs_law {P : Program} {call : CallF} (hc : CallOk P call) {f : Nat} {gs : Gs} (h : gsTrue gs (call f [] (gsHp gs)) = true) {W : World} (hg : ∀ x ∈ gs, GOk W x) : Calls P f #[] W fun e W' => e = .returned (.bool true) ∧ Below W.heap.size W W' := by
  unfold gsTrue at h
  split at h
  · rename_i hp' hr
    refine law_calls hc hr (fun E => rfl) (Nat.le_refl _) (gs_ok hg) fun i o ho => ?_
    obtain ⟨x, hx, rfl, rfl⟩ := gsT_get (fun x hx => by have := (hg x hx).1; unfold gMax at this; unfold trMax; omega) i o ho
    exact gsSame_mem h x hx
  · simp at h
/-! ### Plain data: its cells, one behind the other -/
mutual
def flatD {H : Type} : DataW H → Option (List Value)
  | .lit (.int k n) => some [.int k n]
  | .lit (.bool b) => some [.bool b]
  | .agg ds => flatDs ds
  | _ => none
def flatDs {H : Type} : List (DataW H) → Option (List Value)
  | [] => some []
  | d :: r => (flatD d).bind fun a => (flatDs r).bind fun b => some (a ++ b)
end
def contigT (P : Program) : List Field → Nat → Nat → Bool
  | [], o, n => o == n
  | f :: r, o, n => f.offset == o && contigT P r (o + P.cellsOf f.type) n
def plainT (P : Program) : Nat → TypeId → Bool
  | 0, _ => false
  | k + 1, t => match P.underlying t with
    | some .bool => true
    | some (.int _) => true
    | some (.array n e) => P.cellsOf t == n * P.cellsOf e && plainT P k e
    | some (.struct fs) => contigT P fs.toList 0 (P.cellsOf t) && fs.toList.all (fun f => plainT P k f.type)
    | _ => false
section
variable {H : Type} {enc : TypeId × Value → H} {P : Program} {w : World} {base : Nat} {sp : Nat → Bool} {held : Bool}
theorem flat_chunks (s : Nat) : ∀ (xs : List (DataW H × List MemPlace)) (cs : List Value), cs.length = xs.length * s → (∀ (i : Nat) y, xs[i]? = some y → flatD y.1 = some ((cs.drop (i * s)).take s)) → flatDs (xs.map (·.1)) = some cs
  | [], cs, hl, _ => by
    have : cs = [] := List.length_eq_zero_iff.1 (by simpa using hl)
    subst this
    simp [flatDs]
  | x :: r, cs, hl, h => by
    have h0 := h 0 x rfl
    have ih := flat_chunks s r (cs.drop s) (by rw [List.length_drop, hl, List.length_cons, Nat.add_mul]; omega) (fun i y hi => by
      have := h (i + 1) y (by simpa using hi)
      rw [List.drop_drop]
      rw [Nat.add_mul, Nat.one_mul, Nat.add_comm] at this
      exact this)
    simp only [Nat.zero_mul, List.drop_zero] at h0
    simp [flatDs, h0, ih]
theorem flat_fields : ∀ (fs : List Field) (o : Nat) (xs : List (DataW H × List MemPlace)) (cs : List Value), contigT P fs o cs.length = true → xs.length = fs.length →
    (∀ (i : Nat) (f : Field) y, fs[i]? = some f → xs[i]? = some y → flatD y.1 = some ((cs.drop f.offset).take (P.cellsOf f.type))) → flatDs (xs.map (·.1)) = some (cs.drop o)
  | [], o, xs, cs, hc, hl, _ => by
    have : xs = [] := List.length_eq_zero_iff.1 (by simpa using hl)
    subst this
    have : o = cs.length := by simpa [contigT] using hc
    subst this
    simp [flatDs]
  | f :: fs, o, [], cs, _, hl, _ => by simp at hl
  | f :: fs, o, x :: xs, cs, hc, hl, h => by
    simp only [contigT, Bool.and_eq_true, beq_iff_eq] at hc
    obtain ⟨rfl, hc⟩ := hc
    have h0 := h 0 f x rfl rfl
    have ih := flat_fields fs (f.offset + P.cellsOf f.type) xs cs hc (by simpa using hl) (fun i g y hg hy => h (i + 1) g y (by simpa using hg) (by simpa using hy))
    simp only [List.map_cons, flatDs, h0, ih, Option.bind_some, Option.some.injEq]
    rw [← List.drop_drop, List.take_append_drop]
theorem flat_trod : ∀ (k : Nat) (t : TypeId) (fuel : Nat) (cs : List Value) (d : DataW H) (p : List MemPlace), plainT P k t = true → DataW.trod enc P w base sp held fuel t cs = some (d, p) → flatD d = some cs
  | 0, t, fuel, cs, d, p, ht, h => by simp [plainT] at ht
  | k + 1, t, fuel, cs, d, p, ht, h => by
    unfold plainT at ht
    split at ht
    · rename_i hu
      obtain ⟨b, rfl, hx⟩ := DataW.trod_bool hu h
      simp only [Prod.mk.injEq] at hx
      obtain ⟨rfl, _⟩ := hx
      simp [flatD]
    · rename_i q hu
      obtain ⟨n, rfl, hx, _⟩ := DataW.trod_int hu h
      simp only [Prod.mk.injEq] at hx
      obtain ⟨rfl, _⟩ := hx
      simp [flatD]
    · rename_i n e hu
      simp only [Bool.and_eq_true, beq_iff_eq] at ht
      obtain ⟨xs, m, _, hx, hl, hxl, hf⟩ := DataW.trod_array hu h
      simp only [Prod.mk.injEq] at hx
      obtain ⟨rfl, _⟩ := hx
      simp only [flatD]
      refine flat_chunks (P.cellsOf e) xs cs (by rw [hl, ht.1, hxl]) fun i y hy => ?_
      have hi : i < n := by have := (List.getElem?_eq_some_iff.1 hy).1; omega
      have := hf i hi
      rw [hy] at this
      exact flat_trod k e m _ y.1 y.2 ht.2 this
    · rename_i fs hu
      simp only [Bool.and_eq_true] at ht
      obtain ⟨xs, m, _, hx, hl, hxl, hf⟩ := DataW.trod_struct hu h
      simp only [Prod.mk.injEq] at hx
      obtain ⟨rfl, _⟩ := hx
      simp only [flatD]
      have := flat_fields (P := P) fs.toList 0 xs cs (by rw [hl]; exact ht.1) (by simpa using hxl) fun i f y hg hy => by
        have hg' : fs[i]? = some f := by simpa using hg
        have := hf i f hg'
        rw [hy] at this
        exact flat_trod k f.type m _ y.1 y.2 (List.all_eq_true.1 ht.2 f (List.mem_of_getElem? hg)) this
      simpa using this
    · simp at ht
end
theorem glob_cells {P : Program} {W : World} {name : String} {g : Nat} {cs cs' : Array Value} {t : TypeId} {fz : Nat × Nat} (hg : P.globalNamed name = some g) (hv : W.var? P name = some cs) (hh : W.heap[g]? = some (.cells cs' t fz)) : cs' = cs := by
  unfold World.var? at hv
  rw [hg] at hv
  simp only [Option.bind_some, hh, Option.some.injEq] at hv
  exact hv
def rowOf (P : Program) (g : Nat) : Option TypeId := ((begin P (fun _ _ => 0) default).world.heap[g]?).bind Obj.row? |>.map (·.2)
theorem shaped_glob {P : Program} {W : World} (h : W.ShapedOpen P) {g : Nat} {t : TypeId} (hg : g < P.globals.size) (hr : rowOf P g = some t) : ∃ cs, W.heap[g]? = some (.cells cs t (0, 0)) := by
  unfold rowOf at hr
  simp only [Option.map_eq_some_iff] at hr
  obtain ⟨⟨z, t'⟩, h1, rfl⟩ := hr
  obtain ⟨cs, h2, _⟩ := h.1 g z t' hg h1
  exact ⟨cs, h2⟩
/-- A listed variable of plain data, as the row's list gives it; and what else it gives. -/
theorem laid_skip {P : Program} {W : World} {r : List (String × DataW Unit)} {ps : List MemPlace} {x : String × DataW Unit} (hL : DataW.LaidVars P W (x :: r) ps) : ∃ ps', DataW.LaidVars P W r ps' := by
  obtain ⟨_, _⟩ := x
  obtain ⟨g', t', cs', fuel, p, q, hg', ht', hvar, hd, hrest, _⟩ := hL
  exact ⟨_, hrest⟩
theorem laid_gl {P : Program} {W : World} {r : List (String × DataW Unit)} {ps : List MemPlace} {name : String} {D : DataW Unit} (g : Nat) (t : TypeId) (l : List Value) (cs : List V) (hL : DataW.LaidVars P W ((name, D) :: r) ps) (hS : W.ShapedOpen P)
    (hg : P.globalNamed name = some g) (ht : (P.globals[g]?).map (·.type) = some t) (hlt : g < P.globals.size) (hgm : g < gMax) (hrow : rowOf P g = some t) (hpl : plainT P 8 t = true) (hf : flatD D = some l) (hr : ∀ E, renL E cs = some l) (h1 : l.all (·.oneCell') = true) :
    GOk W (g, cs, t) ∧ ∃ ps', DataW.LaidVars P W r ps' := by
  obtain ⟨g', t', cs', fuel, p, q, hg', ht', hvar, hd, hrest, _⟩ := hL
  obtain rfl : g' = g := Option.some.inj (hg'.symm.trans hg)
  obtain rfl : t' = t := Option.some.inj (ht'.symm.trans ht)
  have h2 := flat_trod 8 _ _ _ _ _ hpl hd
  rw [hf] at h2
  obtain rfl := Option.some.inj h2
  obtain ⟨a1, b1⟩ := shaped_glob hS hlt hrow
  obtain rfl := glob_cells hg hvar b1
  refine ⟨⟨hgm, _, hr, h1, ?_⟩, _, hrest⟩
  show W.heap[g']? = _
  rw [b1]
end Go.Proofs.YtaahfdjobpbpjaaGreatDoor
