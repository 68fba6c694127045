/- Vd: the machine's regions that draw their order, against the world's. By this project. -/
import Derived.Test.YtaahfdjobpbpjaaGreatDoorVr
set_option linter.unusedVariables false
set_option linter.unusedSectionVars false
set_option linter.unusedSimpArgs false
namespace Go.Proofs.YtaahfdjobpbpjaaGreatDoor
open Go.RowKit Go.Extern.Stop

/-! ### Masks -/
theorem bitOf_tb (m i : Nat) : bitOf m i = m.testBit i := by
  unfold bitOf
  rw [Bool.eq_iff_iff, Nat.beq_eq]
  simp only [Nat.testBit_eq_decide_div_mod_eq, decide_eq_true_eq, Nat.shiftRight_eq_div_pow]
  exact Iff.rfl
theorem maskLe_bit {a b : Nat} (h : maskLe a b = true) (i : Nat) (hi : bitOf a i = true) : bitOf b i = true := by
  unfold maskLe at h
  have h := Nat.eq_of_beq_eq_true h
  rw [bitOf_tb] at hi ⊢
  rw [← h, Nat.testBit_or, hi, Bool.true_or]
theorem maskLe_not {a b : Nat} (h : maskLe a b = false) : ∃ i, bitOf a i = true ∧ bitOf b i = false := by
  rcases Classical.em (∃ i, bitOf a i = true ∧ bitOf b i = false) with h1 | h1
  · exact h1
  · exfalso
    have : a ||| b = b := by
      apply Nat.eq_of_testBit_eq
      intro i
      rw [Nat.testBit_or]
      cases ha : a.testBit i with
      | false => simp
      | true =>
        cases hb : b.testBit i with
        | true => simp
        | false => exact absurd ⟨i, by rw [bitOf_tb]; exact ha, by rw [bitOf_tb]; exact hb⟩ h1
    unfold maskLe at h
    rw [this] at h
    simp [Nat.beq_eq] at h
theorem bit_or (a b i : Nat) : bitOf (a ||| b) i = (bitOf a i || bitOf b i) := by rw [bitOf_tb, bitOf_tb, bitOf_tb, Nat.testBit_or]
theorem bit_one (k i : Nat) : bitOf (1 <<< k) i = decide (k = i) := by rw [bitOf_tb, Nat.one_shiftLeft, Nat.testBit_two_pow]
theorem bit_zero (i : Nat) : bitOf 0 i = false := by rw [bitOf_tb]; simp
theorem preMask_bit (pres : Tr Nat) : ∀ (l : List Edge) (m j : Nat), bitOf (preMask pres l m) j = true ↔ (bitOf m j = true ∨ ∃ e ∈ l, Region.binds .any e = true ∧ (j = e.on ∨ bitOf (maskOf pres e.on) j = true))
  | [], m, j => by simp [preMask]
  | e :: r, m, j => by
    simp only [preMask]
    split
    · rename_i hb
      rw [preMask_bit pres r]
      rw [bit_or, bit_or, bit_one]
      simp only [Bool.or_eq_true, decide_eq_true_eq, List.mem_cons, exists_eq_or_imp, hb, true_and]
      constructor
      · rintro (((h | h) | h) | h)
        · exact .inl h
        · exact .inr (.inl (.inl h.symm))
        · exact .inr (.inl (.inr h))
        · exact .inr (.inr h)
      · rintro (h | ((h | h) | h))
        · exact .inl (.inl (.inl h))
        · exact .inl (.inl (.inr h.symm))
        · exact .inl (.inr h)
        · exact .inr h
    · rename_i hb
      rw [preMask_bit pres r]
      simp only [List.mem_cons, exists_eq_or_imp, hb, Bool.false_eq_true, false_and, false_or]
theorem preAll_spec : ∀ (r : List Oper) (i : Nat) (acc : Tr Nat), i + r.length ≤ trMax → (∀ j, j < i → (preAll r i acc).get j = acc.get j) ∧
    ∀ k o, r[k]? = some o → ∃ acc' : Tr Nat, (preAll r i acc).get (i + k) = some (preMask acc' o.after.toList 0) ∧ ∀ j, j < i + k → acc'.get j = (preAll r i acc).get j
  | [], i, acc, _ => ⟨fun _ _ => rfl, fun k o h => by simp at h⟩
  | o :: r, i, acc, hl => by
    simp only [List.length_cons] at hl
    obtain ⟨h1, h2⟩ := preAll_spec r (i + 1) (acc.set i (some (preMask acc o.after.toList 0))) (by omega)
    have hget : ∀ j, (acc.set i (some (preMask acc o.after.toList 0))).get j = if j = i then some (preMask acc o.after.toList 0) else acc.get j := fun j => Tr.get_set _ _ _
    have ha : ∀ j, j < i → (preAll (o :: r) i acc).get j = acc.get j := fun j hj => by
      simp only [preAll]
      rw [h1 j (by omega), hget, if_neg (by omega)]
    refine ⟨ha, fun k o' ho => ?_⟩
    cases k with
    | zero =>
      simp only [List.getElem?_cons_zero, Option.some.injEq] at ho
      subst ho
      refine ⟨acc, ?_, fun j hj => (ha j (by omega)).symm⟩
      simp only [preAll, Nat.add_zero]
      rw [h1 i (by omega), hget, if_pos rfl]
    | succ k =>
      obtain ⟨acc', g1, g2⟩ := h2 k o' (by simpa using ho)
      refine ⟨acc', ?_, fun j hj => ?_⟩
      · simp only [preAll]; rw [show i + (k + 1) = i + 1 + k by omega]; exact g1
      · simp only [preAll]; exact g2 j (by omega)
theorem allL_iff {α : Type} {f : α → Bool} : ∀ {l : List α}, allL f l = true ↔ ∀ x ∈ l, f x = true
  | [] => by simp [allL]
  | x :: r => by
    simp only [allL]
    split
    · rename_i h; rw [allL_iff]; simp [h]
    · rename_i h; simp [h]
theorem anyL_iff {α : Type} {f : α → Bool} : ∀ {l : List α}, anyL f l = true ↔ ∃ x ∈ l, f x = true
  | [] => by simp [anyL]
  | x :: r => by
    simp only [anyL]
    split
    · rename_i h; simp [h]
    · rename_i h; rw [anyL_iff]; simp [h]
theorem edgesOk_spec {pres : Tr Nat} : ∀ {r : List Oper} {i : Nat}, edgesOk pres r i = true → ∀ k o, r[k]? = some o → edgeB pres o (i + k) = true ∧ guardB pres o (i + k) = true ∧ plainB o = true ∧ i + k < 1000000
  | [], i, _, k, o, ho => by simp at ho
  | q :: r, i, h, k, o, ho => by
    simp only [edgesOk] at h
    split at h
    · rename_i hb
      simp only [Bool.and_eq_true] at hb
      obtain ⟨⟨⟨b1, b2⟩, b3⟩, b4⟩ := hb
      cases k with
      | zero =>
        simp only [List.getElem?_cons_zero, Option.some.injEq] at ho
        subst ho
        exact ⟨b1, b2, b3, by simpa [Nat.blt_eq] using b4⟩
      | succ k =>
        have := edgesOk_spec h k o (by simpa using ho)
        rwa [show i + 1 + k = i + (k + 1) by omega] at this
    · simp at h
theorem apartAll_spec {ops : List Oper} {pres : Tr Nat} : ∀ {r : List Oper} {j : Nat} {done : List (Nat × Oper)}, apartAll ops pres r j done = true → ∀ k y, r[k]? = some y → (∀ x ∈ done, apartB ops pres x.1 x.2 (j + k) y = true) ∧
    ∀ k' x, k' < k → r[k']? = some x → apartB ops pres (j + k') x (j + k) y = true
  | [], j, done, _, k, y, hy => by simp at hy
  | q :: r, j, done, h, k, y, hy => by
    simp only [apartAll] at h
    split at h
    · rename_i hb
      rw [allL_iff] at hb
      cases k with
      | zero =>
        simp only [List.getElem?_cons_zero, Option.some.injEq] at hy
        subst hy
        exact ⟨hb, fun k' x hk => by omega⟩
      | succ k =>
        obtain ⟨h1, h2⟩ := apartAll_spec h k y (by simpa using hy)
        rw [show j + 1 + k = j + (k + 1) by omega] at h1
        refine ⟨fun x hx => h1 x (by simp [hx]), fun k' x hk hx => ?_⟩
        cases k' with
        | zero =>
          simp only [List.getElem?_cons_zero, Option.some.injEq] at hx
          subst hx
          exact h1 (j, q) (by simp)
        | succ k' =>
          have := h2 k' x (by omega) (by simpa using hx)
          rwa [show j + 1 + k' = j + (k' + 1) by omega, show j + 1 + k = j + (k + 1) by omega] at this
    · simp at h

/-! ### Frames alone -/
theorem sameDst_iff {a b : Option Tmp} : sameDst a b = true ↔ ∃ d, a = some d ∧ b = some d := by
  cases a <;> cases b <;> simp [sameDst]
  exact ⟨fun h => h.symm, fun h => h.symm⟩
theorem sameTmp_iff {a : Option Tmp} {x : Operand} : sameTmp a x = true ↔ ∃ d, a = some d ∧ x = .tmp d := by
  cases a <;> cases x <;> simp [sameTmp]
  exact ⟨fun h => h.symm, fun h => h.symm⟩
theorem evV_congr {fr fr' : Tr V} {x : Operand} (h : ∀ t, x = .tmp t → fr.get t = fr'.get t) : evV fr x = evV fr' x := by
  cases x <;> simp only [evV]
  exact h _ rfl
theorem mapO_congr {fr fr' : Tr V} : ∀ {l : List Operand}, (∀ x ∈ l, evV fr x = evV fr' x) → mapO (evV fr) l = mapO (evV fr') l
  | [], _ => rfl
  | x :: r, h => by
    rw [mapO_cons, mapO_cons]
    rw [h x (by simp), mapO_congr (fun y hy => h y (by simp [hy]))]
theorem fillV_congr {fr fr' : Tr V} {place : Nat → Option (Nat × Nat)} : ∀ {l : List (Nat × Operand)} {cs : List V}, (∀ x ∈ l, evV fr x.2 = evV fr' x.2) → fillV fr place cs l = fillV fr' place cs l
  | [], _, _ => rfl
  | (i, x) :: r, cs, h => by
    simp only [fillV]
    rw [h (i, x) (by simp)]
    congr 1
    funext v
    congr 1
    funext vc
    congr 1
    funext p
    split
    · exact fillV_congr (fun y hy => h y (by simp [hy]))
    · rfl
theorem boundV_congr {fr fr' : Tr V} {x : Option Operand} {d : Nat} (h : ∀ y, x = some y → evV fr y = evV fr' y) : boundV fr x d = boundV fr' x d := by
  cases x with
  | none => rfl
  | some y => simp only [boundV, h y rfl]
theorem vop_congr {C : Cx} {call : CallF} {fr fr' : Tr V} {hp : Hp} {o : Op} (h : ∀ x ∈ o.operands.toList, evV fr x = evV fr' x) : vop C call fr hp o = vop C call fr' hp o ∧ vpure C fr o = vpure C fr' o := by
  have prs : ∀ ps : Array (Nat × Operand), (∀ x ∈ (ps.map (·.2)).toList, evV fr x = evV fr' x) → ∀ x ∈ ps.toList, evV fr x.2 = evV fr' x.2 := fun ps hp x hx => hp x.2 (by simp; exact ⟨x.1, by simpa using hx⟩)
  have key : vpure C fr o = vpure C fr' o := by
    cases o <;> simp only [vpure] <;> simp only [Op.operands] at h
    case move x => exact h x (by simp)
    case assign x => exact h x (by simp)
    case pick c a b => unfold pPick; rw [h c (by simp), h a (by simp), h b (by simp)]
    case build t ps =>
      unfold vbuild
      have := prs ps (by simpa using h)
      simp only [fun place cs => fillV_congr (fr := fr) (fr' := fr') (place := place) (cs := cs) this]
    case nilCheck x => unfold pNil; rw [h x (by simp)]
    case unOp op t x => unfold pUn; rw [h x (by simp)]
    case sliceToArrayPointer t x => unfold pArr; rw [h x (by simp)]
    case makeInterface t x => unfold pMkIf; rw [h x (by simp)]
    case makeFunc fn first cap =>
      unfold pMkFn
      cases fn <;> try rfl
      simp only
      rw [mapO_congr (l := first.toList) (fun x hx => h x (by simp at hx ⊢; exact .inl hx)), mapO_congr (l := cap.toList) (fun x hx => h x (by simp at hx ⊢; exact .inr hx))]
    case fieldAddr t x f => unfold pFa; rw [h x (by simp)]
    case field t x f => unfold pFld; rw [h x (by simp)]
    case indexAddr t x i => unfold pIa; rw [h x (by simp), h i (by simp)]
    case index t x i => unfold pIx; rw [h x (by simp), h i (by simp)]
    case extract x i => unfold pExt; rw [h x (by simp)]
    case typeAssert x xt t ok => unfold pTa; rw [h x (by simp)]
  refine ⟨?_, key⟩
  by_cases hpu : isPure o = true
  · rw [vop_pure hpu, vop_pure hpu, key]
  · unfold vop
    cases o <;> simp only <;> simp only [Op.operands] at h
    case move => exact (hpu rfl).elim
    case assign => exact (hpu rfl).elim
    case pick => exact (hpu rfl).elim
    case build => exact (hpu rfl).elim
    case nilCheck => exact (hpu rfl).elim
    case unOp => exact (hpu rfl).elim
    case sliceToArrayPointer => exact (hpu rfl).elim
    case makeInterface => exact (hpu rfl).elim
    case makeFunc => exact (hpu rfl).elim
    case fieldAddr => exact (hpu rfl).elim
    case field => exact (hpu rfl).elim
    case indexAddr => exact (hpu rfl).elim
    case index => exact (hpu rfl).elim
    case extract => exact (hpu rfl).elim
    case typeAssert => exact (hpu rfl).elim
    case box t x => unfold oBox; rw [h x (by simp)]
    case buildSlice t len ps =>
      unfold vbuildS
      have := prs ps (by simpa using h)
      simp only [fun place cs => fillV_congr (fr := fr) (fr' := fr') (place := place) (cs := cs) this]
    case load t x => unfold oLoad; rw [h x (by simp)]
    case store t x y => unfold oStore; rw [h x (by simp), h y (by simp)]
    case binOp op t x y t' => unfold oBin; rw [h x (by simp), h y (by simp)]
    case convert s t x => unfold oConv; rw [h x (by simp)]
    case makeMap t r =>
      unfold oMkMap
      cases r with
      | none => rfl
      | some x => simp only; rw [h x (by simp)]
    case makeSlice t l c => unfold oMkSl; rw [h l (by simp), h c (by simp)]
    case slice t x lo hi mx =>
      unfold oSlice
      rw [h x (by simp)]
      congr 1
      funext v
      unfold vslEnd vslice
      have e1 : ∀ d, boundV fr lo d = boundV fr' lo d := fun d => boundV_congr fun y hy => h y (by subst hy; simp)
      have e2 : ∀ d, boundV fr hi d = boundV fr' hi d := fun d => boundV_congr fun y hy => h y (by subst hy; simp)
      have e3 : ∀ m d, mx = some m → boundV fr (some m) d = boundV fr' (some m) d := fun m d hm => boundV_congr fun y hy => h y (by subst hm; simp at hy; subst hy; simp)
      simp only [e1, e2]
      cases mx with
      | none => rfl
      | some m => simp only [e3 m _ rfl]
    case lookup t x k ok => unfold oLookup; rw [h x (by simp), h k (by simp)]
    case mapUpdate t m k x => unfold oMapup; rw [h m (by simp), h k (by simp), h x (by simp)]
    case insert t m k x => unfold oMapup; rw [h m (by simp), h k (by simp), h x (by simp)]
    case mapEntry t m k => unfold oEntry; rw [h m (by simp), h k (by simp)]
    case entryStore t m s x => unfold oEntrySt; rw [h m (by simp), h s (by simp), h x (by simp)]
    case range t x => unfold oRange; rw [h x (by simp)]
    case next it b => unfold oNext; rw [h it (by simp)]
    case entry it => unfold oIter; rw [h it (by simp)]
    case panic x => unfold oPanic; rw [h x (by simp)]
    case call c =>
      unfold oCall
      have hargs : mapO (evV fr) c.args.toList = mapO (evV fr') c.args.toList := mapO_congr fun x hx => h x (by simp only [Call.operands, Array.toList_append, List.mem_append]; exact .inr hx)
      cases hc : c.callee with
      | builtin b => simp only [hargs]
      | value f => simp only [hargs]; rw [h f (by simp [Call.operands, hc])]
      | invoke r m => simp only [hargs]; rw [h r (by simp [Call.operands, hc])]
end Go.Proofs.YtaahfdjobpbpjaaGreatDoor
