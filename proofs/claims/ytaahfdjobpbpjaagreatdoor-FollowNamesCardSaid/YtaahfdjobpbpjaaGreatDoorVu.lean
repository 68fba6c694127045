/- Vu: the machine's tables against a program. By this project. -/
import Derived.Test.YtaahfdjobpbpjaaGreatDoorVq
set_option linter.unusedVariables false
set_option linter.unusedSectionVars false
set_option linter.unusedSimpArgs false
namespace Go.Proofs.YtaahfdjobpbpjaaGreatDoor
open Go.RowKit Go.Extern.Stop

def eqOf (P : Program) (t : TypeId) : Bool :=
  (match P.info? t with | some i => i.comparable | none => false) && (!P.eqGuardType P.depth t && (!P.stoodInHeld t && (match P.underlying t with | some (.struct fs) => fs.toList.all (fun f => !(f.name == "_")) | _ => true)))
noncomputable def zOf (z : Option Value) (size : Nat) : Option V := match z with
  | none => none
  | some zv => match ofVal zv with
    | none => none
    | some v => match v.cells with
      | none => none
      | some zc => match Nat.beq zc.length size with
        | true => some v
        | false => none
/-- What a program's types say, made for the machine. -/
noncomputable def tiOf (P : Program) (t : TypeId) (e : Bool) : Option TI := match P.underlying t, P.info? t with
  | some D, some i => match e with
    | false => some ⟨tdOf D, i.size, i.bytes, zOf i.zero i.size, false⟩
    | true => match eqOf P t with
      | true => some ⟨tdOf D, i.size, i.bytes, zOf i.zero i.size, true⟩
      | false => none
  | _, _ => none
theorem zOf_some {z : Option Value} {n : Nat} {v : V} (h : zOf z n = some v) : ∃ zv, z = some zv ∧ ofVal zv = some v ∧ ∃ zc, v.cells = some zc ∧ zc.length = n := by
  unfold zOf at h
  split at h
  · simp at h
  · rename_i zv
    split at h
    · simp at h
    · rename_i v' hv
      split at h
      · simp at h
      · rename_i zc hc
        split at h
        · rename_i hb
          simp only [Option.some.injEq] at h
          subst h
          exact ⟨zv, rfl, hv, zc, hc, Nat.eq_of_beq_eq_true hb⟩
        · simp at h
theorem tiok_of {P : Program} {t : TypeId} {e : Bool} {ti : TI} (h : tiOf P t e = some ti) : TIok P t ti := by
  unfold tiOf at h
  split at h
  · rename_i D i hD hi
    have key : ∀ b, some (⟨tdOf D, i.size, i.bytes, zOf i.zero i.size, b⟩ : TI) = some ti → (b = true → eqOf P t = true) → TIok P t ti := by
      intro b hb he
      simp only [Option.some.injEq] at hb
      subst hb
      refine ⟨⟨D, hD, rfl⟩, ⟨i, hi, rfl, rfl, fun z hz => ?_⟩, fun z hz => ?_, fun hb => ?_⟩
      · obtain ⟨zv, h1, h2, _⟩ := zOf_some hz
        exact ⟨zv, h1, h2⟩
      · obtain ⟨zv, h1, h2, zc, h3, h4⟩ := zOf_some hz
        exact ⟨zc, h3, h4⟩
      · have := he hb
        unfold eqOf at this
        rw [hi, hD] at this
        simp only [Bool.and_eq_true, Bool.not_eq_true'] at this
        obtain ⟨h1, h2, h3, h4⟩ := this
        refine ⟨fun j hj => ?_, h2, h3, fun fs hfs f hf => ?_⟩
        · rw [hi] at hj
          simp only [Option.some.injEq] at hj
          subst hj
          exact h1
        · rw [hD] at hfs
          simp only [Option.some.injEq] at hfs
          subst hfs
          simp only at h4
          have := List.all_eq_true.mp h4 f (by simpa using hf)
          simpa using this
    split at h
    · exact key false h (by simp)
    · split at h
      · rename_i he
        exact key true h (fun _ => he)
      · simp at h
  · simp at h
/-- Of all that stands in a tree. -/
def Tr.All {α : Type} (Q : Nat → α → Prop) : Tr α → Nat → Nat → Prop
  | .lf, _, _ => True
  | .nd l v r, m, c => (∀ x, v = some x → Q c x) ∧ Tr.All Q l (2 * m) (m + c) ∧ Tr.All Q r (2 * m) (2 * m + c)
theorem Tr.all_get {α : Type} {Q : Nat → α → Prop} : ∀ (t : Tr α) (m c : Nat), t.All Q m c → ∀ i x, t.get i = some x → Q (m * i + c) x
  | .lf, m, c, h, i, x, hx => by rw [Tr.get_eq, tr_get_lf] at hx; simp at hx
  | .nd l v r, m, c, h, i, x, hx => by
    obtain ⟨h1, h2, h3⟩ := h
    rw [Tr.get_eq] at hx
    simp only [Tr.getS] at hx
    have e1 : ∀ a b : Nat, Nat.div a b = a / b := fun _ _ => rfl
    have e2 : ∀ a b : Nat, Nat.mod a b = a % b := fun _ _ => rfl
    have e3 : ∀ a b : Nat, Nat.sub a b = a - b := fun _ _ => rfl
    split at hx
    · rename_i hi
      have : i = 0 := Nat.eq_of_beq_eq_true hi
      subst this
      simpa using h1 x hx
    · rename_i hi
      have h0 : i ≠ 0 := by intro h; subst h; simp at hi
      split at hx
      · rename_i ho
        have ho : i % 2 = 1 := Nat.eq_of_beq_eq_true ho
        rw [← Tr.get_eq] at hx
        have := Tr.all_get l _ _ h2 _ x hx
        rw [e1] at this
        have e : 2 * m * (i / 2) + (m + c) = m * i + c := by
          have : i = 2 * (i / 2) + 1 := by omega
          conv => rhs; rw [this]
          rw [Nat.mul_add, ← Nat.mul_assoc, Nat.mul_comm m 2]; omega
        rw [e] at this
        exact this
      · rename_i ho
        have ho : i % 2 = 0 := by
          have : i % 2 ≠ 1 := by intro h; rw [e2, h] at ho; simp at ho
          omega
        rw [← Tr.get_eq] at hx
        have := Tr.all_get r _ _ h3 _ x hx
        rw [e1, e3] at this
        have e : 2 * m * (i / 2 - 1) + (2 * m + c) = m * i + c := by
          have : i = 2 * (i / 2 - 1) + 2 := by omega
          conv => rhs; rw [this]
          rw [Nat.mul_add, ← Nat.mul_assoc, Nat.mul_comm m 2]; omega
        rw [e] at this
        exact this
theorem Tr.all_get0 {α : Type} {Q : Nat → α → Prop} {t : Tr α} (h : t.All Q 1 0) {i : Nat} {x : α} (hx : t.get i = some x) : Q i x := by
  have := Tr.all_get t 1 0 h i x hx
  simpa using this
theorem all_some {α : Type} {Q : Nat → α → Prop} {c : Nat} {y : α} (h : Q c y) : ∀ x, some y = some x → Q c x := fun x hx => by
  simp only [Option.some.injEq] at hx
  exact hx ▸ h
theorem all_none {α : Type} {Q : Nat → α → Prop} {c : Nat} : ∀ x, (none : Option α) = some x → Q c x := fun x hx => by simp at hx
theorem all_lf {α : Type} {Q : Nat → α → Prop} {m c : Nat} : (Tr.lf : Tr α).All Q m c := trivial
theorem all_nd {α : Type} {Q : Nat → α → Prop} {l r : Tr α} {v : Option α} {m c : Nat} (h1 : ∀ x, v = some x → Q c x) (h2 : l.All Q (2 * m) (m + c)) (h3 : r.All Q (2 * m) (2 * m + c)) : (Tr.nd l v r).All Q m c := ⟨h1, h2, h3⟩
/-- The methods: a row for each type. -/
noncomputable def lookM (l : List (String × Nat)) (n : String) : Option Nat := List.rec none (fun e _ ih => Bool.rec ih (some e.2) (e.1 == n)) l
theorem lookM_mem {l : List (String × Nat)} {n : String} {f : Nat} (h : lookM l n = some f) : (n, f) ∈ l := by
  induction l with
  | nil => simp [lookM] at h
  | cons e r ih =>
    have : lookM (e :: r) n = Bool.rec (lookM r n) (some e.2) (e.1 == n) := rfl
    rw [this] at h
    cases he : (e.1 == n) with
    | false => rw [he] at h; exact List.mem_cons_of_mem _ (ih h)
    | true =>
      rw [he] at h
      simp only [Option.some.injEq] at h
      have : e.1 = n := by simpa using he
      subst this; subst h
      exact List.mem_cons_self
noncomputable def mTab (t : Tr (List (String × Nat))) (ty : TypeId) (n : String) : Option Nat := match t.get ty with
  | none => none
  | some l => lookM l n
def MethOk (P : Program) (t : TypeId) (e : String × Nat) : Prop := ∀ v w, (method (P.types.size + Made.depth) t v e.1).run P w = .ok (e.2, v) w
def FnOk (P : Program) (f : Nat) (fn : Func) : Prop := P.funcs[f]? = some fn ∧ (fn.name == "runtime.NumGoroutine") = false
def MethsOk (P : Program) (t : TypeId) (l : List (String × Nat)) : Prop := ∀ e ∈ l, MethOk P t e
theorem cok_of {P : Program} {T : Tr TI} {F : Tr Func} {M : Tr (List (String × Nat))} (hT : T.All (TIok P) 1 0) (hF : F.All (FnOk P) 1 0) (hM : M.All (MethsOk P) 1 0) (ho : P.follows .mixedOrders = true) : COk P ⟨T, F, mTab M⟩ where
  T := fun t ti h => Tr.all_get0 hT h
  F := fun f fn h => Tr.all_get0 hF h
  M := fun t name f h v w => by
    simp only [mTab] at h
    split at h
    · simp at h
    · rename_i l hl
      exact Tr.all_get0 hM hl _ (lookM_mem h) v w
  mo := ho
theorem fnok_of {P : Program} {f : Nat} {fn : Func} (h : P.funcs[f]? = some fn) (hn : (fn.name == "runtime.NumGoroutine") = false) : FnOk P f fn := ⟨h, hn⟩
theorem callT_of {P : Program} {C : Cx} (hC : COk P C) : ∀ f fn, C.F.get f = some fn → fn.body.isSome = true → callT P f = true := fun f fn h hb => by
  obtain ⟨h1, h2⟩ := hC.F f fn h
  simp [callT, h1, h2, hb]
theorem meths_nil {P : Program} {t : TypeId} : MethsOk P t [] := fun e h => by simp at h
theorem meths_cons {P : Program} {t : TypeId} {x : String × Nat} {r : List (String × Nat)} (h : MethOk P t x) (k : MethsOk P t r) : MethsOk P t (x :: r) := fun e he => by
  rcases List.mem_cons.mp he with rfl | he
  · exact h
  · exact k e he
/-- Nothing told besides. -/
def ext0 : CallF := fun _ _ _ => none
def extd0 : DefF := fun _ _ _ _ => none
theorem ext0_ok {P : Program} : CallOk P ext0 := fun f args hp r hp' h => by simp [ext0] at h
theorem extd0_ok {P : Program} : DefOk P extd0 := fun f args u hp r u' hp' h => by simp [extd0] at h
end Go.Proofs.YtaahfdjobpbpjaaGreatDoor
