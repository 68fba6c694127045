/- Vs: what the machine's values, objects and memory stand for; the operations that look at no memory. By this project. -/
import Derived.Test.YtaahfdjobpbpjaaGreatDoorVo
set_option linter.unusedVariables false
set_option linter.unusedSectionVars false
set_option linter.unusedSimpArgs false
namespace Go.Proofs.YtaahfdjobpbpjaaGreatDoor
open Go.RowKit Go.Extern.Stop

/-! ### Lists -/
theorem mapO_some {α β : Type} {f : α → Option β} : ∀ {l : List α} {r : List β}, mapO f l = some r → l.map f = r.map some
  | [], r, h => by simp [mapO_nil] at h; subst h; rfl
  | x :: l, r, h => by
    rw [mapO_cons] at h
    cases hx : f x with
    | none => rw [hx] at h; simp at h
    | some y =>
      rw [hx] at h
      cases hl : mapO f l with
      | none => rw [hl] at h; simp at h
      | some ys =>
        rw [hl] at h
        simp at h
        subst h
        simp [hx, mapO_some hl]
theorem getL_eq {α : Type} : ∀ (l : List α) (n : Nat), getL l n = l[n]?
  | [], _ => rfl
  | x :: r, 0 => rfl
  | x :: r, n + 1 => by show getL r n = _; rw [getL_eq r n]; rfl
theorem cutL_some {α : Type} {cs l : List α} {o n : Nat} (h : cutL cs o n = some l) : l = (cs.drop o).take n ∧ l.length = n ∧ o + n ≤ cs.length := by
  unfold cutL at h
  split at h
  · rename_i hb
    have := geL_iff.1 hb
    rw [takeF_eq, dropF_eq] at h
    simp only [Option.some.injEq] at h
    subst h
    exact ⟨rfl, by simp; omega, this⟩
  · simp at h
theorem overF_eq {α : Type} : ∀ (vs cs : List α), vs.length ≤ cs.length → overF vs cs = vs ++ cs.drop vs.length
  | [], cs, _ => rfl
  | v :: r, [], h => by simp at h
  | v :: r, c :: cs, h => by
    show v :: overF r cs = _
    rw [overF_eq r cs (by simp at h; omega)]
    simp
theorem putAt_eq {α : Type} : ∀ (o : Nat) (cs vs : List α), o + vs.length ≤ cs.length → putAt o cs vs = cs.take o ++ vs ++ cs.drop (o + vs.length)
  | o, [], vs, h => by
    cases vs with
    | nil => cases o <;> rfl
    | cons v r => simp only [List.length_cons, List.length_nil] at h; omega
  | 0, c :: cs, vs, h => by
    show overF vs (c :: cs) = _
    rw [overF_eq _ _ (by simpa using h)]
    simp
  | o + 1, c :: cs, vs, h => by
    show c :: putAt o cs vs = _
    rw [putAt_eq o cs vs (by simp at h; omega)]
    rw [show o + 1 + vs.length = (o + vs.length) + 1 by omega]
    simp
theorem putAt_len {α : Type} {o : Nat} {cs vs : List α} (h : o + vs.length ≤ cs.length) : (putAt o cs vs).length = cs.length := by
  rw [putAt_eq o cs vs h]; simp; omega
theorem kindEq_iff {j k : IntKind} : kindEq j k = true ↔ j = k := by cases j <;> cases k <;> simp [kindEq]
theorem intEq_iff (x y : Int) : intEq x y = (x == y) := by
  cases x <;> cases y <;> simp only [intEq]
  · rename_i a b
    rw [Bool.eq_iff_iff]
    simp only [Nat.beq_eq, beq_iff_eq]
    exact ⟨fun h => by rw [h], fun h => Int.ofNat.inj h⟩
  · rw [Bool.eq_iff_iff]; simp
  · rw [Bool.eq_iff_iff]; simp
  · rename_i a b
    rw [Bool.eq_iff_iff]
    simp [Nat.beq_eq]
theorem intLe_iff (x y : Int) : intLe x y = decide (x ≤ y) := by
  unfold intLe
  rw [Bool.eq_iff_iff, decide_eq_true_eq]
  cases h : y - x with
  | ofNat n =>
    have : y - x = (n : Int) := h
    simp; omega
  | negSucc n =>
    have : y - x = -((n : Int) + 1) := by rw [h]; exact Int.negSucc_eq n
    simp; omega
theorem intLt_iff (x y : Int) : intLt x y = decide (x < y) := by
  unfold intLt
  rw [intLe_iff, Bool.eq_iff_iff]
  simp
theorem asNat_some {x : Int} {n : Nat} (h : asNat x = some n) : x = (n : Int) := by
  cases x <;> simp [asNat] at h
  subst h; rfl
theorem byEq_iff : ∀ (x y : List UInt8), byEq x y = (x == y)
  | [], [] => rfl
  | [], _ :: _ => rfl
  | _ :: _, [] => rfl
  | a :: r, b :: s => by
    simp only [byEq]
    rw [byEq_iff r s]
    by_cases h : a = b
    · subst h
      have : Nat.beq a.toNat a.toNat = true := by simp [Nat.beq_eq]
      rw [this]
      simp
    · have : Nat.beq a.toNat b.toNat = false := by
        rw [Bool.eq_false_iff]
        intro h'
        exact h (UInt8.toNat_inj.1 (Nat.eq_of_beq_eq_true h'))
      rw [this]
      rw [Bool.eq_iff_iff]
      simp [h]
theorem byLt_iff : ∀ (x y : List UInt8), byLt x y = Op.bytesLess x y
  | [], [] => rfl
  | _ :: _, [] => by simp [byLt, Op.bytesLess]
  | [], _ :: _ => rfl
  | a :: r, b :: s => by
    simp only [byLt, Op.bytesLess]
    rw [byLt_iff r s]
    by_cases h1 : a.toNat < b.toNat
    · have e1 : Nat.blt a.toNat b.toNat = true := by simpa [Nat.blt_eq] using h1
      have e2 : a < b := UInt8.lt_iff_toNat_lt.2 h1
      rw [e1]
      simp [e2]
    · have e1 : Nat.blt a.toNat b.toNat = false := by
        rw [Bool.eq_false_iff]; simpa [Nat.blt_eq] using h1
      have e2 : ¬ a < b := fun h => h1 (UInt8.lt_iff_toNat_lt.1 h)
      rw [e1]
      by_cases h2 : a = b
      · subst h2
        have : Nat.beq a.toNat a.toNat = true := by simp [Nat.beq_eq]
        simp [this, e2]
      · have : Nat.beq a.toNat b.toNat = false := by
          rw [Bool.eq_false_iff]
          intro h'
          exact h2 (UInt8.toNat_inj.1 (Nat.eq_of_beq_eq_true h'))
        simp [this, e2, h2]

/-! ### Values -/
/-- Of a handle: its block, where it begins there, how many elements more than told. -/
abbrev Env := Nat → Option (Nat × Nat × Nat)
def Env.le (E E' : Env) : Prop := ∀ h x, E h = some x → E' h = some x
theorem Env.le_refl (E : Env) : E.le E := fun _ _ h => h
theorem Env.le_trans {E F G : Env} (h : E.le F) (k : F.le G) : E.le G := fun x y hx => k x y (h x y hx)
mutual
def ren (E : Env) : V → Option Value
  | .b x => some (.bool x)
  | .i k n => some (.int k n)
  | .s x => some (.string ⟨x.toArray⟩)
  | .p none => some (.pointer none)
  | .p (some (h, o)) => (E h).map fun e => .pointer (some ⟨e.1, e.2.1 + o, none⟩)
  | .sl none l c _ => some (.slice none l c)
  | .sl (some (h, o)) l c op => (E h).map fun e => .slice (some ⟨e.1, e.2.1 + o, none⟩) l (if op then c + e.2.2 else c)
  | .m none => some (.map none)
  | .m (some h) => (E h).map fun e => .map (some e.1)
  | .fn f first cap => (renL E first).bind fun a => (renL E cap).map fun b => .func (.func f) a.toArray b.toArray
  | .nf => some .nilFunc
  | .ifc t v => (ren E v).map (.iface t)
  | .ni => some .nilIface
  | .agg cs => (renL E cs).bind fun l => if l.all (·.oneCell') then some (.agg l.toArray) else none
  | .tup vs => (renL E vs).map fun l => .tuple l.toArray
def renL (E : Env) : List V → Option (List Value)
  | [] => some []
  | v :: r => (ren E v).bind fun x => (renL E r).map (x :: ·)
end
theorem renL_cons {E : Env} {v : V} {r : List V} {l : List Value} (h : renL E (v :: r) = some l) : ∃ x t, ren E v = some x ∧ renL E r = some t ∧ l = x :: t := by
  simp only [renL, Option.bind_eq_some_iff, Option.map_eq_some_iff] at h
  obtain ⟨x, h1, t, h2, h3⟩ := h
  exact ⟨x, t, h1, h2, h3.symm⟩
theorem renL_len {E : Env} : ∀ {vs : List V} {l : List Value}, renL E vs = some l → l.length = vs.length
  | [], l, h => by simp [renL] at h; subst h; rfl
  | v :: r, l, h => by
    obtain ⟨x, t, _, h2, rfl⟩ := renL_cons h
    simp [renL_len h2]
theorem renL_get {E : Env} : ∀ {vs : List V} {l : List Value} {n : Nat} {v : V}, renL E vs = some l → vs[n]? = some v → ∃ x, l[n]? = some x ∧ ren E v = some x
  | [], l, n, v, h, hv => by simp at hv
  | u :: r, l, n, v, h, hv => by
    obtain ⟨x, t, h1, h2, rfl⟩ := renL_cons h
    cases n with
    | zero => simp at hv; subst hv; exact ⟨x, rfl, h1⟩
    | succ n => simpa using renL_get h2 (by simpa using hv)
theorem renL_drop {E : Env} : ∀ {vs : List V} {l : List Value} (n : Nat), renL E vs = some l → renL E (vs.drop n) = some (l.drop n)
  | vs, l, 0, h => by simpa using h
  | [], l, n + 1, h => by simp [renL] at h; subst h; simp [renL]
  | u :: r, l, n + 1, h => by
    obtain ⟨x, t, h1, h2, rfl⟩ := renL_cons h
    simpa using renL_drop n h2
theorem renL_take {E : Env} : ∀ {vs : List V} {l : List Value} (n : Nat), renL E vs = some l → renL E (vs.take n) = some (l.take n)
  | vs, l, 0, h => by simp [renL]
  | [], l, n + 1, h => by simp [renL] at h; subst h; simp [renL]
  | u :: r, l, n + 1, h => by
    obtain ⟨x, t, h1, h2, rfl⟩ := renL_cons h
    simp only [List.take_succ_cons, renL, h1, renL_take n h2, Option.bind_some, Option.map_some]
theorem renL_app {E : Env} : ∀ {vs us : List V} {l m : List Value}, renL E vs = some l → renL E us = some m → renL E (vs ++ us) = some (l ++ m)
  | [], us, l, m, h, k => by simp [renL] at h; subst h; simpa using k
  | u :: r, us, l, m, h, k => by
    obtain ⟨x, t, h1, h2, rfl⟩ := renL_cons h
    simp only [List.cons_append, renL, h1, renL_app h2 k, Option.bind_some, Option.map_some]
theorem renL_map {E : Env} : ∀ {vs : List V} {l : List Value}, renL E vs = some l → vs.map (ren E) = l.map some
  | [], l, h => by simp [renL] at h; subst h; rfl
  | u :: r, l, h => by
    obtain ⟨x, t, h1, h2, rfl⟩ := renL_cons h
    simp [h1, renL_map h2]
theorem renL_of_map {E : Env} : ∀ {vs : List V} {l : List Value}, vs.map (ren E) = l.map some → renL E vs = some l
  | [], l, h => by simp at h; subst h; rfl
  | u :: r, [], h => by simp at h
  | u :: r, x :: t, h => by
    simp only [List.map_cons, List.cons.injEq] at h
    simp [renL, h.1, renL_of_map h.2]
theorem renL_putAt {E : Env} {cs vs : List V} {l m : List Value} {o : Nat} (h : renL E cs = some l) (k : renL E vs = some m) (ho : o + vs.length ≤ cs.length) : renL E (putAt o cs vs) = some (l.take o ++ m ++ l.drop (o + m.length)) := by
  rw [putAt_eq o cs vs ho, renL_len k]
  exact renL_app (renL_app (renL_take o h) k) (renL_drop _ h)
theorem renL_rep {E : Env} {vs : List V} {l : List Value} (h : renL E vs = some l) : ∀ n, renL E (repL vs n) = some (repL l n)
  | 0 => rfl
  | n + 1 => by rw [repL_succ, repL_succ]; exact renL_app h (renL_rep h n)
theorem repL_all {l : List Value} (h : l.all (·.oneCell') = true) : ∀ n, (repL l n).all (·.oneCell') = true
  | 0 => rfl
  | n + 1 => by simp only [repL_succ, List.all_append, h, repL_all h n, Bool.and_self]
theorem repL_len {α : Type} (l : List α) : ∀ n, (repL l n).length = n * l.length
  | 0 => by simp [repL_zero]
  | n + 1 => by simp [repL_succ, repL_len l n, Nat.succ_mul, Nat.add_comm]
mutual
theorem ren_mono {E E' : Env} (h : E.le E') : ∀ {v : V} {x : Value}, ren E v = some x → ren E' v = some x
  | .b _, x, hx => hx
  | .i _ _, x, hx => hx
  | .s _, x, hx => hx
  | .p none, x, hx => hx
  | .p (some (a, o)), x, hx => by
    simp only [ren, Option.map_eq_some_iff] at hx ⊢
    obtain ⟨e, h1, h2⟩ := hx
    exact ⟨e, h _ _ h1, h2⟩
  | .sl none _ _ _, x, hx => hx
  | .sl (some (a, o)) l c op, x, hx => by
    simp only [ren, Option.map_eq_some_iff] at hx ⊢
    obtain ⟨e, h1, h2⟩ := hx
    exact ⟨e, h _ _ h1, h2⟩
  | .m none, x, hx => hx
  | .m (some a), x, hx => by
    simp only [ren, Option.map_eq_some_iff] at hx ⊢
    obtain ⟨e, h1, h2⟩ := hx
    exact ⟨e, h _ _ h1, h2⟩
  | .fn f first cap, x, hx => by
    simp only [ren, Option.map_eq_some_iff, Option.bind_eq_some_iff] at hx ⊢
    obtain ⟨a, h1, b, h2, h3⟩ := hx
    exact ⟨a, renL_mono h h1, b, renL_mono h h2, h3⟩
  | .nf, x, hx => hx
  | .ifc t v, x, hx => by
    simp only [ren, Option.map_eq_some_iff] at hx ⊢
    obtain ⟨e, h1, h2⟩ := hx
    exact ⟨e, ren_mono h h1, h2⟩
  | .ni, x, hx => hx
  | .agg cs, x, hx => by
    simp only [ren, Option.bind_eq_some_iff] at hx ⊢
    obtain ⟨e, h1, h2⟩ := hx
    exact ⟨e, renL_mono h h1, h2⟩
  | .tup vs, x, hx => by
    simp only [ren, Option.map_eq_some_iff] at hx ⊢
    obtain ⟨e, h1, h2⟩ := hx
    exact ⟨e, renL_mono h h1, h2⟩
theorem renL_mono {E E' : Env} (h : E.le E') : ∀ {vs : List V} {l : List Value}, renL E vs = some l → renL E' vs = some l
  | [], l, hx => hx
  | v :: r, l, hx => by
    obtain ⟨x, t, h1, h2, rfl⟩ := renL_cons hx
    simp [renL, ren_mono h h1, renL_mono h h2]
end
theorem ren_agg {E : Env} {cs : List V} {x : Value} (h : ren E (.agg cs) = some x) : ∃ l, renL E cs = some l ∧ l.all (·.oneCell') = true ∧ x = .agg l.toArray := by
  simp only [ren, Option.bind_eq_some_iff] at h
  obtain ⟨l, h1, h2⟩ := h
  split at h2
  · rename_i h3
    simp at h2
    exact ⟨l, h1, h3, h2.symm⟩
  · simp at h2
theorem ren_agg_mk {E : Env} {cs : List V} {l : List Value} (h : renL E cs = some l) (h1 : l.all (·.oneCell') = true) : ren E (.agg cs) = some (.agg l.toArray) := by
  simp only [ren, h, h1, Option.bind_some, if_true]
theorem ren_one {E : Env} {v : V} {x : Value} (h : ren E v = some x) (h1 : v.one = true) : x.oneCell' = true ∧ x.cells = #[x] := by
  cases v <;> simp only [V.one] at h1 <;> try (simp at h1; done)
  case b => simp [ren] at h; subst h; exact ⟨rfl, rfl⟩
  case i => simp [ren] at h; subst h; exact ⟨rfl, rfl⟩
  case s => simp [ren] at h; subst h; exact ⟨rfl, rfl⟩
  case p a =>
    cases a with
    | none => simp [ren] at h; subst h; exact ⟨rfl, rfl⟩
    | some a => simp only [ren, Option.map_eq_some_iff] at h; obtain ⟨e, _, rfl⟩ := h; exact ⟨rfl, rfl⟩
  case sl a l c op =>
    cases a with
    | none => simp [ren] at h; subst h; exact ⟨rfl, rfl⟩
    | some a => simp only [ren, Option.map_eq_some_iff] at h; obtain ⟨e, _, rfl⟩ := h; exact ⟨rfl, rfl⟩
  case m a =>
    cases a with
    | none => simp [ren] at h; subst h; exact ⟨rfl, rfl⟩
    | some a => simp only [ren, Option.map_eq_some_iff] at h; obtain ⟨e, _, rfl⟩ := h; exact ⟨rfl, rfl⟩
  case fn f first cap =>
    simp only [ren, Option.map_eq_some_iff, Option.bind_eq_some_iff] at h
    obtain ⟨a, _, b, _, rfl⟩ := h
    exact ⟨rfl, rfl⟩
  case nf => simp [ren] at h; subst h; exact ⟨rfl, rfl⟩
  case ifc t v => simp only [ren, Option.map_eq_some_iff] at h; obtain ⟨e, _, rfl⟩ := h; exact ⟨rfl, rfl⟩
  case ni => simp [ren] at h; subst h; exact ⟨rfl, rfl⟩
/-- A value's cells. -/
theorem ren_cells {E : Env} {v : V} {x : Value} {cs : List V} (h : ren E v = some x) (hc : v.cells = some cs) : ∃ l, renL E cs = some l ∧ l.all (·.oneCell') = true ∧ x.cells = l.toArray := by
  by_cases h1 : v.one = true
  · have h2 := ren_one h h1
    have : cs = [v] := by cases v <;> simp [V.cells, V.one] at hc h1 <;> exact hc.symm
    subst this
    exact ⟨[x], by simp [renL, h], by simp [h2.1], h2.2⟩
  · cases v <;> simp [V.one] at h1
    · obtain ⟨l, h2, h3, rfl⟩ := ren_agg h
      simp [V.cells] at hc
      subst hc
      exact ⟨l, h2, h3, rfl⟩
    · simp [V.cells] at hc
theorem ofVal1_ren {x : Value} {v : V} (h : ofVal1 x = some v) (E : Env) : ren E v = some x ∧ v.one = true := by
  cases x with
  | bool b => simp [ofVal1] at h; subst h; exact ⟨rfl, rfl⟩
  | int k n => simp [ofVal1] at h; subst h; exact ⟨rfl, rfl⟩
  | string s => simp [ofVal1] at h; subst h; exact ⟨by simp [ren], rfl⟩
  | pointer a => cases a <;> simp [ofVal1] at h; subst h; exact ⟨rfl, rfl⟩
  | slice a l c => cases a <;> simp [ofVal1] at h; subst h; exact ⟨rfl, rfl⟩
  | map a => cases a <;> simp [ofVal1] at h; subst h; exact ⟨rfl, rfl⟩
  | nilFunc => simp [ofVal1] at h; subst h; exact ⟨rfl, rfl⟩
  | nilIface => simp [ofVal1] at h; subst h; exact ⟨rfl, rfl⟩
  | _ => simp [ofVal1] at h
theorem mapO_ren {l : List Value} {vs : List V} (h : mapO ofVal1 l = some vs) (E : Env) : renL E vs = some l ∧ l.all (·.oneCell') = true := by
  induction l generalizing vs with
  | nil => simp [mapO_nil] at h; subst h; exact ⟨rfl, rfl⟩
  | cons x r ih =>
    rw [mapO_cons] at h
    cases hx : ofVal1 x with
    | none => rw [hx] at h; simp at h
    | some y =>
      rw [hx] at h
      cases hl : mapO ofVal1 r with
      | none => rw [hl] at h; simp at h
      | some ys =>
        rw [hl] at h
        simp at h
        subst h
        have h1 := ofVal1_ren hx E
        have h2 := ih hl
        have h3 := ren_one h1.1 h1.2
        exact ⟨by simp [renL, h1.1, h2.1], by simp only [List.all_cons, h3.1, h2.2, Bool.and_self]⟩
theorem ofVal_ren {x : Value} {v : V} (h : ofVal x = some v) (E : Env) : ren E v = some x := by
  have key : ofVal1 x = some v → ren E v = some x := fun h => (ofVal1_ren h E).1
  cases x with
  | agg cs =>
    simp only [ofVal] at h
    cases hm : mapO ofVal1 cs.toList with
    | none => rw [hm] at h; simp at h
    | some l =>
      rw [hm] at h
      simp at h
      subst h
      have := mapO_ren hm E
      rw [ren_agg_mk this.1 this.2]
  | tuple vs =>
    simp only [ofVal] at h
    cases hv : vs.toList with
    | nil =>
      rw [hv] at h
      simp at h
      subst h
      have : vs = #[] := by apply Array.ext'; simpa using hv
      subst this
      rfl
    | cons a b => rw [hv] at h; simp at h
  | _ => exact key h
end Go.Proofs.YtaahfdjobpbpjaaGreatDoor
