/- Vb: the machine's arithmetic, comparisons and conversions, against the world's. By this project. -/
import Derived.Test.YtaahfdjobpbpjaaGreatDoorVz
import Derived.Laws.Strings
import Derived.Laws.Concat
set_option linter.unusedVariables false
set_option linter.unusedSectionVars false
set_option linter.unusedSimpArgs false
namespace Go.Proofs.YtaahfdjobpbpjaaGreatDoor
open Go.RowKit Go.Extern.Stop

theorem vint_ok {op : BinOp} {k : IntKind} {x y : Int} {v : V} (h : vint op k x y = some v) (t : TypeId) (E : Env) : ∃ X, ren E v = some X ∧ binOp op t (.int k x) (.int k y) = pure X := by
  cases op <;> simp only [vint] at h
  case add => simp only [Option.some.injEq] at h; subst h; exact ⟨_, rfl, bin_add ..⟩
  case sub => simp only [Option.some.injEq] at h; subst h; exact ⟨_, rfl, bin_sub ..⟩
  case mul => simp only [Option.some.injEq] at h; subst h; exact ⟨_, rfl, bin_mul ..⟩
  case quo =>
    split at h
    · simp at h
    · rename_i hz
      simp only [Option.some.injEq] at h; subst h
      rw [intEq_iff] at hz
      exact ⟨_, rfl, bin_quo t k x y (by simpa using hz)⟩
  case rem =>
    split at h
    · simp at h
    · rename_i hz
      simp only [Option.some.injEq] at h; subst h
      rw [intEq_iff] at hz
      exact ⟨_, rfl, bin_rem t k x y (by simpa using hz)⟩
  case and => simp only [Option.some.injEq] at h; subst h; exact ⟨_, rfl, bin_and ..⟩
  case or => simp only [Option.some.injEq] at h; subst h; exact ⟨_, rfl, bin_or ..⟩
  case xor => simp only [Option.some.injEq] at h; subst h; exact ⟨_, rfl, bin_xor ..⟩
  case andNot => simp only [Option.some.injEq] at h; subst h; exact ⟨_, rfl, by simp [binOp, Op.intBits]⟩
  case eql => simp only [Option.some.injEq] at h; subst h; exact ⟨_, rfl, by rw [bin_eql, intEq_iff]⟩
  case neq => simp only [Option.some.injEq] at h; subst h; exact ⟨_, rfl, by rw [bin_neq, intEq_iff]; rfl⟩
  case lss => simp only [Option.some.injEq] at h; subst h; exact ⟨_, rfl, by rw [bin_lss, intLt_iff]⟩
  case leq => simp only [Option.some.injEq] at h; subst h; exact ⟨_, rfl, by rw [bin_leq, intLe_iff]⟩
  case gtr => simp only [Option.some.injEq] at h; subst h; exact ⟨_, rfl, by rw [bin_gtr, intLt_iff]⟩
  case geq => simp only [Option.some.injEq] at h; subst h; exact ⟨_, rfl, by rw [bin_geq, intLe_iff]⟩
  all_goals simp at h
theorem vshift_ok {op : BinOp} {k k' : IntKind} {x y : Int} {v : V} (h : vshift op k x y = some v) (t : TypeId) (E : Env) : ∃ X, ren E v = some X ∧ binOp op t (.int k x) (.int k' y) = pure X := by
  simp only [vshift, Option.bind_eq_some_iff] at h
  obtain ⟨n, hn, h⟩ := h
  have := asNat_some hn
  subst this
  cases op <;> simp only at h <;> try (simp at h; done)
  · simp only [Option.some.injEq] at h; subst h
    exact ⟨_, rfl, by rw [bin_shl t k k' x n (by omega)]; simp⟩
  · simp only [Option.some.injEq] at h; subst h
    exact ⟨_, rfl, by rw [bin_shr t k k' x n (by omega)]; simp⟩
theorem vstr_ok {P : Program} {op : BinOp} {x y : List UInt8} {v : V} (h : vstr op x y = some v) (t : TypeId) (E : Env) (w : World) : ∃ X, ren E v = some X ∧ (binOp op t (.string ⟨x.toArray⟩) (.string ⟨y.toArray⟩)).run P w = .ok X w := by
  cases op <;> simp only [vstr] at h
  case add =>
    split at h
    · rename_i hb
      have hb := Nat.le_of_ble_eq_true hb
      rw [lenF_eq, lenF_eq] at hb
      rw [appF_eq] at h
      simp only [Option.some.injEq] at h; subst h
      refine ⟨_, rfl, ?_⟩
      rw [binOp_string_add]
      have := run_string_add_sum (P := P) (w := w) ⟨x.toArray⟩ ⟨y.toArray⟩ (by simp [ByteArray.size]; omega)
      rw [this]
      congr 2
      first | done | (apply ByteArray.ext; simp)
    · simp at h
  case eql => simp only [Option.some.injEq] at h; subst h; exact ⟨_, rfl, by rw [binOp_string_eql, ByteArray.toList_eq, ByteArray.toList_eq, byEq_iff]; rfl⟩
  case neq => simp only [Option.some.injEq] at h; subst h; exact ⟨_, rfl, by rw [binOp_string_neq, ByteArray.toList_eq, ByteArray.toList_eq, byEq_iff]; rfl⟩
  case lss => simp only [Option.some.injEq] at h; subst h; exact ⟨_, rfl, by rw [binOp_string_lss, ByteArray.toList_eq, ByteArray.toList_eq, byLt_iff]; rfl⟩
  case leq => simp only [Option.some.injEq] at h; subst h; exact ⟨_, rfl, by simp only [binOp, Op.stringOp, ByteArray.toList_eq, byEq_iff, byLt_iff]; rfl⟩
  case gtr => simp only [Option.some.injEq] at h; subst h; exact ⟨_, rfl, by simp only [binOp, Op.stringOp, ByteArray.toList_eq, byEq_iff, byLt_iff]; rfl⟩
  case geq => simp only [Option.some.injEq] at h; subst h; exact ⟨_, rfl, by simp only [binOp, Op.stringOp, ByteArray.toList_eq, byEq_iff, byLt_iff]; rfl⟩
  all_goals simp at h
/-- What kind of value. -/
def tagX : Value → Nat
  | .bool _ => 0
  | .int _ _ => 1
  | .string _ => 2
  | .pointer _ => 3
  | .slice _ _ _ => 4
  | .map _ => 5
  | .func _ _ _ => 6
  | .nilFunc => 7
  | .iface _ _ => 8
  | .nilIface => 9
  | .agg _ => 10
  | .tuple _ => 11
  | _ => 12
def tagV : V → Nat
  | .b _ => 0
  | .i _ _ => 1
  | .s _ => 2
  | .p _ => 3
  | .sl _ _ _ _ => 4
  | .m _ => 5
  | .fn _ _ _ => 6
  | .nf => 7
  | .ifc _ _ => 8
  | .ni => 9
  | .agg _ => 10
  | .tup _ => 11
theorem ren_tag {E : Env} {v : V} {X : Value} (h : ren E v = some X) : tagX X = tagV v := by
  cases v with
  | b x => simp [ren] at h; subst h; rfl
  | i k n => simp [ren] at h; subst h; rfl
  | s x => simp [ren] at h; subst h; rfl
  | p a =>
    cases a with
    | none => simp [ren] at h; subst h; rfl
    | some a => simp only [ren, Option.map_eq_some_iff] at h; obtain ⟨_, _, rfl⟩ := h; rfl
  | sl a l c op =>
    cases a with
    | none => simp [ren] at h; subst h; rfl
    | some a => simp only [ren, Option.map_eq_some_iff] at h; obtain ⟨_, _, rfl⟩ := h; rfl
  | m a =>
    cases a with
    | none => simp [ren] at h; subst h; rfl
    | some a => simp only [ren, Option.map_eq_some_iff] at h; obtain ⟨_, _, rfl⟩ := h; rfl
  | fn f first cap =>
    simp only [ren, Option.map_eq_some_iff, Option.bind_eq_some_iff] at h
    obtain ⟨_, _, _, _, rfl⟩ := h; rfl
  | nf => simp [ren] at h; subst h; rfl
  | ifc t v => simp only [ren, Option.map_eq_some_iff] at h; obtain ⟨_, _, rfl⟩ := h; rfl
  | ni => simp [ren] at h; subst h; rfl
  | agg cs => obtain ⟨_, _, _, rfl⟩ := ren_agg h; rfl
  | tup vs => simp only [ren, Option.map_eq_some_iff] at h; obtain ⟨_, _, rfl⟩ := h; rfl
section
variable {P : Program} {C : Cx} (hC : COk P C) {E : Env} {hp : Hp} {w : World} (hR : Rep E hp.t w) {fr : Tr V} {a : Act} (hF : FrR E fr a)
theorem isConst_eval {x : Operand} (h : isConstO x = true) : ∃ c, x = .const c := by cases x <;> simp [isConstO] at h; exact ⟨_, rfl⟩
include hC in
/-- '==' and what is looked at ahead of it. -/
theorem veqOp_ok {op : BinOp} (hop : op = .eql ∨ op = .neq) {t : TypeId} {x y : Operand} {p q : V} {X Y : Value} {b : Bool} (hR : Rep E hp.t w) (h : veqOp C hp t x y p q = some b) (hX : ren E p = some X) (hY : ren E q = some Y) :
    (eqGuard op t x y X Y).run P w = .ok () w ∧ (Op.equal t X Y).run P w = .ok b w := by
  have hneg : (!(match op with | .eql => true | .neq => true | _ => false)) = false := by rcases hop with rfl | rfl <;> rfl
  unfold veqOp at h
  split at h
  · simp only [ren, Option.some.injEq] at hX hY
    subst hX hY
    split at h
    · rename_i hc
      refine ⟨?_, veq_run hC (by omega) h hR rfl rfl⟩
      simp only [Bool.or_eq_true] at hc
      rcases hc with hc | hc <;> obtain ⟨c, rfl⟩ := isConst_eval hc <;> rcases hop with rfl | rfl <;> simp [eqGuard]
    · simp at h
  · rename_i xs ys
    simp only [Option.bind_eq_some_iff] at h
    obtain ⟨ti, ht, h⟩ := h
    split at h
    · rename_i heq
      have hg := ((tiV_ok hC ht).eq heq).2.1
      refine ⟨?_, veq_run hC (by omega) h hR hX hY⟩
      obtain ⟨l, _, _, rfl⟩ := ren_agg hX
      obtain ⟨m, _, _, rfl⟩ := ren_agg hY
      rcases hop with rfl | rfl <;> simp [eqGuard, hg, program, Sem.run]
    · simp at h
  · rename_i hn1 hn2
    refine ⟨?_, veq_run hC (by omega) h hR hX hY⟩
    have g1 : ¬ (X = .nilIface ∧ Y = .nilIface) := fun ⟨e1, e2⟩ => by
      subst e1 e2
      have n1 := ren_tag hX
      have n2 := ren_tag hY
      cases p <;> simp [tagX, tagV] at n1
      cases q <;> simp [tagX, tagV] at n2
      exact hn1 rfl rfl
    have g2 : ∀ l m, ¬ (X = .agg l ∧ Y = .agg m) := fun l m ⟨e1, e2⟩ => by
      subst e1 e2
      have n1 := ren_tag hX
      have n2 := ren_tag hY
      cases p <;> simp [tagX, tagV] at n1
      cases q <;> simp [tagX, tagV] at n2
      exact hn2 _ _ rfl rfl
    rcases hop with rfl | rfl <;> (unfold eqGuard; simp only [Bool.not_true, Bool.false_eq_true, if_false]; cases X <;> cases Y <;> first | rfl | (exact absurd ⟨rfl, rfl⟩ g1) | (exact absurd ⟨rfl, rfl⟩ (g2 _ _)))
theorem bin_other {op : BinOp} {t : TypeId} {X Y : Value} (hi : ∀ k a j b, ¬ (X = .int k a ∧ Y = .int j b)) (hs : ∀ a b, ¬ (X = .string a ∧ Y = .string b)) (hop : op = .eql) (hf : ∀ k a, X ≠ .float k a) (hc : ∀ k a b, X ≠ .complex k a b) : binOp op t X Y = (do pure (.bool (← Op.equal t X Y))) := by
  subst hop
  cases X <;> cases Y <;> first | rfl | (exact absurd ⟨rfl, rfl⟩ (hi _ _ _ _)) | (exact absurd ⟨rfl, rfl⟩ (hs _ _)) | (exact absurd rfl (hf _ _)) | (exact absurd rfl (hc _ _ _))
theorem bin_other' {op : BinOp} {t : TypeId} {X Y : Value} (hi : ∀ k a j b, ¬ (X = .int k a ∧ Y = .int j b)) (hs : ∀ a b, ¬ (X = .string a ∧ Y = .string b)) (hop : op = .neq) (hf : ∀ k a, X ≠ .float k a) (hc : ∀ k a b, X ≠ .complex k a b) : binOp op t X Y = (do pure (.bool (!(← Op.equal t X Y)))) := by
  subst hop
  cases X <;> cases Y <;> first | rfl | (exact absurd ⟨rfl, rfl⟩ (hi _ _ _ _)) | (exact absurd ⟨rfl, rfl⟩ (hs _ _)) | (exact absurd rfl (hf _ _)) | (exact absurd rfl (hc _ _ _))
theorem ren_int {v : V} {k : IntKind} {n : Int} (h : ren E v = some (.int k n)) : v = .i k n := by
  have t := ren_tag h
  cases v <;> simp [tagX, tagV] at t
  simp only [ren, Option.some.injEq, Value.int.injEq] at h
  rw [h.1, h.2]
theorem ren_string {v : V} {s : ByteArray} (h : ren E v = some (.string s)) : ∃ x, v = .s x := by
  have t := ren_tag h
  cases v <;> simp [tagX, tagV] at t
  exact ⟨_, rfl⟩
theorem ren_not_float {v : V} {k : FloatKind} {n : Nat} : ren E v ≠ some (.float k n) := fun h => by
  have t := ren_tag h
  cases v <;> simp [tagX, tagV] at t
theorem ren_not_complex {v : V} {k : FloatKind} {n m : Nat} : ren E v ≠ some (.complex k n m) := fun h => by
  have t := ren_tag h
  cases v <;> simp [tagX, tagV] at t
include hC in
theorem vbin_ok {op : BinOp} {t : TypeId} {x y : Operand} {p q v : V} {X Y : Value} (hR : Rep E hp.t w) (h : vbin C hp op t x y p q = some v) (hX : ren E p = some X) (hY : ren E q = some Y) :
    ∃ Z, ren E v = some Z ∧ (do eqGuard op t x y X Y; binOp op t X Y : Sem Value).run P w = .ok Z w := by
  unfold vbin at h
  split at h
  · rename_i k n k' m
    simp only [ren, Option.some.injEq] at hX hY
    subst hX hY
    rw [eqGuard_int]
    split at h
    · obtain ⟨Z, h1, h2⟩ := vshift_ok (k' := k') h t E
      exact ⟨Z, h1, by rw [h2]; rfl⟩
    · obtain ⟨Z, h1, h2⟩ := vshift_ok (k' := k') h t E
      exact ⟨Z, h1, by rw [h2]; rfl⟩
    · split at h
      · rename_i hk
        have := kindEq_iff.1 hk
        subst this
        obtain ⟨Z, h1, h2⟩ := vint_ok h t E
        exact ⟨Z, h1, by rw [h2]; rfl⟩
      · simp at h
  · rename_i s s'
    simp only [ren, Option.some.injEq] at hX hY
    subst hX hY
    obtain ⟨Z, h1, h2⟩ := vstr_ok (P := P) h t E w
    refine ⟨Z, h1, ?_⟩
    have : eqGuard op t x y (.string ⟨s.toArray⟩) (.string ⟨s'.toArray⟩) = pure () := by cases op <;> rfl
    rw [this]
    exact h2
  · rename_i hni hns
    have hi : ∀ k a j b, ¬ (X = .int k a ∧ Y = .int j b) := fun k a j b ⟨e1, e2⟩ => by
      subst e1 e2
      exact hni _ _ _ _ (ren_int hX) (ren_int hY)
    have hs : ∀ a b, ¬ (X = .string a ∧ Y = .string b) := fun a b ⟨e1, e2⟩ => by
      subst e1 e2
      obtain ⟨_, rfl⟩ := ren_string hX
      obtain ⟨_, rfl⟩ := ren_string hY
      exact hns _ _ rfl rfl
    have hf : ∀ k a, X ≠ .float k a := fun k a e => ren_not_float (e ▸ hX)
    have hc : ∀ k a b, X ≠ .complex k a b := fun k a b e => ren_not_complex (e ▸ hX)
    split at h
    · simp only [Option.bind_eq_some_iff, Option.some.injEq] at h
      obtain ⟨b, hb, rfl⟩ := h
      obtain ⟨h1, h2⟩ := veqOp_ok hC (.inl rfl) hR hb hX hY
      exact ⟨.bool b, rfl, by rw [Sem.run_bind, h1, bin_other hi hs rfl hf hc]; simp [h2]⟩
    · simp only [Option.bind_eq_some_iff, Option.some.injEq] at h
      obtain ⟨b, hb, rfl⟩ := h
      obtain ⟨h1, h2⟩ := veqOp_ok hC (.inr rfl) hR hb hX hY
      exact ⟨.bool (!b), rfl, by rw [Sem.run_bind, h1, bin_other' hi hs rfl hf hc]; simp [h2]⟩
    · simp at h
end
end Go.Proofs.YtaahfdjobpbpjaaGreatDoor
