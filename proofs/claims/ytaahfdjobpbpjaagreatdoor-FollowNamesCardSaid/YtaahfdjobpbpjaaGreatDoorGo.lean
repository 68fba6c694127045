/- Go: a rule for going on without care; bytes. By this project. -/
import Derived.Test.YtaahfdjobpbpjaaGreatDoorSl
import Derived.IntWalk
set_option linter.unusedVariables false
set_option linter.unusedSimpArgs false
namespace Go.Proofs.YtaahfdjobpbpjaaGreatDoor
open Go.RowKit Go.Extern.Stop

def noLoop : Code → Bool
  | .loop _ => false
  | .scope _ => false
  | .seq a b => noLoop a && noLoop b
  | .cond _ a b => noLoop a && noLoop b
  | .block _ c => noLoop c
  | _ => true
section
variable {P : Program} {n : Nat} {w0 : World} {l : FL} {L : HL} {Q : GQ} {ops : Array Oper} {rest : List Oper}
theorem gl_heap {L' : HL} (hL : ∀ w, St w0 w L → St w0 w L') (h : GL P n w0 ops rest l L' Q) : GL P n w0 ops rest l L Q := by
  unfold GL at h ⊢
  exact fun a w hf hs => h a w hf (hL w hs)
theorem g_seqN {x y : Code} (hx : noLoop x = true) (h : G P n w0 x l L (gthen (fun l L => G P n w0 y l L Q) Q)) : G P n w0 (.seq x y) l L Q := g_seq h
end
/-! ### The blocks told, in another order -/
def offR (x y : Option Nat × Obj) : Prop := x.1 = none ∨ x.1 ≠ y.1
theorem offR_symm {x y : Option Nat × Obj} (h : offR x y) : offR y x := by
  unfold offR at *
  rcases h with h | h
  · cases hy : y.1 with
    | none => exact .inl rfl
    | some b => exact .inr (by rw [h]; simp)
  · exact .inr fun e => h e.symm
theorem St.off {w0 w : World} {L : HL} (h : St w0 w L) : L.Pairwise offR := by
  rw [List.pairwise_iff_getElem]
  intro i j hi hj hij
  cases e : L[i].1 with
  | none => exact .inl e
  | some b =>
    refine .inr fun e2 => ?_
    have := h.one i j b L[i].2 L[j].2 (by rw [List.getElem?_eq_getElem hi, ← e]) (by rw [List.getElem?_eq_getElem hj, ← e, e2])
    omega
theorem St.of_off {w0 w : World} {L L' : HL} (h : St w0 w L) (hm : ∀ x ∈ L', x ∈ L) (ho : L'.Pairwise offR) : St w0 w L' := by
  refine ⟨h.below, fun i b o hi => ?_, fun i j b o o' hi hj => ?_⟩
  · obtain ⟨j, hj⟩ := List.getElem?_of_mem (hm _ (List.mem_of_getElem? hi))
    exact h.has j b o hj
  · rw [List.pairwise_iff_getElem] at ho
    obtain ⟨i1, i2⟩ := List.getElem?_eq_some_iff.1 hi
    obtain ⟨j1, j2⟩ := List.getElem?_eq_some_iff.1 hj
    rcases Nat.lt_trichotomy i j with g | g | g
    · have := ho i j i1 j1 g
      rw [i2, j2] at this
      rcases this with e | e <;> simp at e
    · exact g
    · have := ho j i j1 i1 g
      rw [i2, j2] at this
      rcases this with e | e <;> simp at e
theorem St.perm {w0 w : World} {L L' : HL} (h : St w0 w L) (p : L.Perm L') : St w0 w L' := h.of_off (fun x hx => p.mem_iff.2 hx) ((p.pairwise_iff (fun h => offR_symm h)).1 h.off)
theorem St.sub {w0 w : World} {L L' : HL} (h : St w0 w L) (s : L'.Sublist L) : St w0 w L' := h.of_off (fun x hx => s.subset hx) (h.off.sublist s)
theorem St.rot {w0 w : World} {x y z : Option Nat × Obj} {T : HL} (h : St w0 w (x :: y :: z :: T)) : St w0 w (y :: z :: x :: T) := h.perm ((List.Perm.swap y x (z :: T)).trans ((List.Perm.swap z x T).cons y))
theorem none_row {w0 w : World} {L : HL} {E : TypeId} (h : St w0 w L) : St w0 w ((none, .cells #[] E (0, 0)) :: L) :=
  ⟨h.below, fun i b o hi => by
    cases i with
    | zero => simp at hi
    | succ i => exact h.has i b o (by simpa using hi), fun i j b o o' hi hj => by
    cases i with
    | zero => simp at hi
    | succ i =>
      cases j with
      | zero => simp at hj
      | succ j => exact congrArg (· + 1) (h.one i j b o o' (by simpa using hi) (by simpa using hj))⟩
theorem ov_extr {P : Program} {w0 : World} {l : FL} {L : HL} {i : Nat} {x : Operand} {vs : List Value} {v : Value} {dst : Option Tmp} {ty : TypeId} {ps : String} {af : Array Edge} {gd : Option (Nat × Bool)} (hx : evl l x = some (.tuple vs.toArray)) (hv : vs[i]? = some v) : OV P w0 L l ⟨dst, .extract x i, ty, ps, af, gd⟩ v :=
  ov_extract hx (by simpa using hv)
theorem un_neg (k : IntKind) (p : Int) : Op.unary .neg (.int k p) = pure (.int k (k.wrap (0 - p))) := by simp [Op.unary, Op.intArith]
/-- An append to a row of the call's own, of whatever number of elements. -/
theorem ef_appX {P : Program} {n : Nat} {w0 : World} {l : FL} {L : HL} {K : FL → HL → Prop} {tS tX e e' : TypeId} {s x : Operand} {B : Option Addr} {r : Option Nat} {m c k c2 sz bs d : Nat} {z : Value} (i : Nat) {xs sp new : List Value} {ty : TypeId} {ps : String} {af : Array Edge} {gd : Option (Nat × Bool)} (hlt : Nat.ble (d + 1) n = true)
    (hs : evl l s = some (.slice (rowA r) m c)) (hx : evl l x = some (.slice B k c2)) [tS' : SliceT P tS e] [tX' : SliceT P tX e'] [hz : SizeT P e sz] [hb : BytesT P e bs] [hZ : ZeroT P e z] {zc : List Value} [hzc : CellsOf z zc] (hzl : zc.length = sz)
    (hL : L[i]? = some (r, .cells (xs ++ sp).toArray e (0, 0))) (hrow : RowOk r m c sz sp) (hxl : xs.length = m * sz)
    (hnew : RS w0 L B new) (hnl : new.length = k * sz) (h1 : new.all (·.oneCell') = true) (hsz : 0 < sz) (hk : r ≠ none ∨ 0 < k) (h63 : m + k ≤ 9223372036854775807) (hfit : (m + k + (m + k) / 4 + 192) * bs ≤ 281474976710656)
    (kk : ∀ b sp' c', m + k ≤ c' → sp'.length = (c' - (m + k)) * sz → K ((d, .slice (some ⟨b, 0, none⟩) (m + k) c') :: l) (L.set i (some b, .cells (xs ++ new ++ sp').toArray e (0, 0)))) :
    EF P n w0 l L ⟨some d, .call { callee := .builtin .append, args := #[s, x], argTypes := #[tS, tX] }, ty, ps, af, gd⟩ K := by
  by_cases hk0 : 0 < k
  · exact ef_appO i hlt hs hx hzl hL hrow hxl hnew hnl h1 hsz hk0 h63 hfit kk
  · have hr := hk.resolve_right hk0
    obtain rfl : k = 0 := by omega
    obtain rfl : new = [] := List.length_eq_zero_iff.1 (by simpa using hnl)
    cases r with
    | none => exact absurd rfl hr
    | some b =>
      haveI : AtL b L (.cells (xs ++ sp).toArray e (0, 0)) i := ⟨hL⟩
      haveI : SetL L i (some b, .cells (xs ++ sp).toArray e (0, 0)) (L.set i (some b, .cells (xs ++ sp).toArray e (0, 0))) := ⟨rfl⟩
      refine ef_appR (C := xs ++ sp) (C' := xs ++ sp) hlt hs hx hnew hnl h1 hsz (by have := hrow.le; omega) ?_ ?_ ?_
      · have := hrow.len
        have := hrow.le
        rw [List.length_append, hxl, hrow.len, Nat.add_zero, Nat.zero_add, ← Nat.add_mul]
        exact Nat.mul_le_mul_right _ (by omega)
      · simp [overC]
      · have := kk b sp c (by have := hrow.le; omega) (by simpa using hrow.len)
        simpa using this
/-! ### A row of single cells built -/
inductive Seq (l : FL) : Nat → List (Nat × Operand) → List Value → Prop
  | nil {i : Nat} : Seq l i [] []
  | cons {i : Nat} {x : Operand} {v : Value} {r : List (Nat × Operand)} {vs : List Value} (hx : evl l x = some v) (h1 : CellsOf v [v]) (h : Seq l (i + 1) r vs) : Seq l i ((i, x) :: r) (v :: vs)
theorem Seq.len {l : FL} {i : Nat} {xs : List (Nat × Operand)} {vs : List Value} (h : Seq l i xs vs) : xs.length = vs.length := by
  induction h with
  | nil => rfl
  | cons _ _ _ ih => simp [ih]
theorem Seq.parts {l : FL} {m i : Nat} {xs : List (Nat × Operand)} {vs : List Value} (h : Seq l i xs vs) (hm : i + xs.length ≤ m) :
    ∃ qs, Parts l (fun i => some (i * 1, 1)) m xs qs ∧ ∀ C : List Value, i + vs.length ≤ C.length → putAll C qs = C.take i ++ vs ++ C.drop (i + vs.length) := by
  induction h with
  | nil => exact ⟨[], .nil, fun C _ => by simp [putAll]⟩
  | @cons i x v r vs hx h1 h ih =>
    simp only [List.length_cons] at hm
    obtain ⟨qs, g1, g2⟩ := ih (by omega)
    refine ⟨(i * 1, [v]) :: qs, .cons hx h1 rfl rfl (by simp; omega) g1, fun C hC => ?_⟩
    simp only [List.length_cons] at hC ⊢
    show putAll (overC C (i * 1) [v]) qs = _
    rw [g2 _ (by rw [overC_len (by simp; omega)]; omega)]
    simp only [overC, Nat.mul_one, List.length_cons, List.length_nil]
    have e0 : (C.take i).length = i := by simp; omega
    rw [List.take_append_of_le_length (by simp; omega), List.take_of_length_le (by simp; omega), List.drop_append, List.drop_of_length_le (by simp; omega), List.drop_drop]
    simp only [List.length_append, List.length_cons, List.length_nil, e0]
    rw [show i + 1 + (i + 1 + vs.length - (i + 1)) = i + (vs.length + 1) by omega]
    simp
theorem ef_bl {P : Program} {n : Nat} {w0 : World} {l : FL} {L : HL} {K : FL → HL → Prop} {t e : TypeId} {k d : Nat} {z : Value} {zc : List Value} {xs : List (Nat × Operand)} {C : List Value} {ty : TypeId} {ps : String} {af : Array Edge} {gd : Option (Nat × Bool)} (hlt : Nat.ble (d + 1) n = true)
    [ht : SliceT P t e] [hz : SizeT P e 1] [hZ : ZeroT P e z] [hzc : CellsOf z zc] (hzl : zc.length = 1) (hk : Nat.ble k 16777216 = true) (hq : Seq l 0 xs C) (hC : xs.length = k)
    (kk : ∀ b, K ((d, .slice (some ⟨b, 0, none⟩) k k) :: l) ((some b, .cells C.toArray e (0, 0)) :: L)) :
    EF P n w0 l L ⟨some d, .buildSlice t k xs.toArray, ty, ps, af, gd⟩ K := by
  obtain ⟨qs, g1, g2⟩ := hq.parts (m := k) (by omega)
  have hl := hq.len
  refine ef_bs hlt hzl hk g1 ?_ kk
  rw [g2 _ (by simp; omega)]
  simp [List.drop_of_length_le, show k ≤ C.length by omega]
theorem ov_buildA {P : Program} {w0 : World} {l : FL} {L : HL} {t e : TypeId} {k s : Nat} {Z C : List Value} {xs : List (Nat × Operand)} {qs : List (Nat × List Value)} {dst : Option Tmp} {ty : TypeId} {ps : String} {af : Array Edge} {gd : Option (Nat × Bool)} [hZ : ZeroT P t (.agg Z.toArray)] [ht : ArrayT P t k e] [hz : SizeT P e s]
    (hq : Parts l (fun i => some (i * s, s)) Z.length xs qs) (hC : putAll Z qs = C) : OV P w0 L l ⟨dst, .build t xs.toArray, ty, ps, af, gd⟩ (.agg C.toArray) := by
  unfold OV
  intro a n w hf hs
  have hzv : (zeroValue t).run P w = .ok (.agg Z.toArray) w := by
    have hZ := hZ.h
    unfold zeroT at hZ
    cases hi : P.info? t with
    | none => rw [hi] at hZ; simp at hZ
    | some i => rw [hi] at hZ; simp only [Option.bind_some] at hZ; simp [zeroValue, typeInfo, hi, hZ]
  have hfill := fill_parts (place := fun i => some (i * s, s)) hf Z hq rfl
  rw [hC] at hfill
  have : (Instr.build t (xs.map fun x => (x.1, a.eval x.2)).toArray).run P w = .ok (.agg C.toArray) w := by
    simp only [Instr.build, Sem.run_bind, hzv, Result.andThen_ok, run_underlying (und_array ht.h) w, run_sizeOf hz.h w, Value.cells]
    rw [hfill]
    rfl
  simp only [execOp, List.map_toArray]
  simp only [Sem.run_bind, this]
  rfl
theorem un_xor8 (y : UInt8) : Op.unary .xor (.int .u8 (y.toNat : Nat)) = pure (.int .u8 ((255 - y.toNat : Nat) : Int)) := by
  have h : ∀ y : Fin 256, IntKind.u8.wrap (BitVec.ofInt 8 255 ^^^ BitVec.ofInt 8 (y.val : Int)).toNat = ((255 - y.val : Nat) : Int) := by decide +kernel
  have := h ⟨y.toNat, UInt8.toNat_lt y⟩
  simp only [Op.unary, Op.intBits]
  show pure (Value.int .u8 (IntKind.u8.wrap (BitVec.ofInt 8 255 ^^^ BitVec.ofInt 8 (y.toNat : Int)).toNat)) = _
  rw [this]
theorem shl8 (m : Nat) (h : m < 16777216) : IntKind.i64.wrap ((m : Int) * 2 ^ min (8 : Int).toNat IntKind.i64.bits) = ((m * 256 : Nat) : Int) := by
  show IntKind.i64.wrap ((m : Int) * 256) = _
  rw [IntWalk.i64_in _ (by omega)]; simp
theorem or8 (m : Nat) (y : UInt8) (h : m < 16777216) : IntKind.i64.wrap (BitVec.ofInt IntKind.i64.bits ((m * 256 : Nat) : Int) ||| BitVec.ofInt IntKind.i64.bits (y.toNat : Int)).toNat = ((m * 256 + y.toNat : Nat) : Int) := by
  have hy := UInt8.toNat_lt y
  have e : (BitVec.ofInt IntKind.i64.bits ((m * 256 : Nat) : Int) ||| BitVec.ofInt IntKind.i64.bits (y.toNat : Int)).toNat = m * 256 + y.toNat := by
    show (BitVec.ofInt 64 ((m * 256 : Nat) : Int) ||| BitVec.ofInt 64 (y.toNat : Int)).toNat = m * 256 + y.toNat
    rw [BitVec.toNat_or, BitVec.toNat_ofInt, BitVec.toNat_ofInt]
    have e1 : (((m * 256 : Nat) : Int) % (2 ^ 64 : Nat)).toNat = m <<< 8 := by rw [Nat.shiftLeft_eq]; omega
    have e2 : ((y.toNat : Int) % (2 ^ 64 : Nat)).toNat = y.toNat := by omega
    rw [e1, e2, ← Nat.shiftLeft_add_eq_or_of_lt (by omega), Nat.shiftLeft_eq]
  rw [e, IntWalk.i64_in _ (by omega)]
theorem map_at {xs : List UInt8} {k : Nat} (h : k < xs.length) : (xs.map cell)[(k : Int).toNat * 1]? = some (cell xs[k]) := by
  simp [h]
theorem cell_at {xs : List UInt8} {k : Nat} {i : Int} (h : k < xs.length) (hi : i = k) : (xs.map cell)[i.toNat * 1]? = some (.int .u8 ((xs.getD k 0).toNat : Nat)) := by
  subst hi
  simp [h, cell, List.getD]
end Go.Proofs.YtaahfdjobpbpjaaGreatDoor
