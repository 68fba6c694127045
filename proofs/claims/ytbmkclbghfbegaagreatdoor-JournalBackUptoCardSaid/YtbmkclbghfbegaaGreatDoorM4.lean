/- Part 4 of the proof: Ty, Sl, Go, Sha1, Cs, Sha2. By this project. -/
import Derived.Test.YtbmkclbghfbegaaGreatDoorM3
import Derived.Deep.AppendSrc
import Derived.Deep.DeepAppendWide
import Derived.IntWalk
set_option linter.unusedVariables false
set_option linter.unusedSectionVars false
set_option linter.unusedSimpArgs false
set_option maxRecDepth 100000
/- What the tables say of each type. Written by wip/bin/types.py. -/
namespace Go.Proofs.YtbmkclbghfbegaaGreatDoor
instance : IntT Tryz.prog 2 .i64 := ⟨by kernel_rfl⟩
instance : IntT Tryz.prog 3 .i64 := ⟨by kernel_rfl⟩
instance : RowT Tryz.prog 5 false := ⟨by kernel_rfl⟩
instance : SizeT Tryz.prog 5 1 := ⟨by kernel_rfl⟩
instance : IntT Tryz.prog 5 .u8 := ⟨by kernel_rfl⟩
instance : ArrayT Tryz.prog 23 32 5 := ⟨by kernel_rfl⟩
instance : SliceT Tryz.prog 24 87 := ⟨by kernel_rfl⟩
instance : FieldT Tryz.prog 26 0 0 3 := ⟨by kernel_rfl⟩
instance : FieldT Tryz.prog 26 1 1 2 := ⟨by kernel_rfl⟩
instance : FieldT Tryz.prog 26 2 2 2 := ⟨by kernel_rfl⟩
instance : FieldT Tryz.prog 26 3 3 23 := ⟨by kernel_rfl⟩
instance : FieldT Tryz.prog 26 4 35 23 := ⟨by kernel_rfl⟩
instance : FieldT Tryz.prog 26 5 67 24 := ⟨by kernel_rfl⟩
instance : SliceT Tryz.prog 33 5 := ⟨by kernel_rfl⟩
instance : SliceT Tryz.prog 59 26 := ⟨by kernel_rfl⟩
instance : FieldT Tryz.prog 87 0 0 33 := ⟨by kernel_rfl⟩
instance : FieldT Tryz.prog 87 1 1 33 := ⟨by kernel_rfl⟩
instance : FieldT Tryz.prog 87 2 2 4 := ⟨by kernel_rfl⟩
instance : RowT Tryz.prog 103 false := ⟨by kernel_rfl⟩
instance : SizeT Tryz.prog 103 1 := ⟨by kernel_rfl⟩
instance : IntT Tryz.prog 103 .u32 := ⟨by kernel_rfl⟩
instance : RowT Tryz.prog 220 true := ⟨by kernel_rfl⟩
instance : SizeT Tryz.prog 220 8 := ⟨by kernel_rfl⟩
instance : ArrayT Tryz.prog 220 8 103 := ⟨by kernel_rfl⟩
instance : ZeroT Tryz.prog 220 (.agg #[.int .u32 0, .int .u32 0, .int .u32 0, .int .u32 0, .int .u32 0, .int .u32 0, .int .u32 0, .int .u32 0]) := ⟨by kernel_rfl⟩
instance : ArrayT Tryz.prog 224 64 5 := ⟨by kernel_rfl⟩
instance : ArrayT Tryz.prog 237 64 103 := ⟨by kernel_rfl⟩
instance : ZeroT Tryz.prog 237 (.agg #[.int .u32 0, .int .u32 0, .int .u32 0, .int .u32 0, .int .u32 0, .int .u32 0, .int .u32 0, .int .u32 0, .int .u32 0, .int .u32 0, .int .u32 0, .int .u32 0, .int .u32 0, .int .u32 0, .int .u32 0, .int .u32 0, .int .u32 0, .int .u32 0, .int .u32 0, .int .u32 0, .int .u32 0, .int .u32 0, .int .u32 0, .int .u32 0, .int .u32 0, .int .u32 0, .int .u32 0, .int .u32 0, .int .u32 0, .int .u32 0, .int .u32 0, .int .u32 0, .int .u32 0, .int .u32 0, .int .u32 0, .int .u32 0, .int .u32 0, .int .u32 0, .int .u32 0, .int .u32 0, .int .u32 0, .int .u32 0, .int .u32 0, .int .u32 0, .int .u32 0, .int .u32 0, .int .u32 0, .int .u32 0, .int .u32 0, .int .u32 0, .int .u32 0, .int .u32 0, .int .u32 0, .int .u32 0, .int .u32 0, .int .u32 0, .int .u32 0, .int .u32 0, .int .u32 0, .int .u32 0, .int .u32 0, .int .u32 0, .int .u32 0, .int .u32 0]) := ⟨by kernel_rfl⟩
instance : FieldT Tryz.prog 241 0 0 220 := ⟨by kernel_rfl⟩
end Go.Proofs.YtbmkclbghfbegaaGreatDoor
/- Sl: slices: read, cut, built, appended to. By this project. -/
namespace Go.Proofs.YtbmkclbghfbegaaGreatDoor
open Go.RowKit Go.Extern.Stop
section
variable {P : Program} {n : Nat} {w0 : World} {l : FL} {L : HL} {Q : GQ} {ops : Array Oper} {rest : List Oper}
def RW (w : World) (A : Option Addr) (cs : List Value) : Prop := ∀ (j : Nat) (v : Value), cs[j]? = some v → ∃ ad, A = some ad ∧ w.cell? (ad.add j) = some v
end
/- Go: a rule for going on without care; bytes. By this project. -/
def noLoop : Code → Bool
 | .loop _ => false
 | .scope _ => false
 | .seq a b => noLoop a && noLoop b
 | .cond _ a b => noLoop a && noLoop b
 | .block _ c => noLoop c
 | _ => true
section
variable {P : Program} {n : Nat} {w0 : World} {l : FL} {L : HL} {Q : GQ} {ops : Array Oper} {rest : List Oper}
theorem g_seqN {x y : Code} (hx : noLoop x = true) (h : G P n w0 x l L (gthen (fun l L => G P n w0 y l L Q) Q)) : G P n w0 (.seq x y) l L Q := g_seq h
end
def offR (x y : Option Nat × Obj) : Prop := x.1 = none ∨ x.1 ≠ y.1
theorem offR_symm {x y : Option Nat × Obj} (h : offR x y) : offR y x := by
 unfold offR at *
 rcases h with h | h
 ·cases hy : y.1 with
  | none => exact .inl rfl
  | some b => exact .inr (by rw [h]; simp)
 ·exact .inr fun e => h e.symm
theorem St.off {w0 w : World} {L : HL} (h : St w0 w L) : L.Pairwise offR := by
 rw [List.pairwise_iff_getElem]
 intro i j hi hj hij
 cases e : L[i].1 with
 | none => exact .inl e
 | some b =>
  refine .inr fun e2 => ?_
  have := h.one i j b L[i].2 L[j].2 (by rw [Iq hi, ← e]) (by rw [Iq hj, ← e, e2])
  omega
theorem St.of_off {w0 w : World} {L L' : HL} (h : St w0 w L) (hm : ∀ x ∈ L', x ∈ L) (ho : L'.Pairwise offR) : St w0 w L' := by
 refine ⟨h.below, fun i b o hi => ?_, fun i j b o o' hi hj => ?_⟩
 ·obtain ⟨j, hj⟩ := List.getElem?_of_mem (hm _ (List.mem_of_getElem? hi))
  exact h.has j b o hj
 ·rw [List.pairwise_iff_getElem] at ho
  obtain ⟨i1, i2⟩ := Iv.1 hi
  obtain ⟨j1, j2⟩ := Iv.1 hj
  rcases Nat.lt_trichotomy i j with g | g | g
  ·have := ho i j i1 j1 g
   rw [i2, j2] at this
   rcases this with e | e <;> simp at e
  ·exact g
  ·have := ho j i j1 i1 g
   rw [i2, j2] at this
   rcases this with e | e <;> simp at e
theorem St.perm {w0 w : World} {L L' : HL} (h : St w0 w L) (p : L.Perm L') : St w0 w L' := h.of_off (fun x hx => p.mem_iff.2 hx) ((p.pairwise_iff (fun h => offR_symm h)).1 h.off)
theorem St.sub {w0 w : World} {L L' : HL} (h : St w0 w L) (s : L'.Sublist L) : St w0 w L' := h.of_off (fun x hx => s.subset hx) (h.off.sublist s)
theorem ov_extr {P : Program} {w0 : World} {l : FL} {L : HL} {i : Nat} {x : Operand} {vs : List Value} {v : Value} {dst : Option Tmp} {ty : TypeId} {ps : String} {af : Array Edge} {gd : Option (Nat × Bool)} (hx : evl l x = some (.tuple vs.toArray)) (hv : vs[i]? = some v) : OV P w0 L l ⟨dst, .extract x i, ty, ps, af, gd⟩ v :=
 ov_extract hx (by simpa using hv)
inductive Seq (l : FL) : Nat → List (Nat × Operand) → List Value → Prop
 | nil {i : Nat} : Seq l i [] []
 | cons {i : Nat} {x : Operand} {v : Value} {r : List (Nat × Operand)} {vs : List Value} (hx : evl l x = some v) (h1 : CellsOf v [v]) (h : Seq l (i + 1) r vs) : Seq l i ((i, x) :: r) (v :: vs)
theorem Seq.len {l : FL} {i : Nat} {xs : List (Nat × Operand)} {vs : List Value} (h : Seq l i xs vs) : xs.length = vs.length := by
 induction h with
 | nil => rfl
 | cons _ _ _ ih => simp [ih]
theorem Seq.parts {l : FL} {m i : Nat} {xs : List (Nat × Operand)} {vs : List Value} (h : Seq l i xs vs) (hm : i + xs.length ≤ m) :
  ∃ qs, Parts l (fun i => some (i * 1, 1)) m xs qs ∧ ∀ C : List Value, i + vs.length ≤ C.length → putAll C qs = C.take i ++ vs ++ C.drop (i + vs.length) := by
 induction h with
 | nil => exact ⟨[], .nil, fun C _ => by simp [putAll]⟩
 | @cons i x v r vs hx h1 h ih =>
  simp only [List.length_cons] at hm
  obtain ⟨qs, g1, g2⟩ := ih (by omega)
  refine ⟨(i * 1, [v]) :: qs, .cons hx h1 rfl rfl (by simp; omega) g1, fun C hC => ?_⟩
  simp only [List.length_cons] at hC ⊢
  show putAll (overC C (i * 1) [v]) qs = _
  rw [g2 _ (by rw [overC_len (by simp; omega)]; omega)]
  simp only [overC, Nat.mul_one, List.length_cons, List.length_nil]
  have e0 : (C.take i).length = i := by simp; omega
  rw [List.take_append_of_le_length (by simp; omega), Ip (by simp; omega), List.drop_append, List.drop_of_length_le (by simp; omega), List.drop_drop]
  simp only [List.length_append, List.length_cons, List.length_nil, e0]
  rw [show i + 1 + (i + 1 + vs.length - (i + 1)) = i + (vs.length + 1) by omega]
  simp
theorem ov_buildA {P : Program} {w0 : World} {l : FL} {L : HL} {t e : TypeId} {k s : Nat} {Z C : List Value} {xs : List (Nat × Operand)} {qs : List (Nat × List Value)} {dst : Option Tmp} {ty : TypeId} {ps : String} {af : Array Edge} {gd : Option (Nat × Bool)} [hZ : ZeroT P t (.agg Z.toArray)] [ht : ArrayT P t k e] [hz : SizeT P e s]
  (hq : Parts l (fun i => some (i * s, s)) Z.length xs qs) (hC : putAll Z qs = C) : OV P w0 L l ⟨dst, .build t xs.toArray, ty, ps, af, gd⟩ (.agg C.toArray) := by
 unfold OV
 intro a n w hf hs
 have hzv : (zeroValue t).run P w = .ok (.agg Z.toArray) w := by
  have hZ := hZ.h
  unfold zeroT at hZ
  cases hi : P.info? t with
  | none => rw [hi] at hZ; simp at hZ
  | some i => rw [hi] at hZ; simp only [Ir] at hZ; simp [zeroValue, typeInfo, hi, hZ]
 have hfill := fill_parts (place := fun i => some (i * s, s)) hf Z hq rfl
 rw [hC] at hfill
 have : (Instr.build t (xs.map fun x => (x.1, a.eval x.2)).toArray).run P w = .ok (.agg C.toArray) w := by
  simp only [Instr.build, Sem.run_bind, hzv, Result.andThen_ok, run_underlying (und_array ht.h) w, Dq hz.h w, Value.cells]
  rw [hfill]
  rfl
 simp only [execOp, List.map_toArray]
 simp only [Sem.run_bind, this]
 rfl
structure HoldG (K : Prop) : Prop where h : K
theorem ggo {G K : Prop} (k : K) (h : HoldG K → G := by (intro k; (repeat (first | ((first | (apply gn; iterate 3 exact rfl) | (apply gg; iterate 5 exact rfl) | (apply qn; iterate 3 exact rfl) | (apply qg; iterate 5 exact rfl)); first | (apply Bx; exact rfl) | (apply Fc; exact rfl) | (apply ov_len; exact rfl) | (apply ov_extr; exact rfl; exact rfl) | (apply ov_fa; exact rfl) | (apply ov_not; exact rfl) | (apply GI; exact rfl; exact rfl) | (apply GJ; exact rfl; exact rfl) | exact ov_ldl rfl rfl | exact Bz rfl rfl (Gi ..) | exact Bz rfl rfl (HB ..) | exact Bz rfl rfl (HC ..)) | apply gl_nil | (apply g_seqN; exact rfl) | apply g_block | apply GZ | (apply g_condT; exact rfl) | (apply g_condF; exact rfl) | apply g_skip | apply g_label | (apply gi; iterate 5 exact rfl) | (apply gu; iterate 5 exact rfl) | apply glq_nil | (apply qi; iterate 5 exact rfl) | (apply qu; iterate 5 exact rfl) | (apply g_quiet; kernel_rfl; kernel_rfl))); exact k.h)) : G := h ⟨k⟩
theorem ggw {G K : Prop} (k : K) (h : HoldG K → G := by (intro k; (repeat (first | ((first | (apply gn; iterate 3 exact rfl) | (apply gg; iterate 5 exact rfl) | (apply qn; iterate 3 exact rfl) | (apply qg; iterate 5 exact rfl)); first | (apply Bx; exact rfl) | (apply Fc; exact rfl) | (apply ov_len; exact rfl) | (apply ov_extr; exact rfl; exact rfl) | (apply ov_fa; exact rfl) | (apply ov_not; exact rfl) | (apply GI; exact rfl; exact rfl) | (apply GJ; exact rfl; exact rfl) | exact ov_ldl rfl rfl) | apply gl_nil | (apply g_seqN; exact rfl) | apply g_block | apply GZ | (apply g_condT; exact rfl) | (apply g_condF; exact rfl) | apply g_skip | apply g_label | (apply gi; iterate 5 exact rfl) | (apply gu; iterate 5 exact rfl) | apply glq_nil | (apply qi; iterate 5 exact rfl) | (apply qu; iterate 5 exact rfl) | (apply g_quiet; kernel_rfl; kernel_rfl))); exact k.h)) : G := h ⟨k⟩
/- Sha1: the words of SHA-256: what the document's arithmetic is, in numbers; RotR. By this project. -/
def AE (x : Nat) : Value := .int .u32 ((x % 4294967296 : Nat) : Int)
def addW (x y : Nat) : Nat := Nat.mod (Nat.add x y) 4294967296
def shrW (x n : Nat) : Nat := Nat.div (Nat.mod x 4294967296) (2 ^ n)
def shlW (x n : Nat) : Nat := Nat.mod (Nat.mul x (2 ^ n)) 4294967296
def rotW (x n : Nat) : Nat := Nat.lor (shrW x n) (shlW x (32 - n))
def notW (x : Nat) : Nat := Nat.xor 4294967295 x
theorem wrap32 (n : Nat) : IntKind.u32.wrap (n : Int) = ((n % 4294967296 : Nat) : Int) := by
 simp [IntKind.wrap, IntKind.signed, IntKind.bits]
theorem wcell_eq {x : Nat} (h : x < 4294967296) : AE x = .int .u32 (x : Int) := by simp [AE, Nat.mod_eq_of_lt h]
theorem of32 (x : Nat) : (BitVec.ofInt IntKind.u32.bits ((x % 4294967296 : Nat) : Int)).toNat = x % 4294967296 := by
 simp [IntKind.bits]
 omega
theorem mod_land (x y : Nat) : (x % 4294967296) &&& (y % 4294967296) = (x &&& y) % 4294967296 := by
 have := Nat.and_mod_two_pow (n := 32) (a := x) (b := y); simpa using this.symm
theorem mod_lor (x y : Nat) : (x % 4294967296) ||| (y % 4294967296) = (x ||| y) % 4294967296 := by
 have := Nat.or_mod_two_pow (n := 32) (a := x) (b := y); simpa using this.symm
theorem mod_xor (x y : Nat) : (x % 4294967296) ^^^ (y % 4294967296) = (x ^^^ y) % 4294967296 := by
 have := Nat.xor_mod_two_pow (n := 32) (a := x) (b := y); simpa using this.symm
theorem F5 (t : TypeId) (x y : Nat) : binOp .add t (AE x) (AE y) = pure (AE (addW x y)) := by
 unfold AE
 rw [Gi, ← Int.natCast_add, wrap32]
 have : addW x y = (x + y) % 4294967296 := rfl
 rw [this, Nat.mod_mod, ← Nat.add_mod]
theorem w_and (t : TypeId) (x y : Nat) : binOp .and t (AE x) (AE y) = pure (AE (Nat.land x y)) := by
 unfold AE
 rw [bin_and, BitVec.toNat_and, of32, of32, mod_land, wrap32, Nat.mod_mod]
 rfl
theorem w_or (t : TypeId) (x y : Nat) : binOp .or t (AE x) (AE y) = pure (AE (Nat.lor x y)) := by
 unfold AE
 rw [bin_or, BitVec.toNat_or, of32, of32, mod_lor, wrap32, Nat.mod_mod]
 rfl
theorem F4 (t : TypeId) (x y : Nat) : binOp .xor t (AE x) (AE y) = pure (AE (Nat.xor x y)) := by
 unfold AE
 rw [bin_xor, BitVec.toNat_xor, of32, of32, mod_xor, wrap32, Nat.mod_mod]
 rfl
theorem w_not (x : Nat) : Op.unary .xor (AE x) = pure (AE (notW x)) := by
 unfold AE
 have : Op.unary .xor (.int .u32 ((x % 4294967296 : Nat) : Int)) = pure (Value.int .u32 (IntKind.u32.wrap (BitVec.ofInt IntKind.u32.bits (4294967295 : Int) ^^^ BitVec.ofInt IntKind.u32.bits ((x % 4294967296 : Nat) : Int)).toNat)) := by
  simp [Op.unary, Op.intBits, IntKind.signed, IntKind.max, IntKind.bits]
 rw [this, BitVec.toNat_xor, of32]
 have e : (BitVec.ofInt IntKind.u32.bits (4294967295 : Int)).toNat = 4294967295 % 4294967296 := by decide
 rw [e, mod_xor, wrap32, Nat.mod_mod]
 rfl
theorem w_shr (t : TypeId) {k : IntKind} (x : Nat) {q : Int} {n : Nat} (h : q = (n : Int)) (hn : n ≤ 32) : binOp .shr t (AE x) (.int k q) = pure (AE (shrW x n)) := by
 subst h
 unfold AE
 rw [bin_shr _ _ _ _ _ (by omega), Int.toNat_natCast]
 have e : min n IntKind.u32.bits = n := by simp [IntKind.bits]; omega
 rw [e]
 have : shrW x n = (x % 4294967296) / 2 ^ n := rfl
 rw [this]
 have h2 : (x % 4294967296) / 2 ^ n < 4294967296 := Nat.lt_of_le_of_lt (Nat.div_le_self _ _) (Nat.mod_lt _ (by omega))
 rw [Nat.mod_eq_of_lt h2]
 congr 2
 rw [Int.fdiv_eq_ediv_of_nonneg _ (by exact_mod_cast Nat.zero_le _)]
 norm_cast
theorem w_shl (t : TypeId) {k : IntKind} (x : Nat) {q : Int} {n : Nat} (h : q = (n : Int)) (hn : n ≤ 32) : binOp .shl t (AE x) (.int k q) = pure (AE (shlW x n)) := by
 subst h
 unfold AE
 rw [bin_shl _ _ _ _ _ (by omega), Int.toNat_natCast]
 have e : min n IntKind.u32.bits = n := by simp [IntKind.bits]; omega
 rw [e]
 have h2 : (((x % 4294967296 : Nat) : Int) * 2 ^ n) = (((x % 4294967296) * 2 ^ n : Nat) : Int) := by norm_cast
 rw [h2, wrap32]
 have : shlW x n = (x * 2 ^ n) % 4294967296 := rfl
 rw [this, Nat.mod_mod, Nat.mod_mul_mod]
instance {x : Nat} : CellsOf (AE x) [AE x] := ⟨rfl⟩
theorem BX {P : Program} {w0 : World} {l : FL} {L : HL} {op : BinOp} {t t' : TypeId} {x y : Operand} {p q : Nat} {v : Value} {dst : Option Tmp} {ty : TypeId} {ps : String} {af : Array Edge} {gd : Option (Nat × Bool)} (hx : evl l x = some (AE p)) (hy : evl l y = some (AE q))
  (hr : binOp op t (AE p) (AE q) = pure v) : OV P w0 L l ⟨dst, .binOp op t x y t', ty, ps, af, gd⟩ v := Bz hx hy hr
theorem ov_wi {P : Program} {w0 : World} {l : FL} {L : HL} {op : BinOp} {t t' : TypeId} {x y : Operand} {p : Nat} {k : IntKind} {q : Int} {v : Value} {dst : Option Tmp} {ty : TypeId} {ps : String} {af : Array Edge} {gd : Option (Nat × Bool)} (hx : evl l x = some (AE p)) (hy : evl l y = some (.int k q))
  (hr : binOp op t (AE p) (.int k q) = pure v) : OV P w0 L l ⟨dst, .binOp op t x y t', ty, ps, af, gd⟩ v := Bz hx hy hr
theorem Du (x : Nat) : (AE x).oneCell' = true := rfl
theorem Hf (l : List Nat) : (l.map AE).all (·.oneCell') = true := by
 rw [List.all_map, List.all_eq_true]
 exact fun x _ => Du x
theorem wcell_zero : AE 0 = .int .u32 0 := rfl
attribute [irreducible] AE addW shrW shlW notW
set_option maxHeartbeats 400000 in
theorem CN (x n : Nat) (hn : n ≤ 32) (w : World) : Cl Tryz.prog 164 #[AE x, .int .u64 (n : Int)] w fun v _ => v = AE (rotW x n) := by
 refine cl_of_g Tryz.func164 rfl rfl ?_
 refine ggo ?_
 refine gn rfl rfl rfl (ov_wi rfl rfl (w_shr _ _ rfl hn)) ?_
 refine ggo ?_
 rw [show IntKind.u64.wrap (32 - (n : Int)) = ((32 - n : Nat) : Int) by
  have : (32 - (n : Int)) = ((32 - n : Nat) : Int) := by omega
  rw [this]
  simp only [IntKind.wrap, IntKind.signed, IntKind.bits, Bool.false_and, Bool.false_eq_true, if_false]
  omega]
 refine gn rfl rfl rfl (ov_wi rfl rfl (w_shl _ _ rfl (by omega))) ?_
 refine ggo ?_
 refine gn rfl rfl rfl (BX rfl rfl (w_or ..)) ?_
 refine ggo ?_
 exact g_ret ⟨_, res_1 rfl, rfl⟩
attribute [irreducible] rotW
/- Cs: calls that write into the caller's own blocks; loads and stores in such. By this project. -/
section
variable {P : Program} {n : Nat} {w0 : World} {l : FL} {L : HL} {Q : GQ} {ops : Array Oper} {rest : List Oper}
def ClS (P : Program) (f : FuncId) (args : Array Value) (w0 : World) (L : HL) (R : Value → HL → Prop) : Prop := ∀ w, St w0 w L → Calls P f args w fun e w' => ∃ v N, e = .returned v ∧ St w0 w' N ∧ R v N
theorem cls_of_g {f : FuncId} {fn : Func} {c : Code} {vs : List Value} {R : Value → HL → Prop} (hf : P.funcs[f]? = some fn) (hb : fn.body = some c) (hn : Nat.ble vs.length fn.ntmps = true)
  (h : G P fn.ntmps w0 c (argsFL 0 vs) L (GQend P w0 fn.results R)) : ClS P f vs.toArray w0 L R := by
 unfold G at h
 intro w hs
 refine calls_of_wp hf hb (wp_mono (h _ w ⟨rfl, by have := Io hn; simp; omega, fun t v hv => ?_⟩ hs) fun e a' w' ⟨l', L', h1, h2, h3⟩ => ?_)
 ·obtain ⟨_, h2⟩ := Gj vs 0 t v hv
  have hlt : t < vs.length := (Iv.1 h2).1
  simp only [Nat.sub_zero] at h2
  rw [Array.getElem?_append_left (by simpa using hlt)]
  simpa using h2
 ·cases e <;> first | exact h3.elim | (obtain ⟨v, hv, hR⟩ := h3; exact ⟨h1.defers, v, hv a' _ w' fn rfl h1 h2, v, L', rfl, h2, hR⟩)
theorem Ga {x : Operand} {A : Addr} {dst : Option Tmp} {ty : TypeId} {ps : String} {af : Array Edge} {gd : Option (Nat × Bool)} (hx : evl l x = some (.pointer (some A))) : OV P w0 L l ⟨dst, .nilCheck x, ty, ps, af, gd⟩ (.pointer (some A)) := by
 unfold OV
 intro a n w hf hs
 simp only [execOp, hf.ev hx]; rfl
theorem CL {b o i : Nat} {C : List Value} {E : TypeId} {fz : Nat × Nat} {v : Value} [h : AtL b L (.cells C.toArray E fz) i] (hv : C[o]? = some v) : Lies w0 L (some ⟨b, o, none⟩) [v] := by
 have := lies_loc (w0 := w0) (L := L) (o := o) (k := 1) h.h
 have e : (C.drop o).take 1 = [v] := by
  have hl := (Iv.1 hv).1
  rw [List.drop_eq_getElem_cons hl, List.take_succ_cons, List.take_zero]
  rw [Iq hl] at hv
  rw [Iu hv]
 rwa [e] at this
def GS (P : Program) (n : Nat) (w0 : World) (ops : Array Oper) (S : World → Prop) (fuel : Nat) (listed : Array Bool) (l : FL) (L : HL) (Q : GQ) : Prop :=
 ∀ a w, Fr a n l → St w0 w L → wpAnyH P .any ops (post n w0 Q) S fuel listed a w
def GSop (P : Program) (n : Nat) (w0 : World) (ops : Array Oper) (S : World → Prop) (fuel : Nat) (listed : Array Bool) (l : FL) (L : HL) (Q : GQ) (i : Nat) : Prop :=
 ∀ a w, Fr a n l → St w0 w L → wpOp P ops (post n w0 Q) i (fun a' w' => S w' ∧ wpAnyH P .any ops (post n w0 Q) S fuel (listed.setIfInBounds i true) a' w') a w
def OVS (P : Program) (S : World → Prop) (l : FL) (o : Oper) (v : Value) : Prop := ∀ (a : Act) (n : Nat) (w : World), Fr a n l → S w → (execOp a.eval o).run P w = .ok (.value v) w
variable {S : World → Prop} {fuel : Nat} {listed : Array Bool}
theorem gs_any {id : Nat} {ops : List Oper} (S : World → Prop) (hm : P.follows .mixedOrders = true) (h : GS P n w0 ops.toArray S ops.toArray.size (Array.replicate ops.toArray.size false) l L Q) :
  G P n w0 (.region id ops.toArray true) l L Q := by
 unfold G
 exact fun a w hf hs => wp_region_held hm (h a _ hf hs.drew)
theorem gs_takeS (i : Nat) {d : Nat} {o : Oper} {v : Value} (hi : ops[i]? = some o) (hsel : Region.noSelect ops = true) (hfree : Region.free .any ops listed i = true) (hready : (Region.ready .any ops listed).contains i = true)
  (hNP : ∀ c l L, ¬ Q (.panic c) l L) (hw : Want ops l o) (hd : o.dst = some d) (hlt : Nat.ble (d + 1) n = true) (hS : ∀ w, St w0 w L → S w) (ho : OVS P S l o v)
  (k : GS P n w0 ops S fuel (listed.setIfInBounds i true) ((d, v) :: l) L Q) : GS P n w0 ops S (fuel + 1) listed l L Q := fun a w hf hs => by
 refine wpAnyH_take hi hsel hfree hready (v := v) (fun c a w ⟨l', L', _, _, h⟩ => (hNP c l' L' h).elim) (.inl ⟨hw a n hf, fun w hw => ho a n w hf hw⟩) (hS w hs) ?_
 rw [hd]
 exact k _ _ (hf.put d (Io hlt) v) hs
theorem Aq (i : Nat) {d : Nat} {o : Oper} {v : Value} {L' : HL} (hi : ops[i]? = some o) (hsel : Region.noSelect ops = true) (hfree : Region.free .any ops listed i = true) (hready : (Region.ready .any ops listed).contains i = true)
  (hNP : ∀ c l L, ¬ Q (.panic c) l L) (hw : Want ops l o) (hd : o.dst = some d) (hlt : Nat.ble (d + 1) n = true) (hS : ∀ w, St w0 w L → S w) (hS' : ∀ w, S w → St w0 w L') (ho : OV P w0 L' l o v)
  (k : GS P n w0 ops S fuel (listed.setIfInBounds i true) ((d, v) :: l) L Q) : GS P n w0 ops S (fuel + 1) listed l L Q := by
 refine gs_takeS i hi hsel hfree hready hNP hw hd hlt hS ?_ k
 unfold OV at ho
 exact fun a n w hf hw => ho a n w hf (hS' w hw)
theorem gs_all (rs : List Nat) (hr : Region.ready .any ops listed = rs) (hne : rs ≠ []) (h : ∀ i ∈ rs, GSop P n w0 ops S fuel listed l L Q i) : GS P n w0 ops S (fuel + 1) listed l L Q := fun a w hf hs =>
 wpAnyH_all hr hne fun i hi => h i hi a w hf hs
theorem F1 (i : Nat) (hr : Region.ready .any ops listed = [i]) (h : GSop P n w0 ops S fuel listed l L Q i) : GS P n w0 ops S (fuel + 1) listed l L Q :=
 gs_all [i] hr (by simp) fun j hj => by
  obtain rfl : j = i := by simpa using hj
  exact h
theorem gs_op {i : Nat} {o : Oper} (hi : ops[i]? = some o) (hw : Want ops l o)
  (h : EF P n w0 l L o fun l' L' => (∀ w, St w0 w L' → S w) ∧ GS P n w0 ops S fuel (listed.setIfInBounds i true) l' L' Q) : GSop P n w0 ops S fuel listed l L Q i := fun a w hf hs => by
 unfold EF at h
 unfold wpOp
 simp only [hi]
 rw [if_pos (hw a n hf)]
 obtain ⟨x, w', v, h1, h2, l', L', h3, h4, h5, h6⟩ := h a w hf hs
 refine .inl ?_
 unfold Oper.wp
 rw [h1]
 rcases h2 with rfl | ⟨rfl, rfl⟩
 ·exact ⟨h5 _ h4, h6 _ _ (h3 a hf) h4⟩
 ·exact ⟨h5 _ h4, h6 _ _ (h3 a hf) h4⟩
theorem gs_val {i d : Nat} {o : Oper} {v : Value} (hi : ops[i]? = some o) (hw : Want ops l o) (hd : o.dst = some d) (hlt : Nat.ble (d + 1) n = true) (ho : OV P w0 L l o v) (hS : ∀ w, St w0 w L → S w)
  (k : GS P n w0 ops S fuel (listed.setIfInBounds i true) ((d, v) :: l) L Q) : GSop P n w0 ops S fuel listed l L Q i := fun a w hf hs => by
 unfold OV at ho
 unfold wpOp
 simp only [hi]
 rw [if_pos (hw a n hf)]
 refine .inl ?_
 unfold Oper.wp
 rw [ho a n w hf hs]
 simp only [Oper.upon, hd]
 exact ⟨hS _ hs, k _ _ (hf.put d (Io hlt) v) hs⟩
theorem gs_call {i : Nat} {f : FuncId} {xs : List Operand} {vs : List Value} {u : Value} {ts : Array TypeId} {d : Nat} {ty : TypeId} {ps : String} {af : Array Edge} {gd : Option (Nat × Bool)}
  (hi : ops[i]? = some ⟨some d, .call { callee := .value (.func f), args := xs.toArray, argTypes := ts }, ty, ps, af, gd⟩)
  (hw : Want ops l ⟨some d, .call { callee := .value (.func f), args := xs.toArray, argTypes := ts }, ty, ps, af, gd⟩) (hlt : Nat.ble (d + 1) n = true) (hx : evls l xs = some vs) (hc : Gh P f = true) (hS : ∀ w, St w0 w L → S w)
  (hC : ∀ w, St w0 w L → Cl P f vs.toArray w fun v _ => v = u) (k : GS P n w0 ops S fuel (listed.setIfInBounds i true) ((d, u) :: l) L Q) : GSop P n w0 ops S fuel listed l L Q i := fun a w hf hs => by
 unfold wpOp
 simp only [hi]
 rw [if_pos (hw a n hf)]
 refine .inl ?_
 unfold Oper.wp
 rw [run_call hf hx hc]
 have := hC w hs
 unfold Cl at this
 refine Calls.mono this fun e w' ⟨v, N, he, hN, hR⟩ => ?_
 subst he
 subst hR
 exact ⟨hS _ (hs.then hN).tail, k _ _ (hf.put d (Io hlt) v) (hs.then hN).tail⟩
theorem gs_done (hr : Region.ready .any ops listed = []) (h : Q .normal l L) : GS P n w0 ops S fuel listed l L Q := fun a w hf hs => wpAnyH_done hr ⟨l, L, hf, hs, h⟩ fuel
theorem ov_ldS {t : TypeId} {x : Operand} {q : Addr} {v : Value} {dst : Option Tmp} {ty : TypeId} {ps : String} {af : Array Edge} {gd : Option (Nat × Bool)} (hx : evl l x = some (.pointer (some q))) [ht : RowT P t false] (hq : ∀ w, S w → w.cell? q = some v) :
  OVS P S l ⟨dst, .load t x, ty, ps, af, gd⟩ v := fun a n w hf hw => by
 have h1 := run_isAgg ht.h w
 simp [execOp, hf.ev hx, Instr.loadAt, Instr.sureAddr, loadVar, h1, load, Sem.run, hq w hw]
theorem Bg {t e : TypeId} {x y : Operand} {b o m j : Nat} {k : IntKind} {dst : Option Tmp} {ty : TypeId} {ps : String} {af : Array Edge} {gd : Option (Nat × Bool)} (hx : evl l x = some (.pointer (some ⟨b, o, none⟩))) (hy : evl l y = some (.int k (j : Int)))
  [ht : ArrayT P t m e] [hz : SizeT P e 1] (h1 : j < m) : OV P w0 L l ⟨dst, .indexAddr t x y, ty, ps, af, gd⟩ (.pointer (some ⟨b, o + j, none⟩)) := by
 have := ov_iaa (P := P) (w0 := w0) (L := L) (dst := dst) (ty := ty) (ps := ps) (af := af) (gd := gd) hx hy (ht := ht) (hz := hz) (by omega) (by omega)
 rw [Int.toNat_natCast, Nat.mul_one] at this
 exact this
end
attribute [irreducible] GS GSop OVS
/- Sha2: a block taken into the words: sha.(*State).block does what the document's rounds are. By this project. -/
def HA (b : List UInt8) (i : Nat) : Nat := match b[i]? with
 | some x => x.toNat
 | none => 0
def AA (ws : List Nat) (i : Nat) : Nat := ws.getD i 0
def w0N (b : List UInt8) (t : Nat) : Nat := Nat.lor (Nat.lor (Nat.lor (shlW (HA b (4 * t)) 24) (shlW (HA b (4 * t + 1)) 16)) (shlW (HA b (4 * t + 2)) 8)) (HA b (4 * t + 3))
def s1N (y : Nat) : Nat := Nat.xor (Nat.xor (rotW y 17) (rotW y 19)) (shrW y 10)
def s0N (x : Nat) : Nat := Nat.xor (Nat.xor (rotW x 7) (rotW x 18)) (shrW x 3)
def wNext (b : List UInt8) (ws : List Nat) (t : Nat) : Nat :=
 if t < 16 then w0N b t else addW (s1N (AA ws (t - 2))) (addW (addW (AA ws (t - 7)) (AA ws (t - 16))) (s0N (AA ws (t - 15))))
def wExp (b : List UInt8) : Nat → List Nat
 | 0 => []
 | t + 1 => wExp b t ++ [wNext b (wExp b t) t]
theorem Dc (b : List UInt8) : ∀ t, (wExp b t).length = t
 | 0 => rfl
 | t + 1 => by simp [wExp, Dc b t]
def BC (b : List UInt8) (t : Nat) : List Value := (wExp b t).map AE ++ List.replicate (64 - t) (AE 0)
theorem Do (b : List UInt8) {t : Nat} (h : t ≤ 64) : (BC b t).length = 64 := by simp [BC, Dc]; omega
theorem Gp (b : List UInt8) {i t : Nat} (h : i < t) : (BC b t)[i]? = some (AE (AA (wExp b t) i)) := by
 unfold BC AA
 rw [List.getElem?_append_left (by simp [Dc]; exact h), List.getElem?_map, List.getD_eq_getElem?_getD, Iq (by rw [Dc]; exact h)]
 rfl
theorem wCells_zero (b : List UInt8) : BC b 0 = List.replicate 64 (.int .u32 0) := by simp [BC, wExp, wcell_zero]
theorem wCells_set (b : List UInt8) {t : Nat} (h : t < 64) (v : Value) : (BC b t).set t v = (wExp b t).map AE ++ v :: List.replicate (64 - (t + 1)) (AE 0) := by
 unfold BC
 rw [List.set_append_right _ _ (by simp [Dc])]
 simp only [List.length_map, Dc, Nat.sub_self]
 rw [show 64 - t = (64 - (t + 1)) + 1 by omega, List.replicate_succ, List.set_cons_zero]
theorem wCells_succ (b : List UInt8) {t : Nat} (h : t < 64) {x : Nat} (hx : AE x = AE (wNext b (wExp b t) t)) : (BC b t).set t (AE x) = BC b (t + 1) := by
 rw [wCells_set b h, hx]
 simp [BC, wExp]
def kW : List Nat := [1116352408, 1899447441, 3049323471, 3921009573, 961987163, 1508970993, 2453635748, 2870763221, 3624381080, 310598401, 607225278, 1426881987, 1925078388, 2162078206, 2614888103, 3248222580, 3835390401, 4022224774, 264347078, 604807628, 770255983, 1249150122, 1555081692, 1996064986, 2554220882, 2821834349, 2952996808, 3210313671, 3336571891, 3584528711, 113926993, 338241895, 666307205, 773529912, 1294757372, 1396182291, 1695183700, 1986661051, 2177026350, 2456956037, 2730485921, 2820302411, 3259730800, 3345764771, 3516065817, 3600352804, 4094571909, 275423344, 430227734, 506948616, 659060556, 883997877, 958139571, 1322822218, 1537002063, 1747873779, 1955562222, 2024104815, 2227730452, 2361852424, 2428436474, 2756734187, 3204031479, 3329325298]
def t1N (v : List Nat) (k w : Nat) : Nat :=
 addW (addW (addW (addW (AA v 7) (Nat.xor (Nat.xor (rotW (AA v 4) 6) (rotW (AA v 4) 11)) (rotW (AA v 4) 25))) (Nat.xor (Nat.land (AA v 4) (AA v 5)) (Nat.land (notW (AA v 4)) (AA v 6)))) k) w
def t2N (v : List Nat) : Nat :=
 addW (Nat.xor (Nat.xor (rotW (AA v 0) 2) (rotW (AA v 0) 13)) (rotW (AA v 0) 22)) (Nat.xor (Nat.xor (Nat.land (AA v 0) (AA v 1)) (Nat.land (AA v 0) (AA v 2))) (Nat.land (AA v 1) (AA v 2)))
def rnd (v : List Nat) (k w : Nat) : List Nat := [addW (t1N v k w) (t2N v), AA v 0, AA v 1, AA v 2, addW (AA v 3) (t1N v k w), AA v 4, AA v 5, AA v 6]
theorem rnd_len (v : List Nat) (k w : Nat) : (rnd v k w).length = 8 := by simp [rnd]
def rds (v : List Nat) (b : List UInt8) : Nat → List Nat
 | 0 => v
 | t + 1 => rnd (rds v b t) (AA kW t) (AA (wExp b 64) t)
theorem rds_len {v : List Nat} (h : v.length = 8) (b : List UInt8) : ∀ t, (rds v b t).length = 8
 | 0 => h
 | _ + 1 => rfl
def blk (v : List Nat) (b : List UInt8) : List Nat := List.zipWith addW v (rds v b 64)
theorem blk_len {v : List Nat} (h : v.length = 8) (b : List UInt8) : (blk v b).length = 8 := by simp [blk, h, rds_len h]
theorem BU {V : List Nat} {n j : Nat} (h : V.length = n) (hj : j < n) : (V.map AE)[0 + j]? = some (AE (AA V j)) := by
 unfold AA
 rw [Nat.zero_add, List.getElem?_map, List.getD_eq_getElem?_getD, Iq (by omega)]
 rfl
def sumK (ws V : List Nat) (k : Nat) : List Nat := (List.zipWith addW ws V).take k ++ ws.drop k
theorem sumK_len {ws V : List Nat} {k : Nat} (h : ws.length = 8) (h2 : V.length = 8) (hk : k ≤ 8) : (sumK ws V k).length = 8 := by simp [sumK, h, h2]; omega
theorem sumK_at {ws V : List Nat} {k : Nat} (h : ws.length = 8) (h2 : V.length = 8) (hk : k < 8) : AA (sumK ws V k) k = AA ws k := by
 unfold sumK AA
 rw [List.getD_eq_getElem?_getD, List.getD_eq_getElem?_getD, List.getElem?_append_right (by simp [h, h2]; omega), List.getElem?_drop]
 congr 2
 simp [h, h2]; omega
theorem sumK_set {ws V : List Nat} {k : Nat} (h : ws.length = 8) (h2 : V.length = 8) (hk : k < 8) : (sumK ws V k).set k (addW (AA ws k) (AA V k)) = sumK ws V (k + 1) := by
 unfold sumK AA
 have hl : ((List.zipWith addW ws V).take k).length = k := by simp [h, h2]; omega
 rw [List.set_append_right _ _ (by omega), hl, Nat.sub_self, List.drop_eq_getElem_cons (by omega), List.set_cons_zero, List.take_succ_eq_append_getElem (by simp [h, h2]; omega)]
 simp only [List.append_assoc, List.cons_append, List.nil_append, List.getElem_zipWith]
 rw [List.getD_eq_getElem?_getD, List.getD_eq_getElem?_getD, Iq (by omega), Iq (by omega)]
 rfl
theorem b_mul4 (t : TypeId) {k : Nat} (h : k < 64) : binOp .mul t (.int .i64 4) (.int .i64 (k : Int)) = pure (.int .i64 ((4 * k : Nat) : Int)) := by
 rw [HC, IntWalk.i64_in _ (by omega)]; congr 2 <;> omega
theorem b_addc (t : TypeId) (a m : Nat) (h : a + m < 1000) : binOp .add t (.int .i64 (a : Int)) (.int .i64 (m : Int)) = pure (.int .i64 ((a + m : Nat) : Int)) := by
 rw [Gi, IntWalk.i64_in _ (by omega)]; congr 2
theorem b_subc (t : TypeId) (a m : Nat) (h : m ≤ a) (h2 : a < 1000) : binOp .sub t (.int .i64 (a : Int)) (.int .i64 (m : Int)) = pure (.int .i64 ((a - m : Nat) : Int)) := by
 rw [HB, IntWalk.i64_in _ (by omega)]; congr 2 <;> omega
theorem ov_c8 {P : Program} {w0 : World} {l : FL} {L : HL} {s t : TypeId} {x : Operand} {n : Nat} {dst : Option Tmp} {ty : TypeId} {ps : String} {af : Array Edge} {gd : Option (Nat × Bool)} (hx : evl l x = some (.int .u8 (n : Int))) [hs' : IntT P s .u8] [ht : IntT P t .u32] :
  OV P w0 L l ⟨dst, .convert s t x, ty, ps, af, gd⟩ (AE n) := by
 have := ov_conv (P := P) (w0 := w0) (L := L) (dst := dst) (ty := ty) (ps := ps) (af := af) (gd := gd) hx (hs' := hs') (ht := ht)
 rw [wrap32] at this
 unfold AE
 exact this
def blkF (bw bs o : Nat) (t : Nat) : FL := [(15, .int .i64 (t : Nat)), (4, .pointer (some ⟨bw, 0, none⟩)), (1, .pointer (some ⟨bs, o + 8, none⟩)), (0, .pointer (some ⟨bs, o, none⟩))]
set_option maxHeartbeats 8000000 in
theorem block_cls (w0 : World) (L : HL) (i bs : Nat) (o : Nat) (pre : List Value) (ho : pre.length = o) (ws : List Nat) (b : List UInt8) (tl : List Value) (E : TypeId) (hL : L[i]? = some (some bs, .cells (pre ++ (ws.map AE ++ b.map cell ++ tl)).toArray E (0, 0))) (hws : ws.length = 8) (hb : b.length = 64)
  (hK : ∀ (N : HL) w, St w0 w (N ++ L) → ∀ j v, (kW.map AE)[j]? = some v → w.cell? ⟨4, j, none⟩ = some v) :
  ClS Tryz.prog 159 #[.pointer (some ⟨bs, o, none⟩), .pointer (some ⟨bs, o + 8, none⟩)] w0 L fun v N => v = .tuple #[] ∧ N = L.set i (some bs, .cells (pre ++ ((blk ws b).map AE ++ b.map cell ++ tl)).toArray E (0, 0)) := by
 have hi : i < L.length := (Iv.1 hL).1
 haveI hAt : AtL bs L (.cells (pre ++ (ws.map AE ++ b.map cell ++ tl)).toArray E (0, 0)) i := ⟨hL⟩
 have hbyte : ∀ j, j < 64 → (pre ++ (ws.map AE ++ b.map cell ++ tl))[o + 8 + j]? = some (.int .u8 (HA b j : Int)) := fun j hj => by
  rw [List.getElem?_append_right (by omega), show o + 8 + j - pre.length = 8 + j by omega]
  rw [List.append_assoc, List.getElem?_append_right (by simp [hws]), List.getElem?_append_left (by simp [hws, hb]; omega)]
  simp only [List.length_map, hws, Nat.add_sub_cancel_left, List.getElem?_map, HA]
  rw [Iq (by omega)]
  rfl
 refine cls_of_g Tryz.func159 rfl rfl ?_
 refine ggo ?_
 refine gl_w (Ao rfl) (ef_alloc rfl ?_); intro bw
 refine ggo ?_
 refine g_seq ?_
 refine ggo ?_
 refine g_loop (ι := Nat) (blkF bw bs o) (fun t => (some bw, .cells (BC b t).toArray 237 (0, 0)) :: L) (fun t => t ≤ 64) (fun t => 64 - t) 0 (Nat.zero_le _) ⟨rfl, rfl, rfl, rfl, trivial⟩ (fun w h => by rw [wCells_zero]; exact h) ?_
 intro t ht
 dsimp only [blkF]
 refine ggo ?_
 by_cases c1 : t < 64
 rotate_left
 ·refine gn (v := .bool false) rfl rfl rfl (Bz rfl rfl (by rw [EO, decide_eq_false (by omega)])) ?_
  refine ggo ?_
  refine g_exit ?_
  obtain rfl : t = 64 := by omega
  refine ggo ?_
  refine gn rfl rfl rfl (Ga rfl) ?_
  refine ggo ?_
  refine gn rfl rfl rfl (ov_ldln (C := pre ++ (ws.map AE ++ b.map cell ++ tl)) (cs := ws.map AE) rfl (by rw [Nat.add_zero, List.drop_append_of_le_length (by omega), List.drop_of_length_le (by omega), List.nil_append, List.append_assoc, List.take_append_of_le_length (by simp [hws]), Ip (by simp [hws])]) (by simp [hws]; omega)) ?_
  refine gl_w (Ao rfl) (ef_alloc rfl ?_); intro bv
  refine gl_w (Ao rfl) (ef_stn (C' := ws.map AE) rfl rfl rfl (by simp [hws]) (by simp) (Hf _) (by simp [hws]) ?_)
  refine ggo ?_
  refine g_seq ?_
  refine ggo ?_
  refine g_loop (ι := Nat) (fun t => [(105, .int .i64 (t : Nat)), (8, .pointer (some ⟨bv, 0, none⟩)), (4, .pointer (some ⟨bw, 0, none⟩)), (0, .pointer (some ⟨bs, o, none⟩))])
   (fun t => (some bv, .cells ((rds ws b t).map AE).toArray 220 (0, 0)) :: (some bw, .cells (BC b 64).toArray 237 (0, 0)) :: L) (fun t => t ≤ 64) (fun t => 64 - t) 0 (Nat.zero_le _) ⟨rfl, rfl, rfl, rfl, trivial⟩ (fun w h => h) ?_
  intro t ht2
  have hV := rds_len hws b t
  generalize hVV : rds ws b t = V at hV ⊢
  have hWl : ∀ {u}, u < 64 → (BC b 64)[0 + u]? = some (AE (AA (wExp b 64) u)) := fun {u} hu => by rw [Nat.zero_add]; exact Gp b hu
  refine ggo ?_
  by_cases c1 : t < 64
  rotate_left
  ·refine gn (v := .bool false) rfl rfl rfl (Bz rfl rfl (by rw [EO, decide_eq_false (by omega)])) ?_
   refine ggo ?_
   refine g_exit ?_
   obtain rfl : t = 64 := by omega
   refine ggo ?_
   refine g_loop (ι := Nat) (fun k => [(187, .int .i64 (k : Nat)), (8, .pointer (some ⟨bv, 0, none⟩)), (0, .pointer (some ⟨bs, o, none⟩))])
    (fun k => (some bv, .cells (V.map AE).toArray 220 (0, 0)) :: (some bw, .cells (BC b 64).toArray 237 (0, 0)) :: L.set i (some bs, .cells (pre ++ ((sumK ws V k).map AE ++ b.map cell ++ tl)).toArray E (0, 0))) (fun k => k ≤ 8) (fun k => 8 - k) 0 (Nat.zero_le _) ⟨rfl, rfl, rfl, trivial⟩ (fun w h => by
     have e : L.set i (some bs, .cells (pre ++ ((sumK ws V 0).map AE ++ b.map cell ++ tl)).toArray E (0, 0)) = L := by
      obtain ⟨h1, h2⟩ := Iv.1 hL
      conv => rhs; rw [← List.set_getElem_self hi, h2]
      simp [sumK]
     rw [e]; exact h) ?_
   intro k hk
   refine ggo ?_
   by_cases d1 : k < 8
   rotate_left
   ·refine gn (v := .bool false) rfl rfl rfl (Bz rfl rfl (by rw [EO, decide_eq_false (by omega)])) ?_
    refine ggo ?_
    refine g_heap tail2 ?_
    refine g_exit ?_
    obtain rfl : k = 8 := by omega
    refine ⟨_, res_0, rfl, ?_⟩
    have e : sumK ws V 8 = blk ws b := by
     unfold sumK blk
     rw [hVV, Ip (by simp [hws, hV]), List.drop_of_length_le (by omega), List.append_nil]
    rw [e]
   refine gn (v := .bool true) rfl rfl rfl (Bz rfl rfl (by rw [EO, decide_eq_true (by omega)])) ?_
   repeat (first | ((first | (apply gn; iterate 3 exact rfl) | (apply gg; iterate 5 exact rfl) | (apply qn; iterate 3 exact rfl) | (apply qg; iterate 5 exact rfl)); first | (apply Bx; exact rfl) | (apply Fc; exact rfl) | (apply ov_len; exact rfl) | (apply ov_extr; exact rfl; exact rfl) | (apply ov_fa; exact rfl) | (apply ov_not; exact rfl) | (apply GI; exact rfl; exact rfl) | (apply GJ; exact rfl; exact rfl) | exact ov_ldl rfl rfl | exact Bz rfl rfl (Gi ..) | exact Bz rfl rfl (HB ..) | exact Bz rfl rfl (HC ..)) | apply gl_nil | (apply g_seqN; exact rfl) | apply g_block | apply GZ | (apply g_condT; exact rfl) | (apply g_condF; exact rfl) | apply g_skip | apply g_label | (apply gi; iterate 5 exact rfl) | (apply gu; iterate 5 exact rfl) | apply glq_nil | (apply qi; iterate 5 exact rfl) | (apply qu; iterate 5 exact rfl))
   have hC : ∀ x, x ∈ [(some bv, Obj.cells (V.map AE).toArray 220 (0, 0)), (some bw, Obj.cells (BC b 64).toArray 237 (0, 0))] → True := fun _ _ => trivial
   generalize hST : pre ++ ((sumK ws V k).map AE ++ b.map cell ++ tl) = ST
   have hSl : (sumK ws V k).length = 8 := sumK_len hws hV hk
   have hat : (L.set i (some bs, Obj.cells ST.toArray E (0, 0)))[i]? = some (some bs, .cells ST.toArray E (0, 0)) := by simp [hi]
   haveI : AtL bs (L.set i (some bs, Obj.cells ST.toArray E (0, 0))) (.cells ST.toArray E (0, 0)) i := ⟨hat⟩
   have hset : ST.set (o + 0 + k) (AE (addW (AA ws k) (AA V k))) = pre ++ ((sumK ws V (k + 1)).map AE ++ b.map cell ++ tl) := by
    rw [← hST, ← sumK_set hws hV d1, List.map_set, List.set_append_right _ _ (by omega), show o + 0 + k - pre.length = k by omega, List.append_assoc (List.map AE (sumK ws V k)), List.set_append_left _ _ (by simp [hSl]; omega), List.append_assoc]
   have hlen : ST.length = o + (8 + (b.length + tl.length)) := by rw [← hST]; simp [hSl, ho]
   have hrd : ST[o + 0 + k]? = some (AE (AA ws k)) := by
    rw [← hST, List.getElem?_append_right (by omega), show o + 0 + k - pre.length = 0 + k by omega, List.append_assoc, List.getElem?_append_left (by simp [hSl]; omega), ← sumK_at hws hV d1]
    exact BU hSl d1
   haveI : SetL (L.set i (some bs, Obj.cells ST.toArray E (0, 0))) i (some bs, .cells (ST.set (o + 0 + k) (AE (addW (AA ws k) (AA V k)))).toArray E (0, 0)) (L.set i (some bs, .cells (pre ++ ((sumK ws V (k + 1)).map AE ++ b.map cell ++ tl)).toArray E (0, 0))) := ⟨by rw [List.set_set, hset]⟩
   refine gs_any (fun w => St w0 w ((some bv, .cells (V.map AE).toArray 220 (0, 0)) :: (some bw, .cells (BC b 64).toArray 237 (0, 0)) :: L.eraseIdx i)) (by kernel_rfl) ?_
   have hdrop : ∀ x w, St w0 w ((some bv, .cells (V.map AE).toArray 220 (0, 0)) :: (some bw, .cells (BC b 64).toArray 237 (0, 0)) :: L.set i x) → St w0 w ((some bv, .cells (V.map AE).toArray 220 (0, 0)) :: (some bw, .cells (BC b 64).toArray 237 (0, 0)) :: L.eraseIdx i) := fun x w h =>
    h.sub (.cons_cons _ (.cons_cons _ (by rw [← List.eraseIdx_set_eq (l := L) (i := i) (a := x)]; exact List.eraseIdx_sublist _ _)))
   have hS := hdrop (some bs, .cells ST.toArray E (0, 0))
   have hS' : ∀ w, St w0 w ((some bv, .cells (V.map AE).toArray 220 (0, 0)) :: (some bw, .cells (BC b 64).toArray 237 (0, 0)) :: L.eraseIdx i) → St w0 w ((some bv, .cells (V.map AE).toArray 220 (0, 0)) :: (some bw, .cells (BC b 64).toArray 237 (0, 0)) :: L.eraseIdx i) := fun _ h => h
   refine Aq 0 rfl (by kernel_rfl) (by kernel_rfl) (by kernel_rfl) (fun _ _ _ h => h) (Ao rfl) rfl rfl hS hS' (Bx rfl) ?_
   refine Aq 1 rfl (by kernel_rfl) (by kernel_rfl) (by kernel_rfl) (fun _ _ _ h => h) (Ao rfl) rfl rfl hS hS' (Bx rfl) ?_
   refine Aq 2 rfl (by kernel_rfl) (by kernel_rfl) (by kernel_rfl) (fun _ _ _ h => h) (Ao rfl) rfl rfl hS hS' (Ga rfl) ?_
   refine Aq 3 rfl (by kernel_rfl) (by kernel_rfl) (by kernel_rfl) (fun _ _ _ h => h) (Ao rfl) rfl rfl hS hS' (ov_fa rfl) ?_
   refine Aq 4 rfl (by kernel_rfl) (by kernel_rfl) (by kernel_rfl) (fun _ _ _ h => h) (Ao rfl) rfl rfl hS hS' (Bg (j := k) rfl rfl d1) ?_
   refine Aq 6 rfl (by kernel_rfl) (by kernel_rfl) (by kernel_rfl) (fun _ _ _ h => h) (Ao rfl) rfl rfl hS hS' (Bx rfl) ?_
   refine Aq 7 rfl (by kernel_rfl) (by kernel_rfl) (by kernel_rfl) (fun _ _ _ h => h) (Ao rfl) rfl rfl hS hS' (Bg (j := k) rfl rfl d1) ?_
   refine Aq 8 rfl (by kernel_rfl) (by kernel_rfl) (by kernel_rfl) (fun _ _ _ h => h) (Ao rfl) rfl rfl hS hS' (CC rfl (CL (BU hV d1))) ?_
   refine Aq 10 rfl (by kernel_rfl) (by kernel_rfl) (by kernel_rfl) (fun _ _ _ h => h) (Ao rfl) rfl rfl hS hS' (Ga rfl) ?_
   refine Aq 11 rfl (by kernel_rfl) (by kernel_rfl) (by kernel_rfl) (fun _ _ _ h => h) (Ao rfl) rfl rfl hS hS' (ov_fa rfl) ?_
   refine F1 5 (by kernel_rfl) ?_
   refine gs_val (i := 5) rfl (Ao rfl) rfl rfl (CC rfl (CL hrd)) hS ?_
   refine Aq 9 rfl (by kernel_rfl) (by kernel_rfl) (by kernel_rfl) (fun _ _ _ h => h) (Ao rfl) rfl rfl hS hS' (BX rfl rfl (F5 ..)) ?_
   refine Aq 12 rfl (by kernel_rfl) (by kernel_rfl) (by kernel_rfl) (fun _ _ _ h => h) (Ao rfl) rfl rfl hS hS' (Bg (j := k) rfl rfl d1) ?_
   refine F1 13 (by kernel_rfl) ?_
   refine gs_op rfl (Ao rfl) (ef_st (C := ST) rfl rfl (by omega) (by simp) (Du _) ⟨hdrop _, ?_⟩)
   refine gs_done (by kernel_rfl) ?_
   refine ggo ?_
   refine ⟨k + 1, d1, by omega, ⟨?_, rfl, rfl, trivial⟩, fun w h => h⟩
   show some (Value.int .i64 (IntKind.i64.wrap ((k : Int) + 1))) = _
   rw [IntWalk.i64_in _ (by omega)]; rfl
  have hKl : ∀ {u}, u < 64 → Lies w0 ((some bv, .cells (V.map AE).toArray 220 (0, 0)) :: (some bw, .cells (BC b 64).toArray 237 (0, 0)) :: L) (some ⟨4, 0 + u, none⟩) [AE (AA kW u)] := fun {u} hu w hs => by
   refine ⟨_, rfl, fun j v hv => ?_⟩
   cases j with
   | zero =>
    simp only [List.length_cons, List.getElem?_cons_zero, Im] at hv
    subst hv
    have := hK [_, _] w hs (0 + u) _ (BU (V := kW) (n := 64) rfl hu)
    exact this
   | succ j => simp at hv
  refine gn (v := .bool true) rfl rfl rfl (Bz rfl rfl (by rw [EO, decide_eq_true (by omega)])) ?_
  refine ggo ?_
  refine qn rfl rfl rfl (Bg (j := 0) rfl rfl (by decide)) ?_
  refine qn rfl rfl rfl (CC rfl (CL (BU hV (by decide)))) ?_
  refine ggw ?_
  refine qn rfl rfl rfl (Bg (j := 4) rfl rfl (by decide)) ?_
  refine qn rfl rfl rfl (CC rfl (CL (BU hV (by decide)))) ?_
  refine ggw ?_
  refine qn rfl rfl rfl (Bg (j := 7) rfl rfl (by decide)) ?_
  refine qn rfl rfl rfl (CC rfl (CL (BU hV (by decide)))) ?_
  refine ggw ?_
  refine FG (Ao rfl) rfl rfl (by kernel_rfl) (fun w' _ => CN _ 6 (by decide) w') ?_
  refine ggw ?_
  refine FG (Ao rfl) rfl rfl (by kernel_rfl) (fun w' _ => CN _ 11 (by decide) w') ?_
  refine ggw ?_
  refine qn rfl rfl rfl (BX rfl rfl (F4 ..)) ?_
  refine ggw ?_
  refine FG (Ao rfl) rfl rfl (by kernel_rfl) (fun w' _ => CN _ 25 (by decide) w') ?_
  refine ggw ?_
  refine qn rfl rfl rfl (BX rfl rfl (F4 ..)) ?_
  refine ggw ?_
  refine qn rfl rfl rfl (BX rfl rfl (F5 ..)) ?_
  refine ggw ?_
  refine qn rfl rfl rfl (Bg (j := 5) rfl rfl (by decide)) ?_
  refine qn rfl rfl rfl (CC rfl (CL (BU hV (by decide)))) ?_
  refine ggw ?_
  refine qn rfl rfl rfl (BX rfl rfl (w_and ..)) ?_
  refine ggw ?_
  refine qn rfl rfl rfl (ov_un rfl (w_not _)) ?_
  refine ggw ?_
  refine qn rfl rfl rfl (Bg (j := 6) rfl rfl (by decide)) ?_
  refine qn rfl rfl rfl (CC rfl (CL (BU hV (by decide)))) ?_
  refine ggw ?_
  refine qn rfl rfl rfl (BX rfl rfl (w_and ..)) ?_
  refine ggw ?_
  refine qn rfl rfl rfl (BX rfl rfl (F4 ..)) ?_
  refine ggw ?_
  refine qn rfl rfl rfl (BX rfl rfl (F5 ..)) ?_
  refine ggw ?_
  refine qn rfl rfl rfl (Bg (j := t) rfl rfl c1) ?_
  refine qn rfl rfl rfl (CC rfl (hKl c1)) ?_
  refine ggw ?_
  refine qn rfl rfl rfl (BX rfl rfl (F5 ..)) ?_
  refine ggw ?_
  refine qn rfl rfl rfl (Bg (j := t) rfl rfl c1) ?_
  refine qn rfl rfl rfl (CC rfl (CL (hWl c1))) ?_
  refine ggw ?_
  refine qn rfl rfl rfl (BX rfl rfl (F5 ..)) ?_
  refine ggw ?_
  refine FG (Ao rfl) rfl rfl (by kernel_rfl) (fun w' _ => CN _ 2 (by decide) w') ?_
  refine ggw ?_
  refine FG (Ao rfl) rfl rfl (by kernel_rfl) (fun w' _ => CN _ 13 (by decide) w') ?_
  refine ggw ?_
  refine qn rfl rfl rfl (BX rfl rfl (F4 ..)) ?_
  refine ggw ?_
  refine FG (Ao rfl) rfl rfl (by kernel_rfl) (fun w' _ => CN _ 22 (by decide) w') ?_
  refine ggw ?_
  refine qn rfl rfl rfl (BX rfl rfl (F4 ..)) ?_
  refine ggw ?_
  refine qn rfl rfl rfl (Bg (j := 1) rfl rfl (by decide)) ?_
  refine qn rfl rfl rfl (CC rfl (CL (BU hV (by decide)))) ?_
  refine ggw ?_
  refine qn rfl rfl rfl (BX rfl rfl (w_and ..)) ?_
  refine ggw ?_
  refine qn rfl rfl rfl (Bg (j := 2) rfl rfl (by decide)) ?_
  refine qn rfl rfl rfl (CC rfl (CL (BU hV (by decide)))) ?_
  refine ggw ?_
  refine qn rfl rfl rfl (BX rfl rfl (w_and ..)) ?_
  refine ggw ?_
  refine qn rfl rfl rfl (BX rfl rfl (F4 ..)) ?_
  refine ggw ?_
  refine qn rfl rfl rfl (Bg (j := 1) rfl rfl (by decide)) ?_
  refine qn rfl rfl rfl (CC rfl (CL (BU hV (by decide)))) ?_
  refine ggw ?_
  refine qn rfl rfl rfl (Bg (j := 2) rfl rfl (by decide)) ?_
  refine qn rfl rfl rfl (CC rfl (CL (BU hV (by decide)))) ?_
  refine ggw ?_
  refine qn rfl rfl rfl (BX rfl rfl (w_and ..)) ?_
  refine ggw ?_
  refine qn rfl rfl rfl (BX rfl rfl (F4 ..)) ?_
  refine ggw ?_
  refine qn rfl rfl rfl (BX rfl rfl (F5 ..)) ?_
  refine ggw ?_
  refine gn rfl rfl rfl (BX rfl rfl (F5 ..)) ?_
  refine ggw ?_
  refine gn rfl rfl rfl (Bg (j := 0) rfl rfl (by decide)) ?_
  refine gn rfl rfl rfl (CC rfl (CL (BU hV (by decide)))) ?_
  refine ggw ?_
  refine gn rfl rfl rfl (Bg (j := 1) rfl rfl (by decide)) ?_
  refine gn rfl rfl rfl (CC rfl (CL (BU hV (by decide)))) ?_
  refine ggw ?_
  refine gn rfl rfl rfl (Bg (j := 2) rfl rfl (by decide)) ?_
  refine gn rfl rfl rfl (CC rfl (CL (BU hV (by decide)))) ?_
  refine ggw ?_
  refine gn rfl rfl rfl (Bg (j := 3) rfl rfl (by decide)) ?_
  refine gn rfl rfl rfl (CC rfl (CL (BU hV (by decide)))) ?_
  refine ggw ?_
  refine gn rfl rfl rfl (BX rfl rfl (F5 ..)) ?_
  refine ggw ?_
  refine gn rfl rfl rfl (Bg (j := 4) rfl rfl (by decide)) ?_
  refine gn rfl rfl rfl (CC rfl (CL (BU hV (by decide)))) ?_
  refine ggw ?_
  refine gn rfl rfl rfl (Bg (j := 5) rfl rfl (by decide)) ?_
  refine gn rfl rfl rfl (CC rfl (CL (BU hV (by decide)))) ?_
  refine ggw ?_
  refine gn rfl rfl rfl (Bg (j := 6) rfl rfl (by decide)) ?_
  refine gn rfl rfl rfl (CC rfl (CL (BU hV (by decide)))) ?_
  refine ggw ?_
  refine gn rfl rfl rfl (ov_buildA (C := (rnd V (AA kW t) (AA (wExp b 64) t)).map AE) (.cons rfl inferInstance rfl rfl (Io rfl) (.cons rfl inferInstance rfl rfl (Io rfl) (.cons rfl inferInstance rfl rfl (Io rfl) (.cons rfl inferInstance rfl rfl (Io rfl) (.cons rfl inferInstance rfl rfl (Io rfl) (.cons rfl inferInstance rfl rfl (Io rfl) (.cons rfl inferInstance rfl rfl (Io rfl) (.cons rfl inferInstance rfl rfl (Io rfl) .nil)))))))) rfl) ?_
  refine gl_w (Ao rfl) (ef_stn (C' := (rnd V (AA kW t) (AA (wExp b 64) t)).map AE) rfl rfl rfl rfl (by simp [hV, rnd_len]) (Hf _) (by have := rnd_len V (AA kW t) (AA (wExp b 64) t); simp [hV]; omega) ?_)
  refine ggo ?_
  refine ⟨t + 1, c1, by omega, ⟨?_, rfl, rfl, rfl, trivial⟩, fun w h => ?_⟩
  ·show some (Value.int .i64 (IntKind.i64.wrap ((t : Int) + 1))) = _
   rw [IntWalk.i64_in _ (by omega)]; rfl
  ·rw [rds, hVV]; exact h
 refine gn (v := .bool true) rfl rfl rfl (Bz rfl rfl (by rw [EO, decide_eq_true (by omega)])) ?_
 refine ggo ?_
 by_cases c2 : t < 16
 ·refine gn (v := .bool true) rfl rfl rfl (Bz rfl rfl (by rw [EO, decide_eq_true (by omega)])) ?_
  repeat (first | ((first | (apply gn; iterate 3 exact rfl) | (apply gg; iterate 5 exact rfl) | (apply qn; iterate 3 exact rfl) | (apply qg; iterate 5 exact rfl)); first | (apply Bx; exact rfl) | (apply Fc; exact rfl) | (apply ov_len; exact rfl) | (apply ov_extr; exact rfl; exact rfl) | (apply ov_fa; exact rfl) | (apply ov_not; exact rfl) | (apply GI; exact rfl; exact rfl) | (apply GJ; exact rfl; exact rfl) | exact ov_ldl rfl rfl | exact Bz rfl rfl (Gi ..) | exact Bz rfl rfl (HB ..) | exact Bz rfl rfl (HC ..)) | apply gl_nil | (apply g_seqN; exact rfl) | apply g_block | apply GZ | (apply g_condT; exact rfl) | (apply g_condF; exact rfl) | apply g_skip | apply g_label | (apply gi; iterate 5 exact rfl) | (apply gu; iterate 5 exact rfl) | apply glq_nil | (apply qi; iterate 5 exact rfl) | (apply qu; iterate 5 exact rfl))
  refine gs_any (fun w => St w0 w L) (by kernel_rfl) ?_
  have hS : ∀ w, St w0 w ((some bw, .cells (BC b t).toArray 237 (0, 0)) :: L) → St w0 w L := tail1
  have hS' : ∀ w, St w0 w L → St w0 w L := fun _ h => h
  refine Aq 0 rfl (by kernel_rfl) (by kernel_rfl) (by kernel_rfl) (fun _ _ _ h => h) (Ao rfl) rfl rfl hS hS' (Bx rfl) ?_
  refine Aq 1 rfl (by kernel_rfl) (by kernel_rfl) (by kernel_rfl) (fun _ _ _ h => h) (Ao rfl) rfl rfl hS hS' (Bx rfl) ?_
  refine Aq 2 rfl (by kernel_rfl) (by kernel_rfl) (by kernel_rfl) (fun _ _ _ h => h) (Ao rfl) rfl rfl hS hS' (Bx rfl) ?_
  refine Aq 3 rfl (by kernel_rfl) (by kernel_rfl) (by kernel_rfl) (fun _ _ _ h => h) (Ao rfl) rfl rfl hS hS' (Bz rfl rfl (b_mul4 _ c1)) ?_
  refine Aq 4 rfl (by kernel_rfl) (by kernel_rfl) (by kernel_rfl) (fun _ _ _ h => h) (Ao rfl) rfl rfl hS hS' (Ga rfl) ?_
  refine Aq 5 rfl (by kernel_rfl) (by kernel_rfl) (by kernel_rfl) (fun _ _ _ h => h) (Ao rfl) rfl rfl hS hS' (Bg (j := 4 * t) rfl rfl (by omega)) ?_
  refine Aq 6 rfl (by kernel_rfl) (by kernel_rfl) (by kernel_rfl) (fun _ _ _ h => h) (Ao rfl) rfl rfl hS hS' (CC rfl (CL (hbyte (4 * t) (by omega)))) ?_
  refine Aq 7 rfl (by kernel_rfl) (by kernel_rfl) (by kernel_rfl) (fun _ _ _ h => h) (Ao rfl) rfl rfl hS hS' (ov_c8 rfl) ?_
  refine Aq 8 rfl (by kernel_rfl) (by kernel_rfl) (by kernel_rfl) (fun _ _ _ h => h) (Ao rfl) rfl rfl hS hS' (ov_wi rfl rfl (w_shl _ _ (n := 24) rfl (by decide))) ?_
  refine Aq 9 rfl (by kernel_rfl) (by kernel_rfl) (by kernel_rfl) (fun _ _ _ h => h) (Ao rfl) rfl rfl hS hS' (Bx rfl) ?_
  refine Aq 10 rfl (by kernel_rfl) (by kernel_rfl) (by kernel_rfl) (fun _ _ _ h => h) (Ao rfl) rfl rfl hS hS' (Bx rfl) ?_
  refine Aq 11 rfl (by kernel_rfl) (by kernel_rfl) (by kernel_rfl) (fun _ _ _ h => h) (Ao rfl) rfl rfl hS hS' (Bz rfl rfl (b_mul4 _ c1)) ?_
  refine Aq 12 rfl (by kernel_rfl) (by kernel_rfl) (by kernel_rfl) (fun _ _ _ h => h) (Ao rfl) rfl rfl hS hS' (Bz rfl rfl (b_addc _ (4 * t) 1 (by omega))) ?_
  refine Aq 13 rfl (by kernel_rfl) (by kernel_rfl) (by kernel_rfl) (fun _ _ _ h => h) (Ao rfl) rfl rfl hS hS' (Ga rfl) ?_
  refine Aq 14 rfl (by kernel_rfl) (by kernel_rfl) (by kernel_rfl) (fun _ _ _ h => h) (Ao rfl) rfl rfl hS hS' (Bg (j := 4 * t + 1) rfl rfl (by omega)) ?_
  refine Aq 15 rfl (by kernel_rfl) (by kernel_rfl) (by kernel_rfl) (fun _ _ _ h => h) (Ao rfl) rfl rfl hS hS' (CC rfl (CL (hbyte (4 * t + 1) (by omega)))) ?_
  refine Aq 16 rfl (by kernel_rfl) (by kernel_rfl) (by kernel_rfl) (fun _ _ _ h => h) (Ao rfl) rfl rfl hS hS' (ov_c8 rfl) ?_
  refine Aq 17 rfl (by kernel_rfl) (by kernel_rfl) (by kernel_rfl) (fun _ _ _ h => h) (Ao rfl) rfl rfl hS hS' (ov_wi rfl rfl (w_shl _ _ (n := 16) rfl (by decide))) ?_
  refine Aq 18 rfl (by kernel_rfl) (by kernel_rfl) (by kernel_rfl) (fun _ _ _ h => h) (Ao rfl) rfl rfl hS hS' (BX rfl rfl (w_or ..)) ?_
  refine Aq 19 rfl (by kernel_rfl) (by kernel_rfl) (by kernel_rfl) (fun _ _ _ h => h) (Ao rfl) rfl rfl hS hS' (Bx rfl) ?_
  refine Aq 20 rfl (by kernel_rfl) (by kernel_rfl) (by kernel_rfl) (fun _ _ _ h => h) (Ao rfl) rfl rfl hS hS' (Bx rfl) ?_
  refine Aq 21 rfl (by kernel_rfl) (by kernel_rfl) (by kernel_rfl) (fun _ _ _ h => h) (Ao rfl) rfl rfl hS hS' (Bz rfl rfl (b_mul4 _ c1)) ?_
  refine Aq 22 rfl (by kernel_rfl) (by kernel_rfl) (by kernel_rfl) (fun _ _ _ h => h) (Ao rfl) rfl rfl hS hS' (Bz rfl rfl (b_addc _ (4 * t) 2 (by omega))) ?_
  refine Aq 23 rfl (by kernel_rfl) (by kernel_rfl) (by kernel_rfl) (fun _ _ _ h => h) (Ao rfl) rfl rfl hS hS' (Ga rfl) ?_
  refine Aq 24 rfl (by kernel_rfl) (by kernel_rfl) (by kernel_rfl) (fun _ _ _ h => h) (Ao rfl) rfl rfl hS hS' (Bg (j := 4 * t + 2) rfl rfl (by omega)) ?_
  refine Aq 25 rfl (by kernel_rfl) (by kernel_rfl) (by kernel_rfl) (fun _ _ _ h => h) (Ao rfl) rfl rfl hS hS' (CC rfl (CL (hbyte (4 * t + 2) (by omega)))) ?_
  refine Aq 26 rfl (by kernel_rfl) (by kernel_rfl) (by kernel_rfl) (fun _ _ _ h => h) (Ao rfl) rfl rfl hS hS' (ov_c8 rfl) ?_
  refine Aq 27 rfl (by kernel_rfl) (by kernel_rfl) (by kernel_rfl) (fun _ _ _ h => h) (Ao rfl) rfl rfl hS hS' (ov_wi rfl rfl (w_shl _ _ (n := 8) rfl (by decide))) ?_
  refine Aq 28 rfl (by kernel_rfl) (by kernel_rfl) (by kernel_rfl) (fun _ _ _ h => h) (Ao rfl) rfl rfl hS hS' (BX rfl rfl (w_or ..)) ?_
  refine Aq 29 rfl (by kernel_rfl) (by kernel_rfl) (by kernel_rfl) (fun _ _ _ h => h) (Ao rfl) rfl rfl hS hS' (Bx rfl) ?_
  refine Aq 30 rfl (by kernel_rfl) (by kernel_rfl) (by kernel_rfl) (fun _ _ _ h => h) (Ao rfl) rfl rfl hS hS' (Bx rfl) ?_
  refine Aq 31 rfl (by kernel_rfl) (by kernel_rfl) (by kernel_rfl) (fun _ _ _ h => h) (Ao rfl) rfl rfl hS hS' (Bz rfl rfl (b_mul4 _ c1)) ?_
  refine Aq 32 rfl (by kernel_rfl) (by kernel_rfl) (by kernel_rfl) (fun _ _ _ h => h) (Ao rfl) rfl rfl hS hS' (Bz rfl rfl (b_addc _ (4 * t) 3 (by omega))) ?_
  refine Aq 33 rfl (by kernel_rfl) (by kernel_rfl) (by kernel_rfl) (fun _ _ _ h => h) (Ao rfl) rfl rfl hS hS' (Ga rfl) ?_
  refine Aq 34 rfl (by kernel_rfl) (by kernel_rfl) (by kernel_rfl) (fun _ _ _ h => h) (Ao rfl) rfl rfl hS hS' (Bg (j := 4 * t + 3) rfl rfl (by omega)) ?_
  refine Aq 35 rfl (by kernel_rfl) (by kernel_rfl) (by kernel_rfl) (fun _ _ _ h => h) (Ao rfl) rfl rfl hS hS' (CC rfl (CL (hbyte (4 * t + 3) (by omega)))) ?_
  refine Aq 36 rfl (by kernel_rfl) (by kernel_rfl) (by kernel_rfl) (fun _ _ _ h => h) (Ao rfl) rfl rfl hS hS' (ov_c8 rfl) ?_
  refine Aq 37 rfl (by kernel_rfl) (by kernel_rfl) (by kernel_rfl) (fun _ _ _ h => h) (Ao rfl) rfl rfl hS hS' (BX rfl rfl (w_or ..)) ?_
  refine Aq 38 rfl (by kernel_rfl) (by kernel_rfl) (by kernel_rfl) (fun _ _ _ h => h) (Ao rfl) rfl rfl hS hS' (Bg (j := t) rfl rfl c1) ?_
  refine F1 39 (by kernel_rfl) ?_
  refine gs_op rfl (Ao rfl) (ef_st (C := BC b t) rfl rfl (by rw [Do b ht]; omega) (by simp) (Du _) ⟨tail1, ?_⟩)
  refine gs_done (by kernel_rfl) ?_
  refine g_exit ?_
  refine ggo ?_
  refine ⟨t + 1, c1, by omega, ⟨?_, rfl, rfl, rfl, trivial⟩, fun w h => ?_⟩
  ·show some (Value.int .i64 (IntKind.i64.wrap ((t : Int) + 1))) = _
   rw [IntWalk.i64_in _ (by omega)]; rfl
  ·rw [Nat.zero_add, wCells_succ b c1 (by rw [wNext, if_pos c2]; rfl)] at h
   exact h
 refine gn (v := .bool false) rfl rfl rfl (Bz rfl rfl (by rw [EO, decide_eq_false (by omega)])) ?_
 refine ggo ?_
 rw [show IntKind.i64.wrap ((t : Int) - 15) = ((t - 15 : Nat) : Int) by rw [IntWalk.i64_in _ (by omega)]; omega]
 refine qn rfl rfl rfl (Bg (j := t - 15) rfl rfl (by omega)) ?_
 refine qn rfl rfl rfl (CC rfl (CL (C := BC b t) (by rw [Nat.zero_add]; exact Gp b (i := t - 15) (by omega)))) ?_
 refine ggo ?_
 rw [show IntKind.i64.wrap ((t : Int) - 2) = ((t - 2 : Nat) : Int) by rw [IntWalk.i64_in _ (by omega)]; omega]
 refine qn rfl rfl rfl (Bg (j := t - 2) rfl rfl (by omega)) ?_
 refine qn rfl rfl rfl (CC rfl (CL (C := BC b t) (by rw [Nat.zero_add]; exact Gp b (i := t - 2) (by omega)))) ?_
 refine ggo ?_
 refine gl_callq (Ao rfl) rfl rfl (by kernel_rfl) (fun w' _ => CN _ 17 (by decide) w') ?_
 refine ggo ?_
 refine gl_callq (Ao rfl) rfl rfl (by kernel_rfl) (fun w' _ => CN _ 19 (by decide) w') ?_
 refine ggo ?_
 refine gn rfl rfl rfl (BX rfl rfl (F4 ..)) ?_
 refine ggo ?_
 refine gn rfl rfl rfl (ov_wi rfl rfl (w_shr _ _ (n := 10) rfl (by decide))) ?_
 refine gn rfl rfl rfl (BX rfl rfl (F4 ..)) ?_
 refine gn rfl rfl rfl (Bg (j := t) rfl rfl c1) ?_
 refine gl_w (Ao rfl) (ef_st (C := BC b t) rfl rfl (by rw [Do b ht]; omega) (by simp) (Du _) ?_)
 rw [show (Nat.xor (Nat.xor (rotW (AA (wExp b t) (t - 2)) 17) (rotW (AA (wExp b t) (t - 2)) 19)) (shrW (AA (wExp b t) (t - 2)) 10)) = s1N (AA (wExp b t) (t - 2)) from rfl]
 generalize hC1 : (BC b t).set (0 + t) (AE (s1N (AA (wExp b t) (t - 2)))) = C1
 repeat (first | ((first | (apply gn; iterate 3 exact rfl) | (apply gg; iterate 5 exact rfl) | (apply qn; iterate 3 exact rfl) | (apply qg; iterate 5 exact rfl)); first | (apply Bx; exact rfl) | (apply Fc; exact rfl) | (apply ov_len; exact rfl) | (apply ov_extr; exact rfl; exact rfl) | (apply ov_fa; exact rfl) | (apply ov_not; exact rfl) | (apply GI; exact rfl; exact rfl) | (apply GJ; exact rfl; exact rfl) | exact ov_ldl rfl rfl | exact Bz rfl rfl (Gi ..) | exact Bz rfl rfl (HB ..) | exact Bz rfl rfl (HC ..)) | apply gl_nil | (apply g_seqN; exact rfl) | apply g_block | apply GZ | (apply g_condT; exact rfl) | (apply g_condF; exact rfl) | apply g_skip | apply g_label | (apply gi; iterate 5 exact rfl) | (apply gu; iterate 5 exact rfl) | apply glq_nil | (apply qi; iterate 5 exact rfl) | (apply qu; iterate 5 exact rfl))
 refine gs_any (fun w => St w0 w L ∧ ∀ j, j < t → w.cell? ⟨bw, j, none⟩ = some (AE (AA (wExp b t) j))) (by kernel_rfl) ?_
 have hlow : ∀ j, j < t → C1[j]? = some (AE (AA (wExp b t) j)) := fun j hj => by
  rw [← hC1, Nat.zero_add, List.getElem?_set_ne (by omega)]
  exact Gp b hj
 have hld : C1[0 + t]? = some (AE (s1N (AA (wExp b t) (t - 2)))) := by
  rw [← hC1, List.getElem?_set_self (by rw [Do b ht]; omega)]
 have hS : ∀ w, St w0 w ((some bw, .cells C1.toArray 237 (0, 0)) :: L) → St w0 w L ∧ ∀ j, j < t → w.cell? ⟨bw, j, none⟩ = some (AE (AA (wExp b t) j)) := fun w h => ⟨tail1 w h, fun j hj => by
  have := (h.has 0 bw _ rfl).1
  simp only [World.cell?, this]
  simpa using hlow j hj⟩
 have hS' : ∀ w, (St w0 w L ∧ ∀ j, j < t → w.cell? ⟨bw, j, none⟩ = some (AE (AA (wExp b t) j))) → St w0 w L := fun _ h => h.1
 have hC2 : C1.set (0 + t) (AE (wNext b (wExp b t) t)) = BC b (t + 1) := by
  rw [← hC1, List.set_set, Nat.zero_add]
  exact wCells_succ b c1 rfl
 have hC3 : ∀ w, St w0 w ((some bw, .cells (C1.set (0 + t) (AE (addW (s1N (AA (wExp b t) (t - 2))) (addW (addW (AA (wExp b t) (t - 7)) (AA (wExp b t) (t - 16))) (s0N (AA (wExp b t) (t - 15))))))).toArray 237 (0, 0)) :: L) →
   St w0 w ((some bw, .cells (BC b (t + 1)).toArray 237 (0, 0)) :: L) := fun w h => by
  rw [← hC2, wNext, if_neg c2]
  exact h
 refine Aq 0 rfl (by kernel_rfl) (by kernel_rfl) (by kernel_rfl) (fun _ _ _ h => h) (Ao rfl) rfl rfl hS hS' (Bx rfl) ?_
 refine Aq 1 rfl (by kernel_rfl) (by kernel_rfl) (by kernel_rfl) (fun _ _ _ h => h) (Ao rfl) rfl rfl hS hS' (Bg (j := t) rfl rfl c1) ?_
 refine Aq 3 rfl (by kernel_rfl) (by kernel_rfl) (by kernel_rfl) (fun _ _ _ h => h) (Ao rfl) rfl rfl hS hS' (Bx rfl) ?_
 refine Aq 4 rfl (by kernel_rfl) (by kernel_rfl) (by kernel_rfl) (fun _ _ _ h => h) (Ao rfl) rfl rfl hS hS' (Bz rfl rfl (b_subc _ t 7 (by omega) (by omega))) ?_
 refine Aq 5 rfl (by kernel_rfl) (by kernel_rfl) (by kernel_rfl) (fun _ _ _ h => h) (Ao rfl) rfl rfl hS hS' (Bg (j := t - 7) rfl rfl (by omega)) ?_
 refine gs_takeS 6 rfl (by kernel_rfl) (by kernel_rfl) (by kernel_rfl) (fun _ _ _ h => h) (Ao rfl) rfl rfl hS (ov_ldS rfl (fun w h => by rw [Nat.zero_add]; exact h.2 (t - 7) (by omega))) ?_
 refine Aq 7 rfl (by kernel_rfl) (by kernel_rfl) (by kernel_rfl) (fun _ _ _ h => h) (Ao rfl) rfl rfl hS hS' (Bx rfl) ?_
 refine Aq 8 rfl (by kernel_rfl) (by kernel_rfl) (by kernel_rfl) (fun _ _ _ h => h) (Ao rfl) rfl rfl hS hS' (Bz rfl rfl (b_subc _ t 16 (by omega) (by omega))) ?_
 refine Aq 9 rfl (by kernel_rfl) (by kernel_rfl) (by kernel_rfl) (fun _ _ _ h => h) (Ao rfl) rfl rfl hS hS' (Bg (j := t - 16) rfl rfl (by omega)) ?_
 refine gs_takeS 10 rfl (by kernel_rfl) (by kernel_rfl) (by kernel_rfl) (fun _ _ _ h => h) (Ao rfl) rfl rfl hS (ov_ldS rfl (fun w h => by rw [Nat.zero_add]; exact h.2 (t - 16) (by omega))) ?_
 refine Aq 11 rfl (by kernel_rfl) (by kernel_rfl) (by kernel_rfl) (fun _ _ _ h => h) (Ao rfl) rfl rfl hS hS' (BX rfl rfl (F5 ..)) ?_
 refine Aq 12 rfl (by kernel_rfl) (by kernel_rfl) (by kernel_rfl) (fun _ _ _ h => h) (Ao rfl) rfl rfl hS hS' (Bx rfl) ?_
 refine Aq 14 rfl (by kernel_rfl) (by kernel_rfl) (by kernel_rfl) (fun _ _ _ h => h) (Ao rfl) rfl rfl hS hS' (Bx rfl) ?_
 refine Aq 17 rfl (by kernel_rfl) (by kernel_rfl) (by kernel_rfl) (fun _ _ _ h => h) (Ao rfl) rfl rfl hS hS' (Bx rfl) ?_
 refine Aq 18 rfl (by kernel_rfl) (by kernel_rfl) (by kernel_rfl) (fun _ _ _ h => h) (Ao rfl) rfl rfl hS hS' (ov_wi rfl rfl (w_shr _ _ (n := 3) rfl (by decide))) ?_
 have hbeh : ∀ (v : Value) w, St w0 w ((some bw, .cells (C1.set (0 + t) v).toArray 237 (0, 0)) :: L) → St w0 w L ∧ ∀ j, j < t → w.cell? ⟨bw, j, none⟩ = some (AE (AA (wExp b t) j)) := fun v w h => ⟨tail1 w h, fun j hj => by
  have := (h.has 0 bw _ rfl).1
  simp only [World.cell?, this]
  have e := hlow j hj
  rw [← List.getElem?_set_ne (i := 0 + t) (a := v) (by omega)] at e
  simpa using e⟩
 refine gs_all [2, 13] (by kernel_rfl) (by decide) fun q hq => ?_
 have hq : q = 2 ∨ q = 13 := by simpa using hq
 rcases hq with rfl | rfl
 ·refine gs_val (i := 2) rfl (Ao rfl) rfl rfl (CC rfl (CL hld)) hS ?_
  refine F1 13 (by kernel_rfl) ?_
  refine gs_call (i := 13) rfl (Ao rfl) rfl rfl (by kernel_rfl) hS (fun w' _ => CN _ 7 (by decide) w') ?_
  refine F1 15 (by kernel_rfl) ?_
  refine gs_call (i := 15) rfl (Ao rfl) rfl rfl (by kernel_rfl) hS (fun w' _ => CN _ 18 (by decide) w') ?_
  refine Aq 16 rfl (by kernel_rfl) (by kernel_rfl) (by kernel_rfl) (fun _ _ _ h => h) (Ao rfl) rfl rfl hS hS' (BX rfl rfl (F4 ..)) ?_
  refine Aq 19 rfl (by kernel_rfl) (by kernel_rfl) (by kernel_rfl) (fun _ _ _ h => h) (Ao rfl) rfl rfl hS hS' (BX rfl rfl (F4 ..)) ?_
  refine Aq 20 rfl (by kernel_rfl) (by kernel_rfl) (by kernel_rfl) (fun _ _ _ h => h) (Ao rfl) rfl rfl hS hS' (BX rfl rfl (F5 ..)) ?_
  refine Aq 21 rfl (by kernel_rfl) (by kernel_rfl) (by kernel_rfl) (fun _ _ _ h => h) (Ao rfl) rfl rfl hS hS' (BX rfl rfl (F5 ..)) ?_
  refine Aq 22 rfl (by kernel_rfl) (by kernel_rfl) (by kernel_rfl) (fun _ _ _ h => h) (Ao rfl) rfl rfl hS hS' (Bg (j := t) rfl rfl c1) ?_
  refine F1 23 (by kernel_rfl) ?_
  refine gs_op rfl (Ao rfl) (ef_st (C := C1) rfl rfl (by rw [← hC1, List.length_set, Do b ht]; omega) (by simp) (Du _) ⟨hbeh _, ?_⟩)
  refine gs_done (by kernel_rfl) ?_
  refine ggo ?_
  refine ⟨t + 1, c1, by omega, ⟨?_, rfl, rfl, rfl, trivial⟩, hC3⟩
  show some (Value.int .i64 (IntKind.i64.wrap ((t : Int) + 1))) = _
  rw [IntWalk.i64_in _ (by omega)]; rfl
 ·refine gs_call (i := 13) rfl (Ao rfl) rfl rfl (by kernel_rfl) hS (fun w' _ => CN _ 7 (by decide) w') ?_
  refine gs_all [2, 15] (by kernel_rfl) (by decide) fun q hq => ?_
  have hq : q = 2 ∨ q = 15 := by simpa using hq
  rcases hq with rfl | rfl
  ·refine gs_val (i := 2) rfl (Ao rfl) rfl rfl (CC rfl (CL hld)) hS ?_
   refine F1 15 (by kernel_rfl) ?_
   refine gs_call (i := 15) rfl (Ao rfl) rfl rfl (by kernel_rfl) hS (fun w' _ => CN _ 18 (by decide) w') ?_
   refine Aq 16 rfl (by kernel_rfl) (by kernel_rfl) (by kernel_rfl) (fun _ _ _ h => h) (Ao rfl) rfl rfl hS hS' (BX rfl rfl (F4 ..)) ?_
   refine Aq 19 rfl (by kernel_rfl) (by kernel_rfl) (by kernel_rfl) (fun _ _ _ h => h) (Ao rfl) rfl rfl hS hS' (BX rfl rfl (F4 ..)) ?_
   refine Aq 20 rfl (by kernel_rfl) (by kernel_rfl) (by kernel_rfl) (fun _ _ _ h => h) (Ao rfl) rfl rfl hS hS' (BX rfl rfl (F5 ..)) ?_
   refine Aq 21 rfl (by kernel_rfl) (by kernel_rfl) (by kernel_rfl) (fun _ _ _ h => h) (Ao rfl) rfl rfl hS hS' (BX rfl rfl (F5 ..)) ?_
   refine Aq 22 rfl (by kernel_rfl) (by kernel_rfl) (by kernel_rfl) (fun _ _ _ h => h) (Ao rfl) rfl rfl hS hS' (Bg (j := t) rfl rfl c1) ?_
   refine F1 23 (by kernel_rfl) ?_
   refine gs_op rfl (Ao rfl) (ef_st (C := C1) rfl rfl (by rw [← hC1, List.length_set, Do b ht]; omega) (by simp) (Du _) ⟨hbeh _, ?_⟩)
   refine gs_done (by kernel_rfl) ?_
   refine ggo ?_
   refine ⟨t + 1, c1, by omega, ⟨?_, rfl, rfl, rfl, trivial⟩, hC3⟩
   show some (Value.int .i64 (IntKind.i64.wrap ((t : Int) + 1))) = _
   rw [IntWalk.i64_in _ (by omega)]; rfl
  ·refine gs_call (i := 15) rfl (Ao rfl) rfl rfl (by kernel_rfl) hS (fun w' _ => CN _ 18 (by decide) w') ?_
   refine Aq 16 rfl (by kernel_rfl) (by kernel_rfl) (by kernel_rfl) (fun _ _ _ h => h) (Ao rfl) rfl rfl hS hS' (BX rfl rfl (F4 ..)) ?_
   refine Aq 19 rfl (by kernel_rfl) (by kernel_rfl) (by kernel_rfl) (fun _ _ _ h => h) (Ao rfl) rfl rfl hS hS' (BX rfl rfl (F4 ..)) ?_
   refine Aq 20 rfl (by kernel_rfl) (by kernel_rfl) (by kernel_rfl) (fun _ _ _ h => h) (Ao rfl) rfl rfl hS hS' (BX rfl rfl (F5 ..)) ?_
   refine F1 2 (by kernel_rfl) ?_
   refine gs_val (i := 2) rfl (Ao rfl) rfl rfl (CC rfl (CL hld)) hS ?_
   refine Aq 21 rfl (by kernel_rfl) (by kernel_rfl) (by kernel_rfl) (fun _ _ _ h => h) (Ao rfl) rfl rfl hS hS' (BX rfl rfl (F5 ..)) ?_
   refine Aq 22 rfl (by kernel_rfl) (by kernel_rfl) (by kernel_rfl) (fun _ _ _ h => h) (Ao rfl) rfl rfl hS hS' (Bg (j := t) rfl rfl c1) ?_
   refine F1 23 (by kernel_rfl) ?_
   refine gs_op rfl (Ao rfl) (ef_st (C := C1) rfl rfl (by rw [← hC1, List.length_set, Do b ht]; omega) (by simp) (Du _) ⟨hbeh _, ?_⟩)
   refine gs_done (by kernel_rfl) ?_
   refine ggo ?_
   refine ⟨t + 1, c1, by omega, ⟨?_, rfl, rfl, rfl, trivial⟩, hC3⟩
   show some (Value.int .i64 (IntKind.i64.wrap ((t : Int) + 1))) = _
   rw [IntWalk.i64_in _ (by omega)]; rfl
end Go.Proofs.YtbmkclbghfbegaaGreatDoor
