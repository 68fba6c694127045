/- Sha1: the words of SHA-256: what the document's arithmetic is, in numbers; RotR. By this project. -/
import Derived.Test.YtaahfdjobpbpjaaGreatDoorGo
set_option linter.unusedVariables false
set_option linter.unusedSectionVars false
set_option linter.unusedSimpArgs false
namespace Go.Proofs.YtaahfdjobpbpjaaGreatDoor
open Go.RowKit Go.Extern.Stop

def M32 : Nat := 4294967296
/-- A word's cell. -/
def wcell (x : Nat) : Value := .int .u32 ((x % 4294967296 : Nat) : Int)
def addW (x y : Nat) : Nat := Nat.mod (Nat.add x y) 4294967296
def shrW (x n : Nat) : Nat := Nat.div (Nat.mod x 4294967296) (2 ^ n)
def shlW (x n : Nat) : Nat := Nat.mod (Nat.mul x (2 ^ n)) 4294967296
def rotW (x n : Nat) : Nat := Nat.lor (shrW x n) (shlW x (32 - n))
def notW (x : Nat) : Nat := Nat.xor 4294967295 x
theorem wrap32 (n : Nat) : IntKind.u32.wrap (n : Int) = ((n % 4294967296 : Nat) : Int) := by
  simp [IntKind.wrap, IntKind.signed, IntKind.bits]
theorem wcell_mod (x : Nat) : wcell (x % 4294967296) = wcell x := by simp [wcell]
theorem wcell_eq {x : Nat} (h : x < 4294967296) : wcell x = .int .u32 (x : Int) := by simp [wcell, Nat.mod_eq_of_lt h]
theorem of32 (x : Nat) : (BitVec.ofInt IntKind.u32.bits ((x % 4294967296 : Nat) : Int)).toNat = x % 4294967296 := by
  simp [IntKind.bits]
  omega
theorem mod_land (x y : Nat) : (x % 4294967296) &&& (y % 4294967296) = (x &&& y) % 4294967296 := by
  have := Nat.and_mod_two_pow (n := 32) (a := x) (b := y); simpa using this.symm
theorem mod_lor (x y : Nat) : (x % 4294967296) ||| (y % 4294967296) = (x ||| y) % 4294967296 := by
  have := Nat.or_mod_two_pow (n := 32) (a := x) (b := y); simpa using this.symm
theorem mod_xor (x y : Nat) : (x % 4294967296) ^^^ (y % 4294967296) = (x ^^^ y) % 4294967296 := by
  have := Nat.xor_mod_two_pow (n := 32) (a := x) (b := y); simpa using this.symm
theorem w_add (t : TypeId) (x y : Nat) : binOp .add t (wcell x) (wcell y) = pure (wcell (addW x y)) := by
  unfold wcell
  rw [bin_add, ← Int.natCast_add, wrap32]
  have : addW x y = (x + y) % 4294967296 := rfl
  rw [this, Nat.mod_mod, ← Nat.add_mod]
theorem w_and (t : TypeId) (x y : Nat) : binOp .and t (wcell x) (wcell y) = pure (wcell (Nat.land x y)) := by
  unfold wcell
  rw [bin_and, BitVec.toNat_and, of32, of32, mod_land, wrap32, Nat.mod_mod]
  rfl
theorem w_or (t : TypeId) (x y : Nat) : binOp .or t (wcell x) (wcell y) = pure (wcell (Nat.lor x y)) := by
  unfold wcell
  rw [bin_or, BitVec.toNat_or, of32, of32, mod_lor, wrap32, Nat.mod_mod]
  rfl
theorem w_xor (t : TypeId) (x y : Nat) : binOp .xor t (wcell x) (wcell y) = pure (wcell (Nat.xor x y)) := by
  unfold wcell
  rw [bin_xor, BitVec.toNat_xor, of32, of32, mod_xor, wrap32, Nat.mod_mod]
  rfl
theorem w_not (x : Nat) : Op.unary .xor (wcell x) = pure (wcell (notW x)) := by
  unfold wcell
  have : Op.unary .xor (.int .u32 ((x % 4294967296 : Nat) : Int)) = pure (Value.int .u32 (IntKind.u32.wrap (BitVec.ofInt IntKind.u32.bits (4294967295 : Int) ^^^ BitVec.ofInt IntKind.u32.bits ((x % 4294967296 : Nat) : Int)).toNat)) := by
    simp [Op.unary, Op.intBits, IntKind.signed, IntKind.max, IntKind.bits]
  rw [this, BitVec.toNat_xor, of32]
  have e : (BitVec.ofInt IntKind.u32.bits (4294967295 : Int)).toNat = 4294967295 % 4294967296 := by decide
  rw [e, mod_xor, wrap32, Nat.mod_mod]
  rfl
theorem w_shr (t : TypeId) {k : IntKind} (x : Nat) {q : Int} {n : Nat} (h : q = (n : Int)) (hn : n ≤ 32) : binOp .shr t (wcell x) (.int k q) = pure (wcell (shrW x n)) := by
  subst h
  unfold wcell
  rw [bin_shr _ _ _ _ _ (by omega), Int.toNat_natCast]
  have e : min n IntKind.u32.bits = n := by simp [IntKind.bits]; omega
  rw [e]
  have : shrW x n = (x % 4294967296) / 2 ^ n := rfl
  rw [this]
  have h2 : (x % 4294967296) / 2 ^ n < 4294967296 := Nat.lt_of_le_of_lt (Nat.div_le_self _ _) (Nat.mod_lt _ (by omega))
  rw [Nat.mod_eq_of_lt h2]
  congr 2
  rw [Int.fdiv_eq_ediv_of_nonneg _ (by exact_mod_cast Nat.zero_le _)]
  norm_cast
theorem w_shl (t : TypeId) {k : IntKind} (x : Nat) {q : Int} {n : Nat} (h : q = (n : Int)) (hn : n ≤ 32) : binOp .shl t (wcell x) (.int k q) = pure (wcell (shlW x n)) := by
  subst h
  unfold wcell
  rw [bin_shl _ _ _ _ _ (by omega), Int.toNat_natCast]
  have e : min n IntKind.u32.bits = n := by simp [IntKind.bits]; omega
  rw [e]
  have h2 : (((x % 4294967296 : Nat) : Int) * 2 ^ n) = (((x % 4294967296) * 2 ^ n : Nat) : Int) := by norm_cast
  rw [h2, wrap32]
  have : shlW x n = (x * 2 ^ n) % 4294967296 := rfl
  rw [this, Nat.mod_mod, Nat.mod_mul_mod]

instance {x : Nat} : CellsOf (wcell x) [wcell x] := ⟨rfl⟩
theorem ov_ww {P : Program} {w0 : World} {l : FL} {L : HL} {op : BinOp} {t t' : TypeId} {x y : Operand} {p q : Nat} {v : Value} {dst : Option Tmp} {ty : TypeId} {ps : String} {af : Array Edge} {gd : Option (Nat × Bool)} (hx : evl l x = some (wcell p)) (hy : evl l y = some (wcell q))
    (hr : binOp op t (wcell p) (wcell q) = pure v) : OV P w0 L l ⟨dst, .binOp op t x y t', ty, ps, af, gd⟩ v := ov_int hx hy hr
theorem ov_wi {P : Program} {w0 : World} {l : FL} {L : HL} {op : BinOp} {t t' : TypeId} {x y : Operand} {p : Nat} {k : IntKind} {q : Int} {v : Value} {dst : Option Tmp} {ty : TypeId} {ps : String} {af : Array Edge} {gd : Option (Nat × Bool)} (hx : evl l x = some (wcell p)) (hy : evl l y = some (.int k q))
    (hr : binOp op t (wcell p) (.int k q) = pure v) : OV P w0 L l ⟨dst, .binOp op t x y t', ty, ps, af, gd⟩ v := ov_int hx hy hr
theorem wcell_one (x : Nat) : (wcell x).oneCell' = true := rfl
theorem wcells_one (l : List Nat) : (l.map wcell).all (·.oneCell') = true := by
  rw [List.all_map, List.all_eq_true]
  exact fun x _ => wcell_one x
theorem wcell_zero : wcell 0 = .int .u32 0 := rfl
attribute [irreducible] wcell addW shrW shlW notW
set_option maxHeartbeats 400000 in
theorem rotR_cl (x n : Nat) (hn : n ≤ 32) (w : World) : Cl Tryz.prog 196 #[wcell x, .int .u64 (n : Int)] w fun v _ => v = wcell (rotW x n) := by
  refine cl_of_g Tryz.func196 rfl rfl ?_
  repeat (first | ((first | (apply gn; iterate 3 exact rfl) | (apply gg; iterate 5 exact rfl) | (apply qn; iterate 3 exact rfl) | (apply qg; iterate 5 exact rfl)); first | (apply ov_move; exact rfl) | (apply ov_assign; exact rfl) | (apply ov_len; exact rfl) | (apply ov_extr; exact rfl; exact rfl) | (apply ov_fa; exact rfl) | (apply ov_not; exact rfl) | (apply ov_pickT; exact rfl; exact rfl) | (apply ov_pickF; exact rfl; exact rfl) | exact ov_ldl rfl rfl | exact ov_int rfl rfl (bin_add ..) | exact ov_int rfl rfl (bin_sub ..) | exact ov_int rfl rfl (bin_mul ..)) | apply gl_nil | (apply g_seqN; exact rfl) | apply g_block | apply g_region | (apply g_condT; exact rfl) | (apply g_condF; exact rfl) | apply g_skip | apply g_label | (apply gi; iterate 5 exact rfl) | (apply gu; iterate 5 exact rfl) | apply glq_nil | (apply qi; iterate 5 exact rfl) | (apply qu; iterate 5 exact rfl) | (apply g_quiet; kernel_rfl; kernel_rfl))
  first | refine gn rfl rfl rfl (ov_wi rfl rfl (w_shr _ _ rfl hn)) ?_ | refine gg rfl rfl rfl rfl rfl (ov_wi rfl rfl (w_shr _ _ rfl hn)) ?_ | refine qn rfl rfl rfl (ov_wi rfl rfl (w_shr _ _ rfl hn)) ?_ | refine qg rfl rfl rfl rfl rfl (ov_wi rfl rfl (w_shr _ _ rfl hn)) ?_
  repeat (first | ((first | (apply gn; iterate 3 exact rfl) | (apply gg; iterate 5 exact rfl) | (apply qn; iterate 3 exact rfl) | (apply qg; iterate 5 exact rfl)); first | (apply ov_move; exact rfl) | (apply ov_assign; exact rfl) | (apply ov_len; exact rfl) | (apply ov_extr; exact rfl; exact rfl) | (apply ov_fa; exact rfl) | (apply ov_not; exact rfl) | (apply ov_pickT; exact rfl; exact rfl) | (apply ov_pickF; exact rfl; exact rfl) | exact ov_ldl rfl rfl | exact ov_int rfl rfl (bin_add ..) | exact ov_int rfl rfl (bin_sub ..) | exact ov_int rfl rfl (bin_mul ..)) | apply gl_nil | (apply g_seqN; exact rfl) | apply g_block | apply g_region | (apply g_condT; exact rfl) | (apply g_condF; exact rfl) | apply g_skip | apply g_label | (apply gi; iterate 5 exact rfl) | (apply gu; iterate 5 exact rfl) | apply glq_nil | (apply qi; iterate 5 exact rfl) | (apply qu; iterate 5 exact rfl) | (apply g_quiet; kernel_rfl; kernel_rfl))
  rw [show IntKind.u64.wrap (32 - (n : Int)) = ((32 - n : Nat) : Int) by
    have : (32 - (n : Int)) = ((32 - n : Nat) : Int) := by omega
    rw [this]
    simp only [IntKind.wrap, IntKind.signed, IntKind.bits, Bool.false_and, Bool.false_eq_true, if_false]
    omega]
  first | refine gn rfl rfl rfl (ov_wi rfl rfl (w_shl _ _ rfl (by omega))) ?_ | refine gg rfl rfl rfl rfl rfl (ov_wi rfl rfl (w_shl _ _ rfl (by omega))) ?_ | refine qn rfl rfl rfl (ov_wi rfl rfl (w_shl _ _ rfl (by omega))) ?_ | refine qg rfl rfl rfl rfl rfl (ov_wi rfl rfl (w_shl _ _ rfl (by omega))) ?_
  repeat (first | ((first | (apply gn; iterate 3 exact rfl) | (apply gg; iterate 5 exact rfl) | (apply qn; iterate 3 exact rfl) | (apply qg; iterate 5 exact rfl)); first | (apply ov_move; exact rfl) | (apply ov_assign; exact rfl) | (apply ov_len; exact rfl) | (apply ov_extr; exact rfl; exact rfl) | (apply ov_fa; exact rfl) | (apply ov_not; exact rfl) | (apply ov_pickT; exact rfl; exact rfl) | (apply ov_pickF; exact rfl; exact rfl) | exact ov_ldl rfl rfl | exact ov_int rfl rfl (bin_add ..) | exact ov_int rfl rfl (bin_sub ..) | exact ov_int rfl rfl (bin_mul ..)) | apply gl_nil | (apply g_seqN; exact rfl) | apply g_block | apply g_region | (apply g_condT; exact rfl) | (apply g_condF; exact rfl) | apply g_skip | apply g_label | (apply gi; iterate 5 exact rfl) | (apply gu; iterate 5 exact rfl) | apply glq_nil | (apply qi; iterate 5 exact rfl) | (apply qu; iterate 5 exact rfl) | (apply g_quiet; kernel_rfl; kernel_rfl))
  first | refine gn rfl rfl rfl (ov_ww rfl rfl (w_or ..)) ?_ | refine gg rfl rfl rfl rfl rfl (ov_ww rfl rfl (w_or ..)) ?_ | refine qn rfl rfl rfl (ov_ww rfl rfl (w_or ..)) ?_ | refine qg rfl rfl rfl rfl rfl (ov_ww rfl rfl (w_or ..)) ?_
  repeat (first | ((first | (apply gn; iterate 3 exact rfl) | (apply gg; iterate 5 exact rfl) | (apply qn; iterate 3 exact rfl) | (apply qg; iterate 5 exact rfl)); first | (apply ov_move; exact rfl) | (apply ov_assign; exact rfl) | (apply ov_len; exact rfl) | (apply ov_extr; exact rfl; exact rfl) | (apply ov_fa; exact rfl) | (apply ov_not; exact rfl) | (apply ov_pickT; exact rfl; exact rfl) | (apply ov_pickF; exact rfl; exact rfl) | exact ov_ldl rfl rfl | exact ov_int rfl rfl (bin_add ..) | exact ov_int rfl rfl (bin_sub ..) | exact ov_int rfl rfl (bin_mul ..)) | apply gl_nil | (apply g_seqN; exact rfl) | apply g_block | apply g_region | (apply g_condT; exact rfl) | (apply g_condF; exact rfl) | apply g_skip | apply g_label | (apply gi; iterate 5 exact rfl) | (apply gu; iterate 5 exact rfl) | apply glq_nil | (apply qi; iterate 5 exact rfl) | (apply qu; iterate 5 exact rfl) | (apply g_quiet; kernel_rfl; kernel_rfl))
  exact g_ret ⟨_, res_1 rfl, rfl⟩
attribute [irreducible] rotW
end Go.Proofs.YtaahfdjobpbpjaaGreatDoor
