/- The walks of journal.Follows and of the document's Follows. -/
import Derived.Test.YtfanghiakbddcaaDoorTy
namespace Go.Proofs.YtfanghiakbddcaaDoor
open Go.RowKit Go.Extern.Stop

theorem next_cl (a b : Int) (w : World) : Cl Tryd.prog 20 #[.int .i64 a, .int .i64 b] w fun v _ => v = .bool (decide (a < b) && (IntKind.i64.wrap (b - 1) == a)) := by
  refine cl_of_g Tryd.func20 rfl rfl ?_
  repeat (first | refine g_seq ?_ | refine g_block ?_)
  refine g_region ?_
  repeat (first | refine gn rfl rfl rfl (ov_move rfl) ?_ | refine gn rfl rfl rfl (ov_assign rfl) ?_ | refine gn rfl rfl rfl (ov_fa rfl) ?_ | refine gn rfl rfl rfl (ov_ldl rfl rfl) ?_ | refine gn rfl rfl rfl (ov_len rfl) ?_ | refine gn rfl rfl rfl (ov_extract rfl rfl) ?_ | refine gn rfl rfl rfl (ov_int rfl rfl (bin_add ..)) ?_ | refine gn rfl rfl rfl (ov_int rfl rfl (bin_sub ..)) ?_ | refine gn rfl rfl rfl (ov_int rfl rfl (bin_mul ..)) ?_ | refine gn rfl rfl rfl (ov_int rfl rfl (bin_lss ..)) ?_ | refine gn rfl rfl rfl (ov_int rfl rfl (bin_leq ..)) ?_ | refine gn rfl rfl rfl (ov_int rfl rfl (bin_gtr ..)) ?_ | refine gn rfl rfl rfl (ov_int rfl rfl (bin_geq ..)) ?_ | refine gn rfl rfl rfl (ov_int rfl rfl (bin_eql ..)) ?_ | refine gn rfl rfl rfl (ov_int rfl rfl (bin_neq ..)) ?_)
  refine gl_nil ?_
  by_cases h : a < b
  · repeat (first | refine g_seq ?_ | refine g_block ?_)
    refine g_region ?_
    repeat (first | refine gn rfl rfl rfl (ov_move rfl) ?_ | refine gn rfl rfl rfl (ov_assign rfl) ?_ | refine gn rfl rfl rfl (ov_fa rfl) ?_ | refine gn rfl rfl rfl (ov_ldl rfl rfl) ?_ | refine gn rfl rfl rfl (ov_len rfl) ?_ | refine gn rfl rfl rfl (ov_extract rfl rfl) ?_)
    refine gn (v := .bool true) rfl rfl rfl (ov_int rfl rfl (by rw [bin_gtr, decide_eq_true h])) ?_
    repeat (first | refine gn rfl rfl rfl (ov_move rfl) ?_ | refine gn rfl rfl rfl (ov_assign rfl) ?_ | refine gn rfl rfl rfl (ov_fa rfl) ?_ | refine gn rfl rfl rfl (ov_ldl rfl rfl) ?_ | refine gn rfl rfl rfl (ov_len rfl) ?_ | refine gn rfl rfl rfl (ov_extract rfl rfl) ?_)
    repeat (first | refine gg rfl rfl rfl rfl rfl (ov_move rfl) ?_ | refine gg rfl rfl rfl rfl rfl (ov_assign rfl) ?_ | refine gg rfl rfl rfl rfl rfl (ov_fa rfl) ?_ | refine gg rfl rfl rfl rfl rfl (ov_ldl rfl rfl) ?_ | refine gg rfl rfl rfl rfl rfl (ov_len rfl) ?_ | refine gg rfl rfl rfl rfl rfl (ov_extract rfl rfl) ?_ | refine gg rfl rfl rfl rfl rfl (ov_int rfl rfl (bin_add ..)) ?_ | refine gg rfl rfl rfl rfl rfl (ov_int rfl rfl (bin_sub ..)) ?_ | refine gg rfl rfl rfl rfl rfl (ov_int rfl rfl (bin_mul ..)) ?_ | refine gg rfl rfl rfl rfl rfl (ov_int rfl rfl (bin_lss ..)) ?_ | refine gg rfl rfl rfl rfl rfl (ov_int rfl rfl (bin_leq ..)) ?_ | refine gg rfl rfl rfl rfl rfl (ov_int rfl rfl (bin_gtr ..)) ?_ | refine gg rfl rfl rfl rfl rfl (ov_int rfl rfl (bin_geq ..)) ?_ | refine gg rfl rfl rfl rfl rfl (ov_int rfl rfl (bin_eql ..)) ?_ | refine gg rfl rfl rfl rfl rfl (ov_int rfl rfl (bin_neq ..)) ?_)
    refine gn rfl rfl rfl (ov_pickT rfl rfl) ?_
    repeat (first | refine gn rfl rfl rfl (ov_move rfl) ?_ | refine gn rfl rfl rfl (ov_assign rfl) ?_ | refine gn rfl rfl rfl (ov_fa rfl) ?_ | refine gn rfl rfl rfl (ov_ldl rfl rfl) ?_ | refine gn rfl rfl rfl (ov_len rfl) ?_ | refine gn rfl rfl rfl (ov_extract rfl rfl) ?_)
    refine gl_nil ?_
    exact g_ret ⟨_, res_1 rfl, by simp [h]⟩
  · repeat (first | refine g_seq ?_ | refine g_block ?_)
    refine g_region ?_
    repeat (first | refine gn rfl rfl rfl (ov_move rfl) ?_ | refine gn rfl rfl rfl (ov_assign rfl) ?_ | refine gn rfl rfl rfl (ov_fa rfl) ?_ | refine gn rfl rfl rfl (ov_ldl rfl rfl) ?_ | refine gn rfl rfl rfl (ov_len rfl) ?_ | refine gn rfl rfl rfl (ov_extract rfl rfl) ?_)
    refine gn (v := .bool false) rfl rfl rfl (ov_int rfl rfl (by rw [bin_gtr, decide_eq_false h])) ?_
    repeat (first | refine gn rfl rfl rfl (ov_move rfl) ?_ | refine gn rfl rfl rfl (ov_assign rfl) ?_ | refine gn rfl rfl rfl (ov_fa rfl) ?_ | refine gn rfl rfl rfl (ov_ldl rfl rfl) ?_ | refine gn rfl rfl rfl (ov_len rfl) ?_ | refine gn rfl rfl rfl (ov_extract rfl rfl) ?_)
    repeat (first | refine gi rfl rfl rfl rfl rfl ?_ | refine gu rfl rfl rfl rfl rfl ?_)
    refine gn rfl rfl rfl (ov_pickF rfl rfl) ?_
    repeat (first | refine gn rfl rfl rfl (ov_move rfl) ?_ | refine gn rfl rfl rfl (ov_assign rfl) ?_ | refine gn rfl rfl rfl (ov_fa rfl) ?_ | refine gn rfl rfl rfl (ov_ldl rfl rfl) ?_ | refine gn rfl rfl rfl (ov_len rfl) ?_ | refine gn rfl rfl rfl (ov_extract rfl rfl) ?_)
    refine gl_nil ?_
    exact g_ret ⟨_, res_1 rfl, by simp [h]⟩

/-- What the cells of a head are. -/
structure IsHead (H : List Value) (c s : Int) (tag root : List UInt8) : Prop where
  len : H.length = 66
  count : H[0]? = some (.int .i64 c)
  seq : H[1]? = some (.int .i64 s)
  tagv : (H.drop 2).take 32 = tag.map cell
  rootv : (H.drop 34).take 32 = root.map cell
/-- What the cells of a record are. -/
structure IsRec (R : List Value) (k c s : Int) (prev root : List UInt8) : Prop where
  len : R.length = 68
  kind : R[0]? = some (.int .i64 k)
  count : R[1]? = some (.int .i64 c)
  seq : R[2]? = some (.int .i64 s)
  prevv : (R.drop 3).take 32 = prev.map cell
  rootv : (R.drop 35).take 32 = root.map cell
theorem len32 {R : List Value} {o k : Nat} {xs : List UInt8} (h : R.length = k) (hr : (R.drop o).take 32 = xs.map cell) (hk : o + 32 ≤ k := by decide) : xs.length = 32 := by
  have := congrArg List.length hr
  simp [h] at this
  omega

def followsB (st : Bool) (s s' : Int) (root root' : List UInt8) : Bool := if st then decide (s < s') && (IntKind.i64.wrap (s' - 1) == s) else (s' == s && root' == root)
theorem follows_cl (n l m : Int) (st : Bool) (H R : List Value) (c s k c' s' : Int) (tag root prev root' : List UInt8) (hH : IsHead H c s tag root) (hR : IsRec R k c' s' prev root') (w : World) :
    Cl Tryd.prog 21 #[.agg #[.int .i64 n, .int .i64 l, .int .i64 m, .bool st], .agg H.toArray, .agg R.toArray] w fun v _ => v = .bool (followsB st s s' root root') := by
  have l1 := len32 hH.len hH.rootv
  have l2 := len32 hR.len hR.rootv
  refine cl_of_g Tryd.func21 rfl rfl ?_
  repeat (first | refine g_seq ?_ | refine g_block ?_)
  refine g_region ?_
  refine gl_w (want_n rfl) (ef_box rfl rfl ?_); intro b0
  refine gl_w (want_n rfl) (ef_box rfl rfl ?_); intro b1
  refine gl_w (want_n rfl) (ef_box rfl rfl ?_); intro b2
  repeat (first | refine gn rfl rfl rfl (ov_move rfl) ?_ | refine gn rfl rfl rfl (ov_assign rfl) ?_ | refine gn rfl rfl rfl (ov_fa rfl) ?_ | refine gn rfl rfl rfl (ov_ldl rfl rfl) ?_ | refine gn rfl rfl rfl (ov_len rfl) ?_ | refine gn rfl rfl rfl (ov_extract rfl rfl) ?_ | refine gn rfl rfl rfl (ov_int rfl rfl (bin_add ..)) ?_ | refine gn rfl rfl rfl (ov_int rfl rfl (bin_sub ..)) ?_ | refine gn rfl rfl rfl (ov_int rfl rfl (bin_mul ..)) ?_ | refine gn rfl rfl rfl (ov_int rfl rfl (bin_lss ..)) ?_ | refine gn rfl rfl rfl (ov_int rfl rfl (bin_leq ..)) ?_ | refine gn rfl rfl rfl (ov_int rfl rfl (bin_gtr ..)) ?_ | refine gn rfl rfl rfl (ov_int rfl rfl (bin_geq ..)) ?_ | refine gn rfl rfl rfl (ov_int rfl rfl (bin_eql ..)) ?_ | refine gn rfl rfl rfl (ov_int rfl rfl (bin_neq ..)) ?_)
  refine gl_nil ?_
  repeat (first | refine g_seq ?_ | refine g_block ?_)
  refine g_region ?_
  repeat (first | refine gn rfl rfl rfl (ov_move rfl) ?_ | refine gn rfl rfl rfl (ov_assign rfl) ?_ | refine gn rfl rfl rfl (ov_fa rfl) ?_ | refine gn rfl rfl rfl (ov_ldl rfl rfl) ?_ | refine gn rfl rfl rfl (ov_len rfl) ?_ | refine gn rfl rfl rfl (ov_extract rfl rfl) ?_ | refine gn rfl rfl rfl (ov_int rfl rfl (bin_add ..)) ?_ | refine gn rfl rfl rfl (ov_int rfl rfl (bin_sub ..)) ?_ | refine gn rfl rfl rfl (ov_int rfl rfl (bin_mul ..)) ?_ | refine gn rfl rfl rfl (ov_int rfl rfl (bin_lss ..)) ?_ | refine gn rfl rfl rfl (ov_int rfl rfl (bin_leq ..)) ?_ | refine gn rfl rfl rfl (ov_int rfl rfl (bin_gtr ..)) ?_ | refine gn rfl rfl rfl (ov_int rfl rfl (bin_geq ..)) ?_ | refine gn rfl rfl rfl (ov_int rfl rfl (bin_eql ..)) ?_ | refine gn rfl rfl rfl (ov_int rfl rfl (bin_neq ..)) ?_)
  refine gl_nil ?_
  repeat (first | refine g_seq ?_ | refine g_block ?_)
  refine g_cond st rfl ?_ ?_
  · rintro rfl
    repeat (first | refine g_seq ?_ | refine g_block ?_)
    refine g_region ?_
    repeat (first | refine gn rfl rfl rfl (ov_move rfl) ?_ | refine gn rfl rfl rfl (ov_assign rfl) ?_ | refine gn rfl rfl rfl (ov_fa rfl) ?_ | refine gn rfl rfl rfl (ov_ldl rfl rfl) ?_ | refine gn rfl rfl rfl (ov_len rfl) ?_ | refine gn rfl rfl rfl (ov_extract rfl rfl) ?_ | refine gn rfl rfl rfl (ov_int rfl rfl (bin_add ..)) ?_ | refine gn rfl rfl rfl (ov_int rfl rfl (bin_sub ..)) ?_ | refine gn rfl rfl rfl (ov_int rfl rfl (bin_mul ..)) ?_ | refine gn rfl rfl rfl (ov_int rfl rfl (bin_lss ..)) ?_ | refine gn rfl rfl rfl (ov_int rfl rfl (bin_leq ..)) ?_ | refine gn rfl rfl rfl (ov_int rfl rfl (bin_gtr ..)) ?_ | refine gn rfl rfl rfl (ov_int rfl rfl (bin_geq ..)) ?_ | refine gn rfl rfl rfl (ov_int rfl rfl (bin_eql ..)) ?_ | refine gn rfl rfl rfl (ov_int rfl rfl (bin_neq ..)) ?_)
    refine gn rfl rfl rfl (ov_ldl rfl hH.seq) ?_
    repeat (first | refine gn rfl rfl rfl (ov_move rfl) ?_ | refine gn rfl rfl rfl (ov_assign rfl) ?_ | refine gn rfl rfl rfl (ov_fa rfl) ?_ | refine gn rfl rfl rfl (ov_ldl rfl rfl) ?_ | refine gn rfl rfl rfl (ov_len rfl) ?_ | refine gn rfl rfl rfl (ov_extract rfl rfl) ?_ | refine gn rfl rfl rfl (ov_int rfl rfl (bin_add ..)) ?_ | refine gn rfl rfl rfl (ov_int rfl rfl (bin_sub ..)) ?_ | refine gn rfl rfl rfl (ov_int rfl rfl (bin_mul ..)) ?_ | refine gn rfl rfl rfl (ov_int rfl rfl (bin_lss ..)) ?_ | refine gn rfl rfl rfl (ov_int rfl rfl (bin_leq ..)) ?_ | refine gn rfl rfl rfl (ov_int rfl rfl (bin_gtr ..)) ?_ | refine gn rfl rfl rfl (ov_int rfl rfl (bin_geq ..)) ?_ | refine gn rfl rfl rfl (ov_int rfl rfl (bin_eql ..)) ?_ | refine gn rfl rfl rfl (ov_int rfl rfl (bin_neq ..)) ?_)
    refine gn rfl rfl rfl (ov_ldl rfl hR.seq) ?_
    refine gl_callq (want_n rfl) rfl rfl (by kernel_rfl) (fun w _ => next_cl _ _ _) ?_
    repeat (first | refine gn rfl rfl rfl (ov_move rfl) ?_ | refine gn rfl rfl rfl (ov_assign rfl) ?_ | refine gn rfl rfl rfl (ov_fa rfl) ?_ | refine gn rfl rfl rfl (ov_ldl rfl rfl) ?_ | refine gn rfl rfl rfl (ov_len rfl) ?_ | refine gn rfl rfl rfl (ov_extract rfl rfl) ?_ | refine gn rfl rfl rfl (ov_int rfl rfl (bin_add ..)) ?_ | refine gn rfl rfl rfl (ov_int rfl rfl (bin_sub ..)) ?_ | refine gn rfl rfl rfl (ov_int rfl rfl (bin_mul ..)) ?_ | refine gn rfl rfl rfl (ov_int rfl rfl (bin_lss ..)) ?_ | refine gn rfl rfl rfl (ov_int rfl rfl (bin_leq ..)) ?_ | refine gn rfl rfl rfl (ov_int rfl rfl (bin_gtr ..)) ?_ | refine gn rfl rfl rfl (ov_int rfl rfl (bin_geq ..)) ?_ | refine gn rfl rfl rfl (ov_int rfl rfl (bin_eql ..)) ?_ | refine gn rfl rfl rfl (ov_int rfl rfl (bin_neq ..)) ?_)
    refine gl_nil ?_
    exact g_ret ⟨_, res_1 rfl, rfl⟩
  · rintro rfl
    refine g_skip ?_
    by_cases h : s' = s
    · repeat (first | refine g_seq ?_ | refine g_block ?_)
      refine g_region ?_
      repeat (first | refine gn rfl rfl rfl (ov_move rfl) ?_ | refine gn rfl rfl rfl (ov_assign rfl) ?_ | refine gn rfl rfl rfl (ov_fa rfl) ?_ | refine gn rfl rfl rfl (ov_ldl rfl rfl) ?_ | refine gn rfl rfl rfl (ov_len rfl) ?_ | refine gn rfl rfl rfl (ov_extract rfl rfl) ?_ | refine gn rfl rfl rfl (ov_int rfl rfl (bin_add ..)) ?_ | refine gn rfl rfl rfl (ov_int rfl rfl (bin_sub ..)) ?_ | refine gn rfl rfl rfl (ov_int rfl rfl (bin_mul ..)) ?_ | refine gn rfl rfl rfl (ov_int rfl rfl (bin_lss ..)) ?_ | refine gn rfl rfl rfl (ov_int rfl rfl (bin_leq ..)) ?_ | refine gn rfl rfl rfl (ov_int rfl rfl (bin_gtr ..)) ?_ | refine gn rfl rfl rfl (ov_int rfl rfl (bin_geq ..)) ?_ | refine gn rfl rfl rfl (ov_int rfl rfl (bin_eql ..)) ?_ | refine gn rfl rfl rfl (ov_int rfl rfl (bin_neq ..)) ?_)
      refine gn rfl rfl rfl (ov_ldl rfl hR.seq) ?_
      repeat (first | refine gn rfl rfl rfl (ov_move rfl) ?_ | refine gn rfl rfl rfl (ov_assign rfl) ?_ | refine gn rfl rfl rfl (ov_fa rfl) ?_ | refine gn rfl rfl rfl (ov_ldl rfl rfl) ?_ | refine gn rfl rfl rfl (ov_len rfl) ?_ | refine gn rfl rfl rfl (ov_extract rfl rfl) ?_ | refine gn rfl rfl rfl (ov_int rfl rfl (bin_add ..)) ?_ | refine gn rfl rfl rfl (ov_int rfl rfl (bin_sub ..)) ?_ | refine gn rfl rfl rfl (ov_int rfl rfl (bin_mul ..)) ?_ | refine gn rfl rfl rfl (ov_int rfl rfl (bin_lss ..)) ?_ | refine gn rfl rfl rfl (ov_int rfl rfl (bin_leq ..)) ?_ | refine gn rfl rfl rfl (ov_int rfl rfl (bin_gtr ..)) ?_ | refine gn rfl rfl rfl (ov_int rfl rfl (bin_geq ..)) ?_ | refine gn rfl rfl rfl (ov_int rfl rfl (bin_eql ..)) ?_ | refine gn rfl rfl rfl (ov_int rfl rfl (bin_neq ..)) ?_)
      refine gn rfl rfl rfl (ov_ldl rfl hH.seq) ?_
      refine gn (v := .bool true) rfl rfl rfl (ov_int rfl rfl (by rw [bin_eql, h, beq_self_eq_true])) ?_
      repeat (first | refine gn rfl rfl rfl (ov_move rfl) ?_ | refine gn rfl rfl rfl (ov_assign rfl) ?_ | refine gn rfl rfl rfl (ov_fa rfl) ?_ | refine gn rfl rfl rfl (ov_ldl rfl rfl) ?_ | refine gn rfl rfl rfl (ov_len rfl) ?_ | refine gn rfl rfl rfl (ov_extract rfl rfl) ?_ | refine gn rfl rfl rfl (ov_int rfl rfl (bin_add ..)) ?_ | refine gn rfl rfl rfl (ov_int rfl rfl (bin_sub ..)) ?_ | refine gn rfl rfl rfl (ov_int rfl rfl (bin_mul ..)) ?_ | refine gn rfl rfl rfl (ov_int rfl rfl (bin_lss ..)) ?_ | refine gn rfl rfl rfl (ov_int rfl rfl (bin_leq ..)) ?_ | refine gn rfl rfl rfl (ov_int rfl rfl (bin_gtr ..)) ?_ | refine gn rfl rfl rfl (ov_int rfl rfl (bin_geq ..)) ?_ | refine gn rfl rfl rfl (ov_int rfl rfl (bin_eql ..)) ?_ | refine gn rfl rfl rfl (ov_int rfl rfl (bin_neq ..)) ?_)
      repeat (first | refine gg rfl rfl rfl rfl rfl (ov_move rfl) ?_ | refine gg rfl rfl rfl rfl rfl (ov_assign rfl) ?_ | refine gg rfl rfl rfl rfl rfl (ov_fa rfl) ?_ | refine gg rfl rfl rfl rfl rfl (ov_ldl rfl rfl) ?_ | refine gg rfl rfl rfl rfl rfl (ov_len rfl) ?_ | refine gg rfl rfl rfl rfl rfl (ov_extract rfl rfl) ?_ | refine gg rfl rfl rfl rfl rfl (ov_int rfl rfl (bin_add ..)) ?_ | refine gg rfl rfl rfl rfl rfl (ov_int rfl rfl (bin_sub ..)) ?_ | refine gg rfl rfl rfl rfl rfl (ov_int rfl rfl (bin_mul ..)) ?_ | refine gg rfl rfl rfl rfl rfl (ov_int rfl rfl (bin_lss ..)) ?_ | refine gg rfl rfl rfl rfl rfl (ov_int rfl rfl (bin_leq ..)) ?_ | refine gg rfl rfl rfl rfl rfl (ov_int rfl rfl (bin_gtr ..)) ?_ | refine gg rfl rfl rfl rfl rfl (ov_int rfl rfl (bin_geq ..)) ?_ | refine gg rfl rfl rfl rfl rfl (ov_int rfl rfl (bin_eql ..)) ?_ | refine gg rfl rfl rfl rfl rfl (ov_int rfl rfl (bin_neq ..)) ?_)
      refine gg rfl rfl rfl rfl rfl (ov_ldln rfl hR.rootv (by rw [hR.len]; decide)) ?_
      repeat (first | refine gg rfl rfl rfl rfl rfl (ov_move rfl) ?_ | refine gg rfl rfl rfl rfl rfl (ov_assign rfl) ?_ | refine gg rfl rfl rfl rfl rfl (ov_fa rfl) ?_ | refine gg rfl rfl rfl rfl rfl (ov_ldl rfl rfl) ?_ | refine gg rfl rfl rfl rfl rfl (ov_len rfl) ?_ | refine gg rfl rfl rfl rfl rfl (ov_extract rfl rfl) ?_ | refine gg rfl rfl rfl rfl rfl (ov_int rfl rfl (bin_add ..)) ?_ | refine gg rfl rfl rfl rfl rfl (ov_int rfl rfl (bin_sub ..)) ?_ | refine gg rfl rfl rfl rfl rfl (ov_int rfl rfl (bin_mul ..)) ?_ | refine gg rfl rfl rfl rfl rfl (ov_int rfl rfl (bin_lss ..)) ?_ | refine gg rfl rfl rfl rfl rfl (ov_int rfl rfl (bin_leq ..)) ?_ | refine gg rfl rfl rfl rfl rfl (ov_int rfl rfl (bin_gtr ..)) ?_ | refine gg rfl rfl rfl rfl rfl (ov_int rfl rfl (bin_geq ..)) ?_ | refine gg rfl rfl rfl rfl rfl (ov_int rfl rfl (bin_eql ..)) ?_ | refine gg rfl rfl rfl rfl rfl (ov_int rfl rfl (bin_neq ..)) ?_)
      refine gg rfl rfl rfl rfl rfl (ov_ldln rfl hH.rootv (by rw [hH.len]; decide)) ?_
      refine gg rfl rfl rfl rfl rfl (ov_eqbytes rfl rfl (by kernel_rfl) l2 l1 rfl) ?_
      refine gn rfl rfl rfl (ov_pickT rfl rfl) ?_
      repeat (first | refine gn rfl rfl rfl (ov_move rfl) ?_ | refine gn rfl rfl rfl (ov_assign rfl) ?_ | refine gn rfl rfl rfl (ov_fa rfl) ?_ | refine gn rfl rfl rfl (ov_ldl rfl rfl) ?_ | refine gn rfl rfl rfl (ov_len rfl) ?_ | refine gn rfl rfl rfl (ov_extract rfl rfl) ?_ | refine gn rfl rfl rfl (ov_int rfl rfl (bin_add ..)) ?_ | refine gn rfl rfl rfl (ov_int rfl rfl (bin_sub ..)) ?_ | refine gn rfl rfl rfl (ov_int rfl rfl (bin_mul ..)) ?_ | refine gn rfl rfl rfl (ov_int rfl rfl (bin_lss ..)) ?_ | refine gn rfl rfl rfl (ov_int rfl rfl (bin_leq ..)) ?_ | refine gn rfl rfl rfl (ov_int rfl rfl (bin_gtr ..)) ?_ | refine gn rfl rfl rfl (ov_int rfl rfl (bin_geq ..)) ?_ | refine gn rfl rfl rfl (ov_int rfl rfl (bin_eql ..)) ?_ | refine gn rfl rfl rfl (ov_int rfl rfl (bin_neq ..)) ?_)
      refine gl_nil ?_
      exact g_ret ⟨_, res_1 rfl, by simp [followsB, h]⟩
    · repeat (first | refine g_seq ?_ | refine g_block ?_)
      refine g_region ?_
      repeat (first | refine gn rfl rfl rfl (ov_move rfl) ?_ | refine gn rfl rfl rfl (ov_assign rfl) ?_ | refine gn rfl rfl rfl (ov_fa rfl) ?_ | refine gn rfl rfl rfl (ov_ldl rfl rfl) ?_ | refine gn rfl rfl rfl (ov_len rfl) ?_ | refine gn rfl rfl rfl (ov_extract rfl rfl) ?_ | refine gn rfl rfl rfl (ov_int rfl rfl (bin_add ..)) ?_ | refine gn rfl rfl rfl (ov_int rfl rfl (bin_sub ..)) ?_ | refine gn rfl rfl rfl (ov_int rfl rfl (bin_mul ..)) ?_ | refine gn rfl rfl rfl (ov_int rfl rfl (bin_lss ..)) ?_ | refine gn rfl rfl rfl (ov_int rfl rfl (bin_leq ..)) ?_ | refine gn rfl rfl rfl (ov_int rfl rfl (bin_gtr ..)) ?_ | refine gn rfl rfl rfl (ov_int rfl rfl (bin_geq ..)) ?_ | refine gn rfl rfl rfl (ov_int rfl rfl (bin_eql ..)) ?_ | refine gn rfl rfl rfl (ov_int rfl rfl (bin_neq ..)) ?_)
      refine gn rfl rfl rfl (ov_ldl rfl hR.seq) ?_
      repeat (first | refine gn rfl rfl rfl (ov_move rfl) ?_ | refine gn rfl rfl rfl (ov_assign rfl) ?_ | refine gn rfl rfl rfl (ov_fa rfl) ?_ | refine gn rfl rfl rfl (ov_ldl rfl rfl) ?_ | refine gn rfl rfl rfl (ov_len rfl) ?_ | refine gn rfl rfl rfl (ov_extract rfl rfl) ?_ | refine gn rfl rfl rfl (ov_int rfl rfl (bin_add ..)) ?_ | refine gn rfl rfl rfl (ov_int rfl rfl (bin_sub ..)) ?_ | refine gn rfl rfl rfl (ov_int rfl rfl (bin_mul ..)) ?_ | refine gn rfl rfl rfl (ov_int rfl rfl (bin_lss ..)) ?_ | refine gn rfl rfl rfl (ov_int rfl rfl (bin_leq ..)) ?_ | refine gn rfl rfl rfl (ov_int rfl rfl (bin_gtr ..)) ?_ | refine gn rfl rfl rfl (ov_int rfl rfl (bin_geq ..)) ?_ | refine gn rfl rfl rfl (ov_int rfl rfl (bin_eql ..)) ?_ | refine gn rfl rfl rfl (ov_int rfl rfl (bin_neq ..)) ?_)
      refine gn rfl rfl rfl (ov_ldl rfl hH.seq) ?_
      refine gn (v := .bool false) rfl rfl rfl (ov_int rfl rfl (by rw [bin_eql, beq_eq_false_iff_ne.2 h])) ?_
      repeat (first | refine gn rfl rfl rfl (ov_move rfl) ?_ | refine gn rfl rfl rfl (ov_assign rfl) ?_ | refine gn rfl rfl rfl (ov_fa rfl) ?_ | refine gn rfl rfl rfl (ov_ldl rfl rfl) ?_ | refine gn rfl rfl rfl (ov_len rfl) ?_ | refine gn rfl rfl rfl (ov_extract rfl rfl) ?_ | refine gn rfl rfl rfl (ov_int rfl rfl (bin_add ..)) ?_ | refine gn rfl rfl rfl (ov_int rfl rfl (bin_sub ..)) ?_ | refine gn rfl rfl rfl (ov_int rfl rfl (bin_mul ..)) ?_ | refine gn rfl rfl rfl (ov_int rfl rfl (bin_lss ..)) ?_ | refine gn rfl rfl rfl (ov_int rfl rfl (bin_leq ..)) ?_ | refine gn rfl rfl rfl (ov_int rfl rfl (bin_gtr ..)) ?_ | refine gn rfl rfl rfl (ov_int rfl rfl (bin_geq ..)) ?_ | refine gn rfl rfl rfl (ov_int rfl rfl (bin_eql ..)) ?_ | refine gn rfl rfl rfl (ov_int rfl rfl (bin_neq ..)) ?_)
      repeat (first | refine gi rfl rfl rfl rfl rfl ?_ | refine gu rfl rfl rfl rfl rfl ?_)
      refine gn rfl rfl rfl (ov_pickF rfl rfl) ?_
      repeat (first | refine gn rfl rfl rfl (ov_move rfl) ?_ | refine gn rfl rfl rfl (ov_assign rfl) ?_ | refine gn rfl rfl rfl (ov_fa rfl) ?_ | refine gn rfl rfl rfl (ov_ldl rfl rfl) ?_ | refine gn rfl rfl rfl (ov_len rfl) ?_ | refine gn rfl rfl rfl (ov_extract rfl rfl) ?_ | refine gn rfl rfl rfl (ov_int rfl rfl (bin_add ..)) ?_ | refine gn rfl rfl rfl (ov_int rfl rfl (bin_sub ..)) ?_ | refine gn rfl rfl rfl (ov_int rfl rfl (bin_mul ..)) ?_ | refine gn rfl rfl rfl (ov_int rfl rfl (bin_lss ..)) ?_ | refine gn rfl rfl rfl (ov_int rfl rfl (bin_leq ..)) ?_ | refine gn rfl rfl rfl (ov_int rfl rfl (bin_gtr ..)) ?_ | refine gn rfl rfl rfl (ov_int rfl rfl (bin_geq ..)) ?_ | refine gn rfl rfl rfl (ov_int rfl rfl (bin_eql ..)) ?_ | refine gn rfl rfl rfl (ov_int rfl rfl (bin_neq ..)) ?_)
      refine gl_nil ?_
      exact g_ret ⟨_, res_1 rfl, by simp [followsB, h]⟩

/-- The kinds that there are, as they lie in the package's table. -/
abbrev kindsC : List Value := [.int .i64 1, .int .i64 0, .int .i64 0, .bool false, .int .i64 2, .int .i64 1, .int .i64 32, .bool true]
def KindsLaid (w : World) : Prop := ∀ j v, kindsC[j]? = some v → w.cell? ((⟨0, 0, none⟩ : Addr).add j) = some v
/-- What kindOf answers. -/
def kindV (k : Int) : Value := if k = 1 then .tuple #[.agg #[.int .i64 1, .int .i64 0, .int .i64 0, .bool false], .bool true]
  else if k = 2 then .tuple #[.agg #[.int .i64 2, .int .i64 1, .int .i64 32, .bool true], .bool true] else .tuple #[.agg #[.int .i64 0, .int .i64 0, .int .i64 0, .bool false], .bool false]
theorem kindOf_cl (k : Int) (w : World) (hK : KindsLaid w) : Cl Tryd.prog 19 #[.int .i64 k] w fun v _ => v = kindV k := by
  refine cl_of_g Tryd.func19 rfl rfl ?_
  repeat (first | refine g_seq ?_ | refine g_block ?_)
  refine g_region ?_
  refine gl_w (want_n rfl) (ef_alloc rfl ?_); intro b0
  repeat (first | refine gn rfl rfl rfl (ov_move rfl) ?_ | refine gn rfl rfl rfl (ov_assign rfl) ?_ | refine gn rfl rfl rfl (ov_fa rfl) ?_ | refine gn rfl rfl rfl (ov_ldl rfl rfl) ?_ | refine gn rfl rfl rfl (ov_len rfl) ?_ | refine gn rfl rfl rfl (ov_extract rfl rfl) ?_ | refine gn rfl rfl rfl (ov_int rfl rfl (bin_add ..)) ?_ | refine gn rfl rfl rfl (ov_int rfl rfl (bin_sub ..)) ?_ | refine gn rfl rfl rfl (ov_int rfl rfl (bin_mul ..)) ?_ | refine gn rfl rfl rfl (ov_int rfl rfl (bin_lss ..)) ?_ | refine gn rfl rfl rfl (ov_int rfl rfl (bin_leq ..)) ?_ | refine gn rfl rfl rfl (ov_int rfl rfl (bin_gtr ..)) ?_ | refine gn rfl rfl rfl (ov_int rfl rfl (bin_geq ..)) ?_ | refine gn rfl rfl rfl (ov_int rfl rfl (bin_eql ..)) ?_ | refine gn rfl rfl rfl (ov_int rfl rfl (bin_neq ..)) ?_)
  refine gl_nil ?_
  repeat (first | refine g_seq ?_ | refine g_block ?_)
  refine g_region ?_
  refine gn rfl rfl rfl (ov_ldn rfl (lies_ext hK) rfl) ?_
  repeat (first | refine gn rfl rfl rfl (ov_move rfl) ?_ | refine gn rfl rfl rfl (ov_assign rfl) ?_ | refine gn rfl rfl rfl (ov_fa rfl) ?_ | refine gn rfl rfl rfl (ov_ldl rfl rfl) ?_ | refine gn rfl rfl rfl (ov_len rfl) ?_ | refine gn rfl rfl rfl (ov_extract rfl rfl) ?_ | refine gn rfl rfl rfl (ov_int rfl rfl (bin_add ..)) ?_ | refine gn rfl rfl rfl (ov_int rfl rfl (bin_sub ..)) ?_ | refine gn rfl rfl rfl (ov_int rfl rfl (bin_mul ..)) ?_ | refine gn rfl rfl rfl (ov_int rfl rfl (bin_lss ..)) ?_ | refine gn rfl rfl rfl (ov_int rfl rfl (bin_leq ..)) ?_ | refine gn rfl rfl rfl (ov_int rfl rfl (bin_gtr ..)) ?_ | refine gn rfl rfl rfl (ov_int rfl rfl (bin_geq ..)) ?_ | refine gn rfl rfl rfl (ov_int rfl rfl (bin_eql ..)) ?_ | refine gn rfl rfl rfl (ov_int rfl rfl (bin_neq ..)) ?_)
  refine gl_nil ?_
  repeat (first | refine g_seq ?_ | refine g_block ?_)
  refine g_rounds 3 ?_
  by_cases h1 : k = 1
  · repeat (first | refine g_seq ?_ | refine g_block ?_)
    refine g_region ?_
    refine gn (v := .bool true) rfl rfl rfl (ov_int rfl rfl (by simp [bin_lss])) ?_
    refine gl_nil ?_
    repeat (first | refine g_seq ?_ | refine g_block ?_)
    refine g_condT rfl (g_skip ?_)
    repeat (first | refine g_seq ?_ | refine g_block ?_)
    refine g_region ?_
    refine gn rfl rfl rfl (ov_ixn (cs := [.int .i64 1, .int .i64 0, .int .i64 0, .bool false]) rfl rfl (by decide) (by decide) rfl) ?_
    refine gl_w (want_n rfl) (ef_alloc rfl ?_); intro b1
    refine gl_w (want_n rfl) (ef_stn (C' := [.int .i64 1, .int .i64 0, .int .i64 0, .bool false]) rfl rfl rfl rfl (Nat.le_of_ble_eq_true rfl) rfl rfl ?_)
    refine gl_nil ?_
    repeat (first | refine g_seq ?_ | refine g_block ?_)
    refine g_region ?_
    repeat (first | refine gn rfl rfl rfl (ov_move rfl) ?_ | refine gn rfl rfl rfl (ov_assign rfl) ?_ | refine gn rfl rfl rfl (ov_fa rfl) ?_ | refine gn rfl rfl rfl (ov_ldl rfl rfl) ?_ | refine gn rfl rfl rfl (ov_len rfl) ?_ | refine gn rfl rfl rfl (ov_extract rfl rfl) ?_)
    refine gn (v := .bool true) rfl rfl rfl (ov_int rfl rfl (by simp [bin_eql, h1])) ?_
    refine gl_nil ?_
    repeat (first | refine g_seq ?_ | refine g_block ?_)
    refine g_condT rfl ?_
    repeat (first | refine g_seq ?_ | refine g_block ?_)
    refine g_region ?_
    refine gn rfl rfl rfl (ov_ldln (cs := [.int .i64 1, .int .i64 0, .int .i64 0, .bool false]) rfl rfl (by decide)) ?_
    refine gl_w (want_n rfl) (ef_stn (C' := [.int .i64 1, .int .i64 0, .int .i64 0, .bool false]) rfl rfl rfl rfl (Nat.le_of_ble_eq_true rfl) rfl rfl ?_)
    repeat (first | refine gn rfl rfl rfl (ov_move rfl) ?_ | refine gn rfl rfl rfl (ov_assign rfl) ?_ | refine gn rfl rfl rfl (ov_fa rfl) ?_ | refine gn rfl rfl rfl (ov_ldl rfl rfl) ?_ | refine gn rfl rfl rfl (ov_len rfl) ?_ | refine gn rfl rfl rfl (ov_extract rfl rfl) ?_)
    refine gl_nil ?_
    exact g_ret ⟨_, res2 (rv_c rfl (lies_loc (i := 1) (o := 0) (k := 4) rfl) rfl) (rv_t rfl), by simp [kindV, h1]⟩
  · repeat (first | refine g_seq ?_ | refine g_block ?_)
    refine g_region ?_
    refine gn (v := .bool true) rfl rfl rfl (ov_int rfl rfl (by simp [bin_lss])) ?_
    refine gl_nil ?_
    repeat (first | refine g_seq ?_ | refine g_block ?_)
    refine g_condT rfl (g_skip ?_)
    repeat (first | refine g_seq ?_ | refine g_block ?_)
    refine g_region ?_
    refine gn rfl rfl rfl (ov_ixn (cs := [.int .i64 1, .int .i64 0, .int .i64 0, .bool false]) rfl rfl (by decide) (by decide) rfl) ?_
    refine gl_w (want_n rfl) (ef_alloc rfl ?_); intro b1
    refine gl_w (want_n rfl) (ef_stn (C' := [.int .i64 1, .int .i64 0, .int .i64 0, .bool false]) rfl rfl rfl rfl (Nat.le_of_ble_eq_true rfl) rfl rfl ?_)
    refine gl_nil ?_
    repeat (first | refine g_seq ?_ | refine g_block ?_)
    refine g_region ?_
    repeat (first | refine gn rfl rfl rfl (ov_move rfl) ?_ | refine gn rfl rfl rfl (ov_assign rfl) ?_ | refine gn rfl rfl rfl (ov_fa rfl) ?_ | refine gn rfl rfl rfl (ov_ldl rfl rfl) ?_ | refine gn rfl rfl rfl (ov_len rfl) ?_ | refine gn rfl rfl rfl (ov_extract rfl rfl) ?_)
    refine gn (v := .bool false) rfl rfl rfl (ov_int rfl rfl (by simp [bin_eql, beq_eq_false_iff_ne.2 (Ne.symm h1)])) ?_
    refine gl_nil ?_
    repeat (first | refine g_seq ?_ | refine g_block ?_)
    refine g_condF rfl (g_skip ?_)
    repeat (first | refine g_seq ?_ | refine g_block ?_)
    refine g_region ?_
    refine gn rfl rfl rfl (ov_int (v := .int .i64 1) rfl rfl rfl) ?_
    repeat (first | refine gn rfl rfl rfl (ov_move rfl) ?_ | refine gn rfl rfl rfl (ov_assign rfl) ?_ | refine gn rfl rfl rfl (ov_fa rfl) ?_ | refine gn rfl rfl rfl (ov_ldl rfl rfl) ?_ | refine gn rfl rfl rfl (ov_len rfl) ?_ | refine gn rfl rfl rfl (ov_extract rfl rfl) ?_)
    refine gl_nil ?_
    by_cases h2 : k = 2
    · repeat (first | refine g_seq ?_ | refine g_block ?_)
      refine g_region ?_
      refine gn (v := .bool true) rfl rfl rfl (ov_int rfl rfl (by simp [bin_lss])) ?_
      refine gl_nil ?_
      repeat (first | refine g_seq ?_ | refine g_block ?_)
      refine g_condT rfl (g_skip ?_)
      repeat (first | refine g_seq ?_ | refine g_block ?_)
      refine g_region ?_
      refine gn rfl rfl rfl (ov_ixn (cs := [.int .i64 2, .int .i64 1, .int .i64 32, .bool true]) rfl rfl (by decide) (by decide) rfl) ?_
      refine gl_w (want_n rfl) (ef_alloc rfl ?_); intro b2
      refine gl_w (want_n rfl) (ef_stn (C' := [.int .i64 2, .int .i64 1, .int .i64 32, .bool true]) rfl rfl rfl rfl (Nat.le_of_ble_eq_true rfl) rfl rfl ?_)
      refine gl_nil ?_
      repeat (first | refine g_seq ?_ | refine g_block ?_)
      refine g_region ?_
      repeat (first | refine gn rfl rfl rfl (ov_move rfl) ?_ | refine gn rfl rfl rfl (ov_assign rfl) ?_ | refine gn rfl rfl rfl (ov_fa rfl) ?_ | refine gn rfl rfl rfl (ov_ldl rfl rfl) ?_ | refine gn rfl rfl rfl (ov_len rfl) ?_ | refine gn rfl rfl rfl (ov_extract rfl rfl) ?_)
      refine gn (v := .bool true) rfl rfl rfl (ov_int rfl rfl (by simp [bin_eql, h2])) ?_
      refine gl_nil ?_
      repeat (first | refine g_seq ?_ | refine g_block ?_)
      refine g_condT rfl ?_
      repeat (first | refine g_seq ?_ | refine g_block ?_)
      refine g_region ?_
      refine gn rfl rfl rfl (ov_ldln (cs := [.int .i64 2, .int .i64 1, .int .i64 32, .bool true]) rfl rfl (by decide)) ?_
      refine gl_w (want_n rfl) (ef_stn (C' := [.int .i64 2, .int .i64 1, .int .i64 32, .bool true]) rfl rfl rfl rfl (Nat.le_of_ble_eq_true rfl) rfl rfl ?_)
      repeat (first | refine gn rfl rfl rfl (ov_move rfl) ?_ | refine gn rfl rfl rfl (ov_assign rfl) ?_ | refine gn rfl rfl rfl (ov_fa rfl) ?_ | refine gn rfl rfl rfl (ov_ldl rfl rfl) ?_ | refine gn rfl rfl rfl (ov_len rfl) ?_ | refine gn rfl rfl rfl (ov_extract rfl rfl) ?_)
      refine gl_nil ?_
      exact g_ret ⟨_, res2 (rv_c rfl (lies_loc (i := 2) (o := 0) (k := 4) rfl) rfl) (rv_t rfl), by simp [kindV, h1, h2]⟩
    · repeat (first | refine g_seq ?_ | refine g_block ?_)
      refine g_region ?_
      refine gn (v := .bool true) rfl rfl rfl (ov_int rfl rfl (by simp [bin_lss])) ?_
      refine gl_nil ?_
      repeat (first | refine g_seq ?_ | refine g_block ?_)
      refine g_condT rfl (g_skip ?_)
      repeat (first | refine g_seq ?_ | refine g_block ?_)
      refine g_region ?_
      refine gn rfl rfl rfl (ov_ixn (cs := [.int .i64 2, .int .i64 1, .int .i64 32, .bool true]) rfl rfl (by decide) (by decide) rfl) ?_
      refine gl_w (want_n rfl) (ef_alloc rfl ?_); intro b2
      refine gl_w (want_n rfl) (ef_stn (C' := [.int .i64 2, .int .i64 1, .int .i64 32, .bool true]) rfl rfl rfl rfl (Nat.le_of_ble_eq_true rfl) rfl rfl ?_)
      refine gl_nil ?_
      repeat (first | refine g_seq ?_ | refine g_block ?_)
      refine g_region ?_
      repeat (first | refine gn rfl rfl rfl (ov_move rfl) ?_ | refine gn rfl rfl rfl (ov_assign rfl) ?_ | refine gn rfl rfl rfl (ov_fa rfl) ?_ | refine gn rfl rfl rfl (ov_ldl rfl rfl) ?_ | refine gn rfl rfl rfl (ov_len rfl) ?_ | refine gn rfl rfl rfl (ov_extract rfl rfl) ?_)
      refine gn (v := .bool false) rfl rfl rfl (ov_int rfl rfl (by simp [bin_eql, beq_eq_false_iff_ne.2 (Ne.symm h2)])) ?_
      refine gl_nil ?_
      repeat (first | refine g_seq ?_ | refine g_block ?_)
      refine g_condF rfl (g_skip ?_)
      repeat (first | refine g_seq ?_ | refine g_block ?_)
      refine g_region ?_
      refine gn rfl rfl rfl (ov_int (v := .int .i64 2) rfl rfl rfl) ?_
      repeat (first | refine gn rfl rfl rfl (ov_move rfl) ?_ | refine gn rfl rfl rfl (ov_assign rfl) ?_ | refine gn rfl rfl rfl (ov_fa rfl) ?_ | refine gn rfl rfl rfl (ov_ldl rfl rfl) ?_ | refine gn rfl rfl rfl (ov_len rfl) ?_ | refine gn rfl rfl rfl (ov_extract rfl rfl) ?_)
      refine gl_nil ?_
      repeat (first | refine g_seq ?_ | refine g_block ?_)
      refine g_region ?_
      refine gn (v := .bool false) rfl rfl rfl (ov_int rfl rfl (by simp [bin_lss])) ?_
      refine gl_nil ?_
      repeat (first | refine g_seq ?_ | refine g_block ?_)
      refine g_condF rfl (g_exit ?_)
      repeat (first | refine g_seq ?_ | refine g_block ?_)
      refine g_region ?_
      refine gn rfl rfl rfl (ov_build (C := [.int .i64 0, .int .i64 0, .int .i64 0, .bool false]) .nil rfl) ?_
      refine gl_w (want_n rfl) (ef_stn (C' := [.int .i64 0, .int .i64 0, .int .i64 0, .bool false]) rfl rfl rfl rfl (Nat.le_of_ble_eq_true rfl) rfl rfl ?_)
      repeat (first | refine gn rfl rfl rfl (ov_move rfl) ?_ | refine gn rfl rfl rfl (ov_assign rfl) ?_ | refine gn rfl rfl rfl (ov_fa rfl) ?_ | refine gn rfl rfl rfl (ov_ldl rfl rfl) ?_ | refine gn rfl rfl rfl (ov_len rfl) ?_ | refine gn rfl rfl rfl (ov_extract rfl rfl) ?_)
      refine gl_nil ?_
      exact g_ret ⟨_, res2 (rv_c rfl (lies_loc (i := 2) (o := 0) (k := 4) rfl) rfl) (rv_t rfl), by simp [kindV, h1, h2]⟩

def nextB (a b : Int) : Bool := decide (a < b) && (IntKind.i64.wrap (b - 1) == a)
/-- What Follows answers. -/
def followsAll (c s : Int) (tag root : List UInt8) (k c' s' : Int) (prev root' : List UInt8) : Bool :=
  (k == 1 || k == 2) && nextB c c' && (prev == tag) && followsB (k == 2) s s' root root'
theorem kindV_is (k : Int) : (k = 1 ∨ k = 2) ∧ (∃ n l m, kindV k = .tuple #[.agg #[.int .i64 n, .int .i64 l, .int .i64 m, .bool (k == 2)], .bool true]) ∨ (¬ (k = 1 ∨ k = 2)) ∧ kindV k = .tuple #[.agg #[.int .i64 0, .int .i64 0, .int .i64 0, .bool false], .bool false] := by
  by_cases h1 : k = 1
  · subst h1; exact .inl ⟨.inl rfl, 1, 0, 0, rfl⟩
  · by_cases h2 : k = 2
    · subst h2; exact .inl ⟨.inr rfl, 2, 1, 32, rfl⟩
    · exact .inr ⟨by simp [h1, h2], by simp [kindV, h1, h2]⟩
theorem Follows_cl (H R : List Value) (c s k c' s' : Int) (tag root prev root' : List UInt8) (hH : IsHead H c s tag root) (hR : IsRec R k c' s' prev root') (w : World) (hK : KindsLaid w) :
    Cl Tryd.prog 5 #[.agg H.toArray, .agg R.toArray] w fun v _ => v = .bool (followsAll c s tag root k c' s' prev root') := by
  have l1 := len32 hH.len hH.tagv
  have l2 := len32 hR.len hR.prevv
  have HK : ∀ L w', St w w' L → KindsLaid w' := fun L w' hs j v hv => by
    have h1 := hK j v hv
    rw [hs.below.cell (World.block_lt_of_cell? w _ h1)]
    exact h1
  refine cl_of_g Tryd.func5 rfl rfl ?_
  repeat (first | refine g_seq ?_ | refine g_block ?_)
  refine g_region ?_
  refine gl_w (want_n rfl) (ef_box rfl rfl ?_); intro b0
  refine gl_w (want_n rfl) (ef_box rfl rfl ?_); intro b1
  repeat (first | refine gn rfl rfl rfl (ov_move rfl) ?_ | refine gn rfl rfl rfl (ov_assign rfl) ?_ | refine gn rfl rfl rfl (ov_fa rfl) ?_ | refine gn rfl rfl rfl (ov_ldl rfl rfl) ?_ | refine gn rfl rfl rfl (ov_len rfl) ?_ | refine gn rfl rfl rfl (ov_extract rfl rfl) ?_ | refine gn rfl rfl rfl (ov_not rfl) ?_ | refine gn rfl rfl rfl (ov_int rfl rfl (bin_add ..)) ?_ | refine gn rfl rfl rfl (ov_int rfl rfl (bin_sub ..)) ?_ | refine gn rfl rfl rfl (ov_int rfl rfl (bin_mul ..)) ?_ | refine gn rfl rfl rfl (ov_pickT rfl rfl) ?_ | refine gn rfl rfl rfl (ov_pickF rfl rfl) ?_ | refine gg rfl rfl rfl rfl rfl (ov_move rfl) ?_ | refine gg rfl rfl rfl rfl rfl (ov_assign rfl) ?_ | refine gg rfl rfl rfl rfl rfl (ov_fa rfl) ?_ | refine gg rfl rfl rfl rfl rfl (ov_ldl rfl rfl) ?_ | refine gg rfl rfl rfl rfl rfl (ov_len rfl) ?_ | refine gg rfl rfl rfl rfl rfl (ov_extract rfl rfl) ?_ | refine gg rfl rfl rfl rfl rfl (ov_not rfl) ?_ | refine gg rfl rfl rfl rfl rfl (ov_int rfl rfl (bin_add ..)) ?_ | refine gg rfl rfl rfl rfl rfl (ov_int rfl rfl (bin_sub ..)) ?_ | refine gg rfl rfl rfl rfl rfl (ov_int rfl rfl (bin_mul ..)) ?_ | refine gi rfl rfl rfl rfl rfl ?_ | refine gu rfl rfl rfl rfl rfl ?_)
  refine gl_nil ?_
  repeat (first | refine g_seq ?_ | refine g_block ?_)
  refine g_region ?_
  repeat (first | refine gn rfl rfl rfl (ov_move rfl) ?_ | refine gn rfl rfl rfl (ov_assign rfl) ?_ | refine gn rfl rfl rfl (ov_fa rfl) ?_ | refine gn rfl rfl rfl (ov_ldl rfl rfl) ?_ | refine gn rfl rfl rfl (ov_len rfl) ?_ | refine gn rfl rfl rfl (ov_extract rfl rfl) ?_ | refine gn rfl rfl rfl (ov_not rfl) ?_ | refine gn rfl rfl rfl (ov_int rfl rfl (bin_add ..)) ?_ | refine gn rfl rfl rfl (ov_int rfl rfl (bin_sub ..)) ?_ | refine gn rfl rfl rfl (ov_int rfl rfl (bin_mul ..)) ?_ | refine gn rfl rfl rfl (ov_pickT rfl rfl) ?_ | refine gn rfl rfl rfl (ov_pickF rfl rfl) ?_ | refine gg rfl rfl rfl rfl rfl (ov_move rfl) ?_ | refine gg rfl rfl rfl rfl rfl (ov_assign rfl) ?_ | refine gg rfl rfl rfl rfl rfl (ov_fa rfl) ?_ | refine gg rfl rfl rfl rfl rfl (ov_ldl rfl rfl) ?_ | refine gg rfl rfl rfl rfl rfl (ov_len rfl) ?_ | refine gg rfl rfl rfl rfl rfl (ov_extract rfl rfl) ?_ | refine gg rfl rfl rfl rfl rfl (ov_not rfl) ?_ | refine gg rfl rfl rfl rfl rfl (ov_int rfl rfl (bin_add ..)) ?_ | refine gg rfl rfl rfl rfl rfl (ov_int rfl rfl (bin_sub ..)) ?_ | refine gg rfl rfl rfl rfl rfl (ov_int rfl rfl (bin_mul ..)) ?_ | refine gi rfl rfl rfl rfl rfl ?_ | refine gu rfl rfl rfl rfl rfl ?_)
  refine gn rfl rfl rfl (ov_ldl rfl hR.kind) ?_
  rcases kindV_is k with ⟨hk, n, l, m, hv⟩ | ⟨hk, hv⟩
  · refine gl_callq (want_n rfl) rfl rfl (by kernel_rfl) (fun w hs => (kindOf_cl _ _ (HK _ _ hs)).mono fun v N h => h.trans hv) ?_
    repeat (first | refine gn rfl rfl rfl (ov_move rfl) ?_ | refine gn rfl rfl rfl (ov_assign rfl) ?_ | refine gn rfl rfl rfl (ov_fa rfl) ?_ | refine gn rfl rfl rfl (ov_ldl rfl rfl) ?_ | refine gn rfl rfl rfl (ov_len rfl) ?_ | refine gn rfl rfl rfl (ov_extract rfl rfl) ?_ | refine gn rfl rfl rfl (ov_not rfl) ?_ | refine gn rfl rfl rfl (ov_int rfl rfl (bin_add ..)) ?_ | refine gn rfl rfl rfl (ov_int rfl rfl (bin_sub ..)) ?_ | refine gn rfl rfl rfl (ov_int rfl rfl (bin_mul ..)) ?_ | refine gn rfl rfl rfl (ov_pickT rfl rfl) ?_ | refine gn rfl rfl rfl (ov_pickF rfl rfl) ?_ | refine gg rfl rfl rfl rfl rfl (ov_move rfl) ?_ | refine gg rfl rfl rfl rfl rfl (ov_assign rfl) ?_ | refine gg rfl rfl rfl rfl rfl (ov_fa rfl) ?_ | refine gg rfl rfl rfl rfl rfl (ov_ldl rfl rfl) ?_ | refine gg rfl rfl rfl rfl rfl (ov_len rfl) ?_ | refine gg rfl rfl rfl rfl rfl (ov_extract rfl rfl) ?_ | refine gg rfl rfl rfl rfl rfl (ov_not rfl) ?_ | refine gg rfl rfl rfl rfl rfl (ov_int rfl rfl (bin_add ..)) ?_ | refine gg rfl rfl rfl rfl rfl (ov_int rfl rfl (bin_sub ..)) ?_ | refine gg rfl rfl rfl rfl rfl (ov_int rfl rfl (bin_mul ..)) ?_ | refine gi rfl rfl rfl rfl rfl ?_ | refine gu rfl rfl rfl rfl rfl ?_)
    refine gl_w (want_n rfl) (ef_alloc rfl ?_); intro b2
    refine gl_w (want_n rfl) (ef_stn (C' := [.int .i64 n, .int .i64 l, .int .i64 m, .bool (k == 2)]) rfl rfl rfl rfl (Nat.le_of_ble_eq_true rfl) rfl rfl ?_)
    repeat (first | refine gn rfl rfl rfl (ov_move rfl) ?_ | refine gn rfl rfl rfl (ov_assign rfl) ?_ | refine gn rfl rfl rfl (ov_fa rfl) ?_ | refine gn rfl rfl rfl (ov_ldl rfl rfl) ?_ | refine gn rfl rfl rfl (ov_len rfl) ?_ | refine gn rfl rfl rfl (ov_extract rfl rfl) ?_ | refine gn rfl rfl rfl (ov_not rfl) ?_ | refine gn rfl rfl rfl (ov_int rfl rfl (bin_add ..)) ?_ | refine gn rfl rfl rfl (ov_int rfl rfl (bin_sub ..)) ?_ | refine gn rfl rfl rfl (ov_int rfl rfl (bin_mul ..)) ?_ | refine gn rfl rfl rfl (ov_pickT rfl rfl) ?_ | refine gn rfl rfl rfl (ov_pickF rfl rfl) ?_ | refine gg rfl rfl rfl rfl rfl (ov_move rfl) ?_ | refine gg rfl rfl rfl rfl rfl (ov_assign rfl) ?_ | refine gg rfl rfl rfl rfl rfl (ov_fa rfl) ?_ | refine gg rfl rfl rfl rfl rfl (ov_ldl rfl rfl) ?_ | refine gg rfl rfl rfl rfl rfl (ov_len rfl) ?_ | refine gg rfl rfl rfl rfl rfl (ov_extract rfl rfl) ?_ | refine gg rfl rfl rfl rfl rfl (ov_not rfl) ?_ | refine gg rfl rfl rfl rfl rfl (ov_int rfl rfl (bin_add ..)) ?_ | refine gg rfl rfl rfl rfl rfl (ov_int rfl rfl (bin_sub ..)) ?_ | refine gg rfl rfl rfl rfl rfl (ov_int rfl rfl (bin_mul ..)) ?_ | refine gi rfl rfl rfl rfl rfl ?_ | refine gu rfl rfl rfl rfl rfl ?_)
    refine gl_nil ?_
    repeat (first | refine g_seq ?_ | refine g_block ?_)
    refine g_region ?_
    repeat (first | refine gn rfl rfl rfl (ov_move rfl) ?_ | refine gn rfl rfl rfl (ov_assign rfl) ?_ | refine gn rfl rfl rfl (ov_fa rfl) ?_ | refine gn rfl rfl rfl (ov_ldl rfl rfl) ?_ | refine gn rfl rfl rfl (ov_len rfl) ?_ | refine gn rfl rfl rfl (ov_extract rfl rfl) ?_ | refine gn rfl rfl rfl (ov_not rfl) ?_ | refine gn rfl rfl rfl (ov_int rfl rfl (bin_add ..)) ?_ | refine gn rfl rfl rfl (ov_int rfl rfl (bin_sub ..)) ?_ | refine gn rfl rfl rfl (ov_int rfl rfl (bin_mul ..)) ?_ | refine gn rfl rfl rfl (ov_pickT rfl rfl) ?_ | refine gn rfl rfl rfl (ov_pickF rfl rfl) ?_ | refine gg rfl rfl rfl rfl rfl (ov_move rfl) ?_ | refine gg rfl rfl rfl rfl rfl (ov_assign rfl) ?_ | refine gg rfl rfl rfl rfl rfl (ov_fa rfl) ?_ | refine gg rfl rfl rfl rfl rfl (ov_ldl rfl rfl) ?_ | refine gg rfl rfl rfl rfl rfl (ov_len rfl) ?_ | refine gg rfl rfl rfl rfl rfl (ov_extract rfl rfl) ?_ | refine gg rfl rfl rfl rfl rfl (ov_not rfl) ?_ | refine gg rfl rfl rfl rfl rfl (ov_int rfl rfl (bin_add ..)) ?_ | refine gg rfl rfl rfl rfl rfl (ov_int rfl rfl (bin_sub ..)) ?_ | refine gg rfl rfl rfl rfl rfl (ov_int rfl rfl (bin_mul ..)) ?_ | refine gi rfl rfl rfl rfl rfl ?_ | refine gu rfl rfl rfl rfl rfl ?_)
    refine gg rfl rfl rfl rfl rfl (ov_ldl rfl hH.count) ?_
    repeat (first | refine gn rfl rfl rfl (ov_move rfl) ?_ | refine gn rfl rfl rfl (ov_assign rfl) ?_ | refine gn rfl rfl rfl (ov_fa rfl) ?_ | refine gn rfl rfl rfl (ov_ldl rfl rfl) ?_ | refine gn rfl rfl rfl (ov_len rfl) ?_ | refine gn rfl rfl rfl (ov_extract rfl rfl) ?_ | refine gn rfl rfl rfl (ov_not rfl) ?_ | refine gn rfl rfl rfl (ov_int rfl rfl (bin_add ..)) ?_ | refine gn rfl rfl rfl (ov_int rfl rfl (bin_sub ..)) ?_ | refine gn rfl rfl rfl (ov_int rfl rfl (bin_mul ..)) ?_ | refine gn rfl rfl rfl (ov_pickT rfl rfl) ?_ | refine gn rfl rfl rfl (ov_pickF rfl rfl) ?_ | refine gg rfl rfl rfl rfl rfl (ov_move rfl) ?_ | refine gg rfl rfl rfl rfl rfl (ov_assign rfl) ?_ | refine gg rfl rfl rfl rfl rfl (ov_fa rfl) ?_ | refine gg rfl rfl rfl rfl rfl (ov_ldl rfl rfl) ?_ | refine gg rfl rfl rfl rfl rfl (ov_len rfl) ?_ | refine gg rfl rfl rfl rfl rfl (ov_extract rfl rfl) ?_ | refine gg rfl rfl rfl rfl rfl (ov_not rfl) ?_ | refine gg rfl rfl rfl rfl rfl (ov_int rfl rfl (bin_add ..)) ?_ | refine gg rfl rfl rfl rfl rfl (ov_int rfl rfl (bin_sub ..)) ?_ | refine gg rfl rfl rfl rfl rfl (ov_int rfl rfl (bin_mul ..)) ?_ | refine gi rfl rfl rfl rfl rfl ?_ | refine gu rfl rfl rfl rfl rfl ?_)
    refine gg rfl rfl rfl rfl rfl (ov_ldl rfl hR.count) ?_
    have hk' : (k == 1 || k == 2) = true := by simpa using hk
    by_cases hn : nextB c c' = true
    · refine gl_callq (u := .bool true) (want_g rfl rfl rfl) rfl rfl (by kernel_rfl) (fun w hs => (next_cl _ _ _).mono fun v N h => h.trans (by rw [← hn]; rfl)) ?_
      repeat (first | refine gn rfl rfl rfl (ov_move rfl) ?_ | refine gn rfl rfl rfl (ov_assign rfl) ?_ | refine gn rfl rfl rfl (ov_fa rfl) ?_ | refine gn rfl rfl rfl (ov_ldl rfl rfl) ?_ | refine gn rfl rfl rfl (ov_len rfl) ?_ | refine gn rfl rfl rfl (ov_extract rfl rfl) ?_ | refine gn rfl rfl rfl (ov_not rfl) ?_ | refine gn rfl rfl rfl (ov_int rfl rfl (bin_add ..)) ?_ | refine gn rfl rfl rfl (ov_int rfl rfl (bin_sub ..)) ?_ | refine gn rfl rfl rfl (ov_int rfl rfl (bin_mul ..)) ?_ | refine gn rfl rfl rfl (ov_pickT rfl rfl) ?_ | refine gn rfl rfl rfl (ov_pickF rfl rfl) ?_ | refine gg rfl rfl rfl rfl rfl (ov_move rfl) ?_ | refine gg rfl rfl rfl rfl rfl (ov_assign rfl) ?_ | refine gg rfl rfl rfl rfl rfl (ov_fa rfl) ?_ | refine gg rfl rfl rfl rfl rfl (ov_ldl rfl rfl) ?_ | refine gg rfl rfl rfl rfl rfl (ov_len rfl) ?_ | refine gg rfl rfl rfl rfl rfl (ov_extract rfl rfl) ?_ | refine gg rfl rfl rfl rfl rfl (ov_not rfl) ?_ | refine gg rfl rfl rfl rfl rfl (ov_int rfl rfl (bin_add ..)) ?_ | refine gg rfl rfl rfl rfl rfl (ov_int rfl rfl (bin_sub ..)) ?_ | refine gg rfl rfl rfl rfl rfl (ov_int rfl rfl (bin_mul ..)) ?_ | refine gi rfl rfl rfl rfl rfl ?_ | refine gu rfl rfl rfl rfl rfl ?_)
      refine gg rfl rfl rfl rfl rfl (ov_ldln rfl hR.prevv (by rw [hR.len]; decide)) ?_
      repeat (first | refine gn rfl rfl rfl (ov_move rfl) ?_ | refine gn rfl rfl rfl (ov_assign rfl) ?_ | refine gn rfl rfl rfl (ov_fa rfl) ?_ | refine gn rfl rfl rfl (ov_ldl rfl rfl) ?_ | refine gn rfl rfl rfl (ov_len rfl) ?_ | refine gn rfl rfl rfl (ov_extract rfl rfl) ?_ | refine gn rfl rfl rfl (ov_not rfl) ?_ | refine gn rfl rfl rfl (ov_int rfl rfl (bin_add ..)) ?_ | refine gn rfl rfl rfl (ov_int rfl rfl (bin_sub ..)) ?_ | refine gn rfl rfl rfl (ov_int rfl rfl (bin_mul ..)) ?_ | refine gn rfl rfl rfl (ov_pickT rfl rfl) ?_ | refine gn rfl rfl rfl (ov_pickF rfl rfl) ?_ | refine gg rfl rfl rfl rfl rfl (ov_move rfl) ?_ | refine gg rfl rfl rfl rfl rfl (ov_assign rfl) ?_ | refine gg rfl rfl rfl rfl rfl (ov_fa rfl) ?_ | refine gg rfl rfl rfl rfl rfl (ov_ldl rfl rfl) ?_ | refine gg rfl rfl rfl rfl rfl (ov_len rfl) ?_ | refine gg rfl rfl rfl rfl rfl (ov_extract rfl rfl) ?_ | refine gg rfl rfl rfl rfl rfl (ov_not rfl) ?_ | refine gg rfl rfl rfl rfl rfl (ov_int rfl rfl (bin_add ..)) ?_ | refine gg rfl rfl rfl rfl rfl (ov_int rfl rfl (bin_sub ..)) ?_ | refine gg rfl rfl rfl rfl rfl (ov_int rfl rfl (bin_mul ..)) ?_ | refine gi rfl rfl rfl rfl rfl ?_ | refine gu rfl rfl rfl rfl rfl ?_)
      refine gg rfl rfl rfl rfl rfl (ov_ldln rfl hH.tagv (by rw [hH.len]; decide)) ?_
      by_cases he : (prev == tag) = true
      · refine gg rfl rfl rfl rfl rfl (ov_eqbytes rfl rfl (by kernel_rfl) l2 l1 he) ?_
        repeat (first | refine gn rfl rfl rfl (ov_move rfl) ?_ | refine gn rfl rfl rfl (ov_assign rfl) ?_ | refine gn rfl rfl rfl (ov_fa rfl) ?_ | refine gn rfl rfl rfl (ov_ldl rfl rfl) ?_ | refine gn rfl rfl rfl (ov_len rfl) ?_ | refine gn rfl rfl rfl (ov_extract rfl rfl) ?_ | refine gn rfl rfl rfl (ov_not rfl) ?_ | refine gn rfl rfl rfl (ov_int rfl rfl (bin_add ..)) ?_ | refine gn rfl rfl rfl (ov_int rfl rfl (bin_sub ..)) ?_ | refine gn rfl rfl rfl (ov_int rfl rfl (bin_mul ..)) ?_ | refine gn rfl rfl rfl (ov_pickT rfl rfl) ?_ | refine gn rfl rfl rfl (ov_pickF rfl rfl) ?_ | refine gg rfl rfl rfl rfl rfl (ov_move rfl) ?_ | refine gg rfl rfl rfl rfl rfl (ov_assign rfl) ?_ | refine gg rfl rfl rfl rfl rfl (ov_fa rfl) ?_ | refine gg rfl rfl rfl rfl rfl (ov_ldl rfl rfl) ?_ | refine gg rfl rfl rfl rfl rfl (ov_len rfl) ?_ | refine gg rfl rfl rfl rfl rfl (ov_extract rfl rfl) ?_ | refine gg rfl rfl rfl rfl rfl (ov_not rfl) ?_ | refine gg rfl rfl rfl rfl rfl (ov_int rfl rfl (bin_add ..)) ?_ | refine gg rfl rfl rfl rfl rfl (ov_int rfl rfl (bin_sub ..)) ?_ | refine gg rfl rfl rfl rfl rfl (ov_int rfl rfl (bin_mul ..)) ?_ | refine gi rfl rfl rfl rfl rfl ?_ | refine gu rfl rfl rfl rfl rfl ?_)
        refine gg rfl rfl rfl rfl rfl (ov_ldln (cs := [.int .i64 n, .int .i64 l, .int .i64 m, .bool (k == 2)]) rfl rfl (Nat.le_of_ble_eq_true rfl)) ?_
        refine gg rfl rfl rfl rfl rfl (ov_ldln rfl (all_len hH.len) (by rw [hH.len]; decide)) ?_
        refine gg rfl rfl rfl rfl rfl (ov_ldln rfl (all_len hR.len) (by rw [hR.len]; decide)) ?_
        refine gl_callq (want_g rfl rfl rfl) rfl rfl (by kernel_rfl) (fun w hs => follows_cl _ _ _ _ _ _ _ _ _ _ _ _ _ _ _ hH hR _) ?_
        repeat (first | refine gn rfl rfl rfl (ov_move rfl) ?_ | refine gn rfl rfl rfl (ov_assign rfl) ?_ | refine gn rfl rfl rfl (ov_fa rfl) ?_ | refine gn rfl rfl rfl (ov_ldl rfl rfl) ?_ | refine gn rfl rfl rfl (ov_len rfl) ?_ | refine gn rfl rfl rfl (ov_extract rfl rfl) ?_ | refine gn rfl rfl rfl (ov_not rfl) ?_ | refine gn rfl rfl rfl (ov_int rfl rfl (bin_add ..)) ?_ | refine gn rfl rfl rfl (ov_int rfl rfl (bin_sub ..)) ?_ | refine gn rfl rfl rfl (ov_int rfl rfl (bin_mul ..)) ?_ | refine gn rfl rfl rfl (ov_pickT rfl rfl) ?_ | refine gn rfl rfl rfl (ov_pickF rfl rfl) ?_ | refine gg rfl rfl rfl rfl rfl (ov_move rfl) ?_ | refine gg rfl rfl rfl rfl rfl (ov_assign rfl) ?_ | refine gg rfl rfl rfl rfl rfl (ov_fa rfl) ?_ | refine gg rfl rfl rfl rfl rfl (ov_ldl rfl rfl) ?_ | refine gg rfl rfl rfl rfl rfl (ov_len rfl) ?_ | refine gg rfl rfl rfl rfl rfl (ov_extract rfl rfl) ?_ | refine gg rfl rfl rfl rfl rfl (ov_not rfl) ?_ | refine gg rfl rfl rfl rfl rfl (ov_int rfl rfl (bin_add ..)) ?_ | refine gg rfl rfl rfl rfl rfl (ov_int rfl rfl (bin_sub ..)) ?_ | refine gg rfl rfl rfl rfl rfl (ov_int rfl rfl (bin_mul ..)) ?_ | refine gi rfl rfl rfl rfl rfl ?_ | refine gu rfl rfl rfl rfl rfl ?_)
        refine gl_nil ?_
        exact g_ret ⟨_, res_1 rfl, by simp only [followsAll, hk', hn, he, Bool.true_and]⟩
      · replace he : (prev == tag) = false := by simpa using he
        refine gg rfl rfl rfl rfl rfl (ov_eqbytes rfl rfl (by kernel_rfl) l2 l1 he) ?_
        repeat (first | refine gn rfl rfl rfl (ov_move rfl) ?_ | refine gn rfl rfl rfl (ov_assign rfl) ?_ | refine gn rfl rfl rfl (ov_fa rfl) ?_ | refine gn rfl rfl rfl (ov_ldl rfl rfl) ?_ | refine gn rfl rfl rfl (ov_len rfl) ?_ | refine gn rfl rfl rfl (ov_extract rfl rfl) ?_ | refine gn rfl rfl rfl (ov_not rfl) ?_ | refine gn rfl rfl rfl (ov_int rfl rfl (bin_add ..)) ?_ | refine gn rfl rfl rfl (ov_int rfl rfl (bin_sub ..)) ?_ | refine gn rfl rfl rfl (ov_int rfl rfl (bin_mul ..)) ?_ | refine gn rfl rfl rfl (ov_pickT rfl rfl) ?_ | refine gn rfl rfl rfl (ov_pickF rfl rfl) ?_ | refine gg rfl rfl rfl rfl rfl (ov_move rfl) ?_ | refine gg rfl rfl rfl rfl rfl (ov_assign rfl) ?_ | refine gg rfl rfl rfl rfl rfl (ov_fa rfl) ?_ | refine gg rfl rfl rfl rfl rfl (ov_ldl rfl rfl) ?_ | refine gg rfl rfl rfl rfl rfl (ov_len rfl) ?_ | refine gg rfl rfl rfl rfl rfl (ov_extract rfl rfl) ?_ | refine gg rfl rfl rfl rfl rfl (ov_not rfl) ?_ | refine gg rfl rfl rfl rfl rfl (ov_int rfl rfl (bin_add ..)) ?_ | refine gg rfl rfl rfl rfl rfl (ov_int rfl rfl (bin_sub ..)) ?_ | refine gg rfl rfl rfl rfl rfl (ov_int rfl rfl (bin_mul ..)) ?_ | refine gi rfl rfl rfl rfl rfl ?_ | refine gu rfl rfl rfl rfl rfl ?_)
        refine gl_nil ?_
        exact g_ret ⟨_, res_1 rfl, by simp only [followsAll, hk', hn, he, Bool.true_and, Bool.false_and]⟩
    · replace hn : nextB c c' = false := by simpa using hn
      refine gl_callq (u := .bool false) (want_g rfl rfl rfl) rfl rfl (by kernel_rfl) (fun w hs => (next_cl _ _ _).mono fun v N h => h.trans (by rw [← hn]; rfl)) ?_
      repeat (first | refine gn rfl rfl rfl (ov_move rfl) ?_ | refine gn rfl rfl rfl (ov_assign rfl) ?_ | refine gn rfl rfl rfl (ov_fa rfl) ?_ | refine gn rfl rfl rfl (ov_ldl rfl rfl) ?_ | refine gn rfl rfl rfl (ov_len rfl) ?_ | refine gn rfl rfl rfl (ov_extract rfl rfl) ?_ | refine gn rfl rfl rfl (ov_not rfl) ?_ | refine gn rfl rfl rfl (ov_int rfl rfl (bin_add ..)) ?_ | refine gn rfl rfl rfl (ov_int rfl rfl (bin_sub ..)) ?_ | refine gn rfl rfl rfl (ov_int rfl rfl (bin_mul ..)) ?_ | refine gn rfl rfl rfl (ov_pickT rfl rfl) ?_ | refine gn rfl rfl rfl (ov_pickF rfl rfl) ?_ | refine gg rfl rfl rfl rfl rfl (ov_move rfl) ?_ | refine gg rfl rfl rfl rfl rfl (ov_assign rfl) ?_ | refine gg rfl rfl rfl rfl rfl (ov_fa rfl) ?_ | refine gg rfl rfl rfl rfl rfl (ov_ldl rfl rfl) ?_ | refine gg rfl rfl rfl rfl rfl (ov_len rfl) ?_ | refine gg rfl rfl rfl rfl rfl (ov_extract rfl rfl) ?_ | refine gg rfl rfl rfl rfl rfl (ov_not rfl) ?_ | refine gg rfl rfl rfl rfl rfl (ov_int rfl rfl (bin_add ..)) ?_ | refine gg rfl rfl rfl rfl rfl (ov_int rfl rfl (bin_sub ..)) ?_ | refine gg rfl rfl rfl rfl rfl (ov_int rfl rfl (bin_mul ..)) ?_ | refine gi rfl rfl rfl rfl rfl ?_ | refine gu rfl rfl rfl rfl rfl ?_)
      refine gl_nil ?_
      exact g_ret ⟨_, res_1 rfl, by simp only [followsAll, hk', hn, Bool.true_and, Bool.false_and]⟩
  · refine gl_callq (want_n rfl) rfl rfl (by kernel_rfl) (fun w hs => (kindOf_cl _ _ (HK _ _ hs)).mono fun v N h => h.trans hv) ?_
    repeat (first | refine gn rfl rfl rfl (ov_move rfl) ?_ | refine gn rfl rfl rfl (ov_assign rfl) ?_ | refine gn rfl rfl rfl (ov_fa rfl) ?_ | refine gn rfl rfl rfl (ov_ldl rfl rfl) ?_ | refine gn rfl rfl rfl (ov_len rfl) ?_ | refine gn rfl rfl rfl (ov_extract rfl rfl) ?_ | refine gn rfl rfl rfl (ov_not rfl) ?_ | refine gn rfl rfl rfl (ov_int rfl rfl (bin_add ..)) ?_ | refine gn rfl rfl rfl (ov_int rfl rfl (bin_sub ..)) ?_ | refine gn rfl rfl rfl (ov_int rfl rfl (bin_mul ..)) ?_ | refine gn rfl rfl rfl (ov_pickT rfl rfl) ?_ | refine gn rfl rfl rfl (ov_pickF rfl rfl) ?_ | refine gg rfl rfl rfl rfl rfl (ov_move rfl) ?_ | refine gg rfl rfl rfl rfl rfl (ov_assign rfl) ?_ | refine gg rfl rfl rfl rfl rfl (ov_fa rfl) ?_ | refine gg rfl rfl rfl rfl rfl (ov_ldl rfl rfl) ?_ | refine gg rfl rfl rfl rfl rfl (ov_len rfl) ?_ | refine gg rfl rfl rfl rfl rfl (ov_extract rfl rfl) ?_ | refine gg rfl rfl rfl rfl rfl (ov_not rfl) ?_ | refine gg rfl rfl rfl rfl rfl (ov_int rfl rfl (bin_add ..)) ?_ | refine gg rfl rfl rfl rfl rfl (ov_int rfl rfl (bin_sub ..)) ?_ | refine gg rfl rfl rfl rfl rfl (ov_int rfl rfl (bin_mul ..)) ?_ | refine gi rfl rfl rfl rfl rfl ?_ | refine gu rfl rfl rfl rfl rfl ?_)
    refine gl_w (want_n rfl) (ef_alloc rfl ?_); intro b2
    refine gl_w (want_n rfl) (ef_stn (C' := [.int .i64 0, .int .i64 0, .int .i64 0, .bool false]) rfl rfl rfl rfl (Nat.le_of_ble_eq_true rfl) rfl rfl ?_)
    repeat (first | refine gn rfl rfl rfl (ov_move rfl) ?_ | refine gn rfl rfl rfl (ov_assign rfl) ?_ | refine gn rfl rfl rfl (ov_fa rfl) ?_ | refine gn rfl rfl rfl (ov_ldl rfl rfl) ?_ | refine gn rfl rfl rfl (ov_len rfl) ?_ | refine gn rfl rfl rfl (ov_extract rfl rfl) ?_ | refine gn rfl rfl rfl (ov_not rfl) ?_ | refine gn rfl rfl rfl (ov_int rfl rfl (bin_add ..)) ?_ | refine gn rfl rfl rfl (ov_int rfl rfl (bin_sub ..)) ?_ | refine gn rfl rfl rfl (ov_int rfl rfl (bin_mul ..)) ?_ | refine gn rfl rfl rfl (ov_pickT rfl rfl) ?_ | refine gn rfl rfl rfl (ov_pickF rfl rfl) ?_ | refine gg rfl rfl rfl rfl rfl (ov_move rfl) ?_ | refine gg rfl rfl rfl rfl rfl (ov_assign rfl) ?_ | refine gg rfl rfl rfl rfl rfl (ov_fa rfl) ?_ | refine gg rfl rfl rfl rfl rfl (ov_ldl rfl rfl) ?_ | refine gg rfl rfl rfl rfl rfl (ov_len rfl) ?_ | refine gg rfl rfl rfl rfl rfl (ov_extract rfl rfl) ?_ | refine gg rfl rfl rfl rfl rfl (ov_not rfl) ?_ | refine gg rfl rfl rfl rfl rfl (ov_int rfl rfl (bin_add ..)) ?_ | refine gg rfl rfl rfl rfl rfl (ov_int rfl rfl (bin_sub ..)) ?_ | refine gg rfl rfl rfl rfl rfl (ov_int rfl rfl (bin_mul ..)) ?_ | refine gi rfl rfl rfl rfl rfl ?_ | refine gu rfl rfl rfl rfl rfl ?_)
    refine gl_nil ?_
    repeat (first | refine g_seq ?_ | refine g_block ?_)
    refine g_region ?_
    repeat (first | refine gn rfl rfl rfl (ov_move rfl) ?_ | refine gn rfl rfl rfl (ov_assign rfl) ?_ | refine gn rfl rfl rfl (ov_fa rfl) ?_ | refine gn rfl rfl rfl (ov_ldl rfl rfl) ?_ | refine gn rfl rfl rfl (ov_len rfl) ?_ | refine gn rfl rfl rfl (ov_extract rfl rfl) ?_ | refine gn rfl rfl rfl (ov_not rfl) ?_ | refine gn rfl rfl rfl (ov_int rfl rfl (bin_add ..)) ?_ | refine gn rfl rfl rfl (ov_int rfl rfl (bin_sub ..)) ?_ | refine gn rfl rfl rfl (ov_int rfl rfl (bin_mul ..)) ?_ | refine gn rfl rfl rfl (ov_pickT rfl rfl) ?_ | refine gn rfl rfl rfl (ov_pickF rfl rfl) ?_ | refine gg rfl rfl rfl rfl rfl (ov_move rfl) ?_ | refine gg rfl rfl rfl rfl rfl (ov_assign rfl) ?_ | refine gg rfl rfl rfl rfl rfl (ov_fa rfl) ?_ | refine gg rfl rfl rfl rfl rfl (ov_ldl rfl rfl) ?_ | refine gg rfl rfl rfl rfl rfl (ov_len rfl) ?_ | refine gg rfl rfl rfl rfl rfl (ov_extract rfl rfl) ?_ | refine gg rfl rfl rfl rfl rfl (ov_not rfl) ?_ | refine gg rfl rfl rfl rfl rfl (ov_int rfl rfl (bin_add ..)) ?_ | refine gg rfl rfl rfl rfl rfl (ov_int rfl rfl (bin_sub ..)) ?_ | refine gg rfl rfl rfl rfl rfl (ov_int rfl rfl (bin_mul ..)) ?_ | refine gi rfl rfl rfl rfl rfl ?_ | refine gu rfl rfl rfl rfl rfl ?_)
    refine gl_nil ?_
    have hk' : (k == 1 || k == 2) = false := by simpa using hk
    exact g_ret ⟨_, res_1 rfl, by simp only [followsAll, hk', Bool.false_and]⟩
end Go.Proofs.YtfanghiakbddcaaDoor
