/- bytes.Clone; fresh rows handed back. By this project. -/
import Derived.Test.YtfanghiakbddcaaCmp
set_option linter.unusedVariables false
set_option linter.unusedSimpArgs false
namespace Go.Proofs.Ytfanghiakbddcaa
open Go.RowKit Go.Extern.Stop

/-- A slice handed back, in a block of its own (or nil). -/
structure Fresh (E : TypeId) (cs : List Value) (v : Value) (r : Option Nat) (c : Nat) (sp : List Value) : Prop where
  val : v = .slice (rowA r) cs.length c
  ok : RowOk r cs.length c 1 sp
theorem cells_one (xs : List UInt8) : (xs.map cell).all (·.oneCell') = true := by simp [cell, Value.oneCell']
theorem rw_none {w : World} {xs : List UInt8} (h : RW w none (xs.map cell)) : xs = [] := by
  cases xs with
  | nil => rfl
  | cons x r => obtain ⟨ad, h1, _⟩ := h 0 _ rfl; simp at h1

set_option maxHeartbeats 1000000 in
theorem Clone_cl (A : Option Addr) (c0 : Nat) (xs : List UInt8) (w : World) (hA : RW w A (xs.map cell)) (hl : xs.length ≤ 140737488355328) :
    Cl Try.prog 43 #[.slice A xs.length c0] w fun v N => ∃ r c sp, Fresh 5 (xs.map cell) v r c sp ∧ N = [(r, .cells (xs.map cell ++ sp).toArray 5 (0, 0))] := by
  refine cl_of_g Try.func43 rfl rfl ?_
  repeat (first | refine g_seq ?_ | refine g_block ?_)
  refine g_region ?_
  repeat (first | refine gn rfl rfl rfl (ov_move rfl) ?_ | refine gn rfl rfl rfl (ov_assign rfl) ?_ | refine gn rfl rfl rfl (ov_fa rfl) ?_ | refine gn rfl rfl rfl (ov_ldl rfl rfl) ?_ | refine gn rfl rfl rfl (ov_len rfl) ?_ | refine gn rfl rfl rfl (ov_extract rfl rfl) ?_ | refine gn rfl rfl rfl (ov_not rfl) ?_ | refine gn rfl rfl rfl (ov_int rfl rfl (bin_add ..)) ?_ | refine gn rfl rfl rfl (ov_int rfl rfl (bin_sub ..)) ?_ | refine gn rfl rfl rfl (ov_int rfl rfl (bin_mul ..)) ?_ | refine gn rfl rfl rfl (ov_pickT rfl rfl) ?_ | refine gn rfl rfl rfl (ov_pickF rfl rfl) ?_ | refine gg rfl rfl rfl rfl rfl (ov_move rfl) ?_ | refine gg rfl rfl rfl rfl rfl (ov_assign rfl) ?_ | refine gg rfl rfl rfl rfl rfl (ov_fa rfl) ?_ | refine gg rfl rfl rfl rfl rfl (ov_ldl rfl rfl) ?_ | refine gg rfl rfl rfl rfl rfl (ov_len rfl) ?_ | refine gg rfl rfl rfl rfl rfl (ov_extract rfl rfl) ?_ | refine gg rfl rfl rfl rfl rfl (ov_not rfl) ?_ | refine gg rfl rfl rfl rfl rfl (ov_int rfl rfl (bin_add ..)) ?_ | refine gg rfl rfl rfl rfl rfl (ov_int rfl rfl (bin_sub ..)) ?_ | refine gg rfl rfl rfl rfl rfl (ov_int rfl rfl (bin_mul ..)) ?_ | refine gi rfl rfl rfl rfl rfl ?_ | refine gu rfl rfl rfl rfl rfl ?_)
  refine gl_nil ?_
  repeat (first | refine g_seq ?_ | refine g_block ?_)
  refine g_region ?_
  repeat (first | refine gn rfl rfl rfl (ov_move rfl) ?_ | refine gn rfl rfl rfl (ov_assign rfl) ?_ | refine gn rfl rfl rfl (ov_fa rfl) ?_ | refine gn rfl rfl rfl (ov_ldl rfl rfl) ?_ | refine gn rfl rfl rfl (ov_len rfl) ?_ | refine gn rfl rfl rfl (ov_extract rfl rfl) ?_ | refine gn rfl rfl rfl (ov_not rfl) ?_ | refine gn rfl rfl rfl (ov_int rfl rfl (bin_add ..)) ?_ | refine gn rfl rfl rfl (ov_int rfl rfl (bin_sub ..)) ?_ | refine gn rfl rfl rfl (ov_int rfl rfl (bin_mul ..)) ?_ | refine gn rfl rfl rfl (ov_pickT rfl rfl) ?_ | refine gn rfl rfl rfl (ov_pickF rfl rfl) ?_ | refine gg rfl rfl rfl rfl rfl (ov_move rfl) ?_ | refine gg rfl rfl rfl rfl rfl (ov_assign rfl) ?_ | refine gg rfl rfl rfl rfl rfl (ov_fa rfl) ?_ | refine gg rfl rfl rfl rfl rfl (ov_ldl rfl rfl) ?_ | refine gg rfl rfl rfl rfl rfl (ov_len rfl) ?_ | refine gg rfl rfl rfl rfl rfl (ov_extract rfl rfl) ?_ | refine gg rfl rfl rfl rfl rfl (ov_not rfl) ?_ | refine gg rfl rfl rfl rfl rfl (ov_int rfl rfl (bin_add ..)) ?_ | refine gg rfl rfl rfl rfl rfl (ov_int rfl rfl (bin_sub ..)) ?_ | refine gg rfl rfl rfl rfl rfl (ov_int rfl rfl (bin_mul ..)) ?_ | refine gi rfl rfl rfl rfl rfl ?_ | refine gu rfl rfl rfl rfl rfl ?_)
  have hR : RS w [] A (xs.map cell) := rs_ext hA
  cases A with
  | none =>
    obtain rfl := rw_none hA
    refine gn rfl rfl rfl (ov_eqnil rfl rfl rfl) ?_
    refine gl_nil ?_
    repeat (first | refine g_seq ?_ | refine g_block ?_)
    refine g_condT rfl ?_
    repeat (first | refine g_seq ?_ | refine g_block ?_)
    refine g_region ?_
    repeat (first | refine gn rfl rfl rfl (ov_move rfl) ?_ | refine gn rfl rfl rfl (ov_assign rfl) ?_ | refine gn rfl rfl rfl (ov_fa rfl) ?_ | refine gn rfl rfl rfl (ov_ldl rfl rfl) ?_ | refine gn rfl rfl rfl (ov_len rfl) ?_ | refine gn rfl rfl rfl (ov_extract rfl rfl) ?_ | refine gn rfl rfl rfl (ov_not rfl) ?_ | refine gn rfl rfl rfl (ov_int rfl rfl (bin_add ..)) ?_ | refine gn rfl rfl rfl (ov_int rfl rfl (bin_sub ..)) ?_ | refine gn rfl rfl rfl (ov_int rfl rfl (bin_mul ..)) ?_ | refine gn rfl rfl rfl (ov_pickT rfl rfl) ?_ | refine gn rfl rfl rfl (ov_pickF rfl rfl) ?_ | refine gg rfl rfl rfl rfl rfl (ov_move rfl) ?_ | refine gg rfl rfl rfl rfl rfl (ov_assign rfl) ?_ | refine gg rfl rfl rfl rfl rfl (ov_fa rfl) ?_ | refine gg rfl rfl rfl rfl rfl (ov_ldl rfl rfl) ?_ | refine gg rfl rfl rfl rfl rfl (ov_len rfl) ?_ | refine gg rfl rfl rfl rfl rfl (ov_extract rfl rfl) ?_ | refine gg rfl rfl rfl rfl rfl (ov_not rfl) ?_ | refine gg rfl rfl rfl rfl rfl (ov_int rfl rfl (bin_add ..)) ?_ | refine gg rfl rfl rfl rfl rfl (ov_int rfl rfl (bin_sub ..)) ?_ | refine gg rfl rfl rfl rfl rfl (ov_int rfl rfl (bin_mul ..)) ?_ | refine gi rfl rfl rfl rfl rfl ?_ | refine gu rfl rfl rfl rfl rfl ?_)
    refine gl_nil ?_
    refine g_heap (L' := [(none, .cells #[] 5 (0, 0))]) (fun w' h => ⟨h.below, fun i b o hi => by cases i <;> simp at hi, fun i j b o o' hi => by cases i <;> simp at hi⟩) ?_
    exact g_ret ⟨_, res_1 rfl, none, 0, [], ⟨rfl, fun _ => ⟨rfl, rfl⟩, Nat.le_refl _, rfl⟩, rfl⟩
  | some ad =>
    refine gn rfl rfl rfl (ov_eqnil rfl rfl rfl) ?_
    refine gl_nil ?_
    repeat (first | refine g_seq ?_ | refine g_block ?_)
    refine g_condF rfl (g_skip ?_)
    repeat (first | refine g_seq ?_ | refine g_block ?_)
    refine g_region ?_
    refine gl_w (want_n rfl) (ef_bs (C := []) rfl rfl rfl .nil rfl ?_); intro b0
    repeat (first | refine gn rfl rfl rfl (ov_move rfl) ?_ | refine gn rfl rfl rfl (ov_assign rfl) ?_ | refine gn rfl rfl rfl (ov_fa rfl) ?_ | refine gn rfl rfl rfl (ov_ldl rfl rfl) ?_ | refine gn rfl rfl rfl (ov_len rfl) ?_ | refine gn rfl rfl rfl (ov_extract rfl rfl) ?_ | refine gn rfl rfl rfl (ov_not rfl) ?_ | refine gn rfl rfl rfl (ov_int rfl rfl (bin_add ..)) ?_ | refine gn rfl rfl rfl (ov_int rfl rfl (bin_sub ..)) ?_ | refine gn rfl rfl rfl (ov_int rfl rfl (bin_mul ..)) ?_ | refine gn rfl rfl rfl (ov_pickT rfl rfl) ?_ | refine gn rfl rfl rfl (ov_pickF rfl rfl) ?_ | refine gg rfl rfl rfl rfl rfl (ov_move rfl) ?_ | refine gg rfl rfl rfl rfl rfl (ov_assign rfl) ?_ | refine gg rfl rfl rfl rfl rfl (ov_fa rfl) ?_ | refine gg rfl rfl rfl rfl rfl (ov_ldl rfl rfl) ?_ | refine gg rfl rfl rfl rfl rfl (ov_len rfl) ?_ | refine gg rfl rfl rfl rfl rfl (ov_extract rfl rfl) ?_ | refine gg rfl rfl rfl rfl rfl (ov_not rfl) ?_ | refine gg rfl rfl rfl rfl rfl (ov_int rfl rfl (bin_add ..)) ?_ | refine gg rfl rfl rfl rfl rfl (ov_int rfl rfl (bin_sub ..)) ?_ | refine gg rfl rfl rfl rfl rfl (ov_int rfl rfl (bin_mul ..)) ?_ | refine gi rfl rfl rfl rfl rfl ?_ | refine gu rfl rfl rfl rfl rfl ?_)
    by_cases h0 : xs.length = 0
    · obtain rfl : xs = [] := List.length_eq_zero_iff.1 h0
      refine gl_w (want_n rfl) (ef_appR (C' := []) (new := []) rfl rfl rfl rs_nil rfl rfl (by decide) (by decide) (by decide) rfl ?_)
      repeat (first | refine gn rfl rfl rfl (ov_move rfl) ?_ | refine gn rfl rfl rfl (ov_assign rfl) ?_ | refine gn rfl rfl rfl (ov_fa rfl) ?_ | refine gn rfl rfl rfl (ov_ldl rfl rfl) ?_ | refine gn rfl rfl rfl (ov_len rfl) ?_ | refine gn rfl rfl rfl (ov_extract rfl rfl) ?_ | refine gn rfl rfl rfl (ov_not rfl) ?_ | refine gn rfl rfl rfl (ov_int rfl rfl (bin_add ..)) ?_ | refine gn rfl rfl rfl (ov_int rfl rfl (bin_sub ..)) ?_ | refine gn rfl rfl rfl (ov_int rfl rfl (bin_mul ..)) ?_ | refine gn rfl rfl rfl (ov_pickT rfl rfl) ?_ | refine gn rfl rfl rfl (ov_pickF rfl rfl) ?_ | refine gg rfl rfl rfl rfl rfl (ov_move rfl) ?_ | refine gg rfl rfl rfl rfl rfl (ov_assign rfl) ?_ | refine gg rfl rfl rfl rfl rfl (ov_fa rfl) ?_ | refine gg rfl rfl rfl rfl rfl (ov_ldl rfl rfl) ?_ | refine gg rfl rfl rfl rfl rfl (ov_len rfl) ?_ | refine gg rfl rfl rfl rfl rfl (ov_extract rfl rfl) ?_ | refine gg rfl rfl rfl rfl rfl (ov_not rfl) ?_ | refine gg rfl rfl rfl rfl rfl (ov_int rfl rfl (bin_add ..)) ?_ | refine gg rfl rfl rfl rfl rfl (ov_int rfl rfl (bin_sub ..)) ?_ | refine gg rfl rfl rfl rfl rfl (ov_int rfl rfl (bin_mul ..)) ?_ | refine gi rfl rfl rfl rfl rfl ?_ | refine gu rfl rfl rfl rfl rfl ?_)
      refine gl_nil ?_
      exact g_ret ⟨_, res_1 rfl, some b0, 0, [], ⟨rfl, ⟨(fun h => by cases h), Nat.le_refl _, rfl⟩⟩, rfl⟩
    · refine gl_w (want_n rfl) (ef_appG (old := []) (new := xs.map cell) rfl rfl rfl rfl rs_nil rfl (rs_more (N := [_]) hR) (by simp) (cells_one xs) (by decide) (by omega) (by omega) (by omega) ?_)
      intro b1 sp c' h1 h2
      repeat (first | refine gn rfl rfl rfl (ov_move rfl) ?_ | refine gn rfl rfl rfl (ov_assign rfl) ?_ | refine gn rfl rfl rfl (ov_fa rfl) ?_ | refine gn rfl rfl rfl (ov_ldl rfl rfl) ?_ | refine gn rfl rfl rfl (ov_len rfl) ?_ | refine gn rfl rfl rfl (ov_extract rfl rfl) ?_ | refine gn rfl rfl rfl (ov_not rfl) ?_ | refine gn rfl rfl rfl (ov_int rfl rfl (bin_add ..)) ?_ | refine gn rfl rfl rfl (ov_int rfl rfl (bin_sub ..)) ?_ | refine gn rfl rfl rfl (ov_int rfl rfl (bin_mul ..)) ?_ | refine gn rfl rfl rfl (ov_pickT rfl rfl) ?_ | refine gn rfl rfl rfl (ov_pickF rfl rfl) ?_ | refine gg rfl rfl rfl rfl rfl (ov_move rfl) ?_ | refine gg rfl rfl rfl rfl rfl (ov_assign rfl) ?_ | refine gg rfl rfl rfl rfl rfl (ov_fa rfl) ?_ | refine gg rfl rfl rfl rfl rfl (ov_ldl rfl rfl) ?_ | refine gg rfl rfl rfl rfl rfl (ov_len rfl) ?_ | refine gg rfl rfl rfl rfl rfl (ov_extract rfl rfl) ?_ | refine gg rfl rfl rfl rfl rfl (ov_not rfl) ?_ | refine gg rfl rfl rfl rfl rfl (ov_int rfl rfl (bin_add ..)) ?_ | refine gg rfl rfl rfl rfl rfl (ov_int rfl rfl (bin_sub ..)) ?_ | refine gg rfl rfl rfl rfl rfl (ov_int rfl rfl (bin_mul ..)) ?_ | refine gi rfl rfl rfl rfl rfl ?_ | refine gu rfl rfl rfl rfl rfl ?_)
      refine gl_nil ?_
      refine g_heap (L' := [(some b1, .cells (xs.map cell ++ sp).toArray 5 (0, 0))]) (fun w' h => h.pick [0] _ rfl (by decide)) ?_
      exact g_ret ⟨_, res_1 rfl, some b1, c', sp, ⟨by simp [rowA], ⟨(fun h => by cases h), by simpa using h1, by simpa using h2⟩⟩, by simp⟩
end Go.Proofs.Ytfanghiakbddcaa
