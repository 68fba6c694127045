/- The walk of the law JournalFollows. -/
import Derived.Test.YtfanghiakbddcaaDoorJr
namespace Go.Proofs.YtfanghiakbddcaaDoor
open Go.RowKit Go.Extern.Stop
theorem goodHead (tag root : List UInt8) (l1 : tag.length = 32) (l3 : root.length = 32) : IsHead (.int .i64 4 :: .int .i64 2 :: (tag.map cell ++ root.map cell)) 4 2 tag root :=
  ⟨by simp [l1, l3], rfl, rfl, by simp [l1], by simp [l1, l3, List.take_of_length_le]⟩
theorem goodRec (tag root : List UInt8) (v : Value) (l1 : tag.length = 32) (l3 : root.length = 32) : IsRec (.int .i64 1 :: .int .i64 5 :: .int .i64 2 :: (tag.map cell ++ root.map cell ++ [v])) 1 5 2 tag root :=
  ⟨by simp [l1, l3], rfl, rfl, rfl, by simp [l1], by simp [l1, l3, List.take_of_length_le]⟩
set_option maxHeartbeats 4000000 in
theorem law_cl (H R : List Value) (c s k c' s' : Int) (tag root prev root' : List UInt8) (hH : IsHead H c s tag root) (hR : IsRec R k c' s' prev root') (w : World) (hK : KindsLaid w) :
    Cl Tryd.prog 3 #[.agg H.toArray, .agg R.toArray] w fun v _ => v = .bool true := by
  have l1 := len32 hH.len hH.tagv
  have l3 := len32 hH.len hH.rootv
  have HK : ∀ L w', St w w' L → KindsLaid w' := fun L w' hs j v hv => by
    have h1 := hK j v hv
    rw [hs.below.cell (World.block_lt_of_cell? w _ h1)]
    exact h1
  refine cl_of_g Tryd.func3 rfl rfl ?_
  repeat (first | refine g_seq ?_ | refine g_block ?_)
  refine g_region ?_
  refine gl_w (want_n rfl) (ef_box rfl rfl ?_); intro b0
  refine gl_w (want_n rfl) (ef_box rfl rfl ?_); intro b1
  repeat (first | refine gn rfl rfl rfl (ov_move rfl) ?_ | refine gn rfl rfl rfl (ov_assign rfl) ?_ | refine gn rfl rfl rfl (ov_fa rfl) ?_ | refine gn rfl rfl rfl (ov_ldl rfl rfl) ?_ | refine gn rfl rfl rfl (ov_len rfl) ?_ | refine gn rfl rfl rfl (ov_extract rfl rfl) ?_ | refine gn rfl rfl rfl (ov_not rfl) ?_ | refine gn rfl rfl rfl (ov_int rfl rfl (bin_add ..)) ?_ | refine gn rfl rfl rfl (ov_int rfl rfl (bin_sub ..)) ?_ | refine gn rfl rfl rfl (ov_int rfl rfl (bin_mul ..)) ?_ | refine gn rfl rfl rfl (ov_pickT rfl rfl) ?_ | refine gn rfl rfl rfl (ov_pickF rfl rfl) ?_ | refine gg rfl rfl rfl rfl rfl (ov_move rfl) ?_ | refine gg rfl rfl rfl rfl rfl (ov_assign rfl) ?_ | refine gg rfl rfl rfl rfl rfl (ov_fa rfl) ?_ | refine gg rfl rfl rfl rfl rfl (ov_ldl rfl rfl) ?_ | refine gg rfl rfl rfl rfl rfl (ov_len rfl) ?_ | refine gg rfl rfl rfl rfl rfl (ov_extract rfl rfl) ?_ | refine gg rfl rfl rfl rfl rfl (ov_not rfl) ?_ | refine gg rfl rfl rfl rfl rfl (ov_int rfl rfl (bin_add ..)) ?_ | refine gg rfl rfl rfl rfl rfl (ov_int rfl rfl (bin_sub ..)) ?_ | refine gg rfl rfl rfl rfl rfl (ov_int rfl rfl (bin_mul ..)) ?_ | refine gi rfl rfl rfl rfl rfl ?_ | refine gu rfl rfl rfl rfl rfl ?_)
  refine gl_nil ?_
  refine g_cut (fun l L => ∃ b5 b6, Sub l [(2, .pointer (some ⟨b0, 0, none⟩)), (3, .pointer (some ⟨b1, 0, none⟩)), (5, .pointer (some ⟨b5, 0, none⟩)), (6, .pointer (some ⟨b6, 0, none⟩))] ∧
    ∀ w', St w w' L → St w w' [(some b5, .cells (root.map cell).toArray 23), (some b6, .cells (tag.map cell).toArray 23), (some b1, .cells R.toArray 28), (some b0, .cells H.toArray 25)]) ?_ ?_
  · refine g_any (by kernel_rfl) ?_
    refine ga_take 0 rfl (by kernel_rfl) (by kernel_rfl) (by kernel_rfl) (fun _ _ _ h => h) (want_n rfl) rfl rfl (fun _ h => h) (ov_fa rfl) ?_
    refine ga_take 1 rfl (by kernel_rfl) (by kernel_rfl) (by kernel_rfl) (fun _ _ _ h => h) (want_n rfl) rfl rfl (fun _ h => h) (ov_ldln rfl hH.rootv (by rw [hH.len]; decide)) ?_
    refine ga_take 2 rfl (by kernel_rfl) (by kernel_rfl) (by kernel_rfl) (fun _ _ _ h => h) (want_n rfl) rfl rfl (fun _ h => h) (ov_fa rfl) ?_
    refine ga_take 3 rfl (by kernel_rfl) (by kernel_rfl) (by kernel_rfl) (fun _ _ _ h => h) (want_n rfl) rfl rfl (fun _ h => h) (ov_ldln rfl hH.tagv (by rw [hH.len]; decide)) ?_
    refine ga_all [4, 5] (by kernel_rfl) (by decide) ?_
    intro i hi
    simp only [List.mem_cons, List.not_mem_nil, or_false] at hi
    rcases hi with rfl | rfl
    · refine ga_op rfl (want_n rfl) (ef_alloc rfl ?_); intro b5
      refine ⟨tail1, ?_⟩
      refine ga_all [5] (by kernel_rfl) (by decide) ?_
      intro i hi
      obtain rfl := List.mem_singleton.1 hi
      refine ga_op rfl (want_n rfl) (ef_alloc rfl ?_); intro b6
      refine ⟨tail2, ?_⟩
      refine ga_all [6] (by kernel_rfl) (by decide) ?_
      intro i hi
      obtain rfl := List.mem_singleton.1 hi
      refine ga_op rfl (want_n rfl) (ef_stn (C' := root.map cell) rfl rfl rfl (by simp [l3]) (by simp) (by simp [cell, Value.oneCell']) (by simp [l3]) ?_)
      refine ⟨tail2, ?_⟩
      refine ga_all [7] (by kernel_rfl) (by decide) ?_
      intro i hi
      obtain rfl := List.mem_singleton.1 hi
      refine ga_op rfl (want_n rfl) (ef_stn (C' := tag.map cell) rfl rfl rfl (by simp [l1]) (by simp) (by simp [cell, Value.oneCell']) (by simp [l1]) ?_)
      refine ⟨tail2, ?_⟩
      refine ga_done (by kernel_rfl) ?_
      exact ⟨b5, b6, ⟨rfl, rfl, rfl, rfl, trivial⟩, fun w' h => h.pick [1, 0, 2, 3] _ rfl (by decide)⟩
    · refine ga_op rfl (want_n rfl) (ef_alloc rfl ?_); intro b6
      refine ⟨tail1, ?_⟩
      refine ga_all [4] (by kernel_rfl) (by decide) ?_
      intro i hi
      obtain rfl := List.mem_singleton.1 hi
      refine ga_op rfl (want_n rfl) (ef_alloc rfl ?_); intro b5
      refine ⟨tail2, ?_⟩
      refine ga_all [6] (by kernel_rfl) (by decide) ?_
      intro i hi
      obtain rfl := List.mem_singleton.1 hi
      refine ga_op rfl (want_n rfl) (ef_stn (C' := root.map cell) rfl rfl rfl (by simp [l3]) (by simp) (by simp [cell, Value.oneCell']) (by simp [l3]) ?_)
      refine ⟨tail2, ?_⟩
      refine ga_all [7] (by kernel_rfl) (by decide) ?_
      intro i hi
      obtain rfl := List.mem_singleton.1 hi
      refine ga_op rfl (want_n rfl) (ef_stn (C' := tag.map cell) rfl rfl rfl (by simp [l1]) (by simp) (by simp [cell, Value.oneCell']) (by simp [l1]) ?_)
      refine ⟨tail2, ?_⟩
      refine ga_done (by kernel_rfl) ?_
      exact ⟨b5, b6, ⟨rfl, rfl, rfl, rfl, trivial⟩, fun w' h => h.pick [0, 1, 2, 3] _ rfl (by decide)⟩
  rintro l L ⟨b5, b6, hl, hL⟩
  refine g_sub hl (g_heap hL ?_)
  clear hl hL l L
  repeat (first | refine g_seq ?_ | refine g_block ?_)
  refine g_region ?_
  refine gn rfl rfl rfl (ov_ldln rfl (all_len (by simp [l1])) (by simp [l1])) ?_
  refine gn rfl rfl rfl (ov_ldln rfl (all_len (by simp [l3])) (by simp [l3])) ?_
  refine gn rfl rfl rfl (ov_build (C := .int .i64 4 :: .int .i64 2 :: (tag.map cell ++ root.map cell)) (.cons rfl inferInstance rfl rfl (by decide) (.cons rfl inferInstance rfl rfl (by decide) (.cons rfl inferInstance rfl (by simp [l1]) (by decide) (.cons rfl inferInstance rfl (by simp [l3]) (by decide) .nil)))) (by simp [putAll, overC, l1, l3, List.drop_append, List.drop_of_length_le])) ?_
  refine gn rfl rfl rfl (ov_ldln rfl (all_len (by simp [l1])) (by simp [l1])) ?_
  refine gn rfl rfl rfl (ov_ldln rfl (all_len (by simp [l3])) (by simp [l3])) ?_
  refine gn rfl rfl rfl (ov_build (C := .int .i64 1 :: .int .i64 5 :: .int .i64 2 :: (tag.map cell ++ root.map cell ++ [.slice none 0 0])) (.cons rfl inferInstance rfl rfl (by decide) (.cons rfl inferInstance rfl rfl (by decide) (.cons rfl inferInstance rfl rfl (by decide) (.cons rfl inferInstance rfl (by simp [l1]) (by decide) (.cons rfl inferInstance rfl (by simp [l3]) (by decide) .nil))))) (by simp [putAll, overC, l1, l3, List.drop_append, List.drop_of_length_le])) ?_
  refine gl_callq (u := .bool true) (want_n rfl) rfl rfl (by kernel_rfl) (fun w hs => (Follows_cl _ _ _ _ _ _ _ _ _ _ _ (goodHead tag root l1 l3) (goodRec tag root _ l1 l3) w (HK _ _ hs)).mono fun v N h => h.trans (by simp [followsAll, nextB, followsB]; decide)) ?_
  repeat (first | refine gn rfl rfl rfl (ov_move rfl) ?_ | refine gn rfl rfl rfl (ov_assign rfl) ?_ | refine gn rfl rfl rfl (ov_fa rfl) ?_ | refine gn rfl rfl rfl (ov_ldl rfl rfl) ?_ | refine gn rfl rfl rfl (ov_len rfl) ?_ | refine gn rfl rfl rfl (ov_extract rfl rfl) ?_ | refine gn rfl rfl rfl (ov_not rfl) ?_ | refine gn rfl rfl rfl (ov_int rfl rfl (bin_add ..)) ?_ | refine gn rfl rfl rfl (ov_int rfl rfl (bin_sub ..)) ?_ | refine gn rfl rfl rfl (ov_int rfl rfl (bin_mul ..)) ?_ | refine gn rfl rfl rfl (ov_pickT rfl rfl) ?_ | refine gn rfl rfl rfl (ov_pickF rfl rfl) ?_ | refine gg rfl rfl rfl rfl rfl (ov_move rfl) ?_ | refine gg rfl rfl rfl rfl rfl (ov_assign rfl) ?_ | refine gg rfl rfl rfl rfl rfl (ov_fa rfl) ?_ | refine gg rfl rfl rfl rfl rfl (ov_ldl rfl rfl) ?_ | refine gg rfl rfl rfl rfl rfl (ov_len rfl) ?_ | refine gg rfl rfl rfl rfl rfl (ov_extract rfl rfl) ?_ | refine gg rfl rfl rfl rfl rfl (ov_not rfl) ?_ | refine gg rfl rfl rfl rfl rfl (ov_int rfl rfl (bin_add ..)) ?_ | refine gg rfl rfl rfl rfl rfl (ov_int rfl rfl (bin_sub ..)) ?_ | refine gg rfl rfl rfl rfl rfl (ov_int rfl rfl (bin_mul ..)) ?_ | refine gi rfl rfl rfl rfl rfl ?_ | refine gu rfl rfl rfl rfl rfl ?_)
  refine gl_nil ?_
  refine g_seq ?_
  refine g_quiet (by kernel_rfl) (by kernel_rfl) ?_
  repeat (first | refine qn rfl rfl rfl (ov_move rfl) ?_ | refine qn rfl rfl rfl (ov_assign rfl) ?_ | refine qn rfl rfl rfl (ov_fa rfl) ?_ | refine qn rfl rfl rfl (ov_ldl rfl rfl) ?_ | refine qn rfl rfl rfl (ov_len rfl) ?_ | refine qn rfl rfl rfl (ov_extract rfl rfl) ?_ | refine qn rfl rfl rfl (ov_not rfl) ?_ | refine qn rfl rfl rfl (ov_int rfl rfl (bin_add ..)) ?_ | refine qn rfl rfl rfl (ov_int rfl rfl (bin_sub ..)) ?_ | refine qn rfl rfl rfl (ov_int rfl rfl (bin_mul ..)) ?_ | refine qn rfl rfl rfl (ov_pickT rfl rfl) ?_ | refine qn rfl rfl rfl (ov_pickF rfl rfl) ?_ | refine qg rfl rfl rfl rfl rfl (ov_move rfl) ?_ | refine qg rfl rfl rfl rfl rfl (ov_assign rfl) ?_ | refine qg rfl rfl rfl rfl rfl (ov_fa rfl) ?_ | refine qg rfl rfl rfl rfl rfl (ov_ldl rfl rfl) ?_ | refine qg rfl rfl rfl rfl rfl (ov_len rfl) ?_ | refine qg rfl rfl rfl rfl rfl (ov_extract rfl rfl) ?_ | refine qg rfl rfl rfl rfl rfl (ov_not rfl) ?_ | refine qg rfl rfl rfl rfl rfl (ov_int rfl rfl (bin_add ..)) ?_ | refine qg rfl rfl rfl rfl rfl (ov_int rfl rfl (bin_sub ..)) ?_ | refine qg rfl rfl rfl rfl rfl (ov_int rfl rfl (bin_mul ..)) ?_ | refine qi rfl rfl rfl rfl rfl ?_ | refine qu rfl rfl rfl rfl rfl ?_)
  refine qg rfl rfl rfl rfl rfl (ov_ldln rfl (all_len hH.len) (by rw [hH.len]; decide)) ?_
  refine qg rfl rfl rfl rfl rfl (ov_ldln rfl (all_len hR.len) (by rw [hR.len]; decide)) ?_
  refine glq_call (want_g rfl rfl rfl) rfl rfl (by kernel_rfl) (fun w hs => Follows_cl _ _ _ _ _ _ _ _ _ _ _ hH hR w (HK _ _ hs)) ?_
  refine qg rfl rfl rfl rfl rfl (ov_ldln rfl (all_len hH.len) (by rw [hH.len]; decide)) ?_
  refine qg rfl rfl rfl rfl rfl (ov_ldln rfl (all_len hR.len) (by rw [hR.len]; decide)) ?_
  refine glq_call (want_g rfl rfl rfl) rfl rfl (by kernel_rfl) (fun w hs => refFollows_cl _ _ _ _ _ _ _ _ _ _ _ hH hR w) ?_
  refine qg rfl rfl rfl rfl rfl (ov_eqbool (b := true) rfl rfl (by kernel_rfl) (by simp)) ?_
  repeat (first | refine qn rfl rfl rfl (ov_move rfl) ?_ | refine qn rfl rfl rfl (ov_assign rfl) ?_ | refine qn rfl rfl rfl (ov_fa rfl) ?_ | refine qn rfl rfl rfl (ov_ldl rfl rfl) ?_ | refine qn rfl rfl rfl (ov_len rfl) ?_ | refine qn rfl rfl rfl (ov_extract rfl rfl) ?_ | refine qn rfl rfl rfl (ov_not rfl) ?_ | refine qn rfl rfl rfl (ov_int rfl rfl (bin_add ..)) ?_ | refine qn rfl rfl rfl (ov_int rfl rfl (bin_sub ..)) ?_ | refine qn rfl rfl rfl (ov_int rfl rfl (bin_mul ..)) ?_ | refine qn rfl rfl rfl (ov_pickT rfl rfl) ?_ | refine qn rfl rfl rfl (ov_pickF rfl rfl) ?_ | refine qg rfl rfl rfl rfl rfl (ov_move rfl) ?_ | refine qg rfl rfl rfl rfl rfl (ov_assign rfl) ?_ | refine qg rfl rfl rfl rfl rfl (ov_fa rfl) ?_ | refine qg rfl rfl rfl rfl rfl (ov_ldl rfl rfl) ?_ | refine qg rfl rfl rfl rfl rfl (ov_len rfl) ?_ | refine qg rfl rfl rfl rfl rfl (ov_extract rfl rfl) ?_ | refine qg rfl rfl rfl rfl rfl (ov_not rfl) ?_ | refine qg rfl rfl rfl rfl rfl (ov_int rfl rfl (bin_add ..)) ?_ | refine qg rfl rfl rfl rfl rfl (ov_int rfl rfl (bin_sub ..)) ?_ | refine qg rfl rfl rfl rfl rfl (ov_int rfl rfl (bin_mul ..)) ?_ | refine qi rfl rfl rfl rfl rfl ?_ | refine qu rfl rfl rfl rfl rfl ?_)
  refine glq_nil ?_
  exact g_ret ⟨_, res_1 rfl, rfl⟩
end Go.Proofs.YtfanghiakbddcaaDoor
