/- THE LAW NodeRefers. Conditions: the tables of sha hold what their text lays (the card ties it). -/
import Derived.Test.YtlpcelcaahfafaaDoorM5
import Derived.Test.YtlpcelcaahfafaaDoorCards
import Derived.Test.YtlpcelcaahfafaaDoorTie
import Derived.SizedLaws
import Derived.JoinedOf
set_option linter.unusedVariables false
set_option linter.unusedSectionVars false
set_option linter.unusedSimpArgs false
/- Dn1: the document's sum of any bytes: Padded, Sum of cairnref02. By this project. -/
set_option maxRecDepth 100000
namespace Go.Proofs.YtlpcelcaahfafaaDoor
open Go.RowKit Go.Extern.Stop

theorem u8_bytes : (tiV vC 5).map (·.bytes) = some 1 := by kernel_rfl
theorem u8_one : ∃ te, tiV kxD.C 5 = some te ∧ te.bytes = 1 := by
  obtain ⟨te, h1, h2⟩ := Option.map_eq_some_iff.1 u8_bytes
  exact ⟨te, h1, h2⟩
theorem sizeB_succ (n : Nat) {j : Nat} (h : j < 8) : (sizeB n).take (j + 1) = (sizeB n).take j ++ [UInt8.ofNat (n * 8 / 2 ^ (56 - 8 * j))] := by
  rw [List.take_succ_eq_append_getElem (by rw [sizeB_len]; exact h)]
  simp only [sizeB, List.getElem_map, List.getElem_range, Nat.mul_comm n 8]
theorem padB_size (xs : List UInt8) : (padB xs).length = xs.length + 1 + zN xs.length + 8 := by
  simp only [padB, List.length_append, List.length_replicate, sizeB_len, List.length_cons, List.length_nil]
set_option maxHeartbeats 4000000 in
theorem padded_d {A : Option (Nat × Nat)} {xs : List UInt8} {c : Nat} {op : Bool} {hp : Hp} (ho : OkH hp) (hA : RB ⟨hp, []⟩ A (xs.map byV)) (hl : xs.length ≤ 140737488355328) :
    Fn kxD 25 [.sl A xs.length c op] hp [] fun r N => ∃ u, r = .v u ∧ ∃ b, u = .sl (some (b, 0)) (padB xs).length (padB xs).length true ∧ N = [(some b, .cells ((padB xs).map byV) 5 (some 1) false)] := by
  have hz64 : zN xs.length < 64 := Nat.mod_lt _ (by decide)
  refine Fn.drop ?_
  refine fn_of_w (T := []) ho.sv (fun _ => rfl) (fn := Tryd.f25) (by kernel_rfl) rfl rfl ?_
  refine wo ?_
  first | (apply p_op; exact (vwant_n rfl); iterate 4 exact rfl) | (apply d_op; exact (vwant_n rfl); exact rfl; exact noRd rfl; decide +kernel; (iterate 3 exact rfl); rotate_left) | (apply p_op; exact (vwant_g rfl rfl rfl); iterate 4 exact rfl) | (apply d_op; exact (vwant_g rfl rfl rfl); exact rfl; exact noRd rfl; decide +kernel; (iterate 3 exact rfl); rotate_left)
  refine e_bs (C := []) rfl rfl .nil rfl fun bn => ⟨_, rfl, ?_⟩
  try (case hok => first | exact rdOk_nil | exact rdOk_b (by decide +kernel))
  refine wo ?_
  first | (apply p_op; exact (vwant_n rfl); iterate 4 exact rfl) | (apply d_op; exact (vwant_n rfl); exact rfl; exact noRd rfl; decide +kernel; (iterate 3 exact rfl); rotate_left) | (apply p_op; exact (vwant_g rfl rfl rfl); iterate 4 exact rfl) | (apply d_op; exact (vwant_g rfl rfl rfl); exact rfl; exact noRd rfl; decide +kernel; (iterate 3 exact rfl); rotate_left)
  refine e_lit (new := xs.map byV) rfl rfl hA.z (by simp) u8_one (by omega) fun b1 o1 oo h1 => ⟨_, rfl, ?_⟩
  try (case hok => first | exact rdOk_nil | exact rdOk_b (by decide +kernel))
  refine wo ?_
  first | (apply p_op; exact (vwant_n rfl); iterate 4 exact rfl) | (apply d_op; exact (vwant_n rfl); exact rfl; exact noRd rfl; decide +kernel; (iterate 3 exact rfl); rotate_left) | (apply p_op; exact (vwant_g rfl rfl rfl); iterate 4 exact rfl) | (apply d_op; exact (vwant_g rfl rfl rfl); exact rfl; exact noRd rfl; decide +kernel; (iterate 3 exact rfl); rotate_left)
  refine e_bs (C := [byV 128]) rfl rfl (.cons rfl rfl .nil) rfl fun bm => ⟨_, rfl, ?_⟩
  try (case hok => first | exact rdOk_nil | exact rdOk_b (by decide +kernel))
  first | (apply p_op; exact (vwant_n rfl); iterate 4 exact rfl) | (apply d_op; exact (vwant_n rfl); exact rfl; exact noRd rfl; decide +kernel; (iterate 3 exact rfl); rotate_left) | (apply p_op; exact (vwant_g rfl rfl rfl); iterate 4 exact rfl) | (apply d_op; exact (vwant_g rfl rfl rfl); exact rfl; exact noRd rfl; decide +kernel; (iterate 3 exact rfl); rotate_left)
  refine e_appU (old := xs.map byV) (new := [byV 128]) rfl rfl h1 (by simp) (rz_loc (k := 1) rfl) rfl (by decide) u8_one (by omega) fun b2 => ⟨_, rfl, ?_⟩
  try (case hok => first | exact rdOk_nil | exact rdOk_b (by decide +kernel))
  dsimp only [List.set]
  refine wo ?_
  refine w_seq ?_
  refine wo ?_
  refine w_loop (ι := Nat × Nat) (fun s => [(3, .sl (some (s.2, 0)) (xs.length + 1 + s.1) (xs.length + 1 + s.1) true), (0, .sl A xs.length c op)])
    (fun s => [(some s.2, .cells ((xs ++ [128] ++ List.replicate s.1 0).map byV) 5 (some 1) false)])
    (fun s => s.1 ≤ zN xs.length) (fun s => zN xs.length - s.1) (0, b2) (Nat.zero_le _) ⟨rfl, rfl, trivial⟩ (fun hp h => by
      have e : (xs ++ [128] ++ List.replicate 0 0).map byV = xs.map byV ++ [byV 128] := by simp
      dsimp only
      rw [e]
      exact h.pick [1] _ rfl (by decide)) ?_
  intro ⟨z, b⟩ hz
  dsimp only at hz ⊢
  have h56 := zN_stop hz
  refine wo ?_
  first | (apply wm; iterate 5 exact rfl) | (apply dm; iterate 6 exact rfl) | (apply wmg; iterate 7 exact rfl) | (apply dmg; iterate 8 exact rfl)
  refine m_remN rfl rfl (by decide)
  by_cases g : z = zN xs.length
  rotate_left
  · have q : (xs.length + 1 + z) % 64 ≠ 56 := fun e => g (h56.1 e)
    first | (apply wm; iterate 5 exact rfl) | (apply dm; iterate 6 exact rfl) | (apply wmg; iterate 7 exact rfl) | (apply dmg; iterate 8 exact rfl)
    refine mv_int (v := .b true) rfl rfl (vi_neqT (by omega))
    refine wo ?_
    first | (apply p_op; exact (vwant_n rfl); iterate 4 exact rfl) | (apply d_op; exact (vwant_n rfl); exact rfl; exact noRd rfl; decide +kernel; (iterate 3 exact rfl); rotate_left) | (apply p_op; exact (vwant_g rfl rfl rfl); iterate 4 exact rfl) | (apply d_op; exact (vwant_g rfl rfl rfl); exact rfl; exact noRd rfl; decide +kernel; (iterate 3 exact rfl); rotate_left)
    refine e_bs (C := [byV 0]) rfl rfl (.cons rfl rfl .nil) rfl fun bm => ⟨_, rfl, ?_⟩
    try (case hok => first | exact rdOk_nil | exact rdOk_b (by decide +kernel))
    first | (apply p_op; exact (vwant_n rfl); iterate 4 exact rfl) | (apply d_op; exact (vwant_n rfl); exact rfl; exact noRd rfl; decide +kernel; (iterate 3 exact rfl); rotate_left) | (apply p_op; exact (vwant_g rfl rfl rfl); iterate 4 exact rfl) | (apply d_op; exact (vwant_g rfl rfl rfl); exact rfl; exact noRd rfl; decide +kernel; (iterate 3 exact rfl); rotate_left)
    refine e_appOb (old := (xs ++ [128] ++ List.replicate z 0).map byV) (new := [byV 0]) rfl rfl (by simp only [List.length_map, List.length_append, List.length_replicate, List.length_cons, List.length_nil]) (rz_loc (k := 1) rfl) rfl (by decide) u8_one (by omega) fun bg => ⟨_, rfl, ?_⟩
    try (case hok => first | exact rdOk_nil | exact rdOk_b (by decide +kernel))
    dsimp only [List.set]
    refine wo ?_
    refine ⟨rfl, (z + 1, bg), by dsimp only; omega, by dsimp only; omega, ⟨rfl, rfl, trivial⟩, fun hp h => ?_⟩
    have e : (xs ++ [128] ++ List.replicate (z + 1) 0).map byV = (xs ++ [128] ++ List.replicate z 0).map byV ++ [byV 0] := by rw [List.replicate_succ', ← List.append_assoc, List.map_append]; rfl
    dsimp only
    rw [e]
    exact h.pick [1] _ rfl (by decide)
  subst g
  have q : (xs.length + 1 + zN xs.length) % 64 = 56 := h56.2 rfl
  first | (apply wm; iterate 5 exact rfl) | (apply dm; iterate 6 exact rfl) | (apply wmg; iterate 7 exact rfl) | (apply dmg; iterate 8 exact rfl)
  refine mv_int (v := .b false) rfl rfl (vi_neqF (by omega))
  refine wo ?_
  refine w_exit ?_
  refine wo ?_
  first | (apply wm; iterate 5 exact rfl) | (apply dm; iterate 6 exact rfl) | (apply wmg; iterate 7 exact rfl) | (apply dmg; iterate 8 exact rfl)
  refine m_convU rfl (by omega)
  first | (apply wm; iterate 5 exact rfl) | (apply dm; iterate 6 exact rfl) | (apply wmg; iterate 7 exact rfl) | (apply dmg; iterate 8 exact rfl)
  refine m_mulU rfl rfl (by omega)
  refine wo ?_
  refine w_seq ?_
  refine wo ?_
  refine w_loop (ι := Nat × Nat) (fun s => [(5, .i .i64 (56 - ((8 * s.1 : Nat) : Int))), (4, .i .u64 ((xs.length * 8 : Nat) : Int)), (3, .sl (some (s.2, 0)) (xs.length + 1 + zN xs.length + s.1) (xs.length + 1 + zN xs.length + s.1) true)])
    (fun s => [(some s.2, .cells ((xs ++ [128] ++ List.replicate (zN xs.length) 0 ++ (sizeB xs.length).take s.1).map byV) 5 (some 1) false)])
    (fun s => s.1 ≤ 8) (fun s => 8 - s.1) (0, b) (Nat.zero_le _) ⟨rfl, rfl, rfl, trivial⟩ (fun hp h => by
      dsimp only
      rw [List.take_zero, List.append_nil]
      exact h) ?_
  intro ⟨j, b⟩ hj
  dsimp only at hj ⊢
  refine wo ?_
  by_cases g : j < 8
  · rw [show (56 : Int) - ((8 * j : Nat) : Int) = ((56 - 8 * j : Nat) : Int) by omega]
    first | (apply wm; iterate 5 exact rfl) | (apply dm; iterate 6 exact rfl) | (apply wmg; iterate 7 exact rfl) | (apply dmg; iterate 8 exact rfl)
    refine mv_int (v := .b true) rfl rfl (vi_geqT (by omega))
    refine wo ?_
    first | (apply wm; iterate 5 exact rfl) | (apply dm; iterate 6 exact rfl) | (apply wmg; iterate 7 exact rfl) | (apply dmg; iterate 8 exact rfl)
    refine m_shrN rfl rfl (by simp [IntKind.bits]; omega)
    first | (apply wm; iterate 5 exact rfl) | (apply dm; iterate 6 exact rfl) | (apply wmg; iterate 7 exact rfl) | (apply dmg; iterate 8 exact rfl)
    refine m_convB rfl
    first | (apply p_op; exact (vwant_n rfl); iterate 4 exact rfl) | (apply d_op; exact (vwant_n rfl); exact rfl; exact noRd rfl; decide +kernel; (iterate 3 exact rfl); rotate_left) | (apply p_op; exact (vwant_g rfl rfl rfl); iterate 4 exact rfl) | (apply d_op; exact (vwant_g rfl rfl rfl); exact rfl; exact noRd rfl; decide +kernel; (iterate 3 exact rfl); rotate_left)
    refine e_bs (C := [byV (UInt8.ofNat (xs.length * 8 / 2 ^ (56 - 8 * j)))]) rfl rfl (.cons rfl rfl .nil) rfl fun bm => ⟨_, rfl, ?_⟩
    try (case hok => first | exact rdOk_nil | exact rdOk_b (by decide +kernel))
    first | (apply p_op; exact (vwant_n rfl); iterate 4 exact rfl) | (apply d_op; exact (vwant_n rfl); exact rfl; exact noRd rfl; decide +kernel; (iterate 3 exact rfl); rotate_left) | (apply p_op; exact (vwant_g rfl rfl rfl); iterate 4 exact rfl) | (apply d_op; exact (vwant_g rfl rfl rfl); exact rfl; exact noRd rfl; decide +kernel; (iterate 3 exact rfl); rotate_left)
    refine e_appOb (old := (xs ++ [128] ++ List.replicate (zN xs.length) 0 ++ (sizeB xs.length).take j).map byV) (new := [byV (UInt8.ofNat (xs.length * 8 / 2 ^ (56 - 8 * j)))]) rfl rfl (by simp only [List.length_map, List.length_append, List.length_replicate, List.length_cons, List.length_nil, List.length_take, sizeB_len]; omega) (rz_loc (k := 1) rfl) rfl (by decide) u8_one (by omega) fun bg => ⟨_, rfl, ?_⟩
    try (case hok => first | exact rdOk_nil | exact rdOk_b (by decide +kernel))
    dsimp only [List.set]
    refine wo ?_
    first | (apply wm; iterate 5 exact rfl) | (apply dm; iterate 6 exact rfl) | (apply wmg; iterate 7 exact rfl) | (apply dmg; iterate 8 exact rfl)
    refine m_subI rfl rfl (by omega)
    rw [show ((56 - 8 * j : Nat) : Int) - 8 = 56 - ((8 * (j + 1) : Nat) : Int) by omega]
    refine wo ?_
    refine ⟨rfl, (j + 1, bg), g, by dsimp only; omega, ⟨rfl, rfl, rfl, trivial⟩, fun hp h => ?_⟩
    dsimp only
    rw [sizeB_succ _ g, ← List.append_assoc, List.map_append]
    exact h.pick [1] _ rfl (by decide)
  · obtain rfl : j = 8 := by omega
    first | (apply wm; iterate 5 exact rfl) | (apply dm; iterate 6 exact rfl) | (apply wmg; iterate 7 exact rfl) | (apply dmg; iterate 8 exact rfl)
    refine mv_int (v := .b false) rfl rfl (vi_geqF (by omega))
    refine wo ?_
    refine w_exit ?_
    refine wo ?_
    have e : xs ++ [128] ++ List.replicate (zN xs.length) 0 ++ (sizeB xs.length).take 8 = padB xs := by
      rw [List.take_of_length_le (by rw [sizeB_len]; exact Nat.le_refl 8)]
      rfl
    rw [e, ← padB_size]
    exact w_ret (wend_ret (vres1 (rv_tmp rfl)) ⟨[], _, rfl, _, rfl, b, rfl, rfl⟩)
theorem flat_at : ∀ (ws : List Nat) (i w : Nat), ws[i / 4]? = some w → (ws.flatMap wB)[i]? = some (UInt8.ofNat (w % 4294967296 / 2 ^ (24 - 8 * (i % 4))))
  | [], i, w, h => by simp at h
  | v :: r, 0, w, h => by simp at h; subst h; rfl
  | v :: r, 1, w, h => by simp at h; subst h; rfl
  | v :: r, 2, w, h => by simp at h; subst h; rfl
  | v :: r, 3, w, h => by simp at h; subst h; simp [List.flatMap_cons, wB]
  | v :: r, i + 4, w, h => by
    rw [show (i + 4) / 4 = i / 4 + 1 by omega, List.getElem?_cons_succ] at h
    rw [List.flatMap_cons, List.getElem?_append_right (by show 4 ≤ _; omega), show (i + 4) % 4 = i % 4 by omega]
    exact flat_at r i w h
/-- The sum's bytes, so many. -/
def smT (h : List UInt8) (i : Nat) : List V := (h.take i).map byV ++ List.replicate (32 - i) (byV 0)
theorem smT_len {h : List UInt8} (hh : h.length = 32) {i : Nat} (hi : i ≤ 32) : (smT h i).length = 32 := by
  simp only [smT, List.length_append, List.length_map, List.length_take, List.length_replicate]
  omega
theorem smT_set {h : List UInt8} {i : Nat} {y : UInt8} (hi : i < 32) (hy : h[i]? = some y) : (smT h i).set i (byV y) = smT h (i + 1) := by
  obtain ⟨h1, h2⟩ := List.getElem?_eq_some_iff.1 hy
  unfold smT
  have e : ((h.take i).map byV).length = i := by rw [List.length_map, List.length_take]; omega
  rw [List.set_append_right _ _ (by omega), e, Nat.sub_self, show 32 - i = (32 - (i + 1)) + 1 by omega, List.replicate_succ, List.set_cons_zero, List.take_succ_eq_append_getElem h1, h2, List.map_append, List.append_assoc]
  rfl
theorem smT_all {h : List UInt8} (hh : h.length = 32) : smT h 32 = h.map byV := by
  unfold smT
  rw [List.take_of_length_le (by omega), Nat.sub_self, List.replicate_zero, List.append_nil]
set_option maxHeartbeats 8000000 in
theorem rsum_d {A : Option (Nat × Nat)} {xs : List UInt8} {c : Nat} {op : Bool} {hp : Hp} (ho : OkH hp) (hk : RB ⟨hp, []⟩ (some (0, 0)) (kW.map wV)) (hA : RB ⟨hp, []⟩ A (xs.map byV)) (hl : xs.length ≤ 140737488355328) :
    Fn kxD 18 [.sl A xs.length c op] hp [] fun r _ => r = .v (.agg ((sumB xs).map byV)) := by
  have hz64 : zN xs.length < 64 := Nat.mod_lt _ (by decide)
  have hpl := padB_size xs
  have hp0 := padB_len xs
  refine fn_of_w (T := []) ho.sv (fun _ => rfl) (fn := Tryd.f18) (by kernel_rfl) rfl rfl ?_
  refine wo ?_
  first | (apply p_op; exact (vwant_n rfl); iterate 4 exact rfl) | (apply d_op; exact (vwant_n rfl); exact rfl; exact noRd rfl; decide +kernel; (iterate 3 exact rfl); rotate_left) | (apply p_op; exact (vwant_g rfl rfl rfl); iterate 4 exact rfl) | (apply d_op; exact (vwant_g rfl rfl rfl); exact rfl; exact noRd rfl; decide +kernel; (iterate 3 exact rfl); rotate_left)
  refine e_alloc rfl fun bo => ⟨_, rfl, ?_⟩
  try (case hok => first | exact rdOk_nil | exact rdOk_b (by decide +kernel))
  refine wo ?_
  first | (apply wn; iterate 5 exact rfl) | (apply dn; iterate 5 exact rfl) | (apply wg; iterate 7 exact rfl) | (apply dg; iterate 7 exact rfl)
  refine pv_buildA (C := firstW.map wV) rfl rfl (.cons rfl rfl rfl rfl (by decide) (.cons rfl rfl rfl rfl (by decide) (.cons rfl rfl rfl rfl (by decide) (.cons rfl rfl rfl rfl (by decide) (.cons rfl rfl rfl rfl (by decide) (.cons rfl rfl rfl rfl (by decide) (.cons rfl rfl rfl rfl (by decide) (.cons rfl rfl rfl rfl (by decide) .nil)))))))) rfl
  first | (apply p_op; exact (vwant_n rfl); iterate 4 exact rfl) | (apply d_op; exact (vwant_n rfl); exact rfl; exact noRd rfl; decide +kernel; (iterate 3 exact rfl); rotate_left) | (apply p_op; exact (vwant_g rfl rfl rfl); iterate 4 exact rfl) | (apply d_op; exact (vwant_g rfl rfl rfl); exact rfl; exact noRd rfl; decide +kernel; (iterate 3 exact rfl); rotate_left)
  refine e_alloc rfl fun bs => ⟨_, rfl, ?_⟩
  try (case hok => first | exact rdOk_nil | exact rdOk_b (by decide +kernel))
  first | (apply p_do; exact (vwant_n rfl); exact rfl; exact rfl) | (apply d_do; exact (vwant_n rfl); exact rfl; exact noRd rfl; decide +kernel; exact rfl; rotate_left) | (apply p_do; exact (vwant_g rfl rfl rfl); exact rfl; exact rfl) | (apply d_do; exact (vwant_g rfl rfl rfl); exact rfl; exact noRd rfl; decide +kernel; exact rfl; rotate_left)
  refine e_stn (C := List.replicate 8 (.i .u32 (.ofNat 0))) (C' := firstW.map wV) rfl rfl (by simp [firstW]) rfl (by decide) (overV_all rfl) ⟨_, rfl, ?_⟩
  try (case hok => first | exact rdOk_nil | exact rdOk_b (by decide +kernel))
  refine wo ?_
  first | (apply p_callY []; exact (vwant_n rfl); iterate 4 exact rfl) | (apply d_callY []; exact (vwant_n rfl); decide +kernel; (iterate 4 exact rfl)) | (apply p_callY []; exact (vwant_g rfl rfl rfl); iterate 4 exact rfl) | (apply d_callY []; exact (vwant_g rfl rfl rfl); decide +kernel; (iterate 4 exact rfl))
  try (case hok => first | exact rdOk_nil | exact rdOk_b (by decide +kernel) | exact rdOk_c)
  case hC => exact (fun hp hs ht => padded_d hs.ok (hA.give0 hs) hl)
  rintro u N ⟨bp, rfl, rfl⟩
  refine wo ?_
  refine w_seq ?_
  refine wo ?_
  refine w_loop (ι := Nat) (fun i => [(5, .i .i64 ((64 * i : Nat) : Int)), (4, .sl (some (bp, 0)) (padB xs).length (padB xs).length true), (3, .p (some (bs, 0))), (2, .p (some (bo, 0)))])
    (fun i => [(some bp, .cells ((padB xs).map byV) 5 (some 1) false), (some bs, cellsO ((absN (padB xs) i).map wV) 62), (some bo, cellsO (List.replicate 32 (byV 0)) 31)])
    (fun i => 64 * i ≤ (padB xs).length) (fun i => (padB xs).length - 64 * i) 0 (Nat.zero_le _) ⟨rfl, rfl, rfl, rfl, trivial⟩ (fun hp h => h) ?_
  intro i hi
  have hil := absN_len (padB xs) i
  refine wo ?_
  by_cases g : 64 * i < (padB xs).length
  · have hbl : (((padB xs).drop (64 * i)).take 64).length = 64 := by rw [List.length_take, List.length_drop]; omega
    have hbc : (((padB xs).map byV).drop (0 + 64 * i)).take ((((padB xs).drop (64 * i)).take 64).map byV).length = (((padB xs).drop (64 * i)).take 64).map byV := by
      rw [Nat.zero_add, List.length_map, hbl, ← List.map_drop, ← List.map_take]
    have hnl : ((absN (padB xs) (i + 1)).map wV).length = 8 := by rw [List.length_map, absN_len]
    first | (apply wm; iterate 5 exact rfl) | (apply dm; iterate 6 exact rfl) | (apply wmg; iterate 7 exact rfl) | (apply dmg; iterate 8 exact rfl)
    refine mv_int (v := .b true) rfl rfl (vi_lssT (by omega))
    refine wo ?_
    first | refine zX (m_ldln (s := 7) (cs := (absN (padB xs) i).map wV) rfl (by rw [List.drop_zero]; exact List.take_of_length_le (by rw [List.length_map, hil]; decide)) (by rw [List.length_map, hil])) ?_ | refine yX (m_ldln (s := 7) (cs := (absN (padB xs) i).map wV) rfl (by rw [List.drop_zero]; exact List.take_of_length_le (by rw [List.length_map, hil]; decide)) (by rw [List.length_map, hil])) ?_
    refine wo ?_
    first | refine zX (m_sloi rfl (bl_some rfl) (bl_some rfl) (Nat.le_add_right _ _) (by omega) g) ?_ | refine yX (m_sloi rfl (bl_some rfl) (bl_some rfl) (Nat.le_add_right _ _) (by omega) g) ?_
    rw [show 64 * i + 64 - 64 * i = 64 by omega]
    first | refine p_callq (vwant_n rfl) rfl rfl rfl rfl (fun hp hs => mixed_v bp (0 + 64 * i) _ true (absN (padB xs) i) (((padB xs).drop (64 * i)).take 64) hil hbl hs.ok (rb_own0 hs (i := 0) rfl hbc).1 (hk.give0 hs).1) ?_ | refine d_callq (vwant_n rfl) (by decide +kernel) rfl rfl rfl rfl (fun hp hs => mixed_v bp (0 + 64 * i) _ true (absN (padB xs) i) (((padB xs).drop (64 * i)).take 64) hil hbl hs.ok (rb_own0 hs (i := 0) rfl hbc).1 (hk.give0 hs).1) ?_ | refine d_callq0 (vwant_n rfl) (by decide +kernel) rfl rfl rfl rfl (fun hp hs => mixed_v bp (0 + 64 * i) _ true (absN (padB xs) i) (((padB xs).drop (64 * i)).take 64) hil hbl hs.ok (rb_own0 hs (i := 0) rfl hbc).1 (hk.give0 hs).1) ?_ | refine p_callq (vwant_g rfl rfl rfl) rfl rfl rfl rfl (fun hp hs => mixed_v bp (0 + 64 * i) _ true (absN (padB xs) i) (((padB xs).drop (64 * i)).take 64) hil hbl hs.ok (rb_own0 hs (i := 0) rfl hbc).1 (hk.give0 hs).1) ?_ | refine d_callq (vwant_g rfl rfl rfl) (by decide +kernel) rfl rfl rfl rfl (fun hp hs => mixed_v bp (0 + 64 * i) _ true (absN (padB xs) i) (((padB xs).drop (64 * i)).take 64) hil hbl hs.ok (rb_own0 hs (i := 0) rfl hbc).1 (hk.give0 hs).1) ?_ | refine d_callq0 (vwant_g rfl rfl rfl) (by decide +kernel) rfl rfl rfl rfl (fun hp hs => mixed_v bp (0 + 64 * i) _ true (absN (padB xs) i) (((padB xs).drop (64 * i)).take 64) hil hbl hs.ok (rb_own0 hs (i := 0) rfl hbc).1 (hk.give0 hs).1) ?_
    first | (apply p_do; exact (vwant_n rfl); exact rfl; exact rfl) | (apply d_do; exact (vwant_n rfl); exact rfl; exact noRd rfl; decide +kernel; exact rfl; rotate_left) | (apply p_do; exact (vwant_g rfl rfl rfl); exact rfl; exact rfl) | (apply d_do; exact (vwant_g rfl rfl rfl); exact rfl; exact noRd rfl; decide +kernel; exact rfl; rotate_left)
    refine e_stn (C := (absN (padB xs) i).map wV) (C' := (absN (padB xs) (i + 1)).map wV) rfl rfl (fun e => by have := hnl.symm.trans (congrArg List.length e); simp at this) hnl (by simp [hil]) (overV_all (hnl.trans (by rw [List.length_map, hil]))) ⟨_, rfl, ?_⟩
    try (case hok => first | exact rdOk_nil | exact rdOk_b (by decide +kernel))
    refine wo ?_
    exact ⟨rfl, i + 1, by show 64 * (i + 1) ≤ _; omega, by show _ - 64 * (i + 1) < _; omega, ⟨rfl, rfl, rfl, rfl, trivial⟩, fun hp h => h⟩
  first | (apply wm; iterate 5 exact rfl) | (apply dm; iterate 6 exact rfl) | (apply wmg; iterate 7 exact rfl) | (apply dmg; iterate 8 exact rfl)
  refine mv_int (v := .b false) rfl rfl (vi_lssF (by omega))
  refine wo ?_
  refine w_exit ?_
  obtain rfl : i = (padB xs).length / 64 := by omega
  have hsm : (absN (padB xs) ((padB xs).length / 64)).flatMap wB = sumB xs := rfl
  generalize absN (padB xs) ((padB xs).length / 64) = ws at hil hsm
  have hsl := sumB_len xs
  refine wo ?_
  first | (apply p_op; exact (vwant_n rfl); iterate 4 exact rfl) | (apply d_op; exact (vwant_n rfl); exact rfl; exact noRd rfl; decide +kernel; (iterate 3 exact rfl); rotate_left) | (apply p_op; exact (vwant_g rfl rfl rfl); iterate 4 exact rfl) | (apply d_op; exact (vwant_g rfl rfl rfl); exact rfl; exact noRd rfl; decide +kernel; (iterate 3 exact rfl); rotate_left)
  refine e_alloc rfl fun bh => ⟨_, rfl, ?_⟩
  try (case hok => first | exact rdOk_nil | exact rdOk_b (by decide +kernel))
  refine wo ?_
  refine w_seq ?_
  refine wo ?_
  refine w_loop (ι := Nat) (fun i => [(7, .i .i64 (i : Nat)), (6, .p (some (bh, 0))), (3, .p (some (bs, 0))), (2, .p (some (bo, 0)))])
    (fun i => [(some bh, cellsO (smT (sumB xs) i) 31), (some bs, cellsO (ws.map wV) 62), (some bo, cellsO (List.replicate 32 (byV 0)) 31)])
    (fun i => i ≤ 32) (fun i => 32 - i) 0 (Nat.zero_le _) ⟨rfl, rfl, rfl, rfl, trivial⟩ (fun hp h => h.pick [0, 2, 3] _ rfl (by decide)) ?_
  intro i hi
  have hml := smT_len hsl hi
  refine wo ?_
  by_cases g : i < 32
  · obtain ⟨w, hv⟩ : ∃ w, ws[i / 4]? = some w := ⟨ws[i / 4], List.getElem?_eq_getElem (by omega)⟩
    have hy : (sumB xs)[i]? = some (UInt8.ofNat (w % 4294967296 / 2 ^ (24 - 8 * (i % 4)))) := by rw [← hsm]; exact flat_at ws i w hv
    first | (apply wm; iterate 5 exact rfl) | (apply dm; iterate 6 exact rfl) | (apply wmg; iterate 7 exact rfl) | (apply dmg; iterate 8 exact rfl)
    refine mv_int (v := .b true) rfl rfl (vi_lssT (by omega))
    refine wo ?_
    first | (apply wm; iterate 5 exact rfl) | (apply dm; iterate 6 exact rfl) | (apply wmg; iterate 7 exact rfl) | (apply dmg; iterate 8 exact rfl)
    refine m_quoN rfl rfl (by decide) (by omega)
    first | (apply wn; iterate 5 exact rfl) | (apply dn; iterate 5 exact rfl) | (apply wg; iterate 7 exact rfl) | (apply dg; iterate 7 exact rfl)
    refine p_iaa rfl rfl (by omega)
    first | refine zX (m_ldl (v := .i .u32 ((w % 4294967296 : Nat) : Int)) rfl (by rw [Nat.zero_add, List.getElem?_map, hv]; rfl)) ?_ | refine yX (m_ldl (v := .i .u32 ((w % 4294967296 : Nat) : Int)) rfl (by rw [Nat.zero_add, List.getElem?_map, hv]; rfl)) ?_
    refine wo ?_
    first | (apply wm; iterate 5 exact rfl) | (apply dm; iterate 6 exact rfl) | (apply wmg; iterate 7 exact rfl) | (apply dmg; iterate 8 exact rfl)
    refine m_remN rfl rfl (by decide)
    refine wo ?_
    first | (apply wm; iterate 5 exact rfl) | (apply dm; iterate 6 exact rfl) | (apply wmg; iterate 7 exact rfl) | (apply dmg; iterate 8 exact rfl)
    refine m_shrN rfl rfl (by simp [IntKind.bits]; omega)
    first | (apply wm; iterate 5 exact rfl) | (apply dm; iterate 6 exact rfl) | (apply wmg; iterate 7 exact rfl) | (apply dmg; iterate 8 exact rfl)
    refine m_convB rfl
    first | (apply wn; iterate 5 exact rfl) | (apply dn; iterate 5 exact rfl) | (apply wg; iterate 7 exact rfl) | (apply dg; iterate 7 exact rfl)
    refine p_iaa rfl rfl (by omega)
    first | (apply p_do; exact (vwant_n rfl); exact rfl; exact rfl) | (apply d_do; exact (vwant_n rfl); exact rfl; exact noRd rfl; decide +kernel; exact rfl; rotate_left) | (apply p_do; exact (vwant_g rfl rfl rfl); exact rfl; exact rfl) | (apply d_do; exact (vwant_g rfl rfl rfl); exact rfl; exact noRd rfl; decide +kernel; exact rfl; rotate_left)
    refine e_st (C := smT (sumB xs) i) (C' := smT (sumB xs) (i + 1)) rfl rfl rfl (by rw [hml]; omega) (by rw [Nat.zero_add]; exact smT_set g hy) ⟨_, rfl, ?_⟩
    try (case hok => first | exact rdOk_nil | exact rdOk_b (by decide +kernel))
    refine wo ?_
    exact ⟨rfl, i + 1, g, by omega, ⟨rfl, rfl, rfl, rfl, trivial⟩, fun hp h => h⟩
  first | (apply wm; iterate 5 exact rfl) | (apply dm; iterate 6 exact rfl) | (apply wmg; iterate 7 exact rfl) | (apply dmg; iterate 8 exact rfl)
  refine mv_int (v := .b false) rfl rfl (vi_lssF (by omega))
  refine wo ?_
  refine w_exit ?_
  obtain rfl : i = 32 := by omega
  rw [smT_all hsl]
  have hcl : ((sumB xs).map byV).length = 32 := by rw [List.length_map, hsl]
  refine wo ?_
  first | refine zX (m_ldln (s := 31) (cs := (sumB xs).map byV) rfl (by rw [List.drop_zero]; exact List.take_of_length_le (by omega)) hcl) ?_ | refine yX (m_ldln (s := 31) (cs := (sumB xs).map byV) rfl (by rw [List.drop_zero]; exact List.take_of_length_le (by omega)) hcl) ?_
  first | (apply p_do; exact (vwant_n rfl); exact rfl; exact rfl) | (apply d_do; exact (vwant_n rfl); exact rfl; exact noRd rfl; decide +kernel; exact rfl; rotate_left) | (apply p_do; exact (vwant_g rfl rfl rfl); exact rfl; exact rfl) | (apply d_do; exact (vwant_g rfl rfl rfl); exact rfl; exact noRd rfl; decide +kernel; exact rfl; rotate_left)
  refine e_stn (C' := (sumB xs).map byV) rfl rfl (fun e => by rw [e] at hcl; simp at hcl) hcl (by simp) (overV_all (by rw [hcl]; simp)) ⟨_, rfl, ?_⟩
  try (case hok => first | exact rdOk_nil | exact rdOk_b (by decide +kernel))
  refine wo ?_
  exact w_ret (wend_ret (vres1 (rv_cell rfl hcl)) rfl)
end Go.Proofs.YtlpcelcaahfafaaDoor
/- Ds17: what the document fixes of hashes; how many hashes a book knows; the closed part of the statements. By this project. -/
set_option maxRecDepth 100000
namespace Go.Proofs.YtlpcelcaahfafaaDoor
open Go.RowKit Go.Extern.Stop

theorem abc_blk : blkF8 firstW [97, 98, 99, 128, 0, 0, 0, 0, 0, 0, 0, 0, 0, 0, 0, 0, 0, 0, 0, 0, 0, 0, 0, 0, 0, 0, 0, 0, 0, 0, 0, 0, 0, 0, 0, 0, 0, 0, 0, 0, 0, 0, 0, 0, 0, 0, 0, 0, 0, 0, 0, 0, 0, 0, 0, 0, 0, 0, 0, 0, 0, 0, 0, 24] = [3128432319, 2399260650, 1094795486, 1571693091, 2953011619, 2518121116, 3021012833, 4060091821] := by kernel_rfl
theorem sum_abc : sumB [97, 98, 99] = [186, 120, 22, 191, 143, 1, 207, 234, 65, 65, 64, 222, 93, 174, 34, 35, 176, 3, 97, 163, 150, 23, 122, 156, 180, 16, 255, 97, 242, 0, 21, 173] := by
  have e1 : padB [97, 98, 99] = [97, 98, 99, 128, 0, 0, 0, 0, 0, 0, 0, 0, 0, 0, 0, 0, 0, 0, 0, 0, 0, 0, 0, 0, 0, 0, 0, 0, 0, 0, 0, 0, 0, 0, 0, 0, 0, 0, 0, 0, 0, 0, 0, 0, 0, 0, 0, 0, 0, 0, 0, 0, 0, 0, 0, 0, 0, 0, 0, 0, 0, 0, 0, 24] := by decide +kernel
  unfold sumB
  rw [e1]
  have e2 : absN [97, 98, 99, 128, 0, 0, 0, 0, 0, 0, 0, 0, 0, 0, 0, 0, 0, 0, 0, 0, 0, 0, 0, 0, 0, 0, 0, 0, 0, 0, 0, 0, 0, 0, 0, 0, 0, 0, 0, 0, 0, 0, 0, 0, 0, 0, 0, 0, 0, 0, 0, 0, 0, 0, 0, 0, 0, 0, 0, 0, 0, 0, 0, 24] 1 = [3128432319, 2399260650, 1094795486, 1571693091, 2953011619, 2518121116, 3021012833, 4060091821] := by
    show blk firstW [97, 98, 99, 128, 0, 0, 0, 0, 0, 0, 0, 0, 0, 0, 0, 0, 0, 0, 0, 0, 0, 0, 0, 0, 0, 0, 0, 0, 0, 0, 0, 0, 0, 0, 0, 0, 0, 0, 0, 0, 0, 0, 0, 0, 0, 0, 0, 0, 0, 0, 0, 0, 0, 0, 0, 0, 0, 0, 0, 0, 0, 0, 0, 24] = _
    rw [← abc_blk]
    exact (blkF8_eq _ _ (byteN_map _) rfl).symm
  show (absN _ 1).flatMap wB = _
  rw [e2]
  decide +kernel
theorem cutB_at {bits i : Nat} {h : List UInt8} {y : UInt8} (hy : h[i]? = some y) : (cutB bits h)[i]? = some (cutY bits i y) := by
  rw [cutB, List.getElem?_mapIdx, hy]
  rfl
/-! ### How many hashes -/
theorem nt_one {hf : List UInt8 → List UInt8} {n : Nt} {s : List UInt8} (h : NtOk hf n) (ha : n.all = [s]) : n.gs.length = 1 := by
  have hsub : ∀ x ∈ n.gs.map (·.h), x = hf s := fun x hx => by
    obtain ⟨g, hg, rfl⟩ := List.mem_map.1 hx
    obtain ⟨h1, h2⟩ := h.gn g hg
    rw [ha] at h1
    by_cases c : (hf s == g.h) = true
    · exact (beq_iff_eq.1 c).symm
    · rw [List.filter_cons_of_neg (by simpa using c)] at h1
      exact absurd h1 h2
  have hm : hf s ∈ n.gs.map (·.h) := h.gm s (by rw [ha]; simp)
  have hnd := h.gd
  have hlen : (n.gs.map (·.h)).length = 1 := by
    cases hq : n.gs.map (·.h) with
    | nil => rw [hq] at hm; simp at hm
    | cons a r =>
      rw [hq] at hsub hnd
      cases r with
      | nil => rfl
      | cons b r =>
        have e1 := hsub a (by simp)
        have e2 := hsub b (by simp)
        rw [e1, e2] at hnd
        simp at hnd
  simpa using hlen
theorem nt_none {hf : List UInt8 → List UInt8} {n : Nt} (h : NtOk hf n) (ha : n.all = []) : n.gs.length = 0 := by
  rw [List.length_eq_zero_iff]
  cases hq : n.gs with
  | nil => rfl
  | cons g r =>
    obtain ⟨h1, h2⟩ := h.gn g (by rw [hq]; simp)
    rw [ha] at h1
    exact absurd h1 h2
theorem addS_mem (l : List (List UInt8)) (x : List UInt8) : x ∈ addS l x := by
  unfold addS
  split
  · assumption
  · simp
theorem addS_len (l : List (List UInt8)) (x : List UInt8) : (addS l x).length ≤ l.length + 1 := by
  unfold addS
  split
  · omega
  · simp
theorem addS_nil (s : List UInt8) : addS [] s = [s] := by simp [addS]
theorem addS_one (s : List UInt8) : addS [s] s = [s] := by simp [addS]
theorem new_n {A : Option (Nat × Nat)} {xs : List UInt8} {bits cb c n : Nat} {op : Bool} {hp : Hp} (hn : xs.length = n) (ho : OkH hp) (hA : RB ⟨hp, []⟩ A (xs.map byV)) (hx : xs.length = 32) (b1 : 8 ≤ bits) (b2 : bits ≤ 256) (c1 : 8 ≤ cb) (c2 : cb ≤ 256) :
    Fn kxD 5 [.i .i64 (bits : Int), .i .i64 (cb : Int), .sl A n c op] hp [] fun r N => ∃ u, r = .v u ∧ ∃ b z ha hs ca cs fg, u = .tup [.p (some (b, 0)), .i .i64 0] ∧ N = bkL ⟨b, z, bits, cb, xs, ⟨ha, hs, [], []⟩, ⟨ca, cs, [], []⟩, fg, []⟩ := by
  subst hn
  exact new_d ho hA hx b1 b2 c1 c2
/-! ### The calls, by what a book holds -/
/-- A book: where it lies, its bits, its secret, what it has hashed, what it has coded, what was forged. -/
structure BkSt (B : Bk) (b bits cb : Nat) (sec : List UInt8) (ha ca : List (List UInt8)) (fs : List (List UInt8 × List UInt8)) : Prop where
  ok : BkOk B
  b : B.b = b
  bits : B.bits = bits
  cb : B.cb = cb
  sec : B.sec = sec
  ha : B.hd.all = ha
  ca : B.cd.all = ca
  fs : B.fs = fs
theorem new_s {A : Option (Nat × Nat)} {xs : List UInt8} {bits cb c n : Nat} {op : Bool} {hp : Hp} (hn : xs.length = n) (ho : OkH hp) (hA : RB ⟨hp, []⟩ A (xs.map byV)) (hx : xs.length = 32) (b1 : 8 ≤ bits) (b2 : bits ≤ 256) (c1 : 8 ≤ cb) (c2 : cb ≤ 256) :
    Fn kxD 5 [.i .i64 (bits : Int), .i .i64 (cb : Int), .sl A n c op] hp [] fun r N => ∃ u, r = .v u ∧ ∃ b B, u = .tup [.p (some (b, 0)), .i .i64 0] ∧ BkSt B b bits cb xs [] [] [] ∧ N = bkL B :=
  (new_n hn ho hA hx b1 b2 c1 c2).mono fun r N ⟨u, h1, b, z, ha, hs, ca, cs, fg, h2, h3⟩ => ⟨u, h1, b, _, h2, ⟨new_ok hx b2 c2, rfl, rfl, rfl, rfl, rfl, rfl, rfl⟩, h3⟩
variable {B : Bk} {b bits cb : Nat} {sec : List UInt8} {ha ca : List (List UInt8)} {fs : List (List UInt8 × List UInt8)}
theorem hash_gs {A : Option (Nat × Nat)} {xs : List UInt8} {c : Nat} {op : Bool} {hp : Hp} (hB : BkSt B b bits cb sec ha ca fs) (h0 : SV ⟨hp, hnds (bkL B)⟩ hp (bkL B)) (hk : Tab ⟨hp, hnds (bkL B)⟩) (hA : RB ⟨hp, hnds (bkL B)⟩ A (xs.map byV)) (hc : CapOk xs.length c op) (hx : xs.length < 72057594037927936) (hl : ha.length < 100000000) :
    Fn kxD 15 [.p (some (b, 0)), .sl A xs.length c op] hp (hnds (bkL B)) fun r N => ∃ u, r = .v u ∧ (u = hK (cutB bits (sumB xs)) ∧ ∃ B', BkSt B' b bits cb sec (addS ha xs) ca fs ∧ N = bkL B') := by
  obtain ⟨ok, rfl, rfl, rfl, rfl, rfl, rfl, rfl⟩ := hB
  exact (hash_g h0 ok hk hA hc hx hl).mono fun r N ⟨u, h1, h2, hd', h3, h4, h5⟩ => ⟨u, h1, h2, _, ⟨h3, rfl, rfl, rfl, rfl, h4, rfl, rfl⟩, h5⟩
theorem hash_s {A : Option (Nat × Nat)} {xs : List UInt8} {c : Nat} {hp : Hp} (hB : BkSt B b bits cb sec ha ca fs) (h0 : SV ⟨hp, hnds (bkL B)⟩ hp (bkL B)) (hk : Tab ⟨hp, hnds (bkL B)⟩) (hA : RB ⟨hp, hnds (bkL B)⟩ A (xs.map byV)) (hc : xs.length ≤ c) (hx : xs.length < 72057594037927936) (hl : ha.length < 100000000) :
    Fn kxD 15 [.p (some (b, 0)), .sl A xs.length c false] hp (hnds (bkL B)) fun r N => ∃ u, r = .v u ∧ (u = hK (cutB bits (sumB xs)) ∧ ∃ B', BkSt B' b bits cb sec (addS ha xs) ca fs ∧ N = bkL B') :=
  hash_gs hB h0 hk hA (capOk_f hc) hx hl
theorem bkSt_sound {x y : List UInt8} (hB : BkSt B b bits cb sec ha ca fs) (h1 : ha = [] ∨ ∃ x, ha = [x]) (h2 : ca = [] ∨ ∃ x, ca = [x]) : bkSound B = decide (fs.length = 0) := by
  have e1 : B.hd.all.length = B.hd.gs.length := by
    rcases h1 with h | ⟨x, h⟩
    · rw [nt_none hB.ok.hd (hB.ha.trans h), hB.ha.trans h]; rfl
    · rw [nt_one hB.ok.hd (hB.ha.trans h), hB.ha.trans h]; rfl
  have e2 : B.cd.all.length = B.cd.gs.length := by
    rcases h2 with h | ⟨x, h⟩
    · rw [nt_none hB.ok.cd (hB.ca.trans h), hB.ca.trans h]; rfl
    · rw [nt_one hB.ok.cd (hB.ca.trans h), hB.ca.trans h]; rfl
  rw [bkSound, decide_eq_true e1, decide_eq_true e2, hB.fs]
  rfl
end Go.Proofs.YtlpcelcaahfafaaDoor
/- Dn2: hashes and refs, as the document tells them and as the program does: Hash of cairnref04, Refer and SameRef of cairnref07, Refer of node; the statements' Roomy, AsWas. By this project. -/
set_option maxRecDepth 100000
namespace Go.Proofs.YtlpcelcaahfafaaDoor
open Go.RowKit Go.Extern.Stop

section
variable {K : Kx} {hp0 : Bs} {l : VL} {L : HV} {a b : Operand} {t t' : TypeId}
theorem m_mulB {x y : UInt8} (hx : evL l a = some (byV x)) (hy : evL l b = some (byV y)) : MVO K hp0 l L (.binOp .mul t a b t') (byV (UInt8.ofNat (x.toNat * y.toNat))) :=
  mv_int hx hy (by
    show some (V.i .u8 (IntKind.u8.wrap (Int.ofNat x.toNat * Int.ofNat y.toNat))) = _
    have e : Int.ofNat x.toNat * Int.ofNat y.toNat = ((x.toNat * y.toNat : Nat) : Int) := by simp
    rw [e, wrapU8, ← byV_ofNat])
theorem m_subB {x y : UInt8} (hx : evL l a = some (byV x)) (hy : evL l b = some (byV y)) (h : y.toNat ≤ x.toNat) : MVO K hp0 l L (.binOp .sub t a b t') (byV (UInt8.ofNat (x.toNat - y.toNat))) :=
  mv_int hx hy (by
    show some (V.i .u8 (IntKind.u8.wrap (Int.ofNat x.toNat - Int.ofNat y.toNat))) = _
    have e : Int.ofNat x.toNat - Int.ofNat y.toNat = ((x.toNat - y.toNat : Nat) : Int) := by simp; omega
    rw [e, wrapU8, ← byV_ofNat])
theorem m_addI {p q : Int} (hx : evL l a = some (.i .i64 p)) (hy : evL l b = some (.i .i64 q)) (h1 : -9223372036854775808 ≤ p + q ∧ p + q < 9223372036854775808) : MVO K hp0 l L (.binOp .add t a b t') (.i .i64 (p + q)) :=
  mv_int hx hy (by show some (V.i .i64 (IntKind.i64.wrap (p + q))) = _; rw [IntWalk.i64_in _ (by omega)])
end
theorem mask_rem : ∀ m, m < 8 → ∀ y, y < 256 → (UInt8.ofNat y &&& UInt8.ofNat (255 * 2 ^ (8 - m))) = UInt8.ofNat (y - y % 2 ^ (8 - m)) := by decide +kernel
theorem pow_next : ∀ j, j < 8 → UInt8.ofNat ((UInt8.ofNat (2 ^ j)).toNat * (2 : UInt8).toNat) = UInt8.ofNat (2 ^ (j + 1)) := by decide +kernel
theorem pow_val : ∀ j, j < 8 → (UInt8.ofNat (2 ^ j)).toNat = 2 ^ j := by decide +kernel
theorem cutY_full {bits i : Nat} {y : UInt8} (h : 8 * i + 8 ≤ bits) : cutY bits i y = y := by
  unfold cutY
  rw [if_neg (by omega)]
theorem cutY_mid {bits i : Nat} {y : UInt8} (h1 : 8 * i < bits) (h2 : bits < 8 * i + 8) : cutY bits i y = UInt8.ofNat (y.toNat - y.toNat % 2 ^ (8 - (bits - 8 * i))) := by
  unfold cutY
  rw [if_pos (by omega), show min 8 (bits - 8 * i) = bits - 8 * i by omega, ← mask_rem _ (by omega) _ y.toNat_lt, UInt8.ofNat_toNat]
theorem cutY_none {bits i : Nat} {y : UInt8} (h : bits ≤ 8 * i) : cutY bits i y = 0 := by
  unfold cutY
  rw [if_pos (by omega), show min 8 (bits - 8 * i) = 0 by omega, show UInt8.ofNat (255 * 2 ^ (8 - 0)) = 0 by decide, UInt8.and_zero]
theorem smT_same {h : List UInt8} {i : Nat} (hi : i < 32) (hy : h[i]? = some 0) : smT h i = smT h (i + 1) := by
  rw [← smT_set hi hy]
  have e : ((h.take i).map byV).length = i := by
    have := (List.getElem?_eq_some_iff.1 hy).1
    rw [List.length_map, List.length_take]; omega
  have h2 : (smT h i)[i]? = some (byV 0) := by
    unfold smT
    rw [List.getElem?_append_right (by omega), e, Nat.sub_self, List.getElem?_replicate, if_pos (by omega)]
  obtain ⟨h3, h4⟩ := List.getElem?_eq_some_iff.1 h2
  conv => lhs; rw [← List.set_getElem_self h3, h4]
set_option maxHeartbeats 8000000 in
theorem rcut_d {h : List UInt8} {bits : Nat} (hh : h.length = 32) (hb : bits ≤ 256) {hp : Hp} (ho : OkH hp) :
    Fn kxD 19 [.i .i64 (bits : Int), .agg (h.map byV)] hp [] fun r _ => r = .v (.agg ((cutB bits h).map byV)) := by
  have hne : ∀ {l : List UInt8}, l.length = 32 → l.map byV ≠ [] := fun {l} hl e => by have := congrArg List.length e; rw [List.length_map, hl] at this; simp at this
  have hch : (cutB bits h).length = 32 := by rw [cutB_len, hh]
  refine fn_of_w (T := []) ho.sv (fun _ => rfl) (fn := Tryd.f19) (by kernel_rfl) rfl rfl ?_
  refine wo ?_
  first | (apply p_op; exact (vwant_n rfl); iterate 4 exact rfl) | (apply d_op; exact (vwant_n rfl); exact rfl; exact noRd rfl; decide +kernel; (iterate 3 exact rfl); rotate_left) | (apply p_op; exact (vwant_g rfl rfl rfl); iterate 4 exact rfl) | (apply d_op; exact (vwant_g rfl rfl rfl); exact rfl; exact noRd rfl; decide +kernel; (iterate 3 exact rfl); rotate_left)
  refine ev_box rfl rfl fun bh => ⟨_, rfl, ?_⟩
  try (case hok => first | exact rdOk_nil | exact rdOk_b (by decide +kernel))
  first | (apply p_op; exact (vwant_n rfl); iterate 4 exact rfl) | (apply d_op; exact (vwant_n rfl); exact rfl; exact noRd rfl; decide +kernel; (iterate 3 exact rfl); rotate_left) | (apply p_op; exact (vwant_g rfl rfl rfl); iterate 4 exact rfl) | (apply d_op; exact (vwant_g rfl rfl rfl); exact rfl; exact noRd rfl; decide +kernel; (iterate 3 exact rfl); rotate_left)
  refine e_alloc rfl fun br => ⟨_, rfl, ?_⟩
  try (case hok => first | exact rdOk_nil | exact rdOk_b (by decide +kernel))
  refine wo ?_
  first | (apply p_op; exact (vwant_n rfl); iterate 4 exact rfl) | (apply d_op; exact (vwant_n rfl); exact rfl; exact noRd rfl; decide +kernel; (iterate 3 exact rfl); rotate_left) | (apply p_op; exact (vwant_g rfl rfl rfl); iterate 4 exact rfl) | (apply d_op; exact (vwant_g rfl rfl rfl); exact rfl; exact noRd rfl; decide +kernel; (iterate 3 exact rfl); rotate_left)
  refine e_alloc rfl fun bo => ⟨_, rfl, ?_⟩
  try (case hok => first | exact rdOk_nil | exact rdOk_b (by decide +kernel))
  refine wo ?_
  refine w_seq ?_
  refine wo ?_
  refine w_loop (ι := Nat) (fun i => [(6, .i .i64 (i : Nat)), (5, .p (some (bo, 0))), (4, .p (some (br, 0))), (3, .p (some (bh, 0))), (0, .i .i64 (bits : Int))])
    (fun i => [(some bo, cellsO (smT (cutB bits h) i) 31), (some br, cellsO (List.replicate 32 (byV 0)) 31), (some bh, cellsO (h.map byV) 31)])
    (fun i => i ≤ 32) (fun i => 32 - i) 0 (Nat.zero_le _) ⟨rfl, rfl, rfl, rfl, rfl, trivial⟩ (fun hp h => h) ?_
  intro i hi
  have hml := smT_len hch hi
  refine wo ?_
  by_cases g : i < 32
  rotate_left
  · first | (apply wm; iterate 5 exact rfl) | (apply dm; iterate 6 exact rfl) | (apply wmg; iterate 7 exact rfl) | (apply dmg; iterate 8 exact rfl)
    refine mv_int (v := .b false) rfl rfl (vi_lssF (by omega))
    refine wo ?_
    refine w_exit ?_
    obtain rfl : i = 32 := by omega
    rw [smT_all hch]
    have hcl : ((cutB bits h).map byV).length = 32 := by rw [List.length_map, hch]
    refine wo ?_
    first | refine zX (m_ldln (s := 31) (cs := (cutB bits h).map byV) rfl (by rw [List.drop_zero]; exact List.take_of_length_le (by omega)) hcl) ?_ | refine yX (m_ldln (s := 31) (cs := (cutB bits h).map byV) rfl (by rw [List.drop_zero]; exact List.take_of_length_le (by omega)) hcl) ?_
    first | (apply p_do; exact (vwant_n rfl); exact rfl; exact rfl) | (apply d_do; exact (vwant_n rfl); exact rfl; exact noRd rfl; decide +kernel; exact rfl; rotate_left) | (apply p_do; exact (vwant_g rfl rfl rfl); exact rfl; exact rfl) | (apply d_do; exact (vwant_g rfl rfl rfl); exact rfl; exact noRd rfl; decide +kernel; exact rfl; rotate_left)
    refine e_stn (C' := (cutB bits h).map byV) rfl rfl (hne hch) hcl (by simp) (overV_all (by rw [hcl]; simp)) ⟨_, rfl, ?_⟩
    try (case hok => first | exact rdOk_nil | exact rdOk_b (by decide +kernel))
    refine wo ?_
    exact w_ret (wend_ret (vres1 (rv_cell rfl hcl)) rfl)
  obtain ⟨y, hy⟩ : ∃ y, h[i]? = some y := ⟨h[i], List.getElem?_eq_getElem (by omega)⟩
  have hcy := cutB_at (bits := bits) hy
  have hld : (h.map byV)[0 + i]? = some (byV y) := by rw [Nat.zero_add, List.getElem?_map, hy]; rfl
  first | (apply wm; iterate 5 exact rfl) | (apply dm; iterate 6 exact rfl) | (apply wmg; iterate 7 exact rfl) | (apply dmg; iterate 8 exact rfl)
  refine mv_int (v := .b true) rfl rfl (vi_lssT (by omega))
  refine wo ?_
  refine w_seq ?_
  refine wo ?_
  first | (apply wm; iterate 5 exact rfl) | (apply dm; iterate 6 exact rfl) | (apply wmg; iterate 7 exact rfl) | (apply dmg; iterate 8 exact rfl)
  refine m_subI rfl rfl (by omega)
  refine wo ?_
  by_cases c1 : 8 * i + 8 ≤ bits
  · rw [cutY_full c1] at hcy
    first | (apply wm; iterate 5 exact rfl) | (apply dm; iterate 6 exact rfl) | (apply wmg; iterate 7 exact rfl) | (apply dmg; iterate 8 exact rfl)
    refine mv_int (v := .b true) rfl rfl (vi_geqT (by omega))
    refine wo ?_
    first | (apply wn; iterate 5 exact rfl) | (apply dn; iterate 5 exact rfl) | (apply wg; iterate 7 exact rfl) | (apply dg; iterate 7 exact rfl)
    refine p_iaa rfl rfl g
    first | refine zX (m_ldl rfl hld) ?_ | refine yX (m_ldl rfl hld) ?_
    first | (apply wn; iterate 5 exact rfl) | (apply dn; iterate 5 exact rfl) | (apply wg; iterate 7 exact rfl) | (apply dg; iterate 7 exact rfl)
    refine p_iaa rfl rfl g
    first | (apply p_do; exact (vwant_n rfl); exact rfl; exact rfl) | (apply d_do; exact (vwant_n rfl); exact rfl; exact noRd rfl; decide +kernel; exact rfl; rotate_left) | (apply p_do; exact (vwant_g rfl rfl rfl); exact rfl; exact rfl) | (apply d_do; exact (vwant_g rfl rfl rfl); exact rfl; exact noRd rfl; decide +kernel; exact rfl; rotate_left)
    refine e_st (C := smT (cutB bits h) i) (C' := smT (cutB bits h) (i + 1)) rfl rfl rfl (by rw [hml]; omega) (by rw [Nat.zero_add]; exact smT_set g hcy) ⟨_, rfl, ?_⟩
    try (case hok => first | exact rdOk_nil | exact rdOk_b (by decide +kernel))
    refine wo ?_
    exact ⟨rfl, i + 1, g, by omega, ⟨rfl, rfl, rfl, rfl, rfl, trivial⟩, fun hp h' => h'⟩
  first | (apply wm; iterate 5 exact rfl) | (apply dm; iterate 6 exact rfl) | (apply wmg; iterate 7 exact rfl) | (apply dmg; iterate 8 exact rfl)
  refine mv_int (v := .b false) rfl rfl (vi_geqF (by omega))
  refine wo ?_
  by_cases c2 : 8 * i < bits
  rotate_left
  · rw [cutY_none (by omega)] at hcy
    first | (apply wm; iterate 5 exact rfl) | (apply dm; iterate 6 exact rfl) | (apply wmg; iterate 7 exact rfl) | (apply dmg; iterate 8 exact rfl)
    refine mv_int (v := .b false) rfl rfl (vi_gtrF (by omega))
    refine wo ?_
    exact ⟨rfl, i + 1, g, by omega, ⟨rfl, rfl, rfl, rfl, rfl, trivial⟩, fun hp h' => by rw [← smT_same g hcy]; exact h'⟩
  rw [show (bits : Int) - ((8 * i : Nat) : Int) = ((bits - 8 * i : Nat) : Int) by omega]
  first | (apply wm; iterate 5 exact rfl) | (apply dm; iterate 6 exact rfl) | (apply wmg; iterate 7 exact rfl) | (apply dmg; iterate 8 exact rfl)
  refine mv_int (v := .b true) rfl rfl (vi_gtrT (by omega))
  refine wo ?_
  refine w_seq ?_
  refine wo ?_
  refine w_loop (ι := Nat) (fun j => [(9, .i .i64 ((bits - 8 * i + j : Nat) : Int)), (8, byV (UInt8.ofNat (2 ^ j))), (6, .i .i64 (i : Nat)), (5, .p (some (bo, 0))), (4, .p (some (br, 0))), (3, .p (some (bh, 0))), (0, .i .i64 (bits : Int))])
    (fun _ => _) (fun j => j ≤ 8 - (bits - 8 * i)) (fun j => 8 - (bits - 8 * i) - j) 0 (Nat.zero_le _) ⟨rfl, rfl, rfl, rfl, rfl, rfl, rfl, trivial⟩ (fun hp h => h) ?_
  intro j hj
  refine wo ?_
  by_cases g2 : j < 8 - (bits - 8 * i)
  · first | (apply wm; iterate 5 exact rfl) | (apply dm; iterate 6 exact rfl) | (apply wmg; iterate 7 exact rfl) | (apply dmg; iterate 8 exact rfl)
    refine mv_int (v := .b true) rfl rfl (vi_lssT (by omega))
    refine wo ?_
    first | (apply wm; iterate 5 exact rfl) | (apply dm; iterate 6 exact rfl) | (apply wmg; iterate 7 exact rfl) | (apply dmg; iterate 8 exact rfl)
    refine m_mulB (y := 2) rfl rfl
    rw [pow_next j (by omega)]
    refine wo ?_
    exact ⟨rfl, j + 1, g2, by omega, ⟨rfl, rfl, rfl, rfl, rfl, rfl, rfl, trivial⟩, fun hp h => h⟩
  obtain rfl : j = 8 - (bits - 8 * i) := by omega
  have hpv := pow_val (8 - (bits - 8 * i)) (by omega)
  have hle : (UInt8.ofNat (y.toNat % (UInt8.ofNat (2 ^ (8 - (bits - 8 * i)))).toNat)).toNat = y.toNat % 2 ^ (8 - (bits - 8 * i)) := by
    rw [hpv, UInt8.toNat_ofNat', Nat.mod_eq_of_lt]
    exact Nat.lt_of_le_of_lt (Nat.mod_le _ _) y.toNat_lt
  rw [cutY_mid c2 (by omega), ← hle] at hcy
  first | (apply wm; iterate 5 exact rfl) | (apply dm; iterate 6 exact rfl) | (apply wmg; iterate 7 exact rfl) | (apply dmg; iterate 8 exact rfl)
  refine mv_int (v := .b false) rfl rfl (vi_lssF (by omega))
  refine wo ?_
  refine w_exit ?_
  refine wo ?_
  first | (apply wn; iterate 5 exact rfl) | (apply dn; iterate 5 exact rfl) | (apply wg; iterate 7 exact rfl) | (apply dg; iterate 7 exact rfl)
  refine p_iaa rfl rfl g
  first | refine zX (m_ldl rfl hld) ?_ | refine yX (m_ldl rfl hld) ?_
  refine wo ?_
  first | (apply wn; iterate 5 exact rfl) | (apply dn; iterate 5 exact rfl) | (apply wg; iterate 7 exact rfl) | (apply dg; iterate 7 exact rfl)
  refine p_iaa rfl rfl g
  first | refine zX (m_ldl rfl hld) ?_ | refine yX (m_ldl rfl hld) ?_
  refine wo ?_
  first | (apply wm; iterate 5 exact rfl) | (apply dm; iterate 6 exact rfl) | (apply wmg; iterate 7 exact rfl) | (apply dmg; iterate 8 exact rfl)
  refine m_remB rfl rfl (by rw [hpv]; exact Nat.pos_iff_ne_zero.1 (Nat.two_pow_pos _))
  first | (apply wm; iterate 5 exact rfl) | (apply dm; iterate 6 exact rfl) | (apply wmg; iterate 7 exact rfl) | (apply dmg; iterate 8 exact rfl)
  refine m_subB rfl rfl (by rw [hle]; exact Nat.mod_le _ _)
  first | (apply wn; iterate 5 exact rfl) | (apply dn; iterate 5 exact rfl) | (apply wg; iterate 7 exact rfl) | (apply dg; iterate 7 exact rfl)
  refine p_iaa rfl rfl g
  first | (apply p_do; exact (vwant_n rfl); exact rfl; exact rfl) | (apply d_do; exact (vwant_n rfl); exact rfl; exact noRd rfl; decide +kernel; exact rfl; rotate_left) | (apply p_do; exact (vwant_g rfl rfl rfl); exact rfl; exact rfl) | (apply d_do; exact (vwant_g rfl rfl rfl); exact rfl; exact noRd rfl; decide +kernel; exact rfl; rotate_left)
  refine e_st (C := smT (cutB bits h) i) (C' := smT (cutB bits h) (i + 1)) rfl rfl rfl (by rw [hml]; omega) (by rw [Nat.zero_add]; exact smT_set g hcy) ⟨_, rfl, ?_⟩
  try (case hok => first | exact rdOk_nil | exact rdOk_b (by decide +kernel))
  refine wo ?_
  exact ⟨rfl, i + 1, g, by omega, ⟨rfl, rfl, rfl, rfl, rfl, trivial⟩, fun hp h' => h'⟩
/-- The document's table lies where it should. -/
abbrev RTab (B : Bs) : Prop := RB B (some (0, 0)) (kW.map wV)
theorem rhash_d {A : Option (Nat × Nat)} {xs : List UInt8} {c bits : Nat} {op : Bool} {hp : Hp} (ho : OkH hp) (hk : RTab ⟨hp, []⟩) (hA : RB ⟨hp, []⟩ A (xs.map byV)) (hl : xs.length ≤ 140737488355328) (hb : bits ≤ 256) :
    Fn kxD 14 [.i .i64 (bits : Int), .sl A xs.length c op] hp [] fun r _ => r = .v (.agg ((cutB bits (sumB xs)).map byV)) := by
  have h1 : ((sumB xs).map byV).length = 32 := by rw [List.length_map, sumB_len]
  have h2 : ((cutB bits (sumB xs)).map byV).length = 32 := by rw [List.length_map, cutB_len, sumB_len]
  have hne : ∀ {l : List V}, l.length = 32 → l ≠ [] := fun hl e => by rw [e] at hl; simp at hl
  refine fn_of_w (T := []) ho.sv (fun _ => rfl) (fn := Tryd.f14) (by kernel_rfl) rfl rfl ?_
  refine wo ?_
  first | (apply p_op; exact (vwant_n rfl); iterate 4 exact rfl) | (apply d_op; exact (vwant_n rfl); exact rfl; exact noRd rfl; decide +kernel; (iterate 3 exact rfl); rotate_left) | (apply p_op; exact (vwant_g rfl rfl rfl); iterate 4 exact rfl) | (apply d_op; exact (vwant_g rfl rfl rfl); exact rfl; exact noRd rfl; decide +kernel; (iterate 3 exact rfl); rotate_left)
  refine e_alloc rfl fun bo => ⟨_, rfl, ?_⟩
  try (case hok => first | exact rdOk_nil | exact rdOk_b (by decide +kernel))
  refine wo ?_
  first | refine p_callq (vwant_n rfl) rfl rfl rfl rfl (fun hp hs => rsum_d hs.ok (hk.give0 hs) (hA.give0 hs) hl) ?_ | refine d_callq (vwant_n rfl) (by decide +kernel) rfl rfl rfl rfl (fun hp hs => rsum_d hs.ok (hk.give0 hs) (hA.give0 hs) hl) ?_ | refine d_callq0 (vwant_n rfl) (by decide +kernel) rfl rfl rfl rfl (fun hp hs => rsum_d hs.ok (hk.give0 hs) (hA.give0 hs) hl) ?_ | refine p_callq (vwant_g rfl rfl rfl) rfl rfl rfl rfl (fun hp hs => rsum_d hs.ok (hk.give0 hs) (hA.give0 hs) hl) ?_ | refine d_callq (vwant_g rfl rfl rfl) (by decide +kernel) rfl rfl rfl rfl (fun hp hs => rsum_d hs.ok (hk.give0 hs) (hA.give0 hs) hl) ?_ | refine d_callq0 (vwant_g rfl rfl rfl) (by decide +kernel) rfl rfl rfl rfl (fun hp hs => rsum_d hs.ok (hk.give0 hs) (hA.give0 hs) hl) ?_
  first | (apply p_op; exact (vwant_n rfl); iterate 4 exact rfl) | (apply d_op; exact (vwant_n rfl); exact rfl; exact noRd rfl; decide +kernel; (iterate 3 exact rfl); rotate_left) | (apply p_op; exact (vwant_g rfl rfl rfl); iterate 4 exact rfl) | (apply d_op; exact (vwant_g rfl rfl rfl); exact rfl; exact noRd rfl; decide +kernel; (iterate 3 exact rfl); rotate_left)
  refine e_alloc rfl fun bh => ⟨_, rfl, ?_⟩
  try (case hok => first | exact rdOk_nil | exact rdOk_b (by decide +kernel))
  first | (apply p_do; exact (vwant_n rfl); exact rfl; exact rfl) | (apply d_do; exact (vwant_n rfl); exact rfl; exact noRd rfl; decide +kernel; exact rfl; rotate_left) | (apply p_do; exact (vwant_g rfl rfl rfl); exact rfl; exact rfl) | (apply d_do; exact (vwant_g rfl rfl rfl); exact rfl; exact noRd rfl; decide +kernel; exact rfl; rotate_left)
  refine e_stn (C' := (sumB xs).map byV) rfl rfl (hne h1) h1 (by simp) (overV_all (by rw [h1]; simp)) ⟨_, rfl, ?_⟩
  try (case hok => first | exact rdOk_nil | exact rdOk_b (by decide +kernel))
  refine wo ?_
  first | refine zX (m_ldln (s := 31) (cs := (sumB xs).map byV) rfl (by rw [List.drop_zero]; exact List.take_of_length_le (by omega)) h1) ?_ | refine yX (m_ldln (s := 31) (cs := (sumB xs).map byV) rfl (by rw [List.drop_zero]; exact List.take_of_length_le (by omega)) h1) ?_
  first | refine p_callq (vwant_n rfl) rfl rfl rfl rfl (fun hp hs => rcut_d (sumB_len xs) hb hs.ok) ?_ | refine d_callq (vwant_n rfl) (by decide +kernel) rfl rfl rfl rfl (fun hp hs => rcut_d (sumB_len xs) hb hs.ok) ?_ | refine d_callq0 (vwant_n rfl) (by decide +kernel) rfl rfl rfl rfl (fun hp hs => rcut_d (sumB_len xs) hb hs.ok) ?_ | refine p_callq (vwant_g rfl rfl rfl) rfl rfl rfl rfl (fun hp hs => rcut_d (sumB_len xs) hb hs.ok) ?_ | refine d_callq (vwant_g rfl rfl rfl) (by decide +kernel) rfl rfl rfl rfl (fun hp hs => rcut_d (sumB_len xs) hb hs.ok) ?_ | refine d_callq0 (vwant_g rfl rfl rfl) (by decide +kernel) rfl rfl rfl rfl (fun hp hs => rcut_d (sumB_len xs) hb hs.ok) ?_
  first | (apply p_do; exact (vwant_n rfl); exact rfl; exact rfl) | (apply d_do; exact (vwant_n rfl); exact rfl; exact noRd rfl; decide +kernel; exact rfl; rotate_left) | (apply p_do; exact (vwant_g rfl rfl rfl); exact rfl; exact rfl) | (apply d_do; exact (vwant_g rfl rfl rfl); exact rfl; exact noRd rfl; decide +kernel; exact rfl; rotate_left)
  refine e_stn (C' := (cutB bits (sumB xs)).map byV) rfl rfl (hne h2) h2 (by simp) (overV_all (by rw [h2]; simp)) ⟨_, rfl, ?_⟩
  try (case hok => first | exact rdOk_nil | exact rdOk_b (by decide +kernel))
  refine wo ?_
  exact w_ret (wend_ret (vres1 (rv_cell rfl h2)) rfl)
end Go.Proofs.YtlpcelcaahfafaaDoor
/- Dlb: sha's tables and the document's at a law's beginning. By this project. -/
set_option maxRecDepth 100000
namespace Go.Proofs.YtlpcelcaahfafaaDoor
open Go.ChangeShapes Go.WideShapes Go.ChangeAt Go.RowKit Go.Extern.Stop

abbrev rGs : Gs := (0, kW.map wV, 74) :: shaGs
theorem r_nb : ∀ x ∈ rGs, x.2.1.all notByte = true := by
  intro x hx
  rcases List.mem_cons.1 hx with rfl | hx
  · kernel_rfl
  · exact sha_nb x hx
theorem r_gs {W : World} {ps : List MemPlace} {r : List (String × DataW Unit)} (hL : DataW.LaidVars Tryd.prog W (("cairn/cairnref02.rounds", Rows.laid_cairn_cairnref02_rounds) :: ("cairn/sha.k", Rows.laid_cairn_sha_k) :: ("cairn/sha.first", Rows.laid_cairn_sha_first) :: r) ps) (hS : W.ShapedOpen Tryd.prog) : ∀ x ∈ rGs, GOk W x := by
  obtain ⟨g1, ps2, h2⟩ := laid_gl 0 74 (kW.map wcell) (kW.map wV) hL hS (by kernel_rfl) (by kernel_rfl) (of_decide_eq_true (by kernel_rfl)) (of_decide_eq_true (by kernel_rfl)) (by kernel_rfl) (by kernel_rfl) (by kernel_rfl) (fun E => mapWV_ren _) (by kernel_rfl)
  intro x hx
  rcases List.mem_cons.1 hx with rfl | hx
  · exact g1
  · exact sha_gs h2 hS x hx
theorem r_tab {W : World} {bs : List BV} (hg : ∀ x ∈ rGs, GOk W x) (hb : ∀ q ∈ bs, BvOk W q) : Tab ⟨lawHp rGs bs, []⟩ ∧ RTab ⟨lawHp rGs bs, []⟩ := by
  have e1 := law_glob hg r_nb hb (x := (2, kW.map wV, 74)) (by simp) (by kernel_rfl)
  have e2 := law_glob hg r_nb hb (x := (1, firstW.map wV, 62)) (by simp) (by kernel_rfl)
  have e3 := law_glob hg r_nb hb (x := (0, kW.map wV, 74)) (by simp) (by kernel_rfl)
  have hnx : ∀ g, g < 64 → g < (lawHp rGs bs).nx := fun g h => by show g < 66 + 2 * bs.length; omega
  have hro : ∀ {g : Nat} {cs : List V} {t : TypeId}, g < 64 → (lawHp rGs bs).t.get g = some (.cells cs t none false) → RO (lawHp rGs bs) (some (g, 0)) cs := fun hg e => ⟨fun b o e => by
    simp only [Option.some.injEq, Prod.mk.injEq] at e
    obtain ⟨rfl, rfl⟩ := e
    exact .inl (hnx _ hg), fun j v hv => ⟨_, 0, rfl, by
      simp only [cellV, cellsAt, Hp.get, e, Option.bind_some, Nat.zero_add]
      exact hv⟩⟩
  have r2 := hro (by decide) e2
  have r3 := hro (by decide) e3
  exact ⟨⟨⟨_, e1⟩, not_own0 (.inl (hnx _ (by decide))), r2, now0 r2⟩, r3, now0 r3⟩
theorem bv_reach {H : Type} {P : Program} {q : BV} {d : DataW H} {t e : TypeId} (hu : P.underlying t = some (.slice e)) (hb : P.bytesOf e = 1) (h : q.xs = [] ∨ ∃ elems spare, d = .slice elems spare ∧ elems.length = q.xs.length) (hz : (DataW.weights P t d).all (· ≤ reachBytes) = true) : q.xs.length ≤ 140737488355328 := by
  rcases h with h | ⟨elems, spare, rfl, he⟩
  · rw [h]; decide
  · simp only [DataW.weights, hu, hb, List.all_cons, Bool.and_eq_true, decide_eq_true_eq] at hz
    have := hz.1
    simp only [reachBytes, Nat.mul_one] at this
    omega
end Go.Proofs.YtlpcelcaahfafaaDoor
/- Dn3: refs: Refer, SameRef of cairnref07, Refer, Empty of node; the statements' Roomy, AsWas, bitsOf, secret. By this project. -/
set_option maxRecDepth 100000
namespace Go.Proofs.YtlpcelcaahfafaaDoor
open Go.RowKit Go.Extern.Stop

/-! ### A ref's value -/
def refK (xs : List UInt8) : Int := if xs.length < 32 then 2 else 1
def refH (bits : Nat) (xs : List UInt8) : List UInt8 := if xs.length < 32 then List.replicate 32 0 else cutB bits (sumB xs)
def refN (xs : List UInt8) : List UInt8 := if xs.length < 32 then xs else []
abbrev refV (k : Int) (h ys : List UInt8) (A : Option (Nat × Nat)) (c : Nat) (op : Bool) : V := .agg (.i .i64 k :: (h.map byV ++ [.sl A ys.length c op]))
theorem refH_len (bits : Nat) (xs : List UInt8) : (refH bits xs).length = 32 := by
  unfold refH
  split
  · simp
  · rw [cutB_len, sumB_len]
theorem refC_len {k : Int} {h : List UInt8} {v : V} (hh : h.length = 32) : (V.i .i64 k :: (h.map byV ++ [v])).length = 34 := by simp [hh]
theorem refC_hash {k : Int} {h : List UInt8} {v : V} (hh : h.length = 32) : ((V.i .i64 k :: (h.map byV ++ [v])).drop (0 + 1)).take 32 = h.map byV := by
  rw [Nat.zero_add, List.drop_succ_cons, List.drop_zero, List.take_append_of_le_length (by simp [hh]), List.take_of_length_le (by simp [hh])]
theorem refC_node {k : Int} {h : List UInt8} {v : V} (hh : h.length = 32) : (V.i .i64 k :: (h.map byV ++ [v]))[0 + 33]? = some v := by
  rw [Nat.zero_add, List.getElem?_cons_succ, List.getElem?_append_right (by simp [hh])]
  simp [hh]
theorem sameref_d {k : Int} {h ys : List UInt8} {A A2 : Option (Nat × Nat)} {c c2 : Nat} {o1 o2 : Bool} {hp : Hp} (ho : OkH hp) (hh : h.length = 32) (hA : RB ⟨hp, []⟩ A (ys.map byV)) (hA2 : RB ⟨hp, []⟩ A2 (ys.map byV)) :
    Fn kxD 11 [refV k h ys A c o1, refV k h ys A2 c2 o2] hp [] fun r _ => r = .v (.b true) := by
  refine fn_of_w (T := []) ho.sv (fun _ => rfl) (fn := Tryd.f11) (by kernel_rfl) rfl rfl ?_
  refine wo ?_
  first | (apply p_op; exact (vwant_n rfl); iterate 4 exact rfl) | (apply d_op; exact (vwant_n rfl); exact rfl; exact noRd rfl; decide +kernel; (iterate 3 exact rfl); rotate_left) | (apply p_op; exact (vwant_g rfl rfl rfl); iterate 4 exact rfl) | (apply d_op; exact (vwant_g rfl rfl rfl); exact rfl; exact noRd rfl; decide +kernel; (iterate 3 exact rfl); rotate_left)
  refine ev_box rfl rfl fun ba => ⟨_, rfl, ?_⟩
  try (case hok => first | exact rdOk_nil | exact rdOk_b (by decide +kernel))
  first | (apply p_op; exact (vwant_n rfl); iterate 4 exact rfl) | (apply d_op; exact (vwant_n rfl); exact rfl; exact noRd rfl; decide +kernel; (iterate 3 exact rfl); rotate_left) | (apply p_op; exact (vwant_g rfl rfl rfl); iterate 4 exact rfl) | (apply d_op; exact (vwant_g rfl rfl rfl); exact rfl; exact noRd rfl; decide +kernel; (iterate 3 exact rfl); rotate_left)
  refine ev_box rfl rfl fun bb => ⟨_, rfl, ?_⟩
  try (case hok => first | exact rdOk_nil | exact rdOk_b (by decide +kernel))
  refine wo ?_
  first | (apply wm; iterate 5 exact rfl) | (apply dm; iterate 6 exact rfl) | (apply wmg; iterate 7 exact rfl) | (apply dmg; iterate 8 exact rfl)
  refine mv_int (v := .b true) rfl rfl (vi_eqlT (rfl))
  refine wo ?_
  first | refine zX (m_ldln (s := 31) (cs := h.map byV) rfl (refC_hash hh) (by rw [List.length_map, hh])) ?_ | refine yX (m_ldln (s := 31) (cs := h.map byV) rfl (refC_hash hh) (by rw [List.length_map, hh])) ?_
  refine wo ?_
  first | refine zX (m_ldln (s := 31) (cs := h.map byV) rfl (refC_hash hh) (by rw [List.length_map, hh])) ?_ | refine yX (m_ldln (s := 31) (cs := h.map byV) rfl (refC_hash hh) (by rw [List.length_map, hh])) ?_
  first | (apply wm; iterate 5 exact rfl) | (apply dm; iterate 6 exact rfl) | (apply wmg; iterate 7 exact rfl) | (apply dmg; iterate 8 exact rfl)
  refine m_eqA rfl rfl rfl hh hh
  rw [decide_eq_true rfl]
  refine wo ?_
  first | refine zX (m_ldl rfl (refC_node hh)) ?_ | refine yX (m_ldl rfl (refC_node hh)) ?_
  first | (apply wm; iterate 5 exact rfl) | (apply dm; iterate 6 exact rfl) | (apply wmg; iterate 7 exact rfl) | (apply dmg; iterate 8 exact rfl)
  refine m_b2so rfl hA.1 hA.2
  refine wo ?_
  first | refine zX (m_ldl rfl (refC_node hh)) ?_ | refine yX (m_ldl rfl (refC_node hh)) ?_
  first | (apply wm; iterate 5 exact rfl) | (apply dm; iterate 6 exact rfl) | (apply wmg; iterate 7 exact rfl) | (apply dmg; iterate 8 exact rfl)
  refine m_b2so rfl hA2.1 hA2.2
  first | (apply wm; iterate 5 exact rfl) | (apply dm; iterate 6 exact rfl) | (apply wmg; iterate 7 exact rfl) | (apply dmg; iterate 8 exact rfl)
  refine m_eqs rfl rfl
  rw [beq_self_eq_true]
  refine wo ?_
  exact w_ret (wend_ret (vres1 (rv_tmp rfl)) rfl)
/-! ### The document's ref; none; the program's -/
set_option maxHeartbeats 4000000 in
theorem rrefer_d {A : Option (Nat × Nat)} {xs : List UInt8} {c bits : Nat} {op : Bool} {hp : Hp} (ho : OkH hp) (hk : RTab ⟨hp, []⟩) (hA : RB ⟨hp, []⟩ A (xs.map byV)) (hl : xs.length ≤ 140737488355328) (hb : bits ≤ 256) :
    Fn kxD 8 [.i .i64 (bits : Int), .sl A xs.length c op] hp [] fun r N => ∃ u, r = .v u ∧ ∃ A' c' op', u = refV (refK xs) (refH bits xs) (refN xs) A' c' op' ∧ Seen N A' (refN xs) := by
  refine Fn.drop ?_
  refine fn_of_w (T := []) ho.sv (fun _ => rfl) (fn := Tryd.f8) (by kernel_rfl) rfl rfl ?_
  refine wo ?_
  first | (apply p_op; exact (vwant_n rfl); iterate 4 exact rfl) | (apply d_op; exact (vwant_n rfl); exact rfl; exact noRd rfl; decide +kernel; (iterate 3 exact rfl); rotate_left) | (apply p_op; exact (vwant_g rfl rfl rfl); iterate 4 exact rfl) | (apply d_op; exact (vwant_g rfl rfl rfl); exact rfl; exact noRd rfl; decide +kernel; (iterate 3 exact rfl); rotate_left)
  refine e_alloc rfl fun bo => ⟨_, rfl, ?_⟩
  try (case hok => first | exact rdOk_nil | exact rdOk_b (by decide +kernel))
  refine wo ?_
  by_cases g : xs.length < 32
  · have e1 : refK xs = 2 := if_pos g
    have e2 : refH bits xs = List.replicate 32 0 := if_pos g
    have e3 : refN xs = xs := if_pos g
    rw [e1, e2, e3]
    first | (apply wm; iterate 5 exact rfl) | (apply dm; iterate 6 exact rfl) | (apply wmg; iterate 7 exact rfl) | (apply dmg; iterate 8 exact rfl)
    refine mv_int (v := .b true) rfl rfl (vi_lssT (by omega))
    refine wo ?_
    first | (apply p_op; exact (vwant_n rfl); iterate 4 exact rfl) | (apply d_op; exact (vwant_n rfl); exact rfl; exact noRd rfl; decide +kernel; (iterate 3 exact rfl); rotate_left) | (apply p_op; exact (vwant_g rfl rfl rfl); iterate 4 exact rfl) | (apply d_op; exact (vwant_g rfl rfl rfl); exact rfl; exact noRd rfl; decide +kernel; (iterate 3 exact rfl); rotate_left)
    refine e_bs (C := []) rfl rfl .nil rfl fun bn => ⟨_, rfl, ?_⟩
    try (case hok => first | exact rdOk_nil | exact rdOk_b (by decide +kernel))
    refine wo ?_
    first | (apply p_op; exact (vwant_n rfl); iterate 4 exact rfl) | (apply d_op; exact (vwant_n rfl); exact rfl; exact noRd rfl; decide +kernel; (iterate 3 exact rfl); rotate_left) | (apply p_op; exact (vwant_g rfl rfl rfl); iterate 4 exact rfl) | (apply d_op; exact (vwant_g rfl rfl rfl); exact rfl; exact noRd rfl; decide +kernel; (iterate 3 exact rfl); rotate_left)
    refine e_lit (new := xs.map byV) rfl rfl hA.z (by simp) u8_one (by omega) fun b1 o1 oo h1 => ⟨_, rfl, ?_⟩
    try (case hok => first | exact rdOk_nil | exact rdOk_b (by decide +kernel))
    first | (apply wn; iterate 5 exact rfl) | (apply dn; iterate 5 exact rfl) | (apply wg; iterate 7 exact rfl) | (apply dg; iterate 7 exact rfl)
    refine p_buildS (C := .i .i64 2 :: ((List.replicate 32 (0 : UInt8)).map byV ++ [.sl (some (b1, 0)) xs.length xs.length o1])) (.cons rfl rfl rfl rfl (Nat.le_of_ble_eq_true rfl) (.cons rfl rfl rfl rfl (Nat.le_of_ble_eq_true rfl) .nil)) rfl
    first | (apply p_do; exact (vwant_n rfl); exact rfl; exact rfl) | (apply d_do; exact (vwant_n rfl); exact rfl; exact noRd rfl; decide +kernel; exact rfl; rotate_left) | (apply p_do; exact (vwant_g rfl rfl rfl); exact rfl; exact rfl) | (apply d_do; exact (vwant_g rfl rfl rfl); exact rfl; exact noRd rfl; decide +kernel; exact rfl; rotate_left)
    refine e_stn (C' := .i .i64 2 :: ((List.replicate 32 (0 : UInt8)).map byV ++ [.sl (some (b1, 0)) xs.length xs.length o1])) rfl rfl (by simp) rfl (Nat.le_of_ble_eq_true rfl) rfl ⟨_, rfl, ?_⟩
    try (case hok => first | exact rdOk_nil | exact rdOk_b (by decide +kernel))
    refine wo ?_
    refine w_heap (L' := [_, _]) (fun hp h => h.pick [1, 0] _ rfl (by decide)) ?_
    exact w_ret (wend_ret (vres1 (rv_cell rfl rfl)) ⟨[_], [_], rfl, _, rfl, _, _, _, rfl, Seen.own⟩)
  · have e1 : refK xs = 1 := if_neg g
    have e2 : refH bits xs = cutB bits (sumB xs) := if_neg g
    have e3 : refN xs = [] := if_neg g
    have hh := refH_len bits xs
    rw [e2] at hh
    rw [e1, e2, e3]
    have hc1 := refC_len (k := 1) (v := .sl none 0 0 false) hh
    first | (apply wm; iterate 5 exact rfl) | (apply dm; iterate 6 exact rfl) | (apply wmg; iterate 7 exact rfl) | (apply dmg; iterate 8 exact rfl)
    refine mv_int (v := .b false) rfl rfl (vi_lssF (by omega))
    refine wo ?_
    first | refine p_callq (vwant_n rfl) rfl rfl rfl rfl (fun hp hs => rhash_d hs.ok (hk.give0 hs) (hA.give0 hs) hl hb) ?_ | refine d_callq (vwant_n rfl) (by decide +kernel) rfl rfl rfl rfl (fun hp hs => rhash_d hs.ok (hk.give0 hs) (hA.give0 hs) hl hb) ?_ | refine d_callq0 (vwant_n rfl) (by decide +kernel) rfl rfl rfl rfl (fun hp hs => rhash_d hs.ok (hk.give0 hs) (hA.give0 hs) hl hb) ?_ | refine p_callq (vwant_g rfl rfl rfl) rfl rfl rfl rfl (fun hp hs => rhash_d hs.ok (hk.give0 hs) (hA.give0 hs) hl hb) ?_ | refine d_callq (vwant_g rfl rfl rfl) (by decide +kernel) rfl rfl rfl rfl (fun hp hs => rhash_d hs.ok (hk.give0 hs) (hA.give0 hs) hl hb) ?_ | refine d_callq0 (vwant_g rfl rfl rfl) (by decide +kernel) rfl rfl rfl rfl (fun hp hs => rhash_d hs.ok (hk.give0 hs) (hA.give0 hs) hl hb) ?_
    first | (apply wn; iterate 5 exact rfl) | (apply dn; iterate 5 exact rfl) | (apply wg; iterate 7 exact rfl) | (apply dg; iterate 7 exact rfl)
    refine p_buildS (C := .i .i64 1 :: ((cutB bits (sumB xs)).map byV ++ [.sl none 0 0 false])) (.cons rfl rfl rfl rfl (Nat.le_of_ble_eq_true rfl) (.cons rfl rfl rfl (by rw [List.length_map, hh]) (Nat.le_of_ble_eq_true rfl) .nil)) (by simp only [putAllV, overV, List.length_map, hh]; simp)
    first | (apply p_do; exact (vwant_n rfl); exact rfl; exact rfl) | (apply d_do; exact (vwant_n rfl); exact rfl; exact noRd rfl; decide +kernel; exact rfl; rotate_left) | (apply p_do; exact (vwant_g rfl rfl rfl); exact rfl; exact rfl) | (apply d_do; exact (vwant_g rfl rfl rfl); exact rfl; exact noRd rfl; decide +kernel; exact rfl; rotate_left)
    refine e_stn (C' := .i .i64 1 :: ((cutB bits (sumB xs)).map byV ++ [.sl none 0 0 false])) rfl rfl (by simp) hc1 (Nat.le_of_ble_eq_true rfl) (overV_all hc1) ⟨_, rfl, ?_⟩
    try (case hok => first | exact rdOk_nil | exact rdOk_b (by decide +kernel))
    refine wo ?_
    exact w_ret (wend_ret (vres1 (rv_cell rfl hc1)) ⟨[_], [], rfl, _, rfl, _, _, _, rfl, Seen.nil⟩)
theorem nrefer0_d {A : Option (Nat × Nat)} {n c : Nat} {op : Bool} {hp : Hp} (ho : OkH hp) :
    Fn kxD 10 [.p none, .sl A n c op] hp [] fun r _ => r = .v (refV 0 (List.replicate 32 0) [] none 0 false) := by
  refine fn_of_w (T := []) ho.sv (fun _ => rfl) (fn := Tryd.f10) (by kernel_rfl) rfl rfl ?_
  refine wo ?_
  first | (apply p_op; exact (vwant_n rfl); iterate 4 exact rfl) | (apply d_op; exact (vwant_n rfl); exact rfl; exact noRd rfl; decide +kernel; (iterate 3 exact rfl); rotate_left) | (apply p_op; exact (vwant_g rfl rfl rfl); iterate 4 exact rfl) | (apply d_op; exact (vwant_g rfl rfl rfl); exact rfl; exact noRd rfl; decide +kernel; (iterate 3 exact rfl); rotate_left)
  refine e_alloc rfl fun bo => ⟨_, rfl, ?_⟩
  try (case hok => first | exact rdOk_nil | exact rdOk_b (by decide +kernel))
  refine wo ?_
  first | (apply wm; iterate 5 exact rfl) | (apply dm; iterate 6 exact rfl) | (apply wmg; iterate 7 exact rfl) | (apply dmg; iterate 8 exact rfl)
  refine m_eqp0 rfl rfl
  refine wo ?_
  first | (apply wn; iterate 5 exact rfl) | (apply dn; iterate 5 exact rfl) | (apply wg; iterate 7 exact rfl) | (apply dg; iterate 7 exact rfl)
  refine p_buildS (C := .i .i64 0 :: ((List.replicate 32 (0 : UInt8)).map byV ++ [.sl none 0 0 false])) .nil (by rfl)
  first | (apply p_do; exact (vwant_n rfl); exact rfl; exact rfl) | (apply d_do; exact (vwant_n rfl); exact rfl; exact noRd rfl; decide +kernel; exact rfl; rotate_left) | (apply p_do; exact (vwant_g rfl rfl rfl); exact rfl; exact rfl) | (apply d_do; exact (vwant_g rfl rfl rfl); exact rfl; exact noRd rfl; decide +kernel; exact rfl; rotate_left)
  refine e_stn (C' := .i .i64 0 :: ((List.replicate 32 (0 : UInt8)).map byV ++ [.sl none 0 0 false])) rfl rfl (by simp) rfl (Nat.le_of_ble_eq_true rfl) rfl ⟨_, rfl, ?_⟩
  try (case hok => first | exact rdOk_nil | exact rdOk_b (by decide +kernel))
  refine wo ?_
  exact w_ret (wend_ret (vres1 (rv_cell rfl rfl)) rfl)
theorem clone_e {a : Nat × Nat} {xs : List UInt8} {c : Nat} {op : Bool} {hp : Hp} (ho : OkH hp) (hA : RB ⟨hp, []⟩ (some a) (xs.map byV)) (hl : xs.length ≤ 140737488355328) :
    Fn kxD 16 [.sl (some a) xs.length c op] hp [] fun r N => ∃ u, r = .v u ∧ ∃ b o1 oo, u = .sl (some (b, 0)) xs.length xs.length o1 ∧ N = [(some b, .cells (xs.map byV) 5 oo false)] := by
  refine fn_of_w (T := []) ho.sv (fun _ => rfl) (fn := Tryd.f16) (by kernel_rfl) rfl rfl ?_
  refine wo ?_
  first | (apply wm; iterate 5 exact rfl) | (apply dm; iterate 6 exact rfl) | (apply wmg; iterate 7 exact rfl) | (apply dmg; iterate 8 exact rfl)
  refine m_eqsl rfl rfl
  refine wo ?_
  first | (apply p_op; exact (vwant_n rfl); iterate 4 exact rfl) | (apply d_op; exact (vwant_n rfl); exact rfl; exact noRd rfl; decide +kernel; (iterate 3 exact rfl); rotate_left) | (apply p_op; exact (vwant_g rfl rfl rfl); iterate 4 exact rfl) | (apply d_op; exact (vwant_g rfl rfl rfl); exact rfl; exact noRd rfl; decide +kernel; (iterate 3 exact rfl); rotate_left)
  refine e_bs (C := []) rfl rfl .nil rfl fun bn => ⟨_, rfl, ?_⟩
  try (case hok => first | exact rdOk_nil | exact rdOk_b (by decide +kernel))
  refine wo ?_
  first | (apply p_op; exact (vwant_n rfl); iterate 4 exact rfl) | (apply d_op; exact (vwant_n rfl); exact rfl; exact noRd rfl; decide +kernel; (iterate 3 exact rfl); rotate_left) | (apply p_op; exact (vwant_g rfl rfl rfl); iterate 4 exact rfl) | (apply d_op; exact (vwant_g rfl rfl rfl); exact rfl; exact noRd rfl; decide +kernel; (iterate 3 exact rfl); rotate_left)
  refine e_lit (new := xs.map byV) rfl rfl hA.z (by simp) u8_one (by omega) fun b1 o1 oo h1 => ⟨_, rfl, ?_⟩
  try (case hok => first | exact rdOk_nil | exact rdOk_b (by decide +kernel))
  refine wo ?_
  exact w_ret (wend_ret (vres1 (rv_tmp rfl)) ⟨_, rfl, b1, o1, oo, rfl, rfl⟩)
variable {B : Bk} {b bits cb : Nat} {sec : List UInt8} {ha ca : List (List UInt8)} {fs : List (List UInt8 × List UInt8)}
set_option maxHeartbeats 4000000 in
theorem nrefer_d {a : Nat × Nat} {xs : List UInt8} {c : Nat} {op : Bool} {hp : Hp} (hB : BkSt B b bits cb sec ha ca fs) (h0 : SV ⟨hp, hnds (bkL B)⟩ hp (bkL B)) (hk : Tab ⟨hp, hnds (bkL B)⟩) (hA : RB ⟨hp, hnds (bkL B)⟩ (some a) (xs.map byV)) (hc : CapOk xs.length c op) (hx : xs.length ≤ 140737488355328) (hl : ha.length < 100000000) :
    Fn kxD 10 [.p (some (b, 0)), .sl (some a) xs.length c op] hp (hnds (bkL B)) fun r N => ∃ u, r = .v u ∧ ∃ A' c' op' X B' ha', u = refV (refK xs) (refH bits xs) (refN xs) A' c' op' ∧ Seen X A' (refN xs) ∧ BkSt B' b bits cb sec ha' ca fs ∧ ha'.length ≤ ha.length + 1 ∧ N = X ++ bkL B' := by
  refine Fn.drop ?_
  refine fn_of_w h0 (fun _ => rfl) (fn := Tryd.f10) (by kernel_rfl) rfl rfl ?_
  refine wo ?_
  first | (apply p_op; exact (vwant_n rfl); iterate 4 exact rfl) | (apply d_op; exact (vwant_n rfl); exact rfl; exact noRd rfl; decide +kernel; (iterate 3 exact rfl); rotate_left) | (apply p_op; exact (vwant_g rfl rfl rfl); iterate 4 exact rfl) | (apply d_op; exact (vwant_g rfl rfl rfl); exact rfl; exact noRd rfl; decide +kernel; (iterate 3 exact rfl); rotate_left)
  refine e_alloc rfl fun bo => ⟨_, rfl, ?_⟩
  try (case hok => first | exact rdOk_nil | exact rdOk_b (by decide +kernel))
  refine wo ?_
  first | (apply wm; iterate 5 exact rfl) | (apply dm; iterate 6 exact rfl) | (apply wmg; iterate 7 exact rfl) | (apply dmg; iterate 8 exact rfl)
  refine m_eqp rfl rfl
  refine wo ?_
  by_cases g : xs.length < 32
  · have e1 : refK xs = 2 := if_pos g
    have e2 : refH bits xs = List.replicate 32 0 := if_pos g
    have e3 : refN xs = xs := if_pos g
    rw [e1, e2, e3]
    first | (apply wm; iterate 5 exact rfl) | (apply dm; iterate 6 exact rfl) | (apply wmg; iterate 7 exact rfl) | (apply dmg; iterate 8 exact rfl)
    refine mv_int (v := .b true) rfl rfl (vi_lssT (by omega))
    refine wo ?_
    first | (apply p_callY []; exact (vwant_n rfl); iterate 4 exact rfl) | (apply d_callY []; exact (vwant_n rfl); decide +kernel; (iterate 4 exact rfl)) | (apply p_callY []; exact (vwant_g rfl rfl rfl); iterate 4 exact rfl) | (apply d_callY []; exact (vwant_g rfl rfl rfl); decide +kernel; (iterate 4 exact rfl))
    try (case hok => first | exact rdOk_nil | exact rdOk_b (by decide +kernel) | exact rdOk_c)
    case hC => exact (fun hp hs ht => clone_e hs.ok (hA.give0 hs) hx)
    rintro u N ⟨b1, o1, oo, rfl, rfl⟩
    first | (apply wn; iterate 5 exact rfl) | (apply dn; iterate 5 exact rfl) | (apply wg; iterate 7 exact rfl) | (apply dg; iterate 7 exact rfl)
    refine p_buildS (C := .i .i64 2 :: ((List.replicate 32 (0 : UInt8)).map byV ++ [.sl (some (b1, 0)) xs.length xs.length o1])) (.cons rfl rfl rfl rfl (Nat.le_of_ble_eq_true rfl) (.cons rfl rfl rfl rfl (Nat.le_of_ble_eq_true rfl) .nil)) rfl
    first | (apply p_do; exact (vwant_n rfl); exact rfl; exact rfl) | (apply d_do; exact (vwant_n rfl); exact rfl; exact noRd rfl; decide +kernel; exact rfl; rotate_left) | (apply p_do; exact (vwant_g rfl rfl rfl); exact rfl; exact rfl) | (apply d_do; exact (vwant_g rfl rfl rfl); exact rfl; exact noRd rfl; decide +kernel; exact rfl; rotate_left)
    refine e_stn (C' := .i .i64 2 :: ((List.replicate 32 (0 : UInt8)).map byV ++ [.sl (some (b1, 0)) xs.length xs.length o1])) rfl rfl (by simp) rfl (Nat.le_of_ble_eq_true rfl) rfl ⟨_, rfl, ?_⟩
    try (case hok => first | exact rdOk_nil | exact rdOk_b (by decide +kernel))
    refine wo ?_
    refine w_heap (L' := _ :: (_ :: bkL B)) (fun hp h => h.perm (List.Perm.swap _ _ _)) ?_
    exact w_ret (wend_ret (vres1 (rv_cell rfl rfl)) ⟨[_], [_] ++ bkL B, rfl, _, rfl, _, _, _, [_], B, ha, rfl, Seen.own, hB, Nat.le_succ _, rfl⟩)
  · have e1 : refK xs = 1 := if_neg g
    have e2 : refH bits xs = cutB bits (sumB xs) := if_neg g
    have e3 : refN xs = [] := if_neg g
    have hh := refH_len bits xs
    rw [e2] at hh
    rw [e1, e2, e3]
    have hc1 := refC_len (k := 1) (v := .sl none 0 0 false) hh
    first | (apply wm; iterate 5 exact rfl) | (apply dm; iterate 6 exact rfl) | (apply wmg; iterate 7 exact rfl) | (apply dmg; iterate 8 exact rfl)
    refine mv_int (v := .b false) rfl rfl (vi_lssF (by omega))
    refine wo ?_
    first | (apply p_callM (bkL B); exact (vwant_n rfl); iterate 4 exact rfl) | (apply d_callM (bkL B); exact (vwant_n rfl); decide +kernel; (iterate 4 exact rfl)) | (apply p_callM (bkL B); exact (vwant_g rfl rfl rfl); iterate 4 exact rfl) | (apply d_callM (bkL B); exact (vwant_g rfl rfl rfl); decide +kernel; (iterate 4 exact rfl))
    try (case hok => first | exact rdOk_nil | exact rdOk_b (by decide +kernel) | exact rdOk_c)
    case hC => exact (fun hp hs ht => hash_gs hB ht (hk.give hs) (hA.give hs) hc (by omega) hl)
    rintro u N ⟨rfl, B', hB', rfl⟩
    refine wl_heap (L' := _ :: bkL B') (fun hp h => h.perm List.perm_append_comm) ?_
    first | (apply wn; iterate 5 exact rfl) | (apply dn; iterate 5 exact rfl) | (apply wg; iterate 7 exact rfl) | (apply dg; iterate 7 exact rfl)
    refine p_buildS (C := .i .i64 1 :: ((cutB bits (sumB xs)).map byV ++ [.sl none 0 0 false])) (.cons rfl rfl rfl rfl (Nat.le_of_ble_eq_true rfl) (.cons rfl rfl rfl (by rw [List.length_map, hh]) (Nat.le_of_ble_eq_true rfl) .nil)) (by simp only [putAllV, overV, List.length_map, hh]; simp)
    first | (apply p_do; exact (vwant_n rfl); exact rfl; exact rfl) | (apply d_do; exact (vwant_n rfl); exact rfl; exact noRd rfl; decide +kernel; exact rfl; rotate_left) | (apply p_do; exact (vwant_g rfl rfl rfl); exact rfl; exact rfl) | (apply d_do; exact (vwant_g rfl rfl rfl); exact rfl; exact noRd rfl; decide +kernel; exact rfl; rotate_left)
    refine e_stn (C' := .i .i64 1 :: ((cutB bits (sumB xs)).map byV ++ [.sl none 0 0 false])) rfl rfl (by simp) hc1 (Nat.le_of_ble_eq_true rfl) (overV_all hc1) ⟨_, rfl, ?_⟩
    try (case hok => first | exact rdOk_nil | exact rdOk_b (by decide +kernel))
    refine wo ?_
    exact w_ret (wend_ret (vres1 (rv_cell rfl hc1)) ⟨[_], [] ++ bkL B', rfl, _, rfl, _, _, _, [], B', _, rfl, Seen.nil, hB', addS_len _ _, rfl⟩)
theorem hash0_d {A : Option (Nat × Nat)} {n c : Nat} {op : Bool} {hp : Hp} (ho : OkH hp) : Fn kxD 15 [.p none, .sl A n c op] hp [] fun r _ => r = .v (.agg ((List.replicate 32 (0 : UInt8)).map byV)) := by
  refine fn_of_w (T := []) ho.sv (fun _ => rfl) (fn := Tryd.f15) (by kernel_rfl) rfl rfl ?_
  refine wo ?_
  first | (apply p_op; exact (vwant_n rfl); iterate 4 exact rfl) | (apply d_op; exact (vwant_n rfl); exact rfl; exact noRd rfl; decide +kernel; (iterate 3 exact rfl); rotate_left) | (apply p_op; exact (vwant_g rfl rfl rfl); iterate 4 exact rfl) | (apply d_op; exact (vwant_g rfl rfl rfl); exact rfl; exact noRd rfl; decide +kernel; (iterate 3 exact rfl); rotate_left)
  refine e_alloc rfl fun bo => ⟨_, rfl, ?_⟩
  try (case hok => first | exact rdOk_nil | exact rdOk_b (by decide +kernel))
  refine wo ?_
  first | (apply wm; iterate 5 exact rfl) | (apply dm; iterate 6 exact rfl) | (apply wmg; iterate 7 exact rfl) | (apply dmg; iterate 8 exact rfl)
  refine m_eqp0 rfl rfl
  refine wo ?_
  first | (apply wn; iterate 5 exact rfl) | (apply dn; iterate 5 exact rfl) | (apply wg; iterate 7 exact rfl) | (apply dg; iterate 7 exact rfl)
  refine p_buildA0 (Z := (List.replicate 32 (0 : UInt8)).map byV)
  first | (apply p_do; exact (vwant_n rfl); exact rfl; exact rfl) | (apply d_do; exact (vwant_n rfl); exact rfl; exact noRd rfl; decide +kernel; exact rfl; rotate_left) | (apply p_do; exact (vwant_g rfl rfl rfl); exact rfl; exact rfl) | (apply d_do; exact (vwant_g rfl rfl rfl); exact rfl; exact noRd rfl; decide +kernel; exact rfl; rotate_left)
  refine e_stn (C' := (List.replicate 32 (0 : UInt8)).map byV) rfl rfl (by simp) rfl (Nat.le_of_ble_eq_true rfl) rfl ⟨_, rfl, ?_⟩
  try (case hok => first | exact rdOk_nil | exact rdOk_b (by decide +kernel))
  refine wo ?_
  exact w_ret (wend_ret (vres1 (rv_cell rfl rfl)) rfl)
theorem nempty0_d {hp : Hp} (ho : OkH hp) : Fn kxD 13 [.p none] hp [] fun r _ => r = .v (.agg ((List.replicate 32 (0 : UInt8)).map byV)) := by
  refine fn_of_w (T := []) ho.sv (fun _ => rfl) (fn := Tryd.f13) (by kernel_rfl) rfl rfl ?_
  refine wo ?_
  first | (apply p_op; exact (vwant_n rfl); iterate 4 exact rfl) | (apply d_op; exact (vwant_n rfl); exact rfl; exact noRd rfl; decide +kernel; (iterate 3 exact rfl); rotate_left) | (apply p_op; exact (vwant_g rfl rfl rfl); iterate 4 exact rfl) | (apply d_op; exact (vwant_g rfl rfl rfl); exact rfl; exact noRd rfl; decide +kernel; (iterate 3 exact rfl); rotate_left)
  refine e_alloc rfl fun bo => ⟨_, rfl, ?_⟩
  try (case hok => first | exact rdOk_nil | exact rdOk_b (by decide +kernel))
  refine wo ?_
  first | (apply p_op; exact (vwant_n rfl); iterate 4 exact rfl) | (apply d_op; exact (vwant_n rfl); exact rfl; exact noRd rfl; decide +kernel; (iterate 3 exact rfl); rotate_left) | (apply p_op; exact (vwant_g rfl rfl rfl); iterate 4 exact rfl) | (apply d_op; exact (vwant_g rfl rfl rfl); exact rfl; exact noRd rfl; decide +kernel; (iterate 3 exact rfl); rotate_left)
  refine e_bs (C := [byV 128]) rfl rfl (.cons rfl rfl .nil) rfl fun bx => ⟨_, rfl, ?_⟩
  try (case hok => first | exact rdOk_nil | exact rdOk_b (by decide +kernel))
  first | refine p_callq (vwant_n rfl) rfl rfl rfl rfl (fun hp hs => hash0_d hs.ok) ?_ | refine d_callq (vwant_n rfl) (by decide +kernel) rfl rfl rfl rfl (fun hp hs => hash0_d hs.ok) ?_ | refine d_callq0 (vwant_n rfl) (by decide +kernel) rfl rfl rfl rfl (fun hp hs => hash0_d hs.ok) ?_ | refine p_callq (vwant_g rfl rfl rfl) rfl rfl rfl rfl (fun hp hs => hash0_d hs.ok) ?_ | refine d_callq (vwant_g rfl rfl rfl) (by decide +kernel) rfl rfl rfl rfl (fun hp hs => hash0_d hs.ok) ?_ | refine d_callq0 (vwant_g rfl rfl rfl) (by decide +kernel) rfl rfl rfl rfl (fun hp hs => hash0_d hs.ok) ?_
  first | (apply p_do; exact (vwant_n rfl); exact rfl; exact rfl) | (apply d_do; exact (vwant_n rfl); exact rfl; exact noRd rfl; decide +kernel; exact rfl; rotate_left) | (apply p_do; exact (vwant_g rfl rfl rfl); exact rfl; exact rfl) | (apply d_do; exact (vwant_g rfl rfl rfl); exact rfl; exact noRd rfl; decide +kernel; exact rfl; rotate_left)
  refine e_stn (C' := (List.replicate 32 (0 : UInt8)).map byV) rfl rfl (by simp) rfl (Nat.le_of_ble_eq_true rfl) rfl ⟨_, rfl, ?_⟩
  try (case hok => first | exact rdOk_nil | exact rdOk_b (by decide +kernel))
  refine wo ?_
  exact w_ret (wend_ret (vres1 (rv_cell rfl rfl)) rfl)
theorem nempty_d {hp : Hp} (hB : BkSt B b bits cb sec ha ca fs) (h0 : SV ⟨hp, hnds (bkL B)⟩ hp (bkL B)) (hk : Tab ⟨hp, hnds (bkL B)⟩) (hl : ha.length < 100000000) :
    Fn kxD 13 [.p (some (b, 0))] hp (hnds (bkL B)) fun r N => ∃ u, r = .v u ∧ ∃ B' ha', u = .agg ((cutB bits (sumB [128])).map byV) ∧ BkSt B' b bits cb sec ha' ca fs ∧ ha'.length ≤ ha.length + 1 ∧ N = bkL B' := by
  have h1 : ((cutB bits (sumB [128])).map byV).length = 32 := by rw [List.length_map, cutB_len, sumB_len]
  have hne : ∀ {l : List V}, l.length = 32 → l ≠ [] := fun hl e => by rw [e] at hl; simp at hl
  refine Fn.drop ?_
  refine fn_of_w h0 (fun _ => rfl) (fn := Tryd.f13) (by kernel_rfl) rfl rfl ?_
  refine wo ?_
  first | (apply p_op; exact (vwant_n rfl); iterate 4 exact rfl) | (apply d_op; exact (vwant_n rfl); exact rfl; exact noRd rfl; decide +kernel; (iterate 3 exact rfl); rotate_left) | (apply p_op; exact (vwant_g rfl rfl rfl); iterate 4 exact rfl) | (apply d_op; exact (vwant_g rfl rfl rfl); exact rfl; exact noRd rfl; decide +kernel; (iterate 3 exact rfl); rotate_left)
  refine e_alloc rfl fun bo => ⟨_, rfl, ?_⟩
  try (case hok => first | exact rdOk_nil | exact rdOk_b (by decide +kernel))
  refine wo ?_
  first | (apply p_op; exact (vwant_n rfl); iterate 4 exact rfl) | (apply d_op; exact (vwant_n rfl); exact rfl; exact noRd rfl; decide +kernel; (iterate 3 exact rfl); rotate_left) | (apply p_op; exact (vwant_g rfl rfl rfl); iterate 4 exact rfl) | (apply d_op; exact (vwant_g rfl rfl rfl); exact rfl; exact noRd rfl; decide +kernel; (iterate 3 exact rfl); rotate_left)
  refine e_bs (C := [byV 128]) rfl rfl (.cons rfl rfl .nil) rfl fun bx => ⟨_, rfl, ?_⟩
  try (case hok => first | exact rdOk_nil | exact rdOk_b (by decide +kernel))
  first | (apply p_callM (bkL B); exact (vwant_n rfl); iterate 4 exact rfl) | (apply d_callM (bkL B); exact (vwant_n rfl); decide +kernel; (iterate 4 exact rfl)) | (apply p_callM (bkL B); exact (vwant_g rfl rfl rfl); iterate 4 exact rfl) | (apply d_callM (bkL B); exact (vwant_g rfl rfl rfl); decide +kernel; (iterate 4 exact rfl))
  try (case hok => first | exact rdOk_nil | exact rdOk_b (by decide +kernel) | exact rdOk_c)
  case hC => exact (fun hp hs ht => hash_s (xs := [128]) hB ht (hk.give hs) (rb_own hs (i := 0) rfl rfl) (Nat.le_refl 1) (by decide) hl)
  rintro u N ⟨rfl, B', hB', rfl⟩
  refine wl_heap (L' := _ :: _ :: bkL B') (fun hp h => h.perm List.perm_append_comm) ?_
  first | (apply p_do; exact (vwant_n rfl); exact rfl; exact rfl) | (apply d_do; exact (vwant_n rfl); exact rfl; exact noRd rfl; decide +kernel; exact rfl; rotate_left) | (apply p_do; exact (vwant_g rfl rfl rfl); exact rfl; exact rfl) | (apply d_do; exact (vwant_g rfl rfl rfl); exact rfl; exact noRd rfl; decide +kernel; exact rfl; rotate_left)
  refine e_stn (C' := (cutB bits (sumB [128])).map byV) rfl rfl (hne h1) h1 (by simp) (overV_all (by rw [h1]; simp)) ⟨_, rfl, ?_⟩
  try (case hok => first | exact rdOk_nil | exact rdOk_b (by decide +kernel))
  refine wo ?_
  exact w_ret (wend_ret (vres1 (rv_cell rfl h1)) ⟨[_, _], bkL B', rfl, _, rfl, B', _, rfl, hB', addS_len _ _, rfl⟩)
/-! ### The statements' own -/
def markB : List UInt8 := [85, 170, 85, 170]
theorem roomy_d {A : Option (Nat × Nat)} {xs : List UInt8} {c : Nat} {op : Bool} {hp : Hp} (ho : OkH hp) (hA : RB ⟨hp, []⟩ A (xs.map byV)) (hl : xs.length ≤ 140737488355328) :
    Fn kxD 9 [.sl A xs.length c op] hp [] fun r N => ∃ u, r = .v u ∧ ∃ b, u = .sl (some (b, 0)) xs.length (xs.length + 4) true ∧ N = [(some b, .cells ((xs ++ markB).map byV) 5 (some 1) false)] := by
  refine Fn.drop ?_
  refine fn_of_w (T := []) ho.sv (fun _ => rfl) (fn := Tryd.f9) (by kernel_rfl) rfl rfl ?_
  refine wo ?_
  first | (apply p_op; exact (vwant_n rfl); iterate 4 exact rfl) | (apply d_op; exact (vwant_n rfl); exact rfl; exact noRd rfl; decide +kernel; (iterate 3 exact rfl); rotate_left) | (apply p_op; exact (vwant_g rfl rfl rfl); iterate 4 exact rfl) | (apply d_op; exact (vwant_g rfl rfl rfl); exact rfl; exact noRd rfl; decide +kernel; (iterate 3 exact rfl); rotate_left)
  refine e_bs (C := []) rfl rfl .nil rfl fun bn => ⟨_, rfl, ?_⟩
  try (case hok => first | exact rdOk_nil | exact rdOk_b (by decide +kernel))
  refine wo ?_
  first | (apply p_op; exact (vwant_n rfl); iterate 4 exact rfl) | (apply d_op; exact (vwant_n rfl); exact rfl; exact noRd rfl; decide +kernel; (iterate 3 exact rfl); rotate_left) | (apply p_op; exact (vwant_g rfl rfl rfl); iterate 4 exact rfl) | (apply d_op; exact (vwant_g rfl rfl rfl); exact rfl; exact noRd rfl; decide +kernel; (iterate 3 exact rfl); rotate_left)
  refine e_lit (new := xs.map byV) rfl rfl hA.z (by simp) u8_one (by omega) fun b1 o1 oo h1 => ⟨_, rfl, ?_⟩
  try (case hok => first | exact rdOk_nil | exact rdOk_b (by decide +kernel))
  refine wo ?_
  first | (apply p_op; exact (vwant_n rfl); iterate 4 exact rfl) | (apply d_op; exact (vwant_n rfl); exact rfl; exact noRd rfl; decide +kernel; (iterate 3 exact rfl); rotate_left) | (apply p_op; exact (vwant_g rfl rfl rfl); iterate 4 exact rfl) | (apply d_op; exact (vwant_g rfl rfl rfl); exact rfl; exact noRd rfl; decide +kernel; (iterate 3 exact rfl); rotate_left)
  refine e_bs (C := markB.map byV) rfl rfl (.cons rfl rfl (.cons rfl rfl (.cons rfl rfl (.cons rfl rfl .nil)))) rfl fun bm => ⟨_, rfl, ?_⟩
  try (case hok => first | exact rdOk_nil | exact rdOk_b (by decide +kernel))
  first | (apply p_op; exact (vwant_n rfl); iterate 4 exact rfl) | (apply d_op; exact (vwant_n rfl); exact rfl; exact noRd rfl; decide +kernel; (iterate 3 exact rfl); rotate_left) | (apply p_op; exact (vwant_g rfl rfl rfl); iterate 4 exact rfl) | (apply d_op; exact (vwant_g rfl rfl rfl); exact rfl; exact noRd rfl; decide +kernel; (iterate 3 exact rfl); rotate_left)
  refine e_appU (old := xs.map byV) (new := markB.map byV) rfl rfl h1 (by simp) (rz_loc (k := 4) rfl) rfl (by decide) u8_one (by omega) fun b2 => ⟨_, rfl, ?_⟩
  try (case hok => first | exact rdOk_nil | exact rdOk_b (by decide +kernel))
  dsimp only [List.set]
  rw [← List.map_append]
  refine wo ?_
  first | refine zX (m_slo0 rfl bl_none (bl_some rfl) (by omega)) ?_ | refine yX (m_slo0 rfl bl_none (bl_some rfl) (by omega)) ?_
  refine wo ?_
  exact w_ret (wend_ret (vres1 (rv_tmp rfl)) ⟨[_], _, rfl, _, rfl, b2, rfl, rfl⟩)
theorem aswas_d {b0 : Nat} {A : Option (Nat × Nat)} {xs : List UInt8} {c : Nat} {op : Bool} {hp : Hp} (ho : OkH hp) (hR : RB ⟨hp, []⟩ (some (b0, 0)) ((xs ++ markB).map byV)) (hA : RB ⟨hp, []⟩ A (xs.map byV)) (hl : xs.length ≤ 140737488355328) :
    Fn kxD 12 [.sl (some (b0, 0)) xs.length (xs.length + 4) true, .sl A xs.length c op] hp [] fun r _ => r = .v (.b true) := by
  have hm : xs.length + 4 = (xs ++ markB).length := by simp [markB]
  refine fn_of_w (T := []) ho.sv (fun _ => rfl) (fn := Tryd.f12) (by kernel_rfl) rfl rfl ?_
  refine wo ?_
  first | refine zX (m_slo0 rfl bl_none (bl_some rfl) (by omega)) ?_ | refine yX (m_slo0 rfl bl_none (bl_some rfl) (by omega)) ?_
  rw [hm]
  first | (apply wm; iterate 5 exact rfl) | (apply dm; iterate 6 exact rfl) | (apply wmg; iterate 7 exact rfl) | (apply dmg; iterate 8 exact rfl)
  refine m_b2so (xs := xs ++ markB) rfl hR.1 hR.2
  refine wo ?_
  first | (apply wm; iterate 5 exact rfl) | (apply dm; iterate 6 exact rfl) | (apply wmg; iterate 7 exact rfl) | (apply dmg; iterate 8 exact rfl)
  refine m_b2so rfl hA.1 hA.2
  first | (apply wm; iterate 5 exact rfl) | (apply dm; iterate 6 exact rfl) | (apply wmg; iterate 7 exact rfl) | (apply dmg; iterate 8 exact rfl)
  refine m_cat (y := markB) rfl rfl (by simp [markB]; omega)
  first | (apply wm; iterate 5 exact rfl) | (apply dm; iterate 6 exact rfl) | (apply wmg; iterate 7 exact rfl) | (apply dmg; iterate 8 exact rfl)
  refine m_eqs rfl rfl
  rw [beq_self_eq_true]
  refine wo ?_
  exact w_ret (wend_ret (vres1 (rv_tmp rfl)) rfl)
def bitsM (n : Int) : Nat := 8 + (n.tmod 249 + 249).toNat % 249
theorem bitsM_le (n : Int) : 8 ≤ bitsM n ∧ bitsM n ≤ 256 := by
  unfold bitsM
  have := Nat.mod_lt (n.tmod 249 + 249).toNat (show 0 < 249 by omega)
  omega
theorem bitsOf_d {n : Int} {hp : Hp} (ho : OkH hp) : Fn kxD 4 [.i .i64 n] hp [] fun r _ => r = .v (.i .i64 ((bitsM n : Nat) : Int)) := by
  have h1 : (n.tmod 249).natAbs = n.natAbs % 249 := by rw [Int.natAbs_tmod]; rfl
  have h2 := Nat.mod_lt n.natAbs (show 0 < 249 by omega)
  refine fn_of_w (T := []) ho.sv (fun _ => rfl) (fn := Tryd.f4) (by kernel_rfl) rfl rfl ?_
  refine wo ?_
  first | (apply wm; iterate 5 exact rfl) | (apply dm; iterate 6 exact rfl) | (apply wmg; iterate 7 exact rfl) | (apply dmg; iterate 8 exact rfl)
  refine m_remI rfl rfl (by decide)
  first | (apply wm; iterate 5 exact rfl) | (apply dm; iterate 6 exact rfl) | (apply wmg; iterate 7 exact rfl) | (apply dmg; iterate 8 exact rfl)
  refine m_addI rfl rfl (by omega)
  rw [show n.tmod 249 + 249 = (((n.tmod 249 + 249).toNat : Nat) : Int) by omega]
  first | (apply wm; iterate 5 exact rfl) | (apply dm; iterate 6 exact rfl) | (apply wmg; iterate 7 exact rfl) | (apply dmg; iterate 8 exact rfl)
  refine m_remN rfl rfl (by decide)
  have h3 := Nat.mod_lt (n.tmod 249 + 249).toNat (show 0 < 249 by omega)
  refine wo ?_
  exact w_ret (wend_ret (vres1 (rv_tmp rfl)) (by unfold bitsM; rfl))
theorem zsecret_d {hp : Hp} (ho : OkH hp) : Fn kxD 6 [] hp [] fun r N => ∃ u, r = .v u ∧ ∃ b, u = .sl (some (b, 0)) 32 32 false ∧ N = [(some b, cellsO ((List.replicate 32 (0 : UInt8)).map byV) 5)] := by
  refine fn_of_w (T := []) ho.sv (fun _ => rfl) (fn := Tryd.f6) (by kernel_rfl) rfl rfl ?_
  refine wo ?_
  first | (apply p_op; exact (vwant_n rfl); iterate 4 exact rfl) | (apply d_op; exact (vwant_n rfl); exact rfl; exact noRd rfl; decide +kernel; (iterate 3 exact rfl); rotate_left) | (apply p_op; exact (vwant_g rfl rfl rfl); iterate 4 exact rfl) | (apply d_op; exact (vwant_g rfl rfl rfl); exact rfl; exact noRd rfl; decide +kernel; (iterate 3 exact rfl); rotate_left)
  refine ev_mks (m := 32) (c := 32) rfl rfl rfl rfl rfl rfl (by decide) (by decide) rfl fun bz => ⟨_, rfl, ?_⟩
  try (case hok => first | exact rdOk_nil | exact rdOk_b (by decide +kernel))
  refine wo ?_
  exact w_ret (wend_ret (vres1 (rv_tmp rfl)) ⟨_, rfl, bz, rfl, rfl⟩)
end Go.Proofs.YtlpcelcaahfafaaDoor
/- Dn4: the statement NodeRefers on the machine. By this project. -/
set_option maxRecDepth 100000
namespace Go.Proofs.YtlpcelcaahfafaaDoor
open Go.RowKit Go.Extern.Stop

theorem num_d {hp : Hp} (ho : OkH hp) : Fn kxD 7 [.i .i64 0] hp [] fun r _ => r = .v (.i .i64 0) := by
  refine fn_of_w (T := []) ho.sv (fun _ => rfl) (fn := Tryd.f7) (by kernel_rfl) rfl rfl ?_
  refine wo ?_
  exact w_ret (wend_ret (vres1 (rv_tmp rfl)) rfl)
set_option maxHeartbeats 32000000 in
theorem refers_d {n : Int} {A : Option (Nat × Nat)} {xs : List UInt8} {c : Nat} {hp : Hp} (ho : OkH hp) (hk : Tab ⟨hp, []⟩) (hr : RTab ⟨hp, []⟩) (hA : RB ⟨hp, []⟩ A (xs.map byV)) (hc : xs.length ≤ c) (hx : xs.length ≤ 140737488355328) :
    Fn kxD 3 [.i .i64 n, .sl A xs.length c false] hp [] fun r _ => r = .v (.b true) := by
  obtain ⟨hb1, hb2⟩ := bitsM_le n
  have hsl : (List.replicate 32 (0 : UInt8)).length = 32 := rfl
  have hlen : ∀ v, (V.i .i64 (refK xs) :: ((refH (bitsM n) xs).map byV ++ [v])).length = 34 := fun v => refC_len (refH_len _ _)
  have hall : ∀ {l : List V}, l.length = 34 → (l.drop 0).take (33 + 1) = l := fun h => by rw [List.drop_zero]; exact List.take_of_length_le (by omega)
  have hin : (((xs ++ markB).map byV).drop 0).take (xs.map byV).length = xs.map byV := by simp
  have hh := refH_len (bitsM n) xs
  refine fn_of_w (T := []) ho.sv (fun _ => rfl) (fn := Tryd.f3) (by kernel_rfl) rfl rfl ?_
  refine wo ?_
  first | refine p_callq (vwant_n rfl) rfl rfl rfl rfl (fun hp hs => bitsOf_d hs.ok) ?_ | refine d_callq (vwant_n rfl) (by decide +kernel) rfl rfl rfl rfl (fun hp hs => bitsOf_d hs.ok) ?_ | refine d_callq0 (vwant_n rfl) (by decide +kernel) rfl rfl rfl rfl (fun hp hs => bitsOf_d hs.ok) ?_ | refine p_callq (vwant_g rfl rfl rfl) rfl rfl rfl rfl (fun hp hs => bitsOf_d hs.ok) ?_ | refine d_callq (vwant_g rfl rfl rfl) (by decide +kernel) rfl rfl rfl rfl (fun hp hs => bitsOf_d hs.ok) ?_ | refine d_callq0 (vwant_g rfl rfl rfl) (by decide +kernel) rfl rfl rfl rfl (fun hp hs => bitsOf_d hs.ok) ?_
  generalize bitsM n = nb at hb1 hb2 hlen hh ⊢
  refine wo ?_
  first | (apply p_callY []; exact (vwant_n rfl); iterate 4 exact rfl) | (apply d_callY []; exact (vwant_n rfl); decide +kernel; (iterate 4 exact rfl)) | (apply p_callY []; exact (vwant_g rfl rfl rfl); iterate 4 exact rfl) | (apply d_callY []; exact (vwant_g rfl rfl rfl); decide +kernel; (iterate 4 exact rfl))
  try (case hok => first | exact rdOk_nil | exact rdOk_b (by decide +kernel) | exact rdOk_c)
  case hC => exact (fun hp hs ht => zsecret_d hs.ok)
  rintro u N ⟨bz, rfl, rfl⟩
  refine wo ?_
  first | (apply p_callY []; exact (vwant_n rfl); iterate 4 exact rfl) | (apply d_callY []; exact (vwant_n rfl); decide +kernel; (iterate 4 exact rfl)) | (apply p_callY []; exact (vwant_g rfl rfl rfl); iterate 4 exact rfl) | (apply d_callY []; exact (vwant_g rfl rfl rfl); decide +kernel; (iterate 4 exact rfl))
  try (case hok => first | exact rdOk_nil | exact rdOk_b (by decide +kernel) | exact rdOk_c)
  case hC => exact (fun hp hs ht => new_s (bits := nb) (cb := 256) hsl hs.ok (rb_own0 hs (i := 0) rfl (List.take_of_length_le (Nat.le_refl _))) hsl hb1 hb2 (by decide) (by decide))
  rintro u N ⟨b, B, rfl, s1, rfl⟩
  refine wo ?_
  first | refine p_callq (vwant_n rfl) rfl rfl rfl rfl (fun hp hs => num_d hs.ok) ?_ | refine d_callq (vwant_n rfl) (by decide +kernel) rfl rfl rfl rfl (fun hp hs => num_d hs.ok) ?_ | refine d_callq0 (vwant_n rfl) (by decide +kernel) rfl rfl rfl rfl (fun hp hs => num_d hs.ok) ?_ | refine p_callq (vwant_g rfl rfl rfl) rfl rfl rfl rfl (fun hp hs => num_d hs.ok) ?_ | refine d_callq (vwant_g rfl rfl rfl) (by decide +kernel) rfl rfl rfl rfl (fun hp hs => num_d hs.ok) ?_ | refine d_callq0 (vwant_g rfl rfl rfl) (by decide +kernel) rfl rfl rfl rfl (fun hp hs => num_d hs.ok) ?_
  first | (apply wm; iterate 5 exact rfl) | (apply dm; iterate 6 exact rfl) | (apply wmg; iterate 7 exact rfl) | (apply dmg; iterate 8 exact rfl)
  refine mv_int (v := .b false) rfl rfl (vi_neqF (by omega))
  refine wo ?_
  first | (apply wm; iterate 5 exact rfl) | (apply dm; iterate 6 exact rfl) | (apply wmg; iterate 7 exact rfl) | (apply dmg; iterate 8 exact rfl)
  refine m_eqp rfl rfl
  refine wo ?_
  first | (apply p_callY []; exact (vwant_n rfl); iterate 4 exact rfl) | (apply d_callY []; exact (vwant_n rfl); decide +kernel; (iterate 4 exact rfl)) | (apply p_callY []; exact (vwant_g rfl rfl rfl); iterate 4 exact rfl) | (apply d_callY []; exact (vwant_g rfl rfl rfl); decide +kernel; (iterate 4 exact rfl))
  try (case hok => first | exact rdOk_nil | exact rdOk_b (by decide +kernel) | exact rdOk_c)
  case hC => exact (fun hp hs ht => rrefer_d hs.ok (hr.give0 hs) (hA.give0 hs) hx hb2)
  rintro u X1 ⟨A1, c1, o1, rfl, e1⟩
  first | (apply p_op; exact (vwant_n rfl); iterate 4 exact rfl) | (apply d_op; exact (vwant_n rfl); exact rfl; exact noRd rfl; decide +kernel; (iterate 3 exact rfl); rotate_left) | (apply p_op; exact (vwant_g rfl rfl rfl); iterate 4 exact rfl) | (apply d_op; exact (vwant_g rfl rfl rfl); exact rfl; exact noRd rfl; decide +kernel; (iterate 3 exact rfl); rotate_left)
  refine e_alloc rfl fun bw => ⟨_, rfl, ?_⟩
  try (case hok => first | exact rdOk_nil | exact rdOk_b (by decide +kernel))
  first | (apply p_do; exact (vwant_n rfl); exact rfl; exact rfl) | (apply d_do; exact (vwant_n rfl); exact rfl; exact noRd rfl; decide +kernel; exact rfl; rotate_left) | (apply p_do; exact (vwant_g rfl rfl rfl); exact rfl; exact rfl) | (apply d_do; exact (vwant_g rfl rfl rfl); exact rfl; exact noRd rfl; decide +kernel; exact rfl; rotate_left)
  refine e_stn (C' := .i .i64 (refK xs) :: ((refH nb xs).map byV ++ [.sl A1 (refN xs).length c1 o1])) rfl rfl (by simp) (hlen _) (Nat.le_of_ble_eq_true rfl) (overV_all (hlen _)) ⟨_, rfl, ?_⟩
  try (case hok => first | exact rdOk_nil | exact rdOk_b (by decide +kernel))
  refine wo ?_
  first | (apply p_callY []; exact (vwant_n rfl); iterate 4 exact rfl) | (apply d_callY []; exact (vwant_n rfl); decide +kernel; (iterate 4 exact rfl)) | (apply p_callY []; exact (vwant_g rfl rfl rfl); iterate 4 exact rfl) | (apply d_callY []; exact (vwant_g rfl rfl rfl); decide +kernel; (iterate 4 exact rfl))
  try (case hok => first | exact rdOk_nil | exact rdOk_b (by decide +kernel) | exact rdOk_c)
  case hC => exact (fun hp hs ht => roomy_d hs.ok (hA.give0 hs) hx)
  rintro u N ⟨bi, rfl, rfl⟩
  refine wo ?_
  first | (apply p_callM (bkL B); exact (vwant_n rfl); iterate 4 exact rfl) | (apply d_callM (bkL B); exact (vwant_n rfl); decide +kernel; (iterate 4 exact rfl)) | (apply p_callM (bkL B); exact (vwant_g rfl rfl rfl); iterate 4 exact rfl) | (apply d_callM (bkL B); exact (vwant_g rfl rfl rfl); decide +kernel; (iterate 4 exact rfl))
  try (case hok => first | exact rdOk_nil | exact rdOk_b (by decide +kernel) | exact rdOk_c)
  case hC => exact (fun hp hs ht => nrefer_d (xs := xs) s1 ht (hk.give hs) (rb_at hs hin) ⟨by omega, fun _ => by omega⟩ hx (by decide))
  rintro u N ⟨A2, c2, o2, X2, B2, ha2, rfl, e2, s2, l2, rfl⟩
  refine wl_heap (L' := X2 ++ (bkL B2 ++ _)) (fun hp h => by rw [← List.append_assoc]; exact h) ?_
  first | (apply p_op; exact (vwant_n rfl); iterate 4 exact rfl) | (apply d_op; exact (vwant_n rfl); exact rfl; exact noRd rfl; decide +kernel; (iterate 3 exact rfl); rotate_left) | (apply p_op; exact (vwant_g rfl rfl rfl); iterate 4 exact rfl) | (apply d_op; exact (vwant_g rfl rfl rfl); exact rfl; exact noRd rfl; decide +kernel; (iterate 3 exact rfl); rotate_left)
  refine e_alloc rfl fun br => ⟨_, rfl, ?_⟩
  try (case hok => first | exact rdOk_nil | exact rdOk_b (by decide +kernel))
  first | (apply p_do; exact (vwant_n rfl); exact rfl; exact rfl) | (apply d_do; exact (vwant_n rfl); exact rfl; exact noRd rfl; decide +kernel; exact rfl; rotate_left) | (apply p_do; exact (vwant_g rfl rfl rfl); exact rfl; exact rfl) | (apply d_do; exact (vwant_g rfl rfl rfl); exact rfl; exact noRd rfl; decide +kernel; exact rfl; rotate_left)
  refine e_stn (C' := .i .i64 (refK xs) :: ((refH nb xs).map byV ++ [.sl A2 (refN xs).length c2 o2])) rfl rfl (by simp) (hlen _) (Nat.le_of_ble_eq_true rfl) (overV_all (hlen _)) ⟨_, rfl, ?_⟩
  try (case hok => first | exact rdOk_nil | exact rdOk_b (by decide +kernel))
  refine wo ?_
  first | refine p_callq (vwant_n rfl) rfl rfl rfl rfl (fun hp hs => nrefer0_d hs.ok) ?_ | refine d_callq (vwant_n rfl) (by decide +kernel) rfl rfl rfl rfl (fun hp hs => nrefer0_d hs.ok) ?_ | refine d_callq0 (vwant_n rfl) (by decide +kernel) rfl rfl rfl rfl (fun hp hs => nrefer0_d hs.ok) ?_ | refine p_callq (vwant_g rfl rfl rfl) rfl rfl rfl rfl (fun hp hs => nrefer0_d hs.ok) ?_ | refine d_callq (vwant_g rfl rfl rfl) (by decide +kernel) rfl rfl rfl rfl (fun hp hs => nrefer0_d hs.ok) ?_ | refine d_callq0 (vwant_g rfl rfl rfl) (by decide +kernel) rfl rfl rfl rfl (fun hp hs => nrefer0_d hs.ok) ?_
  first | (apply p_op; exact (vwant_n rfl); iterate 4 exact rfl) | (apply d_op; exact (vwant_n rfl); exact rfl; exact noRd rfl; decide +kernel; (iterate 3 exact rfl); rotate_left) | (apply p_op; exact (vwant_g rfl rfl rfl); iterate 4 exact rfl) | (apply d_op; exact (vwant_g rfl rfl rfl); exact rfl; exact noRd rfl; decide +kernel; (iterate 3 exact rfl); rotate_left)
  refine e_alloc rfl fun bn => ⟨_, rfl, ?_⟩
  try (case hok => first | exact rdOk_nil | exact rdOk_b (by decide +kernel))
  first | (apply p_do; exact (vwant_n rfl); exact rfl; exact rfl) | (apply d_do; exact (vwant_n rfl); exact rfl; exact noRd rfl; decide +kernel; exact rfl; rotate_left) | (apply p_do; exact (vwant_g rfl rfl rfl); exact rfl; exact rfl) | (apply d_do; exact (vwant_g rfl rfl rfl); exact rfl; exact noRd rfl; decide +kernel; exact rfl; rotate_left)
  refine e_stn (C' := .i .i64 0 :: ((List.replicate 32 (0 : UInt8)).map byV ++ [.sl none 0 0 false])) rfl rfl (by simp) rfl (Nat.le_of_ble_eq_true rfl) rfl ⟨_, rfl, ?_⟩
  try (case hok => first | exact rdOk_nil | exact rdOk_b (by decide +kernel))
  refine wo ?_
  first | refine zX (m_ldln (s := 33) (cs := .i .i64 (refK xs) :: ((refH nb xs).map byV ++ [.sl A2 (refN xs).length c2 o2])) rfl (hall (hlen _)) (hlen _)) ?_ | refine yX (m_ldln (s := 33) (cs := .i .i64 (refK xs) :: ((refH nb xs).map byV ++ [.sl A2 (refN xs).length c2 o2])) rfl (hall (hlen _)) (hlen _)) ?_
  first | refine zX (m_ldln (s := 33) (cs := .i .i64 (refK xs) :: ((refH nb xs).map byV ++ [.sl A1 (refN xs).length c1 o1])) rfl (hall (hlen _)) (hlen _)) ?_ | refine yX (m_ldln (s := 33) (cs := .i .i64 (refK xs) :: ((refH nb xs).map byV ++ [.sl A1 (refN xs).length c1 o1])) rfl (hall (hlen _)) (hlen _)) ?_
  first | refine p_callq (vwant_n rfl) rfl rfl rfl rfl (fun hp hs => sameref_d hs.ok hh (e2.h hs (fun p hp => by simp [hp])) (e1.h hs (fun p hp => by simp [hp]))) ?_ | refine d_callq (vwant_n rfl) (by decide +kernel) rfl rfl rfl rfl (fun hp hs => sameref_d hs.ok hh (e2.h hs (fun p hp => by simp [hp])) (e1.h hs (fun p hp => by simp [hp]))) ?_ | refine d_callq0 (vwant_n rfl) (by decide +kernel) rfl rfl rfl rfl (fun hp hs => sameref_d hs.ok hh (e2.h hs (fun p hp => by simp [hp])) (e1.h hs (fun p hp => by simp [hp]))) ?_ | refine p_callq (vwant_g rfl rfl rfl) rfl rfl rfl rfl (fun hp hs => sameref_d hs.ok hh (e2.h hs (fun p hp => by simp [hp])) (e1.h hs (fun p hp => by simp [hp]))) ?_ | refine d_callq (vwant_g rfl rfl rfl) (by decide +kernel) rfl rfl rfl rfl (fun hp hs => sameref_d hs.ok hh (e2.h hs (fun p hp => by simp [hp])) (e1.h hs (fun p hp => by simp [hp]))) ?_ | refine d_callq0 (vwant_g rfl rfl rfl) (by decide +kernel) rfl rfl rfl rfl (fun hp hs => sameref_d hs.ok hh (e2.h hs (fun p hp => by simp [hp])) (e1.h hs (fun p hp => by simp [hp]))) ?_
  refine wo ?_
  first | refine zX (m_ldln (s := 33) (cs := .i .i64 0 :: ((List.replicate 32 (0 : UInt8)).map byV ++ [.sl none 0 0 false])) rfl rfl rfl) ?_ | refine yX (m_ldln (s := 33) (cs := .i .i64 0 :: ((List.replicate 32 (0 : UInt8)).map byV ++ [.sl none 0 0 false])) rfl rfl rfl) ?_
  first | (apply wn; iterate 5 exact rfl) | (apply dn; iterate 5 exact rfl) | (apply wg; iterate 7 exact rfl) | (apply dg; iterate 7 exact rfl)
  refine p_buildS (C := .i .i64 0 :: ((List.replicate 32 (0 : UInt8)).map byV ++ [.sl none 0 0 false])) .nil (by rfl)
  first | refine p_callq (vwant_n rfl) rfl rfl rfl rfl (fun hp hs => sameref_d (k := 0) (h := List.replicate 32 0) (ys := []) hs.ok rfl RB.nil RB.nil) ?_ | refine d_callq (vwant_n rfl) (by decide +kernel) rfl rfl rfl rfl (fun hp hs => sameref_d (k := 0) (h := List.replicate 32 0) (ys := []) hs.ok rfl RB.nil RB.nil) ?_ | refine d_callq0 (vwant_n rfl) (by decide +kernel) rfl rfl rfl rfl (fun hp hs => sameref_d (k := 0) (h := List.replicate 32 0) (ys := []) hs.ok rfl RB.nil RB.nil) ?_ | refine p_callq (vwant_g rfl rfl rfl) rfl rfl rfl rfl (fun hp hs => sameref_d (k := 0) (h := List.replicate 32 0) (ys := []) hs.ok rfl RB.nil RB.nil) ?_ | refine d_callq (vwant_g rfl rfl rfl) (by decide +kernel) rfl rfl rfl rfl (fun hp hs => sameref_d (k := 0) (h := List.replicate 32 0) (ys := []) hs.ok rfl RB.nil RB.nil) ?_ | refine d_callq0 (vwant_g rfl rfl rfl) (by decide +kernel) rfl rfl rfl rfl (fun hp hs => sameref_d (k := 0) (h := List.replicate 32 0) (ys := []) hs.ok rfl RB.nil RB.nil) ?_
  refine wo ?_
  first | refine p_callq (vwant_n rfl) rfl rfl rfl rfl (fun hp hs => aswas_d (xs := xs) hs.ok (rb_at0 hs (List.take_of_length_le (Nat.le_refl _))) (hA.give0 hs) hx) ?_ | refine d_callq (vwant_n rfl) (by decide +kernel) rfl rfl rfl rfl (fun hp hs => aswas_d (xs := xs) hs.ok (rb_at0 hs (List.take_of_length_le (Nat.le_refl _))) (hA.give0 hs) hx) ?_ | refine d_callq0 (vwant_n rfl) (by decide +kernel) rfl rfl rfl rfl (fun hp hs => aswas_d (xs := xs) hs.ok (rb_at0 hs (List.take_of_length_le (Nat.le_refl _))) (hA.give0 hs) hx) ?_ | refine p_callq (vwant_g rfl rfl rfl) rfl rfl rfl rfl (fun hp hs => aswas_d (xs := xs) hs.ok (rb_at0 hs (List.take_of_length_le (Nat.le_refl _))) (hA.give0 hs) hx) ?_ | refine d_callq (vwant_g rfl rfl rfl) (by decide +kernel) rfl rfl rfl rfl (fun hp hs => aswas_d (xs := xs) hs.ok (rb_at0 hs (List.take_of_length_le (Nat.le_refl _))) (hA.give0 hs) hx) ?_ | refine d_callq0 (vwant_g rfl rfl rfl) (by decide +kernel) rfl rfl rfl rfl (fun hp hs => aswas_d (xs := xs) hs.ok (rb_at0 hs (List.take_of_length_le (Nat.le_refl _))) (hA.give0 hs) hx) ?_
  refine wo ?_
  refine w_seq ?_
  refine wo ?_
  refine w_front bi fun r0 hr0 => ?_
  refine w_loop (ι := Nat × List UInt8) (fun s => [(56, .i .i64 (s.1 : Nat)), (55, .i .i64 (xs.length : Nat)), (10, .p (some (br, 0))), (9, .sl (some (bi, 0)) xs.length (xs.length + 4) true), (8, .p (some (bw, 0))), (6, .p (some (b, 0))), (5, .i .i64 (nb : Nat))])
    (fun s => (some bi, .cells (s.2.map byV) 5 (some 1) false) :: r0) (fun s => s.1 ≤ xs.length ∧ s.2.length = xs.length + 4) (fun s => xs.length - s.1) (0, xs ++ markB) ⟨Nat.zero_le _, by simp [markB]⟩ ⟨rfl, rfl, rfl, rfl, rfl, rfl, rfl, trivial⟩ (fun hp h => h) ?_
  intro ⟨i, ys⟩ ⟨hi, hy⟩
  dsimp only at hi hy ⊢
  refine wo ?_
  by_cases g : i < xs.length
  · obtain ⟨y, hv⟩ : ∃ y, ys[i]? = some y := ⟨ys[i], List.getElem?_eq_getElem (by omega)⟩
    first | (apply wm; iterate 5 exact rfl) | (apply dm; iterate 6 exact rfl) | (apply wmg; iterate 7 exact rfl) | (apply dmg; iterate 8 exact rfl)
    refine mv_int (v := .b true) rfl rfl (vi_lssT (by omega))
    refine wo ?_
    first | (apply wn; iterate 5 exact rfl) | (apply dn; iterate 5 exact rfl) | (apply wg; iterate 7 exact rfl) | (apply dg; iterate 7 exact rfl)
    refine p_ia rfl rfl g
    first | refine zX (m_ldl (v := byV y) rfl (by rw [Nat.zero_add, List.getElem?_map, hv]; rfl)) ?_ | refine yX (m_ldl (v := byV y) rfl (by rw [Nat.zero_add, List.getElem?_map, hv]; rfl)) ?_
    first | (apply wm; iterate 5 exact rfl) | (apply dm; iterate 6 exact rfl) | (apply wmg; iterate 7 exact rfl) | (apply dmg; iterate 8 exact rfl)
    refine m_xorB (y := 60) rfl rfl
    first | (apply wn; iterate 5 exact rfl) | (apply dn; iterate 5 exact rfl) | (apply wg; iterate 7 exact rfl) | (apply dg; iterate 7 exact rfl)
    refine p_ia rfl rfl g
    first | (apply p_do; exact (vwant_n rfl); exact rfl; exact rfl) | (apply d_do; exact (vwant_n rfl); exact rfl; exact noRd rfl; decide +kernel; exact rfl; rotate_left) | (apply p_do; exact (vwant_g rfl rfl rfl); exact rfl; exact rfl) | (apply d_do; exact (vwant_g rfl rfl rfl); exact rfl; exact noRd rfl; decide +kernel; exact rfl; rotate_left)
    refine e_st (C := ys.map byV) (C' := (ys.set i (y ^^^ 60)).map byV) rfl rfl rfl (by rw [List.length_map]; omega) (by rw [Nat.zero_add, ← List.map_set]) ⟨_, rfl, ?_⟩
    try (case hok => first | exact rdOk_nil | exact rdOk_b (by decide +kernel))
    refine wo ?_
    exact ⟨rfl, (i + 1, ys.set i (y ^^^ 60)), ⟨g, by rw [List.length_set]; exact hy⟩, by dsimp only; omega, ⟨rfl, rfl, rfl, rfl, rfl, rfl, rfl, trivial⟩, fun hp h => h⟩
  first | (apply wm; iterate 5 exact rfl) | (apply dm; iterate 6 exact rfl) | (apply wmg; iterate 7 exact rfl) | (apply dmg; iterate 8 exact rfl)
  refine mv_int (v := .b false) rfl rfl (vi_lssF (by omega))
  refine wo ?_
  refine w_exit ?_
  subst hr0
  refine wo ?_
  first | refine zX (m_ldln (s := 33) (cs := .i .i64 (refK xs) :: ((refH nb xs).map byV ++ [.sl A2 (refN xs).length c2 o2])) rfl (hall (hlen _)) (hlen _)) ?_ | refine yX (m_ldln (s := 33) (cs := .i .i64 (refK xs) :: ((refH nb xs).map byV ++ [.sl A2 (refN xs).length c2 o2])) rfl (hall (hlen _)) (hlen _)) ?_
  first | refine zX (m_ldln (s := 33) (cs := .i .i64 (refK xs) :: ((refH nb xs).map byV ++ [.sl A1 (refN xs).length c1 o1])) rfl (hall (hlen _)) (hlen _)) ?_ | refine yX (m_ldln (s := 33) (cs := .i .i64 (refK xs) :: ((refH nb xs).map byV ++ [.sl A1 (refN xs).length c1 o1])) rfl (hall (hlen _)) (hlen _)) ?_
  first | refine p_callq (vwant_n rfl) rfl rfl rfl rfl (fun hp hs => sameref_d hs.ok hh (e2.h hs (fun p hp => by simp [hp])) (e1.h hs (fun p hp => by simp [hp]))) ?_ | refine d_callq (vwant_n rfl) (by decide +kernel) rfl rfl rfl rfl (fun hp hs => sameref_d hs.ok hh (e2.h hs (fun p hp => by simp [hp])) (e1.h hs (fun p hp => by simp [hp]))) ?_ | refine d_callq0 (vwant_n rfl) (by decide +kernel) rfl rfl rfl rfl (fun hp hs => sameref_d hs.ok hh (e2.h hs (fun p hp => by simp [hp])) (e1.h hs (fun p hp => by simp [hp]))) ?_ | refine p_callq (vwant_g rfl rfl rfl) rfl rfl rfl rfl (fun hp hs => sameref_d hs.ok hh (e2.h hs (fun p hp => by simp [hp])) (e1.h hs (fun p hp => by simp [hp]))) ?_ | refine d_callq (vwant_g rfl rfl rfl) (by decide +kernel) rfl rfl rfl rfl (fun hp hs => sameref_d hs.ok hh (e2.h hs (fun p hp => by simp [hp])) (e1.h hs (fun p hp => by simp [hp]))) ?_ | refine d_callq0 (vwant_g rfl rfl rfl) (by decide +kernel) rfl rfl rfl rfl (fun hp hs => sameref_d hs.ok hh (e2.h hs (fun p hp => by simp [hp])) (e1.h hs (fun p hp => by simp [hp]))) ?_
  refine wo ?_
  first | refine p_callq (vwant_n rfl) rfl rfl rfl rfl (fun hp hs => nempty0_d hs.ok) ?_ | refine d_callq (vwant_n rfl) (by decide +kernel) rfl rfl rfl rfl (fun hp hs => nempty0_d hs.ok) ?_ | refine d_callq0 (vwant_n rfl) (by decide +kernel) rfl rfl rfl rfl (fun hp hs => nempty0_d hs.ok) ?_ | refine p_callq (vwant_g rfl rfl rfl) rfl rfl rfl rfl (fun hp hs => nempty0_d hs.ok) ?_ | refine d_callq (vwant_g rfl rfl rfl) (by decide +kernel) rfl rfl rfl rfl (fun hp hs => nempty0_d hs.ok) ?_ | refine d_callq0 (vwant_g rfl rfl rfl) (by decide +kernel) rfl rfl rfl rfl (fun hp hs => nempty0_d hs.ok) ?_
  first | (apply wn; iterate 5 exact rfl) | (apply dn; iterate 5 exact rfl) | (apply wg; iterate 7 exact rfl) | (apply dg; iterate 7 exact rfl)
  refine p_buildA0 (Z := (List.replicate 32 (0 : UInt8)).map byV)
  first | (apply wm; iterate 5 exact rfl) | (apply dm; iterate 6 exact rfl) | (apply wmg; iterate 7 exact rfl) | (apply dmg; iterate 8 exact rfl)
  refine m_neqA rfl rfl rfl hsl hsl
  rw [decide_eq_true rfl]
  refine wo ?_
  first | (apply p_callM (bkL B2); exact (vwant_n rfl); iterate 4 exact rfl) | (apply d_callM (bkL B2); exact (vwant_n rfl); decide +kernel; (iterate 4 exact rfl)) | (apply p_callM (bkL B2); exact (vwant_g rfl rfl rfl); iterate 4 exact rfl) | (apply d_callM (bkL B2); exact (vwant_g rfl rfl rfl); decide +kernel; (iterate 4 exact rfl))
  try (case hok => first | exact rdOk_nil | exact rdOk_b (by decide +kernel) | exact rdOk_c)
  case hC => exact (fun hp hs ht => nempty_d s2 ht (hk.give hs) (Nat.lt_of_le_of_lt l2 (by decide)))
  rintro u N ⟨B3, ha3, rfl, s3, l3, rfl⟩
  have l2' : ha2.length ≤ 1 := l2
  have hcl : (cutB nb (sumB [128])).length = 32 := by rw [cutB_len, sumB_len]
  refine wo ?_
  first | (apply p_op; exact (vwant_n rfl); iterate 4 exact rfl) | (apply d_op; exact (vwant_n rfl); exact rfl; exact noRd rfl; decide +kernel; (iterate 3 exact rfl); rotate_left) | (apply p_op; exact (vwant_g rfl rfl rfl); iterate 4 exact rfl) | (apply d_op; exact (vwant_g rfl rfl rfl); exact rfl; exact noRd rfl; decide +kernel; (iterate 3 exact rfl); rotate_left)
  refine e_bs (C := [byV 128]) rfl rfl (.cons rfl rfl .nil) rfl fun bx => ⟨_, rfl, ?_⟩
  try (case hok => first | exact rdOk_nil | exact rdOk_b (by decide +kernel))
  first | refine p_callq (vwant_n rfl) rfl rfl rfl rfl (fun hp hs => rhash_d (xs := [128]) hs.ok (hr.give0 hs) (rb_own0 hs (i := 0) rfl rfl) (by decide) hb2) ?_ | refine d_callq (vwant_n rfl) (by decide +kernel) rfl rfl rfl rfl (fun hp hs => rhash_d (xs := [128]) hs.ok (hr.give0 hs) (rb_own0 hs (i := 0) rfl rfl) (by decide) hb2) ?_ | refine d_callq0 (vwant_n rfl) (by decide +kernel) rfl rfl rfl rfl (fun hp hs => rhash_d (xs := [128]) hs.ok (hr.give0 hs) (rb_own0 hs (i := 0) rfl rfl) (by decide) hb2) ?_ | refine p_callq (vwant_g rfl rfl rfl) rfl rfl rfl rfl (fun hp hs => rhash_d (xs := [128]) hs.ok (hr.give0 hs) (rb_own0 hs (i := 0) rfl rfl) (by decide) hb2) ?_ | refine d_callq (vwant_g rfl rfl rfl) (by decide +kernel) rfl rfl rfl rfl (fun hp hs => rhash_d (xs := [128]) hs.ok (hr.give0 hs) (rb_own0 hs (i := 0) rfl rfl) (by decide) hb2) ?_ | refine d_callq0 (vwant_g rfl rfl rfl) (by decide +kernel) rfl rfl rfl rfl (fun hp hs => rhash_d (xs := [128]) hs.ok (hr.give0 hs) (rb_own0 hs (i := 0) rfl rfl) (by decide) hb2) ?_
  first | (apply wm; iterate 5 exact rfl) | (apply dm; iterate 6 exact rfl) | (apply wmg; iterate 7 exact rfl) | (apply dmg; iterate 8 exact rfl)
  refine m_eqA rfl rfl rfl hcl hcl
  rw [decide_eq_true rfl]
  refine wo ?_
  first | (apply p_callM (bkL B3); exact (vwant_n rfl); iterate 4 exact rfl) | (apply d_callM (bkL B3); exact (vwant_n rfl); decide +kernel; (iterate 4 exact rfl)) | (apply p_callM (bkL B3); exact (vwant_g rfl rfl rfl); iterate 4 exact rfl) | (apply d_callM (bkL B3); exact (vwant_g rfl rfl rfl); decide +kernel; (iterate 4 exact rfl))
  try (case hok => first | exact rdOk_nil | exact rdOk_b (by decide +kernel) | exact rdOk_c)
  case hC => exact (fun hp hs ht => nempty_d s3 ht (hk.give hs) (by omega))
  rintro u N ⟨B4, ha4, rfl, s4, l4, rfl⟩
  refine wo ?_
  first | (apply p_op; exact (vwant_n rfl); iterate 4 exact rfl) | (apply d_op; exact (vwant_n rfl); exact rfl; exact noRd rfl; decide +kernel; (iterate 3 exact rfl); rotate_left) | (apply p_op; exact (vwant_g rfl rfl rfl); iterate 4 exact rfl) | (apply d_op; exact (vwant_g rfl rfl rfl); exact rfl; exact noRd rfl; decide +kernel; (iterate 3 exact rfl); rotate_left)
  refine e_bs (C := [byV 128]) rfl rfl (.cons rfl rfl .nil) rfl fun bx => ⟨_, rfl, ?_⟩
  try (case hok => first | exact rdOk_nil | exact rdOk_b (by decide +kernel))
  first | (apply p_callM (bkL B4); exact (vwant_n rfl); iterate 4 exact rfl) | (apply d_callM (bkL B4); exact (vwant_n rfl); decide +kernel; (iterate 4 exact rfl)) | (apply p_callM (bkL B4); exact (vwant_g rfl rfl rfl); iterate 4 exact rfl) | (apply d_callM (bkL B4); exact (vwant_g rfl rfl rfl); decide +kernel; (iterate 4 exact rfl))
  try (case hok => first | exact rdOk_nil | exact rdOk_b (by decide +kernel) | exact rdOk_c)
  case hC => exact (fun hp hs ht => hash_s (xs := [128]) s4 ht (hk.give hs) (rb_own hs (i := 0) rfl rfl) (Nat.le_refl 1) (by decide) (by omega))
  rintro u N ⟨rfl, B5, s5, rfl⟩
  first | (apply wm; iterate 5 exact rfl) | (apply dm; iterate 6 exact rfl) | (apply wmg; iterate 7 exact rfl) | (apply dmg; iterate 8 exact rfl)
  refine m_eqA rfl rfl rfl hcl hcl
  rw [decide_eq_true rfl]
  refine wo ?_
  exact w_ret (wend_ret (vres1 (rv_tmp rfl)) rfl)
end Go.Proofs.YtlpcelcaahfafaaDoor
namespace Go.Proofs.YtlpcelcaahfafaaDoor
open Go.ChangeShapes Go.WideShapes Go.ChangeAt Go.RowKit Go.Extern.Stop

theorem drnOwn : ownKnob Tryd.prog.godebug = none := by kernel_rfl
theorem drnLaidOut : laidOutB Tryd.prog = true := by kernel_rfl
set_option maxRecDepth 100000 in
theorem drnContract (H : Type) (enc : TypeId × Value → H) (W : World) (base : Nat) (args : Array Value) (ds gs : List (DataW H)) (before : List MemPlace)
    (hval : ∀ (j : Nat) t v, Tryd.f3.params[j]? = some t → args[j]? = some v → Value.okWide Tryd.prog W .any base t v)
    (hW : DataW.Whole enc Tryd.prog Tryd.f3.params.toList Rows.nodeRefersSpec.vars false W args.toList ds gs before) (hz : (DataW.weightsEach Tryd.prog (Tryd.f3.params.toList ++ Rows.nodeRefersSpec.plain.varTypes Tryd.prog) (ds ++ gs)).all (· ≤ reachBytes) = true) (hL : laidMetH Tryd.prog Rows.nodeRefersRow.laid W) (hS : W.ShapedOpen Tryd.prog) :
    Calls Tryd.prog 3 args W fun e W' => ∃ v, e = .returned v ∧ Rows.nodeRefersSpec.post enc Tryd.prog Tryd.f3 false true false false W args v W' := by
  have hW' := hW
  obtain ⟨p, q, hA0, hV, rfl, hfz, hnd⟩ := hW
  have hA : DataW.TrodAll enc Tryd.prog W 0 (fun _ => true) true Tryd.f3.params.toList args.toList ds p := hA0
  rw [Tryd.params3] at hA hval hz
  obtain ⟨v0, vs0, d0, ds0, p0, q0, e0, rfl, rfl, h0, r0⟩ := trodAll_cons hA
  obtain ⟨v1, vs1, d1, ds1, p1, q1, e1, rfl, rfl, h1, r1⟩ := trodAll_cons r0
  obtain ⟨rfl, rfl⟩ := trodAll_nil r1
  obtain rfl : args = #[v0, v1] := by cases args; simp_all
  obtain ⟨rfl, rfl⟩ := trodVars_none hV
  obtain ⟨n, rfl, _⟩ := okWide_int (IntT.h (P := Tryd.prog) (t := 3)) (hval 0 _ v0 rfl rfl)
  obtain ⟨b1, rfl, k1, o1, s1⟩ := open_bv (SliceT.h (P := Tryd.prog) (t := 22)) (IntT.h (P := Tryd.prog) (t := 5)) (by kernel_rfl) (hval 1 _ v1 rfl rfl) h1
  simp only [List.cons_append, List.nil_append, DataW.weightsEach, List.all_append, List.all_nil, List.append_nil, Bool.and_eq_true] at hz
  have l1 := bv_reach (t := 22) (e := 5) (by kernel_rfl) (by kernel_rfl) s1 hz.2.1
  obtain ⟨ps, hl, _⟩ := (show laidMet Tryd.prog Rows.nodeRefersRow.laid W from hL)
  have hG := r_gs hl hS
  have hb : ∀ q ∈ [b1], BvOk W q := fun q hq => by
    rw [List.mem_singleton.1 hq]; exact o1
  have hargs : renL (bvE [b1]) [.i .i64 n, bvV 0 b1] = some [.int .i64 n, .slice b1.A b1.xs.length b1.c] := by
    simp only [renL, ren_bv (bs := [b1]) (i := 0) rfl o1]
    rfl
  have hT := r_tab hG hb
  refine (bv_law (bs := [b1]) hG r_nb hb kxD_ok hargs (refers_d (law_okH hG r_nb hb) hT.1 hT.2 (law_ro hG r_nb hb (i := 0) rfl) k1 l1)).mono ?_
  rintro e W' ⟨rfl, hb⟩
  exact ⟨_, rfl, law_post hW' drnLaidOut (by kernel_rfl) rfl (by kernel_rfl) rfl rfl rfl rfl hb⟩

/-- A world for the witness: the settled one, the tables holding what their initialisers lay. -/
def drnCells (l : List Nat) : Array Value := (l.map fun n => Value.int .u32 (.ofNat n)).toArray
def drnK : List Nat := [1116352408, 1899447441, 3049323471, 3921009573, 961987163, 1508970993, 2453635748, 2870763221, 3624381080, 310598401, 607225278, 1426881987, 1925078388, 2162078206, 2614888103, 3248222580, 3835390401, 4022224774, 264347078, 604807628, 770255983, 1249150122, 1555081692, 1996064986, 2554220882, 2821834349, 2952996808, 3210313671, 3336571891, 3584528711, 113926993, 338241895, 666307205, 773529912, 1294757372, 1396182291, 1695183700, 1986661051, 2177026350, 2456956037, 2730485921, 2820302411, 3259730800, 3345764771, 3516065817, 3600352804, 4094571909, 275423344, 430227734, 506948616, 659060556, 883997877, 958139571, 1322822218, 1537002063, 1747873779, 1955562222, 2024104815, 2227730452, 2361852424, 2428436474, 2756734187, 3204031479, 3329325298]
def drnFirst : List Nat := [1779033703, 3144134277, 1013904242, 2773480762, 1359893119, 2600822924, 528734635, 1541459225]
def drnPut (l : List Nat) : Obj → Obj
  | .cells _ t frozen => .cells (drnCells l) t frozen
  | o => o
def drnArgs : Array Value := #[.int .i64 0, .slice none 0 0]
noncomputable def drnWorld (os : Os) : World :=
  { World.holding Tryd.prog os ⟨#[], #[], []⟩ with heap := (((World.holding Tryd.prog os ⟨#[], #[], []⟩).heap.modify 0 (drnPut drnK)).modify 2 (drnPut drnK)).modify 1 (drnPut drnFirst) }
set_option maxRecDepth 100000 in
theorem drn_laid (os : Os) : laidMet Tryd.prog Rows.nodeRefersRow.laid ((drnWorld os).forCall (fun _ _ => 0) ⟨#[], drnArgs, []⟩).memory :=
  laidMet_of_run' 8 (by kernel_rfl) (by kernel_rfl)
theorem drn_reads (os : Os) {H : Type} (enc : TypeId × Value → H) : ∃ places, DataW.whole enc Tryd.prog ((drnWorld os).forCall (fun _ _ => 0) ⟨#[], drnArgs, []⟩).memory Tryd.f3.params.toList Rows.nodeRefersSpec.vars false drnArgs.toList 8 =
    some ([.lit (.int .i64 0), .nil], [], places) :=
  ⟨[], by kernel_rfl⟩

set_option maxRecDepth 100000 in
theorem drn_lifted (os : Os) (started : os.Started) (H : Type) (enc : TypeId × Value → H) (F : Stop.Interp) :
    ReturnsInHanded {} Tryd.checked os 3 .any ((OpenSpec.ofChange Rows.nodeRefersSpec).preRow enc Tryd.prog Tryd.f3 Rows.nodeRefersRow.domain false Rows.nodeRefersRow.laid) (((OpenSpec.ofChange Rows.nodeRefersSpec).at F).post enc Tryd.prog Tryd.f3 false true false false) := by
  obtain ⟨places, hx⟩ := drn_reads os enc
  refine returnsInHanded_of_row (C := Tryd.checked) (s := OpenSpec.ofChange Rows.nodeRefersSpec) drnOwn started (by kernel_rfl) Tryd.func3
    (witness_row_at (enc := enc) (C := Tryd.checked) false (drnWorld os) drnArgs rfl (by kernel_rfl) (by kernel_rfl) (by kernel_rfl)
      (OpenSpec.preRow_of_cond 8 hx (by kernel_rfl) (fun k hk => by cases hk) (by kernel_rfl) (drn_laid os))) ?_
  intro W base args ds gs before hval hW _ _ hz hL hS _
  exact drnContract H enc W base args ds gs before hval hW hz hL hS

theorem drn_said : Rows.NodeRefersSaid :=
  OpenClaim.holds_of_cond 3 Tryd.f3 rfl rfl rfl rfl rfl rfl rfl ⟨rfl, rfl, rfl, rfl, rfl⟩ rfl rfl rfl rfl rfl (by kernel_rfl) Tryd.func3 (by kernel_rfl)
    (of_decide_eq_true (by kernel_rfl)) (by unfold Func.isWrapper; rw [if_neg (of_decide_eq_false (by kernel_rfl))]; exact ⟨rfl, rfl⟩)
    (fun os started H enc _ F => by rw [OpenClaim.pre_eq_preRow]; exact drn_lifted os started H enc F)

theorem drn_plain (f : FuncId) (fn : Func) (hf : Tryd.pinned.checked.prog.funcNamed "cairn/cairnlaw07.NodeRefers" = some f) (hfn : Tryd.pinned.checked.prog.funcs[f]? = some fn) :
    Rows.nodeRefersCard.stood.looks = Tryd.pinned.checked.prog.looks [] ∧ ∀ (j : Nat) t, fn.params[j]? = some t → Tryd.pinned.checked.prog.wantsStandIn t = false := by
  obtain rfl : f = 3 := Option.some.inj ((show Tryd.prog.funcNamed "cairn/cairnlaw07.NodeRefers" = some 3 by kernel_rfl).symm.trans hf) |>.symm
  obtain rfl : fn = Tryd.f3 := (Option.some.inj (Tryd.func3.symm.trans hfn)).symm
  refine ⟨by kernel_rfl, fun j t ht => ?_⟩
  rw [Tryd.params3] at ht
  have : t = 3 ∨ t = 22 := by simpa using Array.mem_of_getElem? ht
  rcases this with rfl | rfl
  · exact (show Tryd.prog.wantsStandIn 3 = false by kernel_rfl)
  · exact (show Tryd.prog.wantsStandIn 22 = false by kernel_rfl)

theorem NodeRefers_holds : Rows.NodeRefersCardSaid :=
  Claim7.holds_tied_plain_at .later [] _ _ _ _ drn_said (fun _ h => by cases h) (by kernel_rfl) (fun _ h => by cases h) nodeRefers_row_tie rfl ⟨rfl, rfl⟩ (by kernel_rfl) rfl drn_plain (by kernel_rfl)
#print axioms NodeRefers_holds
end Go.Proofs.YtlpcelcaahfafaaDoor
