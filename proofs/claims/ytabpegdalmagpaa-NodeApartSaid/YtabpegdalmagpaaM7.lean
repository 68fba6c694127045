/- THE LAW NodeApart: what Decode, Encode and Hashes hand out is new memory, apart from what was handed in and from one another; every input. No conditions. By this project. -/
import Derived.Test.YtabpegdalmagpaaM6
set_option linter.unusedVariables false
set_option linter.unusedSectionVars false
set_option linter.unusedSimpArgs false
set_option maxRecDepth 100000
/- Nw7: refOf, branchOf, shortOf and Decode of node, by the program. By this project. -/
set_option maxRecDepth 100000
namespace Go.Proofs.Ytabpegdalmagpaa
open Go.RowKit Go.Extern.Stop
theorem ref_put {h : List V} (hh : h.length = 32) : putAllV zFC [(0, [.i .i64 1]), (1, h)] = .i .i64 1 :: (h ++ [.sl none 0 0 false]) := by
 have e : putAllV zFC [(0, [.i .i64 1]), (1, h)] = overV (.i .i64 1 :: zFC.drop 1) 1 h := rfl
 have e2 : (zFC.drop 1).drop 32 = [.sl none 0 0 false] := rfl
 rw [e]
 generalize zFC.drop 1 = z at e2
 unfold overV
 rw [hh]
 show .i .i64 1 :: (h ++ z.drop 32) = _
 rw [e2]
def RefK (r : RefS) (w : List V) (M : HV) : Prop := r.h.length = 32 ∧ ∃ s, w = refC r s ∧ RowK r.n s M
theorem RefK.p {r : RefS} {w : List V} {M X : HV} (h : RefK r w M) (hm : ∀ p ∈ M, p ∈ X) : RefP (snP X) r w := by
 obtain ⟨h1, s, h2, h3⟩ := h
 obtain ⟨A, o, rfl⟩ := h3.sl
 exact ⟨h1, A, _, o, h2, h3.sn hm, Nat.le_refl _⟩
theorem RefK.len {r : RefS} {w : List V} {M : HV} (h : RefK r w M) : w.length = 34 := (h.p fun p hp => hp).len
theorem zFC_k : RefK zRef zFC [] := ⟨rfl, .sl none 0 0 false, rfl, .nil⟩
def RefsK : List RefS → List (List V) → HV → Prop
 | [], ks, M => ks = [] ∧ M = []
 | r :: l, ks, M => ∃ w ws M1 M2, ks = w :: ws ∧ M = M1 ++ M2 ∧ RefK r w M1 ∧ RefsK l ws M2
theorem RefsK.p {X : HV} : ∀ {l : List RefS} {ks : List (List V)} {M : HV}, RefsK l ks M → (∀ p ∈ M, p ∈ X) → RefsP (snP X) l ks
 | [], ks, M, h, _ => h.1
 | r :: l, ks, M, h, hm => by
  obtain ⟨w, ws, M1, M2, h0, rfl, h1, h2⟩ := h
  exact ⟨w, ws, h0, h1.p fun p hp => hm p (List.mem_append_left _ hp), RefsK.p h2 fun p hp => hm p (List.mem_append_right _ hp)⟩
theorem RefsK.snoc {r : RefS} {w : List V} {N : HV} (k : RefK r w N) : ∀ {l : List RefS} {ks : List (List V)} {M : HV}, RefsK l ks M → RefsK (l ++ [r]) (ks ++ [w]) (M ++ N)
 | [], ks, M, h => by
  obtain ⟨rfl, rfl⟩ := h
  exact ⟨w, [], N, [], rfl, by simp, k, rfl, rfl⟩
 | x :: l, ks, M, h => by
  obtain ⟨y, ws, M1, M2, rfl, rfl, h1, h2⟩ := h
  exact ⟨y, ws ++ [w], M1, M2 ++ N, rfl, by rw [List.append_assoc], h1, RefsK.snoc k h2⟩
theorem refsK_rep : ∀ n, RefsK (List.replicate n zRef) (List.replicate n zFC) []
 | 0 => ⟨rfl, rfl⟩
 | n + 1 => ⟨zFC, List.replicate n zFC, [], [], rfl, rfl, zFC_k, refsK_rep n⟩
def NodW (Y : HV) (n : NodS) (w : List V) (N : HV) : Prop := n.kids.length = 16 ∧ ∃ s v nx ks M1 Mv M2 M3, w = nodC n s v nx ks.flatten ∧ RowK n.path s M1 ∧ RowK n.val v Mv ∧ (∀ p ∈ Mv, p ∈ Y) ∧ RefK n.next nx M2 ∧ RefsK n.kids ks M3 ∧ N = M1 ++ (M2 ++ M3)
theorem NodW.p {Y N : HV} {n : NodS} {w : List V} (h : NodW Y n w N) : NodP (fun A _ _ cs => Sn Y A cs ∨ Sn N A cs) n w := by
 obtain ⟨h0, s, v, nx, ks, M1, Mv, M2, M3, h1, h2, h3, h4, h5, h6, rfl⟩ := h
 obtain ⟨A, o, rfl⟩ := h2.sl
 obtain ⟨A', o', rfl⟩ := h3.sl
 exact ⟨h0, A, _, o, A', _, o', nx, ks, h1, .inr (h2.sn fun p hp => List.mem_append_left _ hp), Nat.le_refl _, .inl (h3.sn h4), Nat.le_refl _, (h5.p (X := M1 ++ (M2 ++ M3)) fun p hp => List.mem_append_right _ (List.mem_append_left _ hp)).mono fun A c o cs h => .inr h, refsP_mono (fun A c o cs h => .inr h) (h6.p (X := M1 ++ (M2 ++ M3)) fun p hp => List.mem_append_right _ (List.mem_append_right _ hp))⟩
def NodK (n : NodS) (w : List V) (M : HV) : Prop := n.kids.length = 16 ∧ ∃ s v nx ks M1 Mv M2 M3, w = nodC n s v nx ks.flatten ∧ RowK n.path s M1 ∧ RowK n.val v Mv ∧ RefK n.next nx M2 ∧ RefsK n.kids ks M3 ∧ M = M1 ++ (Mv ++ (M2 ++ M3))
theorem NodK.p {M X : HV} {n : NodS} {w : List V} (h : NodK n w M) (hm : ∀ p ∈ M, p ∈ X) : NodP (snP X) n w := by
 obtain ⟨h0, s, v, nx, ks, M1, Mv, M2, M3, h1, h2, h3, h5, h6, rfl⟩ := h
 obtain ⟨A, o, rfl⟩ := h2.sl
 obtain ⟨A', o', rfl⟩ := h3.sl
 exact ⟨h0, A, _, o, A', _, o', nx, ks, h1, h2.sn fun p hp => hm p (List.mem_append_left _ hp), Nat.le_refl _, h3.sn fun p hp => hm p (List.mem_append_right _ (List.mem_append_left _ hp)), Nat.le_refl _, h5.p fun p hp => hm p (List.mem_append_right _ (List.mem_append_right _ (List.mem_append_left _ hp))), h6.p fun p hp => hm p (List.mem_append_right _ (List.mem_append_right _ (List.mem_append_right _ hp)))⟩
theorem row_split {x : List UInt8} {s : V} {Mv : HV} (h : RowK x s Mv) : ∀ {N : HV}, (∀ p ∈ Mv, p ∈ N) → ∃ R, ∀ a, cnt a N = cnt a Mv + cnt a R := by
 intro N hm
 cases h with
 | nil => exact ⟨N, fun a => by rw [cnt_nil]; omega⟩
 | own h =>
  obtain ⟨L1, L2, rfl⟩ := List.append_of_mem (hm _ (List.mem_singleton.2 rfl))
  exact ⟨L1 ++ L2, fun a => by simp only [cnt_app, cnt_cons, cnt_nil]; omega⟩
theorem NodW.k {Y N : HV} {n : NodS} {w : List V} (h : NodW Y n w N) : ∃ M R, NodK n w M ∧ ∀ a, cnt a (M ++ R) ≤ cnt a (N ++ Y) := by
 obtain ⟨h0, s, v, nx, ks, M1, Mv, M2, M3, h1, h2, h3, h4, h5, h6, rfl⟩ := h
 obtain ⟨R, hR⟩ := row_split h3 h4
 exact ⟨M1 ++ (Mv ++ (M2 ++ M3)), R, ⟨h0, s, v, nx, ks, M1, Mv, M2, M3, h1, h2, h3, h5, h6, rfl⟩, fun a => by have := hR a; simp only [cnt_app]; omega⟩
theorem itW_cells {X : HV} {t : It} {v : List V} (h : ItW X t v) : ∃ s M A' c' o' vs, v = [.b (isL t), s, .sl A' (itL t).length c' o'] ∧ RowK (itB t) s M ∧ (∀ p ∈ M, p ∈ X) ∧ Sn X A' vs.flatten ∧ ItWs X (itL t) vs := by
 cases t with
 | str bs =>
  rw [ItW] at h
  obtain ⟨s, M, rfl, h1, h2⟩ := h
  exact ⟨s, M, none, 0, false, [], rfl, h1, h2, Sn.nil, by rw [itL, ItWs]⟩
 | list l =>
  rw [ItW] at h
  obtain ⟨A, c, o, vs, rfl, h1, h2⟩ := h
  exact ⟨.sl none 0 0 false, [], A, c, o, vs, rfl, .nil, fun p hp => by simp at hp, h1, h2⟩
theorem itWs_row {X : HV} {l : List It} {vs : List (List V)} {i : Nat} {t : It} (h : ItWs X l vs) (hi : l[i]? = some t) : ∃ v, (vs.flatten.drop (i * 3)).take 3 = v ∧ v.length = 3 ∧ ItW X t v := by
 obtain ⟨v, h1, h2⟩ := itWs_at h hi
 exact ⟨v, flat_row (itPs_rows (itWs_x _ _ h)) h1, itP_len (itW_x _ _ h2), h2⟩
set_option maxHeartbeats 8000000 in
theorem refof_d {P : PQ} {t : It} {v : List V} {hp : Hp} (ho : OkH hp) (ht : ItP P t v) (hP : ∀ A cs, P A cs → RB ⟨hp, []⟩ A cs) (hl : (enc t).length ≤ 1048576) (hd : depth t ≤ 80) :
  Fn kxD 54 [.agg v] hp [] fun q N => match refOfS t with
   | none => ∃ u, q = .v u ∧ u = .tup [.agg zFC, .b false]
   | some r => ∃ u, q = .v u ∧ ∃ w, u = .tup [.agg w, .b true] ∧ RefK r w N := by
 have hR := itP_r hP _ _ ht
 refine Fn.dropC ?_
 cases t with
 | list l =>
  have e : refOfS (.list l) = some ⟨2, zH32, enc (.list l)⟩ := by rw [refOfS, if_pos ⟨hl, hd⟩]
  rw [e]
  rw [ItP] at ht
  obtain ⟨A, c, o, vs, rfl, _, _⟩ := ht
  refine fn_of_w (T := []) ho.sv (fun _ => rfl) (fn := Try.f54) (by kernel_rfl) rfl rfl ?_
  refine wo ?_
  first | (apply p_op; exact (vwant_n rfl); iterate 4 exact rfl) | (apply d_op; exact (vwant_n rfl); exact rfl; exact noRd rfl; decide +kernel; (iterate 3 exact rfl); rotate_left) | (apply p_op; exact (vwant_g rfl rfl rfl); iterate 4 exact rfl) | (apply d_op; exact (vwant_g rfl rfl rfl); exact rfl; exact noRd rfl; decide +kernel; (iterate 3 exact rfl); rotate_left)
  refine ev_box rfl rfl fun bx => ⟨_, rfl, ?_⟩
  try (case hok => first | exact rdOk_nil | exact rdOk_b (by decide +kernel) | exact rdOk_c | (repeat (first | exact rdOk_e | refine rdOk_d (by decide +kernel) ?_ | refine rdOk_n ?_)))
  first | (apply p_op; exact (vwant_n rfl); iterate 4 exact rfl) | (apply d_op; exact (vwant_n rfl); exact rfl; exact noRd rfl; decide +kernel; (iterate 3 exact rfl); rotate_left) | (apply p_op; exact (vwant_g rfl rfl rfl); iterate 4 exact rfl) | (apply d_op; exact (vwant_g rfl rfl rfl); exact rfl; exact noRd rfl; decide +kernel; (iterate 3 exact rfl); rotate_left)
  refine e_alloc (zc := zFC) rfl fun b2 => ⟨_, rfl, ?_⟩
  try (case hok => first | exact rdOk_nil | exact rdOk_b (by decide +kernel) | exact rdOk_c | (repeat (first | exact rdOk_e | refine rdOk_d (by decide +kernel) ?_ | refine rdOk_n ?_)))
  refine wo ?_
  first | refine zX (m_ldln (s := 2) (cs := [.b true, .sl none 0 0 false, .sl A l.length c o]) rfl rfl rfl) ?_ | refine yX (m_ldln (s := 2) (cs := [.b true, .sl none 0 0 false, .sl A l.length c o]) rfl rfl rfl) ?_
  first | (apply p_callY []; exact (vwant_n rfl); iterate 4 exact rfl) | (apply d_callY []; exact (vwant_n rfl); decide +kernel; (iterate 4 exact rfl)) | (apply p_callY []; exact (vwant_g rfl rfl rfl); iterate 4 exact rfl) | (apply d_callY []; exact (vwant_g rfl rfl rfl); decide +kernel; (iterate 4 exact rfl))
  try (case hok => first | exact rdOk_nil | exact rdOk_b (by decide +kernel) | exact rdOk_c)
  case hC => exact (fun hp' hs htt => encode_d (t := .list l) hs.ok (hR.give0 hs) hd hl)
  rintro u N ⟨w, rfl, hw⟩
  obtain ⟨A1, o1, rfl⟩ := hw.sl
  refine wo ?_
  first | (apply wn; iterate 5 exact rfl) | (apply dn; iterate 5 exact rfl) | (apply wg; iterate 7 exact rfl) | (apply dg; iterate 7 exact rfl)
  refine p_buildS (C := refC ⟨2, zH32, enc (.list l)⟩ (.sl A1 (enc (.list l)).length (enc (.list l)).length o1)) (.cons rfl rfl rfl rfl (Nat.le_of_ble_eq_true rfl) (.cons rfl rfl rfl rfl (Nat.le_of_ble_eq_true rfl) .nil)) rfl
  refine wo ?_
  first | (apply wm; iterate 5 exact rfl) | (apply dm; iterate 6 exact rfl) | (apply wmg; iterate 7 exact rfl) | (apply dmg; iterate 8 exact rfl)
  refine mv_int (v := .b true) rfl rfl (vi_eqlT (rfl))
  first | (apply p_do; exact (vwant_n rfl); exact rfl; exact rfl) | (apply d_do; exact (vwant_n rfl); exact rfl; exact noRd rfl; decide +kernel; exact rfl; rotate_left) | (apply p_do; exact (vwant_g rfl rfl rfl); exact rfl; exact rfl) | (apply d_do; exact (vwant_g rfl rfl rfl); exact rfl; exact noRd rfl; decide +kernel; exact rfl; rotate_left)
  refine e_stn (C' := refC ⟨2, zH32, enc (.list l)⟩ (.sl A1 (enc (.list l)).length (enc (.list l)).length o1)) rfl rfl (by simp) rfl (Nat.le_of_ble_eq_true rfl) rfl ⟨_, rfl, ?_⟩
  try (case hok => first | exact rdOk_nil | exact rdOk_b (by decide +kernel) | exact rdOk_c | (repeat (first | exact rdOk_e | refine rdOk_d (by decide +kernel) ?_ | refine rdOk_n ?_)))
  refine wo ?_
  exact w_ret (wend_ret (vres2 (rv_cell rfl rfl) (rv_tmp rfl)) ⟨N, cle, _, rfl, _, rfl, rfl, _, rfl, hw⟩)
 | str bs =>
  rw [ItP] at ht
  obtain ⟨A, c, o, rfl, hA, hc⟩ := ht
  have hB := hP _ _ hA
  refine fn_of_w (T := []) ho.sv (fun _ => rfl) (fn := Try.f54) (by kernel_rfl) rfl rfl ?_
  refine wo ?_
  first | (apply p_op; exact (vwant_n rfl); iterate 4 exact rfl) | (apply d_op; exact (vwant_n rfl); exact rfl; exact noRd rfl; decide +kernel; (iterate 3 exact rfl); rotate_left) | (apply p_op; exact (vwant_g rfl rfl rfl); iterate 4 exact rfl) | (apply d_op; exact (vwant_g rfl rfl rfl); exact rfl; exact noRd rfl; decide +kernel; (iterate 3 exact rfl); rotate_left)
  refine ev_box rfl rfl fun bx => ⟨_, rfl, ?_⟩
  try (case hok => first | exact rdOk_nil | exact rdOk_b (by decide +kernel) | exact rdOk_c | (repeat (first | exact rdOk_e | refine rdOk_d (by decide +kernel) ?_ | refine rdOk_n ?_)))
  first | (apply p_op; exact (vwant_n rfl); iterate 4 exact rfl) | (apply d_op; exact (vwant_n rfl); exact rfl; exact noRd rfl; decide +kernel; (iterate 3 exact rfl); rotate_left) | (apply p_op; exact (vwant_g rfl rfl rfl); iterate 4 exact rfl) | (apply d_op; exact (vwant_g rfl rfl rfl); exact rfl; exact noRd rfl; decide +kernel; (iterate 3 exact rfl); rotate_left)
  refine e_alloc (zc := zFC) rfl fun b2 => ⟨_, rfl, ?_⟩
  try (case hok => first | exact rdOk_nil | exact rdOk_b (by decide +kernel) | exact rdOk_c | (repeat (first | exact rdOk_e | refine rdOk_d (by decide +kernel) ?_ | refine rdOk_n ?_)))
  refine wo ?_
  by_cases g0 : bs.length = 0
  ·have e : refOfS (.str bs) = some zRef := by rw [refOfS, if_pos g0]
   rw [e]
   first | (apply wm; iterate 5 exact rfl) | (apply dm; iterate 6 exact rfl) | (apply wmg; iterate 7 exact rfl) | (apply dmg; iterate 8 exact rfl)
   refine mv_int (v := .b true) rfl rfl (vi_eqlT (by omega))
   refine wo ?_
   first | (apply wn; iterate 5 exact rfl) | (apply dn; iterate 5 exact rfl) | (apply wg; iterate 7 exact rfl) | (apply dg; iterate 7 exact rfl)
   refine p_buildS (C := zFC) .nil (by rfl)
   first | (apply p_do; exact (vwant_n rfl); exact rfl; exact rfl) | (apply d_do; exact (vwant_n rfl); exact rfl; exact noRd rfl; decide +kernel; exact rfl; rotate_left) | (apply p_do; exact (vwant_g rfl rfl rfl); exact rfl; exact rfl) | (apply d_do; exact (vwant_g rfl rfl rfl); exact rfl; exact noRd rfl; decide +kernel; exact rfl; rotate_left)
   refine e_stn (C' := zFC) rfl rfl (ne_of_len zFC_len (by decide)) zFC_len (Nat.le_of_eq zFC_len.symm) rfl ⟨_, rfl, ?_⟩
   try (case hok => first | exact rdOk_nil | exact rdOk_b (by decide +kernel) | exact rdOk_c | (repeat (first | exact rdOk_e | refine rdOk_d (by decide +kernel) ?_ | refine rdOk_n ?_)))
   refine wo ?_
   exact w_ret (wend_ret (vres2 (rv_cell rfl rfl) (rv_tmp rfl)) ⟨[], cle, _, rfl, _, rfl, zFC_k⟩)
  first | (apply wm; iterate 5 exact rfl) | (apply dm; iterate 6 exact rfl) | (apply wmg; iterate 7 exact rfl) | (apply dmg; iterate 8 exact rfl)
  refine mv_int (v := .b false) rfl rfl (vi_eqlF (by omega))
  refine wo ?_
  by_cases g : bs.length = 32
  ·have e : refOfS (.str bs) = some ⟨1, bs, []⟩ := by rw [refOfS, if_neg g0, if_pos g]
   rw [e]
   obtain ⟨ba, oa, rfl⟩ := rb_spot hB (by omega)
   have h32 : (bs.map byV).length = 32 := by rw [List.length_map, g]
   first | (apply wm; iterate 5 exact rfl) | (apply dm; iterate 6 exact rfl) | (apply wmg; iterate 7 exact rfl) | (apply dmg; iterate 8 exact rfl)
   refine mv_int (v := .b true) rfl rfl (vi_eqlT (by omega))
   refine wo ?_
   first | (apply wn; iterate 5 exact rfl) | (apply dn; iterate 5 exact rfl) | (apply wg; iterate 7 exact rfl) | (apply dg; iterate 7 exact rfl)
   refine pv_s2a rfl rfl (by omega) (by decide)
   first | (apply wm; iterate 5 exact rfl) | (apply dm; iterate 6 exact rfl) | (apply wmg; iterate 7 exact rfl) | (apply dmg; iterate 8 exact rfl)
   refine m_ldnN (j := 0) (s := 31) (vs := bs.map byV) rfl hB.1 hB.2 rfl (by rw [List.drop_zero]; exact List.take_of_length_le (Nat.le_of_eq h32)) h32
   first | (apply wn; iterate 5 exact rfl) | (apply dn; iterate 5 exact rfl) | (apply wg; iterate 7 exact rfl) | (apply dg; iterate 7 exact rfl)
   refine p_buildS (C := refC ⟨1, bs, []⟩ (.sl none 0 0 false)) (.cons rfl rfl rfl rfl (Nat.le_of_ble_eq_true rfl) (.cons rfl rfl rfl h32 (Nat.le_of_ble_eq_true rfl) .nil)) (ref_put h32)
   first | (apply p_do; exact (vwant_n rfl); exact rfl; exact rfl) | (apply d_do; exact (vwant_n rfl); exact rfl; exact noRd rfl; decide +kernel; exact rfl; rotate_left) | (apply p_do; exact (vwant_g rfl rfl rfl); exact rfl; exact rfl) | (apply d_do; exact (vwant_g rfl rfl rfl); exact rfl; exact noRd rfl; decide +kernel; exact rfl; rotate_left)
   refine e_stn (C' := refC ⟨1, bs, []⟩ (.sl none 0 0 false)) rfl rfl (by simp) (refC_len g) (Nat.le_of_eq zFC_len.symm) (overV_all ((refC_len g).trans zFC_len.symm)) ⟨_, rfl, ?_⟩
   try (case hok => first | exact rdOk_nil | exact rdOk_b (by decide +kernel) | exact rdOk_c | (repeat (first | exact rdOk_e | refine rdOk_d (by decide +kernel) ?_ | refine rdOk_n ?_)))
   refine wo ?_
   exact w_ret (wend_ret (vres2 (rv_cell rfl (refC_len g)) (rv_tmp rfl)) ⟨[], cle, _, rfl, _, rfl, g, _, rfl, .nil⟩)
  ·have e : refOfS (.str bs) = none := by rw [refOfS, if_neg g0, if_neg g]
   rw [e]
   first | (apply wm; iterate 5 exact rfl) | (apply dm; iterate 6 exact rfl) | (apply wmg; iterate 7 exact rfl) | (apply dmg; iterate 8 exact rfl)
   refine mv_int (v := .b false) rfl rfl (vi_eqlF (by omega))
   refine wo ?_
   first | (apply wn; iterate 5 exact rfl) | (apply dn; iterate 5 exact rfl) | (apply wg; iterate 7 exact rfl) | (apply dg; iterate 7 exact rfl)
   refine p_buildS (C := zFC) .nil (by rfl)
   first | (apply p_do; exact (vwant_n rfl); exact rfl; exact rfl) | (apply d_do; exact (vwant_n rfl); exact rfl; exact noRd rfl; decide +kernel; exact rfl; rotate_left) | (apply p_do; exact (vwant_g rfl rfl rfl); exact rfl; exact rfl) | (apply d_do; exact (vwant_g rfl rfl rfl); exact rfl; exact noRd rfl; decide +kernel; exact rfl; rotate_left)
   refine e_stn (C' := zFC) rfl rfl (ne_of_len zFC_len (by decide)) zFC_len (Nat.le_of_eq zFC_len.symm) rfl ⟨_, rfl, ?_⟩
   try (case hok => first | exact rdOk_nil | exact rdOk_b (by decide +kernel) | exact rdOk_c | (repeat (first | exact rdOk_e | refine rdOk_d (by decide +kernel) ?_ | refine rdOk_n ?_)))
   refine wo ?_
   exact w_ret (wend_ret (vres2 (rv_cell rfl rfl) (rv_tmp rfl)) ⟨[], cle, _, rfl, rfl⟩)
theorem RefofNo {P : PQ} {t : It} {v : List V} {hp : Hp} (h0 : refOfS t = none) (ho : OkH hp) (ht : ItP P t v) (hP : ∀ A cs, P A cs → RB ⟨hp, []⟩ A cs) (hl : (enc t).length ≤ 1048576) (hd : depth t ≤ 80) :
  Fn kxD 54 [.agg v] hp [] fun q N => ∃ u, q = .v u ∧ u = .tup [.agg zFC, .b false] := by
 have := refof_d ho ht hP hl hd
 rw [h0] at this
 exact this
theorem RefofOk {P : PQ} {t : It} {r : RefS} {v : List V} {hp : Hp} (h0 : refOfS t = some r) (ho : OkH hp) (ht : ItP P t v) (hP : ∀ A cs, P A cs → RB ⟨hp, []⟩ A cs) (hl : (enc t).length ≤ 1048576) (hd : depth t ≤ 80) :
  Fn kxD 54 [.agg v] hp [] fun q N => ∃ u, q = .v u ∧ ∃ w, u = .tup [.agg w, .b true] ∧ RefK r w N := by
 have := refof_d ho ht hP hl hd
 rw [h0] at this
 exact this
theorem overV_app {a b w : List V} {o : Nat} : overV (a ++ b) (a.length + o) w = a ++ overV b o w := by
 unfold overV
 rw [List.take_append, List.take_of_length_le (by omega), Nat.add_sub_cancel_left, show a.length + o + w.length = a.length + (o + w.length) by omega, List.drop_append, List.drop_of_length_le (by omega), List.nil_append, Nat.add_sub_cancel_left]
 simp
theorem flat_put {k : Nat} : ∀ {ks : List (List V)} {i : Nat} {w : List V}, (∀ x ∈ ks, x.length = k) → i < ks.length → w.length = k → overV ks.flatten (i * k) w = (ks.set i w).flatten
 | [], i, w, _, hi, _ => by simp at hi
 | x :: r, 0, w, h, _, hw => by
  have hx := h x List.mem_cons_self
  rw [List.set_cons_zero, List.flatten_cons, List.flatten_cons, Nat.zero_mul]
  unfold overV
  rw [List.take_zero, List.nil_append, Nat.zero_add, hw, List.drop_append, List.drop_of_length_le (by omega), List.nil_append, hx, Nat.sub_self, List.drop_zero]
 | x :: r, i + 1, w, h, hi, hw => by
  have hx := h x List.mem_cons_self
  rw [List.set_cons_succ, List.flatten_cons, List.flatten_cons, Nat.succ_mul, Nat.add_comm, ← hx, overV_app]
  rw [hx, flat_put (fun y hy => h y (List.mem_cons_of_mem _ hy)) (by simpa using hi) hw]
theorem nodC_putk {n : NodS} {p v : V} {nx w : List V} {ks : List (List V)} {i : Nat} (h : nx.length = 34) (hk : ∀ x ∈ ks, x.length = 34) (hi : i < ks.length) (hw : w.length = 34) : overV (nodC n p v nx ks.flatten) (0 + 38 + i * 34) w = nodC n p v nx (ks.set i w).flatten := by
 have e : nodC n p v nx ks.flatten = (.i .i64 n.k :: p :: v :: .b n.full :: nx) ++ ks.flatten := rfl
 have e2 : nodC n p v nx (ks.set i w).flatten = (.i .i64 n.k :: p :: v :: .b n.full :: nx) ++ (ks.set i w).flatten := rfl
 rw [e, e2, ← flat_put hk hi hw, show 0 + 38 + i * 34 = (.i .i64 n.k :: p :: v :: .b n.full :: nx).length + i * 34 by simp [h], overV_app]
theorem refsP_rep {P : PP} (h : P none 0 false []) : ∀ n, RefsP P (List.replicate n zRef) (List.replicate n zFC)
 | 0 => rfl
 | n + 1 => ⟨zFC, List.replicate n zFC, rfl, zFC_p P h, refsP_rep h n⟩
theorem refsOfS_snoc : ∀ {l : List It} {ks : List RefS} {t : It} {r : RefS}, refsOfS l = some ks → refOfS t = some r → refsOfS (l ++ [t]) = some (ks ++ [r])
 | [], ks, t, r, h, k => by
  rw [refsOfS] at h
  obtain rfl := Option.some.inj h
  rw [List.nil_append, refsOfS, k, refsOfS]
  rfl
 | x :: l, ks, t, r, h, k => by
  rw [refsOfS] at h
  cases h1 : refOfS x with
  | none => rw [h1] at h; simp at h
  | some y =>
   cases h2 : refsOfS l with
   | none => rw [h1, h2] at h; simp at h
   | some z =>
    rw [h1, h2] at h
    obtain rfl := Option.some.inj h
    rw [List.cons_append, refsOfS, h1, refsOfS_snoc h2 k]
    rfl
theorem refsOfS_none : ∀ {l : List It} {t : It}, t ∈ l → refOfS t = none → refsOfS l = none
 | x :: l, t, h, k => by
  rw [refsOfS]
  rcases List.mem_cons.1 h with rfl | h
  ·rw [k]
  ·rw [refsOfS_none h k]
   cases refOfS x <;> rfl
theorem set_take {α : Type} {l : List α} {i : Nat} {x : α} (h : i < l.length) : (l.set i x).take (i + 1) = l.take i ++ [x] := by
 rw [List.take_succ_eq_append_getElem (by rw [List.length_set]; exact h), List.take_set_of_le (Nat.le_refl _), List.getElem_set_self]
def brN : NodS := ⟨3, [], [], false, zRef, []⟩
set_option maxHeartbeats 16000000 in
theorem branchof_d {Y : HV} {l : List It} {A : Option (Nat × Nat)} {c : Nat} {o : Bool} {vs : List (List V)} {hp : Hp} (ho : OkH hp) (hA : Sn Y A vs.flatten) (hvs : ItWs Y l vs) (hP : ∀ A cs, Sn Y A cs → RB ⟨hp, []⟩ A cs) (h17 : l.length = 17) (hl : ∀ t ∈ l, (enc t).length ≤ 1048576 ∧ depth t ≤ 80) :
  Fn kxD 30 [.sl A l.length c o] hp [] fun q N => match shapeS l with
   | none => ∃ u, q = .v u ∧ ∃ w, u = .tup [.agg w, .b false] ∧ w.length = 582
   | some n => ∃ u, q = .v u ∧ ∃ w, u = .tup [.agg w, .b true] ∧ NodW Y n w N := by
 have hsh : shapeS l = match refsOfS (l.take 16), (l[16]? : Option It) with
  | some ks, some (It.str v) => some ⟨3, [], v, decide (0 < v.length), zRef, ks⟩
  | _, _ => none := by unfold shapeS; rw [if_neg (by omega), if_pos h17] <;> rfl
 have hB := hP _ _ hA
 have hlen : ∀ (v : V) (ks : List (List V)), ks.length = 16 → (∀ x ∈ ks, x.length = 34) → ∀ m : NodS, (nodC m (.sl none 0 0 false) v zFC ks.flatten).length = 582 := fun v ks h1 h2 m => by
  have := flatK_len h2
  rw [h1] at this
  simp only [List.length_cons, List.length_append, zFC_len, this]
 refine Fn.dropC ?_
 refine fn_of_w (T := []) ho.sv (fun _ => rfl) (fn := Try.f30) (by kernel_rfl) rfl rfl ?_
 refine wo ?_
 first | (apply p_op; exact (vwant_n rfl); iterate 4 exact rfl) | (apply d_op; exact (vwant_n rfl); exact rfl; exact noRd rfl; decide +kernel; (iterate 3 exact rfl); rotate_left) | (apply p_op; exact (vwant_g rfl rfl rfl); iterate 4 exact rfl) | (apply d_op; exact (vwant_g rfl rfl rfl); exact rfl; exact noRd rfl; decide +kernel; (iterate 3 exact rfl); rotate_left)
 refine e_alloc (zc := zNC) (by kernel_rfl) fun b2 => ⟨_, rfl, ?_⟩
 try (case hok => first | exact rdOk_nil | exact rdOk_b (by decide +kernel) | exact rdOk_c | (repeat (first | exact rdOk_e | refine rdOk_d (by decide +kernel) ?_ | refine rdOk_n ?_)))
 refine wo ?_
 first | (apply wn; iterate 5 exact rfl) | (apply dn; iterate 5 exact rfl) | (apply wg; iterate 7 exact rfl) | (apply dg; iterate 7 exact rfl)
 refine p_buildS (C := nodC brN (.sl none 0 0 false) (.sl none 0 0 false) zFC (List.replicate 16 zFC).flatten) (.cons rfl rfl rfl rfl (Nat.le_of_ble_eq_true rfl) .nil) (by kernel_rfl)
 first | (apply p_op; exact (vwant_n rfl); iterate 4 exact rfl) | (apply d_op; exact (vwant_n rfl); exact rfl; exact noRd rfl; decide +kernel; (iterate 3 exact rfl); rotate_left) | (apply p_op; exact (vwant_g rfl rfl rfl); iterate 4 exact rfl) | (apply d_op; exact (vwant_g rfl rfl rfl); exact rfl; exact noRd rfl; decide +kernel; (iterate 3 exact rfl); rotate_left)
 refine e_alloc (zc := zNC) (by kernel_rfl) fun b4 => ⟨_, rfl, ?_⟩
 try (case hok => first | exact rdOk_nil | exact rdOk_b (by decide +kernel) | exact rdOk_c | (repeat (first | exact rdOk_e | refine rdOk_d (by decide +kernel) ?_ | refine rdOk_n ?_)))
 first | (apply p_do; exact (vwant_n rfl); exact rfl; exact rfl) | (apply d_do; exact (vwant_n rfl); exact rfl; exact noRd rfl; decide +kernel; exact rfl; rotate_left) | (apply p_do; exact (vwant_g rfl rfl rfl); exact rfl; exact rfl) | (apply d_do; exact (vwant_g rfl rfl rfl); exact rfl; exact noRd rfl; decide +kernel; exact rfl; rotate_left)
 refine e_stn (C' := nodC brN (.sl none 0 0 false) (.sl none 0 0 false) zFC (List.replicate 16 zFC).flatten) rfl rfl (List.cons_ne_nil _ _) (by kernel_rfl) (Nat.le_of_eq zNC_len.symm) (overV_all (by kernel_rfl)) ⟨_, rfl, ?_⟩
 try (case hok => first | exact rdOk_nil | exact rdOk_b (by decide +kernel) | exact rdOk_c | (repeat (first | exact rdOk_e | refine rdOk_d (by decide +kernel) ?_ | refine rdOk_n ?_)))
 refine wo ?_
 iterate 4 ((try refine w_seq ?_); refine wo ?_)
 refine w_loop (ι := Nat × List (List V) × HV × List RefS) (fun s => [(10, .i .i64 (s.1 : Nat)), (4, .p (some (b4, 0))), (2, .p (some (b2, 0))), (0, .sl A l.length c o)]) (fun s => (some b4, cellsO (nodC brN (.sl none 0 0 false) (.sl none 0 0 false) zFC s.2.1.flatten) 29) :: (some b2, cellsO zNC 29) :: s.2.2.1) (fun s => s.1 ≤ 16 ∧ s.2.1.length = 16 ∧ (∀ x ∈ s.2.1, x.length = 34) ∧ refsOfS (l.take s.1) = some s.2.2.2 ∧ RefsK s.2.2.2 (s.2.1.take s.1) s.2.2.1) (fun s => 16 - s.1) (0, List.replicate 16 zFC, [], []) ⟨Nat.zero_le _, rfl, fun x hx => by rw [List.eq_of_mem_replicate hx]; rfl, by rw [List.take_zero, refsOfS], rfl, rfl⟩ ⟨rfl, rfl, rfl, rfl, trivial⟩ (fun hp h => h) ?_
 intro ⟨i, ks, X, rs⟩ ⟨hi, hk16, hk34, hrs, hX⟩
 dsimp only at hi hk16 hk34 hrs hX ⊢
 refine wo ?_
 by_cases g : i < 16
 ·obtain ⟨vi, hvi, h3, hti⟩ := itWs_row (i := i) (t := l[i]) hvs (List.getElem?_eq_getElem (by omega))
  obtain ⟨bA, oA, rfl⟩ := rb_some3 hB hvi h3
  have hne := ne_of_len h3 (by decide)
  have hsn : l.take (i + 1) = l.take i ++ [l[i]] := List.take_succ_eq_append_getElem (by omega)
  have hmem : l[i] ∈ l.take 16 := by
   rw [List.mem_take_iff_getElem]
   exact ⟨i, by omega, rfl⟩
  obtain ⟨hl1, hl2⟩ := hl l[i] (List.getElem_mem (by omega))
  generalize l[i] = t at *
  first | (apply wm; iterate 5 exact rfl) | (apply dm; iterate 6 exact rfl) | (apply wmg; iterate 7 exact rfl) | (apply dmg; iterate 8 exact rfl)
  refine mv_int (v := .b true) rfl rfl (vi_lssT (by omega))
  refine wo ?_
  first | (apply wn; iterate 5 exact rfl) | (apply dn; iterate 5 exact rfl) | (apply wg; iterate 7 exact rfl) | (apply dg; iterate 7 exact rfl)
  refine p_ian rfl rfl (show i < l.length by omega)
  first | (apply wm; iterate 5 exact rfl) | (apply dm; iterate 6 exact rfl) | (apply wmg; iterate 7 exact rfl) | (apply dmg; iterate 8 exact rfl)
  refine m_ldnN (j := i * 3) (s := 2) rfl hB.1 hB.2 rfl hvi h3
  cases hr : refOfS t with
  | none =>
   first | (apply p_callY []; exact (vwant_n rfl); iterate 4 exact rfl) | (apply d_callY []; exact (vwant_n rfl); decide +kernel; (iterate 4 exact rfl)) | (apply p_callY []; exact (vwant_g rfl rfl rfl); iterate 4 exact rfl) | (apply d_callY []; exact (vwant_g rfl rfl rfl); decide +kernel; (iterate 4 exact rfl))
   try (case hok => first | exact rdOk_nil | exact rdOk_b (by decide +kernel) | exact rdOk_c)
   case hC => exact (fun hp' hs ht => RefofNo hr hs.ok (itW_x _ _ hti) (fun A cs h => (hP A cs h).give0 hs) hl1 hl2)
   rintro u N rfl
   refine wo ?_
   first | (apply p_op; exact (vwant_n rfl); iterate 4 exact rfl) | (apply d_op; exact (vwant_n rfl); exact rfl; exact noRd rfl; decide +kernel; (iterate 3 exact rfl); rotate_left) | (apply p_op; exact (vwant_g rfl rfl rfl); iterate 4 exact rfl) | (apply d_op; exact (vwant_g rfl rfl rfl); exact rfl; exact noRd rfl; decide +kernel; (iterate 3 exact rfl); rotate_left)
   refine e_alloc (zc := zFC) rfl fun b6 => ⟨_, rfl, ?_⟩
   try (case hok => first | exact rdOk_nil | exact rdOk_b (by decide +kernel) | exact rdOk_c | (repeat (first | exact rdOk_e | refine rdOk_d (by decide +kernel) ?_ | refine rdOk_n ?_)))
   first | (apply p_do; exact (vwant_n rfl); exact rfl; exact rfl) | (apply d_do; exact (vwant_n rfl); exact rfl; exact noRd rfl; decide +kernel; exact rfl; rotate_left) | (apply p_do; exact (vwant_g rfl rfl rfl); exact rfl; exact rfl) | (apply d_do; exact (vwant_g rfl rfl rfl); exact rfl; exact noRd rfl; decide +kernel; exact rfl; rotate_left)
   refine e_stn (C' := zFC) rfl rfl (ne_of_len zFC_len (by decide)) zFC_len (Nat.le_of_eq zFC_len.symm) rfl ⟨_, rfl, ?_⟩
   try (case hok => first | exact rdOk_nil | exact rdOk_b (by decide +kernel) | exact rdOk_c | (repeat (first | exact rdOk_e | refine rdOk_d (by decide +kernel) ?_ | refine rdOk_n ?_)))
   refine wo ?_
   first | (apply wn; iterate 5 exact rfl) | (apply dn; iterate 5 exact rfl) | (apply wg; iterate 7 exact rfl) | (apply dg; iterate 7 exact rfl)
   refine p_buildS (C := zNC) .nil (by kernel_rfl)
   first | (apply p_do; exact (vwant_n rfl); exact rfl; exact rfl) | (apply d_do; exact (vwant_n rfl); exact rfl; exact noRd rfl; decide +kernel; exact rfl; rotate_left) | (apply p_do; exact (vwant_g rfl rfl rfl); exact rfl; exact rfl) | (apply d_do; exact (vwant_g rfl rfl rfl); exact rfl; exact noRd rfl; decide +kernel; exact rfl; rotate_left)
   refine e_stn (C' := zNC) rfl rfl zNC_ne zNC_len (Nat.le_of_eq zNC_len.symm) (overV_all rfl) ⟨_, rfl, ?_⟩
   try (case hok => first | exact rdOk_nil | exact rdOk_b (by decide +kernel) | exact rdOk_c | (repeat (first | exact rdOk_e | refine rdOk_d (by decide +kernel) ?_ | refine rdOk_n ?_)))
   refine wo ?_
   exact w_ret (wend_ret (vres2 (rv_cell rfl zNC_len) (rv_tmp rfl)) ⟨[], cle, by rw [hsh, refsOfS_none hmem hr]; exact ⟨_, rfl, _, rfl, zNC_len⟩⟩)
  | some r =>
   first | (apply p_callY []; exact (vwant_n rfl); iterate 4 exact rfl) | (apply d_callY []; exact (vwant_n rfl); decide +kernel; (iterate 4 exact rfl)) | (apply p_callY []; exact (vwant_g rfl rfl rfl); iterate 4 exact rfl) | (apply d_callY []; exact (vwant_g rfl rfl rfl); decide +kernel; (iterate 4 exact rfl))
   try (case hok => first | exact rdOk_nil | exact rdOk_b (by decide +kernel) | exact rdOk_c)
   case hC => exact (fun hp' hs ht => RefofOk hr hs.ok (itW_x _ _ hti) (fun A cs h => (hP A cs h).give0 hs) hl1 hl2)
   rintro u N ⟨wr, rfl, hwr⟩
   have hwl := hwr.len
   refine wo ?_
   first | (apply p_op; exact (vwant_n rfl); iterate 4 exact rfl) | (apply d_op; exact (vwant_n rfl); exact rfl; exact noRd rfl; decide +kernel; (iterate 3 exact rfl); rotate_left) | (apply p_op; exact (vwant_g rfl rfl rfl); iterate 4 exact rfl) | (apply d_op; exact (vwant_g rfl rfl rfl); exact rfl; exact noRd rfl; decide +kernel; (iterate 3 exact rfl); rotate_left)
   refine e_alloc (zc := zFC) rfl fun b6 => ⟨_, rfl, ?_⟩
   try (case hok => first | exact rdOk_nil | exact rdOk_b (by decide +kernel) | exact rdOk_c | (repeat (first | exact rdOk_e | refine rdOk_d (by decide +kernel) ?_ | refine rdOk_n ?_)))
   first | (apply p_do; exact (vwant_n rfl); exact rfl; exact rfl) | (apply d_do; exact (vwant_n rfl); exact rfl; exact noRd rfl; decide +kernel; exact rfl; rotate_left) | (apply p_do; exact (vwant_g rfl rfl rfl); exact rfl; exact rfl) | (apply d_do; exact (vwant_g rfl rfl rfl); exact rfl; exact noRd rfl; decide +kernel; exact rfl; rotate_left)
   refine e_stn (C' := wr) rfl rfl (ne_of_len hwl (by decide)) hwl (Nat.le_of_eq zFC_len.symm) (overV_all (hwl.trans zFC_len.symm)) ⟨_, rfl, ?_⟩
   try (case hok => first | exact rdOk_nil | exact rdOk_b (by decide +kernel) | exact rdOk_c | (repeat (first | exact rdOk_e | refine rdOk_d (by decide +kernel) ?_ | refine rdOk_n ?_)))
   refine wo ?_
   first | refine zX (m_ldln (s := 33) (cs := wr) rfl (all_take _ hwl) hwl) ?_ | refine yX (m_ldln (s := 33) (cs := wr) rfl (all_take _ hwl) hwl) ?_
   refine wo ?_
   first | (apply wn; iterate 5 exact rfl) | (apply dn; iterate 5 exact rfl) | (apply wg; iterate 7 exact rfl) | (apply dg; iterate 7 exact rfl)
   refine p_iaan rfl rfl g
   first | (apply p_do; exact (vwant_n rfl); exact rfl; exact rfl) | (apply d_do; exact (vwant_n rfl); exact rfl; exact noRd rfl; decide +kernel; exact rfl; rotate_left) | (apply p_do; exact (vwant_g rfl rfl rfl); exact rfl; exact rfl) | (apply d_do; exact (vwant_g rfl rfl rfl); exact rfl; exact noRd rfl; decide +kernel; exact rfl; rotate_left)
   refine e_stn (C' := nodC brN (.sl none 0 0 false) (.sl none 0 0 false) zFC (ks.set i wr).flatten) rfl rfl (ne_of_len hwl (by decide)) hwl (by rw [hlen _ _ hk16 hk34]; omega) (nodC_putk zFC_len hk34 (by omega) hwl) ⟨_, rfl, ?_⟩
   try (case hok => first | exact rdOk_nil | exact rdOk_b (by decide +kernel) | exact rdOk_c | (repeat (first | exact rdOk_e | refine rdOk_d (by decide +kernel) ?_ | refine rdOk_n ?_)))
   refine wo ?_
   refine ⟨rfl, (i + 1, ks.set i wr, X ++ N, rs ++ [r]), ⟨g, by rw [List.length_set]; exact hk16, fun x hx => ?_, by rw [hsn]; exact refsOfS_snoc hrs hr, ?_⟩, by dsimp only; omega, ⟨rfl, rfl, rfl, rfl, trivial⟩, fun hp h => h.le⟩
   ·rcases List.mem_or_eq_of_mem_set hx with hx | rfl
    ·exact hk34 x hx
    ·exact hwl
   ·dsimp only
    rw [set_take (by omega)]
    exact RefsK.snoc hwr hX
 first | (apply wm; iterate 5 exact rfl) | (apply dm; iterate 6 exact rfl) | (apply wmg; iterate 7 exact rfl) | (apply dmg; iterate 8 exact rfl)
 refine mv_int (v := .b false) rfl rfl (vi_lssF (by omega))
 refine wo ?_
 refine w_exit ?_
 obtain rfl : i = 16 := by omega
 rw [List.take_of_length_le (Nat.le_of_eq hk16)] at hX
 obtain ⟨vi, hvi, h3, hti⟩ := itWs_row (i := 16) (t := l[16]) hvs (List.getElem?_eq_getElem (by omega))
 obtain ⟨bA, oA, rfl⟩ := rb_some3 hB hvi h3
 have hl16 : l[16]? = some l[16] := List.getElem?_eq_getElem (by omega)
 generalize l[16] = t at *
 obtain ⟨s1, Mv, A2, c2, o2, _, rfl, hs1, hMv, _⟩ := itW_cells hti
 obtain ⟨A1, o1, rfl⟩ := hs1.sl
 have hks : rs.length = 16 := by rw [← refsP_len (hX.p fun p hp => hp), hk16]
 refine wo ?_
 first | (apply wn; iterate 5 exact rfl) | (apply dn; iterate 5 exact rfl) | (apply wg; iterate 7 exact rfl) | (apply dg; iterate 7 exact rfl)
 refine p_ian (i := 16) rfl rfl (show 16 < l.length by omega)
 first | (apply wm; iterate 5 exact rfl) | (apply dm; iterate 6 exact rfl) | (apply wmg; iterate 7 exact rfl) | (apply dmg; iterate 8 exact rfl)
 refine m_ldnN (j := 16 * 3) (s := 2) rfl hB.1 hB.2 rfl hvi h3
 first | (apply p_op; exact (vwant_n rfl); iterate 4 exact rfl) | (apply d_op; exact (vwant_n rfl); exact rfl; exact noRd rfl; decide +kernel; (iterate 3 exact rfl); rotate_left) | (apply p_op; exact (vwant_g rfl rfl rfl); iterate 4 exact rfl) | (apply d_op; exact (vwant_g rfl rfl rfl); exact rfl; exact noRd rfl; decide +kernel; (iterate 3 exact rfl); rotate_left)
 refine e_alloc rfl fun b8 => ⟨_, rfl, ?_⟩
 try (case hok => first | exact rdOk_nil | exact rdOk_b (by decide +kernel) | exact rdOk_c | (repeat (first | exact rdOk_e | refine rdOk_d (by decide +kernel) ?_ | refine rdOk_n ?_)))
 first | (apply p_do; exact (vwant_n rfl); exact rfl; exact rfl) | (apply d_do; exact (vwant_n rfl); exact rfl; exact noRd rfl; decide +kernel; exact rfl; rotate_left) | (apply p_do; exact (vwant_g rfl rfl rfl); exact rfl; exact rfl) | (apply d_do; exact (vwant_g rfl rfl rfl); exact rfl; exact noRd rfl; decide +kernel; exact rfl; rotate_left)
 refine e_stn (C' := [.b (isL t), .sl A1 (itB t).length (itB t).length o1, .sl A2 (itL t).length c2 o2]) rfl rfl (by simp) rfl (Nat.le_of_ble_eq_true rfl) rfl ⟨_, rfl, ?_⟩
 try (case hok => first | exact rdOk_nil | exact rdOk_b (by decide +kernel) | exact rdOk_c | (repeat (first | exact rdOk_e | refine rdOk_d (by decide +kernel) ?_ | refine rdOk_n ?_)))
 refine wo ?_
 first | (apply p_do; exact (vwant_n rfl); exact rfl; exact rfl) | (apply d_do; exact (vwant_n rfl); exact rfl; exact noRd rfl; decide +kernel; exact rfl; rotate_left) | (apply p_do; exact (vwant_g rfl rfl rfl); exact rfl; exact rfl) | (apply d_do; exact (vwant_g rfl rfl rfl); exact rfl; exact noRd rfl; decide +kernel; exact rfl; rotate_left)
 refine e_st (C' := nodC brN (.sl none 0 0 false) (.sl A1 (itB t).length (itB t).length o1) zFC ks.flatten) rfl rfl rfl (by rw [hlen _ _ hk16 hk34]; omega) rfl ⟨_, rfl, ?_⟩
 try (case hok => first | exact rdOk_nil | exact rdOk_b (by decide +kernel) | exact rdOk_c | (repeat (first | exact rdOk_e | refine rdOk_d (by decide +kernel) ?_ | refine rdOk_n ?_)))
 refine wo ?_
 first | (apply wm; iterate 5 exact rfl) | (apply dm; iterate 6 exact rfl) | (apply wmg; iterate 7 exact rfl) | (apply dmg; iterate 8 exact rfl)
 refine m_gtrD (p := 0 < (itB t).length) rfl rfl (by omega)
 refine wo ?_
 first | (apply p_do; exact (vwant_n rfl); exact rfl; exact rfl) | (apply d_do; exact (vwant_n rfl); exact rfl; exact noRd rfl; decide +kernel; exact rfl; rotate_left) | (apply p_do; exact (vwant_g rfl rfl rfl); exact rfl; exact rfl) | (apply d_do; exact (vwant_g rfl rfl rfl); exact rfl; exact noRd rfl; decide +kernel; exact rfl; rotate_left)
 refine e_st (C' := nodC ⟨3, [], [], decide (0 < (itB t).length), zRef, []⟩ (.sl none 0 0 false) (.sl A1 (itB t).length (itB t).length o1) zFC ks.flatten) rfl rfl rfl (by rw [hlen _ _ hk16 hk34]; omega) rfl ⟨_, rfl, ?_⟩
 try (case hok => first | exact rdOk_nil | exact rdOk_b (by decide +kernel) | exact rdOk_c | (repeat (first | exact rdOk_e | refine rdOk_d (by decide +kernel) ?_ | refine rdOk_n ?_)))
 have hml := hlen (.sl A1 (itB t).length (itB t).length o1) ks hk16 hk34 ⟨3, [], [], decide (0 < (itB t).length), zRef, []⟩
 refine wl_know (fun hp hs => (⟨nin1 (b := b4) (b' := b2) hs (by omega), nin1 (b := b8) (b' := b2) hs (by omega), nin1 (b := b2) (b' := b4) hs (by omega), nin1 (b := b2) (b' := b8) hs (by omega)⟩ : NotIn b4 [b2] ∧ NotIn b8 [b2] ∧ NotIn b2 [b4] ∧ NotIn b2 [b8])) fun ⟨n1, n2, n3, n4⟩ => ?_
 refine wo ?_
 first | refine zX (m_ldln (s := 581) (cs := nodC ⟨3, [], [], decide (0 < (itB t).length), zRef, []⟩ (.sl none 0 0 false) (.sl A1 (itB t).length (itB t).length o1) zFC ks.flatten) rfl (all_take _ hml) hml) ?_ | refine yX (m_ldln (s := 581) (cs := nodC ⟨3, [], [], decide (0 < (itB t).length), zRef, []⟩ (.sl none 0 0 false) (.sl A1 (itB t).length (itB t).length o1) zFC ks.flatten) rfl (all_take _ hml) hml) ?_
 refine wo ?_
 first | (apply p_do; exact (vwant_n rfl); exact rfl; exact rfl) | (apply d_do; exact (vwant_n rfl); exact rfl; exact noRd rfl; decide +kernel; exact rfl; rotate_left) | (apply p_do; exact (vwant_g rfl rfl rfl); exact rfl; exact rfl) | (apply d_do; exact (vwant_g rfl rfl rfl); exact rfl; exact noRd rfl; decide +kernel; exact rfl; rotate_left)
 refine e_stn (C' := nodC ⟨3, [], [], decide (0 < (itB t).length), zRef, []⟩ (.sl none 0 0 false) (.sl A1 (itB t).length (itB t).length o1) zFC ks.flatten) rfl rfl (List.cons_ne_nil _ _) hml (Nat.le_of_eq zNC_len.symm) (overV_all (hml.trans zNC_len.symm)) ⟨_, rfl, ?_⟩
 try (case hok => first | exact rdOk_nil | exact rdOk_b (by decide +kernel) | exact rdOk_c | (repeat (first | exact rdOk_e | refine rdOk_d (by decide +kernel) ?_ | refine rdOk_n ?_)))
 refine wo ?_
 refine w_ret (wend_ret (vres2 (rv_cell rfl hml) (rv_tmp rfl)) ⟨X, cle, ?_⟩)
 rw [hsh, hrs, hl16]
 cases t with
 | list l' => exact ⟨_, rfl, _, rfl, hml⟩
 | str v => exact ⟨_, rfl, _, rfl, hks, .sl none 0 0 false, _, zFC, ks, [], Mv, [], X, rfl, .nil, hs1, hMv, zFC_k, hX, rfl⟩
end Go.Proofs.Ytabpegdalmagpaa
/- Nw8: shortOf and Decode of node, by the program; Check and Encode outright. By this project. -/
set_option maxRecDepth 100000
namespace Go.Proofs.Ytabpegdalmagpaa
open Go.RowKit Go.Extern.Stop
theorem UnpackNo {A : Option (Nat × Nat)} {b : List UInt8} {c : Nat} {o : Bool} {hp : Hp} (h0 : unpackS b = none) (ho : OkH hp) (hA : RB ⟨hp, []⟩ A (b.map byV)) (hc : b.length ≤ c) (hl : b.length ≤ 1048576) :
  Fn kxD 53 [.sl A b.length c o] hp [] fun r N => ∃ u, r = .v u ∧ u = .tup [.sl none 0 0 false, .b false, .i .i64 60] := by
 have := unpack_d (o := o) ho hA hc hl
 rw [h0] at this
 exact this
theorem UnpackOk {A : Option (Nat × Nat)} {b xs : List UInt8} {lf : Bool} {c : Nat} {o : Bool} {hp : Hp} (h0 : unpackS b = some (xs, lf)) (ho : OkH hp) (hA : RB ⟨hp, []⟩ A (b.map byV)) (hc : b.length ≤ c) (hl : b.length ≤ 1048576) :
  Fn kxD 53 [.sl A b.length c o] hp [] fun r N => ∃ u, r = .v u ∧ ∃ w, u = .tup [w, .b lf, .i .i64 0] ∧ RowK xs w N := by
 have := unpack_d (o := o) ho hA hc hl
 rw [h0] at this
 exact this
theorem ex_put {s : V} {w : List V} {nib : List UInt8} {r : RefS} (hw : w.length = 34) : putAllV zNC [(0, [.i .i64 2]), (1, [s]), (4, w)] = nodC ⟨2, nib, [], false, r, List.replicate 16 zRef⟩ s (.sl none 0 0 false) w (List.replicate 16 zFC).flatten := by
 have e : putAllV zNC [(0, [.i .i64 2]), (1, [s]), (4, w)] = overV (putAllV zNC [(0, [.i .i64 2]), (1, [s])]) (0 + 4) w := rfl
 have e2 : putAllV zNC [(0, [.i .i64 2]), (1, [s])] = nodC ⟨2, nib, [], false, r, List.replicate 16 zRef⟩ s (.sl none 0 0 false) zFC (List.replicate 16 zFC).flatten := by kernel_rfl
 rw [e, e2]
 exact nodC_put zFC_len hw
set_option maxHeartbeats 16000000 in
theorem shortof_d {Y : HV} {p x : It} {v0 v1 : List V} {hp : Hp} (ho : OkH hp) (hp0 : ItW Y p v0) (hx1 : ItW Y x v1) (hP : ∀ A cs, Sn Y A cs → RB ⟨hp, []⟩ A cs) (hlp : (itB p).length ≤ 1048576) (hlx : (enc x).length ≤ 1048576) (hdx : depth x ≤ 80) :
  Fn kxD 29 [.agg v0, .agg v1] hp [] fun q N => match shapeS [p, x] with
   | none => ∃ u, q = .v u ∧ ∃ w, u = .tup [.agg w, .b false] ∧ w.length = 582
   | some n => ∃ u, q = .v u ∧ ∃ w, u = .tup [.agg w, .b true] ∧ NodW Y n w N := by
 have hx0 := itW_x _ _ hx1
 obtain ⟨A1, c1, o1, A2, c2, o2, _, rfl, hA1, hc1, _⟩ := itP_cellsC Sn.nil (itW_x _ _ hp0)
 obtain ⟨s3, Mv, A4, c4, o4, _, rfl, hs3, hMv, _⟩ := itW_cells hx1
 obtain ⟨A3, o3, rfl⟩ := hs3.sl
 have hB1 := hP _ _ hA1
 refine Fn.dropC ?_
 refine fn_of_w (T := []) ho.sv (fun _ => rfl) (fn := Try.f29) (by kernel_rfl) rfl rfl ?_
 refine wo ?_
 first | (apply p_op; exact (vwant_n rfl); iterate 4 exact rfl) | (apply d_op; exact (vwant_n rfl); exact rfl; exact noRd rfl; decide +kernel; (iterate 3 exact rfl); rotate_left) | (apply p_op; exact (vwant_g rfl rfl rfl); iterate 4 exact rfl) | (apply d_op; exact (vwant_g rfl rfl rfl); exact rfl; exact noRd rfl; decide +kernel; (iterate 3 exact rfl); rotate_left)
 refine ev_box rfl rfl fun b2 => ⟨_, rfl, ?_⟩
 try (case hok => first | exact rdOk_nil | exact rdOk_b (by decide +kernel) | exact rdOk_c | (repeat (first | exact rdOk_e | refine rdOk_d (by decide +kernel) ?_ | refine rdOk_n ?_)))
 first | (apply p_op; exact (vwant_n rfl); iterate 4 exact rfl) | (apply d_op; exact (vwant_n rfl); exact rfl; exact noRd rfl; decide +kernel; (iterate 3 exact rfl); rotate_left) | (apply p_op; exact (vwant_g rfl rfl rfl); iterate 4 exact rfl) | (apply d_op; exact (vwant_g rfl rfl rfl); exact rfl; exact noRd rfl; decide +kernel; (iterate 3 exact rfl); rotate_left)
 refine ev_box rfl rfl fun b3 => ⟨_, rfl, ?_⟩
 try (case hok => first | exact rdOk_nil | exact rdOk_b (by decide +kernel) | exact rdOk_c | (repeat (first | exact rdOk_e | refine rdOk_d (by decide +kernel) ?_ | refine rdOk_n ?_)))
 first | (apply p_op; exact (vwant_n rfl); iterate 4 exact rfl) | (apply d_op; exact (vwant_n rfl); exact rfl; exact noRd rfl; decide +kernel; (iterate 3 exact rfl); rotate_left) | (apply p_op; exact (vwant_g rfl rfl rfl); iterate 4 exact rfl) | (apply d_op; exact (vwant_g rfl rfl rfl); exact rfl; exact noRd rfl; decide +kernel; (iterate 3 exact rfl); rotate_left)
 refine e_alloc (zc := zNC) (by kernel_rfl) fun b4 => ⟨_, rfl, ?_⟩
 try (case hok => first | exact rdOk_nil | exact rdOk_b (by decide +kernel) | exact rdOk_c | (repeat (first | exact rdOk_e | refine rdOk_d (by decide +kernel) ?_ | refine rdOk_n ?_)))
 refine wl_know (fun hp hs => (⟨nin1 (b := b3) (b' := b4) hs (by omega), nin1 (b := b4) (b' := b3) hs (by omega)⟩ : NotIn b3 [b4] ∧ NotIn b4 [b3])) fun ⟨n1, n2⟩ => ?_
 refine wo ?_
 cases hu : unpackS (itB p) with
 | none =>
  have hsh : shapeS [p, x] = none := by
   cases p with
   | list l => rfl
   | str pb => simp [shapeS, show unpackS pb = none from hu]
  rw [hsh]
  first | (apply p_callY []; exact (vwant_n rfl); iterate 4 exact rfl) | (apply d_callY []; exact (vwant_n rfl); decide +kernel; (iterate 4 exact rfl)) | (apply p_callY []; exact (vwant_g rfl rfl rfl); iterate 4 exact rfl) | (apply d_callY []; exact (vwant_g rfl rfl rfl); decide +kernel; (iterate 4 exact rfl))
  try (case hok => first | exact rdOk_nil | exact rdOk_b (by decide +kernel) | exact rdOk_c)
  case hC => exact (fun hp' hs ht => UnpackNo hu hs.ok (hB1.give0 hs) hc1 hlp)
  rintro u N rfl
  refine wo ?_
  cases hq : isL p with
  | true =>
   refine wo ?_
   first | (apply wn; iterate 5 exact rfl) | (apply dn; iterate 5 exact rfl) | (apply wg; iterate 7 exact rfl) | (apply dg; iterate 7 exact rfl)
   refine p_buildS (C := zNC) .nil (by kernel_rfl)
   first | (apply p_do; exact (vwant_n rfl); exact rfl; exact rfl) | (apply d_do; exact (vwant_n rfl); exact rfl; exact noRd rfl; decide +kernel; exact rfl; rotate_left) | (apply p_do; exact (vwant_g rfl rfl rfl); exact rfl; exact rfl) | (apply d_do; exact (vwant_g rfl rfl rfl); exact rfl; exact noRd rfl; decide +kernel; exact rfl; rotate_left)
   refine e_stn (C' := zNC) rfl rfl zNC_ne zNC_len (Nat.le_of_eq zNC_len.symm) (overV_all rfl) ⟨_, rfl, ?_⟩
   try (case hok => first | exact rdOk_nil | exact rdOk_b (by decide +kernel) | exact rdOk_c | (repeat (first | exact rdOk_e | refine rdOk_d (by decide +kernel) ?_ | refine rdOk_n ?_)))
   refine wo ?_
   exact w_ret (wend_ret (vres2 (rv_cell rfl zNC_len) (rv_tmp rfl)) ⟨[], cle, _, rfl, _, rfl, zNC_len⟩)
  | false =>
   refine wo ?_
   first | (apply wm; iterate 5 exact rfl) | (apply dm; iterate 6 exact rfl) | (apply wmg; iterate 7 exact rfl) | (apply dmg; iterate 8 exact rfl)
   refine mv_int (v := .b true) rfl rfl (vi_neqT ((by decide)))
   refine wo ?_
   first | (apply wn; iterate 5 exact rfl) | (apply dn; iterate 5 exact rfl) | (apply wg; iterate 7 exact rfl) | (apply dg; iterate 7 exact rfl)
   refine p_buildS (C := zNC) .nil (by kernel_rfl)
   first | (apply p_do; exact (vwant_n rfl); exact rfl; exact rfl) | (apply d_do; exact (vwant_n rfl); exact rfl; exact noRd rfl; decide +kernel; exact rfl; rotate_left) | (apply p_do; exact (vwant_g rfl rfl rfl); exact rfl; exact rfl) | (apply d_do; exact (vwant_g rfl rfl rfl); exact rfl; exact noRd rfl; decide +kernel; exact rfl; rotate_left)
   refine e_stn (C' := zNC) rfl rfl zNC_ne zNC_len (Nat.le_of_eq zNC_len.symm) (overV_all rfl) ⟨_, rfl, ?_⟩
   try (case hok => first | exact rdOk_nil | exact rdOk_b (by decide +kernel) | exact rdOk_c | (repeat (first | exact rdOk_e | refine rdOk_d (by decide +kernel) ?_ | refine rdOk_n ?_)))
   refine wo ?_
   exact w_ret (wend_ret (vres2 (rv_cell rfl zNC_len) (rv_tmp rfl)) ⟨[], cle, _, rfl, _, rfl, zNC_len⟩)
 | some w =>
  obtain ⟨nib, lf⟩ := w
  cases p with
  | list l => exact absurd hu (by simp [itB, unpackS])
  | str pb =>
  have hu' : unpackS pb = some (nib, lf) := hu
  first | (apply p_callY []; exact (vwant_n rfl); iterate 4 exact rfl) | (apply d_callY []; exact (vwant_n rfl); decide +kernel; (iterate 4 exact rfl)) | (apply p_callY []; exact (vwant_g rfl rfl rfl); iterate 4 exact rfl) | (apply d_callY []; exact (vwant_g rfl rfl rfl); decide +kernel; (iterate 4 exact rfl))
  try (case hok => first | exact rdOk_nil | exact rdOk_b (by decide +kernel) | exact rdOk_c)
  case hC => exact (fun hp' hs ht => UnpackOk hu hs.ok (hB1.give0 hs) hc1 hlp)
  rintro u N ⟨w1, rfl, hw1⟩
  obtain ⟨A5, o5, rfl⟩ := hw1.sl
  refine wo ?_
  first | (apply wm; iterate 5 exact rfl) | (apply dm; iterate 6 exact rfl) | (apply wmg; iterate 7 exact rfl) | (apply dmg; iterate 8 exact rfl)
  refine mv_int (v := .b false) rfl rfl (vi_neqF ((by simp)))
  refine wo ?_
  cases lf with
  | true =>
   have hlen : (nodC ⟨1, nib, itB x, false, zRef, List.replicate 16 zRef⟩ (.sl A5 nib.length nib.length o5) (.sl A3 (itB x).length (itB x).length o3) zFC (List.replicate 16 zFC).flatten).length = 582 := by kernel_rfl
   refine wo ?_
   first | (apply wn; iterate 5 exact rfl) | (apply dn; iterate 5 exact rfl) | (apply wg; iterate 7 exact rfl) | (apply dg; iterate 7 exact rfl)
   refine p_buildS (C := nodC ⟨1, nib, itB x, false, zRef, List.replicate 16 zRef⟩ (.sl A5 nib.length nib.length o5) (.sl A3 (itB x).length (itB x).length o3) zFC (List.replicate 16 zFC).flatten) (.cons rfl rfl rfl rfl (Nat.le_of_ble_eq_true rfl) (.cons rfl rfl rfl rfl (Nat.le_of_ble_eq_true rfl) (.cons rfl rfl rfl rfl (Nat.le_of_ble_eq_true rfl) .nil))) (by kernel_rfl)
   refine wo ?_
   first | (apply p_do; exact (vwant_n rfl); exact rfl; exact rfl) | (apply d_do; exact (vwant_n rfl); exact rfl; exact noRd rfl; decide +kernel; exact rfl; rotate_left) | (apply p_do; exact (vwant_g rfl rfl rfl); exact rfl; exact rfl) | (apply d_do; exact (vwant_g rfl rfl rfl); exact rfl; exact noRd rfl; decide +kernel; exact rfl; rotate_left)
   refine e_stn (C' := nodC ⟨1, nib, itB x, false, zRef, List.replicate 16 zRef⟩ (.sl A5 nib.length nib.length o5) (.sl A3 (itB x).length (itB x).length o3) zFC (List.replicate 16 zFC).flatten) rfl rfl (List.cons_ne_nil _ _) hlen (Nat.le_of_eq zNC_len.symm) (overV_all (hlen.trans zNC_len.symm)) ⟨_, rfl, ?_⟩
   try (case hok => first | exact rdOk_nil | exact rdOk_b (by decide +kernel) | exact rdOk_c | (repeat (first | exact rdOk_e | refine rdOk_d (by decide +kernel) ?_ | refine rdOk_n ?_)))
   refine wo ?_
   refine w_ret (wend_ret (vres2 (rv_cell rfl hlen) (rv_tmp rfl)) ⟨N, cle, ?_⟩)
   cases x with
   | list l =>
    have hsh : shapeS [.str pb, .list l] = none := by simp [shapeS, hu']
    rw [hsh]
    exact ⟨_, rfl, _, rfl, hlen⟩
   | str v =>
    have hsh : shapeS [.str pb, .str v] = some ⟨1, nib, v, false, zRef, List.replicate 16 zRef⟩ := by simp [shapeS, hu']
    rw [hsh]
    exact ⟨_, rfl, _, rfl, rfl, _, _, zFC, List.replicate 16 zFC, N, Mv, [], [], rfl, hw1, hs3, hMv, zFC_k, refsK_rep 16, (List.append_nil N).symm⟩
  | false =>
   refine wo ?_
   first | refine zX (m_ldln (s := 2) (cs := [.b (isL x), .sl A3 (itB x).length (itB x).length o3, .sl A4 (itL x).length c4 o4]) rfl rfl rfl) ?_ | refine yX (m_ldln (s := 2) (cs := [.b (isL x), .sl A3 (itB x).length (itB x).length o3, .sl A4 (itL x).length c4 o4]) rfl rfl rfl) ?_
   cases hr : refOfS x with
   | none =>
    have hsh : shapeS [.str pb, x] = none := by simp [shapeS, hu', hr]
    rw [hsh]
    have hlen : (nodC ⟨2, nib, [], false, zRef, List.replicate 16 zRef⟩ (.sl A5 nib.length nib.length o5) (.sl none 0 0 false) zFC (List.replicate 16 zFC).flatten).length = 582 := by kernel_rfl
    first | (apply p_callY []; exact (vwant_n rfl); iterate 4 exact rfl) | (apply d_callY []; exact (vwant_n rfl); decide +kernel; (iterate 4 exact rfl)) | (apply p_callY []; exact (vwant_g rfl rfl rfl); iterate 4 exact rfl) | (apply d_callY []; exact (vwant_g rfl rfl rfl); decide +kernel; (iterate 4 exact rfl))
    try (case hok => first | exact rdOk_nil | exact rdOk_b (by decide +kernel) | exact rdOk_c)
    case hC => exact (fun hp' hs ht => RefofNo hr hs.ok hx0 (fun A cs h => (hP A cs h).give0 hs) hlx hdx)
    rintro u N1 rfl
    refine wo ?_
    first | (apply p_op; exact (vwant_n rfl); iterate 4 exact rfl) | (apply d_op; exact (vwant_n rfl); exact rfl; exact noRd rfl; decide +kernel; (iterate 3 exact rfl); rotate_left) | (apply p_op; exact (vwant_g rfl rfl rfl); iterate 4 exact rfl) | (apply d_op; exact (vwant_g rfl rfl rfl); exact rfl; exact noRd rfl; decide +kernel; (iterate 3 exact rfl); rotate_left)
    refine e_alloc (zc := zFC) rfl fun b9 => ⟨_, rfl, ?_⟩
    try (case hok => first | exact rdOk_nil | exact rdOk_b (by decide +kernel) | exact rdOk_c | (repeat (first | exact rdOk_e | refine rdOk_d (by decide +kernel) ?_ | refine rdOk_n ?_)))
    first | (apply p_do; exact (vwant_n rfl); exact rfl; exact rfl) | (apply d_do; exact (vwant_n rfl); exact rfl; exact noRd rfl; decide +kernel; exact rfl; rotate_left) | (apply p_do; exact (vwant_g rfl rfl rfl); exact rfl; exact rfl) | (apply d_do; exact (vwant_g rfl rfl rfl); exact rfl; exact noRd rfl; decide +kernel; exact rfl; rotate_left)
    refine e_stn (C' := zFC) rfl rfl (ne_of_len zFC_len (by decide)) zFC_len (Nat.le_of_eq zFC_len.symm) rfl ⟨_, rfl, ?_⟩
    try (case hok => first | exact rdOk_nil | exact rdOk_b (by decide +kernel) | exact rdOk_c | (repeat (first | exact rdOk_e | refine rdOk_d (by decide +kernel) ?_ | refine rdOk_n ?_)))
    refine wo ?_
    first | refine zX (m_ldln (s := 33) (cs := zFC) rfl (all_take _ zFC_len) zFC_len) ?_ | refine yX (m_ldln (s := 33) (cs := zFC) rfl (all_take _ zFC_len) zFC_len) ?_
    first | (apply wn; iterate 5 exact rfl) | (apply dn; iterate 5 exact rfl) | (apply wg; iterate 7 exact rfl) | (apply dg; iterate 7 exact rfl)
    refine p_buildS (C := nodC ⟨2, nib, [], false, zRef, List.replicate 16 zRef⟩ (.sl A5 nib.length nib.length o5) (.sl none 0 0 false) zFC (List.replicate 16 zFC).flatten) (.cons rfl rfl rfl rfl (Nat.le_of_ble_eq_true rfl) (.cons rfl rfl rfl rfl (Nat.le_of_ble_eq_true rfl) (.cons rfl rfl rfl zFC_len (Nat.le_of_ble_eq_true rfl) .nil))) (by kernel_rfl)
    refine wo ?_
    first | (apply p_do; exact (vwant_n rfl); exact rfl; exact rfl) | (apply d_do; exact (vwant_n rfl); exact rfl; exact noRd rfl; decide +kernel; exact rfl; rotate_left) | (apply p_do; exact (vwant_g rfl rfl rfl); exact rfl; exact rfl) | (apply d_do; exact (vwant_g rfl rfl rfl); exact rfl; exact noRd rfl; decide +kernel; exact rfl; rotate_left)
    refine e_stn (C' := nodC ⟨2, nib, [], false, zRef, List.replicate 16 zRef⟩ (.sl A5 nib.length nib.length o5) (.sl none 0 0 false) zFC (List.replicate 16 zFC).flatten) rfl rfl (List.cons_ne_nil _ _) hlen (Nat.le_of_eq zNC_len.symm) (overV_all (hlen.trans zNC_len.symm)) ⟨_, rfl, ?_⟩
    try (case hok => first | exact rdOk_nil | exact rdOk_b (by decide +kernel) | exact rdOk_c | (repeat (first | exact rdOk_e | refine rdOk_d (by decide +kernel) ?_ | refine rdOk_n ?_)))
    refine wo ?_
    exact w_ret (wend_ret (vres2 (rv_cell rfl hlen) (rv_tmp rfl)) ⟨[], cle, _, rfl, _, rfl, hlen⟩)
   | some r =>
    have hsh : shapeS [.str pb, x] = some ⟨2, nib, [], false, r, List.replicate 16 zRef⟩ := by simp [shapeS, hu', hr]
    rw [hsh]
    first | (apply p_callY []; exact (vwant_n rfl); iterate 4 exact rfl) | (apply d_callY []; exact (vwant_n rfl); decide +kernel; (iterate 4 exact rfl)) | (apply p_callY []; exact (vwant_g rfl rfl rfl); iterate 4 exact rfl) | (apply d_callY []; exact (vwant_g rfl rfl rfl); decide +kernel; (iterate 4 exact rfl))
    try (case hok => first | exact rdOk_nil | exact rdOk_b (by decide +kernel) | exact rdOk_c)
    case hC => exact (fun hp' hs ht => RefofOk hr hs.ok hx0 (fun A cs h => (hP A cs h).give0 hs) hlx hdx)
    rintro u N1 ⟨wr, rfl, hwr⟩
    have hwl := hwr.len
    have hlen : (nodC ⟨2, nib, [], false, r, List.replicate 16 zRef⟩ (.sl A5 nib.length nib.length o5) (.sl none 0 0 false) wr (List.replicate 16 zFC).flatten).length = 582 := by
     have : (List.replicate 16 zFC).flatten.length = 544 := by kernel_rfl
     simp only [List.length_cons, List.length_append, hwl, this]
    refine wo ?_
    first | (apply p_op; exact (vwant_n rfl); iterate 4 exact rfl) | (apply d_op; exact (vwant_n rfl); exact rfl; exact noRd rfl; decide +kernel; (iterate 3 exact rfl); rotate_left) | (apply p_op; exact (vwant_g rfl rfl rfl); iterate 4 exact rfl) | (apply d_op; exact (vwant_g rfl rfl rfl); exact rfl; exact noRd rfl; decide +kernel; (iterate 3 exact rfl); rotate_left)
    refine e_alloc (zc := zFC) rfl fun b9 => ⟨_, rfl, ?_⟩
    try (case hok => first | exact rdOk_nil | exact rdOk_b (by decide +kernel) | exact rdOk_c | (repeat (first | exact rdOk_e | refine rdOk_d (by decide +kernel) ?_ | refine rdOk_n ?_)))
    first | (apply p_do; exact (vwant_n rfl); exact rfl; exact rfl) | (apply d_do; exact (vwant_n rfl); exact rfl; exact noRd rfl; decide +kernel; exact rfl; rotate_left) | (apply p_do; exact (vwant_g rfl rfl rfl); exact rfl; exact rfl) | (apply d_do; exact (vwant_g rfl rfl rfl); exact rfl; exact noRd rfl; decide +kernel; exact rfl; rotate_left)
    refine e_stn (C' := wr) rfl rfl (ne_of_len hwl (by decide)) hwl (Nat.le_of_eq zFC_len.symm) (overV_all (hwl.trans zFC_len.symm)) ⟨_, rfl, ?_⟩
    try (case hok => first | exact rdOk_nil | exact rdOk_b (by decide +kernel) | exact rdOk_c | (repeat (first | exact rdOk_e | refine rdOk_d (by decide +kernel) ?_ | refine rdOk_n ?_)))
    refine wo ?_
    first | refine zX (m_ldln (s := 33) (cs := wr) rfl (all_take _ hwl) hwl) ?_ | refine yX (m_ldln (s := 33) (cs := wr) rfl (all_take _ hwl) hwl) ?_
    first | (apply wn; iterate 5 exact rfl) | (apply dn; iterate 5 exact rfl) | (apply wg; iterate 7 exact rfl) | (apply dg; iterate 7 exact rfl)
    refine p_buildS (C := nodC ⟨2, nib, [], false, r, List.replicate 16 zRef⟩ (.sl A5 nib.length nib.length o5) (.sl none 0 0 false) wr (List.replicate 16 zFC).flatten) (.cons rfl rfl rfl rfl (Nat.le_of_ble_eq_true rfl) (.cons rfl rfl rfl rfl (Nat.le_of_ble_eq_true rfl) (.cons rfl rfl rfl hwl (Nat.le_of_ble_eq_true rfl) .nil))) (ex_put hwl)
    refine wo ?_
    first | (apply p_do; exact (vwant_n rfl); exact rfl; exact rfl) | (apply d_do; exact (vwant_n rfl); exact rfl; exact noRd rfl; decide +kernel; exact rfl; rotate_left) | (apply p_do; exact (vwant_g rfl rfl rfl); exact rfl; exact rfl) | (apply d_do; exact (vwant_g rfl rfl rfl); exact rfl; exact noRd rfl; decide +kernel; exact rfl; rotate_left)
    refine e_stn (C' := nodC ⟨2, nib, [], false, r, List.replicate 16 zRef⟩ (.sl A5 nib.length nib.length o5) (.sl none 0 0 false) wr (List.replicate 16 zFC).flatten) rfl rfl (List.cons_ne_nil _ _) hlen (Nat.le_of_eq zNC_len.symm) (overV_all (hlen.trans zNC_len.symm)) ⟨_, rfl, ?_⟩
    try (case hok => first | exact rdOk_nil | exact rdOk_b (by decide +kernel) | exact rdOk_c | (repeat (first | exact rdOk_e | refine rdOk_d (by decide +kernel) ?_ | refine rdOk_n ?_)))
    refine wo ?_
    exact w_ret (wend_ret (vres2 (rv_cell rfl hlen) (rv_tmp rfl)) ⟨N ++ (N1 ++ []), cle, _, rfl, _, rfl, rfl, _, _, wr, List.replicate 16 zFC, N, [], N1, [], rfl, hw1, .nil, fun p hp => absurd hp (by simp), hwr, refsK_rep 16, rfl⟩)
theorem ShortNo {Y : HV} {p x : It} {v0 v1 : List V} {hp : Hp} (hS : shapeS [p, x] = none) (ho : OkH hp) (hp0 : ItW Y p v0) (hx1 : ItW Y x v1) (hP : ∀ A cs, Sn Y A cs → RB ⟨hp, []⟩ A cs) (hlp : (itB p).length ≤ 1048576) (hlx : (enc x).length ≤ 1048576) (hdx : depth x ≤ 80) :
  Fn kxD 29 [.agg v0, .agg v1] hp [] fun q N => ∃ u, q = .v u ∧ ∃ w, u = .tup [.agg w, .b false] ∧ w.length = 582 := by
 have := shortof_d ho hp0 hx1 hP hlp hlx hdx
 rw [hS] at this
 exact this
theorem ShortOk {Y : HV} {p x : It} {n : NodS} {v0 v1 : List V} {hp : Hp} (hS : shapeS [p, x] = some n) (ho : OkH hp) (hp0 : ItW Y p v0) (hx1 : ItW Y x v1) (hP : ∀ A cs, Sn Y A cs → RB ⟨hp, []⟩ A cs) (hlp : (itB p).length ≤ 1048576) (hlx : (enc x).length ≤ 1048576) (hdx : depth x ≤ 80) :
  Fn kxD 29 [.agg v0, .agg v1] hp [] fun q N => ∃ u, q = .v u ∧ ∃ w, u = .tup [.agg w, .b true] ∧ NodW Y n w N := by
 have := shortof_d ho hp0 hx1 hP hlp hlx hdx
 rw [hS] at this
 exact this
theorem BranchNo {Y : HV} {l : List It} {A : Option (Nat × Nat)} {c : Nat} {o : Bool} {vs : List (List V)} {hp : Hp} (hS : shapeS l = none) (ho : OkH hp) (hA : Sn Y A vs.flatten) (hvs : ItWs Y l vs) (hP : ∀ A cs, Sn Y A cs → RB ⟨hp, []⟩ A cs) (h17 : l.length = 17) (hl : ∀ t ∈ l, (enc t).length ≤ 1048576 ∧ depth t ≤ 80) :
  Fn kxD 30 [.sl A l.length c o] hp [] fun q N => ∃ u, q = .v u ∧ ∃ w, u = .tup [.agg w, .b false] ∧ w.length = 582 := by
 have := branchof_d (c := c) (o := o) ho hA hvs hP h17 hl
 rw [hS] at this
 exact this
theorem BranchOk {Y : HV} {l : List It} {n : NodS} {A : Option (Nat × Nat)} {c : Nat} {o : Bool} {vs : List (List V)} {hp : Hp} (hS : shapeS l = some n) (ho : OkH hp) (hA : Sn Y A vs.flatten) (hvs : ItWs Y l vs) (hP : ∀ A cs, Sn Y A cs → RB ⟨hp, []⟩ A cs) (h17 : l.length = 17) (hl : ∀ t ∈ l, (enc t).length ≤ 1048576 ∧ depth t ≤ 80) :
  Fn kxD 30 [.sl A l.length c o] hp [] fun q N => ∃ u, q = .v u ∧ ∃ w, u = .tup [.agg w, .b true] ∧ NodW Y n w N := by
 have := branchof_d (c := c) (o := o) ho hA hvs hP h17 hl
 rw [hS] at this
 exact this
theorem decS_ne {b : List UInt8} {x : Flt} (h : decS b = .error x) : x.2 ≠ 0 := by
 rw [decS_of] at h
 cases hR : readS b with
 | error y =>
  rw [hR] at h
  obtain rfl := Except.error.inj h
  exact readS_err hR
 | ok tq =>
  rw [hR] at h
  dsimp only at h
  split at h
  ·obtain rfl := Except.error.inj h
   simp
  ·simp at h
theorem itB_enc (t : It) (h : (enc t).length ≤ 1048576) : (itB t).length ≤ 1048576 := by
 cases t with
 | list l => exact Nat.zero_le _
 | str bs =>
  rw [itB]
  rw [enc] at h
  have : bs.length ≤ (strB bs).length := by
   by_cases g : ∃ b, bs = [b] ∧ b.toNat < 128
   ·obtain ⟨b, rfl, g2⟩ := g
    rw [strB_one g2]
    exact Nat.le_refl _
   ·rw [strB_many fun b e h => g ⟨b, e, h⟩, List.length_append]
    omega
  omega
theorem shape_two {l : List It} (h2 : l.length ≠ 2) (h17 : l.length ≠ 17) : shapeS l = none := by
 unfold shapeS
 rw [if_neg h2, if_neg h17]
def DecOwn (b : List UInt8) : Prop := ∀ (A : Option (Nat × Nat)) (c : Nat) (o : Bool) (hp : Hp), OkH hp → RB ⟨hp, []⟩ A (b.map byV) → b.length ≤ c → Fn kxD 11 [.sl A b.length c o] hp [] fun r N => match ndD b with
 | none => ∃ u, r = .v u ∧ u = .tup [.agg zNC, .i .i64 70]
 | some n => ∃ u, r = .v u ∧ ∃ w M R, u = .tup [.agg w, .i .i64 0] ∧ N = M ++ R ∧ NodK n w M
theorem DecOwn.ok {b : List UInt8} (h : DecOwn b) : DecOk b := fun A c o hp ho hA hc => by
 refine (h A c o hp ho hA hc).mono fun r N h => ?_
 unfold DecR
 revert h
 cases ndD b with
 | none => exact id
 | some n =>
  rintro ⟨u, h0, w, M, R, h1, rfl, h2⟩
  exact ⟨u, h0, w, h1, h2.p fun p hp => List.mem_append_left _ hp⟩
set_option maxHeartbeats 64000000 in
theorem decode_k {b : List UInt8} (ih : ∀ b' : List UInt8, b'.length < b.length → DecOk b') : DecOwn b := by
 intro A c o hp ho hA hc
 rw [ndD_eq]
 refine Fn.dropC ?_
 refine fn_of_w (T := []) ho.sv (fun _ => rfl) (fn := Try.f11) (by kernel_rfl) rfl rfl ?_
 refine wo ?_
 first | (apply p_op; exact (vwant_n rfl); iterate 4 exact rfl) | (apply d_op; exact (vwant_n rfl); exact rfl; exact noRd rfl; decide +kernel; (iterate 3 exact rfl); rotate_left) | (apply p_op; exact (vwant_g rfl rfl rfl); iterate 4 exact rfl) | (apply d_op; exact (vwant_g rfl rfl rfl); exact rfl; exact noRd rfl; decide +kernel; (iterate 3 exact rfl); rotate_left)
 refine e_alloc (zc := zNC) (by kernel_rfl) fun b2 => ⟨_, rfl, ?_⟩
 try (case hok => first | exact rdOk_nil | exact rdOk_b (by decide +kernel) | exact rdOk_c | (repeat (first | exact rdOk_e | refine rdOk_d (by decide +kernel) ?_ | refine rdOk_n ?_)))
 refine wo ?_
 by_cases g : 1024 < b.length
 ·rw [if_pos g]
  first | (apply wm; iterate 5 exact rfl) | (apply dm; iterate 6 exact rfl) | (apply wmg; iterate 7 exact rfl) | (apply dmg; iterate 8 exact rfl)
  refine mv_int (v := .b true) rfl rfl (vi_gtrT (by omega))
  refine wo ?_
  first | (apply wn; iterate 5 exact rfl) | (apply dn; iterate 5 exact rfl) | (apply wg; iterate 7 exact rfl) | (apply dg; iterate 7 exact rfl)
  refine p_buildS (C := zNC) .nil (by kernel_rfl)
  first | (apply p_do; exact (vwant_n rfl); exact rfl; exact rfl) | (apply d_do; exact (vwant_n rfl); exact rfl; exact noRd rfl; decide +kernel; exact rfl; rotate_left) | (apply p_do; exact (vwant_g rfl rfl rfl); exact rfl; exact rfl) | (apply d_do; exact (vwant_g rfl rfl rfl); exact rfl; exact noRd rfl; decide +kernel; exact rfl; rotate_left)
  refine e_stn (C' := zNC) rfl rfl zNC_ne zNC_len (Nat.le_of_eq zNC_len.symm) (overV_all rfl) ⟨_, rfl, ?_⟩
  try (case hok => first | exact rdOk_nil | exact rdOk_b (by decide +kernel) | exact rdOk_c | (repeat (first | exact rdOk_e | refine rdOk_d (by decide +kernel) ?_ | refine rdOk_n ?_)))
  refine wo ?_
  exact w_ret (wend_ret (vres2 (rv_cell rfl zNC_len) (rv_tmp rfl)) ⟨[], cle, _, rfl, rfl⟩)
 rw [if_neg g]
 first | (apply wm; iterate 5 exact rfl) | (apply dm; iterate 6 exact rfl) | (apply wmg; iterate 7 exact rfl) | (apply dmg; iterate 8 exact rfl)
 refine mv_int (v := .b false) rfl rfl (vi_gtrF (by omega))
 refine wo ?_
 cases hS : decS b with
 | error x =>
  have hx := decS_ne hS
  have hC : ∀ {L : HV} {hp' : Hp}, SV ⟨hp, []⟩ hp' L → OkH hp' → Fn kxD 28 [.sl A b.length c o] hp' [] fun r N => ∃ u, r = .v u ∧ u = .tup [.agg zI, .i .i64 (x.1 : Nat), .i .i64 (x.2 : Nat)] := fun hs ho => by
   have := decode_d (o := o) ho (hA.give0 hs) hc
   rw [hS] at this
   exact this
  first | (apply p_callY []; exact (vwant_n rfl); iterate 4 exact rfl) | (apply d_callY []; exact (vwant_n rfl); decide +kernel; (iterate 4 exact rfl)) | (apply p_callY []; exact (vwant_g rfl rfl rfl); iterate 4 exact rfl) | (apply d_callY []; exact (vwant_g rfl rfl rfl); decide +kernel; (iterate 4 exact rfl))
  try (case hok => first | exact rdOk_nil | exact rdOk_b (by decide +kernel) | exact rdOk_c)
  case hC => exact (fun hp' hs ht => hC hs hs.ok)
  rintro u N rfl
  refine wo ?_
  first | (apply p_op; exact (vwant_n rfl); iterate 4 exact rfl) | (apply d_op; exact (vwant_n rfl); exact rfl; exact noRd rfl; decide +kernel; (iterate 3 exact rfl); rotate_left) | (apply p_op; exact (vwant_g rfl rfl rfl); iterate 4 exact rfl) | (apply d_op; exact (vwant_g rfl rfl rfl); exact rfl; exact noRd rfl; decide +kernel; (iterate 3 exact rfl); rotate_left)
  refine e_alloc rfl fun b4 => ⟨_, rfl, ?_⟩
  try (case hok => first | exact rdOk_nil | exact rdOk_b (by decide +kernel) | exact rdOk_c | (repeat (first | exact rdOk_e | refine rdOk_d (by decide +kernel) ?_ | refine rdOk_n ?_)))
  first | (apply p_do; exact (vwant_n rfl); exact rfl; exact rfl) | (apply d_do; exact (vwant_n rfl); exact rfl; exact noRd rfl; decide +kernel; exact rfl; rotate_left) | (apply p_do; exact (vwant_g rfl rfl rfl); exact rfl; exact rfl) | (apply d_do; exact (vwant_g rfl rfl rfl); exact rfl; exact noRd rfl; decide +kernel; exact rfl; rotate_left)
  refine e_stn (C' := zI) rfl rfl (by simp) rfl (Nat.le_of_ble_eq_true rfl) rfl ⟨_, rfl, ?_⟩
  try (case hok => first | exact rdOk_nil | exact rdOk_b (by decide +kernel) | exact rdOk_c | (repeat (first | exact rdOk_e | refine rdOk_d (by decide +kernel) ?_ | refine rdOk_n ?_)))
  refine wo ?_
  first | (apply wm; iterate 5 exact rfl) | (apply dm; iterate 6 exact rfl) | (apply wmg; iterate 7 exact rfl) | (apply dmg; iterate 8 exact rfl)
  refine mv_int (v := .b true) rfl rfl (vi_neqT (by omega))
  refine wo ?_
  first | (apply wn; iterate 5 exact rfl) | (apply dn; iterate 5 exact rfl) | (apply wg; iterate 7 exact rfl) | (apply dg; iterate 7 exact rfl)
  refine p_buildS (C := zNC) .nil (by kernel_rfl)
  first | (apply p_do; exact (vwant_n rfl); exact rfl; exact rfl) | (apply d_do; exact (vwant_n rfl); exact rfl; exact noRd rfl; decide +kernel; exact rfl; rotate_left) | (apply p_do; exact (vwant_g rfl rfl rfl); exact rfl; exact rfl) | (apply d_do; exact (vwant_g rfl rfl rfl); exact rfl; exact noRd rfl; decide +kernel; exact rfl; rotate_left)
  refine e_stn (C' := zNC) rfl rfl zNC_ne zNC_len (Nat.le_of_eq zNC_len.symm) (overV_all rfl) ⟨_, rfl, ?_⟩
  try (case hok => first | exact rdOk_nil | exact rdOk_b (by decide +kernel) | exact rdOk_c | (repeat (first | exact rdOk_e | refine rdOk_d (by decide +kernel) ?_ | refine rdOk_n ?_)))
  refine wo ?_
  exact w_ret (wend_ret (vres2 (rv_cell rfl zNC_len) (rv_tmp rfl)) ⟨[], cle, _, rfl, rfl⟩)
 | ok t =>
  have hdt := decS_dep hS
  have hbt := decS_inv hS
  have hC : ∀ {L : HV} {hp' : Hp}, SV ⟨hp, []⟩ hp' L → OkH hp' → Fn kxD 28 [.sl A b.length c o] hp' [] fun r N => ∃ u, r = .v u ∧ ∃ a1 a2 a3, u = .tup [.agg [a1, a2, a3], .i .i64 0, .i .i64 0] ∧ ItW N t [a1, a2, a3] := fun hs ho => by
   have := decode_w (o := o) ho (hA.give0 hs) hc
   rw [hS] at this
   exact this
  dsimp only
  first | (apply p_callY []; exact (vwant_n rfl); iterate 4 exact rfl) | (apply d_callY []; exact (vwant_n rfl); decide +kernel; (iterate 4 exact rfl)) | (apply p_callY []; exact (vwant_g rfl rfl rfl); iterate 4 exact rfl) | (apply d_callY []; exact (vwant_g rfl rfl rfl); decide +kernel; (iterate 4 exact rfl))
  try (case hok => first | exact rdOk_nil | exact rdOk_b (by decide +kernel) | exact rdOk_c)
  case hC => exact (fun hp' hs ht => hC hs hs.ok)
  rintro u N ⟨a1, a2, a3, rfl, hX⟩
  cases t with
  | str bs =>
   have hX := itW_x _ _ hX
   rw [ItX, ItP] at hX
   obtain ⟨A1, c1, o1, hv, _, _⟩ := hX
   simp only [List.cons.injEq, and_true] at hv
   obtain ⟨rfl, rfl, rfl⟩ := hv
   refine wo ?_
   first | (apply p_op; exact (vwant_n rfl); iterate 4 exact rfl) | (apply d_op; exact (vwant_n rfl); exact rfl; exact noRd rfl; decide +kernel; (iterate 3 exact rfl); rotate_left) | (apply p_op; exact (vwant_g rfl rfl rfl); iterate 4 exact rfl) | (apply d_op; exact (vwant_g rfl rfl rfl); exact rfl; exact noRd rfl; decide +kernel; (iterate 3 exact rfl); rotate_left)
   refine e_alloc rfl fun b4 => ⟨_, rfl, ?_⟩
   try (case hok => first | exact rdOk_nil | exact rdOk_b (by decide +kernel) | exact rdOk_c | (repeat (first | exact rdOk_e | refine rdOk_d (by decide +kernel) ?_ | refine rdOk_n ?_)))
   first | (apply p_do; exact (vwant_n rfl); exact rfl; exact rfl) | (apply d_do; exact (vwant_n rfl); exact rfl; exact noRd rfl; decide +kernel; exact rfl; rotate_left) | (apply p_do; exact (vwant_g rfl rfl rfl); exact rfl; exact rfl) | (apply d_do; exact (vwant_g rfl rfl rfl); exact rfl; exact noRd rfl; decide +kernel; exact rfl; rotate_left)
   refine e_stn (C' := [.b false, .sl A1 bs.length c1 o1, .sl none 0 0 false]) rfl rfl (by simp) rfl (Nat.le_of_ble_eq_true rfl) rfl ⟨_, rfl, ?_⟩
   try (case hok => first | exact rdOk_nil | exact rdOk_b (by decide +kernel) | exact rdOk_c | (repeat (first | exact rdOk_e | refine rdOk_d (by decide +kernel) ?_ | refine rdOk_n ?_)))
   refine wo ?_
   first | (apply wm; iterate 5 exact rfl) | (apply dm; iterate 6 exact rfl) | (apply wmg; iterate 7 exact rfl) | (apply dmg; iterate 8 exact rfl)
   refine mv_int (v := .b false) rfl rfl (vi_neqF (by omega))
   refine wo ?_
   first | (apply wn; iterate 5 exact rfl) | (apply dn; iterate 5 exact rfl) | (apply wg; iterate 7 exact rfl) | (apply dg; iterate 7 exact rfl)
   refine p_buildS (C := zNC) .nil (by kernel_rfl)
   first | (apply p_do; exact (vwant_n rfl); exact rfl; exact rfl) | (apply d_do; exact (vwant_n rfl); exact rfl; exact noRd rfl; decide +kernel; exact rfl; rotate_left) | (apply p_do; exact (vwant_g rfl rfl rfl); exact rfl; exact rfl) | (apply d_do; exact (vwant_g rfl rfl rfl); exact rfl; exact noRd rfl; decide +kernel; exact rfl; rotate_left)
   refine e_stn (C' := zNC) rfl rfl zNC_ne zNC_len (Nat.le_of_eq zNC_len.symm) (overV_all rfl) ⟨_, rfl, ?_⟩
   try (case hok => first | exact rdOk_nil | exact rdOk_b (by decide +kernel) | exact rdOk_c | (repeat (first | exact rdOk_e | refine rdOk_d (by decide +kernel) ?_ | refine rdOk_n ?_)))
   refine wo ?_
   exact w_ret (wend_ret (vres2 (rv_cell rfl zNC_len) (rv_tmp rfl)) ⟨[], cle, _, rfl, rfl⟩)
  | list l =>
   dsimp only
   rw [ItW] at hX
   obtain ⟨A1, c1, o1, vs, hv, hPA, hvs⟩ := hX
   simp only [List.cons.injEq, and_true] at hv
   obtain ⟨rfl, rfl, rfl⟩ := hv
   have hpos := headB_pos 192 (encs l).length
   have hbl : (headB 192 (encs l).length).length + (encs l).length = b.length := by
    rw [← hbt, enc, List.length_append]
   have hmem : ∀ x ∈ l, (enc x).length < b.length ∧ (enc x).length ≤ 1048576 ∧ depth x ≤ 80 := fun x hx => by
    have h1 := enc_mem hx
    have h2 := depth_mem hx
    rw [depth] at hdt
    omega
   refine wo ?_
   first | (apply p_op; exact (vwant_n rfl); iterate 4 exact rfl) | (apply d_op; exact (vwant_n rfl); exact rfl; exact noRd rfl; decide +kernel; (iterate 3 exact rfl); rotate_left) | (apply p_op; exact (vwant_g rfl rfl rfl); iterate 4 exact rfl) | (apply d_op; exact (vwant_g rfl rfl rfl); exact rfl; exact noRd rfl; decide +kernel; (iterate 3 exact rfl); rotate_left)
   refine e_alloc rfl fun b4 => ⟨_, rfl, ?_⟩
   try (case hok => first | exact rdOk_nil | exact rdOk_b (by decide +kernel) | exact rdOk_c | (repeat (first | exact rdOk_e | refine rdOk_d (by decide +kernel) ?_ | refine rdOk_n ?_)))
   first | (apply p_do; exact (vwant_n rfl); exact rfl; exact rfl) | (apply d_do; exact (vwant_n rfl); exact rfl; exact noRd rfl; decide +kernel; exact rfl; rotate_left) | (apply p_do; exact (vwant_g rfl rfl rfl); exact rfl; exact rfl) | (apply d_do; exact (vwant_g rfl rfl rfl); exact rfl; exact noRd rfl; decide +kernel; exact rfl; rotate_left)
   refine e_stn (C' := [.b true, .sl none 0 0 false, .sl A1 l.length c1 o1]) rfl rfl (by simp) rfl (Nat.le_of_ble_eq_true rfl) rfl ⟨_, rfl, ?_⟩
   try (case hok => first | exact rdOk_nil | exact rdOk_b (by decide +kernel) | exact rdOk_c | (repeat (first | exact rdOk_e | refine rdOk_d (by decide +kernel) ?_ | refine rdOk_n ?_)))
   refine wOS0 ?_
   refine w_base [(some b4, cellsO [.b true, .sl none 0 0 false, .sl A1 l.length c1 o1] 63), (some b2, cellsO zNC 29)] N (fun hp h => h.perm (List.perm_append_comm.cons _)) fun hp1 hs1 => ?_
   have hB : ∀ B cs, Sn N B cs → RB ⟨hp1, hnds [(some b4, cellsO [.b true, .sl none 0 0 false, .sl A1 l.length c1 o1] 63), (some b2, cellsO zNC 29)]⟩ B cs := fun B cs h => h _ _ _ _ hs1 fun p hp => hp
   have hA1 := hB _ _ hPA
   have hlN : l.length ≤ b.length := by
    have : ∀ l : List It, l.length ≤ (encs l).length := fun l => by
     induction l with
     | nil => exact Nat.zero_le _
     | cons t r ih2 =>
      have := enc_pos t
      rw [encs, List.length_append, List.length_cons]
      omega
    have := this l
    omega
   refine wo ?_
   first | (apply wm; iterate 5 exact rfl) | (apply dm; iterate 6 exact rfl) | (apply wmg; iterate 7 exact rfl) | (apply dmg; iterate 8 exact rfl)
   refine mv_int (v := .b false) rfl rfl (vi_neqF (by omega))
   refine wo ?_
   first | (apply wn; iterate 5 exact rfl) | (apply dn; iterate 5 exact rfl) | (apply wg; iterate 7 exact rfl) | (apply dg; iterate 7 exact rfl)
   refine p_buildS (C := zNC) .nil (by kernel_rfl)
   first | (apply p_op; exact (vwant_n rfl); iterate 4 exact rfl) | (apply d_op; exact (vwant_n rfl); exact rfl; exact noRd rfl; decide +kernel; (iterate 3 exact rfl); rotate_left) | (apply p_op; exact (vwant_g rfl rfl rfl); iterate 4 exact rfl) | (apply d_op; exact (vwant_g rfl rfl rfl); exact rfl; exact noRd rfl; decide +kernel; (iterate 3 exact rfl); rotate_left)
   refine e_alloc (zc := zNC) (by kernel_rfl) fun b7 => ⟨_, rfl, ?_⟩
   try (case hok => first | exact rdOk_nil | exact rdOk_b (by decide +kernel) | exact rdOk_c | (repeat (first | exact rdOk_e | refine rdOk_d (by decide +kernel) ?_ | refine rdOk_n ?_)))
   first | (apply p_do; exact (vwant_n rfl); exact rfl; exact rfl) | (apply d_do; exact (vwant_n rfl); exact rfl; exact noRd rfl; decide +kernel; exact rfl; rotate_left) | (apply p_do; exact (vwant_g rfl rfl rfl); exact rfl; exact rfl) | (apply d_do; exact (vwant_g rfl rfl rfl); exact rfl; exact noRd rfl; decide +kernel; exact rfl; rotate_left)
   refine e_stn (C' := zNC) rfl rfl zNC_ne zNC_len (Nat.le_of_eq zNC_len.symm) (overV_all rfl) ⟨_, rfl, ?_⟩
   try (case hok => first | exact rdOk_nil | exact rdOk_b (by decide +kernel) | exact rdOk_c | (repeat (first | exact rdOk_e | refine rdOk_d (by decide +kernel) ?_ | refine rdOk_n ?_)))
   refine wOS0 ?_
   refine w_cutE (ι := List V × Bool × HV) (fun s => [(8, .b s.2.1), (7, .p (some (b7, 0))), (2, .p (some (b2, 0)))]) (fun s => (some b7, cellsO s.1 29) :: (some b2, cellsO zNC 29) :: s.2.2) (fun s => s.1.length = 582 ∧ ((shapeS l = none ∧ s.2.1 = false) ∨ ∃ n, shapeS l = some n ∧ s.2.1 = true ∧ NodW N n s.1 s.2.2)) ?_ ?_
   ·refine wo ?_
    by_cases g2 : l.length = 2
    ·obtain ⟨p, x, rfl⟩ : ∃ p x, l = [p, x] := by
      match l, g2 with
      | [p, x], _ => exact ⟨p, x, rfl⟩
     obtain ⟨v0, d0, l0, P0⟩ := itWs_row (i := 0) (t := p) hvs rfl
     obtain ⟨v1, d1, l1, P1⟩ := itWs_row (i := 1) (t := x) hvs rfl
     obtain ⟨ba, oa, rfl⟩ := rb_some3 hA1 d0 l0
     obtain ⟨m1, m2, m3⟩ := hmem p (by simp)
     obtain ⟨m4, m5, m6⟩ := hmem x (by simp)
     first | (apply wm; iterate 5 exact rfl) | (apply dm; iterate 6 exact rfl) | (apply wmg; iterate 7 exact rfl) | (apply dmg; iterate 8 exact rfl)
     refine mv_int (v := .b true) rfl rfl (vi_eqlT (by omega))
     refine wo ?_
     first | (apply wn; iterate 5 exact rfl) | (apply dn; iterate 5 exact rfl) | (apply wg; iterate 7 exact rfl) | (apply dg; iterate 7 exact rfl)
     refine p_ian (i := 0) rfl rfl (by simp)
     first | (apply wm; iterate 5 exact rfl) | (apply dm; iterate 6 exact rfl) | (apply wmg; iterate 7 exact rfl) | (apply dmg; iterate 8 exact rfl)
     refine m_ldnN (j := 0 * 3) (s := 2) rfl hA1.1 hA1.2 rfl d0 l0
     refine wo ?_
     first | (apply wn; iterate 5 exact rfl) | (apply dn; iterate 5 exact rfl) | (apply wg; iterate 7 exact rfl) | (apply dg; iterate 7 exact rfl)
     refine p_ian (i := 1) rfl rfl (by simp)
     first | (apply wm; iterate 5 exact rfl) | (apply dm; iterate 6 exact rfl) | (apply wmg; iterate 7 exact rfl) | (apply dmg; iterate 8 exact rfl)
     refine m_ldnN (j := 1 * 3) (s := 2) rfl hA1.1 hA1.2 rfl d1 l1
     cases hsh : shapeS [p, x] with
     | none =>
      first | (apply p_callY []; exact (vwant_n rfl); iterate 4 exact rfl) | (apply d_callY []; exact (vwant_n rfl); decide +kernel; (iterate 4 exact rfl)) | (apply p_callY []; exact (vwant_g rfl rfl rfl); iterate 4 exact rfl) | (apply d_callY []; exact (vwant_g rfl rfl rfl); decide +kernel; (iterate 4 exact rfl))
      try (case hok => first | exact rdOk_nil | exact rdOk_b (by decide +kernel) | exact rdOk_c)
      case hC => exact (fun hp' hs ht => ShortNo hsh hs.ok P0 P1 (fun A cs h => (hB A cs h).give0 hs) (itB_enc p m2) m5 m6)
      rintro u N1 ⟨w, rfl, hw⟩
      refine wo ?_
      first | (apply p_do; exact (vwant_n rfl); exact rfl; exact rfl) | (apply d_do; exact (vwant_n rfl); exact rfl; exact noRd rfl; decide +kernel; exact rfl; rotate_left) | (apply p_do; exact (vwant_g rfl rfl rfl); exact rfl; exact rfl) | (apply d_do; exact (vwant_g rfl rfl rfl); exact rfl; exact noRd rfl; decide +kernel; exact rfl; rotate_left)
      refine e_stn (C' := w) rfl rfl (ne_of_len hw (by decide)) hw (Nat.le_of_eq zNC_len.symm) (overV_all (hw.trans zNC_len.symm)) ⟨_, rfl, ?_⟩
      try (case hok => first | exact rdOk_nil | exact rdOk_b (by decide +kernel) | exact rdOk_c | (repeat (first | exact rdOk_e | refine rdOk_d (by decide +kernel) ?_ | refine rdOk_n ?_)))
      refine wo ?_
      exact ⟨(w, false, N1), ⟨hw, .inl ⟨rfl, rfl⟩⟩, rfl, ⟨rfl, rfl, rfl, trivial⟩, fun hp h => h.le⟩
     | some n =>
      first | (apply p_callY []; exact (vwant_n rfl); iterate 4 exact rfl) | (apply d_callY []; exact (vwant_n rfl); decide +kernel; (iterate 4 exact rfl)) | (apply p_callY []; exact (vwant_g rfl rfl rfl); iterate 4 exact rfl) | (apply d_callY []; exact (vwant_g rfl rfl rfl); decide +kernel; (iterate 4 exact rfl))
      try (case hok => first | exact rdOk_nil | exact rdOk_b (by decide +kernel) | exact rdOk_c)
      case hC => exact (fun hp' hs ht => ShortOk hsh hs.ok P0 P1 (fun A cs h => (hB A cs h).give0 hs) (itB_enc p m2) m5 m6)
      rintro u N1 ⟨w, rfl, hw⟩
      have hwl := hw.p.len
      refine wo ?_
      first | (apply p_do; exact (vwant_n rfl); exact rfl; exact rfl) | (apply d_do; exact (vwant_n rfl); exact rfl; exact noRd rfl; decide +kernel; exact rfl; rotate_left) | (apply p_do; exact (vwant_g rfl rfl rfl); exact rfl; exact rfl) | (apply d_do; exact (vwant_g rfl rfl rfl); exact rfl; exact noRd rfl; decide +kernel; exact rfl; rotate_left)
      refine e_stn (C' := w) rfl rfl (ne_of_len hwl (by decide)) hwl (Nat.le_of_eq zNC_len.symm) (overV_all (hwl.trans zNC_len.symm)) ⟨_, rfl, ?_⟩
      try (case hok => first | exact rdOk_nil | exact rdOk_b (by decide +kernel) | exact rdOk_c | (repeat (first | exact rdOk_e | refine rdOk_d (by decide +kernel) ?_ | refine rdOk_n ?_)))
      refine wo ?_
      exact ⟨(w, true, N1), ⟨hwl, .inr ⟨n, rfl, rfl, hw⟩⟩, rfl, ⟨rfl, rfl, rfl, trivial⟩, fun hp h => h.le⟩
    first | (apply wm; iterate 5 exact rfl) | (apply dm; iterate 6 exact rfl) | (apply wmg; iterate 7 exact rfl) | (apply dmg; iterate 8 exact rfl)
    refine mv_int (v := .b false) rfl rfl (vi_eqlF (by omega))
    refine wo ?_
    by_cases g17 : l.length = 17
    ·first | (apply wm; iterate 5 exact rfl) | (apply dm; iterate 6 exact rfl) | (apply wmg; iterate 7 exact rfl) | (apply dmg; iterate 8 exact rfl)
     refine mv_int (v := .b true) rfl rfl (vi_eqlT (by omega))
     refine wo ?_
     cases hsh : shapeS l with
     | none =>
      first | (apply p_callY []; exact (vwant_n rfl); iterate 4 exact rfl) | (apply d_callY []; exact (vwant_n rfl); decide +kernel; (iterate 4 exact rfl)) | (apply p_callY []; exact (vwant_g rfl rfl rfl); iterate 4 exact rfl) | (apply d_callY []; exact (vwant_g rfl rfl rfl); decide +kernel; (iterate 4 exact rfl))
      try (case hok => first | exact rdOk_nil | exact rdOk_b (by decide +kernel) | exact rdOk_c)
      case hC => exact (fun hp' hs ht => BranchNo hsh hs.ok hPA hvs (fun A cs h => (hB A cs h).give0 hs) g17 (fun t ht => (hmem t ht).2))
      rintro u N1 ⟨w, rfl, hw⟩
      refine wo ?_
      first | (apply p_do; exact (vwant_n rfl); exact rfl; exact rfl) | (apply d_do; exact (vwant_n rfl); exact rfl; exact noRd rfl; decide +kernel; exact rfl; rotate_left) | (apply p_do; exact (vwant_g rfl rfl rfl); exact rfl; exact rfl) | (apply d_do; exact (vwant_g rfl rfl rfl); exact rfl; exact noRd rfl; decide +kernel; exact rfl; rotate_left)
      refine e_stn (C' := w) rfl rfl (ne_of_len hw (by decide)) hw (Nat.le_of_eq zNC_len.symm) (overV_all (hw.trans zNC_len.symm)) ⟨_, rfl, ?_⟩
      try (case hok => first | exact rdOk_nil | exact rdOk_b (by decide +kernel) | exact rdOk_c | (repeat (first | exact rdOk_e | refine rdOk_d (by decide +kernel) ?_ | refine rdOk_n ?_)))
      refine wo ?_
      exact ⟨(w, false, N1), ⟨hw, .inl ⟨rfl, rfl⟩⟩, rfl, ⟨rfl, rfl, rfl, trivial⟩, fun hp h => h.le⟩
     | some n =>
      first | (apply p_callY []; exact (vwant_n rfl); iterate 4 exact rfl) | (apply d_callY []; exact (vwant_n rfl); decide +kernel; (iterate 4 exact rfl)) | (apply p_callY []; exact (vwant_g rfl rfl rfl); iterate 4 exact rfl) | (apply d_callY []; exact (vwant_g rfl rfl rfl); decide +kernel; (iterate 4 exact rfl))
      try (case hok => first | exact rdOk_nil | exact rdOk_b (by decide +kernel) | exact rdOk_c)
      case hC => exact (fun hp' hs ht => BranchOk hsh hs.ok hPA hvs (fun A cs h => (hB A cs h).give0 hs) g17 (fun t ht => (hmem t ht).2))
      rintro u N1 ⟨w, rfl, hw⟩
      have hwl := hw.p.len
      refine wo ?_
      first | (apply p_do; exact (vwant_n rfl); exact rfl; exact rfl) | (apply d_do; exact (vwant_n rfl); exact rfl; exact noRd rfl; decide +kernel; exact rfl; rotate_left) | (apply p_do; exact (vwant_g rfl rfl rfl); exact rfl; exact rfl) | (apply d_do; exact (vwant_g rfl rfl rfl); exact rfl; exact noRd rfl; decide +kernel; exact rfl; rotate_left)
      refine e_stn (C' := w) rfl rfl (ne_of_len hwl (by decide)) hwl (Nat.le_of_eq zNC_len.symm) (overV_all (hwl.trans zNC_len.symm)) ⟨_, rfl, ?_⟩
      try (case hok => first | exact rdOk_nil | exact rdOk_b (by decide +kernel) | exact rdOk_c | (repeat (first | exact rdOk_e | refine rdOk_d (by decide +kernel) ?_ | refine rdOk_n ?_)))
      refine wo ?_
      exact ⟨(w, true, N1), ⟨hwl, .inr ⟨n, rfl, rfl, hw⟩⟩, rfl, ⟨rfl, rfl, rfl, trivial⟩, fun hp h => h.le⟩
    ·first | (apply wm; iterate 5 exact rfl) | (apply dm; iterate 6 exact rfl) | (apply wmg; iterate 7 exact rfl) | (apply dmg; iterate 8 exact rfl)
     refine mv_int (v := .b false) rfl rfl (vi_eqlF (by omega))
     refine wo ?_
     exact ⟨(zNC, false, []), ⟨zNC_len, .inl ⟨shape_two g2 g17, rfl⟩⟩, rfl, ⟨rfl, rfl, rfl, trivial⟩, fun hp h => h.le⟩
   rintro ⟨w, ok, X⟩ ⟨hwl, hcase⟩
   dsimp only at hwl hcase ⊢
   rcases hcase with ⟨hsh, rfl⟩ | ⟨n, hsh, rfl, hw⟩
   ·rw [hsh]
    refine wo ?_
    first | (apply wn; iterate 5 exact rfl) | (apply dn; iterate 5 exact rfl) | (apply wg; iterate 7 exact rfl) | (apply dg; iterate 7 exact rfl)
    refine p_buildS (C := zNC) .nil (by kernel_rfl)
    first | (apply p_do; exact (vwant_n rfl); exact rfl; exact rfl) | (apply d_do; exact (vwant_n rfl); exact rfl; exact noRd rfl; decide +kernel; exact rfl; rotate_left) | (apply p_do; exact (vwant_g rfl rfl rfl); exact rfl; exact rfl) | (apply d_do; exact (vwant_g rfl rfl rfl); exact rfl; exact noRd rfl; decide +kernel; exact rfl; rotate_left)
    refine e_stn (C' := zNC) rfl rfl zNC_ne zNC_len (Nat.le_of_eq zNC_len.symm) (overV_all rfl) ⟨_, rfl, ?_⟩
    try (case hok => first | exact rdOk_nil | exact rdOk_b (by decide +kernel) | exact rdOk_c | (repeat (first | exact rdOk_e | refine rdOk_d (by decide +kernel) ?_ | refine rdOk_n ?_)))
    refine wo ?_
    exact w_ret (wend_ret (vres2 (rv_cell rfl zNC_len) (rv_tmp rfl)) ⟨[], cle, _, rfl, rfl⟩)
   ·rw [hsh]
    dsimp only
    have hD : ∀ r, (r = n.next ∨ r ∈ n.kids) → r.k = 2 → bareS r = true → DecOk r.n := fun r hr hk _ => by
     obtain ⟨x, hx, he⟩ := shape_refs hsh r hr hk
     exact ih _ (by rw [he]; exact (hmem x hx).1)
    refine wo ?_
    first | refine zX (m_ldln (s := 581) (cs := w) rfl (all_take _ hwl) hwl) ?_ | refine yX (m_ldln (s := 581) (cs := w) rfl (all_take _ hwl) hwl) ?_
    first | refine p_callq (vwant_n rfl) rfl rfl rfl rfl (fun hp' hs => may_k hs.ok (hw.p.mono fun A c o cs h => h.elim (fun h => (hB _ _ h).give0 hs) fun h => h _ _ [] _ hs fun p hp => List.mem_cons_of_mem _ (List.mem_cons_of_mem _ hp)) hD) ?_ | refine d_callq (vwant_n rfl) (by decide +kernel) rfl rfl rfl rfl (fun hp' hs => may_k hs.ok (hw.p.mono fun A c o cs h => h.elim (fun h => (hB _ _ h).give0 hs) fun h => h _ _ [] _ hs fun p hp => List.mem_cons_of_mem _ (List.mem_cons_of_mem _ hp)) hD) ?_ | refine d_callq0 (vwant_n rfl) (by decide +kernel) rfl rfl rfl rfl (fun hp' hs => may_k hs.ok (hw.p.mono fun A c o cs h => h.elim (fun h => (hB _ _ h).give0 hs) fun h => h _ _ [] _ hs fun p hp => List.mem_cons_of_mem _ (List.mem_cons_of_mem _ hp)) hD) ?_ | refine p_callq (vwant_g rfl rfl rfl) rfl rfl rfl rfl (fun hp' hs => may_k hs.ok (hw.p.mono fun A c o cs h => h.elim (fun h => (hB _ _ h).give0 hs) fun h => h _ _ [] _ hs fun p hp => List.mem_cons_of_mem _ (List.mem_cons_of_mem _ hp)) hD) ?_ | refine d_callq (vwant_g rfl rfl rfl) (by decide +kernel) rfl rfl rfl rfl (fun hp' hs => may_k hs.ok (hw.p.mono fun A c o cs h => h.elim (fun h => (hB _ _ h).give0 hs) fun h => h _ _ [] _ hs fun p hp => List.mem_cons_of_mem _ (List.mem_cons_of_mem _ hp)) hD) ?_ | refine d_callq0 (vwant_g rfl rfl rfl) (by decide +kernel) rfl rfl rfl rfl (fun hp' hs => may_k hs.ok (hw.p.mono fun A c o cs h => h.elim (fun h => (hB _ _ h).give0 hs) fun h => h _ _ [] _ hs fun p hp => List.mem_cons_of_mem _ (List.mem_cons_of_mem _ hp)) hD) ?_
    cases hm : mayS ndD n with
    | false =>
     refine wo ?_
     first | (apply wn; iterate 5 exact rfl) | (apply dn; iterate 5 exact rfl) | (apply wg; iterate 7 exact rfl) | (apply dg; iterate 7 exact rfl)
     refine p_buildS (C := zNC) .nil (by kernel_rfl)
     first | (apply p_do; exact (vwant_n rfl); exact rfl; exact rfl) | (apply d_do; exact (vwant_n rfl); exact rfl; exact noRd rfl; decide +kernel; exact rfl; rotate_left) | (apply p_do; exact (vwant_g rfl rfl rfl); exact rfl; exact rfl) | (apply d_do; exact (vwant_g rfl rfl rfl); exact rfl; exact noRd rfl; decide +kernel; exact rfl; rotate_left)
     refine e_stn (C' := zNC) rfl rfl zNC_ne zNC_len (Nat.le_of_eq zNC_len.symm) (overV_all rfl) ⟨_, rfl, ?_⟩
     try (case hok => first | exact rdOk_nil | exact rdOk_b (by decide +kernel) | exact rdOk_c | (repeat (first | exact rdOk_e | refine rdOk_d (by decide +kernel) ?_ | refine rdOk_n ?_)))
     refine wo ?_
     exact w_ret (wend_ret (vres2 (rv_cell rfl zNC_len) (rv_tmp rfl)) ⟨[], cle, by rw [if_neg (by simp)]; exact ⟨_, rfl, rfl⟩⟩)
    | true =>
     refine wo ?_
     first | refine zX (m_ldln (s := 581) (cs := w) rfl (all_take _ hwl) hwl) ?_ | refine yX (m_ldln (s := 581) (cs := w) rfl (all_take _ hwl) hwl) ?_
     first | (apply p_do; exact (vwant_n rfl); exact rfl; exact rfl) | (apply d_do; exact (vwant_n rfl); exact rfl; exact noRd rfl; decide +kernel; exact rfl; rotate_left) | (apply p_do; exact (vwant_g rfl rfl rfl); exact rfl; exact rfl) | (apply d_do; exact (vwant_g rfl rfl rfl); exact rfl; exact noRd rfl; decide +kernel; exact rfl; rotate_left)
     refine e_stn (C' := w) rfl rfl (ne_of_len hwl (by decide)) hwl (Nat.le_of_eq zNC_len.symm) (overV_all (hwl.trans zNC_len.symm)) ⟨_, rfl, ?_⟩
     try (case hok => first | exact rdOk_nil | exact rdOk_b (by decide +kernel) | exact rdOk_c | (repeat (first | exact rdOk_e | refine rdOk_d (by decide +kernel) ?_ | refine rdOk_n ?_)))
     refine wo ?_
     obtain ⟨M, R, hk, hMR⟩ := hw.k
     exact w_ret (wend_ret (vres2 (rv_cell rfl hwl) (rv_tmp rfl)) ⟨M ++ R, fun a => by have := hMR a; simp only [cnt_app, cnt_cons, cnt_nil, cellsO] at this ⊢; omega, by
      rw [if_pos rfl]
      exact ⟨_, rfl, _, M, R, rfl, rfl, hk⟩⟩)
theorem decOk (b : List UInt8) : DecOk b := by
 have : ∀ (m : Nat) (b : List UInt8), b.length = m → DecOk b := by
  intro m
  induction m using Nat.strongRecOn with
  | ind m ih => exact fun b hb => (decode_k fun b' h => ih _ (by omega) b' rfl).ok
 exact this _ b rfl
theorem ndecode_own {A : Option (Nat × Nat)} {b : List UInt8} {n : NodS} {c : Nat} {o : Bool} {hp : Hp} (h0 : ndD b = some n) (ho : OkH hp) (hA : RB ⟨hp, []⟩ A (b.map byV)) (hc : b.length ≤ c) : Fn kxD 11 [.sl A b.length c o] hp [] fun r N => ∃ u, r = .v u ∧ ∃ w M R, u = .tup [.agg w, .i .i64 0] ∧ N = M ++ R ∧ NodK n w M := by
 have := decode_k (fun b' _ => decOk b') A c o hp ho hA hc
 rw [h0] at this
 exact this
theorem ndecode_no {A : Option (Nat × Nat)} {b : List UInt8} {c : Nat} {o : Bool} {hp : Hp} (h0 : ndD b = none) (ho : OkH hp) (hA : RB ⟨hp, []⟩ A (b.map byV)) (hc : b.length ≤ c) : Fn kxD 11 [.sl A b.length c o] hp [] fun r N => ∃ u, r = .v u ∧ u = .tup [.agg zNC, .i .i64 70] := (decOk b).none h0 ho hA hc
theorem ndecode_ok {A : Option (Nat × Nat)} {b : List UInt8} {n : NodS} {c : Nat} {o : Bool} {hp : Hp} (h0 : ndD b = some n) (ho : OkH hp) (hA : RB ⟨hp, []⟩ A (b.map byV)) (hc : b.length ≤ c) : Fn kxD 11 [.sl A b.length c o] hp [] fun r N => ∃ u, r = .v u ∧ ∃ w, u = .tup [.agg w, .i .i64 0] ∧ NodP (snP N) n w := (decOk b).some h0 ho hA hc
theorem nencode_no {n : NodS} {w : List V} {hp : Hp} (hm : mayS ndD n = false) (ho : OkH hp) (hn : NodP (rbP ⟨hp, []⟩) n w) : Fn kxD 8 [.agg w] hp [] fun q N => ∃ u, q = .v u ∧ u = .tup [.sl none 0 0 false, .i .i64 70] := by
 have := nencode_k ho hn fun _ _ _ _ => decOk _
 simp only [hm, Bool.false_eq_true, if_false] at this
 exact this
theorem nencode_ok {n : NodS} {w : List V} {hp : Hp} (hm : mayS ndD n = true) (ho : OkH hp) (hn : NodP (rbP ⟨hp, []⟩) n w) : Fn kxD 8 [.agg w] hp [] fun q N => ∃ u, q = .v u ∧ ∃ w', u = .tup [w', .i .i64 0] ∧ RowK (ndB n) w' N := by
 have := nencode_k ho hn fun _ _ _ _ => decOk _
 simp only [hm, if_true] at this
 exact this
/- Nm1: the statements' Same, num, known. By this project. -/
section
variable {K : Kx} {hp0 : Bs} {l : VL} {L : HV} {a b : Operand} {t t' : TypeId}
end
def RBe (B : Bs) (A : Option (Nat × Nat)) (cs : List V) : Prop := RB B A cs ∨ cs = []
theorem rz_emp {hp0 : Bs} {L : HV} {A : Option (Nat × Nat)} : RZ hp0 L A [] := fun hp hs j v hv => by simp at hv
theorem RBe.z {B : Bs} {A : Option (Nat × Nat)} {cs : List V} {L : HV} (h : RBe B A cs) : RZ B L A cs := h.elim (fun h => h.z) (fun h => by subst h; exact rz_emp)
theorem RBe.give0 {B : Bs} {hp : Hp} {A : Option (Nat × Nat)} {cs : List V} {L : HV} (h : RBe B A cs) (hs : SV B hp L) : RBe ⟨hp, []⟩ A cs := h.imp (fun h => h.give0 hs) id
theorem RBe.ne {B : Bs} {A : Option (Nat × Nat)} {xs : List UInt8} (h : RBe B A (xs.map byV)) (hn : 0 < xs.length) : RB B A (xs.map byV) := h.resolve_right fun e => by
 have := congrArg List.length e
 rw [List.length_map] at this
 simp at this
 rw [this] at hn
 simp at hn
section
variable {K : Kx} {hp0 : Bs} {l : VL} {L : HV}
theorem e_b2sZ {s t e : TypeId} {x : Operand} {xs : List UInt8} {A : Option (Nat × Nat)} {c : Nat} {op : Bool} {k : VR → HV → Prop} [hs : SliceV K.C s e] [ht : StrV K.C t] [he : IntV K.C e .u8] (hx : evL l x = some (.sl A xs.length c op)) (hr : RZ hp0 L A (xs.map byV)) (hk : k (.v (.s xs)) L) : EV K hp0 l L (.convert s t x) [] k := by
 obtain ⟨si, h1, h2⟩ := hs.h
 obtain ⟨ti, h3, h4⟩ := ht.h
 obtain ⟨ei, h5, h6⟩ := he.h
 refine ev_same (fun call fr hp hf hsv => ?_) hk
 show oConv K.C fr hp s t x = _
 have hv := hr hp hsv
 cases A with
 | none =>
  have h0 : xs = [] := by
   cases xs with
   | nil => rfl
   | cons y r =>
    obtain ⟨b, o, e, _⟩ := hv 0 (byV y) rfl
    simp at e
  subst h0
  simp only [oConv, hf.ev hx, Option.bind_some, vconv, h1, h3, h2, h4, h5, h6, ret2]
 | some a =>
  obtain ⟨b, o⟩ := a
  have hl := rv_load (b := b) (o := o) hv
  rw [List.length_map] at hl
  simp only [oConv, hf.ev hx, Option.bind_some, vconv, h1, h3, h2, h4, h5, h6, hl, mapO_asBy, ret2]
end
open Classical in
noncomputable def sameR (r r' : RefS) : Bool := decide (r = r')
open Classical in
noncomputable def sameN (n m : NodS) : Bool := decide (n = m)
open Classical in
theorem sameR_t {r r' : RefS} (h : r = r') : sameR r r' = true := decide_eq_true h
open Classical in
theorem sameR_f {r r' : RefS} (h : r ≠ r') : sameR r r' = false := decide_eq_false h
open Classical in
theorem sameN_t {r r' : NodS} (h : r = r') : sameN r r' = true := decide_eq_true h
open Classical in
theorem sameN_f {r r' : NodS} (h : r ≠ r') : sameN r r' = false := decide_eq_false h
theorem num_d {e : Int} {hp : Hp} (ho : OkH hp) : Fn kxD 9 [.i .i64 e] hp [] fun r _ => r = .v (.i .i64 e) := by
 refine fn_of_w (T := []) ho.sv (fun _ => rfl) (fn := Try.f9) (by kernel_rfl) rfl rfl ?_
 refine wo ?_
 exact w_ret (wend_ret (vres1 (rv_tmp rfl)) rfl)
set_option maxHeartbeats 8000000 in
theorem sameref2_d {P P' : PP} {r r' : RefS} {w w' : List V} {hp : Hp} (ho : OkH hp) (hr : RefP P r w) (hr' : RefP P' r' w') (hP : ∀ A c o cs, P A c o cs → RBe ⟨hp, []⟩ A cs) (hP' : ∀ A c o cs, P' A c o cs → RBe ⟨hp, []⟩ A cs) :
  Fn kxD 37 [.agg w, .agg w'] hp [] fun q _ => q = .v (.b (sameR r r')) := by
 obtain ⟨hh, A, c, o, hw, hA, _⟩ := hr
 obtain ⟨hh', A', c', o', hw', hA', _⟩ := hr'
 subst hw hw'
 have hB := hP _ _ _ _ hA
 have hB' := hP' _ _ _ _ hA'
 refine fn_of_w (T := []) ho.sv (fun _ => rfl) (fn := Try.f37) (by kernel_rfl) rfl rfl ?_
 refine wo ?_
 apply p_op; exact (vwant_n rfl); iterate 4 exact rfl
 refine ev_box rfl rfl fun ba => ⟨_, rfl, ?_⟩
 apply p_op; exact (vwant_n rfl); iterate 4 exact rfl
 refine ev_box rfl rfl fun bb => ⟨_, rfl, ?_⟩
 refine wo ?_
 by_cases k : r.k = r'.k
 rotate_left
 ·apply wm; iterate 5 exact rfl
  refine mv_int (v := .b false) rfl rfl (vi_eqlF (k))
  refine wo ?_
  exact w_ret (wend_ret (vres1 (rv_tmp rfl)) (by rw [sameR_f (fun e => k (by rw [e]))]))
 apply wm; iterate 5 exact rfl
 refine mv_int (v := .b true) rfl rfl (vi_eqlT (k))
 refine wo ?_
 refine zX (m_ldln (s := 31) (cs := r.h.map byV) rfl (refC_hash hh) (by rw [List.length_map, hh])) ?_
 refine wo ?_
 refine zX (m_ldln (s := 31) (cs := r'.h.map byV) rfl (refC_hash hh') (by rw [List.length_map, hh'])) ?_
 apply wmg; iterate 7 exact rfl
 refine m_eqA rfl rfl rfl hh hh'
 by_cases kh : r.h = r'.h
 rotate_left
 ·rw [decide_eq_false kh]
  refine wo ?_
  exact w_ret (wend_ret (vres1 (rv_tmp rfl)) (by rw [sameR_f (fun e => kh (by rw [e]))]))
 rw [decide_eq_true kh]
 refine wo ?_
 refine zX (m_ldl rfl (refC_node hh)) ?_
 apply p_op; exact (vwant_g rfl rfl rfl); iterate 4 exact rfl
 refine e_b2sZ rfl hB.z ⟨_, rfl, ?_⟩
 refine wo ?_
 refine zX (m_ldl rfl (refC_node hh')) ?_
 apply p_op; exact (vwant_g rfl rfl rfl); iterate 4 exact rfl
 refine e_b2sZ rfl hB'.z ⟨_, rfl, ?_⟩
 apply wmg; iterate 7 exact rfl
 refine m_eqs rfl rfl
 have e : (r.n == r'.n) = sameR r r' := by
  by_cases kn : r.n = r'.n
  ·rw [beq_iff_eq.2 kn, sameR_t]
   obtain ⟨a1, a2, a3⟩ := r
   obtain ⟨b1, b2, b3⟩ := r'
   simp only at k kh kn
   rw [k, kh, kn]
  ·rw [beq_eq_false_iff_ne.2 kn, sameR_f (fun e => kn (by rw [e]))]
 rw [e]
 refine wo ?_
 exact w_ret (wend_ret (vres1 (rv_tmp rfl)) rfl)
theorem kid_at {P : PP} {n : NodS} {w : List V} (hn : NodP P n w) {i : Nat} (hi : i < 16) : ∃ r x, n.kids[i]? = some r ∧ (w.drop (0 + 38 + i * 34)).take 34 = x ∧ RefP P r x := by
 obtain ⟨h0, A, c, o, A', c', o', nx, ks, rfl, _, _, _, _, hnx, hks⟩ := hn
 obtain ⟨x, h1, _, h2⟩ := nodC_kid (n := n) (p := .sl A n.path.length c o) (v := .sl A' n.val.length c' o') hnx.len hks (i := i) (by omega)
 exact ⟨n.kids[i]'(by omega), x, List.getElem?_eq_getElem (by omega), h1, h2⟩
theorem take_all2 {α : Type} {a b : List α} {i : Nat} (h : a.take i = b.take i) {x : α} (ha : a[i]? = some x) (hb : b[i]? = some x) : a.take (i + 1) = b.take (i + 1) := by
 obtain ⟨h1, h2⟩ := List.getElem?_eq_some_iff.1 ha
 obtain ⟨h3, h4⟩ := List.getElem?_eq_some_iff.1 hb
 rw [List.take_succ_eq_append_getElem h1, List.take_succ_eq_append_getElem h3, h, h2, h4]
set_option maxHeartbeats 16000000 in
theorem nsameE_d {P P' : PP} {n m : NodS} {w w' : List V} {hp : Hp} (ho : OkH hp) (hn : NodP P n w) (hm : NodP P' m w') (hP : ∀ A c o cs, P A c o cs → RBe ⟨hp, []⟩ A cs) (hP' : ∀ A c o cs, P' A c o cs → RBe ⟨hp, []⟩ A cs) :
  Fn kxD 17 [.agg w, .agg w'] hp [] fun q _ => q = .v (.b (sameN n m)) := by
 have hl := hn.len
 have hl' := hm.len
 have hk16 := hn.1
 have hk16' := hm.1
 have hkid := fun {i : Nat} (h : i < 16) => kid_at hn h
 have hkid' := fun {i : Nat} (h : i < 16) => kid_at hm h
 obtain ⟨_, A, c, o, A2, c2, o2, nx, ks, hw, p1, _, p2, _, hnx, _⟩ := hn
 obtain ⟨_, A', c', o', A2', c2', o2', nx', ks', hw', p1', _, p2', _, hnx', _⟩ := hm
 have hB1 := hP _ _ _ _ p1
 have hB2 := hP _ _ _ _ p2
 have hB1' := hP' _ _ _ _ p1'
 have hB2' := hP' _ _ _ _ p2'
 have e0 : w[0 + 0]? = some (.i .i64 n.k) := by rw [hw]; rfl
 have e1 : w[0 + 1]? = some (.sl A n.path.length c o) := by rw [hw]; rfl
 have e2 : w[0 + 2]? = some (.sl A2 n.val.length c2 o2) := by rw [hw]; rfl
 have e3 : w[0 + 3]? = some (.b n.full) := by rw [hw]; rfl
 have e4 : (w.drop (0 + 4)).take 34 = nx := by rw [hw]; exact nodC_next hnx.len
 have e0' : w'[0 + 0]? = some (.i .i64 m.k) := by rw [hw']; rfl
 have e1' : w'[0 + 1]? = some (.sl A' m.path.length c' o') := by rw [hw']; rfl
 have e2' : w'[0 + 2]? = some (.sl A2' m.val.length c2' o2') := by rw [hw']; rfl
 have e3' : w'[0 + 3]? = some (.b m.full) := by rw [hw']; rfl
 have e4' : (w'.drop (0 + 4)).take 34 = nx' := by rw [hw']; exact nodC_next hnx'.len
 clear hw hw'
 refine fn_of_w (T := []) ho.sv (fun _ => rfl) (fn := Try.f17) (by kernel_rfl) rfl rfl ?_
 refine wo ?_
 apply p_op; exact (vwant_n rfl); iterate 4 exact rfl
 refine ev_box rfl rfl fun ba => ⟨_, rfl, ?_⟩
 apply p_op; exact (vwant_n rfl); iterate 4 exact rfl
 refine ev_box rfl rfl fun bb => ⟨_, rfl, ?_⟩
 refine wOS0 ?_
 refine w_cutS [(3, .p (some (bb, 0))), (2, .p (some (ba, 0)))] [(some bb, cellsO w' 29), (some ba, cellsO w 29)] (n.k = m.k ∧ n.full = m.full ∧ n.path = m.path ∧ n.val = m.val ∧ n.next = m.next) ?_ fun hC => ?_
 ·refine wo ?_
  refine zX (m_ldl rfl e0) ?_
  refine wo ?_
  refine zX (m_ldl rfl e0') ?_
  by_cases k1 : n.k = m.k
  rotate_left
  ·apply wm; iterate 5 exact rfl
   refine mv_int (v := .b true) rfl rfl (vi_neqT (k1))
   refine wo ?_
   exact w_ret (wend_ret (vres1 (rv_tmp rfl)) (by rw [sameN_f (fun e => k1 (by rw [e]))]))
  apply wm; iterate 5 exact rfl
  refine mv_int (v := .b false) rfl rfl (vi_neqF (k1))
  refine wo ?_
  refine zX (m_ldl rfl e3) ?_
  refine wo ?_
  refine zX (m_ldl rfl e3') ?_
  apply wmg; iterate 7 exact rfl
  refine m_neqb rfl rfl rfl
  cases k2 : (!(n.full == m.full)) with
  | true =>
   refine wo ?_
   exact w_ret (wend_ret (vres1 (rv_tmp rfl)) (by rw [sameN_f (fun e => by rw [e] at k2; simp at k2)]))
  | false =>
  have k2' : n.full = m.full := by simpa using k2
  refine wo ?_
  refine zX (m_ldl rfl e1) ?_
  apply p_op; exact (vwant_g rfl rfl rfl); iterate 4 exact rfl
  refine e_b2sZ rfl hB1.z ⟨_, rfl, ?_⟩
  refine wo ?_
  refine zX (m_ldl rfl e1') ?_
  apply p_op; exact (vwant_g rfl rfl rfl); iterate 4 exact rfl
  refine e_b2sZ rfl hB1'.z ⟨_, rfl, ?_⟩
  apply wmg; iterate 7 exact rfl
  refine m_neqs rfl rfl
  by_cases k3 : n.path = m.path
  rotate_left
  ·rw [show (!(n.path == m.path)) = true by simp [k3]]
   refine wo ?_
   exact w_ret (wend_ret (vres1 (rv_tmp rfl)) (by rw [sameN_f (fun e => k3 (by rw [e]))]))
  rw [show (!(n.path == m.path)) = false by simp [k3]]
  refine wo ?_
  refine zX (m_ldl rfl e2) ?_
  apply p_op; exact (vwant_g rfl rfl rfl); iterate 4 exact rfl
  refine e_b2sZ rfl hB2.z ⟨_, rfl, ?_⟩
  refine wo ?_
  refine zX (m_ldl rfl e2') ?_
  apply p_op; exact (vwant_g rfl rfl rfl); iterate 4 exact rfl
  refine e_b2sZ rfl hB2'.z ⟨_, rfl, ?_⟩
  apply wmg; iterate 7 exact rfl
  refine m_neqs rfl rfl
  by_cases k4 : n.val = m.val
  rotate_left
  ·rw [show (!(n.val == m.val)) = true by simp [k4]]
   refine wo ?_
   exact w_ret (wend_ret (vres1 (rv_tmp rfl)) (by rw [sameN_f (fun e => k4 (by rw [e]))]))
  rw [show (!(n.val == m.val)) = false by simp [k4]]
  refine wo ?_
  refine zX (m_ldln (s := 33) (cs := nx) rfl e4 hnx.len) ?_
  refine wo ?_
  refine zX (m_ldln (s := 33) (cs := nx') rfl e4' hnx'.len) ?_
  refine p_callq (vwant_g rfl rfl rfl) rfl rfl rfl rfl (fun hp' hs => sameref2_d hs.ok hnx hnx' (fun A c o cs h => (hP _ _ _ _ h).give0 hs) (fun A c o cs h => (hP' _ _ _ _ h).give0 hs)) ?_
  by_cases k5 : n.next = m.next
  rotate_left
  ·rw [sameR_f k5]
   refine wo ?_
   exact w_ret (wend_ret (vres1 (rv_tmp rfl)) (by rw [sameN_f (fun e => k5 (by rw [e]))]))
  rw [sameR_t k5]
  refine wo ?_
  exact ⟨⟨k1, k2', k3, k4, k5⟩, rfl, ⟨rfl, rfl, trivial⟩, fun hp h => h⟩
 obtain ⟨k1, k2, k3, k4, k5⟩ := hC
 refine wo ?_
 iterate 4 ((try refine w_seq ?_); refine wo ?_)
 refine w_loop (ι := Nat) (fun i => [(5, .i .i64 (i : Nat)), (3, .p (some (bb, 0))), (2, .p (some (ba, 0)))]) (fun i => [(some bb, cellsO w' 29), (some ba, cellsO w 29)]) (fun i => i ≤ 16 ∧ n.kids.take i = m.kids.take i) (fun i => 16 - i) 0 ⟨Nat.zero_le _, rfl⟩ ⟨rfl, rfl, rfl, trivial⟩ (fun hp h => h) ?_
 intro i ⟨hi, hall⟩
 refine wo ?_
 by_cases g : i < 16
 ·obtain ⟨r, x, h1, h2, h3⟩ := hkid g
  obtain ⟨r', x', h1', h2', h3'⟩ := hkid' g
  apply wm; iterate 5 exact rfl
  refine mv_int (v := .b true) rfl rfl (vi_lssT (by omega))
  refine wo ?_
  apply dn; iterate 5 exact rfl
  refine p_iaan rfl rfl g
  refine yX (m_ldln (s := 33) (cs := x) rfl h2 h3.len) ?_
  refine wo ?_
  apply dn; iterate 5 exact rfl
  refine p_iaan rfl rfl g
  refine yX (m_ldln (s := 33) (cs := x') rfl h2' h3'.len) ?_
  refine d_callq (vwant_n rfl) (by decide +kernel) rfl rfl rfl rfl (fun hp' hs => sameref2_d hs.ok h3 h3' (fun A c o cs h => (hP _ _ _ _ h).give0 hs) (fun A c o cs h => (hP' _ _ _ _ h).give0 hs)) ?_
  by_cases k6 : r = r'
  rotate_left
  ·rw [sameR_f k6]
   refine wo ?_
   exact w_ret (wend_ret (vres1 (rv_tmp rfl)) (by rw [sameN_f (fun e => by rw [e] at h1; rw [h1] at h1'; exact k6 (Option.some.inj h1'))]))
  subst k6
  rw [sameR_t rfl]
  refine wo ?_
  exact ⟨rfl, i + 1, ⟨g, take_all2 hall h1 h1'⟩, by omega, ⟨rfl, rfl, rfl, trivial⟩, fun hp h => h⟩
 ·apply wm; iterate 5 exact rfl
  refine mv_int (v := .b false) rfl rfl (vi_lssF (by omega))
  refine wo ?_
  refine w_exit ?_
  obtain rfl : i = 16 := by omega
  rw [List.take_of_length_le (by omega), List.take_of_length_le (by omega)] at hall
  refine wo ?_
  refine w_ret (wend_ret (vres1 (rv_tmp rfl)) ?_)
  rw [sameN_t]
  obtain ⟨a1, a2, a3, a4, a5, a6⟩ := n
  obtain ⟨b1, b2, b3, b4, b5, b6⟩ := m
  simp only at k1 k2 k3 k4 k5 hall
  rw [k1, k2, k3, k4, k5, hall]
theorem nsame_d {P P' : PP} {n m : NodS} {w w' : List V} {hp : Hp} (ho : OkH hp) (hn : NodP P n w) (hm : NodP P' m w') (hP : ∀ A c o cs, P A c o cs → RB ⟨hp, []⟩ A cs) (hP' : ∀ A c o cs, P' A c o cs → RB ⟨hp, []⟩ A cs) :
  Fn kxD 17 [.agg w, .agg w'] hp [] fun q _ => q = .v (.b (sameN n m)) := nsameE_d ho hn hm (fun A c o cs h => .inl (hP A c o cs h)) (fun A c o cs h => .inl (hP' A c o cs h))
theorem RowU.got {e : TypeId} {xs : List UInt8} {u : V} {M : HV} (h : RowU e xs u M) (h0 : 0 < xs.length) : ∃ b op oo, u = .sl (some (b, 0)) xs.length xs.length op ∧ M = [(some b, .cells (xs.map byV) e oo false)] := by
 cases h with
 | nil => simp at h0
 | own h => exact ⟨_, _, _, rfl, rfl⟩
theorem all_map {α : Type} (l : List α) (n : Nat) (h : l.length = n) : (l.drop 0).take n = l := by rw [List.drop_zero]; exact List.take_of_length_le (Nat.le_of_eq h)
def knN : NodS := ⟨1, [1, 2, 3, 4], [120], false, zRef, List.replicate 16 zRef⟩
def knB : List UInt8 := [197, 131, 32, 18, 52, 120]
theorem kn_may : mayS ndD knN = true := by kernel_rfl
theorem kn_ok : NodOk knN := ⟨rfl, rfl, fun r hr => by rw [List.eq_of_mem_replicate hr]; rfl⟩
theorem kn_b : ndB knN = knB := by kernel_rfl
theorem kn_d : ndD knB = some knN := by rw [← kn_b]; exact (ndD_ndB kn_ok kn_may).1
set_option maxHeartbeats 8000000 in
theorem nknown_d {hp : Hp} (ho : OkH hp) : Fn kxD 10 [] hp [] fun q _ => q = .v (.b true) := by
 have hlen : ∀ (a b : V), (nodC knN a b zFC (List.replicate 16 zFC).flatten).length = 582 := fun a b => by kernel_rfl
 refine fn_of_w (T := []) ho.sv (fun _ => rfl) (fn := Try.f10) (by kernel_rfl) rfl rfl ?_
 refine wo ?_
 apply p_op; exact (vwant_n rfl); iterate 4 exact rfl
 refine e_bs (C := [byV 1, byV 2, byV 3, byV 4]) rfl rfl (.cons rfl rfl (.cons rfl rfl (.cons rfl rfl (.cons rfl rfl .nil)))) rfl fun b1 => ⟨_, rfl, ?_⟩
 apply p_op; exact (vwant_n rfl); iterate 4 exact rfl
 refine e_bs (C := [byV 120]) rfl rfl (.cons rfl rfl .nil) rfl fun b2 => ⟨_, rfl, ?_⟩
 apply p_op; exact (vwant_n rfl); iterate 4 exact rfl
 refine e_share rfl ⟨_, rfl, ?_⟩
 apply wn; iterate 5 exact rfl
 refine p_buildS (C := nodC knN (.sl (some (b1, 0)) 4 4 false) (.sl (some (b2, 0)) 1 1 false) zFC (List.replicate 16 zFC).flatten) (.cons rfl rfl rfl rfl (Nat.le_of_ble_eq_true rfl) (.cons rfl rfl rfl rfl (Nat.le_of_ble_eq_true rfl) (.cons rfl rfl rfl rfl (Nat.le_of_ble_eq_true rfl) .nil))) (by kernel_rfl)
 apply p_op; exact (vwant_n rfl); iterate 4 exact rfl
 refine e_alloc (zc := zNC) (by kernel_rfl) fun b3 => ⟨_, rfl, ?_⟩
 apply p_do; exact (vwant_n rfl); exact rfl; exact rfl
 refine e_stn (C' := nodC knN (.sl (some (b1, 0)) 4 4 false) (.sl (some (b2, 0)) 1 1 false) zFC (List.replicate 16 zFC).flatten) rfl rfl (List.cons_ne_nil _ _) (hlen _ _) (Nat.le_of_eq zNC_len.symm) (overV_all ((hlen _ _).trans zNC_len.symm)) ⟨_, rfl, ?_⟩
 refine wo ?_
 refine zX (m_ldln (s := 581) (cs := nodC knN (.sl (some (b1, 0)) 4 4 false) (.sl (some (b2, 0)) 1 1 false) zFC (List.replicate 16 zFC).flatten) rfl (all_take _ (hlen _ _)) (hlen _ _)) ?_
 have hN : ∀ {hp' : Hp} {L : HV}, SV ⟨hp, []⟩ hp' L → (∀ p ∈ [(some b2, VO.cells [byV 120] 5 none true), (some b1, VO.cells [byV 1, byV 2, byV 3, byV 4] 5 none false)], p ∈ L) → NodP (rbP ⟨hp', []⟩) knN (nodC knN (.sl (some (b1, 0)) 4 4 false) (.sl (some (b2, 0)) 1 1 false) zFC (List.replicate 16 zFC).flatten) := fun {hp' L} hs hx => by
  have h1 : Sn L (some (b1, 0)) (knN.path.map byV) := Sn.own (C := [byV 1, byV 2, byV 3, byV 4]) (T := 5) (oo := none) (mk := false) (hx _ (by simp)) rfl
  have h2 : Sn L (some (b2, 0)) (knN.val.map byV) := Sn.own (C := [byV 120]) (T := 5) (oo := none) (mk := true) (hx _ (by simp)) rfl
  exact ⟨rfl, some (b1, 0), 4, false, some (b2, 0), 1, false, zFC, List.replicate 16 zFC, rfl, h1 _ _ [] _ hs (fun p hp => hp), Nat.le_refl _, h2 _ _ [] _ hs (fun p hp => hp), Nat.le_refl _, zFC_p _ RB.nil, refsP_rep RB.nil 16⟩
 apply p_callY []; exact (vwant_n rfl); iterate 4 exact rfl
 case hC => exact (fun hp' hs ht => nencode_ok kn_may hs.ok (hN hs (by simp [cellsO])))
 rintro u N1 ⟨w1, rfl, hw1⟩
 rw [kn_b] at hw1
 obtain ⟨b9, o9, oo9, rfl, rfl⟩ := hw1.got (by decide)
 rw [List.singleton_append]
 refine wo ?_
 apply p_op; exact (vwant_n rfl); iterate 4 exact rfl
 refine e_bs (C := knB.map byV) rfl rfl (.cons rfl rfl (.cons rfl rfl (.cons rfl rfl (.cons rfl rfl (.cons rfl rfl (.cons rfl rfl .nil)))))) rfl fun b6 => ⟨_, rfl, ?_⟩
 apply p_callY []; exact (vwant_n rfl); iterate 4 exact rfl
 case hC => exact (fun hp' hs ht => ndecode_ok (b := knB) kn_d hs.ok (rb_own0 hs (i := 0) rfl rfl) (Nat.le_refl _))
 rintro u N2 ⟨w2, rfl, hw2⟩
 have hwl := hw2.len
 refine wo ?_
 apply p_op; exact (vwant_n rfl); iterate 4 exact rfl
 refine e_alloc (zc := zNC) (by kernel_rfl) fun b4 => ⟨_, rfl, ?_⟩
 apply p_do; exact (vwant_n rfl); exact rfl; exact rfl
 refine e_stn (C' := w2) rfl rfl (ne_of_len hwl (by decide)) hwl (Nat.le_of_eq zNC_len.symm) (overV_all (hwl.trans zNC_len.symm)) ⟨_, rfl, ?_⟩
 refine wo ?_
 refine p_callq (vwant_n rfl) rfl rfl rfl rfl (fun hp' hs => num_d hs.ok) ?_
 apply wm; iterate 5 exact rfl
 refine mv_int (v := .b true) rfl rfl (vi_eqlT (rfl))
 refine wo ?_
 refine p_callq (vwant_g rfl rfl rfl) rfl rfl rfl rfl (fun hp' hs => num_d hs.ok) ?_
 apply wmg; iterate 7 exact rfl
 refine mv_int (v := .b true) rfl rfl (vi_eqlT (rfl))
 refine wo ?_
 refine zX (m_b2s (op' := false) (xs := knB) rfl (all_map _ _ rfl)) ?_
 apply wmg; iterate 7 exact rfl
 refine m_eqs rfl rfl
 rw [show (knB == [197, 131, 32, 18, 52, 120]) = true from rfl]
 refine wo ?_
 refine zX (m_ldln (s := 581) (cs := w2) rfl (all_take _ hwl) hwl) ?_
 refine zX (m_ldln (s := 581) (cs := nodC knN (.sl (some (b1, 0)) 4 4 false) (.sl (some (b2, 0)) 1 1 false) zFC (List.replicate 16 zFC).flatten) rfl (all_take _ (hlen _ _)) (hlen _ _)) ?_
 refine p_callq (vwant_g rfl rfl rfl) rfl rfl rfl rfl (fun hp' hs => nsame_d hs.ok hw2 (hN hs (by simp [cellsO])) (fun A c o cs h => h _ _ [] _ hs fun p hp => List.mem_cons_of_mem _ (List.mem_append_left _ hp)) (fun A c o cs h => h)) ?_
 rw [sameN_t rfl]
 refine wo ?_
 exact w_ret (wend_ret (vres1 (rv_tmp rfl)) rfl)
/- Nr1: the document's header, str, list, packed, item. By this project. -/
theorem Sn.z {N L : HV} {B : Bs} {A : Option (Nat × Nat)} {cs : List V} (h : Sn N A cs) (hm : ∀ p ∈ N, p ∈ L) : RZ B L A cs := fun hp hs => (h B hp [] L hs hm).1.rv
theorem RowG.got {e : TypeId} {sz n : Nat} {cs : List V} {u : V} {M : HV} (h : RowG e sz n cs u M) (h0 : 0 < n) : ∃ b op oo, u = .sl (some (b, 0)) n n op ∧ M = [(some b, .cells cs e oo false)] := by
 cases h with
 | nil => simp at h0
 | own h hl => exact ⟨_, _, _, rfl, rfl⟩
/- Np1: the document's loose reading of nodes, as plain law. By this project. -/
/- Nr2: the document's Check and Encode; what is wanted of its Decode on shorter bytes is supposed. By this project. -/
abbrev seP (N : HV) : PP := fun A _ _ cs => Sn N A cs ∨ cs = []
def RDecR (b : List UInt8) : VR → HV → Prop := fun r N => match ndD b with
 | none => ∃ u, r = .v u ∧ u = .tup [.agg zNC, .i .i64 70]
 | some n => ∃ u, r = .v u ∧ ∃ w, u = .tup [.agg w, .i .i64 0] ∧ NodP (seP N) n w
def RDecOk (b : List UInt8) : Prop := ∀ (A : Option (Nat × Nat)) (c : Nat) (o : Bool) (hp : Hp), OkH hp → RBe ⟨hp, []⟩ A (b.map byV) → b.length ≤ c → Fn kxD 18 [.sl A b.length c o] hp [] (RDecR b)
theorem RDecOk.none {b : List UInt8} (h : RDecOk b) (hN : ndD b = none) {A : Option (Nat × Nat)} {c : Nat} {o : Bool} {hp : Hp} (ho : OkH hp) (hA : RBe ⟨hp, []⟩ A (b.map byV)) (hc : b.length ≤ c) : Fn kxD 18 [.sl A b.length c o] hp [] fun r N => ∃ u, r = .v u ∧ u = .tup [.agg zNC, .i .i64 70] := by
 have := h A c o hp ho hA hc
 unfold RDecR at this
 rw [hN] at this
 exact this
theorem RDecOk.some {b : List UInt8} {n : NodS} (h : RDecOk b) (hN : ndD b = some n) {A : Option (Nat × Nat)} {c : Nat} {o : Bool} {hp : Hp} (ho : OkH hp) (hA : RBe ⟨hp, []⟩ A (b.map byV)) (hc : b.length ≤ c) : Fn kxD 18 [.sl A b.length c o] hp [] fun r N => ∃ u, r = .v u ∧ ∃ w, u = .tup [.agg w, .i .i64 0] ∧ NodP (seP N) n w := by
 have := h A c o hp ho hA hc
 unfold RDecR at this
 rw [hN] at this
 exact this
/- Nr3: the document's Check and Encode, walked; what is wanted of its Decode on shorter bytes is supposed. By this project. -/
theorem RowU.snP {e : TypeId} {xs : List UInt8} {A : Option (Nat × Nat)} {n c : Nat} {op : Bool} {M : HV} (h : RowU e xs (.sl A n c op) M) : Sn M A (xs.map byV) := h.sn fun p hp => hp
/- Nr4: the document's part, parts, content, refOf, unpacked. By this project. -/
section
variable {K : Kx} {hp0 : Bs} {l : VL} {L : HV}
end
theorem RBe.of {B : Bs} {A : Option (Nat × Nat)} {cs : List V} (h : RB B A cs) : RBe B A cs := .inl h
/- Nr5: the document's refOf, unpacked and parts. By this project. -/
/- Nh1: Hashes of node, by the program. By this project. -/
section
variable {K : Kx} {hp0 : Bs} {l : VL} {L : HV}
theorem e_appZ {tS tX e eX : TypeId} {s x : Operand} {A0 : Option (Nat × Nat)} {m sz : Nat} {op0 : Bool} {k : VR → HV → Prop} [hS : SliceV K.C tS e] [hz : SizeV K.C e sz] [hX : SliceV K.C tX eX] (h0 : 0 < sz) (hs : evL l s = some (.sl A0 m m op0)) (hx : evL l x = some (.sl none 0 0 false)) (hk : k (.v (.sl A0 m m op0)) L) : EV K hp0 l L (.call { callee := .builtin .append, args := #[s, x], argTypes := #[tS, tX] }) [] k := by
 obtain ⟨ti, h3, h4⟩ := hS.h
 obtain ⟨te, h5, h6⟩ := hz.h
 obtain ⟨tx, h7, h8⟩ := hX.h
 haveI : TiV K.C tS ti := ⟨h3⟩
 haveI : TiV K.C e te := ⟨h5⟩
 haveI : TiV K.C tX tx := ⟨h7⟩
 exact ev_appN hs hx h4 (src_sl h8 (rz_nil (hp0 := hp0) (L := L)) (by simp) (by omega)) (Nat.le_refl _) hk
end
def hsR (r : RefS) : List (List UInt8) := if r.k = 1 then [r.h] else []
def hsN (n : NodS) : List (List UInt8) := hsR n.next ++ n.kids.flatMap hsR
abbrev hsC (hs : List (List UInt8)) : List V := hs.flatMap fun h => h.map byV
structure RowH (hs : List (List UInt8)) (u : V) (N : HV) : Prop where
 row : RowG 24 32 hs.length (hsC hs) u N
 nil : hs = [] → u = .sl none 0 0 false
theorem RowH.zero : RowH [] (.sl none 0 0 false) [] := ⟨.nil, fun _ => rfl⟩
def HsZ (b : List UInt8) : Prop := ∀ (A : Option (Nat × Nat)) (c : Nat) (o : Bool) (hp : Hp), OkH hp → RB ⟨hp, []⟩ A (b.map byV) → b.length ≤ c → Fn kxD 21 [.sl A b.length c o] hp [] fun r N => ∃ u, r = .v u ∧ ∃ e : Int, u = .tup [.sl none 0 0 false, .i .i64 e]
set_option maxHeartbeats 8000000 in
theorem hashes_k {P : PP} {r : RefS} {w : List V} {hp : Hp} (ho : OkH hp) (hr : RefP P r w) (hP : ∀ A c o cs, P A c o cs → RB ⟨hp, []⟩ A cs) (hD : r.k = 2 → HsZ r.n) :
  Fn kxD 39 [.agg w] hp [] fun q N => ∃ u, q = .v u ∧ RowH (hsR r) u N := by
 obtain ⟨hh, A, c, o, hw, hA, hc⟩ := hr
 subst hw
 have hB := hP _ _ _ _ hA
 refine Fn.dropC ?_
 unfold hsR
 refine fn_of_w (T := []) ho.sv (fun _ => rfl) (fn := Try.f39) (by kernel_rfl) rfl rfl ?_
 refine wo ?_
 apply p_op; exact (vwant_n rfl); iterate 4 exact rfl
 refine ev_box rfl rfl fun bx => ⟨_, rfl, ?_⟩
 refine wo ?_
 by_cases k1 : r.k = 1
 ·rw [if_pos k1]
  have h32 : (r.h.map byV).length = 32 := by rw [List.length_map, hh]
  apply wm; iterate 5 exact rfl
  refine mv_int (v := .b true) rfl rfl (vi_eqlT ((by rw [k1])))
  refine wo ?_
  refine zX (m_ldln (s := 31) (cs := r.h.map byV) rfl (refC_hash hh) h32) ?_
  apply p_op; exact (vwant_n rfl); iterate 4 exact rfl
  refine e_bsn (C := r.h.map byV) (n := 1) (sz := 32) rfl (by rfl) (by decide) (.cons rfl rfl h32 .nil) (List.append_nil _) rfl fun b1 => ⟨_, rfl, ?_⟩
  refine wo ?_
  exact w_ret (wend_ret (vres1 (rv_tmp rfl)) ⟨[(some b1, cellsO (r.h.map byV) 24)], cle, _, rfl, by
   have e : hsC [r.h] = r.h.map byV := List.append_nil _
   rw [e]
   exact RowG.lit (n := 1) h32, fun h => by simp at h⟩)
 rw [if_neg k1]
 apply wm; iterate 5 exact rfl
 refine mv_int (v := .b false) rfl rfl (vi_eqlF (k1))
 refine wo ?_
 by_cases k2 : r.k = 2
 ·apply wm; iterate 5 exact rfl
  refine mv_int (v := .b true) rfl rfl (vi_eqlT ((by rw [k2])))
  refine wo ?_
  refine zX (m_ldl rfl (refC_node hh)) ?_
  apply p_callY []; exact (vwant_n rfl); iterate 4 exact rfl
  case hC => exact (fun hp' hs ht => hD k2 _ _ _ _ hs.ok (hB.give0 hs) hc)
  rintro u N ⟨e, rfl⟩
  refine wo ?_
  exact w_ret (wend_ret (vres1 (rv_tmp rfl)) ⟨[], cle, _, rfl, RowH.zero⟩)
 ·apply wm; iterate 5 exact rfl
  refine mv_int (v := .b false) rfl rfl (vi_eqlF (k2))
  refine wo ?_
  exact w_ret (wend_ret (vres1 (rv_tmp rfl)) ⟨[], cle, _, rfl, RowH.zero⟩)
theorem hsR_len (r : RefS) : (hsR r).length ≤ 1 := by unfold hsR; split <;> simp
theorem hsR_cells {r : RefS} (h : r.h.length = 32) : (hsC (hsR r)).length = (hsR r).length * 32 := by
 unfold hsR
 split
 ·simp [hsC, h]
 ·rfl
theorem hsC_app (a b : List (List UInt8)) : hsC (a ++ b) = hsC a ++ hsC b := List.flatMap_append
theorem hs_take_le (l : List RefS) : (l.flatMap hsR).length ≤ l.length := by
 induction l with
 | nil => exact Nat.zero_le _
 | cons x r ih =>
  have := hsR_len x
  rw [List.flatMap_cons, List.length_append, List.length_cons]
  omega
set_option maxHeartbeats 16000000 in
theorem nhashes_k {b : List UInt8} {A : Option (Nat × Nat)} {c : Nat} {o : Bool} {hp : Hp} (hD : ∀ n, ndD b = some n → ∀ r, (r = n.next ∨ r ∈ n.kids) → r.k = 2 → HsZ r.n) (ho : OkH hp) (hA : RB ⟨hp, []⟩ A (b.map byV)) (hc : b.length ≤ c) :
  Fn kxD 21 [.sl A b.length c o] hp [] fun r N => match ndD b with
   | none => ∃ u, r = .v u ∧ u = .tup [.sl none 0 0 false, .i .i64 70]
   | some n => ∃ u, r = .v u ∧ ∃ w, u = .tup [w, .i .i64 0] ∧ RowH (hsN n) w N := by
 refine Fn.dropC ?_
 refine fn_of_w (T := []) ho.sv (fun _ => rfl) (fn := Try.f21) (by kernel_rfl) rfl rfl ?_
 refine wo ?_
 cases hN : ndD b with
 | none =>
  apply p_callY []; exact (vwant_n rfl); iterate 4 exact rfl
  case hC => exact (fun hp' hs ht => ndecode_no hN hs.ok (hA.give0 hs) hc)
  rintro u N rfl
  refine wo ?_
  apply p_op; exact (vwant_n rfl); iterate 4 exact rfl
  refine e_alloc (zc := zNC) (by kernel_rfl) fun b4 => ⟨_, rfl, ?_⟩
  apply p_do; exact (vwant_n rfl); exact rfl; exact rfl
  refine e_stn (C' := zNC) rfl rfl zNC_ne zNC_len (Nat.le_of_eq zNC_len.symm) (overV_all rfl) ⟨_, rfl, ?_⟩
  refine wo ?_
  apply wm; iterate 5 exact rfl
  refine mv_int (v := .b true) rfl rfl (vi_neqT ((by decide)))
  refine wo ?_
  exact w_ret (wend_ret (vres2 (rv_tmp rfl) (rv_tmp rfl)) ⟨[], cle, _, rfl, rfl⟩)
 | some n =>
  dsimp only
  have hDn := hD n hN
  apply p_callY []; exact (vwant_n rfl); iterate 4 exact rfl
  case hC => exact (fun hp' hs ht => ndecode_ok hN hs.ok (hA.give0 hs) hc)
  rintro u N ⟨w, rfl, hw⟩
  have hwl := hw.len
  have hw16 := hw.1
  have hkid := fun {i : Nat} (h : i < 16) => kid_at hw h
  obtain ⟨nx, hnx1, hnx⟩ : ∃ nx, (w.drop (0 + 4)).take 34 = nx ∧ RefP (snP N) n.next nx := by
   obtain ⟨_, A, c, o, A2, c2, o2, nx, ks, rfl, _, _, _, _, hnx, _⟩ := hw
   exact ⟨nx, nodC_next hnx.len, hnx⟩
  refine wo ?_
  apply p_op; exact (vwant_n rfl); iterate 4 exact rfl
  refine e_alloc (zc := zNC) (by kernel_rfl) fun b4 => ⟨_, rfl, ?_⟩
  apply p_do; exact (vwant_n rfl); exact rfl; exact rfl
  refine e_stn (C' := w) rfl rfl (ne_of_len hwl (by decide)) hwl (Nat.le_of_eq zNC_len.symm) (overV_all (hwl.trans zNC_len.symm)) ⟨_, rfl, ?_⟩
  refine wo ?_
  apply wm; iterate 5 exact rfl
  refine mv_int (v := .b false) rfl rfl (vi_neqF ((by simp)))
  refine wo ?_
  refine zX (m_ldln (s := 33) (cs := nx) rfl hnx1 hnx.len) ?_
  apply p_callY []; exact (vwant_n rfl); iterate 4 exact rfl
  case hC => exact (fun hp' hs ht => hashes_k hs.ok hnx (fun A c o cs h => h _ _ [] _ hs fun p hp => List.mem_cons_of_mem _ (List.mem_append_left _ hp)) (hDn _ (.inl rfl)))
  rintro u1 N1 hu1
  obtain ⟨A1, o1, rfl⟩ := hu1.row.sl
  refine wo ?_
  iterate 4 ((try refine w_seq ?_); refine wo ?_)
  refine w_loop (ι := Nat × V × HV) (fun s => [(19, .i .i64 (s.1 : Nat)), (6, s.2.1), (4, .p (some (b4, 0)))]) (fun s => s.2.2 ++ ((some b4, cellsO w 29) :: N)) (fun s => s.1 ≤ 16 ∧ RowH (hsR n.next ++ (n.kids.take s.1).flatMap hsR) s.2.1 s.2.2) (fun s => 16 - s.1) (0, .sl A1 (hsR n.next).length (hsR n.next).length o1, N1) ⟨Nat.zero_le _, by rw [List.take_zero, List.flatMap_nil, List.append_nil]; exact hu1⟩ ⟨rfl, rfl, rfl, trivial⟩ (fun hp h => h.le) ?_
  intro ⟨i, u, Nr⟩ ⟨hi, hu⟩
  dsimp only at hi hu ⊢
  obtain ⟨A0, o0, hu0⟩ := hu.row.sl
  subst hu0
  have hml : (hsR n.next ++ (n.kids.take i).flatMap hsR).length ≤ 17 := by
   have h1 := hsR_len n.next
   have h2 := hs_take_le (n.kids.take i)
   rw [List.length_take] at h2
   rw [List.length_append]
   omega
  refine wo ?_
  by_cases g : i < 16
  ·obtain ⟨r, x, h1, h2, h3⟩ := hkid g
   have hmem : r ∈ n.kids := List.mem_of_getElem? h1
   have hsn : n.kids.take (i + 1) = n.kids.take i ++ [r] := by
    obtain ⟨q1, q2⟩ := List.getElem?_eq_some_iff.1 h1
    rw [List.take_succ_eq_append_getElem q1, q2]
   have hfl : hsR n.next ++ (n.kids.take (i + 1)).flatMap hsR = (hsR n.next ++ (n.kids.take i).flatMap hsR) ++ hsR r := by
    rw [hsn, List.flatMap_append, List.flatMap_singleton, List.append_assoc]
   apply wm; iterate 5 exact rfl
   refine mv_int (v := .b true) rfl rfl (vi_lssT (by omega))
   refine wo ?_
   apply wn; iterate 5 exact rfl
   refine p_iaan rfl rfl g
   refine zX (m_ldln (s := 33) (cs := x) rfl h2 h3.len) ?_
   apply p_callY []; exact (vwant_n rfl); iterate 4 exact rfl
   case hC => exact (fun hp' hs ht => hashes_k hs.ok h3 (fun A c o cs h => h _ _ [] _ hs fun p hp => List.mem_append_right _ (List.mem_cons_of_mem _ hp)) (hDn _ (.inr hmem)))
   rintro u2 N2 hu2
   by_cases k1 : r.k = 1
   ·have hr1 : hsR r = [r.h] := by unfold hsR; rw [if_pos k1]
    have hcl := hsR_cells h3.1
    rw [hr1] at hu2 hcl
    obtain ⟨A2, o2, rfl⟩ := hu2.row.sl
    apply p_op; exact (vwant_n rfl); iterate 4 exact rfl
    refine e_appN (n := 1) hu.row rfl rfl hu2.row.src hcl (by decide) (by have : ([r.h] : List (List UInt8)).length = 1 := rfl; omega) fun A3 o3 N3 hw3 => ⟨_, rfl, ?_⟩
    refine wo ?_
    refine ⟨rfl, (i + 1, _, N3), ⟨g, ?_⟩, by dsimp only; omega, ⟨rfl, rfl, rfl, trivial⟩, fun hp h => h.le⟩
    dsimp only
    rw [hfl, hr1]
    exact ⟨by rw [hsC_app, List.length_append]; exact hw3, fun h => by simp at h⟩
   ·have hr1 : hsR r = [] := by unfold hsR; rw [if_neg k1]
    rw [hr1] at hu2
    obtain rfl := hu2.nil rfl
    apply p_op; exact (vwant_n rfl); iterate 4 exact rfl
    refine e_appZ (sz := 32) (by decide) rfl rfl ⟨_, rfl, ?_⟩
    refine wo ?_
    refine ⟨rfl, (i + 1, _, Nr), ⟨g, ?_⟩, by dsimp only; omega, ⟨rfl, rfl, rfl, trivial⟩, fun hp h => h.le⟩
    dsimp only
    rw [hfl, hr1, List.append_nil]
    exact hu
  ·apply wm; iterate 5 exact rfl
   refine mv_int (v := .b false) rfl rfl (vi_lssF (by omega))
   refine wo ?_
   refine w_exit ?_
   obtain rfl : i = 16 := by omega
   rw [List.take_of_length_le (by omega)] at hu
   refine wo ?_
   exact w_ret (wend_ret (vres2 (rv_tmp rfl) (rv_tmp rfl)) ⟨Nr, cle, _, rfl, _, rfl, by
    rw [List.take_of_length_le (by omega)]
    exact hu⟩)
theorem refOfS_h {t : It} {r : RefS} (h : refOfS t = some r) (hk : r.k = 1) : 33 ≤ (enc t).length := by
 cases t with
 | str bs =>
  rw [refOfS] at h
  split at h
  ·obtain rfl := Option.some.inj h; simp [zRef] at hk
  ·split at h
   ·rename_i g
    rw [enc, strB_else (by omega), List.length_append, g]
    have := headB_pos 128 32
    omega
   ·simp at h
 | list l =>
  rw [refOfS] at h
  split at h
  ·obtain rfl := Option.some.inj h; simp at hk
  ·simp at h
theorem shape_hash {l : List It} {n : NodS} (h : shapeS l = some n) : ∀ r, (r = n.next ∨ r ∈ n.kids) → r.k = 1 → ∃ x ∈ l, 33 ≤ (enc x).length := by
 intro r hr hk
 have hz : ∀ r ∈ List.replicate 16 zRef, r.k ≠ 1 := fun r hr => by
  rw [List.eq_of_mem_replicate hr, zRef_k]; decide
 rcases shape_cases h with ⟨pb, nib, v, rfl, hu, rfl⟩ | ⟨pb, nib, x, y, rfl, hu, h1, rfl⟩ | ⟨ks, v, h7, h1, h2, rfl⟩
 ·rcases hr with rfl | hr
  ·rw [zRef_k] at hk; simp at hk
  ·exact absurd hk (hz r hr)
 ·rcases hr with rfl | hr
  ·exact ⟨x, by simp, refOfS_h h1 hk⟩
  ·exact absurd hk (hz r hr)
 ·rcases hr with rfl | hr
  ·rw [zRef_k] at hk; simp at hk
  ·obtain ⟨t, h3, h4⟩ := (refsOfS_at h1).2 r hr
   exact ⟨t, List.mem_of_mem_take h3, refOfS_h h4 hk⟩
theorem nd_short {b : List UInt8} {n : NodS} (h : ndD b = some n) (hl : b.length < 32) : hsN n = [] := by
 obtain ⟨l, _, hd, hs, _⟩ := ndD_some h
 have hb := decS_inv hd
 have no : ∀ r, (r = n.next ∨ r ∈ n.kids) → hsR r = [] := fun r hr => by
  unfold hsR
  by_cases k1 : r.k = 1
  ·obtain ⟨x, hx, h33⟩ := shape_hash hs r hr k1
   have h4 := enc_mem hx
   have h6 := congrArg List.length hb
   rw [enc, List.length_append] at h6
   omega
  ·rw [if_neg k1]
 unfold hsN
 rw [no _ (.inl rfl), List.nil_append]
 exact List.flatMap_eq_nil_iff.2 fun r hr => no r (.inr hr)
theorem nd_refs {b : List UInt8} {n : NodS} (h : ndD b = some n) : ∀ r, (r = n.next ∨ r ∈ n.kids) → r.k = 2 → r.n.length < b.length := by
 obtain ⟨l, _, hd, hs, _⟩ := ndD_some h
 have hb := decS_inv hd
 intro r hr hk
 obtain ⟨x, hx, he⟩ := shape_refs hs r hr hk
 have h4 := enc_mem hx
 have h5 := headB_pos 192 (encs l).length
 have h6 := congrArg List.length hb
 rw [enc, List.length_append] at h6
 rw [he]
 omega
theorem hsZ_short : ∀ (m : Nat) (b : List UInt8), b.length = m → m < 32 → HsZ b := by
 intro m
 induction m using Nat.strongRecOn with
 | ind m ih =>
  intro b hb hm A c o hp ho hA hc
  have := nhashes_k (o := o) (fun n hN r hr hk => ih _ (by rw [← hb]; exact nd_refs hN r hr hk) r.n rfl (by have := nd_refs hN r hr hk; omega)) ho hA hc
  cases hN : ndD b with
  | none =>
   rw [hN] at this
   exact this.mono fun r N ⟨u, h1, h2⟩ => ⟨u, h1, 70, h2⟩
  | some n =>
   rw [hN] at this
   exact this.mono fun r N ⟨u, h1, w, h2, h3⟩ => ⟨u, h1, 0, by rw [h2, h3.nil (nd_short hN (by omega))]⟩
theorem may_short {n : NodS} (h : mayS ndD n = true) : ∀ r, (r = n.next ∨ r ∈ n.kids) → r.k = 2 → r.n.length < 32 := by
 have one : ∀ r, (mayRefS ndD r).2 = true → r.k = 2 → r.n.length < 32 := fun r h hk => by
  unfold mayRefS at h
  by_cases g : bareS r = false
  ·rw [if_pos g] at h; simp at h
  ·have g' : bareS r = true := by simpa using g
   unfold bareS at g'
   rw [if_neg (by rw [hk]; decide), if_neg (by rw [hk]; decide), if_pos hk, decide_eq_true_eq] at g'
   exact g'.2
 have nz : ∀ r, noneS r = true → r.k ≠ 2 := fun r h => by
  rw [none_z h]; decide
 intro r hr hk
 unfold mayS at h
 by_cases k3 : n.k = 3
 ·rw [if_pos k3] at h
  unfold mayBrS at h
  simp only [Bool.and_eq_true, List.all_eq_true, decide_eq_true_eq, beq_iff_eq] at h
  rcases hr with rfl | hr
  ·exact absurd hk (nz _ h.2)
  ·exact one r (h.1.1.1.1.1 r hr) hk
 ·rw [if_neg k3] at h
  by_cases k2 : n.k = 2
  ·rw [if_pos k2] at h
   split at h
   ·simp at h
   ·rename_i hcc
    simp only [not_or] at hcc
    unfold mayLfS at h
    simp only [Bool.and_eq_true, decide_eq_true_eq, Bool.not_eq_true', List.all_eq_true] at h
    rcases hr with rfl | hr
    ·exact one _ (by simpa using hcc.1) hk
    ·exact absurd hk (nz _ (h.2 r hr))
  ·rw [if_neg k2] at h
   by_cases k1 : n.k = 1
   ·rw [if_pos k1] at h
    unfold mayLfS at h
    simp only [Bool.and_eq_true, decide_eq_true_eq, Bool.not_eq_true', List.all_eq_true] at h
    rcases hr with rfl | hr
    ·exact absurd hk (nz _ h.1.2)
    ·exact absurd hk (nz _ (h.2 r hr))
   ·rw [if_neg k1] at h; simp at h
theorem nhashes_ok {b : List UInt8} {n : NodS} {A : Option (Nat × Nat)} {c : Nat} {o : Bool} {hp : Hp} (h0 : ndD b = some n) (ho : OkH hp) (hA : RB ⟨hp, []⟩ A (b.map byV)) (hc : b.length ≤ c) : Fn kxD 21 [.sl A b.length c o] hp [] fun r N => ∃ u, r = .v u ∧ ∃ w, u = .tup [w, .i .i64 0] ∧ RowH (hsN n) w N := by
 have := nhashes_k (o := o) (fun n' hN r hr hk => by
  obtain ⟨_, _, _, _, hm⟩ := ndD_some hN
  exact hsZ_short _ r.n rfl (may_short hm r hr hk)) ho hA hc
 rw [h0] at this
 exact this
/- Nr6: the document's loose reading, Decode and Hashes. By this project. -/
/- Nm3: NodeRound on the machine. By this project. -/
/- Nz1: the statements' nodeOf and asWas; Apart of any rows that were built. By this project. -/
def markN : List UInt8 := [85, 170, 85, 170]
def PRm (N : HV) : PP := fun A c o cs => ∃ b xs, A = some (b, 0) ∧ cs = xs.map byV ∧ o = true ∧ c = xs.length + 4 ∧ (some b, VO.cells ((xs ++ markN).map byV) 5 (some 1) false) ∈ N
theorem PRm.mono {N M : HV} (h : ∀ p ∈ N, p ∈ M) : ∀ A c o cs, PRm N A c o cs → PRm M A c o cs := fun A c o cs ⟨b, xs, h1, h2, h3, h4, h5⟩ => ⟨b, xs, h1, h2, h3, h4, h _ h5⟩
theorem PRm.sn {N : HV} {A : Option (Nat × Nat)} {c : Nat} {o : Bool} {cs : List V} (h : PRm N A c o cs) : Sn N A cs := by
 obtain ⟨b, xs, rfl, rfl, _, _, h5⟩ := h
 exact Sn.own h5 (by rw [List.drop_zero, List.map_append, List.take_append_of_le_length (Nat.le_refl _), List.take_of_length_le (Nat.le_refl _)])
/- Nz2: asWas, sameHashes, the document's Hashes; Apart of any rows that were built. By this project. -/
theorem hsC_at {hs : List (List UInt8)} (h : ∀ x ∈ hs, x.length = 32) {i : Nat} {x : List UInt8} (hi : hs[i]? = some x) : ((hsC hs).drop (i * 32)).take 32 = x.map byV := by
 have e : hsC hs = (hs.map fun x => x.map byV).flatten := by simp [hsC, List.flatMap]
 rw [e]
 exact flat_row (by
  intro y hy
  obtain ⟨z, hz, rfl⟩ := List.mem_map.1 hy
  rw [List.length_map, h z hz]) (by rw [List.getElem?_map, hi]; rfl)
theorem rb_some7 {B : Bs} {A : Option (Nat × Nat)} {cs : List V} (h : RB B A cs) (h0 : 0 < cs.length) : ∃ b o, A = some (b, o) := by
 cases hq : cs with
 | nil => rw [hq] at h0; simp at h0
 | cons x r =>
  rw [hq] at h
  exact rv_some h.1.rv
theorem samehs_d {hs : List (List UInt8)} {A A' : Option (Nat × Nat)} {c c' : Nat} {o o' : Bool} {hp : Hp} (ho : OkH hp) (hA : RB ⟨hp, []⟩ A (hsC hs)) (hA' : RB ⟨hp, []⟩ A' (hsC hs)) (h32 : ∀ x ∈ hs, x.length = 32) (hl : hs.length ≤ 1000) :
  Fn kxD 22 [.sl A hs.length c o, .sl A' hs.length c' o'] hp [] fun r _ => r = .v (.b true) := by
 refine fn_of_w (T := []) ho.sv (fun _ => rfl) (fn := Try.f22) (by kernel_rfl) rfl rfl ?_
 refine wo ?_
 apply wm; iterate 5 exact rfl
 refine mv_int (v := .b false) rfl rfl (vi_neqF (by omega))
 refine wo ?_
 iterate 4 ((try refine w_seq ?_); refine wo ?_)
 refine w_loop (ι := Nat) (fun i => [(13, .i .i64 (i : Nat)), (12, .i .i64 (hs.length : Nat)), (1, .sl A' hs.length c' o'), (0, .sl A hs.length c o)]) (fun i => []) (fun i => i ≤ hs.length) (fun i => hs.length - i) 0 (Nat.zero_le _) ⟨rfl, rfl, rfl, rfl, trivial⟩ (fun hp h => h) ?_
 intro i hi
 refine wo ?_
 by_cases g : i < hs.length
 ·obtain ⟨x, hx⟩ : ∃ x, hs[i]? = some x := ⟨_, List.getElem?_eq_getElem g⟩
  have hx32 := h32 x (List.mem_of_getElem? hx)
  have hc := hsC_at h32 hx
  have hxl : (x.map byV).length = 32 := by rw [List.length_map, hx32]
  obtain ⟨ba, oa, rfl⟩ := rb_some7 hA (show 0 < (hsC hs).length by
   have := congrArg List.length hc
   rw [hxl, List.length_take, List.length_drop] at this
   omega)
  obtain ⟨bb, ob, rfl⟩ := rb_some7 hA' (show 0 < (hsC hs).length by
   have := congrArg List.length hc
   rw [hxl, List.length_take, List.length_drop] at this
   omega)
  apply wm; iterate 5 exact rfl
  refine mv_int (v := .b true) rfl rfl (vi_lssT (by omega))
  refine wo ?_
  apply dn; iterate 5 exact rfl
  refine p_ian rfl rfl g
  apply dm; iterate 6 exact rfl
  refine m_ldnN (j := i * 32) (s := 31) rfl hA.1 hA.2 rfl hc hxl
  refine wo ?_
  apply dn; iterate 5 exact rfl
  refine p_ian rfl rfl g
  apply dm; iterate 6 exact rfl
  refine m_ldnN (j := i * 32) (s := 31) rfl hA'.1 hA'.2 rfl hc hxl
  apply dm; iterate 6 exact rfl
  refine m_neqA (xs := x) (ys := x) rfl rfl rfl hx32 hx32
  rw [decide_eq_true rfl, show (!true) = false from rfl]
  refine wo ?_
  exact ⟨rfl, i + 1, g, by omega, ⟨rfl, rfl, rfl, rfl, trivial⟩, fun hp h => h⟩
 ·apply wm; iterate 5 exact rfl
  refine mv_int (v := .b false) rfl rfl (vi_lssF (by omega))
  refine wo ?_
  refine w_exit ?_
  refine wo ?_
  exact w_ret (wend_ret (vres1 (rv_tmp rfl)) rfl)
/- Nz3: Apart of any rows that were built; NodeEncodes and NodeDecodes on the machine. By this project. -/
theorem hnds_ap : ∀ (A B : HV), hnds (A ++ B) = hnds A ++ hnds B
 | [], B => rfl
 | (some b, _) :: r, B => by rw [List.cons_append, hnds, hnds, hnds_ap r B, List.cons_append]
 | (none, _) :: r, B => by rw [List.cons_append, hnds, hnds, hnds_ap r B]
theorem sv_nodup {B : Bs} {hp : Hp} : ∀ {L : HV}, SV B hp L → (hnds L).Nodup
 | [], _ => by simp [hnds]
 | (some b, o) :: r, h => by
  rw [hnds, List.nodup_cons]
  exact ⟨h.fresh, sv_nodup (h.sub (List.sublist_cons_self _ _))⟩
 | (none, o) :: r, h => by
  rw [hnds]
  exact sv_nodup (h.sub (List.sublist_cons_self _ _))
inductive RowsK : List V → HV → Prop
 | nil : RowsK [] []
 | cons {x : List UInt8} {s : V} {M N : HV} {ss : List V} (h : RowK x s M) (hl : x.length ≤ 1099511627776) (k : RowsK ss N) : RowsK (s :: ss) (M ++ N)
theorem rowP_one {B : Bs} {hp : Hp} {x : List UInt8} {s : V} {M L : HV} {a : Nat} (hs : SV B hp L) (hm : ∀ p ∈ M, p ∈ L) (h : RowK x s M) (hl : x.length ≤ 1099511627776) (ha : a ∉ hnds M) : ∃ q, rowP hp a s = some q ∧ q.toList = hnds M := by
 cases h with
 | nil => exact ⟨none, by show (if (0 = 0 ∧ 0 = 0) then some none else none) = _; exact if_pos ⟨rfl, rfl⟩, rfl⟩
 | @own _ b op oo h =>
  refine ⟨some b, ?_, rfl⟩
  obtain ⟨i, hi⟩ := List.getElem?_of_mem (hm _ (List.mem_singleton.2 rfl))
  have hb := hs.has i _ _ hi
  have hne : b ≠ a := fun e => ha (by subst e; simp [hnds])
  have hg : hp.getW b = some (.cells (x.map byV) 5 oo false) := by simp only [Hp.getW, hb.2.1.1]; exact hb.1
  show (if 0 = 0 ∧ x.length = x.length ∧ x.length ≤ 1099511627776 ∧ b ≠ a then _ else _) = _
  rw [if_pos ⟨rfl, rfl, hl, hne⟩, hg]
  show (if (x.map byV).length = x.length ∧ (op = true → oo = some 1) then _ else _) = _
  rw [if_pos ⟨by rw [List.length_map], h⟩]
theorem rowsP_all {B : Bs} {hp : Hp} {L : HV} {a : Nat} (hs : SV B hp L) : ∀ {ss : List V} {M : HV}, RowsK ss M → (∀ p ∈ M, p ∈ L) → a ∉ hnds M → ∃ qs, mapO (rowP hp a) ss = some qs ∧ qs.filterMap id = hnds M
 | _, _, .nil, _, _ => ⟨[], by rw [mapO_nil], rfl⟩
 | _, _, .cons h hl k, hm, ha => by
  rw [hnds_ap, List.mem_append, not_or] at ha
  obtain ⟨q, h1, h2⟩ := rowP_one hs (fun p hp => hm p (List.mem_append_left _ hp)) h hl ha.1
  obtain ⟨qs, h3, h4⟩ := rowsP_all hs k (fun p hp => hm p (List.mem_append_right _ hp)) ha.2
  refine ⟨q :: qs, by rw [mapO_cons, h1]; dsimp only; rw [h3], ?_⟩
  rw [hnds_ap, ← h2, ← h4]
  cases q <;> rfl
set_option maxHeartbeats 1000000 in
theorem apartO_d {ss : List V} {n : Nat} {M Lr : HV} {a i : Nat} {t : TypeId} {op : Bool} {oo : Option Nat} {B : Bs} {hp : Hp} (h0 : SV ⟨hp, hnds M⟩ hp M) (hs : SV B hp (M ++ Lr)) [hat : AtV a Lr (.cells ss t oo false) i] (hop : op = true → oo = some 1) (hr : RowsK ss M) (hn : ss.length = n) (hnl : n ≤ 1073741824) :
  Fn kxD 15 [.sl (some (a, 0)) n n op] hp (hnds M) fun r N => ∃ u, r = .v u ∧ u = .b true ∧ N = [] := by
 have hai : (M ++ Lr)[M.length + i]? = some (some a, .cells ss t oo false) := by
  rw [List.getElem?_append_right (by omega), Nat.add_sub_cancel_left]; exact hat.h
 have hab := hs.has _ _ _ hai
 have hna : a ∉ hnds M := fun h => by
  obtain ⟨j, o, hj⟩ := hasT_hnds _ a h
  have hj2 := (List.getElem?_eq_some_iff.1 hj).1
  have := hs.one j _ _ _ _ (show (M ++ Lr)[j]? = some (some a, o) by rw [List.getElem?_append_left hj2]; exact hj) hai
  omega
 have hnd := sv_nodup h0
 obtain ⟨qs, hmo, hfm⟩ := rowsP_all (a := a) h0 hr (fun p hp => hp) hna
 have hT : ∀ x ∈ hnds M, Bs.Own ⟨hp, hnds M⟩ x ∧ x < hp.nx := fun x hx => by
  obtain ⟨j, o, hj⟩ := hasT_hnds _ x hx
  exact (h0.has j x o hj).2
 have hg : hp.getW a = some (.cells ss t oo false) := by simp only [Hp.getW, hab.2.1.1]; exact hab.1
 have hap : apExt 15 15 [.sl (some (a, 0)) n n op] hp = some (.v (.b true), voids hp (hnds M)) := by
  unfold apExt
  rw [if_pos rfl]
  show (if 0 = 0 ∧ n = n ∧ n ≤ 1073741824 then _ else _) = _
  rw [if_pos ⟨rfl, rfl, hnl⟩, hg]
  show (if ss.length = n ∧ (op = true → oo = some 1) then _ else _) = _
  rw [if_pos ⟨hn, hop⟩, hmo, Option.bind_some]
  rw [hfm, if_pos hnd]
 unfold Fn
 refine ⟨.v (.b true), voids hp (hnds M), ⟨1, fun n hn => ?_⟩, [], ⟨?_, fun x hx => ?_, fun _ _ _ h => by simp at h, fun _ _ _ _ _ h => by simp at h, fun x h h' => ?_, ?_⟩, ⟨?_, (hnds M).reverse, voids_log _ _, fun x hx => ?_, fun x hx => ?_⟩, _, rfl, rfl, rfl⟩
 ·obtain ⟨n, rfl⟩ : ∃ k, n = k + 1 := ⟨n - 1, by omega⟩
  simp only [vcall, hap]
 ·show hp.nx ≤ (voids hp _).nx
  rw [voids_nx]
  exact Nat.le_refl _
 ·rw [voids_get, if_neg fun h => hx (hT x h).1]
 ·rw [voids_nx] at h
  rw [voids_get]
  split
  ·rfl
  ·exact h0.top x h h'
 ·rw [voids_nx]
  exact h0.even
 ·rw [voids_nx]
  exact Nat.le_refl _
 ·rw [voids_nx]
  exact hT x (List.mem_reverse.1 hx)
 ·rw [voids_get, if_neg fun h => hx (List.mem_reverse.2 h)]
theorem hsN_len (n : NodS) : (hsN n).length ≤ n.kids.length + 1 := by
 have h1 := hsR_len n.next
 have h2 := hs_take_le n.kids
 unfold hsN
 rw [List.length_append]
 omega
theorem hsN_32 {n : NodS} (h : NodOk n) : ∀ x ∈ hsN n, x.length = 32 := by
 have one : ∀ r : RefS, r.h.length = 32 → ∀ x ∈ hsR r, x.length = 32 := fun r hr x hx => by
  unfold hsR at hx
  split at hx
  ·rw [List.mem_singleton.1 hx]; exact hr
  ·simp at hx
 intro x hx
 unfold hsN at hx
 rcases List.mem_append.1 hx with hx | hx
 ·exact one _ h.next x hx
 ·obtain ⟨r, hr, hx⟩ := List.mem_flatMap.1 hx
  exact one r (h.hs r hr) x hx
/- Na1: the lists of a node that was handed out. By this project. -/
theorem bare_small {r : RefS} (h : bareS r = true) : r.n.length < 32 := by
 unfold bareS at h
 split at h
 ·rw [(of_decide_eq_true h).2]; decide
 ·split at h
  ·rw [of_decide_eq_true h]; decide
  ·split at h
   ·exact (of_decide_eq_true h).2
   ·simp at h
theorem mayref_small {D : List UInt8 → Option NodS} {r : RefS} (h : (mayRefS D r).2 = true) : r.n.length < 32 := by
 unfold mayRefS at h
 split at h
 ·simp at h
 ·rename_i g
  exact bare_small (by simpa using g)
theorem none_small {r : RefS} (h : noneS r = true) : r.n.length < 32 := by
 unfold noneS at h
 rw [Bool.and_eq_true] at h
 exact bare_small h.2
theorem lf_small {path val : List UInt8} {full : Bool} {next : RefS} {kids : List RefS} (h : mayLfS path val full next kids = true) : path.length ≤ 64 ∧ val.length ≤ 256 ∧ next.n.length < 32 ∧ ∀ r ∈ kids, r.n.length < 32 := by
 unfold mayLfS mayValS at h
 simp only [Bool.and_eq_true, decide_eq_true_eq, List.all_eq_true] at h
 exact ⟨h.1.1.1.1.1, h.1.1.1.2.2, none_small h.1.2, fun r hr => none_small (h.2 r hr)⟩
theorem may_small {D : List UInt8 → Option NodS} {n : NodS} (h : mayS D n = true) : n.path.length ≤ 64 ∧ n.val.length ≤ 256 ∧ n.next.n.length < 32 ∧ ∀ r ∈ n.kids, r.n.length < 32 := by
 unfold mayS at h
 split at h
 ·unfold mayBrS at h
  simp only [Bool.and_eq_true, decide_eq_true_eq, List.all_eq_true] at h
  exact ⟨by omega, h.1.1.2, none_small h.2, fun r hr => mayref_small (h.1.1.1.1.1 r hr)⟩
 ·split at h
  ·split at h
   ·simp at h
   ·rename_i g
    simp only [not_or] at g
    have h1 := lf_small h
    exact ⟨h1.1, by omega, mayref_small (by simpa using g.1), h1.2.2.2⟩
  ·split at h
   ·exact lf_small h
   ·simp at h
def kN (w : List V) : V := (w[33]?).getD (.sl none 0 0 false)
theorem kN_at {w : List V} (h : w.length = 34) : w[33]? = some (kN w) := by
 unfold kN
 rw [List.getElem?_eq_getElem (by omega)]
 rfl
theorem kN_ref {r : RefS} {s : V} (h : r.h.length = 32) : kN (refC r s) = s := by
 have := refC_node (s := s) h
 rw [Nat.zero_add] at this
 unfold kN
 rw [this]
 rfl
theorem RefK.row {r : RefS} {w : List V} {M : HV} (h : RefK r w M) : RowK r.n (kN w) M := by
 obtain ⟨h1, s, rfl, h3⟩ := h
 rw [kN_ref h1]
 exact h3
theorem RefsK.rows : ∀ {l : List RefS} {ks : List (List V)} {M : HV}, RefsK l ks M → (∀ r ∈ l, r.n.length < 32) → RowsK (ks.map kN) M
 | [], ks, M, h, _ => by
  obtain ⟨rfl, rfl⟩ := h
  exact .nil
 | r :: l, ks, M, h, hl => by
  obtain ⟨w, ws, M1, M2, rfl, rfl, h1, h2⟩ := h
  exact .cons h1.row (by have := hl r List.mem_cons_self; omega) (RefsK.rows h2 fun x hx => hl x (List.mem_cons_of_mem _ hx))
theorem RowsK.app : ∀ {ss ts : List V} {M N : HV}, RowsK ss M → RowsK ts N → RowsK (ss ++ ts) (M ++ N)
 | _, _, _, _, .nil, k => k
 | _, _, _, _, .cons h hl k, k2 => by
  rw [List.cons_append, List.append_assoc]
  exact .cons h hl (RowsK.app k k2)
theorem RowsK.one {x : List UInt8} {s : V} {M : HV} (h : RowK x s M) (hl : x.length ≤ 1099511627776) : RowsK [s] M := by
 have := RowsK.cons h hl .nil
 rwa [List.append_nil] at this
theorem drop_get {α : Type} {cs v : List α} {i k j : Nat} {u : α} (h : (cs.drop i).take k = v) (hj : v[j]? = some u) : cs[i + j]? = some u := by
 rw [← h, List.getElem?_take] at hj
 by_cases g : j < k
 ·rw [if_pos g, List.getElem?_drop] at hj; exact hj
 ·rw [if_neg g] at hj; simp at hj
theorem nodC_nextn {n : NodS} {p v : V} {nx ks : List V} (h : nx.length = 34) : (nodC n p v nx ks)[0 + 4 + 33]? = some (kN nx) := drop_get (nodC_next h) (kN_at h)
theorem nodC_kidn {n : NodS} {p v : V} {nx x : List V} {ks : List (List V)} {i : Nat} (h : nx.length = 34) (hk : ∀ x ∈ ks, x.length = 34) (hi : ks[i]? = some x) : (nodC n p v nx ks.flatten)[0 + 38 + i * 34 + 33]? = some (kN x) := by
 have h3 := flat_row hk hi
 have e : (nodC n p v nx ks.flatten).drop (0 + 38 + i * 34) = ks.flatten.drop (i * 34) := by
  rw [show 0 + 38 + i * 34 = i * 34 + 34 + 4 by omega]
  show (nx ++ ks.flatten).drop (i * 34 + 34) = _
  rw [List.drop_append, List.drop_of_length_le (by omega), List.nil_append, h, Nat.add_sub_cancel]
 exact drop_get (by rw [e]; exact h3) (kN_at (hk _ (List.mem_of_getElem? hi)))
set_option maxHeartbeats 8000000 in
theorem lists_d {n : NodS} {s v : V} {nx : List V} {ks : List (List V)} {hp : Hp} (ho : OkH hp) (hs1 : s.cells = some [s]) (hv1 : v.cells = some [v]) (hx1 : (kN nx).cells = some [kN nx]) (hk1 : ∀ x ∈ ks, (kN x).cells = some [kN x]) (hnx : nx.length = 34) (h16 : ks.length = 16) (hk : ∀ x ∈ ks, x.length = 34) :
  Fn kxD 24 [.agg (nodC n s v nx ks.flatten)] hp [] fun q N => ∃ u, q = .v u ∧ RowG 22 1 19 (s :: v :: kN nx :: ks.map kN) u N := by
 refine Fn.dropC ?_
 refine fn_of_w (T := []) ho.sv (fun _ => rfl) (fn := Try.f24) (by kernel_rfl) rfl rfl ?_
 refine wo ?_
 apply p_op; exact (vwant_n rfl); iterate 4 exact rfl
 refine ev_box rfl rfl fun bx => ⟨_, rfl, ?_⟩
 refine wo ?_
 refine zX (m_ldl rfl (nodC_nextn hnx)) ?_
 apply p_op; exact (vwant_n rfl); iterate 4 exact rfl
 refine e_bsn (C := [s, v, kN nx]) (n := 3) (sz := 1) rfl rfl (by decide) (.cons rfl hs1 rfl (.cons rfl hv1 rfl (.cons rfl hx1 rfl .nil))) rfl rfl fun b1 => ⟨_, rfl, ?_⟩
 refine wo ?_
 iterate 4 ((try refine w_seq ?_); refine wo ?_)
 refine w_loop (ι := Nat × V × HV) (fun t => [(4, .i .i64 (t.1 : Nat)), (3, t.2.1), (1, .p (some (bx, 0)))]) (fun t => t.2.2 ++ [(some bx, cellsO (nodC n s v nx ks.flatten) 29)]) (fun t => t.1 ≤ 16 ∧ RowG 22 1 (3 + t.1) (s :: v :: kN nx :: (ks.take t.1).map kN) t.2.1 t.2.2) (fun t => 16 - t.1) (0, .sl (some (b1, 0)) 3 3 false, [(some b1, cellsO [s, v, kN nx] 22)]) ⟨Nat.zero_le _, by rw [List.take_zero]; exact RowG.lit rfl⟩ ⟨rfl, rfl, rfl, trivial⟩ (fun hp h => h) ?_
 intro ⟨i, u, Nr⟩ ⟨hi, hu⟩
 dsimp only at hi hu ⊢
 obtain ⟨A0, o0, rfl⟩ := hu.sl
 refine wo ?_
 by_cases g : i < 16
 ·obtain ⟨x, hx⟩ : ∃ x, ks[i]? = some x := ⟨_, List.getElem?_eq_getElem (by omega)⟩
  have hxm := List.mem_of_getElem? hx
  have hsn : ks.take (i + 1) = ks.take i ++ [x] := by
   obtain ⟨q1, q2⟩ := List.getElem?_eq_some_iff.1 hx
   rw [List.take_succ_eq_append_getElem q1, q2]
  apply wm; iterate 5 exact rfl
  refine mv_int (v := .b true) rfl rfl (vi_lssT (by omega))
  refine wo ?_
  apply wn; iterate 5 exact rfl
  refine p_iaan rfl rfl g
  refine wo ?_
  refine zX (m_ldl rfl (nodC_kidn hnx hk hx)) ?_
  apply p_op; exact (vwant_n rfl); iterate 4 exact rfl
  refine e_bsn (C := [kN x]) (n := 1) (sz := 1) rfl rfl (by decide) (.cons rfl (hk1 _ hxm) rfl .nil) rfl rfl fun b2 => ⟨_, rfl, ?_⟩
  apply p_op; exact (vwant_n rfl); iterate 4 exact rfl
  refine e_appN (n := 1) hu rfl rfl (rz_loc (k := 1) rfl) rfl (by decide) (by omega) fun A3 o3 N3 hw3 => ⟨_, rfl, ?_⟩
  refine wo ?_
  refine ⟨rfl, (i + 1, .sl A3 (3 + i + 1) (3 + i + 1) o3, N3), ⟨g, ?_⟩, by dsimp only; omega, ⟨rfl, rfl, rfl, trivial⟩, fun hp h => h.le⟩
  dsimp only
  rw [hsn, List.map_append]
  exact hw3
 apply wm; iterate 5 exact rfl
 refine mv_int (v := .b false) rfl rfl (vi_lssF (by omega))
 refine wo ?_
 refine w_exit ?_
 obtain rfl : i = 16 := by omega
 rw [List.take_of_length_le (Nat.le_of_eq h16)] at hu
 refine wo ?_
 exact w_ret (wend_ret (vres1 (rv_tmp rfl)) ⟨Nr, cle, _, rfl, hu⟩)
theorem RowU.one {e : TypeId} {x : List UInt8} {s : V} {M : HV} (h : RowU e x s M) : s.cells = some [s] := by
 obtain ⟨A, o, rfl⟩ := h.sl
 rfl
theorem RefsK.ones : ∀ {l : List RefS} {ks : List (List V)} {M : HV}, RefsK l ks M → ∀ x ∈ ks, (kN x).cells = some [kN x] ∧ x.length = 34
 | [], ks, M, h, x, hx => by
  obtain ⟨rfl, rfl⟩ := h
  simp at hx
 | r :: l, ks, M, h, x, hx => by
  obtain ⟨w, ws, M1, M2, rfl, rfl, h1, h2⟩ := h
  rcases List.mem_cons.1 hx with rfl | hx
  ·exact ⟨h1.row.one, h1.len⟩
  ·exact RefsK.ones h2 x hx
theorem lists_k {n : NodS} {w : List V} {M : HV} (hk : NodK n w M) (hm : mayS ndD n = true) :
  ∃ ss, ss.length = 19 ∧ RowsK ss M ∧ ∀ hp : Hp, OkH hp → Fn kxD 24 [.agg w] hp [] fun q N => ∃ u, q = .v u ∧ RowG 22 1 19 ss u N := by
 obtain ⟨q1, q2, q3, q4⟩ := may_small hm
 obtain ⟨h0, s, v, nx, ks, M1, Mv, M2, M3, rfl, h1, h2, h5, h6, rfl⟩ := hk
 have h16 : ks.length = 16 := by rw [refsP_len (h6.p fun p hp => hp), h0]
 refine ⟨s :: v :: kN nx :: ks.map kN, by simp [h16], .cons h1 (by omega) (.cons h2 (by omega) (.cons h5.row (by omega) (h6.rows q4))), fun hp ho => lists_d ho h1.one h2.one h5.row.one (fun x hx => (h6.ones x hx).1) h5.len h16 fun x hx => (h6.ones x hx).2⟩
/- Na2: NodeApart on the machine. By this project. -/
theorem RowG.gotL {e : TypeId} {sz m : Nat} {cs : List V} {u : V} {N : HV} (h : RowG e sz m cs u N) (h0 : 0 < m) : ∃ b op oo, u = .sl (some (b, 0)) m m op ∧ N = [(some b, .cells cs e oo false)] ∧ (op = true → oo = some sz) ∧ cs.length = m * sz := by
 cases h with
 | nil => omega
 | own h hl => exact ⟨_, _, _, rfl, rfl, h, hl⟩
theorem RowH.got {hs : List (List UInt8)} {u : V} {N : HV} (h : RowH hs u N) : (hs = [] ∧ u = .sl none 0 0 false) ∨ (0 < hs.length ∧ ∃ b op oo, u = .sl (some (b, 0)) hs.length hs.length op ∧ N = [(some b, .cells (hsC hs) 24 oo false)] ∧ (hsC hs).length = hs.length * 32) := by
 cases hs with
 | nil => exact .inl ⟨rfl, h.nil rfl⟩
 | cons x r =>
  obtain ⟨b, op, oo, h1, h2, _, h3⟩ := h.row.gotL (by simp)
  exact .inr ⟨by simp, b, op, oo, h1, h2, h3⟩
theorem overV_same {C vs : List V} {o : Nat} (h : o + vs.length ≤ C.length) : (overV C o vs).length = C.length := by
 unfold overV
 simp only [List.length_append, List.length_take, List.length_drop]
 omega
set_option maxHeartbeats 64000000 in
theorem apartlaw_d {n : NodS} {w : List V} {hp : Hp} (ho : OkH hp) (hn : NodP (rbP ⟨hp, []⟩) n w) :
  Fn kxD 7 [.agg w] hp [] fun r _ => r = .v (.b true) := by
 have hwl := hn.len
 have hok := hn.ok
 refine fn_of_w (T := []) ho.sv (fun _ => rfl) (fn := Try.f7) (by kernel_rfl) rfl rfl ?_
 refine wo ?_
 apply p_op; exact (vwant_n rfl); iterate 4 exact rfl
 refine ev_box rfl rfl fun b1 => ⟨_, rfl, ?_⟩
 refine wo ?_
 refine zX (m_ldln (s := 581) (cs := w) rfl (all_take _ hwl) hwl) ?_
 cases hm : mayS ndD n with
 | false =>
  apply p_callY []; exact (vwant_n rfl); iterate 4 exact rfl
  case hC => exact (fun hp' hs ht => nencode_no hm hs.ok (hn.mono fun A c o cs h => h.give0 hs))
  rintro u N rfl
  refine wo ?_
  refine p_callq (vwant_n rfl) rfl rfl rfl rfl (fun hp' hs => num_d hs.ok) ?_
  apply wm; iterate 5 exact rfl
  refine mv_int (v := .b true) rfl rfl (vi_neqT ((by simp)))
  refine wo ?_
  refine p_callq (vwant_n rfl) rfl rfl rfl rfl (fun hp' hs => nknown_d hs.ok) ?_
  refine wo ?_
  exact w_ret (wend_ret (vres1 (rv_tmp rfl)) rfl)
 | true =>
  have hd := (ndD_ndB hok hm).1
  have h24 := (ndD_ndB hok hm).2
  have h3 := ndB_len n hm
  have h32 := hsN_32 hok
  have hnl := hsN_len n
  rw [hok.kids] at hnl
  apply p_callY []; exact (vwant_n rfl); iterate 4 exact rfl
  case hC => exact (fun hp' hs ht => nencode_ok hm hs.ok (hn.mono fun A c o cs h => h.give0 hs))
  rintro u N ⟨u3, rfl, hu3⟩
  obtain ⟨b3, o3, oo3, rfl, rfl⟩ := hu3.got (by omega)
  rw [List.singleton_append]
  have hSb : Sn [(some b3, VO.cells ((ndB n).map byV) 5 oo3 false)] (some (b3, 0)) ((ndB n).map byV) := Sn.own (List.mem_singleton.2 rfl) (take_all _)
  generalize hm6 : (hsN n).length = m6
  refine wo ?_
  refine p_callq (vwant_n rfl) rfl rfl rfl rfl (fun hp' hs => num_d hs.ok) ?_
  apply wm; iterate 5 exact rfl
  refine mv_int (v := .b false) rfl rfl (vi_neqF ((by simp)))
  refine wo ?_
  apply p_op; exact (vwant_n rfl); iterate 4 exact rfl
  refine e_b2sZ (xs := ndB n) rfl (rz_loc (b := b3) (k := (ndB n).length) (all_take _ (by simp))) ⟨_, rfl, ?_⟩
  refine wo ?_
  apply p_callY []; exact (vwant_n rfl); iterate 4 exact rfl
  case hC => exact (fun hp' hs ht => nhashes_ok hd hs.ok (rb_own0 hs (i := 0) rfl (all_take _ (by simp))) (Nat.le_refl _))
  rintro u N6 ⟨u6, rfl, hu6⟩
  have hsl6 : ∃ A op, u6 = .sl A m6 m6 op := hm6 ▸ hu6.row.sl
  obtain ⟨A6, o6, rfl⟩ := hsl6
  refine wOS0 ?_
  refine w_cutE (ι := V × HV) (fun s => [(8, s.1), (6, .sl A6 m6 m6 o6), (5, .s (ndB n)), (3, .sl (some (b3, 0)) (ndB n).length (ndB n).length o3), (1, .p (some (b1, 0)))]) (fun s => s.2 ++ (N6 ++ [(some b3, VO.cells ((ndB n).map byV) 5 oo3 false), (some b1, cellsO w 29)])) (fun s => RowG 24 32 m6 (hsC (hsN n)) s.1 s.2) ?_ ?_
  ·refine wo ?_
   apply p_op; exact (vwant_n rfl); iterate 4 exact rfl
   refine e_bsn (C := []) (n := 0) (sz := 32) rfl rfl (by decide) .nil rfl rfl fun bl => ⟨_, rfl, ?_⟩
   refine wo ?_
   rcases hu6.got with ⟨hz, he⟩ | ⟨hpos, b6, op6, oo6, he, rfl, hl6⟩
   ·have : m6 = 0 := by rw [← hm6, hz]; rfl
    subst this
    obtain ⟨rfl, rfl⟩ : A6 = none ∧ o6 = false := by simpa using he
    apply p_op; exact (vwant_n rfl); iterate 4 exact rfl
    refine e_appZ (m := 0) (by decide) rfl rfl ⟨_, rfl, ?_⟩
    refine wo ?_
    exact ⟨(.sl (some (bl, 0)) 0 0 false, [(some bl, cellsO [] 24)]), by rw [hz]; exact RowG.lit rfl, rfl, ⟨rfl, rfl, rfl, rfl, rfl, trivial⟩, fun hp h => h.le⟩
   ·rw [hm6] at he hpos hl6
    obtain ⟨rfl, rfl⟩ : A6 = some (b6, 0) ∧ o6 = op6 := by simpa using he
    apply p_op; exact (vwant_n rfl); iterate 4 exact rfl
    refine e_appN (n := m6) (RowG.lit (e := 24) (sz := 32) (n := 0) (C := []) rfl) rfl rfl (rz_loc (b := b6) (k := m6 * 32) (all_take _ hl6)) hl6 hpos (by omega) fun A8 o8 N8 hw8 => ⟨_, rfl, ?_⟩
    refine wo ?_
    refine ⟨(.sl A8 (0 + m6) (0 + m6) o8, N8), ?_, rfl, ⟨rfl, rfl, rfl, rfl, rfl, trivial⟩, fun hp h => h.le⟩
    dsimp only
    rw [List.nil_append, Nat.zero_add] at hw8
    rw [Nat.zero_add]
    exact hw8
  rintro ⟨u8, N8⟩ h8
  dsimp only at h8 ⊢
  obtain ⟨A8, o8, rfl⟩ := h8.sl
  refine wo ?_
  apply p_callY []; exact (vwant_n rfl); iterate 4 exact rfl
  case hC => exact (fun hp' hs ht => ndecode_own hd hs.ok (hSb _ _ [] _ hs fun p hp => by rw [List.mem_singleton.1 hp]; simp) (Nat.le_refl _))
  rintro u N ⟨w9, M9, R9, rfl, rfl, hk9⟩
  have hw9 := hk9.p (X := M9) fun p hp => hp
  have hw9l := hw9.len
  obtain ⟨ss, hssl, hssr, hL⟩ := lists_k hk9 hm
  refine wo ?_
  apply p_op; exact (vwant_n rfl); iterate 4 exact rfl
  refine e_alloc (zc := zNC) (by kernel_rfl) fun b9 => ⟨_, rfl, ?_⟩
  apply p_do; exact (vwant_n rfl); exact rfl; exact rfl
  refine e_stn (C' := w9) rfl rfl (ne_of_len hw9l (by decide)) hw9l (Nat.le_of_eq zNC_len.symm) (overV_all (hw9l.trans zNC_len.symm)) ⟨_, rfl, ?_⟩
  refine wo ?_
  apply p_callY []; exact (vwant_n rfl); iterate 4 exact rfl
  case hC => exact (fun hp' hs ht => ndecode_ok hd hs.ok (hSb _ _ [] _ hs fun p hp => by rw [List.mem_singleton.1 hp]; simp) (Nat.le_refl _))
  rintro u N11 ⟨w11, rfl, hw11⟩
  have hw11l := hw11.len
  refine wo ?_
  apply p_op; exact (vwant_n rfl); iterate 4 exact rfl
  refine e_alloc (zc := zNC) (by kernel_rfl) fun b11 => ⟨_, rfl, ?_⟩
  apply p_do; exact (vwant_n rfl); exact rfl; exact rfl
  refine e_stn (C' := w11) rfl rfl (ne_of_len hw11l (by decide)) hw11l (Nat.le_of_eq zNC_len.symm) (overV_all (hw11l.trans zNC_len.symm)) ⟨_, rfl, ?_⟩
  refine wo ?_
  refine p_callq (vwant_n rfl) rfl rfl rfl rfl (fun hp' hs => num_d hs.ok) ?_
  apply wm; iterate 5 exact rfl
  refine mv_int (v := .b false) rfl rfl (vi_neqF ((by simp)))
  refine wo ?_
  refine p_callq (vwant_g rfl rfl rfl) rfl rfl rfl rfl (fun hp' hs => num_d hs.ok) ?_
  apply wmg; iterate 7 exact rfl
  refine mv_int (v := .b false) rfl rfl (vi_neqF ((by simp)))
  refine wo ?_
  refine zX (m_ldln (s := 581) (cs := w9) rfl (all_take _ hw9l) hw9l) ?_
  refine zX (m_ldln (s := 581) (cs := w11) rfl (all_take _ hw11l) hw11l) ?_
  refine p_callq (vwant_g rfl rfl rfl) rfl rfl rfl rfl (fun hp' hs => nsame_d hs.ok hw9 hw11 (fun A c o cs h => h _ _ [] _ hs fun p hp => by simp [hp]) (fun A c o cs h => h _ _ [] _ hs fun p hp => by simp [hp])) ?_
  rw [sameN_t rfl]
  refine wo ?_
  refine zX (m_ldln (s := 581) (cs := w9) rfl (all_take _ hw9l) hw9l) ?_
  apply p_callY []; exact (vwant_n rfl); iterate 4 exact rfl
  case hC => exact (fun hp' hs ht => nencode_ok hm hs.ok (hw9.mono fun A c o cs h => h _ _ [] _ hs fun p hp => by simp [hp]))
  rintro u N13 ⟨u13, rfl, hu13⟩
  have hrows := hssr.app (RowsK.one hu13 (by omega))
  obtain ⟨A13, o13, rfl⟩ := hu13.sl
  refine wOS0 ?_
  refine w_heap (L' := (M9 ++ N13) ++ ((some b9, cellsO w9 29) :: (some b11, cellsO w11 29) :: (N11 ++ (N8 ++ (N6 ++ [(some b3, VO.cells ((ndB n).map byV) 5 oo3 false), (some b1, cellsO w 29)]))))) ?_ ?_
  ·intro hp' h
   exact h.le
  generalize M9 ++ N13 = X at hrows ⊢
  refine wo ?_
  refine zX (m_ldln (s := 581) (cs := w9) rfl (all_take _ hw9l) hw9l) ?_
  apply p_callY []; exact (vwant_n rfl); iterate 4 exact rfl
  case hC => exact (fun hp' hs ht => hL _ hs.ok)
  rintro u14 N14 hu14
  refine wo ?_
  apply p_op; exact (vwant_n rfl); iterate 4 exact rfl
  refine e_bsn (C := [.sl A13 (ndB n).length (ndB n).length o13]) (n := 1) (sz := 1) rfl rfl (by decide) (.cons rfl rfl rfl .nil) rfl rfl fun b15 => ⟨_, rfl, ?_⟩
  obtain ⟨A14, o14, rfl⟩ := hu14.sl
  apply p_op; exact (vwant_n rfl); iterate 4 exact rfl
  refine e_appN (n := 1) hu14 rfl rfl (rz_loc (b := b15) (k := 1) rfl) rfl (by decide) (by omega) fun A16 o16 N16 hw16 => ⟨_, rfl, ?_⟩
  obtain ⟨b16, op16, oo16, he, rfl, hop, _⟩ := hw16.gotL (by decide)
  obtain ⟨rfl, rfl⟩ : A16 = some (b16, 0) ∧ o16 = op16 := by simpa using he
  rw [List.singleton_append]
  refine wo ?_
  apply p_callM (X); exact (vwant_n rfl); iterate 4 exact rfl
  case hC => exact (fun hp' hs ht => apartO_d ht hs hop hrows (by rw [List.length_append, hssl]; rfl) (by decide))
  rintro u N ⟨rfl, rfl⟩
  refine wo ?_
  apply p_op; exact (vwant_g rfl rfl rfl); iterate 4 exact rfl
  refine e_b2sZ (xs := ndB n) rfl (rz_loc (b := b3) (k := (ndB n).length) (all_take _ (by simp))) ⟨_, rfl, ?_⟩
  refine wo ?_
  apply wmg; iterate 7 exact rfl
  refine m_neqs rfl rfl
  rw [beq_self_eq_true, Bool.not_true]
  refine wo ?_
  refine zX (m_ldln (s := 581) (cs := w11) rfl (all_take _ hw11l) hw11l) ?_
  refine zX (m_ldln (s := 581) (cs := w) rfl (all_take _ hwl) hwl) ?_
  refine p_callq (vwant_g rfl rfl rfl) rfl rfl rfl rfl (fun hp' hs => nsame_d hs.ok hw11 hn (fun A c o cs h => h _ _ [] _ hs fun p hp => by simp [hp]) (fun A c o cs h => h.give0 hs)) ?_
  rw [sameN_t rfl]
  refine wOS0 ?_
  refine w_cutE (ι := Unit) (fun s => [(11, .p (some (b11, 0))), (8, .sl A8 m6 m6 o8), (5, .s (ndB n)), (3, .sl (some (b3, 0)) (ndB n).length (ndB n).length o3)]) (fun s => (some b11, cellsO w11 29) :: (N11 ++ (N8 ++ [(some b3, VO.cells ((ndB n).map byV) 5 oo3 false)]))) (fun s => True) ?_ ?_
  ·refine wo ?_
   iterate 4 ((try refine w_seq ?_); refine wo ?_)
   rcases hu6.got with ⟨hz, he⟩ | ⟨hpos, b6, op6, oo6, he, rfl, hl6⟩
   ·have : m6 = 0 := by rw [← hm6, hz]; rfl
    subst this
    refine w_loop (ι := Unit) (fun s => [(89, .i .i64 ((0 : Nat) : Int)), (88, .i .i64 ((0 : Nat) : Int)), (11, .p (some (b11, 0))), (8, .sl A8 0 0 o8), (5, .s (ndB n)), (3, .sl (some (b3, 0)) (ndB n).length (ndB n).length o3)]) (fun s => (some b11, cellsO w11 29) :: (N11 ++ (N8 ++ [(some b3, VO.cells ((ndB n).map byV) 5 oo3 false)]))) (fun s => True) (fun s => 0) () trivial ⟨rfl, rfl, rfl, rfl, rfl, rfl, trivial⟩ (fun hp h => h.le) ?_
    intro _ _
    refine wo ?_
    apply wm; iterate 5 exact rfl
    refine mv_int (v := .b false) rfl rfl (vi_lssF (by omega))
    refine wo ?_
    exact w_exit ⟨(), trivial, rfl, ⟨rfl, rfl, rfl, rfl, trivial⟩, fun hp h => h⟩
   ·rw [hm6] at he hpos hl6
    obtain ⟨rfl, rfl⟩ : A6 = some (b6, 0) ∧ o6 = op6 := by simpa using he
    refine w_loop (ι := Nat × List V) (fun s => [(89, .i .i64 (s.1 : Nat)), (88, .i .i64 (m6 : Nat)), (6, .sl (some (b6, 0)) m6 m6 o6), (11, .p (some (b11, 0))), (8, .sl A8 m6 m6 o8), (5, .s (ndB n)), (3, .sl (some (b3, 0)) (ndB n).length (ndB n).length o3)]) (fun s => (some b6, .cells s.2 24 oo6 false) :: (some b11, cellsO w11 29) :: (N11 ++ (N8 ++ [(some b3, VO.cells ((ndB n).map byV) 5 oo3 false)]))) (fun s => s.1 ≤ m6 ∧ s.2.length = m6 * 32) (fun s => m6 - s.1) (0, hsC (hsN n)) ⟨Nat.zero_le _, hl6⟩ ⟨rfl, rfl, rfl, rfl, rfl, rfl, rfl, trivial⟩ (fun hp h => h.le) ?_
    intro ⟨i, C⟩ ⟨hi, hC⟩
    dsimp only at hi hC ⊢
    refine wo ?_
    by_cases g : i < m6
    ·have hfit : i * 32 + 32 ≤ C.length := by rw [hC]; omega
     apply wm; iterate 5 exact rfl
     refine mv_int (v := .b true) rfl rfl (vi_lssT (by omega))
     refine wo ?_
     apply wn; iterate 5 exact rfl
     refine p_buildAB (C := putAllV ((List.replicate 32 (0 : UInt8)).map byV) [(0, [byV 1]), (1, [byV 2]), (2, [byV 3])]) (.cons rfl rfl rfl rfl (Nat.le_of_ble_eq_true rfl) (.cons rfl rfl rfl rfl (Nat.le_of_ble_eq_true rfl) (.cons rfl rfl rfl rfl (Nat.le_of_ble_eq_true rfl) .nil))) rfl
     apply wn; iterate 5 exact rfl
     refine p_ian (i := i) rfl rfl g
     apply p_do; exact (vwant_n rfl); exact rfl; exact rfl
     refine e_stn (s := 32) (C' := overV C (0 + i * 32) (putAllV ((List.replicate 32 (0 : UInt8)).map byV) [(0, [byV 1]), (1, [byV 2]), (2, [byV 3])])) rfl rfl (List.cons_ne_nil _ _) rfl (by omega) rfl ⟨_, rfl, ?_⟩
     refine wo ?_
     refine ⟨rfl, (i + 1, overV C (0 + i * 32) (putAllV ((List.replicate 32 (0 : UInt8)).map byV) [(0, [byV 1]), (1, [byV 2]), (2, [byV 3])])), ⟨g, ?_⟩, by dsimp only; omega, ⟨rfl, rfl, rfl, rfl, rfl, rfl, rfl, trivial⟩, fun hp h => h.le⟩
     dsimp only
     rw [overV_same (show 0 + i * 32 + 32 ≤ C.length by omega)]
     exact hC
    apply wm; iterate 5 exact rfl
    refine mv_int (v := .b false) rfl rfl (vi_lssF (by omega))
    refine wo ?_
    exact w_exit ⟨(), trivial, rfl, ⟨rfl, rfl, rfl, rfl, trivial⟩, fun hp h => h.le⟩
  intro _ _
  refine wo ?_
  apply p_callY []; exact (vwant_n rfl); iterate 4 exact rfl
  case hC => exact (fun hp' hs ht => nhashes_ok hd hs.ok (hSb _ _ [] _ hs fun p hp => by rw [List.mem_singleton.1 hp]; simp) (Nat.le_refl _))
  rintro u N20 ⟨u20, rfl, hu20⟩
  have hsl20 : ∃ A op, u20 = .sl A (hsN n).length (hsN n).length op := hu20.row.sl
  obtain ⟨A20, o20, rfl⟩ := hsl20
  refine wo ?_
  refine zX (m_ldln (s := 581) (cs := w11) rfl (all_take _ hw11l) hw11l) ?_
  apply p_callY []; exact (vwant_n rfl); iterate 4 exact rfl
  case hC => exact (fun hp' hs ht => nencode_ok hm hs.ok (hw11.mono fun A c o cs h => h _ _ [] _ hs fun p hp => by simp [hp]))
  rintro u N21 ⟨u21, rfl, hu21⟩
  obtain ⟨A21, o21, rfl⟩ := hu21.sl
  subst hm6
  refine wo ?_
  refine p_callq (vwant_n rfl) rfl rfl rfl rfl (fun hp' hs => samehs_d (hs := hsN n) hs.ok (hu20.row.rb0 hs) (h8.rb0 hs) h32 (by omega)) ?_
  refine wo ?_
  apply p_op; exact (vwant_g rfl rfl rfl); iterate 4 exact rfl
  refine e_b2sZ (xs := ndB n) rfl hu21.src ⟨_, rfl, ?_⟩
  refine wo ?_
  apply wmg; iterate 7 exact rfl
  refine m_eqs rfl rfl
  rw [beq_self_eq_true]
  refine wo ?_
  refine p_callq (vwant_g rfl rfl rfl) rfl rfl rfl rfl (fun hp' hs => nknown_d hs.ok) ?_
  refine wo ?_
  exact w_ret (wend_ret (vres1 (rv_tmp rfl)) rfl)
end Go.Proofs.Ytabpegdalmagpaa
namespace Go.Proofs.Ytabpegdalmagpaa
open Go.ChangeShapes Go.WideShapes Go.ChangeAt Go.RowKit Go.Extern.Stop
set_option maxRecDepth 100000 in
theorem naContract (H : Type) (enc : TypeId × Value → H) (W : World) (base : Nat) (args : Array Value) (ds gs : List (DataW H)) (before : List MemPlace)
  (hval : ∀ (j : Nat) t v, Try.f7.params[j]? = some t → args[j]? = some v → Value.okWide Try.prog W .any base t v)
  (hW : DataW.Whole enc Try.prog Try.f7.params.toList Rows.nodeApartSpec.vars false W args.toList ds gs before) (hz : (DataW.weightsEach Try.prog (Try.f7.params.toList ++ Rows.nodeApartSpec.plain.varTypes Try.prog) (ds ++ gs)).all (· ≤ reachBytes) = true) :
  Calls Try.prog 7 args W fun e W' => ∃ v, e = .returned v ∧ Rows.nodeApartSpec.post enc Try.prog Try.f7 false true false false W args v W' := by
 have hW' := hW
 obtain ⟨p, q, hA0, hV, rfl, hfz, hnd⟩ := hW
 have hA : DataW.TrodAll enc Try.prog W 0 (fun _ => true) true Try.f7.params.toList args.toList ds p := hA0
 rw [Try.params7] at hA hval hz
 obtain ⟨v0, vs0, d0, ds0, p0, q0, e0, rfl, rfl, h0, r0⟩ := trodAll_cons hA
 obtain ⟨rfl, rfl⟩ := trodAll_nil r0
 obtain rfl : args = #[v0] := by cases args; simp_all
 obtain ⟨rfl, rfl⟩ := trodVars_none hV
 simp only [List.cons_append, List.nil_append, DataW.weightsEach, List.all_append, List.all_nil, List.append_nil, Bool.and_eq_true] at hz
 obtain ⟨e, rfl, hE⟩ := open_node (t := 29) (hval 0 _ v0 rfl rfl) h0 hz.1
 have hG0 : AtG e.g 0 e.g := AtG.zero
 have hb : ∀ x ∈ e.g, GvOk W (gvE e.g) x := fun x hx => nod_gv hE x hx
 have hargs : renL (gvE e.g) [.agg (nodV 0 e)] = some [.agg e.cells.toArray] := by
  have r0 := nod_ren1 hE hG0
  simp only [renL, r0, Option.bind_some, Option.map_some]
 have hro := fun (j : Nat) (x : GV) (hj : e.g[j]? = some x) => gv_ro (gs := []) no_g no_nb hb hj
 refine (gv_law (gs := []) no_g no_nb hb kxD_ok hargs (apartlaw_d (gv_okH no_g no_nb hb) (nod_p hro hE hG0))).mono ?_
 rintro e W' ⟨rfl, hb⟩
 exact ⟨_, rfl, law_post hW' nLaidOut (by kernel_rfl) rfl (by kernel_rfl) rfl rfl rfl rfl hb⟩
set_option maxRecDepth 100000 in
theorem naLifted (os : Os) (started : os.Started) (H : Type) (enc : TypeId × Value → H) :
  ReturnsInHanded {} Try.checked os 7 .any (Rows.nodeApartSpec.pre6 enc Try.prog Try.f7 Rows.nodeApartRow.domain false) (Rows.nodeApartSpec.post enc Try.prog Try.f7 false true false false) := by
 refine returnsInHanded_of_change_sized (C := Try.checked) (s := Rows.nodeApartSpec) nOwn started (by kernel_rfl) Try.func7
  (ChangeSpec.witness6 (enc := enc) (C := Try.checked) (s := Rows.nodeApartSpec) false ⟨#[], #[zNodeV], []⟩ 8 (by kernel_rfl) (by kernel_rfl) (by kernel_rfl) (by kernel_rfl)) ?_
 intro W base args ds gs before hval hW _ hz _
 exact naContract H enc W base args ds gs before hval hW hz
theorem NodeApart_holds : Rows.NodeApartSaid :=
 OpenClaim.holds_of_wide 7 Try.f7 rfl rfl rfl rfl rfl rfl rfl ⟨rfl, rfl, rfl, rfl, rfl⟩ rfl rfl rfl rfl rfl (by kernel_rfl) Try.func7 (by kernel_rfl)
  (of_decide_eq_true (by kernel_rfl)) (by unfold Func.isWrapper; rw [if_neg (of_decide_eq_false (by kernel_rfl))]; exact ⟨rfl, rfl⟩)
  (fun os started H enc _ => naLifted os started H enc)
#print axioms NodeApart_holds
end Go.Proofs.Ytabpegdalmagpaa
