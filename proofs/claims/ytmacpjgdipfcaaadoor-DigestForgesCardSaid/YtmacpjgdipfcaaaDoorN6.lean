/- THE LAW DigestForges. Conditions: the tables of sha hold what their text lays (the card ties it). -/
import Derived.Test.YtmacpjgdipfcaaaDoorN5
import Derived.Test.YtmacpjgdipfcaaaDoorCards
import Derived.Test.YtmacpjgdipfcaaaDoorTie
import Derived.SizedLaws
import Derived.JoinedOf
set_option linter.unusedVariables false
set_option linter.unusedSectionVars false
set_option linter.unusedSimpArgs false
/- Ds14: a new book. By this project. -/
set_option maxRecDepth 100000
namespace Go.Proofs.YtmacpjgdipfcaaaDoor
open Go.RowKit Go.Extern.Stop

theorem clone_d {A : Option (Nat × Nat)} {xs : List UInt8} {c : Nat} {op : Bool} {hp : Hp} (ho : OkH hp) (hA : RB ⟨hp, []⟩ A (xs.map byV)) (h0 : 0 < xs.length) (h1 : xs.length ≤ 1073741824) :
    Fn kxD 16 [.sl A xs.length c op] hp [] fun r N => ∃ u, r = .v u ∧ ∃ b, u = .sl (some (b, 0)) xs.length xs.length true ∧ N = [(some b, .cells (xs.map byV) 5 (some 1) false)] := by
  refine Fn.drop ?_
  obtain ⟨b, o, rfl⟩ : ∃ b o, A = some (b, o) := by
    cases hq : xs.map byV with
    | nil => have := congrArg List.length hq; simp at this; rw [this] at h0; simp at h0
    | cons v r => exact rv_some (by rw [← hq]; exact hA.1.rv)
  refine fn_of_w (T := []) ho.sv (fun _ => rfl) (fn := Tryd.f16) (by kernel_rfl) rfl rfl ?_
  refine wo ?_
  first | (apply wm; iterate 5 exact rfl) | (apply dm; iterate 6 exact rfl) | (apply wmg; iterate 7 exact rfl) | (apply dmg; iterate 8 exact rfl)
  refine m_eqsl rfl rfl
  refine wo ?_
  first | (apply p_op; exact (vwant_n rfl); iterate 4 exact rfl) | (apply d_op; exact (vwant_n rfl); exact rfl; exact noRd rfl; decide +kernel; (iterate 3 exact rfl); rotate_left) | (apply p_op; exact (vwant_g rfl rfl rfl); iterate 4 exact rfl) | (apply d_op; exact (vwant_g rfl rfl rfl); exact rfl; exact noRd rfl; decide +kernel; (iterate 3 exact rfl); rotate_left)
  refine e_bs (C := []) rfl rfl .nil rfl fun bn => ⟨_, rfl, ?_⟩
  try (case hok => first | exact rdOk_nil | exact rdOk_b (by decide +kernel))
  refine wo ?_
  first | (apply p_op; exact (vwant_n rfl); iterate 4 exact rfl) | (apply d_op; exact (vwant_n rfl); exact rfl; exact noRd rfl; decide +kernel; (iterate 3 exact rfl); rotate_left) | (apply p_op; exact (vwant_g rfl rfl rfl); iterate 4 exact rfl) | (apply d_op; exact (vwant_g rfl rfl rfl); exact rfl; exact noRd rfl; decide +kernel; (iterate 3 exact rfl); rotate_left)
  refine e_appG (old := []) (new := xs.map byV) rfl rfl (rz_loc (k := 0) rfl) rfl hA.z (by simp) (by omega) (by omega) fun bg => ⟨_, rfl, ?_⟩
  try (case hok => first | exact rdOk_nil | exact rdOk_b (by decide +kernel))
  refine wo ?_
  refine w_heap (L' := [_, _]) (fun hp h => h.pick [1, 0] _ rfl (by decide)) ?_
  rw [Nat.zero_add]
  exact w_ret (wend_ret (vres1 (rv_tmp rfl)) ⟨[_], _, rfl, _, rfl, bg, rfl, rfl⟩)
theorem begin_d {hp : Hp} (ho : OkH hp) :
    Fn kxD 17 [] hp [] fun r N => ∃ u, r = .v u ∧ ∃ a s, u = .agg [.m (some s), .m (some a)] ∧ N = ntL ⟨a, s, [], []⟩ := by
  refine Fn.drop ?_
  refine fn_of_w (T := []) ho.sv (fun _ => rfl) (fn := Tryd.f17) (by kernel_rfl) rfl rfl ?_
  refine wo ?_
  first | (apply p_op; exact (vwant_n rfl); iterate 4 exact rfl) | (apply d_op; exact (vwant_n rfl); exact rfl; exact noRd rfl; decide +kernel; (iterate 3 exact rfl); rotate_left) | (apply p_op; exact (vwant_g rfl rfl rfl); iterate 4 exact rfl) | (apply d_op; exact (vwant_g rfl rfl rfl); exact rfl; exact noRd rfl; decide +kernel; (iterate 3 exact rfl); rotate_left)
  refine e_alloc rfl fun bo => ⟨_, rfl, ?_⟩
  try (case hok => first | exact rdOk_nil | exact rdOk_b (by decide +kernel))
  refine wo ?_
  first | (apply p_op; exact (vwant_n rfl); iterate 4 exact rfl) | (apply d_op; exact (vwant_n rfl); exact rfl; exact noRd rfl; decide +kernel; (iterate 3 exact rfl); rotate_left) | (apply p_op; exact (vwant_g rfl rfl rfl); iterate 4 exact rfl) | (apply d_op; exact (vwant_g rfl rfl rfl); exact rfl; exact noRd rfl; decide +kernel; (iterate 3 exact rfl); rotate_left)
  refine ev_mkmap fun s => ⟨_, rfl, ?_⟩
  try (case hok => first | exact rdOk_nil | exact rdOk_b (by decide +kernel))
  first | (apply p_op; exact (vwant_n rfl); iterate 4 exact rfl) | (apply d_op; exact (vwant_n rfl); exact rfl; exact noRd rfl; decide +kernel; (iterate 3 exact rfl); rotate_left) | (apply p_op; exact (vwant_g rfl rfl rfl); iterate 4 exact rfl) | (apply d_op; exact (vwant_g rfl rfl rfl); exact rfl; exact noRd rfl; decide +kernel; (iterate 3 exact rfl); rotate_left)
  refine ev_mkmap fun a => ⟨_, rfl, ?_⟩
  try (case hok => first | exact rdOk_nil | exact rdOk_b (by decide +kernel))
  first | (apply wn; iterate 5 exact rfl) | (apply dn; iterate 5 exact rfl) | (apply wg; iterate 7 exact rfl) | (apply dg; iterate 7 exact rfl)
  refine p_buildS (C := [.m (some s), .m (some a)]) (.cons rfl rfl rfl rfl (Nat.le_of_ble_eq_true rfl) (.cons rfl rfl rfl rfl (Nat.le_of_ble_eq_true rfl) .nil)) rfl
  first | (apply p_do; exact (vwant_n rfl); exact rfl; exact rfl) | (apply d_do; exact (vwant_n rfl); exact rfl; exact noRd rfl; decide +kernel; exact rfl; rotate_left) | (apply p_do; exact (vwant_g rfl rfl rfl); exact rfl; exact rfl) | (apply d_do; exact (vwant_g rfl rfl rfl); exact rfl; exact noRd rfl; decide +kernel; exact rfl; rotate_left)
  refine e_stn (C' := [.m (some s), .m (some a)]) rfl rfl (by simp) rfl (by simp) rfl ⟨_, rfl, ?_⟩
  try (case hok => first | exact rdOk_nil | exact rdOk_b (by decide +kernel))
  refine wo ?_
  refine w_heap (L' := [_, _, _]) (fun hp h => h.pick [2, 0, 1] _ rfl (by decide)) ?_
  exact w_ret (wend_ret (vres1 (rv_cell rfl rfl)) ⟨[_], _, rfl, _, rfl, a, s, rfl, rfl⟩)
set_option maxHeartbeats 8000000 in
theorem new_d {A : Option (Nat × Nat)} {xs : List UInt8} {bits cb c : Nat} {op : Bool} {hp : Hp} (ho : OkH hp) (hA : RB ⟨hp, []⟩ A (xs.map byV)) (hx : xs.length = 32) (b1 : 8 ≤ bits) (b2 : bits ≤ 256) (c1 : 8 ≤ cb) (c2 : cb ≤ 256) :
    Fn kxD 7 [.i .i64 (bits : Int), .i .i64 (cb : Int), .sl A xs.length c op] hp [] fun r N => ∃ u, r = .v u ∧ ∃ b z ha hs ca cs fg, u = .tup [.p (some (b, 0)), .i .i64 0] ∧ N = bkL ⟨b, z, bits, cb, xs, ⟨ha, hs, [], []⟩, ⟨ca, cs, [], []⟩, fg, []⟩ := by
  refine fn_of_w (T := []) ho.sv (fun _ => rfl) (fn := Tryd.f7) (by kernel_rfl) rfl rfl ?_
  refine wo ?_
  first | (apply wm; iterate 5 exact rfl) | (apply dm; iterate 6 exact rfl) | (apply wmg; iterate 7 exact rfl) | (apply dmg; iterate 8 exact rfl)
  refine mv_int (v := .b false) rfl rfl (vi_lssF (by omega))
  refine wo ?_
  first | (apply wm; iterate 5 exact rfl) | (apply dm; iterate 6 exact rfl) | (apply wmg; iterate 7 exact rfl) | (apply dmg; iterate 8 exact rfl)
  refine mv_int (v := .b false) rfl rfl (vi_gtrF (by omega))
  refine wo ?_
  first | (apply wm; iterate 5 exact rfl) | (apply dm; iterate 6 exact rfl) | (apply wmg; iterate 7 exact rfl) | (apply dmg; iterate 8 exact rfl)
  refine mv_int (v := .b false) rfl rfl (vi_lssF (by omega))
  refine wo ?_
  first | (apply wm; iterate 5 exact rfl) | (apply dm; iterate 6 exact rfl) | (apply wmg; iterate 7 exact rfl) | (apply dmg; iterate 8 exact rfl)
  refine mv_int (v := .b false) rfl rfl (vi_gtrF (by omega))
  refine wo ?_
  first | (apply wm; iterate 5 exact rfl) | (apply dm; iterate 6 exact rfl) | (apply wmg; iterate 7 exact rfl) | (apply dmg; iterate 8 exact rfl)
  refine mv_int (v := .b false) rfl rfl (vi_neqF (by omega))
  refine wo ?_
  first | (apply p_callY []; exact (vwant_n rfl); iterate 4 exact rfl) | (apply d_callY []; exact (vwant_n rfl); decide +kernel; (iterate 4 exact rfl)) | (apply p_callY []; exact (vwant_g rfl rfl rfl); iterate 4 exact rfl) | (apply d_callY []; exact (vwant_g rfl rfl rfl); decide +kernel; (iterate 4 exact rfl))
  try (case hok => first | exact rdOk_nil | exact rdOk_b (by decide +kernel) | exact rdOk_c)
  case hC => exact (fun hp hs ht => clone_d hs.ok (hA.give0 hs) (by omega) (by omega))
  rintro u N ⟨z, rfl, rfl⟩
  refine wo ?_
  first | (apply p_callY []; exact (vwant_n rfl); iterate 4 exact rfl) | (apply d_callY []; exact (vwant_n rfl); decide +kernel; (iterate 4 exact rfl)) | (apply p_callY []; exact (vwant_g rfl rfl rfl); iterate 4 exact rfl) | (apply d_callY []; exact (vwant_g rfl rfl rfl); decide +kernel; (iterate 4 exact rfl))
  try (case hok => first | exact rdOk_nil | exact rdOk_b (by decide +kernel) | exact rdOk_c)
  case hC => exact (fun hp hs ht => begin_d hs.ok)
  rintro u N ⟨ha, hs, rfl, rfl⟩
  refine wo ?_
  first | (apply p_callY []; exact (vwant_n rfl); iterate 4 exact rfl) | (apply d_callY []; exact (vwant_n rfl); decide +kernel; (iterate 4 exact rfl)) | (apply p_callY []; exact (vwant_g rfl rfl rfl); iterate 4 exact rfl) | (apply d_callY []; exact (vwant_g rfl rfl rfl); decide +kernel; (iterate 4 exact rfl))
  try (case hok => first | exact rdOk_nil | exact rdOk_b (by decide +kernel) | exact rdOk_c)
  case hC => exact (fun hp hs ht => begin_d hs.ok)
  rintro u N ⟨ca, cs, rfl, rfl⟩
  refine wo ?_
  first | (apply p_op; exact (vwant_n rfl); iterate 4 exact rfl) | (apply d_op; exact (vwant_n rfl); exact rfl; exact noRd rfl; decide +kernel; (iterate 3 exact rfl); rotate_left) | (apply p_op; exact (vwant_g rfl rfl rfl); iterate 4 exact rfl) | (apply d_op; exact (vwant_g rfl rfl rfl); exact rfl; exact noRd rfl; decide +kernel; (iterate 3 exact rfl); rotate_left)
  refine ev_mkmap fun fg => ⟨_, rfl, ?_⟩
  try (case hok => first | exact rdOk_nil | exact rdOk_b (by decide +kernel))
  first | (apply wn; iterate 5 exact rfl) | (apply dn; iterate 5 exact rfl) | (apply wg; iterate 7 exact rfl) | (apply dg; iterate 7 exact rfl)
  refine p_buildS (C := bkC ⟨0, z, bits, cb, xs, ⟨ha, hs, [], []⟩, ⟨ca, cs, [], []⟩, fg, []⟩ 0) (.cons rfl rfl rfl rfl (Nat.le_of_ble_eq_true rfl) (.cons rfl rfl rfl rfl (Nat.le_of_ble_eq_true rfl) (.cons rfl rfl rfl rfl (Nat.le_of_ble_eq_true rfl) (.cons rfl rfl rfl rfl (Nat.le_of_ble_eq_true rfl) (.cons rfl rfl rfl rfl (Nat.le_of_ble_eq_true rfl) (.cons rfl rfl rfl rfl (Nat.le_of_ble_eq_true rfl) .nil)))))) rfl
  first | (apply p_op; exact (vwant_n rfl); iterate 4 exact rfl) | (apply d_op; exact (vwant_n rfl); exact rfl; exact noRd rfl; decide +kernel; (iterate 3 exact rfl); rotate_left) | (apply p_op; exact (vwant_g rfl rfl rfl); iterate 4 exact rfl) | (apply d_op; exact (vwant_g rfl rfl rfl); exact rfl; exact noRd rfl; decide +kernel; (iterate 3 exact rfl); rotate_left)
  refine ev_box rfl rfl fun b => ⟨_, rfl, ?_⟩
  try (case hok => first | exact rdOk_nil | exact rdOk_b (by decide +kernel))
  refine wo ?_
  refine w_heap (L' := [_, _, _, _, _, _, _]) (fun hp h => h.pick [0, 6, 1, 4, 5, 2, 3] _ rfl (by decide)) ?_
  exact w_ret (wend_ret (vres2 (rv_tmp rfl) (rv_tmp rfl)) ⟨_, rfl, b, z, ha, hs, ca, cs, fg, rfl, rfl⟩)
theorem new_ok {b z bits cb ha hs ca cs fg : Nat} {xs : List UInt8} (hx : xs.length = 32) (b2 : bits ≤ 256) (c2 : cb ≤ 256) : BkOk ⟨b, z, bits, cb, xs, ⟨ha, hs, [], []⟩, ⟨ca, cs, [], []⟩, fg, []⟩ :=
  ⟨hx, b2, c2, nt0 _ _ _, nt0 _ _ _, by simp, by simp⟩
end Go.Proofs.YtmacpjgdipfcaaaDoor
/- Ds15: a book's Forgeries, where there is none, where there is one. By this project. -/
set_option maxRecDepth 100000
namespace Go.Proofs.YtmacpjgdipfcaaaDoor
open Go.RowKit Go.Extern.Stop

theorem srtf0 (k : Nat) (hp : Hp) : vcall vC kxD.ext kxD.extd (k + 40) 25 [.sl none 0 0 false, .fn 26 [] []] hp = some (.v (.tup []), hp) := by kernel_rfl
theorem srtf1 (k b : Nat) (hp : Hp) : vcall vC kxD.ext kxD.extd (k + 40) 25 [.sl (some (b, 0)) 1 1 true, .fn 26 [] []] hp = some (.v (.tup []), hp) := by kernel_rfl
set_option maxHeartbeats 8000000 in
theorem forg0_d {B : Bk} {hp : Hp} (h0 : SV ⟨hp, hnds (bkL B)⟩ hp (bkL B)) (hf : B.fs = []) :
    Fn kxD 13 [.p (some (B.b, 0))] hp (hnds (bkL B)) fun r N => ∃ u, r = .v u ∧ (u = .sl none 0 0 false ∧ N = bkL B) := by
  refine Fn.drop ?_
  have e0 : fgO B = .map [] 0 := by rw [fgO, hf]; rfl
  refine fn_of_w h0 (fun _ => rfl) (fn := Tryd.f13) (by kernel_rfl) rfl rfl ?_
  refine wo ?_
  first | (apply wm; iterate 5 exact rfl) | (apply dm; iterate 6 exact rfl) | (apply wmg; iterate 7 exact rfl) | (apply dmg; iterate 8 exact rfl)
  refine m_eqp rfl rfl
  refine wo ?_
  first | (apply p_callY [0]; exact (vwant_n rfl); iterate 4 exact rfl) | (apply d_callY [0]; exact (vwant_n rfl); decide +kernel; (iterate 4 exact rfl)) | (apply p_callY [0]; exact (vwant_g rfl rfl rfl); iterate 4 exact rfl) | (apply d_callY [0]; exact (vwant_g rfl rfl rfl); decide +kernel; (iterate 4 exact rfl))
  try (case hok => first | exact rdOk_nil | exact rdOk_b (by decide +kernel) | exact rdOk_c)
  case hC => exact (fun hp hs ht => lock_d ht rfl)
  rintro u N rfl
  dsimp only [List.set]
  refine wo ?_
  refine wl_defer (vwant_n rfl) rfl rfl rfl rfl rfl ?_
  refine wo ?_
  refine w_seq ?_
  refine wo ?_
  rw [e0]
  first | (apply p_op; exact (vwant_n rfl); iterate 4 exact rfl) | (apply d_op; exact (vwant_n rfl); exact rfl; exact noRd rfl; decide +kernel; (iterate 3 exact rfl); rotate_left) | (apply p_op; exact (vwant_g rfl rfl rfl); iterate 4 exact rfl) | (apply d_op; exact (vwant_g rfl rfl rfl); exact rfl; exact noRd rfl; decide +kernel; (iterate 3 exact rfl); rotate_left)
  refine e_range rfl fun c => ⟨_, rfl, ?_⟩
  try (case hok => first | exact rdOk_nil | exact rdOk_b (by decide +kernel))
  refine wo ?_
  refine w_loop (ι := Unit) (fun _ => [(19, .p (some (c, 0))), (3, .sl none 0 0 false), (0, .p (some (B.b, 0)))]) (fun _ => (some c, .iter (some B.fg) 0 [] 0) :: (some B.b, cellsO (bkC B 1) 57) :: (some B.z, .cells (B.sec.map byV) 5 (some 1) false) :: (some B.fg, .map [] 0) :: (ntL B.hd ++ ntL B.cd)) (fun _ => True) (fun _ => 0) () trivial ⟨rfl, rfl, rfl, trivial⟩ (fun hp h => h) ?_
  intro _ _
  refine wo ?_
  first | (apply p_op; exact (vwant_n rfl); iterate 4 exact rfl) | (apply d_op; exact (vwant_n rfl); exact rfl; exact noRd rfl; decide +kernel; (iterate 3 exact rfl); rotate_left) | (apply p_op; exact (vwant_g rfl rfl rfl); iterate 4 exact rfl) | (apply d_op; exact (vwant_g rfl rfl rfl); exact rfl; exact noRd rfl; decide +kernel; (iterate 3 exact rfl); rotate_left)
  refine ev_next0 rfl rfl rfl ⟨_, rfl, ?_⟩
  try (case hok => first | exact rdOk_nil | exact rdOk_b (by decide +kernel))
  refine wo ?_
  refine w_exit ?_
  refine wo ?_
  first | refine p_callq (vwant_n rfl) rfl rfl rfl rfl (fun hp hs => fn_run hs.ok (fun k => srtf0 k hp)) ?_ | refine d_callq (vwant_n rfl) (by decide +kernel) rfl rfl rfl rfl (fun hp hs => fn_run hs.ok (fun k => srtf0 k hp)) ?_ | refine d_callq0 (vwant_n rfl) (by decide +kernel) rfl rfl rfl rfl (fun hp hs => fn_run hs.ok (fun k => srtf0 k hp)) ?_ | refine p_callq (vwant_g rfl rfl rfl) rfl rfl rfl rfl (fun hp hs => fn_run hs.ok (fun k => srtf0 k hp)) ?_ | refine d_callq (vwant_g rfl rfl rfl) (by decide +kernel) rfl rfl rfl rfl (fun hp hs => fn_run hs.ok (fun k => srtf0 k hp)) ?_ | refine d_callq0 (vwant_g rfl rfl rfl) (by decide +kernel) rfl rfl rfl rfl (fun hp hs => fn_run hs.ok (fun k => srtf0 k hp)) ?_
  refine wo ?_
  refine w_ret (wend_unl (i := 1) rfl rfl rfl (vres1 (rv_tmp rfl)) ⟨[_], _, rfl, _, rfl, rfl, ?_⟩)
  rw [bkL, e0]
  rfl
set_option maxHeartbeats 8000000 in
theorem forg1_d {B : Bk} {body code : List UInt8} {hp : Hp} (h0 : SV ⟨hp, hnds (bkL B)⟩ hp (bkL B)) (hf : B.fs = [(body, code)]) (hcl : code.length = 32) :
    Fn kxD 13 [.p (some (B.b, 0))] hp (hnds (bkL B)) fun r N => ∃ u, r = .v u ∧ ∃ bg bs, u = .sl (some (bg, 0)) 1 1 true ∧ N = (some bg, .cells (.sl (some (bs, 0)) body.length body.length true :: code.map byV) 39 (some 33) false) :: (some bs, .cells (body.map byV) 5 (some 1) true) :: bkL B := by
  refine Fn.drop ?_
  have e0 : fgO B = .map [(.s body, hK code, 0)] 1 := by rw [fgO, hf]; rfl
  have hll : (code.map byV).length = 32 := by rw [List.length_map, hcl]
  have hne : code.map byV ≠ [] := fun e => by rw [e] at hll; simp at hll
  refine fn_of_w h0 (fun _ => rfl) (fn := Tryd.f13) (by kernel_rfl) rfl rfl ?_
  refine wo ?_
  first | (apply wm; iterate 5 exact rfl) | (apply dm; iterate 6 exact rfl) | (apply wmg; iterate 7 exact rfl) | (apply dmg; iterate 8 exact rfl)
  refine m_eqp rfl rfl
  refine wo ?_
  first | (apply p_callY [0]; exact (vwant_n rfl); iterate 4 exact rfl) | (apply d_callY [0]; exact (vwant_n rfl); decide +kernel; (iterate 4 exact rfl)) | (apply p_callY [0]; exact (vwant_g rfl rfl rfl); iterate 4 exact rfl) | (apply d_callY [0]; exact (vwant_g rfl rfl rfl); decide +kernel; (iterate 4 exact rfl))
  try (case hok => first | exact rdOk_nil | exact rdOk_b (by decide +kernel) | exact rdOk_c)
  case hC => exact (fun hp hs ht => lock_d ht rfl)
  rintro u N rfl
  dsimp only [List.set]
  refine wo ?_
  refine wl_defer (vwant_n rfl) rfl rfl rfl rfl rfl ?_
  refine wo ?_
  refine w_seq ?_
  refine wo ?_
  rw [e0]
  first | (apply p_op; exact (vwant_n rfl); iterate 4 exact rfl) | (apply d_op; exact (vwant_n rfl); exact rfl; exact noRd rfl; decide +kernel; (iterate 3 exact rfl); rotate_left) | (apply p_op; exact (vwant_g rfl rfl rfl); iterate 4 exact rfl) | (apply d_op; exact (vwant_g rfl rfl rfl); exact rfl; exact noRd rfl; decide +kernel; (iterate 3 exact rfl); rotate_left)
  refine e_range rfl fun c => ⟨_, rfl, ?_⟩
  try (case hok => first | exact rdOk_nil | exact rdOk_b (by decide +kernel))
  refine wo ?_
  refine w_loop (ι := Option (Nat × Nat)) (fun s => match s with
      | none => [(19, .p (some (c, 0))), (3, .sl none 0 0 false), (0, .p (some (B.b, 0)))]
      | some (bg, bs) => [(19, .p (some (c, 0))), (3, .sl (some (bg, 0)) 1 1 true), (0, .p (some (B.b, 0)))])
    (fun s => match s with
      | none => (some c, .iter (some B.fg) 1 [] 1) :: (some B.b, cellsO (bkC B 1) 57) :: (some B.z, .cells (B.sec.map byV) 5 (some 1) false) :: (some B.fg, .map [(.s body, hK code, 0)] 1) :: (ntL B.hd ++ ntL B.cd)
      | some (bg, bs) => (some c, .iter (some B.fg) 1 [0] 1) :: (some B.b, cellsO (bkC B 1) 57) :: (some B.z, .cells (B.sec.map byV) 5 (some 1) false) :: (some B.fg, .map [(.s body, hK code, 0)] 1) :: (some bg, .cells (.sl (some (bs, 0)) body.length body.length true :: code.map byV) 39 (some 33) false) :: (some bs, .cells (body.map byV) 5 (some 1) true) :: (ntL B.hd ++ ntL B.cd))
    (fun _ => True) (fun s => match s with | none => 1 | some _ => 0) none trivial ⟨rfl, rfl, rfl, trivial⟩ (fun hp h => h) ?_
  intro s _
  cases s with
  | none =>
    dsimp only
    refine wo ?_
    first | (apply p_op; exact (vwant_n rfl); iterate 4 exact rfl) | (apply d_op; exact (vwant_n rfl); exact rfl; exact noRd rfl; decide +kernel; (iterate 3 exact rfl); rotate_left) | (apply p_op; exact (vwant_g rfl rfl rfl); iterate 4 exact rfl) | (apply d_op; exact (vwant_g rfl rfl rfl); exact rfl; exact noRd rfl; decide +kernel; (iterate 3 exact rfl); rotate_left)
    refine ev_next1 (e := (.s body, hK code, 0)) rfl rfl rfl rfl ⟨_, rfl, ?_⟩
    try (case hok => first | exact rdOk_nil | exact rdOk_b (by decide +kernel))
    refine wo ?_
    first | (apply p_op; exact (vwant_n rfl); iterate 4 exact rfl) | (apply d_op; exact (vwant_n rfl); exact rfl; exact noRd rfl; decide +kernel; (iterate 3 exact rfl); rotate_left) | (apply p_op; exact (vwant_g rfl rfl rfl); iterate 4 exact rfl) | (apply d_op; exact (vwant_g rfl rfl rfl); exact rfl; exact noRd rfl; decide +kernel; (iterate 3 exact rfl); rotate_left)
    refine ev_entry (e := (.s body, hK code, 0)) rfl rfl rfl rfl ⟨_, rfl, ?_⟩
    try (case hok => first | exact rdOk_nil | exact rdOk_b (by decide +kernel))
    refine wo ?_
    first | (apply p_op; exact (vwant_n rfl); iterate 4 exact rfl) | (apply d_op; exact (vwant_n rfl); exact rfl; exact noRd rfl; decide +kernel; (iterate 3 exact rfl); rotate_left) | (apply p_op; exact (vwant_g rfl rfl rfl); iterate 4 exact rfl) | (apply d_op; exact (vwant_g rfl rfl rfl); exact rfl; exact noRd rfl; decide +kernel; (iterate 3 exact rfl); rotate_left)
    refine e_alloc rfl fun bx => ⟨_, rfl, ?_⟩
    try (case hok => first | exact rdOk_nil | exact rdOk_b (by decide +kernel))
    refine wo ?_
    first | (apply p_do; exact (vwant_n rfl); exact rfl; exact rfl) | (apply d_do; exact (vwant_n rfl); exact rfl; exact noRd rfl; decide +kernel; exact rfl; rotate_left) | (apply p_do; exact (vwant_g rfl rfl rfl); exact rfl; exact rfl) | (apply d_do; exact (vwant_g rfl rfl rfl); exact rfl; exact noRd rfl; decide +kernel; exact rfl; rotate_left)
    refine e_stn (C' := code.map byV) rfl rfl hne hll (by simp) (overV_all (by rw [hll]; simp)) ⟨_, rfl, ?_⟩
    try (case hok => first | exact rdOk_nil | exact rdOk_b (by decide +kernel))
    refine wo ?_
    first | (apply p_op; exact (vwant_n rfl); iterate 4 exact rfl) | (apply d_op; exact (vwant_n rfl); exact rfl; exact noRd rfl; decide +kernel; (iterate 3 exact rfl); rotate_left) | (apply p_op; exact (vwant_g rfl rfl rfl); iterate 4 exact rfl) | (apply d_op; exact (vwant_g rfl rfl rfl); exact rfl; exact noRd rfl; decide +kernel; (iterate 3 exact rfl); rotate_left)
    refine e_s2b rfl fun bs => ⟨_, rfl, ?_⟩
    try (case hok => first | exact rdOk_nil | exact rdOk_b (by decide +kernel))
    first | refine zX (m_ldln (s := 31) (cs := code.map byV) rfl (by rw [List.drop_zero]; exact List.take_of_length_le (by omega)) hll) ?_ | refine yX (m_ldln (s := 31) (cs := code.map byV) rfl (by rw [List.drop_zero]; exact List.take_of_length_le (by omega)) hll) ?_
    have hfl : (V.sl (some (bs, 0)) body.length body.length true :: code.map byV).length = 33 := by rw [List.length_cons, hll]
    first | (apply wn; iterate 5 exact rfl) | (apply dn; iterate 5 exact rfl) | (apply wg; iterate 7 exact rfl) | (apply dg; iterate 7 exact rfl)
    refine p_buildS (C := .sl (some (bs, 0)) body.length body.length true :: code.map byV) (.cons rfl rfl rfl rfl (Nat.le_of_ble_eq_true rfl) (.cons rfl rfl rfl hll (Nat.le_of_ble_eq_true rfl) .nil)) (by
      simp only [putAllV, overV, hll]
      simp)
    first | (apply p_op; exact (vwant_n rfl); iterate 4 exact rfl) | (apply d_op; exact (vwant_n rfl); exact rfl; exact noRd rfl; decide +kernel; (iterate 3 exact rfl); rotate_left) | (apply p_op; exact (vwant_g rfl rfl rfl); iterate 4 exact rfl) | (apply d_op; exact (vwant_g rfl rfl rfl); exact rfl; exact noRd rfl; decide +kernel; (iterate 3 exact rfl); rotate_left)
    refine ev_bs1 rfl rfl rfl rfl rfl rfl (vs := .sl (some (bs, 0)) body.length body.length true :: code.map byV) rfl hfl fun bb => ⟨_, rfl, ?_⟩
    try (case hok => first | exact rdOk_nil | exact rdOk_b (by decide +kernel))
    first | (apply p_op; exact (vwant_n rfl); iterate 4 exact rfl) | (apply d_op; exact (vwant_n rfl); exact rfl; exact noRd rfl; decide +kernel; (iterate 3 exact rfl); rotate_left) | (apply p_op; exact (vwant_g rfl rfl rfl); iterate 4 exact rfl) | (apply d_op; exact (vwant_g rfl rfl rfl); exact rfl; exact noRd rfl; decide +kernel; (iterate 3 exact rfl); rotate_left)
    refine ev_app0 (c := 0) (new := .sl (some (bs, 0)) body.length body.length true :: code.map byV) rfl rfl rfl (src_sl rfl (rz_loc (k := 33) (List.take_of_length_le (Nat.le_of_eq hfl))) (by exact hfl) (Nat.lt_of_lt_of_le (Nat.zero_lt_one) (by decide +kernel))) (by decide) (by decide) (by decide +kernel) fun bg => ⟨_, rfl, ?_⟩
    try (case hok => first | exact rdOk_nil | exact rdOk_b (by decide +kernel))
    refine wo ?_
    refine ⟨rfl, some (bg, bs), trivial, Nat.zero_lt_one, ⟨rfl, rfl, rfl, trivial⟩, fun hp h => ?_⟩
    have h1 := SV.tail (N := [_]) (SV.frontL (L := [_]) h)
    have h2 := SV.tail (N := [_]) (SV.frontL (L := [_, _]) h1)
    exact SV.swapL (P := [_, _]) (M := [_, _, _, _]) h2
  | some q =>
    obtain ⟨bg, bs⟩ := q
    dsimp only
    refine wo ?_
    first | (apply p_op; exact (vwant_n rfl); iterate 4 exact rfl) | (apply d_op; exact (vwant_n rfl); exact rfl; exact noRd rfl; decide +kernel; (iterate 3 exact rfl); rotate_left) | (apply p_op; exact (vwant_g rfl rfl rfl); iterate 4 exact rfl) | (apply d_op; exact (vwant_g rfl rfl rfl); exact rfl; exact noRd rfl; decide +kernel; (iterate 3 exact rfl); rotate_left)
    refine ev_next0 rfl rfl rfl ⟨_, rfl, ?_⟩
    try (case hok => first | exact rdOk_nil | exact rdOk_b (by decide +kernel))
    refine wo ?_
    refine w_exit ?_
    refine wo ?_
    first | refine p_callq (vwant_n rfl) rfl rfl rfl rfl (fun hp hs => fn_run hs.ok (fun k => srtf1 k bg hp)) ?_ | refine d_callq (vwant_n rfl) (by decide +kernel) rfl rfl rfl rfl (fun hp hs => fn_run hs.ok (fun k => srtf1 k bg hp)) ?_ | refine d_callq0 (vwant_n rfl) (by decide +kernel) rfl rfl rfl rfl (fun hp hs => fn_run hs.ok (fun k => srtf1 k bg hp)) ?_ | refine p_callq (vwant_g rfl rfl rfl) rfl rfl rfl rfl (fun hp hs => fn_run hs.ok (fun k => srtf1 k bg hp)) ?_ | refine d_callq (vwant_g rfl rfl rfl) (by decide +kernel) rfl rfl rfl rfl (fun hp hs => fn_run hs.ok (fun k => srtf1 k bg hp)) ?_ | refine d_callq0 (vwant_g rfl rfl rfl) (by decide +kernel) rfl rfl rfl rfl (fun hp hs => fn_run hs.ok (fun k => srtf1 k bg hp)) ?_
    refine wo ?_
    refine w_heap (L' := _ :: ([_, _] ++ ([_, _, _] ++ _))) (fun hp h => SV.frontL (SV.swapL (P := [_, _, _, _]) (M := [_, _]) h)) ?_
    refine w_ret (wend_unl (i := 3) rfl rfl rfl (vres1 (rv_tmp rfl)) ⟨[_], _, rfl, _, rfl, bg, bs, rfl, ?_⟩)
    rw [bkL, e0]
    rfl
end Go.Proofs.YtmacpjgdipfcaaaDoor
/- Ds16: the statements' own small functions: Bits, Secret. By this project. -/
set_option maxRecDepth 100000
namespace Go.Proofs.YtmacpjgdipfcaaaDoor
open Go.RowKit Go.Extern.Stop

section
variable {K : Kx} {hp0 : Bs} {l : VL} {L : HV} {a b : Operand} {t t' : TypeId}
theorem m_remI {p q : Int} (hx : evL l a = some (.i .i64 p)) (hy : evL l b = some (.i .i64 q)) (hq : q ≠ 0) : MVO K hp0 l L (.binOp .rem t a b t') (.i .i64 (p.tmod q)) :=
  mv_int hx hy (by
    have e : intEq q 0 = false := by rw [intEq_iff]; simpa using hq
    simp only [vint, e])
theorem m_remN {p q : Int} {m n : Nat} (hx : evL l a = some (.i .i64 p)) (hy : evL l b = some (.i .i64 q)) [hm : CastN p m] [hn : CastN q n] (hq : 0 < n) : MVO K hp0 l L (.binOp .rem t a b t') (.i .i64 ((m % n : Nat) : Int)) := by
  have := m_remI (K := K) (hp0 := hp0) (L := L) (t := t) (t' := t') hx hy (by rw [hn.h]; omega)
  rw [hm.h, hn.h] at this
  rw [Int.natCast_emod]
  rw [Int.tmod_eq_emod_of_nonneg (by omega)] at this
  exact this
theorem m_quoN {p q : Int} {m n : Nat} (hx : evL l a = some (.i .i64 p)) (hy : evL l b = some (.i .i64 q)) [hm : CastN p m] [hn : CastN q n] (hq : 0 < n) (hl : m < 9223372036854775808) : MVO K hp0 l L (.binOp .quo t a b t') (.i .i64 ((m / n : Nat) : Int)) := by
  obtain rfl := hm.h
  obtain rfl := hn.h
  refine mv_int hx hy ?_
  have e : intEq (n : Int) 0 = false := by rw [intEq_iff]; simp; omega
  have e2 : (m : Int).tdiv (n : Int) = ((m / n : Nat) : Int) := by rw [Int.tdiv_eq_ediv_of_nonneg (by omega)]; norm_cast
  have h3 : m / n ≤ m := Nat.div_le_self _ _
  simp only [vint, e]
  rw [e2]
  generalize m / n = q at *
  rw [IntWalk.i64_in _ (by omega)]
theorem intEq0 {y : UInt8} (hq : y.toNat ≠ 0) : intEq (Int.ofNat y.toNat) 0 = false := by
  rw [intEq_iff, beq_eq_false_iff_ne]
  exact fun h => hq (Int.ofNat.inj h)
theorem m_quoB {x y : UInt8} (hx : evL l a = some (byV x)) (hy : evL l b = some (byV y)) (hq : y.toNat ≠ 0) : MVO K hp0 l L (.binOp .quo t a b t') (byV (UInt8.ofNat (x.toNat / y.toNat))) :=
  mv_int hx hy (by
    have e2 : (Int.ofNat x.toNat).tdiv (Int.ofNat y.toNat) = ((x.toNat / y.toNat : Nat) : Int) := by rw [Int.tdiv_eq_ediv_of_nonneg (by simp)]; norm_cast
    simp only [vint, intEq0 hq]
    rw [e2, wrapU8, ← byV_ofNat])
theorem m_remB {x y : UInt8} (hx : evL l a = some (byV x)) (hy : evL l b = some (byV y)) (hq : y.toNat ≠ 0) : MVO K hp0 l L (.binOp .rem t a b t') (byV (UInt8.ofNat (x.toNat % y.toNat))) :=
  mv_int hx hy (by
    have e2 : (Int.ofNat x.toNat).tmod (Int.ofNat y.toNat) = ((x.toNat % y.toNat : Nat) : Int) := by rw [Int.tmod_eq_emod_of_nonneg (by simp)]; norm_cast
    have h3 := x.toNat_lt
    have h4 : x.toNat % y.toNat ≤ x.toNat := Nat.mod_le _ _
    simp only [vint, intEq0 hq]
    rw [e2, byV_ofNat, Nat.mod_eq_of_lt (a := x.toNat % y.toNat) (b := 256) (by omega)])
theorem p_negI {p : Int} (hx : evL l a = some (.i .i64 p)) (h1 : -9223372036854775808 < p ∧ p < 9223372036854775808) : PV K.C l (.unOp .neg t a) (.i .i64 (-p)) :=
  pv_un hx (by show some (V.i .i64 (IntKind.i64.wrap (0 - p))) = _; rw [IntWalk.i64_in _ (by omega), Int.zero_sub])
end
def bitsN (n : Int) : Nat := 8 + (n.tmod 249).natAbs
theorem bitsN_le (n : Int) : 8 ≤ bitsN n ∧ bitsN n ≤ 256 := by
  unfold bitsN
  have h1 : (n.tmod 249).natAbs = n.natAbs % 249 := by rw [Int.natAbs_tmod]; rfl
  rw [h1]
  have := Nat.mod_lt n.natAbs (show 0 < 249 by omega)
  omega
theorem bits_d {n : Int} {hp : Hp} (ho : OkH hp) : Fn kxD 5 [.i .i64 n] hp [] fun r _ => r = .v (.i .i64 ((bitsN n : Nat) : Int)) := by
  have hb := bitsN_le n
  unfold bitsN at hb
  refine fn_of_w (T := []) ho.sv (fun _ => rfl) (fn := Tryd.f5) (by kernel_rfl) rfl rfl ?_
  refine wo ?_
  first | (apply wm; iterate 5 exact rfl) | (apply dm; iterate 6 exact rfl) | (apply wmg; iterate 7 exact rfl) | (apply dmg; iterate 8 exact rfl)
  refine m_remI rfl rfl (by decide)
  refine wo ?_
  by_cases c : n.tmod 249 < 0
  · first | (apply wm; iterate 5 exact rfl) | (apply dm; iterate 6 exact rfl) | (apply wmg; iterate 7 exact rfl) | (apply dmg; iterate 8 exact rfl)
    refine mv_int (v := .b true) rfl rfl (vi_lssT (by omega))
    refine wo ?_
    first | (apply wn; iterate 5 exact rfl) | (apply dn; iterate 5 exact rfl) | (apply wg; iterate 7 exact rfl) | (apply dg; iterate 7 exact rfl)
    refine p_negI rfl (by omega)
    refine wo ?_
    rw [show -(n.tmod 249) = (((n.tmod 249).natAbs : Nat) : Int) by omega]
    refine wo ?_
    exact w_ret (wend_ret (vres1 (rv_tmp rfl)) rfl)
  · first | (apply wm; iterate 5 exact rfl) | (apply dm; iterate 6 exact rfl) | (apply wmg; iterate 7 exact rfl) | (apply dmg; iterate 8 exact rfl)
    refine mv_int (v := .b false) rfl rfl (vi_lssF (by omega))
    refine wo ?_
    rw [show n.tmod 249 = (((n.tmod 249).natAbs : Nat) : Int) by omega]
    refine wo ?_
    exact w_ret (wend_ret (vres1 (rv_tmp rfl)) (by unfold bitsN; rfl))
theorem rv_some' {hp : Hp} {A : Option (Nat × Nat)} {cs : List V} (h : RV hp A cs) (hn : 0 < cs.length) : ∃ b o, A = some (b, o) := by
  cases cs with
  | nil => simp at hn
  | cons v r => exact rv_some h
/-- 32 bytes made of any. -/
def secB (xs : List UInt8) : List UInt8 := (List.range 32).map fun i => xs.getD i 0
theorem secB_len (xs : List UInt8) : (secB xs).length = 32 := by simp [secB]
theorem secB_take {xs : List UInt8} {i : Nat} (h : i < 32) : (secB xs).take (i + 1) = (secB xs).take i ++ [xs.getD i 0] := by
  rw [List.take_succ_eq_append_getElem (by rw [secB_len]; exact h)]
  simp only [secB, List.getElem_map, List.getElem_range]
set_option maxHeartbeats 4000000 in
theorem secret_d {A : Option (Nat × Nat)} {xs : List UInt8} {c : Nat} {op : Bool} {hp : Hp} (ho : OkH hp) (hA : RB ⟨hp, []⟩ A (xs.map byV)) :
    Fn kxD 6 [.sl A xs.length c op] hp [] fun r N => ∃ u, r = .v u ∧ ∃ b, u = .sl (some (b, 0)) 32 32 true ∧ N = [(some b, .cells ((secB xs).map byV) 5 (some 1) false)] := by
  refine Fn.drop ?_
  refine fn_of_w (T := []) ho.sv (fun _ => rfl) (fn := Tryd.f6) (by kernel_rfl) rfl rfl ?_
  refine wo ?_
  refine w_seq ?_
  refine wo ?_
  refine w_loop (ι := Nat × Nat) (fun s => [(4, .i .i64 (s.1 : Nat)), (3, match s.1 with | 0 => .sl none 0 0 false | i + 1 => .sl (some (s.2, 0)) (i + 1) (i + 1) true), (0, .sl A xs.length c op)])
    (fun s => match s.1 with | 0 => [] | i + 1 => [(some s.2, .cells (((secB xs).take (i + 1)).map byV) 5 (some 1) false)])
    (fun s => s.1 ≤ 32) (fun s => 32 - s.1) (0, 0) (Nat.zero_le _) ⟨rfl, rfl, rfl, trivial⟩ (fun hp h => h) ?_
  intro ⟨i, b⟩ hi
  dsimp only at hi ⊢
  refine wo ?_
  by_cases g : i < 32
  · first | (apply wm; iterate 5 exact rfl) | (apply dm; iterate 6 exact rfl) | (apply wmg; iterate 7 exact rfl) | (apply dmg; iterate 8 exact rfl)
    refine mv_int (v := .b true) rfl rfl (vi_lssT (by omega))
    refine wo ?_
    cases i with
    | zero =>
      dsimp only
      by_cases c : 0 < xs.length
      · obtain ⟨ba, oa, rfl⟩ : ∃ b o, A = some (b, o) := rv_some' (hA.1.rv) (by rw [List.length_map]; omega)
        first | (apply wm; iterate 5 exact rfl) | (apply dm; iterate 6 exact rfl) | (apply wmg; iterate 7 exact rfl) | (apply dmg; iterate 8 exact rfl)
        refine mv_int (v := .b true) rfl rfl (vi_lssT (by omega))
        refine wo ?_
        first | (apply wn; iterate 5 exact rfl) | (apply dn; iterate 5 exact rfl) | (apply wg; iterate 7 exact rfl) | (apply dg; iterate 7 exact rfl)
        refine p_ia rfl rfl (by omega)
        first | (apply wm; iterate 5 exact rfl) | (apply dm; iterate 6 exact rfl) | (apply wmg; iterate 7 exact rfl) | (apply dmg; iterate 8 exact rfl)
        refine m_ldN (v := byV (xs.getD (0) 0)) rfl hA.1 hA.2 rfl (by rw [List.getElem?_map, List.getD_eq_getElem?_getD, List.getElem?_eq_getElem (by omega)]; rfl)
        refine wo ?_
        first | (apply p_op; exact (vwant_n rfl); iterate 4 exact rfl) | (apply d_op; exact (vwant_n rfl); exact rfl; exact noRd rfl; decide +kernel; (iterate 3 exact rfl); rotate_left) | (apply p_op; exact (vwant_g rfl rfl rfl); iterate 4 exact rfl) | (apply d_op; exact (vwant_g rfl rfl rfl); exact rfl; exact noRd rfl; decide +kernel; (iterate 3 exact rfl); rotate_left)
        refine e_bs (C := [byV (xs.getD (0) 0)]) rfl rfl (.cons rfl rfl .nil) rfl fun bn => ⟨_, rfl, ?_⟩
        try (case hok => first | exact rdOk_nil | exact rdOk_b (by decide +kernel))
        first | (apply p_op; exact (vwant_n rfl); iterate 4 exact rfl) | (apply d_op; exact (vwant_n rfl); exact rfl; exact noRd rfl; decide +kernel; (iterate 3 exact rfl); rotate_left) | (apply p_op; exact (vwant_g rfl rfl rfl); iterate 4 exact rfl) | (apply d_op; exact (vwant_g rfl rfl rfl); exact rfl; exact noRd rfl; decide +kernel; (iterate 3 exact rfl); rotate_left)
        refine e_app0 (new := [byV (xs.getD (0) 0)]) rfl rfl (rz_loc (k := 1) rfl) rfl (by decide) (by decide) fun bg => ⟨_, rfl, ?_⟩
        try (case hok => first | exact rdOk_nil | exact rdOk_b (by decide +kernel))
        refine wo ?_
        refine ⟨rfl, (1, bg), Nat.succ_le_succ (Nat.zero_le _), by dsimp only; omega, ⟨rfl, rfl, rfl, trivial⟩, fun hp h => ?_⟩
        have e : ((secB xs).take (0 + 1)).map byV = [byV (xs.getD (0) 0)] := by rw [secB_take (by decide)]; rfl
        dsimp only
        rw [e]
        exact h.pick [0] _ rfl (by decide)
      · first | (apply wm; iterate 5 exact rfl) | (apply dm; iterate 6 exact rfl) | (apply wmg; iterate 7 exact rfl) | (apply dmg; iterate 8 exact rfl)
        refine mv_int (v := .b false) rfl rfl (vi_lssF (by omega))
        refine wo ?_
        first | (apply p_op; exact (vwant_n rfl); iterate 4 exact rfl) | (apply d_op; exact (vwant_n rfl); exact rfl; exact noRd rfl; decide +kernel; (iterate 3 exact rfl); rotate_left) | (apply p_op; exact (vwant_g rfl rfl rfl); iterate 4 exact rfl) | (apply d_op; exact (vwant_g rfl rfl rfl); exact rfl; exact noRd rfl; decide +kernel; (iterate 3 exact rfl); rotate_left)
        refine e_bs (C := [byV 0]) rfl rfl (.cons rfl rfl .nil) rfl fun bn => ⟨_, rfl, ?_⟩
        try (case hok => first | exact rdOk_nil | exact rdOk_b (by decide +kernel))
        first | (apply p_op; exact (vwant_n rfl); iterate 4 exact rfl) | (apply d_op; exact (vwant_n rfl); exact rfl; exact noRd rfl; decide +kernel; (iterate 3 exact rfl); rotate_left) | (apply p_op; exact (vwant_g rfl rfl rfl); iterate 4 exact rfl) | (apply d_op; exact (vwant_g rfl rfl rfl); exact rfl; exact noRd rfl; decide +kernel; (iterate 3 exact rfl); rotate_left)
        refine e_app0 (new := [byV 0]) rfl rfl (rz_loc (k := 1) rfl) rfl (by decide) (by decide) fun bg => ⟨_, rfl, ?_⟩
        try (case hok => first | exact rdOk_nil | exact rdOk_b (by decide +kernel))
        refine wo ?_
        refine ⟨rfl, (1, bg), Nat.succ_le_succ (Nat.zero_le _), by dsimp only; omega, ⟨rfl, rfl, rfl, trivial⟩, fun hp h => ?_⟩
        have e : ((secB xs).take (0 + 1)).map byV = [byV 0] := by rw [secB_take (by decide)]; simp [List.getD_eq_getElem?_getD, List.getElem?_eq_none (show xs.length ≤ 0 by omega)]
        dsimp only
        rw [e]
        exact h.pick [0] _ rfl (by decide)
    | succ i =>
      dsimp only
      by_cases c : i + 1 < xs.length
      · obtain ⟨ba, oa, rfl⟩ : ∃ b o, A = some (b, o) := rv_some' (hA.1.rv) (by rw [List.length_map]; omega)
        first | (apply wm; iterate 5 exact rfl) | (apply dm; iterate 6 exact rfl) | (apply wmg; iterate 7 exact rfl) | (apply dmg; iterate 8 exact rfl)
        refine mv_int (v := .b true) rfl rfl (vi_lssT (by omega))
        refine wo ?_
        first | (apply wn; iterate 5 exact rfl) | (apply dn; iterate 5 exact rfl) | (apply wg; iterate 7 exact rfl) | (apply dg; iterate 7 exact rfl)
        refine p_ia rfl rfl (by omega)
        first | (apply wm; iterate 5 exact rfl) | (apply dm; iterate 6 exact rfl) | (apply wmg; iterate 7 exact rfl) | (apply dmg; iterate 8 exact rfl)
        refine m_ldN (v := byV (xs.getD (i + 1) 0)) rfl hA.1 hA.2 rfl (by rw [List.getElem?_map, List.getD_eq_getElem?_getD, List.getElem?_eq_getElem (by omega)]; rfl)
        refine wo ?_
        first | (apply p_op; exact (vwant_n rfl); iterate 4 exact rfl) | (apply d_op; exact (vwant_n rfl); exact rfl; exact noRd rfl; decide +kernel; (iterate 3 exact rfl); rotate_left) | (apply p_op; exact (vwant_g rfl rfl rfl); iterate 4 exact rfl) | (apply d_op; exact (vwant_g rfl rfl rfl); exact rfl; exact noRd rfl; decide +kernel; (iterate 3 exact rfl); rotate_left)
        refine e_bs (C := [byV (xs.getD (i + 1) 0)]) rfl rfl (.cons rfl rfl .nil) rfl fun bn => ⟨_, rfl, ?_⟩
        try (case hok => first | exact rdOk_nil | exact rdOk_b (by decide +kernel))
        first | (apply p_op; exact (vwant_n rfl); iterate 4 exact rfl) | (apply d_op; exact (vwant_n rfl); exact rfl; exact noRd rfl; decide +kernel; (iterate 3 exact rfl); rotate_left) | (apply p_op; exact (vwant_g rfl rfl rfl); iterate 4 exact rfl) | (apply d_op; exact (vwant_g rfl rfl rfl); exact rfl; exact noRd rfl; decide +kernel; (iterate 3 exact rfl); rotate_left)
        refine e_appO (old := ((secB xs).take (i + 1)).map byV) (new := [byV (xs.getD (i + 1) 0)]) rfl rfl (by rw [List.length_map, List.length_take, secB_len]; omega) (rz_loc (k := 1) rfl) rfl (by decide) (by omega) fun bg => ⟨_, rfl, ?_⟩
        try (case hok => first | exact rdOk_nil | exact rdOk_b (by decide +kernel))
        dsimp only [List.set]
        refine wo ?_
        refine ⟨rfl, (i + 1 + 1, bg), g, by dsimp only; omega, ⟨rfl, rfl, rfl, trivial⟩, fun hp h => ?_⟩
        have e : ((secB xs).take (i + 1 + 1)).map byV = ((secB xs).take (i + 1)).map byV ++ [byV (xs.getD (i + 1) 0)] := by rw [secB_take g, List.map_append]; rfl
        dsimp only
        rw [e]
        exact h.pick [1] _ rfl (by decide)
      · first | (apply wm; iterate 5 exact rfl) | (apply dm; iterate 6 exact rfl) | (apply wmg; iterate 7 exact rfl) | (apply dmg; iterate 8 exact rfl)
        refine mv_int (v := .b false) rfl rfl (vi_lssF (by omega))
        refine wo ?_
        first | (apply p_op; exact (vwant_n rfl); iterate 4 exact rfl) | (apply d_op; exact (vwant_n rfl); exact rfl; exact noRd rfl; decide +kernel; (iterate 3 exact rfl); rotate_left) | (apply p_op; exact (vwant_g rfl rfl rfl); iterate 4 exact rfl) | (apply d_op; exact (vwant_g rfl rfl rfl); exact rfl; exact noRd rfl; decide +kernel; (iterate 3 exact rfl); rotate_left)
        refine e_bs (C := [byV 0]) rfl rfl (.cons rfl rfl .nil) rfl fun bn => ⟨_, rfl, ?_⟩
        try (case hok => first | exact rdOk_nil | exact rdOk_b (by decide +kernel))
        first | (apply p_op; exact (vwant_n rfl); iterate 4 exact rfl) | (apply d_op; exact (vwant_n rfl); exact rfl; exact noRd rfl; decide +kernel; (iterate 3 exact rfl); rotate_left) | (apply p_op; exact (vwant_g rfl rfl rfl); iterate 4 exact rfl) | (apply d_op; exact (vwant_g rfl rfl rfl); exact rfl; exact noRd rfl; decide +kernel; (iterate 3 exact rfl); rotate_left)
        refine e_appO (old := ((secB xs).take (i + 1)).map byV) (new := [byV 0]) rfl rfl (by rw [List.length_map, List.length_take, secB_len]; omega) (rz_loc (k := 1) rfl) rfl (by decide) (by omega) fun bg => ⟨_, rfl, ?_⟩
        try (case hok => first | exact rdOk_nil | exact rdOk_b (by decide +kernel))
        dsimp only [List.set]
        refine wo ?_
        refine ⟨rfl, (i + 1 + 1, bg), g, by dsimp only; omega, ⟨rfl, rfl, rfl, trivial⟩, fun hp h => ?_⟩
        have e : ((secB xs).take (i + 1 + 1)).map byV = ((secB xs).take (i + 1)).map byV ++ [byV 0] := by rw [secB_take g, List.map_append]; simp [List.getD_eq_getElem?_getD, List.getElem?_eq_none (show xs.length ≤ i + 1 by omega)]
        dsimp only
        rw [e]
        exact h.pick [1] _ rfl (by decide)
  · first | (apply wm; iterate 5 exact rfl) | (apply dm; iterate 6 exact rfl) | (apply wmg; iterate 7 exact rfl) | (apply dmg; iterate 8 exact rfl)
    refine mv_int (v := .b false) rfl rfl (vi_lssF (by omega))
    refine wo ?_
    refine w_exit ?_
    obtain rfl : i = 32 := by omega
    refine wo ?_
    refine w_ret (wend_ret (vres1 (rv_tmp rfl)) ⟨[], _, rfl, _, rfl, b, rfl, ?_⟩)
    rw [List.take_of_length_le (by rw [secB_len]; decide)]
end Go.Proofs.YtmacpjgdipfcaaaDoor
/- Ds17: what the document fixes of hashes; how many hashes a book knows; the closed part of the statements. By this project. -/
set_option maxRecDepth 100000
namespace Go.Proofs.YtmacpjgdipfcaaaDoor
open Go.RowKit Go.Extern.Stop

theorem abc_blk : blkF8 firstW [97, 98, 99, 128, 0, 0, 0, 0, 0, 0, 0, 0, 0, 0, 0, 0, 0, 0, 0, 0, 0, 0, 0, 0, 0, 0, 0, 0, 0, 0, 0, 0, 0, 0, 0, 0, 0, 0, 0, 0, 0, 0, 0, 0, 0, 0, 0, 0, 0, 0, 0, 0, 0, 0, 0, 0, 0, 0, 0, 0, 0, 0, 0, 24] = [3128432319, 2399260650, 1094795486, 1571693091, 2953011619, 2518121116, 3021012833, 4060091821] := by kernel_rfl
theorem sum_abc : sumB [97, 98, 99] = [186, 120, 22, 191, 143, 1, 207, 234, 65, 65, 64, 222, 93, 174, 34, 35, 176, 3, 97, 163, 150, 23, 122, 156, 180, 16, 255, 97, 242, 0, 21, 173] := by
  have e1 : padB [97, 98, 99] = [97, 98, 99, 128, 0, 0, 0, 0, 0, 0, 0, 0, 0, 0, 0, 0, 0, 0, 0, 0, 0, 0, 0, 0, 0, 0, 0, 0, 0, 0, 0, 0, 0, 0, 0, 0, 0, 0, 0, 0, 0, 0, 0, 0, 0, 0, 0, 0, 0, 0, 0, 0, 0, 0, 0, 0, 0, 0, 0, 0, 0, 0, 0, 24] := by decide +kernel
  unfold sumB
  rw [e1]
  have e2 : absN [97, 98, 99, 128, 0, 0, 0, 0, 0, 0, 0, 0, 0, 0, 0, 0, 0, 0, 0, 0, 0, 0, 0, 0, 0, 0, 0, 0, 0, 0, 0, 0, 0, 0, 0, 0, 0, 0, 0, 0, 0, 0, 0, 0, 0, 0, 0, 0, 0, 0, 0, 0, 0, 0, 0, 0, 0, 0, 0, 0, 0, 0, 0, 24] 1 = [3128432319, 2399260650, 1094795486, 1571693091, 2953011619, 2518121116, 3021012833, 4060091821] := by
    show blk firstW [97, 98, 99, 128, 0, 0, 0, 0, 0, 0, 0, 0, 0, 0, 0, 0, 0, 0, 0, 0, 0, 0, 0, 0, 0, 0, 0, 0, 0, 0, 0, 0, 0, 0, 0, 0, 0, 0, 0, 0, 0, 0, 0, 0, 0, 0, 0, 0, 0, 0, 0, 0, 0, 0, 0, 0, 0, 0, 0, 0, 0, 0, 0, 24] = _
    rw [← abc_blk]
    exact (blkF8_eq _ _ (byteN_map _) rfl).symm
  show (absN _ 1).flatMap wB = _
  rw [e2]
  decide +kernel
theorem cutB_at {bits i : Nat} {h : List UInt8} {y : UInt8} (hy : h[i]? = some y) : (cutB bits h)[i]? = some (cutY bits i y) := by
  rw [cutB, List.getElem?_mapIdx, hy]
  rfl
/-! ### How many hashes -/
theorem nt_one {hf : List UInt8 → List UInt8} {n : Nt} {s : List UInt8} (h : NtOk hf n) (ha : n.all = [s]) : n.gs.length = 1 := by
  have hsub : ∀ x ∈ n.gs.map (·.h), x = hf s := fun x hx => by
    obtain ⟨g, hg, rfl⟩ := List.mem_map.1 hx
    obtain ⟨h1, h2⟩ := h.gn g hg
    rw [ha] at h1
    by_cases c : (hf s == g.h) = true
    · exact (beq_iff_eq.1 c).symm
    · rw [List.filter_cons_of_neg (by simpa using c)] at h1
      exact absurd h1 h2
  have hm : hf s ∈ n.gs.map (·.h) := h.gm s (by rw [ha]; simp)
  have hnd := h.gd
  have hlen : (n.gs.map (·.h)).length = 1 := by
    cases hq : n.gs.map (·.h) with
    | nil => rw [hq] at hm; simp at hm
    | cons a r =>
      rw [hq] at hsub hnd
      cases r with
      | nil => rfl
      | cons b r =>
        have e1 := hsub a (by simp)
        have e2 := hsub b (by simp)
        rw [e1, e2] at hnd
        simp at hnd
  simpa using hlen
theorem nt_none {hf : List UInt8 → List UInt8} {n : Nt} (h : NtOk hf n) (ha : n.all = []) : n.gs.length = 0 := by
  rw [List.length_eq_zero_iff]
  cases hq : n.gs with
  | nil => rfl
  | cons g r =>
    obtain ⟨h1, h2⟩ := h.gn g (by rw [hq]; simp)
    rw [ha] at h1
    exact absurd h1 h2
theorem addS_nil (s : List UInt8) : addS [] s = [s] := by simp [addS]
theorem addS_one (s : List UInt8) : addS [s] s = [s] := by simp [addS]
theorem new_n {A : Option (Nat × Nat)} {xs : List UInt8} {bits cb c n : Nat} {op : Bool} {hp : Hp} (hn : xs.length = n) (ho : OkH hp) (hA : RB ⟨hp, []⟩ A (xs.map byV)) (hx : xs.length = 32) (b1 : 8 ≤ bits) (b2 : bits ≤ 256) (c1 : 8 ≤ cb) (c2 : cb ≤ 256) :
    Fn kxD 7 [.i .i64 (bits : Int), .i .i64 (cb : Int), .sl A n c op] hp [] fun r N => ∃ u, r = .v u ∧ ∃ b z ha hs ca cs fg, u = .tup [.p (some (b, 0)), .i .i64 0] ∧ N = bkL ⟨b, z, bits, cb, xs, ⟨ha, hs, [], []⟩, ⟨ca, cs, [], []⟩, fg, []⟩ := by
  subst hn
  exact new_d ho hA hx b1 b2 c1 c2
/-! ### The calls, by what a book holds -/
/-- A book: where it lies, its bits, its secret, what it has hashed, what it has coded, what was forged. -/
structure BkSt (B : Bk) (b bits cb : Nat) (sec : List UInt8) (ha ca : List (List UInt8)) (fs : List (List UInt8 × List UInt8)) : Prop where
  ok : BkOk B
  b : B.b = b
  bits : B.bits = bits
  cb : B.cb = cb
  sec : B.sec = sec
  ha : B.hd.all = ha
  ca : B.cd.all = ca
  fs : B.fs = fs
theorem new_s {A : Option (Nat × Nat)} {xs : List UInt8} {bits cb c n : Nat} {op : Bool} {hp : Hp} (hn : xs.length = n) (ho : OkH hp) (hA : RB ⟨hp, []⟩ A (xs.map byV)) (hx : xs.length = 32) (b1 : 8 ≤ bits) (b2 : bits ≤ 256) (c1 : 8 ≤ cb) (c2 : cb ≤ 256) :
    Fn kxD 7 [.i .i64 (bits : Int), .i .i64 (cb : Int), .sl A n c op] hp [] fun r N => ∃ u, r = .v u ∧ ∃ b B, u = .tup [.p (some (b, 0)), .i .i64 0] ∧ BkSt B b bits cb xs [] [] [] ∧ N = bkL B :=
  (new_n hn ho hA hx b1 b2 c1 c2).mono fun r N ⟨u, h1, b, z, ha, hs, ca, cs, fg, h2, h3⟩ => ⟨u, h1, b, _, h2, ⟨new_ok hx b2 c2, rfl, rfl, rfl, rfl, rfl, rfl, rfl⟩, h3⟩
variable {B : Bk} {b bits cb : Nat} {sec : List UInt8} {ha ca : List (List UInt8)} {fs : List (List UInt8 × List UInt8)}
theorem hash_s {A : Option (Nat × Nat)} {xs : List UInt8} {c : Nat} {hp : Hp} (hB : BkSt B b bits cb sec ha ca fs) (h0 : SV ⟨hp, hnds (bkL B)⟩ hp (bkL B)) (hk : Tab ⟨hp, hnds (bkL B)⟩) (hA : RB ⟨hp, hnds (bkL B)⟩ A (xs.map byV)) (hc : xs.length ≤ c) (hx : xs.length < 72057594037927936) (hl : ha.length < 100000000) :
    Fn kxD 9 [.p (some (b, 0)), .sl A xs.length c false] hp (hnds (bkL B)) fun r N => ∃ u, r = .v u ∧ (u = hK (cutB bits (sumB xs)) ∧ ∃ B', BkSt B' b bits cb sec (addS ha xs) ca fs ∧ N = bkL B') := by
  obtain ⟨ok, rfl, rfl, rfl, rfl, rfl, rfl, rfl⟩ := hB
  exact (hash_d h0 ok hk hA hc hx hl).mono fun r N ⟨u, h1, h2, hd', h3, h4, h5⟩ => ⟨u, h1, h2, _, ⟨h3, rfl, rfl, rfl, rfl, h4, rfl, rfl⟩, h5⟩
theorem code_s {A : Option (Nat × Nat)} {xs : List UInt8} {c : Nat} {hp : Hp} (hB : BkSt B b bits cb sec ha ca fs) (h0 : SV ⟨hp, hnds (bkL B)⟩ hp (bkL B)) (hk : Tab ⟨hp, hnds (bkL B)⟩) (hA : RB ⟨hp, hnds (bkL B)⟩ A (xs.map byV)) (hc : xs.length ≤ c) (hx : xs.length < 72057594037927936) (hl : ca.length < 100000000) :
    Fn kxD 10 [.p (some (b, 0)), .sl A xs.length c false] hp (hnds (bkL B)) fun r N => ∃ u, r = .v u ∧ (u = hK (cutB cb (macB sec xs)) ∧ ∃ B', BkSt B' b bits cb sec ha (addS ca xs) fs ∧ N = bkL B') := by
  obtain ⟨ok, rfl, rfl, rfl, rfl, rfl, rfl, rfl⟩ := hB
  exact (code_d h0 ok hk hA hc hx hl).mono fun r N ⟨u, h1, h2, hd', h3, h4, h5⟩ => ⟨u, h1, h2, _, ⟨h3, rfl, rfl, rfl, rfl, rfl, h4, rfl⟩, h5⟩
theorem accept_s {A : Option (Nat × Nat)} {xs code : List UInt8} {c : Nat} {hp : Hp} (hB : BkSt B b bits cb sec ha ca fs) (h0 : SV ⟨hp, hnds (bkL B)⟩ hp (bkL B)) (hk : Tab ⟨hp, hnds (bkL B)⟩) (hA : RB ⟨hp, hnds (bkL B)⟩ A (xs.map byV)) (hc : xs.length ≤ c) (hx : xs.length < 72057594037927936) (hcl : code.length = 32) :
    Fn kxD 11 [.p (some (b, 0)), .sl A xs.length c false, hK code] hp (hnds (bkL B)) fun r N => ∃ u, r = .v u ∧ (u = .b (decide (cutB cb (macB sec xs) = code)) ∧ ∃ B', BkSt B' b bits cb sec ha ca (if cutB cb (macB sec xs) = code ∧ xs ∉ ca then addF fs (xs, code) else fs) ∧ N = bkL B') := by
  obtain ⟨ok, rfl, rfl, rfl, rfl, rfl, rfl, rfl⟩ := hB
  exact (accept_d h0 ok hk hA hc hx hcl).mono fun r N ⟨u, h1, h2, fs', h3, h4, h5⟩ => ⟨u, h1, h2, _, ⟨h3, rfl, rfl, rfl, rfl, rfl, rfl, h4⟩, h5⟩
theorem sound_s {hp : Hp} (hB : BkSt B b bits cb sec ha ca fs) (h0 : SV ⟨hp, hnds (bkL B)⟩ hp (bkL B)) :
    Fn kxD 12 [.p (some (b, 0))] hp (hnds (bkL B)) fun r N => ∃ u, r = .v u ∧ (u = .b (bkSound B) ∧ N = bkL B) := by
  obtain ⟨ok, rfl, rfl, rfl, rfl, rfl, rfl, rfl⟩ := hB
  exact sound_d h0
theorem len_s {hp : Hp} (hB : BkSt B b bits cb sec ha ca fs) (h0 : SV ⟨hp, hnds (bkL B)⟩ hp (bkL B)) :
    Fn kxD 15 [.p (some (b, 0))] hp (hnds (bkL B)) fun r N => ∃ u, r = .v u ∧ (u = .tup [.i .i64 (ha.length : Int), .i .i64 (ca.length : Int)] ∧ N = bkL B) := by
  obtain ⟨ok, rfl, rfl, rfl, rfl, rfl, rfl, rfl⟩ := hB
  exact len_d h0
theorem forg0_s {hp : Hp} (hB : BkSt B b bits cb sec ha ca []) (h0 : SV ⟨hp, hnds (bkL B)⟩ hp (bkL B)) :
    Fn kxD 13 [.p (some (b, 0))] hp (hnds (bkL B)) fun r N => ∃ u, r = .v u ∧ (u = .sl none 0 0 false ∧ N = bkL B) := by
  have hf := hB.fs
  obtain rfl := hB.b
  exact forg0_d h0 hf
theorem forg1_s {body code : List UInt8} {hp : Hp} (hB : BkSt B b bits cb sec ha ca [(body, code)]) (h0 : SV ⟨hp, hnds (bkL B)⟩ hp (bkL B)) (hcl : code.length = 32) :
    Fn kxD 13 [.p (some (b, 0))] hp (hnds (bkL B)) fun r N => ∃ u, r = .v u ∧ ∃ bg bs, u = .sl (some (bg, 0)) 1 1 true ∧ N = (some bg, .cells (.sl (some (bs, 0)) body.length body.length true :: code.map byV) 39 (some 33) false) :: (some bs, .cells (body.map byV) 5 (some 1) true) :: bkL B := by
  have hf := hB.fs
  obtain rfl := hB.b
  exact forg1_d h0 hf hcl
theorem bkSt_sound {x y : List UInt8} (hB : BkSt B b bits cb sec ha ca fs) (h1 : ha = [] ∨ ∃ x, ha = [x]) (h2 : ca = [] ∨ ∃ x, ca = [x]) : bkSound B = decide (fs.length = 0) := by
  have e1 : B.hd.all.length = B.hd.gs.length := by
    rcases h1 with h | ⟨x, h⟩
    · rw [nt_none hB.ok.hd (hB.ha.trans h), hB.ha.trans h]; rfl
    · rw [nt_one hB.ok.hd (hB.ha.trans h), hB.ha.trans h]; rfl
  have e2 : B.cd.all.length = B.cd.gs.length := by
    rcases h2 with h | ⟨x, h⟩
    · rw [nt_none hB.ok.cd (hB.ca.trans h), hB.ca.trans h]; rfl
    · rw [nt_one hB.ok.cd (hB.ca.trans h), hB.ca.trans h]; rfl
  rw [bkSound, decide_eq_true e1, decide_eq_true e2, hB.fs]
  rfl
set_option maxHeartbeats 16000000 in
theorem fixed_d {hp : Hp} (ho : OkH hp) (hk : Tab ⟨hp, []⟩) : Fn kxD 8 [] hp [] fun r _ => r = .v (.b true) := by
  have hsl := secB_len []
  have hl1 : ((cutB 256 (sumB [97, 98, 99])).map byV).length = 32 := by rw [List.length_map, cutB_len, sumB_len]
  have hl2 : ((cutB 12 (sumB [97, 98, 99])).map byV).length = 32 := by rw [List.length_map, cutB_len, sumB_len]
  have hl3 : ((cutB 8 (macB (secB []) [120])).map byV).length = 32 := by rw [List.length_map, cutB_len, macB_len]
  have hne : ∀ {l : List V}, l.length = 32 → l ≠ [] := fun hl e => by rw [e] at hl; simp at hl
  have a0 : (cutB 256 (sumB [97, 98, 99]))[0]? = some 186 := by rw [cutB_at (y := 186) (by rw [sum_abc]; rfl)]; rfl
  have a1 : (cutB 256 (sumB [97, 98, 99]))[1]? = some 120 := by rw [cutB_at (y := 120) (by rw [sum_abc]; rfl)]; rfl
  have a2 : (cutB 256 (sumB [97, 98, 99]))[2]? = some 22 := by rw [cutB_at (y := 22) (by rw [sum_abc]; rfl)]; rfl
  have a3 : (cutB 256 (sumB [97, 98, 99]))[3]? = some 191 := by rw [cutB_at (y := 191) (by rw [sum_abc]; rfl)]; rfl
  have g0 : (cutB 12 (sumB [97, 98, 99]))[0]? = some 186 := by rw [cutB_at (y := 186) (by rw [sum_abc]; rfl)]; rfl
  have g1 : (cutB 12 (sumB [97, 98, 99]))[1]? = some 112 := by rw [cutB_at (y := 120) (by rw [sum_abc]; rfl)]; rfl
  have g2 : (cutB 12 (sumB [97, 98, 99]))[2]? = some 0 := by rw [cutB_at (y := 22) (by rw [sum_abc]; rfl)]; rfl
  have at' : ∀ {l : List UInt8} {i : Nat} {y : UInt8}, l[i]? = some y → (l.map byV)[0 + i]? = some (byV y) := fun {l i y} h => by rw [Nat.zero_add, List.getElem?_map, h]; rfl
  refine fn_of_w (T := []) ho.sv (fun _ => rfl) (fn := Tryd.f8) (by kernel_rfl) rfl rfl ?_
  refine wo ?_
  first | (apply p_callY []; exact (vwant_n rfl); iterate 4 exact rfl) | (apply d_callY []; exact (vwant_n rfl); decide +kernel; (iterate 4 exact rfl)) | (apply p_callY []; exact (vwant_g rfl rfl rfl); iterate 4 exact rfl) | (apply d_callY []; exact (vwant_g rfl rfl rfl); decide +kernel; (iterate 4 exact rfl))
  try (case hok => first | exact rdOk_nil | exact rdOk_b (by decide +kernel) | exact rdOk_c)
  case hC => exact (fun hp hs ht => secret_d (xs := []) hs.ok RB.nil)
  rintro u N ⟨b1, rfl, rfl⟩
  refine wo ?_
  first | (apply p_callY []; exact (vwant_n rfl); iterate 4 exact rfl) | (apply d_callY []; exact (vwant_n rfl); decide +kernel; (iterate 4 exact rfl)) | (apply p_callY []; exact (vwant_g rfl rfl rfl); iterate 4 exact rfl) | (apply d_callY []; exact (vwant_g rfl rfl rfl); decide +kernel; (iterate 4 exact rfl))
  try (case hok => first | exact rdOk_nil | exact rdOk_b (by decide +kernel) | exact rdOk_c)
  case hC => exact (fun hp hs ht => new_s (bits := 256) (cb := 256) hsl hs.ok (rb_own0 hs (i := 0) rfl (List.take_of_length_le (Nat.le_refl _))) hsl (by decide) (by decide) (by decide) (by decide))
  rintro u N ⟨p1, B1, rfl, s1, rfl⟩
  refine wo ?_
  first | (apply p_callY []; exact (vwant_n rfl); iterate 4 exact rfl) | (apply d_callY []; exact (vwant_n rfl); decide +kernel; (iterate 4 exact rfl)) | (apply p_callY []; exact (vwant_g rfl rfl rfl); iterate 4 exact rfl) | (apply d_callY []; exact (vwant_g rfl rfl rfl); decide +kernel; (iterate 4 exact rfl))
  try (case hok => first | exact rdOk_nil | exact rdOk_b (by decide +kernel) | exact rdOk_c)
  case hC => exact (fun hp hs ht => secret_d (xs := []) hs.ok RB.nil)
  rintro u N ⟨b2, rfl, rfl⟩
  refine wo ?_
  first | (apply p_callY []; exact (vwant_n rfl); iterate 4 exact rfl) | (apply d_callY []; exact (vwant_n rfl); decide +kernel; (iterate 4 exact rfl)) | (apply p_callY []; exact (vwant_g rfl rfl rfl); iterate 4 exact rfl) | (apply d_callY []; exact (vwant_g rfl rfl rfl); decide +kernel; (iterate 4 exact rfl))
  try (case hok => first | exact rdOk_nil | exact rdOk_b (by decide +kernel) | exact rdOk_c)
  case hC => exact (fun hp hs ht => new_s (bits := 12) (cb := 8) hsl hs.ok (rb_own0 hs (i := 0) rfl (List.take_of_length_le (Nat.le_refl _))) hsl (by decide) (by decide) (by decide) (by decide))
  rintro u N ⟨p2, B2, rfl, s2, rfl⟩
  refine wo ?_
  first | (apply wm; iterate 5 exact rfl) | (apply dm; iterate 6 exact rfl) | (apply wmg; iterate 7 exact rfl) | (apply dmg; iterate 8 exact rfl)
  refine mv_int (v := .b false) rfl rfl (vi_neqF (by omega))
  refine wo ?_
  first | (apply wm; iterate 5 exact rfl) | (apply dm; iterate 6 exact rfl) | (apply wmg; iterate 7 exact rfl) | (apply dmg; iterate 8 exact rfl)
  refine mv_int (v := .b false) rfl rfl (vi_neqF (by omega))
  refine wo ?_
  first | (apply wm; iterate 5 exact rfl) | (apply dm; iterate 6 exact rfl) | (apply wmg; iterate 7 exact rfl) | (apply dmg; iterate 8 exact rfl)
  refine m_eqp rfl rfl
  refine wo ?_
  first | (apply wm; iterate 5 exact rfl) | (apply dm; iterate 6 exact rfl) | (apply wmg; iterate 7 exact rfl) | (apply dmg; iterate 8 exact rfl)
  refine m_eqp rfl rfl
  refine wo ?_
  first | (apply p_op; exact (vwant_n rfl); iterate 4 exact rfl) | (apply d_op; exact (vwant_n rfl); exact rfl; exact noRd rfl; decide +kernel; (iterate 3 exact rfl); rotate_left) | (apply p_op; exact (vwant_g rfl rfl rfl); iterate 4 exact rfl) | (apply d_op; exact (vwant_g rfl rfl rfl); exact rfl; exact noRd rfl; decide +kernel; (iterate 3 exact rfl); rotate_left)
  refine e_bs (C := [byV 97, byV 98, byV 99]) rfl rfl (.cons rfl rfl (.cons rfl rfl (.cons rfl rfl .nil))) rfl fun bx => ⟨_, rfl, ?_⟩
  try (case hok => first | exact rdOk_nil | exact rdOk_b (by decide +kernel))
  first | (apply p_op; exact (vwant_n rfl); iterate 4 exact rfl) | (apply d_op; exact (vwant_n rfl); exact rfl; exact noRd rfl; decide +kernel; (iterate 3 exact rfl); rotate_left) | (apply p_op; exact (vwant_g rfl rfl rfl); iterate 4 exact rfl) | (apply d_op; exact (vwant_g rfl rfl rfl); exact rfl; exact noRd rfl; decide +kernel; (iterate 3 exact rfl); rotate_left)
  refine e_share rfl ⟨_, rfl, ?_⟩
  try (case hok => first | exact rdOk_nil | exact rdOk_b (by decide +kernel))
  first | (apply p_callM (bkL B1); exact (vwant_n rfl); iterate 4 exact rfl) | (apply d_callM (bkL B1); exact (vwant_n rfl); decide +kernel; (iterate 4 exact rfl)) | (apply p_callM (bkL B1); exact (vwant_g rfl rfl rfl); iterate 4 exact rfl) | (apply d_callM (bkL B1); exact (vwant_g rfl rfl rfl); decide +kernel; (iterate 4 exact rfl))
  try (case hok => first | exact rdOk_nil | exact rdOk_b (by decide +kernel) | exact rdOk_c)
  case hC => exact (fun hp hs ht => hash_s (xs := [97, 98, 99]) s1 ht (hk.give hs) (rb_own hs (i := 0) rfl rfl) (Nat.le_refl 3) (by decide) (by decide))
  rintro u N ⟨rfl, B1, s1, rfl⟩
  first | (apply p_op; exact (vwant_n rfl); iterate 4 exact rfl) | (apply d_op; exact (vwant_n rfl); exact rfl; exact noRd rfl; decide +kernel; (iterate 3 exact rfl); rotate_left) | (apply p_op; exact (vwant_g rfl rfl rfl); iterate 4 exact rfl) | (apply d_op; exact (vwant_g rfl rfl rfl); exact rfl; exact noRd rfl; decide +kernel; (iterate 3 exact rfl); rotate_left)
  refine e_alloc rfl fun h1 => ⟨_, rfl, ?_⟩
  try (case hok => first | exact rdOk_nil | exact rdOk_b (by decide +kernel))
  first | (apply p_do; exact (vwant_n rfl); exact rfl; exact rfl) | (apply d_do; exact (vwant_n rfl); exact rfl; exact noRd rfl; decide +kernel; exact rfl; rotate_left) | (apply p_do; exact (vwant_g rfl rfl rfl); exact rfl; exact rfl) | (apply d_do; exact (vwant_g rfl rfl rfl); exact rfl; exact noRd rfl; decide +kernel; exact rfl; rotate_left)
  refine e_stn (C' := (cutB 256 (sumB [97, 98, 99])).map byV) rfl rfl (hne hl1) hl1 (by simp) (overV_all (by rw [hl1]; simp)) ⟨_, rfl, ?_⟩
  try (case hok => first | exact rdOk_nil | exact rdOk_b (by decide +kernel))
  refine wo ?_
  first | (apply p_op; exact (vwant_n rfl); iterate 4 exact rfl) | (apply d_op; exact (vwant_n rfl); exact rfl; exact noRd rfl; decide +kernel; (iterate 3 exact rfl); rotate_left) | (apply p_op; exact (vwant_g rfl rfl rfl); iterate 4 exact rfl) | (apply d_op; exact (vwant_g rfl rfl rfl); exact rfl; exact noRd rfl; decide +kernel; (iterate 3 exact rfl); rotate_left)
  refine e_bs (C := [byV 97, byV 98, byV 99]) rfl rfl (.cons rfl rfl (.cons rfl rfl (.cons rfl rfl .nil))) rfl fun bx => ⟨_, rfl, ?_⟩
  try (case hok => first | exact rdOk_nil | exact rdOk_b (by decide +kernel))
  first | (apply p_op; exact (vwant_n rfl); iterate 4 exact rfl) | (apply d_op; exact (vwant_n rfl); exact rfl; exact noRd rfl; decide +kernel; (iterate 3 exact rfl); rotate_left) | (apply p_op; exact (vwant_g rfl rfl rfl); iterate 4 exact rfl) | (apply d_op; exact (vwant_g rfl rfl rfl); exact rfl; exact noRd rfl; decide +kernel; (iterate 3 exact rfl); rotate_left)
  refine e_share rfl ⟨_, rfl, ?_⟩
  try (case hok => first | exact rdOk_nil | exact rdOk_b (by decide +kernel))
  first | (apply p_callM (bkL B2); exact (vwant_n rfl); iterate 4 exact rfl) | (apply d_callM (bkL B2); exact (vwant_n rfl); decide +kernel; (iterate 4 exact rfl)) | (apply p_callM (bkL B2); exact (vwant_g rfl rfl rfl); iterate 4 exact rfl) | (apply d_callM (bkL B2); exact (vwant_g rfl rfl rfl); decide +kernel; (iterate 4 exact rfl))
  try (case hok => first | exact rdOk_nil | exact rdOk_b (by decide +kernel) | exact rdOk_c)
  case hC => exact (fun hp hs ht => hash_s (xs := [97, 98, 99]) s2 ht (hk.give hs) (rb_own hs (i := 0) rfl rfl) (Nat.le_refl 3) (by decide) (by decide))
  rintro u N ⟨rfl, B2, s2, rfl⟩
  first | (apply p_op; exact (vwant_n rfl); iterate 4 exact rfl) | (apply d_op; exact (vwant_n rfl); exact rfl; exact noRd rfl; decide +kernel; (iterate 3 exact rfl); rotate_left) | (apply p_op; exact (vwant_g rfl rfl rfl); iterate 4 exact rfl) | (apply d_op; exact (vwant_g rfl rfl rfl); exact rfl; exact noRd rfl; decide +kernel; (iterate 3 exact rfl); rotate_left)
  refine e_alloc rfl fun h2 => ⟨_, rfl, ?_⟩
  try (case hok => first | exact rdOk_nil | exact rdOk_b (by decide +kernel))
  first | (apply p_do; exact (vwant_n rfl); exact rfl; exact rfl) | (apply d_do; exact (vwant_n rfl); exact rfl; exact noRd rfl; decide +kernel; exact rfl; rotate_left) | (apply p_do; exact (vwant_g rfl rfl rfl); exact rfl; exact rfl) | (apply d_do; exact (vwant_g rfl rfl rfl); exact rfl; exact noRd rfl; decide +kernel; exact rfl; rotate_left)
  refine e_stn (C' := (cutB 12 (sumB [97, 98, 99])).map byV) rfl rfl (hne hl2) hl2 (by simp) (overV_all (by rw [hl2]; simp)) ⟨_, rfl, ?_⟩
  try (case hok => first | exact rdOk_nil | exact rdOk_b (by decide +kernel))
  refine wo ?_
  first | (apply p_op; exact (vwant_n rfl); iterate 4 exact rfl) | (apply d_op; exact (vwant_n rfl); exact rfl; exact noRd rfl; decide +kernel; (iterate 3 exact rfl); rotate_left) | (apply p_op; exact (vwant_g rfl rfl rfl); iterate 4 exact rfl) | (apply d_op; exact (vwant_g rfl rfl rfl); exact rfl; exact noRd rfl; decide +kernel; (iterate 3 exact rfl); rotate_left)
  refine e_bs (C := [byV 120]) rfl rfl (.cons rfl rfl .nil) rfl fun bx => ⟨_, rfl, ?_⟩
  try (case hok => first | exact rdOk_nil | exact rdOk_b (by decide +kernel))
  first | (apply p_op; exact (vwant_n rfl); iterate 4 exact rfl) | (apply d_op; exact (vwant_n rfl); exact rfl; exact noRd rfl; decide +kernel; (iterate 3 exact rfl); rotate_left) | (apply p_op; exact (vwant_g rfl rfl rfl); iterate 4 exact rfl) | (apply d_op; exact (vwant_g rfl rfl rfl); exact rfl; exact noRd rfl; decide +kernel; (iterate 3 exact rfl); rotate_left)
  refine e_share rfl ⟨_, rfl, ?_⟩
  try (case hok => first | exact rdOk_nil | exact rdOk_b (by decide +kernel))
  first | (apply p_callM (bkL B2); exact (vwant_n rfl); iterate 4 exact rfl) | (apply d_callM (bkL B2); exact (vwant_n rfl); decide +kernel; (iterate 4 exact rfl)) | (apply p_callM (bkL B2); exact (vwant_g rfl rfl rfl); iterate 4 exact rfl) | (apply d_callM (bkL B2); exact (vwant_g rfl rfl rfl); decide +kernel; (iterate 4 exact rfl))
  try (case hok => first | exact rdOk_nil | exact rdOk_b (by decide +kernel) | exact rdOk_c)
  case hC => exact (fun hp hs ht => code_s (xs := [120]) s2 ht (hk.give hs) (rb_own hs (i := 0) rfl rfl) (Nat.le_refl 1) (by decide) (by decide))
  rintro u N ⟨rfl, B2, s2, rfl⟩
  first | (apply p_op; exact (vwant_n rfl); iterate 4 exact rfl) | (apply d_op; exact (vwant_n rfl); exact rfl; exact noRd rfl; decide +kernel; (iterate 3 exact rfl); rotate_left) | (apply p_op; exact (vwant_g rfl rfl rfl); iterate 4 exact rfl) | (apply d_op; exact (vwant_g rfl rfl rfl); exact rfl; exact noRd rfl; decide +kernel; (iterate 3 exact rfl); rotate_left)
  refine e_alloc rfl fun h3 => ⟨_, rfl, ?_⟩
  try (case hok => first | exact rdOk_nil | exact rdOk_b (by decide +kernel))
  first | (apply p_do; exact (vwant_n rfl); exact rfl; exact rfl) | (apply d_do; exact (vwant_n rfl); exact rfl; exact noRd rfl; decide +kernel; exact rfl; rotate_left) | (apply p_do; exact (vwant_g rfl rfl rfl); exact rfl; exact rfl) | (apply d_do; exact (vwant_g rfl rfl rfl); exact rfl; exact noRd rfl; decide +kernel; exact rfl; rotate_left)
  refine e_stn (C' := (cutB 8 (macB (secB []) [120])).map byV) rfl rfl (hne hl3) hl3 (by simp) (overV_all (by rw [hl3]; simp)) ⟨_, rfl, ?_⟩
  try (case hok => first | exact rdOk_nil | exact rdOk_b (by decide +kernel))
  refine wo ?_
  first | (apply p_callM (bkL B2); exact (vwant_n rfl); iterate 4 exact rfl) | (apply d_callM (bkL B2); exact (vwant_n rfl); decide +kernel; (iterate 4 exact rfl)) | (apply p_callM (bkL B2); exact (vwant_g rfl rfl rfl); iterate 4 exact rfl) | (apply d_callM (bkL B2); exact (vwant_g rfl rfl rfl); decide +kernel; (iterate 4 exact rfl))
  try (case hok => first | exact rdOk_nil | exact rdOk_b (by decide +kernel) | exact rdOk_c)
  case hC => exact (fun hp hs ht => len_s s2 ht)
  rintro u N ⟨rfl, rfl⟩
  refine wo ?_
  first | (apply wn; iterate 5 exact rfl) | (apply dn; iterate 5 exact rfl) | (apply wg; iterate 7 exact rfl) | (apply dg; iterate 7 exact rfl)
  refine p_iaa rfl rfl (by decide)
  first | refine zX (m_ldl rfl (at' a0)) ?_ | refine yX (m_ldl rfl (at' a0)) ?_
  first | (apply wm; iterate 5 exact rfl) | (apply dm; iterate 6 exact rfl) | (apply wmg; iterate 7 exact rfl) | (apply dmg; iterate 8 exact rfl)
  refine mv_int (v := .b false) rfl rfl (vi_neqF (rfl))
  refine wo ?_
  first | (apply wn; iterate 5 exact rfl) | (apply dn; iterate 5 exact rfl) | (apply wg; iterate 7 exact rfl) | (apply dg; iterate 7 exact rfl)
  refine p_iaa rfl rfl (by decide)
  first | refine zX (m_ldl rfl (at' a1)) ?_ | refine yX (m_ldl rfl (at' a1)) ?_
  first | (apply wm; iterate 5 exact rfl) | (apply dm; iterate 6 exact rfl) | (apply wmg; iterate 7 exact rfl) | (apply dmg; iterate 8 exact rfl)
  refine mv_int (v := .b false) rfl rfl (vi_neqF (rfl))
  refine wo ?_
  first | (apply wn; iterate 5 exact rfl) | (apply dn; iterate 5 exact rfl) | (apply wg; iterate 7 exact rfl) | (apply dg; iterate 7 exact rfl)
  refine p_iaa rfl rfl (by decide)
  first | refine zX (m_ldl rfl (at' a2)) ?_ | refine yX (m_ldl rfl (at' a2)) ?_
  first | (apply wm; iterate 5 exact rfl) | (apply dm; iterate 6 exact rfl) | (apply wmg; iterate 7 exact rfl) | (apply dmg; iterate 8 exact rfl)
  refine mv_int (v := .b false) rfl rfl (vi_neqF (rfl))
  refine wo ?_
  first | (apply wn; iterate 5 exact rfl) | (apply dn; iterate 5 exact rfl) | (apply wg; iterate 7 exact rfl) | (apply dg; iterate 7 exact rfl)
  refine p_iaa rfl rfl (by decide)
  first | refine zX (m_ldl rfl (at' a3)) ?_ | refine yX (m_ldl rfl (at' a3)) ?_
  first | (apply wm; iterate 5 exact rfl) | (apply dm; iterate 6 exact rfl) | (apply wmg; iterate 7 exact rfl) | (apply dmg; iterate 8 exact rfl)
  refine mv_int (v := .b false) rfl rfl (vi_neqF (rfl))
  refine wo ?_
  first | (apply wn; iterate 5 exact rfl) | (apply dn; iterate 5 exact rfl) | (apply wg; iterate 7 exact rfl) | (apply dg; iterate 7 exact rfl)
  refine p_iaa rfl rfl (by decide)
  first | refine zX (m_ldl rfl (at' g0)) ?_ | refine yX (m_ldl rfl (at' g0)) ?_
  first | (apply wm; iterate 5 exact rfl) | (apply dm; iterate 6 exact rfl) | (apply wmg; iterate 7 exact rfl) | (apply dmg; iterate 8 exact rfl)
  refine mv_int (v := .b false) rfl rfl (vi_neqF (rfl))
  refine wo ?_
  first | (apply wn; iterate 5 exact rfl) | (apply dn; iterate 5 exact rfl) | (apply wg; iterate 7 exact rfl) | (apply dg; iterate 7 exact rfl)
  refine p_iaa rfl rfl (by decide)
  first | refine zX (m_ldl rfl (at' g1)) ?_ | refine yX (m_ldl rfl (at' g1)) ?_
  first | (apply wm; iterate 5 exact rfl) | (apply dm; iterate 6 exact rfl) | (apply wmg; iterate 7 exact rfl) | (apply dmg; iterate 8 exact rfl)
  refine mv_int (v := .b false) rfl rfl (vi_neqF (rfl))
  refine wo ?_
  first | (apply wn; iterate 5 exact rfl) | (apply dn; iterate 5 exact rfl) | (apply wg; iterate 7 exact rfl) | (apply dg; iterate 7 exact rfl)
  refine p_iaa rfl rfl (by decide)
  first | refine zX (m_ldl rfl (at' g2)) ?_ | refine yX (m_ldl rfl (at' g2)) ?_
  first | (apply wm; iterate 5 exact rfl) | (apply dm; iterate 6 exact rfl) | (apply wmg; iterate 7 exact rfl) | (apply dmg; iterate 8 exact rfl)
  refine mv_int (v := .b false) rfl rfl (vi_neqF (rfl))
  refine wo ?_
  first | (apply wm; iterate 5 exact rfl) | (apply dm; iterate 6 exact rfl) | (apply wmg; iterate 7 exact rfl) | (apply dmg; iterate 8 exact rfl)
  refine mv_int (v := .b true) rfl rfl (vi_eqlT ((by rw [addS_nil]; rfl)))
  refine wo ?_
  first | (apply wm; iterate 5 exact rfl) | (apply dm; iterate 6 exact rfl) | (apply wmg; iterate 7 exact rfl) | (apply dmg; iterate 8 exact rfl)
  refine mv_int (v := .b true) rfl rfl (vi_eqlT ((by rw [addS_nil]; rfl)))
  refine wo ?_
  have n1 : bkSound B1 = true := by rw [bkSt_sound (x := []) (y := []) s1 (.inr ⟨_, addS_nil _⟩) (.inl rfl)]; rfl
  have n2 : bkSound B2 = true := by rw [bkSt_sound (x := []) (y := []) s2 (.inr ⟨_, addS_nil _⟩) (.inr ⟨_, addS_nil _⟩)]; rfl
  first | (apply p_callM (bkL B1); exact (vwant_n rfl); iterate 4 exact rfl) | (apply d_callM (bkL B1); exact (vwant_n rfl); decide +kernel; (iterate 4 exact rfl)) | (apply p_callM (bkL B1); exact (vwant_g rfl rfl rfl); iterate 4 exact rfl) | (apply d_callM (bkL B1); exact (vwant_g rfl rfl rfl); decide +kernel; (iterate 4 exact rfl))
  try (case hok => first | exact rdOk_nil | exact rdOk_b (by decide +kernel) | exact rdOk_c)
  case hC => exact (fun hp hs ht => sound_s s1 ht)
  rintro u N ⟨rfl, rfl⟩
  rw [n1]
  refine wo ?_
  first | (apply p_callM (bkL B2); exact (vwant_n rfl); iterate 4 exact rfl) | (apply d_callM (bkL B2); exact (vwant_n rfl); decide +kernel; (iterate 4 exact rfl)) | (apply p_callM (bkL B2); exact (vwant_g rfl rfl rfl); iterate 4 exact rfl) | (apply d_callM (bkL B2); exact (vwant_g rfl rfl rfl); decide +kernel; (iterate 4 exact rfl))
  try (case hok => first | exact rdOk_nil | exact rdOk_b (by decide +kernel) | exact rdOk_c)
  case hC => exact (fun hp hs ht => sound_s s2 ht)
  rintro u N ⟨rfl, rfl⟩
  rw [n2]
  refine wo ?_
  first | (apply p_op; exact (vwant_n rfl); iterate 4 exact rfl) | (apply d_op; exact (vwant_n rfl); exact rfl; exact noRd rfl; decide +kernel; (iterate 3 exact rfl); rotate_left) | (apply p_op; exact (vwant_g rfl rfl rfl); iterate 4 exact rfl) | (apply d_op; exact (vwant_g rfl rfl rfl); exact rfl; exact noRd rfl; decide +kernel; (iterate 3 exact rfl); rotate_left)
  refine e_bs (C := [byV 120]) rfl rfl (.cons rfl rfl .nil) rfl fun bx => ⟨_, rfl, ?_⟩
  try (case hok => first | exact rdOk_nil | exact rdOk_b (by decide +kernel))
  first | (apply p_op; exact (vwant_n rfl); iterate 4 exact rfl) | (apply d_op; exact (vwant_n rfl); exact rfl; exact noRd rfl; decide +kernel; (iterate 3 exact rfl); rotate_left) | (apply p_op; exact (vwant_g rfl rfl rfl); iterate 4 exact rfl) | (apply d_op; exact (vwant_g rfl rfl rfl); exact rfl; exact noRd rfl; decide +kernel; (iterate 3 exact rfl); rotate_left)
  refine e_share rfl ⟨_, rfl, ?_⟩
  try (case hok => first | exact rdOk_nil | exact rdOk_b (by decide +kernel))
  first | refine zX (m_ldln (s := 31) (cs := (cutB 8 (macB (secB []) [120])).map byV) rfl (by rw [List.drop_zero]; exact List.take_of_length_le (by omega)) hl3) ?_ | refine yX (m_ldln (s := 31) (cs := (cutB 8 (macB (secB []) [120])).map byV) rfl (by rw [List.drop_zero]; exact List.take_of_length_le (by omega)) hl3) ?_
  first | (apply p_callM (bkL B2); exact (vwant_n rfl); iterate 4 exact rfl) | (apply d_callM (bkL B2); exact (vwant_n rfl); decide +kernel; (iterate 4 exact rfl)) | (apply p_callM (bkL B2); exact (vwant_g rfl rfl rfl); iterate 4 exact rfl) | (apply d_callM (bkL B2); exact (vwant_g rfl rfl rfl); decide +kernel; (iterate 4 exact rfl))
  try (case hok => first | exact rdOk_nil | exact rdOk_b (by decide +kernel) | exact rdOk_c)
  case hC => exact (fun hp hs ht => accept_s (xs := [120]) (code := cutB 8 (macB (secB []) [120])) s2 ht (hk.give hs) (rb_own hs (i := 0) rfl rfl) (Nat.le_refl 1) (by decide) (by rw [cutB_len, macB_len]))
  rintro u N ⟨rfl, B2, s2, rfl⟩
  rw [decide_eq_true rfl]
  refine wo ?_
  exact w_ret (wend_ret (vres1 (rv_tmp rfl)) rfl)
end Go.Proofs.YtmacpjgdipfcaaaDoor
/- Ds18: the statement DigestLess on the machine: fewer bits are the first bits. By this project. -/
set_option maxRecDepth 100000
namespace Go.Proofs.YtmacpjgdipfcaaaDoor
open Go.RowKit Go.Extern.Stop

/-! ### Bits -/
def kB (r : Nat) : UInt8 := UInt8.ofNat (128 / 2 ^ r)
def bt (y : UInt8) (r : Nat) : UInt8 := UInt8.ofNat ((UInt8.ofNat (y.toNat / (kB r).toNat)).toNat % (2 : UInt8).toNat)
theorem kB_val : ∀ r, r < 8 → (kB r).toNat = 2 ^ (7 - r) := by decide
theorem kB_next : ∀ r, r < 8 → UInt8.ofNat ((kB r).toNat / (2 : UInt8).toNat) = kB (r + 1) := by decide
theorem bt_eq {y : UInt8} {r : Nat} (hr : r < 8) : bt y r = if y.toNat.testBit (7 - r) then 1 else 0 := by
  unfold bt
  rw [kB_val r hr]
  have h1 := y.toNat_lt
  have h2 : y.toNat / 2 ^ (7 - r) ≤ y.toNat := Nat.div_le_self _ _
  have e : (UInt8.ofNat (y.toNat / 2 ^ (7 - r))).toNat = y.toNat / 2 ^ (7 - r) := by simp; omega
  rw [e]
  show UInt8.ofNat (y.toNat / 2 ^ (7 - r) % 2) = _
  rw [Nat.testBit_eq_decide_div_mod_eq]
  rcases Nat.mod_two_eq_zero_or_one (y.toNat / 2 ^ (7 - r)) with h | h <;> rw [h] <;> rfl
theorem mask_bit : ∀ m, m < 8 → ∀ r, r < 8 → (UInt8.ofNat (255 * 2 ^ (8 - m))).toNat.testBit (7 - r) = decide (r < m) := by decide
theorem bt_cut {n j r : Nat} {y : UInt8} (hr : r < 8) : bt (cutY n j y) r = if 8 * j + r < n then bt y r else 0 := by
  rw [bt_eq hr, bt_eq hr]
  unfold cutY
  by_cases c : min 8 (n - 8 * j) < 8
  · rw [if_pos c, UInt8.toNat_and, Nat.testBit_and, mask_bit _ c r hr]
    by_cases d : 8 * j + r < n
    · rw [if_pos d, decide_eq_true (by omega), Bool.and_true]
    · rw [if_neg d, decide_eq_false (by omega), Bool.and_false]
      rfl
  · rw [if_neg c, if_pos (show 8 * j + r < n by omega)]
theorem getB {h : List UInt8} {i : Nat} (hh : h.length = 32) (hi : i < 256) : ∃ y, h[i / 8]? = some y := ⟨h[i / 8], List.getElem?_eq_getElem (by omega)⟩
theorem addS_mem (l : List (List UInt8)) (x : List UInt8) : x ∈ addS l x := by
  unfold addS
  split
  · assumption
  · simp
theorem addS_len (l : List (List UInt8)) (x : List UInt8) : (addS l x).length ≤ l.length + 1 := by
  unfold addS
  split
  · omega
  · simp
set_option maxHeartbeats 32000000 in
theorem less_d {n : Int} {A A2 : Option (Nat × Nat)} {xs ys : List UInt8} {c c2 : Nat} {hp : Hp} (ho : OkH hp) (hk : Tab ⟨hp, []⟩) (hA : RB ⟨hp, []⟩ A (xs.map byV)) (hA2 : RB ⟨hp, []⟩ A2 (ys.map byV)) (hc : xs.length ≤ c) (hc2 : ys.length ≤ c2) (hx : xs.length < 72057594037927936) (hy : ys.length < 72057594037927936) :
    Fn kxD 3 [.i .i64 n, .sl A xs.length c false, .sl A2 ys.length c2 false] hp [] fun r _ => r = .v (.b true) := by
  have hsl := secB_len ys
  obtain ⟨hb1, hb2⟩ := bitsN_le n
  have hne : ∀ {l : List V}, l.length = 32 → l ≠ [] := fun hl e => by rw [e] at hl; simp at hl
  refine fn_of_w (T := []) ho.sv (fun _ => rfl) (fn := Tryd.f3) (by kernel_rfl) rfl rfl ?_
  refine wo ?_
  first | refine p_callq (vwant_n rfl) rfl rfl rfl rfl (fun hp hs => bits_d hs.ok) ?_ | refine d_callq (vwant_n rfl) (by decide +kernel) rfl rfl rfl rfl (fun hp hs => bits_d hs.ok) ?_ | refine d_callq0 (vwant_n rfl) (by decide +kernel) rfl rfl rfl rfl (fun hp hs => bits_d hs.ok) ?_ | refine p_callq (vwant_g rfl rfl rfl) rfl rfl rfl rfl (fun hp hs => bits_d hs.ok) ?_ | refine d_callq (vwant_g rfl rfl rfl) (by decide +kernel) rfl rfl rfl rfl (fun hp hs => bits_d hs.ok) ?_ | refine d_callq0 (vwant_g rfl rfl rfl) (by decide +kernel) rfl rfl rfl rfl (fun hp hs => bits_d hs.ok) ?_
  generalize bitsN n = nb at hb1 hb2 ⊢
  have l1 : ((cutB 256 (sumB xs)).map byV).length = 32 := by rw [List.length_map, cutB_len, sumB_len]
  have l2 : ((cutB nb (sumB xs)).map byV).length = 32 := by rw [List.length_map, cutB_len, sumB_len]
  have l3 : ((cutB 256 (macB (secB ys) xs)).map byV).length = 32 := by rw [List.length_map, cutB_len, macB_len]
  have l4 : ((cutB nb (macB (secB ys) xs)).map byV).length = 32 := by rw [List.length_map, cutB_len, macB_len]
  refine wo ?_
  first | (apply p_callY []; exact (vwant_n rfl); iterate 4 exact rfl) | (apply d_callY []; exact (vwant_n rfl); decide +kernel; (iterate 4 exact rfl)) | (apply p_callY []; exact (vwant_g rfl rfl rfl); iterate 4 exact rfl) | (apply d_callY []; exact (vwant_g rfl rfl rfl); decide +kernel; (iterate 4 exact rfl))
  try (case hok => first | exact rdOk_nil | exact rdOk_b (by decide +kernel) | exact rdOk_c)
  case hC => exact (fun hp hs ht => secret_d (xs := ys) hs.ok (hA2.give0 hs))
  rintro u N ⟨bz, rfl, rfl⟩
  refine wo ?_
  first | (apply p_callY []; exact (vwant_n rfl); iterate 4 exact rfl) | (apply d_callY []; exact (vwant_n rfl); decide +kernel; (iterate 4 exact rfl)) | (apply p_callY []; exact (vwant_g rfl rfl rfl); iterate 4 exact rfl) | (apply d_callY []; exact (vwant_g rfl rfl rfl); decide +kernel; (iterate 4 exact rfl))
  try (case hok => first | exact rdOk_nil | exact rdOk_b (by decide +kernel) | exact rdOk_c)
  case hC => exact (fun hp hs ht => new_s (bits := 256) (cb := 256) hsl hs.ok (rb_own0 hs (i := 0) rfl (List.take_of_length_le (Nat.le_refl _))) hsl (by decide) (by decide) (by decide) (by decide))
  rintro u N ⟨p1, B1, rfl, s1, rfl⟩
  refine wo ?_
  first | (apply p_callY []; exact (vwant_n rfl); iterate 4 exact rfl) | (apply d_callY []; exact (vwant_n rfl); decide +kernel; (iterate 4 exact rfl)) | (apply p_callY []; exact (vwant_g rfl rfl rfl); iterate 4 exact rfl) | (apply d_callY []; exact (vwant_g rfl rfl rfl); decide +kernel; (iterate 4 exact rfl))
  try (case hok => first | exact rdOk_nil | exact rdOk_b (by decide +kernel) | exact rdOk_c)
  case hC => exact (fun hp hs ht => new_s (bits := nb) (cb := nb) hsl hs.ok (rb_at0 hs (List.take_of_length_le (Nat.le_refl _))) hsl hb1 hb2 hb1 hb2)
  rintro u N ⟨p2, B2, rfl, s2, rfl⟩
  refine wo ?_
  first | (apply wm; iterate 5 exact rfl) | (apply dm; iterate 6 exact rfl) | (apply wmg; iterate 7 exact rfl) | (apply dmg; iterate 8 exact rfl)
  refine mv_int (v := .b false) rfl rfl (vi_neqF (by omega))
  refine wo ?_
  first | (apply wm; iterate 5 exact rfl) | (apply dm; iterate 6 exact rfl) | (apply wmg; iterate 7 exact rfl) | (apply dmg; iterate 8 exact rfl)
  refine mv_int (v := .b false) rfl rfl (vi_neqF (by omega))
  refine wo ?_
  first | (apply wm; iterate 5 exact rfl) | (apply dm; iterate 6 exact rfl) | (apply wmg; iterate 7 exact rfl) | (apply dmg; iterate 8 exact rfl)
  refine m_eqp rfl rfl
  refine wo ?_
  first | (apply wm; iterate 5 exact rfl) | (apply dm; iterate 6 exact rfl) | (apply wmg; iterate 7 exact rfl) | (apply dmg; iterate 8 exact rfl)
  refine m_eqp rfl rfl
  refine wo ?_
  first | refine p_callq (vwant_n rfl) rfl rfl rfl rfl (fun hp hs => fixed_d hs.ok (hk.give0 hs)) ?_ | refine d_callq (vwant_n rfl) (by decide +kernel) rfl rfl rfl rfl (fun hp hs => fixed_d hs.ok (hk.give0 hs)) ?_ | refine d_callq0 (vwant_n rfl) (by decide +kernel) rfl rfl rfl rfl (fun hp hs => fixed_d hs.ok (hk.give0 hs)) ?_ | refine p_callq (vwant_g rfl rfl rfl) rfl rfl rfl rfl (fun hp hs => fixed_d hs.ok (hk.give0 hs)) ?_ | refine d_callq (vwant_g rfl rfl rfl) (by decide +kernel) rfl rfl rfl rfl (fun hp hs => fixed_d hs.ok (hk.give0 hs)) ?_ | refine d_callq0 (vwant_g rfl rfl rfl) (by decide +kernel) rfl rfl rfl rfl (fun hp hs => fixed_d hs.ok (hk.give0 hs)) ?_
  refine wo ?_
  first | (apply p_callM (bkL B2); exact (vwant_n rfl); iterate 4 exact rfl) | (apply d_callM (bkL B2); exact (vwant_n rfl); decide +kernel; (iterate 4 exact rfl)) | (apply p_callM (bkL B2); exact (vwant_g rfl rfl rfl); iterate 4 exact rfl) | (apply d_callM (bkL B2); exact (vwant_g rfl rfl rfl); decide +kernel; (iterate 4 exact rfl))
  try (case hok => first | exact rdOk_nil | exact rdOk_b (by decide +kernel) | exact rdOk_c)
  case hC => exact (fun hp hs ht => hash_s s2 ht (hk.give hs) (hA2.give hs) hc2 hy (by decide))
  rintro u N ⟨rfl, B2, s2, rfl⟩
  refine wo ?_
  first | (apply p_callM (bkL B2); exact (vwant_n rfl); iterate 4 exact rfl) | (apply d_callM (bkL B2); exact (vwant_n rfl); decide +kernel; (iterate 4 exact rfl)) | (apply p_callM (bkL B2); exact (vwant_g rfl rfl rfl); iterate 4 exact rfl) | (apply d_callM (bkL B2); exact (vwant_g rfl rfl rfl); decide +kernel; (iterate 4 exact rfl))
  try (case hok => first | exact rdOk_nil | exact rdOk_b (by decide +kernel) | exact rdOk_c)
  case hC => exact (fun hp hs ht => code_s s2 ht (hk.give hs) (hA2.give hs) hc2 hy (by decide))
  rintro u N ⟨rfl, B2, s2, rfl⟩
  refine wo ?_
  first | (apply p_callM (bkL B1); exact (vwant_n rfl); iterate 4 exact rfl) | (apply d_callM (bkL B1); exact (vwant_n rfl); decide +kernel; (iterate 4 exact rfl)) | (apply p_callM (bkL B1); exact (vwant_g rfl rfl rfl); iterate 4 exact rfl) | (apply d_callM (bkL B1); exact (vwant_g rfl rfl rfl); decide +kernel; (iterate 4 exact rfl))
  try (case hok => first | exact rdOk_nil | exact rdOk_b (by decide +kernel) | exact rdOk_c)
  case hC => exact (fun hp hs ht => hash_s s1 ht (hk.give hs) (hA.give hs) hc hx (by decide))
  rintro u N ⟨rfl, B1, s1, rfl⟩
  refine wo ?_
  first | (apply p_callM (bkL B2); exact (vwant_n rfl); iterate 4 exact rfl) | (apply d_callM (bkL B2); exact (vwant_n rfl); decide +kernel; (iterate 4 exact rfl)) | (apply p_callM (bkL B2); exact (vwant_g rfl rfl rfl); iterate 4 exact rfl) | (apply d_callM (bkL B2); exact (vwant_g rfl rfl rfl); decide +kernel; (iterate 4 exact rfl))
  try (case hok => first | exact rdOk_nil | exact rdOk_b (by decide +kernel) | exact rdOk_c)
  case hC => exact (fun hp hs ht => hash_s s2 ht (hk.give hs) (hA.give hs) hc hx (Nat.lt_of_le_of_lt (addS_len _ _) (by decide)))
  rintro u N ⟨rfl, B2, s2, rfl⟩
  refine wo ?_
  first | (apply p_op; exact (vwant_n rfl); iterate 4 exact rfl) | (apply d_op; exact (vwant_n rfl); exact rfl; exact noRd rfl; decide +kernel; (iterate 3 exact rfl); rotate_left) | (apply p_op; exact (vwant_g rfl rfl rfl); iterate 4 exact rfl) | (apply d_op; exact (vwant_g rfl rfl rfl); exact rfl; exact noRd rfl; decide +kernel; (iterate 3 exact rfl); rotate_left)
  refine e_alloc rfl fun h1 => ⟨_, rfl, ?_⟩
  try (case hok => first | exact rdOk_nil | exact rdOk_b (by decide +kernel))
  first | (apply p_op; exact (vwant_n rfl); iterate 4 exact rfl) | (apply d_op; exact (vwant_n rfl); exact rfl; exact noRd rfl; decide +kernel; (iterate 3 exact rfl); rotate_left) | (apply p_op; exact (vwant_g rfl rfl rfl); iterate 4 exact rfl) | (apply d_op; exact (vwant_g rfl rfl rfl); exact rfl; exact noRd rfl; decide +kernel; (iterate 3 exact rfl); rotate_left)
  refine e_alloc rfl fun h2 => ⟨_, rfl, ?_⟩
  try (case hok => first | exact rdOk_nil | exact rdOk_b (by decide +kernel))
  first | (apply p_do; exact (vwant_n rfl); exact rfl; exact rfl) | (apply d_do; exact (vwant_n rfl); exact rfl; exact noRd rfl; decide +kernel; exact rfl; rotate_left) | (apply p_do; exact (vwant_g rfl rfl rfl); exact rfl; exact rfl) | (apply d_do; exact (vwant_g rfl rfl rfl); exact rfl; exact noRd rfl; decide +kernel; exact rfl; rotate_left)
  refine e_stn (C' := (cutB 256 (sumB xs)).map byV) rfl rfl (hne l1) l1 (by simp) (overV_all (by rw [l1]; simp)) ⟨_, rfl, ?_⟩
  try (case hok => first | exact rdOk_nil | exact rdOk_b (by decide +kernel))
  first | (apply p_do; exact (vwant_n rfl); exact rfl; exact rfl) | (apply d_do; exact (vwant_n rfl); exact rfl; exact noRd rfl; decide +kernel; exact rfl; rotate_left) | (apply p_do; exact (vwant_g rfl rfl rfl); exact rfl; exact rfl) | (apply d_do; exact (vwant_g rfl rfl rfl); exact rfl; exact noRd rfl; decide +kernel; exact rfl; rotate_left)
  refine e_stn (C' := (cutB nb (sumB xs)).map byV) rfl rfl (hne l2) l2 (by simp) (overV_all (by rw [l2]; simp)) ⟨_, rfl, ?_⟩
  try (case hok => first | exact rdOk_nil | exact rdOk_b (by decide +kernel))
  refine wo ?_
  first | (apply p_callM (bkL B1); exact (vwant_n rfl); iterate 4 exact rfl) | (apply d_callM (bkL B1); exact (vwant_n rfl); decide +kernel; (iterate 4 exact rfl)) | (apply p_callM (bkL B1); exact (vwant_g rfl rfl rfl); iterate 4 exact rfl) | (apply d_callM (bkL B1); exact (vwant_g rfl rfl rfl); decide +kernel; (iterate 4 exact rfl))
  try (case hok => first | exact rdOk_nil | exact rdOk_b (by decide +kernel) | exact rdOk_c)
  case hC => exact (fun hp hs ht => code_s s1 ht (hk.give hs) (hA.give hs) hc hx (by decide))
  rintro u N ⟨rfl, B1, s1, rfl⟩
  refine wo ?_
  first | (apply p_callM (bkL B2); exact (vwant_n rfl); iterate 4 exact rfl) | (apply d_callM (bkL B2); exact (vwant_n rfl); decide +kernel; (iterate 4 exact rfl)) | (apply p_callM (bkL B2); exact (vwant_g rfl rfl rfl); iterate 4 exact rfl) | (apply d_callM (bkL B2); exact (vwant_g rfl rfl rfl); decide +kernel; (iterate 4 exact rfl))
  try (case hok => first | exact rdOk_nil | exact rdOk_b (by decide +kernel) | exact rdOk_c)
  case hC => exact (fun hp hs ht => code_s s2 ht (hk.give hs) (hA.give hs) hc hx (Nat.lt_of_le_of_lt (addS_len _ _) (by decide)))
  rintro u N ⟨rfl, B2, s2, rfl⟩
  refine wo ?_
  first | (apply p_op; exact (vwant_n rfl); iterate 4 exact rfl) | (apply d_op; exact (vwant_n rfl); exact rfl; exact noRd rfl; decide +kernel; (iterate 3 exact rfl); rotate_left) | (apply p_op; exact (vwant_g rfl rfl rfl); iterate 4 exact rfl) | (apply d_op; exact (vwant_g rfl rfl rfl); exact rfl; exact noRd rfl; decide +kernel; (iterate 3 exact rfl); rotate_left)
  refine e_alloc rfl fun h3 => ⟨_, rfl, ?_⟩
  try (case hok => first | exact rdOk_nil | exact rdOk_b (by decide +kernel))
  first | (apply p_op; exact (vwant_n rfl); iterate 4 exact rfl) | (apply d_op; exact (vwant_n rfl); exact rfl; exact noRd rfl; decide +kernel; (iterate 3 exact rfl); rotate_left) | (apply p_op; exact (vwant_g rfl rfl rfl); iterate 4 exact rfl) | (apply d_op; exact (vwant_g rfl rfl rfl); exact rfl; exact noRd rfl; decide +kernel; (iterate 3 exact rfl); rotate_left)
  refine e_alloc rfl fun h4 => ⟨_, rfl, ?_⟩
  try (case hok => first | exact rdOk_nil | exact rdOk_b (by decide +kernel))
  first | (apply p_do; exact (vwant_n rfl); exact rfl; exact rfl) | (apply d_do; exact (vwant_n rfl); exact rfl; exact noRd rfl; decide +kernel; exact rfl; rotate_left) | (apply p_do; exact (vwant_g rfl rfl rfl); exact rfl; exact rfl) | (apply d_do; exact (vwant_g rfl rfl rfl); exact rfl; exact noRd rfl; decide +kernel; exact rfl; rotate_left)
  refine e_stn (C' := (cutB 256 (macB (secB ys) xs)).map byV) rfl rfl (hne l3) l3 (by simp) (overV_all (by rw [l3]; simp)) ⟨_, rfl, ?_⟩
  try (case hok => first | exact rdOk_nil | exact rdOk_b (by decide +kernel))
  first | (apply p_do; exact (vwant_n rfl); exact rfl; exact rfl) | (apply d_do; exact (vwant_n rfl); exact rfl; exact noRd rfl; decide +kernel; exact rfl; rotate_left) | (apply p_do; exact (vwant_g rfl rfl rfl); exact rfl; exact rfl) | (apply d_do; exact (vwant_g rfl rfl rfl); exact rfl; exact noRd rfl; decide +kernel; exact rfl; rotate_left)
  refine e_stn (C' := (cutB nb (macB (secB ys) xs)).map byV) rfl rfl (hne l4) l4 (by simp) (overV_all (by rw [l4]; simp)) ⟨_, rfl, ?_⟩
  try (case hok => first | exact rdOk_nil | exact rdOk_b (by decide +kernel))
  refine wo ?_
  refine w_seq ?_
  refine wo ?_
  have hc1 : cutB 256 (sumB xs) = cutB 256 (sumB xs) := rfl
  refine w_loop (ι := Nat) (fun i => [(17, .i .i64 (i : Nat)), (16, .p (some (h4, 0))), (15, .p (some (h3, 0))), (14, .p (some (h2, 0))), (13, .p (some (h1, 0))), (7, .i .i64 (nb : Nat)), (9, .p (some (p1, 0))), (11, .p (some (p2, 0))), (1, .sl A xs.length c false)]) (fun _ => _) (fun i => i ≤ 256) (fun i => 256 - i) 0 (Nat.zero_le _) ⟨rfl, rfl, rfl, rfl, rfl, rfl, rfl, rfl, rfl, trivial⟩ (fun hp h => h) ?_
  intro i hi
  refine wo ?_
  by_cases g : i < 256
  · first | (apply wm; iterate 5 exact rfl) | (apply dm; iterate 6 exact rfl) | (apply wmg; iterate 7 exact rfl) | (apply dmg; iterate 8 exact rfl)
    refine mv_int (v := .b true) rfl rfl (vi_lssT (by omega))
    refine wo ?_
    refine w_seq ?_
    refine wo ?_
    refine w_seq ?_
    refine wo ?_
    refine w_loop (ι := Nat) (fun j => [(19, .i .i64 (j : Nat)), (18, byV (kB j)), (17, .i .i64 (i : Nat)), (16, .p (some (h4, 0))), (15, .p (some (h3, 0))), (14, .p (some (h2, 0))), (13, .p (some (h1, 0))), (7, .i .i64 (nb : Nat)), (9, .p (some (p1, 0))), (11, .p (some (p2, 0))), (1, .sl A xs.length c false)]) (fun _ => _) (fun j => j ≤ i % 8) (fun j => i % 8 - j) 0 (Nat.zero_le _) ⟨rfl, rfl, rfl, rfl, rfl, rfl, rfl, rfl, rfl, rfl, rfl, trivial⟩ (fun hp h => h) ?_
    intro j hj
    have hr8 : i % 8 < 8 := Nat.mod_lt _ (by decide)
    refine wo ?_
    first | (apply wm; iterate 5 exact rfl) | (apply dm; iterate 6 exact rfl) | (apply wmg; iterate 7 exact rfl) | (apply dmg; iterate 8 exact rfl)
    refine m_remN rfl rfl (by decide)
    by_cases g2 : j < i % 8
    · first | (apply wm; iterate 5 exact rfl) | (apply dm; iterate 6 exact rfl) | (apply wmg; iterate 7 exact rfl) | (apply dmg; iterate 8 exact rfl)
      refine mv_int (v := .b true) rfl rfl (vi_lssT (by omega))
      refine wo ?_
      first | (apply wm; iterate 5 exact rfl) | (apply dm; iterate 6 exact rfl) | (apply wmg; iterate 7 exact rfl) | (apply dmg; iterate 8 exact rfl)
      refine m_quoB (y := 2) rfl rfl (by decide)
      rw [kB_next j (by omega)]
      refine wo ?_
      exact ⟨rfl, j + 1, g2, by omega, ⟨rfl, rfl, rfl, rfl, rfl, rfl, rfl, rfl, rfl, rfl, rfl, trivial⟩, fun hp h => h⟩
    · first | (apply wm; iterate 5 exact rfl) | (apply dm; iterate 6 exact rfl) | (apply wmg; iterate 7 exact rfl) | (apply dmg; iterate 8 exact rfl)
      refine mv_int (v := .b false) rfl rfl (vi_lssF (by omega))
      refine wo ?_
      refine w_exit ?_
      obtain rfl : j = i % 8 := by omega
      obtain ⟨v, hv⟩ := getB (sumB_len xs) g
      obtain ⟨m, hm⟩ := getB (macB_len (secB ys) xs) g
      have hk0 : (kB (i % 8)).toNat ≠ 0 := by rw [kB_val _ hr8]; exact Nat.pos_iff_ne_zero.1 (Nat.two_pow_pos _)
      have hi8 : 8 * (i / 8) + i % 8 = i := Nat.div_add_mod i 8
      have at' : ∀ {l : List UInt8} {i : Nat} {y : UInt8}, l[i]? = some y → (l.map byV)[0 + i]? = some (byV y) := fun {l i y} h => by rw [Nat.zero_add, List.getElem?_map, h]; rfl
      have big : ∀ y : UInt8, UInt8.ofNat ((UInt8.ofNat ((cutY 256 (i / 8) y).toNat / (kB (i % 8)).toNat)).toNat % (2 : UInt8).toNat) = bt y (i % 8) := fun y => by
        have := bt_cut (n := 256) (j := i / 8) (y := y) hr8
        rw [hi8, if_pos g] at this
        exact this
      have few : ∀ y : UInt8, UInt8.ofNat ((UInt8.ofNat ((cutY nb (i / 8) y).toNat / (kB (i % 8)).toNat)).toNat % (2 : UInt8).toNat) = if i < nb then bt y (i % 8) else 0 := fun y => by
        have := bt_cut (n := nb) (j := i / 8) (y := y) hr8
        rw [hi8] at this
        exact this
      refine wo ?_
      first | (apply wm; iterate 5 exact rfl) | (apply dm; iterate 6 exact rfl) | (apply wmg; iterate 7 exact rfl) | (apply dmg; iterate 8 exact rfl)
      refine m_quoN rfl rfl (by decide) (by omega)
      first | (apply wn; iterate 5 exact rfl) | (apply dn; iterate 5 exact rfl) | (apply wg; iterate 7 exact rfl) | (apply dg; iterate 7 exact rfl)
      refine p_iaa rfl rfl (by omega)
      first | refine zX (m_ldl rfl (at' (cutB_at hv))) ?_ | refine yX (m_ldl rfl (at' (cutB_at hv))) ?_
      refine wo ?_
      first | (apply wm; iterate 5 exact rfl) | (apply dm; iterate 6 exact rfl) | (apply wmg; iterate 7 exact rfl) | (apply dmg; iterate 8 exact rfl)
      refine m_quoB rfl rfl hk0
      first | (apply wm; iterate 5 exact rfl) | (apply dm; iterate 6 exact rfl) | (apply wmg; iterate 7 exact rfl) | (apply dmg; iterate 8 exact rfl)
      refine m_remB (y := 2) rfl rfl (by decide)
      rw [big]
      refine wo ?_
      first | (apply wm; iterate 5 exact rfl) | (apply dm; iterate 6 exact rfl) | (apply wmg; iterate 7 exact rfl) | (apply dmg; iterate 8 exact rfl)
      refine m_quoN rfl rfl (by decide) (by omega)
      first | (apply wn; iterate 5 exact rfl) | (apply dn; iterate 5 exact rfl) | (apply wg; iterate 7 exact rfl) | (apply dg; iterate 7 exact rfl)
      refine p_iaa rfl rfl (by omega)
      first | refine zX (m_ldl rfl (at' (cutB_at hv))) ?_ | refine yX (m_ldl rfl (at' (cutB_at hv))) ?_
      refine wo ?_
      first | (apply wm; iterate 5 exact rfl) | (apply dm; iterate 6 exact rfl) | (apply wmg; iterate 7 exact rfl) | (apply dmg; iterate 8 exact rfl)
      refine m_quoB rfl rfl hk0
      first | (apply wm; iterate 5 exact rfl) | (apply dm; iterate 6 exact rfl) | (apply wmg; iterate 7 exact rfl) | (apply dmg; iterate 8 exact rfl)
      refine m_remB (y := 2) rfl rfl (by decide)
      rw [few]
      refine wo ?_
      first | (apply wm; iterate 5 exact rfl) | (apply dm; iterate 6 exact rfl) | (apply wmg; iterate 7 exact rfl) | (apply dmg; iterate 8 exact rfl)
      refine m_quoN rfl rfl (by decide) (by omega)
      first | (apply wn; iterate 5 exact rfl) | (apply dn; iterate 5 exact rfl) | (apply wg; iterate 7 exact rfl) | (apply dg; iterate 7 exact rfl)
      refine p_iaa rfl rfl (by omega)
      first | refine zX (m_ldl rfl (at' (cutB_at hm))) ?_ | refine yX (m_ldl rfl (at' (cutB_at hm))) ?_
      refine wo ?_
      first | (apply wm; iterate 5 exact rfl) | (apply dm; iterate 6 exact rfl) | (apply wmg; iterate 7 exact rfl) | (apply dmg; iterate 8 exact rfl)
      refine m_quoB rfl rfl hk0
      first | (apply wm; iterate 5 exact rfl) | (apply dm; iterate 6 exact rfl) | (apply wmg; iterate 7 exact rfl) | (apply dmg; iterate 8 exact rfl)
      refine m_remB (y := 2) rfl rfl (by decide)
      rw [big]
      refine wo ?_
      first | (apply wm; iterate 5 exact rfl) | (apply dm; iterate 6 exact rfl) | (apply wmg; iterate 7 exact rfl) | (apply dmg; iterate 8 exact rfl)
      refine m_quoN rfl rfl (by decide) (by omega)
      first | (apply wn; iterate 5 exact rfl) | (apply dn; iterate 5 exact rfl) | (apply wg; iterate 7 exact rfl) | (apply dg; iterate 7 exact rfl)
      refine p_iaa rfl rfl (by omega)
      first | refine zX (m_ldl rfl (at' (cutB_at hm))) ?_ | refine yX (m_ldl rfl (at' (cutB_at hm))) ?_
      refine wo ?_
      first | (apply wm; iterate 5 exact rfl) | (apply dm; iterate 6 exact rfl) | (apply wmg; iterate 7 exact rfl) | (apply dmg; iterate 8 exact rfl)
      refine m_quoB rfl rfl hk0
      first | (apply wm; iterate 5 exact rfl) | (apply dm; iterate 6 exact rfl) | (apply wmg; iterate 7 exact rfl) | (apply dmg; iterate 8 exact rfl)
      refine m_remB (y := 2) rfl rfl (by decide)
      rw [few]
      refine wo ?_
      by_cases g3 : i < nb
      · rw [if_pos g3, if_pos g3]
        first | (apply wm; iterate 5 exact rfl) | (apply dm; iterate 6 exact rfl) | (apply wmg; iterate 7 exact rfl) | (apply dmg; iterate 8 exact rfl)
        refine mv_int (v := .b true) rfl rfl (vi_lssT (by omega))
        refine wo ?_
        first | (apply wm; iterate 5 exact rfl) | (apply dm; iterate 6 exact rfl) | (apply wmg; iterate 7 exact rfl) | (apply dmg; iterate 8 exact rfl)
        refine mv_int (v := .b false) rfl rfl (vi_neqF (rfl))
        refine wo ?_
        first | (apply wm; iterate 5 exact rfl) | (apply dm; iterate 6 exact rfl) | (apply wmg; iterate 7 exact rfl) | (apply dmg; iterate 8 exact rfl)
        refine mv_int (v := .b false) rfl rfl (vi_neqF (rfl))
        refine wo ?_
        first | (apply wm; iterate 5 exact rfl) | (apply dm; iterate 6 exact rfl) | (apply wmg; iterate 7 exact rfl) | (apply dmg; iterate 8 exact rfl)
        refine mv_int (v := .b false) rfl rfl (vi_geqF (by omega))
        refine wo ?_
        exact ⟨rfl, i + 1, g, by omega, ⟨rfl, rfl, rfl, rfl, rfl, rfl, rfl, rfl, rfl, trivial⟩, fun hp h => h⟩
      · rw [if_neg g3, if_neg g3]
        first | (apply wm; iterate 5 exact rfl) | (apply dm; iterate 6 exact rfl) | (apply wmg; iterate 7 exact rfl) | (apply dmg; iterate 8 exact rfl)
        refine mv_int (v := .b false) rfl rfl (vi_lssF (by omega))
        refine wo ?_
        first | (apply wm; iterate 5 exact rfl) | (apply dm; iterate 6 exact rfl) | (apply wmg; iterate 7 exact rfl) | (apply dmg; iterate 8 exact rfl)
        refine mv_int (v := .b true) rfl rfl (vi_geqT (by omega))
        refine wo ?_
        first | (apply wm; iterate 5 exact rfl) | (apply dm; iterate 6 exact rfl) | (apply wmg; iterate 7 exact rfl) | (apply dmg; iterate 8 exact rfl)
        refine mv_int (v := .b false) rfl rfl (vi_neqF (rfl))
        refine wo ?_
        first | (apply wm; iterate 5 exact rfl) | (apply dm; iterate 6 exact rfl) | (apply wmg; iterate 7 exact rfl) | (apply dmg; iterate 8 exact rfl)
        refine mv_int (v := .b false) rfl rfl (vi_neqF (rfl))
        refine wo ?_
        exact ⟨rfl, i + 1, g, by omega, ⟨rfl, rfl, rfl, rfl, rfl, rfl, rfl, rfl, rfl, trivial⟩, fun hp h => h⟩
  · first | (apply wm; iterate 5 exact rfl) | (apply dm; iterate 6 exact rfl) | (apply wmg; iterate 7 exact rfl) | (apply dmg; iterate 8 exact rfl)
    refine mv_int (v := .b false) rfl rfl (vi_lssF (by omega))
    refine wo ?_
    refine w_exit ?_
    refine wo ?_
    first | refine zX (m_ldln (s := 31) (cs := (cutB nb (macB (secB ys) xs)).map byV) rfl (by rw [List.drop_zero]; exact List.take_of_length_le (by omega)) l4) ?_ | refine yX (m_ldln (s := 31) (cs := (cutB nb (macB (secB ys) xs)).map byV) rfl (by rw [List.drop_zero]; exact List.take_of_length_le (by omega)) l4) ?_
    first | (apply p_callM (bkL B2); exact (vwant_n rfl); iterate 4 exact rfl) | (apply d_callM (bkL B2); exact (vwant_n rfl); decide +kernel; (iterate 4 exact rfl)) | (apply p_callM (bkL B2); exact (vwant_g rfl rfl rfl); iterate 4 exact rfl) | (apply d_callM (bkL B2); exact (vwant_g rfl rfl rfl); decide +kernel; (iterate 4 exact rfl))
    try (case hok => first | exact rdOk_nil | exact rdOk_b (by decide +kernel) | exact rdOk_c)
    case hC => exact (fun hp hs ht => accept_s (code := cutB nb (macB (secB ys) xs)) s2 ht (hk.give hs) (hA.give hs) hc hx (by rw [cutB_len, macB_len]))
    rintro u N ⟨rfl, B2, s2, rfl⟩
    rw [decide_eq_true rfl]
    rw [if_neg (fun h => h.2 (addS_mem _ _))] at s2
    refine wo ?_
    first | refine zX (m_ldln (s := 31) (cs := (cutB 256 (macB (secB ys) xs)).map byV) rfl (by rw [List.drop_zero]; exact List.take_of_length_le (by omega)) l3) ?_ | refine yX (m_ldln (s := 31) (cs := (cutB 256 (macB (secB ys) xs)).map byV) rfl (by rw [List.drop_zero]; exact List.take_of_length_le (by omega)) l3) ?_
    first | (apply p_callM (bkL B1); exact (vwant_n rfl); iterate 4 exact rfl) | (apply d_callM (bkL B1); exact (vwant_n rfl); decide +kernel; (iterate 4 exact rfl)) | (apply p_callM (bkL B1); exact (vwant_g rfl rfl rfl); iterate 4 exact rfl) | (apply d_callM (bkL B1); exact (vwant_g rfl rfl rfl); decide +kernel; (iterate 4 exact rfl))
    try (case hok => first | exact rdOk_nil | exact rdOk_b (by decide +kernel) | exact rdOk_c)
    case hC => exact (fun hp hs ht => accept_s (code := cutB 256 (macB (secB ys) xs)) s1 ht (hk.give hs) (hA.give hs) hc hx (by rw [cutB_len, macB_len]))
    rintro u N ⟨rfl, B1, s1, rfl⟩
    rw [decide_eq_true rfl]
    rw [if_neg (fun h => h.2 (addS_mem _ _))] at s1
    refine wo ?_
    have n1 : bkSound B1 = true := by rw [bkSt_sound (x := []) (y := []) s1 (.inr ⟨_, addS_nil _⟩) (.inr ⟨_, addS_nil _⟩)]; rfl
    first | (apply p_callM (bkL B1); exact (vwant_n rfl); iterate 4 exact rfl) | (apply d_callM (bkL B1); exact (vwant_n rfl); decide +kernel; (iterate 4 exact rfl)) | (apply p_callM (bkL B1); exact (vwant_g rfl rfl rfl); iterate 4 exact rfl) | (apply d_callM (bkL B1); exact (vwant_g rfl rfl rfl); decide +kernel; (iterate 4 exact rfl))
    try (case hok => first | exact rdOk_nil | exact rdOk_b (by decide +kernel) | exact rdOk_c)
    case hC => exact (fun hp hs ht => sound_s s1 ht)
    rintro u N ⟨rfl, rfl⟩
    rw [n1]
    refine wo ?_
    first | (apply p_callM (bkL B2); exact (vwant_n rfl); iterate 4 exact rfl) | (apply d_callM (bkL B2); exact (vwant_n rfl); decide +kernel; (iterate 4 exact rfl)) | (apply p_callM (bkL B2); exact (vwant_g rfl rfl rfl); iterate 4 exact rfl) | (apply d_callM (bkL B2); exact (vwant_g rfl rfl rfl); decide +kernel; (iterate 4 exact rfl))
    try (case hok => first | exact rdOk_nil | exact rdOk_b (by decide +kernel) | exact rdOk_c)
    case hC => exact (fun hp hs ht => forg0_s s2 ht)
    rintro u N ⟨rfl, rfl⟩
    refine wo ?_
    first | (apply wm; iterate 5 exact rfl) | (apply dm; iterate 6 exact rfl) | (apply wmg; iterate 7 exact rfl) | (apply dmg; iterate 8 exact rfl)
    refine mv_int (v := .b true) rfl rfl (vi_eqlT (rfl))
    refine wo ?_
    exact w_ret (wend_ret (vres1 (rv_tmp rfl)) rfl)
end Go.Proofs.YtmacpjgdipfcaaaDoor
/- Ds19: equal bytes told as equal; DigestForges on the machine. By this project. -/
set_option maxRecDepth 100000
namespace Go.Proofs.YtmacpjgdipfcaaaDoor
open Go.RowKit Go.Extern.Stop

section
variable {K : Kx} {hp0 : Bs} {l : VL} {L : HV} {a b : Operand} {t t' : TypeId}
theorem m_eqA {e : TypeId} {n : Nat} {ti : TI} {xs ys : List UInt8} [ht : TiV K.C t ti] [hA : ArrV K.C t n e] [hI : IntV K.C e .u8] [hR : RowV K.C e false] [hS : SizeV K.C e 1] (he : ti.eq = true) (hx : evL l a = some (hK xs)) (hy : evL l b = some (hK ys)) (h1 : xs.length = n) (h2 : ys.length = n) : MVO K hp0 l L (.binOp .eql t a b t') (.b (decide (xs = ys))) :=
  mv_eql hx hy rfl fun hp => by
    simp only [veqOp, ht.h, Option.bind_some, he]
    exact veq_by (d := 28) h1 h2
theorem m_neqA {e : TypeId} {n : Nat} {ti : TI} {xs ys : List UInt8} [ht : TiV K.C t ti] [hA : ArrV K.C t n e] [hI : IntV K.C e .u8] [hR : RowV K.C e false] [hS : SizeV K.C e 1] (he : ti.eq = true) (hx : evL l a = some (hK xs)) (hy : evL l b = some (hK ys)) (h1 : xs.length = n) (h2 : ys.length = n) : MVO K hp0 l L (.binOp .neq t a b t') (.b (!decide (xs = ys))) :=
  mv_neq hx hy rfl fun hp => by
    simp only [veqOp, ht.h, Option.bind_some, he]
    exact veq_by (d := 28) h1 h2
theorem m_neqb {ti : TI} {x y : Bool} [ht : TiV K.C t ti] (hd : ti.d = .bool) (hx : evL l a = some (.b x)) (hy : evL l b = some (.b y)) : MVO K hp0 l L (.binOp .neq t a b t') (.b (!(x == y))) :=
  mv_neq hx hy rfl fun hp => by simp only [veqOp, veq, ht.h, Option.bind_some, hd]
end
/-- The common beginning of bytes with themselves. -/
theorem common_d {A A2 : Option (Nat × Nat)} {xs : List UInt8} {c c2 : Nat} {o1 o2 : Bool} {hp : Hp} (ho : OkH hp) (hA : RB ⟨hp, []⟩ A (xs.map byV)) (hA2 : RB ⟨hp, []⟩ A2 (xs.map byV)) (hl : xs.length < 4611686018427387904) :
    Fn kxD 39 [.sl A xs.length c o1, .sl A2 xs.length c2 o2] hp [] fun r _ => r = .v (.i .i64 (xs.length : Int)) := by
  refine fn_of_w (T := []) ho.sv (fun _ => rfl) (fn := Tryd.f39) (by kernel_rfl) rfl rfl ?_
  refine wo ?_
  refine w_seq ?_
  refine wo ?_
  refine w_loop (ι := Nat) (fun i => [(5, .i .i64 (i : Nat)), (0, .sl A xs.length c o1), (1, .sl A2 xs.length c2 o2)]) (fun _ => []) (fun i => i ≤ xs.length) (fun i => xs.length - i) 0 (Nat.zero_le _) ⟨rfl, rfl, rfl, trivial⟩ (fun hp h => h) ?_
  intro i hi
  refine wo ?_
  by_cases g : i < xs.length
  · obtain ⟨b1, p1, rfl⟩ := rv_some' hA.1.rv (by rw [List.length_map]; omega)
    obtain ⟨b2, p2, rfl⟩ := rv_some' hA2.1.rv (by rw [List.length_map]; omega)
    have hv : (xs.map byV)[i]? = some (byV xs[i]) := by rw [List.getElem?_map, List.getElem?_eq_getElem g]; rfl
    first | (apply wm; iterate 5 exact rfl) | (apply dm; iterate 6 exact rfl) | (apply wmg; iterate 7 exact rfl) | (apply dmg; iterate 8 exact rfl)
    refine mv_int (v := .b true) rfl rfl (vi_lssT (by omega))
    refine wo ?_
    first | (apply wm; iterate 5 exact rfl) | (apply dm; iterate 6 exact rfl) | (apply wmg; iterate 7 exact rfl) | (apply dmg; iterate 8 exact rfl)
    refine mv_int (v := .b true) rfl rfl (vi_lssT (by omega))
    refine wo ?_
    first | (apply wn; iterate 5 exact rfl) | (apply dn; iterate 5 exact rfl) | (apply wg; iterate 7 exact rfl) | (apply dg; iterate 7 exact rfl)
    refine p_ia rfl rfl g
    first | (apply wm; iterate 5 exact rfl) | (apply dm; iterate 6 exact rfl) | (apply wmg; iterate 7 exact rfl) | (apply dmg; iterate 8 exact rfl)
    refine m_ldN rfl hA.1 hA.2 rfl hv
    refine wo ?_
    first | (apply wn; iterate 5 exact rfl) | (apply dn; iterate 5 exact rfl) | (apply wg; iterate 7 exact rfl) | (apply dg; iterate 7 exact rfl)
    refine p_ia rfl rfl g
    first | (apply wm; iterate 5 exact rfl) | (apply dm; iterate 6 exact rfl) | (apply wmg; iterate 7 exact rfl) | (apply dmg; iterate 8 exact rfl)
    refine m_ldN rfl hA2.1 hA2.2 rfl hv
    first | (apply wm; iterate 5 exact rfl) | (apply dm; iterate 6 exact rfl) | (apply wmg; iterate 7 exact rfl) | (apply dmg; iterate 8 exact rfl)
    refine mv_int (v := .b true) rfl rfl (vi_eqlT (rfl))
    refine wo ?_
    exact ⟨rfl, i + 1, g, by omega, ⟨rfl, rfl, rfl, trivial⟩, fun hp h => h⟩
  · first | (apply wm; iterate 5 exact rfl) | (apply dm; iterate 6 exact rfl) | (apply wmg; iterate 7 exact rfl) | (apply dmg; iterate 8 exact rfl)
    refine mv_int (v := .b false) rfl rfl (vi_lssF (by omega))
    refine wo ?_
    refine w_exit ?_
    obtain rfl : i = xs.length := by omega
    refine wo ?_
    exact w_ret (wend_ret (vres1 (rv_tmp rfl)) rfl)
theorem same_d {A A2 : Option (Nat × Nat)} {xs : List UInt8} {c c2 : Nat} {o1 o2 : Bool} {hp : Hp} (ho : OkH hp) (hA : RB ⟨hp, []⟩ A (xs.map byV)) (hA2 : RB ⟨hp, []⟩ A2 (xs.map byV)) (hl : xs.length < 4611686018427387904) :
    Fn kxD 14 [.sl A xs.length c o1, .sl A2 xs.length c2 o2] hp [] fun r _ => r = .v (.b true) := by
  have hcmp : ∀ {hp : Hp}, OkH hp → RB ⟨hp, []⟩ A (xs.map byV) → RB ⟨hp, []⟩ A2 (xs.map byV) → Fn kxD 28 [.sl A xs.length c o1, .sl A2 xs.length c2 o2] hp [] fun r _ => r = .v (.i .i64 0) := by
    intro hp ho hA hA2
    refine fn_of_w (T := []) ho.sv (fun _ => rfl) (fn := Tryd.f28) (by kernel_rfl) rfl rfl ?_
    refine wo ?_
    first | refine p_callq (vwant_n rfl) rfl rfl rfl rfl (fun hp hs => common_d hs.ok (hA.give0 hs) (hA2.give0 hs) hl) ?_ | refine d_callq (vwant_n rfl) (by decide +kernel) rfl rfl rfl rfl (fun hp hs => common_d hs.ok (hA.give0 hs) (hA2.give0 hs) hl) ?_ | refine d_callq0 (vwant_n rfl) (by decide +kernel) rfl rfl rfl rfl (fun hp hs => common_d hs.ok (hA.give0 hs) (hA2.give0 hs) hl) ?_ | refine p_callq (vwant_g rfl rfl rfl) rfl rfl rfl rfl (fun hp hs => common_d hs.ok (hA.give0 hs) (hA2.give0 hs) hl) ?_ | refine d_callq (vwant_g rfl rfl rfl) (by decide +kernel) rfl rfl rfl rfl (fun hp hs => common_d hs.ok (hA.give0 hs) (hA2.give0 hs) hl) ?_ | refine d_callq0 (vwant_g rfl rfl rfl) (by decide +kernel) rfl rfl rfl rfl (fun hp hs => common_d hs.ok (hA.give0 hs) (hA2.give0 hs) hl) ?_
    refine wo ?_
    first | (apply wm; iterate 5 exact rfl) | (apply dm; iterate 6 exact rfl) | (apply wmg; iterate 7 exact rfl) | (apply dmg; iterate 8 exact rfl)
    refine mv_int (v := .b true) rfl rfl (vi_eqlT (rfl))
    refine wo ?_
    first | (apply wm; iterate 5 exact rfl) | (apply dm; iterate 6 exact rfl) | (apply wmg; iterate 7 exact rfl) | (apply dmg; iterate 8 exact rfl)
    refine mv_int (v := .b true) rfl rfl (vi_eqlT (rfl))
    refine wo ?_
    exact w_ret (wend_ret (vres1 (rv_tmp rfl)) rfl)
  refine fn_of_w (T := []) ho.sv (fun _ => rfl) (fn := Tryd.f14) (by kernel_rfl) rfl rfl ?_
  refine wo ?_
  first | refine p_callq (vwant_n rfl) rfl rfl rfl rfl (fun hp hs => hcmp hs.ok (hA.give0 hs) (hA2.give0 hs)) ?_ | refine d_callq (vwant_n rfl) (by decide +kernel) rfl rfl rfl rfl (fun hp hs => hcmp hs.ok (hA.give0 hs) (hA2.give0 hs)) ?_ | refine d_callq0 (vwant_n rfl) (by decide +kernel) rfl rfl rfl rfl (fun hp hs => hcmp hs.ok (hA.give0 hs) (hA2.give0 hs)) ?_ | refine p_callq (vwant_g rfl rfl rfl) rfl rfl rfl rfl (fun hp hs => hcmp hs.ok (hA.give0 hs) (hA2.give0 hs)) ?_ | refine d_callq (vwant_g rfl rfl rfl) (by decide +kernel) rfl rfl rfl rfl (fun hp hs => hcmp hs.ok (hA.give0 hs) (hA2.give0 hs)) ?_ | refine d_callq0 (vwant_g rfl rfl rfl) (by decide +kernel) rfl rfl rfl rfl (fun hp hs => hcmp hs.ok (hA.give0 hs) (hA2.give0 hs)) ?_
  refine wo ?_
  first | (apply wm; iterate 5 exact rfl) | (apply dm; iterate 6 exact rfl) | (apply wmg; iterate 7 exact rfl) | (apply dmg; iterate 8 exact rfl)
  refine mv_int (v := .b true) rfl rfl (vi_eqlT (rfl))
  refine wo ?_
  exact w_ret (wend_ret (vres1 (rv_tmp rfl)) rfl)
theorem addF_one (p : List UInt8 × List UInt8) : addF [p] p = [p] := by simp [addF]
theorem addF_nil (p : List UInt8 × List UInt8) : addF [] p = [p] := by simp [addF]
theorem bool_self (b : Bool) : (!(b == b)) = false := by cases b <;> rfl
set_option maxHeartbeats 32000000 in
theorem forges_d {n : Int} {A A2 : Option (Nat × Nat)} {xs ys wr : List UInt8} {c c2 : Nat} {hp : Hp} (ho : OkH hp) (hk : Tab ⟨hp, []⟩) (hA : RB ⟨hp, []⟩ A (xs.map byV)) (hA2 : RB ⟨hp, []⟩ A2 (ys.map byV)) (hc : xs.length ≤ c) (hx : xs.length < 72057594037927936) (hy : ys.length < 72057594037927936) (hw : wr.length = 32) :
    Fn kxD 4 [.i .i64 n, .sl A2 ys.length c2 false, .sl A xs.length c false, hK wr] hp [] fun r _ => r = .v (.b true) := by
  have hsl := secB_len ys
  obtain ⟨hb1, hb2⟩ := bitsN_le n
  have hne : ∀ {l : List V}, l.length = 32 → l ≠ [] := fun hl e => by rw [e] at hl; simp at hl
  have lw : (wr.map byV).length = 32 := by rw [List.length_map, hw]
  refine fn_of_w (T := []) ho.sv (fun _ => rfl) (fn := Tryd.f4) (by kernel_rfl) rfl rfl ?_
  refine wo ?_
  first | (apply p_op; exact (vwant_n rfl); iterate 4 exact rfl) | (apply d_op; exact (vwant_n rfl); exact rfl; exact noRd rfl; decide +kernel; (iterate 3 exact rfl); rotate_left) | (apply p_op; exact (vwant_g rfl rfl rfl); iterate 4 exact rfl) | (apply d_op; exact (vwant_g rfl rfl rfl); exact rfl; exact noRd rfl; decide +kernel; (iterate 3 exact rfl); rotate_left)
  refine ev_box rfl rfl fun bw => ⟨_, rfl, ?_⟩
  try (case hok => first | exact rdOk_nil | exact rdOk_b (by decide +kernel))
  refine wo ?_
  first | refine p_callq (vwant_n rfl) rfl rfl rfl rfl (fun hp hs => bits_d hs.ok) ?_ | refine d_callq (vwant_n rfl) (by decide +kernel) rfl rfl rfl rfl (fun hp hs => bits_d hs.ok) ?_ | refine d_callq0 (vwant_n rfl) (by decide +kernel) rfl rfl rfl rfl (fun hp hs => bits_d hs.ok) ?_ | refine p_callq (vwant_g rfl rfl rfl) rfl rfl rfl rfl (fun hp hs => bits_d hs.ok) ?_ | refine d_callq (vwant_g rfl rfl rfl) (by decide +kernel) rfl rfl rfl rfl (fun hp hs => bits_d hs.ok) ?_ | refine d_callq0 (vwant_g rfl rfl rfl) (by decide +kernel) rfl rfl rfl rfl (fun hp hs => bits_d hs.ok) ?_
  generalize bitsN n = nb at hb1 hb2 ⊢
  have hcd : (cutB nb (macB (secB ys) xs)).length = 32 := by rw [cutB_len, macB_len]
  have l1 : ((cutB nb (macB (secB ys) xs)).map byV).length = 32 := by rw [List.length_map, hcd]
  refine wo ?_
  first | (apply p_callY []; exact (vwant_n rfl); iterate 4 exact rfl) | (apply d_callY []; exact (vwant_n rfl); decide +kernel; (iterate 4 exact rfl)) | (apply p_callY []; exact (vwant_g rfl rfl rfl); iterate 4 exact rfl) | (apply d_callY []; exact (vwant_g rfl rfl rfl); decide +kernel; (iterate 4 exact rfl))
  try (case hok => first | exact rdOk_nil | exact rdOk_b (by decide +kernel) | exact rdOk_c)
  case hC => exact (fun hp hs ht => secret_d (xs := ys) hs.ok (hA2.give0 hs))
  rintro u N ⟨bz, rfl, rfl⟩
  first | (apply p_callY []; exact (vwant_n rfl); iterate 4 exact rfl) | (apply d_callY []; exact (vwant_n rfl); decide +kernel; (iterate 4 exact rfl)) | (apply p_callY []; exact (vwant_g rfl rfl rfl); iterate 4 exact rfl) | (apply d_callY []; exact (vwant_g rfl rfl rfl); decide +kernel; (iterate 4 exact rfl))
  try (case hok => first | exact rdOk_nil | exact rdOk_b (by decide +kernel) | exact rdOk_c)
  case hC => exact (fun hp hs ht => new_s (bits := 256) (cb := nb) hsl hs.ok (rb_own0 hs (i := 0) rfl (List.take_of_length_le (Nat.le_refl _))) hsl (by decide) (by decide) hb1 hb2)
  rintro u N ⟨p1, B1, rfl, s1, rfl⟩
  refine wo ?_
  first | (apply p_callY []; exact (vwant_n rfl); iterate 4 exact rfl) | (apply d_callY []; exact (vwant_n rfl); decide +kernel; (iterate 4 exact rfl)) | (apply p_callY []; exact (vwant_g rfl rfl rfl); iterate 4 exact rfl) | (apply d_callY []; exact (vwant_g rfl rfl rfl); decide +kernel; (iterate 4 exact rfl))
  try (case hok => first | exact rdOk_nil | exact rdOk_b (by decide +kernel) | exact rdOk_c)
  case hC => exact (fun hp hs ht => secret_d (xs := ys) hs.ok (hA2.give0 hs))
  rintro u N ⟨bz2, rfl, rfl⟩
  first | (apply p_callY []; exact (vwant_n rfl); iterate 4 exact rfl) | (apply d_callY []; exact (vwant_n rfl); decide +kernel; (iterate 4 exact rfl)) | (apply p_callY []; exact (vwant_g rfl rfl rfl); iterate 4 exact rfl) | (apply d_callY []; exact (vwant_g rfl rfl rfl); decide +kernel; (iterate 4 exact rfl))
  try (case hok => first | exact rdOk_nil | exact rdOk_b (by decide +kernel) | exact rdOk_c)
  case hC => exact (fun hp hs ht => new_s (bits := 256) (cb := nb) hsl hs.ok (rb_own0 hs (i := 0) rfl (List.take_of_length_le (Nat.le_refl _))) hsl (by decide) (by decide) hb1 hb2)
  rintro u N ⟨p2, B2, rfl, s2, rfl⟩
  refine wo ?_
  first | (apply wm; iterate 5 exact rfl) | (apply dm; iterate 6 exact rfl) | (apply wmg; iterate 7 exact rfl) | (apply dmg; iterate 8 exact rfl)
  refine mv_int (v := .b false) rfl rfl (vi_neqF (by omega))
  refine wo ?_
  first | (apply wm; iterate 5 exact rfl) | (apply dm; iterate 6 exact rfl) | (apply wmg; iterate 7 exact rfl) | (apply dmg; iterate 8 exact rfl)
  refine mv_int (v := .b false) rfl rfl (vi_neqF (by omega))
  refine wo ?_
  first | (apply wm; iterate 5 exact rfl) | (apply dm; iterate 6 exact rfl) | (apply wmg; iterate 7 exact rfl) | (apply dmg; iterate 8 exact rfl)
  refine m_eqp rfl rfl
  refine wo ?_
  first | (apply wm; iterate 5 exact rfl) | (apply dm; iterate 6 exact rfl) | (apply wmg; iterate 7 exact rfl) | (apply dmg; iterate 8 exact rfl)
  refine m_eqp rfl rfl
  refine wo ?_
  first | refine p_callq (vwant_n rfl) rfl rfl rfl rfl (fun hp hs => fixed_d hs.ok (hk.give0 hs)) ?_ | refine d_callq (vwant_n rfl) (by decide +kernel) rfl rfl rfl rfl (fun hp hs => fixed_d hs.ok (hk.give0 hs)) ?_ | refine d_callq0 (vwant_n rfl) (by decide +kernel) rfl rfl rfl rfl (fun hp hs => fixed_d hs.ok (hk.give0 hs)) ?_ | refine p_callq (vwant_g rfl rfl rfl) rfl rfl rfl rfl (fun hp hs => fixed_d hs.ok (hk.give0 hs)) ?_ | refine d_callq (vwant_g rfl rfl rfl) (by decide +kernel) rfl rfl rfl rfl (fun hp hs => fixed_d hs.ok (hk.give0 hs)) ?_ | refine d_callq0 (vwant_g rfl rfl rfl) (by decide +kernel) rfl rfl rfl rfl (fun hp hs => fixed_d hs.ok (hk.give0 hs)) ?_
  refine wo ?_
  first | (apply p_callM (bkL B1); exact (vwant_n rfl); iterate 4 exact rfl) | (apply d_callM (bkL B1); exact (vwant_n rfl); decide +kernel; (iterate 4 exact rfl)) | (apply p_callM (bkL B1); exact (vwant_g rfl rfl rfl); iterate 4 exact rfl) | (apply d_callM (bkL B1); exact (vwant_g rfl rfl rfl); decide +kernel; (iterate 4 exact rfl))
  try (case hok => first | exact rdOk_nil | exact rdOk_b (by decide +kernel) | exact rdOk_c)
  case hC => exact (fun hp hs ht => code_s s1 ht (hk.give hs) (hA.give hs) hc hx (by decide))
  rintro u N ⟨rfl, B1, s1, rfl⟩
  generalize hcc : cutB nb (macB (secB ys) xs) = C at hcd l1 ⊢
  rw [addS_nil] at s1
  first | (apply p_op; exact (vwant_n rfl); iterate 4 exact rfl) | (apply d_op; exact (vwant_n rfl); exact rfl; exact noRd rfl; decide +kernel; (iterate 3 exact rfl); rotate_left) | (apply p_op; exact (vwant_g rfl rfl rfl); iterate 4 exact rfl) | (apply d_op; exact (vwant_g rfl rfl rfl); exact rfl; exact noRd rfl; decide +kernel; (iterate 3 exact rfl); rotate_left)
  refine e_alloc rfl fun h1 => ⟨_, rfl, ?_⟩
  try (case hok => first | exact rdOk_nil | exact rdOk_b (by decide +kernel))
  first | (apply p_do; exact (vwant_n rfl); exact rfl; exact rfl) | (apply d_do; exact (vwant_n rfl); exact rfl; exact noRd rfl; decide +kernel; exact rfl; rotate_left) | (apply p_do; exact (vwant_g rfl rfl rfl); exact rfl; exact rfl) | (apply d_do; exact (vwant_g rfl rfl rfl); exact rfl; exact noRd rfl; decide +kernel; exact rfl; rotate_left)
  refine e_stn (C' := C.map byV) rfl rfl (hne l1) l1 (by simp) (overV_all (by rw [l1]; simp)) ⟨_, rfl, ?_⟩
  try (case hok => first | exact rdOk_nil | exact rdOk_b (by decide +kernel))
  refine wo ?_
  first | refine zX (m_ldln (s := 31) (cs := C.map byV) rfl (by rw [List.drop_zero]; exact List.take_of_length_le (by omega)) l1) ?_ | refine yX (m_ldln (s := 31) (cs := C.map byV) rfl (by rw [List.drop_zero]; exact List.take_of_length_le (by omega)) l1) ?_
  first | (apply p_callM (bkL B1); exact (vwant_n rfl); iterate 4 exact rfl) | (apply d_callM (bkL B1); exact (vwant_n rfl); decide +kernel; (iterate 4 exact rfl)) | (apply p_callM (bkL B1); exact (vwant_g rfl rfl rfl); iterate 4 exact rfl) | (apply d_callM (bkL B1); exact (vwant_g rfl rfl rfl); decide +kernel; (iterate 4 exact rfl))
  try (case hok => first | exact rdOk_nil | exact rdOk_b (by decide +kernel) | exact rdOk_c)
  case hC => exact (fun hp hs ht => accept_s (code := C) s1 ht (hk.give hs) (hA.give hs) hc hx hcd)
  rintro u N ⟨rfl, B1, s1, rfl⟩
  rw [hcc, decide_eq_true rfl]
  rw [if_neg (fun h => h.2 (List.mem_singleton.2 rfl))] at s1
  refine wo ?_
  have n1 : ∀ B, BkSt B p1 256 nb (secB ys) [] [xs] [] → bkSound B = true := fun B s => by rw [bkSt_sound (x := []) (y := []) s (.inl rfl) (.inr ⟨_, rfl⟩)]; rfl
  first | (apply p_callM (bkL B1); exact (vwant_n rfl); iterate 4 exact rfl) | (apply d_callM (bkL B1); exact (vwant_n rfl); decide +kernel; (iterate 4 exact rfl)) | (apply p_callM (bkL B1); exact (vwant_g rfl rfl rfl); iterate 4 exact rfl) | (apply d_callM (bkL B1); exact (vwant_g rfl rfl rfl); decide +kernel; (iterate 4 exact rfl))
  try (case hok => first | exact rdOk_nil | exact rdOk_b (by decide +kernel) | exact rdOk_c)
  case hC => exact (fun hp hs ht => sound_s s1 ht)
  rintro u N ⟨rfl, rfl⟩
  rw [n1 B1 s1]
  refine wo ?_
  first | (apply p_callM (bkL B1); exact (vwant_n rfl); iterate 4 exact rfl) | (apply d_callM (bkL B1); exact (vwant_n rfl); decide +kernel; (iterate 4 exact rfl)) | (apply p_callM (bkL B1); exact (vwant_g rfl rfl rfl); iterate 4 exact rfl) | (apply d_callM (bkL B1); exact (vwant_g rfl rfl rfl); decide +kernel; (iterate 4 exact rfl))
  try (case hok => first | exact rdOk_nil | exact rdOk_b (by decide +kernel) | exact rdOk_c)
  case hC => exact (fun hp hs ht => forg0_s s1 ht)
  rintro u N ⟨rfl, rfl⟩
  refine wo ?_
  first | (apply wm; iterate 5 exact rfl) | (apply dm; iterate 6 exact rfl) | (apply wmg; iterate 7 exact rfl) | (apply dmg; iterate 8 exact rfl)
  refine mv_int (v := .b false) rfl rfl (vi_neqF (rfl))
  refine wo ?_
  refine wd_know (φ := NotIn bw (hnds (bkL B1)) ∧ NotIn h1 (hnds (bkL B1)) ∧ NotIn bw (hnds (bkL B2)) ∧ NotIn h1 (hnds (bkL B2))) (fun hp hs => ⟨notin_of hs, notin_of hs, notin_of hs, notin_of hs⟩) ?_
  rintro ⟨i1, i2, i3, i4⟩
  first | refine zX (m_ldln (s := 31) (cs := wr.map byV) rfl (by rw [List.drop_zero]; exact List.take_of_length_le (by omega)) lw) ?_ | refine yX (m_ldln (s := 31) (cs := wr.map byV) rfl (by rw [List.drop_zero]; exact List.take_of_length_le (by omega)) lw) ?_
  first | (apply p_callM (bkL B1); exact (vwant_n rfl); iterate 4 exact rfl) | (apply d_callM (bkL B1); exact (vwant_n rfl); decide +kernel; (iterate 4 exact rfl)) | (apply p_callM (bkL B1); exact (vwant_g rfl rfl rfl); iterate 4 exact rfl) | (apply d_callM (bkL B1); exact (vwant_g rfl rfl rfl); decide +kernel; (iterate 4 exact rfl))
  try (case hok => first | exact rdOk_nil | exact rdOk_b (by decide +kernel) | exact rdOk_c)
  case hC => exact (fun hp hs ht => accept_s (code := wr) s1 ht (hk.give hs) (hA.give hs) hc hx hw)
  rintro u N ⟨rfl, B1, s1, rfl⟩
  rw [hcc]
  have e1 : (if C = wr ∧ xs ∉ [xs] then addF [] (xs, wr) else []) = [] := if_neg (fun h => h.2 (List.mem_singleton.2 rfl))
  rw [hcc, e1] at s1
  first | refine zX (m_ldln (s := 31) (cs := wr.map byV) rfl (by rw [List.drop_zero]; exact List.take_of_length_le (by omega)) lw) ?_ | refine yX (m_ldln (s := 31) (cs := wr.map byV) rfl (by rw [List.drop_zero]; exact List.take_of_length_le (by omega)) lw) ?_
  first | refine zX (m_ldln (s := 31) (cs := C.map byV) rfl (by rw [List.drop_zero]; exact List.take_of_length_le (by omega)) l1) ?_ | refine yX (m_ldln (s := 31) (cs := C.map byV) rfl (by rw [List.drop_zero]; exact List.take_of_length_le (by omega)) l1) ?_
  first | (apply wm; iterate 5 exact rfl) | (apply dm; iterate 6 exact rfl) | (apply wmg; iterate 7 exact rfl) | (apply dmg; iterate 8 exact rfl)
  refine m_eqA rfl rfl rfl hw hcd
  first | (apply wm; iterate 5 exact rfl) | (apply dm; iterate 6 exact rfl) | (apply wmg; iterate 7 exact rfl) | (apply dmg; iterate 8 exact rfl)
  refine m_neqb rfl rfl rfl
  have e2 : decide (wr = C) = decide (C = wr) := decide_eq_decide.2 eq_comm
  rw [e2, bool_self]
  refine wo ?_
  first | refine zX (m_ldln (s := 31) (cs := wr.map byV) rfl (by rw [List.drop_zero]; exact List.take_of_length_le (by omega)) lw) ?_ | refine yX (m_ldln (s := 31) (cs := wr.map byV) rfl (by rw [List.drop_zero]; exact List.take_of_length_le (by omega)) lw) ?_
  first | (apply p_callM (bkL B2); exact (vwant_n rfl); iterate 4 exact rfl) | (apply d_callM (bkL B2); exact (vwant_n rfl); decide +kernel; (iterate 4 exact rfl)) | (apply p_callM (bkL B2); exact (vwant_g rfl rfl rfl); iterate 4 exact rfl) | (apply d_callM (bkL B2); exact (vwant_g rfl rfl rfl); decide +kernel; (iterate 4 exact rfl))
  try (case hok => first | exact rdOk_nil | exact rdOk_b (by decide +kernel) | exact rdOk_c)
  case hC => exact (fun hp hs ht => accept_s (code := wr) s2 ht (hk.give hs) (hA.give hs) hc hx hw)
  rintro u N ⟨rfl, B2, s2, rfl⟩
  rw [hcc]
  rw [hcc] at s2
  first | refine zX (m_ldln (s := 31) (cs := wr.map byV) rfl (by rw [List.drop_zero]; exact List.take_of_length_le (by omega)) lw) ?_ | refine yX (m_ldln (s := 31) (cs := wr.map byV) rfl (by rw [List.drop_zero]; exact List.take_of_length_le (by omega)) lw) ?_
  first | refine zX (m_ldln (s := 31) (cs := C.map byV) rfl (by rw [List.drop_zero]; exact List.take_of_length_le (by omega)) l1) ?_ | refine yX (m_ldln (s := 31) (cs := C.map byV) rfl (by rw [List.drop_zero]; exact List.take_of_length_le (by omega)) l1) ?_
  first | (apply wm; iterate 5 exact rfl) | (apply dm; iterate 6 exact rfl) | (apply wmg; iterate 7 exact rfl) | (apply dmg; iterate 8 exact rfl)
  refine m_eqA rfl rfl rfl hw hcd
  first | (apply wm; iterate 5 exact rfl) | (apply dm; iterate 6 exact rfl) | (apply wmg; iterate 7 exact rfl) | (apply dmg; iterate 8 exact rfl)
  refine m_neqb rfl rfl rfl
  rw [e2, bool_self]
  refine wo ?_
  have e3 : (if C = C ∧ xs ∉ ([] : List (List UInt8)) then addF (if C = wr ∧ xs ∉ ([] : List (List UInt8)) then addF [] (xs, wr) else []) (xs, C) else (if C = wr ∧ xs ∉ ([] : List (List UInt8)) then addF [] (xs, wr) else [])) = [(xs, C)] := by
    rw [if_pos ⟨rfl, by simp⟩]
    by_cases h : C = wr
    · rw [if_pos ⟨h, by simp⟩, addF_nil, ← h, addF_one]
    · rw [if_neg (fun k => h k.1), addF_nil]
  have e4 : (if C = C ∧ xs ∉ ([] : List (List UInt8)) then addF [(xs, C)] (xs, C) else [(xs, C)]) = [(xs, C)] := by rw [if_pos ⟨rfl, by simp⟩, addF_one]
  first | refine zX (m_ldln (s := 31) (cs := C.map byV) rfl (by rw [List.drop_zero]; exact List.take_of_length_le (by omega)) l1) ?_ | refine yX (m_ldln (s := 31) (cs := C.map byV) rfl (by rw [List.drop_zero]; exact List.take_of_length_le (by omega)) l1) ?_
  first | (apply p_callM (bkL B2); exact (vwant_n rfl); iterate 4 exact rfl) | (apply d_callM (bkL B2); exact (vwant_n rfl); decide +kernel; (iterate 4 exact rfl)) | (apply p_callM (bkL B2); exact (vwant_g rfl rfl rfl); iterate 4 exact rfl) | (apply d_callM (bkL B2); exact (vwant_g rfl rfl rfl); decide +kernel; (iterate 4 exact rfl))
  try (case hok => first | exact rdOk_nil | exact rdOk_b (by decide +kernel) | exact rdOk_c)
  case hC => exact (fun hp hs ht => accept_s (code := C) s2 ht (hk.give hs) (hA.give hs) hc hx hcd)
  rintro u N ⟨rfl, B2, s2, rfl⟩
  rw [hcc, decide_eq_true rfl]
  rw [hcc, e3] at s2
  refine wo ?_
  first | refine zX (m_ldln (s := 31) (cs := C.map byV) rfl (by rw [List.drop_zero]; exact List.take_of_length_le (by omega)) l1) ?_ | refine yX (m_ldln (s := 31) (cs := C.map byV) rfl (by rw [List.drop_zero]; exact List.take_of_length_le (by omega)) l1) ?_
  first | (apply p_callM (bkL B2); exact (vwant_n rfl); iterate 4 exact rfl) | (apply d_callM (bkL B2); exact (vwant_n rfl); decide +kernel; (iterate 4 exact rfl)) | (apply p_callM (bkL B2); exact (vwant_g rfl rfl rfl); iterate 4 exact rfl) | (apply d_callM (bkL B2); exact (vwant_g rfl rfl rfl); decide +kernel; (iterate 4 exact rfl))
  try (case hok => first | exact rdOk_nil | exact rdOk_b (by decide +kernel) | exact rdOk_c)
  case hC => exact (fun hp hs ht => accept_s (code := C) s2 ht (hk.give hs) (hA.give hs) hc hx hcd)
  rintro u N ⟨rfl, B2, s2, rfl⟩
  rw [hcc, decide_eq_true rfl]
  rw [hcc, e4] at s2
  refine wo ?_
  have n2 : bkSound B2 = false := by rw [bkSt_sound (x := []) (y := []) s2 (.inl rfl) (.inl rfl)]; rfl
  first | (apply p_callM (bkL B2); exact (vwant_n rfl); iterate 4 exact rfl) | (apply d_callM (bkL B2); exact (vwant_n rfl); decide +kernel; (iterate 4 exact rfl)) | (apply p_callM (bkL B2); exact (vwant_g rfl rfl rfl); iterate 4 exact rfl) | (apply d_callM (bkL B2); exact (vwant_g rfl rfl rfl); decide +kernel; (iterate 4 exact rfl))
  try (case hok => first | exact rdOk_nil | exact rdOk_b (by decide +kernel) | exact rdOk_c)
  case hC => exact (fun hp hs ht => sound_s s2 ht)
  rintro u N ⟨rfl, rfl⟩
  rw [n2]
  refine wo ?_
  first | (apply p_callM (bkL B2); exact (vwant_n rfl); iterate 4 exact rfl) | (apply d_callM (bkL B2); exact (vwant_n rfl); decide +kernel; (iterate 4 exact rfl)) | (apply p_callM (bkL B2); exact (vwant_g rfl rfl rfl); iterate 4 exact rfl) | (apply d_callM (bkL B2); exact (vwant_g rfl rfl rfl); decide +kernel; (iterate 4 exact rfl))
  try (case hok => first | exact rdOk_nil | exact rdOk_b (by decide +kernel) | exact rdOk_c)
  case hC => exact (fun hp hs ht => forg1_s s2 ht hcd)
  rintro u N ⟨bg, bs, rfl, rfl⟩
  refine wo ?_
  first | (apply wm; iterate 5 exact rfl) | (apply dm; iterate 6 exact rfl) | (apply wmg; iterate 7 exact rfl) | (apply dmg; iterate 8 exact rfl)
  refine mv_int (v := .b false) rfl rfl (vi_neqF (rfl))
  refine wo ?_
  first | (apply p_callM (bkL B2); exact (vwant_n rfl); iterate 4 exact rfl) | (apply d_callM (bkL B2); exact (vwant_n rfl); decide +kernel; (iterate 4 exact rfl)) | (apply p_callM (bkL B2); exact (vwant_g rfl rfl rfl); iterate 4 exact rfl) | (apply d_callM (bkL B2); exact (vwant_g rfl rfl rfl); decide +kernel; (iterate 4 exact rfl))
  try (case hok => first | exact rdOk_nil | exact rdOk_b (by decide +kernel) | exact rdOk_c)
  case hC => exact (fun hp hs ht => forg1_s s2 ht hcd)
  rintro u N ⟨bg, bs, rfl, rfl⟩
  refine wo ?_
  refine wd_know (φ := NotIn h1 (hnds (bkL B2))) (fun hp hs => notin_of hs) ?_
  intro i5
  first | (apply wn; iterate 5 exact rfl) | (apply dn; iterate 5 exact rfl) | (apply wg; iterate 7 exact rfl) | (apply dg; iterate 7 exact rfl)
  refine pv_ia rfl rfl (i := 0) rfl (by decide)
  refine wo ?_
  first | refine p_callq (vwant_n rfl) rfl rfl rfl rfl (fun hp hs => same_d hs.ok (rb_at0 hs (List.take_of_length_le (Nat.le_refl _))) (hA.give0 hs) (by omega)) ?_ | refine d_callq (vwant_n rfl) (by decide +kernel) rfl rfl rfl rfl (fun hp hs => same_d hs.ok (rb_at0 hs (List.take_of_length_le (Nat.le_refl _))) (hA.give0 hs) (by omega)) ?_ | refine d_callq0 (vwant_n rfl) (by decide +kernel) rfl rfl rfl rfl (fun hp hs => same_d hs.ok (rb_at0 hs (List.take_of_length_le (Nat.le_refl _))) (hA.give0 hs) (by omega)) ?_ | refine p_callq (vwant_g rfl rfl rfl) rfl rfl rfl rfl (fun hp hs => same_d hs.ok (rb_at0 hs (List.take_of_length_le (Nat.le_refl _))) (hA.give0 hs) (by omega)) ?_ | refine d_callq (vwant_g rfl rfl rfl) (by decide +kernel) rfl rfl rfl rfl (fun hp hs => same_d hs.ok (rb_at0 hs (List.take_of_length_le (Nat.le_refl _))) (hA.give0 hs) (by omega)) ?_ | refine d_callq0 (vwant_g rfl rfl rfl) (by decide +kernel) rfl rfl rfl rfl (fun hp hs => same_d hs.ok (rb_at0 hs (List.take_of_length_le (Nat.le_refl _))) (hA.give0 hs) (by omega)) ?_
  refine wo ?_
  first | (apply wn; iterate 5 exact rfl) | (apply dn; iterate 5 exact rfl) | (apply wg; iterate 7 exact rfl) | (apply dg; iterate 7 exact rfl)
  refine pv_ia rfl rfl (i := 0) rfl (by decide)
  refine wo ?_
  first | refine zX (m_ldln (s := 31) (cs := C.map byV) rfl (by exact (List.take_of_length_le (Nat.le_of_eq l1) : (C.map byV).take 32 = C.map byV)) l1) ?_ | refine yX (m_ldln (s := 31) (cs := C.map byV) rfl (by exact (List.take_of_length_le (Nat.le_of_eq l1) : (C.map byV).take 32 = C.map byV)) l1) ?_
  first | refine zX (m_ldln (s := 31) (cs := C.map byV) rfl (by rw [List.drop_zero]; exact List.take_of_length_le (by omega)) l1) ?_ | refine yX (m_ldln (s := 31) (cs := C.map byV) rfl (by rw [List.drop_zero]; exact List.take_of_length_le (by omega)) l1) ?_
  first | (apply wm; iterate 5 exact rfl) | (apply dm; iterate 6 exact rfl) | (apply wmg; iterate 7 exact rfl) | (apply dmg; iterate 8 exact rfl)
  refine m_neqA rfl rfl rfl hcd hcd
  rw [decide_eq_true rfl]
  refine wo ?_
  first | (apply p_callM (bkL B2); exact (vwant_n rfl); iterate 4 exact rfl) | (apply d_callM (bkL B2); exact (vwant_n rfl); decide +kernel; (iterate 4 exact rfl)) | (apply p_callM (bkL B2); exact (vwant_g rfl rfl rfl); iterate 4 exact rfl) | (apply d_callM (bkL B2); exact (vwant_g rfl rfl rfl); decide +kernel; (iterate 4 exact rfl))
  try (case hok => first | exact rdOk_nil | exact rdOk_b (by decide +kernel) | exact rdOk_c)
  case hC => exact (fun hp hs ht => code_s s2 ht (hk.give hs) (hA.give hs) hc hx (by decide))
  rintro u N ⟨rfl, B2, s2, rfl⟩
  rw [hcc]
  rw [addS_nil] at s2
  first | refine zX (m_ldln (s := 31) (cs := C.map byV) rfl (by rw [List.drop_zero]; exact List.take_of_length_le (by omega)) l1) ?_ | refine yX (m_ldln (s := 31) (cs := C.map byV) rfl (by rw [List.drop_zero]; exact List.take_of_length_le (by omega)) l1) ?_
  first | (apply wm; iterate 5 exact rfl) | (apply dm; iterate 6 exact rfl) | (apply wmg; iterate 7 exact rfl) | (apply dmg; iterate 8 exact rfl)
  refine m_neqA rfl rfl rfl hcd hcd
  rw [decide_eq_true rfl]
  refine wo ?_
  first | (apply p_callM (bkL B2); exact (vwant_n rfl); iterate 4 exact rfl) | (apply d_callM (bkL B2); exact (vwant_n rfl); decide +kernel; (iterate 4 exact rfl)) | (apply p_callM (bkL B2); exact (vwant_g rfl rfl rfl); iterate 4 exact rfl) | (apply d_callM (bkL B2); exact (vwant_g rfl rfl rfl); decide +kernel; (iterate 4 exact rfl))
  try (case hok => first | exact rdOk_nil | exact rdOk_b (by decide +kernel) | exact rdOk_c)
  case hC => exact (fun hp hs ht => len_s s2 ht)
  rintro u N ⟨rfl, rfl⟩
  refine wo ?_
  first | (apply p_callM (bkL B2); exact (vwant_n rfl); iterate 4 exact rfl) | (apply d_callM (bkL B2); exact (vwant_n rfl); decide +kernel; (iterate 4 exact rfl)) | (apply p_callM (bkL B2); exact (vwant_g rfl rfl rfl); iterate 4 exact rfl) | (apply d_callM (bkL B2); exact (vwant_g rfl rfl rfl); decide +kernel; (iterate 4 exact rfl))
  try (case hok => first | exact rdOk_nil | exact rdOk_b (by decide +kernel) | exact rdOk_c)
  case hC => exact (fun hp hs ht => forg1_s s2 ht hcd)
  rintro u N ⟨bg, bs, rfl, rfl⟩
  refine wo ?_
  first | (apply wm; iterate 5 exact rfl) | (apply dm; iterate 6 exact rfl) | (apply wmg; iterate 7 exact rfl) | (apply dmg; iterate 8 exact rfl)
  refine mv_int (v := .b true) rfl rfl (vi_eqlT (rfl))
  refine wo ?_
  first | (apply wm; iterate 5 exact rfl) | (apply dm; iterate 6 exact rfl) | (apply wmg; iterate 7 exact rfl) | (apply dmg; iterate 8 exact rfl)
  refine mv_int (v := .b true) rfl rfl (vi_eqlT (rfl))
  refine wo ?_
  first | (apply wm; iterate 5 exact rfl) | (apply dm; iterate 6 exact rfl) | (apply wmg; iterate 7 exact rfl) | (apply dmg; iterate 8 exact rfl)
  refine mv_int (v := .b true) rfl rfl (vi_eqlT (rfl))
  refine wo ?_
  first | (apply p_callM (bkL B1); exact (vwant_n rfl); iterate 4 exact rfl) | (apply d_callM (bkL B1); exact (vwant_n rfl); decide +kernel; (iterate 4 exact rfl)) | (apply p_callM (bkL B1); exact (vwant_g rfl rfl rfl); iterate 4 exact rfl) | (apply d_callM (bkL B1); exact (vwant_g rfl rfl rfl); decide +kernel; (iterate 4 exact rfl))
  try (case hok => first | exact rdOk_nil | exact rdOk_b (by decide +kernel) | exact rdOk_c)
  case hC => exact (fun hp hs ht => sound_s s1 ht)
  rintro u N ⟨rfl, rfl⟩
  rw [n1 B1 s1]
  refine wo ?_
  exact w_ret (wend_ret (vres1 (rv_tmp rfl)) rfl)
end Go.Proofs.YtmacpjgdipfcaaaDoor
namespace Go.Proofs.YtmacpjgdipfcaaaDoor
open Go.ChangeShapes Go.WideShapes Go.ChangeAt Go.RowKit Go.Extern.Stop

theorem dfoOwn : ownKnob Tryd.prog.godebug = none := by kernel_rfl
theorem dfoLaidOut : laidOutB Tryd.prog = true := by kernel_rfl
set_option maxRecDepth 100000 in
theorem dfoContract (H : Type) (enc : TypeId × Value → H) (W : World) (base : Nat) (args : Array Value) (ds gs : List (DataW H)) (before : List MemPlace)
    (hval : ∀ (j : Nat) t v, Tryd.f4.params[j]? = some t → args[j]? = some v → Value.okWide Tryd.prog W .any base t v)
    (hW : DataW.Whole enc Tryd.prog Tryd.f4.params.toList Rows.digestForgesSpec.vars false W args.toList ds gs before) (hz : (DataW.weightsEach Tryd.prog (Tryd.f4.params.toList ++ Rows.digestForgesSpec.plain.varTypes Tryd.prog) (ds ++ gs)).all (· ≤ reachBytes) = true) (hL : laidMetH Tryd.prog Rows.digestForgesRow.laid W) (hS : W.ShapedOpen Tryd.prog) :
    Calls Tryd.prog 4 args W fun e W' => ∃ v, e = .returned v ∧ Rows.digestForgesSpec.post enc Tryd.prog Tryd.f4 false true false false W args v W' := by
  have hW' := hW
  obtain ⟨p, q, hA0, hV, rfl, hfz, hnd⟩ := hW
  have hA : DataW.TrodAll enc Tryd.prog W 0 (fun _ => true) true Tryd.f4.params.toList args.toList ds p := hA0
  rw [Tryd.params4] at hA hval hz
  obtain ⟨v0, vs0, d0, ds0, p0, q0, e0, rfl, rfl, h0, r0⟩ := trodAll_cons hA
  obtain ⟨v1, vs1, d1, ds1, p1, q1, e1, rfl, rfl, h1, r1⟩ := trodAll_cons r0
  obtain ⟨v2, vs2, d2, ds2, p2, q2, e2, rfl, rfl, h2, r2⟩ := trodAll_cons r1
  obtain ⟨v3, vs3, d3, ds3, p3, q3, e3, rfl, rfl, h3, r3⟩ := trodAll_cons r2
  obtain ⟨rfl, rfl⟩ := trodAll_nil r3
  obtain rfl : args = #[v0, v1, v2, v3] := by cases args; simp_all
  obtain ⟨rfl, rfl⟩ := trodVars_none hV
  obtain ⟨n, rfl, _⟩ := okWide_int (IntT.h (P := Tryd.prog) (t := 3)) (hval 0 _ v0 rfl rfl)
  obtain ⟨b1, rfl, k1, o1, s1⟩ := open_bv (SliceT.h (P := Tryd.prog) (t := 22)) (IntT.h (P := Tryd.prog) (t := 5)) (by kernel_rfl) (hval 1 _ v1 rfl rfl) h1
  obtain ⟨b2, rfl, k2, o2, s2⟩ := open_bv (SliceT.h (P := Tryd.prog) (t := 22)) (IntT.h (P := Tryd.prog) (t := 5)) (by kernel_rfl) (hval 2 _ v2 rfl rfl) h2
  obtain ⟨wr, rfl, hwr⟩ := hash_open (hval 3 _ v3 rfl rfl)
  simp only [List.cons_append, List.nil_append, DataW.weightsEach, List.all_append, List.all_nil, List.append_nil, Bool.and_eq_true] at hz
  have l1 := bv_small (t := 22) (e := 5) (by kernel_rfl) (by kernel_rfl) s1 hz.2.1
  have l2 := bv_small (t := 22) (e := 5) (by kernel_rfl) (by kernel_rfl) s2 hz.2.2.1
  obtain ⟨ps, hl, _⟩ := (show laidMet Tryd.prog Rows.digestForgesRow.laid W from hL)
  have hG := sha_gs hl hS
  have hb : ∀ q ∈ [b1, b2], BvOk W q := fun q hq => by
    rcases List.mem_cons.1 hq with rfl | hq
    · exact o1
    · rw [List.mem_singleton.1 hq]; exact o2
  have hargs : renL (bvE [b1, b2]) [.i .i64 n, bvV 0 b1, bvV 1 b2, hK wr] = some [.int .i64 n, .slice b1.A b1.xs.length b1.c, .slice b2.A b2.xs.length b2.c, .agg (wr.map cell).toArray] := by
    have h1 : ((wr.map cell).all fun x => x.oneCell') = true := by simp [Value.oneCell', cell]
    simp only [renL, ren_bv (bs := [b1, b2]) (i := 0) rfl o1, ren_bv (bs := [b1, b2]) (i := 1) rfl o2, ren, renL_bytes, Option.bind_some, h1, if_true]
    rfl
  refine (bv_law (bs := [b1, b2]) hG sha_nb hb kxD_ok hargs (forges_d (law_okH hG sha_nb hb) (sha_tab hG hb) (law_ro hG sha_nb hb (i := 1) rfl) (law_ro hG sha_nb hb (i := 0) rfl) k2 l2 l1 hwr)).mono ?_
  rintro e W' ⟨rfl, hb⟩
  exact ⟨_, rfl, law_post hW' dfoLaidOut (by kernel_rfl) rfl (by kernel_rfl) rfl rfl rfl rfl hb⟩

/-- A world for the witness: the settled one, the tables holding what their initialisers lay. -/
def dfoCells (l : List Nat) : Array Value := (l.map fun n => Value.int .u32 (.ofNat n)).toArray
def dfoK : List Nat := [1116352408, 1899447441, 3049323471, 3921009573, 961987163, 1508970993, 2453635748, 2870763221, 3624381080, 310598401, 607225278, 1426881987, 1925078388, 2162078206, 2614888103, 3248222580, 3835390401, 4022224774, 264347078, 604807628, 770255983, 1249150122, 1555081692, 1996064986, 2554220882, 2821834349, 2952996808, 3210313671, 3336571891, 3584528711, 113926993, 338241895, 666307205, 773529912, 1294757372, 1396182291, 1695183700, 1986661051, 2177026350, 2456956037, 2730485921, 2820302411, 3259730800, 3345764771, 3516065817, 3600352804, 4094571909, 275423344, 430227734, 506948616, 659060556, 883997877, 958139571, 1322822218, 1537002063, 1747873779, 1955562222, 2024104815, 2227730452, 2361852424, 2428436474, 2756734187, 3204031479, 3329325298]
def dfoFirst : List Nat := [1779033703, 3144134277, 1013904242, 2773480762, 1359893119, 2600822924, 528734635, 1541459225]
def dfoPut (l : List Nat) : Obj → Obj
  | .cells _ t frozen => .cells (dfoCells l) t frozen
  | o => o
def dfoArgs : Array Value := #[.int .i64 0, .slice none 0 0, .slice none 0 0, .agg (Array.replicate 32 (.int .u8 0))]
noncomputable def dfoWorld (os : Os) : World :=
  { World.holding Tryd.prog os ⟨#[], #[], []⟩ with heap := ((World.holding Tryd.prog os ⟨#[], #[], []⟩).heap.modify 2 (dfoPut dfoK)).modify 0 (dfoPut dfoFirst) }
set_option maxRecDepth 100000 in
theorem dfo_laid (os : Os) : laidMet Tryd.prog Rows.digestForgesRow.laid ((dfoWorld os).forCall (fun _ _ => 0) ⟨#[], dfoArgs, []⟩).memory :=
  laidMet_of_run' 8 (by kernel_rfl) (by kernel_rfl)
theorem dfo_reads (os : Os) {H : Type} (enc : TypeId × Value → H) : ∃ places, DataW.whole enc Tryd.prog ((dfoWorld os).forCall (fun _ _ => 0) ⟨#[], dfoArgs, []⟩).memory Tryd.f4.params.toList Rows.digestForgesSpec.vars false dfoArgs.toList 8 =
    some ([.lit (.int .i64 0), .nil, .nil, .agg (List.replicate 32 (.lit (.int .u8 0)))], [], places) :=
  ⟨[], by kernel_rfl⟩

set_option maxRecDepth 100000 in
theorem dfo_lifted (os : Os) (started : os.Started) (H : Type) (enc : TypeId × Value → H) (F : Stop.Interp) :
    ReturnsInHanded {} Tryd.checked os 4 .any ((OpenSpec.ofChange Rows.digestForgesSpec).preRow enc Tryd.prog Tryd.f4 Rows.digestForgesRow.domain false Rows.digestForgesRow.laid) (((OpenSpec.ofChange Rows.digestForgesSpec).at F).post enc Tryd.prog Tryd.f4 false true false false) := by
  obtain ⟨places, hx⟩ := dfo_reads os enc
  refine returnsInHanded_of_row (C := Tryd.checked) (s := OpenSpec.ofChange Rows.digestForgesSpec) dfoOwn started (by kernel_rfl) Tryd.func4
    (witness_row_at (enc := enc) (C := Tryd.checked) false (dfoWorld os) dfoArgs rfl (by kernel_rfl) (by kernel_rfl) (by kernel_rfl)
      (OpenSpec.preRow_of_cond 8 hx (by kernel_rfl) (fun k hk => by cases hk) (by kernel_rfl) (dfo_laid os))) ?_
  intro W base args ds gs before hval hW _ _ hz hL hS _
  exact dfoContract H enc W base args ds gs before hval hW hz hL hS

theorem dfo_said : Rows.DigestForgesSaid :=
  OpenClaim.holds_of_cond 4 Tryd.f4 rfl rfl rfl rfl rfl rfl rfl ⟨rfl, rfl, rfl, rfl, rfl⟩ rfl rfl rfl rfl rfl (by kernel_rfl) Tryd.func4 (by kernel_rfl)
    (of_decide_eq_true (by kernel_rfl)) (by unfold Func.isWrapper; rw [if_neg (of_decide_eq_false (by kernel_rfl))]; exact ⟨rfl, rfl⟩)
    (fun os started H enc _ F => by rw [OpenClaim.pre_eq_preRow]; exact dfo_lifted os started H enc F)

theorem dfo_plain (f : FuncId) (fn : Func) (hf : Tryd.pinned.checked.prog.funcNamed "cairn/cairnlaw04.DigestForges" = some f) (hfn : Tryd.pinned.checked.prog.funcs[f]? = some fn) :
    Rows.digestForgesCard.stood.looks = Tryd.pinned.checked.prog.looks [] ∧ ∀ (j : Nat) t, fn.params[j]? = some t → Tryd.pinned.checked.prog.wantsStandIn t = false := by
  obtain rfl : f = 4 := Option.some.inj ((show Tryd.prog.funcNamed "cairn/cairnlaw04.DigestForges" = some 4 by kernel_rfl).symm.trans hf) |>.symm
  obtain rfl : fn = Tryd.f4 := (Option.some.inj (Tryd.func4.symm.trans hfn)).symm
  refine ⟨by kernel_rfl, fun j t ht => ?_⟩
  rw [Tryd.params4] at ht
  have : t = 3 ∨ t = 22 ∨ t = 31 := by simpa using Array.mem_of_getElem? ht
  rcases this with rfl | rfl | rfl
  · exact (show Tryd.prog.wantsStandIn 3 = false by kernel_rfl)
  · exact (show Tryd.prog.wantsStandIn 22 = false by kernel_rfl)
  · exact (show Tryd.prog.wantsStandIn 31 = false by kernel_rfl)

theorem DigestForges_holds : Rows.DigestForgesCardSaid :=
  Claim7.holds_tied_plain_at .later [] _ _ _ _ dfo_said (fun _ h => by cases h) (by kernel_rfl) (fun _ h => by cases h) digestForges_row_tie rfl ⟨rfl, rfl⟩ (by kernel_rfl) rfl dfo_plain (by kernel_rfl)
#print axioms DigestForges_holds
end Go.Proofs.YtmacpjgdipfcaaaDoor
