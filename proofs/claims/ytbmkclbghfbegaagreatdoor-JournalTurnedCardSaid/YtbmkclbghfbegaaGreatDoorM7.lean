/- THE LAW JournalTurned. Conditions: the tables of sha and the journal's kinds hold what their text lays (the card ties it). -/
import Derived.Test.YtbmkclbghfbegaaGreatDoorM6
import Derived.Test.YtbmkclbghfbegaaGreatDoorCards
import Derived.Test.YtbmkclbghfbegaaGreatDoorTie
import Derived.SizedLaws
import Derived.JoinedOf
set_option linter.unusedVariables false
set_option linter.unusedSectionVars false
set_option linter.unusedSimpArgs false
set_option maxRecDepth 100000
/- Dr3: the reader's items. By this project. -/
set_option maxRecDepth 100000
namespace Go.Proofs.YtbmkclbghfbegaaGreatDoor
open Go.RowKit Go.Extern.Stop
theorem clone_g {a : Nat × Nat} {xs : List UInt8} {n c : Nat} {op : Bool} {hp : Hp} (ho : OkH hp) (hn : xs.length = n) (hA : RB ⟨hp, []⟩ (some a) (xs.map byV) ∨ n = 0) (hl : n ≤ 140737488355328) :
  Fn kxD 50 [.sl (some a) n c op] hp [] fun r N => ∃ u, r = .v u ∧ ∃ b o1 oo, u = .sl (some (b, 0)) n n o1 ∧ N = [(some b, .cells (xs.map byV) 5 oo false)] := by
 refine fn_of_w (T := []) ho.sv (fun _ => rfl) (fn := Tryz.f50) (by kernel_rfl) rfl rfl ?_
 refine wo ?_
 apply wm; iterate 5 exact rfl
 refine m_eqsl rfl rfl
 refine wo ?_
 apply p_op; exact (vwant_n rfl); iterate 4 exact rfl
 refine e_bs (C := []) rfl rfl .nil rfl fun bn => ⟨_, rfl, ?_⟩
 refine wo ?_
 apply p_op; exact (vwant_n rfl); iterate 4 exact rfl
 refine e_lit (new := xs.map byV) rfl rfl (hA.elim (fun h => h.z) (fun e => by obtain rfl : xs = [] := List.length_eq_zero_iff.1 (by omega); exact rz_nil)) (by simp; omega) u8_one (by omega) fun b1 o1 oo h1 => ⟨_, rfl, ?_⟩
 refine wo ?_
 exact w_ret (wend_ret (vres1 (rv_tmp rfl)) ⟨_, rfl, b1, o1, oo, rfl, rfl⟩)
theorem RowG.sn {e : TypeId} {sz m : Nat} {cs : List V} {A : Option (Nat × Nat)} {n c : Nat} {op : Bool} {M X : HV} (h : RowG e sz m cs (.sl A n c op) M) (hm : ∀ p ∈ M, p ∈ X) : Sn X A cs := by
 cases h with
 | nil => exact Sn.nil
 | own h hl => exact Sn.own (hm _ List.mem_cons_self) (take_all _)
theorem byV_bAt (b : List UInt8) (p : Nat) : byV (UInt8.ofNat (bAt b p)) = .i .u8 (bAt b p : Nat) := by rw [byV_ofNat, Nat.mod_eq_of_lt (bAt_lt b p)]
def itQ (s : V) (br : Nat) (r : Except Flt (It × Nat)) (w : VR) (N : HV) : Prop := match r with
 | .error x => ∃ y, w = .pan y ∧ y = flt x
 | .ok (t, q) => ∃ u, w = .v u ∧ ∃ a1 a2 a3 X, u = .agg [a1, a2, a3] ∧ N = rdO br s q :: X ∧ ItX X t [a1, a2, a3]
def ItemC (f : Nat) : Prop := ∀ {b : List UInt8} {A : Option (Nat × Nat)} {c : Nat} {o : Bool} {p e d br : Nat} {hp : Hp} {r : Except Flt (It × Nat)}, SV ⟨hp, [br]⟩ hp [rdO br (.sl A b.length c o) p] → RB ⟨hp, [br]⟩ A (b.map byV) → b.length ≤ c → p ≤ e → e ≤ b.length → b.length ≤ 1048576 → d ≤ 80 → itemS f b p e d = some r → Fn kxD 132 [.p (some (br, 0)), .i .i64 (e : Nat), .i .i64 (d : Nat)] hp [br] (itQ (.sl A b.length c o) br r)
def ListC (f : Nat) : Prop := ∀ {b : List UInt8} {A : Option (Nat × Nat)} {c : Nat} {o : Bool} {p e d br : Nat} {hp : Hp} {r : Except Flt (It × Nat)}, SV ⟨hp, [br]⟩ hp [rdO br (.sl A b.length c o) p] → RB ⟨hp, [br]⟩ A (b.map byV) → b.length ≤ c → p ≤ e → e ≤ b.length → b.length ≤ 1048576 → d ≤ 80 → listS f b p e d [] = some r → Fn kxD 155 [.p (some (br, 0)), .i .i64 (e : Nat), .i .i64 (d : Nat)] hp [br] (itQ (.sl A b.length c o) br r)
set_option maxHeartbeats 32000000 in
theorem item_d {F : Nat} (hL : ∀ g, g < F → ListC g) : ItemC F := by
 intro b A c o p e d br hp r h0 hb hc hpe he hl hd hr
 cases F with
 | zero => simp [itemS] at hr
 | succ F => ?_
 have hLF : ListC F := hL F (Nat.lt_succ_self F)
 rw [itemS] at hr
 refine Fn.dropC ?_
 by_cases g0 : p = e
 ·rw [if_pos g0] at hr
  obtain rfl := Option.some.inj hr
  refine fn_of_w h0 (fun _ => rfl) (fn := Tryz.f132) (by kernel_rfl) rfl rfl ?_
  refine wo ?_
  apply p_op; exact (vwant_n rfl); iterate 4 exact rfl
  refine e_alloc rfl fun bo => ⟨_, rfl, ?_⟩
  refine wo ?_
  apply wm; iterate 5 exact rfl
  refine mv_int (v := .b true) rfl rfl (vi_eqlT (by omega))
  refine wo ?_
  apply wn; iterate 5 exact rfl
  refine p_buildS (C := [.i .i64 (p : Nat), .i .i64 50]) (.cons rfl rfl rfl rfl (Nat.le_of_ble_eq_true rfl) (.cons rfl rfl rfl rfl (Nat.le_of_ble_eq_true rfl) .nil)) rfl
  apply wn; iterate 5 exact rfl
  refine pv_mkif (td_st rfl) rfl
  refine p_panic (vwant_n rfl) rfl ?_
  exact wend_pan ⟨[], cle, _, rfl, rfl⟩
 rw [if_neg g0] at hr
 obtain ⟨ba, oa, rfl⟩ := rb_spot hb (by omega)
 have hx := byte_at (b := b) (p := p) (by omega)
 have hx4 := bAt_lt b p
 refine fn_of_w h0 (fun _ => rfl) (fn := Tryz.f132) (by kernel_rfl) rfl rfl ?_
 refine wo ?_
 apply p_op; exact (vwant_n rfl); iterate 4 exact rfl
 refine e_alloc rfl fun bo => ⟨_, rfl, ?_⟩
 refine wo ?_
 apply wm; iterate 5 exact rfl
 refine mv_int (v := .b false) rfl rfl (vi_eqlF (by omega))
 refine wo ?_
 apply wn; iterate 5 exact rfl
 refine p_ia rfl rfl (by omega)
 apply wm; iterate 5 exact rfl
 refine m_ldN (j := p) rfl hb.1 hb.2 rfl hx
 refine wo ?_
 by_cases g1 : bAt b p < 128
 ·rw [if_pos g1] at hr
  obtain rfl := Option.some.inj hr
  apply wm; iterate 5 exact rfl
  refine mv_int (v := .b true) rfl rfl (vi_lssT (by omega))
  refine wo ?_
  apply p_do; exact (vwant_n rfl); exact rfl; exact rfl
  refine e_st (C' := [.sl (some (ba, oa)) b.length c o, .i .i64 ((p + 1 : Nat) : Int)]) rfl rfl rfl (Nat.le_of_ble_eq_true rfl) rfl ⟨_, rfl, ?_⟩
  refine wo ?_
  apply p_op; exact (vwant_n rfl); iterate 4 exact rfl
  refine e_bs (C := [.i .u8 (bAt b p : Nat)]) rfl rfl (.cons rfl rfl .nil) rfl fun b1 => ⟨_, rfl, ?_⟩
  apply wn; iterate 5 exact rfl
  refine p_buildS (C := [.b false, .sl (some (b1, 0)) 1 1 false, .sl none 0 0 false]) (.cons rfl rfl rfl rfl (Nat.le_of_ble_eq_true rfl) .nil) rfl
  apply p_do; exact (vwant_n rfl); exact rfl; exact rfl
  refine e_stn (C' := [.b false, .sl (some (b1, 0)) 1 1 false, .sl none 0 0 false]) rfl rfl (by simp) rfl (Nat.le_of_ble_eq_true rfl) rfl ⟨_, rfl, ?_⟩
  refine wo ?_
  refine w_ret (wend_ret (vres1 (rv_cell rfl rfl)) ⟨[(some br, cellsO [.sl (some (ba, oa)) b.length c o, .i .i64 ((p + 1) : Nat)] 212), (some b1, cellsO [.i .u8 (bAt b p : Nat)] 5)], cle, _, rfl, _, _, _, _, rfl, rfl, ?_⟩)
  rw [ItX, ItP]
  refine ⟨_, _, _, rfl, Sn.own List.mem_cons_self ?_⟩
  rw [List.map_cons, byV_bAt]
  rfl
 rw [if_neg g1] at hr
 apply wm; iterate 5 exact rfl
 refine mv_int (v := .b false) rfl rfl (vi_lssF (by omega))
 refine wo ?_
 by_cases g3 : 192 ≤ bAt b p ∧ 80 ≤ d
 ·rw [if_pos g3] at hr
  obtain rfl := Option.some.inj hr
  have g31 := g3.1
  have g32 := g3.2
  apply wm; iterate 5 exact rfl
  refine mv_int (v := .b true) rfl rfl (vi_geqT (by omega))
  refine wo ?_
  apply wmg; iterate 7 exact rfl
  refine mv_int (v := .b true) rfl rfl (vi_geqT (by omega))
  refine wo ?_
  apply wn; iterate 5 exact rfl
  refine p_buildS (C := [.i .i64 (p : Nat), .i .i64 53]) (.cons rfl rfl rfl rfl (Nat.le_of_ble_eq_true rfl) (.cons rfl rfl rfl rfl (Nat.le_of_ble_eq_true rfl) .nil)) rfl
  apply wn; iterate 5 exact rfl
  refine pv_mkif (td_st rfl) rfl
  refine p_panic (vwant_n rfl) rfl ?_
  exact wend_pan ⟨[], cle, _, rfl, rfl⟩
 rw [if_neg g3] at hr
 cases hS : lenS b e p with
 | error x =>
  rw [hS] at hr
  obtain rfl := Option.some.inj hr
  have hC : ∀ {Lr : HV} (hp' : Hp), SV ⟨hp, [br]⟩ hp' ([rdO br (.sl (some (ba, oa)) b.length c o) p] ++ Lr) → SV ⟨hp', [br]⟩ hp' [rdO br (.sl (some (ba, oa)) b.length c o) p] → Fn kxD 154 [.p (some (br, 0)), .i .i64 (e : Nat)] hp' [br] fun r N => ∃ y, r = .pan y ∧ y = flt x := fun hp' hs ht => by
   have := rlen_d (p := p) (e := e) ht (hb.give hs) hc (by omega) he hl
   rw [hS] at this
   exact this
  by_cases g2 : 192 ≤ bAt b p
  ·have g4 : ¬ 80 ≤ d := fun h => g3 ⟨g2, h⟩
   apply wm; iterate 5 exact rfl
   refine mv_int (v := .b true) rfl rfl (vi_geqT (by omega))
   refine wo ?_
   apply wmg; iterate 7 exact rfl
   refine mv_int (v := .b false) rfl rfl (vi_geqF (by omega))
   refine wo ?_
   refine p_callP [rdO br (.sl (some (ba, oa)) b.length c o) p] (vwant_n rfl) rfl rfl (fun hp' hs ht => hC hp' hs ht) ?_
   rintro y N rfl
   exact wend_pan ⟨[], cle, _, rfl, rfl⟩
  ·apply wm; iterate 5 exact rfl
   refine mv_int (v := .b false) rfl rfl (vi_geqF (by omega))
   refine wo ?_
   refine p_callP [rdO br (.sl (some (ba, oa)) b.length c o) p] (vwant_n rfl) rfl rfl (fun hp' hs ht => hC hp' hs ht) ?_
   rintro y N rfl
   exact wend_pan ⟨[], cle, _, rfl, rfl⟩
 | ok nq =>
  obtain ⟨n, q⟩ := nq
  rw [hS] at hr
  dsimp only at hr
  obtain ⟨l1, l2, l3⟩ := lenS_ok (by omega) hS
  have hC : ∀ {Lr : HV} (hp' : Hp), SV ⟨hp, [br]⟩ hp' ([rdO br (.sl (some (ba, oa)) b.length c o) p] ++ Lr) → SV ⟨hp', [br]⟩ hp' [rdO br (.sl (some (ba, oa)) b.length c o) p] → Fn kxD 154 [.p (some (br, 0)), .i .i64 (e : Nat)] hp' [br] fun r N => ∃ u, r = .v u ∧ u = .i .i64 (n : Nat) ∧ N = [rdO br (.sl (some (ba, oa)) b.length c o) q] := fun hp' hs ht => by
   have := rlen_d (p := p) (e := e) ht (hb.give hs) hc (by omega) he hl
   rw [hS] at this
   exact this
  by_cases g2 : 192 ≤ bAt b p
  ·have g4 : ¬ 80 ≤ d := fun h => g3 ⟨g2, h⟩
   apply wm; iterate 5 exact rfl
   refine mv_int (v := .b true) rfl rfl (vi_geqT (by omega))
   refine wo ?_
   apply wmg; iterate 7 exact rfl
   refine mv_int (v := .b false) rfl rfl (vi_geqF (by omega))
   refine wo ?_
   apply p_callM ([rdO br (.sl (some (ba, oa)) b.length c o) p]); exact (vwant_n rfl); iterate 4 exact rfl
   case hC => exact (fun hp' hs ht => hC hp' hs ht)
   rintro u N ⟨rfl, rfl⟩
   refine wo ?_
   by_cases g5 : e < q + n
   ·rw [if_pos g5] at hr
    obtain rfl := Option.some.inj hr
    apply wm; iterate 5 exact rfl
    refine mv_int (v := .b true) rfl rfl (vi_gtrT (by omega))
    refine wo ?_
    apply wn; iterate 5 exact rfl
    refine p_buildS (C := [.i .i64 (p : Nat), .i .i64 50]) (.cons rfl rfl rfl rfl (Nat.le_of_ble_eq_true rfl) (.cons rfl rfl rfl rfl (Nat.le_of_ble_eq_true rfl) .nil)) rfl
    apply wn; iterate 5 exact rfl
    refine pv_mkif (td_st rfl) rfl
    refine p_panic (vwant_n rfl) rfl ?_
    exact wend_pan ⟨[], cle, _, rfl, rfl⟩
   rw [if_neg g5, if_pos g2] at hr
   apply wm; iterate 5 exact rfl
   refine mv_int (v := .b false) rfl rfl (vi_gtrF (by omega))
   refine wo ?_
   apply wm; iterate 5 exact rfl
   refine mv_int (v := .b true) rfl rfl (vi_geqT (by omega))
   refine wo ?_
   cases r with
   | error x =>
    refine p_callP [rdO br (.sl (some (ba, oa)) b.length c o) q] (R := fun y _ => y = flt x) (vwant_n rfl) rfl rfl (fun hp' hs ht => hLF ht (hb.give hs) hc (by omega) (by omega) hl (by omega) hr) ?_
    rintro y N rfl
    exact wend_pan ⟨[], cle, _, rfl, rfl⟩
   | ok tq =>
    obtain ⟨t, q'⟩ := tq
    apply p_callM ([rdO br (.sl (some (ba, oa)) b.length c o) q]); exact (vwant_n rfl); iterate 4 exact rfl
    case hC => exact (fun hp' hs ht => hLF ht (hb.give hs) hc (by omega) (by omega) hl (by omega) hr)
    rintro u N ⟨a1, a2, a3, X, rfl, rfl, hX⟩
    apply p_do; exact (vwant_n rfl); exact rfl; exact rfl
    refine e_stn (C' := [a1, a2, a3]) rfl rfl (by simp) rfl (Nat.le_of_ble_eq_true rfl) rfl ⟨_, rfl, ?_⟩
    refine wo ?_
    exact w_ret (wend_ret (vres1 (rv_cell rfl rfl)) ⟨rdO br (.sl (some (ba, oa)) b.length c o) q' :: X, cle, _, rfl, a1, a2, a3, X, rfl, rfl, hX⟩)
  ·apply wm; iterate 5 exact rfl
   refine mv_int (v := .b false) rfl rfl (vi_geqF (by omega))
   refine wo ?_
   apply p_callM ([rdO br (.sl (some (ba, oa)) b.length c o) p]); exact (vwant_n rfl); iterate 4 exact rfl
   case hC => exact (fun hp' hs ht => hC hp' hs ht)
   rintro u N ⟨rfl, rfl⟩
   refine wo ?_
   by_cases g5 : e < q + n
   ·rw [if_pos g5] at hr
    obtain rfl := Option.some.inj hr
    apply wm; iterate 5 exact rfl
    refine mv_int (v := .b true) rfl rfl (vi_gtrT (by omega))
    refine wo ?_
    apply wn; iterate 5 exact rfl
    refine p_buildS (C := [.i .i64 (p : Nat), .i .i64 50]) (.cons rfl rfl rfl rfl (Nat.le_of_ble_eq_true rfl) (.cons rfl rfl rfl rfl (Nat.le_of_ble_eq_true rfl) .nil)) rfl
    apply wn; iterate 5 exact rfl
    refine pv_mkif (td_st rfl) rfl
    refine p_panic (vwant_n rfl) rfl ?_
    exact wend_pan ⟨[], cle, _, rfl, rfl⟩
   rw [if_neg g5, if_neg g2] at hr
   apply wm; iterate 5 exact rfl
   refine mv_int (v := .b false) rfl rfl (vi_gtrF (by omega))
   refine wo ?_
   apply wm; iterate 5 exact rfl
   refine mv_int (v := .b false) rfl rfl (vi_geqF (by omega))
   refine wo ?_
   apply d_op; exact (vwant_n rfl); exact rfl; exact noRd rfl; decide +kernel; (iterate 3 exact rfl); rotate_left
   refine e_slH rfl (bl_some rfl) (bl_some rfl) (by omega) (Nat.le_add_right q n) (by omega) hc hb (by simp) fun a' c' hA' hc' => ⟨_, rfl, ?_⟩
   try (case hok => exact rdOk_nil)
   have hxl : ((b.drop q).take n).length = n := by rw [List.length_take, List.length_drop]; omega
   have hqn : q + n - q = n := by omega
   rw [hqn] at hA' hc'
   rw [hqn]
   rw [← List.map_drop, ← List.map_take] at hA'
   apply d_callY []; exact (vwant_n rfl); decide +kernel; (iterate 4 exact rfl)
   try (case hok => exact rdOk_nil)
   case hC => exact (fun hp' hs ht => clone_g hs.ok hxl (hA'.imp (fun h => h.give0 hs) (fun h => by omega)) (by omega))
   rintro u N ⟨b1, o1, oo, rfl, rfl⟩
   refine wo ?_
   by_cases g6 : n = 1
   ·subst g6
    have hx1 : (((b.drop q).take 1).map byV)[0]? = some (.i .u8 (bAt b q : Nat)) := by
     rw [← byte_at (b := b) (p := q) (by omega), List.getElem?_map, List.getElem?_map, List.getElem?_take, if_pos (by decide), List.getElem?_drop, Nat.add_zero]
    have hy4 := bAt_lt b q
    apply wm; iterate 5 exact rfl
    refine mv_int (v := .b true) rfl rfl (vi_eqlT (by omega))
    refine wo ?_
    apply wg; iterate 7 exact rfl
    refine p_ia rfl rfl (by decide)
    refine zX (m_ldl rfl hx1) ?_
    by_cases g7 : bAt b q < 128
    ·rw [if_pos ⟨rfl, g7⟩] at hr
     obtain rfl := Option.some.inj hr
     apply wmg; iterate 7 exact rfl
     refine mv_int (v := .b true) rfl rfl (vi_lssT (by omega))
     refine wo ?_
     apply wn; iterate 5 exact rfl
     refine p_buildS (C := [.i .i64 (p : Nat), .i .i64 52]) (.cons rfl rfl rfl rfl (Nat.le_of_ble_eq_true rfl) (.cons rfl rfl rfl rfl (Nat.le_of_ble_eq_true rfl) .nil)) rfl
     apply wn; iterate 5 exact rfl
     refine pv_mkif (td_st rfl) rfl
     refine p_panic (vwant_n rfl) rfl ?_
     exact wend_pan ⟨[], cle, _, rfl, rfl⟩
    rw [if_neg (fun h => g7 h.2)] at hr
    obtain rfl := Option.some.inj hr
    apply wmg; iterate 7 exact rfl
    refine mv_int (v := .b false) rfl rfl (vi_lssF (by omega))
    refine wo ?_
    apply p_do; exact (vwant_n rfl); exact rfl; exact rfl
    refine e_st (C' := [.sl (some (ba, oa)) b.length c o, .i .i64 ((q + 1 : Nat) : Int)]) rfl rfl rfl (Nat.le_of_ble_eq_true rfl) rfl ⟨_, rfl, ?_⟩
    refine wo ?_
    apply wn; iterate 5 exact rfl
    refine p_buildS (C := [.b false, .sl (some (b1, 0)) 1 1 o1, .sl none 0 0 false]) (.cons rfl rfl rfl rfl (Nat.le_of_ble_eq_true rfl) .nil) rfl
    apply p_do; exact (vwant_n rfl); exact rfl; exact rfl
    refine e_stn (C' := [.b false, .sl (some (b1, 0)) 1 1 o1, .sl none 0 0 false]) rfl rfl (by simp) rfl (Nat.le_of_ble_eq_true rfl) rfl ⟨_, rfl, ?_⟩
    refine wo ?_
    refine w_ret (wend_ret (vres1 (rv_cell rfl rfl)) ⟨[(some br, cellsO [.sl (some (ba, oa)) b.length c o, .i .i64 ((q + 1) : Nat)] 212), (some b1, .cells (((b.drop q).take 1).map byV) 5 oo false)], cle, _, rfl, _, _, _, _, rfl, rfl, ?_⟩)
    rw [ItX, ItP, hxl]
    exact ⟨_, _, _, rfl, Sn.own List.mem_cons_self (take_all _)⟩
   ·rw [if_neg (fun h => g6 h.1)] at hr
    obtain rfl := Option.some.inj hr
    apply wm; iterate 5 exact rfl
    refine mv_int (v := .b false) rfl rfl (vi_eqlF (by omega))
    refine wo ?_
    apply p_do; exact (vwant_n rfl); exact rfl; exact rfl
    refine e_st (C' := [.sl (some (ba, oa)) b.length c o, .i .i64 ((q + n : Nat) : Int)]) rfl rfl rfl (Nat.le_of_ble_eq_true rfl) rfl ⟨_, rfl, ?_⟩
    refine wo ?_
    apply wn; iterate 5 exact rfl
    refine p_buildS (C := [.b false, .sl (some (b1, 0)) n n o1, .sl none 0 0 false]) (.cons rfl rfl rfl rfl (Nat.le_of_ble_eq_true rfl) .nil) rfl
    apply p_do; exact (vwant_n rfl); exact rfl; exact rfl
    refine e_stn (C' := [.b false, .sl (some (b1, 0)) n n o1, .sl none 0 0 false]) rfl rfl (by simp) rfl (Nat.le_of_ble_eq_true rfl) rfl ⟨_, rfl, ?_⟩
    refine wo ?_
    refine w_ret (wend_ret (vres1 (rv_cell rfl rfl)) ⟨[(some br, cellsO [.sl (some (ba, oa)) b.length c o, .i .i64 ((q + n) : Nat)] 212), (some b1, .cells (((b.drop q).take n).map byV) 5 oo false)], cle, _, rfl, _, _, _, _, rfl, rfl, ?_⟩)
    rw [ItX, ItP, hxl]
    exact ⟨_, _, _, rfl, Sn.own List.mem_cons_self (take_all _)⟩
set_option maxHeartbeats 32000000 in
theorem list_d {F : Nat} (hI : ∀ g, g < F → ItemC g) : ListC F := by
 intro b A c o p e d br hp r h0 hb hc hpe he hl hd hr
 refine Fn.dropC ?_
 refine fn_of_w h0 (fun _ => rfl) (fn := Tryz.f155) (by kernel_rfl) rfl rfl ?_
 refine wo ?_
 apply p_op; exact (vwant_n rfl); iterate 4 exact rfl
 refine e_alloc rfl fun bo => ⟨_, rfl, ?_⟩
 refine wo ?_
 apply wn; iterate 5 exact rfl
 refine p_buildS (C := [.b true, .sl none 0 0 false, .sl none 0 0 false]) (.cons rfl rfl rfl rfl (Nat.le_of_ble_eq_true rfl) .nil) rfl
 apply p_op; exact (vwant_n rfl); iterate 4 exact rfl
 refine e_alloc rfl fun bx => ⟨_, rfl, ?_⟩
 apply p_do; exact (vwant_n rfl); exact rfl; exact rfl
 refine e_stn (C' := [.b true, .sl none 0 0 false, .sl none 0 0 false]) rfl rfl (by simp) rfl (Nat.le_of_ble_eq_true rfl) rfl ⟨_, rfl, ?_⟩
 refine wo ?_
 refine w_seq ?_
 refine wo ?_
 refine w_loop (ι := Nat × Nat × Nat × List It × V × HV × HV × List (List V)) (fun s => [(7, .p (some (bx, 0))), (6, .p (some (bo, 0))), (2, .i .i64 (d : Nat)), (1, .i .i64 (e : Nat)), (0, .p (some (br, 0)))]) (fun s => (some bx, cellsO [.b true, .sl none 0 0 false, s.2.2.2.2.1] 95) :: (some bo, cellsO [.b false, .sl none 0 0 false, .sl none 0 0 false] 95) :: rdO br (.sl A b.length c o) s.1 :: (s.2.2.2.2.2.1 ++ s.2.2.2.2.2.2.1)) (fun s => s.1 ≤ e ∧ s.2.1 ≤ F ∧ s.2.2.1 ≤ s.1 ∧ s.2.2.2.1.length = s.2.2.1 ∧ listS s.2.1 b s.1 e d s.2.2.2.1 = some r ∧ RowG 95 3 s.2.2.1 s.2.2.2.2.2.2.2.flatten s.2.2.2.2.1 s.2.2.2.2.2.1 ∧ ItXs s.2.2.2.2.2.2.1 s.2.2.2.1 s.2.2.2.2.2.2.2) (fun s => e - s.1) (p, F, 0, [], .sl none 0 0 false, [], [], []) ⟨hpe, Nat.le_refl _, Nat.zero_le _, rfl, hr, .nil, (by rw [ItXs, ItPs])⟩ ⟨rfl, rfl, rfl, rfl, rfl, trivial⟩ (fun hp h => h) ?_
 intro ⟨q, f, n, acc, w, N, X, us⟩ ⟨hq, hf, hnq, hn, hr, hw, hX⟩
 dsimp only at hq hf hnq hn hr hw hX ⊢
 obtain ⟨Aw, ow, rfl⟩ := hw.sl
 cases f with
 | zero => simp [listS] at hr
 | succ f => ?_
 rw [listS] at hr
 refine wo ?_
 by_cases g : q < e
 ·rw [if_pos g] at hr
  apply wm; iterate 5 exact rfl
  refine mv_int (v := .b true) rfl rfl (vi_lssT (by omega))
  cases hi : itemS f b q e d with
  | none => rw [hi] at hr; simp at hr
  | some ri => ?_
  rw [hi] at hr
  have hIf : ItemC f := hI f (by omega)
  cases ri with
  | error x =>
   obtain rfl := Option.some.inj hr
   repeat (first | ((first | (apply wn; iterate 5 exact rfl) | (apply dn; iterate 5 exact rfl) | (apply wg; iterate 7 exact rfl) | (apply dg; iterate 7 exact rfl)); first | (apply pv_move; exact rfl) | (apply pv_assign; exact rfl) | (apply pv_nilc; exact rfl) | (apply pv_ext; exact rfl; exact rfl) | (apply p_fa; exact rfl) | (apply pv_not; exact rfl) | (apply pv_pickT; exact rfl; exact rfl) | (apply pv_pickF; exact rfl; exact rfl)) | ((first | (apply wm; iterate 5 exact rfl) | (apply dm; iterate 6 exact rfl) | (apply wmg; iterate 7 exact rfl) | (apply dmg; iterate 8 exact rfl)); first | (apply m_len; exact rfl) | exact mv_addN rfl rfl (by omega) | exact mv_subN rfl rfl (by omega) | exact mv_mulN rfl rfl (by omega)) | (apply ww; (iterate 5 exact rfl); exact m_ldl rfl rfl) | apply wl_nil | (apply w_seqN; exact rfl) | apply w_block | apply w_region | (apply w_condT; exact rfl) | (apply w_condF; exact rfl) | apply w_skip | apply w_label | apply wd_nil | refine dy rfl rfl rfl rfl rfl rfl (m_ldl rfl rfl) ?_ | (apply dw; (iterate 3 exact rfl); decide +kernel; (iterate 3 exact rfl); exact m_ldl rfl rfl) | (apply wi; iterate 6 exact rfl) | (apply wu; iterate 6 exact rfl) | (apply wi0; iterate 4 exact rfl) | (apply di; iterate 6 exact rfl) | (apply du; iterate 6 exact rfl) | (apply wwg; (iterate 7 exact rfl); exact m_ldl rfl rfl) | refine dyg rfl rfl rfl rfl rfl rfl rfl rfl (m_ldl rfl rfl) ?_ | (apply dwg; (iterate 5 exact rfl); decide +kernel; (iterate 3 exact rfl); exact m_ldl rfl rfl))
   refine w_dpan (by kernel_rfl) ?_
   refine wp_pure (vwant_n rfl) rfl rfl rfl rfl (p_fa rfl) ?_
   refine wp_rd (vwant_n rfl) rfl rfl rfl rfl rfl (m_ldl rfl rfl) ?_
   refine wp_pure (vwant_n rfl) rfl rfl rfl rfl (pv_move rfl) ?_
   refine wp_pure (vwant_n rfl) rfl rfl rfl rfl (pv_move rfl) ?_
   refine wp_pure (vwant_n rfl) rfl rfl rfl rfl (pv_move rfl) ?_
   refine wp_callP [rdO br (.sl A b.length c o) q] (R := fun y _ => y = flt x) (vwant_n rfl) rfl rfl rfl (fun hp' hs ht => hIf ht (hb.give hs) hc (by omega) he hl hd hi) ?_ ?_
   ·rintro y N' rfl
    exact wend_pan ⟨[], cle, _, rfl, rfl⟩
   refine wq_dep (by decide +kernel) ?_
   refine wq_dep (by decide +kernel) ?_
   refine wq_dep (by decide +kernel) ?_
   refine wq_dep (by decide +kernel) ?_
   exact wq_nil
  | ok tq =>
   obtain ⟨t, q'⟩ := tq
   dsimp only at hr
   obtain ⟨i1, i2⟩ := itemS_at hq hi
   refine wl_know (fun hp hs => notin_of (b := bx) (M := [rdO br (.sl A b.length c o) q]) hs) fun hnot => ?_
   haveI := hnot
   refine wo ?_
   apply d_callM ([rdO br (.sl A b.length c o) q]); exact (vwant_n rfl); decide +kernel; (iterate 4 exact rfl)
   try (case hok => exact rdOk_c)
   case hC => exact (fun hp' hs ht => hIf ht (hb.give hs) hc (by omega) he hl hd hi)
   rintro u N1 ⟨a1, a2, a3, X1, rfl, rfl, hX1⟩
   apply d_op; exact (vwant_n rfl); exact rfl; exact noRd rfl; decide +kernel; (iterate 3 exact rfl); rotate_left
   refine e_bsn (C := [a1, a2, a3]) (n := 1) (sz := 3) rfl rfl (by decide) (.cons rfl rfl rfl .nil) rfl rfl fun b1 => ⟨_, rfl, ?_⟩
   try (case hok => exact rdOk_nil)
   apply d_op; exact (vwant_n rfl); exact rfl; exact noRd rfl; decide +kernel; (iterate 3 exact rfl); rotate_left
   refine e_appN (n := 1) hw rfl rfl (rz_loc (k := 3) rfl) rfl (by decide) (by omega) fun A3 o3 N3 hw3 => ⟨_, rfl, ?_⟩
   try (case hok => exact rdOk_b (by decide +kernel))
   refine wo ?_
   apply d_do; exact (vwant_n rfl); exact rfl; exact noRd rfl; decide +kernel; exact rfl; rotate_left
   refine e_st (C' := [.b true, .sl none 0 0 false, .sl A3 (n + 1) (n + 1) o3]) rfl rfl rfl (Nat.le_of_ble_eq_true rfl) rfl ⟨_, rfl, ?_⟩
   try (case hok => exact rdOk_b (by decide +kernel))
   refine wo ?_
   refine ⟨rfl, (q', f, n + 1, acc ++ [t], .sl A3 (n + 1) (n + 1) o3, N3, X1 ++ X, us ++ [[a1, a2, a3]]), ⟨i2, by dsimp only; omega, by dsimp only; omega, by simp [hn], hr, by rw [flat_snoc]; exact hw3, ?_⟩, by dsimp only; omega, ⟨rfl, rfl, rfl, rfl, rfl, trivial⟩, fun hp h => h.le⟩
   exact itPs_snoc (itP_mono (fun A cs h => h.mono fun p hp => List.mem_append_left _ hp) _ _ hX1) (itPs_mono (fun A cs h => h.mono fun p hp => List.mem_append_right _ hp) _ _ hX)
 rw [if_neg g] at hr
 obtain rfl := Option.some.inj hr
 apply wm; iterate 5 exact rfl
 refine mv_int (v := .b false) rfl rfl (vi_lssF (by omega))
 refine wo ?_
 refine w_exit ?_
 refine wo ?_
 refine zX (m_ldln (s := 2) (cs := [.b true, .sl none 0 0 false, .sl Aw n n ow]) rfl rfl rfl) ?_
 apply p_do; exact (vwant_n rfl); exact rfl; exact rfl
 refine e_stn (C' := [.b true, .sl none 0 0 false, .sl Aw n n ow]) rfl rfl (by simp) rfl (Nat.le_of_ble_eq_true rfl) rfl ⟨_, rfl, ?_⟩
 refine wo ?_
 refine w_ret (wend_ret (vres1 (rv_cell rfl rfl)) ⟨rdO br (.sl A b.length c o) q :: (N ++ X), cle, _, rfl, _, _, _, N ++ X, rfl, rfl, ?_⟩)
 rw [ItX, ItP, hn]
 exact ⟨_, _, _, us, rfl, hw.sn fun p hp => List.mem_append_left _ hp, itPs_mono (fun A cs h => h.mono fun p hp => List.mem_append_right _ hp) _ _ hX⟩
theorem reads : ∀ F, ItemC F ∧ ListC F := by
 intro F
 induction F using Nat.strongRecOn with
 | ind F ih => exact ⟨item_d fun g hg => (ih g hg).2, list_d fun g hg => (ih g hg).1⟩
end Go.Proofs.YtbmkclbghfbegaaGreatDoor
/- Dr4: reading bytes as an item: what gives up is caught. By this project. -/
set_option maxRecDepth 100000
namespace Go.Proofs.YtbmkclbghfbegaaGreatDoor
open Go.RowKit Go.Extern.Stop
section
variable {K : Kx} {hp0 : Bs} {l : VL} {L : HV} {a b : Operand} {t t' : TypeId}
theorem m_eqi0 {s : Nat} {v : V} [hI : IfcV K.C t] (hx : evL l a = some (.ifc s v)) (hy : evL l b = some .ni) : MVO K hp0 l L (.binOp .eql t a b t') (.b false) := mv_eql hx hy rfl fun hp => by
 obtain ⟨ti, h1, h2⟩ := hI.h
 simp only [veqOp, veq, h1, Option.bind_some, h2]
theorem m_eqn0 [hI : IfcV K.C t] (hx : evL l a = some .ni) (hy : evL l b = some .ni) (hc : (isConstO a || isConstO b) = true) : MVO K hp0 l L (.binOp .eql t a b t') (.b true) := mv_eql hx hy rfl fun hp => by
 obtain ⟨ti, h1, h2⟩ := hI.h
 simp only [veqOp, hc, veq, h1, Option.bind_some, h2]
end
theorem lenS_err {b : List UInt8} {e p : Nat} {x : Flt} (h : lenS b e p = .error x) : x.2 ≠ 0 := by
 unfold lenS at h
 split at h
 ·simp at h
 ·split at h
  ·obtain rfl := Except.error.inj h; simp
  ·split at h
   ·obtain rfl := Except.error.inj h; simp
   ·split at h
    ·obtain rfl := Except.error.inj h; simp
    ·split at h
     ·obtain rfl := Except.error.inj h; simp
     ·simp at h
mutual
theorem itemS_err : ∀ {f : Nat} {b : List UInt8} {p e d : Nat} {x : Flt}, itemS f b p e d = some (.error x) → x.2 ≠ 0
 | 0, b, p, e, d, x, h => by simp [itemS] at h
 | f + 1, b, p, e, d, x, h => by
  rw [itemS] at h
  split at h
  ·obtain rfl := Except.error.inj (Option.some.inj h); simp
  ·split at h
   ·simp at h
   ·split at h
    ·obtain rfl := Except.error.inj (Option.some.inj h); simp
    ·split at h
     ·rename_i hl
      obtain rfl := Except.error.inj (Option.some.inj h)
      exact lenS_err hl
     ·split at h
      ·obtain rfl := Except.error.inj (Option.some.inj h); simp
      ·split at h
       ·exact listS_err h
       ·split at h
        ·obtain rfl := Except.error.inj (Option.some.inj h); simp
        ·simp at h
theorem listS_err : ∀ {f : Nat} {b : List UInt8} {p e d : Nat} {acc : List It} {x : Flt}, listS f b p e d acc = some (.error x) → x.2 ≠ 0
 | 0, b, p, e, d, acc, x, h => by simp [listS] at h
 | f + 1, b, p, e, d, acc, x, h => by
  rw [listS] at h
  split at h
  ·split at h
   ·simp at h
   ·rename_i hi
    obtain rfl := Except.error.inj (Option.some.inj h)
    exact itemS_err hi
   ·exact listS_err h
  ·simp at h
end
def readS (b : List UInt8) : Except Flt (It × Nat) :=
 if 1048576 < b.length then .error (0, 54)
 else match itemS (2 * b.length + 1) b 0 b.length 0 with
  | some r => r
  | none => .error (0, 0)
theorem readS_err {b : List UInt8} {x : Flt} (h : readS b = .error x) : x.2 ≠ 0 := by
 unfold readS at h
 split at h
 ·obtain rfl := Except.error.inj h; simp
 ·obtain ⟨r, hr⟩ := itemS_some (2 * b.length + 1) b 0 b.length 0 (Nat.zero_le _) (by omega)
  rw [hr] at h
  dsimp only at h
  subst h
  exact itemS_err hr
theorem decS_of (b : List UInt8) : decS b = match readS b with
 | .error x => .error x
 | .ok (t, q) => if q < b.length then .error (q, 51) else .ok t := by
 unfold decS readS
 split
 ·rfl
 ·obtain ⟨r, hr⟩ := itemS_some (2 * b.length + 1) b 0 b.length 0 (Nat.zero_le _) (by omega)
  rw [hr]
  cases r with
  | error x => rfl
  | ok tq => rfl
abbrev zI : List V := [.b false, .sl none 0 0 false, .sl none 0 0 false]
set_option maxHeartbeats 8000000 in
theorem read1_df {b2 b3 b4 : Nat} {x : Flt} {B : Bs} {c2 c3 c4 : List V} {L : HV} (h2 : c2.length = 3) (h3 : c3.length = 1) (h4 : c4.length = 2) :
  DFn kxD 131 [.p (some (b2, 0)), .p (some (b3, 0)), .p (some (b4, 0))] (.pan (flt x) false) B ((some b2, cellsO c2 95) :: (some b3, cellsO c3 3) :: (some b4, cellsO c4 180) :: L) fun r u' L' => r = .v (.tup []) ∧ u' = .pan (flt x) true ∧ ∃ bt o, L' = (some bt, o) :: (some b2, cellsO zI 95) :: (some b3, cellsO [.i .i64 0] 3) :: (some b4, cellsO [.i .i64 (x.1 : Nat), .i .i64 (x.2 : Nat)] 180) :: L := by
 obtain ⟨y1, y2, y3, rfl⟩ : ∃ a b c, c2 = [a, b, c] := by
  match c2, h2 with
  | [a, b, c], _ => exact ⟨a, b, c, rfl⟩
 obtain ⟨y4, rfl⟩ : ∃ a, c3 = [a] := by
  match c3, h3 with
  | [a], _ => exact ⟨a, rfl⟩
 obtain ⟨y5, y6, rfl⟩ : ∃ a b, c4 = [a, b] := by
  match c4, h4 with
  | [a, b], _ => exact ⟨a, b, rfl⟩
 refine dfn_rec (fun _ => rfl) (fn := Tryz.f131) (by kernel_rfl) rfl rfl rfl rfl rfl rfl (by kernel_rfl) rfl ?_
 refine wo ?_
 apply wm; iterate 5 exact rfl
 refine m_eqi0 rfl rfl
 refine wo ?_
 apply wn; iterate 5 exact rfl
 refine pv_ta rfl rfl
 refine wo ?_
 apply p_op; exact (vwant_n rfl); iterate 4 exact rfl
 refine e_alloc rfl fun bt => ⟨_, rfl, ?_⟩
 apply p_do; exact (vwant_n rfl); exact rfl; exact rfl
 refine e_stn (C' := [.i .i64 (x.1 : Nat), .i .i64 (x.2 : Nat)]) rfl rfl (by simp) rfl (Nat.le_of_ble_eq_true rfl) rfl ⟨_, rfl, ?_⟩
 refine wl_know (fun hp hs => (⟨nin1 (b := bt) (b' := b2) hs (by decide), nin1 (b := bt) (b' := b3) hs (by decide), nin1 (b := bt) (b' := b4) hs (by decide)⟩ : NotIn bt [b2] ∧ NotIn bt [b3] ∧ NotIn bt [b4])) fun ⟨n2, n3, n4⟩ => ?_
 refine wo ?_
 apply dn; iterate 5 exact rfl
 refine p_buildS (C := zI) .nil rfl
 refine yX (m_ldln (s := 1) (cs := [.i .i64 (x.1 : Nat), .i .i64 (x.2 : Nat)]) rfl rfl rfl) ?_
 apply d_do; exact (vwant_n rfl); exact rfl; exact noRd rfl; decide +kernel; exact rfl; rotate_left
 refine e_stn (C' := zI) rfl rfl (by simp) rfl (Nat.le_of_ble_eq_true rfl) rfl ⟨_, rfl, ?_⟩
 try (case hok => exact rdOk_c)
 apply d_do; exact (vwant_n rfl); exact rfl; exact noRd rfl; decide +kernel; exact rfl; rotate_left
 refine e_st (C' := [.i .i64 0]) rfl rfl rfl (Nat.le_of_ble_eq_true rfl) rfl ⟨_, rfl, ?_⟩
 try (case hok => exact rdOk_c)
 apply d_do; exact (vwant_n rfl); exact rfl; exact noRd rfl; decide +kernel; exact rfl; rotate_left
 refine e_stn (C' := [.i .i64 (x.1 : Nat), .i .i64 (x.2 : Nat)]) rfl rfl (by simp) rfl (Nat.le_of_ble_eq_true rfl) rfl ⟨_, rfl, ?_⟩
 try (case hok => exact rdOk_b (by decide +kernel))
 refine wo ?_
 exact ⟨rfl, .tup [], vres0, rfl, rfl, bt, _, rfl⟩
set_option maxHeartbeats 8000000 in
theorem read1_df0 {b2 b3 b4 : Nat} {B : Bs} {L : HV} :
  DFn kxD 131 [.p (some (b2, 0)), .p (some (b3, 0)), .p (some (b4, 0))] .ret B L fun r u' L' => r = .v (.tup []) ∧ u' = .ret ∧ L' = L := by
 refine dfn_rec (fun _ => rfl) (fn := Tryz.f131) (by kernel_rfl) rfl rfl rfl rfl rfl rfl (by kernel_rfl) rfl ?_
 refine wo ?_
 apply wm; iterate 5 exact rfl
 refine m_eqn0 rfl rfl rfl
 refine wo ?_
 exact ⟨rfl, .tup [], vres0, rfl, rfl, rfl⟩
set_option maxHeartbeats 16000000 in
theorem read_d {A : Option (Nat × Nat)} {b : List UInt8} {c : Nat} {o : Bool} {hp : Hp} (ho : OkH hp) (hb : RB ⟨hp, []⟩ A (b.map byV)) (hc : b.length ≤ c) :
  Fn kxD 104 [.sl A b.length c o] hp [] fun r N => match readS b with
   | .error x => ∃ u, r = .v u ∧ u = .tup [.agg zI, .i .i64 0, .agg [.i .i64 (x.1 : Nat), .i .i64 (x.2 : Nat)]]
   | .ok (t, q) => ∃ u, r = .v u ∧ ∃ a1 a2 a3, u = .tup [.agg [a1, a2, a3], .i .i64 (q : Nat), .agg [.i .i64 0, .i .i64 0]] ∧ ItX N t [a1, a2, a3] := by
 refine Fn.dropC ?_
 unfold readS
 refine fn_of_w (T := []) ho.sv (fun _ => rfl) (fn := Tryz.f104) (by kernel_rfl) rfl rfl ?_
 refine wo ?_
 apply p_op; exact (vwant_n rfl); iterate 4 exact rfl
 refine e_alloc rfl fun b2 => ⟨_, rfl, ?_⟩
 apply p_op; exact (vwant_n rfl); iterate 4 exact rfl
 refine e_alloc rfl fun b3 => ⟨_, rfl, ?_⟩
 apply p_op; exact (vwant_n rfl); iterate 4 exact rfl
 refine e_alloc rfl fun b4 => ⟨_, rfl, ?_⟩
 refine wo ?_
 by_cases g : 1048576 < b.length
 ·rw [if_pos g]
  apply wm; iterate 5 exact rfl
  refine mv_int (v := .b true) rfl rfl (vi_gtrT (by omega))
  refine wo ?_
  apply wn; iterate 5 exact rfl
  refine p_buildS (C := zI) .nil rfl
  apply wn; iterate 5 exact rfl
  refine p_buildS (C := [.i .i64 0, .i .i64 54]) (.cons rfl rfl rfl rfl (Nat.le_of_ble_eq_true rfl) (.cons rfl rfl rfl rfl (Nat.le_of_ble_eq_true rfl) .nil)) rfl
  apply p_do; exact (vwant_n rfl); exact rfl; exact rfl
  refine e_stn (C' := zI) rfl rfl (by simp) rfl (Nat.le_of_ble_eq_true rfl) rfl ⟨_, rfl, ?_⟩
  apply p_do; exact (vwant_n rfl); exact rfl; exact rfl
  refine e_st (C' := [.i .i64 0]) rfl rfl rfl (Nat.le_of_ble_eq_true rfl) rfl ⟨_, rfl, ?_⟩
  apply p_do; exact (vwant_n rfl); exact rfl; exact rfl
  refine e_stn (C' := [.i .i64 0, .i .i64 54]) rfl rfl (by simp) rfl (Nat.le_of_ble_eq_true rfl) rfl ⟨_, rfl, ?_⟩
  refine wo ?_
  exact w_ret (wend_ret (vres3 (rv_cell rfl rfl) (rv_cell1 rfl rfl) (rv_cell rfl rfl)) ⟨[], cle, _, rfl, rfl⟩)
 rw [if_neg g]
 obtain ⟨r, hr⟩ := itemS_some (2 * b.length + 1) b 0 b.length 0 (Nat.zero_le _) (by omega)
 rw [hr]
 dsimp only
 apply wm; iterate 5 exact rfl
 refine mv_int (v := .b false) rfl rfl (vi_gtrF (by omega))
 refine wo ?_
 apply wn; iterate 5 exact rfl
 refine pv_mkfn rfl rfl
 refine wl_defer (vwant_n rfl) rfl rfl rfl rfl rfl ?_
 refine wo ?_
 apply wn; iterate 5 exact rfl
 refine p_buildS (C := [.sl A b.length c o, .i .i64 0]) (.cons rfl rfl rfl rfl (Nat.le_of_ble_eq_true rfl) .nil) rfl
 apply p_op; exact (vwant_n rfl); iterate 4 exact rfl
 refine ev_box rfl rfl fun br => ⟨_, rfl, ?_⟩
 refine wo ?_
 cases r with
 | error x =>
  refine p_callP [rdO br (.sl A b.length c o) 0] (R := fun y _ => y = flt x) (vwant_n rfl) rfl rfl (fun hp' hs ht => (reads _).1 ht (hb.give hs) hc (Nat.zero_le _) (Nat.le_refl _) (by omega) (by decide) hr) ?_
  rintro y N rfl
  refine ⟨.pan (flt x) false, rfl, fun hp' hs => ?_⟩
  obtain ⟨r, u', hp2, L2, h1, h2, h3, rfl, rfl, bt, o', rfl⟩ := read1_df (x := x) (b2 := b2) (b3 := b3) (b4 := b4) (c2 := zI) (c3 := [.i .i64 0]) (c4 := [.i .i64 0, .i .i64 0]) (L := []) rfl rfl rfl hp' (hs.tail.pick [2, 1, 0] _ rfl (by decide))
  exact ⟨_, _, hp2, _, h1, h2, h3, _, vres3 (rv_cell rfl rfl) (rv_cell1 rfl rfl) (rv_cell rfl rfl), [], cle, _, rfl, rfl⟩
 | ok tq =>
  obtain ⟨t, q⟩ := tq
  apply p_callM ([rdO br (.sl A b.length c o) 0]); exact (vwant_n rfl); iterate 4 exact rfl
  case hC => exact (fun hp' hs ht => (reads _).1 ht (hb.give hs) hc (Nat.zero_le _) (Nat.le_refl _) (by omega) (by decide) hr)
  rintro u N ⟨a1, a2, a3, X, rfl, rfl, hX⟩
  apply p_do; exact (vwant_n rfl); exact rfl; exact rfl
  refine e_stn (C' := [a1, a2, a3]) rfl rfl (by simp) rfl (Nat.le_of_ble_eq_true rfl) rfl ⟨_, rfl, ?_⟩
  refine wl_know (fun hp hs => (⟨nin1 (b := br) (b' := b2) hs (by omega), nin1 (b := br) (b' := b3) hs (by omega), nin1 (b := br) (b' := b4) hs (by omega), nin1 (b := b2) (b' := b3) hs (by omega), nin1 (b := b2) (b' := b4) hs (by omega)⟩ : NotIn br [b2] ∧ NotIn br [b3] ∧ NotIn br [b4] ∧ NotIn b2 [b3] ∧ NotIn b2 [b4])) fun ⟨n2, n3, n4, n5, n6⟩ => ?_
  refine wo ?_
  refine yX (m_ldln (s := 2) (cs := [a1, a2, a3]) rfl rfl rfl) ?_
  refine wo ?_
  apply dn; iterate 5 exact rfl
  refine p_buildS (C := [.i .i64 0, .i .i64 0]) .nil rfl
  apply d_do; exact (vwant_n rfl); exact rfl; exact noRd rfl; decide +kernel; exact rfl; rotate_left
  refine e_stn (C' := [a1, a2, a3]) rfl rfl (by simp) rfl (Nat.le_of_ble_eq_true rfl) rfl ⟨_, rfl, ?_⟩
  try (case hok => repeat (first | exact rdOk_e | refine rdOk_d (by decide +kernel) ?_ | refine rdOk_n ?_))
  apply d_do; exact (vwant_n rfl); exact rfl; exact noRd rfl; decide +kernel; exact rfl; rotate_left
  refine e_st (C' := [.i .i64 (q : Nat)]) rfl rfl rfl (Nat.le_of_ble_eq_true rfl) rfl ⟨_, rfl, ?_⟩
  try (case hok => exact rdOk_b (by decide +kernel))
  apply d_do; exact (vwant_n rfl); exact rfl; exact noRd rfl; decide +kernel; exact rfl; rotate_left
  refine e_stn (C' := [.i .i64 0, .i .i64 0]) rfl rfl (by simp) rfl (Nat.le_of_ble_eq_true rfl) rfl ⟨_, rfl, ?_⟩
  try (case hok => exact rdOk_b (by decide +kernel))
  refine wo ?_
  refine w_ret ⟨.ret, rfl, fun hp' hs => ?_⟩
  obtain ⟨r, u', hp2, L2, h1, h2, h3, rfl, rfl, rfl⟩ := read1_df0 (b2 := b2) (b3 := b3) (b4 := b4) hp' hs
  exact ⟨_, _, hp2, _, h1, h2, h3, _, vres3 (rv_cell rfl rfl) (rv_cell1 rfl rfl) (rv_cell rfl rfl), X, cle, _, rfl, a1, a2, a3, rfl, hX⟩
set_option maxHeartbeats 16000000 in
theorem decode_d {A : Option (Nat × Nat)} {b : List UInt8} {c : Nat} {o : Bool} {hp : Hp} (ho : OkH hp) (hb : RB ⟨hp, []⟩ A (b.map byV)) (hc : b.length ≤ c) :
  Fn kxD 78 [.sl A b.length c o] hp [] fun r N => match decS b with
   | .error x => ∃ u, r = .v u ∧ u = .tup [.agg zI, .i .i64 (x.1 : Nat), .i .i64 (x.2 : Nat)]
   | .ok t => ∃ u, r = .v u ∧ ∃ a1 a2 a3, u = .tup [.agg [a1, a2, a3], .i .i64 0, .i .i64 0] ∧ ItX N t [a1, a2, a3] := by
 refine Fn.dropC ?_
 rw [decS_of]
 refine fn_of_w (T := []) ho.sv (fun _ => rfl) (fn := Tryz.f78) (by kernel_rfl) rfl rfl ?_
 refine wo ?_
 apply p_op; exact (vwant_n rfl); iterate 4 exact rfl
 refine e_alloc rfl fun b2 => ⟨_, rfl, ?_⟩
 refine wo ?_
 cases hS : readS b with
 | error x =>
  have hx := readS_err hS
  have hC : ∀ {L : HV} {hp' : Hp}, SV ⟨hp, []⟩ hp' L → OkH hp' → Fn kxD 104 [.sl A b.length c o] hp' [] fun r N => ∃ u, r = .v u ∧ u = .tup [.agg zI, .i .i64 0, .agg [.i .i64 (x.1 : Nat), .i .i64 (x.2 : Nat)]] := fun hs ho => by
   have := read_d (o := o) ho (hb.give0 hs) hc
   rw [hS] at this
   exact this
  apply p_callY []; exact (vwant_n rfl); iterate 4 exact rfl
  case hC => exact (fun hp' hs ht => hC hs hs.ok)
  rintro u N rfl
  refine wo ?_
  apply p_op; exact (vwant_n rfl); iterate 4 exact rfl
  refine e_alloc rfl fun b5 => ⟨_, rfl, ?_⟩
  apply p_op; exact (vwant_n rfl); iterate 4 exact rfl
  refine e_alloc rfl fun b7 => ⟨_, rfl, ?_⟩
  apply p_do; exact (vwant_n rfl); exact rfl; exact rfl
  refine e_stn (C' := zI) rfl rfl (by simp) rfl (Nat.le_of_ble_eq_true rfl) rfl ⟨_, rfl, ?_⟩
  refine wo ?_
  apply p_do; exact (vwant_n rfl); exact rfl; exact rfl
  refine e_stn (C' := [.i .i64 (x.1 : Nat), .i .i64 (x.2 : Nat)]) rfl rfl (by simp) rfl (Nat.le_of_ble_eq_true rfl) rfl ⟨_, rfl, ?_⟩
  refine wl_know (fun hp hs => nin1 (b := b7) (b' := b2) hs (by omega)) fun n2 => ?_
  refine wo ?_
  apply wm; iterate 5 exact rfl
  refine mv_int (v := .b true) rfl rfl (vi_neqT (by omega))
  refine wo ?_
  apply dn; iterate 5 exact rfl
  refine p_buildS (C := zI) .nil rfl
  refine wo ?_
  apply d_do; exact (vwant_n rfl); exact rfl; exact noRd rfl; decide +kernel; exact rfl; rotate_left
  refine e_stn (C' := zI) rfl rfl (by simp) rfl (Nat.le_of_ble_eq_true rfl) rfl ⟨_, rfl, ?_⟩
  try (case hok => exact rdOk_c)
  refine wo ?_
  exact w_ret (wend_ret (vres3 (rv_cell rfl rfl) (rv_tmp rfl) (rv_tmp rfl)) ⟨[], cle, _, rfl, rfl⟩)
 | ok tq =>
  obtain ⟨t, q⟩ := tq
  dsimp only
  have hC : ∀ {L : HV} {hp' : Hp}, SV ⟨hp, []⟩ hp' L → OkH hp' → Fn kxD 104 [.sl A b.length c o] hp' [] fun r N => ∃ u, r = .v u ∧ ∃ a1 a2 a3, u = .tup [.agg [a1, a2, a3], .i .i64 (q : Nat), .agg [.i .i64 0, .i .i64 0]] ∧ ItX N t [a1, a2, a3] := fun hs ho => by
   have := read_d (o := o) ho (hb.give0 hs) hc
   rw [hS] at this
   exact this
  apply p_callY []; exact (vwant_n rfl); iterate 4 exact rfl
  case hC => exact (fun hp' hs ht => hC hs hs.ok)
  rintro u N ⟨a1, a2, a3, rfl, hX⟩
  refine wo ?_
  apply p_op; exact (vwant_n rfl); iterate 4 exact rfl
  refine e_alloc rfl fun b5 => ⟨_, rfl, ?_⟩
  apply p_op; exact (vwant_n rfl); iterate 4 exact rfl
  refine e_alloc rfl fun b7 => ⟨_, rfl, ?_⟩
  apply p_do; exact (vwant_n rfl); exact rfl; exact rfl
  refine e_stn (C' := [a1, a2, a3]) rfl rfl (by simp) rfl (Nat.le_of_ble_eq_true rfl) rfl ⟨_, rfl, ?_⟩
  refine wo ?_
  apply p_do; exact (vwant_n rfl); exact rfl; exact rfl
  refine e_stn (C' := [.i .i64 0, .i .i64 0]) rfl rfl (by simp) rfl (Nat.le_of_ble_eq_true rfl) rfl ⟨_, rfl, ?_⟩
  refine wo ?_
  apply wm; iterate 5 exact rfl
  refine mv_int (v := .b false) rfl rfl (vi_neqF (by omega))
  refine wo ?_
  by_cases g : q < b.length
  ·rw [if_pos g]
   apply wm; iterate 5 exact rfl
   refine mv_int (v := .b true) rfl rfl (vi_lssT (by omega))
   refine wo ?_
   apply wn; iterate 5 exact rfl
   refine p_buildS (C := zI) .nil rfl
   refine wo ?_
   apply p_do; exact (vwant_n rfl); exact rfl; exact rfl
   refine e_stn (C' := zI) rfl rfl (by simp) rfl (Nat.le_of_ble_eq_true rfl) rfl ⟨_, rfl, ?_⟩
   refine wo ?_
   exact w_ret (wend_ret (vres3 (rv_cell rfl rfl) (rv_tmp rfl) (rv_tmp rfl)) ⟨[], cle, _, rfl, rfl⟩)
  ·rw [if_neg g]
   apply wm; iterate 5 exact rfl
   refine mv_int (v := .b false) rfl rfl (vi_lssF (by omega))
   refine wo ?_
   refine zX (m_ldln (s := 2) (cs := [a1, a2, a3]) rfl rfl rfl) ?_
   apply p_do; exact (vwant_n rfl); exact rfl; exact rfl
   refine e_stn (C' := [a1, a2, a3]) rfl rfl (by simp) rfl (Nat.le_of_ble_eq_true rfl) rfl ⟨_, rfl, ?_⟩
   refine wo ?_
   exact w_ret (wend_ret (vres3 (rv_cell rfl rfl) (rv_tmp rfl) (rv_tmp rfl)) ⟨N, cle, _, rfl, a1, a2, a3, rfl, hX⟩)
/- Js8: the document's body of a record. By this project. -/
theorem w_cutS {K : Kx} {nt : Nat} {hp0 : Bs} {l : VL} {df : DL} {L : HV} {Q : WQ} {x y : Code} (F : VL) (H : HV) (P : Prop) (h : WG K nt hp0 x l df L (wthen (fun l' df' L' => P ∧ df' = df ∧ SubV l' F ∧ ∀ hp, SV hp0 hp L' → SV hp0 hp H) Q)) (hk : P → WG K nt hp0 y F df H Q) : WG K nt hp0 (.seq x y) l df L Q := w_cut _ h (fun l' df' L' ⟨h1, h2, h3, h4⟩ => by
 subst h2
 exact w_heap h4 (w_sub h3 (hk h1)))
/- Jsb: the document's body of a record. By this project. -/
theorem recK_enc (r : Rec) : encs (recK r) = ((((strB (shortB r.kind.toNat) ++ strB (shortB r.count.toNat)) ++ strB (shortB r.seq.toNat)) ++ strB r.prev) ++ strB r.root) ++ (headB 192 (encs (r.ch.map chgT)).length ++ encs (r.ch.map chgT)) := by
 unfold recK numI
 simp only [encs, enc_str, enc_list, List.append_nil, List.append_assoc]
theorem chgK_gone {c : Chg} (h : c.gone = true) : encs (chgK c) = strB c.key := by
 unfold chgK
 rw [if_pos h, encs, encs, enc_str, List.append_nil]
theorem chgK_not {c : Chg} (h : ¬ c.gone = true) : encs (chgK c) = strB c.key ++ strB c.val := by
 unfold chgK
 rw [if_neg h, encs, encs, encs, enc_str, enc_str, List.append_nil]
/- Js9: frames around payloads; the journal's Write. By this project. -/
def flB (n : Nat) : List UInt8 := [UInt8.ofNat (n / 65536), UInt8.ofNat (n / 256), UInt8.ofNat n]
def frameB (xs : List UInt8) : List UInt8 := 202 :: (flB xs.length ++ ((flB xs.length).map (255 - ·) ++ xs))
theorem not_sub (y : UInt8) : 255 ^^^ y = 255 - y := by
 have key : ∀ k : Fin 256, (255 : UInt8) ^^^ UInt8.ofNat k.val = 255 - UInt8.ofNat k.val := by decide +kernel
 have := key ⟨y.toNat, y.toNat_lt⟩
 simpa using this
section
variable {K : Kx} {hp0 : Bs} {l : VL} {L : HV} {a b : Operand} {t t' : TypeId}
theorem p_notB {y : UInt8} (hx : evL l a = some (byV y)) : PV K.C l (.unOp .xor t a) (byV (255 - y)) := pv_un hx (by
 rw [← not_sub]
 exact vB_xor 255 y)
theorem p_buildAB {e : TypeId} {n : Nat} {Z C : List V} {xs : List (Nat × Operand)} {qs : List (Nat × List V)} [hS : ArrV K.C t n e] [he : SizeV K.C e 1] [hz : ZeroV K.C t (V.agg Z)] (hq : PartsV l (fun i => some (i, 1)) Z.length xs qs) (hC : putAllV Z qs = C) : PV K.C l (.build t xs.toArray) (.agg C) := by
 obtain ⟨ti, h1, h2⟩ := hz.h
 obtain ⟨ti', h3, h4⟩ := hS.h
 obtain ⟨te, h5, h6⟩ := he.h
 rw [h1] at h3
 obtain rfl := Option.some.inj h3
 haveI : TiV K.C t ti := ⟨h1⟩
 haveI : TiV K.C e te := ⟨h5⟩
 refine pv_buildA h4 h2 (qs := qs) ?_ hC
 rw [h6]
 simpa only [Nat.mul_one] using hq
end
set_option maxHeartbeats 8000000 in
theorem wrap_d {A : Option (Nat × Nat)} {xs : List UInt8} {c : Nat} {op : Bool} {hp : Hp} (ho : OkH hp) (hA : RB ⟨hp, []⟩ A (xs.map byV)) (hl : xs.length ≤ 16384) :
  Fn kxD 46 [.sl A xs.length c op] hp [] fun r N => ∃ u, r = .v u ∧ ∃ w, u = .tup [w, .i .i64 0] ∧ RowK (frameB xs) w N := by
 refine Fn.dropC ?_
 refine fn_of_w (T := []) ho.sv (fun _ => rfl) (fn := Tryz.f46) (by kernel_rfl) rfl rfl ?_
 refine wo ?_
 apply wm; iterate 5 exact rfl
 refine mv_int (v := .b false) rfl rfl (vi_gtrF (by omega))
 refine wo ?_
 apply wm; iterate 5 exact rfl
 refine m_shrN rfl rfl (by decide)
 apply wm; iterate 5 exact rfl
 refine m_convB rfl
 refine wo ?_
 apply wm; iterate 5 exact rfl
 refine m_shrN rfl rfl (by decide)
 apply wm; iterate 5 exact rfl
 refine m_convB rfl
 refine wo ?_
 apply wm; iterate 5 exact rfl
 refine m_convB rfl
 apply wn; iterate 5 exact rfl
 refine p_buildAB (C := (flB xs.length).map byV) (.cons rfl rfl rfl rfl (by decide) (.cons rfl rfl rfl rfl (by decide) (.cons rfl rfl rfl rfl (by decide) .nil))) rfl
 apply p_op; exact (vwant_n rfl); iterate 4 exact rfl
 refine e_alloc rfl fun bs => ⟨_, rfl, ?_⟩
 apply p_do; exact (vwant_n rfl); exact rfl; exact rfl
 refine e_stn (C' := (flB xs.length).map byV) rfl rfl (by simp [flB]) rfl (Nat.le_of_ble_eq_true rfl) rfl ⟨_, rfl, ?_⟩
 refine wo ?_
 apply p_op; exact (vwant_n rfl); iterate 4 exact rfl
 refine e_bs (C := [byV 202]) rfl rfl (.cons rfl rfl .nil) rfl fun b1 => ⟨_, rfl, ?_⟩
 refine zX (m_slaw rfl) ?_
 apply p_op; exact (vwant_n rfl); iterate 4 exact rfl
 refine e_appW (ys := flB xs.length) (RowU.lit1 (y := 202)) rfl rfl (rz_loc (k := 3) rfl) rfl u8_one (by decide) fun A1 m1 op1 N1 hu1 hm1 => ⟨_, rfl, ?_⟩
 subst hm1
 refine wo ?_
 apply wn; iterate 5 exact rfl
 refine p_iaa (i := 0) rfl rfl (by decide)
 refine zX (m_ldl (v := byV (UInt8.ofNat (xs.length / 65536))) rfl rfl) ?_
 apply wn; iterate 5 exact rfl
 refine p_notB rfl
 apply wn; iterate 5 exact rfl
 refine p_iaa (i := 1) rfl rfl (by decide)
 refine zX (m_ldl (v := byV (UInt8.ofNat (xs.length / 256))) rfl rfl) ?_
 apply wn; iterate 5 exact rfl
 refine p_notB rfl
 apply wn; iterate 5 exact rfl
 refine p_iaa (i := 2) rfl rfl (by decide)
 refine zX (m_ldl (v := byV (UInt8.ofNat xs.length)) rfl rfl) ?_
 apply wn; iterate 5 exact rfl
 refine p_notB rfl
 apply p_op; exact (vwant_n rfl); iterate 4 exact rfl
 refine e_bs (C := ((flB xs.length).map (255 - ·)).map byV) rfl rfl (.cons rfl rfl (.cons rfl rfl (.cons rfl rfl .nil))) rfl fun b2 => ⟨_, rfl, ?_⟩
 apply p_op; exact (vwant_n rfl); iterate 4 exact rfl
 refine e_appW (ys := (flB xs.length).map (255 - ·)) hu1 rfl rfl (rz_loc (k := 3) rfl) rfl u8_one (by show 4 + 3 ≤ _; omega) fun A2 m2 op2 N2 hu2 hm2 => ⟨_, rfl, ?_⟩
 subst hm2
 refine wo ?_
 apply p_op; exact (vwant_n rfl); iterate 4 exact rfl
 refine e_appW hu2 rfl rfl hA.z rfl u8_one (by show 4 + 3 + _ ≤ _; omega) fun A3 m3 op3 N3 hu3 hm3 => ⟨_, rfl, ?_⟩
 refine wo ?_
 exact w_ret (wend_ret (vres2 (rv_tmp rfl) (rv_tmp rfl)) ⟨N3, cle, _, rfl, _, rfl, by
  have e : frameB xs = ([202] ++ flB xs.length) ++ (flB xs.length).map (255 - ·) ++ xs := by simp [frameB]
  rw [e]
  exact hu3⟩)
set_option maxHeartbeats 16000000 in
theorem jwrite_d {B : Bk} {b bits cb : Nat} {sec : List UInt8} {ha ca : List (List UInt8)} {fs : List (List UInt8 × List UInt8)} {r : Rec} {v : List V} {hp : Hp} (hB : BkSt B b bits cb sec ha ca fs) (h0 : SV ⟨hp, hnds (bkL B)⟩ hp (bkL B)) (hk : Tab ⟨hp, hnds (bkL B)⟩) (hkk : KTab ⟨hp, hnds (bkL B)⟩) (hr : RecR ⟨hp, hnds (bkL B)⟩ r v) (hl : ca.length < 100000000) :
  Fn kxD 13 [.p (some (b, 0)), .agg v] hp (hnds (bkL B)) fun r' N => ∃ u, r' = .v u ∧ ((mayR r → ∃ w M B', u = .tup [w, hK (cutB cb (macB sec (bodyB r))), .i .i64 0] ∧ RowK (frameB (bodyB r ++ cutB cb (macB sec (bodyB r)))) w M ∧ BkSt B' b bits cb sec ha (addS ca (bodyB r)) fs ∧ N = M ++ bkL B') ∧ (¬ mayR r → u = .tup [.sl none 0 0 false, hK (List.replicate 32 0), .i .i64 2] ∧ N = bkL B)) := by
 have hr0 := hr
 obtain ⟨hok, A, c, o, vs, rfl, hA, hvs⟩ := hr
 have hC : (recC r (.sl A r.ch.length c o)).length = 68 := recC_len hok
 have hrl := hok.len
 have hne : ∀ {l : List V}, l.length = 32 → l ≠ [] := fun hl e => by rw [e] at hl; simp at hl
 refine Fn.dropC ?_
 refine fn_of_w h0 (fun _ => rfl) (fn := Tryz.f13) (by kernel_rfl) rfl rfl ?_
 refine wo ?_
 apply p_op; exact (vwant_n rfl); iterate 4 exact rfl
 refine ev_box rfl rfl fun bx => ⟨_, rfl, ?_⟩
 refine wo ?_
 apply p_op; exact (vwant_n rfl); iterate 4 exact rfl
 refine e_alloc rfl fun bh => ⟨_, rfl, ?_⟩
 refine wo ?_
 apply wm; iterate 5 exact rfl
 refine m_eqp rfl rfl
 refine wo ?_
 refine zX (m_ldln (s := 67) (cs := recC r (.sl A r.ch.length c o)) rfl (by rw [List.drop_zero]; exact List.take_of_length_le (by omega)) hC) ?_
 apply p_callY []; exact (vwant_n rfl); iterate 4 exact rfl
 case hC => exact (fun hp hs ht => jbody_d hs.ok (hkk.give0 hs) (hr0.give0 hs))
 rintro u N ⟨hgood, hbad⟩
 by_cases hm : mayR r
 rotate_left
 ·obtain ⟨rfl, rfl⟩ := hbad hm
  refine wo ?_
  apply wm; iterate 5 exact rfl
  refine mv_int (v := .b true) rfl rfl (vi_neqT ((by simp)))
  refine wo ?_
  apply wn; iterate 5 exact rfl
  refine p_buildA0
  refine wo ?_
  apply p_do; exact (vwant_n rfl); exact rfl; exact rfl
  refine e_stn (C' := (List.replicate 32 (0 : UInt8)).map byV) rfl rfl (by simp) rfl (by decide) rfl ⟨_, rfl, ?_⟩
  refine wo ?_
  exact w_ret (wend_ret (vres3 (rv_tmp rfl) (rv_cell rfl rfl) (rv_tmp rfl)) ⟨bkL B, cle, _, rfl, fun h => absurd h hm, fun _ => ⟨rfl, rfl⟩⟩)
 obtain ⟨w, rfl, hu⟩ := hgood hm
 obtain ⟨A1, o1, rfl⟩ := hu.sl
 have hbl := body_len hok hm
 have hcl : (cutB cb (macB sec (bodyB r))).length = 32 := by rw [cutB_len, macB_len]
 have hcl' : ((cutB cb (macB sec (bodyB r))).map byV).length = 32 := by rw [List.length_map, hcl]
 refine wo ?_
 apply wm; iterate 5 exact rfl
 refine mv_int (v := .b false) rfl rfl (vi_neqF ((by simp)))
 refine wo ?_
 apply p_callM (bkL B); exact (vwant_n rfl); iterate 4 exact rfl
 case hC => exact (fun hp hs ht => code_gs hB ht (hk.give hs) (hu.rb hs) ⟨Nat.le_refl _, fun _ => Nat.le_refl _⟩ (by omega) hl)
 rintro u2 N2 ⟨rfl, B', hB', rfl⟩
 apply p_op; exact (vwant_n rfl); iterate 4 exact rfl
 refine e_alloc rfl fun bt => ⟨_, rfl, ?_⟩
 apply p_do; exact (vwant_n rfl); exact rfl; exact rfl
 refine e_stn (C' := (cutB cb (macB sec (bodyB r))).map byV) rfl rfl (hne hcl') hcl' (by simp) (overV_all (by rw [hcl']; simp)) ⟨_, rfl, ?_⟩
 refine wo ?_
 refine zX (m_slaw rfl) ?_
 apply p_op; exact (vwant_n rfl); iterate 4 exact rfl
 refine e_appW (ys := cutB cb (macB sec (bodyB r))) hu rfl rfl (rz_loc (k := 32) (by rw [List.drop_zero]; exact List.take_of_length_le (by omega))) hcl u8_one (by omega) fun A3 m3 op3 N3 hu3 hm3 => ⟨_, rfl, ?_⟩
 have hl3 : (bodyB r ++ cutB cb (macB sec (bodyB r))).length = (bodyB r).length + 32 := by rw [List.length_append, hcl]
 rw [← hl3] at hm3
 subst hm3
 apply p_callY []; exact (vwant_n rfl); iterate 4 exact rfl
 case hC => exact (fun hp hs ht => wrap_d hs.ok (hu3.rb (Lt := []) hs) (by omega))
 rintro u4 N4 ⟨w4, rfl, hu4⟩
 obtain ⟨A4, o4, rfl⟩ := hu4.sl
 refine wo ?_
 apply wm; iterate 5 exact rfl
 refine mv_int (v := .b false) rfl rfl (vi_neqF ((by simp)))
 refine wo ?_
 refine yX (m_ldln (s := 31) (cs := (cutB cb (macB sec (bodyB r))).map byV) rfl (by rw [List.drop_zero]; exact List.take_of_length_le (by omega)) hcl') ?_
 refine wo ?_
 apply d_do; exact (vwant_n rfl); exact rfl; exact noRd rfl; decide +kernel; exact rfl; rotate_left
 refine e_stn (C' := (cutB cb (macB sec (bodyB r))).map byV) rfl rfl (hne hcl') hcl' (by simp) (overV_all (by rw [hcl']; simp)) ⟨_, rfl, ?_⟩
 try (case hok => exact rdOk_b (by decide +kernel))
 refine wo ?_
 exact w_ret (wend_ret (vres3 (rv_tmp rfl) (rv_cell rfl hcl') (rv_tmp rfl)) ⟨N4 ++ bkL B', cle, _, rfl, fun _ => ⟨_, N4, B', rfl, hu4, hB', rfl⟩, fun h => absurd hm h⟩)
/- Jsc: the document's frame, code, book, Write. By this project. -/
section
variable {K : Kx} {hp0 : Bs} {l : VL} {L : HV}
end
theorem lit0 {e : TypeId} {b : Nat} : RowU e [] (.sl (some (b, 0)) 0 0 false) [(some b, cellsO [] e)] := RowU.lit rfl rfl
abbrev rbC (bits cb : Nat) (z cd : V) : List V := [.i .i64 (bits : Int), .i .i64 (cb : Int), z, .sl none 0 0 false, cd, .sl none 0 0 false]
set_option maxHeartbeats 8000000 in
theorem new04_d {A : Option (Nat × Nat)} {xs : List UInt8} {bits cb c : Nat} {op : Bool} {hp : Hp} (ho : OkH hp) (hA : RB ⟨hp, []⟩ A (xs.map byV)) (hx : xs.length = 32) (b1 : 8 ≤ bits) (b2 : bits ≤ 256) (c1 : 8 ≤ cb) (c2 : cb ≤ 256) :
  Fn kxD 34 [.i .i64 (bits : Int), .i .i64 (cb : Int), .sl A xs.length c op] hp [] fun r N => ∃ u, r = .v u ∧ ∃ b Z o M, u = .tup [.p (some (b, 0)), .i .i64 0] ∧ RowK xs (.sl Z xs.length xs.length o) M ∧ N = (some b, cellsO (rbC bits cb (.sl Z xs.length xs.length o) (.sl none 0 0 false)) 51) :: M := by
 refine Fn.dropC ?_
 refine fn_of_w (T := []) ho.sv (fun _ => rfl) (fn := Tryz.f34) (by kernel_rfl) rfl rfl ?_
 refine wo ?_
 apply wm; iterate 5 exact rfl
 refine mv_int (v := .b false) rfl rfl (vi_lssF (by omega))
 refine wo ?_
 apply wmg; iterate 7 exact rfl
 refine mv_int (v := .b false) rfl rfl (vi_gtrF (by omega))
 refine wo ?_
 apply wmg; iterate 7 exact rfl
 refine mv_int (v := .b false) rfl rfl (vi_lssF (by omega))
 refine wo ?_
 apply wmg; iterate 7 exact rfl
 refine mv_int (v := .b false) rfl rfl (vi_gtrF (by omega))
 refine wo ?_
 apply wm; iterate 5 exact rfl
 refine mv_int (v := .b false) rfl rfl (vi_neqF (by omega))
 refine wo ?_
 apply p_op; exact (vwant_n rfl); iterate 4 exact rfl
 refine e_bs (C := []) rfl rfl .nil rfl fun b0 => ⟨_, rfl, ?_⟩
 refine wo ?_
 apply p_op; exact (vwant_n rfl); iterate 4 exact rfl
 refine e_appW (ys := xs) lit0 rfl rfl hA.z rfl u8_one (by simp; omega) fun A1 m1 o1 N1 hu1 hm1 => ⟨_, rfl, ?_⟩
 rw [List.nil_append] at hu1
 have hm2 : xs.length = m1 := by rw [hm1]; simp
 subst hm2
 apply wn; iterate 5 exact rfl
 refine p_buildS (C := rbC bits cb (.sl A1 xs.length xs.length o1) (.sl none 0 0 false)) (.cons rfl rfl rfl rfl (Nat.le_of_ble_eq_true rfl) (.cons rfl rfl rfl rfl (Nat.le_of_ble_eq_true rfl) (.cons rfl rfl rfl rfl (Nat.le_of_ble_eq_true rfl) .nil))) rfl
 apply p_op; exact (vwant_n rfl); iterate 4 exact rfl
 refine ev_box rfl rfl fun b => ⟨_, rfl, ?_⟩
 refine wo ?_
 exact w_ret (wend_ret (vres2 (rv_tmp rfl) (rv_tmp rfl)) ⟨_ :: N1, cle, _, rfl, b, A1, o1, _, rfl, hu1, rfl⟩)
/- Jsd: the document's Code and Write by a book that has coded nothing yet. By this project. -/
/- Ds18: the statement DigestLess on the machine: fewer bits are the first bits. By this project. -/
def kB (r : Nat) : UInt8 := UInt8.ofNat (128 / 2 ^ r)
def bt (y : UInt8) (r : Nat) : UInt8 := UInt8.ofNat ((UInt8.ofNat (y.toNat / (kB r).toNat)).toNat % (2 : UInt8).toNat)
/- Ds19: equal bytes told as equal; DigestForges on the machine. By this project. -/
theorem common_d {A A2 : Option (Nat × Nat)} {xs : List UInt8} {c c2 : Nat} {o1 o2 : Bool} {hp : Hp} (ho : OkH hp) (hA : RB ⟨hp, []⟩ A (xs.map byV)) (hA2 : RB ⟨hp, []⟩ A2 (xs.map byV)) (hl : xs.length < 4611686018427387904) :
  Fn kxD 75 [.sl A xs.length c o1, .sl A2 xs.length c2 o2] hp [] fun r _ => r = .v (.i .i64 (xs.length : Int)) := by
 refine fn_of_w (T := []) ho.sv (fun _ => rfl) (fn := Tryz.f75) (by kernel_rfl) rfl rfl ?_
 refine wo ?_
 refine w_seq ?_
 refine wo ?_
 refine w_loop (ι := Nat) (fun i => [(5, .i .i64 (i : Nat)), (0, .sl A xs.length c o1), (1, .sl A2 xs.length c2 o2)]) (fun _ => []) (fun i => i ≤ xs.length) (fun i => xs.length - i) 0 (Nat.zero_le _) ⟨rfl, rfl, rfl, trivial⟩ (fun hp h => h) ?_
 intro i hi
 refine wo ?_
 by_cases g : i < xs.length
 ·obtain ⟨b1, p1, rfl⟩ := rv_some' hA.1.rv (by rw [List.length_map]; omega)
  obtain ⟨b2, p2, rfl⟩ := rv_some' hA2.1.rv (by rw [List.length_map]; omega)
  have hv : (xs.map byV)[i]? = some (byV xs[i]) := by rw [List.getElem?_map, List.getElem?_eq_getElem g]; rfl
  apply dm; iterate 6 exact rfl
  refine mv_int (v := .b true) rfl rfl (vi_lssT (by omega))
  refine wo ?_
  apply dmg; iterate 8 exact rfl
  refine mv_int (v := .b true) rfl rfl (vi_lssT (by omega))
  refine wo ?_
  apply dg; iterate 7 exact rfl
  refine p_ia rfl rfl g
  apply dmg; iterate 8 exact rfl
  refine m_ldN rfl hA.1 hA.2 rfl hv
  refine wo ?_
  apply dg; iterate 7 exact rfl
  refine p_ia rfl rfl g
  apply dmg; iterate 8 exact rfl
  refine m_ldN rfl hA2.1 hA2.2 rfl hv
  apply dmg; iterate 8 exact rfl
  refine mv_int (v := .b true) rfl rfl (vi_eqlT (rfl))
  refine wo ?_
  exact ⟨rfl, i + 1, g, by omega, ⟨rfl, rfl, rfl, trivial⟩, fun hp h => h⟩
 ·apply dm; iterate 6 exact rfl
  refine mv_int (v := .b false) rfl rfl (vi_lssF (by omega))
  refine wo ?_
  refine w_exit ?_
  obtain rfl : i = xs.length := by omega
  refine wo ?_
  exact w_ret (wend_ret (vres1 (rv_tmp rfl)) rfl)
theorem same_d {A A2 : Option (Nat × Nat)} {xs : List UInt8} {c c2 : Nat} {o1 o2 : Bool} {hp : Hp} (ho : OkH hp) (hA : RB ⟨hp, []⟩ A (xs.map byV)) (hA2 : RB ⟨hp, []⟩ A2 (xs.map byV)) (hl : xs.length < 4611686018427387904) :
  Fn kxD 14 [.sl A xs.length c o1, .sl A2 xs.length c2 o2] hp [] fun r _ => r = .v (.b true) := by
 have hcmp : ∀ {hp : Hp}, OkH hp → RB ⟨hp, []⟩ A (xs.map byV) → RB ⟨hp, []⟩ A2 (xs.map byV) → Fn kxD 47 [.sl A xs.length c o1, .sl A2 xs.length c2 o2] hp [] fun r _ => r = .v (.i .i64 0) := by
  intro hp ho hA hA2
  refine fn_of_w (T := []) ho.sv (fun _ => rfl) (fn := Tryz.f47) (by kernel_rfl) rfl rfl ?_
  refine wo ?_
  refine p_callq (vwant_n rfl) rfl rfl rfl rfl (fun hp hs => common_d hs.ok (hA.give0 hs) (hA2.give0 hs) hl) ?_
  refine wo ?_
  apply wm; iterate 5 exact rfl
  refine mv_int (v := .b true) rfl rfl (vi_eqlT (rfl))
  refine wo ?_
  apply wmg; iterate 7 exact rfl
  refine mv_int (v := .b true) rfl rfl (vi_eqlT (rfl))
  refine wo ?_
  exact w_ret (wend_ret (vres1 (rv_tmp rfl)) rfl)
 refine fn_of_w (T := []) ho.sv (fun _ => rfl) (fn := Tryz.f14) (by kernel_rfl) rfl rfl ?_
 refine wo ?_
 refine p_callq (vwant_n rfl) rfl rfl rfl rfl (fun hp hs => hcmp hs.ok (hA.give0 hs) (hA2.give0 hs)) ?_
 refine wo ?_
 apply wm; iterate 5 exact rfl
 refine mv_int (v := .b true) rfl rfl (vi_eqlT (rfl))
 refine wo ?_
 exact w_ret (wend_ret (vres1 (rv_tmp rfl)) rfl)
/- Jse: the statements' Roomy, Whole, Copy, whole, Same. By this project. -/
section
variable {K : Kx} {hp0 : Bs} {l : VL} {L : HV}
theorem m_sl0 {t e : TypeId} {x : Operand} {lo hi : Option Operand} {b o m c j s : Nat} {op : Bool} [hS : SliceV K.C t e] [hs : SizeV K.C e s] (hx : evL l x = some (.sl (some (b, o)) m c op)) (hlo : BoundL l lo 0 0) (hhi : BoundL l hi m j) (h2 : j ≤ c) : MV K hp0 l L (.slice t x lo hi none) [] (.sl (some (b, o)) j c op) := by
 obtain ⟨ti, h3, h4⟩ := hS.h
 obtain ⟨te, h5, h6⟩ := hs.h
 refine mv_nil (fun _ _ => rfl) fun call fr hp hf => ?_
 show oSlice K.C fr hp t x lo hi none = _
 cases op with
 | true => simp only [oSlice, hf.ev hx, Option.bind_some, vslice, h3, hlo fr hf, h4, h5, hhi fr hf, leO_t h2, leO_t (Nat.zero_le j)]
 | false => simp only [oSlice, hf.ev hx, Option.bind_some, vslice, h3, hlo fr hf, h4, h5, hhi fr hf, leO_t h2, leO_t (Nat.zero_le j), offV_zero, Nat.sub_zero]
theorem e_appRn {tS tX e eX E : TypeId} {s x : Operand} {A : Option (Nat × Nat)} {b m n c c' i sz : Nat} {op op' : Bool} {C C' ds : List V} {oo : Option Nat} {mk : Bool} {L' : HV} {k : VR → HV → Prop} [hS : SliceV K.C tS e] [hz : SizeV K.C e (sz + 1)] [hX : SliceV K.C tX eX] (hs : evL l s = some (.sl (some (b, 0)) m c op)) (hx : evL l x = some (.sl A n c' op')) [hL : AtV b L (.cells C E oo mk) i] (hr : RZ hp0 L A ds) (hn : ds.length = n * (sz + 1)) (h0 : 0 < n) (hroom : m + n ≤ c) (hf : m * (sz + 1) + ds.length ≤ C.length) (hC : overV C (m * (sz + 1)) ds = C') [hS' : SetV L i (some b, .cells C' E oo mk) L']
  (hk : k (.v (.sl (some (b, 0)) (m + n) c op)) L') : EV K hp0 l L (.call { callee := .builtin .append, args := #[s, x], argTypes := #[tS, tX] }) [b] k := by
 obtain ⟨ti, h3, h4⟩ := hS.h
 obtain ⟨te, h5, h6⟩ := hz.h
 obtain ⟨tx, h7, h8⟩ := hX.h
 haveI : TiV K.C tS ti := ⟨h3⟩
 haveI : TiV K.C e te := ⟨h5⟩
 haveI : TiV K.C tX tx := ⟨h7⟩
 refine ev_appR (C := C) (C' := C') (o := 0) hs hx h4 (src_sl h8 hr (by rw [h6]; exact hn) (by omega)) (fun e => ?_) hroom (by rw [h6]; omega) (by rw [h6, Nat.zero_add]; exact hC) hk
 rw [e, List.length_nil] at hn
 have := Nat.mul_pos h0 (show 0 < sz + 1 by omega)
 omega
theorem e_mksn {t e : TypeId} {x y : Operand} {m c s : Nat} {p q : Int} {k k' : IntKind} {z : V} {zc : List V} {kk : VR → HV → Prop} [hS : SliceV K.C t e] [hz : ZeroV K.C e z] (hx : evL l x = some (.i k p)) [hp' : CastN p m] (hy : evL l y = some (.i k' q)) [hq : CastN q c] (hc : z.cells = some zc) (hmc : m ≤ c) (hg : ∃ te, tiV K.C e = some te ∧ growB c te.bytes = true) (hzl : zc.length = s)
  (hk : ∀ b C, C.length = c * s → kk (.v (.sl (some (b, 0)) m c false)) ((some b, cellsO C e) :: L)) : EV K hp0 l L (.makeSlice t x y) [] kk := by
 obtain ⟨ti, h3, h4⟩ := hS.h
 obtain ⟨te, h5, h6⟩ := hz.h
 obtain ⟨te', h7, h8⟩ := hg
 rw [h5] at h7
 obtain rfl := Option.some.inj h7
 obtain rfl := hp'.h
 obtain rfl := hq.h
 haveI : TiV K.C t ti := ⟨h3⟩
 haveI : TiV K.C e te := ⟨h5⟩
 refine ev_mksG hx hy h4 h6 hc hmc h8 fun b => hk b _ ?_
 clear hy hmc h8 hk hq
 induction c with
 | zero => rw [repL_zero]; simp
 | succ c ih => rw [repL_succ, List.length_append, ih, hzl, Nat.succ_mul, Nat.add_comm]
end
def mk3 : List UInt8 := [77, 78, 79]
theorem roomy01_d {A : Option (Nat × Nat)} {xs : List UInt8} {c : Nat} {op : Bool} {hp : Hp} (ho : OkH hp) (hA : RB ⟨hp, []⟩ A (xs.map byV)) (hl : xs.length ≤ 140737488355328) :
  Fn kxD 24 [.sl A xs.length c op] hp [] fun r N => ∃ u, r = .v u ∧ ∃ b o1 oo, u = .sl (some (b, 0)) xs.length (xs.length + 3) o1 ∧ N = [(some b, .cells ((xs ++ mk3).map byV) 5 oo false)] := by
 refine Fn.dropC ?_
 refine fn_of_w (T := []) ho.sv (fun _ => rfl) (fn := Tryz.f24) (by kernel_rfl) rfl rfl ?_
 refine wo ?_
 apply p_op; exact (vwant_n rfl); iterate 4 exact rfl
 refine e_bs (C := []) rfl rfl .nil rfl fun bn => ⟨_, rfl, ?_⟩
 refine wo ?_
 apply p_op; exact (vwant_n rfl); iterate 4 exact rfl
 refine e_appW (ys := xs) lit0 rfl rfl hA.z rfl u8_one (by simp; omega) fun A1 m1 o1 N1 hu1 hm1 => ⟨_, rfl, ?_⟩
 apply p_op; exact (vwant_n rfl); iterate 4 exact rfl
 refine e_bs (C := mk3.map byV) rfl rfl (.cons rfl rfl (.cons rfl rfl (.cons rfl rfl .nil))) rfl fun bm => ⟨_, rfl, ?_⟩
 apply p_op; exact (vwant_n rfl); iterate 4 exact rfl
 refine e_appW (ys := mk3) hu1 rfl rfl (rz_loc (k := 3) rfl) rfl u8_one (by simp; omega) fun A2 m2 o2 N2 hu2 hm2 => ⟨_, rfl, ?_⟩
 rw [List.nil_append] at hu2
 have hm3 : m2 = xs.length + 3 := by rw [hm2]; simp
 subst hm3
 refine wo ?_
 generalize hys : xs ++ mk3 = ys at hu2
 have hyl : ys.length = xs.length + 3 := by rw [← hys, List.length_append]; rfl
 generalize hw : V.sl A2 (xs.length + 3) (xs.length + 3) o2 = w2 at hu2
 cases hu2 with
 | nil => simp at hyl
 | @own _ b2 op2 oo h =>
  rw [hyl] at hw
  obtain ⟨rfl, rfl⟩ : A2 = some (b2, 0) ∧ o2 = op2 := by injection hw with h1 _ _ h2; exact ⟨h1, h2⟩
  refine zX (m_sl0 rfl bl_none (bl_some rfl) (by omega)) ?_
  refine wo ?_
  exact w_ret (wend_ret (vres1 (rv_tmp rfl)) ⟨[_], cle, _, rfl, b2, o2, oo, by rw [hyl], rfl⟩)
set_option maxHeartbeats 16000000 in
theorem same19_d {r : Rec} {v w : List V} {hp : Hp} (ho : OkH hp) (hv : RecR ⟨hp, []⟩ r v) (hw : RecR ⟨hp, []⟩ r w) :
  Fn kxD 20 [.agg v, .agg w] hp [] fun r' _ => r' = .v (.b true) := by
 obtain ⟨hok, A, c, o, vs, rfl, hA, hvs⟩ := hv
 obtain ⟨_, A', c', o', ws, rfl, hA', hws⟩ := hw
 have hrl := hok.len
 have hch : (recC r (.sl A r.ch.length c o))[0 + 67]? = some (.sl A r.ch.length c o) := by rw [Nat.zero_add]; exact recC_ch hok
 have hch' : (recC r (.sl A' r.ch.length c' o'))[0 + 67]? = some (.sl A' r.ch.length c' o') := by rw [Nat.zero_add]; exact recC_ch hok
 have h32 : (r.prev.map byV).length = 32 := by rw [List.length_map, hok.prev]
 have h32' : (r.root.map byV).length = 32 := by rw [List.length_map, hok.root]
 refine fn_of_w (T := []) ho.sv (fun _ => rfl) (fn := Tryz.f20) (by kernel_rfl) rfl rfl ?_
 refine wo ?_
 apply p_op; exact (vwant_n rfl); iterate 4 exact rfl
 refine ev_box rfl rfl fun b1 => ⟨_, rfl, ?_⟩
 apply p_op; exact (vwant_n rfl); iterate 4 exact rfl
 refine ev_box rfl rfl fun b2 => ⟨_, rfl, ?_⟩
 refine wo ?_
 apply wm; iterate 5 exact rfl
 refine mv_int (v := .b false) rfl rfl (vi_neqF ((by simp)))
 refine wo ?_
 apply wmg; iterate 7 exact rfl
 refine mv_int (v := .b false) rfl rfl (vi_neqF ((by simp)))
 refine wo ?_
 apply wmg; iterate 7 exact rfl
 refine mv_int (v := .b false) rfl rfl (vi_neqF ((by simp)))
 refine wo ?_
 refine zX (m_ldln (s := 31) (cs := r.prev.map byV) rfl (recC_prev hok) h32) ?_
 refine wo ?_
 refine zX (m_ldln (s := 31) (cs := r.prev.map byV) rfl (recC_prev hok) h32) ?_
 apply wmg; iterate 7 exact rfl
 refine m_neqA rfl rfl rfl hok.prev hok.prev
 rw [decide_eq_true rfl]
 refine wo ?_
 refine zX (m_ldln (s := 31) (cs := r.root.map byV) rfl (recC_root hok) h32') ?_
 refine wo ?_
 refine zX (m_ldln (s := 31) (cs := r.root.map byV) rfl (recC_root hok) h32') ?_
 apply wmg; iterate 7 exact rfl
 refine m_neqA rfl rfl rfl hok.root hok.root
 rw [decide_eq_true rfl]
 refine wo ?_
 refine zX (m_ldl rfl hch) ?_
 refine wo ?_
 refine zX (m_ldl rfl hch') ?_
 refine wo ?_
 apply wmg; iterate 7 exact rfl
 refine mv_int (v := .b false) rfl rfl (vi_neqF ((by simp)))
 refine wo ?_
 iterate 4 ((try refine w_seq ?_); refine wo ?_)
 refine w_loop (ι := Nat) (fun i => [(5, .i .i64 (i : Nat)), (2, .p (some (b1, 0))), (3, .p (some (b2, 0)))]) (fun i => [(some b2, cellsO (recC r (.sl A' r.ch.length c' o')) 26), (some b1, cellsO (recC r (.sl A r.ch.length c o)) 26)]) (fun i => i ≤ r.ch.length) (fun i => r.ch.length - i) 0 (Nat.zero_le _) ⟨rfl, rfl, rfl, trivial⟩ (fun hp h => h) ?_
 intro i hi
 refine wo ?_
 refine zX (m_ldl rfl hch) ?_
 refine wo ?_
 by_cases g : i < r.ch.length
 rotate_left
 ·apply wm; iterate 5 exact rfl
  refine mv_int (v := .b false) rfl rfl (vi_lssF (by omega))
  refine wo ?_
  refine w_exit ?_
  refine wo ?_
  exact w_ret (wend_ret (vres1 (rv_tmp rfl)) rfl)
 obtain ⟨b, oa, vi, rfl, hvi, hti, h3, hne⟩ := ch_at hA hvs g
 obtain ⟨A1, kc, ko, A2, vc, vo, rfl, hk1, hk2⟩ := hti
 obtain ⟨b', oa', vi', rfl, hvi', hti', h3', hne'⟩ := ch_at hA' hws g
 obtain ⟨A1', kc', ko', A2', vc', vo', rfl, hk1', hk2'⟩ := hti'
 have hkv := hok.kv _ (List.getElem_mem g)
 apply wm; iterate 5 exact rfl
 refine mv_int (v := .b true) rfl rfl (vi_lssT (by omega))
 refine wo ?_
 refine yX (m_ldl rfl hch) ?_
 refine wo ?_
 apply dn; iterate 5 exact rfl
 refine p_ian rfl rfl g
 apply dm; iterate 6 exact rfl
 refine m_ldnN (j := i * 3) (s := 2) rfl hA.1 hA.2 rfl hvi h3
 refine wo ?_
 refine yX (m_ldl rfl hch') ?_
 refine wo ?_
 apply dn; iterate 5 exact rfl
 refine p_ian rfl rfl g
 apply dm; iterate 6 exact rfl
 refine m_ldnN (j := i * 3) (s := 2) rfl hA'.1 hA'.2 rfl hvi' h3'
 apply d_op; exact (vwant_n rfl); exact rfl; exact noRd rfl; decide +kernel; (iterate 3 exact rfl); rotate_left
 refine e_alloc rfl fun b5 => ⟨_, rfl, ?_⟩
 try (case hok => exact rdOk_nil)
 apply d_op0; exact (vwant_n rfl); exact rfl; exact noRd rfl; decide +kernel; (iterate 3 exact rfl)
 refine en_alloc rfl fun b6 => ?_
 refine wd_know (φ := (NotIn b1 [b5] ∧ NotIn b2 [b5]) ∧ NotIn b1 [b6] ∧ NotIn b2 [b6]) (fun hp hs => ⟨⟨⟨fun h => ?_⟩, ⟨fun h => ?_⟩⟩, ⟨fun h => ?_⟩, ⟨fun h => ?_⟩⟩) fun hni => ?_
 ·have := List.mem_singleton.1 h
  subst this
  have := hs.one 1 3 _ _ _ rfl rfl
  omega
 ·have := List.mem_singleton.1 h
  subst this
  have := hs.one 1 2 _ _ _ rfl rfl
  omega
 ·have := List.mem_singleton.1 h
  subst this
  have := hs.one 0 3 _ _ _ rfl rfl
  omega
 ·have := List.mem_singleton.1 h
  subst this
  have := hs.one 0 2 _ _ _ rfl rfl
  omega
 obtain ⟨⟨n1, n2⟩, n3, n4⟩ := hni
 apply d_do; exact (vwant_n rfl); exact rfl; exact noRd rfl; decide +kernel; exact rfl; rotate_left
 refine e_stn (C' := [.sl A1 r.ch[i].key.length kc ko, .sl A2 r.ch[i].val.length vc vo, .b r.ch[i].gone]) rfl rfl hne h3 (Nat.le_of_ble_eq_true rfl) rfl ⟨_, rfl, ?_⟩
 try (case hok => exact rdOk_c)
 apply d_do; exact (vwant_n rfl); exact rfl; exact noRd rfl; decide +kernel; exact rfl; rotate_left
 refine e_stn (C' := [.sl A1' r.ch[i].key.length kc' ko', .sl A2' r.ch[i].val.length vc' vo', .b r.ch[i].gone]) rfl rfl hne' h3' (Nat.le_of_ble_eq_true rfl) rfl ⟨_, rfl, ?_⟩
 try (case hok => exact rdOk_b (by decide +kernel))
 try (case hok => exact rdOk_c)
 refine wo ?_
 apply wm; iterate 5 exact rfl
 refine m_neqb rfl rfl rfl
 rw [beq_self_eq_true]
 refine wo ?_
 refine p_callq (vwant_g rfl rfl rfl) rfl rfl rfl rfl (fun hp hs => same_d hs.ok (hk1.give0 hs) (hk1'.give0 hs) (by omega)) ?_
 refine wo ?_
 refine p_callq (vwant_g rfl rfl rfl) rfl rfl rfl rfl (fun hp hs => same_d hs.ok (hk2.give0 hs) (hk2'.give0 hs) (by omega)) ?_
 refine wo ?_
 exact ⟨rfl, i + 1, g, by omega, ⟨rfl, rfl, rfl, trivial⟩, fun hp h => h.le⟩
/- Jsf: the statement's Copy and whole. By this project. -/
def markS : List UInt8 := [109, 97, 114, 107]
abbrev markC (bm : Nat) : List V := [.sl (some (bm, 0)) 4 4 false, .sl none 0 0 false, .b false]
def WhR (B : Bs) (c : Chg) (v : List V) : Prop := ∃ k o1 v' o2, v = [.sl (some (k, 0)) c.key.length (c.key.length + 3) o1, .sl (some (v', 0)) c.val.length (c.val.length + 3) o2, .b c.gone] ∧ RB B (some (k, 0)) ((c.key ++ mk3).map byV) ∧ RB B (some (v', 0)) ((c.val ++ mk3).map byV)
def WhRs (B : Bs) : List Chg → List (List V) → Prop
 | [], vs => vs = []
 | c :: r, vs => ∃ v ws, vs = v :: ws ∧ WhR B c v ∧ WhRs B r ws
theorem rb_mk3 {B : Bs} {A : Option (Nat × Nat)} {xs : List UInt8} (h : RB B A ((xs ++ mk3).map byV)) : RB B A (xs.map byV) := by
 have := h.take xs.length
 rwa [List.map_append, List.take_append_of_le_length (by simp), List.take_of_length_le (by simp)] at this
theorem WhR.chg {B : Bs} {c : Chg} {v : List V} (h : WhR B c v) : ChgR B c v := by
 obtain ⟨k, o1, v', o2, rfl, h1, h2⟩ := h
 exact ⟨_, _, _, _, _, _, rfl, rb_mk3 h1, rb_mk3 h2⟩
theorem whRs_chgs {B : Bs} : ∀ {l : List Chg} {vs : List (List V)}, WhRs B l vs → ChgRs B l vs
 | [], vs, h => h
 | t :: r, vs, h => by
  obtain ⟨v, ws, h0, h1, h2⟩ := h
  exact ⟨v, ws, h0, h1.chg, whRs_chgs h2⟩
theorem whRs_app {B : Bs} : ∀ {l r : List Chg} {vs ws : List (List V)}, WhRs B l vs → WhRs B r ws → WhRs B (l ++ r) (vs ++ ws)
 | [], r, vs, ws, h, k => by rw [WhRs] at h; subst h; exact k
 | t :: l, r, vs, ws, h, k => by
  obtain ⟨v, us, rfl, h1, h2⟩ := h
  exact ⟨v, us ++ ws, rfl, h1, whRs_app h2 k⟩
theorem whR_mono {B B' : Bs} (hm : ∀ {A : Option (Nat × Nat)} {cs : List V}, RB B A cs → RB B' A cs) {c : Chg} {v : List V} (h : WhR B c v) : WhR B' c v := by
 obtain ⟨k, o1, v', o2, rfl, h1, h2⟩ := h
 exact ⟨k, o1, v', o2, rfl, hm h1, hm h2⟩
theorem whRs_mono {B B' : Bs} (hm : ∀ {A : Option (Nat × Nat)} {cs : List V}, RB B A cs → RB B' A cs) : ∀ {l : List Chg} {vs : List (List V)}, WhRs B l vs → WhRs B' l vs
 | [], vs, h => h
 | t :: r, vs, h => by
  obtain ⟨v, ws, h0, h1, h2⟩ := h
  exact ⟨v, ws, h0, whR_mono hm h1, whRs_mono hm h2⟩
def SeenW (X : HV) (l : List Chg) (us : List (List V)) : Prop := ∀ (B : Bs) (hp : Hp) (Lt Lr : HV), SV B hp (Lt ++ Lr) → (∀ p ∈ X, p ∈ Lr) → WhRs ⟨hp, hnds Lt⟩ l us
theorem rb_mem {B : Bs} {hp : Hp} {Lt Lr : HV} {b : Nat} {C cs : List V} {E : TypeId} {op : Option Nat} {mk : Bool} (hs : SV B hp (Lt ++ Lr)) (h : (some b, VO.cells C E op mk) ∈ Lr) (hc : C.take cs.length = cs) : RB ⟨hp, hnds Lt⟩ (some (b, 0)) cs := by
 obtain ⟨j, hj⟩ := List.getElem?_of_mem h
 exact rb_own hs hj (by rw [List.drop_zero]; exact hc)
def CopX (N : HV) (r : Rec) (w : List V) : Prop := RecOk r ∧ ∃ bl us bm X, w = recC r (.sl (some (bl, 0)) r.ch.length (r.ch.length + 1) false) ∧ N = (some bl, cellsO (us.flatten ++ markC bm) 87) :: (some bm, .cells (markS.map byV) 5 none true) :: X ∧ SeenW X r.ch us
def CopR (B : Bs) (r : Rec) (w : List V) : Prop := RecOk r ∧ ∃ bl us bm, w = recC r (.sl (some (bl, 0)) r.ch.length (r.ch.length + 1) false) ∧ RB B (some (bl, 0)) (us.flatten ++ markC bm) ∧ RB B (some (bm, 0)) (markS.map byV) ∧ WhRs B r.ch us
theorem CopX.see {N : HV} {r : Rec} {w : List V} (h : CopX N r w) {B : Bs} {hp : Hp} {Lt Lr : HV} (hs : SV B hp (Lt ++ Lr)) (hm : ∀ p ∈ N, p ∈ Lr) : CopR ⟨hp, hnds Lt⟩ r w := by
 obtain ⟨h0, bl, us, bm, X, h1, rfl, h3⟩ := h
 exact ⟨h0, bl, us, bm, h1, rb_mem hs (hm _ List.mem_cons_self) (List.take_of_length_le (Nat.le_refl _)), rb_mem hs (hm _ (List.mem_cons_of_mem _ List.mem_cons_self)) (List.take_of_length_le (Nat.le_refl _)), h3 B hp Lt Lr hs fun p hp => hm p (List.mem_cons_of_mem _ (List.mem_cons_of_mem _ hp))⟩
theorem CopR.rec {B : Bs} {r : Rec} {w : List V} (h : CopR B r w) : RecR B r w := by
 obtain ⟨h0, bl, us, bm, h1, h2, h3, h4⟩ := h
 refine ⟨h0, some (bl, 0), r.ch.length + 1, false, us, h1, ?_, whRs_chgs h4⟩
 have := h2.take us.flatten.length
 rwa [List.take_append_of_le_length (Nat.le_refl _), List.take_of_length_le (Nat.le_refl _)] at this
theorem CopR.mono {B B' : Bs} (hm : ∀ {A : Option (Nat × Nat)} {cs : List V}, RB B A cs → RB B' A cs) {r : Rec} {w : List V} (h : CopR B r w) : CopR B' r w := by
 obtain ⟨h0, bl, us, bm, h1, h2, h3, h4⟩ := h
 exact ⟨h0, bl, us, bm, h1, hm h2, hm h3, whRs_mono hm h4⟩
theorem recC_set {r : Rec} {s s' : V} (h : RecOk r) : (recC r s).set (0 + 67) s' = recC r s' := by
 simp only [recC, Nat.zero_add, List.set_cons_succ]
 rw [List.set_append_right _ _ (by simp [h.prev]), List.length_map, h.prev, List.set_append_right _ _ (by simp [h.root]), List.length_map, h.root]
 rfl
theorem over_row {us : List (List V)} {rest vi : List V} {k n : Nat} (hn : vi.length = n) (hl : us.flatten.length = k) (hr : n ≤ rest.length) : overV (us.flatten ++ rest) k vi = (us ++ [vi]).flatten ++ rest.drop n := by
 subst hn
 unfold overV
 rw [← hl, List.take_append_of_le_length (Nat.le_refl _), List.take_of_length_le (Nat.le_refl _), List.drop_append, List.drop_of_length_le (by omega), Nat.add_sub_cancel_left, flat_snoc, List.nil_append]
theorem chg_bytes : (tiV vC 87).map (·.bytes) = some 56 := by kernel_rfl
theorem chg_grow {n : Nat} (h : n * 56 ≤ 140737488355328) : ∃ te, tiV kxD.C 87 = some te ∧ growB (n + 1) te.bytes = true := by
 obtain ⟨te, h1, h2⟩ := Option.map_eq_some_iff.1 chg_bytes
 refine ⟨te, h1, ?_⟩
 rw [h2]
 unfold growB
 simp only [Bool.and_eq_true]
 exact ⟨⟨ble_t (by omega), ble_t (by omega)⟩, rfl⟩
set_option maxHeartbeats 16000000 in
theorem copy_d {r : Rec} {v : List V} {hp : Hp} (ho : OkH hp) (hr : RecR ⟨hp, []⟩ r v) :
  Fn kxD 8 [.agg v] hp [] fun r' N => ∃ u, r' = .v u ∧ ∃ w, u = .agg w ∧ CopX N r w := by
 obtain ⟨hok, A, c, o, vs, rfl, hA, hvs⟩ := hr
 have hC : ∀ {s : V}, (recC r s).length = 68 := recC_len hok
 have hrl := hok.len
 have hch : (recC r (.sl A r.ch.length c o))[0 + 67]? = some (.sl A r.ch.length c o) := by rw [Nat.zero_add]; exact recC_ch hok
 have hne : ∀ {s : V}, recC r s ≠ [] := fun e => by unfold recC at e; simp at e
 refine Fn.dropC ?_
 refine fn_of_w (T := []) ho.sv (fun _ => rfl) (fn := Tryz.f8) (by kernel_rfl) rfl rfl ?_
 refine wo ?_
 apply p_op; exact (vwant_n rfl); iterate 4 exact rfl
 refine ev_box rfl rfl fun bx => ⟨_, rfl, ?_⟩
 apply p_op; exact (vwant_n rfl); iterate 4 exact rfl
 refine e_alloc rfl fun bo => ⟨_, rfl, ?_⟩
 refine wo ?_
 refine zX (m_ldl rfl hch) ?_
 refine wo ?_
 apply p_op; exact (vwant_n rfl); iterate 4 exact rfl
 refine e_mksn (s := 3) (m := 0) (c := r.ch.length + 1) rfl rfl rfl (Nat.zero_le _) (chg_grow hrl) rfl fun bl C0 hC0 => ⟨_, rfl, ?_⟩
 refine wo ?_
 iterate 4 ((try refine w_seq ?_); refine wo ?_)
 refine w_loop (ι := Nat × HV × List (List V) × List V) (fun s => [(4, .i .i64 (s.1 : Nat)), (3, .sl (some (bl, 0)) s.1 (r.ch.length + 1) false), (2, .p (some (bo, 0))), (1, .p (some (bx, 0)))]) (fun s => (some bl, cellsO (s.2.2.1.flatten ++ s.2.2.2) 87) :: (some bo, cellsO [.i .i64 0, .i .i64 0, .i .i64 0, byV 0, byV 0, byV 0, byV 0, byV 0, byV 0, byV 0, byV 0, byV 0, byV 0, byV 0, byV 0, byV 0, byV 0, byV 0, byV 0, byV 0, byV 0, byV 0, byV 0, byV 0, byV 0, byV 0, byV 0, byV 0, byV 0, byV 0, byV 0, byV 0, byV 0, byV 0, byV 0, byV 0, byV 0, byV 0, byV 0, byV 0, byV 0, byV 0, byV 0, byV 0, byV 0, byV 0, byV 0, byV 0, byV 0, byV 0, byV 0, byV 0, byV 0, byV 0, byV 0, byV 0, byV 0, byV 0, byV 0, byV 0, byV 0, byV 0, byV 0, byV 0, byV 0, byV 0, byV 0, .sl none 0 0 false] 26) :: (some bx, cellsO (recC r (.sl A r.ch.length c o)) 26) :: s.2.1) (fun s => s.1 ≤ r.ch.length ∧ s.2.2.1.flatten.length = s.1 * 3 ∧ s.2.2.2.length = (r.ch.length + 1 - s.1) * 3 ∧ SeenW s.2.1 (r.ch.take s.1) s.2.2.1) (fun s => r.ch.length - s.1) (0, [], [], C0) ⟨Nat.zero_le _, rfl, hC0, fun _ _ _ _ _ _ => rfl⟩ ⟨rfl, rfl, rfl, rfl, trivial⟩ (fun hp h => h) ?_
 intro ⟨i, X, us, rest⟩ ⟨hi, hul, hrest, hX⟩
 dsimp only at hi hul hrest hX ⊢
 refine wo ?_
 refine zX (m_ldl rfl hch) ?_
 refine wo ?_
 by_cases g : i < r.ch.length
 ·obtain ⟨b, oa, vi, rfl, hvi, hti, h3, hne3⟩ := ch_at hA hvs g
  obtain ⟨A1, kc, ko, A2, vc, vo, rfl, hk1, hk2⟩ := hti
  have hkv := hok.kv _ (List.getElem_mem g)
  apply wm; iterate 5 exact rfl
  refine mv_int (v := .b true) rfl rfl (vi_lssT (by omega))
  refine wo ?_
  refine zX (m_ldl rfl hch) ?_
  refine wo ?_
  apply wn; iterate 5 exact rfl
  refine p_ian rfl rfl g
  apply wm; iterate 5 exact rfl
  refine m_ldnN (j := i * 3) (s := 2) rfl hA.1 hA.2 rfl hvi h3
  apply p_op; exact (vwant_n rfl); iterate 4 exact rfl
  refine e_alloc rfl fun bi => ⟨_, rfl, ?_⟩
  apply p_do; exact (vwant_n rfl); exact rfl; exact rfl
  refine e_stn (C' := [.sl A1 r.ch[i].key.length kc ko, .sl A2 r.ch[i].val.length vc vo, .b r.ch[i].gone]) rfl rfl hne3 h3 (Nat.le_of_ble_eq_true rfl) rfl ⟨_, rfl, ?_⟩
  refine wo ?_
  apply d_callY []; exact (vwant_n rfl); decide +kernel; (iterate 4 exact rfl)
  try (case hok => exact rdOk_nil)
  case hC => exact (fun hp hs ht => roomy01_d hs.ok (hk1.give0 hs) hkv.1)
  rintro u1 N1 ⟨k1, o1, oo1, rfl, rfl⟩
  refine wo ?_
  apply d_callY []; exact (vwant_n rfl); decide +kernel; (iterate 4 exact rfl)
  try (case hok => exact rdOk_nil)
  case hC => exact (fun hp hs ht => roomy01_d hs.ok (hk2.give0 hs) hkv.2)
  rintro u2 N2 ⟨k2, o2, oo2, rfl, rfl⟩
  refine wo ?_
  apply dn; iterate 5 exact rfl
  refine p_buildS (C := [.sl (some (k1, 0)) r.ch[i].key.length (r.ch[i].key.length + 3) o1, .sl (some (k2, 0)) r.ch[i].val.length (r.ch[i].val.length + 3) o2, .b r.ch[i].gone]) (.cons rfl rfl rfl rfl (Nat.le_of_ble_eq_true rfl) (.cons rfl rfl rfl rfl (Nat.le_of_ble_eq_true rfl) (.cons rfl rfl rfl rfl (Nat.le_of_ble_eq_true rfl) .nil))) rfl
  apply d_op; exact (vwant_n rfl); exact rfl; exact noRd rfl; decide +kernel; (iterate 3 exact rfl); rotate_left
  refine e_bsn (C := [.sl (some (k1, 0)) r.ch[i].key.length (r.ch[i].key.length + 3) o1, .sl (some (k2, 0)) r.ch[i].val.length (r.ch[i].val.length + 3) o2, .b r.ch[i].gone]) (n := 1) (sz := 3) rfl rfl (by decide) (.cons rfl rfl rfl .nil) rfl rfl fun b3 => ⟨_, rfl, ?_⟩
  try (case hok => exact rdOk_nil)
  apply d_op; exact (vwant_n rfl); exact rfl; exact noRd rfl; decide +kernel; (iterate 3 exact rfl); rotate_left
  refine e_appRn (n := 1) (sz := 2) (ds := [.sl (some (k1, 0)) r.ch[i].key.length (r.ch[i].key.length + 3) o1, .sl (some (k2, 0)) r.ch[i].val.length (r.ch[i].val.length + 3) o2, .b r.ch[i].gone]) rfl rfl (rz_loc (k := 3) rfl) rfl (by decide) (by omega) (by simp only [List.length_append, List.length_cons, List.length_nil]; omega) (over_row (n := 3) rfl hul (by omega)) ⟨_, rfl, ?_⟩
  try (case hok => exact rdOk_b (by decide +kernel))
  refine wo ?_
  refine ⟨rfl, (i + 1, (some k2, .cells ((r.ch[i].val ++ mk3).map byV) 5 oo2 false) :: (some k1, .cells ((r.ch[i].key ++ mk3).map byV) 5 oo1 false) :: X, us ++ [[.sl (some (k1, 0)) r.ch[i].key.length (r.ch[i].key.length + 3) o1, .sl (some (k2, 0)) r.ch[i].val.length (r.ch[i].val.length + 3) o2, .b r.ch[i].gone]], rest.drop 3), ⟨g, ?_, ?_, ?_⟩, by dsimp only; omega, ⟨rfl, rfl, rfl, rfl, trivial⟩, fun hp h => h.le⟩
  ·rw [flat_snoc, List.length_append, hul]
   simp only [List.length_cons, List.length_nil]
   omega
  ·rw [List.length_drop, hrest]
   dsimp only
   omega
  ·intro B hp Lt Lr hs hm
   rw [List.take_succ_eq_append_getElem g]
   refine whRs_app (hX B hp Lt Lr hs fun p hp => hm p (List.mem_cons_of_mem _ (List.mem_cons_of_mem _ hp))) ⟨_, [], rfl, ⟨k1, o1, k2, o2, rfl, ?_, ?_⟩, rfl⟩
   ·exact rb_mem hs (hm _ (List.mem_cons_of_mem _ List.mem_cons_self)) (List.take_of_length_le (Nat.le_refl _))
   ·exact rb_mem hs (hm _ List.mem_cons_self) (List.take_of_length_le (Nat.le_refl _))
 apply wm; iterate 5 exact rfl
 refine mv_int (v := .b false) rfl rfl (vi_lssF (by omega))
 refine wo ?_
 refine w_exit ?_
 obtain rfl : i = r.ch.length := by omega
 rw [List.take_length] at hX
 refine wo ?_
 apply p_op; exact (vwant_n rfl); iterate 4 exact rfl
 refine e_bs (C := markS.map byV) rfl rfl (.cons rfl rfl (.cons rfl rfl (.cons rfl rfl (.cons rfl rfl .nil)))) rfl fun bm => ⟨_, rfl, ?_⟩
 apply p_op; exact (vwant_n rfl); iterate 4 exact rfl
 refine e_share rfl ⟨_, rfl, ?_⟩
 apply wn; iterate 5 exact rfl
 refine p_buildS (C := markC bm) (.cons rfl rfl rfl rfl (Nat.le_of_ble_eq_true rfl) .nil) rfl
 apply p_op; exact (vwant_n rfl); iterate 4 exact rfl
 refine e_bsn (C := markC bm) (n := 1) (sz := 3) rfl rfl (by decide) (.cons rfl rfl rfl .nil) rfl rfl fun b3 => ⟨_, rfl, ?_⟩
 apply p_op; exact (vwant_n rfl); iterate 4 exact rfl
 refine e_appRn (n := 1) (sz := 2) (ds := markC bm) rfl rfl (rz_loc (k := 3) rfl) rfl (by decide) (by omega) (by simp only [List.length_append, List.length_cons, List.length_nil]; omega) (over_row (n := 3) rfl hul (by omega)) ⟨_, rfl, ?_⟩
 have hr0 : rest.drop 3 = [] := List.drop_of_length_le (by omega)
 rw [hr0, List.append_nil, flat_snoc]
 refine wo ?_
 refine zX (m_sl0 rfl bl_none (bl_some rfl) (by omega)) ?_
 refine wo ?_
 apply p_do; exact (vwant_n rfl); exact rfl; exact rfl
 refine e_st (C' := recC r (.sl (some (bl, 0)) r.ch.length (r.ch.length + 1) false)) rfl rfl rfl (by rw [hC]; decide) (recC_set hok) ⟨_, rfl, ?_⟩
 refine wo ?_
 refine zX (m_ldln (s := 67) (cs := recC r (.sl (some (bl, 0)) r.ch.length (r.ch.length + 1) false)) rfl (by rw [List.drop_zero]; exact List.take_of_length_le (by rw [hC]; exact Nat.le_refl _)) hC) ?_
 apply p_do; exact (vwant_n rfl); exact rfl; exact rfl
 refine e_stn (C' := recC r (.sl (some (bl, 0)) r.ch.length (r.ch.length + 1) false)) rfl rfl hne hC (Nat.le_of_ble_eq_true rfl) (overV_all (by rw [hC]; rfl)) ⟨_, rfl, ?_⟩
 refine wo ?_
 exact w_ret (wend_ret (vres1 (rv_cell rfl hC)) ⟨(some bl, cellsO (us.flatten ++ markC bm) 87) :: (some bm, .cells (markS.map byV) 5 none true) :: X, cle, _, rfl, _, rfl, hok, bl, us, bm, X, rfl, rfl, hX⟩)
theorem outMem {L M r : HV} [k : OutM L M r] : ∀ p ∈ M, p ∈ L := fun p hp => k.h.mem_iff.2 (List.mem_append_left _ hp)
/- Dr5: a new base within a function; an item's number and hash. By this project. -/
theorem w_base {K : Kx} {nt : Nat} {hp0 : Bs} {l : VL} {df : DL} {L : HV} {Q : WQ} {c : Code} (Lt Lr : HV) (hL : ∀ hp, SV hp0 hp L → SV hp0 hp (Lt ++ Lr)) (h : ∀ hp, SV hp0 hp (Lt ++ Lr) → WG K nt ⟨hp, hnds Lt⟩ c l df Lt (fun e l' df' L' => Q e l' df' (L' ++ Lr))) : WG K nt hp0 c l df L Q := by
 unfold WG at h ⊢
 intro fr hp hf hs
 have hT := hasT_hnds Lt
 have hs' := hL hp hs
 obtain ⟨e, fr', df', hp', l', L', h1, h2, h3, h4, h5⟩ := h hp hs' fr hp hf (hs'.give fun i b o => mem_hnds i b o)
 exact ⟨e, fr', df', hp', l', L' ++ Lr, h1, h2, hs'.then h3 hT, h4.mono (hs'.headL.ownT hT), h5⟩
def itB : It → List UInt8
 | .str bs => bs
 | .list _ => []
def itL : It → List It
 | .str _ => []
 | .list l => l
def isL : It → Bool
 | .str _ => false
 | .list _ => true
theorem itP_cells {P : Option (Nat × Nat) → List V → Prop} (h0 : P none []) {t : It} {v : List V} (h : ItP P t v) : ∃ A c o A' c' o' vs, v = [.b (isL t), .sl A (itB t).length c o, .sl A' (itL t).length c' o'] ∧ P A ((itB t).map byV) ∧ P A' vs.flatten ∧ ItPs P (itL t) vs := by
 cases t with
 | str bs =>
  rw [ItP] at h
  obtain ⟨A, c, o, rfl, h⟩ := h
  exact ⟨A, c, o, none, 0, false, [], rfl, h, h0, by rw [itL, ItPs]⟩
 | list l =>
  rw [ItP] at h
  obtain ⟨A, c, o, vs, rfl, h, k⟩ := h
  exact ⟨none, 0, false, A, c, o, vs, rfl, h0, h, k⟩
theorem itP_len {P : Option (Nat × Nat) → List V → Prop} {t : It} {v : List V} (h : ItP P t v) : v.length = 3 := by
 cases t with
 | str bs => rw [ItP] at h; obtain ⟨A, c, o, rfl, _⟩ := h; rfl
 | list l => rw [ItP] at h; obtain ⟨A, c, o, vs, rfl, _⟩ := h; rfl
theorem itPs_rows {P : Option (Nat × Nat) → List V → Prop} : ∀ {l : List It} {vs : List (List V)}, ItPs P l vs → ∀ x ∈ vs, x.length = 3
 | [], vs, h, x, hx => by rw [ItPs] at h; subst h; simp at hx
 | t :: r, vs, h, x, hx => by
  rw [ItPs] at h
  obtain ⟨v, ws, rfl, h1, h2⟩ := h
  rcases List.mem_cons.1 hx with rfl | hx
  ·exact itP_len h1
  ·exact itPs_rows h2 x hx
theorem itPs_at {P : Option (Nat × Nat) → List V → Prop} : ∀ {l : List It} {vs : List (List V)} {i : Nat} {t : It}, ItPs P l vs → l[i]? = some t → ∃ v, vs[i]? = some v ∧ ItP P t v
 | [], _, _, _, _, hi => by simp at hi
 | x :: r, vs, 0, t, h, hi => by
  rw [ItPs] at h
  obtain ⟨v, ws, rfl, h1, _⟩ := h
  simp only [List.getElem?_cons_zero, Option.some.injEq] at hi
  subst hi
  exact ⟨v, rfl, h1⟩
 | x :: r, vs, i + 1, t, h, hi => by
  rw [ItPs] at h
  obtain ⟨v, ws, rfl, _, h2⟩ := h
  have := itPs_at (i := i) (t := t) h2 (by simpa using hi)
  simpa using this
theorem itPs_row {P : Option (Nat × Nat) → List V → Prop} {l : List It} {vs : List (List V)} {i : Nat} {t : It} (h : ItPs P l vs) (hi : l[i]? = some t) : ∃ v, (vs.flatten.drop (i * 3)).take 3 = v ∧ v.length = 3 ∧ ItP P t v := by
 obtain ⟨v, h1, h2⟩ := itPs_at h hi
 exact ⟨v, flat_row (itPs_rows h) h1, itP_len h2, h2⟩
theorem rb_some3 {B : Bs} {A : Option (Nat × Nat)} {cs v : List V} {i : Nat} (h : RB B A cs) (hv : (cs.drop i).take 3 = v) (hl : v.length = 3) : ∃ b o, A = some (b, o) := by
 cases hq : cs with
 | nil => rw [hq] at hv; simp at hv; subst hv; simp at hl
 | cons x r =>
  rw [hq] at h
  exact rv_some h.1.rv
theorem row_get {cs : List V} {i j : Nat} {x y z u : V} (h : (cs.drop i).take 3 = [x, y, z]) (hj : [x, y, z][j]? = some u) : cs[i + j]? = some u := by
 rw [← h, List.getElem?_take] at hj
 by_cases g : j < 3
 ·rw [if_pos g, List.getElem?_drop] at hj; exact hj
 ·rw [if_neg g] at hj; simp at hj
def intS : It → Option Nat
 | .list _ => none
 | .str bs => if 8 < bs.length then none else if 0 < bs.length ∧ bAt bs 0 = 0 then none else if 9223372036854775807 < beN 0 bs then none else some (beN 0 bs)
def intV (t : It) : Nat := (intS t).getD 0
def intE (t : It) : Nat := if (intS t).isSome = true then 0 else 52
theorem int_none {t : It} (h : intS t = none) : intV t = 0 ∧ intE t = 52 := by simp [intV, intE, h]
theorem int_some {t : It} {n : Nat} (h : intS t = some n) : intV t = n ∧ intE t = 0 := by simp [intV, intE, h]
set_option maxHeartbeats 16000000 in
theorem int_d {t : It} {v : List V} {hp : Hp} (ho : OkH hp) (ht : ItR ⟨hp, []⟩ t v) :
  Fn kxD 79 [.agg v] hp [] fun r _ => r = .v (.tup [.i .i64 (intV t : Nat), .i .i64 (intE t : Nat)]) := by
 cases t with
 | list l =>
  rw [ItR] at ht
  obtain ⟨A, c, o, vs, rfl, h1, h2⟩ := ht
  obtain ⟨e1, e2⟩ := int_none (t := .list l) rfl
  rw [e1, e2]
  refine fn_of_w (T := []) ho.sv (fun _ => rfl) (fn := Tryz.f79) (by kernel_rfl) rfl rfl ?_
  refine wo ?_
  apply p_op; exact (vwant_n rfl); iterate 4 exact rfl
  refine ev_box rfl rfl fun bx => ⟨_, rfl, ?_⟩
  refine wo ?_
  exact w_ret (wend_ret (vres2 (rv_tmp rfl) (rv_tmp rfl)) rfl)
 | str bs =>
  rw [ItR] at ht
  obtain ⟨A, c, o, rfl, hA⟩ := ht
  refine fn_of_w (T := []) ho.sv (fun _ => rfl) (fn := Tryz.f79) (by kernel_rfl) rfl rfl ?_
  refine wo ?_
  apply p_op; exact (vwant_n rfl); iterate 4 exact rfl
  refine ev_box rfl rfl fun bx => ⟨_, rfl, ?_⟩
  repeat (first | ((first | (apply wn; iterate 5 exact rfl) | (apply dn; iterate 5 exact rfl) | (apply wg; iterate 7 exact rfl) | (apply dg; iterate 7 exact rfl)); first | (apply pv_move; exact rfl) | (apply pv_assign; exact rfl) | (apply pv_nilc; exact rfl) | (apply pv_ext; exact rfl; exact rfl) | (apply p_fa; exact rfl) | (apply pv_not; exact rfl) | (apply pv_pickT; exact rfl; exact rfl) | (apply pv_pickF; exact rfl; exact rfl)) | ((first | (apply wm; iterate 5 exact rfl) | (apply dm; iterate 6 exact rfl) | (apply wmg; iterate 7 exact rfl) | (apply dmg; iterate 8 exact rfl)); first | (apply m_len; exact rfl) | exact mv_addN rfl rfl (by omega) | exact mv_subN rfl rfl (by omega) | exact mv_mulN rfl rfl (by omega)) | (apply ww; (iterate 5 exact rfl); exact m_ldl rfl rfl) | apply wl_nil | apply w_block | apply w_region | (apply w_condT; exact rfl) | (apply w_condF; exact rfl) | apply w_skip | apply w_label | apply wd_nil | (apply w_draw; kernel_rfl) | refine dy rfl rfl rfl rfl rfl rfl (m_ldl rfl rfl) ?_ | (apply dw; (iterate 3 exact rfl); decide +kernel; (iterate 3 exact rfl); exact m_ldl rfl rfl) | (apply wi; iterate 6 exact rfl) | (apply wu; iterate 6 exact rfl) | (apply wi0; iterate 4 exact rfl) | (apply di; iterate 6 exact rfl) | (apply du; iterate 6 exact rfl) | (apply wwg; (iterate 7 exact rfl); exact m_ldl rfl rfl) | refine dyg rfl rfl rfl rfl rfl rfl rfl rfl (m_ldl rfl rfl) ?_ | (apply dwg; (iterate 5 exact rfl); decide +kernel; (iterate 3 exact rfl); exact m_ldl rfl rfl))
  refine w_cutS [(3, .i .i64 0), (2, .i .i64 0), (1, .p (some (bx, 0)))] [(some bx, cellsO [.b false, .sl A bs.length c o, .sl none 0 0 false] 95)] (¬ 8 < bs.length ∧ ¬ (0 < bs.length ∧ bAt bs 0 = 0)) ?_ fun hB => ?_
  ·refine wo ?_
   apply wmg; iterate 7 exact rfl
   refine mv_int (v := .b false) rfl rfl (vi_gtrF (by omega))
   refine wo ?_
   by_cases g1 : 8 < bs.length
   ·obtain ⟨e1, e2⟩ := int_none (t := .str bs) (by rw [intS, if_pos g1])
    rw [e1, e2]
    apply wmg; iterate 7 exact rfl
    refine mv_int (v := .b true) rfl rfl (vi_gtrT (by omega))
    refine wo ?_
    exact w_ret (wend_ret (vres2 (rv_tmp rfl) (rv_tmp rfl)) rfl)
   apply wmg; iterate 7 exact rfl
   refine mv_int (v := .b false) rfl rfl (vi_gtrF (by omega))
   refine wo ?_
   by_cases g2 : 0 < bs.length
   ·obtain ⟨ba, oa, rfl⟩ := rb_spot hA g2
    have hx := byte_at (b := bs) (p := 0) g2
    have hx4 := bAt_lt bs 0
    apply wmg; iterate 7 exact rfl
    refine mv_int (v := .b true) rfl rfl (vi_gtrT (by omega))
    refine wo ?_
    apply wg; iterate 7 exact rfl
    refine p_ia rfl rfl g2
    apply wmg; iterate 7 exact rfl
    refine m_ldN (j := 0) rfl hA.1 hA.2 rfl hx
    by_cases g3 : bAt bs 0 = 0
    ·obtain ⟨e1, e2⟩ := int_none (t := .str bs) (by rw [intS, if_neg g1, if_pos ⟨g2, g3⟩])
     rw [e1, e2]
     apply wmg; iterate 7 exact rfl
     refine mv_int (v := .b true) rfl rfl (vi_eqlT (by omega))
     refine wo ?_
     exact w_ret (wend_ret (vres2 (rv_tmp rfl) (rv_tmp rfl)) rfl)
    apply wmg; iterate 7 exact rfl
    refine mv_int (v := .b false) rfl rfl (vi_eqlF (by omega))
    refine wo ?_
    exact ⟨⟨g1, fun h => g3 h.2⟩, rfl, ⟨rfl, rfl, rfl, trivial⟩, fun hp h => h⟩
   apply wmg; iterate 7 exact rfl
   refine mv_int (v := .b false) rfl rfl (vi_gtrF (by omega))
   refine wo ?_
   exact ⟨⟨g1, fun h => g2 h.1⟩, rfl, ⟨rfl, rfl, rfl, trivial⟩, fun hp h => h⟩
  obtain ⟨g1, g2⟩ := hB
  refine wo ?_
  iterate 4 ((try refine w_seq ?_); refine wo ?_)
  refine w_loop (ι := Nat) (fun i => [(37, .i .i64 (i : Nat)), (36, .i .i64 (bs.length : Nat)), (35, .sl A bs.length c o), (4, .i .u64 (beN 0 (bs.take i) : Nat)), (3, .i .i64 0), (2, .i .i64 0), (1, .p (some (bx, 0)))]) (fun i => [(some bx, cellsO [.b false, .sl A bs.length c o, .sl none 0 0 false] 95)]) (fun i => i ≤ bs.length) (fun i => bs.length - i) 0 (Nat.zero_le _) ⟨rfl, rfl, rfl, rfl, rfl, rfl, rfl, trivial⟩ (fun hp h => h) ?_
  intro i hi
  try dsimp only at hi ⊢
  refine wo ?_
  by_cases g3 : i < bs.length
  ·obtain ⟨ba, oa, rfl⟩ := rb_spot hA (by omega)
   have hxi := byte_at (b := bs) (p := i) g3
   have hz4 := bAt_lt bs i
   have hbd : beN 0 (bs.take i) < 72057594037927936 := by
    have h1 := beN_lt (bs.take i) 0
    have h2 : (bs.take i).length ≤ 7 := by rw [List.length_take]; omega
    have h3 : 256 ^ (bs.take i).length ≤ 256 ^ 7 := Nat.pow_le_pow_right (by decide) h2
    have h4 : (256 : Nat) ^ 7 = 72057594037927936 := rfl
    omega
   have hnx : beN 0 (bs.take (i + 1)) = beN 0 (bs.take i) * 256 + bAt bs i := by
    rw [List.take_succ_eq_append_getElem g3, beN_app, beN, beN, bAt_get g3]
   apply wm; iterate 5 exact rfl
   refine mv_int (v := .b true) rfl rfl (vi_lssT (by omega))
   refine wo ?_
   apply wn; iterate 5 exact rfl
   refine p_ia rfl rfl g3
   apply wm; iterate 5 exact rfl
   refine m_ldN (j := i) rfl hA.1 hA.2 (by omega) hxi
   refine wo ?_
   apply wm; iterate 5 exact rfl
   refine m_shlU rfl rfl (by decide) (by omega)
   refine wo ?_
   apply wm; iterate 5 exact rfl
   refine m_convU rfl (by omega)
   apply wm; iterate 5 exact rfl
   refine m_orU rfl rfl (by omega) (by omega)
   rw [or_shl hz4, ← hnx]
   refine wo ?_
   exact ⟨rfl, i + 1, g3, by (try dsimp only); omega, ⟨rfl, rfl, rfl, rfl, rfl, rfl, rfl, trivial⟩, fun hp h => h⟩
  apply wm; iterate 5 exact rfl
  refine mv_int (v := .b false) rfl rfl (vi_lssF (by omega))
  refine wo ?_
  refine w_exit ?_
  obtain rfl : i = bs.length := by omega
  rw [List.take_length]
  have hbd : beN 0 bs < 18446744073709551616 := by
   have h1 := beN_lt bs 0
   have h3 : 256 ^ bs.length ≤ 256 ^ 8 := Nat.pow_le_pow_right (by decide) (by omega)
   have h4 : (256 : Nat) ^ 8 = 18446744073709551616 := rfl
   omega
  refine wo ?_
  by_cases g4 : 9223372036854775807 < beN 0 bs
  ·obtain ⟨e1, e2⟩ := int_none (t := .str bs) (by rw [intS, if_neg g1, if_neg g2, if_pos g4])
   rw [e1, e2]
   apply wm; iterate 5 exact rfl
   refine mv_int (v := .b true) rfl rfl (vi_gtrT (by omega))
   refine wo ?_
   exact w_ret (wend_ret (vres2 (rv_tmp rfl) (rv_tmp rfl)) rfl)
  obtain ⟨e1, e2⟩ := int_some (t := .str bs) (by rw [intS, if_neg g1, if_neg g2, if_neg g4])
  rw [e1, e2]
  apply wm; iterate 5 exact rfl
  refine mv_int (v := .b false) rfl rfl (vi_gtrF (by omega))
  refine wo ?_
  apply wm; iterate 5 exact rfl
  refine m_convI rfl (by omega)
  refine wo ?_
  exact w_ret (wend_ret (vres2 (rv_tmp rfl) (rv_tmp rfl)) rfl)
def hshB (t : It) : List UInt8 := if (itB t).length = 32 then itB t else List.replicate 32 0
theorem hshB_len (t : It) : (hshB t).length = 32 := by
 unfold hshB
 split
 ·assumption
 ·simp
set_option maxHeartbeats 8000000 in
theorem jhash_d {t : It} {v : List V} {hp : Hp} (ho : OkH hp) (ht : ItR ⟨hp, []⟩ t v) :
  Fn kxD 80 [.agg v] hp [] fun r _ => r = .v (.tup [.agg ((hshB t).map byV), .b (decide ((itB t).length = 32))]) := by
 obtain ⟨A, c, o, A', c', o', rfl, hA⟩ : ∃ A c o A' c' o', v = [.b (isL t), .sl A (itB t).length c o, .sl A' (itL t).length c' o'] ∧ RB ⟨hp, []⟩ A ((itB t).map byV) := by
  cases t with
  | str bs => rw [ItR] at ht; obtain ⟨A, c, o, rfl, h⟩ := ht; exact ⟨A, c, o, none, 0, false, rfl, h⟩
  | list l => rw [ItR] at ht; obtain ⟨A, c, o, vs, rfl, h, k⟩ := ht; exact ⟨none, 0, false, A, c, o, rfl, RB.nil⟩
 unfold hshB
 generalize itB t = bs at *
 refine fn_of_w (T := []) ho.sv (fun _ => rfl) (fn := Tryz.f80) (by kernel_rfl) rfl rfl ?_
 refine wo ?_
 apply p_op; exact (vwant_n rfl); iterate 4 exact rfl
 refine ev_box rfl rfl fun bx => ⟨_, rfl, ?_⟩
 apply p_op; exact (vwant_n rfl); iterate 4 exact rfl
 refine e_alloc rfl fun bo => ⟨_, rfl, ?_⟩
 refine wo ?_
 by_cases g : bs.length = 32
 ·obtain ⟨ba, oa, rfl⟩ := rb_spot hA (by omega)
  rw [if_pos g, decide_eq_true g]
  have hn : bs.map byV ≠ [] := fun e => by have := congrArg List.length e; simp at this; rw [this] at g; simp at g
  have h32 : (bs.map byV).length = 32 := by rw [List.length_map, g]
  apply wm; iterate 5 exact rfl
  refine mv_int (v := .b false) rfl rfl (vi_neqF (by omega))
  refine wo ?_
  apply wn; iterate 5 exact rfl
  refine pv_s2a rfl rfl (by omega) (by decide)
  apply wm; iterate 5 exact rfl
  refine m_ldnN (j := 0) (s := 31) (vs := bs.map byV) rfl hA.1 hA.2 rfl (by rw [List.drop_zero]; exact List.take_of_length_le (Nat.le_of_eq h32)) h32
  apply p_do; exact (vwant_n rfl); exact rfl; exact rfl
  refine e_stn (C' := bs.map byV) rfl rfl hn h32 (Nat.le_of_ble_eq_true rfl) (by exact overV_all h32) ⟨_, rfl, ?_⟩
  refine wo ?_
  exact w_ret (wend_ret (vres2 (rv_cell rfl h32) (rv_tmp rfl)) rfl)
 ·rw [if_neg g, decide_eq_false g]
  apply wm; iterate 5 exact rfl
  refine mv_int (v := .b true) rfl rfl (vi_neqT (by omega))
  refine wo ?_
  apply wn; iterate 5 exact rfl
  refine p_buildA0
  apply p_do; exact (vwant_n rfl); exact rfl; exact rfl
  refine e_stn (C' := (List.replicate 32 (0 : UInt8)).map byV) rfl rfl (by simp) rfl (Nat.le_of_ble_eq_true rfl) rfl ⟨_, rfl, ?_⟩
  refine wo ?_
  exact w_ret (wend_ret (vres2 (rv_cell rfl rfl) (rv_tmp rfl)) rfl)
/- Dr6: what a body seems to say. By this project. -/
mutual
def wt : It → Nat
 | .str bs => max 1 bs.length
 | .list l => 1 + wts l
def wts : List It → Nat
 | [] => 0
 | t :: r => wt t + wts r
end
theorem wts_app : ∀ (l r : List It), wts (l ++ r) = wts l + wts r
 | [], r => by rw [List.nil_append, wts, Nat.zero_add]
 | t :: l, r => by rw [List.cons_append, wts, wts, wts_app l r, Nat.add_assoc]
mutual
theorem itemS_wt : ∀ {f : Nat} {b : List UInt8} {p e d q : Nat} {t : It}, p ≤ e → itemS f b p e d = some (.ok (t, q)) → wt t + p ≤ q
 | 0, b, p, e, d, q, t, _, h => by simp [itemS] at h
 | f + 1, b, p, e, d, q, t, hp, h => by
  rw [itemS] at h
  split at h
  ·simp at h
  ·rename_i hpe
   split at h
   ·simp only [Option.some.injEq, Except.ok.injEq, Prod.mk.injEq] at h
    obtain ⟨rfl, rfl⟩ := h
    rw [wt]
    simp
    omega
   ·split at h
    ·simp at h
    ·split at h
     ·simp at h
     ·rename_i n q0 hl
      obtain ⟨l1, l2, _⟩ := lenS_ok (by omega) hl
      split at h
      ·simp at h
      ·split at h
       ·have := listS_wt (by omega) h
        rw [wts] at this
        omega
       ·split at h
        ·simp at h
        ·simp only [Option.some.injEq, Except.ok.injEq, Prod.mk.injEq] at h
         obtain ⟨rfl, rfl⟩ := h
         rw [wt, List.length_take]
         omega
theorem listS_wt : ∀ {f : Nat} {b : List UInt8} {p e d q : Nat} {acc : List It} {t : It}, p ≤ e → listS f b p e d acc = some (.ok (t, q)) → wt t + p ≤ q + 1 + wts acc
 | 0, b, p, e, d, q, acc, t, _, h => by simp [listS] at h
 | f + 1, b, p, e, d, q, acc, t, hp, h => by
  rw [listS] at h
  split at h
  ·split at h
   ·simp at h
   ·simp at h
   ·rename_i t' q' hi
    have h1 := itemS_wt hp hi
    have h3 := listS_wt (itemS_at hp hi).2 h
    rw [wts_app, wts, wts] at h3
    omega
  ·simp only [Option.some.injEq, Except.ok.injEq, Prod.mk.injEq] at h
   obtain ⟨rfl, rfl⟩ := h
   rw [wt]
   omega
end
theorem decS_wt {b : List UInt8} {t : It} (h : decS b = .ok t) : wt t ≤ 1048576 := by
 unfold decS at h
 split at h
 ·simp at h
 ·rename_i hl
  split at h
  ·rename_i t' q hi
   split at h
   ·simp at h
   ·have h1 := itemS_wt (Nat.zero_le _) hi
    have h2 := (itemS_at (Nat.zero_le _) hi).2
    simp only [Except.ok.injEq] at h
    subst h
    omega
  ·simp at h
  ·simp at h
theorem wt_pos (t : It) : 1 ≤ wt t := by
 cases t with
 | str bs => rw [wt]; omega
 | list l => rw [wt]; omega
theorem wts_len : ∀ l : List It, l.length ≤ wts l
 | [] => Nat.zero_le _
 | t :: r => by
  rw [wts, List.length_cons]
  have := wts_len r
  have := wt_pos t
  omega
theorem wts_mem : ∀ {l : List It} {t : It}, t ∈ l → wt t ≤ wts l
 | x :: r, t, h => by
  rw [wts]
  rcases List.mem_cons.1 h with rfl | h
  ·omega
  ·have := wts_mem h; omega
theorem wt_itL (t : It) : wts (itL t) ≤ wt t := by
 cases t with
 | str bs => rw [itL, wts]; exact Nat.zero_le _
 | list l => rw [itL, wt]; omega
theorem wt_itB (t : It) : (itB t).length ≤ wt t := by
 cases t with
 | str bs => rw [itB, wt]; omega
 | list l => exact Nat.zero_le _
def chg1 (c : It) : Option Chg := match itL c with
 | [k] => some ⟨itB k, [], true⟩
 | [k, v] => some ⟨itB k, itB v, false⟩
 | _ => none
def chS : List It → Option (List Chg)
 | [] => some []
 | c :: r => match chg1 c, chS r with
  | some x, some y => some (x :: y)
  | _, _ => none
theorem chS_snoc : ∀ {l : List It} {a : List Chg} {c : It} {x : Chg}, chS l = some a → chg1 c = some x → chS (l ++ [c]) = some (a ++ [x])
 | [], a, c, x, h, k => by
  simp only [chS, Option.some.injEq] at h
  subst h
  simp only [List.nil_append, chS, k]
 | y :: r, a, c, x, h, k => by
  simp only [chS] at h
  simp only [List.cons_append, chS]
  cases h1 : chg1 y with
  | none => rw [h1] at h; simp at h
  | some z =>
   cases h2 : chS r with
   | none => rw [h1, h2] at h; simp at h
   | some w =>
    rw [h1, h2] at h
    simp only [Option.some.injEq] at h
    subst h
    rw [chS_snoc h2 k]
    rfl
theorem chS_none : ∀ {l : List It} {c : It}, c ∈ l → chg1 c = none → chS l = none
 | y :: r, c, h, k => by
  simp only [chS]
  rcases List.mem_cons.1 h with rfl | h
  ·rw [k]
  ·rw [chS_none h k]
   cases chg1 y <;> rfl
theorem chS_len : ∀ {l : List It} {a : List Chg}, chS l = some a → a.length = l.length ∧ ∀ c ∈ a, c.key.length ≤ wts l ∧ c.val.length ≤ wts l
 | [], a, h => by
  simp only [chS, Option.some.injEq] at h
  subst h
  exact ⟨rfl, fun c hc => by simp at hc⟩
 | y :: r, a, h => by
  simp only [chS] at h
  cases h1 : chg1 y with
  | none => rw [h1] at h; simp at h
  | some z =>
   cases h2 : chS r with
   | none => rw [h1, h2] at h; simp at h
   | some w =>
    rw [h1, h2] at h
    simp only [Option.some.injEq] at h
    subst h
    obtain ⟨k1, k2⟩ := chS_len h2
    refine ⟨by rw [List.length_cons, List.length_cons, k1], fun c hc => ?_⟩
    rw [wts]
    rcases List.mem_cons.1 hc with rfl | hc
    ·have hy := wt_itL y
     unfold chg1 at h1
     split at h1
     ·rename_i k hk
      rw [hk, wts, wts] at hy
      have := wt_itB k
      simp only [Option.some.injEq] at h1
      subst h1
      exact ⟨by dsimp only; omega, Nat.zero_le _⟩
     ·rename_i k v hk
      rw [hk, wts, wts, wts] at hy
      have := wt_itB k
      have := wt_itB v
      simp only [Option.some.injEq] at h1
      subst h1
      exact ⟨by dsimp only; omega, by dsimp only; omega⟩
     ·simp at h1
    ·have := k2 c hc
     omega
def recI (t : It) : Option Rec := match itL t with
 | [i0, i1, i2, i3, i4, i5] => if (intS i0).isSome = true ∧ (intS i1).isSome = true ∧ (intS i2).isSome = true ∧ (itB i3).length = 32 ∧ (itB i4).length = 32 then (chS (itL i5)).map fun l => ⟨(intV i0 : Nat), (intV i1 : Nat), (intV i2 : Nat), itB i3, itB i4, l⟩ else none
 | _ => none
def recS (b : List UInt8) : Option Rec := match decS b with
 | .ok t => recI t
 | .error _ => none
theorem recI_six {t : It} (h : (itL t).length ≠ 6) : recI t = none := by
 unfold recI
 split
 ·rename_i hl
  rw [hl] at h
  exact absurd rfl h
 ·rfl
theorem recI_ok {t : It} {r : Rec} (ht : wt t ≤ 1048576) (h : recI t = some r) : RecOk r := by
 unfold recI at h
 split at h
 ·rename_i i0 i1 i2 i3 i4 i5 hl
  split at h
  ·rename_i hc
   obtain ⟨a, ha, rfl⟩ := Option.map_eq_some_iff.1 h
   obtain ⟨k1, k2⟩ := chS_len ha
   have h1 := wt_itL t
   have h2 : wt i5 ≤ wts (itL t) := wts_mem (by rw [hl]; simp)
   have h3 := wt_itL i5
   have h4 := wts_len (itL i5)
   exact ⟨hc.2.2.2.1, hc.2.2.2.2, by dsimp only; omega, fun c hc => by have := k2 c hc; omega⟩
  ·simp at h
 ·simp at h
def ChgX (X : HV) (c : Chg) (v : List V) : Prop := ∃ A kc ko A' vc vo, v = [.sl A c.key.length kc ko, .sl A' c.val.length vc vo, .b c.gone] ∧ Sn X A (c.key.map byV) ∧ Sn X A' (c.val.map byV)
def ChgXs (X : HV) : List Chg → List (List V) → Prop
 | [], vs => vs = []
 | c :: r, vs => ∃ v ws, vs = v :: ws ∧ ChgX X c v ∧ ChgXs X r ws
theorem chgXs_snoc {X : HV} {c : Chg} {v : List V} (k : ChgX X c v) : ∀ {l : List Chg} {vs : List (List V)}, ChgXs X l vs → ChgXs X (l ++ [c]) (vs ++ [v])
 | [], vs, h => by
  rw [ChgXs] at h
  subst h
  exact ⟨v, [], rfl, k, rfl⟩
 | x :: r, vs, h => by
  obtain ⟨w, ws, rfl, h1, h2⟩ := h
  exact ⟨w, ws ++ [v], rfl, h1, chgXs_snoc k h2⟩
theorem chgXs_mono {X Y : HV} (hx : ∀ p ∈ X, p ∈ Y) : ∀ {l : List Chg} {vs : List (List V)}, ChgXs X l vs → ChgXs Y l vs
 | [], vs, h => h
 | x :: r, vs, h => by
  obtain ⟨w, ws, rfl, ⟨A, kc, ko, A', vc, vo, h0, h1, h2⟩, h3⟩ := h
  exact ⟨w, ws, rfl, ⟨A, kc, ko, A', vc, vo, h0, h1.mono hx, h2.mono hx⟩, chgXs_mono hx h3⟩
theorem chgXs_r {X : HV} {B : Bs} (hm : ∀ A cs, Sn X A cs → RB B A cs) : ∀ {l : List Chg} {vs : List (List V)}, ChgXs X l vs → ChgRs B l vs
 | [], vs, h => h
 | x :: r, vs, h => by
  obtain ⟨w, ws, rfl, ⟨A, kc, ko, A', vc, vo, h0, h1, h2⟩, h3⟩ := h
  exact ⟨w, ws, rfl, ⟨A, kc, ko, A', vc, vo, h0, hm _ _ h1, hm _ _ h2⟩, chgXs_r hm h3⟩
def RecX (X : HV) (r : Rec) (v : List V) : Prop := RecOk r ∧ ∃ A c o us, v = recC r (.sl A r.ch.length c o) ∧ Sn X A us.flatten ∧ ChgXs X r.ch us
theorem RecX.r {X : HV} {r : Rec} {v : List V} (h : RecX X r v) {B : Bs} {hp : Hp} {Lt L : HV} (hs : SV B hp (Lt ++ L)) (hx : ∀ p ∈ X, p ∈ L) : RecR ⟨hp, hnds Lt⟩ r v := by
 obtain ⟨h0, A, c, o, us, h1, h2, h3⟩ := h
 exact ⟨h0, A, c, o, us, h1, h2 _ _ _ _ hs hx, chgXs_r (fun A cs h => h _ _ _ _ hs hx) h3⟩
abbrev zR : Rec := ⟨0, 0, 0, List.replicate 32 0, List.replicate 32 0, []⟩
abbrev zRC : List V := recC zR (.sl none 0 0 false)
theorem rec_put {k n q : V} {p r : List V} (hp : p.length = 32) (hr : r.length = 32) : putAllV zRC [(0, [k]), (1, [n]), (2, [q]), (3, p), (35, r)] = k :: n :: q :: (p ++ (r ++ [.sl none 0 0 false])) := by
 have e1 : putAllV zRC [(0, [k]), (1, [n]), (2, [q])] = k :: n :: q :: zRC.drop 3 := rfl
 have e2 : putAllV zRC [(0, [k]), (1, [n]), (2, [q]), (3, p), (35, r)] = overV (overV (k :: n :: q :: zRC.drop 3) 3 p) 35 r := rfl
 have e3 : (zRC.drop 3).length = 65 := rfl
 have e4 : (zRC.drop 3).drop 64 = [.sl none 0 0 false] := rfl
 rw [e2]
 generalize zRC.drop 3 = z at e3 e4
 unfold overV
 rw [hp, hr]
 simp only [List.take_succ_cons, List.take_zero, List.drop_succ_cons, List.cons_append, List.nil_append, Nat.reduceAdd]
 rw [List.take_append_of_le_length (by omega), List.take_of_length_le (by omega), List.drop_append, List.drop_of_length_le (by omega), List.nil_append, hp, List.drop_drop, e4, List.append_assoc]
/- Dr7: the record that a body seems to say, read. By this project. -/
set_option maxHeartbeats 64000000 in
theorem recof_d {A0 : Option (Nat × Nat)} {b : List UInt8} {c0 : Nat} {o0 : Bool} {hp : Hp} (ho : OkH hp) (hb : RB ⟨hp, []⟩ A0 (b.map byV)) (hc : b.length ≤ c0) :
  Fn kxD 51 [.sl A0 b.length c0 o0] hp [] fun r N => match recS b with
   | none => ∃ u, r = .v u ∧ u = .tup [.agg zRC, .b false]
   | some rc => ∃ u, r = .v u ∧ ∃ w, u = .tup [.agg w, .b true] ∧ RecX N rc w := by
 refine Fn.dropC ?_
 unfold recS
 refine fn_of_w (T := []) ho.sv (fun _ => rfl) (fn := Tryz.f51) (by kernel_rfl) rfl rfl ?_
 refine wo ?_
 apply p_op; exact (vwant_n rfl); iterate 4 exact rfl
 refine e_alloc rfl fun b2 => ⟨_, rfl, ?_⟩
 refine wo ?_
 cases hS : decS b with
 | error x =>
  have hx : x.2 ≠ 0 := by
   rw [decS_of] at hS
   cases hR : readS b with
   | error y =>
    rw [hR] at hS
    obtain rfl := Except.error.inj hS
    exact readS_err hR
   | ok tq =>
    rw [hR] at hS
    dsimp only at hS
    split at hS
    ·obtain rfl := Except.error.inj hS
     simp
    ·simp at hS
  have hC : ∀ {L : HV} {hp' : Hp}, SV ⟨hp, []⟩ hp' L → OkH hp' → Fn kxD 78 [.sl A0 b.length c0 o0] hp' [] fun r N => ∃ u, r = .v u ∧ u = .tup [.agg zI, .i .i64 (x.1 : Nat), .i .i64 (x.2 : Nat)] := fun hs ho => by
   have := decode_d (o := o0) ho (hb.give0 hs) hc
   rw [hS] at this
   exact this
  apply p_callY []; exact (vwant_n rfl); iterate 4 exact rfl
  case hC => exact (fun hp' hs ht => hC hs hs.ok)
  rintro u N rfl
  refine wo ?_
  apply p_op; exact (vwant_n rfl); iterate 4 exact rfl
  refine e_alloc rfl fun b4 => ⟨_, rfl, ?_⟩
  apply p_do; exact (vwant_n rfl); exact rfl; exact rfl
  refine e_stn (C' := zI) rfl rfl (by simp) rfl (Nat.le_of_ble_eq_true rfl) rfl ⟨_, rfl, ?_⟩
  refine wo ?_
  apply wm; iterate 5 exact rfl
  refine mv_int (v := .b true) rfl rfl (vi_neqT (by omega))
  refine wo ?_
  apply wn; iterate 5 exact rfl
  refine p_buildS (C := zRC) .nil rfl
  apply p_do; exact (vwant_n rfl); exact rfl; exact rfl
  refine e_stn (C' := zRC) rfl rfl (by simp [recC]) rfl (Nat.le_of_ble_eq_true rfl) rfl ⟨_, rfl, ?_⟩
  refine wo ?_
  exact w_ret (wend_ret (vres2 (rv_cell rfl rfl) (rv_tmp rfl)) ⟨[], cle, _, rfl, rfl⟩)
 | ok t =>
  have hwt := decS_wt hS
  have hC : ∀ {L : HV} {hp' : Hp}, SV ⟨hp, []⟩ hp' L → OkH hp' → Fn kxD 78 [.sl A0 b.length c0 o0] hp' [] fun r N => ∃ u, r = .v u ∧ ∃ a1 a2 a3, u = .tup [.agg [a1, a2, a3], .i .i64 0, .i .i64 0] ∧ ItX N t [a1, a2, a3] := fun hs ho => by
   have := decode_d (o := o0) ho (hb.give0 hs) hc
   rw [hS] at this
   exact this
  dsimp only
  apply p_callY []; exact (vwant_n rfl); iterate 4 exact rfl
  case hC => exact (fun hp' hs ht => hC hs hs.ok)
  rintro u N ⟨a1, a2, a3, rfl, hX⟩
  obtain ⟨A1, c1, o1, A, c, o, vs, hv, hP1, hP, hvs⟩ := itP_cells Sn.nil hX
  simp only [List.cons.injEq, and_true] at hv
  obtain ⟨rfl, rfl, rfl⟩ := hv
  refine wo ?_
  apply p_op; exact (vwant_n rfl); iterate 4 exact rfl
  refine e_alloc rfl fun b4 => ⟨_, rfl, ?_⟩
  apply p_do; exact (vwant_n rfl); exact rfl; exact rfl
  refine e_stn (C' := [.b (isL t), .sl A1 (itB t).length c1 o1, .sl A (itL t).length c o]) rfl rfl (by simp) rfl (Nat.le_of_ble_eq_true rfl) rfl ⟨_, rfl, ?_⟩
  repeat (first | ((first | (apply wn; iterate 5 exact rfl) | (apply dn; iterate 5 exact rfl) | (apply wg; iterate 7 exact rfl) | (apply dg; iterate 7 exact rfl)); first | (apply pv_move; exact rfl) | (apply pv_assign; exact rfl) | (apply pv_nilc; exact rfl) | (apply pv_ext; exact rfl; exact rfl) | (apply p_fa; exact rfl) | (apply pv_not; exact rfl) | (apply pv_pickT; exact rfl; exact rfl) | (apply pv_pickF; exact rfl; exact rfl)) | ((first | (apply wm; iterate 5 exact rfl) | (apply dm; iterate 6 exact rfl) | (apply wmg; iterate 7 exact rfl) | (apply dmg; iterate 8 exact rfl)); first | (apply m_len; exact rfl) | exact mv_addN rfl rfl (by omega) | exact mv_subN rfl rfl (by omega) | exact mv_mulN rfl rfl (by omega)) | (apply ww; (iterate 5 exact rfl); exact m_ldl rfl rfl) | apply wl_nil | apply w_block | apply w_region | (apply w_condT; exact rfl) | (apply w_condF; exact rfl) | apply w_skip | apply w_label | apply wd_nil | (apply w_draw; kernel_rfl) | refine dy rfl rfl rfl rfl rfl rfl (m_ldl rfl rfl) ?_ | (apply dw; (iterate 3 exact rfl); decide +kernel; (iterate 3 exact rfl); exact m_ldl rfl rfl) | (apply wi; iterate 6 exact rfl) | (apply wu; iterate 6 exact rfl) | (apply wi0; iterate 4 exact rfl) | (apply di; iterate 6 exact rfl) | (apply du; iterate 6 exact rfl) | (apply wwg; (iterate 7 exact rfl); exact m_ldl rfl rfl) | refine dyg rfl rfl rfl rfl rfl rfl rfl rfl (m_ldl rfl rfl) ?_ | (apply dwg; (iterate 5 exact rfl); decide +kernel; (iterate 3 exact rfl); exact m_ldl rfl rfl))
  refine w_base [(some b4, cellsO [.b (isL t), .sl A1 (itB t).length c1 o1, .sl A (itL t).length c o] 95), (some b2, cellsO zRC 26)] N (fun hp h => h.perm (List.perm_append_comm.cons _)) fun hp1 hs1 => ?_
  have hB : ∀ B cs, Sn N B cs → RB ⟨hp1, hnds [(some b4, cellsO [.b (isL t), .sl A1 (itB t).length c1 o1, .sl A (itL t).length c o] 95), (some b2, cellsO zRC 26)]⟩ B cs := fun B cs h => h _ _ _ _ hs1 fun p hp => hp
  have hA := hB _ _ hP
  refine wo ?_
  apply wm; iterate 5 exact rfl
  refine mv_int (v := .b false) rfl rfl (vi_neqF (by omega))
  refine wo ?_
  by_cases g6 : (itL t).length = 6
  rotate_left
  ·rw [recI_six g6]
   apply wmg; iterate 7 exact rfl
   refine mv_int (v := .b true) rfl rfl (vi_neqT (by omega))
   refine wo ?_
   apply wn; iterate 5 exact rfl
   refine p_buildS (C := zRC) .nil rfl
   apply p_do; exact (vwant_n rfl); exact rfl; exact rfl
   refine e_stn (C' := zRC) rfl rfl (by simp [recC]) rfl (Nat.le_of_ble_eq_true rfl) rfl ⟨_, rfl, ?_⟩
   refine wo ?_
   exact w_ret (wend_ret (vres2 (rv_cell rfl rfl) (rv_tmp rfl)) ⟨[], cle, _, rfl, rfl⟩)
  obtain ⟨i0, i1, i2, i3, i4, i5, hl⟩ : ∃ i0 i1 i2 i3 i4 i5, itL t = [i0, i1, i2, i3, i4, i5] := by
   match itL t, g6 with
   | [i0, i1, i2, i3, i4, i5], _ => exact ⟨i0, i1, i2, i3, i4, i5, rfl⟩
  have hrI : recI t = if (intS i0).isSome = true ∧ (intS i1).isSome = true ∧ (intS i2).isSome = true ∧ (itB i3).length = 32 ∧ (itB i4).length = 32 then (chS (itL i5)).map fun l => ⟨(intV i0 : Nat), (intV i1 : Nat), (intV i2 : Nat), itB i3, itB i4, l⟩ else none := by
   unfold recI
   rw [hl]
  obtain ⟨v0, d0, l0, P0⟩ := itPs_row (i := 0) (t := i0) hvs (by rw [hl]; rfl)
  obtain ⟨v1, d1, l1, P1⟩ := itPs_row (i := 1) (t := i1) hvs (by rw [hl]; rfl)
  obtain ⟨v2, d2, l2, P2⟩ := itPs_row (i := 2) (t := i2) hvs (by rw [hl]; rfl)
  obtain ⟨v3, d3, l3, P3⟩ := itPs_row (i := 3) (t := i3) hvs (by rw [hl]; rfl)
  obtain ⟨v4, d4, l4, P4⟩ := itPs_row (i := 4) (t := i4) hvs (by rw [hl]; rfl)
  obtain ⟨v5, d5, l5, P5⟩ := itPs_row (i := 5) (t := i5) hvs (by rw [hl]; rfl)
  obtain ⟨ba, oa, rfl⟩ := rb_some3 hA d0 l0
  have n3 : (hshB i3).map byV ≠ [] := fun e => by have := congrArg List.length e; rw [List.length_map, hshB_len] at this; simp at this
  have n4 : (hshB i4).map byV ≠ [] := fun e => by have := congrArg List.length e; rw [List.length_map, hshB_len] at this; simp at this
  have q3 : ((hshB i3).map byV).length = 32 := by rw [List.length_map, hshB_len]
  have q4 : ((hshB i4).map byV).length = 32 := by rw [List.length_map, hshB_len]
  apply wmg; iterate 7 exact rfl
  refine mv_int (v := .b false) rfl rfl (vi_neqF (by omega))
  refine wo ?_
  apply wn; iterate 5 exact rfl
  refine p_ian (i := 0) rfl rfl (by omega)
  apply wm; iterate 5 exact rfl
  refine m_ldnN (j := 0 * 3) (s := 2) rfl hA.1 hA.2 rfl d0 l0
  refine p_callq (vwant_n rfl) rfl rfl rfl rfl (fun hp' hs => int_d hs.ok (itP_r (fun A cs h => (hB A cs h).give0 hs) _ _ P0)) ?_
  refine wo ?_
  apply wn; iterate 5 exact rfl
  refine p_ian (i := 1) rfl rfl (by omega)
  apply wm; iterate 5 exact rfl
  refine m_ldnN (j := 1 * 3) (s := 2) rfl hA.1 hA.2 rfl d1 l1
  refine p_callq (vwant_n rfl) rfl rfl rfl rfl (fun hp' hs => int_d hs.ok (itP_r (fun A cs h => (hB A cs h).give0 hs) _ _ P1)) ?_
  refine wo ?_
  apply wn; iterate 5 exact rfl
  refine p_ian (i := 2) rfl rfl (by omega)
  apply wm; iterate 5 exact rfl
  refine m_ldnN (j := 2 * 3) (s := 2) rfl hA.1 hA.2 rfl d2 l2
  refine p_callq (vwant_n rfl) rfl rfl rfl rfl (fun hp' hs => int_d hs.ok (itP_r (fun A cs h => (hB A cs h).give0 hs) _ _ P2)) ?_
  refine wo ?_
  apply wn; iterate 5 exact rfl
  refine p_ian (i := 3) rfl rfl (by omega)
  apply wm; iterate 5 exact rfl
  refine m_ldnN (j := 3 * 3) (s := 2) rfl hA.1 hA.2 rfl d3 l3
  refine p_callq (vwant_n rfl) rfl rfl rfl rfl (fun hp' hs => jhash_d hs.ok (itP_r (fun A cs h => (hB A cs h).give0 hs) _ _ P3)) ?_
  refine wo ?_
  apply p_op; exact (vwant_n rfl); iterate 4 exact rfl
  refine e_alloc rfl fun b13 => ⟨_, rfl, ?_⟩
  apply p_do; exact (vwant_n rfl); exact rfl; exact rfl
  refine e_stn (C' := (hshB i3).map byV) rfl rfl n3 q3 (Nat.le_of_ble_eq_true rfl) (by exact overV_all q3) ⟨_, rfl, ?_⟩
  refine wo ?_
  apply wn; iterate 5 exact rfl
  refine p_ian (i := 4) rfl rfl (by omega)
  apply wm; iterate 5 exact rfl
  refine m_ldnN (j := 4 * 3) (s := 2) rfl hA.1 hA.2 rfl d4 l4
  refine p_callq (vwant_n rfl) rfl rfl rfl rfl (fun hp' hs => jhash_d hs.ok (itP_r (fun A cs h => (hB A cs h).give0 hs) _ _ P4)) ?_
  refine wo ?_
  apply p_op; exact (vwant_n rfl); iterate 4 exact rfl
  refine e_alloc rfl fun b15 => ⟨_, rfl, ?_⟩
  apply p_do; exact (vwant_n rfl); exact rfl; exact rfl
  refine e_stn (C' := (hshB i4).map byV) rfl rfl n4 q4 (Nat.le_of_ble_eq_true rfl) (by exact overV_all q4) ⟨_, rfl, ?_⟩
  repeat (first | ((first | (apply wn; iterate 5 exact rfl) | (apply dn; iterate 5 exact rfl) | (apply wg; iterate 7 exact rfl) | (apply dg; iterate 7 exact rfl)); first | (apply pv_move; exact rfl) | (apply pv_assign; exact rfl) | (apply pv_nilc; exact rfl) | (apply pv_ext; exact rfl; exact rfl) | (apply p_fa; exact rfl) | (apply pv_not; exact rfl) | (apply pv_pickT; exact rfl; exact rfl) | (apply pv_pickF; exact rfl; exact rfl)) | ((first | (apply wm; iterate 5 exact rfl) | (apply dm; iterate 6 exact rfl) | (apply wmg; iterate 7 exact rfl) | (apply dmg; iterate 8 exact rfl)); first | (apply m_len; exact rfl) | exact mv_addN rfl rfl (by omega) | exact mv_subN rfl rfl (by omega) | exact mv_mulN rfl rfl (by omega)) | (apply ww; (iterate 5 exact rfl); exact m_ldl rfl rfl) | apply wl_nil | apply w_block | apply w_region | (apply w_condT; exact rfl) | (apply w_condF; exact rfl) | apply w_skip | apply w_label | apply wd_nil | (apply w_draw; kernel_rfl) | refine dy rfl rfl rfl rfl rfl rfl (m_ldl rfl rfl) ?_ | (apply dw; (iterate 3 exact rfl); decide +kernel; (iterate 3 exact rfl); exact m_ldl rfl rfl) | (apply wi; iterate 6 exact rfl) | (apply wu; iterate 6 exact rfl) | (apply wi0; iterate 4 exact rfl) | (apply di; iterate 6 exact rfl) | (apply du; iterate 6 exact rfl) | (apply wwg; (iterate 7 exact rfl); exact m_ldl rfl rfl) | refine dyg rfl rfl rfl rfl rfl rfl rfl rfl (m_ldl rfl rfl) ?_ | (apply dwg; (iterate 5 exact rfl); decide +kernel; (iterate 3 exact rfl); exact m_ldl rfl rfl))
  refine w_cutS [(15, .p (some (b15, 0))), (13, .p (some (b13, 0))), (11, .i .i64 (intV i2 : Nat)), (9, .i .i64 (intV i1 : Nat)), (7, .i .i64 (intV i0 : Nat)), (4, .p (some (b4, 0))), (2, .p (some (b2, 0)))] [(some b15, cellsO ((hshB i4).map byV) 23), (some b13, cellsO ((hshB i3).map byV) 23), (some b4, cellsO [.b (isL t), .sl A1 (itB t).length c1 o1, .sl (some (ba, oa)) (itL t).length c o] 95), (some b2, cellsO zRC 26)] ((intS i0).isSome = true ∧ (intS i1).isSome = true ∧ (intS i2).isSome = true ∧ (itB i3).length = 32 ∧ (itB i4).length = 32) ?_ fun hK => ?_
  ·by_cases k0 : (intS i0).isSome = true
   rotate_left
   ·have e0 : intE i0 = 52 := if_neg k0
    rw [e0, hrI, if_neg (fun h => k0 h.1)]
    refine wo ?_
    apply wm; iterate 5 exact rfl
    refine mv_int (v := .b true) rfl rfl (vi_neqT (by omega))
    refine wo ?_
    apply wn; iterate 5 exact rfl
    refine p_buildS (C := zRC) .nil rfl
    apply p_do; exact (vwant_n rfl); exact rfl; exact rfl
    refine e_stn (C' := zRC) rfl rfl (by simp [recC]) rfl (Nat.le_of_ble_eq_true rfl) rfl ⟨_, rfl, ?_⟩
    refine wo ?_
    exact w_ret (wend_ret (vres2 (rv_cell rfl rfl) (rv_tmp rfl)) ⟨[], cle, _, rfl, rfl⟩)
   have e0 : intE i0 = 0 := if_pos k0
   rw [e0]
   by_cases k1 : (intS i1).isSome = true
   rotate_left
   ·have e1 : intE i1 = 52 := if_neg k1
    rw [e1, hrI, if_neg (fun h => k1 h.2.1)]
    refine wo ?_
    apply wm; iterate 5 exact rfl
    refine mv_int (v := .b false) rfl rfl (vi_neqF (by omega))
    refine wo ?_
    apply wmg; iterate 7 exact rfl
    refine mv_int (v := .b true) rfl rfl (vi_neqT (by omega))
    refine wo ?_
    apply wn; iterate 5 exact rfl
    refine p_buildS (C := zRC) .nil rfl
    apply p_do; exact (vwant_n rfl); exact rfl; exact rfl
    refine e_stn (C' := zRC) rfl rfl (by simp [recC]) rfl (Nat.le_of_ble_eq_true rfl) rfl ⟨_, rfl, ?_⟩
    refine wo ?_
    exact w_ret (wend_ret (vres2 (rv_cell rfl rfl) (rv_tmp rfl)) ⟨[], cle, _, rfl, rfl⟩)
   have e1 : intE i1 = 0 := if_pos k1
   rw [e1]
   by_cases k2 : (intS i2).isSome = true
   rotate_left
   ·have e2 : intE i2 = 52 := if_neg k2
    rw [e2, hrI, if_neg (fun h => k2 h.2.2.1)]
    refine wo ?_
    apply wm; iterate 5 exact rfl
    refine mv_int (v := .b false) rfl rfl (vi_neqF (by omega))
    refine wo ?_
    apply wmg; iterate 7 exact rfl
    refine mv_int (v := .b false) rfl rfl (vi_neqF (by omega))
    refine wo ?_
    apply wmg; iterate 7 exact rfl
    refine mv_int (v := .b true) rfl rfl (vi_neqT (by omega))
    refine wo ?_
    apply wn; iterate 5 exact rfl
    refine p_buildS (C := zRC) .nil rfl
    apply p_do; exact (vwant_n rfl); exact rfl; exact rfl
    refine e_stn (C' := zRC) rfl rfl (by simp [recC]) rfl (Nat.le_of_ble_eq_true rfl) rfl ⟨_, rfl, ?_⟩
    refine wo ?_
    exact w_ret (wend_ret (vres2 (rv_cell rfl rfl) (rv_tmp rfl)) ⟨[], cle, _, rfl, rfl⟩)
   have e2 : intE i2 = 0 := if_pos k2
   rw [e2]
   by_cases k3 : (itB i3).length = 32
   rotate_left
   ·rw [decide_eq_false k3, hrI, if_neg (fun h => k3 h.2.2.2.1)]
    refine wo ?_
    apply wm; iterate 5 exact rfl
    refine mv_int (v := .b false) rfl rfl (vi_neqF (by omega))
    refine wo ?_
    apply wmg; iterate 7 exact rfl
    refine mv_int (v := .b false) rfl rfl (vi_neqF (by omega))
    refine wo ?_
    apply wmg; iterate 7 exact rfl
    refine mv_int (v := .b false) rfl rfl (vi_neqF (by omega))
    refine wo ?_
    apply wn; iterate 5 exact rfl
    refine p_buildS (C := zRC) .nil rfl
    apply p_do; exact (vwant_n rfl); exact rfl; exact rfl
    refine e_stn (C' := zRC) rfl rfl (by simp [recC]) rfl (Nat.le_of_ble_eq_true rfl) rfl ⟨_, rfl, ?_⟩
    refine wo ?_
    exact w_ret (wend_ret (vres2 (rv_cell rfl rfl) (rv_tmp rfl)) ⟨[], cle, _, rfl, rfl⟩)
   rw [decide_eq_true k3]
   by_cases k4 : (itB i4).length = 32
   rotate_left
   ·rw [decide_eq_false k4, hrI, if_neg (fun h => k4 h.2.2.2.2)]
    refine wo ?_
    apply wm; iterate 5 exact rfl
    refine mv_int (v := .b false) rfl rfl (vi_neqF (by omega))
    refine wo ?_
    apply wmg; iterate 7 exact rfl
    refine mv_int (v := .b false) rfl rfl (vi_neqF (by omega))
    refine wo ?_
    apply wmg; iterate 7 exact rfl
    refine mv_int (v := .b false) rfl rfl (vi_neqF (by omega))
    refine wo ?_
    apply wn; iterate 5 exact rfl
    refine p_buildS (C := zRC) .nil rfl
    apply p_do; exact (vwant_n rfl); exact rfl; exact rfl
    refine e_stn (C' := zRC) rfl rfl (by simp [recC]) rfl (Nat.le_of_ble_eq_true rfl) rfl ⟨_, rfl, ?_⟩
    refine wo ?_
    exact w_ret (wend_ret (vres2 (rv_cell rfl rfl) (rv_tmp rfl)) ⟨[], cle, _, rfl, rfl⟩)
   rw [decide_eq_true k4]
   refine wo ?_
   apply wm; iterate 5 exact rfl
   refine mv_int (v := .b false) rfl rfl (vi_neqF (by omega))
   refine wo ?_
   apply wmg; iterate 7 exact rfl
   refine mv_int (v := .b false) rfl rfl (vi_neqF (by omega))
   refine wo ?_
   apply wmg; iterate 7 exact rfl
   refine mv_int (v := .b false) rfl rfl (vi_neqF (by omega))
   refine wo ?_
   exact ⟨⟨k0, k1, k2, k3, k4⟩, rfl, ⟨rfl, rfl, rfl, rfl, rfl, rfl, rfl, trivial⟩, fun hp h => h⟩
  rw [if_pos hK] at hrI
  have s3 : hshB i3 = itB i3 := if_pos hK.2.2.2.1
  have s4 : hshB i4 = itB i4 := if_pos hK.2.2.2.2
  rw [s3] at q3 n3
  rw [s4] at q4 n4
  rw [s3, s4, hrI]
  obtain ⟨rc, hrc⟩ : ∃ rc : List Chg → Rec, rc = fun l => ⟨(intV i0 : Nat), (intV i1 : Nat), (intV i2 : Nat), itB i3, itB i4, l⟩ := ⟨_, rfl⟩
  have hrk : ∀ l s, recC (rc l) s = .i .i64 (intV i0 : Nat) :: .i .i64 (intV i1 : Nat) :: .i .i64 (intV i2 : Nat) :: ((itB i3).map byV ++ ((itB i4).map byV ++ [s])) := fun l s => by rw [hrc]; rfl
  have hrp : ∀ l, (rc l).prev.length = 32 ∧ (rc l).root.length = 32 := fun l => by rw [hrc]; exact ⟨hK.2.2.2.1, hK.2.2.2.2⟩
  have hr68 : ∀ s, (recC (rc []) s).length = 68 := fun s => by rw [hrk]; simp [hK.2.2.2.1, hK.2.2.2.2]
  have hrne : ∀ s, recC (rc []) s ≠ [] := fun s e => by rw [hrk] at e; simp at e
  have hrOk : RecOk (rc []) := ⟨(hrp _).1, (hrp _).2, by rw [hrc]; exact Nat.zero_le _, fun c hc => by rw [hrc] at hc; simp at hc⟩
  have hch : ∀ s, (recC (rc []) s)[0 + 67]? = some s := fun s => by rw [Nat.zero_add]; exact recC_ch hrOk
  obtain ⟨A5, c5, o5, A6, c6, o6, vs5, rfl, _, hP5, hvs5⟩ := itP_cells Sn.nil P5
  have hA6 := hB _ _ hP5
  have hx5 := row_get (j := 2) d5 rfl
  refine wo ?_
  refine zX (m_ldln (s := 31) (cs := (itB i3).map byV) rfl (by rw [List.drop_zero]; exact List.take_of_length_le (Nat.le_of_eq q3)) q3) ?_
  refine zX (m_ldln (s := 31) (cs := (itB i4).map byV) rfl (by rw [List.drop_zero]; exact List.take_of_length_le (Nat.le_of_eq q4)) q4) ?_
  apply wn; iterate 5 exact rfl
  refine p_buildS (C := recC (rc []) (.sl none 0 0 false)) (.cons rfl rfl rfl rfl (Nat.le_of_ble_eq_true rfl) (.cons rfl rfl rfl rfl (Nat.le_of_ble_eq_true rfl) (.cons rfl rfl rfl rfl (Nat.le_of_ble_eq_true rfl) (.cons rfl rfl rfl q3 (Nat.le_of_ble_eq_true rfl) (.cons rfl rfl rfl q4 (Nat.le_of_ble_eq_true rfl) .nil))))) ((rec_put q3 q4).trans (hrk _ _).symm)
  apply p_op; exact (vwant_n rfl); iterate 4 exact rfl
  refine e_alloc rfl fun b17 => ⟨_, rfl, ?_⟩
  apply p_do; exact (vwant_n rfl); exact rfl; exact rfl
  refine e_stn (C' := recC (rc []) (.sl none 0 0 false)) rfl rfl (hrne _) (hr68 _) (Nat.le_of_ble_eq_true rfl) (by exact overV_all (hr68 _)) ⟨_, rfl, ?_⟩
  refine wo ?_
  iterate 4 ((try refine w_seq ?_); refine wo ?_)
  apply wn; iterate 5 exact rfl
  refine p_ian (i := 5) rfl rfl (by omega)
  refine wo ?_
  apply wm; iterate 5 exact rfl
  refine m_ldN (j := 5 * 3 + 2) rfl hA.1 hA.2 rfl hx5
  refine wo ?_
  iterate 4 ((try refine w_seq ?_); refine wo ?_)
  refine w_loop (ι := Nat × V × HV × List Chg × List (List V)) (fun s => [(106, .i .i64 (s.1 : Nat)), (105, .i .i64 ((itL i5).length : Nat)), (104, .sl A6 (itL i5).length c6 o6), (17, .p (some (b17, 0))), (2, .p (some (b2, 0)))]) (fun s => (some b17, cellsO (recC (rc []) s.2.1) 26) :: (some b2, cellsO zRC 26) :: s.2.2.1) (fun s => s.1 ≤ (itL i5).length ∧ chS ((itL i5).take s.1) = some s.2.2.2.1 ∧ s.2.2.2.1.length = s.1 ∧ RowG 87 3 s.1 s.2.2.2.2.flatten s.2.1 s.2.2.1 ∧ ChgXs N s.2.2.2.1 s.2.2.2.2) (fun s => (itL i5).length - s.1) (0, .sl none 0 0 false, [], [], []) ⟨Nat.zero_le _, rfl, rfl, .nil, rfl⟩ ⟨rfl, rfl, rfl, rfl, rfl, trivial⟩ (fun hp h => h.le) ?_
  intro ⟨i, w, N3, acc, us⟩ ⟨hi, hacc, hal, hw, hus⟩
  dsimp only at hi hacc hal hw hus ⊢
  obtain ⟨Aw, ow, rfl⟩ := hw.sl
  have hwl := wt_itL t
  have hwm : wt i5 ≤ wts (itL t) := wts_mem (by rw [hl]; simp)
  have hw5 := wt_itL i5
  have hw6 := wts_len (itL i5)
  refine wo ?_
  by_cases g : i < (itL i5).length
  ·apply wm; iterate 5 exact rfl
   refine mv_int (v := .b true) rfl rfl (vi_lssT (by omega))
   refine wo ?_
   obtain ⟨vi, di, li, Pi⟩ := itPs_row (i := i) hvs5 (List.getElem?_eq_getElem g)
   have hmem : (itL i5)[i] ∈ itL i5 := List.getElem_mem g
   have hnx : (itL i5).take (i + 1) = (itL i5).take i ++ [(itL i5)[i]] := List.take_succ_eq_append_getElem g
   generalize (itL i5)[i] = x at *
   obtain ⟨b6, o6', rfl⟩ := rb_some3 hA6 di li
   obtain ⟨A7, c7, o7, A8, c8, o8, vs8, rfl, _, hP8, hvs8⟩ := itP_cells Sn.nil Pi
   have hA8 := hB _ _ hP8
   apply wn; iterate 5 exact rfl
   refine p_ian rfl rfl g
   apply wm; iterate 5 exact rfl
   refine m_ldnN (j := i * 3) (s := 2) rfl hA6.1 hA6.2 rfl di li
   apply p_op; exact (vwant_n rfl); iterate 4 exact rfl
   refine e_alloc rfl fun b19 => ⟨_, rfl, ?_⟩
   apply p_do; exact (vwant_n rfl); exact rfl; exact rfl
   refine e_stn (C' := [.b (isL x), .sl A7 (itB x).length c7 o7, .sl A8 (itL x).length c8 o8]) rfl rfl (by simp) rfl (Nat.le_of_ble_eq_true rfl) rfl ⟨_, rfl, ?_⟩
   refine wo ?_
   by_cases m1 : (itL x).length = 1
   ·obtain ⟨k, hk⟩ : ∃ k, itL x = [k] := List.length_eq_one_iff.1 m1
    have hc1 : chg1 x = some ⟨itB k, [], true⟩ := by unfold chg1; rw [hk]
    obtain ⟨vk, dk, lk, Pk⟩ := itPs_row (i := 0) (t := k) hvs8 (by rw [hk]; rfl)
    obtain ⟨b8, o8', rfl⟩ := rb_some3 hA8 dk lk
    obtain ⟨Ak, ck, ok, _, _, _, _, rfl, hPk, _, _⟩ := itP_cells Sn.nil Pk
    have hxk := row_get (j := 1) dk rfl
    apply wm; iterate 5 exact rfl
    refine mv_int (v := .b true) rfl rfl (vi_eqlT (by omega))
    refine wo ?_
    refine yX (m_ldl rfl (hch _)) ?_
    refine wo ?_
    apply dn; iterate 5 exact rfl
    refine p_ian (i := 0) rfl rfl (by omega)
    refine wo ?_
    apply dm; iterate 6 exact rfl
    refine m_ldN (j := 0 * 3 + 1) rfl hA8.1 hA8.2 rfl hxk
    apply dn; iterate 5 exact rfl
    refine p_buildS (C := [.sl Ak (itB k).length ck ok, .sl none 0 0 false, .b true]) (.cons rfl rfl rfl rfl (Nat.le_of_ble_eq_true rfl) (.cons rfl rfl rfl rfl (Nat.le_of_ble_eq_true rfl) .nil)) rfl
    apply d_op; exact (vwant_n rfl); exact rfl; exact noRd rfl; decide +kernel; (iterate 3 exact rfl); rotate_left
    refine e_bsn (C := [.sl Ak (itB k).length ck ok, .sl none 0 0 false, .b true]) (n := 1) (sz := 3) rfl rfl (by decide) (.cons rfl rfl rfl .nil) rfl rfl fun b1 => ⟨_, rfl, ?_⟩
    try (case hok => exact rdOk_nil)
    apply d_op; exact (vwant_n rfl); exact rfl; exact noRd rfl; decide +kernel; (iterate 3 exact rfl); rotate_left
    refine e_appN (n := 1) hw rfl rfl (rz_loc (k := 3) rfl) rfl (by decide) (by omega) fun A3 o3 N4 hw3 => ⟨_, rfl, ?_⟩
    try (case hok => exact rdOk_b (by decide +kernel))
    refine wo ?_
    apply d_do; exact (vwant_n rfl); exact rfl; exact noRd rfl; decide +kernel; exact rfl; rotate_left
    refine e_st (C' := recC (rc []) (.sl A3 (i + 1) (i + 1) o3)) rfl rfl rfl (by rw [hr68]; decide) (recC_set hrOk) ⟨_, rfl, ?_⟩
    try (case hok => exact rdOk_b (by decide +kernel))
    refine wo ?_
    exact ⟨rfl, (i + 1, .sl A3 (i + 1) (i + 1) o3, N4, acc ++ [⟨itB k, [], true⟩], us ++ [[.sl Ak (itB k).length ck ok, .sl none 0 0 false, .b true]]), ⟨g, by rw [hnx]; exact chS_snoc hacc hc1, by simp [hal], by rw [flat_snoc]; exact hw3, chgXs_snoc ⟨_, _, _, _, _, _, rfl, hPk, Sn.nil⟩ hus⟩, by dsimp only; omega, ⟨rfl, rfl, rfl, rfl, rfl, trivial⟩, fun hp h => h.le⟩
   apply wm; iterate 5 exact rfl
   refine mv_int (v := .b false) rfl rfl (vi_eqlF (by omega))
   refine wo ?_
   by_cases m2 : (itL x).length = 2
   ·obtain ⟨k, k', hk⟩ : ∃ k k', itL x = [k, k'] := by
     match itL x, m2 with
     | [k, k'], _ => exact ⟨k, k', rfl⟩
    have hc1 : chg1 x = some ⟨itB k, itB k', false⟩ := by unfold chg1; rw [hk]
    obtain ⟨vk, dk, lk, Pk⟩ := itPs_row (i := 0) (t := k) hvs8 (by rw [hk]; rfl)
    obtain ⟨vk', dk', lk', Pk'⟩ := itPs_row (i := 1) (t := k') hvs8 (by rw [hk]; rfl)
    obtain ⟨b8, o8', rfl⟩ := rb_some3 hA8 dk lk
    obtain ⟨Ak, ck, ok, _, _, _, _, rfl, hPk, _, _⟩ := itP_cells Sn.nil Pk
    obtain ⟨Ak', ck', ok', _, _, _, _, rfl, hPk', _, _⟩ := itP_cells Sn.nil Pk'
    have hxk := row_get (j := 1) dk rfl
    have hxk' := row_get (j := 1) dk' rfl
    apply wm; iterate 5 exact rfl
    refine mv_int (v := .b true) rfl rfl (vi_eqlT (by omega))
    refine wo ?_
    refine yX (m_ldl rfl (hch _)) ?_
    refine wo ?_
    apply dn; iterate 5 exact rfl
    refine p_ian (i := 0) rfl rfl (by omega)
    refine wo ?_
    apply dm; iterate 6 exact rfl
    refine m_ldN (j := 0 * 3 + 1) rfl hA8.1 hA8.2 rfl hxk
    refine wo ?_
    apply dn; iterate 5 exact rfl
    refine p_ian (i := 1) rfl rfl (by omega)
    refine wo ?_
    apply dm; iterate 6 exact rfl
    refine m_ldN (j := 1 * 3 + 1) rfl hA8.1 hA8.2 rfl hxk'
    apply dn; iterate 5 exact rfl
    refine p_buildS (C := [.sl Ak (itB k).length ck ok, .sl Ak' (itB k').length ck' ok', .b false]) (.cons rfl rfl rfl rfl (Nat.le_of_ble_eq_true rfl) (.cons rfl rfl rfl rfl (Nat.le_of_ble_eq_true rfl) .nil)) rfl
    apply d_op; exact (vwant_n rfl); exact rfl; exact noRd rfl; decide +kernel; (iterate 3 exact rfl); rotate_left
    refine e_bsn (C := [.sl Ak (itB k).length ck ok, .sl Ak' (itB k').length ck' ok', .b false]) (n := 1) (sz := 3) rfl rfl (by decide) (.cons rfl rfl rfl .nil) rfl rfl fun b1 => ⟨_, rfl, ?_⟩
    try (case hok => exact rdOk_nil)
    apply d_op; exact (vwant_n rfl); exact rfl; exact noRd rfl; decide +kernel; (iterate 3 exact rfl); rotate_left
    refine e_appN (n := 1) hw rfl rfl (rz_loc (k := 3) rfl) rfl (by decide) (by omega) fun A3 o3 N4 hw3 => ⟨_, rfl, ?_⟩
    try (case hok => exact rdOk_b (by decide +kernel))
    refine wo ?_
    apply d_do; exact (vwant_n rfl); exact rfl; exact noRd rfl; decide +kernel; exact rfl; rotate_left
    refine e_st (C' := recC (rc []) (.sl A3 (i + 1) (i + 1) o3)) rfl rfl rfl (by rw [hr68]; decide) (recC_set hrOk) ⟨_, rfl, ?_⟩
    try (case hok => exact rdOk_b (by decide +kernel))
    refine wo ?_
    exact ⟨rfl, (i + 1, .sl A3 (i + 1) (i + 1) o3, N4, acc ++ [⟨itB k, itB k', false⟩], us ++ [[.sl Ak (itB k).length ck ok, .sl Ak' (itB k').length ck' ok', .b false]]), ⟨g, by rw [hnx]; exact chS_snoc hacc hc1, by simp [hal], by rw [flat_snoc]; exact hw3, chgXs_snoc ⟨_, _, _, _, _, _, rfl, hPk, hPk'⟩ hus⟩, by dsimp only; omega, ⟨rfl, rfl, rfl, rfl, rfl, trivial⟩, fun hp h => h.le⟩
   have hno : chS (itL i5) = none := chS_none hmem (by
    unfold chg1
    split
    ·rename_i hk; rw [hk] at m1; exact absurd rfl m1
    ·rename_i hk; rw [hk] at m2; exact absurd rfl m2
    ·rfl)
   rw [hno]
   apply wm; iterate 5 exact rfl
   refine mv_int (v := .b false) rfl rfl (vi_eqlF (by omega))
   refine wo ?_
   apply wn; iterate 5 exact rfl
   refine p_buildS (C := zRC) .nil rfl
   apply p_do; exact (vwant_n rfl); exact rfl; exact rfl
   refine e_stn (C' := zRC) rfl rfl (by simp [recC]) rfl (Nat.le_of_ble_eq_true rfl) rfl ⟨_, rfl, ?_⟩
   refine wo ?_
   exact w_ret (wend_ret (vres2 (rv_cell rfl rfl) (rv_tmp rfl)) ⟨[], cle, _, rfl, rfl⟩)
  apply wm; iterate 5 exact rfl
  refine mv_int (v := .b false) rfl rfl (vi_lssF (by omega))
  refine wo ?_
  refine w_exit ?_
  obtain rfl : i = (itL i5).length := by omega
  rw [List.take_length] at hacc
  rw [hacc] at hrI ⊢
  have hfin := recI_ok hwt hrI
  refine wo ?_
  refine zX (m_ldln (s := 67) (cs := recC (rc []) (.sl Aw (itL i5).length (itL i5).length ow)) rfl (by rw [List.drop_zero]; exact List.take_of_length_le (Nat.le_of_eq (hr68 _))) (hr68 _)) ?_
  apply p_do; exact (vwant_n rfl); exact rfl; exact rfl
  refine e_stn (C' := recC (rc []) (.sl Aw (itL i5).length (itL i5).length ow)) rfl rfl (hrne _) (hr68 _) (Nat.le_of_ble_eq_true rfl) (by exact overV_all (hr68 _)) ⟨_, rfl, ?_⟩
  refine wo ?_
  refine w_ret (wend_ret (vres2 (rv_cell rfl (hr68 _)) (rv_tmp rfl)) ⟨N3 ++ N, cle, _, rfl, _, rfl, hfin, Aw, (itL i5).length, ow, us, ?_, hw.sn (fun p hp => List.mem_append_left _ hp), chgXs_mono (fun p hp => List.mem_append_right _ hp) hus⟩)
  rw [hrk, hal]
  rfl
/- Dr8: a payload read. By this project. -/
set_option maxHeartbeats 4000000 in
theorem bequal_d {A A' : Option (Nat × Nat)} {xs ys : List UInt8} {c c' : Nat} {o o' : Bool} {hp : Hp} (ho : OkH hp) (hA : RB ⟨hp, []⟩ A (xs.map byV)) (hA' : RB ⟨hp, []⟩ A' (ys.map byV)) :
  Fn kxD 52 [.sl A xs.length c o, .sl A' ys.length c' o'] hp [] fun r _ => r = .v (.b (decide (xs = ys))) := by
 refine fn_of_w (T := []) ho.sv (fun _ => rfl) (fn := Tryz.f52) (by kernel_rfl) rfl rfl ?_
 refine wo ?_
 apply wm; iterate 5 exact rfl
 refine m_b2so rfl hA.1 hA.2
 refine wo ?_
 apply wm; iterate 5 exact rfl
 refine m_b2so rfl hA'.1 hA'.2
 apply wm; iterate 5 exact rfl
 refine m_eqs rfl rfl
 refine wo ?_
 exact w_ret (wend_ret (vres1 (rv_tmp rfl)) (by by_cases h : xs = ys <;> simp [h]))
def jrdS (cb : Nat) (sec p : List UInt8) : Except Nat (Rec × List UInt8 × List UInt8) :=
 if p.length < 32 then .error 190
 else match recS (p.take (p.length - 32)) with
  | none => .error 190
  | some r => if ¬ mayR r ∨ bodyB r ≠ p.take (p.length - 32) then .error 190
   else if cutB cb (macB sec (p.take (p.length - 32))) ≠ p.drop (p.length - 32) then .error 191
   else .ok (r, p.take (p.length - 32), p.drop (p.length - 32))
abbrev zH : List UInt8 := List.replicate 32 0
set_option maxHeartbeats 32000000 in
theorem jread_d {B : Bk} {b bits cb : Nat} {sec : List UInt8} {ha ca : List (List UInt8)} {fs : List (List UInt8 × List UInt8)} {p : List UInt8} {A : Option (Nat × Nat)} {c : Nat} {o : Bool} {hp : Hp} (hB : BkSt B b bits cb sec ha ca fs) (h0 : SV ⟨hp, hnds (bkL B)⟩ hp (bkL B)) (hk : Tab ⟨hp, hnds (bkL B)⟩) (hkk : KTab ⟨hp, hnds (bkL B)⟩) (hA : RB ⟨hp, hnds (bkL B)⟩ A (p.map byV)) (hc : p.length ≤ c) (hpl : p.length ≤ 140737488355328) :
  Fn kxD 19 [.p (some (b, 0)), .sl A p.length c o] hp (hnds (bkL B)) fun r' N => ∃ u, r' = .v u ∧ match jrdS cb sec p with
   | .error e => u = .tup [.agg zRC, hK zH, .i .i64 (e : Nat)] ∧ ∃ B', BkSt B' b bits cb sec ha ca fs ∧ N = bkL B'
   | .ok (r, body, code) => ∃ w X B', u = .tup [.agg w, hK code, .i .i64 0] ∧ RecX X r w ∧ BkSt B' b bits cb sec ha ca (if body ∉ ca then addF fs (body, code) else fs) ∧ N = X ++ bkL B' := by
 refine Fn.dropC ?_
 unfold jrdS
 refine fn_of_w h0 (fun _ => rfl) (fn := Tryz.f19) (by kernel_rfl) rfl rfl ?_
 refine wo ?_
 apply p_op; exact (vwant_n rfl); iterate 4 exact rfl
 refine e_alloc rfl fun b4 => ⟨_, rfl, ?_⟩
 apply p_op; exact (vwant_n rfl); iterate 4 exact rfl
 refine e_alloc rfl fun b5 => ⟨_, rfl, ?_⟩
 refine wo ?_
 apply wm; iterate 5 exact rfl
 refine m_eqp rfl rfl
 refine wo ?_
 by_cases g : p.length < 32
 ·rw [if_pos g]
  apply wm; iterate 5 exact rfl
  refine mv_int (v := .b true) rfl rfl (vi_lssT (by omega))
  refine wo ?_
  apply wn; iterate 5 exact rfl
  refine p_buildS (C := zRC) .nil rfl
  apply wn; iterate 5 exact rfl
  refine p_buildA0
  apply p_do; exact (vwant_n rfl); exact rfl; exact rfl
  refine e_stn (C' := zRC) rfl rfl (by simp [recC]) rfl (Nat.le_of_ble_eq_true rfl) rfl ⟨_, rfl, ?_⟩
  apply p_do; exact (vwant_n rfl); exact rfl; exact rfl
  refine e_stn (C' := zH.map byV) rfl rfl (by simp) rfl (Nat.le_of_ble_eq_true rfl) rfl ⟨_, rfl, ?_⟩
  refine wo ?_
  exact w_ret (wend_ret (vres3 (rv_cell rfl rfl) (rv_cell rfl rfl) (rv_tmp rfl)) ⟨bkL B, cle, _, rfl, rfl, B, hB, rfl⟩)
 rw [if_neg g]
 obtain ⟨ba, oa, rfl⟩ := rb_spot hA (by omega)
 obtain ⟨body, hbody⟩ : ∃ body, body = p.take (p.length - 32) := ⟨_, rfl⟩
 obtain ⟨code, hcode⟩ : ∃ code, code = p.drop (p.length - 32) := ⟨_, rfl⟩
 rw [← hbody, ← hcode]
 have hbl : p.length - 32 = body.length := by rw [hbody, List.length_take]; omega
 have hcl : code.length = 32 := by rw [hcode, List.length_drop]; omega
 have hcl' : (code.map byV).length = 32 := by rw [List.length_map, hcl]
 have hcn : code.map byV ≠ [] := fun e => by rw [e] at hcl'; simp at hcl'
 have hAb : RB ⟨hp, hnds (bkL B)⟩ (some (ba, oa)) (body.map byV) := by
  have := hA.take (p.length - 32)
  rwa [← List.map_take, ← hbody] at this
 have hAc : ((p.map byV).drop body.length).take 32 = code.map byV := by
  rw [← List.map_drop, ← List.map_take, ← hbl, ← hcode, List.take_of_length_le (Nat.le_of_eq hcl)]
 apply wm; iterate 5 exact rfl
 refine mv_int (v := .b false) rfl rfl (vi_lssF (by omega))
 refine wo ?_
 rw [hbl]
 refine zX (m_slD (i := 0) (j := body.length) rfl bl_none (bl_some rfl) (Nat.zero_le _) (by omega) (by omega)) ?_
 rw [Nat.add_zero, Nat.sub_zero, Nat.sub_zero]
 apply p_callY []; exact (vwant_n rfl); iterate 4 exact rfl
 case hC => exact (fun hp' hs ht => clone_g hs.ok rfl (.inl (hAb.give0 hs)) (by omega))
 rintro u N ⟨bb, o1, oo, rfl, rfl⟩
 refine wo ?_
 rw [hbl]
 refine zX (m_slD (i := body.length) (j := p.length) rfl (bl_some rfl) bl_none (by omega) hc (by omega)) ?_
 apply wn; iterate 5 exact rfl
 refine pv_s2a rfl rfl (by omega) (by decide)
 apply wm; iterate 5 exact rfl
 refine m_ldnN (j := body.length) (s := 31) (vs := code.map byV) rfl hA.1 hA.2 rfl hAc hcl'
 apply p_op; exact (vwant_n rfl); iterate 4 exact rfl
 refine e_alloc rfl fun b8 => ⟨_, rfl, ?_⟩
 apply p_do; exact (vwant_n rfl); exact rfl; exact rfl
 refine e_stn (C' := code.map byV) rfl rfl hcn hcl' (Nat.le_of_ble_eq_true rfl) (by exact overV_all hcl') ⟨_, rfl, ?_⟩
 refine wo ?_
 cases hS : recS body with
 | none =>
  dsimp only
  have hC : ∀ {L : HV} {hp' : Hp}, SV ⟨hp, hnds (bkL B)⟩ hp' L → RB ⟨hp', []⟩ (some (bb, 0)) (body.map byV) → Fn kxD 51 [.sl (some (bb, 0)) body.length body.length o1] hp' [] fun r N => ∃ u, r = .v u ∧ u = .tup [.agg zRC, .b false] := fun hs hb => by
   have := recof_d (o0 := o1) hs.ok hb (Nat.le_refl body.length)
   rw [hS] at this
   exact this
  apply p_callY []; exact (vwant_n rfl); iterate 4 exact rfl
  case hC => exact (fun hp' hs ht => hC hs (rb_at0 hs (take_all _)))
  rintro u N rfl
  refine wo ?_
  apply p_op; exact (vwant_n rfl); iterate 4 exact rfl
  refine e_alloc rfl fun b9 => ⟨_, rfl, ?_⟩
  apply p_do; exact (vwant_n rfl); exact rfl; exact rfl
  refine e_stn (C' := zRC) rfl rfl (by simp [recC]) rfl (Nat.le_of_ble_eq_true rfl) rfl ⟨_, rfl, ?_⟩
  refine wo ?_
  apply wn; iterate 5 exact rfl
  refine p_buildS (C := zRC) .nil rfl
  apply wn; iterate 5 exact rfl
  refine p_buildA0
  apply p_do; exact (vwant_n rfl); exact rfl; exact rfl
  refine e_stn (C' := zRC) rfl rfl (by simp [recC]) rfl (Nat.le_of_ble_eq_true rfl) rfl ⟨_, rfl, ?_⟩
  apply p_do; exact (vwant_n rfl); exact rfl; exact rfl
  refine e_stn (C' := zH.map byV) rfl rfl (by simp) rfl (Nat.le_of_ble_eq_true rfl) rfl ⟨_, rfl, ?_⟩
  refine wo ?_
  exact w_ret (wend_ret (vres3 (rv_cell rfl rfl) (rv_cell rfl rfl) (rv_tmp rfl)) ⟨bkL B, cle, _, rfl, rfl, B, hB, rfl⟩)
 | some r =>
  dsimp only
  have hC : ∀ {L : HV} {hp' : Hp}, SV ⟨hp, hnds (bkL B)⟩ hp' L → RB ⟨hp', []⟩ (some (bb, 0)) (body.map byV) → Fn kxD 51 [.sl (some (bb, 0)) body.length body.length o1] hp' [] fun r' N => ∃ u, r' = .v u ∧ ∃ w, u = .tup [.agg w, .b true] ∧ RecX N r w := fun hs hb => by
   have := recof_d (o0 := o1) hs.ok hb (Nat.le_refl body.length)
   rw [hS] at this
   exact this
  apply p_callY []; exact (vwant_n rfl); iterate 4 exact rfl
  case hC => exact (fun hp' hs ht => hC hs (rb_at0 hs (take_all _)))
  rintro u X ⟨w, rfl, hX⟩
  have hX0 := hX
  obtain ⟨hok, A5, c5, o5, us, rfl, _, _⟩ := hX
  have h68 : (recC r (.sl A5 r.ch.length c5 o5)).length = 68 := recC_len hok
  have hne : recC r (.sl A5 r.ch.length c5 o5) ≠ [] := fun e => by rw [e] at h68; simp at h68
  refine wo ?_
  apply p_op; exact (vwant_n rfl); iterate 4 exact rfl
  refine e_alloc rfl fun b9 => ⟨_, rfl, ?_⟩
  apply p_do; exact (vwant_n rfl); exact rfl; exact rfl
  refine e_stn (C' := recC r (.sl A5 r.ch.length c5 o5)) rfl rfl hne h68 (Nat.le_of_ble_eq_true rfl) (by exact overV_all h68) ⟨_, rfl, ?_⟩
  refine wo ?_
  refine zX (m_ldln (s := 67) (cs := recC r (.sl A5 r.ch.length c5 o5)) rfl (by rw [List.drop_zero]; exact List.take_of_length_le (Nat.le_of_eq h68)) h68) ?_
  apply p_callY []; exact (vwant_n rfl); iterate 4 exact rfl
  case hC => exact (fun hp' hs ht => jbody_d hs.ok (hkk.give0 hs) (hX0.r (Lt := []) hs (fun p hp => by simp [hp])))
  rintro u N2 ⟨hgood, hbad⟩
  by_cases hm : mayR r
  rotate_left
  ·obtain ⟨rfl, rfl⟩ := hbad hm
   rw [if_pos (.inl hm)]
   refine wo ?_
   apply wm; iterate 5 exact rfl
   refine mv_int (v := .b true) rfl rfl (vi_neqT ((by simp)))
   refine wo ?_
   apply wn; iterate 5 exact rfl
   refine p_buildS (C := zRC) .nil rfl
   apply wn; iterate 5 exact rfl
   refine p_buildA0
   apply p_do; exact (vwant_n rfl); exact rfl; exact rfl
   refine e_stn (C' := zRC) rfl rfl (by simp [recC]) rfl (Nat.le_of_ble_eq_true rfl) rfl ⟨_, rfl, ?_⟩
   apply p_do; exact (vwant_n rfl); exact rfl; exact rfl
   refine e_stn (C' := zH.map byV) rfl rfl (by simp) rfl (Nat.le_of_ble_eq_true rfl) rfl ⟨_, rfl, ?_⟩
   refine wo ?_
   exact w_ret (wend_ret (vres3 (rv_cell rfl rfl) (rv_cell rfl rfl) (rv_tmp rfl)) ⟨bkL B, cle, _, rfl, rfl, B, hB, rfl⟩)
  obtain ⟨w2, rfl, hu⟩ := hgood hm
  obtain ⟨A2, o2, rfl⟩ := hu.sl
  refine wo ?_
  apply wm; iterate 5 exact rfl
  refine mv_int (v := .b false) rfl rfl (vi_neqF ((by simp)))
  refine wo ?_
  refine p_callq (vwant_g rfl rfl rfl) rfl rfl rfl rfl (fun hp' hs => bequal_d hs.ok (hu.rb (Lt := []) (Lr := N2 ++ _) hs) (rb_at0 hs (take_all _))) ?_
  by_cases he : bodyB r = body
  rotate_left
  ·rw [decide_eq_false he, if_pos (.inr he)]
   refine wo ?_
   apply wn; iterate 5 exact rfl
   refine p_buildS (C := zRC) .nil rfl
   apply wn; iterate 5 exact rfl
   refine p_buildA0
   apply p_do; exact (vwant_n rfl); exact rfl; exact rfl
   refine e_stn (C' := zRC) rfl rfl (by simp [recC]) rfl (Nat.le_of_ble_eq_true rfl) rfl ⟨_, rfl, ?_⟩
   apply p_do; exact (vwant_n rfl); exact rfl; exact rfl
   refine e_stn (C' := zH.map byV) rfl rfl (by simp) rfl (Nat.le_of_ble_eq_true rfl) rfl ⟨_, rfl, ?_⟩
   refine wo ?_
   exact w_ret (wend_ret (vres3 (rv_cell rfl rfl) (rv_cell rfl rfl) (rv_tmp rfl)) ⟨bkL B, cle, _, rfl, rfl, B, hB, rfl⟩)
  rw [decide_eq_true he, if_neg (fun h => h.elim (fun h => h hm) (fun h => h he))]
  refine wo ?_
  refine zX (m_ldln (s := 31) (cs := code.map byV) rfl (by rw [List.drop_zero]; exact List.take_of_length_le (Nat.le_of_eq hcl')) hcl') ?_
  apply p_callM (bkL B); exact (vwant_n rfl); iterate 4 exact rfl
  case hC => exact (fun hp' hs ht => accept_gs hB ht (hk.give hs) (rb_at hs (take_all _)) ⟨Nat.le_refl _, fun _ => Nat.le_refl _⟩ (by omega) hcl)
  rintro u N3 ⟨rfl, B', hB', rfl⟩
  by_cases hq : cutB cb (macB sec body) = code
  rotate_left
  ·rw [decide_eq_false hq, if_pos hq]
   rw [if_neg (fun h => hq h.1)] at hB'
   refine wo ?_
   apply wn; iterate 5 exact rfl
   refine p_buildS (C := zRC) .nil rfl
   apply wn; iterate 5 exact rfl
   refine p_buildA0
   apply p_do; exact (vwant_n rfl); exact rfl; exact rfl
   refine e_stn (C' := zRC) rfl rfl (by simp [recC]) rfl (Nat.le_of_ble_eq_true rfl) rfl ⟨_, rfl, ?_⟩
   apply p_do; exact (vwant_n rfl); exact rfl; exact rfl
   refine e_stn (C' := zH.map byV) rfl rfl (by simp) rfl (Nat.le_of_ble_eq_true rfl) rfl ⟨_, rfl, ?_⟩
   refine wo ?_
   exact w_ret (wend_ret (vres3 (rv_cell rfl rfl) (rv_cell rfl rfl) (rv_tmp rfl)) ⟨bkL B', cle, _, rfl, rfl, B', hB', rfl⟩)
  rw [decide_eq_true hq, if_neg (fun h => h hq)]
  have hif : (if cutB cb (macB sec body) = code ∧ body ∉ ca then addF fs (body, code) else fs) = (if body ∉ ca then addF fs (body, code) else fs) := by
   by_cases h : body ∈ ca
   ·rw [if_neg (fun k => k.2 h), if_neg (fun k => k h)]
   ·rw [if_pos ⟨hq, h⟩, if_pos h]
  rw [hif] at hB'
  refine wl_know (fun hp hs => (⟨nin1 (b := b9) (b' := b4) hs (by omega), nin1 (b := b9) (b' := b5) hs (by omega), nin1 (b := b8) (b' := b4) hs (by omega), nin1 (b := b8) (b' := b5) hs (by omega)⟩ : NotIn b9 [b4] ∧ NotIn b9 [b5] ∧ NotIn b8 [b4] ∧ NotIn b8 [b5])) fun ⟨n1, n2, n3, n4⟩ => ?_
  refine wo ?_
  refine yX (m_ldln (s := 67) (cs := recC r (.sl A5 r.ch.length c5 o5)) rfl (by rw [List.drop_zero]; exact List.take_of_length_le (Nat.le_of_eq h68)) h68) ?_
  refine yX (m_ldln (s := 31) (cs := code.map byV) rfl (by rw [List.drop_zero]; exact List.take_of_length_le (Nat.le_of_eq hcl')) hcl') ?_
  apply d_do; exact (vwant_n rfl); exact rfl; exact noRd rfl; decide +kernel; exact rfl; rotate_left
  refine e_stn (C' := recC r (.sl A5 r.ch.length c5 o5)) rfl rfl hne h68 (Nat.le_of_ble_eq_true rfl) (by exact overV_all h68) ⟨_, rfl, ?_⟩
  try (case hok => exact rdOk_c)
  apply d_do; exact (vwant_n rfl); exact rfl; exact noRd rfl; decide +kernel; exact rfl; rotate_left
  refine e_stn (C' := code.map byV) rfl rfl hcn hcl' (Nat.le_of_ble_eq_true rfl) (by exact overV_all hcl') ⟨_, rfl, ?_⟩
  try (case hok => exact rdOk_b (by decide +kernel))
  refine wo ?_
  exact w_ret (wend_ret (vres3 (rv_cell rfl h68) (rv_cell rfl hcl') (rv_tmp rfl)) ⟨X ++ bkL B', cle, _, rfl, _, X, B', rfl, hX0, hB', rfl⟩)
/- Jt1: a record that may be, made of any one. By this project. -/
def madeC (c : Chg) : Chg := ⟨c.key.take 32, c.val.take 256, decide (c.val.length = 0)⟩
def madeR (r : Rec) (n : Nat) : Rec := ⟨2, (n : Nat), (1 + n / 2 : Nat), r.prev, r.root, (r.ch.take 32).map madeC⟩
theorem madeC_may (c : Chg) : mayC (madeC c) := by
 unfold mayC madeC
 dsimp only
 refine ⟨by rw [List.length_take]; omega, ?_⟩
 by_cases h : c.val.length = 0
 ·rw [decide_eq_true h, if_pos rfl, List.length_take]; omega
 ·rw [decide_eq_false h, if_neg (by simp), List.length_take]; omega
theorem madeR_may {r : Rec} {n : Nat} (h1 : 2 ≤ n) (h2 : n ≤ 1099511627776) : mayR (madeR r n) := by
 unfold mayR madeR
 dsimp only
 refine ⟨.inr rfl, ⟨by omega, by omega⟩, ⟨by omega, by omega⟩, fun _ => by omega, fun h => by omega, ?_, fun c hc => ?_⟩
 ·rw [List.length_map, List.length_take]; omega
 ·obtain ⟨x, _, rfl⟩ := List.mem_map.1 hc
  exact madeC_may x
theorem madeR_ok {r : Rec} {n : Nat} (h : RecOk r) : RecOk (madeR r n) := by
 refine ⟨h.prev, h.root, ?_, fun c hc => ?_⟩
 ·unfold madeR
  dsimp only
  rw [List.length_map, List.length_take]
  omega
 ·obtain ⟨x, _, rfl⟩ := List.mem_map.1 hc
  unfold madeC
  dsimp only
  rw [List.length_take, List.length_take]
  omega
def MdR (c : Chg) (v u : List V) : Prop := ∃ A kc ko A' vc vo, v = [.sl A c.key.length kc ko, .sl A' c.val.length vc vo, .b c.gone] ∧ u = [.sl A (c.key.take 32).length kc ko, .sl A' (c.val.take 256).length vc vo, .b (decide (c.val.length = 0))]
theorem MdR.r {B : Bs} {c : Chg} {v u : List V} (h : MdR c v u) (k : ChgR B c v) : ChgR B (madeC c) u := by
 obtain ⟨A, kc, ko, A', vc, vo, rfl, rfl⟩ := h
 obtain ⟨_, _, _, _, _, _, e, h1, h2⟩ := k
 simp only [List.cons.injEq, V.sl.injEq, and_true, true_and] at e
 obtain ⟨⟨rfl, rfl, rfl⟩, rfl, rfl, rfl⟩ := e
 refine ⟨_, _, _, _, _, _, rfl, ?_, ?_⟩
 ·have := h1.take 32
  rwa [← List.map_take] at this
 ·have := h2.take 256
  rwa [← List.map_take] at this
def MdRs : List Chg → List (List V) → List (List V) → Prop
 | [], _, us => us = []
 | c :: r, vs, us => ∃ v ws u xs, vs = v :: ws ∧ us = u :: xs ∧ MdR c v u ∧ MdRs r ws xs
theorem mdRs_snoc {c : Chg} {v u : List V} (k : MdR c v u) : ∀ {l : List Chg} {vs us : List (List V)}, MdRs l vs us → vs[l.length]? = some v → MdRs (l ++ [c]) vs (us ++ [u])
 | [], vs, us, h, hv => by
  rw [MdRs] at h
  subst h
  cases vs with
  | nil => simp at hv
  | cons x r =>
   simp only [List.length_nil, List.getElem?_cons_zero, Option.some.injEq] at hv
   subst hv
   exact ⟨x, r, u, [], rfl, rfl, k, rfl⟩
 | y :: r, vs, us, h, hv => by
  obtain ⟨w, ws, x, xs, rfl, rfl, h1, h2⟩ := h
  exact ⟨w, ws, x, xs ++ [u], rfl, rfl, h1, mdRs_snoc k h2 (by simpa using hv)⟩
theorem mdRs_r {B : Bs} {m : List Chg} : ∀ {l : List Chg} {vs us : List (List V)}, MdRs l vs us → ChgRs B (l ++ m) vs → ChgRs B (l.map madeC) us
 | [], vs, us, h, k => h
 | y :: r, vs, us, h, k => by
  obtain ⟨w, ws, x, xs, rfl, rfl, h1, h2⟩ := h
  obtain ⟨w', ws', e, k1, k2⟩ := k
  simp only [List.cons.injEq] at e
  obtain ⟨rfl, rfl⟩ := e
  exact ⟨x, xs, rfl, h1.r k1, mdRs_r h2 k2⟩
def MadeX (N : HV) (r : Rec) (n : Nat) (vs : List (List V)) (w : List V) : Prop := ∃ A o us, w = recC (madeR r n) (.sl A (madeR r n).ch.length (madeR r n).ch.length o) ∧ Sn N A us.flatten ∧ MdRs (r.ch.take 32) vs us
theorem MadeX.r {N : HV} {r : Rec} {n : Nat} {vs : List (List V)} {w : List V} (h : MadeX N r n vs w) (hok : RecOk r) {B : Bs} {hp : Hp} {Lt L : HV} (hs : SV B hp (Lt ++ L)) (hx : ∀ p ∈ N, p ∈ L) (hv : ChgRs ⟨hp, hnds Lt⟩ r.ch vs) : RecR ⟨hp, hnds Lt⟩ (madeR r n) w := by
 obtain ⟨A, o, us, rfl, h1, h2⟩ := h
 exact ⟨madeR_ok hok, A, _, o, us, rfl, h1 _ _ _ _ hs hx, mdRs_r (m := r.ch.drop 32) h2 (by rw [List.take_append_drop]; exact hv)⟩
def CapC (v : List V) : Prop := ∀ (A : Option (Nat × Nat)) (n c : Nat) (o : Bool), V.sl A n c o ∈ v → n ≤ c
set_option maxHeartbeats 32000000 in
theorem made_d {r : Rec} {A : Option (Nat × Nat)} {c n : Nat} {o : Bool} {vs : List (List V)} {hp : Hp} (ho : OkH hp) (hok : RecOk r) (hA : RB ⟨hp, []⟩ A vs.flatten) (hvs : ChgRs ⟨hp, []⟩ r.ch vs) (hcap : ∀ v ∈ vs, CapC v) (hn : n ≤ 1099511627776) :
  Fn kxD 18 [.agg (recC r (.sl A r.ch.length c o)), .i .i64 (n : Nat)] hp [] fun r' N => ∃ u, r' = .v u ∧ ∃ w, u = .agg w ∧ MadeX N r n vs w := by
 have hmok : RecOk (madeR r n) := madeR_ok hok
 have hm68 : ∀ s, (recC (madeR r n) s).length = 68 := fun s => recC_len hmok
 have hmne : ∀ s, recC (madeR r n) s ≠ [] := fun s e => by have := hm68 s; rw [e] at this; simp at this
 have hmch : ∀ s, (recC (madeR r n) s)[0 + 67]? = some s := fun s => by rw [Nat.zero_add]; exact recC_ch hmok
 refine Fn.dropC ?_
 refine fn_of_w (T := []) ho.sv (fun _ => rfl) (fn := Tryz.f18) (by kernel_rfl) rfl rfl ?_
 refine wo ?_
 apply p_op; exact (vwant_n rfl); iterate 4 exact rfl
 refine ev_box rfl rfl fun bx => ⟨_, rfl, ?_⟩
 apply p_op; exact (vwant_n rfl); iterate 4 exact rfl
 refine e_alloc rfl fun bo => ⟨_, rfl, ?_⟩
 refine wo ?_
 apply p_do; exact (vwant_n rfl); exact rfl; exact rfl
 refine e_st (C' := recC ⟨2, r.count, r.seq, r.prev, r.root, r.ch⟩ (.sl A r.ch.length c o)) rfl rfl rfl (by simp [recC]) rfl ⟨_, rfl, ?_⟩
 refine wo ?_
 apply p_do; exact (vwant_n rfl); exact rfl; exact rfl
 refine e_st (C' := recC ⟨2, (n : Nat), r.seq, r.prev, r.root, r.ch⟩ (.sl A r.ch.length c o)) rfl rfl rfl (by simp [recC]) rfl ⟨_, rfl, ?_⟩
 refine wo ?_
 apply wm; iterate 5 exact rfl
 refine m_quoN rfl rfl (by decide) (by omega)
 refine wo ?_
 apply p_do; exact (vwant_n rfl); exact rfl; exact rfl
 refine e_st (C' := recC (madeR r n) (.sl A r.ch.length c o)) rfl rfl rfl (by simp [recC]) rfl ⟨_, rfl, ?_⟩
 refine wo ?_
 iterate 4 ((try refine w_seq ?_); refine wo ?_)
 refine w_loop (ι := Nat × V × HV × List (List V)) (fun s => [(6, .i .i64 (s.1 : Nat)), (5, s.2.1), (4, .p (some (bo, 0))), (2, .p (some (bx, 0)))]) (fun s => (some bo, cellsO zRC 26) :: (some bx, cellsO (recC (madeR r n) (.sl A r.ch.length c o)) 26) :: s.2.2.1) (fun s => s.1 ≤ r.ch.length ∧ s.1 ≤ 32 ∧ RowG 87 3 s.1 s.2.2.2.flatten s.2.1 s.2.2.1 ∧ MdRs (r.ch.take s.1) vs s.2.2.2) (fun s => r.ch.length - s.1) (0, .sl none 0 0 false, [], []) ⟨Nat.zero_le _, Nat.zero_le _, .nil, rfl⟩ ⟨rfl, rfl, rfl, rfl, trivial⟩ (fun hp h => h) ?_
 intro ⟨i, w, N, us⟩ ⟨hi, hi2, hw, hus⟩
 dsimp only at hi hi2 hw hus ⊢
 obtain ⟨Aw, ow, rfl⟩ := hw.sl
 have hrest : ¬ (i < r.ch.length ∧ i < 32) → r.ch.take i = r.ch.take 32 ∧ (madeR r n).ch.length = i := fun h => by
  have e : r.ch.take i = r.ch.take 32 := by
   by_cases h1 : i < r.ch.length
   ·rw [show i = 32 by omega]
   ·rw [List.take_of_length_le (by omega), List.take_of_length_le (by omega)]
  exact ⟨e, by unfold madeR; dsimp only; rw [List.length_map, List.length_take]; omega⟩
 refine w_cutS [(6, .i .i64 (i : Nat)), (5, .sl Aw i i ow), (4, .p (some (bo, 0))), (2, .p (some (bx, 0)))] ((some bo, cellsO zRC 26) :: (some bx, cellsO (recC (madeR r n) (.sl A r.ch.length c o)) 26) :: N) (i < r.ch.length ∧ i < 32) ?_ fun g => ?_
 ·refine wo ?_
  refine zX (m_ldl rfl (hmch _)) ?_
  refine wo ?_
  by_cases g1 : i < r.ch.length
  ·apply wm; iterate 5 exact rfl
   refine mv_int (v := .b true) rfl rfl (vi_lssT (by omega))
   refine wo ?_
   by_cases g2 : i < 32
   ·apply wmg; iterate 7 exact rfl
    refine mv_int (v := .b true) rfl rfl (vi_lssT (by omega))
    refine wo ?_
    exact ⟨⟨g1, g2⟩, rfl, ⟨rfl, rfl, rfl, rfl, trivial⟩, fun hp h => h⟩
   ·obtain ⟨r1, r2⟩ := hrest (fun h => g2 h.2)
    rw [r1] at hus
    apply wmg; iterate 7 exact rfl
    refine mv_int (v := .b false) rfl rfl (vi_lssF (by omega))
    refine wo ?_
    refine w_exit ?_
    refine wo ?_
    apply p_do; exact (vwant_n rfl); exact rfl; exact rfl
    refine e_st (C' := recC (madeR r n) (.sl Aw i i ow)) rfl rfl rfl (by rw [hm68]; decide) (recC_set hmok) ⟨_, rfl, ?_⟩
    refine wo ?_
    refine zX (m_ldln (s := 67) (cs := recC (madeR r n) (.sl Aw i i ow)) rfl (by rw [List.drop_zero]; exact List.take_of_length_le (Nat.le_of_eq (hm68 _))) (hm68 _)) ?_
    apply p_do; exact (vwant_n rfl); exact rfl; exact rfl
    refine e_stn (C' := recC (madeR r n) (.sl Aw i i ow)) rfl rfl (hmne _) (hm68 _) (Nat.le_of_ble_eq_true rfl) (by exact overV_all (hm68 _)) ⟨_, rfl, ?_⟩
    refine wo ?_
    exact w_ret (wend_ret (vres1 (rv_cell rfl (hm68 _))) ⟨N, cle, _, rfl, _, rfl, Aw, ow, us, by rw [r2], hw.sn (fun p hp => hp), hus⟩)
  ·obtain ⟨r1, r2⟩ := hrest (fun h => g1 h.1)
   rw [r1] at hus
   apply wm; iterate 5 exact rfl
   refine mv_int (v := .b false) rfl rfl (vi_lssF (by omega))
   refine wo ?_
   refine w_exit ?_
   refine wo ?_
   apply p_do; exact (vwant_n rfl); exact rfl; exact rfl
   refine e_st (C' := recC (madeR r n) (.sl Aw i i ow)) rfl rfl rfl (by rw [hm68]; decide) (recC_set hmok) ⟨_, rfl, ?_⟩
   refine wo ?_
   refine zX (m_ldln (s := 67) (cs := recC (madeR r n) (.sl Aw i i ow)) rfl (by rw [List.drop_zero]; exact List.take_of_length_le (Nat.le_of_eq (hm68 _))) (hm68 _)) ?_
   apply p_do; exact (vwant_n rfl); exact rfl; exact rfl
   refine e_stn (C' := recC (madeR r n) (.sl Aw i i ow)) rfl rfl (hmne _) (hm68 _) (Nat.le_of_ble_eq_true rfl) (by exact overV_all (hm68 _)) ⟨_, rfl, ?_⟩
   refine wo ?_
   exact w_ret (wend_ret (vres1 (rv_cell rfl (hm68 _))) ⟨N, cle, _, rfl, _, rfl, Aw, ow, us, by rw [r2], hw.sn (fun p hp => hp), hus⟩)
 have g1 := g.1
 have g2 := g.2
 obtain ⟨vi, hv1, hti⟩ := chgRs_at hvs (List.getElem?_eq_getElem g1)
 have hvi := flat_row (chgRs_rows hvs) hv1
 have hcp := hcap vi (List.mem_of_getElem? hv1)
 have hnx : r.ch.take (i + 1) = r.ch.take i ++ [r.ch[i]] := List.take_succ_eq_append_getElem g1
 have hvl : vs[(r.ch.take i).length]? = some vi := by rw [List.length_take, Nat.min_eq_left (by omega)]; exact hv1
 generalize r.ch[i] = x at *
 obtain ⟨A1, kc, ko, A2, vc, vo, rfl, hk1, hk2⟩ := hti
 have hcp1 := hcp _ _ _ _ List.mem_cons_self
 have hcp2 := hcp _ _ _ _ (List.mem_cons_of_mem _ List.mem_cons_self)
 obtain ⟨ba, oa, rfl⟩ := rb_some3 hA hvi rfl
 refine w_seq ?_
 refine w_block ?_
 refine w_seq ?_
 refine wo ?_
 refine zX (m_ldl rfl (hmch _)) ?_
 refine wo ?_
 apply wn; iterate 5 exact rfl
 refine p_ian rfl rfl g1
 apply wm; iterate 5 exact rfl
 refine m_ldnN (j := i * 3) (s := 2) rfl hA.1 hA.2 rfl hvi rfl
 apply p_op; exact (vwant_n rfl); iterate 4 exact rfl
 refine e_alloc rfl fun b7 => ⟨_, rfl, ?_⟩
 apply p_do; exact (vwant_n rfl); exact rfl; exact rfl
 refine e_stn (C' := [.sl A1 x.key.length kc ko, .sl A2 x.val.length vc vo, .b x.gone]) rfl rfl (by simp) rfl (Nat.le_of_ble_eq_true rfl) rfl ⟨_, rfl, ?_⟩
 repeat (first | ((first | (apply wn; iterate 5 exact rfl) | (apply dn; iterate 5 exact rfl) | (apply wg; iterate 7 exact rfl) | (apply dg; iterate 7 exact rfl)); first | (apply pv_move; exact rfl) | (apply pv_assign; exact rfl) | (apply pv_nilc; exact rfl) | (apply pv_ext; exact rfl; exact rfl) | (apply p_fa; exact rfl) | (apply pv_not; exact rfl) | (apply pv_pickT; exact rfl; exact rfl) | (apply pv_pickF; exact rfl; exact rfl)) | ((first | (apply wm; iterate 5 exact rfl) | (apply dm; iterate 6 exact rfl) | (apply wmg; iterate 7 exact rfl) | (apply dmg; iterate 8 exact rfl)); first | (apply m_len; exact rfl) | exact mv_addN rfl rfl (by omega) | exact mv_subN rfl rfl (by omega) | exact mv_mulN rfl rfl (by omega)) | (apply ww; (iterate 5 exact rfl); exact m_ldl rfl rfl) | apply wl_nil | apply w_block | apply w_region | (apply w_condT; exact rfl) | (apply w_condF; exact rfl) | apply w_skip | apply w_label | apply wd_nil | (apply w_draw; kernel_rfl) | refine dy rfl rfl rfl rfl rfl rfl (m_ldl rfl rfl) ?_ | (apply dw; (iterate 3 exact rfl); decide +kernel; (iterate 3 exact rfl); exact m_ldl rfl rfl) | (apply wi; iterate 6 exact rfl) | (apply wu; iterate 6 exact rfl) | (apply wi0; iterate 4 exact rfl) | (apply di; iterate 6 exact rfl) | (apply du; iterate 6 exact rfl) | (apply wwg; (iterate 7 exact rfl); exact m_ldl rfl rfl) | refine dyg rfl rfl rfl rfl rfl rfl rfl rfl (m_ldl rfl rfl) ?_ | (apply dwg; (iterate 5 exact rfl); decide +kernel; (iterate 3 exact rfl); exact m_ldl rfl rfl))
 refine w_cutS [(7, .p (some (b7, 0))), (6, .i .i64 (i : Nat)), (5, .sl Aw i i ow), (4, .p (some (bo, 0))), (2, .p (some (bx, 0)))] ((some b7, cellsO [.sl A1 (x.key.take 32).length kc ko, .sl A2 x.val.length vc vo, .b x.gone] 87) :: (some bo, cellsO zRC 26) :: (some bx, cellsO (recC (madeR r n) (.sl (some (ba, oa)) r.ch.length c o)) 26) :: N) True ?_ fun _ => ?_
 ·refine wo ?_
  by_cases k1 : 32 < x.key.length
  ·obtain ⟨bk, ok, rfl⟩ := rb_spot hk1 (by omega)
   have e1 : (x.key.take 32).length = 32 := by rw [List.length_take]; omega
   apply wm; iterate 5 exact rfl
   refine mv_int (v := .b true) rfl rfl (vi_gtrT (by omega))
   refine wo ?_
   refine zX (m_slD (i := 0) (j := 32) rfl bl_none (bl_some rfl) (by omega) (by omega) (by omega)) ?_
   refine wo ?_
   apply p_do; exact (vwant_n rfl); exact rfl; exact rfl
   refine e_st (C' := [.sl (some (bk, ok)) 32 kc ko, .sl A2 x.val.length vc vo, .b x.gone]) rfl rfl rfl (Nat.le_of_ble_eq_true rfl) rfl ⟨_, rfl, ?_⟩
   refine wo ?_
   exact ⟨trivial, rfl, ⟨rfl, rfl, rfl, rfl, rfl, trivial⟩, fun hp h => by rw [e1]; exact h⟩
  ·have e1 : x.key.take 32 = x.key := List.take_of_length_le (by omega)
   apply wm; iterate 5 exact rfl
   refine mv_int (v := .b false) rfl rfl (vi_gtrF (by omega))
   refine wo ?_
   exact ⟨trivial, rfl, ⟨rfl, rfl, rfl, rfl, rfl, trivial⟩, fun hp h => by rw [e1]; exact h⟩
 refine w_cutS [(7, .p (some (b7, 0))), (6, .i .i64 (i : Nat)), (5, .sl Aw i i ow), (4, .p (some (bo, 0))), (2, .p (some (bx, 0)))] ((some b7, cellsO [.sl A1 (x.key.take 32).length kc ko, .sl A2 (x.val.take 256).length vc vo, .b x.gone] 87) :: (some bo, cellsO zRC 26) :: (some bx, cellsO (recC (madeR r n) (.sl (some (ba, oa)) r.ch.length c o)) 26) :: N) True ?_ fun _ => ?_
 ·refine wo ?_
  by_cases k1 : 256 < x.val.length
  ·obtain ⟨bk, ok, rfl⟩ := rb_spot hk2 (by omega)
   have e1 : (x.val.take 256).length = 256 := by rw [List.length_take]; omega
   apply wm; iterate 5 exact rfl
   refine mv_int (v := .b true) rfl rfl (vi_gtrT (by omega))
   refine wo ?_
   refine zX (m_slD (i := 0) (j := 256) rfl bl_none (bl_some rfl) (by omega) (by omega) (by omega)) ?_
   refine wo ?_
   apply p_do; exact (vwant_n rfl); exact rfl; exact rfl
   refine e_st (C' := [.sl A1 (x.key.take 32).length kc ko, .sl (some (bk, ok)) 256 vc vo, .b x.gone]) rfl rfl rfl (Nat.le_of_ble_eq_true rfl) rfl ⟨_, rfl, ?_⟩
   refine wo ?_
   exact ⟨trivial, rfl, ⟨rfl, rfl, rfl, rfl, rfl, trivial⟩, fun hp h => by rw [e1]; exact h⟩
  ·have e1 : x.val.take 256 = x.val := List.take_of_length_le (by omega)
   apply wm; iterate 5 exact rfl
   refine mv_int (v := .b false) rfl rfl (vi_gtrF (by omega))
   refine wo ?_
   exact ⟨trivial, rfl, ⟨rfl, rfl, rfl, rfl, rfl, trivial⟩, fun hp h => by rw [e1]; exact h⟩
 have hz : (x.val.take 256).length = 0 ↔ x.val.length = 0 := by rw [List.length_take]; omega
 refine wo ?_
 by_cases k0 : x.val.length = 0
 ·have k0' := hz.2 k0
  apply wm; iterate 5 exact rfl
  refine mv_int (v := .b true) rfl rfl (vi_eqlT (by omega))
  refine wo ?_
  apply p_do; exact (vwant_n rfl); exact rfl; exact rfl
  refine e_st (C' := [.sl A1 (x.key.take 32).length kc ko, .sl A2 (x.val.take 256).length vc vo, .b true]) rfl rfl rfl (Nat.le_of_ble_eq_true rfl) rfl ⟨_, rfl, ?_⟩
  refine wo ?_
  refine zX (m_ldln (s := 2) (cs := [.sl A1 (x.key.take 32).length kc ko, .sl A2 (x.val.take 256).length vc vo, .b true]) rfl rfl rfl) ?_
  apply p_op; exact (vwant_n rfl); iterate 4 exact rfl
  refine e_bsn (C := [.sl A1 (x.key.take 32).length kc ko, .sl A2 (x.val.take 256).length vc vo, .b true]) (n := 1) (sz := 3) rfl rfl (by decide) (.cons rfl rfl rfl .nil) rfl rfl fun b1 => ⟨_, rfl, ?_⟩
  apply p_op; exact (vwant_n rfl); iterate 4 exact rfl
  refine e_appN (n := 1) hw rfl rfl (rz_loc (k := 3) rfl) rfl (by decide) (by omega) fun A3 o3 N4 hw3 => ⟨_, rfl, ?_⟩
  refine wo ?_
  exact ⟨rfl, (i + 1, .sl A3 (i + 1) (i + 1) o3, N4, us ++ [[.sl A1 (x.key.take 32).length kc ko, .sl A2 (x.val.take 256).length vc vo, .b true]]), ⟨g1, g2, by rw [flat_snoc]; exact hw3, by rw [hnx]; exact mdRs_snoc ⟨_, _, _, _, _, _, rfl, by rw [decide_eq_true k0]⟩ hus hvl⟩, by dsimp only; omega, ⟨rfl, rfl, rfl, rfl, trivial⟩, fun hp h => h.le⟩
 ·have k0' : ¬ (x.val.take 256).length = 0 := fun h => k0 (hz.1 h)
  apply wm; iterate 5 exact rfl
  refine mv_int (v := .b false) rfl rfl (vi_eqlF (by omega))
  refine wo ?_
  apply p_do; exact (vwant_n rfl); exact rfl; exact rfl
  refine e_st (C' := [.sl A1 (x.key.take 32).length kc ko, .sl A2 (x.val.take 256).length vc vo, .b false]) rfl rfl rfl (Nat.le_of_ble_eq_true rfl) rfl ⟨_, rfl, ?_⟩
  refine wo ?_
  refine zX (m_ldln (s := 2) (cs := [.sl A1 (x.key.take 32).length kc ko, .sl A2 (x.val.take 256).length vc vo, .b false]) rfl rfl rfl) ?_
  apply p_op; exact (vwant_n rfl); iterate 4 exact rfl
  refine e_bsn (C := [.sl A1 (x.key.take 32).length kc ko, .sl A2 (x.val.take 256).length vc vo, .b false]) (n := 1) (sz := 3) rfl rfl (by decide) (.cons rfl rfl rfl .nil) rfl rfl fun b1 => ⟨_, rfl, ?_⟩
  apply p_op; exact (vwant_n rfl); iterate 4 exact rfl
  refine e_appN (n := 1) hw rfl rfl (rz_loc (k := 3) rfl) rfl (by decide) (by omega) fun A3 o3 N4 hw3 => ⟨_, rfl, ?_⟩
  refine wo ?_
  exact ⟨rfl, (i + 1, .sl A3 (i + 1) (i + 1) o3, N4, us ++ [[.sl A1 (x.key.take 32).length kc ko, .sl A2 (x.val.take 256).length vc vo, .b false]]), ⟨g1, g2, by rw [flat_snoc]; exact hw3, by rw [hnx]; exact mdRs_snoc ⟨_, _, _, _, _, _, rfl, by rw [decide_eq_false k0]⟩ hus hvl⟩, by dsimp only; omega, ⟨rfl, rfl, rfl, rfl, trivial⟩, fun hp h => h.le⟩
/- Jsg: the statement's whole, books, fixed. By this project. -/
theorem bits_w {n : Int} {hp : Hp} (ho : OkH hp) : ∃ nb, nb = bitsN n ∧ 8 ≤ nb ∧ nb ≤ 256 ∧ Fn kxD 31 [.i .i64 n] hp [] fun r _ => r = .v (.i .i64 ((nb : Nat) : Int)) := ⟨_, rfl, by have := bitsN_le n; omega, by have := bitsN_le n; omega, bits_d ho⟩
theorem mv_wsub {K : Kx} {hp0 : Bs} {l : VL} {L : HV} {t t' : TypeId} {x y : Operand} {p q : Int} (hx : evL l x = some (.i .i64 p)) (hy : evL l y = some (.i .i64 q)) : MVO K hp0 l L (.binOp .sub t x y t') (.i .i64 (IntKind.i64.wrap (p - q))) := mv_int hx hy rfl
theorem new04_n {A : Option (Nat × Nat)} {xs : List UInt8} {bits cb c n : Nat} {op : Bool} {hp : Hp} (hn : xs.length = n) (ho : OkH hp) (hA : RB ⟨hp, []⟩ A (xs.map byV)) (hx : xs.length = 32) (b1 : 8 ≤ bits) (b2 : bits ≤ 256) (c1 : 8 ≤ cb) (c2 : cb ≤ 256) :
  Fn kxD 34 [.i .i64 (bits : Int), .i .i64 (cb : Int), .sl A n c op] hp [] fun r N => ∃ u, r = .v u ∧ ∃ b Z o M, u = .tup [.p (some (b, 0)), .i .i64 0] ∧ RowK xs (.sl Z n n o) M ∧ N = (some b, cellsO (rbC bits cb (.sl Z n n o) (.sl none 0 0 false)) 51) :: M := by
 subst hn
 exact new04_d ho hA hx b1 b2 c1 c2
theorem RowU.get {e : TypeId} {xs : List UInt8} {A : Option (Nat × Nat)} {n c : Nat} {op : Bool} {M : HV} (h : RowU e xs (.sl A n c op) M) (h0 : 0 < xs.length) : ∃ b oo, A = some (b, 0) ∧ M = [(some b, .cells (xs.map byV) e oo false)] := by
 cases h with
 | nil => simp at h0
 | own h => exact ⟨_, _, rfl, rfl⟩
set_option maxHeartbeats 8000000 in
theorem books_d {n : Int} {hp : Hp} (ho : OkH hp) :
  Fn kxD 7 [.i .i64 n] hp [] fun r N => ∃ u, r = .v u ∧ ∃ nb B b q Z o M, u = .tup [.p (some (b, 0)), .p (some (q, 0))] ∧ nb ≤ 256 ∧ BkSt B b 256 nb (secB []) [] [] [] ∧ RowK (secB []) (.sl Z 32 32 o) M ∧ N = bkL B ++ ((some q, cellsO (rbC 256 nb (.sl Z 32 32 o) (.sl none 0 0 false)) 51) :: M) := by
 have hsl := secB_len []
 refine Fn.dropC ?_
 refine fn_of_w (T := []) ho.sv (fun _ => rfl) (fn := Tryz.f7) (by kernel_rfl) rfl rfl ?_
 refine wo ?_
 apply wm; iterate 5 exact rfl
 refine mv_wsub rfl rfl
 obtain ⟨nb, hnb, n1, n2, _⟩ := bits_w (n := IntKind.i64.wrap (n - 8)) ho
 have hb' : ∀ {hp : Hp}, OkH hp → Fn kxD 31 [.i .i64 (IntKind.i64.wrap (n - 8))] hp [] fun r _ => r = .v (.i .i64 ((nb : Nat) : Int)) := fun {hp} ho => by
  rw [hnb]
  exact bits_d ho
 refine p_callq (vwant_n rfl) rfl rfl rfl rfl (fun hp hs => hb' hs.ok) ?_
 refine wo ?_
 apply p_callY []; exact (vwant_n rfl); iterate 4 exact rfl
 case hC => exact (fun hp hs ht => secret_d (xs := []) hs.ok RB.nil)
 rintro u N ⟨bz, rfl, rfl⟩
 apply p_callY []; exact (vwant_n rfl); iterate 4 exact rfl
 case hC => exact (fun hp hs ht => new_s (bits := 256) (cb := nb) hsl hs.ok (rb_at0 hs (List.take_of_length_le (Nat.le_refl _))) hsl (by decide) (by decide) n1 n2)
 rintro u N ⟨b, B, rfl, hB, rfl⟩
 refine wo ?_
 apply p_callY []; exact (vwant_n rfl); iterate 4 exact rfl
 case hC => exact (fun hp hs ht => secret_d (xs := []) hs.ok RB.nil)
 rintro u N ⟨bz2, rfl, rfl⟩
 apply p_callY []; exact (vwant_n rfl); iterate 4 exact rfl
 case hC => exact (fun hp hs ht => new04_n (bits := 256) (cb := nb) hsl hs.ok (rb_at0 hs (List.take_of_length_le (Nat.le_refl _))) hsl (by decide) (by decide) n1 n2)
 rintro u N ⟨q, Z, o, M, rfl, hM, rfl⟩
 refine wo ?_
 apply wm; iterate 5 exact rfl
 refine mv_int (v := .b false) rfl rfl (vi_neqF ((by simp)))
 refine wo ?_
 apply wmg; iterate 7 exact rfl
 refine mv_int (v := .b false) rfl rfl (vi_neqF ((by simp)))
 refine wo ?_
 exact w_ret (wend_ret (vres2 (rv_tmp rfl) (rv_tmp rfl)) ⟨bkL B ++ ((some q, cellsO (rbC 256 nb (.sl Z 32 32 o) (.sl none 0 0 false)) 51) :: M), cle, _, rfl, nb, B, b, q, Z, o, M, rfl, n2, hB, hM, rfl⟩)
theorem m_sli {K : Kx} {hp0 : Bs} {l : VL} {L : HV} {t e : TypeId} {x : Operand} {lo hi : Option Operand} {b o m c i j : Nat} {op : Bool} [hS : SliceV K.C t e] [hs : SizeV K.C e 1] (hx : evL l x = some (.sl (some (b, o)) m c op)) (hlo : BoundL l lo 0 i) (hhi : BoundL l hi m j) (h1 : i ≤ j) (h2 : j ≤ c) (h3 : i < c) : MV K hp0 l L (.slice t x lo hi none) [] (.sl (some (b, o + i)) (j - i) (c - i) op) := by
 have := m_slg (K := K) (hp0 := hp0) (L := L) (t := t) (e := e) hx hlo hhi h1 h2 (fun _ => h3) (fun _ => ⟨_, rfl⟩)
 rw [Option.map_some, offV_ne (by omega), Nat.mul_one] at this
 exact this
def rec1 : Rec := ⟨1, 1, 0, List.replicate 32 0, List.replicate 32 0, []⟩
def rec2 : Rec := ⟨2, 300, 2, List.replicate 32 0, List.replicate 32 0, [⟨[18], [97], false⟩, ⟨[19], [], true⟩]⟩
theorem s_1 : shortB 1 = [1] := by rw [shortB_pos (by decide), shortB_zero]; rfl
theorem s_2 : shortB 2 = [2] := by rw [shortB_pos (by decide), shortB_zero]; rfl
theorem s_300 : shortB 300 = [1, 44] := by rw [shortB_pos (by decide)]; show shortB 1 ++ _ = _; rw [s_1]; rfl
theorem s_70 : shortB 70 = [70] := by rw [shortB_pos (by decide), shortB_zero]; rfl
theorem s_77 : shortB 77 = [77] := by rw [shortB_pos (by decide), shortB_zero]; rfl
theorem h_small {base : UInt8} {n : Nat} (h : n < 56) : headB base n = [base + UInt8.ofNat n] := if_pos h
theorem h_70 : headB 192 70 = [248, 70] := by unfold headB; rw [if_neg (by decide), s_70]; rfl
theorem h_77 : headB 192 77 = [248, 77] := by unfold headB; rw [if_neg (by decide), s_77]; rfl
def z33 : List UInt8 := 160 :: List.replicate 32 0
theorem str_z : strB (List.replicate 32 0) = z33 := by rw [strB_else (by decide), List.length_replicate, h_small (by decide)]; rfl
theorem str_1 : strB [1] = [1] := strB_one (by decide)
theorem str_2 : strB [2] = [2] := strB_one (by decide)
theorem str_0 : strB [] = [128] := by rw [strB_else (by decide), List.append_nil]; exact h_small (by decide)
theorem str_300 : strB [1, 44] = [130, 1, 44] := by rw [strB_else (by decide)]; show headB 128 2 ++ _ = _; rw [h_small (by decide)]; rfl
theorem body1 : bodyB rec1 = [248, 70, 1, 1, 128] ++ z33 ++ z33 ++ [192] := by
 unfold bodyB recT
 have e : encs (recK rec1) = [1, 1, 128] ++ z33 ++ z33 ++ [192] := by
  rw [recK_enc]
  show ((((strB (shortB 1) ++ strB (shortB 1)) ++ strB (shortB 0)) ++ strB (List.replicate 32 0)) ++ strB (List.replicate 32 0)) ++ (headB 192 (encs []).length ++ encs []) = _
  rw [s_1, shortB_zero, str_z, str_1, str_0, encs, h_small (by decide)]
  rfl
 rw [enc_list, e]
 show headB 192 70 ++ _ = _
 rw [h_70]
 rfl
theorem body2 : bodyB rec2 = [248, 77, 2, 130, 1, 44, 2] ++ z33 ++ z33 ++ [197, 194, 18, 97, 193, 19] := by
 unfold bodyB recT
 have k1 : encs (chgK ⟨[18], [97], false⟩) = [18, 97] := by rw [chgK_not (by decide)]; show strB [18] ++ strB [97] = _; rw [strB_one (by decide), strB_one (by decide)]; rfl
 have k2 : encs (chgK ⟨[19], [], true⟩) = [19] := by rw [chgK_gone rfl]; exact strB_one (by decide)
 have c0 : encs (rec2.ch.map chgT) = [194, 18, 97, 193, 19] := by
  show encs [chgT ⟨[18], [97], false⟩, chgT ⟨[19], [], true⟩] = _
  rw [encs, encs, encs, chgT, chgT, enc_list, enc_list, k1, k2, h_small (by decide), h_small (by decide)]
  rfl
 have e : encs (recK rec2) = [2, 130, 1, 44, 2] ++ z33 ++ z33 ++ [197, 194, 18, 97, 193, 19] := by
  rw [recK_enc, c0]
  show ((((strB (shortB 2) ++ strB (shortB 300)) ++ strB (shortB 2)) ++ strB (List.replicate 32 0)) ++ strB (List.replicate 32 0)) ++ (headB 192 5 ++ _) = _
  rw [s_2, s_300, str_z, str_2, str_300, h_small (by decide)]
  rfl
 rw [enc_list, e]
 show headB 192 77 ++ _ = _
 rw [h_77]
 rfl
theorem may1 : mayR rec1 := by decide
theorem may2 : mayR rec2 := by decide
theorem ok1 : RecOk rec1 := ⟨rfl, rfl, by decide, by decide⟩
theorem ok2 : RecOk rec2 := ⟨rfl, rfl, by decide, by decide⟩
set_option maxHeartbeats 16000000 in
theorem jfixed_d {hp : Hp} (ho : OkH hp) (hk : KTab ⟨hp, []⟩) : Fn kxD 9 [] hp [] fun r _ => r = .v (.b true) := by
 refine fn_of_w (T := []) ho.sv (fun _ => rfl) (fn := Tryz.f9) (by kernel_rfl) rfl rfl ?_
 refine wo ?_
 apply wn; iterate 5 exact rfl
 refine p_buildS (C := recC rec1 (.sl none 0 0 false)) (.cons rfl rfl rfl rfl (Nat.le_of_ble_eq_true rfl) (.cons rfl rfl rfl rfl (Nat.le_of_ble_eq_true rfl) .nil)) rfl
 apply p_callY []; exact (vwant_n rfl); iterate 4 exact rfl
 case hC => exact (fun hp hs ht => jbody_d (r := rec1) hs.ok (hk.give0 hs) ⟨ok1, none, 0, false, [], rfl, RB.nil, rfl⟩)
 rintro u N ⟨hg, _⟩
 obtain ⟨w1, rfl, hu1⟩ := hg may1
 rw [body1] at hu1
 obtain ⟨A1, o1, rfl⟩ := hu1.sl
 obtain ⟨b1, oo1, rfl, rfl⟩ := hu1.get (by decide)
 refine wo ?_
 apply p_op; exact (vwant_n rfl); iterate 4 exact rfl
 refine e_bs (C := [byV 18]) rfl rfl (.cons rfl rfl .nil) rfl fun c1 => ⟨_, rfl, ?_⟩
 apply p_op; exact (vwant_n rfl); iterate 4 exact rfl
 refine e_bs (C := [byV 97]) rfl rfl (.cons rfl rfl .nil) rfl fun c2 => ⟨_, rfl, ?_⟩
 apply p_op; exact (vwant_n rfl); iterate 4 exact rfl
 refine e_share rfl ⟨_, rfl, ?_⟩
 apply wn; iterate 5 exact rfl
 refine p_buildS (C := [.sl (some (c1, 0)) 1 1 false, .sl (some (c2, 0)) 1 1 false, .b false]) (.cons rfl rfl rfl rfl (Nat.le_of_ble_eq_true rfl) (.cons rfl rfl rfl rfl (Nat.le_of_ble_eq_true rfl) .nil)) rfl
 apply p_op; exact (vwant_n rfl); iterate 4 exact rfl
 refine e_bs (C := [byV 19]) rfl rfl (.cons rfl rfl .nil) rfl fun c3 => ⟨_, rfl, ?_⟩
 apply wn; iterate 5 exact rfl
 refine p_buildS (C := [.sl (some (c3, 0)) 1 1 false, .sl none 0 0 false, .b true]) (.cons rfl rfl rfl rfl (Nat.le_of_ble_eq_true rfl) (.cons rfl rfl rfl rfl (Nat.le_of_ble_eq_true rfl) .nil)) rfl
 apply p_op; exact (vwant_n rfl); iterate 4 exact rfl
 refine e_bsn (C := [.sl (some (c1, 0)) 1 1 false, .sl (some (c2, 0)) 1 1 false, .b false, .sl (some (c3, 0)) 1 1 false, .sl none 0 0 false, .b true]) (n := 2) (sz := 3) rfl rfl (by decide) (.cons rfl rfl rfl (.cons rfl rfl rfl .nil)) rfl rfl fun c4 => ⟨_, rfl, ?_⟩
 apply wn; iterate 5 exact rfl
 refine p_buildS (C := recC rec2 (.sl (some (c4, 0)) 2 2 false)) (.cons rfl rfl rfl rfl (Nat.le_of_ble_eq_true rfl) (.cons rfl rfl rfl rfl (Nat.le_of_ble_eq_true rfl) (.cons rfl rfl rfl rfl (Nat.le_of_ble_eq_true rfl) (.cons rfl rfl rfl rfl (Nat.le_of_ble_eq_true rfl) .nil)))) rfl
 apply p_callY []; exact (vwant_n rfl); iterate 4 exact rfl
 case hC => exact (fun hp hs ht => jbody_d (r := rec2) hs.ok (hk.give0 hs) ⟨ok2, some (c4, 0), 2, false, [[.sl (some (c1, 0)) 1 1 false, .sl (some (c2, 0)) 1 1 false, .b false], [.sl (some (c3, 0)) 1 1 false, .sl none 0 0 false, .b true]], rfl, rb_at0 hs rfl, ⟨_, _, rfl, ⟨_, _, _, _, _, _, rfl, rb_at0 hs rfl, rb_at0 hs rfl⟩, ⟨_, _, rfl, ⟨_, _, _, _, _, _, rfl, rb_at0 hs rfl, RB.nil⟩, rfl⟩⟩⟩)
 rintro u N ⟨hg, _⟩
 obtain ⟨w2, rfl, hu2⟩ := hg may2
 rw [body2] at hu2
 obtain ⟨A2, o2, rfl⟩ := hu2.sl
 have e79 : ([248, 77, 2, 130, 1, 44, 2] ++ z33 ++ z33 ++ [197, 194, 18, 97, 193, 19] : List UInt8).length = 79 := rfl
 obtain ⟨b2, oo2, rfl, rfl⟩ := hu2.get (by decide)
 rw [e79]
 refine wo ?_
 apply wm; iterate 5 exact rfl
 refine mv_int (v := .b false) rfl rfl (vi_neqF ((by simp)))
 refine wo ?_
 apply wmg; iterate 7 exact rfl
 refine mv_int (v := .b false) rfl rfl (vi_neqF ((by simp)))
 refine wo ?_
 apply wmg; iterate 7 exact rfl
 refine mv_int (v := .b false) rfl rfl (vi_neqF ((by decide)))
 refine wo ?_
 refine zX (m_sl0 rfl bl_none (bl_some rfl) (by decide)) ?_
 apply p_op; exact (vwant_g rfl rfl rfl); iterate 4 exact rfl
 refine e_bs (C := [248, 70, 1, 1, 128, 160].map byV) rfl rfl (.cons rfl rfl (.cons rfl rfl (.cons rfl rfl (.cons rfl rfl (.cons rfl rfl (.cons rfl rfl .nil)))))) rfl fun d1 => ⟨_, rfl, ?_⟩
 refine p_callq (vwant_g rfl rfl rfl) rfl rfl rfl rfl (fun hp hs => same_d (xs := [248, 70, 1, 1, 128, 160]) hs.ok (rb_at0 hs rfl) (rb_at0 hs rfl) (by decide)) ?_
 refine wo ?_
 apply wg; iterate 7 exact rfl
 refine p_ia (i := 71) rfl rfl (by decide)
 refine zX (m_ldl (v := byV 192) rfl rfl) ?_
 apply wmg; iterate 7 exact rfl
 refine mv_int (v := .b false) rfl rfl (vi_neqF ((by decide)))
 refine wo ?_
 apply wmg; iterate 7 exact rfl
 refine mv_int (v := .b false) rfl rfl (vi_lssF ((by decide)))
 refine wo ?_
 refine zX (m_sli (i := 2) (j := 7) rfl (bl_some rfl) (bl_some rfl) (by decide) (by decide) (by decide)) ?_
 apply p_op; exact (vwant_n rfl); iterate 4 exact rfl
 refine e_bs (C := [2, 130, 1, 44, 2].map byV) rfl rfl (.cons rfl rfl (.cons rfl rfl (.cons rfl rfl (.cons rfl rfl (.cons rfl rfl .nil))))) rfl fun d2 => ⟨_, rfl, ?_⟩
 refine p_callq (vwant_n rfl) rfl rfl rfl rfl (fun hp hs => same_d (xs := [2, 130, 1, 44, 2]) hs.ok (rb_at0 hs rfl) (rb_at0 hs rfl) (by decide)) ?_
 refine wo ?_
 refine zX (m_sli (i := 73) (j := 79) rfl (bl_some rfl) bl_none (by decide) (by decide) (by decide)) ?_
 apply p_op; exact (vwant_g rfl rfl rfl); iterate 4 exact rfl
 refine e_bs (C := [197, 194, 18, 97, 193, 19].map byV) rfl rfl (.cons rfl rfl (.cons rfl rfl (.cons rfl rfl (.cons rfl rfl (.cons rfl rfl (.cons rfl rfl .nil)))))) rfl fun d3 => ⟨_, rfl, ?_⟩
 refine p_callq (vwant_g rfl rfl rfl) rfl rfl rfl rfl (fun hp hs => same_d (xs := [197, 194, 18, 97, 193, 19]) hs.ok (rb_at0 hs rfl) (rb_at0 hs rfl) (by decide)) ?_
 refine wo ?_
 exact w_ret (wend_ret (vres1 (rv_tmp rfl)) rfl)
/- Jt2: JournalTurned on the machine. By this project. -/
theorem jrdS_err {cb : Nat} {sec p : List UInt8} {e : Nat} (h : jrdS cb sec p = .error e) : e = 190 ∨ e = 191 := by
 unfold jrdS at h
 split at h
 ·obtain rfl := Except.error.inj h; exact .inl rfl
 ·split at h
  ·obtain rfl := Except.error.inj h; exact .inl rfl
  ·split at h
   ·obtain rfl := Except.error.inj h; exact .inl rfl
   ·split at h
    ·obtain rfl := Except.error.inj h; exact .inr rfl
    ·simp at h
theorem jrdS_ok {cb : Nat} {sec p : List UInt8} {r : Rec} {body code : List UInt8} (h : jrdS cb sec p = .ok (r, body, code)) : 32 ≤ p.length ∧ body ++ code = p ∧ code.length = 32 ∧ cutB cb (macB sec body) = code ∧ mayR r ∧ bodyB r = body ∧ recS body = some r := by
 unfold jrdS at h
 split at h
 ·simp at h
 ·rename_i hl
  split at h
  ·simp at h
  ·rename_i r' hS
   split at h
   ·simp at h
   ·rename_i h1
    split at h
    ·simp at h
    ·rename_i h2
     simp only [Except.ok.injEq, Prod.mk.injEq] at h
     obtain ⟨rfl, rfl, rfl⟩ := h
     have h1' := not_or.1 h1
     exact ⟨by omega, List.take_append_drop _ _, by rw [List.length_drop]; omega, by simpa using h2, by simpa using h1'.1, by simpa using h1'.2, hS⟩
theorem set_ne {x : List UInt8} {k : Nat} {y : UInt8} (hk : k < x.length) (hy : y ≠ 0) : x.set k (x[k] + y) ≠ x := fun e => by
 have h1 : (x.set k (x[k] + y))[k]? = x[k]? := by rw [e]
 rw [List.getElem?_set_self hk, List.getElem?_eq_getElem hk] at h1
 simp only [Option.some.injEq] at h1
 exact hy (by simpa using h1)
theorem turn_new {cb : Nat} {sec b0 p : List UInt8} {r : Rec} {body code : List UInt8} (h : jrdS cb sec p = .ok (r, body, code)) (hp : p ≠ b0 ++ cutB cb (macB sec b0)) : body ∉ [b0] := fun hm => by
 obtain ⟨_, h1, _, h2, _⟩ := jrdS_ok h
 obtain rfl := List.mem_singleton.1 hm
 rw [h2, h1] at hp
 exact hp rfl
theorem zr_r {B : Bs} : RecR B zR zRC := ⟨⟨rfl, rfl, by decide, fun c hc => by simp at hc⟩, none, 0, false, [], rfl, RB.nil, rfl⟩
theorem bodyB_pos (r : Rec) : 0 < (bodyB r).length := enc_pos _
theorem frameB_drop (x : List UInt8) : (frameB x).drop 7 = x := by unfold frameB flB; rfl
theorem frameB_len (x : List UInt8) : (frameB x).length = x.length + 7 := by simp [frameB, flB]
set_option maxHeartbeats 64000000 in
theorem turned_d {n z : Int} {r : Rec} {A : Option (Nat × Nat)} {c : Nat} {o : Bool} {vs : List (List V)} {y : UInt8} {hp : Hp} (ho : OkH hp) (hk : Tab ⟨hp, []⟩) (hkk : KTab ⟨hp, []⟩) (hok : RecOk r) (hA : RB ⟨hp, []⟩ A vs.flatten) (hvs : ChgRs ⟨hp, []⟩ r.ch vs) (hcap : ∀ v ∈ vs, CapC v) :
  Fn kxD 4 [.i .i64 n, .agg (recC r (.sl A r.ch.length c o)), .i .i64 z, byV y] hp [] fun r' _ => r' = .v (.b true) := by
 have hC : ∀ {s : V}, (recC r s).length = 68 := recC_len hok
 have hmok : RecOk (madeR r 7) := madeR_ok hok
 have hmay : mayR (madeR r 7) := madeR_may (by decide) (by decide)
 have hne32 : ∀ {l : List V}, l.length = 32 → l ≠ [] := fun hl e => by rw [e] at hl; simp at hl
 have hbl := body_len hmok hmay
 have hbp := bodyB_pos (madeR r 7)
 refine fn_of_w (T := []) ho.sv (fun _ => rfl) (fn := Tryz.f4) (by kernel_rfl) rfl rfl ?_
 refine wo ?_
 apply p_op; exact (vwant_n rfl); iterate 4 exact rfl
 refine ev_box rfl rfl fun bx => ⟨_, rfl, ?_⟩
 refine wo ?_
 apply p_callY []; exact (vwant_n rfl); iterate 4 exact rfl
 case hC => exact (fun hp hs ht => books_d hs.ok)
 rintro u N ⟨cb, B, b, q, Z, oz, M, rfl, hcb, hB, hM, rfl⟩
 obtain ⟨b0, hb0⟩ : ∃ b0, b0 = bodyB (madeR r 7) := ⟨_, rfl⟩
 obtain ⟨cd, hcd⟩ : ∃ cd, cd = cutB cb (macB (secB []) (bodyB (madeR r 7))) := ⟨_, rfl⟩
 have hcl : cd.length = 32 := by rw [hcd, cutB_len, macB_len]
 have hcl' : (cd.map byV).length = 32 := by rw [List.length_map, hcl]
 refine wo ?_
 apply wm; iterate 5 exact rfl
 refine m_eqp rfl rfl
 refine wo ?_
 refine p_callq (vwant_g rfl rfl rfl) rfl rfl rfl rfl (fun hp hs => jfixed_d hs.ok (hkk.give0 hs)) ?_
 refine wo ?_
 refine zX (m_ldln (s := 67) (cs := recC r (.sl A r.ch.length c o)) rfl (by rw [List.drop_zero]; exact List.take_of_length_le (by rw [hC]; exact Nat.le_refl _)) hC) ?_
 apply p_callY []; exact (vwant_n rfl); iterate 4 exact rfl
 case hC => exact (fun hp hs ht => made_d (n := 7) hs.ok hok (hA.give0 hs) (chgRs_mono (fun h => h.give0 hs) hvs) hcap (by decide))
 rintro u NM ⟨w, rfl, hw⟩
 have hw68 : w.length = 68 := by obtain ⟨_, _, _, rfl, _⟩ := hw; exact recC_len hmok
 have hwne : w ≠ [] := fun e => by rw [e] at hw68; simp at hw68
 apply p_op; exact (vwant_n rfl); iterate 4 exact rfl
 refine e_alloc rfl fun bm => ⟨_, rfl, ?_⟩
 apply p_do; exact (vwant_n rfl); exact rfl; exact rfl
 refine e_stn (C' := w) rfl rfl hwne hw68 (Nat.le_of_ble_eq_true rfl) (by exact overV_all hw68) ⟨_, rfl, ?_⟩
 refine wl_heap (L' := (some bm, cellsO w 26) :: (some bx, cellsO (recC r (.sl A r.ch.length c o)) 26) :: (some q, cellsO (rbC 256 cb (.sl Z 32 32 oz) (.sl none 0 0 false)) 51) :: (bkL B ++ (NM ++ M))) (fun hp h => h.le) ?_
 refine wo ?_
 refine zX (m_ldln (s := 67) (cs := w) rfl (by rw [List.drop_zero]; exact List.take_of_length_le (by omega)) hw68) ?_
 apply p_callY []; exact (vwant_n rfl); iterate 4 exact rfl
 case hC => exact (fun hp hs ht => copy_d hs.ok (hw.r (Lt := []) hok hs outMem (chgRs_mono (fun h => h.give0 hs) hvs)))
 rintro u NC ⟨wc, rfl, hcop⟩
 apply p_callM (bkL B); exact (vwant_n rfl); iterate 4 exact rfl
 case hC => exact (fun hp hs ht => jwrite_d hB ht (hk.give hs) (hkk.give hs) (hcop.see hs outMem).rec (by simp))
 rintro u N4' ⟨hgood, _⟩
 obtain ⟨w4, N4, B1, rfl, hu4, hB1, rfl⟩ := hgood hmay
 rw [List.append_assoc]
 rw [← hcd] at hu4 ⊢
 rw [← hb0] at hu4 hbl hbp hB1 hcd
 have hca : addS [] b0 = [b0] := by unfold addS; simp
 rw [hca] at hB1
 obtain ⟨x, hx⟩ : ∃ x, x = b0 ++ cd := ⟨_, rfl⟩
 have hxl : x.length = b0.length + 32 := by rw [hx, List.length_append, hcl]
 rw [← hx] at hu4
 have hfl := frameB_len x
 have hfd := frameB_drop x
 generalize frameB x = fr at hu4 hfl hfd
 cases hu4 with
 | nil => simp at hfl
 | @own _ bw o4 oo4 hop => ?_
 refine wo ?_
 apply p_op; exact (vwant_n rfl); iterate 4 exact rfl
 refine e_alloc rfl fun bt => ⟨_, rfl, ?_⟩
 refine wo ?_
 apply p_do; exact (vwant_n rfl); exact rfl; exact rfl
 refine e_stn (C' := cd.map byV) rfl rfl (hne32 hcl') hcl' (Nat.le_of_ble_eq_true rfl) (by exact overV_all hcl') ⟨_, rfl, ?_⟩
 refine wo ?_
 apply wm; iterate 5 exact rfl
 refine mv_int (v := .b false) rfl rfl (vi_neqF ((by simp)))
 refine wo ?_
 apply wmg; iterate 7 exact rfl
 refine mv_int (v := .b false) rfl rfl (vi_lssF (by omega))
 refine wo ?_
 apply p_op; exact (vwant_n rfl); iterate 4 exact rfl
 refine e_bs (C := []) rfl rfl .nil rfl fun bn => ⟨_, rfl, ?_⟩
 refine wo ?_
 refine zX (m_slD (i := 7) (j := fr.length) rfl (bl_some rfl) bl_none (by omega) (Nat.le_refl _) (by omega)) ?_
 have hfx : ((fr.map byV).drop (0 + 7)).take (fr.length - 7) = x.map byV := by
  rw [Nat.zero_add, ← List.map_drop, hfd]
  exact List.take_of_length_le (by rw [List.length_map]; omega)
 have hf7 : fr.length - 7 = x.length := by omega
 apply p_op; exact (vwant_n rfl); iterate 4 exact rfl
 refine e_lit (new := x.map byV) rfl rfl (rz_loc (b := bw) (k := fr.length - 7) hfx) (by rw [List.length_map, hf7]) u8_one (by omega) fun bp op oo h1 => ⟨_, rfl, ?_⟩
 rw [hf7]
 refine wo ?_
 apply wm; iterate 5 exact rfl
 refine m_remI rfl rfl (by omega)
 obtain ⟨kz, hkz⟩ : ∃ kz, kz = z.tmod (x.length : Int) := ⟨_, rfl⟩
 have hk1 : -(x.length : Int) < kz ∧ kz < x.length := by
  have h0 : (0 : Int) < x.length := by omega
  rw [hkz]
  refine ⟨?_, Int.tmod_lt_of_pos _ h0⟩
  have := Int.tmod_lt_of_pos (-z) h0
  rw [Int.neg_tmod] at this
  omega
 rw [← hkz]
 repeat (first | ((first | (apply wn; iterate 5 exact rfl) | (apply dn; iterate 5 exact rfl) | (apply wg; iterate 7 exact rfl) | (apply dg; iterate 7 exact rfl)); first | (apply pv_move; exact rfl) | (apply pv_assign; exact rfl) | (apply pv_nilc; exact rfl) | (apply pv_ext; exact rfl; exact rfl) | (apply p_fa; exact rfl) | (apply pv_not; exact rfl) | (apply pv_pickT; exact rfl; exact rfl) | (apply pv_pickF; exact rfl; exact rfl)) | ((first | (apply wm; iterate 5 exact rfl) | (apply dm; iterate 6 exact rfl) | (apply wmg; iterate 7 exact rfl) | (apply dmg; iterate 8 exact rfl)); first | (apply m_len; exact rfl) | exact mv_addN rfl rfl (by omega) | exact mv_subN rfl rfl (by omega) | exact mv_mulN rfl rfl (by omega)) | (apply ww; (iterate 5 exact rfl); exact m_ldl rfl rfl) | apply wl_nil | apply w_block | apply w_region | (apply w_condT; exact rfl) | (apply w_condF; exact rfl) | apply w_skip | apply w_label | apply wd_nil | (apply w_draw; kernel_rfl) | refine dy rfl rfl rfl rfl rfl rfl (m_ldl rfl rfl) ?_ | (apply dw; (iterate 3 exact rfl); decide +kernel; (iterate 3 exact rfl); exact m_ldl rfl rfl) | (apply wi; iterate 6 exact rfl) | (apply wu; iterate 6 exact rfl) | (apply wi0; iterate 4 exact rfl) | (apply di; iterate 6 exact rfl) | (apply du; iterate 6 exact rfl) | (apply wwg; (iterate 7 exact rfl); exact m_ldl rfl rfl) | refine dyg rfl rfl rfl rfl rfl rfl rfl rfl (m_ldl rfl rfl) ?_ | (apply dwg; (iterate 5 exact rfl); decide +kernel; (iterate 3 exact rfl); exact m_ldl rfl rfl))
 refine w_cutS [(16, .i .i64 (kz.natAbs : Nat)), (15, .sl (some (bp, 0)) x.length x.length op), (9, .p (some (b, 0))), (3, byV y)] ((some bp, .cells (x.map byV) 5 oo false) :: bkL B1) True ?_ fun _ => ?_
 ·refine wo ?_
  by_cases g : kz < 0
  ·apply wm; iterate 5 exact rfl
   refine mv_int (v := .b true) rfl rfl (vi_lssT ((by exact g)))
   refine wo ?_
   apply wn; iterate 5 exact rfl
   refine pv_un rfl (v := .i .i64 (kz.natAbs : Nat)) (by
    show some (V.i .i64 (IntKind.i64.wrap (0 - kz))) = _
    rw [show 0 - kz = ((kz.natAbs : Nat) : Int) by omega, IntWalk.i64_in _ (by omega)])
   refine wo ?_
   exact ⟨trivial, rfl, ⟨rfl, rfl, rfl, rfl, trivial⟩, fun hp h => h.le⟩
  ·apply wm; iterate 5 exact rfl
   refine mv_int (v := .b false) rfl rfl (vi_lssF ((by exact g)))
   refine wo ?_
   refine ⟨trivial, rfl, ⟨?_, rfl, rfl, rfl, trivial⟩, fun hp h => h.le⟩
   show some (V.i .i64 kz) = some (V.i .i64 ((kz.natAbs : Nat) : Int))
   rw [show ((kz.natAbs : Nat) : Int) = kz by omega]
 obtain ⟨k, hkn⟩ : ∃ k, k = kz.natAbs := ⟨_, rfl⟩
 have hkx : k < x.length := by omega
 rw [← hkn]
 obtain ⟨y', hy'⟩ : ∃ y' : UInt8, y' = if y = 0 then 1 else y := ⟨_, rfl⟩
 have hy0 : y' ≠ 0 := by
  rw [hy']
  split
  ·decide
  ·assumption
 refine w_cutS [(16, .i .i64 (k : Nat)), (15, .sl (some (bp, 0)) x.length x.length op), (9, .p (some (b, 0))), (3, byV y')] ((some bp, .cells (x.map byV) 5 oo false) :: bkL B1) True ?_ fun _ => ?_
 ·refine wo ?_
  by_cases g : y = 0
  ·rw [if_pos g] at hy'
   subst hy' g
   apply wm; iterate 5 exact rfl
   refine mv_int (v := .b true) rfl rfl (vi_eqlT (rfl))
   refine wo ?_
   exact ⟨trivial, rfl, ⟨rfl, rfl, rfl, rfl, trivial⟩, fun hp h => h⟩
  ·rw [if_neg g] at hy'
   subst hy'
   apply wm; iterate 5 exact rfl
   refine mv_int (v := .b false) rfl rfl (vi_eqlF ((fun h => g (UInt8.toNat_inj.1 (Int.ofNat.inj h)))))
   refine wo ?_
   exact ⟨trivial, rfl, ⟨rfl, rfl, rfl, rfl, trivial⟩, fun hp h => h⟩
 have hxk : (x.map byV)[0 + k]? = some (byV x[k]) := by rw [Nat.zero_add, List.getElem?_map, List.getElem?_eq_getElem hkx]; rfl
 obtain ⟨p, hpp⟩ : ∃ p, p = x.set k (x[k] + y') := ⟨_, rfl⟩
 have hpl : x.length = p.length := by rw [hpp, List.length_set]
 have hpne : p ≠ b0 ++ cutB cb (macB (secB []) b0) := by
  rw [← hcd, ← hx, hpp]
  exact set_ne hkx hy0
 refine wo ?_
 apply wn; iterate 5 exact rfl
 refine p_ia rfl rfl hkx
 refine zX (m_ldl rfl hxk) ?_
 refine wo ?_
 apply wm; iterate 5 exact rfl
 refine m_addB rfl rfl
 apply wn; iterate 5 exact rfl
 refine p_ia rfl rfl hkx
 apply p_do; exact (vwant_n rfl); exact rfl; exact rfl
 refine e_st (C' := p.map byV) rfl rfl rfl (by rw [List.length_map]; omega) (by rw [hpp, Nat.zero_add, List.map_set]) ⟨_, rfl, ?_⟩
 rw [hpl]
 refine wo ?_
 apply p_callM (bkL B1); exact (vwant_n rfl); iterate 4 exact rfl
 case hC => exact (fun hp hs ht => jread_d hB1 ht (hk.give hs) (hkk.give hs) (rb_at hs (take_all _)) (Nat.le_refl _) (by omega))
 rintro u NR hR
 cases hj : jrdS cb (secB []) p with
 | error e =>
  rw [hj] at hR
  obtain ⟨rfl, B2, hB2, rfl⟩ := hR
  have he := jrdS_err hj
  refine wo ?_
  apply p_op; exact (vwant_n rfl); iterate 4 exact rfl
  refine e_alloc rfl fun b17 => ⟨_, rfl, ?_⟩
  apply p_op; exact (vwant_n rfl); iterate 4 exact rfl
  refine e_alloc rfl fun b18 => ⟨_, rfl, ?_⟩
  refine wo ?_
  apply p_do; exact (vwant_n rfl); exact rfl; exact rfl
  refine e_stn (C' := zRC) rfl rfl (by simp [recC]) rfl (Nat.le_of_ble_eq_true rfl) rfl ⟨_, rfl, ?_⟩
  apply p_do; exact (vwant_n rfl); exact rfl; exact rfl
  refine e_stn (C' := zH.map byV) rfl rfl (by simp) rfl (Nat.le_of_ble_eq_true rfl) rfl ⟨_, rfl, ?_⟩
  refine wo ?_
  apply wm; iterate 5 exact rfl
  refine mv_int (v := .b true) rfl rfl (vi_neqT (by omega))
  refine wo ?_
  by_cases g : e = 190
  ·apply wm; iterate 5 exact rfl
   refine mv_int (v := .b true) rfl rfl (vi_eqlT (by omega))
   refine wo ?_
   refine zX (m_ldln (s := 67) (cs := zRC) rfl rfl rfl) ?_
   apply wg; iterate 7 exact rfl
   refine p_buildS (C := zRC) .nil rfl
   refine p_callq (vwant_g rfl rfl rfl) rfl rfl rfl rfl (fun hp hs => same19_d hs.ok zr_r zr_r) ?_
   refine wo ?_
   exact w_ret (wend_ret (vres1 (rv_tmp rfl)) rfl)
  ·apply wm; iterate 5 exact rfl
   refine mv_int (v := .b false) rfl rfl (vi_eqlF (by omega))
   refine wo ?_
   apply wmg; iterate 7 exact rfl
   refine mv_int (v := .b true) rfl rfl (vi_eqlT (by omega))
   refine wo ?_
   refine zX (m_ldln (s := 67) (cs := zRC) rfl rfl rfl) ?_
   apply wg; iterate 7 exact rfl
   refine p_buildS (C := zRC) .nil rfl
   refine p_callq (vwant_g rfl rfl rfl) rfl rfl rfl rfl (fun hp hs => same19_d hs.ok zr_r zr_r) ?_
   refine wo ?_
   exact w_ret (wend_ret (vres1 (rv_tmp rfl)) rfl)
 | ok v =>
  obtain ⟨r', body, code⟩ := v
  rw [hj] at hR
  obtain ⟨w', X', B2, rfl, hX', hB2, rfl⟩ := hR
  rw [List.append_assoc]
  obtain ⟨_, _, hcl2, _⟩ := jrdS_ok hj
  have hnew := turn_new hj hpne
  rw [if_pos hnew] at hB2
  have hadd : addF [] (body, code) = [(body, code)] := by unfold addF; simp
  rw [hadd] at hB2
  have hso : bkSound B2 = false := by
   unfold bkSound
   rw [hB2.fs]
   simp
  have hw68' : w'.length = 68 := by obtain ⟨hok', _, _, _, _, rfl, _⟩ := hX'; exact recC_len hok'
  have hwne' : w' ≠ [] := fun e => by rw [e] at hw68'; simp at hw68'
  have hcl2' : (code.map byV).length = 32 := by rw [List.length_map, hcl2]
  refine wo ?_
  apply p_op; exact (vwant_n rfl); iterate 4 exact rfl
  refine e_alloc rfl fun b17 => ⟨_, rfl, ?_⟩
  apply p_op; exact (vwant_n rfl); iterate 4 exact rfl
  refine e_alloc rfl fun b18 => ⟨_, rfl, ?_⟩
  refine wo ?_
  apply p_do; exact (vwant_n rfl); exact rfl; exact rfl
  refine e_stn (C' := w') rfl rfl hwne' hw68' (Nat.le_of_ble_eq_true rfl) (by exact overV_all hw68') ⟨_, rfl, ?_⟩
  apply p_do; exact (vwant_n rfl); exact rfl; exact rfl
  refine e_stn (C' := code.map byV) rfl rfl (hne32 hcl2') hcl2' (Nat.le_of_ble_eq_true rfl) (by exact overV_all hcl2') ⟨_, rfl, ?_⟩
  refine wo ?_
  apply wm; iterate 5 exact rfl
  refine mv_int (v := .b false) rfl rfl (vi_neqF ((by simp)))
  refine wo ?_
  apply p_callM (bkL B2); exact (vwant_n rfl); iterate 4 exact rfl
  case hC => exact (fun hp hs ht => forg1_s hB2 ht hcl2)
  rintro u N ⟨bg, bs, rfl, rfl⟩
  refine wo ?_
  apply wm; iterate 5 exact rfl
  refine mv_int (v := .b true) rfl rfl (vi_eqlT (by omega))
  refine wo ?_
  apply p_callM (bkL B2); exact (vwant_g rfl rfl rfl); iterate 4 exact rfl
  case hC => exact (fun hp hs ht => sound_s hB2 ht)
  rintro u N ⟨rfl, rfl⟩
  rw [hso]
  refine wo ?_
  exact w_ret (wend_ret (vres1 (rv_tmp rfl)) rfl)
end Go.Proofs.YtbmkclbghfbegaaGreatDoor
namespace Go.Proofs.YtbmkclbghfbegaaGreatDoor
open Go.ChangeShapes Go.WideShapes Go.ChangeAt Go.RowKit Go.Extern.Stop
theorem jtuOwn : ownKnob Tryz.prog.godebug = none := by kernel_rfl
theorem jtuLaidOut : laidOutB Tryz.prog = true := by kernel_rfl
abbrev jGs : Gs := (0, kindsC, 163) :: shaGs
theorem j_nb : ∀ x ∈ jGs, x.2.1.all notByte = true := by
 intro x hx
 rcases List.mem_cons.1 hx with rfl | hx
 ·kernel_rfl
 ·exact sha_nb x hx
def kindsL : List Value := [.int .i64 1, .int .i64 0, .int .i64 0, .bool false, .int .i64 2, .int .i64 1, .int .i64 32, .bool true]
set_option maxRecDepth 100000 in
theorem j_gs {W : World} {ps : List MemPlace} {r : List (String × DataW Unit)} (hL : DataW.LaidVars Tryz.prog W (("cairn/sha.k", Rows.laid_cairn_sha_k) :: ("cairn/sha.first", Rows.laid_cairn_sha_first) :: ("cairn/journal.kinds", Rows.laid_cairn_journal_kinds) :: r) ps) (hS : W.ShapedOpen Tryz.prog) : ∀ x ∈ jGs, GOk W x := by
 obtain ⟨g2, ps3, h3⟩ := laid_gl 4 237 (kW.map wcell) (kW.map wV) hL hS (by kernel_rfl) (by kernel_rfl) (of_decide_eq_true (by kernel_rfl)) (of_decide_eq_true (by kernel_rfl)) (by kernel_rfl) (by kernel_rfl) (by kernel_rfl) (fun E => mapWV_ren _) (by kernel_rfl)
 obtain ⟨g3, ps4, h4⟩ := laid_gl 3 220 (firstW.map wcell) (firstW.map wV) h3 hS (by kernel_rfl) (by kernel_rfl) (of_decide_eq_true (by kernel_rfl)) (of_decide_eq_true (by kernel_rfl)) (by kernel_rfl) (by kernel_rfl) (by kernel_rfl) (fun E => mapWV_ren _) (by kernel_rfl)
 obtain ⟨g4, _⟩ := laid_gl 0 163 kindsL kindsC h4 hS (by kernel_rfl) (by kernel_rfl) (of_decide_eq_true (by kernel_rfl)) (of_decide_eq_true (by kernel_rfl)) (by kernel_rfl) (by kernel_rfl) (by kernel_rfl) (fun E => rfl) (by kernel_rfl)
 intro x hx
 simp only [jGs, shaGs, List.mem_cons, List.not_mem_nil, or_false] at hx
 rcases hx with rfl | rfl | rfl <;> assumption
set_option maxRecDepth 100000 in
theorem j_tab {W : World} {bs : List GV} (hg : ∀ x ∈ jGs, GOk W x) (hb : ∀ q ∈ bs, GvOk W (gvE bs) q) : Tab ⟨gvHp jGs bs, []⟩ ∧ KTab ⟨gvHp jGs bs, []⟩ := by
 have e1 := gv_glob hg j_nb hb (x := (4, kW.map wV, 237)) (by simp) (by kernel_rfl)
 have e2 := gv_glob hg j_nb hb (x := (3, firstW.map wV, 220)) (by simp) (by kernel_rfl)
 have e4 := gv_glob hg j_nb hb (x := (0, kindsC, 163)) (by simp) (by kernel_rfl)
 have hnx : ∀ g, g < 64 → g < (gvHp jGs bs).nx := fun g h => by show g < 66 + 4 * bs.length; omega
 have hro : ∀ {g : Nat} {cs : List V} {t : TypeId}, g < 64 → (gvHp jGs bs).t.get g = some (.cells cs t none false) → RO (gvHp jGs bs) (some (g, 0)) cs := fun hg e => ⟨fun b o e => by
  simp only [Option.some.injEq, Prod.mk.injEq] at e
  obtain ⟨rfl, rfl⟩ := e
  exact .inl (hnx _ hg), fun j v hv => ⟨_, 0, rfl, by
   simp only [cellV, cellsAt, Hp.get, e, Option.bind_some, Nat.zero_add]
   exact hv⟩⟩
 have r2 := hro (by decide) e2
 have r4 := hro (by decide) e4
 exact ⟨⟨⟨_, e1⟩, not_own0 (.inl (hnx _ (by decide))), r2, now0 r2⟩, ⟨r4, now0 r4⟩⟩
theorem u8_of {m : Int} (h : IntKind.u8.has m) : ∃ y : UInt8, m = (y.toNat : Int) := by
 have h1 : 0 ≤ m ∧ m < 256 := by
  unfold IntKind.has at h
  simp [IntKind.min, IntKind.max, IntKind.signed, IntKind.bits] at h
  omega
 exact ⟨UInt8.ofNat m.toNat, by rw [UInt8.toNat_ofNat']; omega⟩
theorem chV_cap {W : World} : ∀ {l : List Ent} {i : Nat}, (∀ e ∈ l, EntOk W e) → ∀ v ∈ chV i l, CapC v
 | [], i, _, v, h => by rw [chV] at h; simp at h
 | e :: r, i, hE, v, h => by
  rw [chV] at h
  rcases List.mem_cons.1 h with rfl | h
  ·intro A n c o hm
   have he := hE e List.mem_cons_self
   simp only [gvV, List.mem_cons, V.sl.injEq, List.not_mem_nil, or_false] at hm
   rcases hm with ⟨_, rfl, rfl, _⟩ | ⟨_, rfl, rfl, _⟩ | h
   ·exact he.k.cap
   ·exact he.v.cap
   ·simp at h
  ·exact chV_cap (fun e h => hE e (List.mem_cons_of_mem _ h)) v h
theorem rec_p {W : World} {gs : Gs} {q0 : GV} {l : List Ent} {r : Rec} (hg : ∀ x ∈ gs, GOk W x) (hnb : ∀ x ∈ gs, x.2.1.all notByte = true) (hb : ∀ q ∈ q0 :: entG l, GvOk W (gvE (q0 :: entG l)) q) (hch : r.ch = l.map (·.c)) (hE : ∀ e ∈ l, EntOk W e) (hq : q0.cs = (chV 0 l).flatten) : RB ⟨gvHp gs (q0 :: entG l), []⟩ (gvA 0 q0) (chV 0 l).flatten ∧ ChgRs ⟨gvHp gs (q0 :: entG l), []⟩ r.ch (chV 0 l) ∧ ∀ v ∈ chV 0 l, CapC v := by
 refine ⟨?_, ?_, chV_cap hE⟩
 ·rw [← hq]
  exact gv_ro hg hnb hb (i := 0) rfl
 ·rw [hch]
  refine chV_chg (gs := gs) (bs := q0 :: entG l) (W := W) hE (fun j q hj => gv_ro hg hnb hb hj) (fun j e hj => ?_)
  obtain ⟨h1, h2⟩ := entG_at hj
  rw [Nat.zero_add, show 1 + 2 * j = 2 * j + 1 by omega, show 2 + 2 * j = 2 * j + 1 + 1 by omega]
  exact ⟨by simpa using h1, by simpa using h2⟩
set_option maxRecDepth 100000 in
theorem jtuContract (H : Type) (enc : TypeId × Value → H) (W : World) (base : Nat) (args : Array Value) (ds gs : List (DataW H)) (before : List MemPlace)
  (hval : ∀ (j : Nat) t v, Tryz.f4.params[j]? = some t → args[j]? = some v → Value.okWide Tryz.prog W .any base t v)
  (hW : DataW.Whole enc Tryz.prog Tryz.f4.params.toList Rows.journalTurnedSpec.vars false W args.toList ds gs before) (hz : (DataW.weightsEach Tryz.prog (Tryz.f4.params.toList ++ Rows.journalTurnedSpec.plain.varTypes Tryz.prog) (ds ++ gs)).all (· ≤ reachBytes) = true) (hL : laidMetH Tryz.prog Rows.journalTurnedRow.laid W) (hS : W.ShapedOpen Tryz.prog) :
  Calls Tryz.prog 4 args W fun e W' => ∃ v, e = .returned v ∧ Rows.journalTurnedSpec.post enc Tryz.prog Tryz.f4 false true false false W args v W' := by
 have hW' := hW
 obtain ⟨p, q, hA0, hV, rfl, hfz, hnd⟩ := hW
 have hA : DataW.TrodAll enc Tryz.prog W 0 (fun _ => true) true Tryz.f4.params.toList args.toList ds p := hA0
 rw [Tryz.params4] at hA hval hz
 obtain ⟨v0, vs0, d0, ds0, p0, q0, e0, rfl, rfl, h0, r0⟩ := trodAll_cons hA
 obtain ⟨v1, vs1, d1, ds1, p1, q1, e1, rfl, rfl, h1, r1⟩ := trodAll_cons r0
 obtain ⟨v2, vs2, d2, ds2, p2, q2, e2, rfl, rfl, h2, r2⟩ := trodAll_cons r1
 obtain ⟨v3, vs3, d3, ds3, p3, q3, e3, rfl, rfl, h3, r3⟩ := trodAll_cons r2
 obtain ⟨rfl, rfl⟩ := trodAll_nil r3
 obtain rfl : args = #[v0, v1, v2, v3] := by cases args; simp_all
 obtain ⟨rfl, rfl⟩ := trodVars_none hV
 obtain ⟨n, rfl, _⟩ := okWide_int (IntT.h (P := Tryz.prog) (t := 3)) (hval 0 _ v0 rfl rfl)
 obtain ⟨z, rfl, _⟩ := okWide_int (IntT.h (P := Tryz.prog) (t := 3)) (hval 2 _ v2 rfl rfl)
 obtain ⟨m, rfl, hm⟩ := okWide_int (IntT.h (P := Tryz.prog) (t := 5)) (hval 3 _ v3 rfl rfl)
 obtain ⟨y, rfl⟩ := u8_of hm
 simp only [List.cons_append, List.nil_append, DataW.weightsEach, List.all_append, List.all_nil, List.append_nil, Bool.and_eq_true] at hz
 obtain ⟨r, g0, c, l, hr, hch, hE, hq, hg0, hargs⟩ := open_rec (hval 1 _ v1 rfl rfl) h1 hz.2.1
 obtain ⟨ps, hl, _⟩ := (show laidMet Tryz.prog Rows.journalTurnedRow.laid W from hL)
 have hG := j_gs hl hS
 have hb := rec_gv hE hg0
 have hT := j_tab hG hb
 have hargs2 : renL (gvE (g0 :: entG l)) [.i .i64 n, .agg (recC r (gvV 0 g0 r.ch.length c)), .i .i64 z, byV y] = some [.int .i64 n, v1, .int .i64 z, .int .u8 (y.toNat : Int)] := by
  have h := hargs
  simp only [renL, Option.bind_eq_some_iff, Option.map_eq_some_iff] at h ⊢
  have hr1 : ren (gvE (g0 :: entG l)) (.agg (recC r (gvV 0 g0 r.ch.length c))) = some v1 := by
   obtain ⟨a, ha, b, _, e⟩ := h
   simp only [List.cons.injEq] at e
   rw [ha, e.1]
  exact ⟨_, rfl, _, ⟨_, hr1, _, ⟨_, rfl, _, ⟨_, rfl, _, rfl, rfl⟩, rfl⟩, rfl⟩, rfl⟩
 obtain ⟨k1, k2, k3⟩ := rec_p hG j_nb hb hch hE hq
 refine (gv_law (gs := jGs) (bs := g0 :: entG l) hG j_nb hb kxD_ok hargs2 (turned_d (gv_okH hG j_nb hb) hT.1 hT.2 hr k1 k2 k3)).mono ?_
 rintro e W' ⟨rfl, hb⟩
 exact ⟨_, rfl, law_post hW' jtuLaidOut (by kernel_rfl) rfl (by kernel_rfl) rfl rfl rfl rfl hb⟩
def jtuCells (l : List Nat) : Array Value := (l.map fun n => Value.int .u32 (.ofNat n)).toArray
def jtuK : List Nat := [1116352408, 1899447441, 3049323471, 3921009573, 961987163, 1508970993, 2453635748, 2870763221, 3624381080, 310598401, 607225278, 1426881987, 1925078388, 2162078206, 2614888103, 3248222580, 3835390401, 4022224774, 264347078, 604807628, 770255983, 1249150122, 1555081692, 1996064986, 2554220882, 2821834349, 2952996808, 3210313671, 3336571891, 3584528711, 113926993, 338241895, 666307205, 773529912, 1294757372, 1396182291, 1695183700, 1986661051, 2177026350, 2456956037, 2730485921, 2820302411, 3259730800, 3345764771, 3516065817, 3600352804, 4094571909, 275423344, 430227734, 506948616, 659060556, 883997877, 958139571, 1322822218, 1537002063, 1747873779, 1955562222, 2024104815, 2227730452, 2361852424, 2428436474, 2756734187, 3204031479, 3329325298]
def jtuFirst : List Nat := [1779033703, 3144134277, 1013904242, 2773480762, 1359893119, 2600822924, 528734635, 1541459225]
def jtuPut (l : Array Value) : Obj → Obj
 | .cells _ t frozen => .cells l t frozen
 | o => o
def jtuArgs : Array Value := #[.int .i64 0, .agg (.int .i64 0 :: .int .i64 0 :: .int .i64 0 :: (List.replicate 64 (.int .u8 0) ++ [.slice none 0 0])).toArray, .int .i64 0, .int .u8 0]
noncomputable def jtuWorld (os : Os) : World :=
 { World.holding Tryz.prog os ⟨#[], #[], []⟩ with heap := (((World.holding Tryz.prog os ⟨#[], #[], []⟩).heap.modify 4 (jtuPut (jtuCells jtuK))).modify 3 (jtuPut (jtuCells jtuFirst))).modify 0 (jtuPut kindsL.toArray) }
set_option maxRecDepth 100000 in
theorem jtu_laid (os : Os) : laidMet Tryz.prog Rows.journalTurnedRow.laid ((jtuWorld os).forCall (fun _ _ => 0) ⟨#[], jtuArgs, []⟩).memory :=
 laidMet_of_run' 8 (by kernel_rfl) (by kernel_rfl)
theorem jtu_reads (os : Os) {H : Type} (enc : TypeId × Value → H) : ∃ places, DataW.whole enc Tryz.prog ((jtuWorld os).forCall (fun _ _ => 0) ⟨#[], jtuArgs, []⟩).memory Tryz.f4.params.toList Rows.journalTurnedSpec.vars false jtuArgs.toList 8 =
  some ([.lit (.int .i64 0), .agg [.lit (.int .i64 0), .lit (.int .i64 0), .lit (.int .i64 0), .agg (List.replicate 32 (.lit (.int .u8 0))), .agg (List.replicate 32 (.lit (.int .u8 0))), .nil], .lit (.int .i64 0), .lit (.int .u8 0)], [], places) :=
 ⟨[], by kernel_rfl⟩
set_option maxRecDepth 100000 in
theorem jtu_lifted (os : Os) (started : os.Started) (H : Type) (enc : TypeId × Value → H) (F : Stop.Interp) :
  ReturnsInHanded {} Tryz.checked os 4 .any ((OpenSpec.ofChange Rows.journalTurnedSpec).preRow enc Tryz.prog Tryz.f4 Rows.journalTurnedRow.domain false Rows.journalTurnedRow.laid) (((OpenSpec.ofChange Rows.journalTurnedSpec).at F).post enc Tryz.prog Tryz.f4 false true false false) := by
 obtain ⟨places, hx⟩ := jtu_reads os enc
 refine returnsInHanded_of_row (C := Tryz.checked) (s := OpenSpec.ofChange Rows.journalTurnedSpec) jtuOwn started (by kernel_rfl) Tryz.func4
  (witness_row_at (enc := enc) (C := Tryz.checked) false (jtuWorld os) jtuArgs rfl (by kernel_rfl) (by kernel_rfl) (by kernel_rfl)
   (OpenSpec.preRow_of_cond 8 hx (by kernel_rfl) (fun k hk => by cases hk) (by kernel_rfl) (jtu_laid os))) ?_
 intro W base args ds gs before hval hW _ _ hz hL hS _
 exact jtuContract H enc W base args ds gs before hval hW hz hL hS
theorem jtu_said : Rows.JournalTurnedSaid :=
 OpenClaim.holds_of_cond 4 Tryz.f4 rfl rfl rfl rfl rfl rfl rfl ⟨rfl, rfl, rfl, rfl, rfl⟩ rfl rfl rfl rfl rfl (by kernel_rfl) Tryz.func4 (by kernel_rfl)
  (of_decide_eq_true (by kernel_rfl)) (by unfold Func.isWrapper; rw [if_neg (of_decide_eq_false (by kernel_rfl))]; exact ⟨rfl, rfl⟩)
  (fun os started H enc _ F => by rw [OpenClaim.pre_eq_preRow]; exact jtu_lifted os started H enc F)
theorem jtu_plain (f : FuncId) (fn : Func) (hf : Tryz.pinned.checked.prog.funcNamed "cairn/cairnlaw19.JournalTurned" = some f) (hfn : Tryz.pinned.checked.prog.funcs[f]? = some fn) :
  Rows.journalTurnedCard.stood.looks = Tryz.pinned.checked.prog.looks [] ∧ ∀ (j : Nat) t, fn.params[j]? = some t → Tryz.pinned.checked.prog.wantsStandIn t = false := by
 obtain rfl : f = 4 := Option.some.inj ((show Tryz.prog.funcNamed "cairn/cairnlaw19.JournalTurned" = some 4 by kernel_rfl).symm.trans hf) |>.symm
 obtain rfl : fn = Tryz.f4 := (Option.some.inj (Tryz.func4.symm.trans hfn)).symm
 refine ⟨by kernel_rfl, fun j t ht => ?_⟩
 rw [Tryz.params4] at ht
 have : t = 3 ∨ t = 26 ∨ t = 3 ∨ t = 5 := by simpa using Array.mem_of_getElem? ht
 rcases this with rfl | rfl | rfl | rfl
 ·exact (show Tryz.prog.wantsStandIn 3 = false by kernel_rfl)
 ·exact (show Tryz.prog.wantsStandIn 26 = false by kernel_rfl)
 ·exact (show Tryz.prog.wantsStandIn 3 = false by kernel_rfl)
 ·exact (show Tryz.prog.wantsStandIn 5 = false by kernel_rfl)
theorem JournalTurned_holds : Rows.JournalTurnedCardSaid :=
 Claim7.holds_tied_plain_at .later [] _ _ _ _ jtu_said (fun _ h => by cases h) (by kernel_rfl) (fun _ h => by cases h) journalTurned_row_tie rfl ⟨rfl, rfl⟩ (by kernel_rfl) rfl jtu_plain (by kernel_rfl)
#print axioms JournalTurned_holds
end Go.Proofs.YtbmkclbghfbegaaGreatDoor
