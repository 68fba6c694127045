/- Part 6 of the proof: Dr3, Dr4, Js8, Jsb, Js9, Jsc, Jsd, Ds18, Ds19, Jse, Jsf, Dr5, Dr6, Dr9, Dr12, Nd1, Nd2, Nd3, Nw1, Nw2, Nw3, Nw4, Nw5, Nw6, Ne1, Dla, Nrw. By this project. -/
import Derived.Test.YtabpegdalmagpaaM5
import Derived.Test.YtabpegdalmagpaaRows
import Derived.SizedLaws
import Derived.JoinedOf
set_option linter.unusedVariables false
set_option linter.unusedSectionVars false
set_option linter.unusedSimpArgs false
set_option maxRecDepth 100000
/- Dr3: the reader's items. By this project. -/
set_option maxRecDepth 100000
namespace Go.Proofs.Ytabpegdalmagpaa
open Go.RowKit Go.Extern.Stop
theorem clone_w {a : Nat × Nat} {xs : List UInt8} {n c : Nat} {op : Bool} {hp : Hp} (ho : OkH hp) (hn : xs.length = n) (hA : RB ⟨hp, []⟩ (some a) (xs.map byV) ∨ n = 0) (hl : n ≤ 140737488355328) :
  Fn kxD 72 [.sl (some a) n c op] hp [] fun r N => ∃ u, r = .v u ∧ ∃ b o1 oo, u = .sl (some (b, 0)) n n o1 ∧ N = [(some b, .cells (xs.map byV) 5 oo false)] ∧ (o1 = true → oo = some 1) := by
 refine fn_of_w (T := []) ho.sv (fun _ => rfl) (fn := Try.f72) (by kernel_rfl) rfl rfl ?_
 refine wo ?_
 first | (apply wm; iterate 5 exact rfl) | (apply dm; iterate 6 exact rfl) | (apply wmg; iterate 7 exact rfl) | (apply dmg; iterate 8 exact rfl)
 refine m_eqsl rfl rfl
 refine wo ?_
 first | (apply p_op; exact (vwant_n rfl); iterate 4 exact rfl) | (apply d_op; exact (vwant_n rfl); exact rfl; exact noRd rfl; decide +kernel; (iterate 3 exact rfl); rotate_left) | (apply p_op; exact (vwant_g rfl rfl rfl); iterate 4 exact rfl) | (apply d_op; exact (vwant_g rfl rfl rfl); exact rfl; exact noRd rfl; decide +kernel; (iterate 3 exact rfl); rotate_left)
 refine e_bs (C := []) rfl rfl .nil rfl fun bn => ⟨_, rfl, ?_⟩
 try (case hok => first | exact rdOk_nil | exact rdOk_b (by decide +kernel) | exact rdOk_c | (repeat (first | exact rdOk_e | refine rdOk_d (by decide +kernel) ?_ | refine rdOk_n ?_)))
 refine wo ?_
 first | (apply p_op; exact (vwant_n rfl); iterate 4 exact rfl) | (apply d_op; exact (vwant_n rfl); exact rfl; exact noRd rfl; decide +kernel; (iterate 3 exact rfl); rotate_left) | (apply p_op; exact (vwant_g rfl rfl rfl); iterate 4 exact rfl) | (apply d_op; exact (vwant_g rfl rfl rfl); exact rfl; exact noRd rfl; decide +kernel; (iterate 3 exact rfl); rotate_left)
 refine e_lit (new := xs.map byV) rfl rfl (hA.elim (fun h => h.z) (fun e => by obtain rfl : xs = [] := List.length_eq_zero_iff.1 (by omega); exact rz_nil)) (by simp; omega) u8_one (by omega) fun b1 o1 oo h1 => ⟨_, rfl, ?_⟩
 try (case hok => first | exact rdOk_nil | exact rdOk_b (by decide +kernel) | exact rdOk_c | (repeat (first | exact rdOk_e | refine rdOk_d (by decide +kernel) ?_ | refine rdOk_n ?_)))
 refine wo ?_
 exact w_ret (wend_ret (vres1 (rv_tmp rfl)) ⟨_, rfl, b1, o1, oo, rfl, rfl, h1⟩)
theorem RowG.sn {e : TypeId} {sz m : Nat} {cs : List V} {A : Option (Nat × Nat)} {n c : Nat} {op : Bool} {M X : HV} (h : RowG e sz m cs (.sl A n c op) M) (hm : ∀ p ∈ M, p ∈ X) : Sn X A cs := by
 cases h with
 | nil => exact Sn.nil
 | own h hl => exact Sn.own (hm _ List.mem_cons_self) (take_all _)
theorem byV_bAt (b : List UInt8) (p : Nat) : byV (UInt8.ofNat (bAt b p)) = .i .u8 (bAt b p : Nat) := by rw [byV_ofNat, Nat.mod_eq_of_lt (bAt_lt b p)]
mutual
def ItW (X : HV) : It → List V → Prop
 | .str bs, v => ∃ s M, v = [.b false, s, .sl none 0 0 false] ∧ RowK bs s M ∧ ∀ p ∈ M, p ∈ X
 | .list l, v => ∃ A c o vs, v = [.b true, .sl none 0 0 false, .sl A l.length c o] ∧ Sn X A vs.flatten ∧ ItWs X l vs
def ItWs (X : HV) : List It → List (List V) → Prop
 | [], vs => vs = []
 | t :: r, vs => ∃ v ws, vs = v :: ws ∧ ItW X t v ∧ ItWs X r ws
end
theorem RowU.snx {e : TypeId} {xs : List UInt8} {A : Option (Nat × Nat)} {n c : Nat} {op : Bool} {M X : HV} (h : RowU e xs (.sl A n c op) M) (hm : ∀ p ∈ M, p ∈ X) : Sn X A (xs.map byV) := by
 cases h with
 | nil => exact Sn.nil
 | own h => exact Sn.own (hm _ (List.mem_singleton.2 rfl)) (take_all _)
mutual
theorem itW_x {X : HV} : ∀ (t : It) (v : List V), ItW X t v → ItX X t v
 | .str bs, v, h => by
  rw [ItW] at h
  rw [ItX, ItP]
  obtain ⟨s, M, rfl, h1, h2⟩ := h
  obtain ⟨A, o, rfl⟩ := h1.sl
  exact ⟨A, _, o, rfl, h1.snx h2, Nat.le_refl _⟩
 | .list l, v, h => by
  rw [ItW] at h
  rw [ItX, ItP]
  obtain ⟨A, c, o, vs, h1, h2, h3⟩ := h
  exact ⟨A, c, o, vs, h1, h2, itWs_x l vs h3⟩
theorem itWs_x {X : HV} : ∀ (l : List It) (vs : List (List V)), ItWs X l vs → ItXs X l vs
 | [], vs, h => by rw [ItWs] at h; rw [ItXs, ItPs]; exact h
 | t :: r, vs, h => by
  rw [ItWs] at h
  rw [ItXs, ItPs]
  obtain ⟨v, ws, h0, h1, h2⟩ := h
  exact ⟨v, ws, h0, itW_x t v h1, itWs_x r ws h2⟩
end
mutual
theorem itW_mono {X Y : HV} (hm : ∀ p ∈ X, p ∈ Y) : ∀ (t : It) (v : List V), ItW X t v → ItW Y t v
 | .str bs, v, h => by
  rw [ItW] at h ⊢
  obtain ⟨s, M, h1, h2, h3⟩ := h
  exact ⟨s, M, h1, h2, fun p hp => hm p (h3 p hp)⟩
 | .list l, v, h => by
  rw [ItW] at h ⊢
  obtain ⟨A, c, o, vs, h1, h2, h3⟩ := h
  exact ⟨A, c, o, vs, h1, h2.mono hm, itWs_mono hm l vs h3⟩
theorem itWs_mono {X Y : HV} (hm : ∀ p ∈ X, p ∈ Y) : ∀ (l : List It) (vs : List (List V)), ItWs X l vs → ItWs Y l vs
 | [], vs, h => by rw [ItWs] at h ⊢; exact h
 | t :: r, vs, h => by
  rw [ItWs] at h ⊢
  obtain ⟨v, ws, h0, h1, h2⟩ := h
  exact ⟨v, ws, h0, itW_mono hm t v h1, itWs_mono hm r ws h2⟩
end
theorem itWs_snoc {X : HV} {t : It} {v : List V} (k : ItW X t v) : ∀ {l : List It} {vs : List (List V)}, ItWs X l vs → ItWs X (l ++ [t]) (vs ++ [v])
 | [], vs, h => by
  rw [ItWs] at h
  subst h
  rw [List.nil_append, List.nil_append, ItWs]
  exact ⟨v, [], rfl, k, by rw [ItWs]⟩
 | x :: r, vs, h => by
  rw [ItWs] at h
  obtain ⟨w, ws, rfl, h1, h2⟩ := h
  rw [List.cons_append, List.cons_append, ItWs]
  exact ⟨w, ws ++ [v], rfl, h1, itWs_snoc k h2⟩
theorem itWs_at {X : HV} : ∀ {l : List It} {vs : List (List V)} {i : Nat} {t : It}, ItWs X l vs → l[i]? = some t → ∃ v, vs[i]? = some v ∧ ItW X t v
 | [], _, _, _, _, hi => by simp at hi
 | x :: r, vs, 0, t, h, hi => by
  rw [ItWs] at h
  obtain ⟨v, ws, rfl, h1, _⟩ := h
  simp only [List.getElem?_cons_zero, Option.some.injEq] at hi
  subst hi
  exact ⟨v, rfl, h1⟩
 | x :: r, vs, i + 1, t, h, hi => by
  rw [ItWs] at h
  obtain ⟨v, ws, rfl, _, h2⟩ := h
  have := itWs_at (i := i) (t := t) h2 (by simpa using hi)
  simpa using this
def itQ (s : V) (br : Nat) (r : Except Flt (It × Nat)) (w : VR) (N : HV) : Prop := match r with
 | .error x => ∃ y, w = .pan y ∧ y = flt x
 | .ok (t, q) => ∃ u, w = .v u ∧ ∃ a1 a2 a3 X, u = .agg [a1, a2, a3] ∧ N = rdO br s q :: X ∧ ItW X t [a1, a2, a3]
def ItemC (f : Nat) : Prop := ∀ {b : List UInt8} {A : Option (Nat × Nat)} {c : Nat} {o : Bool} {p e d br : Nat} {hp : Hp} {r : Except Flt (It × Nat)}, SV ⟨hp, [br]⟩ hp [rdO br (.sl A b.length c o) p] → RB ⟨hp, [br]⟩ A (b.map byV) → b.length ≤ c → p ≤ e → e ≤ b.length → b.length ≤ 1048576 → d ≤ 80 → itemS f b p e d = some r → Fn kxD 67 [.p (some (br, 0)), .i .i64 (e : Nat), .i .i64 (d : Nat)] hp [br] (itQ (.sl A b.length c o) br r)
def ListC (f : Nat) : Prop := ∀ {b : List UInt8} {A : Option (Nat × Nat)} {c : Nat} {o : Bool} {p e d br : Nat} {hp : Hp} {r : Except Flt (It × Nat)}, SV ⟨hp, [br]⟩ hp [rdO br (.sl A b.length c o) p] → RB ⟨hp, [br]⟩ A (b.map byV) → b.length ≤ c → p ≤ e → e ≤ b.length → b.length ≤ 1048576 → d ≤ 80 → listS f b p e d [] = some r → Fn kxD 71 [.p (some (br, 0)), .i .i64 (e : Nat), .i .i64 (d : Nat)] hp [br] (itQ (.sl A b.length c o) br r)
set_option maxHeartbeats 32000000 in
theorem item_d {F : Nat} (hL : ∀ g, g < F → ListC g) : ItemC F := by
 intro b A c o p e d br hp r h0 hb hc hpe he hl hd hr
 cases F with
 | zero => simp [itemS] at hr
 | succ F => ?_
 have hLF : ListC F := hL F (Nat.lt_succ_self F)
 rw [itemS] at hr
 refine Fn.dropC ?_
 by_cases g0 : p = e
 ·rw [if_pos g0] at hr
  obtain rfl := Option.some.inj hr
  refine fn_of_w h0 (fun _ => rfl) (fn := Try.f67) (by kernel_rfl) rfl rfl ?_
  refine wo ?_
  first | (apply p_op; exact (vwant_n rfl); iterate 4 exact rfl) | (apply d_op; exact (vwant_n rfl); exact rfl; exact noRd rfl; decide +kernel; (iterate 3 exact rfl); rotate_left) | (apply p_op; exact (vwant_g rfl rfl rfl); iterate 4 exact rfl) | (apply d_op; exact (vwant_g rfl rfl rfl); exact rfl; exact noRd rfl; decide +kernel; (iterate 3 exact rfl); rotate_left)
  refine e_alloc rfl fun bo => ⟨_, rfl, ?_⟩
  try (case hok => first | exact rdOk_nil | exact rdOk_b (by decide +kernel) | exact rdOk_c | (repeat (first | exact rdOk_e | refine rdOk_d (by decide +kernel) ?_ | refine rdOk_n ?_)))
  refine wo ?_
  first | (apply wm; iterate 5 exact rfl) | (apply dm; iterate 6 exact rfl) | (apply wmg; iterate 7 exact rfl) | (apply dmg; iterate 8 exact rfl)
  refine mv_int (v := .b true) rfl rfl (vi_eqlT (by omega))
  refine wo ?_
  first | (apply wn; iterate 5 exact rfl) | (apply dn; iterate 5 exact rfl) | (apply wg; iterate 7 exact rfl) | (apply dg; iterate 7 exact rfl)
  refine p_buildS (C := [.i .i64 (p : Nat), .i .i64 50]) (.cons rfl rfl rfl rfl (Nat.le_of_ble_eq_true rfl) (.cons rfl rfl rfl rfl (Nat.le_of_ble_eq_true rfl) .nil)) rfl
  first | (apply wn; iterate 5 exact rfl) | (apply dn; iterate 5 exact rfl) | (apply wg; iterate 7 exact rfl) | (apply dg; iterate 7 exact rfl)
  refine pv_mkif (td_st rfl) rfl
  refine p_panic (vwant_n rfl) rfl ?_
  exact wend_pan ⟨[], cle, _, rfl, rfl⟩
 rw [if_neg g0] at hr
 obtain ⟨ba, oa, rfl⟩ := rb_spot hb (by omega)
 have hx := byte_at (b := b) (p := p) (by omega)
 have hx4 := bAt_lt b p
 refine fn_of_w h0 (fun _ => rfl) (fn := Try.f67) (by kernel_rfl) rfl rfl ?_
 refine wo ?_
 first | (apply p_op; exact (vwant_n rfl); iterate 4 exact rfl) | (apply d_op; exact (vwant_n rfl); exact rfl; exact noRd rfl; decide +kernel; (iterate 3 exact rfl); rotate_left) | (apply p_op; exact (vwant_g rfl rfl rfl); iterate 4 exact rfl) | (apply d_op; exact (vwant_g rfl rfl rfl); exact rfl; exact noRd rfl; decide +kernel; (iterate 3 exact rfl); rotate_left)
 refine e_alloc rfl fun bo => ⟨_, rfl, ?_⟩
 try (case hok => first | exact rdOk_nil | exact rdOk_b (by decide +kernel) | exact rdOk_c | (repeat (first | exact rdOk_e | refine rdOk_d (by decide +kernel) ?_ | refine rdOk_n ?_)))
 refine wo ?_
 first | (apply wm; iterate 5 exact rfl) | (apply dm; iterate 6 exact rfl) | (apply wmg; iterate 7 exact rfl) | (apply dmg; iterate 8 exact rfl)
 refine mv_int (v := .b false) rfl rfl (vi_eqlF (by omega))
 refine wo ?_
 first | (apply wn; iterate 5 exact rfl) | (apply dn; iterate 5 exact rfl) | (apply wg; iterate 7 exact rfl) | (apply dg; iterate 7 exact rfl)
 refine p_ia rfl rfl (by omega)
 first | (apply wm; iterate 5 exact rfl) | (apply dm; iterate 6 exact rfl) | (apply wmg; iterate 7 exact rfl) | (apply dmg; iterate 8 exact rfl)
 refine m_ldN (j := p) rfl hb.1 hb.2 rfl hx
 refine wo ?_
 by_cases g1 : bAt b p < 128
 ·rw [if_pos g1] at hr
  obtain rfl := Option.some.inj hr
  first | (apply wm; iterate 5 exact rfl) | (apply dm; iterate 6 exact rfl) | (apply wmg; iterate 7 exact rfl) | (apply dmg; iterate 8 exact rfl)
  refine mv_int (v := .b true) rfl rfl (vi_lssT (by omega))
  refine wo ?_
  first | (apply p_do; exact (vwant_n rfl); exact rfl; exact rfl) | (apply d_do; exact (vwant_n rfl); exact rfl; exact noRd rfl; decide +kernel; exact rfl; rotate_left) | (apply p_do; exact (vwant_g rfl rfl rfl); exact rfl; exact rfl) | (apply d_do; exact (vwant_g rfl rfl rfl); exact rfl; exact noRd rfl; decide +kernel; exact rfl; rotate_left)
  refine e_st (C' := [.sl (some (ba, oa)) b.length c o, .i .i64 ((p + 1 : Nat) : Int)]) rfl rfl rfl (Nat.le_of_ble_eq_true rfl) rfl ⟨_, rfl, ?_⟩
  try (case hok => first | exact rdOk_nil | exact rdOk_b (by decide +kernel) | exact rdOk_c | (repeat (first | exact rdOk_e | refine rdOk_d (by decide +kernel) ?_ | refine rdOk_n ?_)))
  refine wo ?_
  first | (apply p_op; exact (vwant_n rfl); iterate 4 exact rfl) | (apply d_op; exact (vwant_n rfl); exact rfl; exact noRd rfl; decide +kernel; (iterate 3 exact rfl); rotate_left) | (apply p_op; exact (vwant_g rfl rfl rfl); iterate 4 exact rfl) | (apply d_op; exact (vwant_g rfl rfl rfl); exact rfl; exact noRd rfl; decide +kernel; (iterate 3 exact rfl); rotate_left)
  refine e_bs (C := [.i .u8 (bAt b p : Nat)]) rfl rfl (.cons rfl rfl .nil) rfl fun b1 => ⟨_, rfl, ?_⟩
  try (case hok => first | exact rdOk_nil | exact rdOk_b (by decide +kernel) | exact rdOk_c | (repeat (first | exact rdOk_e | refine rdOk_d (by decide +kernel) ?_ | refine rdOk_n ?_)))
  first | (apply wn; iterate 5 exact rfl) | (apply dn; iterate 5 exact rfl) | (apply wg; iterate 7 exact rfl) | (apply dg; iterate 7 exact rfl)
  refine p_buildS (C := [.b false, .sl (some (b1, 0)) 1 1 false, .sl none 0 0 false]) (.cons rfl rfl rfl rfl (Nat.le_of_ble_eq_true rfl) .nil) rfl
  first | (apply p_do; exact (vwant_n rfl); exact rfl; exact rfl) | (apply d_do; exact (vwant_n rfl); exact rfl; exact noRd rfl; decide +kernel; exact rfl; rotate_left) | (apply p_do; exact (vwant_g rfl rfl rfl); exact rfl; exact rfl) | (apply d_do; exact (vwant_g rfl rfl rfl); exact rfl; exact noRd rfl; decide +kernel; exact rfl; rotate_left)
  refine e_stn (C' := [.b false, .sl (some (b1, 0)) 1 1 false, .sl none 0 0 false]) rfl rfl (by simp) rfl (Nat.le_of_ble_eq_true rfl) rfl ⟨_, rfl, ?_⟩
  try (case hok => first | exact rdOk_nil | exact rdOk_b (by decide +kernel) | exact rdOk_c | (repeat (first | exact rdOk_e | refine rdOk_d (by decide +kernel) ?_ | refine rdOk_n ?_)))
  refine wo ?_
  refine w_ret (wend_ret (vres1 (rv_cell rfl rfl)) ⟨[(some br, cellsO [.sl (some (ba, oa)) b.length c o, .i .i64 ((p + 1) : Nat)] 106), (some b1, cellsO [.i .u8 (bAt b p : Nat)] 5)], cle, _, rfl, _, _, _, _, rfl, rfl, ?_⟩)
  rw [ItW]
  exact ⟨_, _, rfl, RowU.lit (by rw [List.map_cons, byV_bAt]; rfl) rfl, fun p hp => hp⟩
 rw [if_neg g1] at hr
 first | (apply wm; iterate 5 exact rfl) | (apply dm; iterate 6 exact rfl) | (apply wmg; iterate 7 exact rfl) | (apply dmg; iterate 8 exact rfl)
 refine mv_int (v := .b false) rfl rfl (vi_lssF (by omega))
 refine wo ?_
 by_cases g3 : 192 ≤ bAt b p ∧ 80 ≤ d
 ·rw [if_pos g3] at hr
  obtain rfl := Option.some.inj hr
  have g31 := g3.1
  have g32 := g3.2
  first | (apply wm; iterate 5 exact rfl) | (apply dm; iterate 6 exact rfl) | (apply wmg; iterate 7 exact rfl) | (apply dmg; iterate 8 exact rfl)
  refine mv_int (v := .b true) rfl rfl (vi_geqT (by omega))
  refine wo ?_
  first | (apply wm; iterate 5 exact rfl) | (apply dm; iterate 6 exact rfl) | (apply wmg; iterate 7 exact rfl) | (apply dmg; iterate 8 exact rfl)
  refine mv_int (v := .b true) rfl rfl (vi_geqT (by omega))
  refine wo ?_
  first | (apply wn; iterate 5 exact rfl) | (apply dn; iterate 5 exact rfl) | (apply wg; iterate 7 exact rfl) | (apply dg; iterate 7 exact rfl)
  refine p_buildS (C := [.i .i64 (p : Nat), .i .i64 53]) (.cons rfl rfl rfl rfl (Nat.le_of_ble_eq_true rfl) (.cons rfl rfl rfl rfl (Nat.le_of_ble_eq_true rfl) .nil)) rfl
  first | (apply wn; iterate 5 exact rfl) | (apply dn; iterate 5 exact rfl) | (apply wg; iterate 7 exact rfl) | (apply dg; iterate 7 exact rfl)
  refine pv_mkif (td_st rfl) rfl
  refine p_panic (vwant_n rfl) rfl ?_
  exact wend_pan ⟨[], cle, _, rfl, rfl⟩
 rw [if_neg g3] at hr
 cases hS : lenS b e p with
 | error x =>
  rw [hS] at hr
  obtain rfl := Option.some.inj hr
  have hC : ∀ {Lr : HV} (hp' : Hp), SV ⟨hp, [br]⟩ hp' ([rdO br (.sl (some (ba, oa)) b.length c o) p] ++ Lr) → SV ⟨hp', [br]⟩ hp' [rdO br (.sl (some (ba, oa)) b.length c o) p] → Fn kxD 70 [.p (some (br, 0)), .i .i64 (e : Nat)] hp' [br] fun r N => ∃ y, r = .pan y ∧ y = flt x := fun hp' hs ht => by
   have := rlen_d (p := p) (e := e) ht (hb.give hs) hc (by omega) he hl
   rw [hS] at this
   exact this
  by_cases g2 : 192 ≤ bAt b p
  ·have g4 : ¬ 80 ≤ d := fun h => g3 ⟨g2, h⟩
   first | (apply wm; iterate 5 exact rfl) | (apply dm; iterate 6 exact rfl) | (apply wmg; iterate 7 exact rfl) | (apply dmg; iterate 8 exact rfl)
   refine mv_int (v := .b true) rfl rfl (vi_geqT (by omega))
   refine wo ?_
   first | (apply wm; iterate 5 exact rfl) | (apply dm; iterate 6 exact rfl) | (apply wmg; iterate 7 exact rfl) | (apply dmg; iterate 8 exact rfl)
   refine mv_int (v := .b false) rfl rfl (vi_geqF (by omega))
   refine wo ?_
   refine p_callP [rdO br (.sl (some (ba, oa)) b.length c o) p] (vwant_n rfl) rfl rfl (fun hp' hs ht => hC hp' hs ht) ?_
   rintro y N rfl
   exact wend_pan ⟨[], cle, _, rfl, rfl⟩
  ·first | (apply wm; iterate 5 exact rfl) | (apply dm; iterate 6 exact rfl) | (apply wmg; iterate 7 exact rfl) | (apply dmg; iterate 8 exact rfl)
   refine mv_int (v := .b false) rfl rfl (vi_geqF (by omega))
   refine wo ?_
   refine p_callP [rdO br (.sl (some (ba, oa)) b.length c o) p] (vwant_n rfl) rfl rfl (fun hp' hs ht => hC hp' hs ht) ?_
   rintro y N rfl
   exact wend_pan ⟨[], cle, _, rfl, rfl⟩
 | ok nq =>
  obtain ⟨n, q⟩ := nq
  rw [hS] at hr
  dsimp only at hr
  obtain ⟨l1, l2, l3⟩ := lenS_ok (by omega) hS
  have hC : ∀ {Lr : HV} (hp' : Hp), SV ⟨hp, [br]⟩ hp' ([rdO br (.sl (some (ba, oa)) b.length c o) p] ++ Lr) → SV ⟨hp', [br]⟩ hp' [rdO br (.sl (some (ba, oa)) b.length c o) p] → Fn kxD 70 [.p (some (br, 0)), .i .i64 (e : Nat)] hp' [br] fun r N => ∃ u, r = .v u ∧ u = .i .i64 (n : Nat) ∧ N = [rdO br (.sl (some (ba, oa)) b.length c o) q] := fun hp' hs ht => by
   have := rlen_d (p := p) (e := e) ht (hb.give hs) hc (by omega) he hl
   rw [hS] at this
   exact this
  by_cases g2 : 192 ≤ bAt b p
  ·have g4 : ¬ 80 ≤ d := fun h => g3 ⟨g2, h⟩
   first | (apply wm; iterate 5 exact rfl) | (apply dm; iterate 6 exact rfl) | (apply wmg; iterate 7 exact rfl) | (apply dmg; iterate 8 exact rfl)
   refine mv_int (v := .b true) rfl rfl (vi_geqT (by omega))
   refine wo ?_
   first | (apply wm; iterate 5 exact rfl) | (apply dm; iterate 6 exact rfl) | (apply wmg; iterate 7 exact rfl) | (apply dmg; iterate 8 exact rfl)
   refine mv_int (v := .b false) rfl rfl (vi_geqF (by omega))
   refine wo ?_
   first | (apply p_callM ([rdO br (.sl (some (ba, oa)) b.length c o) p]); exact (vwant_n rfl); iterate 4 exact rfl) | (apply d_callM ([rdO br (.sl (some (ba, oa)) b.length c o) p]); exact (vwant_n rfl); decide +kernel; (iterate 4 exact rfl)) | (apply p_callM ([rdO br (.sl (some (ba, oa)) b.length c o) p]); exact (vwant_g rfl rfl rfl); iterate 4 exact rfl) | (apply d_callM ([rdO br (.sl (some (ba, oa)) b.length c o) p]); exact (vwant_g rfl rfl rfl); decide +kernel; (iterate 4 exact rfl))
   try (case hok => first | exact rdOk_nil | exact rdOk_b (by decide +kernel) | exact rdOk_c)
   case hC => exact (fun hp' hs ht => hC hp' hs ht)
   rintro u N ⟨rfl, rfl⟩
   refine wo ?_
   by_cases g5 : e < q + n
   ·rw [if_pos g5] at hr
    obtain rfl := Option.some.inj hr
    first | (apply wm; iterate 5 exact rfl) | (apply dm; iterate 6 exact rfl) | (apply wmg; iterate 7 exact rfl) | (apply dmg; iterate 8 exact rfl)
    refine mv_int (v := .b true) rfl rfl (vi_gtrT (by omega))
    refine wo ?_
    first | (apply wn; iterate 5 exact rfl) | (apply dn; iterate 5 exact rfl) | (apply wg; iterate 7 exact rfl) | (apply dg; iterate 7 exact rfl)
    refine p_buildS (C := [.i .i64 (p : Nat), .i .i64 50]) (.cons rfl rfl rfl rfl (Nat.le_of_ble_eq_true rfl) (.cons rfl rfl rfl rfl (Nat.le_of_ble_eq_true rfl) .nil)) rfl
    first | (apply wn; iterate 5 exact rfl) | (apply dn; iterate 5 exact rfl) | (apply wg; iterate 7 exact rfl) | (apply dg; iterate 7 exact rfl)
    refine pv_mkif (td_st rfl) rfl
    refine p_panic (vwant_n rfl) rfl ?_
    exact wend_pan ⟨[], cle, _, rfl, rfl⟩
   rw [if_neg g5, if_pos g2] at hr
   first | (apply wm; iterate 5 exact rfl) | (apply dm; iterate 6 exact rfl) | (apply wmg; iterate 7 exact rfl) | (apply dmg; iterate 8 exact rfl)
   refine mv_int (v := .b false) rfl rfl (vi_gtrF (by omega))
   refine wo ?_
   first | (apply wm; iterate 5 exact rfl) | (apply dm; iterate 6 exact rfl) | (apply wmg; iterate 7 exact rfl) | (apply dmg; iterate 8 exact rfl)
   refine mv_int (v := .b true) rfl rfl (vi_geqT (by omega))
   refine wo ?_
   cases r with
   | error x =>
    refine p_callP [rdO br (.sl (some (ba, oa)) b.length c o) q] (R := fun y _ => y = flt x) (vwant_n rfl) rfl rfl (fun hp' hs ht => hLF ht (hb.give hs) hc (by omega) (by omega) hl (by omega) hr) ?_
    rintro y N rfl
    exact wend_pan ⟨[], cle, _, rfl, rfl⟩
   | ok tq =>
    obtain ⟨t, q'⟩ := tq
    first | (apply p_callM ([rdO br (.sl (some (ba, oa)) b.length c o) q]); exact (vwant_n rfl); iterate 4 exact rfl) | (apply d_callM ([rdO br (.sl (some (ba, oa)) b.length c o) q]); exact (vwant_n rfl); decide +kernel; (iterate 4 exact rfl)) | (apply p_callM ([rdO br (.sl (some (ba, oa)) b.length c o) q]); exact (vwant_g rfl rfl rfl); iterate 4 exact rfl) | (apply d_callM ([rdO br (.sl (some (ba, oa)) b.length c o) q]); exact (vwant_g rfl rfl rfl); decide +kernel; (iterate 4 exact rfl))
    try (case hok => first | exact rdOk_nil | exact rdOk_b (by decide +kernel) | exact rdOk_c)
    case hC => exact (fun hp' hs ht => hLF ht (hb.give hs) hc (by omega) (by omega) hl (by omega) hr)
    rintro u N ⟨a1, a2, a3, X, rfl, rfl, hX⟩
    first | (apply p_do; exact (vwant_n rfl); exact rfl; exact rfl) | (apply d_do; exact (vwant_n rfl); exact rfl; exact noRd rfl; decide +kernel; exact rfl; rotate_left) | (apply p_do; exact (vwant_g rfl rfl rfl); exact rfl; exact rfl) | (apply d_do; exact (vwant_g rfl rfl rfl); exact rfl; exact noRd rfl; decide +kernel; exact rfl; rotate_left)
    refine e_stn (C' := [a1, a2, a3]) rfl rfl (by simp) rfl (Nat.le_of_ble_eq_true rfl) rfl ⟨_, rfl, ?_⟩
    try (case hok => first | exact rdOk_nil | exact rdOk_b (by decide +kernel) | exact rdOk_c | (repeat (first | exact rdOk_e | refine rdOk_d (by decide +kernel) ?_ | refine rdOk_n ?_)))
    refine wo ?_
    exact w_ret (wend_ret (vres1 (rv_cell rfl rfl)) ⟨rdO br (.sl (some (ba, oa)) b.length c o) q' :: X, cle, _, rfl, a1, a2, a3, X, rfl, rfl, hX⟩)
  ·first | (apply wm; iterate 5 exact rfl) | (apply dm; iterate 6 exact rfl) | (apply wmg; iterate 7 exact rfl) | (apply dmg; iterate 8 exact rfl)
   refine mv_int (v := .b false) rfl rfl (vi_geqF (by omega))
   refine wo ?_
   first | (apply p_callM ([rdO br (.sl (some (ba, oa)) b.length c o) p]); exact (vwant_n rfl); iterate 4 exact rfl) | (apply d_callM ([rdO br (.sl (some (ba, oa)) b.length c o) p]); exact (vwant_n rfl); decide +kernel; (iterate 4 exact rfl)) | (apply p_callM ([rdO br (.sl (some (ba, oa)) b.length c o) p]); exact (vwant_g rfl rfl rfl); iterate 4 exact rfl) | (apply d_callM ([rdO br (.sl (some (ba, oa)) b.length c o) p]); exact (vwant_g rfl rfl rfl); decide +kernel; (iterate 4 exact rfl))
   try (case hok => first | exact rdOk_nil | exact rdOk_b (by decide +kernel) | exact rdOk_c)
   case hC => exact (fun hp' hs ht => hC hp' hs ht)
   rintro u N ⟨rfl, rfl⟩
   refine wo ?_
   by_cases g5 : e < q + n
   ·rw [if_pos g5] at hr
    obtain rfl := Option.some.inj hr
    first | (apply wm; iterate 5 exact rfl) | (apply dm; iterate 6 exact rfl) | (apply wmg; iterate 7 exact rfl) | (apply dmg; iterate 8 exact rfl)
    refine mv_int (v := .b true) rfl rfl (vi_gtrT (by omega))
    refine wo ?_
    first | (apply wn; iterate 5 exact rfl) | (apply dn; iterate 5 exact rfl) | (apply wg; iterate 7 exact rfl) | (apply dg; iterate 7 exact rfl)
    refine p_buildS (C := [.i .i64 (p : Nat), .i .i64 50]) (.cons rfl rfl rfl rfl (Nat.le_of_ble_eq_true rfl) (.cons rfl rfl rfl rfl (Nat.le_of_ble_eq_true rfl) .nil)) rfl
    first | (apply wn; iterate 5 exact rfl) | (apply dn; iterate 5 exact rfl) | (apply wg; iterate 7 exact rfl) | (apply dg; iterate 7 exact rfl)
    refine pv_mkif (td_st rfl) rfl
    refine p_panic (vwant_n rfl) rfl ?_
    exact wend_pan ⟨[], cle, _, rfl, rfl⟩
   rw [if_neg g5, if_neg g2] at hr
   first | (apply wm; iterate 5 exact rfl) | (apply dm; iterate 6 exact rfl) | (apply wmg; iterate 7 exact rfl) | (apply dmg; iterate 8 exact rfl)
   refine mv_int (v := .b false) rfl rfl (vi_gtrF (by omega))
   refine wo ?_
   first | (apply wm; iterate 5 exact rfl) | (apply dm; iterate 6 exact rfl) | (apply wmg; iterate 7 exact rfl) | (apply dmg; iterate 8 exact rfl)
   refine mv_int (v := .b false) rfl rfl (vi_geqF (by omega))
   refine wo ?_
   first | (apply p_op; exact (vwant_n rfl); iterate 4 exact rfl) | (apply d_op; exact (vwant_n rfl); exact rfl; exact noRd rfl; decide +kernel; (iterate 3 exact rfl); rotate_left) | (apply p_op; exact (vwant_g rfl rfl rfl); iterate 4 exact rfl) | (apply d_op; exact (vwant_g rfl rfl rfl); exact rfl; exact noRd rfl; decide +kernel; (iterate 3 exact rfl); rotate_left)
   refine e_slH rfl (bl_some rfl) (bl_some rfl) (by omega) (Nat.le_add_right q n) (by omega) hc hb (by simp) fun a' c' hA' hc' => ⟨_, rfl, ?_⟩
   try (case hok => first | exact rdOk_nil | exact rdOk_b (by decide +kernel) | exact rdOk_c | (repeat (first | exact rdOk_e | refine rdOk_d (by decide +kernel) ?_ | refine rdOk_n ?_)))
   have hxl : ((b.drop q).take n).length = n := by rw [List.length_take, List.length_drop]; omega
   have hqn : q + n - q = n := by omega
   rw [hqn] at hA' hc'
   rw [hqn]
   rw [← List.map_drop, ← List.map_take] at hA'
   first | (apply p_callY []; exact (vwant_n rfl); iterate 4 exact rfl) | (apply d_callY []; exact (vwant_n rfl); decide +kernel; (iterate 4 exact rfl)) | (apply p_callY []; exact (vwant_g rfl rfl rfl); iterate 4 exact rfl) | (apply d_callY []; exact (vwant_g rfl rfl rfl); decide +kernel; (iterate 4 exact rfl))
   try (case hok => first | exact rdOk_nil | exact rdOk_b (by decide +kernel) | exact rdOk_c)
   case hC => exact (fun hp' hs ht => clone_w hs.ok hxl (hA'.imp (fun h => h.give0 hs) (fun h => by omega)) (by omega))
   rintro u N ⟨b1, o1, oo, rfl, rfl, ho1⟩
   refine wo ?_
   have hrow : RowK ((b.drop q).take n) (.sl (some (b1, 0)) n n o1) [(some b1, .cells (((b.drop q).take n).map byV) 5 oo false)] := by
    have := RowU.own (e := 5) (xs := (b.drop q).take n) (b := b1) ho1
    rw [hxl] at this
    exact this
   by_cases g6 : n = 1
   ·subst g6
    have hx1 : (((b.drop q).take 1).map byV)[0]? = some (.i .u8 (bAt b q : Nat)) := by
     rw [← byte_at (b := b) (p := q) (by omega), List.getElem?_map, List.getElem?_map, List.getElem?_take, if_pos (by decide), List.getElem?_drop, Nat.add_zero]
    have hy4 := bAt_lt b q
    first | (apply wm; iterate 5 exact rfl) | (apply dm; iterate 6 exact rfl) | (apply wmg; iterate 7 exact rfl) | (apply dmg; iterate 8 exact rfl)
    refine mv_int (v := .b true) rfl rfl (vi_eqlT (by omega))
    refine wo ?_
    first | (apply wn; iterate 5 exact rfl) | (apply dn; iterate 5 exact rfl) | (apply wg; iterate 7 exact rfl) | (apply dg; iterate 7 exact rfl)
    refine p_ia rfl rfl (by decide)
    first | refine zX (m_ldl rfl hx1) ?_ | refine yX (m_ldl rfl hx1) ?_
    by_cases g7 : bAt b q < 128
    ·rw [if_pos ⟨rfl, g7⟩] at hr
     obtain rfl := Option.some.inj hr
     first | (apply wm; iterate 5 exact rfl) | (apply dm; iterate 6 exact rfl) | (apply wmg; iterate 7 exact rfl) | (apply dmg; iterate 8 exact rfl)
     refine mv_int (v := .b true) rfl rfl (vi_lssT (by omega))
     refine wo ?_
     first | (apply wn; iterate 5 exact rfl) | (apply dn; iterate 5 exact rfl) | (apply wg; iterate 7 exact rfl) | (apply dg; iterate 7 exact rfl)
     refine p_buildS (C := [.i .i64 (p : Nat), .i .i64 52]) (.cons rfl rfl rfl rfl (Nat.le_of_ble_eq_true rfl) (.cons rfl rfl rfl rfl (Nat.le_of_ble_eq_true rfl) .nil)) rfl
     first | (apply wn; iterate 5 exact rfl) | (apply dn; iterate 5 exact rfl) | (apply wg; iterate 7 exact rfl) | (apply dg; iterate 7 exact rfl)
     refine pv_mkif (td_st rfl) rfl
     refine p_panic (vwant_n rfl) rfl ?_
     exact wend_pan ⟨[], cle, _, rfl, rfl⟩
    rw [if_neg (fun h => g7 h.2)] at hr
    obtain rfl := Option.some.inj hr
    first | (apply wm; iterate 5 exact rfl) | (apply dm; iterate 6 exact rfl) | (apply wmg; iterate 7 exact rfl) | (apply dmg; iterate 8 exact rfl)
    refine mv_int (v := .b false) rfl rfl (vi_lssF (by omega))
    refine wo ?_
    first | (apply p_do; exact (vwant_n rfl); exact rfl; exact rfl) | (apply d_do; exact (vwant_n rfl); exact rfl; exact noRd rfl; decide +kernel; exact rfl; rotate_left) | (apply p_do; exact (vwant_g rfl rfl rfl); exact rfl; exact rfl) | (apply d_do; exact (vwant_g rfl rfl rfl); exact rfl; exact noRd rfl; decide +kernel; exact rfl; rotate_left)
    refine e_st (C' := [.sl (some (ba, oa)) b.length c o, .i .i64 ((q + 1 : Nat) : Int)]) rfl rfl rfl (Nat.le_of_ble_eq_true rfl) rfl ⟨_, rfl, ?_⟩
    try (case hok => first | exact rdOk_nil | exact rdOk_b (by decide +kernel) | exact rdOk_c | (repeat (first | exact rdOk_e | refine rdOk_d (by decide +kernel) ?_ | refine rdOk_n ?_)))
    refine wo ?_
    first | (apply wn; iterate 5 exact rfl) | (apply dn; iterate 5 exact rfl) | (apply wg; iterate 7 exact rfl) | (apply dg; iterate 7 exact rfl)
    refine p_buildS (C := [.b false, .sl (some (b1, 0)) 1 1 o1, .sl none 0 0 false]) (.cons rfl rfl rfl rfl (Nat.le_of_ble_eq_true rfl) .nil) rfl
    first | (apply p_do; exact (vwant_n rfl); exact rfl; exact rfl) | (apply d_do; exact (vwant_n rfl); exact rfl; exact noRd rfl; decide +kernel; exact rfl; rotate_left) | (apply p_do; exact (vwant_g rfl rfl rfl); exact rfl; exact rfl) | (apply d_do; exact (vwant_g rfl rfl rfl); exact rfl; exact noRd rfl; decide +kernel; exact rfl; rotate_left)
    refine e_stn (C' := [.b false, .sl (some (b1, 0)) 1 1 o1, .sl none 0 0 false]) rfl rfl (by simp) rfl (Nat.le_of_ble_eq_true rfl) rfl ⟨_, rfl, ?_⟩
    try (case hok => first | exact rdOk_nil | exact rdOk_b (by decide +kernel) | exact rdOk_c | (repeat (first | exact rdOk_e | refine rdOk_d (by decide +kernel) ?_ | refine rdOk_n ?_)))
    refine wo ?_
    refine w_ret (wend_ret (vres1 (rv_cell rfl rfl)) ⟨[(some br, cellsO [.sl (some (ba, oa)) b.length c o, .i .i64 ((q + 1) : Nat)] 106), (some b1, .cells (((b.drop q).take 1).map byV) 5 oo false)], cle, _, rfl, _, _, _, _, rfl, rfl, ?_⟩)
    rw [ItW]
    exact ⟨_, _, rfl, hrow, fun p hp => hp⟩
   ·rw [if_neg (fun h => g6 h.1)] at hr
    obtain rfl := Option.some.inj hr
    first | (apply wm; iterate 5 exact rfl) | (apply dm; iterate 6 exact rfl) | (apply wmg; iterate 7 exact rfl) | (apply dmg; iterate 8 exact rfl)
    refine mv_int (v := .b false) rfl rfl (vi_eqlF (by omega))
    refine wo ?_
    first | (apply p_do; exact (vwant_n rfl); exact rfl; exact rfl) | (apply d_do; exact (vwant_n rfl); exact rfl; exact noRd rfl; decide +kernel; exact rfl; rotate_left) | (apply p_do; exact (vwant_g rfl rfl rfl); exact rfl; exact rfl) | (apply d_do; exact (vwant_g rfl rfl rfl); exact rfl; exact noRd rfl; decide +kernel; exact rfl; rotate_left)
    refine e_st (C' := [.sl (some (ba, oa)) b.length c o, .i .i64 ((q + n : Nat) : Int)]) rfl rfl rfl (Nat.le_of_ble_eq_true rfl) rfl ⟨_, rfl, ?_⟩
    try (case hok => first | exact rdOk_nil | exact rdOk_b (by decide +kernel) | exact rdOk_c | (repeat (first | exact rdOk_e | refine rdOk_d (by decide +kernel) ?_ | refine rdOk_n ?_)))
    refine wo ?_
    first | (apply wn; iterate 5 exact rfl) | (apply dn; iterate 5 exact rfl) | (apply wg; iterate 7 exact rfl) | (apply dg; iterate 7 exact rfl)
    refine p_buildS (C := [.b false, .sl (some (b1, 0)) n n o1, .sl none 0 0 false]) (.cons rfl rfl rfl rfl (Nat.le_of_ble_eq_true rfl) .nil) rfl
    first | (apply p_do; exact (vwant_n rfl); exact rfl; exact rfl) | (apply d_do; exact (vwant_n rfl); exact rfl; exact noRd rfl; decide +kernel; exact rfl; rotate_left) | (apply p_do; exact (vwant_g rfl rfl rfl); exact rfl; exact rfl) | (apply d_do; exact (vwant_g rfl rfl rfl); exact rfl; exact noRd rfl; decide +kernel; exact rfl; rotate_left)
    refine e_stn (C' := [.b false, .sl (some (b1, 0)) n n o1, .sl none 0 0 false]) rfl rfl (by simp) rfl (Nat.le_of_ble_eq_true rfl) rfl ⟨_, rfl, ?_⟩
    try (case hok => first | exact rdOk_nil | exact rdOk_b (by decide +kernel) | exact rdOk_c | (repeat (first | exact rdOk_e | refine rdOk_d (by decide +kernel) ?_ | refine rdOk_n ?_)))
    refine wo ?_
    refine w_ret (wend_ret (vres1 (rv_cell rfl rfl)) ⟨[(some br, cellsO [.sl (some (ba, oa)) b.length c o, .i .i64 ((q + n) : Nat)] 106), (some b1, .cells (((b.drop q).take n).map byV) 5 oo false)], cle, _, rfl, _, _, _, _, rfl, rfl, ?_⟩)
    rw [ItW]
    exact ⟨_, _, rfl, hrow, fun p hp => hp⟩
set_option maxHeartbeats 32000000 in
theorem list_d {F : Nat} (hI : ∀ g, g < F → ItemC g) : ListC F := by
 intro b A c o p e d br hp r h0 hb hc hpe he hl hd hr
 refine Fn.dropC ?_
 refine fn_of_w h0 (fun _ => rfl) (fn := Try.f71) (by kernel_rfl) rfl rfl ?_
 refine wo ?_
 first | (apply p_op; exact (vwant_n rfl); iterate 4 exact rfl) | (apply d_op; exact (vwant_n rfl); exact rfl; exact noRd rfl; decide +kernel; (iterate 3 exact rfl); rotate_left) | (apply p_op; exact (vwant_g rfl rfl rfl); iterate 4 exact rfl) | (apply d_op; exact (vwant_g rfl rfl rfl); exact rfl; exact noRd rfl; decide +kernel; (iterate 3 exact rfl); rotate_left)
 refine e_alloc rfl fun bo => ⟨_, rfl, ?_⟩
 try (case hok => first | exact rdOk_nil | exact rdOk_b (by decide +kernel) | exact rdOk_c | (repeat (first | exact rdOk_e | refine rdOk_d (by decide +kernel) ?_ | refine rdOk_n ?_)))
 refine wo ?_
 first | (apply wn; iterate 5 exact rfl) | (apply dn; iterate 5 exact rfl) | (apply wg; iterate 7 exact rfl) | (apply dg; iterate 7 exact rfl)
 refine p_buildS (C := [.b true, .sl none 0 0 false, .sl none 0 0 false]) (.cons rfl rfl rfl rfl (Nat.le_of_ble_eq_true rfl) .nil) rfl
 first | (apply p_op; exact (vwant_n rfl); iterate 4 exact rfl) | (apply d_op; exact (vwant_n rfl); exact rfl; exact noRd rfl; decide +kernel; (iterate 3 exact rfl); rotate_left) | (apply p_op; exact (vwant_g rfl rfl rfl); iterate 4 exact rfl) | (apply d_op; exact (vwant_g rfl rfl rfl); exact rfl; exact noRd rfl; decide +kernel; (iterate 3 exact rfl); rotate_left)
 refine e_alloc rfl fun bx => ⟨_, rfl, ?_⟩
 try (case hok => first | exact rdOk_nil | exact rdOk_b (by decide +kernel) | exact rdOk_c | (repeat (first | exact rdOk_e | refine rdOk_d (by decide +kernel) ?_ | refine rdOk_n ?_)))
 first | (apply p_do; exact (vwant_n rfl); exact rfl; exact rfl) | (apply d_do; exact (vwant_n rfl); exact rfl; exact noRd rfl; decide +kernel; exact rfl; rotate_left) | (apply p_do; exact (vwant_g rfl rfl rfl); exact rfl; exact rfl) | (apply d_do; exact (vwant_g rfl rfl rfl); exact rfl; exact noRd rfl; decide +kernel; exact rfl; rotate_left)
 refine e_stn (C' := [.b true, .sl none 0 0 false, .sl none 0 0 false]) rfl rfl (by simp) rfl (Nat.le_of_ble_eq_true rfl) rfl ⟨_, rfl, ?_⟩
 try (case hok => first | exact rdOk_nil | exact rdOk_b (by decide +kernel) | exact rdOk_c | (repeat (first | exact rdOk_e | refine rdOk_d (by decide +kernel) ?_ | refine rdOk_n ?_)))
 refine wo ?_
 refine w_seq ?_
 refine wo ?_
 refine w_loop (ι := Nat × Nat × Nat × List It × V × HV × HV × List (List V)) (fun s => [(7, .p (some (bx, 0))), (6, .p (some (bo, 0))), (2, .i .i64 (d : Nat)), (1, .i .i64 (e : Nat)), (0, .p (some (br, 0)))]) (fun s => (some bx, cellsO [.b true, .sl none 0 0 false, s.2.2.2.2.1] 63) :: (some bo, cellsO [.b false, .sl none 0 0 false, .sl none 0 0 false] 63) :: rdO br (.sl A b.length c o) s.1 :: (s.2.2.2.2.2.1 ++ s.2.2.2.2.2.2.1)) (fun s => s.1 ≤ e ∧ s.2.1 ≤ F ∧ s.2.2.1 ≤ s.1 ∧ s.2.2.2.1.length = s.2.2.1 ∧ listS s.2.1 b s.1 e d s.2.2.2.1 = some r ∧ RowG 63 3 s.2.2.1 s.2.2.2.2.2.2.2.flatten s.2.2.2.2.1 s.2.2.2.2.2.1 ∧ ItWs s.2.2.2.2.2.2.1 s.2.2.2.1 s.2.2.2.2.2.2.2) (fun s => e - s.1) (p, F, 0, [], .sl none 0 0 false, [], [], []) ⟨hpe, Nat.le_refl _, Nat.zero_le _, rfl, hr, .nil, (by rw [ItWs])⟩ ⟨rfl, rfl, rfl, rfl, rfl, trivial⟩ (fun hp h => h) ?_
 intro ⟨q, f, n, acc, w, N, X, us⟩ ⟨hq, hf, hnq, hn, hr, hw, hX⟩
 dsimp only at hq hf hnq hn hr hw hX ⊢
 obtain ⟨Aw, ow, rfl⟩ := hw.sl
 cases f with
 | zero => simp [listS] at hr
 | succ f => ?_
 rw [listS] at hr
 refine wo ?_
 by_cases g : q < e
 ·rw [if_pos g] at hr
  first | (apply wm; iterate 5 exact rfl) | (apply dm; iterate 6 exact rfl) | (apply wmg; iterate 7 exact rfl) | (apply dmg; iterate 8 exact rfl)
  refine mv_int (v := .b true) rfl rfl (vi_lssT (by omega))
  cases hi : itemS f b q e d with
  | none => rw [hi] at hr; simp at hr
  | some ri => ?_
  rw [hi] at hr
  have hIf : ItemC f := hI f (by omega)
  cases ri with
  | error x =>
   obtain rfl := Option.some.inj hr
   repeat (first | ((first | (apply wn; iterate 5 exact rfl) | (apply dn; iterate 5 exact rfl) | (apply wg; iterate 7 exact rfl) | (apply dg; iterate 7 exact rfl)); first | (apply pv_move; exact rfl) | (apply pv_assign; exact rfl) | (apply pv_nilc; exact rfl) | (apply pv_ext; exact rfl; exact rfl) | (apply p_fa; exact rfl) | (apply pv_not; exact rfl) | (apply pv_pickT; exact rfl; exact rfl) | (apply pv_pickF; exact rfl; exact rfl)) | ((first | (apply wm; iterate 5 exact rfl) | (apply dm; iterate 6 exact rfl) | (apply wmg; iterate 7 exact rfl) | (apply dmg; iterate 8 exact rfl)); first | (apply m_len; exact rfl) | exact mv_addN rfl rfl (by omega) | exact mv_subN rfl rfl (by omega) | exact mv_mulN rfl rfl (by omega)) | (apply ww; (iterate 5 exact rfl); exact m_ldl rfl rfl) | apply wl_nil | (apply w_seqN; exact rfl) | apply w_block | apply w_region | (apply w_condT; exact rfl) | (apply w_condF; exact rfl) | apply w_skip | apply w_label | apply wd_nil | refine dy rfl rfl rfl rfl rfl rfl (m_ldl rfl rfl) ?_ | (apply dw; (iterate 3 exact rfl); decide +kernel; (iterate 3 exact rfl); exact m_ldl rfl rfl) | (apply wi; iterate 6 exact rfl) | (apply wu; iterate 6 exact rfl) | (apply wi0; iterate 4 exact rfl) | (apply di; iterate 6 exact rfl) | (apply du; iterate 6 exact rfl) | (apply wwg; (iterate 7 exact rfl); exact m_ldl rfl rfl) | refine dyg rfl rfl rfl rfl rfl rfl rfl rfl (m_ldl rfl rfl) ?_ | (apply dwg; (iterate 5 exact rfl); decide +kernel; (iterate 3 exact rfl); exact m_ldl rfl rfl))
   refine w_dpan (by kernel_rfl) ?_
   refine wp_pure (vwant_n rfl) rfl rfl rfl rfl (p_fa rfl) ?_
   refine wp_rd (vwant_n rfl) rfl rfl rfl rfl rfl (m_ldl rfl rfl) ?_
   refine wp_pure (vwant_n rfl) rfl rfl rfl rfl (pv_move rfl) ?_
   refine wp_pure (vwant_n rfl) rfl rfl rfl rfl (pv_move rfl) ?_
   refine wp_pure (vwant_n rfl) rfl rfl rfl rfl (pv_move rfl) ?_
   refine wp_callP [rdO br (.sl A b.length c o) q] (R := fun y _ => y = flt x) (vwant_n rfl) rfl rfl rfl (fun hp' hs ht => hIf ht (hb.give hs) hc (by omega) he hl hd hi) ?_ ?_
   ·rintro y N' rfl
    exact wend_pan ⟨[], cle, _, rfl, rfl⟩
   refine wq_dep (by decide +kernel) ?_
   refine wq_dep (by decide +kernel) ?_
   refine wq_dep (by decide +kernel) ?_
   refine wq_dep (by decide +kernel) ?_
   exact wq_nil
  | ok tq =>
   obtain ⟨t, q'⟩ := tq
   dsimp only at hr
   obtain ⟨i1, i2⟩ := itemS_at hq hi
   refine wl_know (fun hp hs => notin_of (b := bx) (M := [rdO br (.sl A b.length c o) q]) hs) fun hnot => ?_
   haveI := hnot
   refine wo ?_
   first | (apply p_callM ([rdO br (.sl A b.length c o) q]); exact (vwant_n rfl); iterate 4 exact rfl) | (apply d_callM ([rdO br (.sl A b.length c o) q]); exact (vwant_n rfl); decide +kernel; (iterate 4 exact rfl)) | (apply p_callM ([rdO br (.sl A b.length c o) q]); exact (vwant_g rfl rfl rfl); iterate 4 exact rfl) | (apply d_callM ([rdO br (.sl A b.length c o) q]); exact (vwant_g rfl rfl rfl); decide +kernel; (iterate 4 exact rfl))
   try (case hok => first | exact rdOk_nil | exact rdOk_b (by decide +kernel) | exact rdOk_c)
   case hC => exact (fun hp' hs ht => hIf ht (hb.give hs) hc (by omega) he hl hd hi)
   rintro u N1 ⟨a1, a2, a3, X1, rfl, rfl, hX1⟩
   first | (apply p_op; exact (vwant_n rfl); iterate 4 exact rfl) | (apply d_op; exact (vwant_n rfl); exact rfl; exact noRd rfl; decide +kernel; (iterate 3 exact rfl); rotate_left) | (apply p_op; exact (vwant_g rfl rfl rfl); iterate 4 exact rfl) | (apply d_op; exact (vwant_g rfl rfl rfl); exact rfl; exact noRd rfl; decide +kernel; (iterate 3 exact rfl); rotate_left)
   refine e_bsn (C := [a1, a2, a3]) (n := 1) (sz := 3) rfl rfl (by decide) (.cons rfl rfl rfl .nil) rfl rfl fun b1 => ⟨_, rfl, ?_⟩
   try (case hok => first | exact rdOk_nil | exact rdOk_b (by decide +kernel) | exact rdOk_c | (repeat (first | exact rdOk_e | refine rdOk_d (by decide +kernel) ?_ | refine rdOk_n ?_)))
   first | (apply p_op; exact (vwant_n rfl); iterate 4 exact rfl) | (apply d_op; exact (vwant_n rfl); exact rfl; exact noRd rfl; decide +kernel; (iterate 3 exact rfl); rotate_left) | (apply p_op; exact (vwant_g rfl rfl rfl); iterate 4 exact rfl) | (apply d_op; exact (vwant_g rfl rfl rfl); exact rfl; exact noRd rfl; decide +kernel; (iterate 3 exact rfl); rotate_left)
   refine e_appN (n := 1) hw rfl rfl (rz_loc (k := 3) rfl) rfl (by decide) (by omega) fun A3 o3 N3 hw3 => ⟨_, rfl, ?_⟩
   try (case hok => first | exact rdOk_nil | exact rdOk_b (by decide +kernel) | exact rdOk_c | (repeat (first | exact rdOk_e | refine rdOk_d (by decide +kernel) ?_ | refine rdOk_n ?_)))
   refine wo ?_
   first | (apply p_do; exact (vwant_n rfl); exact rfl; exact rfl) | (apply d_do; exact (vwant_n rfl); exact rfl; exact noRd rfl; decide +kernel; exact rfl; rotate_left) | (apply p_do; exact (vwant_g rfl rfl rfl); exact rfl; exact rfl) | (apply d_do; exact (vwant_g rfl rfl rfl); exact rfl; exact noRd rfl; decide +kernel; exact rfl; rotate_left)
   refine e_st (C' := [.b true, .sl none 0 0 false, .sl A3 (n + 1) (n + 1) o3]) rfl rfl rfl (Nat.le_of_ble_eq_true rfl) rfl ⟨_, rfl, ?_⟩
   try (case hok => first | exact rdOk_nil | exact rdOk_b (by decide +kernel) | exact rdOk_c | (repeat (first | exact rdOk_e | refine rdOk_d (by decide +kernel) ?_ | refine rdOk_n ?_)))
   refine wo ?_
   refine ⟨rfl, (q', f, n + 1, acc ++ [t], .sl A3 (n + 1) (n + 1) o3, N3, X1 ++ X, us ++ [[a1, a2, a3]]), ⟨i2, by dsimp only; omega, by dsimp only; omega, by simp [hn], hr, by rw [flat_snoc]; exact hw3, ?_⟩, by dsimp only; omega, ⟨rfl, rfl, rfl, rfl, rfl, trivial⟩, fun hp h => h.le⟩
   exact itWs_snoc (itW_mono (fun p hp => List.mem_append_left _ hp) _ _ hX1) (itWs_mono (fun p hp => List.mem_append_right _ hp) _ _ hX)
 rw [if_neg g] at hr
 obtain rfl := Option.some.inj hr
 first | (apply wm; iterate 5 exact rfl) | (apply dm; iterate 6 exact rfl) | (apply wmg; iterate 7 exact rfl) | (apply dmg; iterate 8 exact rfl)
 refine mv_int (v := .b false) rfl rfl (vi_lssF (by omega))
 refine wo ?_
 refine w_exit ?_
 refine wo ?_
 first | refine zX (m_ldln (s := 2) (cs := [.b true, .sl none 0 0 false, .sl Aw n n ow]) rfl rfl rfl) ?_ | refine yX (m_ldln (s := 2) (cs := [.b true, .sl none 0 0 false, .sl Aw n n ow]) rfl rfl rfl) ?_
 first | (apply p_do; exact (vwant_n rfl); exact rfl; exact rfl) | (apply d_do; exact (vwant_n rfl); exact rfl; exact noRd rfl; decide +kernel; exact rfl; rotate_left) | (apply p_do; exact (vwant_g rfl rfl rfl); exact rfl; exact rfl) | (apply d_do; exact (vwant_g rfl rfl rfl); exact rfl; exact noRd rfl; decide +kernel; exact rfl; rotate_left)
 refine e_stn (C' := [.b true, .sl none 0 0 false, .sl Aw n n ow]) rfl rfl (by simp) rfl (Nat.le_of_ble_eq_true rfl) rfl ⟨_, rfl, ?_⟩
 try (case hok => first | exact rdOk_nil | exact rdOk_b (by decide +kernel) | exact rdOk_c | (repeat (first | exact rdOk_e | refine rdOk_d (by decide +kernel) ?_ | refine rdOk_n ?_)))
 refine wo ?_
 refine w_ret (wend_ret (vres1 (rv_cell rfl rfl)) ⟨rdO br (.sl A b.length c o) q :: (N ++ X), cle, _, rfl, _, _, _, N ++ X, rfl, rfl, ?_⟩)
 rw [ItW, hn]
 exact ⟨_, _, _, us, rfl, hw.sn fun p hp => List.mem_append_left _ hp, itWs_mono (fun p hp => List.mem_append_right _ hp) _ _ hX⟩
theorem reads : ∀ F, ItemC F ∧ ListC F := by
 intro F
 induction F using Nat.strongRecOn with
 | ind F ih => exact ⟨item_d fun g hg => (ih g hg).2, list_d fun g hg => (ih g hg).1⟩
end Go.Proofs.Ytabpegdalmagpaa
/- Dr4: reading bytes as an item: what gives up is caught. By this project. -/
set_option maxRecDepth 100000
namespace Go.Proofs.Ytabpegdalmagpaa
open Go.RowKit Go.Extern.Stop
section
variable {K : Kx} {hp0 : Bs} {l : VL} {L : HV} {a b : Operand} {t t' : TypeId}
theorem m_eqi0 {s : Nat} {v : V} [hI : IfcV K.C t] (hx : evL l a = some (.ifc s v)) (hy : evL l b = some .ni) : MVO K hp0 l L (.binOp .eql t a b t') (.b false) := mv_eql hx hy rfl fun hp => by
 obtain ⟨ti, h1, h2⟩ := hI.h
 simp only [veqOp, veq, h1, Option.bind_some, h2]
theorem m_eqn0 [hI : IfcV K.C t] (hx : evL l a = some .ni) (hy : evL l b = some .ni) (hc : (isConstO a || isConstO b) = true) : MVO K hp0 l L (.binOp .eql t a b t') (.b true) := mv_eql hx hy rfl fun hp => by
 obtain ⟨ti, h1, h2⟩ := hI.h
 simp only [veqOp, hc, veq, h1, Option.bind_some, h2]
end
theorem lenS_err {b : List UInt8} {e p : Nat} {x : Flt} (h : lenS b e p = .error x) : x.2 ≠ 0 := by
 unfold lenS at h
 split at h
 ·simp at h
 ·split at h
  ·obtain rfl := Except.error.inj h; simp
  ·split at h
   ·obtain rfl := Except.error.inj h; simp
   ·split at h
    ·obtain rfl := Except.error.inj h; simp
    ·split at h
     ·obtain rfl := Except.error.inj h; simp
     ·simp at h
mutual
theorem itemS_err : ∀ {f : Nat} {b : List UInt8} {p e d : Nat} {x : Flt}, itemS f b p e d = some (.error x) → x.2 ≠ 0
 | 0, b, p, e, d, x, h => by simp [itemS] at h
 | f + 1, b, p, e, d, x, h => by
  rw [itemS] at h
  split at h
  ·obtain rfl := Except.error.inj (Option.some.inj h); simp
  ·split at h
   ·simp at h
   ·split at h
    ·obtain rfl := Except.error.inj (Option.some.inj h); simp
    ·split at h
     ·rename_i hl
      obtain rfl := Except.error.inj (Option.some.inj h)
      exact lenS_err hl
     ·split at h
      ·obtain rfl := Except.error.inj (Option.some.inj h); simp
      ·split at h
       ·exact listS_err h
       ·split at h
        ·obtain rfl := Except.error.inj (Option.some.inj h); simp
        ·simp at h
theorem listS_err : ∀ {f : Nat} {b : List UInt8} {p e d : Nat} {acc : List It} {x : Flt}, listS f b p e d acc = some (.error x) → x.2 ≠ 0
 | 0, b, p, e, d, acc, x, h => by simp [listS] at h
 | f + 1, b, p, e, d, acc, x, h => by
  rw [listS] at h
  split at h
  ·split at h
   ·simp at h
   ·rename_i hi
    obtain rfl := Except.error.inj (Option.some.inj h)
    exact itemS_err hi
   ·exact listS_err h
  ·simp at h
end
def readS (b : List UInt8) : Except Flt (It × Nat) :=
 if 1048576 < b.length then .error (0, 54)
 else match itemS (2 * b.length + 1) b 0 b.length 0 with
  | some r => r
  | none => .error (0, 0)
theorem readS_err {b : List UInt8} {x : Flt} (h : readS b = .error x) : x.2 ≠ 0 := by
 unfold readS at h
 split at h
 ·obtain rfl := Except.error.inj h; simp
 ·obtain ⟨r, hr⟩ := itemS_some (2 * b.length + 1) b 0 b.length 0 (Nat.zero_le _) (by omega)
  rw [hr] at h
  dsimp only at h
  subst h
  exact itemS_err hr
theorem decS_of (b : List UInt8) : decS b = match readS b with
 | .error x => .error x
 | .ok (t, q) => if q < b.length then .error (q, 51) else .ok t := by
 unfold decS readS
 split
 ·rfl
 ·obtain ⟨r, hr⟩ := itemS_some (2 * b.length + 1) b 0 b.length 0 (Nat.zero_le _) (by omega)
  rw [hr]
  cases r with
  | error x => rfl
  | ok tq => rfl
abbrev zI : List V := [.b false, .sl none 0 0 false, .sl none 0 0 false]
set_option maxHeartbeats 8000000 in
theorem read1_df {b2 b3 b4 : Nat} {x : Flt} {B : Bs} {c2 c3 c4 : List V} {L : HV} (h2 : c2.length = 3) (h3 : c3.length = 1) (h4 : c4.length = 2) :
  DFn kxD 66 [.p (some (b2, 0)), .p (some (b3, 0)), .p (some (b4, 0))] (.pan (flt x) false) B ((some b2, cellsO c2 63) :: (some b3, cellsO c3 3) :: (some b4, cellsO c4 87) :: L) fun r u' L' => r = .v (.tup []) ∧ u' = .pan (flt x) true ∧ ∃ bt o, L' = (some bt, o) :: (some b2, cellsO zI 63) :: (some b3, cellsO [.i .i64 0] 3) :: (some b4, cellsO [.i .i64 (x.1 : Nat), .i .i64 (x.2 : Nat)] 87) :: L := by
 obtain ⟨y1, y2, y3, rfl⟩ : ∃ a b c, c2 = [a, b, c] := by
  match c2, h2 with
  | [a, b, c], _ => exact ⟨a, b, c, rfl⟩
 obtain ⟨y4, rfl⟩ : ∃ a, c3 = [a] := by
  match c3, h3 with
  | [a], _ => exact ⟨a, rfl⟩
 obtain ⟨y5, y6, rfl⟩ : ∃ a b, c4 = [a, b] := by
  match c4, h4 with
  | [a, b], _ => exact ⟨a, b, rfl⟩
 refine dfn_rec (fun _ => rfl) (fn := Try.f66) (by kernel_rfl) rfl rfl rfl rfl rfl rfl (by kernel_rfl) rfl ?_
 refine wo ?_
 apply wm; iterate 5 exact rfl
 refine m_eqi0 rfl rfl
 refine wo ?_
 apply wn; iterate 5 exact rfl
 refine pv_ta rfl rfl
 refine wo ?_
 apply p_op; exact (vwant_n rfl); iterate 4 exact rfl
 refine e_alloc rfl fun bt => ⟨_, rfl, ?_⟩
 apply p_do; exact (vwant_n rfl); exact rfl; exact rfl
 refine e_stn (C' := [.i .i64 (x.1 : Nat), .i .i64 (x.2 : Nat)]) rfl rfl (by simp) rfl (Nat.le_of_ble_eq_true rfl) rfl ⟨_, rfl, ?_⟩
 refine wl_know (fun hp hs => (⟨nin1 (b := bt) (b' := b2) hs (by decide), nin1 (b := bt) (b' := b3) hs (by decide), nin1 (b := bt) (b' := b4) hs (by decide)⟩ : NotIn bt [b2] ∧ NotIn bt [b3] ∧ NotIn bt [b4])) fun ⟨n2, n3, n4⟩ => ?_
 refine wo ?_
 apply dn; iterate 5 exact rfl
 refine p_buildS (C := zI) .nil rfl
 refine yX (m_ldln (s := 1) (cs := [.i .i64 (x.1 : Nat), .i .i64 (x.2 : Nat)]) rfl rfl rfl) ?_
 apply d_do; exact (vwant_n rfl); exact rfl; exact noRd rfl; decide +kernel; exact rfl; rotate_left
 refine e_stn (C' := zI) rfl rfl (by simp) rfl (Nat.le_of_ble_eq_true rfl) rfl ⟨_, rfl, ?_⟩
 try (case hok => exact rdOk_c)
 apply d_do; exact (vwant_n rfl); exact rfl; exact noRd rfl; decide +kernel; exact rfl; rotate_left
 refine e_st (C' := [.i .i64 0]) rfl rfl rfl (Nat.le_of_ble_eq_true rfl) rfl ⟨_, rfl, ?_⟩
 try (case hok => exact rdOk_c)
 apply d_do; exact (vwant_n rfl); exact rfl; exact noRd rfl; decide +kernel; exact rfl; rotate_left
 refine e_stn (C' := [.i .i64 (x.1 : Nat), .i .i64 (x.2 : Nat)]) rfl rfl (by simp) rfl (Nat.le_of_ble_eq_true rfl) rfl ⟨_, rfl, ?_⟩
 try (case hok => exact rdOk_b (by decide +kernel))
 refine wo ?_
 exact ⟨rfl, .tup [], vres0, rfl, rfl, bt, _, rfl⟩
set_option maxHeartbeats 8000000 in
theorem read1_df0 {b2 b3 b4 : Nat} {B : Bs} {L : HV} :
  DFn kxD 66 [.p (some (b2, 0)), .p (some (b3, 0)), .p (some (b4, 0))] .ret B L fun r u' L' => r = .v (.tup []) ∧ u' = .ret ∧ L' = L := by
 refine dfn_rec (fun _ => rfl) (fn := Try.f66) (by kernel_rfl) rfl rfl rfl rfl rfl rfl (by kernel_rfl) rfl ?_
 refine wo ?_
 apply wm; iterate 5 exact rfl
 refine m_eqn0 rfl rfl rfl
 refine wo ?_
 exact ⟨rfl, .tup [], vres0, rfl, rfl, rfl⟩
set_option maxHeartbeats 16000000 in
theorem read_d {A : Option (Nat × Nat)} {b : List UInt8} {c : Nat} {o : Bool} {hp : Hp} (ho : OkH hp) (hb : RB ⟨hp, []⟩ A (b.map byV)) (hc : b.length ≤ c) :
  Fn kxD 52 [.sl A b.length c o] hp [] fun r N => match readS b with
   | .error x => ∃ u, r = .v u ∧ u = .tup [.agg zI, .i .i64 0, .agg [.i .i64 (x.1 : Nat), .i .i64 (x.2 : Nat)]]
   | .ok (t, q) => ∃ u, r = .v u ∧ ∃ a1 a2 a3, u = .tup [.agg [a1, a2, a3], .i .i64 (q : Nat), .agg [.i .i64 0, .i .i64 0]] ∧ ItW N t [a1, a2, a3] := by
 refine Fn.dropC ?_
 unfold readS
 refine fn_of_w (T := []) ho.sv (fun _ => rfl) (fn := Try.f52) (by kernel_rfl) rfl rfl ?_
 refine wo ?_
 first | (apply p_op; exact (vwant_n rfl); iterate 4 exact rfl) | (apply d_op; exact (vwant_n rfl); exact rfl; exact noRd rfl; decide +kernel; (iterate 3 exact rfl); rotate_left) | (apply p_op; exact (vwant_g rfl rfl rfl); iterate 4 exact rfl) | (apply d_op; exact (vwant_g rfl rfl rfl); exact rfl; exact noRd rfl; decide +kernel; (iterate 3 exact rfl); rotate_left)
 refine e_alloc rfl fun b2 => ⟨_, rfl, ?_⟩
 try (case hok => first | exact rdOk_nil | exact rdOk_b (by decide +kernel) | exact rdOk_c | (repeat (first | exact rdOk_e | refine rdOk_d (by decide +kernel) ?_ | refine rdOk_n ?_)))
 first | (apply p_op; exact (vwant_n rfl); iterate 4 exact rfl) | (apply d_op; exact (vwant_n rfl); exact rfl; exact noRd rfl; decide +kernel; (iterate 3 exact rfl); rotate_left) | (apply p_op; exact (vwant_g rfl rfl rfl); iterate 4 exact rfl) | (apply d_op; exact (vwant_g rfl rfl rfl); exact rfl; exact noRd rfl; decide +kernel; (iterate 3 exact rfl); rotate_left)
 refine e_alloc rfl fun b3 => ⟨_, rfl, ?_⟩
 try (case hok => first | exact rdOk_nil | exact rdOk_b (by decide +kernel) | exact rdOk_c | (repeat (first | exact rdOk_e | refine rdOk_d (by decide +kernel) ?_ | refine rdOk_n ?_)))
 first | (apply p_op; exact (vwant_n rfl); iterate 4 exact rfl) | (apply d_op; exact (vwant_n rfl); exact rfl; exact noRd rfl; decide +kernel; (iterate 3 exact rfl); rotate_left) | (apply p_op; exact (vwant_g rfl rfl rfl); iterate 4 exact rfl) | (apply d_op; exact (vwant_g rfl rfl rfl); exact rfl; exact noRd rfl; decide +kernel; (iterate 3 exact rfl); rotate_left)
 refine e_alloc rfl fun b4 => ⟨_, rfl, ?_⟩
 try (case hok => first | exact rdOk_nil | exact rdOk_b (by decide +kernel) | exact rdOk_c | (repeat (first | exact rdOk_e | refine rdOk_d (by decide +kernel) ?_ | refine rdOk_n ?_)))
 refine wo ?_
 by_cases g : 1048576 < b.length
 ·rw [if_pos g]
  first | (apply wm; iterate 5 exact rfl) | (apply dm; iterate 6 exact rfl) | (apply wmg; iterate 7 exact rfl) | (apply dmg; iterate 8 exact rfl)
  refine mv_int (v := .b true) rfl rfl (vi_gtrT (by omega))
  refine wo ?_
  first | (apply wn; iterate 5 exact rfl) | (apply dn; iterate 5 exact rfl) | (apply wg; iterate 7 exact rfl) | (apply dg; iterate 7 exact rfl)
  refine p_buildS (C := zI) .nil rfl
  first | (apply wn; iterate 5 exact rfl) | (apply dn; iterate 5 exact rfl) | (apply wg; iterate 7 exact rfl) | (apply dg; iterate 7 exact rfl)
  refine p_buildS (C := [.i .i64 0, .i .i64 54]) (.cons rfl rfl rfl rfl (Nat.le_of_ble_eq_true rfl) (.cons rfl rfl rfl rfl (Nat.le_of_ble_eq_true rfl) .nil)) rfl
  first | (apply p_do; exact (vwant_n rfl); exact rfl; exact rfl) | (apply d_do; exact (vwant_n rfl); exact rfl; exact noRd rfl; decide +kernel; exact rfl; rotate_left) | (apply p_do; exact (vwant_g rfl rfl rfl); exact rfl; exact rfl) | (apply d_do; exact (vwant_g rfl rfl rfl); exact rfl; exact noRd rfl; decide +kernel; exact rfl; rotate_left)
  refine e_stn (C' := zI) rfl rfl (by simp) rfl (Nat.le_of_ble_eq_true rfl) rfl ⟨_, rfl, ?_⟩
  try (case hok => first | exact rdOk_nil | exact rdOk_b (by decide +kernel) | exact rdOk_c | (repeat (first | exact rdOk_e | refine rdOk_d (by decide +kernel) ?_ | refine rdOk_n ?_)))
  first | (apply p_do; exact (vwant_n rfl); exact rfl; exact rfl) | (apply d_do; exact (vwant_n rfl); exact rfl; exact noRd rfl; decide +kernel; exact rfl; rotate_left) | (apply p_do; exact (vwant_g rfl rfl rfl); exact rfl; exact rfl) | (apply d_do; exact (vwant_g rfl rfl rfl); exact rfl; exact noRd rfl; decide +kernel; exact rfl; rotate_left)
  refine e_st (C' := [.i .i64 0]) rfl rfl rfl (Nat.le_of_ble_eq_true rfl) rfl ⟨_, rfl, ?_⟩
  try (case hok => first | exact rdOk_nil | exact rdOk_b (by decide +kernel) | exact rdOk_c | (repeat (first | exact rdOk_e | refine rdOk_d (by decide +kernel) ?_ | refine rdOk_n ?_)))
  first | (apply p_do; exact (vwant_n rfl); exact rfl; exact rfl) | (apply d_do; exact (vwant_n rfl); exact rfl; exact noRd rfl; decide +kernel; exact rfl; rotate_left) | (apply p_do; exact (vwant_g rfl rfl rfl); exact rfl; exact rfl) | (apply d_do; exact (vwant_g rfl rfl rfl); exact rfl; exact noRd rfl; decide +kernel; exact rfl; rotate_left)
  refine e_stn (C' := [.i .i64 0, .i .i64 54]) rfl rfl (by simp) rfl (Nat.le_of_ble_eq_true rfl) rfl ⟨_, rfl, ?_⟩
  try (case hok => first | exact rdOk_nil | exact rdOk_b (by decide +kernel) | exact rdOk_c | (repeat (first | exact rdOk_e | refine rdOk_d (by decide +kernel) ?_ | refine rdOk_n ?_)))
  refine wo ?_
  exact w_ret (wend_ret (vres3 (rv_cell rfl rfl) (rv_cell1 rfl rfl) (rv_cell rfl rfl)) ⟨[], cle, _, rfl, rfl⟩)
 rw [if_neg g]
 obtain ⟨r, hr⟩ := itemS_some (2 * b.length + 1) b 0 b.length 0 (Nat.zero_le _) (by omega)
 rw [hr]
 dsimp only
 first | (apply wm; iterate 5 exact rfl) | (apply dm; iterate 6 exact rfl) | (apply wmg; iterate 7 exact rfl) | (apply dmg; iterate 8 exact rfl)
 refine mv_int (v := .b false) rfl rfl (vi_gtrF (by omega))
 refine wo ?_
 first | (apply wn; iterate 5 exact rfl) | (apply dn; iterate 5 exact rfl) | (apply wg; iterate 7 exact rfl) | (apply dg; iterate 7 exact rfl)
 refine pv_mkfn rfl rfl
 refine wl_defer (vwant_n rfl) rfl rfl rfl rfl rfl ?_
 refine wo ?_
 first | (apply wn; iterate 5 exact rfl) | (apply dn; iterate 5 exact rfl) | (apply wg; iterate 7 exact rfl) | (apply dg; iterate 7 exact rfl)
 refine p_buildS (C := [.sl A b.length c o, .i .i64 0]) (.cons rfl rfl rfl rfl (Nat.le_of_ble_eq_true rfl) .nil) rfl
 first | (apply p_op; exact (vwant_n rfl); iterate 4 exact rfl) | (apply d_op; exact (vwant_n rfl); exact rfl; exact noRd rfl; decide +kernel; (iterate 3 exact rfl); rotate_left) | (apply p_op; exact (vwant_g rfl rfl rfl); iterate 4 exact rfl) | (apply d_op; exact (vwant_g rfl rfl rfl); exact rfl; exact noRd rfl; decide +kernel; (iterate 3 exact rfl); rotate_left)
 refine ev_box rfl rfl fun br => ⟨_, rfl, ?_⟩
 try (case hok => first | exact rdOk_nil | exact rdOk_b (by decide +kernel) | exact rdOk_c | (repeat (first | exact rdOk_e | refine rdOk_d (by decide +kernel) ?_ | refine rdOk_n ?_)))
 refine wo ?_
 cases r with
 | error x =>
  refine p_callP [rdO br (.sl A b.length c o) 0] (R := fun y _ => y = flt x) (vwant_n rfl) rfl rfl (fun hp' hs ht => (reads _).1 ht (hb.give hs) hc (Nat.zero_le _) (Nat.le_refl _) (by omega) (by decide) hr) ?_
  rintro y N rfl
  refine ⟨.pan (flt x) false, rfl, fun hp' hs => ?_⟩
  obtain ⟨r, u', hp2, L2, h1, h2, h3, rfl, rfl, bt, o', rfl⟩ := read1_df (x := x) (b2 := b2) (b3 := b3) (b4 := b4) (c2 := zI) (c3 := [.i .i64 0]) (c4 := [.i .i64 0, .i .i64 0]) (L := []) rfl rfl rfl hp' (hs.tail.pick [2, 1, 0] _ rfl (by decide))
  exact ⟨_, _, hp2, _, h1, h2, h3, _, vres3 (rv_cell rfl rfl) (rv_cell1 rfl rfl) (rv_cell rfl rfl), [], cle, _, rfl, rfl⟩
 | ok tq =>
  obtain ⟨t, q⟩ := tq
  first | (apply p_callM ([rdO br (.sl A b.length c o) 0]); exact (vwant_n rfl); iterate 4 exact rfl) | (apply d_callM ([rdO br (.sl A b.length c o) 0]); exact (vwant_n rfl); decide +kernel; (iterate 4 exact rfl)) | (apply p_callM ([rdO br (.sl A b.length c o) 0]); exact (vwant_g rfl rfl rfl); iterate 4 exact rfl) | (apply d_callM ([rdO br (.sl A b.length c o) 0]); exact (vwant_g rfl rfl rfl); decide +kernel; (iterate 4 exact rfl))
  try (case hok => first | exact rdOk_nil | exact rdOk_b (by decide +kernel) | exact rdOk_c)
  case hC => exact (fun hp' hs ht => (reads _).1 ht (hb.give hs) hc (Nat.zero_le _) (Nat.le_refl _) (by omega) (by decide) hr)
  rintro u N ⟨a1, a2, a3, X, rfl, rfl, hX⟩
  first | (apply p_do; exact (vwant_n rfl); exact rfl; exact rfl) | (apply d_do; exact (vwant_n rfl); exact rfl; exact noRd rfl; decide +kernel; exact rfl; rotate_left) | (apply p_do; exact (vwant_g rfl rfl rfl); exact rfl; exact rfl) | (apply d_do; exact (vwant_g rfl rfl rfl); exact rfl; exact noRd rfl; decide +kernel; exact rfl; rotate_left)
  refine e_stn (C' := [a1, a2, a3]) rfl rfl (by simp) rfl (Nat.le_of_ble_eq_true rfl) rfl ⟨_, rfl, ?_⟩
  try (case hok => first | exact rdOk_nil | exact rdOk_b (by decide +kernel) | exact rdOk_c | (repeat (first | exact rdOk_e | refine rdOk_d (by decide +kernel) ?_ | refine rdOk_n ?_)))
  refine wl_know (fun hp hs => (⟨nin1 (b := br) (b' := b2) hs (by omega), nin1 (b := br) (b' := b3) hs (by omega), nin1 (b := br) (b' := b4) hs (by omega), nin1 (b := b2) (b' := b3) hs (by omega), nin1 (b := b2) (b' := b4) hs (by omega)⟩ : NotIn br [b2] ∧ NotIn br [b3] ∧ NotIn br [b4] ∧ NotIn b2 [b3] ∧ NotIn b2 [b4])) fun ⟨n2, n3, n4, n5, n6⟩ => ?_
  refine wo ?_
  first | refine zX (m_ldln (s := 2) (cs := [a1, a2, a3]) rfl rfl rfl) ?_ | refine yX (m_ldln (s := 2) (cs := [a1, a2, a3]) rfl rfl rfl) ?_
  refine wo ?_
  first | (apply wn; iterate 5 exact rfl) | (apply dn; iterate 5 exact rfl) | (apply wg; iterate 7 exact rfl) | (apply dg; iterate 7 exact rfl)
  refine p_buildS (C := [.i .i64 0, .i .i64 0]) .nil rfl
  first | (apply p_do; exact (vwant_n rfl); exact rfl; exact rfl) | (apply d_do; exact (vwant_n rfl); exact rfl; exact noRd rfl; decide +kernel; exact rfl; rotate_left) | (apply p_do; exact (vwant_g rfl rfl rfl); exact rfl; exact rfl) | (apply d_do; exact (vwant_g rfl rfl rfl); exact rfl; exact noRd rfl; decide +kernel; exact rfl; rotate_left)
  refine e_stn (C' := [a1, a2, a3]) rfl rfl (by simp) rfl (Nat.le_of_ble_eq_true rfl) rfl ⟨_, rfl, ?_⟩
  try (case hok => first | exact rdOk_nil | exact rdOk_b (by decide +kernel) | exact rdOk_c | (repeat (first | exact rdOk_e | refine rdOk_d (by decide +kernel) ?_ | refine rdOk_n ?_)))
  first | (apply p_do; exact (vwant_n rfl); exact rfl; exact rfl) | (apply d_do; exact (vwant_n rfl); exact rfl; exact noRd rfl; decide +kernel; exact rfl; rotate_left) | (apply p_do; exact (vwant_g rfl rfl rfl); exact rfl; exact rfl) | (apply d_do; exact (vwant_g rfl rfl rfl); exact rfl; exact noRd rfl; decide +kernel; exact rfl; rotate_left)
  refine e_st (C' := [.i .i64 (q : Nat)]) rfl rfl rfl (Nat.le_of_ble_eq_true rfl) rfl ⟨_, rfl, ?_⟩
  try (case hok => first | exact rdOk_nil | exact rdOk_b (by decide +kernel) | exact rdOk_c | (repeat (first | exact rdOk_e | refine rdOk_d (by decide +kernel) ?_ | refine rdOk_n ?_)))
  first | (apply p_do; exact (vwant_n rfl); exact rfl; exact rfl) | (apply d_do; exact (vwant_n rfl); exact rfl; exact noRd rfl; decide +kernel; exact rfl; rotate_left) | (apply p_do; exact (vwant_g rfl rfl rfl); exact rfl; exact rfl) | (apply d_do; exact (vwant_g rfl rfl rfl); exact rfl; exact noRd rfl; decide +kernel; exact rfl; rotate_left)
  refine e_stn (C' := [.i .i64 0, .i .i64 0]) rfl rfl (by simp) rfl (Nat.le_of_ble_eq_true rfl) rfl ⟨_, rfl, ?_⟩
  try (case hok => first | exact rdOk_nil | exact rdOk_b (by decide +kernel) | exact rdOk_c | (repeat (first | exact rdOk_e | refine rdOk_d (by decide +kernel) ?_ | refine rdOk_n ?_)))
  refine wo ?_
  refine w_ret ⟨.ret, rfl, fun hp' hs => ?_⟩
  obtain ⟨r, u', hp2, L2, h1, h2, h3, rfl, rfl, rfl⟩ := read1_df0 (b2 := b2) (b3 := b3) (b4 := b4) hp' hs
  exact ⟨_, _, hp2, _, h1, h2, h3, _, vres3 (rv_cell rfl rfl) (rv_cell1 rfl rfl) (rv_cell rfl rfl), X, cle, _, rfl, a1, a2, a3, rfl, hX⟩
set_option maxHeartbeats 16000000 in
theorem decode_w {A : Option (Nat × Nat)} {b : List UInt8} {c : Nat} {o : Bool} {hp : Hp} (ho : OkH hp) (hb : RB ⟨hp, []⟩ A (b.map byV)) (hc : b.length ≤ c) :
  Fn kxD 28 [.sl A b.length c o] hp [] fun r N => match decS b with
   | .error x => ∃ u, r = .v u ∧ u = .tup [.agg zI, .i .i64 (x.1 : Nat), .i .i64 (x.2 : Nat)]
   | .ok t => ∃ u, r = .v u ∧ ∃ a1 a2 a3, u = .tup [.agg [a1, a2, a3], .i .i64 0, .i .i64 0] ∧ ItW N t [a1, a2, a3] := by
 refine Fn.dropC ?_
 rw [decS_of]
 refine fn_of_w (T := []) ho.sv (fun _ => rfl) (fn := Try.f28) (by kernel_rfl) rfl rfl ?_
 refine wo ?_
 first | (apply p_op; exact (vwant_n rfl); iterate 4 exact rfl) | (apply d_op; exact (vwant_n rfl); exact rfl; exact noRd rfl; decide +kernel; (iterate 3 exact rfl); rotate_left) | (apply p_op; exact (vwant_g rfl rfl rfl); iterate 4 exact rfl) | (apply d_op; exact (vwant_g rfl rfl rfl); exact rfl; exact noRd rfl; decide +kernel; (iterate 3 exact rfl); rotate_left)
 refine e_alloc rfl fun b2 => ⟨_, rfl, ?_⟩
 try (case hok => first | exact rdOk_nil | exact rdOk_b (by decide +kernel) | exact rdOk_c | (repeat (first | exact rdOk_e | refine rdOk_d (by decide +kernel) ?_ | refine rdOk_n ?_)))
 refine wo ?_
 cases hS : readS b with
 | error x =>
  have hx := readS_err hS
  have hC : ∀ {L : HV} {hp' : Hp}, SV ⟨hp, []⟩ hp' L → OkH hp' → Fn kxD 52 [.sl A b.length c o] hp' [] fun r N => ∃ u, r = .v u ∧ u = .tup [.agg zI, .i .i64 0, .agg [.i .i64 (x.1 : Nat), .i .i64 (x.2 : Nat)]] := fun hs ho => by
   have := read_d (o := o) ho (hb.give0 hs) hc
   rw [hS] at this
   exact this
  first | (apply p_callY []; exact (vwant_n rfl); iterate 4 exact rfl) | (apply d_callY []; exact (vwant_n rfl); decide +kernel; (iterate 4 exact rfl)) | (apply p_callY []; exact (vwant_g rfl rfl rfl); iterate 4 exact rfl) | (apply d_callY []; exact (vwant_g rfl rfl rfl); decide +kernel; (iterate 4 exact rfl))
  try (case hok => first | exact rdOk_nil | exact rdOk_b (by decide +kernel) | exact rdOk_c)
  case hC => exact (fun hp' hs ht => hC hs hs.ok)
  rintro u N rfl
  refine wo ?_
  first | (apply p_op; exact (vwant_n rfl); iterate 4 exact rfl) | (apply d_op; exact (vwant_n rfl); exact rfl; exact noRd rfl; decide +kernel; (iterate 3 exact rfl); rotate_left) | (apply p_op; exact (vwant_g rfl rfl rfl); iterate 4 exact rfl) | (apply d_op; exact (vwant_g rfl rfl rfl); exact rfl; exact noRd rfl; decide +kernel; (iterate 3 exact rfl); rotate_left)
  refine e_alloc rfl fun b5 => ⟨_, rfl, ?_⟩
  try (case hok => first | exact rdOk_nil | exact rdOk_b (by decide +kernel) | exact rdOk_c | (repeat (first | exact rdOk_e | refine rdOk_d (by decide +kernel) ?_ | refine rdOk_n ?_)))
  first | (apply p_op; exact (vwant_n rfl); iterate 4 exact rfl) | (apply d_op; exact (vwant_n rfl); exact rfl; exact noRd rfl; decide +kernel; (iterate 3 exact rfl); rotate_left) | (apply p_op; exact (vwant_g rfl rfl rfl); iterate 4 exact rfl) | (apply d_op; exact (vwant_g rfl rfl rfl); exact rfl; exact noRd rfl; decide +kernel; (iterate 3 exact rfl); rotate_left)
  refine e_alloc rfl fun b7 => ⟨_, rfl, ?_⟩
  try (case hok => first | exact rdOk_nil | exact rdOk_b (by decide +kernel) | exact rdOk_c | (repeat (first | exact rdOk_e | refine rdOk_d (by decide +kernel) ?_ | refine rdOk_n ?_)))
  first | (apply p_do; exact (vwant_n rfl); exact rfl; exact rfl) | (apply d_do; exact (vwant_n rfl); exact rfl; exact noRd rfl; decide +kernel; exact rfl; rotate_left) | (apply p_do; exact (vwant_g rfl rfl rfl); exact rfl; exact rfl) | (apply d_do; exact (vwant_g rfl rfl rfl); exact rfl; exact noRd rfl; decide +kernel; exact rfl; rotate_left)
  refine e_stn (C' := zI) rfl rfl (by simp) rfl (Nat.le_of_ble_eq_true rfl) rfl ⟨_, rfl, ?_⟩
  try (case hok => first | exact rdOk_nil | exact rdOk_b (by decide +kernel) | exact rdOk_c | (repeat (first | exact rdOk_e | refine rdOk_d (by decide +kernel) ?_ | refine rdOk_n ?_)))
  refine wo ?_
  first | (apply p_do; exact (vwant_n rfl); exact rfl; exact rfl) | (apply d_do; exact (vwant_n rfl); exact rfl; exact noRd rfl; decide +kernel; exact rfl; rotate_left) | (apply p_do; exact (vwant_g rfl rfl rfl); exact rfl; exact rfl) | (apply d_do; exact (vwant_g rfl rfl rfl); exact rfl; exact noRd rfl; decide +kernel; exact rfl; rotate_left)
  refine e_stn (C' := [.i .i64 (x.1 : Nat), .i .i64 (x.2 : Nat)]) rfl rfl (by simp) rfl (Nat.le_of_ble_eq_true rfl) rfl ⟨_, rfl, ?_⟩
  try (case hok => first | exact rdOk_nil | exact rdOk_b (by decide +kernel) | exact rdOk_c | (repeat (first | exact rdOk_e | refine rdOk_d (by decide +kernel) ?_ | refine rdOk_n ?_)))
  refine wl_know (fun hp hs => nin1 (b := b7) (b' := b2) hs (by omega)) fun n2 => ?_
  refine wo ?_
  first | (apply wm; iterate 5 exact rfl) | (apply dm; iterate 6 exact rfl) | (apply wmg; iterate 7 exact rfl) | (apply dmg; iterate 8 exact rfl)
  refine mv_int (v := .b true) rfl rfl (vi_neqT (by omega))
  refine wo ?_
  first | (apply wn; iterate 5 exact rfl) | (apply dn; iterate 5 exact rfl) | (apply wg; iterate 7 exact rfl) | (apply dg; iterate 7 exact rfl)
  refine p_buildS (C := zI) .nil rfl
  refine wo ?_
  first | (apply p_do; exact (vwant_n rfl); exact rfl; exact rfl) | (apply d_do; exact (vwant_n rfl); exact rfl; exact noRd rfl; decide +kernel; exact rfl; rotate_left) | (apply p_do; exact (vwant_g rfl rfl rfl); exact rfl; exact rfl) | (apply d_do; exact (vwant_g rfl rfl rfl); exact rfl; exact noRd rfl; decide +kernel; exact rfl; rotate_left)
  refine e_stn (C' := zI) rfl rfl (by simp) rfl (Nat.le_of_ble_eq_true rfl) rfl ⟨_, rfl, ?_⟩
  try (case hok => first | exact rdOk_nil | exact rdOk_b (by decide +kernel) | exact rdOk_c | (repeat (first | exact rdOk_e | refine rdOk_d (by decide +kernel) ?_ | refine rdOk_n ?_)))
  refine wo ?_
  exact w_ret (wend_ret (vres3 (rv_cell rfl rfl) (rv_tmp rfl) (rv_tmp rfl)) ⟨[], cle, _, rfl, rfl⟩)
 | ok tq =>
  obtain ⟨t, q⟩ := tq
  dsimp only
  have hC : ∀ {L : HV} {hp' : Hp}, SV ⟨hp, []⟩ hp' L → OkH hp' → Fn kxD 52 [.sl A b.length c o] hp' [] fun r N => ∃ u, r = .v u ∧ ∃ a1 a2 a3, u = .tup [.agg [a1, a2, a3], .i .i64 (q : Nat), .agg [.i .i64 0, .i .i64 0]] ∧ ItW N t [a1, a2, a3] := fun hs ho => by
   have := read_d (o := o) ho (hb.give0 hs) hc
   rw [hS] at this
   exact this
  first | (apply p_callY []; exact (vwant_n rfl); iterate 4 exact rfl) | (apply d_callY []; exact (vwant_n rfl); decide +kernel; (iterate 4 exact rfl)) | (apply p_callY []; exact (vwant_g rfl rfl rfl); iterate 4 exact rfl) | (apply d_callY []; exact (vwant_g rfl rfl rfl); decide +kernel; (iterate 4 exact rfl))
  try (case hok => first | exact rdOk_nil | exact rdOk_b (by decide +kernel) | exact rdOk_c)
  case hC => exact (fun hp' hs ht => hC hs hs.ok)
  rintro u N ⟨a1, a2, a3, rfl, hX⟩
  refine wo ?_
  first | (apply p_op; exact (vwant_n rfl); iterate 4 exact rfl) | (apply d_op; exact (vwant_n rfl); exact rfl; exact noRd rfl; decide +kernel; (iterate 3 exact rfl); rotate_left) | (apply p_op; exact (vwant_g rfl rfl rfl); iterate 4 exact rfl) | (apply d_op; exact (vwant_g rfl rfl rfl); exact rfl; exact noRd rfl; decide +kernel; (iterate 3 exact rfl); rotate_left)
  refine e_alloc rfl fun b5 => ⟨_, rfl, ?_⟩
  try (case hok => first | exact rdOk_nil | exact rdOk_b (by decide +kernel) | exact rdOk_c | (repeat (first | exact rdOk_e | refine rdOk_d (by decide +kernel) ?_ | refine rdOk_n ?_)))
  first | (apply p_op; exact (vwant_n rfl); iterate 4 exact rfl) | (apply d_op; exact (vwant_n rfl); exact rfl; exact noRd rfl; decide +kernel; (iterate 3 exact rfl); rotate_left) | (apply p_op; exact (vwant_g rfl rfl rfl); iterate 4 exact rfl) | (apply d_op; exact (vwant_g rfl rfl rfl); exact rfl; exact noRd rfl; decide +kernel; (iterate 3 exact rfl); rotate_left)
  refine e_alloc rfl fun b7 => ⟨_, rfl, ?_⟩
  try (case hok => first | exact rdOk_nil | exact rdOk_b (by decide +kernel) | exact rdOk_c | (repeat (first | exact rdOk_e | refine rdOk_d (by decide +kernel) ?_ | refine rdOk_n ?_)))
  first | (apply p_do; exact (vwant_n rfl); exact rfl; exact rfl) | (apply d_do; exact (vwant_n rfl); exact rfl; exact noRd rfl; decide +kernel; exact rfl; rotate_left) | (apply p_do; exact (vwant_g rfl rfl rfl); exact rfl; exact rfl) | (apply d_do; exact (vwant_g rfl rfl rfl); exact rfl; exact noRd rfl; decide +kernel; exact rfl; rotate_left)
  refine e_stn (C' := [a1, a2, a3]) rfl rfl (by simp) rfl (Nat.le_of_ble_eq_true rfl) rfl ⟨_, rfl, ?_⟩
  try (case hok => first | exact rdOk_nil | exact rdOk_b (by decide +kernel) | exact rdOk_c | (repeat (first | exact rdOk_e | refine rdOk_d (by decide +kernel) ?_ | refine rdOk_n ?_)))
  refine wo ?_
  first | (apply p_do; exact (vwant_n rfl); exact rfl; exact rfl) | (apply d_do; exact (vwant_n rfl); exact rfl; exact noRd rfl; decide +kernel; exact rfl; rotate_left) | (apply p_do; exact (vwant_g rfl rfl rfl); exact rfl; exact rfl) | (apply d_do; exact (vwant_g rfl rfl rfl); exact rfl; exact noRd rfl; decide +kernel; exact rfl; rotate_left)
  refine e_stn (C' := [.i .i64 0, .i .i64 0]) rfl rfl (by simp) rfl (Nat.le_of_ble_eq_true rfl) rfl ⟨_, rfl, ?_⟩
  try (case hok => first | exact rdOk_nil | exact rdOk_b (by decide +kernel) | exact rdOk_c | (repeat (first | exact rdOk_e | refine rdOk_d (by decide +kernel) ?_ | refine rdOk_n ?_)))
  refine wo ?_
  first | (apply wm; iterate 5 exact rfl) | (apply dm; iterate 6 exact rfl) | (apply wmg; iterate 7 exact rfl) | (apply dmg; iterate 8 exact rfl)
  refine mv_int (v := .b false) rfl rfl (vi_neqF (by omega))
  refine wo ?_
  by_cases g : q < b.length
  ·rw [if_pos g]
   first | (apply wm; iterate 5 exact rfl) | (apply dm; iterate 6 exact rfl) | (apply wmg; iterate 7 exact rfl) | (apply dmg; iterate 8 exact rfl)
   refine mv_int (v := .b true) rfl rfl (vi_lssT (by omega))
   refine wo ?_
   first | (apply wn; iterate 5 exact rfl) | (apply dn; iterate 5 exact rfl) | (apply wg; iterate 7 exact rfl) | (apply dg; iterate 7 exact rfl)
   refine p_buildS (C := zI) .nil rfl
   refine wo ?_
   first | (apply p_do; exact (vwant_n rfl); exact rfl; exact rfl) | (apply d_do; exact (vwant_n rfl); exact rfl; exact noRd rfl; decide +kernel; exact rfl; rotate_left) | (apply p_do; exact (vwant_g rfl rfl rfl); exact rfl; exact rfl) | (apply d_do; exact (vwant_g rfl rfl rfl); exact rfl; exact noRd rfl; decide +kernel; exact rfl; rotate_left)
   refine e_stn (C' := zI) rfl rfl (by simp) rfl (Nat.le_of_ble_eq_true rfl) rfl ⟨_, rfl, ?_⟩
   try (case hok => first | exact rdOk_nil | exact rdOk_b (by decide +kernel) | exact rdOk_c | (repeat (first | exact rdOk_e | refine rdOk_d (by decide +kernel) ?_ | refine rdOk_n ?_)))
   refine wo ?_
   exact w_ret (wend_ret (vres3 (rv_cell rfl rfl) (rv_tmp rfl) (rv_tmp rfl)) ⟨[], cle, _, rfl, rfl⟩)
  ·rw [if_neg g]
   first | (apply wm; iterate 5 exact rfl) | (apply dm; iterate 6 exact rfl) | (apply wmg; iterate 7 exact rfl) | (apply dmg; iterate 8 exact rfl)
   refine mv_int (v := .b false) rfl rfl (vi_lssF (by omega))
   refine wo ?_
   first | refine zX (m_ldln (s := 2) (cs := [a1, a2, a3]) rfl rfl rfl) ?_ | refine yX (m_ldln (s := 2) (cs := [a1, a2, a3]) rfl rfl rfl) ?_
   first | (apply p_do; exact (vwant_n rfl); exact rfl; exact rfl) | (apply d_do; exact (vwant_n rfl); exact rfl; exact noRd rfl; decide +kernel; exact rfl; rotate_left) | (apply p_do; exact (vwant_g rfl rfl rfl); exact rfl; exact rfl) | (apply d_do; exact (vwant_g rfl rfl rfl); exact rfl; exact noRd rfl; decide +kernel; exact rfl; rotate_left)
   refine e_stn (C' := [a1, a2, a3]) rfl rfl (by simp) rfl (Nat.le_of_ble_eq_true rfl) rfl ⟨_, rfl, ?_⟩
   try (case hok => first | exact rdOk_nil | exact rdOk_b (by decide +kernel) | exact rdOk_c | (repeat (first | exact rdOk_e | refine rdOk_d (by decide +kernel) ?_ | refine rdOk_n ?_)))
   refine wo ?_
   exact w_ret (wend_ret (vres3 (rv_cell rfl rfl) (rv_tmp rfl) (rv_tmp rfl)) ⟨N, cle, _, rfl, a1, a2, a3, rfl, hX⟩)
theorem decode_d {A : Option (Nat × Nat)} {b : List UInt8} {c : Nat} {o : Bool} {hp : Hp} (ho : OkH hp) (hb : RB ⟨hp, []⟩ A (b.map byV)) (hc : b.length ≤ c) :
  Fn kxD 28 [.sl A b.length c o] hp [] fun r N => match decS b with
   | .error x => ∃ u, r = .v u ∧ u = .tup [.agg zI, .i .i64 (x.1 : Nat), .i .i64 (x.2 : Nat)]
   | .ok t => ∃ u, r = .v u ∧ ∃ a1 a2 a3, u = .tup [.agg [a1, a2, a3], .i .i64 0, .i .i64 0] ∧ ItX N t [a1, a2, a3] := by
 refine (decode_w (o := o) ho hb hc).mono fun r N h => ?_
 revert h
 cases decS b with
 | error x => exact id
 | ok t =>
  rintro ⟨u, h0, a1, a2, a3, h1, h2⟩
  exact ⟨u, h0, a1, a2, a3, h1, itW_x _ _ h2⟩
/- Js8: the document's body of a record. By this project. -/
theorem w_cutS {K : Kx} {nt : Nat} {hp0 : Bs} {l : VL} {df : DL} {L : HV} {Q : WQ} {x y : Code} (F : VL) (H : HV) (P : Prop) (h : WG K nt hp0 x l df L (wthen (fun l' df' L' => P ∧ df' = df ∧ SubV l' F ∧ ∀ hp, SV hp0 hp L' → SV hp0 hp H) Q)) (hk : P → WG K nt hp0 y F df H Q) : WG K nt hp0 (.seq x y) l df L Q := w_cut _ h (fun l' df' L' ⟨h1, h2, h3, h4⟩ => by
 subst h2
 exact w_heap h4 (w_sub h3 (hk h1)))
/- Jsb: the document's body of a record. By this project. -/
/- Js9: frames around payloads; the journal's Write. By this project. -/
section
variable {K : Kx} {hp0 : Bs} {l : VL} {L : HV} {a b : Operand} {t t' : TypeId}
theorem p_buildAB {e : TypeId} {n : Nat} {Z C : List V} {xs : List (Nat × Operand)} {qs : List (Nat × List V)} [hS : ArrV K.C t n e] [he : SizeV K.C e 1] [hz : ZeroV K.C t (V.agg Z)] (hq : PartsV l (fun i => some (i, 1)) Z.length xs qs) (hC : putAllV Z qs = C) : PV K.C l (.build t xs.toArray) (.agg C) := by
 obtain ⟨ti, h1, h2⟩ := hz.h
 obtain ⟨ti', h3, h4⟩ := hS.h
 obtain ⟨te, h5, h6⟩ := he.h
 rw [h1] at h3
 obtain rfl := Option.some.inj h3
 haveI : TiV K.C t ti := ⟨h1⟩
 haveI : TiV K.C e te := ⟨h5⟩
 refine pv_buildA h4 h2 (qs := qs) ?_ hC
 rw [h6]
 simpa only [Nat.mul_one] using hq
end
/- Jsc: the document's frame, code, book, Write. By this project. -/
section
variable {K : Kx} {hp0 : Bs} {l : VL} {L : HV}
end
/- Jsd: the document's Code and Write by a book that has coded nothing yet. By this project. -/
/- Ds18: the statement DigestLess on the machine: fewer bits are the first bits. By this project. -/
def kB (r : Nat) : UInt8 := UInt8.ofNat (128 / 2 ^ r)
def bt (y : UInt8) (r : Nat) : UInt8 := UInt8.ofNat ((UInt8.ofNat (y.toNat / (kB r).toNat)).toNat % (2 : UInt8).toNat)
/- Ds19: equal bytes told as equal; DigestForges on the machine. By this project. -/
/- Jse: the statements' Roomy, Whole, Copy, whole, Same. By this project. -/
section
variable {K : Kx} {hp0 : Bs} {l : VL} {L : HV}
theorem m_neqs {a b : Operand} {t t' : TypeId} {x y : List UInt8} (hx : evL l a = some (.s x)) (hy : evL l b = some (.s y)) : MVO K hp0 l L (.binOp .neq t a b t') (.b (!(x == y))) := mv_str hx hy (by
 simp only [vstr, byEq_iff])
end
def mk3 : List UInt8 := [77, 78, 79]
/- Jsf: the statement's Copy and whole. By this project. -/
def markS : List UInt8 := [109, 97, 114, 107]
abbrev markC (bm : Nat) : List V := [.sl (some (bm, 0)) 4 4 false, .sl none 0 0 false, .b false]
def WhR (B : Bs) (c : Chg) (v : List V) : Prop := ∃ k o1 v' o2, v = [.sl (some (k, 0)) c.key.length (c.key.length + 3) o1, .sl (some (v', 0)) c.val.length (c.val.length + 3) o2, .b c.gone] ∧ RB B (some (k, 0)) ((c.key ++ mk3).map byV) ∧ RB B (some (v', 0)) ((c.val ++ mk3).map byV)
def WhRs (B : Bs) : List Chg → List (List V) → Prop
 | [], vs => vs = []
 | c :: r, vs => ∃ v ws, vs = v :: ws ∧ WhR B c v ∧ WhRs B r ws
theorem rb_mk3 {B : Bs} {A : Option (Nat × Nat)} {xs : List UInt8} (h : RB B A ((xs ++ mk3).map byV)) : RB B A (xs.map byV) := by
 have := h.take xs.length
 rwa [List.map_append, List.take_append_of_le_length (by simp), List.take_of_length_le (by simp)] at this
theorem WhR.chg {B : Bs} {c : Chg} {v : List V} (h : WhR B c v) : ChgR B c v := by
 obtain ⟨k, o1, v', o2, rfl, h1, h2⟩ := h
 exact ⟨_, _, _, _, _, _, rfl, rb_mk3 h1, rb_mk3 h2⟩
theorem whRs_chgs {B : Bs} : ∀ {l : List Chg} {vs : List (List V)}, WhRs B l vs → ChgRs B l vs
 | [], vs, h => h
 | t :: r, vs, h => by
  obtain ⟨v, ws, h0, h1, h2⟩ := h
  exact ⟨v, ws, h0, h1.chg, whRs_chgs h2⟩
theorem whR_mono {B B' : Bs} (hm : ∀ {A : Option (Nat × Nat)} {cs : List V}, RB B A cs → RB B' A cs) {c : Chg} {v : List V} (h : WhR B c v) : WhR B' c v := by
 obtain ⟨k, o1, v', o2, rfl, h1, h2⟩ := h
 exact ⟨k, o1, v', o2, rfl, hm h1, hm h2⟩
theorem whRs_mono {B B' : Bs} (hm : ∀ {A : Option (Nat × Nat)} {cs : List V}, RB B A cs → RB B' A cs) : ∀ {l : List Chg} {vs : List (List V)}, WhRs B l vs → WhRs B' l vs
 | [], vs, h => h
 | t :: r, vs, h => by
  obtain ⟨v, ws, h0, h1, h2⟩ := h
  exact ⟨v, ws, h0, whR_mono hm h1, whRs_mono hm h2⟩
def CopR (B : Bs) (r : Rec) (w : List V) : Prop := RecOk r ∧ ∃ bl us bm, w = recC r (.sl (some (bl, 0)) r.ch.length (r.ch.length + 1) false) ∧ RB B (some (bl, 0)) (us.flatten ++ markC bm) ∧ RB B (some (bm, 0)) (markS.map byV) ∧ WhRs B r.ch us
theorem CopR.rec {B : Bs} {r : Rec} {w : List V} (h : CopR B r w) : RecR B r w := by
 obtain ⟨h0, bl, us, bm, h1, h2, h3, h4⟩ := h
 refine ⟨h0, some (bl, 0), r.ch.length + 1, false, us, h1, ?_, whRs_chgs h4⟩
 have := h2.take us.flatten.length
 rwa [List.take_append_of_le_length (Nat.le_refl _), List.take_of_length_le (Nat.le_refl _)] at this
theorem CopR.mono {B B' : Bs} (hm : ∀ {A : Option (Nat × Nat)} {cs : List V}, RB B A cs → RB B' A cs) {r : Rec} {w : List V} (h : CopR B r w) : CopR B' r w := by
 obtain ⟨h0, bl, us, bm, h1, h2, h3, h4⟩ := h
 exact ⟨h0, bl, us, bm, h1, hm h2, hm h3, whRs_mono hm h4⟩
/- Dr5: a new base within a function; an item's number and hash. By this project. -/
theorem w_base {K : Kx} {nt : Nat} {hp0 : Bs} {l : VL} {df : DL} {L : HV} {Q : WQ} {c : Code} (Lt Lr : HV) (hL : ∀ hp, SV hp0 hp L → SV hp0 hp (Lt ++ Lr)) (h : ∀ hp, SV hp0 hp (Lt ++ Lr) → WG K nt ⟨hp, hnds Lt⟩ c l df Lt (fun e l' df' L' => Q e l' df' (L' ++ Lr))) : WG K nt hp0 c l df L Q := by
 unfold WG at h ⊢
 intro fr hp hf hs
 have hT := hasT_hnds Lt
 have hs' := hL hp hs
 obtain ⟨e, fr', df', hp', l', L', h1, h2, h3, h4, h5⟩ := h hp hs' fr hp hf (hs'.give fun i b o => mem_hnds i b o)
 exact ⟨e, fr', df', hp', l', L' ++ Lr, h1, h2, hs'.then h3 hT, h4.mono (hs'.headL.ownT hT), h5⟩
def itB : It → List UInt8
 | .str bs => bs
 | .list _ => []
def itL : It → List It
 | .str _ => []
 | .list l => l
def isL : It → Bool
 | .str _ => false
 | .list _ => true
theorem itP_cellsC {P : Option (Nat × Nat) → List V → Prop} (h0 : P none []) {t : It} {v : List V} (h : ItP P t v) : ∃ A c o A' c' o' vs, v = [.b (isL t), .sl A (itB t).length c o, .sl A' (itL t).length c' o'] ∧ P A ((itB t).map byV) ∧ (itB t).length ≤ c ∧ P A' vs.flatten ∧ ItPs P (itL t) vs := by
 cases t with
 | str bs =>
  rw [ItP] at h
  obtain ⟨A, c, o, rfl, h, hc⟩ := h
  exact ⟨A, c, o, none, 0, false, [], rfl, h, hc, h0, by rw [itL, ItPs]⟩
 | list l =>
  rw [ItP] at h
  obtain ⟨A, c, o, vs, rfl, h, k⟩ := h
  exact ⟨none, 0, false, A, c, o, vs, rfl, h0, Nat.zero_le _, h, k⟩
theorem itP_len {P : Option (Nat × Nat) → List V → Prop} {t : It} {v : List V} (h : ItP P t v) : v.length = 3 := by
 cases t with
 | str bs => rw [ItP] at h; obtain ⟨A, c, o, rfl, _⟩ := h; rfl
 | list l => rw [ItP] at h; obtain ⟨A, c, o, vs, rfl, _⟩ := h; rfl
theorem itPs_rows {P : Option (Nat × Nat) → List V → Prop} : ∀ {l : List It} {vs : List (List V)}, ItPs P l vs → ∀ x ∈ vs, x.length = 3
 | [], vs, h, x, hx => by rw [ItPs] at h; subst h; simp at hx
 | t :: r, vs, h, x, hx => by
  rw [ItPs] at h
  obtain ⟨v, ws, rfl, h1, h2⟩ := h
  rcases List.mem_cons.1 hx with rfl | hx
  ·exact itP_len h1
  ·exact itPs_rows h2 x hx
theorem rb_some3 {B : Bs} {A : Option (Nat × Nat)} {cs v : List V} {i : Nat} (h : RB B A cs) (hv : (cs.drop i).take 3 = v) (hl : v.length = 3) : ∃ b o, A = some (b, o) := by
 cases hq : cs with
 | nil => rw [hq] at hv; simp at hv; subst hv; simp at hl
 | cons x r =>
  rw [hq] at h
  exact rv_some h.1.rv
/- Dr6: what a body seems to say. By this project. -/
mutual
def wt : It → Nat
 | .str bs => max 1 bs.length
 | .list l => 1 + wts l
def wts : List It → Nat
 | [] => 0
 | t :: r => wt t + wts r
end
theorem wts_app : ∀ (l r : List It), wts (l ++ r) = wts l + wts r
 | [], r => by rw [List.nil_append, wts, Nat.zero_add]
 | t :: l, r => by rw [List.cons_append, wts, wts, wts_app l r, Nat.add_assoc]
mutual
theorem itemS_wt : ∀ {f : Nat} {b : List UInt8} {p e d q : Nat} {t : It}, p ≤ e → itemS f b p e d = some (.ok (t, q)) → wt t + p ≤ q
 | 0, b, p, e, d, q, t, _, h => by simp [itemS] at h
 | f + 1, b, p, e, d, q, t, hp, h => by
  rw [itemS] at h
  split at h
  ·simp at h
  ·rename_i hpe
   split at h
   ·simp only [Option.some.injEq, Except.ok.injEq, Prod.mk.injEq] at h
    obtain ⟨rfl, rfl⟩ := h
    rw [wt]
    simp
    omega
   ·split at h
    ·simp at h
    ·split at h
     ·simp at h
     ·rename_i n q0 hl
      obtain ⟨l1, l2, _⟩ := lenS_ok (by omega) hl
      split at h
      ·simp at h
      ·split at h
       ·have := listS_wt (by omega) h
        rw [wts] at this
        omega
       ·split at h
        ·simp at h
        ·simp only [Option.some.injEq, Except.ok.injEq, Prod.mk.injEq] at h
         obtain ⟨rfl, rfl⟩ := h
         rw [wt, List.length_take]
         omega
theorem listS_wt : ∀ {f : Nat} {b : List UInt8} {p e d q : Nat} {acc : List It} {t : It}, p ≤ e → listS f b p e d acc = some (.ok (t, q)) → wt t + p ≤ q + 1 + wts acc
 | 0, b, p, e, d, q, acc, t, _, h => by simp [listS] at h
 | f + 1, b, p, e, d, q, acc, t, hp, h => by
  rw [listS] at h
  split at h
  ·split at h
   ·simp at h
   ·simp at h
   ·rename_i t' q' hi
    have h1 := itemS_wt hp hi
    have h3 := listS_wt (itemS_at hp hi).2 h
    rw [wts_app, wts, wts] at h3
    omega
  ·simp only [Option.some.injEq, Except.ok.injEq, Prod.mk.injEq] at h
   obtain ⟨rfl, rfl⟩ := h
   rw [wt]
   omega
end
def ChgX (X : HV) (c : Chg) (v : List V) : Prop := ∃ A kc ko A' vc vo, v = [.sl A c.key.length kc ko, .sl A' c.val.length vc vo, .b c.gone] ∧ Sn X A (c.key.map byV) ∧ Sn X A' (c.val.map byV)
def ChgXs (X : HV) : List Chg → List (List V) → Prop
 | [], vs => vs = []
 | c :: r, vs => ∃ v ws, vs = v :: ws ∧ ChgX X c v ∧ ChgXs X r ws
theorem chgXs_r {X : HV} {B : Bs} (hm : ∀ A cs, Sn X A cs → RB B A cs) : ∀ {l : List Chg} {vs : List (List V)}, ChgXs X l vs → ChgRs B l vs
 | [], vs, h => h
 | x :: r, vs, h => by
  obtain ⟨w, ws, rfl, ⟨A, kc, ko, A', vc, vo, h0, h1, h2⟩, h3⟩ := h
  exact ⟨w, ws, rfl, ⟨A, kc, ko, A', vc, vo, h0, hm _ _ h1, hm _ _ h2⟩, chgXs_r hm h3⟩
def RecX (X : HV) (r : Rec) (v : List V) : Prop := RecOk r ∧ ∃ A c o us, v = recC r (.sl A r.ch.length c o) ∧ Sn X A us.flatten ∧ ChgXs X r.ch us
theorem RecX.r {X : HV} {r : Rec} {v : List V} (h : RecX X r v) {B : Bs} {hp : Hp} {Lt L : HV} (hs : SV B hp (Lt ++ L)) (hx : ∀ p ∈ X, p ∈ L) : RecR ⟨hp, hnds Lt⟩ r v := by
 obtain ⟨h0, A, c, o, us, h1, h2, h3⟩ := h
 exact ⟨h0, A, c, o, us, h1, h2 _ _ _ _ hs hx, chgXs_r (fun A cs h => h _ _ _ _ hs hx) h3⟩
/- Dr9: what was encoded is read as it was; a record's body says that record. By this project. -/
theorem bAt_app {pre x : List UInt8} {i : Nat} : bAt (pre ++ x) (pre.length + i) = bAt x i := by
 unfold bAt
 rw [List.getElem?_append_right (by omega), Nat.add_sub_cancel_left]
theorem bAt_app0 {pre x : List UInt8} : bAt (pre ++ x) pre.length = bAt x 0 := bAt_app (i := 0)
theorem drop_app {pre x : List UInt8} : (pre ++ x).drop pre.length = x := by rw [List.drop_append_of_le_length (Nat.le_refl _), List.drop_of_length_le (Nat.le_refl _), List.nil_append]
theorem shortB_beN : ∀ (n : Nat), beN 0 (shortB n) = n := by
 intro n
 induction n using Nat.strongRecOn with
 | ind n ih =>
  rcases Nat.eq_zero_or_pos n with rfl | h
  ·rw [shortB_zero]; rfl
  ·rw [shortB_pos h, beN_app, ih (n / 256) (by omega), beN, beN, UInt8.toNat_ofNat']
   omega
theorem shortB_head : ∀ (n : Nat), 0 < n → 0 < (shortB n).length ∧ bAt (shortB n) 0 ≠ 0 := by
 intro n
 induction n using Nat.strongRecOn with
 | ind n ih =>
  intro h
  rw [shortB_pos h]
  rcases Nat.eq_zero_or_pos (n / 256) with h0 | h0
  ·rw [h0, shortB_zero]
   refine ⟨by simp, ?_⟩
   show (UInt8.ofNat n).toNat ≠ 0
   rw [UInt8.toNat_ofNat']
   omega
  ·obtain ⟨h1, h2⟩ := ih (n / 256) (by omega) h0
   refine ⟨by rw [List.length_append]; omega, ?_⟩
   have : bAt (shortB (n / 256) ++ [UInt8.ofNat n]) 0 = bAt (shortB (n / 256)) 0 := by
    unfold bAt
    rw [List.getElem?_append_left h1]
   rw [this]
   exact h2
theorem lenS_head {base : UInt8} {n e : Nat} {pre rest : List UInt8} (hb : base.toNat = 128 ∨ base.toNat = 192) (hn : n ≤ 1048576) (he : pre.length + (headB base n).length ≤ e) :
  lenS (pre ++ (headB base n ++ rest)) e pre.length = .ok (n, pre.length + (headB base n).length) ∧ base.toNat ≤ bAt (pre ++ (headB base n ++ rest)) pre.length ∧ bAt (pre ++ (headB base n ++ rest)) pre.length < base.toNat + 64 := by
 by_cases g : n < 56
 ·have e0 : headB base n = [base + UInt8.ofNat n] := if_pos g
  have e1 : (base + UInt8.ofNat n).toNat = base.toNat + n := by
   rw [UInt8.toNat_add, UInt8.toNat_ofNat']
   omega
  rw [e0]
  have e2 : bAt (pre ++ ([base + UInt8.ofNat n] ++ rest)) pre.length = base.toNat + n := by rw [bAt_app0, ← e1]; rfl
  unfold lenS
  rw [e2, if_pos (by omega)]
  refine ⟨?_, by omega, by omega⟩
  rw [show (base.toNat + n) % 64 = n by omega]
  rfl
 ·have e0 : headB base n = (base + 55 + UInt8.ofNat (shortB n).length) :: shortB n := if_neg g
  obtain ⟨k1, k2⟩ := shortB_head n (by omega)
  have k3 : (shortB n).length ≤ 3 := shortB_len 3 n (by omega)
  have e1 : (base + 55 + UInt8.ofNat (shortB n).length).toNat = base.toNat + 55 + (shortB n).length := by
   rw [UInt8.toNat_add, UInt8.toNat_add, UInt8.toNat_ofNat']
   have : (55 : UInt8).toNat = 55 := rfl
   rw [this]
   omega
  rw [e0] at he ⊢
  rw [List.length_cons] at he
  have e2 : bAt (pre ++ (((base + 55 + UInt8.ofNat (shortB n).length) :: shortB n) ++ rest)) pre.length = base.toNat + 55 + (shortB n).length := by rw [bAt_app0, ← e1]; rfl
  have e3 : bAt (pre ++ (((base + 55 + UInt8.ofNat (shortB n).length) :: shortB n) ++ rest)) (pre.length + 1) = bAt (shortB n) 0 := by
   rw [bAt_app]
   unfold bAt
   rw [List.cons_append, List.getElem?_cons_succ, List.getElem?_append_left k1]
  have e4 : ((pre ++ (((base + 55 + UInt8.ofNat (shortB n).length) :: shortB n) ++ rest)).drop (pre.length + 1)).take (shortB n).length = shortB n := by
   rw [← List.drop_drop, drop_app, List.cons_append, List.drop_succ_cons, List.drop_zero, List.take_append_of_le_length (Nat.le_refl _), List.take_of_length_le (Nat.le_refl _)]
  have e5 : (base.toNat + 55 + (shortB n).length) % 64 - 55 = (shortB n).length := by omega
  unfold lenS
  rw [e2, if_neg (by omega), e5, if_neg (by omega), e3, if_neg k2, e4, shortB_beN, if_neg (by omega), if_neg (by omega)]
  exact ⟨by rw [List.length_cons]; congr 2; omega, by omega, by omega⟩
theorem strB_s1 {x : UInt8} (h : x.toNat < 128) : strB [x] = [x] := by
 show (if x.toNat < 128 then [x] else headB 128 1 ++ [x]) = _
 rw [if_pos h]
theorem strB_sn {bs : List UInt8} (h : ∀ x, bs = [x] → ¬ x.toNat < 128) : strB bs = headB 128 bs.length ++ bs := by
 match bs, h with
 | [], _ => rfl
 | [x], h =>
  show (if x.toNat < 128 then [x] else headB 128 1 ++ [x]) = _
  rw [if_neg (h x rfl)]
  rfl
 | _ :: _ :: _, _ => rfl
mutual
theorem itemS_enc : ∀ (t : It) {pre post : List UInt8} {e d f : Nat}, pre.length + (enc t).length ≤ e → e ≤ pre.length + ((enc t).length + post.length) → (enc t).length ≤ 1048576 → d + depth t ≤ 80 → 2 * (e - pre.length) + 1 ≤ f → itemS f (pre ++ (enc t ++ post)) pre.length e d = some (.ok (t, pre.length + (enc t).length))
 | .str bs, pre, post, e, d, f, h1, h2, h3, h4, h5 => by
  have hpos := enc_pos (.str bs)
  obtain ⟨F, rfl⟩ : ∃ F, f = F + 1 := ⟨f - 1, by omega⟩
  rw [itemS, if_neg (by omega)]
  rw [enc] at *
  by_cases g : ∃ x, bs = [x] ∧ x.toNat < 128
  ·obtain ⟨x, rfl, hx⟩ := g
   rw [strB_s1 hx]
   have e2 : bAt (pre ++ ([x] ++ post)) pre.length = x.toNat := by rw [bAt_app0]; rfl
   rw [e2, if_pos hx]
   simp
  ·have g' : ∀ x, bs = [x] → ¬ x.toNat < 128 := fun x hx hl => g ⟨x, hx, hl⟩
   rw [strB_sn g'] at h1 h2 h3 ⊢
   rw [List.length_append] at h1 h2 h3 ⊢
   obtain ⟨k1, k2, k3⟩ := lenS_head (base := 128) (n := bs.length) (e := e) (pre := pre) (rest := bs ++ post) (.inl rfl) (by omega) (by omega)
   rw [List.append_assoc] at *
   have h128 : (128 : UInt8).toNat = 128 := rfl
   rw [h128] at k2 k3
   rw [if_neg (by omega), if_neg (by omega), k1]
   dsimp only
   have e6 : pre ++ (headB 128 bs.length ++ (bs ++ post)) = (pre ++ headB 128 bs.length) ++ (bs ++ post) := by rw [List.append_assoc]
   have e7 : pre.length + (headB 128 bs.length).length = (pre ++ headB 128 bs.length).length := by rw [List.length_append]
   rw [if_neg (by omega), if_neg (by omega), if_neg]
   ·rw [e6, e7, drop_app, List.take_append_of_le_length (Nat.le_refl _), List.take_of_length_le (Nat.le_refl _), List.length_append, Nat.add_assoc]
   ·rintro ⟨q1, q2⟩
    obtain ⟨x, rfl⟩ := List.length_eq_one_iff.1 q1
    rw [e6, e7, bAt_app0] at q2
    exact g' x rfl q2
 | .list l, pre, post, e, d, f, h1, h2, h3, h4, h5 => by
  have hpos := enc_pos (.list l)
  obtain ⟨F, rfl⟩ : ∃ F, f = F + 1 := ⟨f - 1, by omega⟩
  rw [itemS, if_neg (by omega)]
  rw [enc] at *
  rw [depth] at h4
  rw [List.length_append] at h1 h2 h3 ⊢
  obtain ⟨k1, k2, k3⟩ := lenS_head (base := 192) (n := (encs l).length) (e := e) (pre := pre) (rest := encs l ++ post) (.inr rfl) (by omega) (by omega)
  rw [List.append_assoc] at *
  have h192 : (192 : UInt8).toNat = 192 := rfl
  rw [h192] at k2 k3
  have hp := headB_pos 192 (encs l).length
  rw [if_neg (by omega), if_neg (by omega), k1]
  dsimp only
  rw [if_neg (by omega), if_pos k2]
  have e6 : pre ++ (headB 192 (encs l).length ++ (encs l ++ post)) = (pre ++ headB 192 (encs l).length) ++ (encs l ++ post) := by rw [List.append_assoc]
  have e7 : pre.length + (headB 192 (encs l).length).length = (pre ++ headB 192 (encs l).length).length := by rw [List.length_append]
  rw [e6, e7, listS_enc l (by omega) (by omega) (by omega), List.nil_append, List.length_append, Nat.add_assoc]
theorem listS_enc : ∀ (l : List It) {pre post : List UInt8} {d f : Nat} {acc : List It}, (encs l).length ≤ 1048576 → d + depths l ≤ 80 → 2 * (encs l).length + 2 ≤ f → listS f (pre ++ (encs l ++ post)) pre.length (pre.length + (encs l).length) d acc = some (.ok (.list (acc ++ l), pre.length + (encs l).length))
 | [], pre, post, d, f, acc, h1, h2, h3 => by
  obtain ⟨F, rfl⟩ : ∃ F, f = F + 1 := ⟨f - 1, by omega⟩
  rw [listS, encs]
  simp
 | t :: r, pre, post, d, f, acc, h1, h2, h3 => by
  have hpos := enc_pos t
  rw [encs, List.length_append] at h1 h3
  rw [depths] at h2
  obtain ⟨F, rfl⟩ : ∃ F, f = F + 1 := ⟨f - 1, by omega⟩
  rw [listS, if_pos (by rw [encs, List.length_append]; omega)]
  rw [encs, List.length_append, List.append_assoc]
  rw [itemS_enc t (post := encs r ++ post) (by omega) (by rw [List.length_append]; omega) (by omega) (by omega) (by omega)]
  dsimp only
  have e6 : pre ++ (enc t ++ (encs r ++ post)) = (pre ++ enc t) ++ (encs r ++ post) := by rw [List.append_assoc]
  have e7 : pre.length + (enc t).length = (pre ++ enc t).length := by rw [List.length_append]
  rw [e6, ← Nat.add_assoc, e7, listS_enc r (by omega) (by omega) (by omega), List.append_assoc]
  rfl
end
theorem decS_enc {t : It} (h : (enc t).length ≤ 1048576) (hd : depth t ≤ 80) : decS (enc t) = .ok t := by
 have := itemS_enc t (pre := []) (post := []) (e := (enc t).length) (d := 0) (f := 2 * (enc t).length + 1) (by simp) (by simp) h (by omega) (by simp)
 rw [List.nil_append, List.append_nil, List.length_nil, Nat.zero_add] at this
 unfold decS
 rw [if_neg (by omega), this]
 dsimp only
 rw [if_neg (Nat.lt_irrefl _)]
/- Dr12: what was read is encoded as it was: each item has one form. By this project. -/
theorem beN_snoc (xs : List UInt8) (x : UInt8) : beN 0 (xs ++ [x]) = beN 0 xs * 256 + x.toNat := by rw [beN_app, beN, beN]
theorem beN_pos : ∀ {xs : List UInt8} {m : Nat}, 0 < m → 0 < beN m xs
 | [], m, h => by rw [beN]; exact h
 | x :: r, m, h => by rw [beN]; exact beN_pos (by omega)
theorem shortB_inv : ∀ (n : Nat) (xs : List UInt8), xs.length = n → 0 < xs.length → bAt xs 0 ≠ 0 → shortB (beN 0 xs) = xs := by
 intro n
 induction n with
 | zero => intro xs h1 h2; omega
 | succ n ih =>
  intro xs h1 h2 h3
  obtain ⟨ys, y, rfl⟩ : ∃ ys y, xs = ys ++ [y] := ⟨xs.dropLast, xs.getLast (by intro e; rw [e] at h2; simp at h2), (List.dropLast_concat_getLast _).symm⟩
  rw [beN_snoc]
  have hy := y.toNat_lt
  have hof : UInt8.ofNat (beN 0 ys * 256 + y.toNat) = y := by
   apply UInt8.toNat_inj.1
   rw [UInt8.toNat_ofNat']
   omega
  have hd : (beN 0 ys * 256 + y.toNat) / 256 = beN 0 ys := by omega
  cases ys with
  | nil =>
   have hy0 : y.toNat ≠ 0 := h3
   rw [shortB_pos (by omega), hd, hof]
   show shortB 0 ++ [y] = [y]
   rw [shortB_zero]
   rfl
  | cons z r =>
   have hz : z.toNat ≠ 0 := h3
   have hp : 0 < beN 0 (z :: r) := by
    rw [beN]
    exact beN_pos (by omega)
   rw [shortB_pos (by omega), hd, hof, ih (z :: r) (by simpa using h1) (by simp) h3]
theorem take_one {b : List UInt8} {p : Nat} (h : p < b.length) : (b.drop p).take 1 = [UInt8.ofNat (bAt b p)] := by
 rw [List.drop_eq_getElem_cons h, List.take_succ_cons, List.take_zero, bAt_get h, UInt8.ofNat_toNat]
theorem take_split {b : List UInt8} {p q r : Nat} (h1 : p ≤ q) (h2 : q ≤ r) : (b.drop p).take (r - p) = (b.drop p).take (q - p) ++ (b.drop q).take (r - q) := by
 have e : (b.drop p).drop (q - p) = b.drop q := by rw [List.drop_drop]; congr 1; omega
 rw [show r - p = (q - p) + (r - q) by omega, List.take_add, e]
theorem lenS_inv {b : List UInt8} {base : UInt8} {e p n q : Nat} (hb : base.toNat = 128 ∨ base.toNat = 192) (h1 : base.toNat ≤ bAt b p) (h2 : bAt b p < base.toNat + 64) (hp : p < e) (he : e ≤ b.length) (h : lenS b e p = .ok (n, q)) : (b.drop p).take (q - p) = headB base n := by
 unfold lenS at h
 split at h
 ·rename_i g
  simp only [Except.ok.injEq, Prod.mk.injEq] at h
  obtain ⟨rfl, rfl⟩ := h
  rw [Nat.add_sub_cancel_left, take_one (by omega)]
  unfold headB
  rw [if_pos g]
  congr 1
  apply UInt8.toNat_inj.1
  rw [UInt8.toNat_add, UInt8.toNat_ofNat', UInt8.toNat_ofNat']
  omega
 ·rename_i g
  split at h
  ·simp at h
  ·rename_i g1
   split at h
   ·simp at h
   ·rename_i g2
    split at h
    ·simp at h
    ·rename_i g3
     split at h
     ·simp at h
     ·rename_i g4
      simp only [Except.ok.injEq, Prod.mk.injEq] at h
      obtain ⟨rfl, rfl⟩ := h
      obtain ⟨k, hk⟩ : ∃ k, k = bAt b p % 64 - 55 := ⟨_, rfl⟩
      rw [← hk] at g1 g3 g4 ⊢
      have hxl : ((b.drop (p + 1)).take k).length = k := by rw [List.length_take, List.length_drop]; omega
      have hx0 : bAt ((b.drop (p + 1)).take k) 0 = bAt b (p + 1) := by
       unfold bAt
       rw [List.getElem?_take, if_pos (by omega), List.getElem?_drop, Nat.add_zero]
      have hs := shortB_inv k _ hxl (by omega) (by rw [hx0]; exact g2)
      rw [take_split (q := p + 1) (by omega) (by omega), Nat.add_sub_cancel_left, take_one (by omega)]
      unfold headB
      rw [if_neg g4, hs, hxl, show p + 1 + k - (p + 1) = k by omega]
      rw [List.singleton_append]
      congr 1
      apply UInt8.toNat_inj.1
      rw [UInt8.toNat_add, UInt8.toNat_add, UInt8.toNat_ofNat', UInt8.toNat_ofNat']
      have : (55 : UInt8).toNat = 55 := rfl
      rw [this]
      omega
mutual
theorem itemS_inv : ∀ {f : Nat} {b : List UInt8} {p e d q : Nat} {t : It}, p ≤ e → e ≤ b.length → itemS f b p e d = some (.ok (t, q)) → enc t = (b.drop p).take (q - p)
 | 0, b, p, e, d, q, t, _, _, h => by simp [itemS] at h
 | f + 1, b, p, e, d, q, t, hp, he, h => by
  rw [itemS] at h
  split at h
  ·simp at h
  ·rename_i hpe
   split at h
   ·rename_i g
    simp only [Option.some.injEq, Except.ok.injEq, Prod.mk.injEq] at h
    obtain ⟨rfl, rfl⟩ := h
    rw [enc, strB_s1 (by rw [UInt8.toNat_ofNat']; omega), Nat.add_sub_cancel_left, take_one (by omega)]
   ·rename_i g
    split at h
    ·simp at h
    ·split at h
     ·simp at h
     ·rename_i n q0 hl
      obtain ⟨l1, l2, _⟩ := lenS_ok (by omega) hl
      have hlt := bAt_lt b p
      split at h
      ·simp at h
      ·split at h
       ·rename_i g5 g6
        have hh := lenS_inv (base := 192) (.inr rfl) g6 (by show bAt b p < 192 + 64; omega) (by omega) he hl
        obtain ⟨l, rfl, h1, h2⟩ := listS_inv (by omega) (by omega) h
        subst h2
        have hn : (encs l).length = n := by rw [h1, List.length_take, List.length_drop]; omega
        rw [List.nil_append, enc, hn, ← hh, h1, ← take_split (by omega) (by omega)]
       ·rename_i g5 g6
        split at h
        ·simp at h
        ·rename_i g7
         simp only [Option.some.injEq, Except.ok.injEq, Prod.mk.injEq] at h
         obtain ⟨rfl, rfl⟩ := h
         have hh := lenS_inv (base := 128) (.inl rfl) (show 128 ≤ bAt b p by omega) (by show bAt b p < 128 + 64; omega) (by omega) he hl
         have hn : ((b.drop q0).take n).length = n := by rw [List.length_take, List.length_drop]; omega
         rw [enc, strB_sn, hn, ← hh, take_split (q := q0) (r := q0 + n) (by omega) (by omega), Nat.add_sub_cancel_left]
         intro x hx hx2
         have h1 : n = 1 := by rw [hx] at hn; simpa using hn.symm
         subst h1
         rw [take_one (by omega)] at hx
         simp only [List.cons.injEq, and_true] at hx
         subst hx
         rw [UInt8.toNat_ofNat'] at hx2
         have := bAt_lt b q0
         exact g7 ⟨rfl, by omega⟩
theorem listS_inv : ∀ {f : Nat} {b : List UInt8} {p e d q : Nat} {acc : List It} {t : It}, p ≤ e → e ≤ b.length → listS f b p e d acc = some (.ok (t, q)) → ∃ l, t = .list (acc ++ l) ∧ encs l = (b.drop p).take (q - p) ∧ q = e
 | 0, b, p, e, d, q, acc, t, _, _, h => by simp [listS] at h
 | f + 1, b, p, e, d, q, acc, t, hp, he, h => by
  rw [listS] at h
  split at h
  ·split at h
   ·simp at h
   ·simp at h
   ·rename_i t' q' hi
    obtain ⟨i1, i2⟩ := itemS_at hp hi
    have h1 := itemS_inv hp he hi
    obtain ⟨l, rfl, h2, h3⟩ := listS_inv i2 he h
    refine ⟨t' :: l, by simp, ?_, h3⟩
    rw [encs, h1, h2, ← take_split (by omega) (by omega)]
  ·rename_i g
   simp only [Option.some.injEq, Except.ok.injEq, Prod.mk.injEq] at h
   obtain ⟨rfl, rfl⟩ := h
   exact ⟨[], by simp, by rw [encs, Nat.sub_self, List.take_zero], by omega⟩
end
theorem decS_inv {b : List UInt8} {t : It} (h : decS b = .ok t) : enc t = b := by
 unfold decS at h
 split at h
 ·simp at h
 ·split at h
  ·rename_i t' q hi
   have h1 := itemS_inv (Nat.zero_le _) (Nat.le_refl _) hi
   have h2 := (itemS_at (Nat.zero_le _) hi).2
   split at h
   ·simp at h
   ·simp only [Except.ok.injEq] at h
    subst h
    rw [h1, List.drop_zero, Nat.sub_zero]
    exact List.take_of_length_le (by omega)
  ·simp at h
  ·simp at h
/- Nd1: paths packed and unpacked, as plain law. By this project. -/
def pairB : List UInt8 → List UInt8
 | a :: b :: r => UInt8.ofNat (a.toNat * 16 + b.toNat) :: pairB r
 | _ => []
def flagN (leaf : Bool) (n : Nat) : Nat := (if leaf then 2 else 0) + n % 2
def packB (xs : List UInt8) (leaf : Bool) : List UInt8 :=
 if xs.length % 2 = 1 then UInt8.ofNat (flagN leaf xs.length * 16 + bAt xs 0) :: pairB (xs.drop 1)
 else UInt8.ofNat (flagN leaf xs.length * 16) :: pairB xs
def pathOk (xs : List UInt8) : Prop := xs.length ≤ 64 ∧ ∀ x ∈ xs, x.toNat < 16
instance (xs : List UInt8) : Decidable (pathOk xs) := by unfold pathOk; infer_instance
def nibB : List UInt8 → List UInt8
 | [] => []
 | x :: r => UInt8.ofNat (x.toNat / 16) :: UInt8.ofNat (x.toNat % 16) :: nibB r
def unpackS : List UInt8 → Option (List UInt8 × Bool)
 | [] => none
 | x :: r =>
  if 4 ≤ x.toNat / 16 then none
  else if x.toNat / 16 % 2 = 0 ∧ x.toNat % 16 ≠ 0 then none
  else if 64 < ((if x.toNat / 16 % 2 = 1 then [UInt8.ofNat (x.toNat % 16)] else []) ++ nibB r).length then none
  else some ((if x.toNat / 16 % 2 = 1 then [UInt8.ofNat (x.toNat % 16)] else []) ++ nibB r, decide (2 ≤ x.toNat / 16))
theorem nibB_len : ∀ l : List UInt8, (nibB l).length = 2 * l.length
 | [] => rfl
 | x :: r => by rw [nibB, List.length_cons, List.length_cons, nibB_len r, List.length_cons]; omega
theorem nibB_pair : ∀ (n : Nat) (xs : List UInt8), xs.length = 2 * n → (∀ x ∈ xs, x.toNat < 16) → nibB (pairB xs) = xs
 | 0, xs, h, _ => by
  obtain rfl := List.length_eq_zero_iff.1 h
  rfl
 | n + 1, xs, h, hx => by
  match xs, h with
  | a :: b :: r, h =>
   have ha := hx a List.mem_cons_self
   have hb := hx b (List.mem_cons_of_mem _ List.mem_cons_self)
   rw [pairB, nibB, nibB_pair n r (by simp at h; omega) fun x hx' => hx x (List.mem_cons_of_mem _ (List.mem_cons_of_mem _ hx'))]
   have e1 : UInt8.ofNat ((UInt8.ofNat (a.toNat * 16 + b.toNat)).toNat / 16) = a := by
    apply UInt8.toNat_inj.1
    rw [UInt8.toNat_ofNat', UInt8.toNat_ofNat']
    omega
   have e2 : UInt8.ofNat ((UInt8.ofNat (a.toNat * 16 + b.toNat)).toNat % 16) = b := by
    apply UInt8.toNat_inj.1
    rw [UInt8.toNat_ofNat', UInt8.toNat_ofNat']
    omega
   rw [e1, e2]
theorem flagN_lt (leaf : Bool) (n : Nat) : flagN leaf n < 4 ∧ flagN leaf n % 2 = n % 2 ∧ (2 ≤ flagN leaf n ↔ leaf = true) := by
 unfold flagN
 cases leaf <;> simp <;> omega
theorem unpack_pack {xs : List UInt8} {leaf : Bool} (h : pathOk xs) : unpackS (packB xs leaf) = some (xs, leaf) := by
 obtain ⟨h1, h2⟩ := h
 obtain ⟨f1, f2, f3⟩ := flagN_lt leaf xs.length
 unfold packB
 by_cases g : xs.length % 2 = 1
 ·rw [if_pos g]
  match xs, g with
  | y :: r, g =>
   have hy : y.toNat < 16 := h2 y List.mem_cons_self
   have hb : bAt (y :: r) 0 = y.toNat := rfl
   have ht : (UInt8.ofNat (flagN leaf (y :: r).length * 16 + bAt (y :: r) 0)).toNat = flagN leaf (y :: r).length * 16 + y.toNat := by rw [hb, UInt8.toNat_ofNat']; omega
   have hp : nibB (pairB ((y :: r).drop 1)) = r := nibB_pair (r.length / 2) r (by simp at g; omega) fun x hx => h2 x (List.mem_cons_of_mem _ hx)
   rw [unpackS, ht, hp]
   generalize flagN leaf (y :: r).length = F at *
   rw [show (F * 16 + y.toNat) / 16 = F by omega, show (F * 16 + y.toNat) % 16 = y.toNat by omega]
   rw [if_pos (show F % 2 = 1 by omega), UInt8.ofNat_toNat, List.singleton_append, if_neg (show ¬ 4 ≤ F by omega), if_neg (show ¬ (F % 2 = 0 ∧ y.toNat ≠ 0) by omega), if_neg (show ¬ 64 < (y :: r).length by omega)]
   rw [(decide_eq_decide.2 f3).trans (show decide (leaf = true) = leaf by cases leaf <;> rfl)]
 ·rw [if_neg g]
  have ht : (UInt8.ofNat (flagN leaf xs.length * 16)).toNat = flagN leaf xs.length * 16 := by rw [UInt8.toNat_ofNat']; omega
  rw [unpackS, ht, nibB_pair (xs.length / 2) xs (by omega) h2]
  generalize flagN leaf xs.length = F at *
  rw [show F * 16 / 16 = F by omega, show F * 16 % 16 = 0 by omega]
  rw [if_neg (show ¬ F % 2 = 1 by omega), List.nil_append, if_neg (show ¬ 4 ≤ F by omega), if_neg (show ¬ (F % 2 = 0 ∧ 0 ≠ 0) by omega), if_neg (show ¬ 64 < xs.length by omega)]
  rw [(decide_eq_decide.2 f3).trans (show decide (leaf = true) = leaf by cases leaf <;> rfl)]
/- Nd2: nodes and their bytes, as plain law. By this project. -/
structure RefS where
 k : Int
 h : List UInt8
 n : List UInt8
structure NodS where
 k : Int
 path : List UInt8
 val : List UInt8
 full : Bool
 next : RefS
 kids : List RefS
def zH32 : List UInt8 := List.replicate 32 0
def zRef : RefS := ⟨0, zH32, []⟩
def zNod : NodS := ⟨0, [], [], false, zRef, List.replicate 16 zRef⟩
def bareS (r : RefS) : Bool :=
 if r.k = 0 then decide (r.h = zH32 ∧ r.n = [])
 else if r.k = 1 then decide (r.n = [])
 else if r.k = 2 then decide (r.h = zH32 ∧ r.n.length < 32)
 else false
def mayRefS (D : List UInt8 → Option NodS) (r : RefS) : Int × Bool :=
 if bareS r = false then (0, false)
 else if r.k ≠ 2 then (0, true)
 else match D r.n with
  | some n => (n.k, true)
  | none => (0, false)
def noneS (r : RefS) : Bool := decide (r.k = 0) && bareS r
def mayValS (v : List UInt8) : Bool := decide (1 ≤ v.length ∧ v.length ≤ 256)
def thingsS (n : NodS) : Nat := (n.kids.filter fun r => decide (r.k ≠ 0)).length + (if n.full then 1 else 0)
def mayBrS (D : List UInt8 → Option NodS) (n : NodS) : Bool :=
 (n.kids.all fun r => (mayRefS D r).2) && decide (2 ≤ thingsS n) && (n.full == decide (0 < n.val.length)) && decide (n.val.length ≤ 256) && decide (n.path.length = 0) && noneS n.next
def mayLfS (path val : List UInt8) (full : Bool) (next : RefS) (kids : List RefS) : Bool :=
 decide (pathOk path) && mayValS val && !full && noneS next && kids.all noneS
def mayS (D : List UInt8 → Option NodS) (n : NodS) : Bool :=
 if n.k = 3 then mayBrS D n
 else if n.k = 2 then
  if (mayRefS D n.next).2 = false ∨ n.next.k = 0 ∨ ((mayRefS D n.next).1 ≠ 0 ∧ (mayRefS D n.next).1 ≠ 3) ∨ n.path.length = 0 ∨ 0 < n.val.length then false
  else mayLfS n.path [0] n.full zRef n.kids
 else if n.k = 1 then mayLfS n.path n.val n.full n.next n.kids
 else false
def refOfS : It → Option RefS
 | .list l => if (enc (.list l)).length ≤ 1048576 ∧ depth (.list l) ≤ 80 then some ⟨2, zH32, enc (.list l)⟩ else none
 | .str bs => if bs.length = 0 then some zRef else if bs.length = 32 then some ⟨1, bs, []⟩ else none
def refsOfS : List It → Option (List RefS)
 | [] => some []
 | t :: r => match refOfS t, refsOfS r with
  | some x, some y => some (x :: y)
  | _, _ => none
def shapeS (l : List It) : Option NodS :=
 if l.length = 2 then match l with
  | [p, x] => match p with
   | .list _ => none
   | .str pb => match unpackS pb with
    | none => none
    | some (nib, true) => match x with
     | .list _ => none
     | .str v => some ⟨1, nib, v, false, zRef, List.replicate 16 zRef⟩
    | some (nib, false) => (refOfS x).map fun r => ⟨2, nib, [], false, r, List.replicate 16 zRef⟩
  | _ => none
 else if l.length = 17 then match refsOfS (l.take 16), (l[16]? : Option It) with
  | some ks, some (It.str v) => some ⟨3, [], v, decide (0 < v.length), zRef, ks⟩
  | _, _ => none
 else none
def ndS : Nat → List UInt8 → Option NodS
 | 0, _ => none
 | f + 1, b =>
  if 1024 < b.length then none
  else match decS b with
   | .ok (.list l) => match shapeS l with
    | some n => if mayS (ndS f) n = true then some n else none
    | none => none
   | _ => none
def ndD (b : List UInt8) : Option NodS := ndS (b.length + 1) b
def refItS (r : RefS) : It :=
 if r.k = 1 then .str r.h
 else if r.k = 2 then (match decS r.n with
  | .ok t => t
  | .error _ => .str [])
 else .str []
def itemsS (n : NodS) : List It :=
 if n.k = 3 then n.kids.map refItS ++ [.str n.val]
 else if n.k = 1 then [.str (packB n.path true), .str n.val]
 else [.str (packB n.path false), refItS n.next]
def ndB (n : NodS) : List UInt8 := enc (.list (itemsS n))
theorem all_eq {α : Type} {p q : α → Bool} : ∀ {l : List α}, (∀ x ∈ l, p x = q x) → l.all p = l.all q
 | [], _ => rfl
 | x :: r, h => by rw [List.all_cons, List.all_cons, h x List.mem_cons_self, all_eq fun y hy => h y (List.mem_cons_of_mem _ hy)]
theorem mayRefS_congr {D D' : List UInt8 → Option NodS} {r : RefS} (h : r.k = 2 → D r.n = D' r.n) : mayRefS D r = mayRefS D' r := by
 unfold mayRefS
 by_cases g : r.k = 2
 ·rw [h g]
 ·by_cases g1 : bareS r = false
  ·rw [if_pos g1, if_pos g1]
  ·rw [if_neg g1, if_neg g1, if_pos g, if_pos g]
theorem mayS_congr {D D' : List UInt8 → Option NodS} {n : NodS} (h : ∀ r, (r = n.next ∨ r ∈ n.kids) → r.k = 2 → D r.n = D' r.n) : mayS D n = mayS D' n := by
 unfold mayS mayBrS
 rw [mayRefS_congr (r := n.next) (h _ (.inl rfl)), all_eq (fun r hr => by rw [mayRefS_congr (h r (.inr hr))])]
theorem refOfS_n {t : It} {r : RefS} (h : refOfS t = some r) (hk : r.k = 2) : r.n = enc t := by
 cases t with
 | str bs =>
  rw [refOfS] at h
  split at h
  ·obtain rfl := Option.some.inj h; simp [zRef] at hk
  ·split at h
   ·obtain rfl := Option.some.inj h; simp at hk
   ·simp at h
 | list l =>
  rw [refOfS] at h
  split at h
  ·obtain rfl := Option.some.inj h; rfl
  ·simp at h
theorem refsOfS_at : ∀ {l : List It} {ks : List RefS}, refsOfS l = some ks → ks.length = l.length ∧ ∀ r ∈ ks, ∃ t ∈ l, refOfS t = some r
 | [], ks, h => by
  rw [refsOfS] at h
  obtain rfl := Option.some.inj h
  exact ⟨rfl, fun r hr => by simp at hr⟩
 | t :: l, ks, h => by
  rw [refsOfS] at h
  cases h1 : refOfS t with
  | none => rw [h1] at h; simp at h
  | some x =>
   cases h2 : refsOfS l with
   | none => rw [h1, h2] at h; simp at h
   | some y =>
    rw [h1, h2] at h
    obtain rfl := Option.some.inj h
    obtain ⟨i1, i2⟩ := refsOfS_at h2
    refine ⟨by rw [List.length_cons, List.length_cons, i1], fun r hr => ?_⟩
    rcases List.mem_cons.1 hr with rfl | hr
    ·exact ⟨t, List.mem_cons_self, h1⟩
    ·obtain ⟨t', h3, h4⟩ := i2 r hr
     exact ⟨t', List.mem_cons_of_mem _ h3, h4⟩
theorem zRef_k : zRef.k = 0 := rfl
theorem shape_cases {l : List It} {n : NodS} (h : shapeS l = some n) :
  (∃ pb nib v, l = [.str pb, .str v] ∧ unpackS pb = some (nib, true) ∧ n = ⟨1, nib, v, false, zRef, List.replicate 16 zRef⟩) ∨
  (∃ pb nib x r, l = [.str pb, x] ∧ unpackS pb = some (nib, false) ∧ refOfS x = some r ∧ n = ⟨2, nib, [], false, r, List.replicate 16 zRef⟩) ∨
  (∃ ks v, l.length = 17 ∧ refsOfS (l.take 16) = some ks ∧ l[16]? = some (It.str v) ∧ n = ⟨3, [], v, decide (0 < v.length), zRef, ks⟩) := by
 unfold shapeS at h
 by_cases h2 : l.length = 2
 ·rw [if_pos h2] at h
  obtain ⟨p, x, rfl⟩ : ∃ p x, l = [p, x] := by
   match l, h2 with
   | [p, x], _ => exact ⟨p, x, rfl⟩
  cases p with
  | list _ => simp at h
  | str pb =>
   dsimp only at h
   cases hu : unpackS pb with
   | none => rw [hu] at h; simp at h
   | some w =>
    obtain ⟨nib, lf⟩ := w
    rw [hu] at h
    cases lf with
    | true =>
     cases x with
     | list _ => simp at h
     | str v => exact .inl ⟨pb, nib, v, rfl, hu, (Option.some.inj h).symm⟩
    | false =>
     obtain ⟨y, h1, h3⟩ := Option.map_eq_some_iff.1 h
     exact .inr (.inl ⟨pb, nib, x, y, rfl, hu, h1, h3.symm⟩)
 ·rw [if_neg h2] at h
  by_cases h7 : l.length = 17
  ·rw [if_pos h7] at h
   split at h
   ·rename_i ks v h3 h4
    exact .inr (.inr ⟨ks, v, h7, h3, h4, (Option.some.inj h).symm⟩)
   ·simp at h
  ·rw [if_neg h7] at h; simp at h
theorem shape_refs {l : List It} {n : NodS} (h : shapeS l = some n) : ∀ r, (r = n.next ∨ r ∈ n.kids) → r.k = 2 → ∃ x ∈ l, r.n = enc x := by
 intro r hr hk
 have hz : ∀ r ∈ List.replicate 16 zRef, r.k ≠ 2 := fun r hr => by
  rw [List.eq_of_mem_replicate hr, zRef_k]; decide
 rcases shape_cases h with ⟨pb, nib, v, rfl, hu, rfl⟩ | ⟨pb, nib, x, y, rfl, hu, h1, rfl⟩ | ⟨ks, v, h7, h1, h2, rfl⟩
 ·rcases hr with rfl | hr
  ·rw [zRef_k] at hk; simp at hk
  ·exact absurd hk (hz r hr)
 ·rcases hr with rfl | hr
  ·exact ⟨x, by simp, refOfS_n h1 hk⟩
  ·exact absurd hk (hz r hr)
 ·rcases hr with rfl | hr
  ·rw [zRef_k] at hk; simp at hk
  ·obtain ⟨t, h3, h4⟩ := (refsOfS_at h1).2 r hr
   exact ⟨t, List.mem_of_mem_take h3, refOfS_n h4 hk⟩
theorem ndS_stable : ∀ (m : Nat) {b : List UInt8} {f f' : Nat}, b.length ≤ m → b.length + 1 ≤ f → b.length + 1 ≤ f' → ndS f b = ndS f' b := by
 intro m
 induction m with
 | zero =>
  intro b f f' h1 h2 h3
  obtain ⟨F, rfl⟩ : ∃ F, f = F + 1 := ⟨f - 1, by omega⟩
  obtain ⟨F', rfl⟩ : ∃ F, f' = F + 1 := ⟨f' - 1, by omega⟩
  obtain rfl := List.length_eq_zero_iff.1 (by omega : b.length = 0)
  have : decS [] = .error (0, 50) := by simp [decS, itemS]
  rw [ndS, ndS, this]
 | succ m ih =>
  intro b f f' h1 h2 h3
  obtain ⟨F, rfl⟩ : ∃ F, f = F + 1 := ⟨f - 1, by omega⟩
  obtain ⟨F', rfl⟩ : ∃ F, f' = F + 1 := ⟨f' - 1, by omega⟩
  rw [ndS, ndS]
  split
  ·rfl
  ·split
   ·rename_i l hd
    split
    ·rename_i n hs
     have hb := decS_inv hd
     rw [mayS_congr (D' := ndS F') fun r hr hk => ?_]
     obtain ⟨x, hx, he⟩ := shape_refs hs r hr hk
     have h4 := enc_mem hx
     have h5 := headB_pos 192 (encs l).length
     rw [enc] at hb
     have h6 := congrArg List.length hb
     rw [List.length_append] at h6
     exact ih (by rw [he]; omega) (by rw [he]; omega) (by rw [he]; omega)
    ·rfl
   ·rfl
theorem ndD_eq (b : List UInt8) : ndD b = if 1024 < b.length then none
  else match decS b with
   | .ok (.list l) => match shapeS l with
    | some n => if mayS ndD n = true then some n else none
    | none => none
   | _ => none := by
 unfold ndD
 rw [ndS]
 split
 ·rfl
 ·split
  ·rename_i l hd
   split
   ·rename_i n hs
    have hb := decS_inv hd
    rw [mayS_congr (D' := fun x => ndS (x.length + 1) x) fun r hr hk => ?_]
    obtain ⟨x, hx, he⟩ := shape_refs hs r hr hk
    have h4 := enc_mem hx
    have h5 := headB_pos 192 (encs l).length
    rw [enc] at hb
    have h6 := congrArg List.length hb
    rw [List.length_append] at h6
    exact ndS_stable r.n.length (Nat.le_refl _) (by rw [he]; omega) (Nat.le_refl _)
   ·rfl
  ·rfl
/- Nd3: nodes and their bytes: there and back. By this project. -/
mutual
theorem depth_len : ∀ t : It, depth t ≤ (enc t).length
 | .str bs => by rw [depth]; exact Nat.zero_le _
 | .list l => by
  have := depths_len l
  have := headB_pos 192 (encs l).length
  rw [depth, enc, List.length_append]
  omega
theorem depths_len : ∀ l : List It, depths l ≤ (encs l).length
 | [] => Nat.zero_le _
 | t :: r => by
  have := depth_len t
  have := depths_len r
  rw [depths, encs, List.length_append]
  omega
end
theorem ndD_some {b : List UInt8} {n : NodS} (h : ndD b = some n) : ∃ l, b.length ≤ 1024 ∧ decS b = .ok (.list l) ∧ shapeS l = some n ∧ mayS ndD n = true := by
 rw [ndD_eq] at h
 split at h
 ·simp at h
 ·rename_i hl
  split at h
  ·rename_i l hd
   split at h
   ·rename_i m hs
    split at h
    ·rename_i hm
     obtain rfl := Option.some.inj h
     exact ⟨l, by omega, hd, hs, hm⟩
    ·simp at h
   ·simp at h
  ·simp at h
structure NodOk (n : NodS) : Prop where
 kids : n.kids.length = 16
 next : n.next.h.length = 32
 hs : ∀ r ∈ n.kids, r.h.length = 32
theorem none_z {r : RefS} (h : noneS r = true) : r = zRef := by
 obtain ⟨k, hh, n⟩ := r
 unfold noneS bareS at h
 rw [Bool.and_eq_true, decide_eq_true_eq] at h
 obtain ⟨h1, h2⟩ := h
 dsimp only at h1 h2
 rw [if_pos h1, decide_eq_true_eq] at h2
 rw [h1, h2.1, h2.2]
 rfl
theorem ref_back {r : RefS} (hl : r.h.length = 32) (h : (mayRefS ndD r).2 = true) : refOfS (refItS r) = some r ∧ (enc (refItS r)).length ≤ 33 ∧ depth (refItS r) ≤ 32 := by
 obtain ⟨k, hh, n⟩ := r
 unfold mayRefS at h
 by_cases g : bareS ⟨k, hh, n⟩ = false
 ·rw [if_pos g] at h; simp at h
 rw [if_neg g] at h
 have g' : bareS ⟨k, hh, n⟩ = true := by simpa using g
 unfold bareS at g'
 dsimp only at g' h hl
 by_cases k0 : k = 0
 ·rw [if_pos k0, decide_eq_true_eq] at g'
  obtain ⟨rfl, rfl⟩ := g'
  subst k0
  exact ⟨rfl, by decide, by decide⟩
 rw [if_neg k0] at g'
 by_cases k1 : k = 1
 ·rw [if_pos k1, decide_eq_true_eq] at g'
  subst g' k1
  have e : refItS ⟨1, hh, []⟩ = .str hh := rfl
  rw [e]
  refine ⟨?_, ?_, ?_⟩
  ·rw [refOfS, if_neg (by omega), if_pos hl]
  ·rw [enc, strB_sn (fun x hx => by rw [hx] at hl; simp at hl), List.length_append, hl]
   decide
  ·rw [depth]; decide
 rw [if_neg k1] at g'
 by_cases k2 : k = 2
 ·rw [if_pos k2, decide_eq_true_eq] at g'
  obtain ⟨rfl, hn⟩ := g'
  subst k2
  rw [if_neg (by simp)] at h
  cases hd : ndD n with
  | none => rw [hd] at h; simp at h
  | some m =>
   obtain ⟨l, _, h1, _, _⟩ := ndD_some hd
   have h2 := decS_inv h1
   have e : refItS ⟨2, zH32, n⟩ = .list l := by
    unfold refItS
    rw [if_neg (by dsimp only; decide), if_pos rfl]
    dsimp only
    rw [h1]
   have h3 := depth_len (.list l)
   rw [e]
   rw [h2] at h3
   refine ⟨?_, by rw [h2]; omega, by omega⟩
   rw [refOfS, h2, if_pos ⟨by omega, by omega⟩]
 ·rw [if_neg k2] at g'; simp at g'
theorem refs_back : ∀ {ks : List RefS}, (∀ r ∈ ks, r.h.length = 32 ∧ (mayRefS ndD r).2 = true) → refsOfS (ks.map refItS) = some ks ∧ (encs (ks.map refItS)).length ≤ 33 * ks.length ∧ depths (ks.map refItS) ≤ 32
 | [], _ => ⟨rfl, Nat.zero_le _, Nat.zero_le _⟩
 | r :: ks, h => by
  obtain ⟨h1, h2⟩ := h r List.mem_cons_self
  obtain ⟨b1, b2, b3⟩ := ref_back h1 h2
  obtain ⟨i1, i2, i3⟩ := refs_back fun r hr => h r (List.mem_cons_of_mem _ hr)
  rw [List.map_cons, refsOfS, b1, i1, encs, List.length_append, depths, List.length_cons]
  exact ⟨rfl, by omega, by omega⟩
theorem pairB_len : ∀ (n : Nat) (xs : List UInt8), xs.length ≤ n → (pairB xs).length ≤ xs.length
 | 0, xs, h => by
  obtain rfl := List.length_eq_zero_iff.1 (by omega : xs.length = 0)
  exact Nat.zero_le _
 | n + 1, xs, h => by
  match xs, h with
  | [], _ => exact Nat.zero_le _
  | [a], _ => exact Nat.zero_le _
  | a :: b :: r, h =>
   have := pairB_len n r (by simp at h; omega)
   rw [pairB, List.length_cons, List.length_cons, List.length_cons]
   omega
theorem packB_len {xs : List UInt8} {leaf : Bool} (h : xs.length ≤ 64) : (packB xs leaf).length ≤ 65 := by
 unfold packB
 split
 ·have := pairB_len _ (xs.drop 1) (Nat.le_refl _)
  rw [List.length_drop] at this
  rw [List.length_cons]
  omega
 ·have := pairB_len _ xs (Nat.le_refl _)
  rw [List.length_cons]
  omega
theorem enc_str_len {bs : List UInt8} (h : bs.length ≤ 300) : (enc (.str bs)).length ≤ bs.length + 9 := by
 rw [enc]
 exact strB_len (by omega)
theorem nd_key {n : NodS} (hok : NodOk n) (hm : mayS ndD n = true) : shapeS (itemsS n) = some n ∧ (encs (itemsS n)).length ≤ 1000 ∧ depths (itemsS n) ≤ 32 := by
 obtain ⟨k, path, val, full, next, kids⟩ := n
 obtain ⟨o1, o2, o3⟩ := hok
 dsimp only at o1 o2 o3
 unfold mayS at hm
 dsimp only at hm
 by_cases k3 : k = 3
 ·rw [if_pos k3] at hm
  unfold mayBrS at hm
  simp only [Bool.and_eq_true, List.all_eq_true, decide_eq_true_eq, beq_iff_eq] at hm
  obtain ⟨⟨⟨⟨⟨m1, m2⟩, m3⟩, m4⟩, m5⟩, m6⟩ := hm
  obtain ⟨r1, r2, r3⟩ := refs_back (ks := kids) fun r hr => ⟨o3 r hr, m1 r hr⟩
  have hv := enc_str_len (bs := val) (by omega)
  have hp : path = [] := List.length_eq_zero_iff.1 m5
  have hn : next = zRef := none_z m6
  have hl : (kids.map refItS).length = 16 := by rw [List.length_map, o1]
  have m3' : full = decide (0 < val.length) := by
   revert m3
   cases full <;> by_cases q : 0 < val.length <;> simp [q]
  subst k3 hp hn m3'
  unfold itemsS
  rw [if_pos rfl]
  dsimp only
  refine ⟨?_, ?_, ?_⟩
  ·unfold shapeS
   have h17 : (kids.map refItS ++ [It.str val]).length = 17 := by rw [List.length_append, hl]; rfl
   rw [if_neg (by omega), if_pos h17, List.take_append_of_le_length (by omega), List.take_of_length_le (by omega), r1, List.getElem?_append_right (by omega), hl]
   rfl
  ·rw [encs_app, List.length_append, encs, encs, List.append_nil]
   omega
  ·have := depths_le (l := kids.map refItS ++ [It.str val]) (k := 32) fun t ht => by
    rcases List.mem_append.1 ht with ht | ht
    ·have := depth_mem ht
     omega
    ·obtain rfl := List.mem_singleton.1 ht
     rw [depth]; omega
   exact this
 rw [if_neg k3] at hm
 have hkz : kids.all noneS = true → kids = List.replicate 16 zRef := fun h => by
  rw [List.eq_replicate_iff]
  exact ⟨o1, fun r hr => none_z (List.all_eq_true.1 h r hr)⟩
 by_cases k2 : k = 2
 ·rw [if_pos k2] at hm
  split at hm
  ·simp at hm
  ·rename_i hc
   simp only [not_or] at hc
   obtain ⟨c1, c2, c3, c4, c5⟩ := hc
   unfold mayLfS at hm
   simp only [Bool.and_eq_true, decide_eq_true_eq, Bool.not_eq_true'] at hm
   obtain ⟨⟨⟨⟨m1, m2⟩, m3⟩, m4⟩, m5⟩ := hm
   obtain ⟨b1, b2, b3⟩ := ref_back (r := next) o2 (by simpa using c1)
   have hv : val = [] := List.length_eq_zero_iff.1 (by omega)
   have hp := packB_len (leaf := false) m1.1
   have hpe := enc_str_len (bs := packB path false) (by omega)
   have hkk := hkz m5
   subst k2 hv m3 hkk
   unfold itemsS
   rw [if_neg k3, if_neg (by dsimp only; decide)]
   dsimp only
   refine ⟨?_, ?_, ?_⟩
   ·simp [shapeS, unpack_pack m1, b1]
   ·rw [encs, encs, encs, List.append_nil, List.length_append]
    omega
   ·rw [depths, depths, depths, depth]
    omega
 rw [if_neg k2] at hm
 by_cases k1 : k = 1
 ·rw [if_pos k1] at hm
  unfold mayLfS mayValS at hm
  simp only [Bool.and_eq_true, decide_eq_true_eq, Bool.not_eq_true'] at hm
  obtain ⟨⟨⟨⟨m1, m2⟩, m3⟩, m4⟩, m5⟩ := hm
  have hn : next = zRef := none_z m4
  have hv := enc_str_len (bs := val) (by omega)
  have hp := packB_len (leaf := true) m1.1
  have hpe := enc_str_len (bs := packB path true) (by omega)
  have hkk := hkz m5
  subst k1 hn m3 hkk
  unfold itemsS
  rw [if_neg k3, if_pos rfl]
  dsimp only
  refine ⟨?_, ?_, ?_⟩
  ·simp [shapeS, unpack_pack m1]
  ·rw [encs, encs, encs, List.append_nil, List.length_append]
   omega
  ·rw [depths, depths, depths, depth, depth]
   omega
 ·rw [if_neg k1] at hm; simp at hm
theorem ndD_ndB {n : NodS} (hok : NodOk n) (hm : mayS ndD n = true) : ndD (ndB n) = some n ∧ (ndB n).length ≤ 1024 := by
 obtain ⟨h1, h2, h3⟩ := nd_key hok hm
 have hh := headB_len 192 (n := (encs (itemsS n)).length) (by omega)
 have hl : (ndB n).length ≤ 1024 := by
  unfold ndB
  rw [enc, List.length_append]
  omega
 refine ⟨?_, hl⟩
 have hd : decS (ndB n) = .ok (.list (itemsS n)) := decS_enc (by unfold ndB at hl; omega) (by rw [depth]; omega)
 rw [ndD_eq, if_neg (by omega), hd]
 dsimp only
 rw [h1]
 dsimp only
 rw [if_pos hm]
mutual
theorem itemS_dep : ∀ {f : Nat} {b : List UInt8} {p e d q : Nat} {t : It}, d ≤ 80 → itemS f b p e d = some (.ok (t, q)) → d + depth t ≤ 80
 | 0, b, p, e, d, q, t, _, h => by simp [itemS] at h
 | f + 1, b, p, e, d, q, t, hd, h => by
  rw [itemS] at h
  split at h
  ·simp at h
  ·split at h
   ·simp only [Option.some.injEq, Except.ok.injEq, Prod.mk.injEq] at h
    obtain ⟨rfl, rfl⟩ := h
    rw [depth]; omega
   ·split at h
    ·simp at h
    ·rename_i hnd
     split at h
     ·simp at h
     ·split at h
      ·simp at h
      ·split at h
       ·rename_i hl
        obtain ⟨l, rfl, hall⟩ := listS_dep (by omega) (fun x hx => by simp at hx) h
        have := depths_le (l := l) (k := 80 - (d + 1)) fun t ht => by have := hall t ht; omega
        rw [depth]
        omega
       ·split at h
        ·simp at h
        ·simp only [Option.some.injEq, Except.ok.injEq, Prod.mk.injEq] at h
         obtain ⟨rfl, rfl⟩ := h
         rw [depth]; omega
theorem listS_dep : ∀ {f : Nat} {b : List UInt8} {p e d q : Nat} {acc : List It} {t : It}, d ≤ 80 → (∀ x ∈ acc, d + depth x ≤ 80) → listS f b p e d acc = some (.ok (t, q)) → ∃ l, t = .list l ∧ ∀ x ∈ l, d + depth x ≤ 80
 | 0, b, p, e, d, q, acc, t, _, _, h => by simp [listS] at h
 | f + 1, b, p, e, d, q, acc, t, hd, ha, h => by
  rw [listS] at h
  split at h
  ·split at h
   ·simp at h
   ·simp at h
   ·rename_i t' q' hi
    have h1 := itemS_dep hd hi
    exact listS_dep hd (fun x hx => by
     rcases List.mem_append.1 hx with hx | hx
     ·exact ha x hx
     ·rw [List.mem_singleton.1 hx]; exact h1) h
  ·simp only [Option.some.injEq, Except.ok.injEq, Prod.mk.injEq] at h
   obtain ⟨rfl, rfl⟩ := h
   exact ⟨acc, rfl, ha⟩
end
theorem decS_dep {b : List UInt8} {t : It} (h : decS b = .ok t) : depth t ≤ 80 := by
 unfold decS at h
 split at h
 ·simp at h
 ·split at h
  ·rename_i t' q hi
   split at h
   ·simp at h
   ·have := itemS_dep (Nat.zero_le _) hi
    simp only [Except.ok.injEq] at h
    subst h
    omega
  ·simp at h
  ·simp at h
theorem ndB_len (n : NodS) (h : mayS ndD n = true) : 3 ≤ (ndB n).length := by
 have h1 := headB_pos 192 (encs (itemsS n)).length
 have h2 : 2 ≤ (encs (itemsS n)).length := by
  have e : ∀ (a b : It) (r : List It), 2 ≤ (encs (a :: b :: r)).length := fun a b r => by
   have := enc_pos a
   have := enc_pos b
   rw [encs, encs, List.length_append, List.length_append]
   omega
  unfold itemsS
  split
  ·rename_i k3
   unfold mayS at h
   rw [if_pos k3] at h
   unfold mayBrS at h
   simp only [Bool.and_eq_true, List.all_eq_true, decide_eq_true_eq, beq_iff_eq] at h
   have h2 : 2 ≤ thingsS n := h.1.1.1.1.2
   unfold thingsS at h2
   cases hk : n.kids with
   | nil => rw [hk] at h2; simp at h2; split at h2 <;> omega
   | cons r l =>
    rw [List.map_cons, List.cons_append]
    cases l with
    | nil => exact e _ _ _
    | cons r' l => rw [List.map_cons, List.cons_append]; exact e _ _ _
  ·split
   ·exact e _ _ _
   ·exact e _ _ _
 unfold ndB
 rw [enc, List.length_append]
 omega
/- Nw1: paths packed and unpacked by the program; a join with an index. By this project. -/
theorem w_cutE {K : Kx} {nt : Nat} {hp0 : Bs} {l : VL} {df : DL} {L : HV} {Q : WQ} {x y : Code} {ι : Type} (F : ι → VL) (H : ι → HV) (P : ι → Prop) (h : WG K nt hp0 x l df L (wthen (fun l' df' L' => ∃ i, P i ∧ df' = df ∧ SubV l' (F i) ∧ ∀ hp, SV hp0 hp L' → SV hp0 hp (H i)) Q)) (hk : ∀ i, P i → WG K nt hp0 y (F i) df (H i) Q) : WG K nt hp0 (.seq x y) l df L Q := w_cut _ h (fun l' df' L' ⟨i, h1, h2, h3, h4⟩ => by
 subst h2
 exact w_heap h4 (w_sub h3 (hk i h1)))
theorem or16 {a b : UInt8} (ha : a.toNat < 16) (hb : b.toNat < 16) : UInt8.ofNat (a.toNat * 2 ^ 4) ||| b = UInt8.ofNat (a.toNat * 16 + b.toNat) := by
 apply UInt8.toNat_inj.1
 rw [UInt8.toNat_or, UInt8.toNat_ofNat', UInt8.toNat_ofNat']
 have h := Nat.two_pow_add_eq_or_of_lt (i := 4) (b := b.toNat) hb a.toNat
 rw [Nat.mod_eq_of_lt (by omega : a.toNat * 2 ^ 4 < 2 ^ 8), Nat.mul_comm a.toNat (2 ^ 4), ← h]
 omega
theorem pairB_snoc2 : ∀ (n : Nat) (xs : List UInt8) (a b : UInt8), xs.length = 2 * n → pairB (xs ++ [a, b]) = pairB xs ++ [UInt8.ofNat (a.toNat * 16 + b.toNat)]
 | 0, xs, a, b, h => by
  obtain rfl := List.length_eq_zero_iff.1 h
  rfl
 | n + 1, xs, a, b, h => by
  match xs, h with
  | x :: y :: r, h =>
   show pairB (x :: y :: (r ++ [a, b])) = _
   rw [pairB, pairB_snoc2 n r a b (by simp at h; omega), pairB]
   rfl
theorem take_two {xs : List UInt8} {i : Nat} (h : i + 1 < xs.length) : xs.take (i + 2) = xs.take i ++ [xs[i], xs[i + 1]] := by
 rw [List.take_succ_eq_append_getElem h, List.take_succ_eq_append_getElem (show i < xs.length by omega), List.append_assoc]
 rfl
theorem pairB_at {xs : List UInt8} {i : Nat} (h : i + 1 < xs.length) (he : i % 2 = 0) : pairB (xs.take (i + 2)) = pairB (xs.take i) ++ [UInt8.ofNat (xs[i].toNat * 16 + xs[i + 1].toNat)] := by
 rw [take_two h]
 exact pairB_snoc2 (i / 2) _ _ _ (by rw [List.length_take]; omega)
theorem packB_eq (xs : List UInt8) (leaf : Bool) : packB xs leaf = [UInt8.ofNat (flagN leaf xs.length * 2 ^ 4) ||| (if xs.length % 2 = 1 then UInt8.ofNat (bAt xs 0) else 0)] ++ pairB (xs.drop (xs.length % 2)) ∨ ¬ pathOk xs := by
 by_cases hp : pathOk xs
 ·refine .inl ?_
  obtain ⟨f1, f2, f3⟩ := flagN_lt leaf xs.length
  have ht : (UInt8.ofNat (flagN leaf xs.length)).toNat = flagN leaf xs.length := by rw [UInt8.toNat_ofNat']; omega
  unfold packB
  by_cases g : xs.length % 2 = 1
  ·have hb : bAt xs 0 < 16 := by
    rw [bAt_get (by omega)]
    exact hp.2 _ (List.getElem_mem _)
   have hb' : (UInt8.ofNat (bAt xs 0)).toNat = bAt xs 0 := by rw [UInt8.toNat_ofNat']; omega
   have := or16 (a := UInt8.ofNat (flagN leaf xs.length)) (b := UInt8.ofNat (bAt xs 0)) (by omega) (by omega)
   rw [ht, hb'] at this
   rw [if_pos g, if_pos g, this, g]
   rfl
  ·have h0 : (0 : UInt8).toNat = 0 := rfl
   have := or16 (a := UInt8.ofNat (flagN leaf xs.length)) (b := 0) (by omega) (by decide)
   rw [ht, h0, Nat.add_zero] at this
   rw [if_neg g, if_neg g, this, show xs.length % 2 = 0 by omega, List.drop_zero]
   rfl
 ·exact .inr hp
theorem row_byte {xs : List UInt8} {i : Nat} (h : i < xs.length) : (xs.map byV)[i]? = some (byV xs[i]) := by
 rw [List.getElem?_map, List.getElem?_eq_getElem h]
 rfl
set_option maxHeartbeats 16000000 in
theorem pack_d {A : Option (Nat × Nat)} {xs : List UInt8} {c : Nat} {o leaf : Bool} {hp : Hp} (ho : OkH hp) (hA : RB ⟨hp, []⟩ A (xs.map byV)) (hc : xs.length ≤ c) :
  Fn kxD 42 [.sl A xs.length c o, .b leaf] hp [] fun r N => if pathOk xs then ∃ u, r = .v u ∧ ∃ w, u = .tup [w, .i .i64 0] ∧ RowK (packB xs leaf) w N else ∃ u, r = .v u ∧ u = .tup [.sl none 0 0 false, .i .i64 60] := by
 refine Fn.dropC ?_
 refine fn_of_w (T := []) ho.sv (fun _ => rfl) (fn := Try.f42) (by kernel_rfl) rfl rfl ?_
 refine wo ?_
 by_cases g0 : 64 < xs.length
 ·have hno : ¬ pathOk xs := fun h => by have := h.1; omega
  apply wm; iterate 5 exact rfl
  refine mv_int (v := .b true) rfl rfl (vi_gtrT (by omega))
  refine wo ?_
  exact w_ret (wend_ret (vres2 (rv_tmp rfl) (rv_tmp rfl)) ⟨[], cle, by rw [if_neg hno]; exact ⟨_, rfl, rfl⟩⟩)
 apply wm; iterate 5 exact rfl
 refine mv_int (v := .b false) rfl rfl (vi_gtrF (by omega))
 refine wo ?_
 iterate 4 ((try refine w_seq ?_); refine wo ?_)
 refine w_loop (ι := Nat) (fun i => [(17, .i .i64 (i : Nat)), (16, .i .i64 (xs.length : Nat)), (15, .sl A xs.length c o), (1, .b leaf), (0, .sl A xs.length c o)]) (fun i => []) (fun i => i ≤ xs.length ∧ ∀ j, (hj : j < xs.length) → j < i → xs[j].toNat < 16) (fun i => xs.length - i) 0 ⟨Nat.zero_le _, fun j _ h => by omega⟩ ⟨rfl, rfl, rfl, rfl, rfl, trivial⟩ (fun hp h => h) ?_
 intro i ⟨hi, hlt⟩
 refine wo ?_
 by_cases g : i < xs.length
 ·obtain ⟨ba, oa, rfl⟩ := rb_spot hA (by omega)
  apply wm; iterate 5 exact rfl
  refine mv_int (v := .b true) rfl rfl (vi_lssT (by omega))
  refine wo ?_
  apply wn; iterate 5 exact rfl
  refine p_ia rfl rfl g
  apply wm; iterate 5 exact rfl
  refine m_ldN (j := i) rfl hA.1 hA.2 rfl (row_byte g)
  refine wo ?_
  by_cases g1 : 15 < xs[i].toNat
  ·have hno : ¬ pathOk xs := fun h => by have := h.2 _ (List.getElem_mem g); omega
   apply wm; iterate 5 exact rfl
   refine mv_int (v := .b true) rfl rfl (vi_gtrT ((by show (15 : Int) < (xs[i].toNat : Nat); omega)))
   refine wo ?_
   exact w_ret (wend_ret (vres2 (rv_tmp rfl) (rv_tmp rfl)) ⟨[], cle, by rw [if_neg hno]; exact ⟨_, rfl, rfl⟩⟩)
  ·apply wm; iterate 5 exact rfl
   refine mv_int (v := .b false) rfl rfl (vi_gtrF ((by show ¬ (15 : Int) < (xs[i].toNat : Nat); omega)))
   refine wo ?_
   exact ⟨rfl, i + 1, ⟨g, fun j hj h => by
    rcases Nat.lt_or_ge j i with h' | h'
    ·exact hlt j hj h'
    ·obtain rfl : j = i := by omega
     omega⟩, by omega, ⟨rfl, rfl, rfl, rfl, rfl, trivial⟩, fun hp h => h⟩
 apply wm; iterate 5 exact rfl
 refine mv_int (v := .b false) rfl rfl (vi_lssF (by omega))
 refine wo ?_
 refine w_exit ?_
 obtain rfl : i = xs.length := by omega
 have hok : pathOk xs := ⟨by omega, fun x hx => by
  obtain ⟨j, hj, rfl⟩ := List.mem_iff_getElem.1 hx
  exact hlt j hj hj⟩
 have hpk := (packB_eq xs leaf).resolve_right fun h => h hok
 refine wOS0 ?_
 refine w_seq ?_
 refine wOS0 ?_
 refine w_cutS [(9, byV 0), (8, byV (UInt8.ofNat (if leaf then 2 else 0))), (0, .sl A xs.length c o)] [] True ?_ fun _ => ?_
 ·cases leaf with
  | true =>
   refine wo ?_
   apply wm; iterate 5 exact rfl
   refine m_orB (x := 0) (y := 2) rfl rfl
   refine wo ?_
   exact ⟨trivial, rfl, ⟨rfl, rfl, rfl, trivial⟩, fun hp h => h⟩
  | false =>
   refine wo ?_
   exact ⟨trivial, rfl, ⟨rfl, rfl, rfl, trivial⟩, fun hp h => h⟩
 refine wOS0 ?_
 refine w_cutE (ι := Option (Nat × Nat) × Nat × Bool) (fun s => [(9, byV (if xs.length % 2 = 1 then UInt8.ofNat (bAt xs 0) else 0)), (8, byV (UInt8.ofNat (flagN leaf xs.length))), (0, .sl s.1 (xs.drop (xs.length % 2)).length s.2.1 s.2.2)]) (fun _ => []) (fun s => RB ⟨hp, []⟩ s.1 ((xs.drop (xs.length % 2)).map byV) ∨ (xs.drop (xs.length % 2)).length = 0) ?_ ?_
 ·refine wo ?_
  apply wm; iterate 5 exact rfl
  refine m_remN rfl rfl (by decide)
  by_cases g : xs.length % 2 = 1
  ·have hb : bAt xs 0 < 16 := by
    rw [bAt_get (by omega)]
    exact hok.2 _ (List.getElem_mem _)
   obtain ⟨ba, oa, rfl⟩ := rb_spot hA (by omega)
   have hx0 := row_byte (xs := xs) (i := 0) (by omega)
   have e0 : xs[0]'(by omega) = UInt8.ofNat (bAt xs 0) := by rw [bAt_get (by omega), UInt8.ofNat_toNat]
   rw [e0] at hx0
   have ef : UInt8.ofNat (if leaf = true then 2 else 0) ||| 1 = UInt8.ofNat (flagN leaf xs.length) := by
    unfold flagN
    rw [g]
    cases leaf <;> rfl
   apply wm; iterate 5 exact rfl
   refine mv_int (v := .b true) rfl rfl (vi_eqlT (by omega))
   refine wo ?_
   apply wm; iterate 5 exact rfl
   refine m_orB (y := 1) rfl rfl
   rw [ef]
   refine wo ?_
   apply dn; iterate 5 exact rfl
   refine p_ia rfl rfl (by omega)
   apply dm; iterate 6 exact rfl
   refine m_ldN (j := 0) rfl hA.1 hA.2 rfl hx0
   refine wo ?_
   apply d_op; exact (vwant_n rfl); exact rfl; exact noRd rfl; decide +kernel; (iterate 3 exact rfl); rotate_left
   refine e_slH (i := 1) rfl (bl_some rfl) bl_none (by decide) (by omega) (Nat.le_refl _) hc hA (by simp) fun a' c' hA' hc' => ⟨_, rfl, ?_⟩
   try (case hok => exact rdOk_nil)
   refine wo ?_
   refine ⟨(some a', c', o), ?_, rfl, ⟨?_, rfl, ?_, trivial⟩, fun hp h => h⟩
   ·rcases hA' with hA' | hA'
    ·refine .inl ?_
     rw [← List.map_drop, List.take_of_length_le (by simp)] at hA'
     rw [g]
     exact hA'
    ·exact .inr (by rw [List.length_drop]; omega)
   ·rw [if_pos g]; rfl
   ·rw [g, List.length_drop]; rfl
  ·have ef : UInt8.ofNat (if leaf = true then 2 else 0) = UInt8.ofNat (flagN leaf xs.length) := by
    unfold flagN
    rw [show xs.length % 2 = 0 by omega, Nat.add_zero]
   apply wm; iterate 5 exact rfl
   refine mv_int (v := .b false) rfl rfl (vi_eqlF (by omega))
   refine wo ?_
   refine ⟨(A, c, o), .inl (by rw [show xs.length % 2 = 0 by omega, List.drop_zero]; exact hA), rfl, ⟨?_, ?_, ?_, trivial⟩, fun hp h => h⟩
   ·rw [if_neg g]; rfl
   ·rw [← ef]; rfl
   ·rw [show xs.length % 2 = 0 by omega, List.drop_zero]; rfl
 rintro ⟨A2, c2, o2⟩ hA2
 dsimp only at hA2 ⊢
 have hev : (xs.drop (xs.length % 2)).length % 2 = 0 := by rw [List.length_drop]; omega
 have hys : ∀ y ∈ xs.drop (xs.length % 2), y.toNat < 16 := fun y hy => hok.2 y (List.mem_of_mem_drop hy)
 have hyl : (xs.drop (xs.length % 2)).length ≤ 64 := by rw [List.length_drop]; have := hok.1; omega
 generalize xs.drop (xs.length % 2) = ys at *
 refine wo ?_
 apply wm; iterate 5 exact rfl
 refine m_shlB rfl rfl (by decide)
 refine wo ?_
 apply wm; iterate 5 exact rfl
 refine m_orB rfl rfl
 rw [show (UInt8.ofNat (flagN leaf xs.length)).toNat = flagN leaf xs.length by have := (flagN_lt leaf xs.length).1; rw [UInt8.toNat_ofNat']; omega]
 generalize UInt8.ofNat (flagN leaf xs.length * 2 ^ 4) ||| (if xs.length % 2 = 1 then UInt8.ofNat (bAt xs 0) else 0) = y0 at *
 apply p_op; exact (vwant_n rfl); iterate 4 exact rfl
 refine e_bs (C := [byV y0]) rfl rfl (.cons rfl rfl .nil) rfl fun b1 => ⟨_, rfl, ?_⟩
 refine wo ?_
 iterate 4 ((try refine w_seq ?_); refine wo ?_)
 refine w_loop (ι := Nat × V × HV) (fun s => [(11, .i .i64 (s.1 : Nat)), (10, s.2.1), (0, .sl A2 ys.length c2 o2)]) (fun s => s.2.2) (fun s => s.1 ≤ ys.length ∧ s.1 % 2 = 0 ∧ RowK ([y0] ++ pairB (ys.take s.1)) s.2.1 s.2.2) (fun s => ys.length - s.1) (0, .sl (some (b1, 0)) 1 1 false, [_]) ⟨Nat.zero_le _, rfl, RowU.lit1⟩ ⟨rfl, rfl, rfl, trivial⟩ (fun hp h => h) ?_
 intro ⟨i, u, N⟩ ⟨hi, he, hu⟩
 dsimp only at hi he hu ⊢
 obtain ⟨A0, op0, rfl⟩ := hu.sl
 have hpl : (pairB (ys.take i)).length ≤ 64 := by
  have := pairB_len _ (ys.take i) (Nat.le_refl _)
  rw [List.length_take] at this
  omega
 refine wo ?_
 by_cases g : i < ys.length
 ·have hA3 := hA2.resolve_right (by omega)
  obtain ⟨ba, oa, rfl⟩ := rb_spot hA3 (by omega)
  have hi1 : i + 1 < ys.length := by omega
  apply wm; iterate 5 exact rfl
  refine mv_int (v := .b true) rfl rfl (vi_lssT (by omega))
  refine wo ?_
  apply dn; iterate 5 exact rfl
  refine p_ia rfl rfl g
  apply dm; iterate 6 exact rfl
  refine m_ldN (j := i) rfl hA3.1 hA3.2 rfl (row_byte g)
  apply dm; iterate 6 exact rfl
  refine m_shlB rfl rfl (by decide)
  refine wo ?_
  apply dn; iterate 5 exact rfl
  refine p_ia rfl rfl hi1
  apply dm; iterate 6 exact rfl
  refine m_ldN (j := i + 1) rfl hA3.1 hA3.2 rfl (row_byte hi1)
  apply dm; iterate 6 exact rfl
  refine m_orB rfl rfl
  rw [or16 (hys _ (List.getElem_mem g)) (hys _ (List.getElem_mem hi1))]
  apply d_op; exact (vwant_n rfl); exact rfl; exact noRd rfl; decide +kernel; (iterate 3 exact rfl); rotate_left
  refine e_bs (C := [byV (UInt8.ofNat (ys[i].toNat * 16 + ys[i + 1].toNat))]) rfl rfl (.cons rfl rfl .nil) rfl fun b2 => ⟨_, rfl, ?_⟩
  try (case hok => exact rdOk_nil)
  apply d_op; exact (vwant_n rfl); exact rfl; exact noRd rfl; decide +kernel; (iterate 3 exact rfl); rotate_left
  refine e_appW (ys := [UInt8.ofNat (ys[i].toNat * 16 + ys[i + 1].toNat)]) hu rfl rfl (rz_loc (k := 1) rfl) rfl u8_one (by rw [List.length_append]; show 1 + _ + 1 ≤ _; omega) fun A' m' op' N' hu' hm' => ⟨_, rfl, ?_⟩
  try (case hok => exact rdOk_b (by decide +kernel))
  refine wo ?_
  refine ⟨rfl, (i + 2, _, N'), ⟨by omega, by omega, ?_⟩, by dsimp only; omega, ⟨rfl, rfl, rfl, trivial⟩, fun hp h => h.headL⟩
  rw [pairB_at hi1 he, ← List.append_assoc]
  exact hu'
 apply wm; iterate 5 exact rfl
 refine mv_int (v := .b false) rfl rfl (vi_lssF (by omega))
 refine wo ?_
 refine w_exit ?_
 obtain rfl : i = ys.length := by omega
 rw [List.take_length] at hu ⊢
 refine wo ?_
 exact w_ret (wend_ret (vres2 (rv_tmp rfl) (rv_tmp rfl)) ⟨N, cle, by rw [if_pos hok]; exact ⟨_, rfl, _, rfl, by rw [hpk]; exact hu⟩⟩)
/- Nw2: paths unpacked by the program; the shape of refs and nodes on the machine; the small functions of node. By this project. -/
theorem nibB_snoc : ∀ (l : List UInt8) (x : UInt8), nibB (l ++ [x]) = nibB l ++ [UInt8.ofNat (x.toNat / 16), UInt8.ofNat (x.toNat % 16)]
 | [], x => rfl
 | y :: l, x => by rw [List.cons_append, nibB, nibB_snoc l x, nibB]; rfl
theorem byV_lt {n : Nat} (h : n < 256) : V.i .u8 (n : Int) = byV (UInt8.ofNat n) := by
 unfold byV
 rw [UInt8.toNat_ofNat', Nat.mod_eq_of_lt (by omega)]
 rfl
theorem and15 (x : UInt8) : x &&& 15 = UInt8.ofNat (x.toNat % 16) := by
 apply UInt8.toNat_inj.1
 rw [UInt8.toNat_and, UInt8.toNat_ofNat', show (15 : UInt8).toNat = 2 ^ 4 - 1 from rfl, Nat.and_two_pow_sub_one_eq_mod]
 omega
theorem and1_lt {f : Nat} (h : f < 4) : UInt8.ofNat f &&& 1 = UInt8.ofNat (f % 2) := by
 rcases (by omega : f = 0 ∨ f = 1 ∨ f = 2 ∨ f = 3) with rfl | rfl | rfl | rfl <;> rfl
theorem and2_lt {f : Nat} (h : f < 4) : UInt8.ofNat f &&& 2 = UInt8.ofNat (if 2 ≤ f then 2 else 0) := by
 rcases (by omega : f = 0 ∨ f = 1 ∨ f = 2 ∨ f = 3) with rfl | rfl | rfl | rfl <;> rfl
set_option maxHeartbeats 16000000 in
theorem unpack_d {A : Option (Nat × Nat)} {b : List UInt8} {c : Nat} {o : Bool} {hp : Hp} (ho : OkH hp) (hA : RB ⟨hp, []⟩ A (b.map byV)) (hc : b.length ≤ c) (hl : b.length ≤ 1048576) :
  Fn kxD 53 [.sl A b.length c o] hp [] fun r N => match unpackS b with
   | none => ∃ u, r = .v u ∧ u = .tup [.sl none 0 0 false, .b false, .i .i64 60]
   | some (xs, lf) => ∃ u, r = .v u ∧ ∃ w, u = .tup [w, .b lf, .i .i64 0] ∧ RowK xs w N := by
 refine Fn.dropC ?_
 refine fn_of_w (T := []) ho.sv (fun _ => rfl) (fn := Try.f53) (by kernel_rfl) rfl rfl ?_
 refine wOS0 ?_
 refine w_seq ?_
 refine wOS0 ?_
 refine w_seq ?_
 refine w_seq ?_
 refine wOS0 ?_
 cases b with
 | nil =>
  apply wm; iterate 5 exact rfl
  refine mv_int (v := .b true) rfl rfl (vi_eqlT (rfl))
  refine wo ?_
  exact w_ret (wend_ret (vres3 (rv_tmp rfl) (rv_tmp rfl) (rv_tmp rfl)) ⟨[], cle, _, rfl, rfl⟩)
 | cons x r =>
 have hlen : (x :: r).length = r.length + 1 := rfl
 have hx := x.toNat_lt
 obtain ⟨ba, oa, rfl⟩ := rb_spot hA (by omega)
 apply wm; iterate 5 exact rfl
 refine mv_int (v := .b false) rfl rfl (vi_eqlF (by omega))
 refine wOS0 ?_
 refine w_seq ?_
 refine wOS0 ?_
 apply dn; iterate 5 exact rfl
 refine p_ia rfl rfl (by omega)
 apply dm; iterate 6 exact rfl
 refine m_ldN (j := 0) (v := byV x) rfl hA.1 hA.2 rfl rfl
 apply dm; iterate 6 exact rfl
 refine m_shrN (n := x.toNat) (m := 4) rfl rfl (by decide)
 refine wOS0 ?_
 apply dn; iterate 5 exact rfl
 refine p_ia rfl rfl (by omega)
 apply dm; iterate 6 exact rfl
 refine m_ldN (j := 0) (v := byV x) rfl hA.1 hA.2 rfl rfl
 apply dm; iterate 6 exact rfl
 refine m_andB (x := x) (y := 15) rfl rfl
 rw [and15, byV_lt (show x.toNat / 2 ^ 4 < 256 by omega), show x.toNat / 2 ^ 4 = x.toNat / 16 by omega]
 have hf16 : x.toNat / 16 < 16 := by omega
 have hun : unpackS (x :: r) = if 4 ≤ x.toNat / 16 then none
  else if x.toNat / 16 % 2 = 0 ∧ x.toNat % 16 ≠ 0 then none
  else if 64 < ((if x.toNat / 16 % 2 = 1 then [UInt8.ofNat (x.toNat % 16)] else []) ++ nibB r).length then none
  else some ((if x.toNat / 16 % 2 = 1 then [UInt8.ofNat (x.toNat % 16)] else []) ++ nibB r, decide (2 ≤ x.toNat / 16)) := rfl
 have hq16 : x.toNat % 16 < 16 := by omega
 generalize x.toNat / 16 = f at *
 generalize x.toNat % 16 = q at *
 have hfv : (UInt8.ofNat f).toNat = f := by rw [UInt8.toNat_ofNat']; omega
 have hqv : (UInt8.ofNat q).toNat = q := by rw [UInt8.toNat_ofNat']; omega
 refine wOS0 ?_
 refine w_cutE (ι := V × HV) (fun s => [(6, byV (UInt8.ofNat q)), (5, byV (UInt8.ofNat f)), (2, s.1), (0, .sl (some (ba, oa)) (x :: r).length c o)]) (fun s => s.2) (fun s => f < 4 ∧ ¬ (f % 2 = 0 ∧ q ≠ 0) ∧ RowK (if f % 2 = 1 then [UInt8.ofNat q] else []) s.1 s.2) ?_ ?_
 ·refine wo ?_
  by_cases g1 : 4 ≤ f
  ·apply wm; iterate 5 exact rfl
   refine mv_int (v := .b true) rfl rfl (vi_geqT ((by show (4 : Int) ≤ ((UInt8.ofNat f).toNat : Nat); omega)))
   refine wo ?_
   exact w_ret (wend_ret (vres3 (rv_tmp rfl) (rv_tmp rfl) (rv_tmp rfl)) ⟨[], cle, by rw [hun, if_pos g1]; exact ⟨_, rfl, rfl⟩⟩)
  apply wm; iterate 5 exact rfl
  refine mv_int (v := .b false) rfl rfl (vi_geqF ((by show ¬ (4 : Int) ≤ ((UInt8.ofNat f).toNat : Nat); omega)))
  have h4 : f < 4 := by omega
  have h1v : (UInt8.ofNat (f % 2)).toNat = f % 2 := by rw [UInt8.toNat_ofNat']; omega
  refine wo ?_
  apply wm; iterate 5 exact rfl
  refine m_andB (x := UInt8.ofNat f) (y := 1) rfl rfl
  rw [and1_lt h4]
  by_cases g2 : f % 2 = 0
  ·apply wm; iterate 5 exact rfl
   refine mv_int (v := .b true) rfl rfl (vi_eqlT ((by show (((UInt8.ofNat (f % 2)).toNat : Nat) : Int) = 0; omega)))
   refine wo ?_
   by_cases g3 : q = 0
   ·apply wmg; iterate 7 exact rfl
    refine mv_int (v := .b false) rfl rfl (vi_neqF ((by show (((UInt8.ofNat q).toNat : Nat) : Int) = 0; omega)))
    refine wo ?_
    apply wm; iterate 5 exact rfl
    refine m_andB (x := UInt8.ofNat f) (y := 1) rfl rfl
    rw [and1_lt h4]
    apply wm; iterate 5 exact rfl
    refine mv_int (v := .b false) rfl rfl (vi_neqF ((by show (((UInt8.ofNat (f % 2)).toNat : Nat) : Int) = 0; omega)))
    refine wo ?_
    exact ⟨(.sl none 0 0 false, []), ⟨h4, fun h => h.2 g3, by rw [if_neg (by omega)]; exact .nil⟩, rfl, ⟨rfl, rfl, rfl, rfl, trivial⟩, fun hp h => h⟩
   ·apply wmg; iterate 7 exact rfl
    refine mv_int (v := .b true) rfl rfl (vi_neqT ((by show (((UInt8.ofNat q).toNat : Nat) : Int) ≠ 0; omega)))
    refine wo ?_
    exact w_ret (wend_ret (vres3 (rv_tmp rfl) (rv_tmp rfl) (rv_tmp rfl)) ⟨[], cle, by rw [hun, if_neg g1, if_pos ⟨g2, g3⟩]; exact ⟨_, rfl, rfl⟩⟩)
  ·apply wm; iterate 5 exact rfl
   refine mv_int (v := .b false) rfl rfl (vi_eqlF ((by show ¬ (((UInt8.ofNat (f % 2)).toNat : Nat) : Int) = 0; omega)))
   refine wo ?_
   apply wm; iterate 5 exact rfl
   refine m_andB (x := UInt8.ofNat f) (y := 1) rfl rfl
   rw [and1_lt h4]
   apply wm; iterate 5 exact rfl
   refine mv_int (v := .b true) rfl rfl (vi_neqT ((by show (((UInt8.ofNat (f % 2)).toNat : Nat) : Int) ≠ 0; omega)))
   refine wo ?_
   apply p_op; exact (vwant_n rfl); iterate 4 exact rfl
   refine e_bs (C := [byV (UInt8.ofNat q)]) rfl rfl (.cons rfl rfl .nil) rfl fun b1 => ⟨_, rfl, ?_⟩
   apply p_op; exact (vwant_n rfl); iterate 4 exact rfl
   refine e_appW (ys := [UInt8.ofNat q]) .nil rfl rfl (rz_loc (k := 1) rfl) rfl u8_one (by decide) fun A' m' op' N' hu' hm' => ⟨_, rfl, ?_⟩
   refine wo ?_
   exact ⟨(_, N'), ⟨h4, fun h => g2 h.1, by rw [if_pos (by omega)]; exact hu'⟩, rfl, ⟨rfl, rfl, rfl, rfl, trivial⟩, fun hp h => h.headL⟩
 rintro ⟨u0, N0⟩ ⟨h4, h5, hu0⟩
 dsimp only at hu0 ⊢
 rw [if_neg (by omega), if_neg h5] at hun
 have hpl : (if f % 2 = 1 then [UInt8.ofNat q] else []).length ≤ 1 := by split <;> simp
 generalize (if f % 2 = 1 then [UInt8.ofNat q] else []) = pre at *
 refine wo ?_
 iterate 4 ((try refine w_seq ?_); refine wo ?_)
 apply p_op; exact (vwant_n rfl); iterate 4 exact rfl
 refine e_slH (i := 1) rfl (bl_some rfl) bl_none (by decide) (by omega) (Nat.le_refl _) hc hA (by simp) fun a' c' hA' hc' => ⟨_, rfl, ?_⟩
 have hA2 : RB ⟨hp, []⟩ (some a') (r.map byV) ∨ r.length = 0 := by
  rcases hA' with h | h
  ·exact .inl (by rw [List.take_of_length_le (by simp)] at h; exact h)
  ·exact .inr (by omega)
 have hrl : (x :: r).length - 1 = r.length := rfl
 rw [hrl]
 refine wo ?_
 iterate 4 ((try refine w_seq ?_); refine wo ?_)
 refine w_loop (ι := Nat × V × HV) (fun s => [(41, .i .i64 (s.1 : Nat)), (40, .i .i64 (r.length : Nat)), (39, .sl (some a') r.length c' o), (5, byV (UInt8.ofNat f)), (2, s.2.1)]) (fun s => s.2.2) (fun s => s.1 ≤ r.length ∧ RowK (pre ++ nibB (r.take s.1)) s.2.1 s.2.2) (fun s => r.length - s.1) (0, u0, N0) ⟨Nat.zero_le _, by rw [List.take_zero, nibB, List.append_nil]; exact hu0⟩ ⟨rfl, rfl, rfl, rfl, rfl, trivial⟩ (fun hp h => h) ?_
 intro ⟨i, u, N⟩ ⟨hi, hu⟩
 dsimp only at hi hu ⊢
 obtain ⟨A0, op0, rfl⟩ := hu.sl
 have hnl := nibB_len (r.take i)
 rw [List.length_take] at hnl
 refine wo ?_
 by_cases g : i < r.length
 ·have hA3 := hA2.resolve_right (by omega)
  have hri := r[i].toNat_lt
  apply wm; iterate 5 exact rfl
  refine mv_int (v := .b true) rfl rfl (vi_lssT (by omega))
  refine wo ?_
  apply wn; iterate 5 exact rfl
  refine p_ia rfl rfl g
  apply wm; iterate 5 exact rfl
  refine m_ldN (j := i) rfl hA3.1 hA3.2 rfl (row_byte g)
  refine wo ?_
  apply wm; iterate 5 exact rfl
  refine m_shrN (n := r[i].toNat) (m := 4) rfl rfl (by decide)
  refine wo ?_
  apply wm; iterate 5 exact rfl
  refine m_andB (x := r[i]) (y := 15) rfl rfl
  rw [and15, byV_lt (show r[i].toNat / 2 ^ 4 < 256 by omega), show r[i].toNat / 2 ^ 4 = r[i].toNat / 16 by omega]
  apply p_op; exact (vwant_n rfl); iterate 4 exact rfl
  refine e_bs (C := [byV (UInt8.ofNat (r[i].toNat / 16)), byV (UInt8.ofNat (r[i].toNat % 16))]) rfl rfl (.cons rfl rfl (.cons rfl rfl .nil)) rfl fun b2 => ⟨_, rfl, ?_⟩
  apply p_op; exact (vwant_n rfl); iterate 4 exact rfl
  refine e_appW (ys := [UInt8.ofNat (r[i].toNat / 16), UInt8.ofNat (r[i].toNat % 16)]) hu rfl rfl (rz_loc (k := 2) rfl) rfl u8_one (by rw [List.length_append]; omega) fun A' m' op' N' hu' hm' => ⟨_, rfl, ?_⟩
  refine wo ?_
  refine ⟨rfl, (i + 1, _, N'), ⟨g, ?_⟩, by dsimp only; omega, ⟨rfl, rfl, rfl, rfl, rfl, trivial⟩, fun hp h => h.headL⟩
  rw [List.take_succ_eq_append_getElem g, nibB_snoc, ← List.append_assoc]
  exact hu'
 apply wm; iterate 5 exact rfl
 refine mv_int (v := .b false) rfl rfl (vi_lssF (by omega))
 refine wo ?_
 refine w_exit ?_
 obtain rfl : i = r.length := by omega
 rw [List.take_length] at hu ⊢
 refine wo ?_
 by_cases g6 : 64 < (pre ++ nibB r).length
 ·apply wm; iterate 5 exact rfl
  refine mv_int (v := .b true) rfl rfl (vi_gtrT (by omega))
  refine wo ?_
  exact w_ret (wend_ret (vres3 (rv_tmp rfl) (rv_tmp rfl) (rv_tmp rfl)) ⟨[], cle, by rw [hun, if_pos g6]; exact ⟨_, rfl, rfl⟩⟩)
 apply wm; iterate 5 exact rfl
 refine mv_int (v := .b false) rfl rfl (vi_gtrF (by omega))
 refine wo ?_
 apply wm; iterate 5 exact rfl
 refine m_andB (x := UInt8.ofNat f) (y := 2) rfl rfl
 rw [and2_lt h4]
 by_cases g7 : 2 ≤ f
 ·rw [if_pos g7]
  apply wm; iterate 5 exact rfl
  refine mv_int (v := .b true) rfl rfl (vi_neqT ((by decide)))
  refine wo ?_
  exact w_ret (wend_ret (vres3 (rv_tmp rfl) (rv_tmp rfl) (rv_tmp rfl)) ⟨N, cle, by rw [hun, if_neg g6, decide_eq_true g7]; exact ⟨_, rfl, _, rfl, hu⟩⟩)
 ·rw [if_neg g7]
  apply wm; iterate 5 exact rfl
  refine mv_int (v := .b false) rfl rfl (vi_neqF ((by decide)))
  refine wo ?_
  exact w_ret (wend_ret (vres3 (rv_tmp rfl) (rv_tmp rfl) (rv_tmp rfl)) ⟨N, cle, by rw [hun, if_neg g6, decide_eq_false g7]; exact ⟨_, rfl, _, rfl, hu⟩⟩)
/- Nw3: refs and nodes as they lie; the small functions of node. By this project. -/
abbrev PP := Option (Nat × Nat) → Nat → Bool → List V → Prop
abbrev rbP (B : Bs) : PP := fun A _ _ cs => RB B A cs
abbrev snP (N : HV) : PP := fun A _ _ cs => Sn N A cs
abbrev refC (r : RefS) (s : V) : List V := .i .i64 r.k :: (r.h.map byV ++ [s])
def RefP (P : PP) (r : RefS) (w : List V) : Prop := r.h.length = 32 ∧ ∃ A c o, w = refC r (.sl A r.n.length c o) ∧ P A c o (r.n.map byV) ∧ r.n.length ≤ c
def RefsP (P : PP) : List RefS → List (List V) → Prop
 | [], ks => ks = []
 | r :: l, ks => ∃ w ws, ks = w :: ws ∧ RefP P r w ∧ RefsP P l ws
abbrev nodC (n : NodS) (p v : V) (nx ks : List V) : List V := .i .i64 n.k :: p :: v :: .b n.full :: (nx ++ ks)
def NodP (P : PP) (n : NodS) (w : List V) : Prop := n.kids.length = 16 ∧ ∃ A c o A' c' o' nx ks, w = nodC n (.sl A n.path.length c o) (.sl A' n.val.length c' o') nx ks.flatten ∧ P A c o (n.path.map byV) ∧ n.path.length ≤ c ∧ P A' c' o' (n.val.map byV) ∧ n.val.length ≤ c' ∧ RefP P n.next nx ∧ RefsP P n.kids ks
theorem refC_len {r : RefS} {s : V} (h : r.h.length = 32) : (refC r s).length = 34 := by simp [h]
theorem refC_hash {r : RefS} {s : V} (h : r.h.length = 32) : ((refC r s).drop (0 + 1)).take 32 = r.h.map byV := by
 rw [Nat.zero_add, List.drop_succ_cons, List.drop_zero, List.take_append_of_le_length (by simp [h]), List.take_of_length_le (by simp [h])]
theorem refC_node {r : RefS} {s : V} (h : r.h.length = 32) : (refC r s)[0 + 33]? = some s := by
 rw [Nat.zero_add, List.getElem?_cons_succ, List.getElem?_append_right (by simp [h])]
 simp [h]
theorem RefP.len {P : PP} {r : RefS} {w : List V} (h : RefP P r w) : w.length = 34 := by
 obtain ⟨h1, A, c, o, rfl, _⟩ := h
 exact refC_len h1
theorem RefP.mono {P P' : PP} (hm : ∀ A c o cs, P A c o cs → P' A c o cs) {r : RefS} {w : List V} (h : RefP P r w) : RefP P' r w := by
 obtain ⟨h1, A, c, o, h2, h3, h4⟩ := h
 exact ⟨h1, A, c, o, h2, hm _ _ _ _ h3, h4⟩
theorem refsP_mono {P P' : PP} (hm : ∀ A c o cs, P A c o cs → P' A c o cs) : ∀ {l : List RefS} {ks : List (List V)}, RefsP P l ks → RefsP P' l ks
 | [], ks, h => h
 | r :: l, ks, h => by
  obtain ⟨w, ws, h0, h1, h2⟩ := h
  exact ⟨w, ws, h0, h1.mono hm, refsP_mono hm h2⟩
theorem NodP.mono {P P' : PP} (hm : ∀ A c o cs, P A c o cs → P' A c o cs) {n : NodS} {w : List V} (h : NodP P n w) : NodP P' n w := by
 obtain ⟨h0, A, c, o, A', c', o', nx, ks, h1, h2, h3, h4, h5, h6, h7⟩ := h
 exact ⟨h0, A, c, o, A', c', o', nx, ks, h1, hm _ _ _ _ h2, h3, hm _ _ _ _ h4, h5, h6.mono hm, refsP_mono hm h7⟩
theorem refsP_at {P : PP} : ∀ {l : List RefS} {ks : List (List V)} {i : Nat} {r : RefS}, RefsP P l ks → l[i]? = some r → ∃ w, ks[i]? = some w ∧ RefP P r w
 | [], _, _, _, _, hi => by simp at hi
 | x :: l, ks, 0, r, h, hi => by
  obtain ⟨w, ws, rfl, h1, _⟩ := h
  simp only [List.getElem?_cons_zero, Option.some.injEq] at hi
  subst hi
  exact ⟨w, rfl, h1⟩
 | x :: l, ks, i + 1, r, h, hi => by
  obtain ⟨w, ws, rfl, _, h2⟩ := h
  have := refsP_at (i := i) (r := r) h2 (by simpa using hi)
  simpa using this
theorem refsP_rows {P : PP} : ∀ {l : List RefS} {ks : List (List V)}, RefsP P l ks → ∀ x ∈ ks, x.length = 34
 | [], ks, h, x, hx => by rw [RefsP] at h; subst h; simp at hx
 | t :: r, ks, h, x, hx => by
  obtain ⟨v, ws, rfl, h1, h2⟩ := h
  rcases List.mem_cons.1 hx with rfl | hx
  ·exact h1.len
  ·exact refsP_rows h2 x hx
theorem flatK_len {k : Nat} : ∀ {ks : List (List V)}, (∀ x ∈ ks, x.length = k) → ks.flatten.length = ks.length * k
 | [], _ => by simp
 | x :: r, h => by
  rw [List.flatten_cons, List.length_append, h x List.mem_cons_self, flatK_len fun y hy => h y (List.mem_cons_of_mem _ hy), List.length_cons, Nat.succ_mul, Nat.add_comm]
theorem refsP_len {P : PP} : ∀ {l : List RefS} {ks : List (List V)}, RefsP P l ks → ks.length = l.length
 | [], ks, h => by rw [RefsP] at h; subst h; rfl
 | t :: r, ks, h => by
  obtain ⟨v, ws, rfl, h1, h2⟩ := h
  rw [List.length_cons, List.length_cons, refsP_len h2]
theorem nodC_len {P : PP} {n : NodS} {p v : V} {nx : List V} {ks : List (List V)} {l : List RefS} (h : nx.length = 34) (hk : RefsP P l ks) (hl : l.length = 16) : (nodC n p v nx ks.flatten).length = 582 := by
 have := flatK_len (refsP_rows hk)
 rw [refsP_len hk, hl] at this
 simp only [List.length_cons, List.length_append, h, this]
theorem NodP.len {P : PP} {n : NodS} {w : List V} (h : NodP P n w) : w.length = 582 := by
 obtain ⟨h0, A, c, o, A', c', o', nx, ks, rfl, h2, h3, h4, h5, h6, h7⟩ := h
 exact nodC_len h6.len h7 h0
theorem nodC_next {n : NodS} {p v : V} {nx ks : List V} (h : nx.length = 34) : ((nodC n p v nx ks).drop (0 + 4)).take 34 = nx := by
 show (nx ++ ks).take 34 = nx
 rw [List.take_append_of_le_length (by omega), List.take_of_length_le (by omega)]
theorem nodC_kid {P : PP} {n : NodS} {p v : V} {nx : List V} {ks : List (List V)} {l : List RefS} {i : Nat} (h : nx.length = 34) (hk : RefsP P l ks) (hi : i < l.length) : ∃ w, ((nodC n p v nx ks.flatten).drop (0 + 38 + i * 34)).take 34 = w ∧ (nodC n p v nx ks.flatten)[0 + 38 + i * 34]? = some (.i .i64 l[i].k) ∧ RefP P l[i] w := by
 obtain ⟨w, h1, h2⟩ := refsP_at hk (List.getElem?_eq_getElem hi)
 have h3 := flat_row (refsP_rows hk) h1
 have e : (nodC n p v nx ks.flatten).drop (0 + 38 + i * 34) = ks.flatten.drop (i * 34) := by
  rw [show 0 + 38 + i * 34 = i * 34 + 34 + 4 by omega]
  show (nx ++ ks.flatten).drop (i * 34 + 34) = _
  rw [List.drop_append, List.drop_of_length_le (by omega), List.nil_append, h, Nat.add_sub_cancel]
 refine ⟨w, by rw [e, h3], ?_, h2⟩
 have h4 : ((nodC n p v nx ks.flatten).drop (0 + 38 + i * 34))[0]? = w[0]? := by
  rw [e, ← h3, List.getElem?_take, if_pos (by decide)]
 rw [List.getElem?_drop, Nat.add_zero] at h4
 rw [h4]
 obtain ⟨_, A, c, o, rfl, _⟩ := h2
 rfl
section
variable {K : Kx} {hp0 : Bs} {l : VL} {L : HV} {a b : Operand} {t t' : TypeId}
theorem m_eqb {ti : TI} {x y : Bool} [ht : TiV K.C t ti] (hd : ti.d = .bool) (hx : evL l a = some (.b x)) (hy : evL l b = some (.b y)) : MVO K hp0 l L (.binOp .eql t a b t') (.b (x == y)) :=
 mv_eql hx hy rfl fun hp => by simp only [veqOp, veq, ht.h, Option.bind_some, hd]
end
theorem mayvalue_d {A : Option (Nat × Nat)} {v : List UInt8} {c : Nat} {o : Bool} {hp : Hp} (ho : OkH hp) : Fn kxD 43 [.sl A v.length c o] hp [] fun r _ => r = .v (.b (mayValS v)) := by
 unfold mayValS
 refine fn_of_w (T := []) ho.sv (fun _ => rfl) (fn := Try.f43) (by kernel_rfl) rfl rfl ?_
 refine wo ?_
 by_cases g : 1 ≤ v.length
 ·apply wm; iterate 5 exact rfl
  refine mv_int (v := .b true) rfl rfl (vi_geqT (by omega))
  refine wo ?_
  by_cases g2 : v.length ≤ 256
  ·apply wmg; iterate 7 exact rfl
   refine mv_int (v := .b true) rfl rfl (vi_leqT (by omega))
   refine wo ?_
   exact w_ret (wend_ret (vres1 (rv_tmp rfl)) (by rw [decide_eq_true ⟨g, g2⟩]))
  ·apply wmg; iterate 7 exact rfl
   refine mv_int (v := .b false) rfl rfl (vi_leqF (by omega))
   refine wo ?_
   exact w_ret (wend_ret (vres1 (rv_tmp rfl)) (by rw [decide_eq_false (fun h => g2 h.2)]))
 ·apply wm; iterate 5 exact rfl
  refine mv_int (v := .b false) rfl rfl (vi_geqF (by omega))
  refine wo ?_
  exact w_ret (wend_ret (vres1 (rv_tmp rfl)) (by rw [decide_eq_false (fun h => g h.1)]))
theorem text_d {s : V} {hp : Hp} {A : Option (Nat × Nat)} {n c : Nat} {o : Bool} (hs : s = .sl A n c o) (ho : OkH hp) : Fn kxD 51 [s] hp [] fun r _ => r = .v (.agg [.b false, s, .sl none 0 0 false]) := by
 subst hs
 refine fn_of_w (T := []) ho.sv (fun _ => rfl) (fn := Try.f51) (by kernel_rfl) rfl rfl ?_
 refine wo ?_
 apply p_op; exact (vwant_n rfl); iterate 4 exact rfl
 refine e_alloc rfl fun b2 => ⟨_, rfl, ?_⟩
 refine wo ?_
 apply wn; iterate 5 exact rfl
 refine p_buildS (C := [.b false, .sl A n c o, .sl none 0 0 false]) (.cons rfl rfl rfl rfl (Nat.le_of_ble_eq_true rfl) .nil) rfl
 apply p_do; exact (vwant_n rfl); exact rfl; exact rfl
 refine e_stn (C' := [.b false, .sl A n c o, .sl none 0 0 false]) rfl rfl (by simp) rfl (Nat.le_of_ble_eq_true rfl) rfl ⟨_, rfl, ?_⟩
 refine wo ?_
 exact w_ret (wend_ret (vres1 (rv_cell rfl rfl)) rfl)
set_option maxHeartbeats 4000000 in
theorem bare_d {P : PP} {r : RefS} {w : List V} {hp : Hp} (ho : OkH hp) (hr : RefP P r w) : Fn kxD 64 [.agg w] hp [] fun q _ => q = .v (.b (bareS r)) := by
 obtain ⟨hh, A, c, o, rfl, _, _⟩ := hr
 unfold bareS
 refine fn_of_w (T := []) ho.sv (fun _ => rfl) (fn := Try.f64) (by kernel_rfl) rfl rfl ?_
 refine wo ?_
 apply p_op; exact (vwant_n rfl); iterate 4 exact rfl
 refine ev_box rfl rfl fun bx => ⟨_, rfl, ?_⟩
 refine wo ?_
 by_cases k0 : r.k = 0
 ·apply wm; iterate 5 exact rfl
  refine mv_int (v := .b true) rfl rfl (vi_eqlT ((by rw [k0])))
  refine wo ?_
  refine zX (m_ldln (s := 31) (cs := r.h.map byV) rfl (refC_hash hh) (by rw [List.length_map, hh])) ?_
  refine wo ?_
  apply wn; iterate 5 exact rfl
  refine p_buildA0 (Z := (List.replicate 32 (0 : UInt8)).map byV)
  apply wm; iterate 5 exact rfl
  refine m_eqA (ys := zH32) rfl rfl rfl hh rfl
  by_cases g : r.h = zH32
  ·rw [decide_eq_true g]
   refine wo ?_
   refine zX (m_ldl rfl (refC_node hh)) ?_
   refine wo ?_
   by_cases g2 : r.n = []
   ·apply wmg; iterate 7 exact rfl
    refine mv_int (v := .b true) rfl rfl (vi_eqlT ((by rw [g2]; rfl)))
    refine wo ?_
    exact w_ret (wend_ret (vres1 (rv_tmp rfl)) (by rw [if_pos k0, decide_eq_true ⟨g, g2⟩]))
   ·have g3 : r.n.length ≠ 0 := fun e => g2 (List.length_eq_zero_iff.1 e)
    apply wmg; iterate 7 exact rfl
    refine mv_int (v := .b false) rfl rfl (vi_eqlF (by omega))
    refine wo ?_
    exact w_ret (wend_ret (vres1 (rv_tmp rfl)) (by rw [if_pos k0, decide_eq_false (fun h => g2 h.2)]))
  ·rw [decide_eq_false g]
   refine wo ?_
   exact w_ret (wend_ret (vres1 (rv_tmp rfl)) (by rw [if_pos k0, decide_eq_false (fun h => g h.1)]))
 apply wm; iterate 5 exact rfl
 refine mv_int (v := .b false) rfl rfl (vi_eqlF (by omega))
 refine wo ?_
 by_cases k1 : r.k = 1
 ·apply wm; iterate 5 exact rfl
  refine mv_int (v := .b true) rfl rfl (vi_eqlT ((by rw [k1])))
  refine wo ?_
  refine zX (m_ldl rfl (refC_node hh)) ?_
  refine wo ?_
  by_cases g2 : r.n = []
  ·apply wm; iterate 5 exact rfl
   refine mv_int (v := .b true) rfl rfl (vi_eqlT ((by rw [g2]; rfl)))
   refine wo ?_
   exact w_ret (wend_ret (vres1 (rv_tmp rfl)) (by rw [if_neg k0, if_pos k1, decide_eq_true g2]))
  ·have g3 : r.n.length ≠ 0 := fun e => g2 (List.length_eq_zero_iff.1 e)
   apply wm; iterate 5 exact rfl
   refine mv_int (v := .b false) rfl rfl (vi_eqlF (by omega))
   refine wo ?_
   exact w_ret (wend_ret (vres1 (rv_tmp rfl)) (by rw [if_neg k0, if_pos k1, decide_eq_false g2]))
 apply wm; iterate 5 exact rfl
 refine mv_int (v := .b false) rfl rfl (vi_eqlF (by omega))
 refine wo ?_
 by_cases k2 : r.k = 2
 ·apply wm; iterate 5 exact rfl
  refine mv_int (v := .b true) rfl rfl (vi_eqlT ((by rw [k2])))
  refine wo ?_
  refine zX (m_ldln (s := 31) (cs := r.h.map byV) rfl (refC_hash hh) (by rw [List.length_map, hh])) ?_
  refine wo ?_
  apply wn; iterate 5 exact rfl
  refine p_buildA0 (Z := (List.replicate 32 (0 : UInt8)).map byV)
  apply wm; iterate 5 exact rfl
  refine m_eqA (ys := zH32) rfl rfl rfl hh rfl
  by_cases g : r.h = zH32
  ·rw [decide_eq_true g]
   refine wo ?_
   refine zX (m_ldl rfl (refC_node hh)) ?_
   refine wo ?_
   by_cases g2 : r.n.length < 32
   ·apply wmg; iterate 7 exact rfl
    refine mv_int (v := .b true) rfl rfl (vi_lssT (by omega))
    refine wo ?_
    exact w_ret (wend_ret (vres1 (rv_tmp rfl)) (by rw [if_neg k0, if_neg k1, if_pos k2, decide_eq_true ⟨g, g2⟩]))
   ·apply wmg; iterate 7 exact rfl
    refine mv_int (v := .b false) rfl rfl (vi_lssF (by omega))
    refine wo ?_
    exact w_ret (wend_ret (vres1 (rv_tmp rfl)) (by rw [if_neg k0, if_neg k1, if_pos k2, decide_eq_false (fun h => g2 h.2)]))
  ·rw [decide_eq_false g]
   refine wo ?_
   exact w_ret (wend_ret (vres1 (rv_tmp rfl)) (by rw [if_neg k0, if_neg k1, if_pos k2, decide_eq_false (fun h => g h.1)]))
 apply wm; iterate 5 exact rfl
 refine mv_int (v := .b false) rfl rfl (vi_eqlF (by omega))
 refine wo ?_
 exact w_ret (wend_ret (vres1 (rv_tmp rfl)) (by rw [if_neg k0, if_neg k1, if_neg k2]))
theorem none_d {P : PP} {r : RefS} {w : List V} {hp : Hp} (ho : OkH hp) (hr : RefP P r w) : Fn kxD 44 [.agg w] hp [] fun q _ => q = .v (.b (noneS r)) := by
 have hl := hr.len
 obtain ⟨hh, A, c, o, rfl, hP, hc⟩ := hr
 have hr : RefP P r (refC r (.sl A r.n.length c o)) := ⟨hh, A, c, o, rfl, hP, hc⟩
 unfold noneS
 refine fn_of_w (T := []) ho.sv (fun _ => rfl) (fn := Try.f44) (by kernel_rfl) rfl rfl ?_
 refine wo ?_
 apply p_op; exact (vwant_n rfl); iterate 4 exact rfl
 refine ev_box rfl rfl fun bx => ⟨_, rfl, ?_⟩
 refine wo ?_
 by_cases k0 : r.k = 0
 ·apply wm; iterate 5 exact rfl
  refine mv_int (v := .b true) rfl rfl (vi_eqlT ((by rw [k0])))
  refine wo ?_
  refine zX (m_ldln (s := 33) (cs := refC r (.sl A r.n.length c o)) rfl (by rw [List.drop_zero]; exact List.take_of_length_le (Nat.le_of_eq hl)) hl) ?_
  refine p_callq (vwant_g rfl rfl rfl) rfl rfl rfl rfl (fun hp hs => bare_d hs.ok hr) ?_
  refine wo ?_
  exact w_ret (wend_ret (vres1 (rv_tmp rfl)) (by rw [decide_eq_true k0, Bool.true_and]))
 ·apply wm; iterate 5 exact rfl
  refine mv_int (v := .b false) rfl rfl (vi_eqlF (by omega))
  refine wo ?_
  exact w_ret (wend_ret (vres1 (rv_tmp rfl)) (by rw [decide_eq_false k0, Bool.false_and]))
set_option maxHeartbeats 4000000 in
theorem norefs_d {P : PP} {n : NodS} {p v : V} {nx : List V} {ks : List (List V)} {hp : Hp} (ho : OkH hp) (hx : nx.length = 34) (hk : RefsP P n.kids ks) (hl : n.kids.length = 16) : Fn kxD 45 [.agg (nodC n p v nx ks.flatten)] hp [] fun q _ => q = .v (.b (n.kids.all noneS)) := by
 refine fn_of_w (T := []) ho.sv (fun _ => rfl) (fn := Try.f45) (by kernel_rfl) rfl rfl ?_
 refine wo ?_
 apply p_op; exact (vwant_n rfl); iterate 4 exact rfl
 refine ev_box rfl rfl fun bx => ⟨_, rfl, ?_⟩
 refine wo ?_
 iterate 4 ((try refine w_seq ?_); refine wo ?_)
 refine w_loop (ι := Nat) (fun i => [(4, .i .i64 (i : Nat)), (1, .p (some (bx, 0)))]) (fun i => [(some bx, cellsO (nodC n p v nx ks.flatten) 29)]) (fun i => i ≤ 16 ∧ (n.kids.take i).all noneS = true) (fun i => 16 - i) 0 ⟨Nat.zero_le _, rfl⟩ ⟨rfl, rfl, trivial⟩ (fun hp h => h) ?_
 intro i ⟨hi, hall⟩
 refine wo ?_
 by_cases g : i < 16
 ·obtain ⟨w, h1, h2, h3⟩ := nodC_kid (n := n) (p := p) (v := v) hx hk (i := i) (by omega)
  have hnx : n.kids.take (i + 1) = n.kids.take i ++ [n.kids[i]'(by omega)] := List.take_succ_eq_append_getElem (by omega)
  have hmem : n.kids[i]'(by omega) ∈ n.kids := List.getElem_mem _
  generalize n.kids[i]'(by omega) = r at *
  have hno : noneS r = false → (.v (.b false) : VR) = .v (.b (n.kids.all noneS)) := fun h => by
   have : n.kids.all noneS = false := List.all_eq_false.2 ⟨r, hmem, by rw [h]; simp⟩
   rw [this]
  apply wm; iterate 5 exact rfl
  refine mv_int (v := .b true) rfl rfl (vi_lssT (by omega))
  refine wo ?_
  apply wn; iterate 5 exact rfl
  refine p_iaan rfl rfl g
  refine wo ?_
  refine zX (m_ldl rfl h2) ?_
  by_cases k0 : r.k = 0
  ·apply wm; iterate 5 exact rfl
   refine mv_int (v := .b false) rfl rfl (vi_neqF (by omega))
   refine wo ?_
   apply wg; iterate 7 exact rfl
   refine p_iaan rfl rfl g
   refine zX (m_ldln (s := 33) (cs := w) rfl h1 h3.len) ?_
   refine p_callq (vwant_g rfl rfl rfl) rfl rfl rfl rfl (fun hp hs => bare_d hs.ok h3) ?_
   cases hb : bareS r with
   | false =>
    refine wo ?_
    exact w_ret (wend_ret (vres1 (rv_tmp rfl)) (hno (by unfold noneS; rw [hb, Bool.and_false])))
   | true =>
    refine wo ?_
    exact ⟨rfl, i + 1, ⟨g, by rw [hnx, List.all_append, hall]; simp [noneS, k0, hb]⟩, by omega, ⟨rfl, rfl, trivial⟩, fun hp h => h⟩
  ·apply wm; iterate 5 exact rfl
   refine mv_int (v := .b true) rfl rfl (vi_neqT (by omega))
   refine wo ?_
   exact w_ret (wend_ret (vres1 (rv_tmp rfl)) (hno (by unfold noneS; rw [decide_eq_false k0, Bool.false_and])))
 ·apply wm; iterate 5 exact rfl
  refine mv_int (v := .b false) rfl rfl (vi_lssF (by omega))
  refine wo ?_
  refine w_exit ?_
  obtain rfl : i = 16 := by omega
  rw [List.take_of_length_le (by omega)] at hall
  refine wo ?_
  exact w_ret (wend_ret (vres1 (rv_tmp rfl)) (by rw [hall]))
/- Nw4: whether a node may be, by the program; what is wanted of Decode on shorter bytes is supposed. By this project. -/
def zFC : List V := refC zRef (.sl none 0 0 false)
def zNC : List V := nodC zNod (.sl none 0 0 false) (.sl none 0 0 false) zFC (List.replicate 16 zFC).flatten
theorem zFC_len : zFC.length = 34 := rfl
theorem zNC_len : zNC.length = 582 := by kernel_rfl
theorem zNC_ne : zNC ≠ [] := List.cons_ne_nil _ _
theorem zFC_p (P : PP) (h : P none 0 false []) : RefP P zRef zFC := ⟨rfl, none, 0, false, rfl, h, Nat.le_refl _⟩
def DecR (b : List UInt8) : VR → HV → Prop := fun r N => match ndD b with
 | none => ∃ u, r = .v u ∧ u = .tup [.agg zNC, .i .i64 70]
 | some n => ∃ u, r = .v u ∧ ∃ w, u = .tup [.agg w, .i .i64 0] ∧ NodP (snP N) n w
def DecOk (b : List UInt8) : Prop := ∀ (A : Option (Nat × Nat)) (c : Nat) (o : Bool) (hp : Hp), OkH hp → RB ⟨hp, []⟩ A (b.map byV) → b.length ≤ c → Fn kxD 11 [.sl A b.length c o] hp [] (DecR b)
theorem DecOk.none {b : List UInt8} (h : DecOk b) (hN : ndD b = none) {A : Option (Nat × Nat)} {c : Nat} {o : Bool} {hp : Hp} (ho : OkH hp) (hA : RB ⟨hp, []⟩ A (b.map byV)) (hc : b.length ≤ c) : Fn kxD 11 [.sl A b.length c o] hp [] fun r N => ∃ u, r = .v u ∧ u = .tup [.agg zNC, .i .i64 70] := by
 have := h A c o hp ho hA hc
 unfold DecR at this
 rw [hN] at this
 exact this
theorem DecOk.some {b : List UInt8} {n : NodS} (h : DecOk b) (hN : ndD b = some n) {A : Option (Nat × Nat)} {c : Nat} {o : Bool} {hp : Hp} (ho : OkH hp) (hA : RB ⟨hp, []⟩ A (b.map byV)) (hc : b.length ≤ c) : Fn kxD 11 [.sl A b.length c o] hp [] fun r N => ∃ u, r = .v u ∧ ∃ w, u = .tup [.agg w, .i .i64 0] ∧ NodP (snP N) n w := by
 have := h A c o hp ho hA hc
 unfold DecR at this
 rw [hN] at this
 exact this
theorem all_take (w : List V) {n : Nat} (h : w.length = n) : (w.drop 0).take n = w := by rw [List.drop_zero]; exact List.take_of_length_le (Nat.le_of_eq h)
theorem NodP.k {P : PP} {n : NodS} {w : List V} (h : NodP P n w) : w[0 + 0]? = some (.i .i64 n.k) := by
 obtain ⟨_, A, c, o, A', c', o', nx, ks, rfl, _⟩ := h
 rfl
theorem ne_of_len {α : Type} {w : List α} {n : Nat} (h : w.length = n) (hn : 0 < n) : w ≠ [] := fun e => by rw [e] at h; simp at h; omega
set_option maxHeartbeats 4000000 in
theorem mayref_k {r : RefS} {w : List V} {hp : Hp} (ho : OkH hp) (hr : RefP (rbP ⟨hp, []⟩) r w) (hD : r.k = 2 → bareS r = true → DecOk r.n) :
  Fn kxD 41 [.agg w] hp [] fun q _ => q = .v (.tup [.i .i64 (mayRefS ndD r).1, .b (mayRefS ndD r).2]) := by
 have hl := hr.len
 have hr0 := hr
 obtain ⟨hh, A, c, o, hw, hA, hc⟩ := hr
 subst hw
 unfold mayRefS
 refine fn_of_w (T := []) ho.sv (fun _ => rfl) (fn := Try.f41) (by kernel_rfl) rfl rfl ?_
 refine wo ?_
 apply p_op; exact (vwant_n rfl); iterate 4 exact rfl
 refine ev_box rfl rfl fun bx => ⟨_, rfl, ?_⟩
 refine wo ?_
 refine zX (m_ldln (s := 33) (cs := refC r (.sl A r.n.length c o)) rfl (all_take _ hl) hl) ?_
 refine p_callq (vwant_n rfl) rfl rfl rfl rfl (fun hp hs => bare_d hs.ok hr0) ?_
 cases hb : bareS r with
 | false =>
  refine wo ?_
  exact w_ret (wend_ret (vres2 (rv_tmp rfl) (rv_tmp rfl)) (by rw [if_pos rfl]))
 | true =>
  refine wo ?_
  by_cases k2 : r.k = 2
  ·apply wm; iterate 5 exact rfl
   refine mv_int (v := .b false) rfl rfl (vi_neqF ((by rw [k2])))
   refine wo ?_
   refine zX (m_ldl rfl (refC_node hh)) ?_
   cases hN : ndD r.n with
   | none =>
    apply p_callY []; exact (vwant_n rfl); iterate 4 exact rfl
    case hC => exact (fun hp' hs ht => (hD k2 hb).none hN hs.ok (hA.give0 hs) hc)
    rintro u N rfl
    refine wo ?_
    apply p_op; exact (vwant_n rfl); iterate 4 exact rfl
    refine e_alloc (zc := zNC) (by kernel_rfl) fun b4 => ⟨_, rfl, ?_⟩
    apply p_do; exact (vwant_n rfl); exact rfl; exact rfl
    refine e_stn (C' := zNC) rfl rfl zNC_ne zNC_len (Nat.le_of_eq zNC_len.symm) (overV_all rfl) ⟨_, rfl, ?_⟩
    refine wo ?_
    apply wm; iterate 5 exact rfl
    refine mv_int (v := .b false) rfl rfl (vi_eqlF ((by decide)))
    refine wo ?_
    exact w_ret (wend_ret (vres2 (rv_tmp rfl) (rv_tmp rfl)) (by rw [if_neg (by simp), if_neg (by simp [k2])]; rfl))
   | some m =>
    apply p_callY []; exact (vwant_n rfl); iterate 4 exact rfl
    case hC => exact (fun hp' hs ht => (hD k2 hb).some hN hs.ok (hA.give0 hs) hc)
    rintro u N ⟨wz, rfl, hm⟩
    have hml := hm.len
    refine wo ?_
    apply p_op; exact (vwant_n rfl); iterate 4 exact rfl
    refine e_alloc (zc := zNC) (by kernel_rfl) fun b4 => ⟨_, rfl, ?_⟩
    apply p_do; exact (vwant_n rfl); exact rfl; exact rfl
    refine e_stn (C' := wz) rfl rfl (ne_of_len hml (by decide)) hml (Nat.le_of_eq zNC_len.symm) (overV_all (hml.trans zNC_len.symm)) ⟨_, rfl, ?_⟩
    refine wo ?_
    refine zX (m_ldl rfl hm.k) ?_
    refine wo ?_
    apply wm; iterate 5 exact rfl
    refine mv_int (v := .b true) rfl rfl (vi_eqlT (rfl))
    refine wo ?_
    exact w_ret (wend_ret (vres2 (rv_tmp rfl) (rv_tmp rfl)) (by rw [if_neg (by simp), if_neg (by simp [k2])]))
  ·apply wm; iterate 5 exact rfl
   refine mv_int (v := .b true) rfl rfl (vi_neqT (by omega))
   refine wo ?_
   exact w_ret (wend_ret (vres2 (rv_tmp rfl) (rv_tmp rfl)) (by rw [if_neg (by simp), if_pos k2]))
section
variable {K : Kx} {hp0 : Bs} {l : VL} {L : HV} {a b : Operand} {t t' : TypeId}
theorem m_gtrD {k : IntKind} {x y : Int} {p : Prop} [Decidable p] (hx : evL l a = some (.i k x)) (hy : evL l b = some (.i k y)) (hp : p ↔ y < x) : MVO K hp0 l L (.binOp .gtr t a b t') (.b (decide p)) := by
 by_cases h : p
 ·rw [decide_eq_true h]; exact mv_int (v := .b true) hx hy (vi_gtrT (hp.1 h))
 ·rw [decide_eq_false h]; exact mv_int (v := .b false) hx hy (vi_gtrF fun g => h (hp.2 g))
end
theorem filter_snoc {l : List RefS} {r : RefS} (p : RefS → Bool) : ((l ++ [r]).filter p).length = (l.filter p).length + (if p r = true then 1 else 0) := by
 rw [List.filter_append, List.length_append]
 by_cases h : p r = true
 ·rw [if_pos h, List.filter_cons_of_pos h]; rfl
 ·rw [if_neg h, List.filter_cons_of_neg h]; rfl
set_option maxHeartbeats 16000000 in
theorem maybranch_k {n : NodS} {w : List V} {hp : Hp} (ho : OkH hp) (hn : NodP (rbP ⟨hp, []⟩) n w) (hD : ∀ r ∈ n.kids, r.k = 2 → bareS r = true → DecOk r.n) :
  Fn kxD 40 [.agg w] hp [] fun q _ => q = .v (.b (mayBrS ndD n)) := by
 have hl := hn.len
 obtain ⟨h0, A, c, o, A', c', o', nx, ks, rfl, hp1, hp2, hp3, hp4, hnx, hks⟩ := hn
 refine fn_of_w (T := []) ho.sv (fun _ => rfl) (fn := Try.f40) (by kernel_rfl) rfl rfl ?_
 refine wo ?_
 apply p_op; exact (vwant_n rfl); iterate 4 exact rfl
 refine ev_box rfl rfl fun bx => ⟨_, rfl, ?_⟩
 refine wo ?_
 iterate 4 ((try refine w_seq ?_); refine wo ?_)
 refine w_loop (ι := Nat × Nat) (fun s => [(7, .i .i64 (s.1 : Nat)), (3, .i .i64 (s.2 : Nat)), (1, .p (some (bx, 0)))]) (fun s => [(some bx, cellsO (nodC n (.sl A n.path.length c o) (.sl A' n.val.length c' o') nx ks.flatten) 29)]) (fun s => s.1 ≤ 16 ∧ ((n.kids.take s.1).all fun r => (mayRefS ndD r).2) = true ∧ s.2 = ((n.kids.take s.1).filter fun r => decide (r.k ≠ 0)).length) (fun s => 16 - s.1) (0, 0) ⟨Nat.zero_le _, rfl, rfl⟩ ⟨rfl, rfl, rfl, trivial⟩ (fun hp h => h) ?_
 intro ⟨i, q⟩ ⟨hi, hall, hq⟩
 dsimp only at hi hall hq ⊢
 have hq16 : q ≤ 16 := by
  have := List.length_filter_le (fun r : RefS => decide (r.k ≠ 0)) (n.kids.take i)
  rw [List.length_take] at this
  omega
 refine wo ?_
 by_cases g : i < 16
 ·obtain ⟨w, h1, h2, h3⟩ := nodC_kid (n := n) (p := .sl A n.path.length c o) (v := .sl A' n.val.length c' o') hnx.len hks (i := i) (by omega)
  have hsn : n.kids.take (i + 1) = n.kids.take i ++ [n.kids[i]'(by omega)] := List.take_succ_eq_append_getElem (by omega)
  have hmem : n.kids[i]'(by omega) ∈ n.kids := List.getElem_mem _
  generalize n.kids[i]'(by omega) = r at *
  apply wm; iterate 5 exact rfl
  refine mv_int (v := .b true) rfl rfl (vi_lssT (by omega))
  refine wo ?_
  apply wn; iterate 5 exact rfl
  refine p_iaan rfl rfl g
  refine zX (m_ldln (s := 33) (cs := w) rfl h1 h3.len) ?_
  refine p_callq (vwant_n rfl) rfl rfl rfl rfl (fun hp hs => mayref_k hs.ok (h3.mono fun A c o cs h => h.give0 hs) (hD r hmem)) ?_
  cases hm : (mayRefS ndD r).2 with
  | false =>
   refine wo ?_
   exact w_ret (wend_ret (vres1 (rv_tmp rfl)) (by
    have : (n.kids.all fun r => (mayRefS ndD r).2) = false := List.all_eq_false.2 ⟨r, hmem, by rw [hm]; simp⟩
    unfold mayBrS
    rw [this]
    rfl))
  | true =>
   have hall' : ((n.kids.take (i + 1)).all fun r => (mayRefS ndD r).2) = true := by rw [hsn, List.all_append, hall]; simp [hm]
   refine wo ?_
   apply wn; iterate 5 exact rfl
   refine p_iaan rfl rfl g
   refine wo ?_
   refine zX (m_ldl rfl h2) ?_
   by_cases k0 : r.k = 0
   ·apply wm; iterate 5 exact rfl
    refine mv_int (v := .b false) rfl rfl (vi_neqF (by omega))
    refine wo ?_
    exact ⟨rfl, (i + 1, q), ⟨g, hall', by dsimp only; rw [hsn, filter_snoc, if_neg (by simp [k0]), hq]; rfl⟩, by dsimp only; omega, ⟨rfl, rfl, rfl, trivial⟩, fun hp h => h⟩
   ·apply wm; iterate 5 exact rfl
    refine mv_int (v := .b true) rfl rfl (vi_neqT (by omega))
    refine wo ?_
    exact ⟨rfl, (i + 1, q + 1), ⟨g, hall', by dsimp only; rw [hsn, filter_snoc, if_pos (by simp [k0]), hq]⟩, by dsimp only; omega, ⟨rfl, rfl, rfl, trivial⟩, fun hp h => h⟩
 apply wm; iterate 5 exact rfl
 refine mv_int (v := .b false) rfl rfl (vi_lssF (by omega))
 refine wo ?_
 refine w_exit ?_
 obtain rfl : i = 16 := by omega
 rw [List.take_of_length_le (by omega)] at hall hq
 have hT : thingsS n = q + (if n.full then 1 else 0) := by unfold thingsS; rw [hq]
 have hsp : mayBrS ndD n = (decide (2 ≤ thingsS n) && (n.full == decide (0 < n.val.length)) && decide (n.val.length ≤ 256) && decide (n.path.length = 0) && noneS n.next) := by
  unfold mayBrS
  rw [hall, Bool.true_and]
 refine wOS0 ?_
 refine w_cutS [(3, .i .i64 (thingsS n : Nat)), (1, .p (some (bx, 0)))] [(some bx, cellsO (nodC n (.sl A n.path.length c o) (.sl A' n.val.length c' o') nx ks.flatten) 29)] True ?_ fun _ => ?_
 ·refine wo ?_
  rw [hT]
  cases hf : n.full with
  | true =>
   refine wo ?_
   exact ⟨trivial, rfl, ⟨rfl, rfl, trivial⟩, fun hp h => h⟩
  | false =>
   refine wo ?_
   exact ⟨trivial, rfl, ⟨rfl, rfl, trivial⟩, fun hp h => h⟩
 refine wo ?_
 by_cases c1 : 2 ≤ thingsS n
 rotate_left
 ·apply wm; iterate 5 exact rfl
  refine mv_int (v := .b false) rfl rfl (vi_geqF (by omega))
  refine wo ?_
  exact w_ret (wend_ret (vres1 (rv_tmp rfl)) (by rw [hsp, decide_eq_false c1]; rfl))
 rw [decide_eq_true c1, Bool.true_and] at hsp
 apply wm; iterate 5 exact rfl
 refine mv_int (v := .b true) rfl rfl (vi_geqT (by omega))
 refine wo ?_
 apply wmg; iterate 7 exact rfl
 refine m_gtrD (p := 0 < n.val.length) rfl rfl (by omega)
 apply wmg; iterate 7 exact rfl
 refine m_eqb rfl rfl rfl
 cases c2 : (n.full == decide (0 < n.val.length)) with
 | false =>
  refine wo ?_
  exact w_ret (wend_ret (vres1 (rv_tmp rfl)) (by rw [hsp, c2]; rfl))
 | true =>
 rw [c2, Bool.true_and] at hsp
 refine wo ?_
 by_cases c3 : n.val.length ≤ 256
 rotate_left
 ·apply wmg; iterate 7 exact rfl
  refine mv_int (v := .b false) rfl rfl (vi_leqF (by omega))
  refine wo ?_
  exact w_ret (wend_ret (vres1 (rv_tmp rfl)) (by rw [hsp, decide_eq_false c3]; rfl))
 rw [decide_eq_true c3, Bool.true_and] at hsp
 apply wmg; iterate 7 exact rfl
 refine mv_int (v := .b true) rfl rfl (vi_leqT (by omega))
 refine wo ?_
 by_cases c4 : n.path.length = 0
 rotate_left
 ·apply wmg; iterate 7 exact rfl
  refine mv_int (v := .b false) rfl rfl (vi_eqlF (by omega))
  refine wo ?_
  exact w_ret (wend_ret (vres1 (rv_tmp rfl)) (by rw [hsp, decide_eq_false c4]; rfl))
 rw [decide_eq_true c4, Bool.true_and] at hsp
 apply wmg; iterate 7 exact rfl
 refine mv_int (v := .b true) rfl rfl (vi_eqlT (by omega))
 refine wo ?_
 refine zX (m_ldln (s := 33) (cs := nx) rfl (nodC_next hnx.len) hnx.len) ?_
 refine p_callq (vwant_g rfl rfl rfl) rfl rfl rfl rfl (fun hp hs => none_d hs.ok hnx) ?_
 refine wo ?_
 exact w_ret (wend_ret (vres1 (rv_tmp rfl)) (by rw [hsp]))
/- Nw5: may and Check of node; what is wanted of Decode on shorter bytes is supposed. By this project. -/
theorem nodC_put {n : NodS} {p v : V} {nx ks zr : List V} (h : nx.length = 34) (h2 : zr.length = 34) : overV (nodC n p v nx ks) (0 + 4) zr = nodC n p v zr ks := by
 unfold overV
 rw [h2]
 show .i .i64 n.k :: p :: v :: .b n.full :: (zr ++ ((nx ++ ks).drop 34)) = _
 rw [List.drop_append, List.drop_of_length_le (by omega), List.nil_append, h, Nat.sub_self, List.drop_zero]
theorem mayLf_all {path val : List UInt8} {full : Bool} {next : RefS} {kids : List RefS} : mayLfS path val full next kids = (decide (pathOk path) && (mayValS val && (!full && (noneS next && kids.all noneS)))) := by
 unfold mayLfS
 simp only [Bool.and_assoc]
theorem PackOk {xs : List UInt8} {leaf : Bool} {A : Option (Nat × Nat)} {c : Nat} {o : Bool} {hp : Hp} (ho : OkH hp) (hA : RB ⟨hp, []⟩ A (xs.map byV)) (hc : xs.length ≤ c) (hp' : pathOk xs) :
  Fn kxD 42 [.sl A xs.length c o, .b leaf] hp [] fun r N => ∃ u, r = .v u ∧ ∃ w, u = .tup [w, .i .i64 0] ∧ RowK (packB xs leaf) w N := by
 have := pack_d (leaf := leaf) (o := o) ho hA hc
 simp only [if_pos hp'] at this
 exact this
theorem PackNo {xs : List UInt8} {leaf : Bool} {A : Option (Nat × Nat)} {c : Nat} {o : Bool} {hp : Hp} (ho : OkH hp) (hA : RB ⟨hp, []⟩ A (xs.map byV)) (hc : xs.length ≤ c) (hp' : ¬ pathOk xs) :
  Fn kxD 42 [.sl A xs.length c o, .b leaf] hp [] fun r N => ∃ u, r = .v u ∧ u = .tup [.sl none 0 0 false, .i .i64 60] := by
 have := pack_d (leaf := leaf) (o := o) ho hA hc
 simp only [if_neg hp'] at this
 exact this
set_option maxHeartbeats 16000000 in
theorem may_k {n : NodS} {w : List V} {hp : Hp} (ho : OkH hp) (hn : NodP (rbP ⟨hp, []⟩) n w) (hD : ∀ r, (r = n.next ∨ r ∈ n.kids) → r.k = 2 → bareS r = true → DecOk r.n) :
  Fn kxD 25 [.agg w] hp [] fun q _ => q = .v (.b (mayS ndD n)) := by
 have hl := hn.len
 have hn0 := hn
 obtain ⟨h0, A, c, o, A', c', o', nx, ks, hw, hp1, hp2, hp3, hp4, hnx, hks⟩ := hn
 subst hw
 have hzl : ∀ v nx', nx'.length = 34 → (nodC n (.sl A n.path.length c o) v nx' ks.flatten).length = 582 := fun v nx' h => nodC_len (P := rbP ⟨hp, []⟩) h hks h0
 have hm3 : n.k = 3 → mayS ndD n = mayBrS ndD n := fun h => by unfold mayS; rw [if_pos h]
 have hm2 : n.k = 2 → mayS ndD n = if (mayRefS ndD n.next).2 = false ∨ n.next.k = 0 ∨ ((mayRefS ndD n.next).1 ≠ 0 ∧ (mayRefS ndD n.next).1 ≠ 3) ∨ n.path.length = 0 ∨ 0 < n.val.length then false else mayLfS n.path [0] n.full zRef n.kids := fun h => by
  unfold mayS
  rw [if_neg (by rw [h]; decide), if_pos h]
 have hm1 : n.k = 1 → mayS ndD n = mayLfS n.path n.val n.full n.next n.kids := fun h => by
  unfold mayS
  rw [if_neg (by rw [h]; decide), if_neg (by rw [h]; decide), if_pos h]
 have hm0 : n.k ≠ 3 → n.k ≠ 2 → n.k ≠ 1 → mayS ndD n = false := fun h1 h2 h3 => by
  unfold mayS
  rw [if_neg h1, if_neg h2, if_neg h3]
 refine fn_of_w (T := []) ho.sv (fun _ => rfl) (fn := Try.f25) (by kernel_rfl) rfl rfl ?_
 refine wOS0 ?_
 refine w_seq ?_
 refine wOS0 ?_
 apply p_op; exact (vwant_n rfl); iterate 4 exact rfl
 refine ev_box rfl rfl fun bx => ⟨_, rfl, ?_⟩
 refine wOS0 ?_
 refine w_seq ?_
 refine w_seq ?_
 refine wOS0 ?_
 refine w_cutE (ι := V × List V × List UInt8 × RefS) (fun s => [(1, .p (some (bx, 0)))]) (fun s => [(some bx, cellsO (nodC n (.sl A n.path.length c o) s.1 s.2.1 ks.flatten) 29)]) (fun s => RefP (fun _ _ _ _ => True) s.2.2.2 s.2.1 ∧ (∃ A c o, s.1 = .sl A s.2.2.1.length c o) ∧ mayS ndD n = mayLfS n.path s.2.2.1 n.full s.2.2.2 n.kids) ?_ ?_
 ·refine wo ?_
  by_cases k3 : n.k = 3
  ·apply wm; iterate 5 exact rfl
   refine mv_int (v := .b true) rfl rfl (vi_eqlT ((by rw [k3])))
   refine wo ?_
   refine w_exit ?_
   refine wo ?_
   refine zX (m_ldln (s := 581) (cs := nodC n (.sl A n.path.length c o) (.sl A' n.val.length c' o') nx ks.flatten) rfl (all_take _ hl) hl) ?_
   refine p_callq (vwant_n rfl) rfl rfl rfl rfl (fun hp hs => maybranch_k hs.ok (hn0.mono fun A c o cs h => h.give0 hs) (fun r hr => hD r (.inr hr))) ?_
   refine wo ?_
   exact w_ret (wend_ret (vres1 (rv_tmp rfl)) (by rw [hm3 k3]))
  apply wm; iterate 5 exact rfl
  refine mv_int (v := .b false) rfl rfl (vi_eqlF (by omega))
  refine wo ?_
  by_cases k2 : n.k = 2
  ·have hm := hm2 k2
   apply wm; iterate 5 exact rfl
   refine mv_int (v := .b true) rfl rfl (vi_eqlT ((by rw [k2])))
   refine wo ?_
   refine w_exit ?_
   refine wo ?_
   refine zX (m_ldln (s := 33) (cs := nx) rfl (nodC_next hnx.len) hnx.len) ?_
   refine p_callq (vwant_n rfl) rfl rfl rfl rfl (fun hp hs => mayref_k hs.ok (hnx.mono fun A c o cs h => h.give0 hs) (hD _ (.inl rfl))) ?_
   refine wOS0 ?_
   refine w_cutS [(1, .p (some (bx, 0)))] [(some bx, cellsO (nodC n (.sl A n.path.length c o) (.sl A' n.val.length c' o') nx ks.flatten) 29)] (¬ ((mayRefS ndD n.next).2 = false ∨ n.next.k = 0 ∨ ((mayRefS ndD n.next).1 ≠ 0 ∧ (mayRefS ndD n.next).1 ≠ 3) ∨ n.path.length = 0 ∨ 0 < n.val.length)) ?_ fun hC => ?_
   ·skip
    cases q1 : (mayRefS ndD n.next).2 with
    | false =>
     refine wo ?_
     exact w_ret (wend_ret (vres1 (rv_tmp rfl)) (by rw [hm, if_pos (.inl q1)]))
    | true =>
    refine wo ?_
    refine zX (m_ldl rfl (show (nodC n (.sl A n.path.length c o) (.sl A' n.val.length c' o') nx ks.flatten)[0 + 4 + 0]? = some (.i .i64 n.next.k) by obtain ⟨_, A, c, o, rfl, _⟩ := hnx; rfl)) ?_
    by_cases q2 : n.next.k = 0
    ·apply wmg; iterate 7 exact rfl
     refine mv_int (v := .b true) rfl rfl (vi_eqlT ((by rw [q2])))
     refine wo ?_
     exact w_ret (wend_ret (vres1 (rv_tmp rfl)) (by rw [hm, if_pos (.inr (.inl q2))]))
    apply wmg; iterate 7 exact rfl
    refine mv_int (v := .b false) rfl rfl (vi_eqlF (by omega))
    refine wo ?_
    by_cases q3 : (mayRefS ndD n.next).1 = 0
    ·have hkk : ¬ ((mayRefS ndD n.next).1 ≠ 0 ∧ (mayRefS ndD n.next).1 ≠ 3) := fun h => h.1 q3
     apply wmg; iterate 7 exact rfl
     refine mv_int (v := .b false) rfl rfl (vi_neqF ((by exact q3)))
     refine wo ?_
     by_cases q5 : n.path.length = 0
     ·apply wmg; iterate 7 exact rfl
      refine mv_int (v := .b true) rfl rfl (vi_eqlT (by omega))
      refine wo ?_
      exact w_ret (wend_ret (vres1 (rv_tmp rfl)) (by rw [hm, if_pos (.inr (.inr (.inr (.inl q5))))]))
     apply wmg; iterate 7 exact rfl
     refine mv_int (v := .b false) rfl rfl (vi_eqlF (by omega))
     refine wo ?_
     by_cases q6 : 0 < n.val.length
     ·apply wmg; iterate 7 exact rfl
      refine mv_int (v := .b true) rfl rfl (vi_gtrT (by omega))
      refine wo ?_
      exact w_ret (wend_ret (vres1 (rv_tmp rfl)) (by rw [hm, if_pos (.inr (.inr (.inr (.inr q6))))]))
     apply wmg; iterate 7 exact rfl
     refine mv_int (v := .b false) rfl rfl (vi_gtrF (by omega))
     refine wo ?_
     exact ⟨by simp only [not_or]; exact ⟨by decide, q2, hkk, q5, q6⟩, rfl, ⟨rfl, trivial⟩, fun hp h => h⟩
    ·apply wmg; iterate 7 exact rfl
     refine mv_int (v := .b true) rfl rfl (vi_neqT ((by exact q3)))
     refine wo ?_
     by_cases q4 : (mayRefS ndD n.next).1 = 3
     ·have hkk : ¬ ((mayRefS ndD n.next).1 ≠ 0 ∧ (mayRefS ndD n.next).1 ≠ 3) := fun h => h.2 q4
      apply wmg; iterate 7 exact rfl
      refine mv_int (v := .b false) rfl rfl (vi_neqF ((by exact q4)))
      refine wo ?_
      by_cases q5 : n.path.length = 0
      ·apply wmg; iterate 7 exact rfl
       refine mv_int (v := .b true) rfl rfl (vi_eqlT (by omega))
       refine wo ?_
       exact w_ret (wend_ret (vres1 (rv_tmp rfl)) (by rw [hm, if_pos (.inr (.inr (.inr (.inl q5))))]))
      apply wmg; iterate 7 exact rfl
      refine mv_int (v := .b false) rfl rfl (vi_eqlF (by omega))
      refine wo ?_
      by_cases q6 : 0 < n.val.length
      ·apply wmg; iterate 7 exact rfl
       refine mv_int (v := .b true) rfl rfl (vi_gtrT (by omega))
       refine wo ?_
       exact w_ret (wend_ret (vres1 (rv_tmp rfl)) (by rw [hm, if_pos (.inr (.inr (.inr (.inr q6))))]))
      apply wmg; iterate 7 exact rfl
      refine mv_int (v := .b false) rfl rfl (vi_gtrF (by omega))
      refine wo ?_
      exact ⟨by simp only [not_or]; exact ⟨by decide, q2, hkk, q5, q6⟩, rfl, ⟨rfl, trivial⟩, fun hp h => h⟩
     ·apply wmg; iterate 7 exact rfl
      refine mv_int (v := .b true) rfl rfl (vi_neqT ((by exact q4)))
      refine wo ?_
      exact w_ret (wend_ret (vres1 (rv_tmp rfl)) (by rw [hm, if_pos (.inr (.inr (.inl ⟨q3, q4⟩)))]))
   refine wo ?_
   apply wn; iterate 5 exact rfl
   refine p_buildS (C := zFC) .nil (by rfl)
   refine wo ?_
   apply p_do; exact (vwant_n rfl); exact rfl; exact rfl
   refine e_stn (C' := nodC n (.sl A n.path.length c o) (.sl A' n.val.length c' o') zFC ks.flatten) rfl rfl (ne_of_len zFC_len (by decide)) zFC_len (by rw [hl]; decide) (nodC_put hnx.len zFC_len) ⟨_, rfl, ?_⟩
   refine wo ?_
   apply p_op; exact (vwant_n rfl); iterate 4 exact rfl
   refine e_bs (C := [byV 0]) rfl rfl (.cons rfl rfl .nil) rfl fun bz => ⟨_, rfl, ?_⟩
   refine wo ?_
   apply p_do; exact (vwant_n rfl); exact rfl; exact rfl
   refine e_st (C' := nodC n (.sl A n.path.length c o) (.sl (some (bz, 0)) 1 1 false) zFC ks.flatten) rfl rfl rfl (by rw [hzl _ _ zFC_len]; decide) rfl ⟨_, rfl, ?_⟩
   refine wo ?_
   exact ⟨(.sl (some (bz, 0)) 1 1 false, zFC, [0], zRef), ⟨zFC_p _ trivial, ⟨_, _, _, rfl⟩, by rw [hm, if_neg hC]⟩, rfl, ⟨rfl, trivial⟩, fun hp h => h.sub (List.sublist_cons_self _ _)⟩
  apply wm; iterate 5 exact rfl
  refine mv_int (v := .b false) rfl rfl (vi_eqlF (by omega))
  refine wo ?_
  by_cases k1 : n.k = 1
  ·apply wm; iterate 5 exact rfl
   refine mv_int (v := .b true) rfl rfl (vi_eqlT ((by rw [k1])))
   refine wo ?_
   refine w_exit ?_
   refine wo ?_
   exact ⟨(.sl A' n.val.length c' o', nx, n.val, n.next), ⟨hnx.mono fun _ _ _ _ _ => trivial, ⟨_, _, _, rfl⟩, hm1 k1⟩, rfl, ⟨rfl, trivial⟩, fun hp h => h⟩
  ·apply wm; iterate 5 exact rfl
   refine mv_int (v := .b false) rfl rfl (vi_eqlF (by omega))
   refine wo ?_
   refine w_exit ?_
   refine wo ?_
   exact w_ret (wend_ret (vres1 (rv_tmp rfl)) (by rw [hm0 k3 k2 k1]))
 rintro ⟨v, nx', val, next⟩ ⟨hnx', ⟨Av, cv, ov, hv⟩, hsp⟩
 dsimp only at hnx' hv hsp ⊢
 subst hv
 rw [mayLf_all] at hsp
 refine wo ?_
 by_cases c1 : pathOk n.path
 rotate_left
 ·apply p_callY []; exact (vwant_n rfl); iterate 4 exact rfl
  case hC => exact (fun hp' hs ht => PackNo hs.ok (hp1.give0 hs) hp2 c1)
  rintro u N rfl
  refine wo ?_
  apply wm; iterate 5 exact rfl
  refine mv_int (v := .b false) rfl rfl (vi_eqlF ((by decide)))
  refine wo ?_
  exact w_ret (wend_ret (vres1 (rv_tmp rfl)) (by rw [hsp, decide_eq_false c1]; rfl))
 rw [decide_eq_true c1, Bool.true_and] at hsp
 apply p_callY []; exact (vwant_n rfl); iterate 4 exact rfl
 case hC => exact (fun hp' hs ht => PackOk hs.ok (hp1.give0 hs) hp2 c1)
 rintro u N ⟨w1, rfl, hw1⟩
 refine wo ?_
 apply wm; iterate 5 exact rfl
 refine mv_int (v := .b true) rfl rfl (vi_eqlT (rfl))
 refine wo ?_
 refine p_callq (vwant_g rfl rfl rfl) rfl rfl rfl rfl (fun hp hs => mayvalue_d hs.ok) ?_
 cases c2 : mayValS val with
 | false =>
  refine wo ?_
  exact w_ret (wend_ret (vres1 (rv_tmp rfl)) (by rw [hsp, c2]; rfl))
 | true =>
 rw [c2, Bool.true_and] at hsp
 refine wo ?_
 cases c3 : n.full with
 | true =>
  refine wo ?_
  exact w_ret (wend_ret (vres1 (rv_tmp rfl)) (by rw [hsp, c3]; rfl))
 | false =>
 rw [c3] at hsp
 rw [show (!false && (noneS next && n.kids.all noneS)) = (noneS next && n.kids.all noneS) from rfl] at hsp
 refine wo ?_
 refine zX (m_ldln (s := 33) (cs := nx') rfl (nodC_next hnx'.len) hnx'.len) ?_
 refine p_callq (vwant_g rfl rfl rfl) rfl rfl rfl rfl (fun hp hs => none_d hs.ok hnx') ?_
 cases c4 : noneS next with
 | false =>
  refine wo ?_
  exact w_ret (wend_ret (vres1 (rv_tmp rfl)) (by rw [hsp, c4]; rfl))
 | true =>
 rw [c4, Bool.true_and] at hsp
 refine wo ?_
 refine zX (m_ldln (s := 581) (cs := nodC n (.sl A n.path.length c o) (.sl Av val.length cv ov) nx' ks.flatten) rfl (all_take _ (hzl _ _ hnx'.len)) (hzl _ _ hnx'.len)) ?_
 refine p_callq (vwant_g rfl rfl rfl) rfl rfl rfl rfl (fun hp hs => norefs_d hs.ok hnx'.len hks h0) ?_
 refine wo ?_
 exact w_ret (wend_ret (vres1 (rv_tmp rfl)) (by rw [hsp]))
/- Nw6: a node's list and its bytes, by the program; what is wanted of Decode on shorter bytes is supposed. By this project. -/
abbrev PQ := Option (Nat × Nat) → List V → Prop
theorem itP_str {P : PQ} {bs : List UInt8} {A : Option (Nat × Nat)} {n c : Nat} {o : Bool} (h : P A (bs.map byV)) (hn : bs.length = n) (hc : n ≤ c) : ItP P (.str bs) [.b false, .sl A n c o, .sl none 0 0 false] := by
 subst hn
 rw [ItP]
 exact ⟨A, c, o, rfl, h, hc⟩
theorem RowU.sn {e : TypeId} {xs : List UInt8} {A : Option (Nat × Nat)} {n c : Nat} {op : Bool} {M X : HV} (h : RowU e xs (.sl A n c op) M) (hm : ∀ p ∈ M, p ∈ X) : Sn X A (xs.map byV) := by
 cases h with
 | nil => exact Sn.nil
 | own h => exact Sn.own (hm _ (List.mem_singleton.2 rfl)) (by rw [List.drop_zero]; exact List.take_of_length_le (by simp))
theorem refsP_hs {P : PP} : ∀ {l : List RefS} {ks : List (List V)}, RefsP P l ks → ∀ r ∈ l, r.h.length = 32
 | [], _, _, r, hr => by simp at hr
 | x :: l, ks, h, r, hr => by
  obtain ⟨w, ws, rfl, h1, h2⟩ := h
  rcases List.mem_cons.1 hr with rfl | hr
  ·exact h1.1
  ·exact refsP_hs h2 r hr
theorem NodP.ok {P : PP} {n : NodS} {w : List V} (h : NodP P n w) : NodOk n := by
 obtain ⟨h0, A, c, o, A', c', o', nx, ks, rfl, _, _, _, _, hnx, hks⟩ := h
 exact ⟨h0, hnx.1, refsP_hs hks⟩
theorem itPs_one {P : PQ} {t : It} {v : List V} (h : ItP P t v) : ItPs P [t] [v] := by
 rw [ItPs]
 exact ⟨v, [], rfl, h, by rw [ItPs]⟩
theorem itPs_cons {P : PQ} {t : It} {v : List V} {r : List It} {ws : List (List V)} (h : ItP P t v) (k : ItPs P r ws) : ItPs P (t :: r) (v :: ws) := by
 rw [ItPs]
 exact ⟨v, ws, rfl, h, k⟩
set_option maxHeartbeats 8000000 in
theorem refitem_d {P : PP} {r : RefS} {w : List V} {hp : Hp} (ho : OkH hp) (hr : RefP P r w) (hP : ∀ A c o cs, P A c o cs → RB ⟨hp, []⟩ A cs) :
  Fn kxD 50 [.agg w] hp [] fun q N => ∃ u, q = .v u ∧ ∃ a1 a2 a3, u = .agg [a1, a2, a3] ∧ ItX N (refItS r) [a1, a2, a3] := by
 have hl := hr.len
 obtain ⟨hh, A, c, o, hw, hA, hc⟩ := hr
 subst hw
 have hB := hP _ _ _ _ hA
 refine Fn.dropC ?_
 refine fn_of_w (T := []) ho.sv (fun _ => rfl) (fn := Try.f50) (by kernel_rfl) rfl rfl ?_
 refine wo ?_
 apply p_op; exact (vwant_n rfl); iterate 4 exact rfl
 refine ev_box rfl rfl fun bx => ⟨_, rfl, ?_⟩
 refine wo ?_
 apply p_op; exact (vwant_n rfl); iterate 4 exact rfl
 refine e_alloc rfl fun b2 => ⟨_, rfl, ?_⟩
 refine wo ?_
 by_cases k1 : r.k = 1
 ·have e : refItS r = .str r.h := by unfold refItS; rw [if_pos k1]
  apply wm; iterate 5 exact rfl
  refine mv_int (v := .b true) rfl rfl (vi_eqlT ((by rw [k1])))
  refine wo ?_
  refine zX (m_slaw rfl) ?_
  refine p_callq (vwant_n rfl) rfl rfl rfl rfl (fun hp hs => text_d rfl hs.ok) ?_
  apply p_do; exact (vwant_n rfl); exact rfl; exact rfl
  refine e_stn (C' := [.b false, .sl (some (bx, 0 + 1)) 32 32 false, .sl none 0 0 false]) rfl rfl (by simp) rfl (Nat.le_of_ble_eq_true rfl) rfl ⟨_, rfl, ?_⟩
  refine wo ?_
  exact w_ret (wend_ret (vres1 (rv_cell rfl rfl)) ⟨[(some bx, cellsO (refC r (.sl A r.n.length c o)) 26)], cle, _, rfl, _, _, _, rfl, by
   rw [e]
   exact itP_str (Sn.own (List.mem_singleton.2 rfl) (by rw [List.length_map, hh]; exact refC_hash hh)) hh (Nat.le_refl _)⟩)
 apply wm; iterate 5 exact rfl
 refine mv_int (v := .b false) rfl rfl (vi_eqlF (k1))
 refine wo ?_
 by_cases k2 : r.k = 2
 ·apply wm; iterate 5 exact rfl
  refine mv_int (v := .b true) rfl rfl (vi_eqlT ((by rw [k2])))
  refine wo ?_
  refine zX (m_ldl rfl (refC_node hh)) ?_
  cases hS : decS r.n with
  | error x =>
   have e : refItS r = .str [] := by unfold refItS; rw [if_neg k1, if_pos k2, hS]
   have hC : ∀ {L : HV} {hp' : Hp}, SV ⟨hp, []⟩ hp' L → OkH hp' → Fn kxD 28 [.sl A r.n.length c o] hp' [] fun r N => ∃ u, r = .v u ∧ u = .tup [.agg zI, .i .i64 (x.1 : Nat), .i .i64 (x.2 : Nat)] := fun hs ho => by
    have := decode_d (o := o) ho (hB.give0 hs) hc
    rw [hS] at this
    exact this
   apply p_callY []; exact (vwant_n rfl); iterate 4 exact rfl
   case hC => exact (fun hp' hs ht => hC hs hs.ok)
   rintro u N rfl
   refine wo ?_
   apply p_op; exact (vwant_n rfl); iterate 4 exact rfl
   refine e_alloc rfl fun b3 => ⟨_, rfl, ?_⟩
   apply p_do; exact (vwant_n rfl); exact rfl; exact rfl
   refine e_stn (C' := zI) rfl rfl (by simp) rfl (Nat.le_of_ble_eq_true rfl) rfl ⟨_, rfl, ?_⟩
   refine wo ?_
   refine zX (m_ldln (s := 2) (cs := zI) rfl rfl rfl) ?_
   apply p_do; exact (vwant_n rfl); exact rfl; exact rfl
   refine e_stn (C' := zI) rfl rfl (by simp) rfl (Nat.le_of_ble_eq_true rfl) rfl ⟨_, rfl, ?_⟩
   refine wo ?_
   exact w_ret (wend_ret (vres1 (rv_cell rfl rfl)) ⟨[], cle, _, rfl, _, _, _, rfl, by
    rw [e]
    exact itP_str Sn.nil rfl (Nat.le_refl _)⟩)
  | ok t =>
   have e : refItS r = t := by unfold refItS; rw [if_neg k1, if_pos k2, hS]
   have hC : ∀ {L : HV} {hp' : Hp}, SV ⟨hp, []⟩ hp' L → OkH hp' → Fn kxD 28 [.sl A r.n.length c o] hp' [] fun r N => ∃ u, r = .v u ∧ ∃ a1 a2 a3, u = .tup [.agg [a1, a2, a3], .i .i64 0, .i .i64 0] ∧ ItX N t [a1, a2, a3] := fun hs ho => by
    have := decode_d (o := o) ho (hB.give0 hs) hc
    rw [hS] at this
    exact this
   apply p_callY []; exact (vwant_n rfl); iterate 4 exact rfl
   case hC => exact (fun hp' hs ht => hC hs hs.ok)
   rintro u N ⟨a1, a2, a3, rfl, hX⟩
   refine wo ?_
   apply p_op; exact (vwant_n rfl); iterate 4 exact rfl
   refine e_alloc rfl fun b3 => ⟨_, rfl, ?_⟩
   apply p_do; exact (vwant_n rfl); exact rfl; exact rfl
   refine e_stn (C' := [a1, a2, a3]) rfl rfl (by simp) rfl (Nat.le_of_ble_eq_true rfl) rfl ⟨_, rfl, ?_⟩
   refine wo ?_
   refine zX (m_ldln (s := 2) (cs := [a1, a2, a3]) rfl rfl rfl) ?_
   apply p_do; exact (vwant_n rfl); exact rfl; exact rfl
   refine e_stn (C' := [a1, a2, a3]) rfl rfl (by simp) rfl (Nat.le_of_ble_eq_true rfl) rfl ⟨_, rfl, ?_⟩
   refine wo ?_
   exact w_ret (wend_ret (vres1 (rv_cell rfl rfl)) ⟨N, cle, _, rfl, _, _, _, rfl, by rw [e]; exact hX⟩)
 ·have e : refItS r = .str [] := by unfold refItS; rw [if_neg k1, if_neg k2]
  apply wm; iterate 5 exact rfl
  refine mv_int (v := .b false) rfl rfl (vi_eqlF (k2))
  refine wo ?_
  refine p_callq (vwant_n rfl) rfl rfl rfl rfl (fun hp hs => text_d rfl hs.ok) ?_
  apply p_do; exact (vwant_n rfl); exact rfl; exact rfl
  refine e_stn (C' := [.b false, .sl none 0 0 false, .sl none 0 0 false]) rfl rfl (by simp) rfl (Nat.le_of_ble_eq_true rfl) rfl ⟨_, rfl, ?_⟩
  refine wo ?_
  exact w_ret (wend_ret (vres1 (rv_cell rfl rfl)) ⟨[], cle, _, rfl, _, _, _, rfl, by
   rw [e]
   exact itP_str Sn.nil rfl (Nat.le_refl _)⟩)
set_option maxHeartbeats 16000000 in
theorem nlist_d {P : PQ} {n : NodS} {w : List V} {hp : Hp} (ho : OkH hp) (hn : NodP (fun A _ _ cs => P A cs) n w) (hP : ∀ A cs, P A cs → RB ⟨hp, []⟩ A cs) (hk : n.k = 3 ∨ ((n.k = 1 ∨ n.k = 2) ∧ pathOk n.path)) :
  Fn kxD 27 [.agg w] hp [] fun q N => ∃ u, q = .v u ∧ ∃ A k o vs, u = .sl A (itemsS n).length k o ∧ Sn N A vs.flatten ∧ ItPs (fun A cs => P A cs ∨ Sn N A cs) (itemsS n) vs := by
 have hl := hn.len
 have hn0 := hn
 obtain ⟨h0, A, c, o, A', c', o', nx, ks, hw, hp1, hp2, hp3, hp4, hnx, hks⟩ := hn
 subst hw
 refine Fn.dropC ?_
 refine fn_of_w (T := []) ho.sv (fun _ => rfl) (fn := Try.f27) (by kernel_rfl) rfl rfl ?_
 refine wo ?_
 apply p_op; exact (vwant_n rfl); iterate 4 exact rfl
 refine ev_box rfl rfl fun bx => ⟨_, rfl, ?_⟩
 refine wo ?_
 iterate 4 ((try refine w_seq ?_); refine wo ?_)
 rcases hk with k3 | ⟨kk, hpa⟩
 ·have e : itemsS n = n.kids.map refItS ++ [.str n.val] := by unfold itemsS; rw [if_pos k3]
  apply wm; iterate 5 exact rfl
  refine mv_int (v := .b true) rfl rfl (vi_eqlT ((by rw [k3])))
  refine wo ?_
  iterate 4 ((try refine w_seq ?_); refine wo ?_)
  refine w_loop (ι := Nat × V × HV × HV × List (List V)) (fun s => [(10, .i .i64 (s.1 : Nat)), (3, s.2.1), (1, .p (some (bx, 0)))]) (fun s => s.2.2.1 ++ ((some bx, cellsO (nodC n (.sl A n.path.length c o) (.sl A' n.val.length c' o') nx ks.flatten) 29) :: s.2.2.2.1)) (fun s => s.1 ≤ 16 ∧ RowG 63 3 s.1 s.2.2.2.2.flatten s.2.1 s.2.2.1 ∧ ItXs s.2.2.2.1 ((n.kids.take s.1).map refItS) s.2.2.2.2) (fun s => 16 - s.1) (0, .sl none 0 0 false, [], [], []) ⟨Nat.zero_le _, .nil, by rw [List.take_zero, List.map_nil, ItXs, ItPs]⟩ ⟨rfl, rfl, rfl, trivial⟩ (fun hp h => h) ?_
  intro ⟨i, u, Nr, X, us⟩ ⟨hi, hu, hX⟩
  dsimp only at hi hu hX ⊢
  obtain ⟨A0, o0, rfl⟩ := hu.sl
  refine wo ?_
  by_cases g : i < 16
  ·obtain ⟨wk, h1, h2, h3⟩ := nodC_kid (n := n) (p := .sl A n.path.length c o) (v := .sl A' n.val.length c' o') hnx.len hks (i := i) (by omega)
   have hsn : n.kids.take (i + 1) = n.kids.take i ++ [n.kids[i]'(by omega)] := List.take_succ_eq_append_getElem (by omega)
   generalize n.kids[i]'(by omega) = r at *
   apply wm; iterate 5 exact rfl
   refine mv_int (v := .b true) rfl rfl (vi_lssT (by omega))
   refine wo ?_
   apply wn; iterate 5 exact rfl
   refine p_iaan rfl rfl g
   refine zX (m_ldln (s := 33) (cs := wk) rfl h1 h3.len) ?_
   apply p_callY []; exact (vwant_n rfl); iterate 4 exact rfl
   case hC => exact (fun hp' hs ht => refitem_d hs.ok h3 (fun A c o cs h => (hP _ _ h).give0 hs))
   rintro u1 N1 ⟨a1, a2, a3, rfl, hX1⟩
   apply p_op; exact (vwant_n rfl); iterate 4 exact rfl
   refine e_bsn (C := [a1, a2, a3]) (n := 1) (sz := 3) rfl rfl (by decide) (.cons rfl rfl rfl .nil) rfl rfl fun b1 => ⟨_, rfl, ?_⟩
   apply p_op; exact (vwant_n rfl); iterate 4 exact rfl
   refine e_appN (n := 1) hu rfl rfl (rz_loc (k := 3) rfl) rfl (by decide) (by omega) fun A3 o3 N3 hw3 => ⟨_, rfl, ?_⟩
   refine wo ?_
   refine ⟨rfl, (i + 1, .sl A3 (i + 1) (i + 1) o3, N3, N1 ++ X, us ++ [[a1, a2, a3]]), ⟨g, by rw [flat_snoc]; exact hw3, ?_⟩, by dsimp only; omega, ⟨rfl, rfl, rfl, trivial⟩, fun hp h => h.le⟩
   rw [hsn, List.map_append]
   exact itPs_snoc (itP_mono (fun A cs h => h.mono fun p hp => List.mem_append_left _ hp) _ _ hX1) (itPs_mono (fun A cs h => h.mono fun p hp => List.mem_append_right _ hp) _ _ hX)
  apply wm; iterate 5 exact rfl
  refine mv_int (v := .b false) rfl rfl (vi_lssF (by omega))
  refine wo ?_
  refine w_exit ?_
  obtain rfl : i = 16 := by omega
  rw [List.take_of_length_le (by omega)] at hX
  refine wo ?_
  refine p_callq (vwant_n rfl) rfl rfl rfl rfl (fun hp hs => text_d rfl hs.ok) ?_
  apply p_op; exact (vwant_n rfl); iterate 4 exact rfl
  refine e_bsn (C := [.b false, .sl A' n.val.length c' o', .sl none 0 0 false]) (n := 1) (sz := 3) rfl rfl (by decide) (.cons rfl rfl rfl .nil) rfl rfl fun b1 => ⟨_, rfl, ?_⟩
  apply p_op; exact (vwant_n rfl); iterate 4 exact rfl
  refine e_appN (n := 1) hu rfl rfl (rz_loc (k := 3) rfl) rfl (by decide) (by omega) fun A3 o3 N3 hw3 => ⟨_, rfl, ?_⟩
  refine wo ?_
  refine w_ret (wend_ret (vres1 (rv_tmp rfl)) ⟨N3 ++ X, cle, _, rfl, A3, 16 + 1, o3, us ++ [[.b false, .sl A' n.val.length c' o', .sl none 0 0 false]], ?_, ?_, ?_⟩)
  ·rw [e, List.length_append, List.length_map, h0]; rfl
  ·rw [flat_snoc]
   exact hw3.sn fun p hp => List.mem_append_left _ hp
  ·rw [e]
   exact itPs_snoc (itP_str (.inl hp3) rfl hp4) (itPs_mono (fun A cs h => .inr (h.mono fun p hp => List.mem_append_right _ hp)) _ _ hX)
 have k3 : n.k ≠ 3 := by omega
 apply wm; iterate 5 exact rfl
 refine mv_int (v := .b false) rfl rfl (vi_eqlF (by omega))
 refine wo ?_
 by_cases k1 : n.k = 1
 ·have e : itemsS n = [.str (packB n.path true), .str n.val] := by unfold itemsS; rw [if_neg k3, if_pos k1]
  apply wm; iterate 5 exact rfl
  refine mv_int (v := .b true) rfl rfl (vi_eqlT ((by rw [k1])))
  refine wo ?_
  apply p_callY []; exact (vwant_n rfl); iterate 4 exact rfl
  case hC => exact (fun hp' hs ht => PackOk (leaf := true) hs.ok ((hP _ _ hp1).give0 hs) hp2 hpa)
  rintro u N ⟨w1, rfl, hw1⟩
  obtain ⟨A1, o1, rfl⟩ := hw1.sl
  refine wo ?_
  apply wm; iterate 5 exact rfl
  refine mv_int (v := .b true) rfl rfl (vi_eqlT ((by rw [k1])))
  refine wo ?_
  refine d_callq (vwant_n rfl) (by decide +kernel) rfl rfl rfl rfl (fun hp hs => text_d rfl hs.ok) ?_
  refine wo ?_
  refine d_callq (vwant_n rfl) (by decide +kernel) rfl rfl rfl rfl (fun hp hs => text_d rfl hs.ok) ?_
  apply d_op; exact (vwant_n rfl); exact rfl; exact noRd rfl; decide +kernel; (iterate 3 exact rfl); rotate_left
  refine e_bsn (C := [.b false, .sl A1 (packB n.path true).length (packB n.path true).length o1, .sl none 0 0 false, .b false, .sl A' n.val.length c' o', .sl none 0 0 false]) (n := 2) (sz := 3) rfl rfl (by decide) (.cons rfl rfl rfl (.cons rfl rfl rfl .nil)) rfl rfl fun b1 => ⟨_, rfl, ?_⟩
  try (case hok => exact rdOk_nil)
  refine wo ?_
  refine w_ret (wend_ret (vres1 (rv_tmp rfl)) ⟨(some b1, cellsO [.b false, .sl A1 (packB n.path true).length (packB n.path true).length o1, .sl none 0 0 false, .b false, .sl A' n.val.length c' o', .sl none 0 0 false] 63) :: N, cle, _, rfl, some (b1, 0), 2, false, [[.b false, .sl A1 (packB n.path true).length (packB n.path true).length o1, .sl none 0 0 false], [.b false, .sl A' n.val.length c' o', .sl none 0 0 false]], by rw [e]; rfl, Sn.own List.mem_cons_self rfl, ?_⟩)
  rw [e]
  exact itPs_cons (itP_str (.inr (hw1.sn fun p hp => List.mem_cons_of_mem _ hp)) rfl (Nat.le_refl _)) (itPs_one (itP_str (.inl hp3) rfl hp4))
 ·have e : itemsS n = [.str (packB n.path false), refItS n.next] := by unfold itemsS; rw [if_neg k3, if_neg k1]
  apply wm; iterate 5 exact rfl
  refine mv_int (v := .b false) rfl rfl (vi_eqlF (by omega))
  refine wo ?_
  apply p_callY []; exact (vwant_n rfl); iterate 4 exact rfl
  case hC => exact (fun hp' hs ht => PackOk (leaf := false) hs.ok ((hP _ _ hp1).give0 hs) hp2 hpa)
  rintro u N ⟨w1, rfl, hw1⟩
  obtain ⟨A1, o1, rfl⟩ := hw1.sl
  refine wo ?_
  apply wm; iterate 5 exact rfl
  refine mv_int (v := .b false) rfl rfl (vi_eqlF (by omega))
  refine wo ?_
  refine d_callq (vwant_n rfl) (by decide +kernel) rfl rfl rfl rfl (fun hp hs => text_d rfl hs.ok) ?_
  refine wo ?_
  refine yX (m_ldln (s := 33) (cs := nx) rfl (nodC_next hnx.len) hnx.len) ?_
  apply d_callY []; exact (vwant_n rfl); decide +kernel; (iterate 4 exact rfl)
  try (case hok => exact rdOk_nil)
  case hC => exact (fun hp' hs ht => refitem_d hs.ok hnx (fun A c o cs h => (hP _ _ h).give0 hs))
  rintro u1 N1 ⟨a1, a2, a3, rfl, hX1⟩
  apply d_op; exact (vwant_n rfl); exact rfl; exact noRd rfl; decide +kernel; (iterate 3 exact rfl); rotate_left
  refine e_bsn (C := [.b false, .sl A1 (packB n.path false).length (packB n.path false).length o1, .sl none 0 0 false, a1, a2, a3]) (n := 2) (sz := 3) rfl rfl (by decide) (.cons rfl rfl rfl (.cons rfl rfl rfl .nil)) rfl rfl fun b1 => ⟨_, rfl, ?_⟩
  try (case hok => exact rdOk_nil)
  refine wo ?_
  refine w_ret (wend_ret (vres1 (rv_tmp rfl)) ⟨(some b1, cellsO [.b false, .sl A1 (packB n.path false).length (packB n.path false).length o1, .sl none 0 0 false, a1, a2, a3] 63) :: (N1 ++ N), cle, _, rfl, some (b1, 0), 2, false, [[.b false, .sl A1 (packB n.path false).length (packB n.path false).length o1, .sl none 0 0 false], [a1, a2, a3]], by rw [e]; rfl, Sn.own List.mem_cons_self rfl, ?_⟩)
  rw [e]
  exact itPs_cons (itP_str (.inr (hw1.sn fun p hp => List.mem_cons_of_mem _ (List.mem_append_right _ hp))) rfl (Nat.le_refl _)) (itPs_one (itP_mono (fun A cs h => .inr (h.mono fun p hp => List.mem_cons_of_mem _ (List.mem_append_left _ hp))) _ _ hX1))
theorem mayS_kind {n : NodS} (h : mayS ndD n = true) : n.k = 3 ∨ ((n.k = 1 ∨ n.k = 2) ∧ pathOk n.path) := by
 unfold mayS at h
 by_cases k3 : n.k = 3
 ·exact .inl k3
 ·rw [if_neg k3] at h
  by_cases k2 : n.k = 2
  ·rw [if_pos k2] at h
   split at h
   ·simp at h
   ·unfold mayLfS at h
    simp only [Bool.and_eq_true, decide_eq_true_eq] at h
    exact .inr ⟨.inr k2, h.1.1.1.1⟩
  ·rw [if_neg k2] at h
   by_cases k1 : n.k = 1
   ·rw [if_pos k1] at h
    unfold mayLfS at h
    simp only [Bool.and_eq_true, decide_eq_true_eq] at h
    exact .inr ⟨.inl k1, h.1.1.1.1⟩
   ·rw [if_neg k1] at h
    simp at h
set_option maxHeartbeats 8000000 in
theorem nencode_k {n : NodS} {w : List V} {hp : Hp} (ho : OkH hp) (hn : NodP (rbP ⟨hp, []⟩) n w) (hD : ∀ r, (r = n.next ∨ r ∈ n.kids) → r.k = 2 → bareS r = true → DecOk r.n) :
  Fn kxD 8 [.agg w] hp [] fun q N => if mayS ndD n = true then ∃ u, q = .v u ∧ ∃ w', u = .tup [w', .i .i64 0] ∧ RowK (ndB n) w' N else ∃ u, q = .v u ∧ u = .tup [.sl none 0 0 false, .i .i64 70] := by
 have hl := hn.len
 have hok := hn.ok
 refine Fn.dropC ?_
 refine fn_of_w (T := []) ho.sv (fun _ => rfl) (fn := Try.f8) (by kernel_rfl) rfl rfl ?_
 refine wo ?_
 apply p_op; exact (vwant_n rfl); iterate 4 exact rfl
 refine ev_box rfl rfl fun bx => ⟨_, rfl, ?_⟩
 refine wo ?_
 refine zX (m_ldln (s := 581) (cs := w) rfl (all_take _ hl) hl) ?_
 refine p_callq (vwant_n rfl) rfl rfl rfl rfl (fun hp hs => may_k hs.ok (hn.mono fun A c o cs h => h.give0 hs) hD) ?_
 cases hm : mayS ndD n with
 | false =>
  refine wo ?_
  exact w_ret (wend_ret (vres2 (rv_tmp rfl) (rv_tmp rfl)) ⟨[], cle, by rw [if_neg (by simp)]; exact ⟨_, rfl, rfl⟩⟩)
 | true =>
  obtain ⟨q1, q2, q3⟩ := nd_key hok hm
  have q4 := (ndD_ndB hok hm).2
  have hki := mayS_kind hm
  refine wo ?_
  refine zX (m_ldln (s := 581) (cs := w) rfl (all_take _ hl) hl) ?_
  apply p_callY []; exact (vwant_n rfl); iterate 4 exact rfl
  case hC => exact (fun hp' hs ht => nlist_d (P := RB ⟨hp, []⟩) hs.ok hn (fun A cs h => h.give0 hs) hki)
  rintro u N ⟨A, k, o, vs, rfl, hA, hvs⟩
  apply wn; iterate 5 exact rfl
  refine p_buildS (C := [.b true, .sl none 0 0 false, .sl A (itemsS n).length k o]) (.cons rfl rfl rfl rfl (Nat.le_of_ble_eq_true rfl) (.cons rfl rfl rfl rfl (Nat.le_of_ble_eq_true rfl) .nil)) rfl
  have hit : ∀ {hp' : Hp} {L : HV}, SV ⟨hp, []⟩ hp' ([] ++ L) → (∀ p ∈ N, p ∈ L) → ItR ⟨hp', []⟩ (.list (itemsS n)) [.b true, .sl none 0 0 false, .sl A (itemsS n).length k o] := fun {hp' L} hs hx =>
   itR_list (hA _ _ _ _ hs hx) (itPs_r (fun B cs h => h.elim (fun h => h.give0 hs) fun h => h _ _ _ _ hs hx) _ _ hvs) rfl
  apply p_callY []; exact (vwant_n rfl); iterate 4 exact rfl
  case hC => exact (fun hp' hs ht => encode_d (t := .list (itemsS n)) hs.ok (hit hs fun p hp => List.mem_append_left _ hp) (by rw [depth]; omega) (by unfold ndB at q4; omega))
  rintro u N2 ⟨w2, rfl, hw2⟩
  obtain ⟨A2, o2, rfl⟩ := hw2.sl
  refine wo ?_
  apply wm; iterate 5 exact rfl
  refine mv_int (v := .b false) rfl rfl (vi_neqF ((by simp)))
  refine wo ?_
  exact w_ret (wend_ret (vres2 (rv_tmp rfl) (rv_tmp rfl)) ⟨N2, cle, by rw [if_pos rfl]; exact ⟨_, rfl, _, rfl, hw2⟩⟩)
end Go.Proofs.Ytabpegdalmagpaa
/- Ne1: nodes that are handed in, opened. By this project. -/
set_option maxRecDepth 100000
namespace Go.Proofs.Ytabpegdalmagpaa
open Go.ChangeShapes Go.WideShapes Go.ChangeAt Go.RowKit Go.Extern.Stop
structure RefE where
 k : Int
 h : List UInt8
 q : GV
 n : List UInt8
 c : Nat
def RefE.r (e : RefE) : RefS := ⟨e.k, e.h, e.n⟩
def RefE.cells (e : RefE) : List Value := .int .i64 e.k :: (e.h.map cell ++ [.slice e.q.A e.n.length e.c])
structure RefEOk (W : World) (e : RefE) : Prop where
 h : e.h.length = 32
 n : BOk W e.q e.n e.c
 l : e.n.length ≤ 140737488355328
structure NodE where
 k : Int
 pq : GV
 path : List UInt8
 pc : Nat
 vq : GV
 val : List UInt8
 vc : Nat
 full : Bool
 next : RefE
 kids : List RefE
def NodE.n (e : NodE) : NodS := ⟨e.k, e.path, e.val, e.full, e.next.r, e.kids.map RefE.r⟩
def NodE.cells (e : NodE) : List Value := .int .i64 e.k :: .slice e.pq.A e.path.length e.pc :: .slice e.vq.A e.val.length e.vc :: .bool e.full :: (e.next.cells ++ e.kids.flatMap RefE.cells)
structure NodEOk (W : World) (e : NodE) : Prop where
 p : BOk W e.pq e.path e.pc
 v : BOk W e.vq e.val e.vc
 next : RefEOk W e.next
 len : e.kids.length = 16
 kids : ∀ x ∈ e.kids, RefEOk W x
 lp : e.path.length ≤ 140737488355328
 lv : e.val.length ≤ 140737488355328
def NodE.g (e : NodE) : List GV := e.pq :: e.vq :: e.next.q :: e.kids.map (·.q)
def refV (p : Nat) (e : RefE) : List V := refC e.r (gvV p e.q e.n.length e.c)
def refsV : Nat → List RefE → List (List V)
 | _, [] => []
 | p, e :: r => refV p e :: refsV (p + 1) r
def nodV (p : Nat) (e : NodE) : List V := nodC e.n (gvV p e.pq e.path.length e.pc) (gvV (p + 1) e.vq e.val.length e.vc) (refV (p + 2) e.next) (refsV (p + 3) e.kids).flatten
theorem bok_ren {W : World} {bs : List GV} {q : GV} {xs : List UInt8} {c p : Nat} (h : BOk W q xs c) (hp : bs[p]? = some q) : ren (gvE bs) (gvV p q xs.length c) = some (.slice q.A xs.length c) := ren_gv hp (fun a ha hs => by
 obtain ⟨x, y⟩ := h.spot a ha hs
 exact ⟨by rw [x]; rfl, y⟩)
theorem ref_ren {W : World} {bs : List GV} {e : RefE} {p : Nat} (h : RefEOk W e) (hp : bs[p]? = some e.q) : renL (gvE bs) (refV p e) = some e.cells := by
 have h1 : renL (gvE bs) [gvV p e.q e.n.length e.c] = some [.slice e.q.A e.n.length e.c] := by simp [renL, bok_ren h.n hp]
 have h2 : renL (gvE bs) (e.r.h.map byV ++ [gvV p e.q e.n.length e.c]) = some (e.h.map cell ++ [.slice e.q.A e.n.length e.c]) := renL_joinA (renL_bytes (E := gvE bs) e.h) h1
 unfold refV refC
 simp only [renL, h2, ren, Option.bind_some, Option.map_some]
 rfl
theorem refs_ren {W : World} {bs : List GV} : ∀ {l : List RefE} {p : Nat}, (∀ e ∈ l, RefEOk W e) → AtG bs p (l.map (·.q)) → renL (gvE bs) (refsV p l).flatten = some (l.flatMap RefE.cells)
 | [], _, _, _ => rfl
 | e :: r, p, h1, h2 => by
  rw [List.map_cons] at h2
  have k1 := h2 0 _ rfl
  rw [Nat.add_zero] at k1
  rw [refsV, List.flatten_cons, List.flatMap_cons]
  exact renL_joinA (ref_ren (h1 e List.mem_cons_self) k1) (refs_ren (fun e he => h1 e (List.mem_cons_of_mem _ he)) h2.tail)
theorem nod_ren {W : World} {bs : List GV} {e : NodE} {p : Nat} (h : NodEOk W e) (hp : AtG bs p e.g) : renL (gvE bs) (nodV p e) = some e.cells := by
 have k0 := hp 0 _ rfl
 have k1 := hp 1 _ rfl
 have k2 := hp 2 _ rfl
 rw [Nat.add_zero] at k0
 have r0 := bok_ren h.p k0
 have r1 := bok_ren h.v k1
 have r2 := ref_ren h.next k2
 have r3 : renL (gvE bs) (refsV (p + 3) e.kids).flatten = some (e.kids.flatMap RefE.cells) := refs_ren h.kids hp.tail.tail.tail
 have r4 := renL_joinA r2 r3
 unfold nodV nodC
 simp only [renL, r0, r1, r4, ren, Option.bind_some, Option.map_some]
 rfl
theorem ref_one {e : RefE} : e.cells.all (·.oneCell') = true := by
 refine List.all_eq_true.2 fun v hv => ?_
 simp only [RefE.cells, List.mem_cons, List.mem_append, List.mem_map, List.not_mem_nil, or_false] at hv
 rcases hv with rfl | ⟨x, _, rfl⟩ | rfl <;> rfl
theorem nod_one {e : NodE} : e.cells.all (·.oneCell') = true := by
 refine List.all_eq_true.2 fun v hv => ?_
 simp only [NodE.cells, List.mem_cons, List.mem_append, List.mem_flatMap] at hv
 rcases hv with rfl | rfl | rfl | rfl | hv | ⟨x, _, hv⟩
 ·rfl
 ·rfl
 ·rfl
 ·rfl
 ·exact List.all_eq_true.1 ref_one v hv
 ·exact List.all_eq_true.1 ref_one v hv
theorem nod_ren1 {W : World} {bs : List GV} {e : NodE} {p : Nat} (h : NodEOk W e) (hp : AtG bs p e.g) : ren (gvE bs) (.agg (nodV p e)) = some (.agg e.cells.toArray) := ren_agg_mk (nod_ren h hp) nod_one
theorem nod_gv {W : World} {E : Env} {e : NodE} (h : NodEOk W e) : ∀ q ∈ e.g, GvOk W E q := fun q hq => by
 unfold NodE.g at hq
 simp only [List.mem_cons, List.mem_map] at hq
 rcases hq with rfl | rfl | rfl | ⟨x, hx, rfl⟩
 ·exact h.p.gv
 ·exact h.v.gv
 ·exact h.next.n.gv
 ·exact (h.kids x hx).n.gv
section
variable {bs : List GV} {B : Bs} {W : World} (hb : ∀ j q, bs[j]? = some q → RB B (gvA j q) q.cs)
include hb
theorem ref_p {e : RefE} {p : Nat} (h : RefEOk W e) (hp : bs[p]? = some e.q) : RefP (rbP B) e.r (refV p e) := by
 have := hb _ _ hp
 rw [h.n.cs] at this
 exact ⟨h.h, gvA p e.q, e.c, false, rfl, this, h.n.cap⟩
theorem refs_p : ∀ {l : List RefE} {p : Nat}, (∀ e ∈ l, RefEOk W e) → AtG bs p (l.map (·.q)) → RefsP (rbP B) (l.map RefE.r) (refsV p l)
 | [], _, _, _ => rfl
 | e :: r, p, h1, h2 => by
  rw [List.map_cons] at h2
  have k1 := h2 0 _ rfl
  rw [Nat.add_zero] at k1
  exact ⟨_, _, rfl, ref_p hb (h1 e List.mem_cons_self) k1, refs_p (fun e he => h1 e (List.mem_cons_of_mem _ he)) h2.tail⟩
theorem nod_p {e : NodE} {p : Nat} (h : NodEOk W e) (hp : AtG bs p e.g) : NodP (rbP B) e.n (nodV p e) := by
 have k0 := hp 0 _ rfl
 have k1 := hp 1 _ rfl
 have k2 := hp 2 _ rfl
 rw [Nat.add_zero] at k0
 have b0 := hb _ _ k0
 have b1 := hb _ _ k1
 rw [h.p.cs] at b0
 rw [h.v.cs] at b1
 refine ⟨by show (e.kids.map RefE.r).length = 16; rw [List.length_map, h.len], gvA p e.pq, e.pc, false, gvA (p + 1) e.vq, e.vc, false, refV (p + 2) e.next, refsV (p + 3) e.kids, rfl, b0, h.p.cap, b1, h.v.cap, ref_p hb h.next k2, refs_p hb h.kids hp.tail.tail.tail⟩
end
theorem trod_elem {H : Type} {enc : TypeId × Value → H} {P : Program} {W : World} {base : Nat} {held : Bool} {t e : TypeId} {n : Nat} (ht : arrayT P t = some (n, e)) {fuel : Nat} {cs : List Value} {d : DataW H} {ps : List MemPlace} (h : DataW.trod enc P W base (fun _ => true) held fuel t cs = some (d, ps)) (hz : (DataW.weights P t d).all (· ≤ reachBytes) = true) :
  cs.length = P.cellsOf t ∧ ∀ i, i < n → ∃ m d' ps', DataW.trod enc P W base (fun _ => true) held m e ((cs.drop (i * P.cellsOf e)).take (P.cellsOf e)) = some (d', ps') ∧ (DataW.weights P e d').all (· ≤ reachBytes) = true := by
 have hu := und_array ht
 obtain ⟨xs, m, _, hx, hl, hxl, hf⟩ := DataW.trod_array hu h
 simp only [Prod.mk.injEq] at hx
 obtain ⟨rfl, rfl⟩ := hx
 refine ⟨hl, fun i hi => ?_⟩
 have h3 := hf i hi
 rw [List.getElem?_eq_getElem (by omega)] at h3
 refine ⟨m, xs[i].1, xs[i].2, h3, ?_⟩
 simp only [DataW.weights, hu] at hz
 exact weightsAll_at (List.mem_map.2 ⟨xs[i], List.getElem_mem _, rfl⟩) hz
instance : Inhabited RefE := ⟨⟨0, [], default, [], 0⟩⟩
theorem cut_one {C : List Value} {i : Nat} (h : i < C.length) : ∃ v, C[i]? = some v ∧ (C.drop i).take 1 = [v] := ⟨C[i], List.getElem?_eq_getElem h, by rw [List.drop_eq_getElem_cons h]; rfl⟩
section
variable {H : Type} {enc : TypeId × Value → H} {W : World} {base : Nat} {held : Bool}
theorem open_refE {fuel : Nat} {C : List Value} {d : DataW H} {ps : List MemPlace} (h : DataW.trod enc Try.prog W base (fun _ => true) held fuel 26 C = some (d, ps)) (hz : (DataW.weights Try.prog 26 d).all (· ≤ reachBytes) = true) :
  ∃ e : RefE, C = e.cells ∧ RefEOk W e := by
 have hl := trod_len (FieldT.h (P := Try.prog) (t := 26) (i := 0)) h
 rw [show Try.prog.cellsOf 26 = 34 by kernel_rfl] at hl
 obtain ⟨n0, d0, p0, k0, _⟩ := trod_at (FieldT.h (P := Try.prog) (t := 26) (i := 0)) h hz
 obtain ⟨n1, d1, p1, k1, _⟩ := trod_at (FieldT.h (P := Try.prog) (t := 26) (i := 1)) h hz
 obtain ⟨n2, d2, p2, k2, z2⟩ := trod_at (FieldT.h (P := Try.prog) (t := 26) (i := 2)) h hz
 rw [show Try.prog.cellsOf 3 = 1 by kernel_rfl] at k0
 rw [show Try.prog.cellsOf 24 = 32 by kernel_rfl] at k1
 rw [show Try.prog.cellsOf 22 = 1 by kernel_rfl] at k2
 obtain ⟨z0, e0, _⟩ := DataW.trod_int (und_int (IntT.h (P := Try.prog) (t := 3))) k0
 obtain ⟨hv, e1, l1⟩ := trod_bytes (ArrayT.h (P := Try.prog) (t := 24)) (IntT.h (P := Try.prog) (t := 5)) (by kernel_rfl) (by kernel_rfl) k1
 obtain ⟨s, hs, hd⟩ := cut_one (C := C) (i := 33) (by omega)
 rw [hd] at k2
 obtain ⟨q, xs, c, rfl, hB, hl2⟩ := open_gb (SliceT.h (P := Try.prog) (t := 22)) (IntT.h (P := Try.prog) (t := 5)) (by kernel_rfl) (by kernel_rfl) k2 z2
 refine ⟨⟨z0, hv, q, xs, c⟩, ?_, ⟨l1, hB, hl2⟩⟩
 have f1 : C = (C.drop 0).take 1 ++ ((C.drop 1).take 32 ++ (C.drop 33).take 1) := by
  have g1 : C.drop 33 = (C.drop 33).take 1 := (List.take_of_length_le (by rw [List.length_drop]; omega)).symm
  have g2 : C.drop 1 = (C.drop 1).take 32 ++ (C.drop 33) := by
   have := (List.take_append_drop 32 (C.drop 1)).symm
   rwa [List.drop_drop] at this
  have g3 : C = C.take 1 ++ C.drop 1 := (List.take_append_drop 1 C).symm
  rw [← g1, ← g2, List.drop_zero]
  exact g3
 rw [f1, e0, e1, hd]
 rfl
theorem flatMap_cut {k : Nat} {f : Nat → List Value} : ∀ {n : Nat} {C : List Value}, C.length = n * k → (∀ i, i < n → (C.drop (i * k)).take k = f i) → C = (List.range n).flatMap f
 | 0, C, h, _ => by
  obtain rfl := List.length_eq_zero_iff.1 (by omega : C.length = 0)
  rfl
 | n + 1, C, h, hf => by
  rw [Nat.succ_mul] at h
  rw [List.range_succ, List.flatMap_append]
  have h1 := hf n (Nat.lt_succ_self n)
  rw [List.take_of_length_le (by rw [List.length_drop]; omega)] at h1
  have h2 := flatMap_cut (k := k) (n := n) (C := C.take (n * k)) (f := f) (by rw [List.length_take]; omega) (fun i hi => by
   have hle : i * k + k ≤ n * k := by
    have := Nat.mul_le_mul_right k (show i + 1 ≤ n by omega)
    rwa [Nat.succ_mul] at this
   rw [← hf i (by omega), List.drop_take, List.take_take]
   congr 1
   omega)
  rw [← h2, List.flatMap_singleton, ← h1, List.take_append_drop]
theorem open_nodE {fuel : Nat} {C : List Value} {d : DataW H} {ps : List MemPlace} (h : DataW.trod enc Try.prog W base (fun _ => true) held fuel 29 C = some (d, ps)) (hz : (DataW.weights Try.prog 29 d).all (· ≤ reachBytes) = true) :
  ∃ e : NodE, C = e.cells ∧ NodEOk W e := by
 have hl := trod_len (FieldT.h (P := Try.prog) (t := 29) (i := 0)) h
 rw [show Try.prog.cellsOf 29 = 582 by kernel_rfl] at hl
 obtain ⟨n0, d0, p0, k0, _⟩ := trod_at (FieldT.h (P := Try.prog) (t := 29) (i := 0)) h hz
 obtain ⟨n1, d1, p1, k1, z1⟩ := trod_at (FieldT.h (P := Try.prog) (t := 29) (i := 1)) h hz
 obtain ⟨n2, d2, p2, k2, z2⟩ := trod_at (FieldT.h (P := Try.prog) (t := 29) (i := 2)) h hz
 obtain ⟨n3, d3, p3, k3, _⟩ := trod_at (FieldT.h (P := Try.prog) (t := 29) (i := 3)) h hz
 obtain ⟨n4, d4, p4, k4, z4⟩ := trod_at (FieldT.h (P := Try.prog) (t := 29) (i := 4)) h hz
 obtain ⟨n5, d5, p5, k5, z5⟩ := trod_at (FieldT.h (P := Try.prog) (t := 29) (i := 5)) h hz
 rw [show Try.prog.cellsOf 3 = 1 by kernel_rfl] at k0
 rw [show Try.prog.cellsOf 22 = 1 by kernel_rfl] at k1 k2
 rw [show Try.prog.cellsOf 4 = 1 by kernel_rfl] at k3
 rw [show Try.prog.cellsOf 26 = 34 by kernel_rfl] at k4
 rw [show Try.prog.cellsOf 27 = 544 by kernel_rfl] at k5
 obtain ⟨z0, e0, _⟩ := DataW.trod_int (und_int (IntT.h (P := Try.prog) (t := 3))) k0
 obtain ⟨s1, hs1, hd1⟩ := cut_one (C := C) (i := 1) (by omega)
 rw [hd1] at k1
 obtain ⟨pq, path, pc, rfl, hB1, hl1⟩ := open_gb (SliceT.h (P := Try.prog) (t := 22)) (IntT.h (P := Try.prog) (t := 5)) (by kernel_rfl) (by kernel_rfl) k1 z1
 obtain ⟨s2, hs2, hd2⟩ := cut_one (C := C) (i := 2) (by omega)
 rw [hd2] at k2
 obtain ⟨vq, val, vc, rfl, hB2, hl2⟩ := open_gb (SliceT.h (P := Try.prog) (t := 22)) (IntT.h (P := Try.prog) (t := 5)) (by kernel_rfl) (by kernel_rfl) k2 z2
 obtain ⟨g, hg, _⟩ := DataW.trod_bool (by kernel_rfl) k3
 obtain ⟨nx, hnx, hB4⟩ := open_refE k4 z4
 obtain ⟨l5, hel⟩ := trod_elem (ArrayT.h (P := Try.prog) (t := 27)) k5 z5
 rw [show Try.prog.cellsOf 26 = 34 by kernel_rfl] at hel
 rw [show Try.prog.cellsOf 27 = 544 by kernel_rfl] at l5
 have each : ∀ i, i < 16 → ∃ x : RefE, ((((C.drop 38).take 544).drop (i * 34)).take 34) = x.cells ∧ RefEOk W x := fun i hi => by
  obtain ⟨m, d', ps', h1, h2⟩ := hel i hi
  exact open_refE h1 h2
 obtain ⟨f, hf⟩ := Go.Deep.choose_lt each
 refine ⟨⟨z0, pq, path, pc, vq, val, vc, g, nx, (List.range 16).map f⟩, ?_, ⟨hB1, hB2, hB4, by simp, fun x hx => ?_, hl1, hl2⟩⟩
 ·have h6 := flatMap_cut (k := 34) (n := 16) (C := (C.drop 38).take 544) (f := fun i => (f i).cells) l5 (fun i hi => (hf i hi).1)
  have g6 : C.drop 38 = (C.drop 38).take 544 := (List.take_of_length_le (by rw [List.length_drop]; omega)).symm
  have g5 : C.drop 4 = (C.drop 4).take 34 ++ C.drop 38 := by
   have := (List.take_append_drop 34 (C.drop 4)).symm
   rwa [List.drop_drop] at this
  have st : ∀ i (v : Value), i < C.length → (C.drop i).take 1 = [v] → C.drop i = v :: C.drop (i + 1) := fun i v hi hv => by
   have := (List.take_append_drop 1 (C.drop i)).symm
   rw [hv, List.drop_drop] at this
   exact this
  have f0 := st 0 _ (by omega) e0
  have f1 := st 1 _ (by omega) hd1
  have f2 := st 2 _ (by omega) hd2
  have f3 := st 3 _ (by omega) hg
  rw [List.drop_zero] at f0
  unfold NodE.cells
  rw [f0, f1, f2, f3, g5, hnx, g6, h6, List.flatMap_map]
 ·obtain ⟨i, hi, rfl⟩ := List.mem_map.1 hx
  exact (hf i (List.mem_range.1 hi)).2
theorem open_node {t : TypeId} {r : Reach} {b0 : Nat} {v : Value} {d : DataW H} {ps : List MemPlace} (hv : Value.okWide Try.prog W r b0 29 v) (h : DataW.Trod enc Try.prog W base (fun _ => true) held 29 v d ps) (hz : (DataW.weights Try.prog 29 d).all (· ≤ reachBytes) = true) :
  ∃ e : NodE, v = .agg e.cells.toArray ∧ NodEOk W e := by
 obtain ⟨cs, rfl⟩ : ∃ cs, v = .agg cs := by
  have hrow : rowT Try.prog 29 = some true := by kernel_rfl
  unfold rowT at hrow
  cases hu : Try.prog.underlying 29 with
  | none => rw [hu] at hrow; simp at hrow
  | some dd =>
   rw [hu] at hrow
   unfold Value.okWide at hv
   rw [hu] at hv
   cases dd <;> first | (obtain ⟨cs, h1, _⟩ := hv; exact ⟨cs, h1⟩) | simp at hrow
 obtain ⟨fuel, h⟩ := h
 have hc : (Value.agg cs).cells.toList = cs.toList := by simp [Value.cells]
 rw [hc] at h
 obtain ⟨e, he, hE⟩ := open_nodE h hz
 exact ⟨e, by rw [← he], hE⟩
end
/- Dla: sha's tables at a law's beginning; what the machine is told holds. By this project. -/
theorem kxD_ok (n : Nat) : CallOk Try.prog (vcall kxD.C kxD.ext kxD.extd n) := vcall_ok0 apExt_ok extd0_ok n
/- Nrw: what the rows of the laws of node share: no variables, arguments with nodes. By this project. -/
theorem nOwn : ownKnob Try.prog.godebug = none := by kernel_rfl
theorem nLaidOut : laidOutB Try.prog = true := by kernel_rfl
theorem no_g {W : World} : ∀ x ∈ ([] : Gs), GOk W x := fun x hx => by simp at hx
theorem no_nb : ∀ x ∈ ([] : Gs), x.2.1.all notByte = true := fun x hx => by simp at hx
def zRefL : List Value := .int .i64 0 :: (List.replicate 32 (.int .u8 0) ++ [.slice none 0 0])
def zNodeV : Value := .agg (.int .i64 0 :: .slice none 0 0 :: .slice none 0 0 :: .bool false :: (List.replicate 17 zRefL).flatten).toArray
end Go.Proofs.Ytabpegdalmagpaa
