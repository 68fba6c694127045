/- THE LAW JournalWrites. Conditions: the tables of sha and the journal's kinds hold what their text lays (the card ties it). -/
import Derived.Test.YtbmkclbghfbegaaGreatDoorM6
import Derived.Test.YtbmkclbghfbegaaGreatDoorCards
import Derived.Test.YtbmkclbghfbegaaGreatDoorTie
import Derived.SizedLaws
import Derived.JoinedOf
set_option linter.unusedVariables false
set_option linter.unusedSectionVars false
set_option linter.unusedSimpArgs false
set_option maxRecDepth 100000
/- Js6: memory told in another order, by counting; the journal's may, text, number. By this project. -/
set_option maxRecDepth 100000
namespace Go.Proofs.YtbmkclbghfbegaaGreatDoor
open Go.RowKit Go.Extern.Stop
instance (priority := 49) {x : Option Nat × VO} {N L L' : HV} [k : SetV L 0 x L'] : SetV (N ++ L) N.length x (N ++ L') := ⟨by rw [List.set_append_right _ _ (Nat.le_refl _), Nat.sub_self, k.h]⟩
open Classical in
noncomputable def ind {α : Type} (a x : α) : Nat := if x = a then 1 else 0
noncomputable def cnt {α : Type} (a : α) : List α → Nat
 | [] => 0
 | x :: r => ind a x + cnt a r
theorem cnt_nil {α : Type} {a : α} : cnt a [] = 0 := rfl
theorem cnt_cons {α : Type} {a x : α} {r : List α} : cnt a (x :: r) = ind a x + cnt a r := rfl
theorem cnt_app {α : Type} {a : α} : ∀ {l r : List α}, cnt a (l ++ r) = cnt a l + cnt a r
 | [], r => by rw [List.nil_append, cnt_nil, Nat.zero_add]
 | x :: l, r => by rw [List.cons_append, cnt_cons, cnt_cons, cnt_app, Nat.add_assoc]
theorem ind_self {α : Type} {a : α} : ind a a = 1 := if_pos rfl
theorem cnt_pos {α : Type} {a : α} : ∀ {l : List α}, 0 < cnt a l → a ∈ l
 | [], h => by rw [cnt_nil] at h; omega
 | x :: r, h => by
  rw [cnt_cons] at h
  by_cases e : x = a
  ·subst e; simp
  ·have : ind a x = 0 := if_neg e
   exact List.mem_cons_of_mem _ (cnt_pos (by omega))
theorem mem_cnt {α : Type} {a : α} : ∀ {l : List α}, a ∈ l → 0 < cnt a l
 | x :: r, h => by
  rw [cnt_cons]
  rcases List.mem_cons.1 h with rfl | h
  ·rw [ind_self]; omega
  ·have := mem_cnt h; omega
theorem cnt_two {α : Type} {a : α} : ∀ {l : List α} {i j : Nat}, i < j → l[i]? = some a → l[j]? = some a → 2 ≤ cnt a l
 | x :: r, 0, j + 1, _, h1, h2 => by
  simp only [List.getElem?_cons_zero, Option.some.injEq] at h1
  subst h1
  rw [cnt_cons, ind_self]
  have := mem_cnt (List.mem_of_getElem? (show r[j]? = some x by simpa using h2))
  omega
 | x :: r, i + 1, j + 1, h, h1, h2 => by
  rw [cnt_cons]
  have := cnt_two (l := r) (i := i) (j := j) (by omega) (by simpa using h1) (by simpa using h2)
  omega
 | [], _, _, _, h1, _ => by simp at h1
theorem two_cnt {α : Type} {a : α} : ∀ {l : List α}, 2 ≤ cnt a l → ∃ i j : Nat, i < j ∧ l[i]? = some a ∧ l[j]? = some a
 | [], h => by rw [cnt_nil] at h; omega
 | x :: r, h => by
  rw [cnt_cons] at h
  by_cases e : x = a
  ·subst e
   rw [ind_self] at h
   obtain ⟨j, hj⟩ := List.getElem?_of_mem (cnt_pos (show 0 < cnt x r by omega))
   exact ⟨0, j + 1, by omega, rfl, by simpa using hj⟩
  ·have : ind a x = 0 := if_neg e
   obtain ⟨i, j, h1, h2, h3⟩ := two_cnt (show 2 ≤ cnt a r by omega)
   exact ⟨i + 1, j + 1, by omega, by simpa using h2, by simpa using h3⟩
theorem SV.le {B : Bs} {hp : Hp} {L L' : HV} (h : SV B hp L) (hc : ∀ a, cnt a L' ≤ cnt a L := by intro a; (try simp only [cnt_app, cnt_cons, cnt_nil, cellsO, rowO]); omega) : SV B hp L' := by
 have hm : ∀ a ∈ L', a ∈ L := fun a ha => cnt_pos (Nat.lt_of_lt_of_le (mem_cnt ha) (hc a))
 have key : ∀ (i j b : Nat) (o o' : VO), i < j → L'[i]? = some (some b, o) → L'[j]? = some (some b, o') → False := fun i j b o o' hij hi hj => by
  obtain ⟨p, hp1⟩ := List.getElem?_of_mem (hm _ (List.mem_of_getElem? hi))
  obtain ⟨q, hq1⟩ := List.getElem?_of_mem (hm _ (List.mem_of_getElem? hj))
  have e := h.one _ _ _ _ _ hp1 hq1
  subst e
  rw [hp1] at hq1
  simp only [Option.some.injEq, Prod.mk.injEq, true_and] at hq1
  subst hq1
  have h2 := cnt_two hij hi hj
  obtain ⟨i', j', h3, h4, h5⟩ := two_cnt (Nat.le_trans h2 (hc _))
  have := h.one _ _ _ _ _ h4 h5
  omega
 refine ⟨h.nx, h.old, fun i b o hi => ?_, fun i j b o o' hi hj => ?_, h.top, h.even⟩
 ·obtain ⟨j, hj⟩ := List.getElem?_of_mem (hm _ (List.mem_of_getElem? hi))
  exact h.has j b o hj
 ·rcases Nat.lt_trichotomy i j with g | g | g
  ·exact (key i j b o o' g hi hj).elim
  ·exact g
  ·exact (key j i b o' o g hj hi).elim
theorem Fn.dropC {K : Kx} {f : Nat} {args : List V} {hp : Hp} {T : List Nat} {R : VR → HV → Prop} (h : Fn K f args hp T fun r N => ∃ N', (∀ a, cnt a N' ≤ cnt a N) ∧ R r N') : Fn K f args hp T R := by
 unfold Fn at *
 obtain ⟨r, hp', h1, N, h2, h3, N', hc, h4⟩ := h
 exact ⟨r, hp', h1, N', h2.le hc, h3, h4⟩
theorem cle {L' L : HV} (hc : ∀ a, cnt a L' ≤ cnt a L := by intro a; (try simp only [cnt_app, cnt_cons, cnt_nil, cellsO, rowO]); omega) : ∀ a, cnt a L' ≤ cnt a L := hc
theorem mayR_kind {r : Rec} (h : mayR r) : 0 ≤ r.kind ∧ r.kind ≤ 2 := by have := h.1; omega
set_option maxHeartbeats 16000000 in
theorem jmay_d {r : Rec} {v : List V} {hp : Hp} (ho : OkH hp) (hk : KTab ⟨hp, []⟩) (hr : RecR ⟨hp, []⟩ r v) :
  Fn kxD 41 [.agg v] hp [] fun r' _ => r' = .v (.b (decide (mayR r))) := by
 obtain ⟨hok, A, c, o, vs, rfl, hA, hvs⟩ := hr
 have hC : (recC r (.sl A r.ch.length c o)).length = 68 := recC_len hok
 have hrl := hok.len
 have hch : (recC r (.sl A r.ch.length c o))[0 + 67]? = some (.sl A r.ch.length c o) := by rw [Nat.zero_add]; exact recC_ch hok
 refine fn_of_w (T := []) ho.sv (fun _ => rfl) (fn := Tryz.f41) (by kernel_rfl) rfl rfl ?_
 refine wo ?_
 apply p_op; exact (vwant_n rfl); iterate 4 exact rfl
 refine ev_box rfl rfl fun bx => ⟨_, rfl, ?_⟩
 refine wo ?_
 refine p_callq (vwant_n rfl) rfl rfl rfl rfl (fun hp hs => kindof_d hs.ok (hk.give0 hs)) ?_
 refine wo ?_
 have hkl : (kindC r.kind).length = 4 := by unfold kindC; split <;> (try split) <;> rfl
 have hkne : kindC r.kind ≠ [] := fun e => by rw [e] at hkl; simp at hkl
 apply p_op; exact (vwant_n rfl); iterate 4 exact rfl
 refine e_alloc rfl fun bk => ⟨_, rfl, ?_⟩
 apply p_do; exact (vwant_n rfl); exact rfl; exact rfl
 refine e_stn (C' := kindC r.kind) rfl rfl hkne hkl (by simp) (overV_all (by rw [hkl]; rfl)) ⟨_, rfl, ?_⟩
 refine wo ?_
 refine w_seq ?_
 refine wo ?_
 refine zX (m_ldl rfl hch) ?_
 refine wo ?_
 refine w_loop (ι := Nat) (fun i => [(16, .i .i64 (i : Nat)), (15, .i .i64 (r.ch.length : Nat)), (14, .sl A r.ch.length c o), (4, .b (decide (r.kind = 1 ∨ r.kind = 2))), (3, .p (some (bk, 0))), (1, .p (some (bx, 0)))]) (fun i => [(some bk, cellsO (kindC r.kind) 132), (some bx, cellsO (recC r (.sl A r.ch.length c o)) 26)]) (fun i => i ≤ r.ch.length ∧ ∀ c ∈ r.ch.take i, mayC c) (fun i => r.ch.length - i) 0 ⟨Nat.zero_le _, by simp⟩ ⟨rfl, rfl, rfl, rfl, rfl, rfl, trivial⟩ (fun hp h => h) ?_
 intro i ⟨hi, hall⟩
 refine wo ?_
 by_cases g : i < r.ch.length
 ·obtain ⟨b, oa, vi, rfl, hvi, hti, h3, hne⟩ := ch_at hA hvs g
  apply wm; iterate 5 exact rfl
  refine mv_int (v := .b true) rfl rfl (vi_lssT (by omega))
  refine wo ?_
  apply wn; iterate 5 exact rfl
  refine p_ian rfl rfl g
  apply wm; iterate 5 exact rfl
  refine m_ldnN (j := i * 3) (s := 2) rfl hA.1 hA.2 rfl hvi h3
  apply p_op; exact (vwant_n rfl); iterate 4 exact rfl
  refine e_alloc rfl fun bi => ⟨_, rfl, ?_⟩
  apply p_do; exact (vwant_n rfl); exact rfl; exact rfl
  refine e_stn (C' := vi) rfl rfl hne h3 (by simp) (overV_all (by rw [h3]; rfl)) ⟨_, rfl, ?_⟩
  refine wo ?_
  refine zX (m_ldln (s := 2) (cs := vi) rfl (by rw [List.drop_zero]; exact List.take_of_length_le (by omega)) h3) ?_
  refine p_callq (vwant_n rfl) rfl rfl rfl rfl (fun hp hs => maychange_d hs.ok (hti.mono fun h => h.give0 hs)) ?_
  refine wo ?_
  by_cases gm : mayC r.ch[i]
  ·rw [decide_eq_true gm]
   refine wo ?_
   exact ⟨rfl, i + 1, ⟨g, fun c hc => by
    rw [List.take_succ_eq_append_getElem g] at hc
    rcases List.mem_append.1 hc with h | h
    ·exact hall c h
    ·rw [List.mem_singleton.1 h]; exact gm⟩, by omega, ⟨rfl, rfl, rfl, rfl, rfl, rfl, trivial⟩, fun hp h => h.pick [1, 2] _ rfl (by decide)⟩
  ·rw [decide_eq_false gm]
   refine wo ?_
   exact w_ret (wend_ret (vres1 (rv_tmp rfl)) (by rw [decide_eq_false (fun h : mayR r => gm (h.2.2.2.2.2.2 _ (List.getElem_mem g)))]))
 apply wm; iterate 5 exact rfl
 refine mv_int (v := .b false) rfl rfl (vi_lssF (by omega))
 refine wo ?_
 refine w_exit ?_
 obtain rfl : i = r.ch.length := by omega
 rw [List.take_length] at hall
 refine wo ?_
 by_cases g0 : r.kind = 1 ∨ r.kind = 2
 rotate_left
 ·rw [decide_eq_false g0]
  refine wo ?_
  exact w_ret (wend_ret (vres1 (rv_tmp rfl)) (by rw [decide_eq_false (fun h : mayR r => g0 h.1)]))
 rw [decide_eq_true g0]
 refine wo ?_
 by_cases g1 : 1 ≤ r.count
 rotate_left
 ·apply wmg; iterate 7 exact rfl
  refine mv_int (v := .b false) rfl rfl (vi_geqF (by omega))
  refine wo ?_
  exact w_ret (wend_ret (vres1 (rv_tmp rfl)) (by rw [decide_eq_false (fun h : mayR r => g1 h.2.1.1)]))
 apply wmg; iterate 7 exact rfl
 refine mv_int (v := .b true) rfl rfl (vi_geqT (by omega))
 refine wo ?_
 by_cases g2 : r.count ≤ 1099511627776
 rotate_left
 ·apply wmg; iterate 7 exact rfl
  refine mv_int (v := .b false) rfl rfl (vi_leqF (by omega))
  refine wo ?_
  exact w_ret (wend_ret (vres1 (rv_tmp rfl)) (by rw [decide_eq_false (fun h : mayR r => g2 h.2.1.2)]))
 apply wmg; iterate 7 exact rfl
 refine mv_int (v := .b true) rfl rfl (vi_leqT (by omega))
 refine wo ?_
 by_cases g3 : 0 ≤ r.seq
 rotate_left
 ·apply wmg; iterate 7 exact rfl
  refine mv_int (v := .b false) rfl rfl (vi_geqF (by omega))
  refine wo ?_
  exact w_ret (wend_ret (vres1 (rv_tmp rfl)) (by rw [decide_eq_false (fun h : mayR r => g3 h.2.2.1.1)]))
 apply wmg; iterate 7 exact rfl
 refine mv_int (v := .b true) rfl rfl (vi_geqT (by omega))
 refine wo ?_
 refine wo ?_
 by_cases g4 : r.seq ≤ r.count
 rotate_left
 ·apply wmg; iterate 7 exact rfl
  refine mv_int (v := .b false) rfl rfl (vi_leqF (by omega))
  refine wo ?_
  exact w_ret (wend_ret (vres1 (rv_tmp rfl)) (by rw [decide_eq_false (fun h : mayR r => g4 h.2.2.1.2)]))
 apply wmg; iterate 7 exact rfl
 refine mv_int (v := .b true) rfl rfl (vi_leqT (by omega))
 refine wo ?_
 refine wo ?_
 have hl1 : (kindC r.kind)[0 + 1]? = some (.i .i64 (if r.kind = 2 then 1 else 0)) := by
  unfold kindC
  rcases g0 with h | h <;> rw [h] <;> rfl
 have hl2 : (kindC r.kind)[0 + 2]? = some (.i .i64 (if r.kind = 2 then 32 else 0)) := by
  unfold kindC
  rcases g0 with h | h <;> rw [h] <;> rfl
 refine zX (m_ldl rfl hl1) ?_
 by_cases g5 : r.kind = 2 → 1 ≤ r.seq
 rotate_left
 ·have g6 : ¬ (if r.kind = 2 then (1 : Int) else 0) ≤ r.seq := by split <;> omega
  apply wmg; iterate 7 exact rfl
  refine mv_int (v := .b false) rfl rfl (vi_geqF (g6))
  refine wo ?_
  exact w_ret (wend_ret (vres1 (rv_tmp rfl)) (by rw [decide_eq_false (fun h : mayR r => g5 h.2.2.2.1)]))
 have g6 : (if r.kind = 2 then (1 : Int) else 0) ≤ r.seq := by split <;> omega
 apply wmg; iterate 7 exact rfl
 refine mv_int (v := .b true) rfl rfl (vi_geqT (g6))
 refine wo ?_
 refine zX (m_ldl rfl hch) ?_
 refine wo ?_
 refine zX (m_ldl rfl hl2) ?_
 by_cases g7 : (r.kind = 1 → r.ch.length = 0) ∧ r.ch.length ≤ 32
 ·have g8 : ((r.ch.length : Nat) : Int) ≤ (if r.kind = 2 then (32 : Int) else 0) := by split <;> omega
  apply wmg; iterate 7 exact rfl
  refine mv_int (v := .b true) rfl rfl (vi_leqT (g8))
  refine wo ?_
  exact w_ret (wend_ret (vres1 (rv_tmp rfl)) (by rw [decide_eq_true (show mayR r from ⟨g0, ⟨g1, g2⟩, ⟨g3, g4⟩, g5, g7.1, g7.2, hall⟩)]))
 ·have g8 : ¬ ((r.ch.length : Nat) : Int) ≤ (if r.kind = 2 then (32 : Int) else 0) := by split <;> omega
  apply wmg; iterate 7 exact rfl
  refine mv_int (v := .b false) rfl rfl (vi_leqF (g8))
  refine wo ?_
  exact w_ret (wend_ret (vres1 (rv_tmp rfl)) (by rw [decide_eq_false (fun h : mayR r => g7 ⟨h.2.2.2.2.1, h.2.2.2.2.2.1⟩)]))
theorem jtext_d {A : Option (Nat × Nat)} {n c : Nat} {o : Bool} {hp : Hp} (ho : OkH hp) :
  Fn kxD 42 [.sl A n c o] hp [] fun r _ => r = .v (.agg [.b false, .sl A n c o, .sl none 0 0 false]) := by
 refine fn_of_w (T := []) ho.sv (fun _ => rfl) (fn := Tryz.f42) (by kernel_rfl) rfl rfl ?_
 refine wo ?_
 apply p_op; exact (vwant_n rfl); iterate 4 exact rfl
 refine e_alloc rfl fun bo => ⟨_, rfl, ?_⟩
 refine wo ?_
 apply wn; iterate 5 exact rfl
 refine p_buildS (C := [.b false, .sl A n c o, .sl none 0 0 false]) (.cons rfl rfl rfl rfl (Nat.le_of_ble_eq_true rfl) .nil) rfl
 apply p_do; exact (vwant_n rfl); exact rfl; exact rfl
 refine e_stn (C' := [.b false, .sl A n c o, .sl none 0 0 false]) rfl rfl (by simp) rfl (Nat.le_of_ble_eq_true rfl) rfl ⟨_, rfl, ?_⟩
 refine wo ?_
 exact w_ret (wend_ret (vres1 (rv_cell rfl rfl)) rfl)
theorem rnumber_d {n : Nat} {hp : Hp} (ho : OkH hp) (hn : n < 9223372036854775808) :
  Fn kxD 68 [.i .i64 (n : Int)] hp [] fun r N => ∃ u, r = .v u ∧ ∃ w, u = .tup [.agg [.b false, w, .sl none 0 0 false], .i .i64 0] ∧ RowK (shortB n) w N := by
 refine Fn.dropC ?_
 refine fn_of_w (T := []) ho.sv (fun _ => rfl) (fn := Tryz.f68) (by kernel_rfl) rfl rfl ?_
 refine wo ?_
 apply p_op; exact (vwant_n rfl); iterate 4 exact rfl
 refine e_alloc rfl fun bo => ⟨_, rfl, ?_⟩
 refine wo ?_
 apply wm; iterate 5 exact rfl
 refine mv_int (v := .b false) rfl rfl (vi_lssF (by omega))
 refine wo ?_
 apply wm; iterate 5 exact rfl
 refine m_convU rfl (by omega)
 apply p_callY []; exact (vwant_n rfl); iterate 4 exact rfl
 case hC => exact (fun hp hs ht => shortest_d hs.ok (by omega))
 rintro u N hu
 obtain ⟨A, op, rfl⟩ := hu.sl
 apply wn; iterate 5 exact rfl
 refine p_buildS (C := [.b false, .sl A (shortB n).length (shortB n).length op, .sl none 0 0 false]) (.cons rfl rfl rfl rfl (Nat.le_of_ble_eq_true rfl) .nil) rfl
 apply p_do; exact (vwant_n rfl); exact rfl; exact rfl
 refine e_stn (C' := [.b false, .sl A (shortB n).length (shortB n).length op, .sl none 0 0 false]) rfl rfl (by simp) rfl (Nat.le_of_ble_eq_true rfl) rfl ⟨_, rfl, ?_⟩
 refine wo ?_
 exact w_ret (wend_ret (vres2 (rv_cell rfl rfl) (rv_tmp rfl)) ⟨N, cle, _, rfl, _, rfl, hu⟩)
theorem jnumber_d {n : Nat} {hp : Hp} (ho : OkH hp) (hn : n < 9223372036854775808) :
  Fn kxD 43 [.i .i64 (n : Int)] hp [] fun r N => ∃ u, r = .v u ∧ ∃ w, u = .agg [.b false, w, .sl none 0 0 false] ∧ RowK (shortB n) w N := by
 refine Fn.dropC ?_
 refine fn_of_w (T := []) ho.sv (fun _ => rfl) (fn := Tryz.f43) (by kernel_rfl) rfl rfl ?_
 refine wo ?_
 apply p_op; exact (vwant_n rfl); iterate 4 exact rfl
 refine e_alloc rfl fun bo => ⟨_, rfl, ?_⟩
 refine wo ?_
 apply p_callY []; exact (vwant_n rfl); iterate 4 exact rfl
 case hC => exact (fun hp hs ht => rnumber_d hs.ok hn)
 rintro u N ⟨w, rfl, hu⟩
 obtain ⟨A, op, rfl⟩ := hu.sl
 refine wo ?_
 apply p_op; exact (vwant_n rfl); iterate 4 exact rfl
 refine e_alloc rfl fun bn => ⟨_, rfl, ?_⟩
 apply p_do; exact (vwant_n rfl); exact rfl; exact rfl
 refine e_stn (C' := [.b false, .sl A (shortB n).length (shortB n).length op, .sl none 0 0 false]) rfl rfl (by simp) rfl (Nat.le_of_ble_eq_true rfl) rfl ⟨_, rfl, ?_⟩
 refine wo ?_
 refine zX (m_ldln (s := 2) (cs := [.b false, .sl A (shortB n).length (shortB n).length op, .sl none 0 0 false]) rfl rfl rfl) ?_
 apply p_do; exact (vwant_n rfl); exact rfl; exact rfl
 refine e_stn (C' := [.b false, .sl A (shortB n).length (shortB n).length op, .sl none 0 0 false]) rfl rfl (by simp) rfl (Nat.le_of_ble_eq_true rfl) rfl ⟨_, rfl, ?_⟩
 refine wo ?_
 exact w_ret (wend_ret (vres1 (rv_cell rfl rfl)) ⟨N, cle, _, rfl, _, rfl, hu⟩)
end Go.Proofs.YtbmkclbghfbegaaGreatDoor
/- Js7: a record's body: what it is; the journal's. By this project. -/
set_option maxRecDepth 100000
namespace Go.Proofs.YtbmkclbghfbegaaGreatDoor
open Go.RowKit Go.Extern.Stop
def numI (n : Int) : It := .str (shortB n.toNat)
def chgK (c : Chg) : List It := .str c.key :: (if c.gone = true then [] else [.str c.val])
def chgT (c : Chg) : It := .list (chgK c)
def recK (r : Rec) : List It := [numI r.kind, numI r.count, numI r.seq, .str r.prev, .str r.root, .list (r.ch.map chgT)]
def recT (r : Rec) : It := .list (recK r)
def bodyB (r : Rec) : List UInt8 := enc (recT r)
theorem strB_len {bs : List UInt8} (h : bs.length < 18446744073709551616) : (strB bs).length ≤ bs.length + 9 := by
 have h9 := headB_len 128 h
 by_cases g : ∃ b, bs = [b] ∧ b.toNat < 128
 ·obtain ⟨b, rfl, g2⟩ := g
  rw [strB_one g2]; simp
 ·rw [strB_many fun b e h => g ⟨b, e, h⟩, List.length_append]
  omega
theorem enc_str (bs : List UInt8) : enc (.str bs) = strB bs := by rw [enc]
theorem enc_list (l : List It) : enc (.list l) = headB 192 (encs l).length ++ encs l := by rw [enc]
theorem chg_len {c : Chg} (h : mayC c) : (enc (chgT c)).length ≤ 320 := by
 unfold mayC at h
 have h1 := strB_len (bs := c.key) (by omega)
 unfold chgT chgK
 by_cases g : c.gone = true
 ·rw [if_pos g] at h
  rw [if_pos g, enc_list, encs, encs, enc_str, List.append_nil, List.length_append]
  have := headB_len 192 (n := (strB c.key).length) (by omega)
  omega
 ·rw [if_neg g] at h
  have h2 := strB_len (bs := c.val) (by omega)
  rw [if_neg g, enc_list, encs, encs, encs, enc_str, enc_str, List.append_nil, List.length_append, List.length_append]
  have := headB_len 192 (n := (strB c.key).length + (strB c.val).length) (by omega)
  omega
theorem chgs_len : ∀ (l : List Chg), (∀ c ∈ l, mayC c) → (encs (l.map chgT)).length ≤ l.length * 320
 | [], _ => by simp [encs]
 | c :: r, h => by
  rw [List.map_cons, encs, List.length_append, List.length_cons, Nat.succ_mul]
  have := chgs_len r fun c hc => h c (List.mem_cons_of_mem _ hc)
  have := chg_len (h c (by simp))
  omega
theorem num_len {n : Int} (h : n ≤ 1099511627776) : (enc (numI n)).length ≤ 20 := by
 have h1 := shortB_8 (n := n.toNat) (by omega)
 have := strB_len (bs := shortB n.toNat) (by omega)
 unfold numI
 rw [enc_str]
 omega
theorem recK_len {r : Rec} (ho : RecOk r) (h : mayR r) : (encs (recK r)).length ≤ 12000 := by
 have h1 := num_len (n := r.kind) (by have := h.1; omega)
 have h2 := num_len h.2.1.2
 have h3 := num_len (n := r.seq) (by have := h.2.2.1.2; have := h.2.1.2; omega)
 have h4 := strB_len (bs := r.prev) (by have := ho.prev; omega)
 have h5 := strB_len (bs := r.root) (by have := ho.root; omega)
 have h6 := chgs_len r.ch h.2.2.2.2.2.2
 have h7 := h.2.2.2.2.2.1
 have h8 := headB_len 192 (n := (encs (r.ch.map chgT)).length) (by omega)
 have := ho.prev
 have := ho.root
 unfold recK
 simp only [encs, enc_list, enc_str, List.length_append, List.length_nil]
 omega
theorem body_len {r : Rec} (ho : RecOk r) (h : mayR r) : (bodyB r).length ≤ 12100 := by
 have h1 := recK_len ho h
 have h2 := headB_len 192 (n := (encs (recK r)).length) (by omega)
 unfold bodyB recT
 rw [enc_list, List.length_append]
 omega
theorem depth_str (bs : List UInt8) : depth (.str bs) = 0 := by rw [depth]
theorem depths_le : ∀ {l : List It} {k : Nat}, (∀ t ∈ l, depth t ≤ k) → depths l ≤ k
 | [], k, _ => by rw [depths]; exact Nat.zero_le _
 | t :: r, k, h => by
  rw [depths]
  exact Nat.max_le.2 ⟨h t (by simp), depths_le fun t ht => h t (List.mem_cons_of_mem _ ht)⟩
theorem chg_depth (c : Chg) : depth (chgT c) ≤ 1 := by
 unfold chgT
 rw [depth]
 have : depths (chgK c) ≤ 0 := depths_le fun t ht => by
  unfold chgK at ht
  rcases List.mem_cons.1 ht with rfl | ht
  ·rw [depth_str]; exact Nat.le_refl _
  ·split at ht
   ·simp at ht
   ·rw [List.mem_singleton.1 ht, depth_str]; exact Nat.le_refl _
 omega
theorem rec_depth (r : Rec) : depth (recT r) ≤ 80 := by
 unfold recT
 rw [depth]
 have h1 : depths (r.ch.map chgT) ≤ 1 := depths_le fun t ht => by
  obtain ⟨c, _, rfl⟩ := List.mem_map.1 ht
  exact chg_depth c
 have : depths (recK r) ≤ 2 := by
  unfold recK numI
  simp only [depths, depth]
  omega
 omega
def SeenI (B : Bs) (X : HV) (l : List It) (vs : List (List V)) : Prop := ∀ hp L, SV B hp L → (∀ p ∈ X, p ∈ L) → ItRs ⟨hp, []⟩ l vs
theorem SeenI.nil {B : Bs} : SeenI B [] [] [] := fun _ _ _ _ => rfl
theorem itRs_app {B : Bs} : ∀ {l r : List It} {vs ws : List (List V)}, ItRs B l vs → ItRs B r ws → ItRs B (l ++ r) (vs ++ ws)
 | [], r, vs, ws, h, k => by rw [ItRs] at h; subst h; exact k
 | t :: l, r, vs, ws, h, k => by
  rw [ItRs] at h
  obtain ⟨v, us, rfl, h1, h2⟩ := h
  rw [List.cons_append, List.cons_append, ItRs]
  exact ⟨v, us ++ ws, rfl, h1, itRs_app h2 k⟩
theorem itRs_one {B : Bs} {t : It} {v : List V} (h : ItR B t v) : ItRs B [t] [v] := by
 rw [ItRs]
 exact ⟨v, [], rfl, h, rfl⟩
theorem itRs_two {B : Bs} {t t' : It} {v v' : List V} (h : ItR B t v) (h' : ItR B t' v') : ItRs B [t, t'] [v, v'] := by
 rw [ItRs]
 exact ⟨v, [v'], rfl, h, itRs_one h'⟩
theorem itRs_cons {B : Bs} {t : It} {v : List V} {r : List It} {ws : List (List V)} (h : ItR B t v) (k : ItRs B r ws) : ItRs B (t :: r) (v :: ws) := by
 rw [ItRs]
 exact ⟨v, ws, rfl, h, k⟩
theorem itR_str {B : Bs} {bs : List UInt8} {A : Option (Nat × Nat)} {n c : Nat} {o : Bool} (h : RB B A (bs.map byV)) (hn : bs.length = n) : ItR B (.str bs) [.b false, .sl A n c o, .sl none 0 0 false] := by
 subst hn
 rw [ItR]
 exact ⟨A, c, o, rfl, h⟩
theorem itR_list {B : Bs} {l : List It} {A : Option (Nat × Nat)} {n c : Nat} {o : Bool} {vs : List (List V)} (h : RB B A vs.flatten) (k : ItRs B l vs) (hn : l.length = n) : ItR B (.list l) [.b true, .sl none 0 0 false, .sl A n c o] := by
 subst hn
 rw [ItR]
 exact ⟨A, c, o, vs, rfl, h, k⟩
theorem flat_snoc {α : Type} {vs : List (List α)} {v : List α} : (vs ++ [v]).flatten = vs.flatten ++ v := by simp
set_option maxHeartbeats 32000000 in
theorem jbody_d {r : Rec} {v : List V} {hp : Hp} (ho : OkH hp) (hk : KTab ⟨hp, []⟩) (hr : RecR ⟨hp, []⟩ r v) :
  Fn kxD 12 [.agg v] hp [] fun r' N => ∃ u, r' = .v u ∧ ((mayR r → ∃ w, u = .tup [w, .i .i64 0] ∧ RowK (bodyB r) w N) ∧ (¬ mayR r → u = .tup [.sl none 0 0 false, .i .i64 2] ∧ N = [])) := by
 have hr0 := hr
 obtain ⟨hok, A, c, o, vs, rfl, hA, hvs⟩ := hr
 have hC : (recC r (.sl A r.ch.length c o)).length = 68 := recC_len hok
 have hrl := hok.len
 have hch : (recC r (.sl A r.ch.length c o))[0 + 67]? = some (.sl A r.ch.length c o) := by rw [Nat.zero_add]; exact recC_ch hok
 refine Fn.dropC ?_
 refine fn_of_w (T := []) ho.sv (fun _ => rfl) (fn := Tryz.f12) (by kernel_rfl) rfl rfl ?_
 refine wo ?_
 apply p_op; exact (vwant_n rfl); iterate 4 exact rfl
 refine ev_box rfl rfl fun bx => ⟨_, rfl, ?_⟩
 refine wo ?_
 refine zX (m_ldln (s := 67) (cs := recC r (.sl A r.ch.length c o)) rfl (by rw [List.drop_zero]; exact List.take_of_length_le (by omega)) hC) ?_
 refine p_callq (vwant_n rfl) rfl rfl rfl rfl (fun hp hs => jmay_d hs.ok (hk.give0 hs) (hr0.give0 hs)) ?_
 by_cases hm : mayR r
 rotate_left
 ·rw [decide_eq_false hm]
  refine wo ?_
  exact w_ret (wend_ret (vres2 (rv_tmp rfl) (rv_tmp rfl)) ⟨[], cle, _, rfl, fun h => absurd h hm, fun _ => ⟨rfl, rfl⟩⟩)
 rw [decide_eq_true hm]
 have h32 := hm.2.2.2.2.2.1
 refine wo ?_
 apply wn; iterate 5 exact rfl
 refine p_buildS (C := [.b true, .sl none 0 0 false, .sl none 0 0 false]) (.cons rfl rfl rfl rfl (Nat.le_of_ble_eq_true rfl) .nil) rfl
 apply p_op; exact (vwant_n rfl); iterate 4 exact rfl
 refine e_alloc rfl fun bc => ⟨_, rfl, ?_⟩
 apply p_do; exact (vwant_n rfl); exact rfl; exact rfl
 refine e_stn (C' := [.b true, .sl none 0 0 false, .sl none 0 0 false]) rfl rfl (by simp) rfl (Nat.le_of_ble_eq_true rfl) rfl ⟨_, rfl, ?_⟩
 refine wo ?_
 refine w_seq ?_
 refine wo ?_
 refine zX (m_ldl rfl hch) ?_
 refine wo ?_
 refine w_loop (ι := Nat × V × HV × HV × List (List V)) (fun s => [(18, .i .i64 (s.1 : Nat)), (17, .i .i64 (r.ch.length : Nat)), (16, .sl A r.ch.length c o), (4, .p (some (bc, 0))), (1, .p (some (bx, 0)))]) (fun s => (some bc, cellsO [.b true, .sl none 0 0 false, s.2.1] 95) :: (some bx, cellsO (recC r (.sl A r.ch.length c o)) 26) :: (s.2.2.1 ++ s.2.2.2.1)) (fun s => s.1 ≤ r.ch.length ∧ RowG 95 3 s.1 s.2.2.2.2.flatten s.2.1 s.2.2.1 ∧ SeenI ⟨hp, []⟩ s.2.2.2.1 ((r.ch.take s.1).map chgT) s.2.2.2.2) (fun s => r.ch.length - s.1) (0, .sl none 0 0 false, [], [], []) ⟨Nat.zero_le _, .nil, SeenI.nil⟩ ⟨rfl, rfl, rfl, rfl, rfl, trivial⟩ (fun hp h => h) ?_
 intro ⟨i, w, N, X, us⟩ ⟨hi, hw, hX⟩
 dsimp only at hi hw hX ⊢
 obtain ⟨Aw, ow, rfl⟩ := hw.sl
 refine wo ?_
 by_cases g : i < r.ch.length
 ·obtain ⟨b, oa, vi, rfl, hvi, hti, h3, hne⟩ := ch_at hA hvs g
  obtain ⟨A1, kc, ko, A2, vc, vo, rfl, hk1, hk2⟩ := hti
  apply wm; iterate 5 exact rfl
  refine mv_int (v := .b true) rfl rfl (vi_lssT (by omega))
  refine wo ?_
  apply wn; iterate 5 exact rfl
  refine p_ian rfl rfl g
  apply wm; iterate 5 exact rfl
  refine m_ldnN (j := i * 3) (s := 2) rfl hA.1 hA.2 rfl hvi h3
  apply p_op; exact (vwant_n rfl); iterate 4 exact rfl
  refine e_alloc rfl fun bi => ⟨_, rfl, ?_⟩
  apply p_do; exact (vwant_n rfl); exact rfl; exact rfl
  refine e_stn (C' := [.sl A1 r.ch[i].key.length kc ko, .sl A2 r.ch[i].val.length vc vo, .b r.ch[i].gone]) rfl rfl hne h3 (Nat.le_of_ble_eq_true rfl) rfl ⟨_, rfl, ?_⟩
  refine wo ?_
  refine p_callq (vwant_n rfl) rfl rfl rfl rfl (fun hp hs => jtext_d hs.ok) ?_
  apply p_op; exact (vwant_n rfl); iterate 4 exact rfl
  refine e_bsn (C := [.b false, .sl A1 r.ch[i].key.length kc ko, .sl none 0 0 false]) (n := 1) (sz := 3) rfl rfl (by decide) (.cons rfl rfl rfl .nil) rfl rfl fun b1 => ⟨_, rfl, ?_⟩
  apply wn; iterate 5 exact rfl
  refine p_buildS (C := [.b true, .sl none 0 0 false, .sl (some (b1, 0)) 1 1 false]) (.cons rfl rfl rfl rfl (Nat.le_of_ble_eq_true rfl) (.cons rfl rfl rfl rfl (Nat.le_of_ble_eq_true rfl) .nil)) rfl
  apply p_op; exact (vwant_n rfl); iterate 4 exact rfl
  refine e_alloc rfl fun b2 => ⟨_, rfl, ?_⟩
  apply p_do; exact (vwant_n rfl); exact rfl; exact rfl
  refine e_stn (C' := [.b true, .sl none 0 0 false, .sl (some (b1, 0)) 1 1 false]) rfl rfl (by simp) rfl (Nat.le_of_ble_eq_true rfl) rfl ⟨_, rfl, ?_⟩
  refine wo ?_
  by_cases gg : r.ch[i].gone = true
  ·rw [gg]
   refine wo ?_
   refine zX (m_ldln (s := 2) (cs := [.b true, .sl none 0 0 false, .sl (some (b1, 0)) 1 1 false]) rfl rfl rfl) ?_
   apply p_op; exact (vwant_n rfl); iterate 4 exact rfl
   refine e_bsn (C := [.b true, .sl none 0 0 false, .sl (some (b1, 0)) 1 1 false]) (n := 1) (sz := 3) rfl rfl (by decide) (.cons rfl rfl rfl .nil) rfl rfl fun b3 => ⟨_, rfl, ?_⟩
   apply p_op; exact (vwant_n rfl); iterate 4 exact rfl
   refine e_appN (n := 1) hw rfl rfl (rz_loc (k := 3) rfl) rfl (by decide) (by omega) fun A3 o3 N3 hw3 => ⟨_, rfl, ?_⟩
   refine wo ?_
   apply p_do; exact (vwant_n rfl); exact rfl; exact rfl
   refine e_st (C' := [.b true, .sl none 0 0 false, .sl A3 (i + 1) (i + 1) o3]) rfl rfl rfl (Nat.le_of_ble_eq_true rfl) rfl ⟨_, rfl, ?_⟩
   refine wo ?_
   refine ⟨rfl, (i + 1, .sl A3 (i + 1) (i + 1) o3, N3, (some b1, cellsO [.b false, .sl A1 r.ch[i].key.length kc ko, .sl none 0 0 false] 95) :: X, us ++ [[.b true, .sl none 0 0 false, .sl (some (b1, 0)) 1 1 false]]), ⟨g, by rw [flat_snoc]; exact hw3, fun hp L hs hm => ?_⟩, by dsimp only; omega, ⟨rfl, rfl, rfl, rfl, rfl, trivial⟩, fun hp h => h.le⟩
   rw [List.take_succ_eq_append_getElem g, List.map_append]
   refine itRs_app (hX hp L hs fun p hp => hm p (List.mem_cons_of_mem _ hp)) (itRs_one ?_)
   obtain ⟨j, hj⟩ := List.getElem?_of_mem (hm _ List.mem_cons_self)
   unfold chgT chgK
   rw [if_pos gg, ItR]
   refine ⟨_, _, _, [[.b false, .sl A1 r.ch[i].key.length kc ko, .sl none 0 0 false]], rfl, rb_own0 hs hj rfl, itRs_one ?_⟩
   rw [ItR]
   exact ⟨_, _, _, rfl, hk1.give0 hs⟩
  ·have gg' : r.ch[i].gone = false := by simpa using gg
   rw [gg']
   refine wo ?_
   refine d_callq (vwant_n rfl) (by decide +kernel) rfl rfl rfl rfl (fun hp hs => jtext_d hs.ok) ?_
   apply d_op; exact (vwant_n rfl); exact rfl; exact noRd rfl; decide +kernel; (iterate 3 exact rfl); rotate_left
   refine e_bsn (C := [.b false, .sl A2 r.ch[i].val.length vc vo, .sl none 0 0 false]) (n := 1) (sz := 3) rfl rfl (by decide) (.cons rfl rfl rfl .nil) rfl rfl fun b3 => ⟨_, rfl, ?_⟩
   try (case hok => exact rdOk_nil)
   apply d_op; exact (vwant_n rfl); exact rfl; exact noRd rfl; decide +kernel; (iterate 3 exact rfl); rotate_left
   refine e_appN (n := 1) (RowG.lit (C := [.b false, .sl A1 r.ch[i].key.length kc ko, .sl none 0 0 false]) (n := 1) rfl) rfl rfl (rz_loc (k := 3) rfl) rfl (by decide) (by decide) fun A3 o3 N3 hw3 => ⟨_, rfl, ?_⟩
   try (case hok => exact rdOk_b (by decide +kernel))
   refine wo ?_
   apply d_do; exact (vwant_n rfl); exact rfl; exact noRd rfl; decide +kernel; exact rfl; rotate_left
   refine e_st (C' := [.b true, .sl none 0 0 false, .sl A3 (1 + 1) (1 + 1) o3]) rfl rfl rfl (Nat.le_of_ble_eq_true rfl) rfl ⟨_, rfl, ?_⟩
   try (case hok => exact rdOk_b (by decide +kernel))
   refine wo ?_
   refine zX (m_ldln (s := 2) (cs := [.b true, .sl none 0 0 false, .sl A3 (1 + 1) (1 + 1) o3]) rfl rfl rfl) ?_
   apply p_op; exact (vwant_n rfl); iterate 4 exact rfl
   refine e_bsn (C := [.b true, .sl none 0 0 false, .sl A3 (1 + 1) (1 + 1) o3]) (n := 1) (sz := 3) rfl rfl (by decide) (.cons rfl rfl rfl .nil) rfl rfl fun b4 => ⟨_, rfl, ?_⟩
   apply p_op; exact (vwant_n rfl); iterate 4 exact rfl
   refine e_appN (n := 1) hw rfl rfl (rz_loc (k := 3) rfl) rfl (by decide) (by omega) fun A4 o4 N4 hw4 => ⟨_, rfl, ?_⟩
   refine wo ?_
   apply p_do; exact (vwant_n rfl); exact rfl; exact rfl
   refine e_st (C' := [.b true, .sl none 0 0 false, .sl A4 (i + 1) (i + 1) o4]) rfl rfl rfl (Nat.le_of_ble_eq_true rfl) rfl ⟨_, rfl, ?_⟩
   refine wo ?_
   refine ⟨rfl, (i + 1, .sl A4 (i + 1) (i + 1) o4, N4, N3 ++ X, us ++ [[.b true, .sl none 0 0 false, .sl A3 (1 + 1) (1 + 1) o3]]), ⟨g, by rw [flat_snoc]; exact hw4, fun hp L hs hm => ?_⟩, by dsimp only; omega, ⟨rfl, rfl, rfl, rfl, rfl, trivial⟩, fun hp h => h.le⟩
   rw [List.take_succ_eq_append_getElem g, List.map_append]
   refine itRs_app (hX hp L hs fun p hp => hm p (List.mem_append_right _ hp)) (itRs_one ?_)
   unfold chgT chgK
   rw [if_neg gg, ItR]
   refine ⟨_, _, _, [[.b false, .sl A1 r.ch[i].key.length kc ko, .sl none 0 0 false], [.b false, .sl A2 r.ch[i].val.length vc vo, .sl none 0 0 false]], rfl, ?_, itRs_two ?_ ?_⟩
   ·cases hw3 with
    | own h hl =>
     obtain ⟨j, hj⟩ := List.getElem?_of_mem (hm _ (List.mem_append_left _ List.mem_cons_self))
     exact rb_own0 hs hj rfl
   ·rw [ItR]
    exact ⟨_, _, _, rfl, hk1.give0 hs⟩
   ·rw [ItR]
    exact ⟨_, _, _, rfl, hk2.give0 hs⟩
 apply wm; iterate 5 exact rfl
 refine mv_int (v := .b false) rfl rfl (vi_lssF (by omega))
 refine wo ?_
 refine w_exit ?_
 obtain rfl : i = r.ch.length := by omega
 rw [List.take_length] at hX
 obtain ⟨k, hkk⟩ : ∃ k : Nat, r.kind = (k : Int) := ⟨r.kind.toNat, by have := mayR_kind hm; omega⟩
 obtain ⟨n, hn⟩ : ∃ n : Nat, r.count = (n : Int) := ⟨r.count.toNat, by have := hm.2.1; omega⟩
 obtain ⟨q, hq⟩ : ∃ q : Nat, r.seq = (q : Int) := ⟨r.seq.toNat, by have := hm.2.2.1; omega⟩
 have b1 := mayR_kind hm
 have b2 := hm.2.1
 have b3 := hm.2.2.1
 refine wo ?_
 rw [hkk]
 apply d_callY []; exact (vwant_n rfl); decide +kernel; (iterate 4 exact rfl)
 try (case hok => exact rdOk_nil)
 case hC => exact (fun hp hs ht => jnumber_d (n := k) hs.ok (by omega))
 rintro u1 N1 ⟨w1, rfl, hu1⟩
 refine wo ?_
 rw [hn]
 apply d_callY []; exact (vwant_n rfl); decide +kernel; (iterate 4 exact rfl)
 try (case hok => exact rdOk_nil)
 case hC => exact (fun hp hs ht => jnumber_d (n := n) hs.ok (by omega))
 rintro u2 N2 ⟨w2, rfl, hu2⟩
 refine wo ?_
 rw [hq]
 apply d_callY []; exact (vwant_n rfl); decide +kernel; (iterate 4 exact rfl)
 try (case hok => exact rdOk_nil)
 case hC => exact (fun hp hs ht => jnumber_d (n := q) hs.ok (by omega))
 rintro u3 N3 ⟨w3, rfl, hu3⟩
 obtain ⟨A1, o1, rfl⟩ := hu1.sl
 obtain ⟨A2, o2, rfl⟩ := hu2.sl
 obtain ⟨A3, o3, rfl⟩ := hu3.sl
 refine wo ?_
 refine yX (m_slaw rfl) ?_
 refine d_callq (vwant_n rfl) (by decide +kernel) rfl rfl rfl rfl (fun hp hs => jtext_d hs.ok) ?_
 refine wo ?_
 refine yX (m_slaw rfl) ?_
 refine d_callq (vwant_n rfl) (by decide +kernel) rfl rfl rfl rfl (fun hp hs => jtext_d hs.ok) ?_
 refine wo ?_
 refine yX (m_ldln (s := 2) (cs := [.b true, .sl none 0 0 false, .sl Aw r.ch.length r.ch.length ow]) rfl rfl rfl) ?_
 apply d_op; exact (vwant_n rfl); exact rfl; exact noRd rfl; decide +kernel; (iterate 3 exact rfl); rotate_left
 refine e_bsn (C := [.b false, .sl A1 (shortB k).length (shortB k).length o1, .sl none 0 0 false, .b false, .sl A2 (shortB n).length (shortB n).length o2, .sl none 0 0 false, .b false, .sl A3 (shortB q).length (shortB q).length o3, .sl none 0 0 false, .b false, .sl (some (bx, 0 + 3)) 32 32 false, .sl none 0 0 false, .b false, .sl (some (bx, 0 + 35)) 32 32 false, .sl none 0 0 false, .b true, .sl none 0 0 false, .sl Aw r.ch.length r.ch.length ow]) (n := 6) (sz := 3) rfl rfl (by decide) (.cons rfl rfl rfl (.cons rfl rfl rfl (.cons rfl rfl rfl (.cons rfl rfl rfl (.cons rfl rfl rfl (.cons rfl rfl rfl .nil)))))) rfl rfl fun bl => ⟨_, rfl, ?_⟩
 try (case hok => exact rdOk_nil)
 refine wo ?_
 apply wn; iterate 5 exact rfl
 refine p_buildS (C := [.b true, .sl none 0 0 false, .sl (some (bl, 0)) 6 6 false]) (.cons rfl rfl rfl rfl (Nat.le_of_ble_eq_true rfl) (.cons rfl rfl rfl rfl (Nat.le_of_ble_eq_true rfl) .nil)) rfl
 have e1 : r.kind.toNat = k := by rw [hkk]; rfl
 have e2 : r.count.toNat = n := by rw [hn]; rfl
 have e3 : r.seq.toNat = q := by rw [hq]; rfl
 have hit : ∀ (hp' : Hp), SV ⟨hp, []⟩ hp' ([] ++ ((some bl, cellsO [.b false, .sl A1 (shortB k).length (shortB k).length o1, .sl none 0 0 false, .b false, .sl A2 (shortB n).length (shortB n).length o2, .sl none 0 0 false, .b false, .sl A3 (shortB q).length (shortB q).length o3, .sl none 0 0 false, .b false, .sl (some (bx, 0 + 3)) 32 32 false, .sl none 0 0 false, .b false, .sl (some (bx, 0 + 35)) 32 32 false, .sl none 0 0 false, .b true, .sl none 0 0 false, .sl Aw r.ch.length r.ch.length ow] 95) :: (N3 ++ (N2 ++ (N1 ++ ((some bc, cellsO [.b true, .sl none 0 0 false, .sl Aw r.ch.length r.ch.length ow] 95) :: (some bx, cellsO (recC r (.sl A r.ch.length c o)) 26) :: (N ++ X))))))) → ItR ⟨hp', []⟩ (recT r) [.b true, .sl none 0 0 false, .sl (some (bl, 0)) 6 6 false] := fun hp' hs => by
  obtain ⟨j, hj⟩ := List.getElem?_of_mem (show (some bx, cellsO (recC r (.sl A r.ch.length c o)) 26) ∈ _ from List.mem_cons_of_mem _ (List.mem_append_right N3 (List.mem_append_right N2 (List.mem_append_right N1 (List.mem_cons_of_mem (some bc, cellsO [.b true, .sl none 0 0 false, .sl Aw r.ch.length r.ch.length ow] 95) (List.mem_cons_self (l := N ++ X)))))))
  refine itR_list (vs := [[.b false, .sl A1 (shortB k).length (shortB k).length o1, .sl none 0 0 false], [.b false, .sl A2 (shortB n).length (shortB n).length o2, .sl none 0 0 false], [.b false, .sl A3 (shortB q).length (shortB q).length o3, .sl none 0 0 false], [.b false, .sl (some (bx, 0 + 3)) 32 32 false, .sl none 0 0 false], [.b false, .sl (some (bx, 0 + 35)) 32 32 false, .sl none 0 0 false], [.b true, .sl none 0 0 false, .sl Aw r.ch.length r.ch.length ow]]) (rb_own0 hs (i := 0) rfl rfl) ?_ rfl
  unfold recK numI
  rw [e1, e2, e3]
  refine itRs_cons (itR_str (hu1.rb (Lt := []) hs) rfl) (itRs_cons (itR_str (hu2.rb (Lt := []) hs) rfl) (itRs_cons (itR_str (hu3.rb (Lt := []) hs) rfl) (itRs_cons (itR_str (rb_own0 hs hj ?_) hok.prev) (itRs_cons (itR_str (rb_own0 hs hj ?_) hok.root) (itRs_one (itR_list (hw.rb (Lt := []) hs) (hX hp' _ hs fun p hp => by simp [hp]) (by rw [List.length_map])))))))
  ·rw [List.length_map, hok.prev]
   exact recC_prev hok
  ·rw [List.length_map, hok.root]
   exact recC_root hok
 apply p_callY []; exact (vwant_n rfl); iterate 4 exact rfl
 case hC => exact (fun hp hs ht => encode_d (t := recT r) hs.ok (hit hp hs) (rec_depth r) (by have := body_len hok hm; unfold bodyB at this; omega))
 rintro u5 N5 ⟨w5, rfl, hu5⟩
 obtain ⟨A5, o5, rfl⟩ := hu5.sl
 refine wo ?_
 apply wm; iterate 5 exact rfl
 refine mv_int (v := .b false) rfl rfl (vi_neqF ((by simp)))
 refine wo ?_
 exact w_ret (wend_ret (vres2 (rv_tmp rfl) (rv_tmp rfl)) ⟨N5, cle, _, rfl, fun _ => ⟨_, rfl, hu5⟩, fun h => absurd hm h⟩)
end Go.Proofs.YtbmkclbghfbegaaGreatDoor
/- Js8: the document's body of a record. By this project. -/
set_option maxRecDepth 100000
namespace Go.Proofs.YtbmkclbghfbegaaGreatDoor
open Go.RowKit Go.Extern.Stop
set_option maxHeartbeats 4000000 in
theorem number19_d {n : Nat} {hp : Hp} (ho : OkH hp) (hn : n < 9223372036854775808) :
  Fn kxD 38 [.i .i64 (n : Int)] hp [] fun r N => ∃ u, r = .v u ∧ RowK (shortB n) u N := by
 have h8 := shortB_8 (n := n) (by omega)
 refine fn_of_w (T := []) ho.sv (fun _ => rfl) (fn := Tryz.f38) (by kernel_rfl) rfl rfl ?_
 refine wo ?_
 refine w_seq ?_
 refine wo ?_
 refine w_loop (ι := Nat × List UInt8 × V × HV) (fun s => [(3, s.2.2.1), (0, .i .i64 (s.1 : Int))]) (fun s => s.2.2.2) (fun s => s.1 ≤ n ∧ shortB n = shortB s.1 ++ s.2.1 ∧ RowK s.2.1 s.2.2.1 s.2.2.2) (fun s => s.1) (n, [], .sl none 0 0 false, []) ⟨Nat.le_refl _, (List.append_nil _).symm, .nil⟩ ⟨rfl, rfl, trivial⟩ (fun hp h => h) ?_
 intro ⟨m, acc, u, N⟩ ⟨h1, h2, h3⟩
 dsimp only at h1 h2 h3 ⊢
 obtain ⟨A, op, rfl⟩ := h3.sl
 have h4 : acc.length ≤ 8 := by
  have := congrArg List.length h2
  rw [List.length_append] at this
  omega
 refine wo ?_
 by_cases g : 0 < m
 ·apply wm; iterate 5 exact rfl
  refine mv_int (v := .b true) rfl rfl (vi_gtrT (by omega))
  refine wo ?_
  apply wm; iterate 5 exact rfl
  refine m_remN rfl rfl (by decide)
  apply wm; iterate 5 exact rfl
  refine m_convB rfl
  have e256 : UInt8.ofNat (m % 256) = UInt8.ofNat m := by rw [← UInt8.toNat_inj]; simp
  rw [e256]
  apply p_op; exact (vwant_n rfl); iterate 4 exact rfl
  refine e_bs (C := [byV (UInt8.ofNat m)]) rfl rfl (.cons rfl rfl .nil) rfl fun b1 => ⟨_, rfl, ?_⟩
  refine wo ?_
  apply p_op; exact (vwant_n rfl); iterate 4 exact rfl
  refine e_appW (RowU.lit1 (y := UInt8.ofNat m)) rfl rfl h3.src rfl u8_one (by show 1 + acc.length ≤ _; omega) fun A' m' op' N' hu' hm' => ⟨_, rfl, ?_⟩
  refine wo ?_
  apply wm; iterate 5 exact rfl
  refine m_quoN rfl rfl (by decide) (by omega)
  refine wo ?_
  refine ⟨rfl, (m / 256, UInt8.ofNat m :: acc, _, N'), ⟨Nat.le_trans (Nat.div_le_self _ _) h1, ?_, hu'⟩, Nat.div_lt_self g (by decide), ⟨rfl, rfl, trivial⟩, fun hp h => h.headL⟩
  rw [h2, shortB_pos g, List.append_assoc]
  rfl
 ·apply wm; iterate 5 exact rfl
  refine mv_int (v := .b false) rfl rfl (vi_gtrF (by omega))
  refine wo ?_
  refine w_exit ?_
  obtain rfl : m = 0 := by omega
  rw [shortB_zero, List.nil_append] at h2
  refine wo ?_
  exact w_ret (wend_ret (vres1 (rv_tmp rfl)) ⟨_, rfl, by rw [h2]; exact h3⟩)
set_option maxHeartbeats 4000000 in
theorem headed_d {A : Option (Nat × Nat)} {xs : List UInt8} {base : UInt8} {c : Nat} {op : Bool} {hp : Hp} (ho : OkH hp) (hA : RB ⟨hp, []⟩ A (xs.map byV)) (hl : xs.length ≤ 1073741824) :
  Fn kxD 37 [byV base, .sl A xs.length c op] hp [] fun r N => ∃ u, r = .v u ∧ RowK (headB base xs.length ++ xs) u N := by
 have h8 := shortB_8 (n := xs.length) (by omega)
 refine Fn.dropC ?_
 refine fn_of_w (T := []) ho.sv (fun _ => rfl) (fn := Tryz.f37) (by kernel_rfl) rfl rfl ?_
 refine wo ?_
 by_cases g : xs.length < 56
 ·have e : headB base xs.length = [base + UInt8.ofNat xs.length] := if_pos g
  rw [e]
  apply wm; iterate 5 exact rfl
  refine mv_int (v := .b true) rfl rfl (vi_lssT (by omega))
  refine wo ?_
  apply wm; iterate 5 exact rfl
  refine m_convB rfl
  apply wm; iterate 5 exact rfl
  refine m_addB rfl rfl
  apply p_op; exact (vwant_n rfl); iterate 4 exact rfl
  refine e_bs (C := [byV (base + UInt8.ofNat xs.length)]) rfl rfl (.cons rfl rfl .nil) rfl fun b1 => ⟨_, rfl, ?_⟩
  refine wo ?_
  apply p_op; exact (vwant_n rfl); iterate 4 exact rfl
  refine e_appW (RowU.lit1 (y := base + UInt8.ofNat xs.length)) rfl rfl hA.z rfl u8_one (by show 1 + _ ≤ _; omega) fun A' m' op' N' hu' hm' => ⟨_, rfl, ?_⟩
  refine wo ?_
  exact w_ret (wend_ret (vres1 (rv_tmp rfl)) ⟨N', cle, _, rfl, hu'⟩)
 ·have e : headB base xs.length = (base + 55 + UInt8.ofNat (shortB xs.length).length) :: shortB xs.length := if_neg g
  rw [e]
  apply wm; iterate 5 exact rfl
  refine mv_int (v := .b false) rfl rfl (vi_lssF (by omega))
  refine wo ?_
  apply p_callY []; exact (vwant_n rfl); iterate 4 exact rfl
  case hC => exact (fun hp hs ht => number19_d hs.ok (by omega))
  rintro u N hu
  obtain ⟨A', op', rfl⟩ := hu.sl
  refine wo ?_
  apply wm; iterate 5 exact rfl
  refine m_addB (y := 55) rfl rfl
  refine wo ?_
  apply wm; iterate 5 exact rfl
  refine m_convB rfl
  apply wm; iterate 5 exact rfl
  refine m_addB rfl rfl
  apply p_op; exact (vwant_n rfl); iterate 4 exact rfl
  refine e_bs (C := [byV (base + 55 + UInt8.ofNat (shortB xs.length).length)]) rfl rfl (.cons rfl rfl .nil) rfl fun b1 => ⟨_, rfl, ?_⟩
  refine wo ?_
  apply p_op; exact (vwant_n rfl); iterate 4 exact rfl
  refine e_appW (RowU.lit1 (y := base + 55 + UInt8.ofNat (shortB xs.length).length)) rfl rfl hu.src rfl u8_one (by show 1 + _ ≤ _; omega) fun A1 m1 op1 N1 hu1 hm1 => ⟨_, rfl, ?_⟩
  refine wo ?_
  apply p_op; exact (vwant_n rfl); iterate 4 exact rfl
  refine e_appW hu1 rfl rfl hA.z rfl u8_one (by simp only [List.length_append, List.length_cons, List.length_nil]; omega) fun A2 m2 op2 N2 hu2 hm2 => ⟨_, rfl, ?_⟩
  refine wo ?_
  exact w_ret (wend_ret (vres1 (rv_tmp rfl)) ⟨N2, cle, _, rfl, hu2⟩)
set_option maxHeartbeats 4000000 in
theorem text19_d {A : Option (Nat × Nat)} {xs : List UInt8} {c : Nat} {op : Bool} {hp : Hp} (ho : OkH hp) (hA : RB ⟨hp, []⟩ A (xs.map byV)) (hl : xs.length ≤ 1073741824) :
  Fn kxD 36 [.sl A xs.length c op] hp [] fun r N => ∃ u, r = .v u ∧ RowK (strB xs) u N := by
 refine Fn.dropC ?_
 refine fn_of_w (T := []) ho.sv (fun _ => rfl) (fn := Tryz.f36) (by kernel_rfl) rfl rfl ?_
 refine wo ?_
 by_cases g1 : xs.length = 1
 ·obtain ⟨y, rfl⟩ := List.length_eq_one_iff.1 g1
  obtain ⟨b, oa, rfl⟩ := rb_one hA
  apply wm; iterate 5 exact rfl
  refine mv_int (v := .b true) rfl rfl (vi_eqlT (rfl))
  refine wo ?_
  apply wg; iterate 7 exact rfl
  refine p_ia (i := 0) rfl rfl Nat.one_pos
  apply wmg; iterate 7 exact rfl
  refine m_ldN (j := 0) (v := byV y) rfl hA.1 hA.2 rfl rfl
  by_cases g2 : y.toNat < 128
  ·rw [strB_one g2]
   apply wmg; iterate 7 exact rfl
   refine mv_int (v := .b true) rfl rfl (vi_lssT ((by show Int.ofNat y.toNat < 128; simp; omega)))
   refine wo ?_
   apply wn; iterate 5 exact rfl
   refine p_ia (i := 0) rfl rfl Nat.one_pos
   apply wm; iterate 5 exact rfl
   refine m_ldN (j := 0) (v := byV y) rfl hA.1 hA.2 rfl rfl
   apply p_op; exact (vwant_n rfl); iterate 4 exact rfl
   refine e_bs (C := [byV y]) rfl rfl (.cons rfl rfl .nil) rfl fun b1 => ⟨_, rfl, ?_⟩
   refine wo ?_
   exact w_ret (wend_ret (vres1 (rv_tmp rfl)) ⟨_, fun a => Nat.le_refl _, _, rfl, RowU.lit1⟩)
  ·rw [strB_big g2]
   apply wmg; iterate 7 exact rfl
   refine mv_int (v := .b false) rfl rfl (vi_lssF ((by show ¬ Int.ofNat y.toNat < 128; simp; omega)))
   refine wo ?_
   apply p_callY []; exact (vwant_n rfl); iterate 4 exact rfl
   case hC => exact (fun hp hs ht => headed_d (xs := [y]) (base := 128) hs.ok (hA.give0 hs) hl)
   rintro u N hu
   refine wo ?_
   exact w_ret (wend_ret (vres1 (rv_tmp rfl)) ⟨N, cle, _, rfl, hu⟩)
 ·rw [strB_else g1]
  apply wm; iterate 5 exact rfl
  refine mv_int (v := .b false) rfl rfl (vi_eqlF (by omega))
  refine wo ?_
  apply p_callY []; exact (vwant_n rfl); iterate 4 exact rfl
  case hC => exact (fun hp hs ht => headed_d (base := 128) hs.ok (hA.give0 hs) hl)
  rintro u N hu
  refine wo ?_
  exact w_ret (wend_ret (vres1 (rv_tmp rfl)) ⟨N, cle, _, rfl, hu⟩)
theorem mayC_ref {c : Chg} : mayC c ↔ c.key.length ≤ 32 ∧ c.val.length ≤ 256 ∧ c.gone = decide (c.val.length = 0) := by
 unfold mayC
 cases c.gone with
 | true =>
  rw [if_pos rfl]
  constructor
  ·rintro ⟨h1, h2⟩
   exact ⟨h1, by omega, by rw [decide_eq_true h2]⟩
  ·rintro ⟨h1, h2, h3⟩
   exact ⟨h1, of_decide_eq_true h3.symm⟩
 | false =>
  rw [if_neg (by simp)]
  constructor
  ·rintro ⟨h1, h2⟩
   exact ⟨h1, h2.2, by rw [decide_eq_false (by omega)]⟩
  ·rintro ⟨h1, h2, h3⟩
   have := of_decide_eq_false h3.symm
   exact ⟨h1, by omega, h2⟩
theorem w_cutS {K : Kx} {nt : Nat} {hp0 : Bs} {l : VL} {df : DL} {L : HV} {Q : WQ} {x y : Code} (F : VL) (H : HV) (P : Prop) (h : WG K nt hp0 x l df L (wthen (fun l' df' L' => P ∧ df' = df ∧ SubV l' F ∧ ∀ hp, SV hp0 hp L' → SV hp0 hp H) Q)) (hk : P → WG K nt hp0 y F df H Q) : WG K nt hp0 (.seq x y) l df L Q := w_cut _ h (fun l' df' L' ⟨h1, h2, h3, h4⟩ => by
 subst h2
 exact w_heap h4 (w_sub h3 (hk h1)))
set_option maxHeartbeats 16000000 in
theorem may19_d {r : Rec} {v : List V} {hp : Hp} (ho : OkH hp) (hr : RecR ⟨hp, []⟩ r v) :
  Fn kxD 35 [.agg v] hp [] fun r' _ => r' = .v (.b (decide (mayR r))) := by
 obtain ⟨hok, A, c, o, vs, rfl, hA, hvs⟩ := hr
 have hC : (recC r (.sl A r.ch.length c o)).length = 68 := recC_len hok
 have hrl := hok.len
 have hch : (recC r (.sl A r.ch.length c o))[0 + 67]? = some (.sl A r.ch.length c o) := by rw [Nat.zero_add]; exact recC_ch hok
 refine fn_of_w (T := []) ho.sv (fun _ => rfl) (fn := Tryz.f35) (by kernel_rfl) rfl rfl ?_
 refine wo ?_
 apply p_op; exact (vwant_n rfl); iterate 4 exact rfl
 refine ev_box rfl rfl fun bx => ⟨_, rfl, ?_⟩
 repeat (first | ((first | (apply wn; iterate 5 exact rfl) | (apply dn; iterate 5 exact rfl) | (apply wg; iterate 7 exact rfl) | (apply dg; iterate 7 exact rfl)); first | (apply pv_move; exact rfl) | (apply pv_assign; exact rfl) | (apply pv_nilc; exact rfl) | (apply pv_ext; exact rfl; exact rfl) | (apply p_fa; exact rfl) | (apply pv_not; exact rfl) | (apply pv_pickT; exact rfl; exact rfl) | (apply pv_pickF; exact rfl; exact rfl)) | ((first | (apply wm; iterate 5 exact rfl) | (apply dm; iterate 6 exact rfl) | (apply wmg; iterate 7 exact rfl) | (apply dmg; iterate 8 exact rfl)); first | (apply m_len; exact rfl) | exact mv_addN rfl rfl (by omega) | exact mv_subN rfl rfl (by omega) | exact mv_mulN rfl rfl (by omega)) | (apply ww; (iterate 5 exact rfl); exact m_ldl rfl rfl) | apply wl_nil | apply w_block | apply w_region | (apply w_condT; exact rfl) | (apply w_condF; exact rfl) | apply w_skip | apply w_label | apply wd_nil | (apply w_draw; kernel_rfl) | refine dy rfl rfl rfl rfl rfl rfl (m_ldl rfl rfl) ?_ | (apply dw; (iterate 3 exact rfl); decide +kernel; (iterate 3 exact rfl); exact m_ldl rfl rfl) | (apply wi; iterate 6 exact rfl) | (apply wu; iterate 6 exact rfl) | (apply wi0; iterate 4 exact rfl) | (apply di; iterate 6 exact rfl) | (apply du; iterate 6 exact rfl) | (apply wwg; (iterate 7 exact rfl); exact m_ldl rfl rfl) | refine dyg rfl rfl rfl rfl rfl rfl rfl rfl (m_ldl rfl rfl) ?_ | (apply dwg; (iterate 5 exact rfl); decide +kernel; (iterate 3 exact rfl); exact m_ldl rfl rfl))
 refine w_cutS [(3, .b (decide (r.kind = 2))), (1, .p (some (bx, 0)))] [(some bx, cellsO (recC r (.sl A r.ch.length c o)) 26)] True ?_ fun _ => ?_
 ·refine wo ?_
  by_cases k2 : r.kind = 2
  ·apply wm; iterate 5 exact rfl
   refine mv_int (v := .b true) rfl rfl (vi_eqlT (by omega))
   refine wo ?_
   exact ⟨trivial, rfl, ⟨by rw [decide_eq_true k2]; rfl, rfl, trivial⟩, fun hp h => h⟩
  ·apply wm; iterate 5 exact rfl
   refine mv_int (v := .b false) rfl rfl (vi_eqlF (by omega))
   refine wo ?_
   exact ⟨trivial, rfl, ⟨by rw [decide_eq_false k2]; rfl, rfl, trivial⟩, fun hp h => h⟩
 refine w_cutS [(3, .b (decide (r.kind = 2))), (1, .p (some (bx, 0)))] [(some bx, cellsO (recC r (.sl A r.ch.length c o)) 26)] ((r.kind = 1 ∨ r.kind = 2) ∧ (1 ≤ r.count ∧ r.count ≤ 1099511627776) ∧ (0 ≤ r.seq ∧ r.seq ≤ r.count)) ?_ fun hB => ?_
 ·by_cases k2 : r.kind = 2
  ·rw [decide_eq_true k2]
   refine wo ?_
   apply wm; iterate 5 exact rfl
   refine mv_int (v := .b true) rfl rfl (vi_neqT (by omega))
   refine wo ?_
   by_cases q0 : r.count < 1
   ·apply wmg; iterate 7 exact rfl
    refine mv_int (v := .b true) rfl rfl (vi_lssT (by omega))
    refine wo ?_
    exact w_ret (wend_ret (vres1 (rv_tmp rfl)) (by rw [decide_eq_false (fun h : mayR r => by have := h.2.1.1; omega)]))
   apply wmg; iterate 7 exact rfl
   refine mv_int (v := .b false) rfl rfl (vi_lssF (by omega))
   refine wo ?_
   by_cases q1 : r.count > 1099511627776
   ·apply wmg; iterate 7 exact rfl
    refine mv_int (v := .b true) rfl rfl (vi_gtrT (by omega))
    refine wo ?_
    exact w_ret (wend_ret (vres1 (rv_tmp rfl)) (by rw [decide_eq_false (fun h : mayR r => by have := h.2.1.2; omega)]))
   apply wmg; iterate 7 exact rfl
   refine mv_int (v := .b false) rfl rfl (vi_gtrF (by omega))
   refine wo ?_
   by_cases q2 : r.seq < 0
   ·apply wmg; iterate 7 exact rfl
    refine mv_int (v := .b true) rfl rfl (vi_lssT (by omega))
    refine wo ?_
    exact w_ret (wend_ret (vres1 (rv_tmp rfl)) (by rw [decide_eq_false (fun h : mayR r => by have := h.2.2.1.1; omega)]))
   apply wmg; iterate 7 exact rfl
   refine mv_int (v := .b false) rfl rfl (vi_lssF (by omega))
   refine wo ?_
   refine wo ?_
   by_cases q3 : r.seq > r.count
   ·apply wmg; iterate 7 exact rfl
    refine mv_int (v := .b true) rfl rfl (vi_gtrT (by omega))
    refine wo ?_
    exact w_ret (wend_ret (vres1 (rv_tmp rfl)) (by rw [decide_eq_false (fun h : mayR r => by have := h.2.2.1.2; omega)]))
   apply wmg; iterate 7 exact rfl
   refine mv_int (v := .b false) rfl rfl (vi_gtrF (by omega))
   refine wo ?_
   exact ⟨⟨by omega, by omega, by omega⟩, rfl, ⟨rfl, rfl, trivial⟩, fun hp h => h⟩
  ·rw [decide_eq_false k2]
   refine wo ?_
   by_cases k1 : r.kind = 1
   rotate_left
   ·apply wm; iterate 5 exact rfl
    refine mv_int (v := .b true) rfl rfl (vi_neqT (by omega))
    refine wo ?_
    exact w_ret (wend_ret (vres1 (rv_tmp rfl)) (by rw [decide_eq_false (fun h : mayR r => by have := h.1; omega)]))
   apply wm; iterate 5 exact rfl
   refine mv_int (v := .b false) rfl rfl (vi_neqF (by omega))
   refine wo ?_
   by_cases q0 : r.count < 1
   ·apply wmg; iterate 7 exact rfl
    refine mv_int (v := .b true) rfl rfl (vi_lssT (by omega))
    refine wo ?_
    exact w_ret (wend_ret (vres1 (rv_tmp rfl)) (by rw [decide_eq_false (fun h : mayR r => by have := h.2.1.1; omega)]))
   apply wmg; iterate 7 exact rfl
   refine mv_int (v := .b false) rfl rfl (vi_lssF (by omega))
   refine wo ?_
   by_cases q1 : r.count > 1099511627776
   ·apply wmg; iterate 7 exact rfl
    refine mv_int (v := .b true) rfl rfl (vi_gtrT (by omega))
    refine wo ?_
    exact w_ret (wend_ret (vres1 (rv_tmp rfl)) (by rw [decide_eq_false (fun h : mayR r => by have := h.2.1.2; omega)]))
   apply wmg; iterate 7 exact rfl
   refine mv_int (v := .b false) rfl rfl (vi_gtrF (by omega))
   refine wo ?_
   by_cases q2 : r.seq < 0
   ·apply wmg; iterate 7 exact rfl
    refine mv_int (v := .b true) rfl rfl (vi_lssT (by omega))
    refine wo ?_
    exact w_ret (wend_ret (vres1 (rv_tmp rfl)) (by rw [decide_eq_false (fun h : mayR r => by have := h.2.2.1.1; omega)]))
   apply wmg; iterate 7 exact rfl
   refine mv_int (v := .b false) rfl rfl (vi_lssF (by omega))
   refine wo ?_
   refine wo ?_
   by_cases q3 : r.seq > r.count
   ·apply wmg; iterate 7 exact rfl
    refine mv_int (v := .b true) rfl rfl (vi_gtrT (by omega))
    refine wo ?_
    exact w_ret (wend_ret (vres1 (rv_tmp rfl)) (by rw [decide_eq_false (fun h : mayR r => by have := h.2.2.1.2; omega)]))
   apply wmg; iterate 7 exact rfl
   refine mv_int (v := .b false) rfl rfl (vi_gtrF (by omega))
   refine wo ?_
   exact ⟨⟨by omega, by omega, by omega⟩, rfl, ⟨rfl, rfl, trivial⟩, fun hp h => h⟩
 obtain ⟨b1, b2, b3⟩ := hB
 refine w_cutS [(1, .p (some (bx, 0)))] [(some bx, cellsO (recC r (.sl A r.ch.length c o)) 26)] ((r.kind = 2 → 1 ≤ r.seq) ∧ (r.kind = 1 → r.ch.length = 0) ∧ r.ch.length ≤ 32) ?_ fun hB => ?_
 ·by_cases k2 : r.kind = 2
  ·rw [decide_eq_true k2]
   refine wo ?_
   by_cases q0 : r.seq = 0
   ·apply wmg; iterate 7 exact rfl
    refine mv_int (v := .b true) rfl rfl (vi_eqlT (by omega))
    refine wo ?_
    exact w_ret (wend_ret (vres1 (rv_tmp rfl)) (by rw [decide_eq_false (fun h : mayR r => by have := h.2.2.2.1 k2; omega)]))
   apply wmg; iterate 7 exact rfl
   refine mv_int (v := .b false) rfl rfl (vi_eqlF (by omega))
   refine wo ?_
   refine zX (m_ldl rfl hch) ?_
   refine wo ?_
   by_cases q1 : r.ch.length > 32
   ·apply wmg; iterate 7 exact rfl
    refine mv_int (v := .b true) rfl rfl (vi_gtrT (by omega))
    refine wo ?_
    exact w_ret (wend_ret (vres1 (rv_tmp rfl)) (by rw [decide_eq_false (fun h : mayR r => by have := h.2.2.2.2.2.1; omega)]))
   apply wmg; iterate 7 exact rfl
   refine mv_int (v := .b false) rfl rfl (vi_gtrF (by omega))
   refine wo ?_
   exact ⟨⟨by omega, by omega, by omega⟩, rfl, ⟨rfl, trivial⟩, fun hp h => h⟩
  ·rw [decide_eq_false k2]
   refine wo ?_
   refine zX (m_ldl rfl hch) ?_
   refine wo ?_
   by_cases q0 : r.ch.length > 0
   ·apply wmg; iterate 7 exact rfl
    refine mv_int (v := .b true) rfl rfl (vi_gtrT (by omega))
    refine wo ?_
    exact w_ret (wend_ret (vres1 (rv_tmp rfl)) (by rw [decide_eq_false (fun h : mayR r => by have := h.2.2.2.2.1 (by omega); omega)]))
   apply wmg; iterate 7 exact rfl
   refine mv_int (v := .b false) rfl rfl (vi_gtrF (by omega))
   refine wo ?_
   refine zX (m_ldl rfl hch) ?_
   refine wo ?_
   apply wmg; iterate 7 exact rfl
   refine mv_int (v := .b false) rfl rfl (vi_gtrF (by omega))
   refine wo ?_
   exact ⟨⟨by omega, by omega, by omega⟩, rfl, ⟨rfl, trivial⟩, fun hp h => h⟩
 obtain ⟨b4, b5, b6⟩ := hB
 refine w_seq ?_
 refine wo ?_
 refine w_loop (ι := Nat) (fun i => [(4, .i .i64 (i : Nat)), (1, .p (some (bx, 0)))]) (fun i => [(some bx, cellsO (recC r (.sl A r.ch.length c o)) 26)]) (fun i => i ≤ r.ch.length ∧ ∀ c ∈ r.ch.take i, mayC c) (fun i => r.ch.length - i) 0 ⟨Nat.zero_le _, by simp⟩ ⟨rfl, rfl, trivial⟩ (fun hp h => h) ?_
 intro i ⟨hi, hall⟩
 refine wo ?_
 refine zX (m_ldl rfl hch) ?_
 refine wo ?_
 by_cases g : i < r.ch.length
 rotate_left
 ·apply wm; iterate 5 exact rfl
  refine mv_int (v := .b false) rfl rfl (vi_lssF (by omega))
  refine wo ?_
  refine w_exit ?_
  obtain rfl : i = r.ch.length := by omega
  rw [List.take_length] at hall
  refine wo ?_
  exact w_ret (wend_ret (vres1 (rv_tmp rfl)) (by rw [decide_eq_true (show mayR r from ⟨b1, b2, b3, b4, b5, b6, hall⟩)]))
 obtain ⟨b, oa, vi, rfl, hvi, hti, h3, hne⟩ := ch_at hA hvs g
 obtain ⟨A1, kc, ko, A2, vc, vo, rfl, hk1, hk2⟩ := hti
 have hbad : ¬ mayC r.ch[i] → VR.v (.b false) = VR.v (.b (decide (mayR r))) := fun h => by rw [decide_eq_false (fun h' : mayR r => h (h'.2.2.2.2.2.2 _ (List.getElem_mem g)))]
 have hgood : mayC r.ch[i] → ∀ c ∈ r.ch.take (i + 1), mayC c := fun h c hc => by
  rw [List.take_succ_eq_append_getElem g] at hc
  rcases List.mem_append.1 hc with h' | h'
  ·exact hall c h'
  ·rw [List.mem_singleton.1 h']; exact h
 rw [mayC_ref] at hbad hgood
 apply wm; iterate 5 exact rfl
 refine mv_int (v := .b true) rfl rfl (vi_lssT (by omega))
 refine wo ?_
 refine zX (m_ldl rfl hch) ?_
 refine wo ?_
 apply wn; iterate 5 exact rfl
 refine p_ian rfl rfl g
 apply wm; iterate 5 exact rfl
 refine m_ldnN (j := i * 3) (s := 2) rfl hA.1 hA.2 rfl hvi h3
 apply p_op; exact (vwant_n rfl); iterate 4 exact rfl
 refine e_alloc rfl fun bi => ⟨_, rfl, ?_⟩
 apply p_do; exact (vwant_n rfl); exact rfl; exact rfl
 refine e_stn (C' := [.sl A1 r.ch[i].key.length kc ko, .sl A2 r.ch[i].val.length vc vo, .b r.ch[i].gone]) rfl rfl hne h3 (Nat.le_of_ble_eq_true rfl) rfl ⟨_, rfl, ?_⟩
 refine wo ?_
 by_cases q1 : r.ch[i].key.length > 32
 ·apply wm; iterate 5 exact rfl
  refine mv_int (v := .b true) rfl rfl (vi_gtrT (by omega))
  refine wo ?_
  exact w_ret (wend_ret (vres1 (rv_tmp rfl)) (hbad fun h => by omega))
 apply wm; iterate 5 exact rfl
 refine mv_int (v := .b false) rfl rfl (vi_gtrF (by omega))
 refine wo ?_
 by_cases q2 : r.ch[i].val.length > 256
 ·apply wmg; iterate 7 exact rfl
  refine mv_int (v := .b true) rfl rfl (vi_gtrT (by omega))
  refine wo ?_
  exact w_ret (wend_ret (vres1 (rv_tmp rfl)) (hbad fun h => by omega))
 apply wmg; iterate 7 exact rfl
 refine mv_int (v := .b false) rfl rfl (vi_gtrF (by omega))
 refine wo ?_
 by_cases q3 : r.ch[i].val.length = 0
 ·apply wmg; iterate 7 exact rfl
  refine mv_int (v := .b true) rfl rfl (vi_eqlT (by omega))
  by_cases q4 : r.ch[i].gone = true
  ·rw [q4]
   apply wmg; iterate 7 exact rfl
   refine m_neqb rfl rfl rfl
   refine wo ?_
   exact ⟨rfl, i + 1, ⟨g, hgood ⟨by omega, by omega, by rw [q4, decide_eq_true q3]⟩⟩, by omega, ⟨rfl, rfl, trivial⟩, fun hp h => h.le⟩
  ·have q5 : r.ch[i].gone = false := by simpa using q4
   rw [q5]
   apply wmg; iterate 7 exact rfl
   refine m_neqb rfl rfl rfl
   refine wo ?_
   exact w_ret (wend_ret (vres1 (rv_tmp rfl)) (hbad fun h => by rw [q5, decide_eq_true q3] at h; simp at h))
 ·apply wmg; iterate 7 exact rfl
  refine mv_int (v := .b false) rfl rfl (vi_eqlF (by omega))
  by_cases q4 : r.ch[i].gone = true
  ·rw [q4]
   apply wmg; iterate 7 exact rfl
   refine m_neqb rfl rfl rfl
   refine wo ?_
   exact w_ret (wend_ret (vres1 (rv_tmp rfl)) (hbad fun h => by rw [q4, decide_eq_false q3] at h; simp at h))
  ·have q5 : r.ch[i].gone = false := by simpa using q4
   rw [q5]
   apply wmg; iterate 7 exact rfl
   refine m_neqb rfl rfl rfl
   refine wo ?_
   exact ⟨rfl, i + 1, ⟨g, hgood ⟨by omega, by omega, by rw [q5, decide_eq_false q3]⟩⟩, by omega, ⟨rfl, rfl, trivial⟩, fun hp h => h.le⟩
end Go.Proofs.YtbmkclbghfbegaaGreatDoor
/- Jsb: the document's body of a record. By this project. -/
set_option maxRecDepth 100000
namespace Go.Proofs.YtbmkclbghfbegaaGreatDoor
open Go.RowKit Go.Extern.Stop
theorem flat_get {α : Type} {l vi : List α} {k n j : Nat} {v : α} (h : (l.drop k).take n = vi) (hv : vi[j]? = some v) : l[k + j]? = some v := by
 rw [← h, List.getElem?_take] at hv
 split at hv
 ·rw [List.getElem?_drop] at hv; exact hv
 ·simp at hv
theorem text19_n {A : Option (Nat × Nat)} {xs : List UInt8} {c n : Nat} {op : Bool} {hp : Hp} (ho : OkH hp) (hn : xs.length = n) (hA : RB ⟨hp, []⟩ A (xs.map byV)) (hl : n ≤ 1073741824) :
  Fn kxD 36 [.sl A n c op] hp [] fun r N => ∃ u, r = .v u ∧ RowK (strB xs) u N := by
 subst hn
 exact text19_d ho hA hl
theorem recK_enc (r : Rec) : encs (recK r) = ((((strB (shortB r.kind.toNat) ++ strB (shortB r.count.toNat)) ++ strB (shortB r.seq.toNat)) ++ strB r.prev) ++ strB r.root) ++ (headB 192 (encs (r.ch.map chgT)).length ++ encs (r.ch.map chgT)) := by
 unfold recK numI
 simp only [encs, enc_str, enc_list, List.append_nil, List.append_assoc]
theorem chgK_gone {c : Chg} (h : c.gone = true) : encs (chgK c) = strB c.key := by
 unfold chgK
 rw [if_pos h, encs, encs, enc_str, List.append_nil]
theorem chgK_not {c : Chg} (h : ¬ c.gone = true) : encs (chgK c) = strB c.key ++ strB c.val := by
 unfold chgK
 rw [if_neg h, encs, encs, encs, enc_str, enc_str, List.append_nil]
theorem chgs_succ {l : List Chg} {i : Nat} (h : i < l.length) : encs ((l.take (i + 1)).map chgT) = encs ((l.take i).map chgT) ++ (headB 192 (encs (chgK l[i])).length ++ encs (chgK l[i])) := by
 rw [List.take_succ_eq_append_getElem h, List.map_append, encs_app, List.map_cons, List.map_nil, encs, encs, List.append_nil, chgT, enc_list]
theorem chgs_take {l : List Chg} {i : Nat} (h : ∀ c ∈ l, mayC c) (h2 : l.length ≤ 32) : (encs ((l.take i).map chgT)).length ≤ 10240 := by
 have := chgs_len (l.take i) fun c hc => h c (List.mem_of_mem_take hc)
 have h3 : (l.take i).length ≤ 32 := by rw [List.length_take]; omega
 omega
set_option maxHeartbeats 32000000 in
theorem body19_d {r : Rec} {v : List V} {hp : Hp} (ho : OkH hp) (hr : RecR ⟨hp, []⟩ r v) :
  Fn kxD 10 [.agg v] hp [] fun r' N => ∃ u, r' = .v u ∧ ((mayR r → ∃ w, u = .tup [w, .i .i64 0] ∧ RowK (bodyB r) w N) ∧ (¬ mayR r → u = .tup [.sl none 0 0 false, .i .i64 2] ∧ N = [])) := by
 have hr0 := hr
 obtain ⟨hok, A, c, o, vs, rfl, hA, hvs⟩ := hr
 have hC : (recC r (.sl A r.ch.length c o)).length = 68 := recC_len hok
 have hrl := hok.len
 have hch : (recC r (.sl A r.ch.length c o))[0 + 67]? = some (.sl A r.ch.length c o) := by rw [Nat.zero_add]; exact recC_ch hok
 refine Fn.dropC ?_
 refine fn_of_w (T := []) ho.sv (fun _ => rfl) (fn := Tryz.f10) (by kernel_rfl) rfl rfl ?_
 refine wo ?_
 apply p_op; exact (vwant_n rfl); iterate 4 exact rfl
 refine ev_box rfl rfl fun bx => ⟨_, rfl, ?_⟩
 refine wo ?_
 refine zX (m_ldln (s := 67) (cs := recC r (.sl A r.ch.length c o)) rfl (by rw [List.drop_zero]; exact List.take_of_length_le (by omega)) hC) ?_
 refine p_callq (vwant_n rfl) rfl rfl rfl rfl (fun hp hs => may19_d hs.ok (hr0.give0 hs)) ?_
 by_cases hm : mayR r
 rotate_left
 ·rw [decide_eq_false hm]
  refine wo ?_
  exact w_ret (wend_ret (vres2 (rv_tmp rfl) (rv_tmp rfl)) ⟨[], cle, _, rfl, fun h => absurd h hm, fun _ => ⟨rfl, rfl⟩⟩)
 rw [decide_eq_true hm]
 have h32 := hm.2.2.2.2.2.1
 have hall := hm.2.2.2.2.2.2
 refine wo ?_
 iterate 4 ((try refine w_seq ?_); refine wo ?_)
 refine w_loop (ι := Nat × V × HV) (fun s => [(5, .i .i64 (s.1 : Nat)), (4, s.2.1), (1, .p (some (bx, 0)))]) (fun s => (some bx, cellsO (recC r (.sl A r.ch.length c o)) 26) :: s.2.2) (fun s => s.1 ≤ r.ch.length ∧ RowK (encs ((r.ch.take s.1).map chgT)) s.2.1 s.2.2) (fun s => r.ch.length - s.1) (0, .sl none 0 0 false, []) ⟨Nat.zero_le _, by rw [List.take_zero, List.map_nil, encs]; exact .nil⟩ ⟨rfl, rfl, rfl, trivial⟩ (fun hp h => h) ?_
 intro ⟨i, w, N⟩ ⟨hi, hw⟩
 dsimp only at hi hw ⊢
 obtain ⟨Aw, ow, rfl⟩ := hw.sl
 have hpre := chgs_take (i := i) hall h32
 refine wo ?_
 refine zX (m_ldl rfl hch) ?_
 refine wo ?_
 by_cases g : i < r.ch.length
 ·obtain ⟨b, oa, vi, rfl, hvi, hti, h3, hne⟩ := ch_at hA hvs g
  obtain ⟨A1, kc, ko, A2, vc, vo, rfl, hk1, hk2⟩ := hti
  have hmi := hall _ (List.getElem_mem g)
  have hmi2 := mayC_ref.1 hmi
  have hci := chg_len hmi
  unfold chgT at hci
  rw [enc_list, List.length_append] at hci
  apply wm; iterate 5 exact rfl
  refine mv_int (v := .b true) rfl rfl (vi_lssT (by omega))
  refine wo ?_
  refine zX (m_ldl rfl hch) ?_
  refine wo ?_
  apply wn; iterate 5 exact rfl
  refine p_ian rfl rfl g
  refine wo ?_
  apply wm; iterate 5 exact rfl
  refine m_ldN (j := i * 3 + 0) (v := .sl A1 r.ch[i].key.length kc ko) rfl hA.1 hA.2 (by omega) (flat_get hvi rfl)
  apply p_callY []; exact (vwant_n rfl); iterate 4 exact rfl
  case hC => exact (fun hp hs ht => text19_d hs.ok (hk1.give0 hs) (by omega))
  rintro u1 N1 hu1
  obtain ⟨B1, o1, rfl⟩ := hu1.sl
  refine wo ?_
  refine zX (m_ldl rfl hch) ?_
  refine wo ?_
  apply wn; iterate 5 exact rfl
  refine p_ian rfl rfl g
  refine wo ?_
  apply wm; iterate 5 exact rfl
  refine m_ldN (j := i * 3 + 2) (v := .b r.ch[i].gone) rfl hA.1 hA.2 (by omega) (flat_get hvi rfl)
  by_cases gg : r.ch[i].gone = true
  ·have hK := chgK_gone gg
   rw [gg]
   rw [hK] at hci
   refine wo ?_
   apply p_callY []; exact (vwant_n rfl); iterate 4 exact rfl
   case hC => exact (fun hp hs ht => headed_d (base := 192) hs.ok (hu1.rb (Lt := []) hs) (by omega))
   rintro u3 N3 hu3
   obtain ⟨B3, o3, rfl⟩ := hu3.sl
   refine wo ?_
   apply p_op; exact (vwant_n rfl); iterate 4 exact rfl
   refine e_appW hw rfl rfl hu3.src rfl u8_one (by rw [List.length_append]; omega) fun A4 m4 o4 N4 hu4 hm4 => ⟨_, rfl, ?_⟩
   refine wo ?_
   exact ⟨rfl, (i + 1, _, N4), ⟨g, by rw [chgs_succ g, hK]; exact hu4⟩, by dsimp only; omega, ⟨rfl, rfl, rfl, trivial⟩, fun hp h => h.le⟩
  ·have hK := chgK_not gg
   have gg' : r.ch[i].gone = false := by simpa using gg
   rw [gg']
   rw [hK, List.length_append] at hci
   refine wo ?_
   refine zX (m_ldl rfl hch) ?_
   refine wo ?_
   apply wn; iterate 5 exact rfl
   refine p_ian rfl rfl g
   refine wo ?_
   apply wm; iterate 5 exact rfl
   refine m_ldN (j := i * 3 + 1) (v := .sl A2 r.ch[i].val.length vc vo) rfl hA.1 hA.2 (by omega) (flat_get hvi rfl)
   apply p_callY []; exact (vwant_n rfl); iterate 4 exact rfl
   case hC => exact (fun hp hs ht => text19_d hs.ok (hk2.give0 hs) (by omega))
   rintro u2 N2 hu2
   obtain ⟨B2, o2, rfl⟩ := hu2.sl
   apply p_op; exact (vwant_n rfl); iterate 4 exact rfl
   refine e_appW hu1 rfl rfl hu2.src rfl u8_one (by omega) fun A5 m5 o5 N5 hu5 hm5 => ⟨_, rfl, ?_⟩
   have hm6 : (strB r.ch[i].key ++ strB r.ch[i].val).length = m5 := by rw [List.length_append, hm5]
   subst hm6
   refine wo ?_
   apply p_callY []; exact (vwant_n rfl); iterate 4 exact rfl
   case hC => exact (fun hp hs ht => headed_d (base := 192) hs.ok (hu5.rb (Lt := []) hs) (by rw [List.length_append]; omega))
   rintro u3 N3 hu3
   obtain ⟨B3, o3, rfl⟩ := hu3.sl
   refine wo ?_
   apply p_op; exact (vwant_n rfl); iterate 4 exact rfl
   refine e_appW hw rfl rfl hu3.src rfl u8_one (by simp only [List.length_append]; omega) fun A4 m4 o4 N4 hu4 hm4 => ⟨_, rfl, ?_⟩
   refine wo ?_
   exact ⟨rfl, (i + 1, _, N4), ⟨g, by rw [chgs_succ g, hK]; exact hu4⟩, by dsimp only; omega, ⟨rfl, rfl, rfl, trivial⟩, fun hp h => h.le⟩
 apply wm; iterate 5 exact rfl
 refine mv_int (v := .b false) rfl rfl (vi_lssF (by omega))
 refine wo ?_
 refine w_exit ?_
 obtain rfl : i = r.ch.length := by omega
 rw [List.take_length] at hw hpre ⊢
 obtain ⟨k, hkk⟩ : ∃ k : Nat, r.kind = (k : Int) := ⟨r.kind.toNat, by have := mayR_kind hm; omega⟩
 obtain ⟨n, hn⟩ : ∃ n : Nat, r.count = (n : Int) := ⟨r.count.toNat, by have := hm.2.1; omega⟩
 obtain ⟨q, hq⟩ : ∃ q : Nat, r.seq = (q : Int) := ⟨r.seq.toNat, by have := hm.2.2.1; omega⟩
 have b1 := mayR_kind hm
 have b2 := hm.2.1
 have b3 := hm.2.2.1
 have e1 : r.kind.toNat = k := by rw [hkk]; rfl
 have e2 : r.count.toNat = n := by rw [hn]; rfl
 have e3 : r.seq.toNat = q := by rw [hq]; rfl
 have hK := recK_enc r
 have hKl := recK_len hok hm
 rw [hK, e1, e2, e3] at hKl
 simp only [List.length_append] at hKl
 have l1 := shortB_8 (n := k) (by omega)
 have l2 := shortB_8 (n := n) (by omega)
 have l3 := shortB_8 (n := q) (by omega)
 refine wo ?_
 rw [hkk]
 apply d_callY []; exact (vwant_n rfl); decide +kernel; (iterate 4 exact rfl)
 try (case hok => exact rdOk_nil)
 case hC => exact (fun hp hs ht => number19_d (n := k) hs.ok (by omega))
 rintro u1 N1 hu1
 obtain ⟨A1, o1, rfl⟩ := hu1.sl
 apply d_callY []; exact (vwant_n rfl); decide +kernel; (iterate 4 exact rfl)
 try (case hok => exact rdOk_nil)
 case hC => exact (fun hp hs ht => text19_d hs.ok (hu1.rb (Lt := []) hs) (by omega))
 rintro u2 N2 hu2
 obtain ⟨A2, o2, rfl⟩ := hu2.sl
 refine wo ?_
 rw [hn]
 apply d_callY []; exact (vwant_n rfl); decide +kernel; (iterate 4 exact rfl)
 try (case hok => exact rdOk_nil)
 case hC => exact (fun hp hs ht => number19_d (n := n) hs.ok (by omega))
 rintro u3 N3 hu3
 obtain ⟨A3, o3, rfl⟩ := hu3.sl
 apply d_callY []; exact (vwant_n rfl); decide +kernel; (iterate 4 exact rfl)
 try (case hok => exact rdOk_nil)
 case hC => exact (fun hp hs ht => text19_d hs.ok (hu3.rb (Lt := []) hs) (by omega))
 rintro u4 N4 hu4
 obtain ⟨A4, o4, rfl⟩ := hu4.sl
 apply d_op; exact (vwant_n rfl); exact rfl; exact noRd rfl; decide +kernel; (iterate 3 exact rfl); rotate_left
 refine e_appW hu2 rfl rfl hu4.src rfl u8_one (by omega) fun A5 m5 o5 N5 hu5 hm5 => ⟨_, rfl, ?_⟩
 try (case hok => exact rdOk_b (by decide +kernel))
 refine wo ?_
 rw [hq]
 apply p_callY []; exact (vwant_n rfl); iterate 4 exact rfl
 case hC => exact (fun hp hs ht => number19_d (n := q) hs.ok (by omega))
 rintro u6 N6 hu6
 obtain ⟨A6, o6, rfl⟩ := hu6.sl
 apply p_callY []; exact (vwant_n rfl); iterate 4 exact rfl
 case hC => exact (fun hp hs ht => text19_d hs.ok (hu6.rb (Lt := []) hs) (by omega))
 rintro u7 N7 hu7
 obtain ⟨A7, o7, rfl⟩ := hu7.sl
 apply p_op; exact (vwant_n rfl); iterate 4 exact rfl
 refine e_appW hu5 rfl rfl hu7.src rfl u8_one (by simp only [List.length_append]; omega) fun A8 m8 o8 N8 hu8 hm8 => ⟨_, rfl, ?_⟩
 refine wo ?_
 refine zX (m_slaw rfl) ?_
 apply p_callY []; exact (vwant_n rfl); iterate 4 exact rfl
 case hC => exact (fun hp hs ht => text19_n (xs := r.prev) hs.ok hok.prev (rb_at0 hs (by rw [List.length_map, hok.prev]; exact recC_prev hok)) (by decide))
 rintro u9 N9 hu9
 obtain ⟨A9, o9, rfl⟩ := hu9.sl
 apply p_op; exact (vwant_n rfl); iterate 4 exact rfl
 refine e_appW hu8 rfl rfl hu9.src rfl u8_one (by simp only [List.length_append]; omega) fun A10 m10 o10 N10 hu10 hm10 => ⟨_, rfl, ?_⟩
 refine wo ?_
 refine zX (m_slaw rfl) ?_
 apply p_callY []; exact (vwant_n rfl); iterate 4 exact rfl
 case hC => exact (fun hp hs ht => text19_n (xs := r.root) hs.ok hok.root (rb_at0 hs (by rw [List.length_map, hok.root]; exact recC_root hok)) (by decide))
 rintro u11 N11 hu11
 obtain ⟨A11, o11, rfl⟩ := hu11.sl
 apply p_op; exact (vwant_n rfl); iterate 4 exact rfl
 refine e_appW hu10 rfl rfl hu11.src rfl u8_one (by simp only [List.length_append]; omega) fun A12 m12 o12 N12 hu12 hm12 => ⟨_, rfl, ?_⟩
 refine wo ?_
 apply p_callY []; exact (vwant_n rfl); iterate 4 exact rfl
 case hC => exact (fun hp hs ht => headed_d (base := 192) hs.ok (hw.rb (Lt := []) hs) (by omega))
 rintro u13 N13 hu13
 obtain ⟨A13, o13, rfl⟩ := hu13.sl
 apply p_op; exact (vwant_n rfl); iterate 4 exact rfl
 refine e_appW hu12 rfl rfl hu13.src rfl u8_one (by simp only [List.length_append]; omega) fun A14 m14 o14 N14 hu14 hm14 => ⟨_, rfl, ?_⟩
 refine wo ?_
 have hm15 : (encs (recK r)).length = m14 := by rw [hK, e1, e2, e3, hm14]; simp only [List.length_append]
 rw [← e1, ← e2, ← e3, ← hK] at hu14
 subst hm15
 apply p_callY []; exact (vwant_n rfl); iterate 4 exact rfl
 case hC => exact (fun hp hs ht => headed_d (base := 192) hs.ok (hu14.rb (Lt := []) hs) (by have := recK_len hok hm; omega))
 rintro u16 N16 hu16
 refine wo ?_
 refine w_ret (wend_ret (vres2 (rv_tmp rfl) (rv_tmp rfl)) ⟨N16, cle, _, rfl, fun _ => ⟨_, rfl, ?_⟩, fun h => absurd hm h⟩)
 unfold bodyB recT
 rw [enc_list]
 exact hu16
end Go.Proofs.YtbmkclbghfbegaaGreatDoor
/- Js9: frames around payloads; the journal's Write. By this project. -/
set_option maxRecDepth 100000
namespace Go.Proofs.YtbmkclbghfbegaaGreatDoor
open Go.RowKit Go.Extern.Stop
def flB (n : Nat) : List UInt8 := [UInt8.ofNat (n / 65536), UInt8.ofNat (n / 256), UInt8.ofNat n]
def frameB (xs : List UInt8) : List UInt8 := 202 :: (flB xs.length ++ ((flB xs.length).map (255 - ·) ++ xs))
theorem not_sub (y : UInt8) : 255 ^^^ y = 255 - y := by
 have key : ∀ k : Fin 256, (255 : UInt8) ^^^ UInt8.ofNat k.val = 255 - UInt8.ofNat k.val := by decide +kernel
 have := key ⟨y.toNat, y.toNat_lt⟩
 simpa using this
section
variable {K : Kx} {hp0 : Bs} {l : VL} {L : HV} {a b : Operand} {t t' : TypeId}
theorem p_notB {y : UInt8} (hx : evL l a = some (byV y)) : PV K.C l (.unOp .xor t a) (byV (255 - y)) := pv_un hx (by
 rw [← not_sub]
 exact vB_xor 255 y)
theorem p_buildAB {e : TypeId} {n : Nat} {Z C : List V} {xs : List (Nat × Operand)} {qs : List (Nat × List V)} [hS : ArrV K.C t n e] [he : SizeV K.C e 1] [hz : ZeroV K.C t (V.agg Z)] (hq : PartsV l (fun i => some (i, 1)) Z.length xs qs) (hC : putAllV Z qs = C) : PV K.C l (.build t xs.toArray) (.agg C) := by
 obtain ⟨ti, h1, h2⟩ := hz.h
 obtain ⟨ti', h3, h4⟩ := hS.h
 obtain ⟨te, h5, h6⟩ := he.h
 rw [h1] at h3
 obtain rfl := Option.some.inj h3
 haveI : TiV K.C t ti := ⟨h1⟩
 haveI : TiV K.C e te := ⟨h5⟩
 refine pv_buildA h4 h2 (qs := qs) ?_ hC
 rw [h6]
 simpa only [Nat.mul_one] using hq
end
set_option maxHeartbeats 8000000 in
theorem wrap_d {A : Option (Nat × Nat)} {xs : List UInt8} {c : Nat} {op : Bool} {hp : Hp} (ho : OkH hp) (hA : RB ⟨hp, []⟩ A (xs.map byV)) (hl : xs.length ≤ 16384) :
  Fn kxD 46 [.sl A xs.length c op] hp [] fun r N => ∃ u, r = .v u ∧ ∃ w, u = .tup [w, .i .i64 0] ∧ RowK (frameB xs) w N := by
 refine Fn.dropC ?_
 refine fn_of_w (T := []) ho.sv (fun _ => rfl) (fn := Tryz.f46) (by kernel_rfl) rfl rfl ?_
 refine wo ?_
 apply wm; iterate 5 exact rfl
 refine mv_int (v := .b false) rfl rfl (vi_gtrF (by omega))
 refine wo ?_
 apply wm; iterate 5 exact rfl
 refine m_shrN rfl rfl (by decide)
 apply wm; iterate 5 exact rfl
 refine m_convB rfl
 refine wo ?_
 apply wm; iterate 5 exact rfl
 refine m_shrN rfl rfl (by decide)
 apply wm; iterate 5 exact rfl
 refine m_convB rfl
 refine wo ?_
 apply wm; iterate 5 exact rfl
 refine m_convB rfl
 apply wn; iterate 5 exact rfl
 refine p_buildAB (C := (flB xs.length).map byV) (.cons rfl rfl rfl rfl (by decide) (.cons rfl rfl rfl rfl (by decide) (.cons rfl rfl rfl rfl (by decide) .nil))) rfl
 apply p_op; exact (vwant_n rfl); iterate 4 exact rfl
 refine e_alloc rfl fun bs => ⟨_, rfl, ?_⟩
 apply p_do; exact (vwant_n rfl); exact rfl; exact rfl
 refine e_stn (C' := (flB xs.length).map byV) rfl rfl (by simp [flB]) rfl (Nat.le_of_ble_eq_true rfl) rfl ⟨_, rfl, ?_⟩
 refine wo ?_
 apply p_op; exact (vwant_n rfl); iterate 4 exact rfl
 refine e_bs (C := [byV 202]) rfl rfl (.cons rfl rfl .nil) rfl fun b1 => ⟨_, rfl, ?_⟩
 refine zX (m_slaw rfl) ?_
 apply p_op; exact (vwant_n rfl); iterate 4 exact rfl
 refine e_appW (ys := flB xs.length) (RowU.lit1 (y := 202)) rfl rfl (rz_loc (k := 3) rfl) rfl u8_one (by decide) fun A1 m1 op1 N1 hu1 hm1 => ⟨_, rfl, ?_⟩
 subst hm1
 refine wo ?_
 apply wn; iterate 5 exact rfl
 refine p_iaa (i := 0) rfl rfl (by decide)
 refine zX (m_ldl (v := byV (UInt8.ofNat (xs.length / 65536))) rfl rfl) ?_
 apply wn; iterate 5 exact rfl
 refine p_notB rfl
 apply wn; iterate 5 exact rfl
 refine p_iaa (i := 1) rfl rfl (by decide)
 refine zX (m_ldl (v := byV (UInt8.ofNat (xs.length / 256))) rfl rfl) ?_
 apply wn; iterate 5 exact rfl
 refine p_notB rfl
 apply wn; iterate 5 exact rfl
 refine p_iaa (i := 2) rfl rfl (by decide)
 refine zX (m_ldl (v := byV (UInt8.ofNat xs.length)) rfl rfl) ?_
 apply wn; iterate 5 exact rfl
 refine p_notB rfl
 apply p_op; exact (vwant_n rfl); iterate 4 exact rfl
 refine e_bs (C := ((flB xs.length).map (255 - ·)).map byV) rfl rfl (.cons rfl rfl (.cons rfl rfl (.cons rfl rfl .nil))) rfl fun b2 => ⟨_, rfl, ?_⟩
 apply p_op; exact (vwant_n rfl); iterate 4 exact rfl
 refine e_appW (ys := (flB xs.length).map (255 - ·)) hu1 rfl rfl (rz_loc (k := 3) rfl) rfl u8_one (by show 4 + 3 ≤ _; omega) fun A2 m2 op2 N2 hu2 hm2 => ⟨_, rfl, ?_⟩
 subst hm2
 refine wo ?_
 apply p_op; exact (vwant_n rfl); iterate 4 exact rfl
 refine e_appW hu2 rfl rfl hA.z rfl u8_one (by show 4 + 3 + _ ≤ _; omega) fun A3 m3 op3 N3 hu3 hm3 => ⟨_, rfl, ?_⟩
 refine wo ?_
 exact w_ret (wend_ret (vres2 (rv_tmp rfl) (rv_tmp rfl)) ⟨N3, cle, _, rfl, _, rfl, by
  have e : frameB xs = ([202] ++ flB xs.length) ++ (flB xs.length).map (255 - ·) ++ xs := by simp [frameB]
  rw [e]
  exact hu3⟩)
set_option maxHeartbeats 16000000 in
theorem jwrite_d {B : Bk} {b bits cb : Nat} {sec : List UInt8} {ha ca : List (List UInt8)} {fs : List (List UInt8 × List UInt8)} {r : Rec} {v : List V} {hp : Hp} (hB : BkSt B b bits cb sec ha ca fs) (h0 : SV ⟨hp, hnds (bkL B)⟩ hp (bkL B)) (hk : Tab ⟨hp, hnds (bkL B)⟩) (hkk : KTab ⟨hp, hnds (bkL B)⟩) (hr : RecR ⟨hp, hnds (bkL B)⟩ r v) (hl : ca.length < 100000000) :
  Fn kxD 13 [.p (some (b, 0)), .agg v] hp (hnds (bkL B)) fun r' N => ∃ u, r' = .v u ∧ ((mayR r → ∃ w M B', u = .tup [w, hK (cutB cb (macB sec (bodyB r))), .i .i64 0] ∧ RowK (frameB (bodyB r ++ cutB cb (macB sec (bodyB r)))) w M ∧ BkSt B' b bits cb sec ha (addS ca (bodyB r)) fs ∧ N = M ++ bkL B') ∧ (¬ mayR r → u = .tup [.sl none 0 0 false, hK (List.replicate 32 0), .i .i64 2] ∧ N = bkL B)) := by
 have hr0 := hr
 obtain ⟨hok, A, c, o, vs, rfl, hA, hvs⟩ := hr
 have hC : (recC r (.sl A r.ch.length c o)).length = 68 := recC_len hok
 have hrl := hok.len
 have hne : ∀ {l : List V}, l.length = 32 → l ≠ [] := fun hl e => by rw [e] at hl; simp at hl
 refine Fn.dropC ?_
 refine fn_of_w h0 (fun _ => rfl) (fn := Tryz.f13) (by kernel_rfl) rfl rfl ?_
 refine wo ?_
 apply p_op; exact (vwant_n rfl); iterate 4 exact rfl
 refine ev_box rfl rfl fun bx => ⟨_, rfl, ?_⟩
 refine wo ?_
 apply p_op; exact (vwant_n rfl); iterate 4 exact rfl
 refine e_alloc rfl fun bh => ⟨_, rfl, ?_⟩
 refine wo ?_
 apply wm; iterate 5 exact rfl
 refine m_eqp rfl rfl
 refine wo ?_
 refine zX (m_ldln (s := 67) (cs := recC r (.sl A r.ch.length c o)) rfl (by rw [List.drop_zero]; exact List.take_of_length_le (by omega)) hC) ?_
 apply p_callY []; exact (vwant_n rfl); iterate 4 exact rfl
 case hC => exact (fun hp hs ht => jbody_d hs.ok (hkk.give0 hs) (hr0.give0 hs))
 rintro u N ⟨hgood, hbad⟩
 by_cases hm : mayR r
 rotate_left
 ·obtain ⟨rfl, rfl⟩ := hbad hm
  refine wo ?_
  apply wm; iterate 5 exact rfl
  refine mv_int (v := .b true) rfl rfl (vi_neqT ((by simp)))
  refine wo ?_
  apply wn; iterate 5 exact rfl
  refine p_buildA0
  refine wo ?_
  apply p_do; exact (vwant_n rfl); exact rfl; exact rfl
  refine e_stn (C' := (List.replicate 32 (0 : UInt8)).map byV) rfl rfl (by simp) rfl (by decide) rfl ⟨_, rfl, ?_⟩
  refine wo ?_
  exact w_ret (wend_ret (vres3 (rv_tmp rfl) (rv_cell rfl rfl) (rv_tmp rfl)) ⟨bkL B, cle, _, rfl, fun h => absurd h hm, fun _ => ⟨rfl, rfl⟩⟩)
 obtain ⟨w, rfl, hu⟩ := hgood hm
 obtain ⟨A1, o1, rfl⟩ := hu.sl
 have hbl := body_len hok hm
 have hcl : (cutB cb (macB sec (bodyB r))).length = 32 := by rw [cutB_len, macB_len]
 have hcl' : ((cutB cb (macB sec (bodyB r))).map byV).length = 32 := by rw [List.length_map, hcl]
 refine wo ?_
 apply wm; iterate 5 exact rfl
 refine mv_int (v := .b false) rfl rfl (vi_neqF ((by simp)))
 refine wo ?_
 apply p_callM (bkL B); exact (vwant_n rfl); iterate 4 exact rfl
 case hC => exact (fun hp hs ht => code_gs hB ht (hk.give hs) (hu.rb hs) ⟨Nat.le_refl _, fun _ => Nat.le_refl _⟩ (by omega) hl)
 rintro u2 N2 ⟨rfl, B', hB', rfl⟩
 apply p_op; exact (vwant_n rfl); iterate 4 exact rfl
 refine e_alloc rfl fun bt => ⟨_, rfl, ?_⟩
 apply p_do; exact (vwant_n rfl); exact rfl; exact rfl
 refine e_stn (C' := (cutB cb (macB sec (bodyB r))).map byV) rfl rfl (hne hcl') hcl' (by simp) (overV_all (by rw [hcl']; simp)) ⟨_, rfl, ?_⟩
 refine wo ?_
 refine zX (m_slaw rfl) ?_
 apply p_op; exact (vwant_n rfl); iterate 4 exact rfl
 refine e_appW (ys := cutB cb (macB sec (bodyB r))) hu rfl rfl (rz_loc (k := 32) (by rw [List.drop_zero]; exact List.take_of_length_le (by omega))) hcl u8_one (by omega) fun A3 m3 op3 N3 hu3 hm3 => ⟨_, rfl, ?_⟩
 have hl3 : (bodyB r ++ cutB cb (macB sec (bodyB r))).length = (bodyB r).length + 32 := by rw [List.length_append, hcl]
 rw [← hl3] at hm3
 subst hm3
 apply p_callY []; exact (vwant_n rfl); iterate 4 exact rfl
 case hC => exact (fun hp hs ht => wrap_d hs.ok (hu3.rb (Lt := []) hs) (by omega))
 rintro u4 N4 ⟨w4, rfl, hu4⟩
 obtain ⟨A4, o4, rfl⟩ := hu4.sl
 refine wo ?_
 apply wm; iterate 5 exact rfl
 refine mv_int (v := .b false) rfl rfl (vi_neqF ((by simp)))
 refine wo ?_
 refine yX (m_ldln (s := 31) (cs := (cutB cb (macB sec (bodyB r))).map byV) rfl (by rw [List.drop_zero]; exact List.take_of_length_le (by omega)) hcl') ?_
 refine wo ?_
 apply d_do; exact (vwant_n rfl); exact rfl; exact noRd rfl; decide +kernel; exact rfl; rotate_left
 refine e_stn (C' := (cutB cb (macB sec (bodyB r))).map byV) rfl rfl (hne hcl') hcl' (by simp) (overV_all (by rw [hcl']; simp)) ⟨_, rfl, ?_⟩
 try (case hok => exact rdOk_b (by decide +kernel))
 refine wo ?_
 exact w_ret (wend_ret (vres3 (rv_tmp rfl) (rv_cell rfl hcl') (rv_tmp rfl)) ⟨N4 ++ bkL B', cle, _, rfl, fun _ => ⟨_, N4, B', rfl, hu4, hB', rfl⟩, fun h => absurd hm h⟩)
end Go.Proofs.YtbmkclbghfbegaaGreatDoor
/- Jsc: the document's frame, code, book, Write. By this project. -/
set_option maxRecDepth 100000
namespace Go.Proofs.YtbmkclbghfbegaaGreatDoor
open Go.RowKit Go.Extern.Stop
section
variable {K : Kx} {hp0 : Bs} {l : VL} {L : HV}
theorem m_slN {t e : TypeId} {x : Operand} {lo hi : Option Operand} {s : Nat} {o : Bool} [hS : SliceV K.C t e] [hs : SizeV K.C e s] (hx : evL l x = some (.sl none 0 0 o)) (hlo : BoundL l lo 0 0) (hhi : BoundL l hi 0 0) : MV K hp0 l L (.slice t x lo hi none) [] (.sl none 0 0 o) := by
 obtain ⟨ti, h3, h4⟩ := hS.h
 obtain ⟨te, h5, h6⟩ := hs.h
 refine mv_nil (fun _ _ => rfl) fun call fr hp hf => ?_
 show oSlice K.C fr hp t x lo hi none = _
 simp only [oSlice, hf.ev hx, Option.bind_some, vslice, h3, hlo fr hf, h4, h5, hhi fr hf, leO_t (Nat.le_refl 0)]
theorem e_appE {tS tX e eX : TypeId} {s x : Operand} {A : Option (Nat × Nat)} {m c c' sz : Nat} {op op' : Bool} {k : VR → HV → Prop} [hS : SliceV K.C tS e] [hz : SizeV K.C e (sz + 1)] [hX : SliceV K.C tX eX] (hs : evL l s = some (.sl A m c op)) (hx : evL l x = some (.sl none 0 c' op')) (hmc : m ≤ c) (hk : k (.v (.sl A m c op)) L) : EV K hp0 l L (.call { callee := .builtin .append, args := #[s, x], argTypes := #[tS, tX] }) [] k := by
 obtain ⟨ti, h3, h4⟩ := hS.h
 obtain ⟨te, h5, h6⟩ := hz.h
 obtain ⟨tx, h7, h8⟩ := hX.h
 haveI : TiV K.C tS ti := ⟨h3⟩
 haveI : TiV K.C e te := ⟨h5⟩
 haveI : TiV K.C tX tx := ⟨h7⟩
 exact ev_appN hs hx h4 (src_sl h8 rz_nil (by simp) (by omega)) hmc hk
end
theorem lit0 {e : TypeId} {b : Nat} : RowU e [] (.sl (some (b, 0)) 0 0 false) [(some b, cellsO [] e)] := RowU.lit rfl rfl
set_option maxHeartbeats 8000000 in
theorem wrap09_d {A : Option (Nat × Nat)} {xs : List UInt8} {c : Nat} {op : Bool} {hp : Hp} (ho : OkH hp) (hA : RB ⟨hp, []⟩ A (xs.map byV)) (hl : xs.length ≤ 16384) :
  Fn kxD 40 [.sl A xs.length c op] hp [] fun r N => ∃ u, r = .v u ∧ ∃ w, u = .tup [w, .i .i64 0] ∧ RowK (frameB xs) w N := by
 have e1 : UInt8.ofNat (xs.length / 256 % 256) = UInt8.ofNat (xs.length / 256) := by rw [← UInt8.toNat_inj]; simp
 have e2 : UInt8.ofNat (xs.length % 256) = UInt8.ofNat xs.length := by rw [← UInt8.toNat_inj]; simp
 refine Fn.dropC ?_
 refine fn_of_w (T := []) ho.sv (fun _ => rfl) (fn := Tryz.f40) (by kernel_rfl) rfl rfl ?_
 refine wo ?_
 apply wm; iterate 5 exact rfl
 refine mv_int (v := .b false) rfl rfl (vi_gtrF (by omega))
 refine wo ?_
 apply wm; iterate 5 exact rfl
 refine m_quoN rfl rfl (by decide) (by omega)
 apply wm; iterate 5 exact rfl
 refine m_convB rfl
 refine wo ?_
 apply wm; iterate 5 exact rfl
 refine m_quoN rfl rfl (by decide) (by omega)
 apply wm; iterate 5 exact rfl
 refine m_remN rfl rfl (by decide)
 apply wm; iterate 5 exact rfl
 refine m_convB rfl
 rw [e1]
 refine wo ?_
 apply wm; iterate 5 exact rfl
 refine m_remN rfl rfl (by decide)
 apply wm; iterate 5 exact rfl
 refine m_convB rfl
 rw [e2]
 apply p_op; exact (vwant_n rfl); iterate 4 exact rfl
 refine e_bs (C := (flB xs.length).map byV) rfl rfl (.cons rfl rfl (.cons rfl rfl (.cons rfl rfl .nil))) rfl fun b1 => ⟨_, rfl, ?_⟩
 refine wo ?_
 apply dn; iterate 5 exact rfl
 refine p_ia (i := 0) rfl rfl (by decide)
 refine wo ?_
 apply dn; iterate 5 exact rfl
 refine p_ia (i := 1) rfl rfl (by decide)
 refine wo ?_
 apply dn; iterate 5 exact rfl
 refine p_ia (i := 2) rfl rfl (by decide)
 refine wo ?_
 apply dn; iterate 5 exact rfl
 refine p_ia (i := 0) rfl rfl (by decide)
 refine wo ?_
 apply dm; iterate 6 exact rfl
 refine m_subW (x := 255) (y := UInt8.ofNat (xs.length / 65536)) rfl rfl
 refine wo ?_
 apply dn; iterate 5 exact rfl
 refine p_ia (i := 1) rfl rfl (by decide)
 refine wo ?_
 apply dm; iterate 6 exact rfl
 refine m_subW (x := 255) (y := UInt8.ofNat (xs.length / 256)) rfl rfl
 refine wo ?_
 apply dn; iterate 5 exact rfl
 refine p_ia (i := 2) rfl rfl (by decide)
 refine wo ?_
 apply dm; iterate 6 exact rfl
 refine m_subW (x := 255) (y := UInt8.ofNat xs.length) rfl rfl
 apply d_op; exact (vwant_n rfl); exact rfl; exact noRd rfl; decide +kernel; (iterate 3 exact rfl); rotate_left
 refine e_bs (C := ([202] ++ (flB xs.length ++ (flB xs.length).map (255 - ·))).map byV) rfl rfl (.cons rfl rfl (.cons rfl rfl (.cons rfl rfl (.cons rfl rfl (.cons rfl rfl (.cons rfl rfl (.cons rfl rfl .nil))))))) rfl fun b2 => ⟨_, rfl, ?_⟩
 try (case hok => exact rdOk_nil)
 refine wo ?_
 apply p_op; exact (vwant_n rfl); iterate 4 exact rfl
 refine e_appW (RowU.lit (xs := [202] ++ (flB xs.length ++ (flB xs.length).map (255 - ·))) rfl rfl) rfl rfl hA.z rfl u8_one (by show 7 + _ ≤ _; omega) fun A3 m3 op3 N3 hu3 hm3 => ⟨_, rfl, ?_⟩
 refine wo ?_
 exact w_ret (wend_ret (vres2 (rv_tmp rfl) (rv_tmp rfl)) ⟨N3, cle, _, rfl, _, rfl, by
  have e : frameB xs = ([202] ++ (flB xs.length ++ (flB xs.length).map (255 - ·))) ++ xs := by simp [frameB]
  rw [e]
  exact hu3⟩)
set_option maxHeartbeats 8000000 in
theorem block03_d {k : List UInt8} {x : UInt8} {A : Option (Nat × Nat)} {c : Nat} {op : Bool} {hp : Hp} (ho : OkH hp) (hA : RB ⟨hp, []⟩ A (k.map byV)) (h0 : 0 < k.length) (h1 : k.length ≤ 64) :
  Fn kxD 118 [.sl A k.length c op, byV x] hp [] fun r N => ∃ u, r = .v u ∧ RowK ((keyB k).map (· ^^^ x)) u N := by
 have hkl := keyB_len h1
 refine fn_of_w (T := []) ho.sv (fun _ => rfl) (fn := Tryz.f118) (by kernel_rfl) rfl rfl ?_
 refine wo ?_
 apply p_op; exact (vwant_n rfl); iterate 4 exact rfl
 refine ev_mks (m := 64) (c := 64) rfl rfl rfl rfl rfl rfl (by decide) (by decide) rfl fun bb => ⟨_, rfl, ?_⟩
 refine wo ?_
 iterate 4 ((try refine w_seq ?_); refine wo ?_)
 apply wm; iterate 5 exact rfl
 refine mv_int (v := .b false) rfl rfl (vi_gtrF (by omega))
 refine wo ?_
 apply p_op; exact (vwant_n rfl); iterate 4 exact rfl
 refine e_copy (C' := (keyB k).map byV) (vs := k.map byV) rfl rfl hA.z (by simp) (by rw [show min k.length 64 = k.length by omega]; exact List.take_of_length_le (by simp)) (fun e => by have := congrArg List.length e; rw [List.length_map, List.length_nil] at this; omega) (by simp; omega) (by
  unfold overV keyB
  rw [List.take_zero, List.nil_append, Nat.zero_add, List.map_append, List.length_map, List.drop_replicate, List.map_replicate]
  rfl) ⟨_, rfl, ?_⟩
 refine wo ?_
 iterate 4 ((try refine w_seq ?_); refine wo ?_)
 refine w_loop (ι := Nat) (fun i => [(7, .i .i64 (i : Nat)), (5, .sl (some (bb, 0)) 64 64 false), (1, byV x)]) (fun i => [(some bb, cellsO ((xorL (keyB k) x i).map byV) 5)]) (fun i => i ≤ 64) (fun i => 64 - i) 0 (Nat.zero_le _) ⟨rfl, rfl, rfl, trivial⟩ (fun hp h => by rw [xorL_zero]; exact h) ?_
 intro i hi
 have hll : (xorL (keyB k) x i).length = 64 := by rw [xorL_len (by omega), hkl]
 refine wo ?_
 by_cases g : i < 64
 ·obtain ⟨y, hy⟩ : ∃ y, (keyB k)[i]? = some y := ⟨(keyB k)[i], List.getElem?_eq_getElem (by omega)⟩
  apply wm; iterate 5 exact rfl
  refine mv_int (v := .b true) rfl rfl (vi_lssT (by omega))
  refine wo ?_
  apply wn; iterate 5 exact rfl
  refine p_ia rfl rfl g
  refine zX (m_ldl (v := byV y) rfl (by rw [Nat.zero_add, List.getElem?_map, xorL_at hy]; rfl)) ?_
  refine wo ?_
  apply wm; iterate 5 exact rfl
  refine m_xorB rfl rfl
  apply wn; iterate 5 exact rfl
  refine p_ia rfl rfl g
  apply p_do; exact (vwant_n rfl); exact rfl; exact rfl
  refine e_st (C := (xorL (keyB k) x i).map byV) (C' := (xorL (keyB k) x (i + 1)).map byV) rfl rfl rfl (by rw [List.length_map, hll]; omega) (by rw [Nat.zero_add, ← List.map_set, xorL_set hy]) ⟨_, rfl, ?_⟩
  refine wo ?_
  exact ⟨rfl, i + 1, g, by omega, ⟨rfl, rfl, rfl, trivial⟩, fun hp h => h⟩
 ·apply wm; iterate 5 exact rfl
  refine mv_int (v := .b false) rfl rfl (vi_lssF (by omega))
  refine wo ?_
  refine w_exit ?_
  obtain rfl : i = 64 := by omega
  rw [xorL_all hkl]
  refine wo ?_
  exact w_ret (wend_ret (vres1 (rv_tmp rfl)) ⟨_, rfl, RowU.lit rfl (by rw [List.length_map, hkl])⟩)
set_option maxHeartbeats 8000000 in
theorem code03_d {k xs : List UInt8} {A A' : Option (Nat × Nat)} {c c' : Nat} {op op' : Bool} {hp : Hp} (ho : OkH hp) (hk : RTab ⟨hp, []⟩) (hA : RB ⟨hp, []⟩ A (k.map byV)) (h1 : k.length = 32) (hA' : RB ⟨hp, []⟩ A' (xs.map byV)) (hl : xs.length ≤ 1073741824) :
  Fn kxD 89 [.sl A k.length c op, .sl A' xs.length c' op'] hp [] fun r _ => r = .v (.agg ((macB k xs).map byV)) := by
 have hkl := keyB_len (k := k) (by omega)
 have hi : (ipad k).length = 64 := by unfold ipad; rw [List.length_map, hkl]
 have hop : (opad k).length = 64 := by unfold opad; rw [List.length_map, hkl]
 have hs1 : ((sumB (ipad k ++ xs)).map byV).length = 32 := by rw [List.length_map, sumB_len]
 have hm : ((macB k xs).map byV).length = 32 := by rw [List.length_map, macB_len]
 have hne : ∀ {l : List V}, l.length = 32 → l ≠ [] := fun hl e => by rw [e] at hl; simp at hl
 refine fn_of_w (T := []) ho.sv (fun _ => rfl) (fn := Tryz.f89) (by kernel_rfl) rfl rfl ?_
 refine wo ?_
 apply p_op; exact (vwant_n rfl); iterate 4 exact rfl
 refine e_alloc rfl fun bo => ⟨_, rfl, ?_⟩
 refine wo ?_
 apply p_callY []; exact (vwant_n rfl); iterate 4 exact rfl
 case hC => exact (fun hp hs ht => block03_d (x := 54) hs.ok (hA.give0 hs) (by omega) (by omega))
 rintro u1 N1 hu1
 obtain ⟨A1, o1, rfl⟩ := hu1.sl
 refine wo ?_
 apply p_op; exact (vwant_n rfl); iterate 4 exact rfl
 refine e_appW (xs := ipad k) hu1 rfl rfl hA'.z rfl u8_one (by omega) fun A2 m2 o2 N2 hu2 hm2 => ⟨_, rfl, ?_⟩
 have hm3 : (ipad k ++ xs).length = m2 := by rw [List.length_append, hm2]
 subst hm3
 refine wo ?_
 refine p_callq (vwant_n rfl) rfl rfl rfl rfl (fun hp hs => rsum_d hs.ok (hk.give0 hs) (hu2.rb0 hs) (by rw [List.length_append]; omega)) ?_
 apply p_op; exact (vwant_n rfl); iterate 4 exact rfl
 refine e_alloc rfl fun bh => ⟨_, rfl, ?_⟩
 apply p_do; exact (vwant_n rfl); exact rfl; exact rfl
 refine e_stn (C' := (sumB (ipad k ++ xs)).map byV) rfl rfl (hne hs1) hs1 (by simp) (overV_all (by rw [hs1]; simp)) ⟨_, rfl, ?_⟩
 refine wo ?_
 apply d_callY []; exact (vwant_n rfl); decide +kernel; (iterate 4 exact rfl)
 try (case hok => exact rdOk_nil)
 case hC => exact (fun hp hs ht => block03_d (x := 92) hs.ok (hA.give0 hs) (by omega) (by omega))
 rintro u3 N3 hu3
 obtain ⟨A3, o3, rfl⟩ := hu3.sl
 refine wo ?_
 refine yX (m_slaw rfl) ?_
 apply d_op; exact (vwant_n rfl); exact rfl; exact noRd rfl; decide +kernel; (iterate 3 exact rfl); rotate_left
 refine e_appW (xs := opad k) (ys := sumB (ipad k ++ xs)) hu3 rfl rfl (rz_loc (k := 32) (by rw [List.drop_zero]; exact List.take_of_length_le (by omega))) (sumB_len _) u8_one (by omega) fun A4 m4 o4 N4 hu4 hm4 => ⟨_, rfl, ?_⟩
 try (case hok => exact rdOk_b (by decide +kernel))
 have hm5 : (opad k ++ sumB (ipad k ++ xs)).length = m4 := by rw [List.length_append, hm4, sumB_len]
 subst hm5
 refine wo ?_
 refine p_callq (vwant_n rfl) rfl rfl rfl rfl (fun hp hs => rsum_d hs.ok (hk.give0 hs) (hu4.rb0 hs) (by rw [List.length_append, sumB_len]; omega)) ?_
 apply p_do; exact (vwant_n rfl); exact rfl; exact rfl
 refine e_stn (C' := (macB k xs).map byV) rfl rfl (hne hm) hm (by simp) (overV_all (vs := (macB k xs).map byV) (by rw [hm]; simp)) ⟨_, rfl, ?_⟩
 refine wo ?_
 exact w_ret (wend_ret (vres1 (rv_cell rfl hm)) rfl)
set_option maxHeartbeats 8000000 in
theorem code04_d {k xs : List UInt8} {A A' : Option (Nat × Nat)} {c c' cb : Nat} {op op' : Bool} {hp : Hp} (ho : OkH hp) (hk : RTab ⟨hp, []⟩) (hA : RB ⟨hp, []⟩ A (k.map byV)) (h1 : k.length = 32) (hA' : RB ⟨hp, []⟩ A' (xs.map byV)) (hl : xs.length ≤ 1073741824) (hcb : cb ≤ 256) :
  Fn kxD 64 [.i .i64 (cb : Int), .sl A k.length c op, .sl A' xs.length c' op'] hp [] fun r _ => r = .v (hK (cutB cb (macB k xs))) := by
 have hm : ((macB k xs).map byV).length = 32 := by rw [List.length_map, macB_len]
 have hc : ((cutB cb (macB k xs)).map byV).length = 32 := by rw [List.length_map, cutB_len, macB_len]
 have hne : ∀ {l : List V}, l.length = 32 → l ≠ [] := fun hl e => by rw [e] at hl; simp at hl
 refine fn_of_w (T := []) ho.sv (fun _ => rfl) (fn := Tryz.f64) (by kernel_rfl) rfl rfl ?_
 refine wo ?_
 apply p_op; exact (vwant_n rfl); iterate 4 exact rfl
 refine e_alloc rfl fun bo => ⟨_, rfl, ?_⟩
 refine wo ?_
 refine p_callq (vwant_n rfl) rfl rfl rfl rfl (fun hp hs => code03_d hs.ok (hk.give0 hs) (hA.give0 hs) h1 (hA'.give0 hs) hl) ?_
 apply p_op; exact (vwant_n rfl); iterate 4 exact rfl
 refine e_alloc rfl fun bh => ⟨_, rfl, ?_⟩
 apply p_do; exact (vwant_n rfl); exact rfl; exact rfl
 refine e_stn (C' := (macB k xs).map byV) rfl rfl (hne hm) hm (by simp) (overV_all (by rw [hm]; simp)) ⟨_, rfl, ?_⟩
 refine wo ?_
 refine zX (m_ldln (s := 31) (cs := (macB k xs).map byV) rfl (by rw [List.drop_zero]; exact List.take_of_length_le (by omega)) hm) ?_
 refine p_callq (vwant_n rfl) rfl rfl rfl rfl (fun hp hs => rcut_d (macB_len k xs) hcb hs.ok) ?_
 apply p_do; exact (vwant_n rfl); exact rfl; exact rfl
 refine e_stn (C' := (cutB cb (macB k xs)).map byV) rfl rfl (hne hc) hc (by simp) (overV_all (by rw [hc]; simp)) ⟨_, rfl, ?_⟩
 refine wo ?_
 exact w_ret (wend_ret (vres1 (rv_cell rfl hc)) rfl)
abbrev rbC (bits cb : Nat) (z cd : V) : List V := [.i .i64 (bits : Int), .i .i64 (cb : Int), z, .sl none 0 0 false, cd, .sl none 0 0 false]
set_option maxHeartbeats 8000000 in
theorem new04_d {A : Option (Nat × Nat)} {xs : List UInt8} {bits cb c : Nat} {op : Bool} {hp : Hp} (ho : OkH hp) (hA : RB ⟨hp, []⟩ A (xs.map byV)) (hx : xs.length = 32) (b1 : 8 ≤ bits) (b2 : bits ≤ 256) (c1 : 8 ≤ cb) (c2 : cb ≤ 256) :
  Fn kxD 34 [.i .i64 (bits : Int), .i .i64 (cb : Int), .sl A xs.length c op] hp [] fun r N => ∃ u, r = .v u ∧ ∃ b Z o M, u = .tup [.p (some (b, 0)), .i .i64 0] ∧ RowK xs (.sl Z xs.length xs.length o) M ∧ N = (some b, cellsO (rbC bits cb (.sl Z xs.length xs.length o) (.sl none 0 0 false)) 51) :: M := by
 refine Fn.dropC ?_
 refine fn_of_w (T := []) ho.sv (fun _ => rfl) (fn := Tryz.f34) (by kernel_rfl) rfl rfl ?_
 refine wo ?_
 apply wm; iterate 5 exact rfl
 refine mv_int (v := .b false) rfl rfl (vi_lssF (by omega))
 refine wo ?_
 apply wmg; iterate 7 exact rfl
 refine mv_int (v := .b false) rfl rfl (vi_gtrF (by omega))
 refine wo ?_
 apply wmg; iterate 7 exact rfl
 refine mv_int (v := .b false) rfl rfl (vi_lssF (by omega))
 refine wo ?_
 apply wmg; iterate 7 exact rfl
 refine mv_int (v := .b false) rfl rfl (vi_gtrF (by omega))
 refine wo ?_
 apply wm; iterate 5 exact rfl
 refine mv_int (v := .b false) rfl rfl (vi_neqF (by omega))
 refine wo ?_
 apply p_op; exact (vwant_n rfl); iterate 4 exact rfl
 refine e_bs (C := []) rfl rfl .nil rfl fun b0 => ⟨_, rfl, ?_⟩
 refine wo ?_
 apply p_op; exact (vwant_n rfl); iterate 4 exact rfl
 refine e_appW (ys := xs) lit0 rfl rfl hA.z rfl u8_one (by simp; omega) fun A1 m1 o1 N1 hu1 hm1 => ⟨_, rfl, ?_⟩
 rw [List.nil_append] at hu1
 have hm2 : xs.length = m1 := by rw [hm1]; simp
 subst hm2
 apply wn; iterate 5 exact rfl
 refine p_buildS (C := rbC bits cb (.sl A1 xs.length xs.length o1) (.sl none 0 0 false)) (.cons rfl rfl rfl rfl (Nat.le_of_ble_eq_true rfl) (.cons rfl rfl rfl rfl (Nat.le_of_ble_eq_true rfl) (.cons rfl rfl rfl rfl (Nat.le_of_ble_eq_true rfl) .nil))) rfl
 apply p_op; exact (vwant_n rfl); iterate 4 exact rfl
 refine ev_box rfl rfl fun b => ⟨_, rfl, ?_⟩
 refine wo ?_
 exact w_ret (wend_ret (vres2 (rv_tmp rfl) (rv_tmp rfl)) ⟨_ :: N1, cle, _, rfl, b, A1, o1, _, rfl, hu1, rfl⟩)
end Go.Proofs.YtbmkclbghfbegaaGreatDoor
/- Jsd: the document's Code and Write by a book that has coded nothing yet. By this project. -/
set_option maxRecDepth 100000
namespace Go.Proofs.YtbmkclbghfbegaaGreatDoor
open Go.RowKit Go.Extern.Stop
theorem place0_d {A : Option (Nat × Nat)} {n c : Nat} {o op : Bool} {hp : Hp} (ho : OkH hp) :
  Fn kxD 87 [.sl none 0 0 o, .sl A n c op] hp [] fun r _ => r = .v (.tup [.i .i64 0, .b false]) := by
 refine fn_of_w (T := []) ho.sv (fun _ => rfl) (fn := Tryz.f87) (by kernel_rfl) rfl rfl ?_
 refine wo ?_
 iterate 4 ((try refine w_seq ?_); refine wo ?_)
 refine w_loop (ι := Nat) (fun _ => [(6, .i .i64 0), (7, .i .i64 0)]) (fun _ => []) (fun _ => True) (fun _ => 0) 0 trivial ⟨rfl, rfl, trivial⟩ (fun hp h => h) ?_
 intro i _
 refine wo ?_
 apply wm; iterate 5 exact rfl
 refine mv_int (v := .b false) rfl rfl (vi_lssF (by omega))
 refine wo ?_
 refine w_exit ?_
 refine wo ?_
 exact w_ret (wend_ret (vres2 (rv_tmp rfl) (rv_tmp rfl)) rfl)
set_option maxHeartbeats 8000000 in
theorem note0_d {A : Option (Nat × Nat)} {xs h : List UInt8} {c : Nat} {o op : Bool} {hp : Hp} (ho : OkH hp) (hA : RB ⟨hp, []⟩ A (xs.map byV)) (hl : xs.length ≤ 1073741824) (hh : h.length = 32) :
  Fn kxD 65 [.sl none 0 0 o, .sl A xs.length c op, hK h] hp [] fun r N => ∃ u, r = .v u ∧ ∃ A' op', u = .sl A' 1 1 op' ∧ N = [] := by
 have hhl : (h.map byV).length = 32 := by rw [List.length_map, hh]
 refine Fn.dropC ?_
 refine fn_of_w (T := []) ho.sv (fun _ => rfl) (fn := Tryz.f65) (by kernel_rfl) rfl rfl ?_
 refine wo ?_
 apply p_op; exact (vwant_n rfl); iterate 4 exact rfl
 refine ev_box rfl rfl fun bh => ⟨_, rfl, ?_⟩
 refine wo ?_
 refine p_callq (vwant_n rfl) rfl rfl rfl rfl (fun hp hs => place0_d hs.ok) ?_
 refine wo ?_
 refine zX (m_slN rfl bl_none (bl_some rfl)) ?_
 apply p_op; exact (vwant_n rfl); iterate 4 exact rfl
 refine e_appE rfl rfl (Nat.le_refl 0) ⟨_, rfl, ?_⟩
 refine wo ?_
 apply d_op; exact (vwant_n rfl); exact rfl; exact noRd rfl; decide +kernel; (iterate 3 exact rfl); rotate_left
 refine e_bs (C := []) rfl rfl .nil rfl fun b0 => ⟨_, rfl, ?_⟩
 try (case hok => exact rdOk_nil)
 refine wd_know (φ := NotIn bh (hnds [(some b0, cellsO [] 5)])) (fun hp hs => ⟨fun h => by
  simp [hnds] at h
  subst h
  have := hs.one 0 1 _ _ _ rfl rfl
  omega⟩) fun hni => ?_
 refine wo ?_
 apply d_op; exact (vwant_n rfl); exact rfl; exact noRd rfl; decide +kernel; (iterate 3 exact rfl); rotate_left
 refine e_appW (ys := xs) lit0 rfl rfl hA.z rfl u8_one (by simp; omega) fun A1 m1 o1 N1 hu1 hm1 => ⟨_, rfl, ?_⟩
 try (case hok => exact rdOk_b (by decide +kernel))
 refine yX (m_ldln (s := 31) (cs := h.map byV) rfl (by rw [List.drop_zero]; exact List.take_of_length_le (by omega)) hhl) ?_
 apply dn; iterate 5 exact rfl
 refine p_buildS (C := .sl A1 m1 m1 o1 :: h.map byV) (.cons rfl rfl rfl rfl (Nat.le_of_ble_eq_true rfl) (.cons rfl rfl rfl hhl (Nat.le_of_ble_eq_true rfl) .nil)) (by simp only [putAllV, overV, hhl]; simp)
 apply d_op; exact (vwant_n rfl); exact rfl; exact noRd rfl; decide +kernel; (iterate 3 exact rfl); rotate_left
 refine e_bsn (C := .sl A1 m1 m1 o1 :: h.map byV) (n := 1) (sz := 33) rfl rfl (by decide) (.cons rfl rfl (by simp [hh]) .nil) (List.append_nil _) rfl fun b2 => ⟨_, rfl, ?_⟩
 try (case hok => exact rdOk_nil)
 apply d_op; exact (vwant_n rfl); exact rfl; exact noRd rfl; decide +kernel; (iterate 3 exact rfl); rotate_left
 refine e_appN (n := 1) (m := 0) (sz := 32) (cs := []) (ds := .sl A1 m1 m1 o1 :: h.map byV) .nil rfl rfl (rz_loc (k := 33) (by rw [List.drop_zero]; exact List.take_of_length_le (by simp [hh]))) (by simp [hh]) (by decide) (by decide) fun A3 o3 N3 hw3 => ⟨_, rfl, ?_⟩
 try (case hok => exact rdOk_nil)
 refine wo ?_
 refine zX (m_slN rfl (bl_some rfl) bl_none) ?_
 apply p_op; exact (vwant_n rfl); iterate 4 exact rfl
 refine e_appE rfl rfl (Nat.le_refl _) ⟨_, rfl, ?_⟩
 refine wo ?_
 exact w_ret (wend_ret (vres1 (rv_tmp rfl)) ⟨[], cle, _, rfl, A3, o3, rfl, rfl⟩)
set_option maxHeartbeats 8000000 in
theorem bcode04_d {b bits cb c : Nat} {Z A : Option (Nat × Nat)} {oz op : Bool} {sec xs : List UInt8} {hp : Hp} (h0 : SV ⟨hp, [b]⟩ hp [(some b, cellsO (rbC bits cb (.sl Z sec.length sec.length oz) (.sl none 0 0 false)) 51)]) (hk : RTab ⟨hp, [b]⟩) (hZ : RB ⟨hp, [b]⟩ Z (sec.map byV)) (hs32 : sec.length = 32) (hA : RB ⟨hp, [b]⟩ A (xs.map byV)) (hl : xs.length ≤ 1073741824) (hcb : cb ≤ 256) :
  Fn kxD 39 [.p (some (b, 0)), .sl A xs.length c op] hp [b] fun r N => ∃ u, r = .v u ∧ (u = hK (cutB cb (macB sec xs)) ∧ ∃ A' o', N = [(some b, cellsO (rbC bits cb (.sl Z sec.length sec.length oz) (.sl A' 1 1 o')) 51)]) := by
 have hc : (cutB cb (macB sec xs)).length = 32 := by rw [cutB_len, macB_len]
 have hc' : ((cutB cb (macB sec xs)).map byV).length = 32 := by rw [List.length_map, hc]
 have hne : ∀ {l : List V}, l.length = 32 → l ≠ [] := fun hl e => by rw [e] at hl; simp at hl
 refine Fn.dropC ?_
 refine fn_of_w h0 (fun _ => rfl) (fn := Tryz.f39) (by kernel_rfl) rfl rfl ?_
 refine wo ?_
 apply p_op; exact (vwant_n rfl); iterate 4 exact rfl
 refine e_alloc rfl fun bo => ⟨_, rfl, ?_⟩
 refine wo ?_
 refine d_callq (vwant_n rfl) (by decide +kernel) rfl rfl rfl rfl (fun hp hs => code04_d hs.ok (hk.give0 hs) (hZ.give0 hs) hs32 (hA.give0 hs) hl hcb) ?_
 apply d_op0; exact (vwant_n rfl); exact rfl; exact noRd rfl; decide +kernel; (iterate 3 exact rfl)
 refine en_alloc rfl fun bh => ?_
 apply d_do; exact (vwant_n rfl); exact rfl; exact noRd rfl; decide +kernel; exact rfl; rotate_left
 refine e_stn (C' := (cutB cb (macB sec xs)).map byV) rfl rfl (hne hc') hc' (by simp) (overV_all (by rw [hc']; simp)) ⟨_, rfl, ?_⟩
 try (case hok => exact rdOk_b (by decide +kernel))
 refine wo ?_
 refine yX (m_ldln (s := 31) (cs := (cutB cb (macB sec xs)).map byV) rfl (by rw [List.drop_zero]; exact List.take_of_length_le (by omega)) hc') ?_
 apply d_callY []; exact (vwant_n rfl); decide +kernel; (iterate 4 exact rfl)
 try (case hok => exact rdOk_nil)
 case hC => exact (fun hp hs ht => note0_d hs.ok (hA.give0 hs) hl hc)
 rintro u N ⟨A', o', rfl, rfl⟩
 refine wo ?_
 apply d_do; exact (vwant_n rfl); exact rfl; exact noRd rfl; decide +kernel; exact rfl; rotate_left
 refine e_st (C' := rbC bits cb (.sl Z sec.length sec.length oz) (.sl A' 1 1 o')) rfl rfl rfl (Nat.le_of_ble_eq_true rfl) rfl ⟨_, rfl, ?_⟩
 try (case hok => exact rdOk_b (by decide +kernel))
 refine wo ?_
 refine zX (m_ldln (s := 31) (cs := (cutB cb (macB sec xs)).map byV) rfl (by rw [List.drop_zero]; exact List.take_of_length_le (by omega)) hc') ?_
 apply p_do; exact (vwant_n rfl); exact rfl; exact rfl
 refine e_stn (C' := (cutB cb (macB sec xs)).map byV) rfl rfl (hne hc') hc' (by simp) (overV_all (by rw [hc']; simp)) ⟨_, rfl, ?_⟩
 refine wo ?_
 exact w_ret (wend_ret (vres1 (rv_cell rfl hc')) ⟨[_], cle, _, rfl, rfl, A', o', rfl⟩)
set_option maxHeartbeats 16000000 in
theorem write19_d {b bits cb : Nat} {Z : Option (Nat × Nat)} {oz : Bool} {sec : List UInt8} {r : Rec} {v : List V} {hp : Hp} (h0 : SV ⟨hp, [b]⟩ hp [(some b, cellsO (rbC bits cb (.sl Z sec.length sec.length oz) (.sl none 0 0 false)) 51)]) (hk : RTab ⟨hp, [b]⟩) (hZ : RB ⟨hp, [b]⟩ Z (sec.map byV)) (hs32 : sec.length = 32) (hr : RecR ⟨hp, [b]⟩ r v) (hcb : cb ≤ 256) :
  Fn kxD 11 [.p (some (b, 0)), .agg v] hp [b] fun r' N => ∃ u, r' = .v u ∧ ((mayR r → ∃ w M A' o', u = .tup [w, hK (cutB cb (macB sec (bodyB r))), .i .i64 0] ∧ RowK (frameB (bodyB r ++ cutB cb (macB sec (bodyB r)))) w M ∧ N = M ++ [(some b, cellsO (rbC bits cb (.sl Z sec.length sec.length oz) (.sl A' 1 1 o')) 51)]) ∧ (¬ mayR r → u = .tup [.sl none 0 0 false, hK (List.replicate 32 0), .i .i64 2] ∧ N = [(some b, cellsO (rbC bits cb (.sl Z sec.length sec.length oz) (.sl none 0 0 false)) 51)])) := by
 have hr0 := hr
 obtain ⟨hok, A, c, o, vs, rfl, hA, hvs⟩ := hr
 have hC : (recC r (.sl A r.ch.length c o)).length = 68 := recC_len hok
 have hne : ∀ {l : List V}, l.length = 32 → l ≠ [] := fun hl e => by rw [e] at hl; simp at hl
 refine Fn.dropC ?_
 refine fn_of_w h0 (fun _ => rfl) (fn := Tryz.f11) (by kernel_rfl) rfl rfl ?_
 refine wo ?_
 apply p_op; exact (vwant_n rfl); iterate 4 exact rfl
 refine ev_box rfl rfl fun bx => ⟨_, rfl, ?_⟩
 refine wo ?_
 apply p_op; exact (vwant_n rfl); iterate 4 exact rfl
 refine e_alloc rfl fun bh => ⟨_, rfl, ?_⟩
 refine wo ?_
 refine zX (m_ldln (s := 67) (cs := recC r (.sl A r.ch.length c o)) rfl (by rw [List.drop_zero]; exact List.take_of_length_le (by omega)) hC) ?_
 apply p_callY []; exact (vwant_n rfl); iterate 4 exact rfl
 case hC => exact (fun hp hs ht => body19_d hs.ok (hr0.give0 hs))
 rintro u N ⟨hgood, hbad⟩
 by_cases hm : mayR r
 rotate_left
 ·obtain ⟨rfl, rfl⟩ := hbad hm
  refine wo ?_
  apply wm; iterate 5 exact rfl
  refine mv_int (v := .b true) rfl rfl (vi_neqT ((by simp)))
  refine wo ?_
  apply wn; iterate 5 exact rfl
  refine p_buildA0
  refine wo ?_
  apply p_do; exact (vwant_n rfl); exact rfl; exact rfl
  refine e_stn (C' := (List.replicate 32 (0 : UInt8)).map byV) rfl rfl (by simp) rfl (by decide) rfl ⟨_, rfl, ?_⟩
  refine wo ?_
  exact w_ret (wend_ret (vres3 (rv_tmp rfl) (rv_cell rfl rfl) (rv_tmp rfl)) ⟨[_], cle, _, rfl, fun h => absurd h hm, fun _ => ⟨rfl, rfl⟩⟩)
 obtain ⟨w, rfl, hu⟩ := hgood hm
 obtain ⟨A1, o1, rfl⟩ := hu.sl
 have hbl := body_len hok hm
 have hcl : (cutB cb (macB sec (bodyB r))).length = 32 := by rw [cutB_len, macB_len]
 have hcl' : ((cutB cb (macB sec (bodyB r))).map byV).length = 32 := by rw [List.length_map, hcl]
 refine wo ?_
 apply wm; iterate 5 exact rfl
 refine mv_int (v := .b false) rfl rfl (vi_neqF ((by simp)))
 refine wo ?_
 apply p_callM ([(some b, cellsO (rbC bits cb (.sl Z sec.length sec.length oz) (.sl none 0 0 false)) 51)]); exact (vwant_n rfl); iterate 4 exact rfl
 case hC => exact (fun hp hs ht => bcode04_d ht (hk.give hs) (hZ.give hs) hs32 (hu.rb hs) (by omega) hcb)
 rintro u2 N2 ⟨rfl, A', o', rfl⟩
 apply p_op; exact (vwant_n rfl); iterate 4 exact rfl
 refine e_alloc rfl fun bt => ⟨_, rfl, ?_⟩
 apply p_do; exact (vwant_n rfl); exact rfl; exact rfl
 refine e_stn (C' := (cutB cb (macB sec (bodyB r))).map byV) rfl rfl (hne hcl') hcl' (by simp) (overV_all (by rw [hcl']; simp)) ⟨_, rfl, ?_⟩
 refine wo ?_
 apply d_op; exact (vwant_n rfl); exact rfl; exact noRd rfl; decide +kernel; (iterate 3 exact rfl); rotate_left
 refine e_bs (C := []) rfl rfl .nil rfl fun b0 => ⟨_, rfl, ?_⟩
 try (case hok => exact rdOk_nil)
 refine wo ?_
 apply d_op; exact (vwant_n rfl); exact rfl; exact noRd rfl; decide +kernel; (iterate 3 exact rfl); rotate_left
 refine e_appW (ys := bodyB r) lit0 rfl rfl hu.src rfl u8_one (by simp; omega) fun A2 m2 op2 N2 hu2 hm2 => ⟨_, rfl, ?_⟩
 try (case hok => exact rdOk_b (by decide +kernel))
 rw [List.nil_append] at hu2
 have hm2' : (bodyB r).length = m2 := by rw [hm2]; simp
 subst hm2'
 refine yX (m_slaw rfl) ?_
 apply d_op; exact (vwant_n rfl); exact rfl; exact noRd rfl; decide +kernel; (iterate 3 exact rfl); rotate_left
 refine e_appW (ys := cutB cb (macB sec (bodyB r))) hu2 rfl rfl (rz_loc (k := 32) (by rw [List.drop_zero]; exact List.take_of_length_le (by omega))) hcl u8_one (by omega) fun A3 m3 op3 N3 hu3 hm3 => ⟨_, rfl, ?_⟩
 try (case hok => exact rdOk_b (by decide +kernel))
 have hl3 : (bodyB r ++ cutB cb (macB sec (bodyB r))).length = (bodyB r).length + 32 := by rw [List.length_append, hcl]
 rw [← hl3] at hm3
 subst hm3
 apply d_callY []; exact (vwant_n rfl); decide +kernel; (iterate 4 exact rfl)
 try (case hok => exact rdOk_nil)
 case hC => exact (fun hp hs ht => wrap09_d hs.ok (hu3.rb (Lt := []) hs) (by omega))
 rintro u4 N4 ⟨w4, rfl, hu4⟩
 obtain ⟨A4, o4, rfl⟩ := hu4.sl
 refine wo ?_
 refine yX (m_ldln (s := 31) (cs := (cutB cb (macB sec (bodyB r))).map byV) rfl (by rw [List.drop_zero]; exact List.take_of_length_le (by omega)) hcl') ?_
 refine wo ?_
 apply d_do; exact (vwant_n rfl); exact rfl; exact noRd rfl; decide +kernel; exact rfl; rotate_left
 refine e_stn (C' := (cutB cb (macB sec (bodyB r))).map byV) rfl rfl (hne hcl') hcl' (by simp) (overV_all (by rw [hcl']; simp)) ⟨_, rfl, ?_⟩
 try (case hok => exact rdOk_b (by decide +kernel))
 refine wo ?_
 exact w_ret (wend_ret (vres3 (rv_tmp rfl) (rv_cell rfl hcl') (rv_tmp rfl)) ⟨N4 ++ [_], cle, _, rfl, fun _ => ⟨_, N4, A', o', rfl, hu4, rfl⟩, fun h => absurd hm h⟩)
end Go.Proofs.YtbmkclbghfbegaaGreatDoor
/- Ds18: the statement DigestLess on the machine: fewer bits are the first bits. By this project. -/
set_option maxRecDepth 100000
namespace Go.Proofs.YtbmkclbghfbegaaGreatDoor
open Go.RowKit Go.Extern.Stop
def kB (r : Nat) : UInt8 := UInt8.ofNat (128 / 2 ^ r)
def bt (y : UInt8) (r : Nat) : UInt8 := UInt8.ofNat ((UInt8.ofNat (y.toNat / (kB r).toNat)).toNat % (2 : UInt8).toNat)
end Go.Proofs.YtbmkclbghfbegaaGreatDoor
/- Ds19: equal bytes told as equal; DigestForges on the machine. By this project. -/
set_option maxRecDepth 100000
namespace Go.Proofs.YtbmkclbghfbegaaGreatDoor
open Go.RowKit Go.Extern.Stop
theorem common_d {A A2 : Option (Nat × Nat)} {xs : List UInt8} {c c2 : Nat} {o1 o2 : Bool} {hp : Hp} (ho : OkH hp) (hA : RB ⟨hp, []⟩ A (xs.map byV)) (hA2 : RB ⟨hp, []⟩ A2 (xs.map byV)) (hl : xs.length < 4611686018427387904) :
  Fn kxD 75 [.sl A xs.length c o1, .sl A2 xs.length c2 o2] hp [] fun r _ => r = .v (.i .i64 (xs.length : Int)) := by
 refine fn_of_w (T := []) ho.sv (fun _ => rfl) (fn := Tryz.f75) (by kernel_rfl) rfl rfl ?_
 refine wo ?_
 refine w_seq ?_
 refine wo ?_
 refine w_loop (ι := Nat) (fun i => [(5, .i .i64 (i : Nat)), (0, .sl A xs.length c o1), (1, .sl A2 xs.length c2 o2)]) (fun _ => []) (fun i => i ≤ xs.length) (fun i => xs.length - i) 0 (Nat.zero_le _) ⟨rfl, rfl, rfl, trivial⟩ (fun hp h => h) ?_
 intro i hi
 refine wo ?_
 by_cases g : i < xs.length
 ·obtain ⟨b1, p1, rfl⟩ := rv_some' hA.1.rv (by rw [List.length_map]; omega)
  obtain ⟨b2, p2, rfl⟩ := rv_some' hA2.1.rv (by rw [List.length_map]; omega)
  have hv : (xs.map byV)[i]? = some (byV xs[i]) := by rw [List.getElem?_map, List.getElem?_eq_getElem g]; rfl
  apply dm; iterate 6 exact rfl
  refine mv_int (v := .b true) rfl rfl (vi_lssT (by omega))
  refine wo ?_
  apply dmg; iterate 8 exact rfl
  refine mv_int (v := .b true) rfl rfl (vi_lssT (by omega))
  refine wo ?_
  apply dg; iterate 7 exact rfl
  refine p_ia rfl rfl g
  apply dmg; iterate 8 exact rfl
  refine m_ldN rfl hA.1 hA.2 rfl hv
  refine wo ?_
  apply dg; iterate 7 exact rfl
  refine p_ia rfl rfl g
  apply dmg; iterate 8 exact rfl
  refine m_ldN rfl hA2.1 hA2.2 rfl hv
  apply dmg; iterate 8 exact rfl
  refine mv_int (v := .b true) rfl rfl (vi_eqlT (rfl))
  refine wo ?_
  exact ⟨rfl, i + 1, g, by omega, ⟨rfl, rfl, rfl, trivial⟩, fun hp h => h⟩
 ·apply dm; iterate 6 exact rfl
  refine mv_int (v := .b false) rfl rfl (vi_lssF (by omega))
  refine wo ?_
  refine w_exit ?_
  obtain rfl : i = xs.length := by omega
  refine wo ?_
  exact w_ret (wend_ret (vres1 (rv_tmp rfl)) rfl)
theorem same_d {A A2 : Option (Nat × Nat)} {xs : List UInt8} {c c2 : Nat} {o1 o2 : Bool} {hp : Hp} (ho : OkH hp) (hA : RB ⟨hp, []⟩ A (xs.map byV)) (hA2 : RB ⟨hp, []⟩ A2 (xs.map byV)) (hl : xs.length < 4611686018427387904) :
  Fn kxD 14 [.sl A xs.length c o1, .sl A2 xs.length c2 o2] hp [] fun r _ => r = .v (.b true) := by
 have hcmp : ∀ {hp : Hp}, OkH hp → RB ⟨hp, []⟩ A (xs.map byV) → RB ⟨hp, []⟩ A2 (xs.map byV) → Fn kxD 47 [.sl A xs.length c o1, .sl A2 xs.length c2 o2] hp [] fun r _ => r = .v (.i .i64 0) := by
  intro hp ho hA hA2
  refine fn_of_w (T := []) ho.sv (fun _ => rfl) (fn := Tryz.f47) (by kernel_rfl) rfl rfl ?_
  refine wo ?_
  refine p_callq (vwant_n rfl) rfl rfl rfl rfl (fun hp hs => common_d hs.ok (hA.give0 hs) (hA2.give0 hs) hl) ?_
  refine wo ?_
  apply wm; iterate 5 exact rfl
  refine mv_int (v := .b true) rfl rfl (vi_eqlT (rfl))
  refine wo ?_
  apply wmg; iterate 7 exact rfl
  refine mv_int (v := .b true) rfl rfl (vi_eqlT (rfl))
  refine wo ?_
  exact w_ret (wend_ret (vres1 (rv_tmp rfl)) rfl)
 refine fn_of_w (T := []) ho.sv (fun _ => rfl) (fn := Tryz.f14) (by kernel_rfl) rfl rfl ?_
 refine wo ?_
 refine p_callq (vwant_n rfl) rfl rfl rfl rfl (fun hp hs => hcmp hs.ok (hA.give0 hs) (hA2.give0 hs)) ?_
 refine wo ?_
 apply wm; iterate 5 exact rfl
 refine mv_int (v := .b true) rfl rfl (vi_eqlT (rfl))
 refine wo ?_
 exact w_ret (wend_ret (vres1 (rv_tmp rfl)) rfl)
end Go.Proofs.YtbmkclbghfbegaaGreatDoor
/- Jse: the statements' Roomy, Whole, Copy, whole, Same. By this project. -/
set_option maxRecDepth 100000
namespace Go.Proofs.YtbmkclbghfbegaaGreatDoor
open Go.RowKit Go.Extern.Stop
section
variable {K : Kx} {hp0 : Bs} {l : VL} {L : HV}
theorem m_sl0 {t e : TypeId} {x : Operand} {lo hi : Option Operand} {b o m c j s : Nat} {op : Bool} [hS : SliceV K.C t e] [hs : SizeV K.C e s] (hx : evL l x = some (.sl (some (b, o)) m c op)) (hlo : BoundL l lo 0 0) (hhi : BoundL l hi m j) (h2 : j ≤ c) : MV K hp0 l L (.slice t x lo hi none) [] (.sl (some (b, o)) j c op) := by
 obtain ⟨ti, h3, h4⟩ := hS.h
 obtain ⟨te, h5, h6⟩ := hs.h
 refine mv_nil (fun _ _ => rfl) fun call fr hp hf => ?_
 show oSlice K.C fr hp t x lo hi none = _
 cases op with
 | true => simp only [oSlice, hf.ev hx, Option.bind_some, vslice, h3, hlo fr hf, h4, h5, hhi fr hf, leO_t h2, leO_t (Nat.zero_le j)]
 | false => simp only [oSlice, hf.ev hx, Option.bind_some, vslice, h3, hlo fr hf, h4, h5, hhi fr hf, leO_t h2, leO_t (Nat.zero_le j), offV_zero, Nat.sub_zero]
theorem e_appRn {tS tX e eX E : TypeId} {s x : Operand} {A : Option (Nat × Nat)} {b m n c c' i sz : Nat} {op op' : Bool} {C C' ds : List V} {oo : Option Nat} {mk : Bool} {L' : HV} {k : VR → HV → Prop} [hS : SliceV K.C tS e] [hz : SizeV K.C e (sz + 1)] [hX : SliceV K.C tX eX] (hs : evL l s = some (.sl (some (b, 0)) m c op)) (hx : evL l x = some (.sl A n c' op')) [hL : AtV b L (.cells C E oo mk) i] (hr : RZ hp0 L A ds) (hn : ds.length = n * (sz + 1)) (h0 : 0 < n) (hroom : m + n ≤ c) (hf : m * (sz + 1) + ds.length ≤ C.length) (hC : overV C (m * (sz + 1)) ds = C') [hS' : SetV L i (some b, .cells C' E oo mk) L']
  (hk : k (.v (.sl (some (b, 0)) (m + n) c op)) L') : EV K hp0 l L (.call { callee := .builtin .append, args := #[s, x], argTypes := #[tS, tX] }) [b] k := by
 obtain ⟨ti, h3, h4⟩ := hS.h
 obtain ⟨te, h5, h6⟩ := hz.h
 obtain ⟨tx, h7, h8⟩ := hX.h
 haveI : TiV K.C tS ti := ⟨h3⟩
 haveI : TiV K.C e te := ⟨h5⟩
 haveI : TiV K.C tX tx := ⟨h7⟩
 refine ev_appR (C := C) (C' := C') (o := 0) hs hx h4 (src_sl h8 hr (by rw [h6]; exact hn) (by omega)) (fun e => ?_) hroom (by rw [h6]; omega) (by rw [h6, Nat.zero_add]; exact hC) hk
 rw [e, List.length_nil] at hn
 have := Nat.mul_pos h0 (show 0 < sz + 1 by omega)
 omega
theorem m_neqs {a b : Operand} {t t' : TypeId} {x y : List UInt8} (hx : evL l a = some (.s x)) (hy : evL l b = some (.s y)) : MVO K hp0 l L (.binOp .neq t a b t') (.b (!(x == y))) := mv_str hx hy (by
 simp only [vstr, byEq_iff])
theorem e_mksn {t e : TypeId} {x y : Operand} {m c s : Nat} {p q : Int} {k k' : IntKind} {z : V} {zc : List V} {kk : VR → HV → Prop} [hS : SliceV K.C t e] [hz : ZeroV K.C e z] (hx : evL l x = some (.i k p)) [hp' : CastN p m] (hy : evL l y = some (.i k' q)) [hq : CastN q c] (hc : z.cells = some zc) (hmc : m ≤ c) (hg : ∃ te, tiV K.C e = some te ∧ growB c te.bytes = true) (hzl : zc.length = s)
  (hk : ∀ b C, C.length = c * s → kk (.v (.sl (some (b, 0)) m c false)) ((some b, cellsO C e) :: L)) : EV K hp0 l L (.makeSlice t x y) [] kk := by
 obtain ⟨ti, h3, h4⟩ := hS.h
 obtain ⟨te, h5, h6⟩ := hz.h
 obtain ⟨te', h7, h8⟩ := hg
 rw [h5] at h7
 obtain rfl := Option.some.inj h7
 obtain rfl := hp'.h
 obtain rfl := hq.h
 haveI : TiV K.C t ti := ⟨h3⟩
 haveI : TiV K.C e te := ⟨h5⟩
 refine ev_mksG hx hy h4 h6 hc hmc h8 fun b => hk b _ ?_
 clear hy hmc h8 hk hq
 induction c with
 | zero => rw [repL_zero]; simp
 | succ c ih => rw [repL_succ, List.length_append, ih, hzl, Nat.succ_mul, Nat.add_comm]
end
def mk3 : List UInt8 := [77, 78, 79]
theorem roomy01_d {A : Option (Nat × Nat)} {xs : List UInt8} {c : Nat} {op : Bool} {hp : Hp} (ho : OkH hp) (hA : RB ⟨hp, []⟩ A (xs.map byV)) (hl : xs.length ≤ 140737488355328) :
  Fn kxD 24 [.sl A xs.length c op] hp [] fun r N => ∃ u, r = .v u ∧ ∃ b o1 oo, u = .sl (some (b, 0)) xs.length (xs.length + 3) o1 ∧ N = [(some b, .cells ((xs ++ mk3).map byV) 5 oo false)] := by
 refine Fn.dropC ?_
 refine fn_of_w (T := []) ho.sv (fun _ => rfl) (fn := Tryz.f24) (by kernel_rfl) rfl rfl ?_
 refine wo ?_
 apply p_op; exact (vwant_n rfl); iterate 4 exact rfl
 refine e_bs (C := []) rfl rfl .nil rfl fun bn => ⟨_, rfl, ?_⟩
 refine wo ?_
 apply p_op; exact (vwant_n rfl); iterate 4 exact rfl
 refine e_appW (ys := xs) lit0 rfl rfl hA.z rfl u8_one (by simp; omega) fun A1 m1 o1 N1 hu1 hm1 => ⟨_, rfl, ?_⟩
 apply p_op; exact (vwant_n rfl); iterate 4 exact rfl
 refine e_bs (C := mk3.map byV) rfl rfl (.cons rfl rfl (.cons rfl rfl (.cons rfl rfl .nil))) rfl fun bm => ⟨_, rfl, ?_⟩
 apply p_op; exact (vwant_n rfl); iterate 4 exact rfl
 refine e_appW (ys := mk3) hu1 rfl rfl (rz_loc (k := 3) rfl) rfl u8_one (by simp; omega) fun A2 m2 o2 N2 hu2 hm2 => ⟨_, rfl, ?_⟩
 rw [List.nil_append] at hu2
 have hm3 : m2 = xs.length + 3 := by rw [hm2]; simp
 subst hm3
 refine wo ?_
 generalize hys : xs ++ mk3 = ys at hu2
 have hyl : ys.length = xs.length + 3 := by rw [← hys, List.length_append]; rfl
 generalize hw : V.sl A2 (xs.length + 3) (xs.length + 3) o2 = w2 at hu2
 cases hu2 with
 | nil => simp at hyl
 | @own _ b2 op2 oo h =>
  rw [hyl] at hw
  obtain ⟨rfl, rfl⟩ : A2 = some (b2, 0) ∧ o2 = op2 := by injection hw with h1 _ _ h2; exact ⟨h1, h2⟩
  refine zX (m_sl0 rfl bl_none (bl_some rfl) (by omega)) ?_
  refine wo ?_
  exact w_ret (wend_ret (vres1 (rv_tmp rfl)) ⟨[_], cle, _, rfl, b2, o2, oo, by rw [hyl], rfl⟩)
theorem whole01_d {b0 c2 : Nat} {A : Option (Nat × Nat)} {xs : List UInt8} {o1 o2 : Bool} {hp : Hp} (ho : OkH hp) (hR : RB ⟨hp, []⟩ (some (b0, 0)) ((xs ++ mk3).map byV)) (hA : RB ⟨hp, []⟩ A (xs.map byV)) (hl : xs.length ≤ 140737488355328) :
  Fn kxD 30 [.sl (some (b0, 0)) xs.length (xs.length + 3) o1, .sl A xs.length c2 o2] hp [] fun r _ => r = .v (.b true) := by
 have hT : RB ⟨hp, []⟩ (some (b0, 0)) (xs.map byV) := by
  have := hR.take xs.length
  rwa [List.map_append, List.take_append_of_le_length (by simp), List.take_of_length_le (by simp)] at this
 have hat : ∀ k y, mk3[k]? = some y → ((xs ++ mk3).map byV)[xs.length + k]? = some (byV y) := fun k y h => by
  rw [List.getElem?_map, List.getElem?_append_right (by omega), Nat.add_sub_cancel_left, h]; rfl
 refine fn_of_w (T := []) ho.sv (fun _ => rfl) (fn := Tryz.f30) (by kernel_rfl) rfl rfl ?_
 refine wo ?_
 apply wm; iterate 5 exact rfl
 refine mv_int (v := .b false) rfl rfl (vi_neqF ((by simp)))
 refine wo ?_
 refine p_callq (vwant_g rfl rfl rfl) rfl rfl rfl rfl (fun hp hs => same_d hs.ok (hT.give0 hs) (hA.give0 hs) (by omega)) ?_
 refine wo ?_
 refine zX (m_sl0 rfl bl_none (bl_some rfl) (Nat.le_refl _)) ?_
 refine wo ?_
 apply wn; iterate 5 exact rfl
 refine p_ia rfl rfl (by omega)
 apply wm; iterate 5 exact rfl
 refine m_ldN (j := xs.length + 0) (v := byV 77) rfl hR.1 hR.2 (by omega) (hat 0 77 rfl)
 apply wm; iterate 5 exact rfl
 refine mv_int (v := .b true) rfl rfl (vi_eqlT (rfl))
 refine wo ?_
 apply wg; iterate 7 exact rfl
 refine p_ia rfl rfl (by omega)
 apply wmg; iterate 7 exact rfl
 refine m_ldN (j := xs.length + 1) (v := byV 78) rfl hR.1 hR.2 (by omega) (hat 1 78 rfl)
 apply wmg; iterate 7 exact rfl
 refine mv_int (v := .b true) rfl rfl (vi_eqlT (rfl))
 refine wo ?_
 apply wg; iterate 7 exact rfl
 refine p_ia rfl rfl (by omega)
 apply wmg; iterate 7 exact rfl
 refine m_ldN (j := xs.length + 2) (v := byV 79) rfl hR.1 hR.2 (by omega) (hat 2 79 rfl)
 apply wmg; iterate 7 exact rfl
 refine mv_int (v := .b true) rfl rfl (vi_eqlT (rfl))
 refine wo ?_
 exact w_ret (wend_ret (vres1 (rv_tmp rfl)) rfl)
set_option maxHeartbeats 16000000 in
theorem same19_d {r : Rec} {v w : List V} {hp : Hp} (ho : OkH hp) (hv : RecR ⟨hp, []⟩ r v) (hw : RecR ⟨hp, []⟩ r w) :
  Fn kxD 20 [.agg v, .agg w] hp [] fun r' _ => r' = .v (.b true) := by
 obtain ⟨hok, A, c, o, vs, rfl, hA, hvs⟩ := hv
 obtain ⟨_, A', c', o', ws, rfl, hA', hws⟩ := hw
 have hrl := hok.len
 have hch : (recC r (.sl A r.ch.length c o))[0 + 67]? = some (.sl A r.ch.length c o) := by rw [Nat.zero_add]; exact recC_ch hok
 have hch' : (recC r (.sl A' r.ch.length c' o'))[0 + 67]? = some (.sl A' r.ch.length c' o') := by rw [Nat.zero_add]; exact recC_ch hok
 have h32 : (r.prev.map byV).length = 32 := by rw [List.length_map, hok.prev]
 have h32' : (r.root.map byV).length = 32 := by rw [List.length_map, hok.root]
 refine fn_of_w (T := []) ho.sv (fun _ => rfl) (fn := Tryz.f20) (by kernel_rfl) rfl rfl ?_
 refine wo ?_
 apply p_op; exact (vwant_n rfl); iterate 4 exact rfl
 refine ev_box rfl rfl fun b1 => ⟨_, rfl, ?_⟩
 apply p_op; exact (vwant_n rfl); iterate 4 exact rfl
 refine ev_box rfl rfl fun b2 => ⟨_, rfl, ?_⟩
 refine wo ?_
 apply wm; iterate 5 exact rfl
 refine mv_int (v := .b false) rfl rfl (vi_neqF ((by simp)))
 refine wo ?_
 apply wmg; iterate 7 exact rfl
 refine mv_int (v := .b false) rfl rfl (vi_neqF ((by simp)))
 refine wo ?_
 apply wmg; iterate 7 exact rfl
 refine mv_int (v := .b false) rfl rfl (vi_neqF ((by simp)))
 refine wo ?_
 refine zX (m_ldln (s := 31) (cs := r.prev.map byV) rfl (recC_prev hok) h32) ?_
 refine wo ?_
 refine zX (m_ldln (s := 31) (cs := r.prev.map byV) rfl (recC_prev hok) h32) ?_
 apply wmg; iterate 7 exact rfl
 refine m_neqA rfl rfl rfl hok.prev hok.prev
 rw [decide_eq_true rfl]
 refine wo ?_
 refine zX (m_ldln (s := 31) (cs := r.root.map byV) rfl (recC_root hok) h32') ?_
 refine wo ?_
 refine zX (m_ldln (s := 31) (cs := r.root.map byV) rfl (recC_root hok) h32') ?_
 apply wmg; iterate 7 exact rfl
 refine m_neqA rfl rfl rfl hok.root hok.root
 rw [decide_eq_true rfl]
 refine wo ?_
 refine zX (m_ldl rfl hch) ?_
 refine wo ?_
 refine zX (m_ldl rfl hch') ?_
 refine wo ?_
 apply wmg; iterate 7 exact rfl
 refine mv_int (v := .b false) rfl rfl (vi_neqF ((by simp)))
 refine wo ?_
 iterate 4 ((try refine w_seq ?_); refine wo ?_)
 refine w_loop (ι := Nat) (fun i => [(5, .i .i64 (i : Nat)), (2, .p (some (b1, 0))), (3, .p (some (b2, 0)))]) (fun i => [(some b2, cellsO (recC r (.sl A' r.ch.length c' o')) 26), (some b1, cellsO (recC r (.sl A r.ch.length c o)) 26)]) (fun i => i ≤ r.ch.length) (fun i => r.ch.length - i) 0 (Nat.zero_le _) ⟨rfl, rfl, rfl, trivial⟩ (fun hp h => h) ?_
 intro i hi
 refine wo ?_
 refine zX (m_ldl rfl hch) ?_
 refine wo ?_
 by_cases g : i < r.ch.length
 rotate_left
 ·apply wm; iterate 5 exact rfl
  refine mv_int (v := .b false) rfl rfl (vi_lssF (by omega))
  refine wo ?_
  refine w_exit ?_
  refine wo ?_
  exact w_ret (wend_ret (vres1 (rv_tmp rfl)) rfl)
 obtain ⟨b, oa, vi, rfl, hvi, hti, h3, hne⟩ := ch_at hA hvs g
 obtain ⟨A1, kc, ko, A2, vc, vo, rfl, hk1, hk2⟩ := hti
 obtain ⟨b', oa', vi', rfl, hvi', hti', h3', hne'⟩ := ch_at hA' hws g
 obtain ⟨A1', kc', ko', A2', vc', vo', rfl, hk1', hk2'⟩ := hti'
 have hkv := hok.kv _ (List.getElem_mem g)
 apply wm; iterate 5 exact rfl
 refine mv_int (v := .b true) rfl rfl (vi_lssT (by omega))
 refine wo ?_
 refine yX (m_ldl rfl hch) ?_
 refine wo ?_
 apply dn; iterate 5 exact rfl
 refine p_ian rfl rfl g
 apply dm; iterate 6 exact rfl
 refine m_ldnN (j := i * 3) (s := 2) rfl hA.1 hA.2 rfl hvi h3
 refine wo ?_
 refine yX (m_ldl rfl hch') ?_
 refine wo ?_
 apply dn; iterate 5 exact rfl
 refine p_ian rfl rfl g
 apply dm; iterate 6 exact rfl
 refine m_ldnN (j := i * 3) (s := 2) rfl hA'.1 hA'.2 rfl hvi' h3'
 apply d_op; exact (vwant_n rfl); exact rfl; exact noRd rfl; decide +kernel; (iterate 3 exact rfl); rotate_left
 refine e_alloc rfl fun b5 => ⟨_, rfl, ?_⟩
 try (case hok => exact rdOk_nil)
 apply d_op0; exact (vwant_n rfl); exact rfl; exact noRd rfl; decide +kernel; (iterate 3 exact rfl)
 refine en_alloc rfl fun b6 => ?_
 refine wd_know (φ := (NotIn b1 [b5] ∧ NotIn b2 [b5]) ∧ NotIn b1 [b6] ∧ NotIn b2 [b6]) (fun hp hs => ⟨⟨⟨fun h => ?_⟩, ⟨fun h => ?_⟩⟩, ⟨fun h => ?_⟩, ⟨fun h => ?_⟩⟩) fun hni => ?_
 ·have := List.mem_singleton.1 h
  subst this
  have := hs.one 1 3 _ _ _ rfl rfl
  omega
 ·have := List.mem_singleton.1 h
  subst this
  have := hs.one 1 2 _ _ _ rfl rfl
  omega
 ·have := List.mem_singleton.1 h
  subst this
  have := hs.one 0 3 _ _ _ rfl rfl
  omega
 ·have := List.mem_singleton.1 h
  subst this
  have := hs.one 0 2 _ _ _ rfl rfl
  omega
 obtain ⟨⟨n1, n2⟩, n3, n4⟩ := hni
 apply d_do; exact (vwant_n rfl); exact rfl; exact noRd rfl; decide +kernel; exact rfl; rotate_left
 refine e_stn (C' := [.sl A1 r.ch[i].key.length kc ko, .sl A2 r.ch[i].val.length vc vo, .b r.ch[i].gone]) rfl rfl hne h3 (Nat.le_of_ble_eq_true rfl) rfl ⟨_, rfl, ?_⟩
 try (case hok => exact rdOk_c)
 apply d_do; exact (vwant_n rfl); exact rfl; exact noRd rfl; decide +kernel; exact rfl; rotate_left
 refine e_stn (C' := [.sl A1' r.ch[i].key.length kc' ko', .sl A2' r.ch[i].val.length vc' vo', .b r.ch[i].gone]) rfl rfl hne' h3' (Nat.le_of_ble_eq_true rfl) rfl ⟨_, rfl, ?_⟩
 try (case hok => exact rdOk_b (by decide +kernel))
 try (case hok => exact rdOk_c)
 refine wo ?_
 apply wm; iterate 5 exact rfl
 refine m_neqb rfl rfl rfl
 rw [beq_self_eq_true]
 refine wo ?_
 refine p_callq (vwant_g rfl rfl rfl) rfl rfl rfl rfl (fun hp hs => same_d hs.ok (hk1.give0 hs) (hk1'.give0 hs) (by omega)) ?_
 refine wo ?_
 refine p_callq (vwant_g rfl rfl rfl) rfl rfl rfl rfl (fun hp hs => same_d hs.ok (hk2.give0 hs) (hk2'.give0 hs) (by omega)) ?_
 refine wo ?_
 exact ⟨rfl, i + 1, g, by omega, ⟨rfl, rfl, rfl, trivial⟩, fun hp h => h.le⟩
end Go.Proofs.YtbmkclbghfbegaaGreatDoor
/- Jsf: the statement's Copy and whole. By this project. -/
set_option maxRecDepth 100000
namespace Go.Proofs.YtbmkclbghfbegaaGreatDoor
open Go.RowKit Go.Extern.Stop
def markS : List UInt8 := [109, 97, 114, 107]
abbrev markC (bm : Nat) : List V := [.sl (some (bm, 0)) 4 4 false, .sl none 0 0 false, .b false]
def WhR (B : Bs) (c : Chg) (v : List V) : Prop := ∃ k o1 v' o2, v = [.sl (some (k, 0)) c.key.length (c.key.length + 3) o1, .sl (some (v', 0)) c.val.length (c.val.length + 3) o2, .b c.gone] ∧ RB B (some (k, 0)) ((c.key ++ mk3).map byV) ∧ RB B (some (v', 0)) ((c.val ++ mk3).map byV)
def WhRs (B : Bs) : List Chg → List (List V) → Prop
 | [], vs => vs = []
 | c :: r, vs => ∃ v ws, vs = v :: ws ∧ WhR B c v ∧ WhRs B r ws
theorem rb_mk3 {B : Bs} {A : Option (Nat × Nat)} {xs : List UInt8} (h : RB B A ((xs ++ mk3).map byV)) : RB B A (xs.map byV) := by
 have := h.take xs.length
 rwa [List.map_append, List.take_append_of_le_length (by simp), List.take_of_length_le (by simp)] at this
theorem WhR.chg {B : Bs} {c : Chg} {v : List V} (h : WhR B c v) : ChgR B c v := by
 obtain ⟨k, o1, v', o2, rfl, h1, h2⟩ := h
 exact ⟨_, _, _, _, _, _, rfl, rb_mk3 h1, rb_mk3 h2⟩
theorem whRs_chgs {B : Bs} : ∀ {l : List Chg} {vs : List (List V)}, WhRs B l vs → ChgRs B l vs
 | [], vs, h => h
 | t :: r, vs, h => by
  obtain ⟨v, ws, h0, h1, h2⟩ := h
  exact ⟨v, ws, h0, h1.chg, whRs_chgs h2⟩
theorem whRs_at {B : Bs} : ∀ {l : List Chg} {vs : List (List V)} {i : Nat} {t : Chg}, WhRs B l vs → l[i]? = some t → ∃ v, vs[i]? = some v ∧ WhR B t v
 | [], _, _, _, _, hi => by simp at hi
 | x :: r, vs, 0, t, h, hi => by
  obtain ⟨v, ws, rfl, h1, _⟩ := h
  simp only [List.getElem?_cons_zero, Option.some.injEq] at hi
  subst hi
  exact ⟨v, rfl, h1⟩
 | x :: r, vs, i + 1, t, h, hi => by
  obtain ⟨v, ws, rfl, _, h2⟩ := h
  have := whRs_at (i := i) (t := t) h2 (by simpa using hi)
  simpa using this
theorem whRs_app {B : Bs} : ∀ {l r : List Chg} {vs ws : List (List V)}, WhRs B l vs → WhRs B r ws → WhRs B (l ++ r) (vs ++ ws)
 | [], r, vs, ws, h, k => by rw [WhRs] at h; subst h; exact k
 | t :: l, r, vs, ws, h, k => by
  obtain ⟨v, us, rfl, h1, h2⟩ := h
  exact ⟨v, us ++ ws, rfl, h1, whRs_app h2 k⟩
theorem whRs_len {B : Bs} : ∀ {l : List Chg} {vs : List (List V)}, WhRs B l vs → vs.flatten.length = l.length * 3
 | [], vs, h => by rw [WhRs] at h; subst h; rfl
 | t :: r, vs, h => by
  obtain ⟨v, ws, rfl, h1, h2⟩ := h
  rw [List.flatten_cons, List.length_append, whRs_len h2, chgR_len h1.chg, List.length_cons, Nat.succ_mul, Nat.add_comm]
theorem whR_mono {B B' : Bs} (hm : ∀ {A : Option (Nat × Nat)} {cs : List V}, RB B A cs → RB B' A cs) {c : Chg} {v : List V} (h : WhR B c v) : WhR B' c v := by
 obtain ⟨k, o1, v', o2, rfl, h1, h2⟩ := h
 exact ⟨k, o1, v', o2, rfl, hm h1, hm h2⟩
theorem whRs_mono {B B' : Bs} (hm : ∀ {A : Option (Nat × Nat)} {cs : List V}, RB B A cs → RB B' A cs) : ∀ {l : List Chg} {vs : List (List V)}, WhRs B l vs → WhRs B' l vs
 | [], vs, h => h
 | t :: r, vs, h => by
  obtain ⟨v, ws, h0, h1, h2⟩ := h
  exact ⟨v, ws, h0, whR_mono hm h1, whRs_mono hm h2⟩
def SeenW (X : HV) (l : List Chg) (us : List (List V)) : Prop := ∀ (B : Bs) (hp : Hp) (Lt Lr : HV), SV B hp (Lt ++ Lr) → (∀ p ∈ X, p ∈ Lr) → WhRs ⟨hp, hnds Lt⟩ l us
theorem rb_mem {B : Bs} {hp : Hp} {Lt Lr : HV} {b : Nat} {C cs : List V} {E : TypeId} {op : Option Nat} {mk : Bool} (hs : SV B hp (Lt ++ Lr)) (h : (some b, VO.cells C E op mk) ∈ Lr) (hc : C.take cs.length = cs) : RB ⟨hp, hnds Lt⟩ (some (b, 0)) cs := by
 obtain ⟨j, hj⟩ := List.getElem?_of_mem h
 exact rb_own hs hj (by rw [List.drop_zero]; exact hc)
def CopX (N : HV) (r : Rec) (w : List V) : Prop := RecOk r ∧ ∃ bl us bm X, w = recC r (.sl (some (bl, 0)) r.ch.length (r.ch.length + 1) false) ∧ N = (some bl, cellsO (us.flatten ++ markC bm) 87) :: (some bm, .cells (markS.map byV) 5 none true) :: X ∧ SeenW X r.ch us
def CopR (B : Bs) (r : Rec) (w : List V) : Prop := RecOk r ∧ ∃ bl us bm, w = recC r (.sl (some (bl, 0)) r.ch.length (r.ch.length + 1) false) ∧ RB B (some (bl, 0)) (us.flatten ++ markC bm) ∧ RB B (some (bm, 0)) (markS.map byV) ∧ WhRs B r.ch us
theorem CopX.see {N : HV} {r : Rec} {w : List V} (h : CopX N r w) {B : Bs} {hp : Hp} {Lt Lr : HV} (hs : SV B hp (Lt ++ Lr)) (hm : ∀ p ∈ N, p ∈ Lr) : CopR ⟨hp, hnds Lt⟩ r w := by
 obtain ⟨h0, bl, us, bm, X, h1, rfl, h3⟩ := h
 exact ⟨h0, bl, us, bm, h1, rb_mem hs (hm _ List.mem_cons_self) (List.take_of_length_le (Nat.le_refl _)), rb_mem hs (hm _ (List.mem_cons_of_mem _ List.mem_cons_self)) (List.take_of_length_le (Nat.le_refl _)), h3 B hp Lt Lr hs fun p hp => hm p (List.mem_cons_of_mem _ (List.mem_cons_of_mem _ hp))⟩
theorem CopR.rec {B : Bs} {r : Rec} {w : List V} (h : CopR B r w) : RecR B r w := by
 obtain ⟨h0, bl, us, bm, h1, h2, h3, h4⟩ := h
 refine ⟨h0, some (bl, 0), r.ch.length + 1, false, us, h1, ?_, whRs_chgs h4⟩
 have := h2.take us.flatten.length
 rwa [List.take_append_of_le_length (Nat.le_refl _), List.take_of_length_le (Nat.le_refl _)] at this
theorem CopR.mono {B B' : Bs} (hm : ∀ {A : Option (Nat × Nat)} {cs : List V}, RB B A cs → RB B' A cs) {r : Rec} {w : List V} (h : CopR B r w) : CopR B' r w := by
 obtain ⟨h0, bl, us, bm, h1, h2, h3, h4⟩ := h
 exact ⟨h0, bl, us, bm, h1, hm h2, hm h3, whRs_mono hm h4⟩
theorem recC_set {r : Rec} {s s' : V} (h : RecOk r) : (recC r s).set (0 + 67) s' = recC r s' := by
 simp only [recC, Nat.zero_add, List.set_cons_succ]
 rw [List.set_append_right _ _ (by simp [h.prev]), List.length_map, h.prev, List.set_append_right _ _ (by simp [h.root]), List.length_map, h.root]
 rfl
theorem over_row {us : List (List V)} {rest vi : List V} {k n : Nat} (hn : vi.length = n) (hl : us.flatten.length = k) (hr : n ≤ rest.length) : overV (us.flatten ++ rest) k vi = (us ++ [vi]).flatten ++ rest.drop n := by
 subst hn
 unfold overV
 rw [← hl, List.take_append_of_le_length (Nat.le_refl _), List.take_of_length_le (Nat.le_refl _), List.drop_append, List.drop_of_length_le (by omega), Nat.add_sub_cancel_left, flat_snoc, List.nil_append]
theorem chg_bytes : (tiV vC 87).map (·.bytes) = some 56 := by kernel_rfl
theorem chg_grow {n : Nat} (h : n * 56 ≤ 140737488355328) : ∃ te, tiV kxD.C 87 = some te ∧ growB (n + 1) te.bytes = true := by
 obtain ⟨te, h1, h2⟩ := Option.map_eq_some_iff.1 chg_bytes
 refine ⟨te, h1, ?_⟩
 rw [h2]
 unfold growB
 simp only [Bool.and_eq_true]
 exact ⟨⟨ble_t (by omega), ble_t (by omega)⟩, rfl⟩
set_option maxHeartbeats 16000000 in
theorem copy_d {r : Rec} {v : List V} {hp : Hp} (ho : OkH hp) (hr : RecR ⟨hp, []⟩ r v) :
  Fn kxD 8 [.agg v] hp [] fun r' N => ∃ u, r' = .v u ∧ ∃ w, u = .agg w ∧ CopX N r w := by
 obtain ⟨hok, A, c, o, vs, rfl, hA, hvs⟩ := hr
 have hC : ∀ {s : V}, (recC r s).length = 68 := recC_len hok
 have hrl := hok.len
 have hch : (recC r (.sl A r.ch.length c o))[0 + 67]? = some (.sl A r.ch.length c o) := by rw [Nat.zero_add]; exact recC_ch hok
 have hne : ∀ {s : V}, recC r s ≠ [] := fun e => by unfold recC at e; simp at e
 refine Fn.dropC ?_
 refine fn_of_w (T := []) ho.sv (fun _ => rfl) (fn := Tryz.f8) (by kernel_rfl) rfl rfl ?_
 refine wo ?_
 apply p_op; exact (vwant_n rfl); iterate 4 exact rfl
 refine ev_box rfl rfl fun bx => ⟨_, rfl, ?_⟩
 apply p_op; exact (vwant_n rfl); iterate 4 exact rfl
 refine e_alloc rfl fun bo => ⟨_, rfl, ?_⟩
 refine wo ?_
 refine zX (m_ldl rfl hch) ?_
 refine wo ?_
 apply p_op; exact (vwant_n rfl); iterate 4 exact rfl
 refine e_mksn (s := 3) (m := 0) (c := r.ch.length + 1) rfl rfl rfl (Nat.zero_le _) (chg_grow hrl) rfl fun bl C0 hC0 => ⟨_, rfl, ?_⟩
 refine wo ?_
 iterate 4 ((try refine w_seq ?_); refine wo ?_)
 refine w_loop (ι := Nat × HV × List (List V) × List V) (fun s => [(4, .i .i64 (s.1 : Nat)), (3, .sl (some (bl, 0)) s.1 (r.ch.length + 1) false), (2, .p (some (bo, 0))), (1, .p (some (bx, 0)))]) (fun s => (some bl, cellsO (s.2.2.1.flatten ++ s.2.2.2) 87) :: (some bo, cellsO [.i .i64 0, .i .i64 0, .i .i64 0, byV 0, byV 0, byV 0, byV 0, byV 0, byV 0, byV 0, byV 0, byV 0, byV 0, byV 0, byV 0, byV 0, byV 0, byV 0, byV 0, byV 0, byV 0, byV 0, byV 0, byV 0, byV 0, byV 0, byV 0, byV 0, byV 0, byV 0, byV 0, byV 0, byV 0, byV 0, byV 0, byV 0, byV 0, byV 0, byV 0, byV 0, byV 0, byV 0, byV 0, byV 0, byV 0, byV 0, byV 0, byV 0, byV 0, byV 0, byV 0, byV 0, byV 0, byV 0, byV 0, byV 0, byV 0, byV 0, byV 0, byV 0, byV 0, byV 0, byV 0, byV 0, byV 0, byV 0, byV 0, .sl none 0 0 false] 26) :: (some bx, cellsO (recC r (.sl A r.ch.length c o)) 26) :: s.2.1) (fun s => s.1 ≤ r.ch.length ∧ s.2.2.1.flatten.length = s.1 * 3 ∧ s.2.2.2.length = (r.ch.length + 1 - s.1) * 3 ∧ SeenW s.2.1 (r.ch.take s.1) s.2.2.1) (fun s => r.ch.length - s.1) (0, [], [], C0) ⟨Nat.zero_le _, rfl, hC0, fun _ _ _ _ _ _ => rfl⟩ ⟨rfl, rfl, rfl, rfl, trivial⟩ (fun hp h => h) ?_
 intro ⟨i, X, us, rest⟩ ⟨hi, hul, hrest, hX⟩
 dsimp only at hi hul hrest hX ⊢
 refine wo ?_
 refine zX (m_ldl rfl hch) ?_
 refine wo ?_
 by_cases g : i < r.ch.length
 ·obtain ⟨b, oa, vi, rfl, hvi, hti, h3, hne3⟩ := ch_at hA hvs g
  obtain ⟨A1, kc, ko, A2, vc, vo, rfl, hk1, hk2⟩ := hti
  have hkv := hok.kv _ (List.getElem_mem g)
  apply wm; iterate 5 exact rfl
  refine mv_int (v := .b true) rfl rfl (vi_lssT (by omega))
  refine wo ?_
  refine zX (m_ldl rfl hch) ?_
  refine wo ?_
  apply wn; iterate 5 exact rfl
  refine p_ian rfl rfl g
  apply wm; iterate 5 exact rfl
  refine m_ldnN (j := i * 3) (s := 2) rfl hA.1 hA.2 rfl hvi h3
  apply p_op; exact (vwant_n rfl); iterate 4 exact rfl
  refine e_alloc rfl fun bi => ⟨_, rfl, ?_⟩
  apply p_do; exact (vwant_n rfl); exact rfl; exact rfl
  refine e_stn (C' := [.sl A1 r.ch[i].key.length kc ko, .sl A2 r.ch[i].val.length vc vo, .b r.ch[i].gone]) rfl rfl hne3 h3 (Nat.le_of_ble_eq_true rfl) rfl ⟨_, rfl, ?_⟩
  refine wo ?_
  apply d_callY []; exact (vwant_n rfl); decide +kernel; (iterate 4 exact rfl)
  try (case hok => exact rdOk_nil)
  case hC => exact (fun hp hs ht => roomy01_d hs.ok (hk1.give0 hs) hkv.1)
  rintro u1 N1 ⟨k1, o1, oo1, rfl, rfl⟩
  refine wo ?_
  apply d_callY []; exact (vwant_n rfl); decide +kernel; (iterate 4 exact rfl)
  try (case hok => exact rdOk_nil)
  case hC => exact (fun hp hs ht => roomy01_d hs.ok (hk2.give0 hs) hkv.2)
  rintro u2 N2 ⟨k2, o2, oo2, rfl, rfl⟩
  refine wo ?_
  apply dn; iterate 5 exact rfl
  refine p_buildS (C := [.sl (some (k1, 0)) r.ch[i].key.length (r.ch[i].key.length + 3) o1, .sl (some (k2, 0)) r.ch[i].val.length (r.ch[i].val.length + 3) o2, .b r.ch[i].gone]) (.cons rfl rfl rfl rfl (Nat.le_of_ble_eq_true rfl) (.cons rfl rfl rfl rfl (Nat.le_of_ble_eq_true rfl) (.cons rfl rfl rfl rfl (Nat.le_of_ble_eq_true rfl) .nil))) rfl
  apply d_op; exact (vwant_n rfl); exact rfl; exact noRd rfl; decide +kernel; (iterate 3 exact rfl); rotate_left
  refine e_bsn (C := [.sl (some (k1, 0)) r.ch[i].key.length (r.ch[i].key.length + 3) o1, .sl (some (k2, 0)) r.ch[i].val.length (r.ch[i].val.length + 3) o2, .b r.ch[i].gone]) (n := 1) (sz := 3) rfl rfl (by decide) (.cons rfl rfl rfl .nil) rfl rfl fun b3 => ⟨_, rfl, ?_⟩
  try (case hok => exact rdOk_nil)
  apply d_op; exact (vwant_n rfl); exact rfl; exact noRd rfl; decide +kernel; (iterate 3 exact rfl); rotate_left
  refine e_appRn (n := 1) (sz := 2) (ds := [.sl (some (k1, 0)) r.ch[i].key.length (r.ch[i].key.length + 3) o1, .sl (some (k2, 0)) r.ch[i].val.length (r.ch[i].val.length + 3) o2, .b r.ch[i].gone]) rfl rfl (rz_loc (k := 3) rfl) rfl (by decide) (by omega) (by simp only [List.length_append, List.length_cons, List.length_nil]; omega) (over_row (n := 3) rfl hul (by omega)) ⟨_, rfl, ?_⟩
  try (case hok => exact rdOk_b (by decide +kernel))
  refine wo ?_
  refine ⟨rfl, (i + 1, (some k2, .cells ((r.ch[i].val ++ mk3).map byV) 5 oo2 false) :: (some k1, .cells ((r.ch[i].key ++ mk3).map byV) 5 oo1 false) :: X, us ++ [[.sl (some (k1, 0)) r.ch[i].key.length (r.ch[i].key.length + 3) o1, .sl (some (k2, 0)) r.ch[i].val.length (r.ch[i].val.length + 3) o2, .b r.ch[i].gone]], rest.drop 3), ⟨g, ?_, ?_, ?_⟩, by dsimp only; omega, ⟨rfl, rfl, rfl, rfl, trivial⟩, fun hp h => h.le⟩
  ·rw [flat_snoc, List.length_append, hul]
   simp only [List.length_cons, List.length_nil]
   omega
  ·rw [List.length_drop, hrest]
   dsimp only
   omega
  ·intro B hp Lt Lr hs hm
   rw [List.take_succ_eq_append_getElem g]
   refine whRs_app (hX B hp Lt Lr hs fun p hp => hm p (List.mem_cons_of_mem _ (List.mem_cons_of_mem _ hp))) ⟨_, [], rfl, ⟨k1, o1, k2, o2, rfl, ?_, ?_⟩, rfl⟩
   ·exact rb_mem hs (hm _ (List.mem_cons_of_mem _ List.mem_cons_self)) (List.take_of_length_le (Nat.le_refl _))
   ·exact rb_mem hs (hm _ List.mem_cons_self) (List.take_of_length_le (Nat.le_refl _))
 apply wm; iterate 5 exact rfl
 refine mv_int (v := .b false) rfl rfl (vi_lssF (by omega))
 refine wo ?_
 refine w_exit ?_
 obtain rfl : i = r.ch.length := by omega
 rw [List.take_length] at hX
 refine wo ?_
 apply p_op; exact (vwant_n rfl); iterate 4 exact rfl
 refine e_bs (C := markS.map byV) rfl rfl (.cons rfl rfl (.cons rfl rfl (.cons rfl rfl (.cons rfl rfl .nil)))) rfl fun bm => ⟨_, rfl, ?_⟩
 apply p_op; exact (vwant_n rfl); iterate 4 exact rfl
 refine e_share rfl ⟨_, rfl, ?_⟩
 apply wn; iterate 5 exact rfl
 refine p_buildS (C := markC bm) (.cons rfl rfl rfl rfl (Nat.le_of_ble_eq_true rfl) .nil) rfl
 apply p_op; exact (vwant_n rfl); iterate 4 exact rfl
 refine e_bsn (C := markC bm) (n := 1) (sz := 3) rfl rfl (by decide) (.cons rfl rfl rfl .nil) rfl rfl fun b3 => ⟨_, rfl, ?_⟩
 apply p_op; exact (vwant_n rfl); iterate 4 exact rfl
 refine e_appRn (n := 1) (sz := 2) (ds := markC bm) rfl rfl (rz_loc (k := 3) rfl) rfl (by decide) (by omega) (by simp only [List.length_append, List.length_cons, List.length_nil]; omega) (over_row (n := 3) rfl hul (by omega)) ⟨_, rfl, ?_⟩
 have hr0 : rest.drop 3 = [] := List.drop_of_length_le (by omega)
 rw [hr0, List.append_nil, flat_snoc]
 refine wo ?_
 refine zX (m_sl0 rfl bl_none (bl_some rfl) (by omega)) ?_
 refine wo ?_
 apply p_do; exact (vwant_n rfl); exact rfl; exact rfl
 refine e_st (C' := recC r (.sl (some (bl, 0)) r.ch.length (r.ch.length + 1) false)) rfl rfl rfl (by rw [hC]; decide) (recC_set hok) ⟨_, rfl, ?_⟩
 refine wo ?_
 refine zX (m_ldln (s := 67) (cs := recC r (.sl (some (bl, 0)) r.ch.length (r.ch.length + 1) false)) rfl (by rw [List.drop_zero]; exact List.take_of_length_le (by rw [hC]; exact Nat.le_refl _)) hC) ?_
 apply p_do; exact (vwant_n rfl); exact rfl; exact rfl
 refine e_stn (C' := recC r (.sl (some (bl, 0)) r.ch.length (r.ch.length + 1) false)) rfl rfl hne hC (Nat.le_of_ble_eq_true rfl) (overV_all (by rw [hC]; rfl)) ⟨_, rfl, ?_⟩
 refine wo ?_
 exact w_ret (wend_ret (vres1 (rv_cell rfl hC)) ⟨(some bl, cellsO (us.flatten ++ markC bm) 87) :: (some bm, .cells (markS.map byV) 5 none true) :: X, cle, _, rfl, _, rfl, hok, bl, us, bm, X, rfl, rfl, hX⟩)
end Go.Proofs.YtbmkclbghfbegaaGreatDoor
/- Jsg: the statement's whole, books, fixed. By this project. -/
set_option maxRecDepth 100000
namespace Go.Proofs.YtbmkclbghfbegaaGreatDoor
open Go.RowKit Go.Extern.Stop
theorem wh_at {B : Bs} {l : List Chg} {A : Option (Nat × Nat)} {us : List (List V)} {tl : List V} {i : Nat} (hA : RB B A (us.flatten ++ tl)) (h : WhRs B l us) (hi : i < l.length) : ∃ vi, WhR B l[i] vi ∧ ((us.flatten ++ tl).drop (i * 3)).take 3 = vi := by
 obtain ⟨vi, hv, ht⟩ := whRs_at h (List.getElem?_eq_getElem hi)
 refine ⟨vi, ht, ?_⟩
 have hf := flat_row (chgRs_rows (whRs_chgs h)) hv
 have hl := whRs_len h
 rw [List.drop_append_of_le_length (by rw [hl]; omega), List.take_append_of_le_length (by rw [List.length_drop, hl]; omega)]
 exact hf
set_option maxHeartbeats 16000000 in
theorem whole_d {r : Rec} {w v : List V} {hp : Hp} (ho : OkH hp) (hw : CopR ⟨hp, []⟩ r w) (hr : RecR ⟨hp, []⟩ r v) :
  Fn kxD 17 [.agg w, .agg v] hp [] fun r' _ => r' = .v (.b true) := by
 have hw0 := hw.rec
 have hr0 := hr
 obtain ⟨hok, bl, us, bm, rfl, hB, hM, hU⟩ := hw
 obtain ⟨_, A, c, o, vs, rfl, hA, hvs⟩ := hr
 have hC : ∀ {s : V}, (recC r s).length = 68 := recC_len hok
 have hrl := hok.len
 have hch : (recC r (.sl A r.ch.length c o))[0 + 67]? = some (.sl A r.ch.length c o) := by rw [Nat.zero_add]; exact recC_ch hok
 have hch' : (recC r (.sl (some (bl, 0)) r.ch.length (r.ch.length + 1) false))[0 + 67]? = some (.sl (some (bl, 0)) r.ch.length (r.ch.length + 1) false) := by rw [Nat.zero_add]; exact recC_ch hok
 have hul := whRs_len hU
 refine fn_of_w (T := []) ho.sv (fun _ => rfl) (fn := Tryz.f17) (by kernel_rfl) rfl rfl ?_
 refine wo ?_
 apply p_op; exact (vwant_n rfl); iterate 4 exact rfl
 refine ev_box rfl rfl fun b1 => ⟨_, rfl, ?_⟩
 apply p_op; exact (vwant_n rfl); iterate 4 exact rfl
 refine ev_box rfl rfl fun b2 => ⟨_, rfl, ?_⟩
 refine wo ?_
 refine zX (m_ldl rfl hch) ?_
 refine wo ?_
 refine zX (m_ldln (s := 67) (cs := recC r (.sl (some (bl, 0)) r.ch.length (r.ch.length + 1) false)) rfl (by rw [List.drop_zero]; exact List.take_of_length_le (by rw [hC]; exact Nat.le_refl _)) hC) ?_
 refine zX (m_ldln (s := 67) (cs := recC r (.sl A r.ch.length c o)) rfl (by rw [List.drop_zero]; exact List.take_of_length_le (by rw [hC]; exact Nat.le_refl _)) hC) ?_
 refine p_callq (vwant_n rfl) rfl rfl rfl rfl (fun hp hs => same19_d hs.ok (hw0.give0 hs) (hr0.give0 hs)) ?_
 refine wo ?_
 refine zX (m_ldl rfl hch') ?_
 refine wo ?_
 refine zX (m_sl0 rfl bl_none (bl_some rfl) (Nat.le_refl _)) ?_
 refine wo ?_
 apply wg; iterate 7 exact rfl
 refine p_ian rfl rfl (by omega)
 refine wo ?_
 apply wmg; iterate 7 exact rfl
 refine m_ldN (j := r.ch.length * 3) (v := .sl (some (bm, 0)) 4 4 false) rfl hB.1 hB.2 (by omega) (by rw [List.getElem?_append_right (by omega), hul, Nat.sub_self]; rfl)
 apply wmg; iterate 7 exact rfl
 refine m_b2so (xs := markS) rfl hM.1 hM.2
 apply wmg; iterate 7 exact rfl
 refine m_neqs (x := markS) (y := markS) rfl rfl
 rw [beq_self_eq_true]
 refine wo ?_
 iterate 4 ((try refine w_seq ?_); refine wo ?_)
 refine w_loop (ι := Nat) (fun i => [(6, .i .i64 (i : Nat)), (5, .i .i64 (r.ch.length : Nat)), (3, .p (some (b2, 0))), (2, .p (some (b1, 0)))]) (fun i => [(some b2, cellsO (recC r (.sl A r.ch.length c o)) 26), (some b1, cellsO (recC r (.sl (some (bl, 0)) r.ch.length (r.ch.length + 1) false)) 26)]) (fun i => i ≤ r.ch.length) (fun i => r.ch.length - i) 0 (Nat.zero_le _) ⟨rfl, rfl, rfl, rfl, trivial⟩ (fun hp h => h) ?_
 intro i hi
 refine wo ?_
 by_cases g : i < r.ch.length
 rotate_left
 ·apply wm; iterate 5 exact rfl
  refine mv_int (v := .b false) rfl rfl (vi_lssF (by omega))
  refine wo ?_
  refine w_exit ?_
  refine wo ?_
  exact w_ret (wend_ret (vres1 (rv_tmp rfl)) rfl)
 obtain ⟨b, oa, vi, rfl, hvi, hti, h3, hne⟩ := ch_at hA hvs g
 obtain ⟨A1, kc, ko, A2, vc, vo, rfl, hk1, hk2⟩ := hti
 obtain ⟨ui, ⟨k1, o1, k2, o2, rfl, hw1, hw2⟩, hui⟩ := wh_at hB hU g
 have hkv := hok.kv _ (List.getElem_mem g)
 apply wm; iterate 5 exact rfl
 refine mv_int (v := .b true) rfl rfl (vi_lssT (by omega))
 refine wo ?_
 refine yX (m_ldl rfl hch') ?_
 refine wo ?_
 apply dn; iterate 5 exact rfl
 refine p_ian rfl rfl g
 refine wo ?_
 apply dm; iterate 6 exact rfl
 refine m_ldN (j := i * 3 + 0) (v := .sl (some (k1, 0)) r.ch[i].key.length (r.ch[i].key.length + 3) o1) rfl hB.1 hB.2 (by omega) (flat_get hui rfl)
 refine wo ?_
 refine yX (m_ldl rfl hch) ?_
 refine wo ?_
 apply dn; iterate 5 exact rfl
 refine p_ian rfl rfl g
 refine wo ?_
 apply dm; iterate 6 exact rfl
 refine m_ldN (j := i * 3 + 0) (v := .sl A1 r.ch[i].key.length kc ko) rfl hA.1 hA.2 (by omega) (flat_get hvi rfl)
 refine d_callq (vwant_n rfl) (by decide +kernel) rfl rfl rfl rfl (fun hp hs => whole01_d hs.ok (hw1.give0 hs) (hk1.give0 hs) hkv.1) ?_
 refine wo ?_
 refine yX (m_ldl rfl hch') ?_
 refine wo ?_
 apply dg; iterate 7 exact rfl
 refine p_ian rfl rfl g
 refine wo ?_
 apply dmg; iterate 8 exact rfl
 refine m_ldN (j := i * 3 + 1) (v := .sl (some (k2, 0)) r.ch[i].val.length (r.ch[i].val.length + 3) o2) rfl hB.1 hB.2 (by omega) (flat_get hui rfl)
 refine wo ?_
 refine yX (m_ldl rfl hch) ?_
 refine wo ?_
 apply dg; iterate 7 exact rfl
 refine p_ian rfl rfl g
 refine wo ?_
 apply dmg; iterate 8 exact rfl
 refine m_ldN (j := i * 3 + 1) (v := .sl A2 r.ch[i].val.length vc vo) rfl hA.1 hA.2 (by omega) (flat_get hvi rfl)
 refine d_callq (vwant_g rfl rfl rfl) (by decide +kernel) rfl rfl rfl rfl (fun hp hs => whole01_d hs.ok (hw2.give0 hs) (hk2.give0 hs) hkv.2) ?_
 refine wo ?_
 exact ⟨rfl, i + 1, g, by omega, ⟨rfl, rfl, rfl, rfl, trivial⟩, fun hp h => h.le⟩
theorem bits_w {n : Int} {hp : Hp} (ho : OkH hp) : ∃ nb, nb = bitsN n ∧ 8 ≤ nb ∧ nb ≤ 256 ∧ Fn kxD 31 [.i .i64 n] hp [] fun r _ => r = .v (.i .i64 ((nb : Nat) : Int)) := ⟨_, rfl, by have := bitsN_le n; omega, by have := bitsN_le n; omega, bits_d ho⟩
theorem mv_wsub {K : Kx} {hp0 : Bs} {l : VL} {L : HV} {t t' : TypeId} {x y : Operand} {p q : Int} (hx : evL l x = some (.i .i64 p)) (hy : evL l y = some (.i .i64 q)) : MVO K hp0 l L (.binOp .sub t x y t') (.i .i64 (IntKind.i64.wrap (p - q))) := mv_int hx hy rfl
theorem new04_n {A : Option (Nat × Nat)} {xs : List UInt8} {bits cb c n : Nat} {op : Bool} {hp : Hp} (hn : xs.length = n) (ho : OkH hp) (hA : RB ⟨hp, []⟩ A (xs.map byV)) (hx : xs.length = 32) (b1 : 8 ≤ bits) (b2 : bits ≤ 256) (c1 : 8 ≤ cb) (c2 : cb ≤ 256) :
  Fn kxD 34 [.i .i64 (bits : Int), .i .i64 (cb : Int), .sl A n c op] hp [] fun r N => ∃ u, r = .v u ∧ ∃ b Z o M, u = .tup [.p (some (b, 0)), .i .i64 0] ∧ RowK xs (.sl Z n n o) M ∧ N = (some b, cellsO (rbC bits cb (.sl Z n n o) (.sl none 0 0 false)) 51) :: M := by
 subst hn
 exact new04_d ho hA hx b1 b2 c1 c2
theorem RowU.get {e : TypeId} {xs : List UInt8} {A : Option (Nat × Nat)} {n c : Nat} {op : Bool} {M : HV} (h : RowU e xs (.sl A n c op) M) (h0 : 0 < xs.length) : ∃ b oo, A = some (b, 0) ∧ M = [(some b, .cells (xs.map byV) e oo false)] := by
 cases h with
 | nil => simp at h0
 | own h => exact ⟨_, _, rfl, rfl⟩
set_option maxHeartbeats 8000000 in
theorem books_d {n : Int} {hp : Hp} (ho : OkH hp) :
  Fn kxD 7 [.i .i64 n] hp [] fun r N => ∃ u, r = .v u ∧ ∃ nb B b q Z o M, u = .tup [.p (some (b, 0)), .p (some (q, 0))] ∧ nb ≤ 256 ∧ BkSt B b 256 nb (secB []) [] [] [] ∧ RowK (secB []) (.sl Z 32 32 o) M ∧ N = bkL B ++ ((some q, cellsO (rbC 256 nb (.sl Z 32 32 o) (.sl none 0 0 false)) 51) :: M) := by
 have hsl := secB_len []
 refine Fn.dropC ?_
 refine fn_of_w (T := []) ho.sv (fun _ => rfl) (fn := Tryz.f7) (by kernel_rfl) rfl rfl ?_
 refine wo ?_
 apply wm; iterate 5 exact rfl
 refine mv_wsub rfl rfl
 obtain ⟨nb, hnb, n1, n2, _⟩ := bits_w (n := IntKind.i64.wrap (n - 8)) ho
 have hb' : ∀ {hp : Hp}, OkH hp → Fn kxD 31 [.i .i64 (IntKind.i64.wrap (n - 8))] hp [] fun r _ => r = .v (.i .i64 ((nb : Nat) : Int)) := fun {hp} ho => by
  rw [hnb]
  exact bits_d ho
 refine p_callq (vwant_n rfl) rfl rfl rfl rfl (fun hp hs => hb' hs.ok) ?_
 refine wo ?_
 apply p_callY []; exact (vwant_n rfl); iterate 4 exact rfl
 case hC => exact (fun hp hs ht => secret_d (xs := []) hs.ok RB.nil)
 rintro u N ⟨bz, rfl, rfl⟩
 apply p_callY []; exact (vwant_n rfl); iterate 4 exact rfl
 case hC => exact (fun hp hs ht => new_s (bits := 256) (cb := nb) hsl hs.ok (rb_at0 hs (List.take_of_length_le (Nat.le_refl _))) hsl (by decide) (by decide) n1 n2)
 rintro u N ⟨b, B, rfl, hB, rfl⟩
 refine wo ?_
 apply p_callY []; exact (vwant_n rfl); iterate 4 exact rfl
 case hC => exact (fun hp hs ht => secret_d (xs := []) hs.ok RB.nil)
 rintro u N ⟨bz2, rfl, rfl⟩
 apply p_callY []; exact (vwant_n rfl); iterate 4 exact rfl
 case hC => exact (fun hp hs ht => new04_n (bits := 256) (cb := nb) hsl hs.ok (rb_at0 hs (List.take_of_length_le (Nat.le_refl _))) hsl (by decide) (by decide) n1 n2)
 rintro u N ⟨q, Z, o, M, rfl, hM, rfl⟩
 refine wo ?_
 apply wm; iterate 5 exact rfl
 refine mv_int (v := .b false) rfl rfl (vi_neqF ((by simp)))
 refine wo ?_
 apply wmg; iterate 7 exact rfl
 refine mv_int (v := .b false) rfl rfl (vi_neqF ((by simp)))
 refine wo ?_
 exact w_ret (wend_ret (vres2 (rv_tmp rfl) (rv_tmp rfl)) ⟨bkL B ++ ((some q, cellsO (rbC 256 nb (.sl Z 32 32 o) (.sl none 0 0 false)) 51) :: M), cle, _, rfl, nb, B, b, q, Z, o, M, rfl, n2, hB, hM, rfl⟩)
theorem m_sli {K : Kx} {hp0 : Bs} {l : VL} {L : HV} {t e : TypeId} {x : Operand} {lo hi : Option Operand} {b o m c i j : Nat} {op : Bool} [hS : SliceV K.C t e] [hs : SizeV K.C e 1] (hx : evL l x = some (.sl (some (b, o)) m c op)) (hlo : BoundL l lo 0 i) (hhi : BoundL l hi m j) (h1 : i ≤ j) (h2 : j ≤ c) (h3 : i < c) : MV K hp0 l L (.slice t x lo hi none) [] (.sl (some (b, o + i)) (j - i) (c - i) op) := by
 have := m_slg (K := K) (hp0 := hp0) (L := L) (t := t) (e := e) hx hlo hhi h1 h2 (fun _ => h3) (fun _ => ⟨_, rfl⟩)
 rw [Option.map_some, offV_ne (by omega), Nat.mul_one] at this
 exact this
def rec1 : Rec := ⟨1, 1, 0, List.replicate 32 0, List.replicate 32 0, []⟩
def rec2 : Rec := ⟨2, 300, 2, List.replicate 32 0, List.replicate 32 0, [⟨[18], [97], false⟩, ⟨[19], [], true⟩]⟩
theorem s_1 : shortB 1 = [1] := by rw [shortB_pos (by decide), shortB_zero]; rfl
theorem s_2 : shortB 2 = [2] := by rw [shortB_pos (by decide), shortB_zero]; rfl
theorem s_300 : shortB 300 = [1, 44] := by rw [shortB_pos (by decide)]; show shortB 1 ++ _ = _; rw [s_1]; rfl
theorem s_70 : shortB 70 = [70] := by rw [shortB_pos (by decide), shortB_zero]; rfl
theorem s_77 : shortB 77 = [77] := by rw [shortB_pos (by decide), shortB_zero]; rfl
theorem h_small {base : UInt8} {n : Nat} (h : n < 56) : headB base n = [base + UInt8.ofNat n] := if_pos h
theorem h_70 : headB 192 70 = [248, 70] := by unfold headB; rw [if_neg (by decide), s_70]; rfl
theorem h_77 : headB 192 77 = [248, 77] := by unfold headB; rw [if_neg (by decide), s_77]; rfl
def z33 : List UInt8 := 160 :: List.replicate 32 0
theorem str_z : strB (List.replicate 32 0) = z33 := by rw [strB_else (by decide), List.length_replicate, h_small (by decide)]; rfl
theorem str_1 : strB [1] = [1] := strB_one (by decide)
theorem str_2 : strB [2] = [2] := strB_one (by decide)
theorem str_0 : strB [] = [128] := by rw [strB_else (by decide), List.append_nil]; exact h_small (by decide)
theorem str_300 : strB [1, 44] = [130, 1, 44] := by rw [strB_else (by decide)]; show headB 128 2 ++ _ = _; rw [h_small (by decide)]; rfl
theorem body1 : bodyB rec1 = [248, 70, 1, 1, 128] ++ z33 ++ z33 ++ [192] := by
 unfold bodyB recT
 have e : encs (recK rec1) = [1, 1, 128] ++ z33 ++ z33 ++ [192] := by
  rw [recK_enc]
  show ((((strB (shortB 1) ++ strB (shortB 1)) ++ strB (shortB 0)) ++ strB (List.replicate 32 0)) ++ strB (List.replicate 32 0)) ++ (headB 192 (encs []).length ++ encs []) = _
  rw [s_1, shortB_zero, str_z, str_1, str_0, encs, h_small (by decide)]
  rfl
 rw [enc_list, e]
 show headB 192 70 ++ _ = _
 rw [h_70]
 rfl
theorem body2 : bodyB rec2 = [248, 77, 2, 130, 1, 44, 2] ++ z33 ++ z33 ++ [197, 194, 18, 97, 193, 19] := by
 unfold bodyB recT
 have k1 : encs (chgK ⟨[18], [97], false⟩) = [18, 97] := by rw [chgK_not (by decide)]; show strB [18] ++ strB [97] = _; rw [strB_one (by decide), strB_one (by decide)]; rfl
 have k2 : encs (chgK ⟨[19], [], true⟩) = [19] := by rw [chgK_gone rfl]; exact strB_one (by decide)
 have c0 : encs (rec2.ch.map chgT) = [194, 18, 97, 193, 19] := by
  show encs [chgT ⟨[18], [97], false⟩, chgT ⟨[19], [], true⟩] = _
  rw [encs, encs, encs, chgT, chgT, enc_list, enc_list, k1, k2, h_small (by decide), h_small (by decide)]
  rfl
 have e : encs (recK rec2) = [2, 130, 1, 44, 2] ++ z33 ++ z33 ++ [197, 194, 18, 97, 193, 19] := by
  rw [recK_enc, c0]
  show ((((strB (shortB 2) ++ strB (shortB 300)) ++ strB (shortB 2)) ++ strB (List.replicate 32 0)) ++ strB (List.replicate 32 0)) ++ (headB 192 5 ++ _) = _
  rw [s_2, s_300, str_z, str_2, str_300, h_small (by decide)]
  rfl
 rw [enc_list, e]
 show headB 192 77 ++ _ = _
 rw [h_77]
 rfl
theorem may1 : mayR rec1 := by decide
theorem may2 : mayR rec2 := by decide
theorem ok1 : RecOk rec1 := ⟨rfl, rfl, by decide, by decide⟩
theorem ok2 : RecOk rec2 := ⟨rfl, rfl, by decide, by decide⟩
set_option maxHeartbeats 16000000 in
theorem jfixed_d {hp : Hp} (ho : OkH hp) (hk : KTab ⟨hp, []⟩) : Fn kxD 9 [] hp [] fun r _ => r = .v (.b true) := by
 refine fn_of_w (T := []) ho.sv (fun _ => rfl) (fn := Tryz.f9) (by kernel_rfl) rfl rfl ?_
 refine wo ?_
 apply wn; iterate 5 exact rfl
 refine p_buildS (C := recC rec1 (.sl none 0 0 false)) (.cons rfl rfl rfl rfl (Nat.le_of_ble_eq_true rfl) (.cons rfl rfl rfl rfl (Nat.le_of_ble_eq_true rfl) .nil)) rfl
 apply p_callY []; exact (vwant_n rfl); iterate 4 exact rfl
 case hC => exact (fun hp hs ht => jbody_d (r := rec1) hs.ok (hk.give0 hs) ⟨ok1, none, 0, false, [], rfl, RB.nil, rfl⟩)
 rintro u N ⟨hg, _⟩
 obtain ⟨w1, rfl, hu1⟩ := hg may1
 rw [body1] at hu1
 obtain ⟨A1, o1, rfl⟩ := hu1.sl
 obtain ⟨b1, oo1, rfl, rfl⟩ := hu1.get (by decide)
 refine wo ?_
 apply p_op; exact (vwant_n rfl); iterate 4 exact rfl
 refine e_bs (C := [byV 18]) rfl rfl (.cons rfl rfl .nil) rfl fun c1 => ⟨_, rfl, ?_⟩
 apply p_op; exact (vwant_n rfl); iterate 4 exact rfl
 refine e_bs (C := [byV 97]) rfl rfl (.cons rfl rfl .nil) rfl fun c2 => ⟨_, rfl, ?_⟩
 apply p_op; exact (vwant_n rfl); iterate 4 exact rfl
 refine e_share rfl ⟨_, rfl, ?_⟩
 apply wn; iterate 5 exact rfl
 refine p_buildS (C := [.sl (some (c1, 0)) 1 1 false, .sl (some (c2, 0)) 1 1 false, .b false]) (.cons rfl rfl rfl rfl (Nat.le_of_ble_eq_true rfl) (.cons rfl rfl rfl rfl (Nat.le_of_ble_eq_true rfl) .nil)) rfl
 apply p_op; exact (vwant_n rfl); iterate 4 exact rfl
 refine e_bs (C := [byV 19]) rfl rfl (.cons rfl rfl .nil) rfl fun c3 => ⟨_, rfl, ?_⟩
 apply wn; iterate 5 exact rfl
 refine p_buildS (C := [.sl (some (c3, 0)) 1 1 false, .sl none 0 0 false, .b true]) (.cons rfl rfl rfl rfl (Nat.le_of_ble_eq_true rfl) (.cons rfl rfl rfl rfl (Nat.le_of_ble_eq_true rfl) .nil)) rfl
 apply p_op; exact (vwant_n rfl); iterate 4 exact rfl
 refine e_bsn (C := [.sl (some (c1, 0)) 1 1 false, .sl (some (c2, 0)) 1 1 false, .b false, .sl (some (c3, 0)) 1 1 false, .sl none 0 0 false, .b true]) (n := 2) (sz := 3) rfl rfl (by decide) (.cons rfl rfl rfl (.cons rfl rfl rfl .nil)) rfl rfl fun c4 => ⟨_, rfl, ?_⟩
 apply wn; iterate 5 exact rfl
 refine p_buildS (C := recC rec2 (.sl (some (c4, 0)) 2 2 false)) (.cons rfl rfl rfl rfl (Nat.le_of_ble_eq_true rfl) (.cons rfl rfl rfl rfl (Nat.le_of_ble_eq_true rfl) (.cons rfl rfl rfl rfl (Nat.le_of_ble_eq_true rfl) (.cons rfl rfl rfl rfl (Nat.le_of_ble_eq_true rfl) .nil)))) rfl
 apply p_callY []; exact (vwant_n rfl); iterate 4 exact rfl
 case hC => exact (fun hp hs ht => jbody_d (r := rec2) hs.ok (hk.give0 hs) ⟨ok2, some (c4, 0), 2, false, [[.sl (some (c1, 0)) 1 1 false, .sl (some (c2, 0)) 1 1 false, .b false], [.sl (some (c3, 0)) 1 1 false, .sl none 0 0 false, .b true]], rfl, rb_at0 hs rfl, ⟨_, _, rfl, ⟨_, _, _, _, _, _, rfl, rb_at0 hs rfl, rb_at0 hs rfl⟩, ⟨_, _, rfl, ⟨_, _, _, _, _, _, rfl, rb_at0 hs rfl, RB.nil⟩, rfl⟩⟩⟩)
 rintro u N ⟨hg, _⟩
 obtain ⟨w2, rfl, hu2⟩ := hg may2
 rw [body2] at hu2
 obtain ⟨A2, o2, rfl⟩ := hu2.sl
 have e79 : ([248, 77, 2, 130, 1, 44, 2] ++ z33 ++ z33 ++ [197, 194, 18, 97, 193, 19] : List UInt8).length = 79 := rfl
 obtain ⟨b2, oo2, rfl, rfl⟩ := hu2.get (by decide)
 rw [e79]
 refine wo ?_
 apply wm; iterate 5 exact rfl
 refine mv_int (v := .b false) rfl rfl (vi_neqF ((by simp)))
 refine wo ?_
 apply wmg; iterate 7 exact rfl
 refine mv_int (v := .b false) rfl rfl (vi_neqF ((by simp)))
 refine wo ?_
 apply wmg; iterate 7 exact rfl
 refine mv_int (v := .b false) rfl rfl (vi_neqF ((by decide)))
 refine wo ?_
 refine zX (m_sl0 rfl bl_none (bl_some rfl) (by decide)) ?_
 apply p_op; exact (vwant_g rfl rfl rfl); iterate 4 exact rfl
 refine e_bs (C := [248, 70, 1, 1, 128, 160].map byV) rfl rfl (.cons rfl rfl (.cons rfl rfl (.cons rfl rfl (.cons rfl rfl (.cons rfl rfl (.cons rfl rfl .nil)))))) rfl fun d1 => ⟨_, rfl, ?_⟩
 refine p_callq (vwant_g rfl rfl rfl) rfl rfl rfl rfl (fun hp hs => same_d (xs := [248, 70, 1, 1, 128, 160]) hs.ok (rb_at0 hs rfl) (rb_at0 hs rfl) (by decide)) ?_
 refine wo ?_
 apply wg; iterate 7 exact rfl
 refine p_ia (i := 71) rfl rfl (by decide)
 refine zX (m_ldl (v := byV 192) rfl rfl) ?_
 apply wmg; iterate 7 exact rfl
 refine mv_int (v := .b false) rfl rfl (vi_neqF ((by decide)))
 refine wo ?_
 apply wmg; iterate 7 exact rfl
 refine mv_int (v := .b false) rfl rfl (vi_lssF ((by decide)))
 refine wo ?_
 refine zX (m_sli (i := 2) (j := 7) rfl (bl_some rfl) (bl_some rfl) (by decide) (by decide) (by decide)) ?_
 apply p_op; exact (vwant_n rfl); iterate 4 exact rfl
 refine e_bs (C := [2, 130, 1, 44, 2].map byV) rfl rfl (.cons rfl rfl (.cons rfl rfl (.cons rfl rfl (.cons rfl rfl (.cons rfl rfl .nil))))) rfl fun d2 => ⟨_, rfl, ?_⟩
 refine p_callq (vwant_n rfl) rfl rfl rfl rfl (fun hp hs => same_d (xs := [2, 130, 1, 44, 2]) hs.ok (rb_at0 hs rfl) (rb_at0 hs rfl) (by decide)) ?_
 refine wo ?_
 refine zX (m_sli (i := 73) (j := 79) rfl (bl_some rfl) bl_none (by decide) (by decide) (by decide)) ?_
 apply p_op; exact (vwant_g rfl rfl rfl); iterate 4 exact rfl
 refine e_bs (C := [197, 194, 18, 97, 193, 19].map byV) rfl rfl (.cons rfl rfl (.cons rfl rfl (.cons rfl rfl (.cons rfl rfl (.cons rfl rfl (.cons rfl rfl .nil)))))) rfl fun d3 => ⟨_, rfl, ?_⟩
 refine p_callq (vwant_g rfl rfl rfl) rfl rfl rfl rfl (fun hp hs => same_d (xs := [197, 194, 18, 97, 193, 19]) hs.ok (rb_at0 hs rfl) (rb_at0 hs rfl) (by decide)) ?_
 refine wo ?_
 exact w_ret (wend_ret (vres1 (rv_tmp rfl)) rfl)
end Go.Proofs.YtbmkclbghfbegaaGreatDoor
/- Jap: Apart, for the machine. By this project. -/
set_option maxRecDepth 100000
namespace Go.Proofs.YtbmkclbghfbegaaGreatDoor
open Go.RowKit Go.Extern.Stop
theorem hnds_app : ∀ (A B : HV), hnds (A ++ B) = hnds A ++ hnds B
 | [], B => rfl
 | (some b, _) :: r, B => by rw [List.cons_append, hnds, hnds, hnds_app r B, List.cons_append]
 | (none, _) :: r, B => by rw [List.cons_append, hnds, hnds, hnds_app r B]
theorem SV.nodup {B : Bs} {hp : Hp} : ∀ {L : HV}, SV B hp L → (hnds L).Nodup
 | [], _ => by simp [hnds]
 | (some b, o) :: r, h => by
  rw [hnds, List.nodup_cons]
  exact ⟨h.fresh, SV.nodup (h.sub (List.sublist_cons_self _ _))⟩
 | (none, o) :: r, h => by
  rw [hnds]
  exact SV.nodup (h.sub (List.sublist_cons_self _ _))
theorem rowP_of {B : Bs} {hp : Hp} {x : List UInt8} {s : V} {M L : HV} {a : Nat} (hs : SV B hp L) (hm : ∀ p ∈ M, p ∈ L) (h : RowK x s M) (hl : x.length ≤ 1099511627776) (ha : a ∉ hnds M) : ∃ q, rowP hp a s = some q ∧ q.toList = hnds M := by
 cases h with
 | nil => exact ⟨none, by show (if (0 = 0 ∧ 0 = 0) then some none else none) = _; exact if_pos ⟨rfl, rfl⟩, rfl⟩
 | @own _ b op oo h =>
  refine ⟨some b, ?_, rfl⟩
  obtain ⟨i, hi⟩ := List.getElem?_of_mem (hm _ (List.mem_singleton.2 rfl))
  have hb := hs.has i _ _ hi
  have hne : b ≠ a := fun e => ha (by subst e; simp [hnds])
  have hg : hp.getW b = some (.cells (x.map byV) 5 oo false) := by simp only [Hp.getW, hb.2.1.1]; exact hb.1
  show (if 0 = 0 ∧ x.length = x.length ∧ x.length ≤ 1099511627776 ∧ b ≠ a then _ else _) = _
  rw [if_pos ⟨rfl, rfl, hl, hne⟩, hg]
  show (if (x.map byV).length = x.length ∧ (op = true → oo = some 1) then _ else _) = _
  rw [if_pos ⟨by rw [List.length_map], h⟩]
set_option maxHeartbeats 1000000 in
theorem apart_d {x1 x2 x3 x4 : List UInt8} {s1 s2 s3 s4 : V} {M1 M2 M3 M4 Lr : HV} {a i : Nat} {t : TypeId} {B : Bs} {hp : Hp} (h0 : SV ⟨hp, hnds (M1 ++ (M2 ++ (M3 ++ M4)))⟩ hp (M1 ++ (M2 ++ (M3 ++ M4)))) (hs : SV B hp ((M1 ++ (M2 ++ (M3 ++ M4))) ++ Lr)) [hat : AtV a Lr (cellsO [s1, s2, s3, s4] t) i] (h1 : RowK x1 s1 M1) (h2 : RowK x2 s2 M2) (h3 : RowK x3 s3 M3) (h4 : RowK x4 s4 M4) (l1 : x1.length ≤ 1099511627776) (l2 : x2.length ≤ 1099511627776) (l3 : x3.length ≤ 1099511627776) (l4 : x4.length ≤ 1099511627776) :
  Fn kxD 15 [.sl (some (a, 0)) 4 4 false] hp (hnds (M1 ++ (M2 ++ (M3 ++ M4)))) fun r N => ∃ u, r = .v u ∧ u = .b true ∧ N = [] := by
 have hai : ((M1 ++ (M2 ++ (M3 ++ M4))) ++ Lr)[(M1 ++ (M2 ++ (M3 ++ M4))).length + i]? = some (some a, cellsO [s1, s2, s3, s4] t) := by
  rw [List.getElem?_append_right (by omega), Nat.add_sub_cancel_left]; exact hat.h
 have hab := hs.has _ _ _ hai
 have hna : a ∉ hnds (M1 ++ (M2 ++ (M3 ++ M4))) := fun h => by
  obtain ⟨j, o, hj⟩ := hasT_hnds _ a h
  have hj2 := (List.getElem?_eq_some_iff.1 hj).1
  have := hs.one j _ _ _ _ (show ((M1 ++ (M2 ++ (M3 ++ M4))) ++ Lr)[j]? = some (some a, o) by rw [List.getElem?_append_left hj2]; exact hj) hai
  omega
 have hnd := h0.nodup
 have hna' := hna
 rw [hnds_app, hnds_app, hnds_app, List.mem_append, List.mem_append, List.mem_append] at hna'
 obtain ⟨q1, r1, e1⟩ := rowP_of (a := a) h0 (fun p hp => List.mem_append_left _ hp) h1 l1 (fun h => hna' (.inl h))
 obtain ⟨q2, r2, e2⟩ := rowP_of (a := a) h0 (fun p hp => List.mem_append_right _ (List.mem_append_left _ hp)) h2 l2 (fun h => hna' (.inr (.inl h)))
 obtain ⟨q3, r3, e3⟩ := rowP_of (a := a) h0 (fun p hp => List.mem_append_right _ (List.mem_append_right _ (List.mem_append_left _ hp))) h3 l3 (fun h => hna' (.inr (.inr (.inl h))))
 obtain ⟨q4, r4, e4⟩ := rowP_of (a := a) h0 (fun p hp => List.mem_append_right _ (List.mem_append_right _ (List.mem_append_right _ hp))) h4 l4 (fun h => hna' (.inr (.inr (.inr h))))
 have hfm : [q1, q2, q3, q4].filterMap id = hnds (M1 ++ (M2 ++ (M3 ++ M4))) := by
  rw [hnds_app, hnds_app, hnds_app, ← e1, ← e2, ← e3, ← e4]
  cases q1 <;> cases q2 <;> cases q3 <;> cases q4 <;> rfl
 have hT : ∀ x ∈ hnds (M1 ++ (M2 ++ (M3 ++ M4))), Bs.Own ⟨hp, hnds (M1 ++ (M2 ++ (M3 ++ M4)))⟩ x ∧ x < hp.nx := fun x hx => by
  obtain ⟨j, o, hj⟩ := hasT_hnds _ x hx
  exact (h0.has j x o hj).2
 have hg : hp.getW a = some (cellsO [s1, s2, s3, s4] t) := by simp only [Hp.getW, hab.2.1.1]; exact hab.1
 have hmo : mapO (rowP hp a) [s1, s2, s3, s4] = some [q1, q2, q3, q4] := by
  simp only [mapO_cons, mapO_nil, r1, r2, r3, r4]
 have hap : apExt 15 15 [.sl (some (a, 0)) 4 4 false] hp = some (.v (.b true), voids hp (hnds (M1 ++ (M2 ++ (M3 ++ M4))))) := by
  unfold apExt
  rw [if_pos rfl]
  show (if 0 = 0 ∧ 4 = 4 ∧ 4 ≤ 1073741824 then _ else _) = _
  rw [if_pos ⟨rfl, rfl, by decide⟩, hg]
  show (if [s1, s2, s3, s4].length = 4 then _ else _) = _
  rw [if_pos (show [s1, s2, s3, s4].length = 4 from rfl), hmo, Option.bind_some]
  rw [hfm, if_pos hnd]
 unfold Fn
 refine ⟨.v (.b true), voids hp (hnds (M1 ++ (M2 ++ (M3 ++ M4)))), ⟨1, fun n hn => ?_⟩, [], ⟨?_, fun x hx => ?_, fun _ _ _ h => by simp at h, fun _ _ _ _ _ h => by simp at h, fun x h h' => ?_, ?_⟩, ⟨?_, (hnds (M1 ++ (M2 ++ (M3 ++ M4)))).reverse, voids_log _ _, fun x hx => ?_, fun x hx => ?_⟩, _, rfl, rfl, rfl⟩
 ·obtain ⟨n, rfl⟩ : ∃ k, n = k + 1 := ⟨n - 1, by omega⟩
  have g1 : muExt 48 15 [.sl (some (a, 0)) 4 4 false] hp = none := rfl
  have g2 : shaExt 159 4 15 [.sl (some (a, 0)) 4 4 false] hp = none := rfl
  have g3 : srtExt 95 15 [.sl (some (a, 0)) 4 4 false] hp = none := rfl
  simp only [vcall, orExt, g1, g2, g3, hap]
 ·show hp.nx ≤ (voids hp _).nx
  rw [voids_nx]
  exact Nat.le_refl _
 ·rw [voids_get, if_neg fun h => hx (hT x h).1]
 ·rw [voids_nx] at h
  rw [voids_get]
  split
  ·rfl
  ·exact h0.top x h h'
 ·rw [voids_nx]
  exact h0.even
 ·rw [voids_nx]
  exact Nat.le_refl _
 ·rw [voids_nx]
  exact hT x (List.mem_reverse.1 hx)
 ·rw [voids_get, if_neg fun h => hx (List.mem_reverse.2 h)]
end Go.Proofs.YtbmkclbghfbegaaGreatDoor
/- Jsh: JournalWrites on the machine. By this project. -/
set_option maxRecDepth 100000
namespace Go.Proofs.YtbmkclbghfbegaaGreatDoor
open Go.RowKit Go.Extern.Stop
def bR (r : Rec) : List UInt8 := if mayR r then bodyB r else []
def eR (r : Rec) : Int := if mayR r then 0 else 2
def cR (cb : Nat) (r : Rec) : List UInt8 := if mayR r then cutB cb (macB (secB []) (bodyB r)) else List.replicate 32 0
def fR (cb : Nat) (r : Rec) : List UInt8 := if mayR r then frameB (bodyB r ++ cutB cb (macB (secB []) (bodyB r))) else []
def kR (r : Rec) (ca : List (List UInt8)) : List (List UInt8) := if mayR r then addS ca (bodyB r) else ca
theorem bR_len {r : Rec} (h : RecOk r) : (bR r).length ≤ 12100 := by
 unfold bR
 split
 ·exact body_len h (by assumption)
 ·simp
theorem cR_len (cb : Nat) (r : Rec) : (cR cb r).length = 32 := by
 unfold cR
 split
 ·rw [cutB_len, macB_len]
 ·simp
theorem fR_len {cb : Nat} {r : Rec} (h : RecOk r) : (fR cb r).length ≤ 13000 := by
 unfold fR
 split
 ·have := body_len h (by assumption)
  simp [frameB, flB, cutB_len, macB_len]
  omega
 ·simp
theorem kR_two (r : Rec) : kR r (kR r []) = kR r [] := by
 unfold kR
 split
 ·unfold addS; simp
 ·rfl
theorem kR_len (r : Rec) : (kR r []).length = if mayR r then 1 else 0 := by
 unfold kR
 split
 ·unfold addS; simp
 ·rfl
theorem jbody_u {r : Rec} {v : List V} {hp : Hp} (ho : OkH hp) (hk : KTab ⟨hp, []⟩) (hr : RecR ⟨hp, []⟩ r v) :
  Fn kxD 12 [.agg v] hp [] fun r' N => ∃ u, r' = .v u ∧ ∃ w, u = .tup [w, .i .i64 (eR r)] ∧ RowK (bR r) w N :=
 (jbody_d ho hk hr).mono fun r' N ⟨u, h1, h2, h3⟩ => ⟨u, h1, by
  unfold bR eR
  by_cases hm : mayR r
  ·rw [if_pos hm, if_pos hm]; exact h2 hm
  ·rw [if_neg hm, if_neg hm]
   obtain ⟨rfl, rfl⟩ := h3 hm
   exact ⟨_, rfl, .nil⟩⟩
theorem body19_u {r : Rec} {v : List V} {hp : Hp} (ho : OkH hp) (hr : RecR ⟨hp, []⟩ r v) :
  Fn kxD 10 [.agg v] hp [] fun r' N => ∃ u, r' = .v u ∧ ∃ w, u = .tup [w, .i .i64 (eR r)] ∧ RowK (bR r) w N :=
 (body19_d ho hr).mono fun r' N ⟨u, h1, h2, h3⟩ => ⟨u, h1, by
  unfold bR eR
  by_cases hm : mayR r
  ·rw [if_pos hm, if_pos hm]; exact h2 hm
  ·rw [if_neg hm, if_neg hm]
   obtain ⟨rfl, rfl⟩ := h3 hm
   exact ⟨_, rfl, .nil⟩⟩
theorem jwrite_u {B : Bk} {b bits cb : Nat} {ha ca : List (List UInt8)} {fs : List (List UInt8 × List UInt8)} {r : Rec} {v : List V} {hp : Hp} (hB : BkSt B b bits cb (secB []) ha ca fs) (h0 : SV ⟨hp, hnds (bkL B)⟩ hp (bkL B)) (hk : Tab ⟨hp, hnds (bkL B)⟩) (hkk : KTab ⟨hp, hnds (bkL B)⟩) (hr : RecR ⟨hp, hnds (bkL B)⟩ r v) (hl : ca.length < 100000000) :
  Fn kxD 13 [.p (some (b, 0)), .agg v] hp (hnds (bkL B)) fun r' N => ∃ u, r' = .v u ∧ ∃ w M B', u = .tup [w, hK (cR cb r), .i .i64 (eR r)] ∧ RowK (fR cb r) w M ∧ BkSt B' b bits cb (secB []) ha (kR r ca) fs ∧ N = M ++ bkL B' :=
 (jwrite_d hB h0 hk hkk hr hl).mono fun r' N ⟨u, h1, h2, h3⟩ => ⟨u, h1, by
  unfold cR eR fR kR
  by_cases hm : mayR r
  ·rw [if_pos hm, if_pos hm, if_pos hm, if_pos hm]; exact h2 hm
  ·rw [if_neg hm, if_neg hm, if_neg hm, if_neg hm]
   obtain ⟨rfl, rfl⟩ := h3 hm
   exact ⟨_, [], B, rfl, .nil, hB, rfl⟩⟩
theorem write19_u {b bits cb : Nat} {Z : Option (Nat × Nat)} {oz : Bool} {r : Rec} {v : List V} {hp : Hp} (h0 : SV ⟨hp, [b]⟩ hp [(some b, cellsO (rbC bits cb (.sl Z 32 32 oz) (.sl none 0 0 false)) 51)]) (hk : RTab ⟨hp, [b]⟩) (hZ : RB ⟨hp, [b]⟩ Z ((secB []).map byV)) (hr : RecR ⟨hp, [b]⟩ r v) (hcb : cb ≤ 256) :
  Fn kxD 11 [.p (some (b, 0)), .agg v] hp [b] fun r' N => ∃ u, r' = .v u ∧ ∃ w M A' n c' o', u = .tup [w, hK (cR cb r), .i .i64 (eR r)] ∧ RowK (fR cb r) w M ∧ n = (kR r []).length ∧ N = M ++ [(some b, cellsO (rbC bits cb (.sl Z 32 32 oz) (.sl A' n c' o')) 51)] := by
 have hsl := secB_len []
 have := write19_d (sec := secB []) (by rw [hsl]; exact h0) hk hZ hsl hr hcb
 rw [hsl] at this
 refine this.mono fun r' N ⟨u, h1, h2, h3⟩ => ⟨u, h1, ?_⟩
 rw [kR_len]
 unfold cR eR fR
 by_cases hm : mayR r
 ·rw [if_pos hm, if_pos hm, if_pos hm, if_pos hm]
  obtain ⟨w, M, A', o', h4, h5, h6⟩ := h2 hm
  exact ⟨w, M, A', 1, 1, o', h4, h5, rfl, h6⟩
 ·rw [if_neg hm, if_neg hm, if_neg hm, if_neg hm]
  obtain ⟨rfl, rfl⟩ := h3 hm
  exact ⟨_, [], none, 0, 0, false, rfl, .nil, rfl, rfl⟩
theorem CopX.see0 {N : HV} {r : Rec} {w : List V} (h : CopX N r w) {B : Bs} {hp : Hp} {L : HV} (hs : SV B hp L) (hm : ∀ p ∈ N, p ∈ L) : CopR ⟨hp, []⟩ r w := CopX.see (Lt := []) h hs hm
theorem outMem {L M r : HV} [k : OutM L M r] : ∀ p ∈ M, p ∈ L := fun p hp => k.h.mem_iff.2 (List.mem_append_left _ hp)
set_option maxHeartbeats 64000000 in
theorem writes_d {n : Int} {r : Rec} {v : List V} {hp : Hp} (ho : OkH hp) (hk : Tab ⟨hp, []⟩) (hrt : RTab ⟨hp, []⟩) (hkk : KTab ⟨hp, []⟩) (hr : RecR ⟨hp, []⟩ r v) :
  Fn kxD 3 [.i .i64 n, .agg v] hp [] fun r' _ => r' = .v (.b true) := by
 have hr0 := hr
 obtain ⟨hok, A, c, o, vs, rfl, hA, hvs⟩ := hr
 have hC : ∀ {s : V}, (recC r s).length = 68 := recC_len hok
 have hne : ∀ {s : V}, recC r s ≠ [] := fun e => by unfold recC at e; simp at e
 have hbl := bR_len hok
 have hne32 : ∀ {l : List V}, l.length = 32 → l ≠ [] := fun hl e => by rw [e] at hl; simp at hl
 refine fn_of_w (T := []) ho.sv (fun _ => rfl) (fn := Tryz.f3) (by kernel_rfl) rfl rfl ?_
 refine wo ?_
 apply p_op; exact (vwant_n rfl); iterate 4 exact rfl
 refine ev_box rfl rfl fun bx => ⟨_, rfl, ?_⟩
 refine wo ?_
 apply p_callY []; exact (vwant_n rfl); iterate 4 exact rfl
 case hC => exact (fun hp hs ht => books_d hs.ok)
 rintro u N ⟨cb, B, b, q, Z, oz, M, rfl, hcb, hB, hM, rfl⟩
 have hcl : ((cR cb r).map byV).length = 32 := by rw [List.length_map, cR_len]
 have hfl := fR_len (cb := cb) hok
 refine wo ?_
 refine zX (m_ldln (s := 67) (cs := recC r (.sl A r.ch.length c o)) rfl (by rw [List.drop_zero]; exact List.take_of_length_le (by rw [hC]; exact Nat.le_refl _)) hC) ?_
 apply p_callY []; exact (vwant_n rfl); iterate 4 exact rfl
 case hC => exact (fun hp hs ht => copy_d hs.ok (hr0.give0 hs))
 rintro u NC ⟨w, rfl, hcop⟩
 have hw68 : w.length = 68 := by obtain ⟨_, _, _, _, _, rfl, _⟩ := hcop; exact hC
 have hwne : w ≠ [] := fun e => by rw [e] at hw68; simp at hw68
 apply p_op; exact (vwant_n rfl); iterate 4 exact rfl
 refine e_alloc rfl fun bc => ⟨_, rfl, ?_⟩
 apply p_do; exact (vwant_n rfl); exact rfl; exact rfl
 refine e_stn (C' := w) rfl rfl hwne hw68 (Nat.le_of_ble_eq_true rfl) (overV_all (by rw [hw68]; rfl)) ⟨_, rfl, ?_⟩
 refine wl_heap (L' := (some bc, cellsO w 26) :: (some bx, cellsO (recC r (.sl A r.ch.length c o)) 26) :: (some q, cellsO (rbC 256 cb (.sl Z 32 32 oz) (.sl none 0 0 false)) 51) :: (bkL B ++ (NC ++ M))) (fun hp h => h.le) ?_
 refine wo ?_
 apply wm; iterate 5 exact rfl
 refine m_eqp rfl rfl
 refine wo ?_
 refine p_callq (vwant_g rfl rfl rfl) rfl rfl rfl rfl (fun hp hs => jfixed_d hs.ok (hkk.give0 hs)) ?_
 refine wo ?_
 refine zX (m_ldln (s := 67) (cs := recC r (.sl A r.ch.length c o)) rfl (by rw [List.drop_zero]; exact List.take_of_length_le (by rw [hC]; exact Nat.le_refl _)) hC) ?_
 apply p_callY []; exact (vwant_n rfl); iterate 4 exact rfl
 case hC => exact (fun hp hs ht => body19_u hs.ok (hr0.give0 hs))
 rintro u N1 ⟨w1, rfl, hu1⟩
 obtain ⟨A1, o1, rfl⟩ := hu1.sl
 refine wo ?_
 refine zX (m_ldln (s := 67) (cs := recC r (.sl A r.ch.length c o)) rfl (by rw [List.drop_zero]; exact List.take_of_length_le (by rw [hC]; exact Nat.le_refl _)) hC) ?_
 apply p_callM ([(some q, cellsO (rbC 256 cb (.sl Z 32 32 oz) (.sl none 0 0 false)) 51)]); exact (vwant_n rfl); iterate 4 exact rfl
 case hC => exact (fun hp hs ht => write19_u ht (hrt.give hs) (hM.rb hs) (hr0.give hs) hcb)
 rintro u N2' ⟨w2, N2, A', nq, cq, oq, rfl, hu2, hnq, rfl⟩
 rw [List.append_assoc]
 obtain ⟨A2, o2, rfl⟩ := hu2.sl
 refine wo ?_
 apply p_op; exact (vwant_n rfl); iterate 4 exact rfl
 refine e_alloc rfl fun bt1 => ⟨_, rfl, ?_⟩
 refine wo ?_
 apply p_do; exact (vwant_n rfl); exact rfl; exact rfl
 refine e_stn (C' := (cR cb r).map byV) rfl rfl (hne32 hcl) hcl (by simp) (overV_all (by rw [hcl]; simp)) ⟨_, rfl, ?_⟩
 refine wo ?_
 refine zX (m_ldln (s := 67) (cs := w) rfl (by rw [List.drop_zero]; exact List.take_of_length_le (by omega)) hw68) ?_
 apply p_callY []; exact (vwant_n rfl); iterate 4 exact rfl
 case hC => exact (fun hp hs ht => jbody_u hs.ok (hkk.give0 hs) (hcop.see (Lt := []) hs outMem).rec)
 rintro u N3 ⟨w3, rfl, hu3⟩
 obtain ⟨A3, o3, rfl⟩ := hu3.sl
 refine wo ?_
 refine zX (m_ldln (s := 67) (cs := w) rfl (by rw [List.drop_zero]; exact List.take_of_length_le (by omega)) hw68) ?_
 apply p_callM (bkL B); exact (vwant_n rfl); iterate 4 exact rfl
 case hC => exact (fun hp hs ht => jwrite_u hB ht (hk.give hs) (hkk.give hs) (hcop.see hs outMem).rec (by simp))
 rintro u N4' ⟨w4, N4, B1, rfl, hu4, hB1, rfl⟩
 rw [List.append_assoc]
 obtain ⟨A4, o4, rfl⟩ := hu4.sl
 refine wo ?_
 apply p_op; exact (vwant_n rfl); iterate 4 exact rfl
 refine e_alloc rfl fun bt2 => ⟨_, rfl, ?_⟩
 refine wo ?_
 apply p_do; exact (vwant_n rfl); exact rfl; exact rfl
 refine e_stn (C' := (cR cb r).map byV) rfl rfl (hne32 hcl) hcl (by simp) (overV_all (by rw [hcl]; simp)) ⟨_, rfl, ?_⟩
 refine wo ?_
 refine p_callq (vwant_n rfl) rfl rfl rfl rfl (fun hp hs => same_d hs.ok (hu3.rb0 hs) (hu1.rb0 hs) (by omega)) ?_
 refine wo ?_
 apply wmg; iterate 7 exact rfl
 refine mv_int (v := .b false) rfl rfl (vi_neqF ((by simp)))
 refine wo ?_
 refine p_callq (vwant_g rfl rfl rfl) rfl rfl rfl rfl (fun hp hs => same_d hs.ok (hu4.rb0 hs) (hu2.rb0 hs) (by omega)) ?_
 refine wo ?_
 refine zX (m_ldln (s := 31) (cs := (cR cb r).map byV) rfl (by rw [List.drop_zero]; exact List.take_of_length_le (by omega)) hcl) ?_
 refine zX (m_ldln (s := 31) (cs := (cR cb r).map byV) rfl (by rw [List.drop_zero]; exact List.take_of_length_le (by omega)) hcl) ?_
 apply wmg; iterate 7 exact rfl
 refine m_neqA rfl rfl rfl (cR_len cb r) (cR_len cb r)
 rw [decide_eq_true rfl]
 refine wo ?_
 apply wmg; iterate 7 exact rfl
 refine mv_int (v := .b false) rfl rfl (vi_neqF ((by simp)))
 refine wo ?_
 refine zX (m_ldln (s := 67) (cs := w) rfl (by rw [List.drop_zero]; exact List.take_of_length_le (by omega)) hw68) ?_
 apply p_callY []; exact (vwant_n rfl); iterate 4 exact rfl
 case hC => exact (fun hp hs ht => jbody_u hs.ok (hkk.give0 hs) (hcop.see (Lt := []) hs outMem).rec)
 rintro u N5 ⟨w5, rfl, hu5⟩
 obtain ⟨A5, o5, rfl⟩ := hu5.sl
 refine wo ?_
 refine zX (m_ldln (s := 67) (cs := w) rfl (by rw [List.drop_zero]; exact List.take_of_length_le (by omega)) hw68) ?_
 have hkl : (kR r []).length < 100000000 := by rw [kR_len]; split <;> decide
 apply p_callM (bkL B1); exact (vwant_n rfl); iterate 4 exact rfl
 case hC => exact (fun hp hs ht => jwrite_u hB1 ht (hk.give hs) (hkk.give hs) (hcop.see hs outMem).rec hkl)
 rintro u N6' ⟨w6, N6, B2, rfl, hu6, hB2, rfl⟩
 rw [List.append_assoc]
 rw [kR_two] at hB2
 obtain ⟨A6, o6, rfl⟩ := hu6.sl
 refine wo ?_
 apply p_op; exact (vwant_n rfl); iterate 4 exact rfl
 refine e_alloc rfl fun bt3 => ⟨_, rfl, ?_⟩
 refine wo ?_
 apply p_do; exact (vwant_n rfl); exact rfl; exact rfl
 refine e_stn (C' := (cR cb r).map byV) rfl rfl (hne32 hcl) hcl (by simp) (overV_all (by rw [hcl]; simp)) ⟨_, rfl, ?_⟩
 refine wo ?_
 refine p_callq (vwant_n rfl) rfl rfl rfl rfl (fun hp hs => same_d hs.ok (hu5.rb0 hs) (hu1.rb0 hs) (by omega)) ?_
 refine wo ?_
 refine p_callq (vwant_g rfl rfl rfl) rfl rfl rfl rfl (fun hp hs => same_d hs.ok (hu6.rb0 hs) (hu2.rb0 hs) (by omega)) ?_
 refine wo ?_
 apply p_op; exact (vwant_g rfl rfl rfl); iterate 4 exact rfl
 refine e_bs (C := [.sl A3 (bR r).length (bR r).length o3, .sl A4 (fR cb r).length (fR cb r).length o4, .sl A5 (bR r).length (bR r).length o5, .sl A6 (fR cb r).length (fR cb r).length o6]) rfl rfl (.cons rfl rfl (.cons rfl rfl (.cons rfl rfl (.cons rfl rfl .nil)))) rfl fun ba => ⟨_, rfl, ?_⟩
 refine wl_heap (L' := (N3 ++ (N4 ++ (N5 ++ N6))) ++ ((some ba, cellsO [.sl A3 (bR r).length (bR r).length o3, .sl A4 (fR cb r).length (fR cb r).length o4, .sl A5 (bR r).length (bR r).length o5, .sl A6 (fR cb r).length (fR cb r).length o6] 33) :: (some bc, cellsO w 26) :: (some bx, cellsO (recC r (.sl A r.ch.length c o)) 26) :: (some q, cellsO (rbC 256 cb (.sl Z 32 32 oz) (.sl A' nq cq oq)) 51) :: (bkL B2 ++ NC))) (fun hp h => h.le) ?_
 apply p_callM ((N3 ++ (N4 ++ (N5 ++ N6)))); exact (vwant_g rfl rfl rfl); iterate 4 exact rfl
 case hC => exact (fun hp hs ht => apart_d ht hs hu3 hu4 hu5 hu6 (by omega) (by omega) (by omega) (by omega))
 rintro u N7 ⟨rfl, rfl⟩
 refine wo ?_
 apply p_callM (bkL B2); exact (vwant_n rfl); iterate 4 exact rfl
 case hC => exact (fun hp hs ht => len_s hB2 ht)
 rintro u N8 ⟨rfl, rfl⟩
 refine wo ?_
 refine zX (m_ldln (s := 67) (cs := w) rfl (by rw [List.drop_zero]; exact List.take_of_length_le (by omega)) hw68) ?_
 refine zX (m_ldln (s := 67) (cs := recC r (.sl A r.ch.length c o)) rfl (by rw [List.drop_zero]; exact List.take_of_length_le (by rw [hC]; exact Nat.le_refl _)) hC) ?_
 refine p_callq (vwant_n rfl) rfl rfl rfl rfl (fun hp hs => whole_d hs.ok (hcop.see0 hs outMem) (hr0.give0 hs)) ?_
 refine wo ?_
 subst hnq
 apply wmg; iterate 7 exact rfl
 refine mv_int (v := .b true) rfl rfl (vi_eqlT (rfl))
 refine wo ?_
 exact w_ret (wend_ret (vres1 (rv_tmp rfl)) rfl)
end Go.Proofs.YtbmkclbghfbegaaGreatDoor
namespace Go.Proofs.YtbmkclbghfbegaaGreatDoor
open Go.ChangeShapes Go.WideShapes Go.ChangeAt Go.RowKit Go.Extern.Stop
theorem jwrOwn : ownKnob Tryz.prog.godebug = none := by kernel_rfl
theorem jwrLaidOut : laidOutB Tryz.prog = true := by kernel_rfl
abbrev jGs : Gs := (0, kindsC, 163) :: rGs
theorem j_nb : ∀ x ∈ jGs, x.2.1.all notByte = true := by
 intro x hx
 rcases List.mem_cons.1 hx with rfl | hx
 ·kernel_rfl
 ·exact r_nb x hx
def kindsL : List Value := [.int .i64 1, .int .i64 0, .int .i64 0, .bool false, .int .i64 2, .int .i64 1, .int .i64 32, .bool true]
set_option maxRecDepth 100000 in
theorem j_gs {W : World} {ps : List MemPlace} {r : List (String × DataW Unit)} (hL : DataW.LaidVars Tryz.prog W (("cairn/cairnref02.rounds", Rows.laid_cairn_cairnref02_rounds) :: ("cairn/sha.k", Rows.laid_cairn_sha_k) :: ("cairn/sha.first", Rows.laid_cairn_sha_first) :: ("cairn/journal.kinds", Rows.laid_cairn_journal_kinds) :: r) ps) (hS : W.ShapedOpen Tryz.prog) : ∀ x ∈ jGs, GOk W x := by
 obtain ⟨g1, ps2, h2⟩ := laid_gl 2 237 (kW.map wcell) (kW.map wV) hL hS (by kernel_rfl) (by kernel_rfl) (of_decide_eq_true (by kernel_rfl)) (of_decide_eq_true (by kernel_rfl)) (by kernel_rfl) (by kernel_rfl) (by kernel_rfl) (fun E => mapWV_ren _) (by kernel_rfl)
 obtain ⟨g2, ps3, h3⟩ := laid_gl 4 237 (kW.map wcell) (kW.map wV) h2 hS (by kernel_rfl) (by kernel_rfl) (of_decide_eq_true (by kernel_rfl)) (of_decide_eq_true (by kernel_rfl)) (by kernel_rfl) (by kernel_rfl) (by kernel_rfl) (fun E => mapWV_ren _) (by kernel_rfl)
 obtain ⟨g3, ps4, h4⟩ := laid_gl 3 220 (firstW.map wcell) (firstW.map wV) h3 hS (by kernel_rfl) (by kernel_rfl) (of_decide_eq_true (by kernel_rfl)) (of_decide_eq_true (by kernel_rfl)) (by kernel_rfl) (by kernel_rfl) (by kernel_rfl) (fun E => mapWV_ren _) (by kernel_rfl)
 obtain ⟨g4, _⟩ := laid_gl 0 163 kindsL kindsC h4 hS (by kernel_rfl) (by kernel_rfl) (of_decide_eq_true (by kernel_rfl)) (of_decide_eq_true (by kernel_rfl)) (by kernel_rfl) (by kernel_rfl) (by kernel_rfl) (fun E => rfl) (by kernel_rfl)
 intro x hx
 simp only [jGs, rGs, shaGs, List.mem_cons, List.not_mem_nil, or_false] at hx
 rcases hx with rfl | rfl | rfl | rfl <;> assumption
set_option maxRecDepth 100000 in
theorem j_tab {W : World} {bs : List GV} (hg : ∀ x ∈ jGs, GOk W x) (hb : ∀ q ∈ bs, GvOk W (gvE bs) q) : Tab ⟨gvHp jGs bs, []⟩ ∧ RTab ⟨gvHp jGs bs, []⟩ ∧ KTab ⟨gvHp jGs bs, []⟩ := by
 have e1 := gv_glob hg j_nb hb (x := (4, kW.map wV, 237)) (by simp) (by kernel_rfl)
 have e2 := gv_glob hg j_nb hb (x := (3, firstW.map wV, 220)) (by simp) (by kernel_rfl)
 have e3 := gv_glob hg j_nb hb (x := (2, kW.map wV, 237)) (by simp) (by kernel_rfl)
 have e4 := gv_glob hg j_nb hb (x := (0, kindsC, 163)) (by simp) (by kernel_rfl)
 have hnx : ∀ g, g < 64 → g < (gvHp jGs bs).nx := fun g h => by show g < 66 + 4 * bs.length; omega
 have hro : ∀ {g : Nat} {cs : List V} {t : TypeId}, g < 64 → (gvHp jGs bs).t.get g = some (.cells cs t none false) → RO (gvHp jGs bs) (some (g, 0)) cs := fun hg e => ⟨fun b o e => by
  simp only [Option.some.injEq, Prod.mk.injEq] at e
  obtain ⟨rfl, rfl⟩ := e
  exact .inl (hnx _ hg), fun j v hv => ⟨_, 0, rfl, by
   simp only [cellV, cellsAt, Hp.get, e, Option.bind_some, Nat.zero_add]
   exact hv⟩⟩
 have r2 := hro (by decide) e2
 have r3 := hro (by decide) e3
 have r4 := hro (by decide) e4
 exact ⟨⟨⟨_, e1⟩, not_own0 (.inl (hnx _ (by decide))), r2, now0 r2⟩, ⟨r3, now0 r3⟩, ⟨r4, now0 r4⟩⟩
set_option maxRecDepth 100000 in
theorem jwrContract (H : Type) (enc : TypeId × Value → H) (W : World) (base : Nat) (args : Array Value) (ds gs : List (DataW H)) (before : List MemPlace)
  (hval : ∀ (j : Nat) t v, Tryz.f3.params[j]? = some t → args[j]? = some v → Value.okWide Tryz.prog W .any base t v)
  (hW : DataW.Whole enc Tryz.prog Tryz.f3.params.toList Rows.journalWritesSpec.vars false W args.toList ds gs before) (hz : (DataW.weightsEach Tryz.prog (Tryz.f3.params.toList ++ Rows.journalWritesSpec.plain.varTypes Tryz.prog) (ds ++ gs)).all (· ≤ reachBytes) = true) (hL : laidMetH Tryz.prog Rows.journalWritesRow.laid W) (hS : W.ShapedOpen Tryz.prog) :
  Calls Tryz.prog 3 args W fun e W' => ∃ v, e = .returned v ∧ Rows.journalWritesSpec.post enc Tryz.prog Tryz.f3 false true false false W args v W' := by
 have hW' := hW
 obtain ⟨p, q, hA0, hV, rfl, hfz, hnd⟩ := hW
 have hA : DataW.TrodAll enc Tryz.prog W 0 (fun _ => true) true Tryz.f3.params.toList args.toList ds p := hA0
 rw [Tryz.params3] at hA hval hz
 obtain ⟨v0, vs0, d0, ds0, p0, q0, e0, rfl, rfl, h0, r0⟩ := trodAll_cons hA
 obtain ⟨v1, vs1, d1, ds1, p1, q1, e1, rfl, rfl, h1, r1⟩ := trodAll_cons r0
 obtain ⟨rfl, rfl⟩ := trodAll_nil r1
 obtain rfl : args = #[v0, v1] := by cases args; simp_all
 obtain ⟨rfl, rfl⟩ := trodVars_none hV
 obtain ⟨n, rfl, _⟩ := okWide_int (IntT.h (P := Tryz.prog) (t := 3)) (hval 0 _ v0 rfl rfl)
 simp only [List.cons_append, List.nil_append, DataW.weightsEach, List.all_append, List.all_nil, List.append_nil, Bool.and_eq_true] at hz
 obtain ⟨r, g0, c, l, hr, hch, hE, hq, hg0, hargs⟩ := open_rec (hval 1 _ v1 rfl rfl) h1 hz.2.1
 obtain ⟨ps, hl, _⟩ := (show laidMet Tryz.prog Rows.journalWritesRow.laid W from hL)
 have hG := j_gs hl hS
 have hb := rec_gv hE hg0
 have hT := j_tab hG hb
 have hargs2 : renL (gvE (g0 :: entG l)) [.i .i64 n, .agg (recC r (gvV 0 g0 r.ch.length c))] = some [.int .i64 n, v1] := by
  have h := hargs
  simp only [renL, Option.bind_eq_some_iff, Option.map_eq_some_iff] at h ⊢
  exact ⟨_, rfl, _, h, rfl⟩
 refine (gv_law (gs := jGs) (bs := g0 :: entG l) hG j_nb hb kxD_ok hargs2 (writes_d (gv_okH hG j_nb hb) hT.1 hT.2.1 hT.2.2 (rec_r hG j_nb hb hr hch hE hq))).mono ?_
 rintro e W' ⟨rfl, hb⟩
 exact ⟨_, rfl, law_post hW' jwrLaidOut (by kernel_rfl) rfl (by kernel_rfl) rfl rfl rfl rfl hb⟩
def jwrCells (l : List Nat) : Array Value := (l.map fun n => Value.int .u32 (.ofNat n)).toArray
def jwrK : List Nat := [1116352408, 1899447441, 3049323471, 3921009573, 961987163, 1508970993, 2453635748, 2870763221, 3624381080, 310598401, 607225278, 1426881987, 1925078388, 2162078206, 2614888103, 3248222580, 3835390401, 4022224774, 264347078, 604807628, 770255983, 1249150122, 1555081692, 1996064986, 2554220882, 2821834349, 2952996808, 3210313671, 3336571891, 3584528711, 113926993, 338241895, 666307205, 773529912, 1294757372, 1396182291, 1695183700, 1986661051, 2177026350, 2456956037, 2730485921, 2820302411, 3259730800, 3345764771, 3516065817, 3600352804, 4094571909, 275423344, 430227734, 506948616, 659060556, 883997877, 958139571, 1322822218, 1537002063, 1747873779, 1955562222, 2024104815, 2227730452, 2361852424, 2428436474, 2756734187, 3204031479, 3329325298]
def jwrFirst : List Nat := [1779033703, 3144134277, 1013904242, 2773480762, 1359893119, 2600822924, 528734635, 1541459225]
def jwrPut (l : Array Value) : Obj → Obj
 | .cells _ t frozen => .cells l t frozen
 | o => o
def jwrArgs : Array Value := #[.int .i64 0, .agg (.int .i64 0 :: .int .i64 0 :: .int .i64 0 :: (List.replicate 64 (.int .u8 0) ++ [.slice none 0 0])).toArray]
noncomputable def jwrWorld (os : Os) : World :=
 { World.holding Tryz.prog os ⟨#[], #[], []⟩ with heap := ((((World.holding Tryz.prog os ⟨#[], #[], []⟩).heap.modify 2 (jwrPut (jwrCells jwrK))).modify 4 (jwrPut (jwrCells jwrK))).modify 3 (jwrPut (jwrCells jwrFirst))).modify 0 (jwrPut kindsL.toArray) }
set_option maxRecDepth 100000 in
theorem jwr_laid (os : Os) : laidMet Tryz.prog Rows.journalWritesRow.laid ((jwrWorld os).forCall (fun _ _ => 0) ⟨#[], jwrArgs, []⟩).memory :=
 laidMet_of_run' 8 (by kernel_rfl) (by kernel_rfl)
theorem jwr_reads (os : Os) {H : Type} (enc : TypeId × Value → H) : ∃ places, DataW.whole enc Tryz.prog ((jwrWorld os).forCall (fun _ _ => 0) ⟨#[], jwrArgs, []⟩).memory Tryz.f3.params.toList Rows.journalWritesSpec.vars false jwrArgs.toList 8 =
  some ([.lit (.int .i64 0), .agg [.lit (.int .i64 0), .lit (.int .i64 0), .lit (.int .i64 0), .agg (List.replicate 32 (.lit (.int .u8 0))), .agg (List.replicate 32 (.lit (.int .u8 0))), .nil]], [], places) :=
 ⟨[], by kernel_rfl⟩
set_option maxRecDepth 100000 in
theorem jwr_lifted (os : Os) (started : os.Started) (H : Type) (enc : TypeId × Value → H) (F : Stop.Interp) :
  ReturnsInHanded {} Tryz.checked os 3 .any ((OpenSpec.ofChange Rows.journalWritesSpec).preRow enc Tryz.prog Tryz.f3 Rows.journalWritesRow.domain false Rows.journalWritesRow.laid) (((OpenSpec.ofChange Rows.journalWritesSpec).at F).post enc Tryz.prog Tryz.f3 false true false false) := by
 obtain ⟨places, hx⟩ := jwr_reads os enc
 refine returnsInHanded_of_row (C := Tryz.checked) (s := OpenSpec.ofChange Rows.journalWritesSpec) jwrOwn started (by kernel_rfl) Tryz.func3
  (witness_row_at (enc := enc) (C := Tryz.checked) false (jwrWorld os) jwrArgs rfl (by kernel_rfl) (by kernel_rfl) (by kernel_rfl)
   (OpenSpec.preRow_of_cond 8 hx (by kernel_rfl) (fun k hk => by cases hk) (by kernel_rfl) (jwr_laid os))) ?_
 intro W base args ds gs before hval hW _ _ hz hL hS _
 exact jwrContract H enc W base args ds gs before hval hW hz hL hS
theorem jwr_said : Rows.JournalWritesSaid :=
 OpenClaim.holds_of_cond 3 Tryz.f3 rfl rfl rfl rfl rfl rfl rfl ⟨rfl, rfl, rfl, rfl, rfl⟩ rfl rfl rfl rfl rfl (by kernel_rfl) Tryz.func3 (by kernel_rfl)
  (of_decide_eq_true (by kernel_rfl)) (by unfold Func.isWrapper; rw [if_neg (of_decide_eq_false (by kernel_rfl))]; exact ⟨rfl, rfl⟩)
  (fun os started H enc _ F => by rw [OpenClaim.pre_eq_preRow]; exact jwr_lifted os started H enc F)
theorem jwr_plain (f : FuncId) (fn : Func) (hf : Tryz.pinned.checked.prog.funcNamed "cairn/cairnlaw19.JournalWrites" = some f) (hfn : Tryz.pinned.checked.prog.funcs[f]? = some fn) :
  Rows.journalWritesCard.stood.looks = Tryz.pinned.checked.prog.looks [] ∧ ∀ (j : Nat) t, fn.params[j]? = some t → Tryz.pinned.checked.prog.wantsStandIn t = false := by
 obtain rfl : f = 3 := Option.some.inj ((show Tryz.prog.funcNamed "cairn/cairnlaw19.JournalWrites" = some 3 by kernel_rfl).symm.trans hf) |>.symm
 obtain rfl : fn = Tryz.f3 := (Option.some.inj (Tryz.func3.symm.trans hfn)).symm
 refine ⟨by kernel_rfl, fun j t ht => ?_⟩
 rw [Tryz.params3] at ht
 have : t = 3 ∨ t = 26 := by simpa using Array.mem_of_getElem? ht
 rcases this with rfl | rfl
 ·exact (show Tryz.prog.wantsStandIn 3 = false by kernel_rfl)
 ·exact (show Tryz.prog.wantsStandIn 26 = false by kernel_rfl)
theorem JournalWrites_holds : Rows.JournalWritesCardSaid :=
 Claim7.holds_tied_plain_at .later [] _ _ _ _ jwr_said (fun _ h => by cases h) (by kernel_rfl) (fun _ h => by cases h) journalWrites_row_tie rfl ⟨rfl, rfl⟩ (by kernel_rfl) rfl jwr_plain (by kernel_rfl)
#print axioms JournalWrites_holds
end Go.Proofs.YtbmkclbghfbegaaGreatDoor
