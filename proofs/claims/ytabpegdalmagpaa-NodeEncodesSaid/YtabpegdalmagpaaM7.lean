/- THE LAW NodeEncodes: of any node whether it may be, and its bytes, as the document says; what is handed in stays as it was; every input. No conditions. By this project. -/
import Derived.Test.YtabpegdalmagpaaM6
set_option linter.unusedVariables false
set_option linter.unusedSectionVars false
set_option linter.unusedSimpArgs false
set_option maxRecDepth 100000
/- Nm1: the statements' Same, num, known. By this project. -/
set_option maxRecDepth 100000
namespace Go.Proofs.Ytabpegdalmagpaa
open Go.RowKit Go.Extern.Stop
section
variable {K : Kx} {hp0 : Bs} {l : VL} {L : HV} {a b : Operand} {t t' : TypeId}
theorem m_eqlD {k : IntKind} {x y : Int} {p : Prop} [Decidable p] (hx : evL l a = some (.i k x)) (hy : evL l b = some (.i k y)) (hp : p ↔ x = y) : MVO K hp0 l L (.binOp .eql t a b t') (.b (decide p)) := by
 by_cases h : p
 ·rw [decide_eq_true h]; exact mv_int (v := .b true) hx hy (vi_eqlT (hp.1 h))
 ·rw [decide_eq_false h]; exact mv_int (v := .b false) hx hy (vi_eqlF fun g => h (hp.2 g))
end
def RBe (B : Bs) (A : Option (Nat × Nat)) (cs : List V) : Prop := RB B A cs ∨ cs = []
abbrev reP (B : Bs) : PP := fun A _ _ cs => RBe B A cs
theorem rz_emp {hp0 : Bs} {L : HV} {A : Option (Nat × Nat)} : RZ hp0 L A [] := fun hp hs j v hv => by simp at hv
theorem RBe.z {B : Bs} {A : Option (Nat × Nat)} {cs : List V} {L : HV} (h : RBe B A cs) : RZ B L A cs := h.elim (fun h => h.z) (fun h => by subst h; exact rz_emp)
theorem RBe.give0 {B : Bs} {hp : Hp} {A : Option (Nat × Nat)} {cs : List V} {L : HV} (h : RBe B A cs) (hs : SV B hp L) : RBe ⟨hp, []⟩ A cs := h.imp (fun h => h.give0 hs) id
theorem RBe.ne {B : Bs} {A : Option (Nat × Nat)} {xs : List UInt8} (h : RBe B A (xs.map byV)) (hn : 0 < xs.length) : RB B A (xs.map byV) := h.resolve_right fun e => by
 have := congrArg List.length e
 rw [List.length_map] at this
 simp at this
 rw [this] at hn
 simp at hn
section
variable {K : Kx} {hp0 : Bs} {l : VL} {L : HV}
theorem e_b2sZ {s t e : TypeId} {x : Operand} {xs : List UInt8} {A : Option (Nat × Nat)} {c : Nat} {op : Bool} {k : VR → HV → Prop} [hs : SliceV K.C s e] [ht : StrV K.C t] [he : IntV K.C e .u8] (hx : evL l x = some (.sl A xs.length c op)) (hr : RZ hp0 L A (xs.map byV)) (hk : k (.v (.s xs)) L) : EV K hp0 l L (.convert s t x) [] k := by
 obtain ⟨si, h1, h2⟩ := hs.h
 obtain ⟨ti, h3, h4⟩ := ht.h
 obtain ⟨ei, h5, h6⟩ := he.h
 refine ev_same (fun call fr hp hf hsv => ?_) hk
 show oConv K.C fr hp s t x = _
 have hv := hr hp hsv
 cases A with
 | none =>
  have h0 : xs = [] := by
   cases xs with
   | nil => rfl
   | cons y r =>
    obtain ⟨b, o, e, _⟩ := hv 0 (byV y) rfl
    simp at e
  subst h0
  simp only [oConv, hf.ev hx, Option.bind_some, vconv, h1, h3, h2, h4, h5, h6, ret2]
 | some a =>
  obtain ⟨b, o⟩ := a
  have hl := rv_load (b := b) (o := o) hv
  rw [List.length_map] at hl
  simp only [oConv, hf.ev hx, Option.bind_some, vconv, h1, h3, h2, h4, h5, h6, hl, mapO_asBy, ret2]
end
open Classical in
noncomputable def sameR (r r' : RefS) : Bool := decide (r = r')
open Classical in
noncomputable def sameN (n m : NodS) : Bool := decide (n = m)
open Classical in
theorem sameR_t {r r' : RefS} (h : r = r') : sameR r r' = true := decide_eq_true h
open Classical in
theorem sameR_f {r r' : RefS} (h : r ≠ r') : sameR r r' = false := decide_eq_false h
open Classical in
theorem sameN_t {r r' : NodS} (h : r = r') : sameN r r' = true := decide_eq_true h
open Classical in
theorem sameN_f {r r' : NodS} (h : r ≠ r') : sameN r r' = false := decide_eq_false h
theorem num_d {e : Int} {hp : Hp} (ho : OkH hp) : Fn kxD 9 [.i .i64 e] hp [] fun r _ => r = .v (.i .i64 e) := by
 refine fn_of_w (T := []) ho.sv (fun _ => rfl) (fn := Try.f9) (by kernel_rfl) rfl rfl ?_
 refine wo ?_
 exact w_ret (wend_ret (vres1 (rv_tmp rfl)) rfl)
set_option maxHeartbeats 8000000 in
theorem sameref2_d {P P' : PP} {r r' : RefS} {w w' : List V} {hp : Hp} (ho : OkH hp) (hr : RefP P r w) (hr' : RefP P' r' w') (hP : ∀ A c o cs, P A c o cs → RBe ⟨hp, []⟩ A cs) (hP' : ∀ A c o cs, P' A c o cs → RBe ⟨hp, []⟩ A cs) :
  Fn kxD 37 [.agg w, .agg w'] hp [] fun q _ => q = .v (.b (sameR r r')) := by
 obtain ⟨hh, A, c, o, hw, hA, _⟩ := hr
 obtain ⟨hh', A', c', o', hw', hA', _⟩ := hr'
 subst hw hw'
 have hB := hP _ _ _ _ hA
 have hB' := hP' _ _ _ _ hA'
 refine fn_of_w (T := []) ho.sv (fun _ => rfl) (fn := Try.f37) (by kernel_rfl) rfl rfl ?_
 refine wo ?_
 apply p_op; exact (vwant_n rfl); iterate 4 exact rfl
 refine ev_box rfl rfl fun ba => ⟨_, rfl, ?_⟩
 apply p_op; exact (vwant_n rfl); iterate 4 exact rfl
 refine ev_box rfl rfl fun bb => ⟨_, rfl, ?_⟩
 refine wo ?_
 by_cases k : r.k = r'.k
 rotate_left
 ·apply wm; iterate 5 exact rfl
  refine mv_int (v := .b false) rfl rfl (vi_eqlF (k))
  refine wo ?_
  exact w_ret (wend_ret (vres1 (rv_tmp rfl)) (by rw [sameR_f (fun e => k (by rw [e]))]))
 apply wm; iterate 5 exact rfl
 refine mv_int (v := .b true) rfl rfl (vi_eqlT (k))
 refine wo ?_
 refine zX (m_ldln (s := 31) (cs := r.h.map byV) rfl (refC_hash hh) (by rw [List.length_map, hh])) ?_
 refine wo ?_
 refine zX (m_ldln (s := 31) (cs := r'.h.map byV) rfl (refC_hash hh') (by rw [List.length_map, hh'])) ?_
 apply wmg; iterate 7 exact rfl
 refine m_eqA rfl rfl rfl hh hh'
 by_cases kh : r.h = r'.h
 rotate_left
 ·rw [decide_eq_false kh]
  refine wo ?_
  exact w_ret (wend_ret (vres1 (rv_tmp rfl)) (by rw [sameR_f (fun e => kh (by rw [e]))]))
 rw [decide_eq_true kh]
 refine wo ?_
 refine zX (m_ldl rfl (refC_node hh)) ?_
 apply p_op; exact (vwant_g rfl rfl rfl); iterate 4 exact rfl
 refine e_b2sZ rfl hB.z ⟨_, rfl, ?_⟩
 refine wo ?_
 refine zX (m_ldl rfl (refC_node hh')) ?_
 apply p_op; exact (vwant_g rfl rfl rfl); iterate 4 exact rfl
 refine e_b2sZ rfl hB'.z ⟨_, rfl, ?_⟩
 apply wmg; iterate 7 exact rfl
 refine m_eqs rfl rfl
 have e : (r.n == r'.n) = sameR r r' := by
  by_cases kn : r.n = r'.n
  ·rw [beq_iff_eq.2 kn, sameR_t]
   obtain ⟨a1, a2, a3⟩ := r
   obtain ⟨b1, b2, b3⟩ := r'
   simp only at k kh kn
   rw [k, kh, kn]
  ·rw [beq_eq_false_iff_ne.2 kn, sameR_f (fun e => kn (by rw [e]))]
 rw [e]
 refine wo ?_
 exact w_ret (wend_ret (vres1 (rv_tmp rfl)) rfl)
theorem kid_at {P : PP} {n : NodS} {w : List V} (hn : NodP P n w) {i : Nat} (hi : i < 16) : ∃ r x, n.kids[i]? = some r ∧ (w.drop (0 + 38 + i * 34)).take 34 = x ∧ RefP P r x := by
 obtain ⟨h0, A, c, o, A', c', o', nx, ks, rfl, _, _, _, _, hnx, hks⟩ := hn
 obtain ⟨x, h1, _, h2⟩ := nodC_kid (n := n) (p := .sl A n.path.length c o) (v := .sl A' n.val.length c' o') hnx.len hks (i := i) (by omega)
 exact ⟨n.kids[i]'(by omega), x, List.getElem?_eq_getElem (by omega), h1, h2⟩
theorem take_all2 {α : Type} {a b : List α} {i : Nat} (h : a.take i = b.take i) {x : α} (ha : a[i]? = some x) (hb : b[i]? = some x) : a.take (i + 1) = b.take (i + 1) := by
 obtain ⟨h1, h2⟩ := List.getElem?_eq_some_iff.1 ha
 obtain ⟨h3, h4⟩ := List.getElem?_eq_some_iff.1 hb
 rw [List.take_succ_eq_append_getElem h1, List.take_succ_eq_append_getElem h3, h, h2, h4]
set_option maxHeartbeats 16000000 in
theorem nsameE_d {P P' : PP} {n m : NodS} {w w' : List V} {hp : Hp} (ho : OkH hp) (hn : NodP P n w) (hm : NodP P' m w') (hP : ∀ A c o cs, P A c o cs → RBe ⟨hp, []⟩ A cs) (hP' : ∀ A c o cs, P' A c o cs → RBe ⟨hp, []⟩ A cs) :
  Fn kxD 17 [.agg w, .agg w'] hp [] fun q _ => q = .v (.b (sameN n m)) := by
 have hl := hn.len
 have hl' := hm.len
 have hk16 := hn.1
 have hk16' := hm.1
 have hkid := fun {i : Nat} (h : i < 16) => kid_at hn h
 have hkid' := fun {i : Nat} (h : i < 16) => kid_at hm h
 obtain ⟨_, A, c, o, A2, c2, o2, nx, ks, hw, p1, _, p2, _, hnx, _⟩ := hn
 obtain ⟨_, A', c', o', A2', c2', o2', nx', ks', hw', p1', _, p2', _, hnx', _⟩ := hm
 have hB1 := hP _ _ _ _ p1
 have hB2 := hP _ _ _ _ p2
 have hB1' := hP' _ _ _ _ p1'
 have hB2' := hP' _ _ _ _ p2'
 have e0 : w[0 + 0]? = some (.i .i64 n.k) := by rw [hw]; rfl
 have e1 : w[0 + 1]? = some (.sl A n.path.length c o) := by rw [hw]; rfl
 have e2 : w[0 + 2]? = some (.sl A2 n.val.length c2 o2) := by rw [hw]; rfl
 have e3 : w[0 + 3]? = some (.b n.full) := by rw [hw]; rfl
 have e4 : (w.drop (0 + 4)).take 34 = nx := by rw [hw]; exact nodC_next hnx.len
 have e0' : w'[0 + 0]? = some (.i .i64 m.k) := by rw [hw']; rfl
 have e1' : w'[0 + 1]? = some (.sl A' m.path.length c' o') := by rw [hw']; rfl
 have e2' : w'[0 + 2]? = some (.sl A2' m.val.length c2' o2') := by rw [hw']; rfl
 have e3' : w'[0 + 3]? = some (.b m.full) := by rw [hw']; rfl
 have e4' : (w'.drop (0 + 4)).take 34 = nx' := by rw [hw']; exact nodC_next hnx'.len
 clear hw hw'
 refine fn_of_w (T := []) ho.sv (fun _ => rfl) (fn := Try.f17) (by kernel_rfl) rfl rfl ?_
 refine wo ?_
 apply p_op; exact (vwant_n rfl); iterate 4 exact rfl
 refine ev_box rfl rfl fun ba => ⟨_, rfl, ?_⟩
 apply p_op; exact (vwant_n rfl); iterate 4 exact rfl
 refine ev_box rfl rfl fun bb => ⟨_, rfl, ?_⟩
 refine wOS0 ?_
 refine w_cutS [(3, .p (some (bb, 0))), (2, .p (some (ba, 0)))] [(some bb, cellsO w' 29), (some ba, cellsO w 29)] (n.k = m.k ∧ n.full = m.full ∧ n.path = m.path ∧ n.val = m.val ∧ n.next = m.next) ?_ fun hC => ?_
 ·refine wo ?_
  refine zX (m_ldl rfl e0) ?_
  refine wo ?_
  refine zX (m_ldl rfl e0') ?_
  by_cases k1 : n.k = m.k
  rotate_left
  ·apply wm; iterate 5 exact rfl
   refine mv_int (v := .b true) rfl rfl (vi_neqT (k1))
   refine wo ?_
   exact w_ret (wend_ret (vres1 (rv_tmp rfl)) (by rw [sameN_f (fun e => k1 (by rw [e]))]))
  apply wm; iterate 5 exact rfl
  refine mv_int (v := .b false) rfl rfl (vi_neqF (k1))
  refine wo ?_
  refine zX (m_ldl rfl e3) ?_
  refine wo ?_
  refine zX (m_ldl rfl e3') ?_
  apply wmg; iterate 7 exact rfl
  refine m_neqb rfl rfl rfl
  cases k2 : (!(n.full == m.full)) with
  | true =>
   refine wo ?_
   exact w_ret (wend_ret (vres1 (rv_tmp rfl)) (by rw [sameN_f (fun e => by rw [e] at k2; simp at k2)]))
  | false =>
  have k2' : n.full = m.full := by simpa using k2
  refine wo ?_
  refine zX (m_ldl rfl e1) ?_
  apply p_op; exact (vwant_g rfl rfl rfl); iterate 4 exact rfl
  refine e_b2sZ rfl hB1.z ⟨_, rfl, ?_⟩
  refine wo ?_
  refine zX (m_ldl rfl e1') ?_
  apply p_op; exact (vwant_g rfl rfl rfl); iterate 4 exact rfl
  refine e_b2sZ rfl hB1'.z ⟨_, rfl, ?_⟩
  apply wmg; iterate 7 exact rfl
  refine m_neqs rfl rfl
  by_cases k3 : n.path = m.path
  rotate_left
  ·rw [show (!(n.path == m.path)) = true by simp [k3]]
   refine wo ?_
   exact w_ret (wend_ret (vres1 (rv_tmp rfl)) (by rw [sameN_f (fun e => k3 (by rw [e]))]))
  rw [show (!(n.path == m.path)) = false by simp [k3]]
  refine wo ?_
  refine zX (m_ldl rfl e2) ?_
  apply p_op; exact (vwant_g rfl rfl rfl); iterate 4 exact rfl
  refine e_b2sZ rfl hB2.z ⟨_, rfl, ?_⟩
  refine wo ?_
  refine zX (m_ldl rfl e2') ?_
  apply p_op; exact (vwant_g rfl rfl rfl); iterate 4 exact rfl
  refine e_b2sZ rfl hB2'.z ⟨_, rfl, ?_⟩
  apply wmg; iterate 7 exact rfl
  refine m_neqs rfl rfl
  by_cases k4 : n.val = m.val
  rotate_left
  ·rw [show (!(n.val == m.val)) = true by simp [k4]]
   refine wo ?_
   exact w_ret (wend_ret (vres1 (rv_tmp rfl)) (by rw [sameN_f (fun e => k4 (by rw [e]))]))
  rw [show (!(n.val == m.val)) = false by simp [k4]]
  refine wo ?_
  refine zX (m_ldln (s := 33) (cs := nx) rfl e4 hnx.len) ?_
  refine wo ?_
  refine zX (m_ldln (s := 33) (cs := nx') rfl e4' hnx'.len) ?_
  refine p_callq (vwant_g rfl rfl rfl) rfl rfl rfl rfl (fun hp' hs => sameref2_d hs.ok hnx hnx' (fun A c o cs h => (hP _ _ _ _ h).give0 hs) (fun A c o cs h => (hP' _ _ _ _ h).give0 hs)) ?_
  by_cases k5 : n.next = m.next
  rotate_left
  ·rw [sameR_f k5]
   refine wo ?_
   exact w_ret (wend_ret (vres1 (rv_tmp rfl)) (by rw [sameN_f (fun e => k5 (by rw [e]))]))
  rw [sameR_t k5]
  refine wo ?_
  exact ⟨⟨k1, k2', k3, k4, k5⟩, rfl, ⟨rfl, rfl, trivial⟩, fun hp h => h⟩
 obtain ⟨k1, k2, k3, k4, k5⟩ := hC
 refine wo ?_
 iterate 4 ((try refine w_seq ?_); refine wo ?_)
 refine w_loop (ι := Nat) (fun i => [(5, .i .i64 (i : Nat)), (3, .p (some (bb, 0))), (2, .p (some (ba, 0)))]) (fun i => [(some bb, cellsO w' 29), (some ba, cellsO w 29)]) (fun i => i ≤ 16 ∧ n.kids.take i = m.kids.take i) (fun i => 16 - i) 0 ⟨Nat.zero_le _, rfl⟩ ⟨rfl, rfl, rfl, trivial⟩ (fun hp h => h) ?_
 intro i ⟨hi, hall⟩
 refine wo ?_
 by_cases g : i < 16
 ·obtain ⟨r, x, h1, h2, h3⟩ := hkid g
  obtain ⟨r', x', h1', h2', h3'⟩ := hkid' g
  apply wm; iterate 5 exact rfl
  refine mv_int (v := .b true) rfl rfl (vi_lssT (by omega))
  refine wo ?_
  apply dn; iterate 5 exact rfl
  refine p_iaan rfl rfl g
  refine yX (m_ldln (s := 33) (cs := x) rfl h2 h3.len) ?_
  refine wo ?_
  apply dn; iterate 5 exact rfl
  refine p_iaan rfl rfl g
  refine yX (m_ldln (s := 33) (cs := x') rfl h2' h3'.len) ?_
  refine d_callq (vwant_n rfl) (by decide +kernel) rfl rfl rfl rfl (fun hp' hs => sameref2_d hs.ok h3 h3' (fun A c o cs h => (hP _ _ _ _ h).give0 hs) (fun A c o cs h => (hP' _ _ _ _ h).give0 hs)) ?_
  by_cases k6 : r = r'
  rotate_left
  ·rw [sameR_f k6]
   refine wo ?_
   exact w_ret (wend_ret (vres1 (rv_tmp rfl)) (by rw [sameN_f (fun e => by rw [e] at h1; rw [h1] at h1'; exact k6 (Option.some.inj h1'))]))
  subst k6
  rw [sameR_t rfl]
  refine wo ?_
  exact ⟨rfl, i + 1, ⟨g, take_all2 hall h1 h1'⟩, by omega, ⟨rfl, rfl, rfl, trivial⟩, fun hp h => h⟩
 ·apply wm; iterate 5 exact rfl
  refine mv_int (v := .b false) rfl rfl (vi_lssF (by omega))
  refine wo ?_
  refine w_exit ?_
  obtain rfl : i = 16 := by omega
  rw [List.take_of_length_le (by omega), List.take_of_length_le (by omega)] at hall
  refine wo ?_
  refine w_ret (wend_ret (vres1 (rv_tmp rfl)) ?_)
  rw [sameN_t]
  obtain ⟨a1, a2, a3, a4, a5, a6⟩ := n
  obtain ⟨b1, b2, b3, b4, b5, b6⟩ := m
  simp only at k1 k2 k3 k4 k5 hall
  rw [k1, k2, k3, k4, k5, hall]
theorem nsame_d {P P' : PP} {n m : NodS} {w w' : List V} {hp : Hp} (ho : OkH hp) (hn : NodP P n w) (hm : NodP P' m w') (hP : ∀ A c o cs, P A c o cs → RB ⟨hp, []⟩ A cs) (hP' : ∀ A c o cs, P' A c o cs → RB ⟨hp, []⟩ A cs) :
  Fn kxD 17 [.agg w, .agg w'] hp [] fun q _ => q = .v (.b (sameN n m)) := nsameE_d ho hn hm (fun A c o cs h => .inl (hP A c o cs h)) (fun A c o cs h => .inl (hP' A c o cs h))
theorem RowU.got {e : TypeId} {xs : List UInt8} {u : V} {M : HV} (h : RowU e xs u M) (h0 : 0 < xs.length) : ∃ b op oo, u = .sl (some (b, 0)) xs.length xs.length op ∧ M = [(some b, .cells (xs.map byV) e oo false)] := by
 cases h with
 | nil => simp at h0
 | own h => exact ⟨_, _, _, rfl, rfl⟩
theorem all_map {α : Type} (l : List α) (n : Nat) (h : l.length = n) : (l.drop 0).take n = l := by rw [List.drop_zero]; exact List.take_of_length_le (Nat.le_of_eq h)
def knN : NodS := ⟨1, [1, 2, 3, 4], [120], false, zRef, List.replicate 16 zRef⟩
def knB : List UInt8 := [197, 131, 32, 18, 52, 120]
theorem kn_may : mayS ndD knN = true := by kernel_rfl
theorem kn_ok : NodOk knN := ⟨rfl, rfl, fun r hr => by rw [List.eq_of_mem_replicate hr]; rfl⟩
theorem kn_b : ndB knN = knB := by kernel_rfl
theorem kn_d : ndD knB = some knN := by rw [← kn_b]; exact (ndD_ndB kn_ok kn_may).1
set_option maxHeartbeats 8000000 in
theorem nknown_d {hp : Hp} (ho : OkH hp) : Fn kxD 10 [] hp [] fun q _ => q = .v (.b true) := by
 have hlen : ∀ (a b : V), (nodC knN a b zFC (List.replicate 16 zFC).flatten).length = 582 := fun a b => by kernel_rfl
 refine fn_of_w (T := []) ho.sv (fun _ => rfl) (fn := Try.f10) (by kernel_rfl) rfl rfl ?_
 refine wo ?_
 apply p_op; exact (vwant_n rfl); iterate 4 exact rfl
 refine e_bs (C := [byV 1, byV 2, byV 3, byV 4]) rfl rfl (.cons rfl rfl (.cons rfl rfl (.cons rfl rfl (.cons rfl rfl .nil)))) rfl fun b1 => ⟨_, rfl, ?_⟩
 apply p_op; exact (vwant_n rfl); iterate 4 exact rfl
 refine e_bs (C := [byV 120]) rfl rfl (.cons rfl rfl .nil) rfl fun b2 => ⟨_, rfl, ?_⟩
 apply p_op; exact (vwant_n rfl); iterate 4 exact rfl
 refine e_share rfl ⟨_, rfl, ?_⟩
 apply wn; iterate 5 exact rfl
 refine p_buildS (C := nodC knN (.sl (some (b1, 0)) 4 4 false) (.sl (some (b2, 0)) 1 1 false) zFC (List.replicate 16 zFC).flatten) (.cons rfl rfl rfl rfl (Nat.le_of_ble_eq_true rfl) (.cons rfl rfl rfl rfl (Nat.le_of_ble_eq_true rfl) (.cons rfl rfl rfl rfl (Nat.le_of_ble_eq_true rfl) .nil))) (by kernel_rfl)
 apply p_op; exact (vwant_n rfl); iterate 4 exact rfl
 refine e_alloc (zc := zNC) (by kernel_rfl) fun b3 => ⟨_, rfl, ?_⟩
 apply p_do; exact (vwant_n rfl); exact rfl; exact rfl
 refine e_stn (C' := nodC knN (.sl (some (b1, 0)) 4 4 false) (.sl (some (b2, 0)) 1 1 false) zFC (List.replicate 16 zFC).flatten) rfl rfl (List.cons_ne_nil _ _) (hlen _ _) (Nat.le_of_eq zNC_len.symm) (overV_all ((hlen _ _).trans zNC_len.symm)) ⟨_, rfl, ?_⟩
 refine wo ?_
 refine zX (m_ldln (s := 581) (cs := nodC knN (.sl (some (b1, 0)) 4 4 false) (.sl (some (b2, 0)) 1 1 false) zFC (List.replicate 16 zFC).flatten) rfl (all_take _ (hlen _ _)) (hlen _ _)) ?_
 have hN : ∀ {hp' : Hp} {L : HV}, SV ⟨hp, []⟩ hp' L → (∀ p ∈ [(some b2, VO.cells [byV 120] 5 none true), (some b1, VO.cells [byV 1, byV 2, byV 3, byV 4] 5 none false)], p ∈ L) → NodP (rbP ⟨hp', []⟩) knN (nodC knN (.sl (some (b1, 0)) 4 4 false) (.sl (some (b2, 0)) 1 1 false) zFC (List.replicate 16 zFC).flatten) := fun {hp' L} hs hx => by
  have h1 : Sn L (some (b1, 0)) (knN.path.map byV) := Sn.own (C := [byV 1, byV 2, byV 3, byV 4]) (T := 5) (oo := none) (mk := false) (hx _ (by simp)) rfl
  have h2 : Sn L (some (b2, 0)) (knN.val.map byV) := Sn.own (C := [byV 120]) (T := 5) (oo := none) (mk := true) (hx _ (by simp)) rfl
  exact ⟨rfl, some (b1, 0), 4, false, some (b2, 0), 1, false, zFC, List.replicate 16 zFC, rfl, h1 _ _ [] _ hs (fun p hp => hp), Nat.le_refl _, h2 _ _ [] _ hs (fun p hp => hp), Nat.le_refl _, zFC_p _ RB.nil, refsP_rep RB.nil 16⟩
 apply p_callY []; exact (vwant_n rfl); iterate 4 exact rfl
 case hC => exact (fun hp' hs ht => nencode_ok kn_may hs.ok (hN hs (by simp [cellsO])))
 rintro u N1 ⟨w1, rfl, hw1⟩
 rw [kn_b] at hw1
 obtain ⟨b9, o9, oo9, rfl, rfl⟩ := hw1.got (by decide)
 rw [List.singleton_append]
 refine wo ?_
 apply p_op; exact (vwant_n rfl); iterate 4 exact rfl
 refine e_bs (C := knB.map byV) rfl rfl (.cons rfl rfl (.cons rfl rfl (.cons rfl rfl (.cons rfl rfl (.cons rfl rfl (.cons rfl rfl .nil)))))) rfl fun b6 => ⟨_, rfl, ?_⟩
 apply p_callY []; exact (vwant_n rfl); iterate 4 exact rfl
 case hC => exact (fun hp' hs ht => ndecode_ok (b := knB) kn_d hs.ok (rb_own0 hs (i := 0) rfl rfl) (Nat.le_refl _))
 rintro u N2 ⟨w2, rfl, hw2⟩
 have hwl := hw2.len
 refine wo ?_
 apply p_op; exact (vwant_n rfl); iterate 4 exact rfl
 refine e_alloc (zc := zNC) (by kernel_rfl) fun b4 => ⟨_, rfl, ?_⟩
 apply p_do; exact (vwant_n rfl); exact rfl; exact rfl
 refine e_stn (C' := w2) rfl rfl (ne_of_len hwl (by decide)) hwl (Nat.le_of_eq zNC_len.symm) (overV_all (hwl.trans zNC_len.symm)) ⟨_, rfl, ?_⟩
 refine wo ?_
 refine p_callq (vwant_n rfl) rfl rfl rfl rfl (fun hp' hs => num_d hs.ok) ?_
 apply wm; iterate 5 exact rfl
 refine mv_int (v := .b true) rfl rfl (vi_eqlT (rfl))
 refine wo ?_
 refine p_callq (vwant_g rfl rfl rfl) rfl rfl rfl rfl (fun hp' hs => num_d hs.ok) ?_
 apply wmg; iterate 7 exact rfl
 refine mv_int (v := .b true) rfl rfl (vi_eqlT (rfl))
 refine wo ?_
 refine zX (m_b2s (op' := false) (xs := knB) rfl (all_map _ _ rfl)) ?_
 apply wmg; iterate 7 exact rfl
 refine m_eqs rfl rfl
 rw [show (knB == [197, 131, 32, 18, 52, 120]) = true from rfl]
 refine wo ?_
 refine zX (m_ldln (s := 581) (cs := w2) rfl (all_take _ hwl) hwl) ?_
 refine zX (m_ldln (s := 581) (cs := nodC knN (.sl (some (b1, 0)) 4 4 false) (.sl (some (b2, 0)) 1 1 false) zFC (List.replicate 16 zFC).flatten) rfl (all_take _ (hlen _ _)) (hlen _ _)) ?_
 refine p_callq (vwant_g rfl rfl rfl) rfl rfl rfl rfl (fun hp' hs => nsame_d hs.ok hw2 (hN hs (by simp [cellsO])) (fun A c o cs h => h _ _ [] _ hs fun p hp => List.mem_cons_of_mem _ (List.mem_append_left _ hp)) (fun A c o cs h => h)) ?_
 rw [sameN_t rfl]
 refine wo ?_
 exact w_ret (wend_ret (vres1 (rv_tmp rfl)) rfl)
end Go.Proofs.Ytabpegdalmagpaa
/- Nr1: the document's header, str, list, packed, item. By this project. -/
set_option maxRecDepth 100000
namespace Go.Proofs.Ytabpegdalmagpaa
open Go.RowKit Go.Extern.Stop
theorem Sn.z {N L : HV} {B : Bs} {A : Option (Nat × Nat)} {cs : List V} (h : Sn N A cs) (hm : ∀ p ∈ N, p ∈ L) : RZ B L A cs := fun hp hs => (h B hp [] L hs hm).1.rv
theorem ofNat_add (a b : Nat) : UInt8.ofNat (a + b) = UInt8.ofNat a + UInt8.ofNat b := by
 apply UInt8.toNat_inj.1
 rw [UInt8.toNat_add, UInt8.toNat_ofNat', UInt8.toNat_ofNat', UInt8.toNat_ofNat']
 omega
set_option maxHeartbeats 8000000 in
theorem rheader_d {bn n : Nat} {hp : Hp} (ho : OkH hp) (hb : bn < 256) (hn : n < 9223372036854770000) :
  Fn kxD 59 [.i .i64 (bn : Nat), .i .i64 (n : Nat)] hp [] fun r N => ∃ u, r = .v u ∧ RowK (headB (UInt8.ofNat bn) n) u N := by
 have h8 := shortB_8 (n := n) (by omega)
 refine Fn.dropC ?_
 refine fn_of_w (T := []) ho.sv (fun _ => rfl) (fn := Try.f59) (by kernel_rfl) rfl rfl ?_
 refine wo ?_
 by_cases g : n < 56
 ·have e : headB (UInt8.ofNat bn) n = [UInt8.ofNat (bn + n)] := by rw [ofNat_add]; exact if_pos g
  rw [e]
  apply wm; iterate 5 exact rfl
  refine mv_int (v := .b true) rfl rfl (vi_lssT (by omega))
  refine wo ?_
  apply wm; iterate 5 exact rfl
  refine m_convB rfl
  apply p_op; exact (vwant_n rfl); iterate 4 exact rfl
  refine e_bs (C := [byV (UInt8.ofNat (bn + n))]) rfl rfl (.cons rfl rfl .nil) rfl fun b1 => ⟨_, rfl, ?_⟩
  refine wo ?_
  exact w_ret (wend_ret (vres1 (rv_tmp rfl)) ⟨[_], cle, _, rfl, RowU.lit1⟩)
 ·have e : headB (UInt8.ofNat bn) n = UInt8.ofNat (bn + 55 + (shortB n).length) :: shortB n := by rw [ofNat_add, ofNat_add]; exact if_neg g
  rw [e]
  apply wm; iterate 5 exact rfl
  refine mv_int (v := .b false) rfl rfl (vi_lssF (by omega))
  refine wo ?_
  iterate 4 ((try refine w_seq ?_); refine wo ?_)
  refine w_loop (ι := Nat × List UInt8 × V × HV) (fun s => [(6, .i .i64 (s.1 : Nat)), (5, s.2.2.1), (0, .i .i64 (bn : Nat))]) (fun s => s.2.2.2) (fun s => s.1 ≤ n ∧ shortB n = shortB s.1 ++ s.2.1 ∧ RowK s.2.1 s.2.2.1 s.2.2.2) (fun s => s.1) (n, [], .sl none 0 0 false, []) ⟨Nat.le_refl _, (List.append_nil _).symm, .nil⟩ ⟨rfl, rfl, rfl, trivial⟩ (fun hp h => h) ?_
  intro ⟨m, acc, u, N⟩ ⟨h1, h2, h3⟩
  dsimp only at h1 h2 h3 ⊢
  obtain ⟨A, op, rfl⟩ := h3.sl
  have h4 : acc.length ≤ 8 := by
   have := congrArg List.length h2
   rw [List.length_append] at this
   omega
  refine wo ?_
  by_cases g1 : 0 < m
  ·apply wm; iterate 5 exact rfl
   refine mv_int (v := .b true) rfl rfl (vi_gtrT (by omega))
   refine wo ?_
   apply wm; iterate 5 exact rfl
   refine m_remN rfl rfl (by decide)
   apply wm; iterate 5 exact rfl
   refine m_convB rfl
   have e256 : UInt8.ofNat (m % 256) = UInt8.ofNat m := by rw [← UInt8.toNat_inj]; simp
   rw [e256]
   apply p_op; exact (vwant_n rfl); iterate 4 exact rfl
   refine e_bs (C := [byV (UInt8.ofNat m)]) rfl rfl (.cons rfl rfl .nil) rfl fun b1 => ⟨_, rfl, ?_⟩
   refine wo ?_
   apply p_op; exact (vwant_n rfl); iterate 4 exact rfl
   refine e_appW (RowU.lit1 (y := UInt8.ofNat m)) rfl rfl h3.src rfl u8_one (by show 1 + acc.length ≤ _; omega) fun A' m' op' N' hu' hm' => ⟨_, rfl, ?_⟩
   refine wo ?_
   apply wm; iterate 5 exact rfl
   refine m_quoN rfl rfl (by decide) (by omega)
   refine wo ?_
   refine ⟨rfl, (m / 256, UInt8.ofNat m :: acc, _, N'), ⟨Nat.le_trans (Nat.div_le_self _ _) h1, ?_, hu'⟩, Nat.div_lt_self g1 (by decide), ⟨rfl, rfl, rfl, trivial⟩, fun hp h => h.headL⟩
   rw [h2, shortB_pos g1, List.append_assoc]
   rfl
  ·apply wm; iterate 5 exact rfl
   refine mv_int (v := .b false) rfl rfl (vi_gtrF (by omega))
   refine wo ?_
   refine w_exit ?_
   obtain rfl : m = 0 := by omega
   rw [shortB_zero, List.nil_append] at h2
   refine wo ?_
   apply wm; iterate 5 exact rfl
   refine m_convB rfl
   apply p_op; exact (vwant_n rfl); iterate 4 exact rfl
   refine e_bs (C := [byV (UInt8.ofNat (bn + 55 + acc.length))]) rfl rfl (.cons rfl rfl .nil) rfl fun b1 => ⟨_, rfl, ?_⟩
   refine wo ?_
   apply p_op; exact (vwant_n rfl); iterate 4 exact rfl
   refine e_appW (RowU.lit1 (y := UInt8.ofNat (bn + 55 + acc.length))) rfl rfl h3.src rfl u8_one (by show 1 + acc.length ≤ _; omega) fun A' m' op' N' hu' hm' => ⟨_, rfl, ?_⟩
   refine wo ?_
   exact w_ret (wend_ret (vres1 (rv_tmp rfl)) ⟨N', cle, _, rfl, by rw [h2]; exact hu'⟩)
set_option maxHeartbeats 8000000 in
theorem rstr_d {A : Option (Nat × Nat)} {xs : List UInt8} {c : Nat} {op : Bool} {hp : Hp} (ho : OkH hp) (hA0 : RBe ⟨hp, []⟩ A (xs.map byV)) (hl : xs.length ≤ 1073741824) :
  Fn kxD 32 [.sl A xs.length c op] hp [] fun r N => ∃ u, r = .v u ∧ RowK (strB xs) u N := by
 have h9 := headB_len 128 (n := xs.length) (by omega)
 refine Fn.dropC ?_
 refine fn_of_w (T := []) ho.sv (fun _ => rfl) (fn := Try.f32) (by kernel_rfl) rfl rfl ?_
 refine wOS0 ?_
 refine w_seq ?_
 refine wOS0 ?_
 by_cases g : ∃ y, xs = [y] ∧ y.toNat < 128
 ·obtain ⟨y, rfl, g2⟩ := g
  have hA := hA0.ne Nat.one_pos
  obtain ⟨b, oa, rfl⟩ := rb_one hA
  rw [strB_one g2]
  refine wo ?_
  apply wm; iterate 5 exact rfl
  refine mv_int (v := .b true) rfl rfl (vi_eqlT (rfl))
  refine wo ?_
  apply wg; iterate 7 exact rfl
  refine p_ia (i := 0) rfl rfl Nat.one_pos
  apply wmg; iterate 7 exact rfl
  refine m_ldN (j := 0) (v := byV y) rfl hA.1 hA.2 rfl rfl
  apply wmg; iterate 7 exact rfl
  refine mv_int (v := .b true) rfl rfl (vi_lssT ((by show Int.ofNat y.toNat < 128; simp; omega)))
  refine wo ?_
  apply wn; iterate 5 exact rfl
  refine p_ia (i := 0) rfl rfl Nat.one_pos
  apply wm; iterate 5 exact rfl
  refine m_ldN (j := 0) (v := byV y) rfl hA.1 hA.2 rfl rfl
  apply p_op; exact (vwant_n rfl); iterate 4 exact rfl
  refine e_bs (C := [byV y]) rfl rfl (.cons rfl rfl .nil) rfl fun b1 => ⟨_, rfl, ?_⟩
  refine wo ?_
  exact w_ret (wend_ret (vres1 (rv_tmp rfl)) ⟨[_], cle, _, rfl, RowU.lit1⟩)
 have hs := strB_many (bs := xs) fun b e h => g ⟨b, e, h⟩
 rw [hs]
 refine w_cutS [(0, .sl A xs.length c op)] [] True ?_ fun _ => ?_
 ·by_cases g1 : xs.length = 1
  ·obtain ⟨y, rfl⟩ := List.length_eq_one_iff.1 g1
   have hA := hA0.ne Nat.one_pos
   obtain ⟨b, oa, rfl⟩ := rb_one hA
   refine wo ?_
   apply wm; iterate 5 exact rfl
   refine mv_int (v := .b true) rfl rfl (vi_eqlT (rfl))
   refine wo ?_
   apply wg; iterate 7 exact rfl
   refine p_ia (i := 0) rfl rfl Nat.one_pos
   apply wmg; iterate 7 exact rfl
   refine m_ldN (j := 0) (v := byV y) rfl hA.1 hA.2 rfl rfl
   apply wmg; iterate 7 exact rfl
   refine mv_int (v := .b false) rfl rfl (vi_lssF ((by have q : ¬ y.toNat < 128 := fun h => g ⟨y, rfl, h⟩; show ¬ Int.ofNat y.toNat < 128; simp; omega)))
   refine wo ?_
   exact ⟨trivial, rfl, ⟨rfl, trivial⟩, fun hp h => h⟩
  ·refine wo ?_
   apply wm; iterate 5 exact rfl
   refine mv_int (v := .b false) rfl rfl (vi_eqlF (by omega))
   refine wo ?_
   exact ⟨trivial, rfl, ⟨rfl, trivial⟩, fun hp h => h⟩
 refine wo ?_
 apply p_callY []; exact (vwant_n rfl); iterate 4 exact rfl
 case hC => exact (fun hp' hs ht => rheader_d (bn := 128) (n := xs.length) hs.ok (by decide) (by omega))
 rintro u N hu
 obtain ⟨A', op', rfl⟩ := hu.sl
 refine wo ?_
 apply p_op; exact (vwant_n rfl); iterate 4 exact rfl
 refine e_appW (xs := headB 128 xs.length) (ys := xs) hu rfl rfl hA0.z rfl u8_one (by omega) fun A2 m2 op2 N2 hu2 hm2 => ⟨_, rfl, ?_⟩
 refine wo ?_
 exact w_ret (wend_ret (vres1 (rv_tmp rfl)) ⟨N2, cle, _, rfl, hu2⟩)
theorem rlist_d {A : Option (Nat × Nat)} {xs : List UInt8} {c : Nat} {op : Bool} {hp : Hp} (ho : OkH hp) (hA : RB ⟨hp, []⟩ A (xs.map byV)) (hl : xs.length ≤ 1073741824) :
  Fn kxD 35 [.sl A xs.length c op] hp [] fun r N => ∃ u, r = .v u ∧ RowK (headB 192 xs.length ++ xs) u N := by
 have h9 := headB_len 192 (n := xs.length) (by omega)
 refine Fn.dropC ?_
 refine fn_of_w (T := []) ho.sv (fun _ => rfl) (fn := Try.f35) (by kernel_rfl) rfl rfl ?_
 refine wo ?_
 apply p_callY []; exact (vwant_n rfl); iterate 4 exact rfl
 case hC => exact (fun hp' hs ht => rheader_d (bn := 192) (n := xs.length) hs.ok (by decide) (by omega))
 rintro u N hu
 obtain ⟨A', op', rfl⟩ := hu.sl
 refine wo ?_
 apply p_op; exact (vwant_n rfl); iterate 4 exact rfl
 refine e_appW (xs := headB 192 xs.length) (ys := xs) hu rfl rfl hA.z rfl u8_one (by omega) fun A2 m2 op2 N2 hu2 hm2 => ⟨_, rfl, ?_⟩
 refine wo ?_
 exact w_ret (wend_ret (vres1 (rv_tmp rfl)) ⟨N2, cle, _, rfl, hu2⟩)
theorem RowG.got {e : TypeId} {sz n : Nat} {cs : List V} {u : V} {M : HV} (h : RowG e sz n cs u M) (h0 : 0 < n) : ∃ b op oo, u = .sl (some (b, 0)) n n op ∧ M = [(some b, .cells cs e oo false)] := by
 cases h with
 | nil => simp at h0
 | own h hl => exact ⟨_, _, _, rfl, rfl⟩
def nibs (xs : List UInt8) (leaf : Bool) : List UInt8 := (if xs.length % 2 = 1 then [UInt8.ofNat (flagN leaf xs.length)] else [UInt8.ofNat (flagN leaf xs.length), 0]) ++ xs
theorem packB_nibs {xs : List UInt8} (leaf : Bool) : packB xs leaf = pairB (nibs xs leaf) := by
 obtain ⟨f1, _, _⟩ := flagN_lt leaf xs.length
 have ht : (UInt8.ofNat (flagN leaf xs.length)).toNat = flagN leaf xs.length := by rw [UInt8.toNat_ofNat']; omega
 unfold packB nibs
 by_cases g : xs.length % 2 = 1
 ·rw [if_pos g, if_pos g]
  match xs, g with
  | x :: r, g =>
   show _ = pairB (_ :: x :: r)
   rw [pairB, ht]
   rfl
 ·rw [if_neg g, if_neg g]
  show _ = pairB (_ :: 0 :: xs)
  rw [pairB, ht]
  rfl
theorem nibs_even (xs : List UInt8) (leaf : Bool) : (nibs xs leaf).length % 2 = 0 := by
 unfold nibs
 split
 ·simp; omega
 ·simp; omega
theorem nibs_lt {xs : List UInt8} {leaf : Bool} (h : ∀ x ∈ xs, x.toNat < 16) : ∀ x ∈ nibs xs leaf, x.toNat < 16 := by
 obtain ⟨f1, _, _⟩ := flagN_lt leaf xs.length
 have ht : (UInt8.ofNat (flagN leaf xs.length)).toNat = flagN leaf xs.length := by rw [UInt8.toNat_ofNat']; omega
 intro x hx
 unfold nibs at hx
 rcases List.mem_append.1 hx with hx | hx
 ·split at hx
  ·rw [List.mem_singleton.1 hx, ht]; omega
  ·simp only [List.mem_cons, List.not_mem_nil, or_false] at hx
   rcases hx with rfl | rfl
   ·rw [ht]; omega
   ·decide
 ·exact h x hx
abbrev intC (ys : List UInt8) : List V := ys.map fun y => .i .i64 (y.toNat : Nat)
theorem intC_at {ys : List UInt8} {i : Nat} (h : i < ys.length) : (intC ys)[i]? = some (.i .i64 (ys[i].toNat : Nat)) := by
 rw [List.getElem?_map, List.getElem?_eq_getElem h]
 rfl
set_option maxHeartbeats 16000000 in
theorem rpacked_d {A : Option (Nat × Nat)} {xs : List UInt8} {c : Nat} {op leaf : Bool} {hp : Hp} (ho : OkH hp) (hA0 : RBe ⟨hp, []⟩ A (xs.map byV)) (hok : pathOk xs) :
  Fn kxD 33 [.sl A xs.length c op, .b leaf] hp [] fun r N => ∃ u, r = .v u ∧ RowK (packB xs leaf) u N := by
 obtain ⟨h64, hlt⟩ := hok
 refine Fn.dropC ?_
 rw [packB_nibs]
 have hev := nibs_even xs leaf
 have hys := nibs_lt (leaf := leaf) hlt
 have hnl : (nibs xs leaf).length ≤ 66 := by unfold nibs; rw [List.length_append]; split <;> simp <;> omega
 obtain ⟨f1, f2, f3⟩ := flagN_lt leaf xs.length
 have hft : (UInt8.ofNat (flagN leaf xs.length)).toNat = flagN leaf xs.length := by rw [UInt8.toNat_ofNat']; omega
 refine fn_of_w (T := []) ho.sv (fun _ => rfl) (fn := Try.f33) (by kernel_rfl) rfl rfl ?_
 refine wOS0 ?_
 refine w_seq ?_
 refine wOS0 ?_
 refine w_seq ?_
 refine wOS0 ?_
 refine w_cutS [(5, .i .i64 ((if leaf then 2 else 0 : Nat) : Nat)), (0, .sl A xs.length c op)] [] True ?_ fun _ => ?_
 ·cases leaf with
  | true =>
   refine wo ?_
   exact ⟨trivial, rfl, ⟨rfl, rfl, trivial⟩, fun hp h => h⟩
  | false =>
   refine wo ?_
   exact ⟨trivial, rfl, ⟨rfl, rfl, trivial⟩, fun hp h => h⟩
 refine wOS0 ?_
 refine w_seq ?_
 refine wOS0 ?_
 apply p_op; exact (vwant_n rfl); iterate 4 exact rfl
 refine e_bs (C := [.i .i64 ((if leaf then 2 else 0 : Nat) : Nat), .i .i64 0]) rfl rfl (.cons rfl rfl (.cons rfl rfl .nil)) rfl fun b6 => ⟨_, rfl, ?_⟩
 refine wOS0 ?_
 refine w_cutE (ι := V × HV) (fun s => [(6, s.1), (0, .sl A xs.length c op)]) (fun s => s.2) (fun s => RowG 3 (0 + 1) ((nibs xs leaf).length - xs.length) (intC ((nibs xs leaf).take ((nibs xs leaf).length - xs.length))) s.1 s.2) ?_ ?_
 ·refine wo ?_
  apply wm; iterate 5 exact rfl
  refine m_remN rfl rfl (by decide)
  by_cases g : xs.length % 2 = 1
  ·have e1 : (nibs xs leaf).length - xs.length = 1 := by unfold nibs; rw [if_pos g, List.length_append]; simp
   have e2 : (nibs xs leaf).take 1 = [UInt8.ofNat (flagN leaf xs.length)] := by unfold nibs; rw [if_pos g]; rfl
   have e3 : (if leaf then 2 else 0) + 1 = flagN leaf xs.length := by unfold flagN; rw [g]
   rw [e1, e2]
   apply wm; iterate 5 exact rfl
   refine mv_int (v := .b true) rfl rfl (vi_eqlT (by omega))
   refine wo ?_
   apply p_op; exact (vwant_n rfl); iterate 4 exact rfl
   refine e_bs (C := [.i .i64 (((if leaf then 2 else 0) + 1 : Nat) : Int)]) rfl rfl (.cons rfl rfl .nil) rfl fun b7 => ⟨_, rfl, ?_⟩
   refine wo ?_
   exact ⟨(.sl (some (b7, 0)) 1 1 false, [(some b7, cellsO [.i .i64 (((if leaf then 2 else 0) + 1 : Nat) : Int)] 3)]), by
    have : intC [UInt8.ofNat (flagN leaf xs.length)] = [.i .i64 (((if leaf then 2 else 0) + 1 : Nat) : Int)] := by
     rw [e3]
     show [V.i .i64 ((UInt8.ofNat (flagN leaf xs.length)).toNat : Nat)] = _
     rw [hft]
    rw [this]
    exact RowG.lit rfl, rfl, ⟨rfl, rfl, trivial⟩, fun hp h => h.le⟩
  ·have e1 : (nibs xs leaf).length - xs.length = 2 := by unfold nibs; rw [if_neg g, List.length_append]; simp
   have e2 : (nibs xs leaf).take 2 = [UInt8.ofNat (flagN leaf xs.length), 0] := by unfold nibs; rw [if_neg g]; rfl
   have e3 : (if leaf then 2 else 0) = flagN leaf xs.length := by unfold flagN; rw [show xs.length % 2 = 0 by omega, Nat.add_zero]
   rw [e1, e2]
   apply wm; iterate 5 exact rfl
   refine mv_int (v := .b false) rfl rfl (vi_eqlF (by omega))
   refine wo ?_
   exact ⟨(.sl (some (b6, 0)) 2 2 false, [(some b6, cellsO [.i .i64 ((if leaf then 2 else 0 : Nat) : Nat), .i .i64 0] 3)]), by
    have : intC [UInt8.ofNat (flagN leaf xs.length), 0] = [.i .i64 ((if leaf then 2 else 0 : Nat) : Nat), .i .i64 0] := by
     rw [e3]
     show [V.i .i64 ((UInt8.ofNat (flagN leaf xs.length)).toNat : Nat), V.i .i64 (((0 : UInt8).toNat : Nat) : Int)] = _
     rw [hft]
     rfl
    rw [this]
    exact RowG.lit rfl, rfl, ⟨rfl, rfl, trivial⟩, fun hp h => h.le⟩
 rintro ⟨u0, N0⟩ hu0
 dsimp only at hu0 ⊢
 obtain ⟨k, hk⟩ : ∃ k, k = (nibs xs leaf).length - xs.length := ⟨_, rfl⟩
 have hdrop : (nibs xs leaf).drop k = xs := by
  rw [hk]
  unfold nibs
  rw [List.length_append, Nat.add_sub_cancel, List.drop_left]
 have hy0 : 0 < (nibs xs leaf).length := by unfold nibs; rw [List.length_append]; split <;> simp <;> omega
 have hkl : (nibs xs leaf).length = k + xs.length := by
  have : xs.length ≤ (nibs xs leaf).length := by unfold nibs; rw [List.length_append]; omega
  omega
 rw [← hk] at hu0
 generalize nibs xs leaf = ys at *
 obtain ⟨A6, o6, rfl⟩ := hu0.sl
 refine wo ?_
 iterate 4 ((try refine w_seq ?_); refine wo ?_)
 refine w_loop (ι := Nat × V × HV) (fun s => [(7, .i .i64 (s.1 : Nat)), (6, s.2.1), (0, .sl A xs.length c op)]) (fun s => s.2.2) (fun s => s.1 ≤ xs.length ∧ RowG 3 (0 + 1) (k + s.1) (intC (ys.take (k + s.1))) s.2.1 s.2.2) (fun s => xs.length - s.1) (0, .sl A6 k k o6, N0) ⟨Nat.zero_le _, hu0⟩ ⟨rfl, rfl, rfl, trivial⟩ (fun hp h => h) ?_
 intro ⟨i, u, N⟩ ⟨hi, hu⟩
 dsimp only at hi hu ⊢
 obtain ⟨A7, o7, rfl⟩ := hu.sl
 refine wo ?_
 by_cases g : i < xs.length
 ·have hA := hA0.ne (by omega)
  obtain ⟨ba, oa, rfl⟩ := rb_spot hA (by omega)
  have hki : k + i < ys.length := by omega
  have hx : ys[k + i] = xs[i] := by
   have : ys[k + i]? = xs[i]? := by rw [← hdrop, List.getElem?_drop]
   rw [List.getElem?_eq_getElem hki, List.getElem?_eq_getElem g] at this
   exact Option.some.inj this
  have hsn : ys.take (k + (i + 1)) = ys.take (k + i) ++ [ys[k + i]] := List.take_succ_eq_append_getElem hki
  apply wm; iterate 5 exact rfl
  refine mv_int (v := .b true) rfl rfl (vi_lssT (by omega))
  refine wo ?_
  apply wn; iterate 5 exact rfl
  refine p_ia rfl rfl g
  apply wm; iterate 5 exact rfl
  refine m_ldN (j := i) rfl hA.1 hA.2 rfl (row_byte g)
  apply wm; iterate 5 exact rfl
  refine m_convI (n := xs[i].toNat) rfl (by have := xs[i].toNat_lt; omega)
  apply p_op; exact (vwant_n rfl); iterate 4 exact rfl
  refine e_bs (C := [.i .i64 (xs[i].toNat : Nat)]) rfl rfl (.cons rfl rfl .nil) rfl fun b1 => ⟨_, rfl, ?_⟩
  apply p_op; exact (vwant_n rfl); iterate 4 exact rfl
  refine e_appN (n := 1) hu rfl rfl (rz_loc (k := 1) rfl) rfl (by decide) (by omega) fun A3 o3 N3 hw3 => ⟨_, rfl, ?_⟩
  refine wo ?_
  refine ⟨rfl, (i + 1, _, N3), ⟨g, ?_⟩, by dsimp only; omega, ⟨rfl, rfl, rfl, trivial⟩, fun hp h => h.le⟩
  dsimp only
  have e9 : intC (ys.take (k + i) ++ [ys[k + i]]) = intC (ys.take (k + i)) ++ [.i .i64 (xs[i].toNat : Nat)] := by rw [← hx]; exact List.map_append
  rw [hsn, e9]
  exact hw3
 apply wm; iterate 5 exact rfl
 refine mv_int (v := .b false) rfl rfl (vi_lssF (by omega))
 refine wo ?_
 refine w_exit ?_
 obtain rfl : i = xs.length := by omega
 rw [List.take_of_length_le (by omega)] at hu
 rw [← hkl] at hu ⊢
 obtain ⟨b7, o8', oo7, e7, rfl⟩ := hu.got hy0
 simp only [V.sl.injEq, true_and] at e7
 obtain ⟨rfl, rfl⟩ := e7
 refine wo ?_
 iterate 4 ((try refine w_seq ?_); refine wo ?_)
 refine w_loop (ι := Nat × V × HV) (fun s => [(9, .i .i64 (s.1 : Nat)), (8, s.2.1), (6, .sl (some (b7, 0)) ys.length ys.length o7)]) (fun s => s.2.2 ++ [(some b7, VO.cells (intC ys) 3 oo7 false)]) (fun s => s.1 ≤ ys.length ∧ s.1 % 2 = 0 ∧ RowK (pairB (ys.take s.1)) s.2.1 s.2.2) (fun s => ys.length - s.1) (0, .sl none 0 0 false, []) ⟨Nat.zero_le _, rfl, .nil⟩ ⟨rfl, rfl, rfl, trivial⟩ (fun hp h => h) ?_
 intro ⟨i, u, M⟩ ⟨hi, he, hu2⟩
 dsimp only at hi he hu2 ⊢
 obtain ⟨A8, o8, rfl⟩ := hu2.sl
 have hpl : (pairB (ys.take i)).length ≤ 66 := by
  have := pairB_len _ (ys.take i) (Nat.le_refl _)
  rw [List.length_take] at this
  omega
 refine wo ?_
 by_cases g2 : i < ys.length
 ·have g3 : i + 1 < ys.length := by omega
  have ha := hys _ (List.getElem_mem g2)
  have hb := hys _ (List.getElem_mem g3)
  apply wm; iterate 5 exact rfl
  refine mv_int (v := .b true) rfl rfl (vi_lssT (by omega))
  refine wo ?_
  apply dn; iterate 5 exact rfl
  refine p_ia rfl rfl g2
  refine yX (m_ldl rfl (show (intC ys)[0 + i]? = _ by rw [Nat.zero_add]; exact intC_at g2)) ?_
  refine wo ?_
  apply dn; iterate 5 exact rfl
  refine p_ia rfl rfl g3
  refine yX (m_ldl rfl (show (intC ys)[0 + (i + 1)]? = _ by rw [Nat.zero_add]; exact intC_at g3)) ?_
  refine wo ?_
  apply dm; iterate 6 exact rfl
  refine m_convB rfl
  apply d_op; exact (vwant_n rfl); exact rfl; exact noRd rfl; decide +kernel; (iterate 3 exact rfl); rotate_left
  refine e_bs (C := [byV (UInt8.ofNat (16 * ys[i].toNat + ys[i + 1].toNat))]) rfl rfl (.cons rfl rfl .nil) rfl fun b1 => ⟨_, rfl, ?_⟩
  try (case hok => exact rdOk_nil)
  apply d_op; exact (vwant_n rfl); exact rfl; exact noRd rfl; decide +kernel; (iterate 3 exact rfl); rotate_left
  refine e_appW (ys := [UInt8.ofNat (16 * ys[i].toNat + ys[i + 1].toNat)]) hu2 rfl rfl (rz_loc (k := 1) rfl) rfl u8_one (by omega) fun A' m' op' N' hu' hm' => ⟨_, rfl, ?_⟩
  try (case hok => exact rdOk_b (by decide +kernel))
  refine wo ?_
  refine ⟨rfl, (i + 2, _, N'), ⟨by omega, by omega, ?_⟩, by dsimp only; omega, ⟨rfl, rfl, rfl, trivial⟩, fun hp h => h.le⟩
  dsimp only
  rw [pairB_at g3 he, Nat.mul_comm ys[i].toNat 16]
  exact hu'
 ·apply wm; iterate 5 exact rfl
  refine mv_int (v := .b false) rfl rfl (vi_lssF (by omega))
  refine wo ?_
  refine w_exit ?_
  obtain rfl : i = ys.length := by omega
  rw [List.take_length] at hu2
  refine wo ?_
  exact w_ret (wend_ret (vres1 (rv_tmp rfl)) ⟨M, cle, _, rfl, by rw [List.take_length]; exact hu2⟩)
def itemL (r : RefS) : List UInt8 := if r.k = 2 then r.n else if r.k = 1 then strB r.h else [128]
set_option maxHeartbeats 8000000 in
theorem ritem_d {P : PP} {r : RefS} {w : List V} {hp : Hp} (ho : OkH hp) (hr : RefP P r w) :
  Fn kxD 34 [.agg w] hp [] fun q N => ∃ u, q = .v u ∧ ∃ A c o, u = .sl A (itemL r).length c o ∧ (P A c o ((itemL r).map byV) ∨ Sn N A ((itemL r).map byV)) := by
 obtain ⟨hh, A, c, o, hw, hA, hc⟩ := hr
 subst hw
 refine Fn.dropC ?_
 unfold itemL
 refine fn_of_w (T := []) ho.sv (fun _ => rfl) (fn := Try.f34) (by kernel_rfl) rfl rfl ?_
 refine wo ?_
 apply p_op; exact (vwant_n rfl); iterate 4 exact rfl
 refine ev_box rfl rfl fun bx => ⟨_, rfl, ?_⟩
 refine wo ?_
 by_cases k2 : r.k = 2
 ·rw [if_pos k2]
  apply wm; iterate 5 exact rfl
  refine mv_int (v := .b true) rfl rfl (vi_eqlT (k2))
  refine wo ?_
  refine zX (m_ldl rfl (refC_node hh)) ?_
  refine wo ?_
  exact w_ret (wend_ret (vres1 (rv_tmp rfl)) ⟨[], cle, _, rfl, A, c, o, rfl, .inl hA⟩)
 rw [if_neg k2]
 apply wm; iterate 5 exact rfl
 refine mv_int (v := .b false) rfl rfl (vi_eqlF (k2))
 refine wo ?_
 by_cases k1 : r.k = 1
 ·rw [if_pos k1]
  apply wm; iterate 5 exact rfl
  refine mv_int (v := .b true) rfl rfl (vi_eqlT (k1))
  refine wo ?_
  refine zX (m_slaw rfl) ?_
  have hC : ∀ {L : HV} {hp' : Hp}, SV ⟨hp, []⟩ hp' ((some bx, cellsO (refC r (.sl A r.n.length c o)) 26) :: L) → OkH hp' → Fn kxD 32 [.sl (some (bx, 0 + 1)) 32 32 false] hp' [] fun r' N => ∃ u, r' = .v u ∧ RowK (strB r.h) u N := fun hs ho => by
   have := rstr_d (A := some (bx, 0 + 1)) (xs := r.h) (c := 32) (op := false) ho (.inl (rb_own0 hs (i := 0) rfl (by rw [List.length_map, hh]; exact refC_hash hh))) (by omega)
   rw [hh] at this
   exact this
  apply p_callY []; exact (vwant_n rfl); iterate 4 exact rfl
  case hC => exact (fun hp' hs ht => hC hs hs.ok)
  rintro u N hu
  obtain ⟨A', o', rfl⟩ := hu.sl
  refine wo ?_
  exact w_ret (wend_ret (vres1 (rv_tmp rfl)) ⟨N, cle, _, rfl, A', _, o', rfl, .inr (hu.sn fun p hp => hp)⟩)
 ·rw [if_neg k1]
  apply wm; iterate 5 exact rfl
  refine mv_int (v := .b false) rfl rfl (vi_eqlF (k1))
  refine wo ?_
  apply p_callY []; exact (vwant_n rfl); iterate 4 exact rfl
  case hC => exact (fun hp' hs ht => rstr_d (xs := []) (A := none) (c := 0) (op := false) hs.ok (.inr rfl) (by decide))
  rintro u N hu
  obtain ⟨A', o', rfl⟩ := hu.sl
  refine wo ?_
  exact w_ret (wend_ret (vres1 (rv_tmp rfl)) ⟨N, cle, _, rfl, A', _, o', rfl, .inr (hu.sn fun p hp => hp)⟩)
theorem itemL_of {r : RefS} (h : (mayRefS ndD r).2 = true) : itemL r = enc (refItS r) := by
 unfold mayRefS at h
 by_cases g : bareS r = false
 ·rw [if_pos g] at h; simp at h
 rw [if_neg g] at h
 have g' : bareS r = true := by simpa using g
 unfold itemL refItS
 by_cases k1 : r.k = 1
 ·rw [if_neg (by omega), if_pos k1, if_pos k1, enc]
 rw [if_neg k1]
 by_cases k2 : r.k = 2
 ·rw [if_pos k2, if_pos k2]
  rw [if_neg (by simp [k2])] at h
  cases hd : ndD r.n with
  | none => rw [hd] at h; simp at h
  | some m =>
   obtain ⟨l, _, h1, _, _⟩ := ndD_some hd
   rw [h1, if_neg k1]
   exact (decS_inv h1).symm
 ·rw [if_neg k2, if_neg k2, if_neg k1]
  rfl
/- Np1: the document's loose reading of nodes, as plain law. By this project. -/
def numL (b : List UInt8) : Nat → Nat → Nat → Option Nat
 | 0, _, n => some n
 | j + 1, i, n => if b.length ≤ i ∨ 1048576 < n then none else numL b j (i + 1) (256 * n + bAt b i)
structure Part where
 il : Bool
 f : Nat
 to : Nat
 ok : Bool
def partS (b : List UInt8) : Part :=
 if b.length = 0 then ⟨false, 0, 0, false⟩
 else if bAt b 0 < 128 then ⟨false, 0, 1, true⟩
 else if bAt b 0 % 64 < 56 then ⟨decide (192 ≤ bAt b 0), 1, 1 + bAt b 0 % 64, decide (1 + bAt b 0 % 64 ≤ b.length)⟩
 else match numL b (bAt b 0 % 64 - 55) 1 0 with
  | none => ⟨false, 0, 0, false⟩
  | some n => ⟨decide (192 ≤ bAt b 0), 1 + (bAt b 0 % 64 - 55), 1 + (bAt b 0 % 64 - 55) + n, decide (1 + (bAt b 0 % 64 - 55) + n ≤ b.length)⟩
theorem beN_ge : ∀ (s : List UInt8) (n : Nat), n ≤ beN n s
 | [], n => Nat.le_refl n
 | c :: r, n => by
  rw [beN]
  have := beN_ge r (n * 256 + c.toNat)
  omega
theorem bAt_mid {pre post : List UInt8} {c : UInt8} : bAt (pre ++ c :: post) pre.length = c.toNat := by
 unfold bAt
 rw [List.getElem?_append_right (Nat.le_refl _), Nat.sub_self]
 rfl
theorem numL_eq : ∀ (s pre post : List UInt8) (n : Nat), beN n s ≤ 1048576 → numL (pre ++ (s ++ post)) s.length pre.length n = some (beN n s)
 | [], pre, post, n, _ => rfl
 | c :: r, pre, post, n, h => by
  rw [beN] at h
  have h1 := beN_ge r (n * 256 + c.toNat)
  rw [List.length_cons, numL, if_neg (by simp only [List.length_append, List.length_cons]; omega), List.cons_append, bAt_mid, beN, Nat.mul_comm 256 n]
  have := numL_eq r (pre ++ [c]) post (n * 256 + c.toNat) h
  rw [List.length_append, List.append_assoc] at this
  exact this
theorem bAt_cons (c : UInt8) (r : List UInt8) : bAt (c :: r) 0 = c.toNat := rfl
theorem part_head {base : UInt8} {n : Nat} {rest : List UInt8} (hb : base = 128 ∨ base = 192) (hn : n ≤ 1048576) (hr : n ≤ rest.length) : partS (headB base n ++ rest) = ⟨decide (base = 192), (headB base n).length, (headB base n).length + n, true⟩ := by
 have hbn : base.toNat = 128 ∨ base.toNat = 192 := by rcases hb with rfl | rfl <;> simp
 have hd : decide (base = 192) = decide (base.toNat = 192) := by rcases hb with rfl | rfl <;> rfl
 rw [hd]
 by_cases g : n < 56
 ·have e : headB base n = [base + UInt8.ofNat n] := if_pos g
  have hc : (base + UInt8.ofNat n).toNat = base.toNat + n := by rw [UInt8.toNat_add, UInt8.toNat_ofNat']; omega
  rw [e]
  unfold partS
  rw [List.singleton_append, if_neg (by simp), bAt_cons, hc, if_neg (by omega), if_pos (by omega)]
  have d1 : decide (192 ≤ base.toNat + n) = decide (base.toNat = 192) := decide_eq_decide.2 (by omega)
  have d2 : decide (1 + n ≤ ((base + UInt8.ofNat n) :: rest).length) = true := decide_eq_true (by rw [List.length_cons]; omega)
  rw [show (base.toNat + n) % 64 = n by omega, d1, d2]
  rfl
 ·have e : headB base n = (base + 55 + UInt8.ofNat (shortB n).length) :: shortB n := if_neg g
  have h3 := shortB_len 3 n (by omega)
  have h1 := (shortB_head n (by omega)).1
  have hc : (base + 55 + UInt8.ofNat (shortB n).length).toNat = base.toNat + 55 + (shortB n).length := by
   rw [UInt8.toNat_add, UInt8.toNat_add, UInt8.toNat_ofNat']
   have : (55 : UInt8).toNat = 55 := rfl
   omega
  have hnum := numL_eq (shortB n) [base + 55 + UInt8.ofNat (shortB n).length] rest 0 (by rw [shortB_beN]; exact hn)
  rw [shortB_beN, List.singleton_append, List.length_singleton] at hnum
  rw [e]
  unfold partS
  rw [List.cons_append, if_neg (by simp), bAt_cons, hc, if_neg (by omega), if_neg (by omega)]
  rw [show (base.toNat + 55 + (shortB n).length) % 64 - 55 = (shortB n).length by omega, hnum]
  dsimp only
  have d1 : decide (192 ≤ base.toNat + 55 + (shortB n).length) = decide (base.toNat = 192) := decide_eq_decide.2 (by omega)
  have d2 : decide (1 + (shortB n).length + n ≤ ((base + 55 + UInt8.ofNat (shortB n).length) :: (shortB n ++ rest)).length) = true := decide_eq_true (by rw [List.length_cons, List.length_append]; omega)
  rw [d1, d2, List.length_cons, Nat.add_comm 1]
def bodyI : It → List UInt8
 | .str bs => bs
 | .list l => encs l
theorem part_enc (t : It) (x : List UInt8) (h : (enc t).length ≤ 1048576) : ∃ f, partS (enc t ++ x) = ⟨isL t, f, (enc t).length, true⟩ ∧ f ≤ (enc t).length ∧ (enc t).drop f = bodyI t := by
 cases t with
 | list l =>
  rw [enc, List.length_append] at h ⊢
  have := part_head (base := 192) (n := (encs l).length) (rest := encs l ++ x) (.inr rfl) (by omega) (by rw [List.length_append]; omega)
  rw [← List.append_assoc] at this
  exact ⟨_, this, Nat.le_add_right _ _, by rw [List.drop_left]; rfl⟩
 | str bs =>
  rw [enc] at h ⊢
  by_cases g : ∃ b, bs = [b] ∧ b.toNat < 128
  ·obtain ⟨b, rfl, g2⟩ := g
   rw [strB_one g2]
   refine ⟨0, ?_, Nat.zero_le _, rfl⟩
   unfold partS
   rw [List.singleton_append, if_neg (by simp), bAt_cons, if_pos g2]
   rfl
  ·have hs := strB_many (bs := bs) fun b e h => g ⟨b, e, h⟩
   rw [hs, List.length_append] at h
   rw [hs, List.length_append]
   have := part_head (base := 128) (n := bs.length) (rest := bs ++ x) (.inl rfl) (by omega) (by rw [List.length_append]; omega)
   rw [← List.append_assoc] at this
   exact ⟨_, this, Nat.le_add_right _ _, by rw [List.drop_left]; rfl⟩
def partsL : Nat → List UInt8 → Option (List (List UInt8))
 | 0, _ => none
 | k + 1, x => if x.length = 0 then some [] else if (partS x).ok = true then (partsL k (x.drop (partS x).to)).map (x.take (partS x).to :: ·) else none
def partsS (b : List UInt8) : Option (List (List UInt8)) :=
 if (partS b).ok = true ∧ (partS b).il = true ∧ (partS b).to = b.length then partsL (b.length + 1) (b.drop (partS b).f) else none
theorem partsL_encs : ∀ (l : List It) (k : Nat), (∀ t ∈ l, (enc t).length ≤ 1048576) → (encs l).length < k → partsL k (encs l) = some (l.map enc)
 | [], k + 1, _, _ => by rw [encs, partsL]; rfl
 | [], 0, _, h => by omega
 | t :: r, 0, _, h => by omega
 | t :: r, k + 1, h, hk => by
  obtain ⟨f, hp, _, _⟩ := part_enc t (encs r) (h t List.mem_cons_self)
  have hpos := enc_pos t
  rw [encs, List.length_append] at hk
  rw [encs, partsL, if_neg (by rw [List.length_append]; omega), hp]
  dsimp only
  rw [if_pos rfl, List.drop_left, List.take_left, partsL_encs r k (fun t ht => h t (List.mem_cons_of_mem _ ht)) (by omega)]
  rfl
theorem parts_enc {l : List It} (h : (enc (.list l)).length ≤ 1048576) : partsS (enc (.list l)) = some (l.map enc) := by
 obtain ⟨f, hp, hf, hd⟩ := part_enc (.list l) [] h
 rw [List.append_nil] at hp
 have hle : (encs l).length ≤ (enc (.list l)).length := by rw [enc, List.length_append]; omega
 have hd : (enc (.list l)).drop f = encs l := hd
 unfold partsS
 rw [hp]
 dsimp only
 rw [if_pos ⟨rfl, rfl, rfl⟩, hd]
 exact partsL_encs l _ (fun t ht => by have := enc_mem ht; omega) (by omega)
def contL (p : List UInt8) : List UInt8 × Bool := ((p.drop (partS p).f).take ((partS p).to - (partS p).f), (partS p).ok && !(partS p).il)
theorem cont_enc {t : It} (h : (enc t).length ≤ 1048576) : contL (enc t) = (bodyI t, !isL t) := by
 obtain ⟨f, hp, hf, hd⟩ := part_enc t [] h
 rw [List.append_nil] at hp
 unfold contL
 rw [hp]
 dsimp only
 rw [hd, List.take_of_length_le (by rw [← hd, List.length_drop]; omega), Bool.true_and]
def hashL (s : List UInt8) : List UInt8 := (s ++ zH32).take 32
theorem hashL_len (s : List UInt8) : (hashL s).length = 32 := by
 unfold hashL
 rw [List.length_take, List.length_append, show zH32.length = 32 from rfl]
 omega
theorem hashL_eq {s : List UInt8} (h : s.length = 32) : hashL s = s := by
 unfold hashL
 rw [List.take_append_of_le_length (by omega), List.take_of_length_le (by omega)]
def refL (p : List UInt8) : RefS × Bool :=
 if (contL p).2 = false then (⟨2, zH32, p⟩, decide (p.length < 32))
 else if (contL p).1.length = 0 then (zRef, true)
 else (⟨1, hashL (contL p).1, []⟩, decide ((contL p).1.length = 32))
theorem refL_h (p : List UInt8) : (refL p).1.h.length = 32 := by
 unfold refL
 split
 ·rfl
 ·split
  ·rfl
  ·exact hashL_len _
theorem refL_enc {t : It} {r : RefS} (h : refOfS t = some r) (hb : r.k = 2 → r.n.length < 32) (hl : (enc t).length ≤ 1048576) : refL (enc t) = (r, true) := by
 unfold refL
 rw [cont_enc hl]
 dsimp only
 cases t with
 | list l =>
  rw [refOfS] at h
  split at h
  ·obtain rfl := Option.some.inj h
   rw [if_pos (show (!isL (It.list l)) = false from rfl), decide_eq_true (hb rfl)]
  ·simp at h
 | str bs =>
  rw [if_neg (by simp [isL])]
  rw [refOfS] at h
  split at h
  ·rename_i g
   obtain rfl := Option.some.inj h
   rw [if_pos (show (bodyI (It.str bs)).length = 0 from g)]
  ·rename_i g
   rw [if_neg (show ¬ (bodyI (It.str bs)).length = 0 from g)]
   split at h
   ·rename_i g2
    obtain rfl := Option.some.inj h
    rw [show bodyI (.str bs) = bs from rfl, hashL_eq g2, decide_eq_true g2]
   ·simp at h
def refsL : List (List UInt8) → Option (List RefS)
 | [] => some []
 | p :: r => if (refL p).2 = true then (refsL r).map ((refL p).1 :: ·) else none
theorem refsL_enc : ∀ {l : List It} {ks : List RefS}, refsOfS l = some ks → (∀ r ∈ ks, r.k = 2 → r.n.length < 32) → (∀ t ∈ l, (enc t).length ≤ 1048576) → refsL (l.map enc) = some ks
 | [], ks, h, _, _ => by
  rw [refsOfS] at h
  obtain rfl := Option.some.inj h
  rfl
 | t :: l, ks, h, hb, hl => by
  rw [refsOfS] at h
  cases h1 : refOfS t with
  | none => rw [h1] at h; simp at h
  | some x =>
   cases h2 : refsOfS l with
   | none => rw [h1, h2] at h; simp at h
   | some y =>
    rw [h1, h2] at h
    obtain rfl := Option.some.inj h
    rw [List.map_cons, refsL, refL_enc h1 (hb x List.mem_cons_self) (hl t List.mem_cons_self), if_pos rfl, refsL_enc h2 (fun r hr => hb r (List.mem_cons_of_mem _ hr)) (fun t ht => hl t (List.mem_cons_of_mem _ ht))]
    rfl
def unpL (s : List UInt8) : List UInt8 × Bool :=
 if s.length = 0 then ([], false)
 else ((nibB s).drop (if bAt s 0 / 16 % 2 = 1 then 1 else 2), decide (2 ≤ bAt s 0 / 16))
theorem unpL_of {pb nib : List UInt8} {lf : Bool} (h : unpackS pb = some (nib, lf)) : unpL pb = (nib, lf) := by
 match pb with
 | [] => simp [unpackS] at h
 | x :: r =>
  have hx := x.toNat_lt
  rw [unpackS] at h
  unfold unpL
  rw [if_neg (by simp), bAt_cons, nibB]
  by_cases g1 : 4 ≤ x.toNat / 16
  ·rw [if_pos g1] at h; simp at h
  rw [if_neg g1] at h
  by_cases g2 : x.toNat / 16 % 2 = 0 ∧ x.toNat % 16 ≠ 0
  ·rw [if_pos g2] at h; simp at h
  rw [if_neg g2] at h
  by_cases g : x.toNat / 16 % 2 = 1
  ·rw [if_pos g, List.singleton_append] at h
   rw [if_pos g]
   by_cases g3 : 64 < (UInt8.ofNat (x.toNat % 16) :: nibB r).length
   ·rw [if_pos g3] at h; simp at h
   rw [if_neg g3] at h
   simp only [Option.some.injEq, Prod.mk.injEq] at h
   rw [← h.1, ← h.2]
   rfl
  ·rw [if_neg g, List.nil_append] at h
   rw [if_neg g]
   by_cases g3 : 64 < (nibB r).length
   ·rw [if_pos g3] at h; simp at h
   rw [if_neg g3] at h
   simp only [Option.some.injEq, Prod.mk.injEq] at h
   rw [← h.1, ← h.2]
   rfl
def looseS (b : List UInt8) : Option NodS :=
 match partsS b with
 | none => none
 | some l =>
  if l.length = 17 then
   match refsL (l.take 16) with
   | none => none
   | some ks => if (contL (l.getD 16 [])).2 = true then some ⟨3, [], (contL (l.getD 16 [])).1, decide (0 < (contL (l.getD 16 [])).1.length), zRef, ks⟩ else none
  else if l.length ≠ 2 then none
  else if (contL (l.getD 0 [])).2 = false then none
  else if (unpL (contL (l.getD 0 [])).1).2 = true then
   (if (contL (l.getD 1 [])).2 = true then some ⟨1, (unpL (contL (l.getD 0 [])).1).1, (contL (l.getD 1 [])).1, false, zRef, List.replicate 16 zRef⟩ else none)
  else (if (refL (l.getD 1 [])).2 = true then some ⟨2, (unpL (contL (l.getD 0 [])).1).1, [], false, (refL (l.getD 1 [])).1, List.replicate 16 zRef⟩ else none)
theorem may_short0 {n : NodS} (h : mayS ndD n = true) : ∀ r, (r = n.next ∨ r ∈ n.kids) → r.k = 2 → r.n.length < 32 := by
 have one : ∀ r, (mayRefS ndD r).2 = true → r.k = 2 → r.n.length < 32 := fun r h hk => by
  unfold mayRefS at h
  by_cases g : bareS r = false
  ·rw [if_pos g] at h; simp at h
  ·have g' : bareS r = true := by simpa using g
   unfold bareS at g'
   rw [if_neg (by rw [hk]; decide), if_neg (by rw [hk]; decide), if_pos hk, decide_eq_true_eq] at g'
   exact g'.2
 have nz : ∀ r, noneS r = true → r.k ≠ 2 := fun r h => by
  rw [none_z h]; decide
 intro r hr hk
 unfold mayS at h
 by_cases k3 : n.k = 3
 ·rw [if_pos k3] at h
  unfold mayBrS at h
  simp only [Bool.and_eq_true, List.all_eq_true, decide_eq_true_eq, beq_iff_eq] at h
  rcases hr with rfl | hr
  ·exact absurd hk (nz _ h.2)
  ·exact one r (h.1.1.1.1.1 r hr) hk
 ·rw [if_neg k3] at h
  by_cases k2 : n.k = 2
  ·rw [if_pos k2] at h
   split at h
   ·simp at h
   ·rename_i hcc
    simp only [not_or] at hcc
    unfold mayLfS at h
    simp only [Bool.and_eq_true, decide_eq_true_eq, Bool.not_eq_true', List.all_eq_true] at h
    rcases hr with rfl | hr
    ·exact one _ (by simpa using hcc.1) hk
    ·exact absurd hk (nz _ (h.2 r hr))
  ·rw [if_neg k2] at h
   by_cases k1 : n.k = 1
   ·rw [if_pos k1] at h
    unfold mayLfS at h
    simp only [Bool.and_eq_true, decide_eq_true_eq, Bool.not_eq_true', List.all_eq_true] at h
    rcases hr with rfl | hr
    ·exact absurd hk (nz _ h.1.2)
    ·exact absurd hk (nz _ (h.2 r hr))
   ·rw [if_neg k1] at h; simp at h
theorem loose_enc {b : List UInt8} {n : NodS} (h : ndD b = some n) : looseS b = some n := by
 obtain ⟨l, hl, hd, hs, hm⟩ := ndD_some h
 have hb := decS_inv hd
 have hsh := may_short0 hm
 have hle : (enc (.list l)).length ≤ 1048576 := by rw [hb]; omega
 have hlt : ∀ t ∈ l, (enc t).length ≤ 1048576 := fun t ht => by
  have := enc_mem ht
  rw [enc, List.length_append] at hle
  omega
 unfold looseS
 rw [← hb, parts_enc hle]
 dsimp only
 rw [List.length_map]
 rcases shape_cases hs with ⟨pb, nib, v, rfl, hu, rfl⟩ | ⟨pb, nib, x, y, rfl, hu, h1, rfl⟩ | ⟨ks, v, h7, h1, h2, rfl⟩
 ·have c0 := cont_enc (t := .str pb) (hlt _ (by simp))
  have c1 := cont_enc (t := .str v) (hlt _ (by simp))
  simp only [List.map_cons, List.map_nil, List.getD_cons_zero, List.getD_cons_succ, c0, c1, bodyI, isL, unpL_of hu]
  rfl
 ·have c0 := cont_enc (t := .str pb) (hlt _ (by simp))
  have c1 := refL_enc h1 (hsh _ (.inl rfl)) (hlt _ (by simp))
  simp only [List.map_cons, List.map_nil, List.getD_cons_zero, List.getD_cons_succ, c0, c1, bodyI, isL, unpL_of hu]
  rfl
 ·have hmem := List.mem_of_getElem? h2
  have c1 := cont_enc (t := .str v) (hlt _ hmem)
  have c2 := refsL_enc h1 (fun r hr => hsh r (.inr hr)) (fun t ht => hlt t (List.mem_of_mem_take ht))
  have e16 : (l.map enc).getD 16 [] = enc (.str v) := by
   rw [List.getD_eq_getElem?_getD, List.getElem?_map, h2]
   rfl
  rw [if_pos h7, ← List.map_take, c2]
  dsimp only
  rw [e16, c1]
  rfl
theorem refsL_at : ∀ {l : List (List UInt8)} {ks : List RefS}, refsL l = some ks → ks.length = l.length ∧ ∀ r ∈ ks, ∃ p ∈ l, r = (refL p).1 ∧ (refL p).2 = true
 | [], ks, h => by
  rw [refsL] at h
  obtain rfl := Option.some.inj h
  exact ⟨rfl, fun r hr => by simp at hr⟩
 | p :: l, ks, h => by
  rw [refsL] at h
  split at h
  ·rename_i g
   obtain ⟨y, hy, rfl⟩ := Option.map_eq_some_iff.1 h
   obtain ⟨i1, i2⟩ := refsL_at hy
   refine ⟨by rw [List.length_cons, List.length_cons, i1], fun r hr => ?_⟩
   rcases List.mem_cons.1 hr with rfl | hr
   ·exact ⟨p, List.mem_cons_self, rfl, g⟩
   ·obtain ⟨q, h3, h4⟩ := i2 r hr
    exact ⟨q, List.mem_cons_of_mem _ h3, h4⟩
  ·simp at h
theorem loose_ok {b : List UInt8} {n : NodS} (h : looseS b = some n) : NodOk n := by
 have hz : ∀ r ∈ List.replicate 16 zRef, r.h.length = 32 := fun r hr => by rw [List.eq_of_mem_replicate hr]; rfl
 unfold looseS at h
 split at h
 ·simp at h
 ·rename_i l hp
  split at h
  ·rename_i h17
   split at h
   ·simp at h
   ·rename_i ks hks
    split at h
    ·obtain rfl := Option.some.inj h
     obtain ⟨h1, h2⟩ := refsL_at hks
     refine ⟨by show ks.length = 16; rw [h1, List.length_take]; omega, rfl, fun r hr => ?_⟩
     obtain ⟨p, _, rfl, _⟩ := h2 r hr
     exact refL_h p
    ·simp at h
  ·split at h
   ·simp at h
   ·split at h
    ·simp at h
    ·split at h
     ·split at h
      ·obtain rfl := Option.some.inj h
       exact ⟨rfl, rfl, hz⟩
      ·simp at h
     ·split at h
      ·obtain rfl := Option.some.inj h
       exact ⟨rfl, refL_h _, hz⟩
      ·simp at h
theorem loose_iff {b : List UInt8} {n : NodS} (h : looseS b = some n) : ndD b = if mayS ndD n = true ∧ ndB n = b then some n else none := by
 by_cases g : mayS ndD n = true ∧ ndB n = b
 ·rw [if_pos g, ← g.2]
  exact (ndD_ndB (loose_ok h) g.1).1
 ·rw [if_neg g]
  cases hd : ndD b with
  | none => rfl
  | some m =>
   have h1 := loose_enc hd
   rw [h] at h1
   obtain rfl := Option.some.inj h1
   obtain ⟨_, _, _, _, hm⟩ := ndD_some hd
   exact absurd ⟨hm, ndB_of hd⟩ g
theorem loose_no {b : List UInt8} (h : looseS b = none) : ndD b = none := by
 cases hd : ndD b with
 | none => rfl
 | some m => rw [loose_enc hd] at h; simp at h
theorem numL_le : ∀ (j : Nat) {b : List UInt8} {i n m : Nat}, numL b j i n = some m → n ≤ 268435711 → m ≤ 268435711
 | 0, b, i, n, m, h, hn => by rw [numL] at h; obtain rfl := Option.some.inj h; exact hn
 | j + 1, b, i, n, m, h, hn => by
  rw [numL] at h
  split at h
  ·simp at h
  ·have := bAt_lt b i
   exact numL_le j h (by omega)
theorem part_in {b : List UInt8} (h : (partS b).ok = true) : (partS b).f ≤ (partS b).to ∧ 1 ≤ (partS b).to ∧ (partS b).to ≤ b.length ∧ (partS b).to ≤ 268435800 := by
 unfold partS at h ⊢
 split at h
 ·simp at h
 ·rename_i g0
  rw [if_neg g0]
  split at h
  ·rename_i g1
   rw [if_pos g1]
   exact ⟨Nat.zero_le _, Nat.le_refl _, by show 1 ≤ b.length; omega, by decide⟩
  ·rename_i g1
   rw [if_neg g1]
   split at h
   ·rename_i g2
    rw [if_pos g2]
    simp only [decide_eq_true_eq] at h
    exact ⟨Nat.le_add_right _ _, Nat.le_add_right _ _, h, by dsimp only; omega⟩
   ·rename_i g2
    rw [if_neg g2]
    split at h
    ·simp at h
    ·rename_i n hn
     simp only [decide_eq_true_eq] at h
     have := numL_le _ hn (by omega)
     have hb := bAt_lt b 0
     exact ⟨Nat.le_add_right _ _, by dsimp only; omega, h, by dsimp only; omega⟩
theorem bAt_take {b : List UInt8} {n i : Nat} (h : i < n) : bAt (b.take n) i = bAt b i := by
 unfold bAt
 rw [List.getElem?_take, if_pos h]
theorem numL_take : ∀ (j : Nat) {b : List UInt8} {i n m k : Nat}, numL b j i n = some m → i + j ≤ k → k ≤ b.length → numL (b.take k) j i n = some m
 | 0, b, i, n, m, k, h, _, _ => by rw [numL] at h ⊢; exact h
 | j + 1, b, i, n, m, k, h, h1, h2 => by
  rw [numL] at h ⊢
  split at h
  ·simp at h
  ·rw [if_neg (by rw [List.length_take]; omega), bAt_take (by omega)]
   exact numL_take j h (by omega) h2
theorem part_take {b : List UInt8} (h : (partS b).ok = true) : partS (b.take (partS b).to) = partS b := by
 obtain ⟨i1, i2, i3, i4⟩ := part_in h
 have hlen : (b.take (partS b).to).length = (partS b).to := by rw [List.length_take]; omega
 have h0 : bAt (b.take (partS b).to) 0 = bAt b 0 := bAt_take (by omega)
 generalize hto : (partS b).to = to at *
 unfold partS at h hto i1 ⊢
 split at h
 ·simp at h
 ·rename_i g0
  rw [if_neg g0] at hto i1
  rw [if_neg g0, if_neg (show ¬ (b.take to).length = 0 by omega), h0, hlen]
  split at h
  ·rename_i g1
   rw [if_pos g1, if_pos g1]
  ·rename_i g1
   rw [if_neg g1] at hto i1
   rw [if_neg g1, if_neg g1]
   split at h
   ·rename_i g2
    rw [if_pos g2] at hto i1
    rw [if_pos g2, if_pos g2]
    simp only [decide_eq_true_eq] at h
    have hto : 1 + bAt b 0 % 64 = to := hto
    have d1 : decide (1 + bAt b 0 % 64 ≤ to) = decide (1 + bAt b 0 % 64 ≤ b.length) := decide_eq_decide.2 (by omega)
    rw [d1]
   ·rename_i g2
    rw [if_neg g2] at hto i1
    rw [if_neg g2, if_neg g2]
    split at h
    ·simp at h
    ·rename_i n hn
     rw [hn] at hto i1
     simp only [decide_eq_true_eq] at h
     have hto : 1 + (bAt b 0 % 64 - 55) + n = to := hto
     have d1 : decide (1 + (bAt b 0 % 64 - 55) + n ≤ to) = decide (1 + (bAt b 0 % 64 - 55) + n ≤ b.length) := decide_eq_decide.2 (by omega)
     rw [numL_take _ hn (k := to) (by omega) i3]
     dsimp only
     rw [d1]
def OneF (p : List UInt8) : Prop := (partS p).ok = true ∧ (partS p).to = p.length
theorem partsL_whole : ∀ (k : Nat) {x : List UInt8} {l : List (List UInt8)}, partsL k x = some l → ∀ p ∈ l, OneF p ∧ p.length ≤ x.length
 | 0, x, l, h => by rw [partsL] at h; simp at h
 | k + 1, x, l, h => by
  rw [partsL] at h
  split at h
  ·obtain rfl := Option.some.inj h
   intro p hp
   simp at hp
  ·split at h
   ·rename_i g
    obtain ⟨l', h1, rfl⟩ := Option.map_eq_some_iff.1 h
    obtain ⟨i1, i2, i3, i4⟩ := part_in g
    intro p hp
    rcases List.mem_cons.1 hp with rfl | hp
    ·refine ⟨⟨?_, ?_⟩, by rw [List.length_take]; omega⟩
     ·rw [part_take g]; exact g
     ·rw [part_take g, List.length_take]; omega
    ·obtain ⟨w1, w2⟩ := partsL_whole k h1 p hp
     rw [List.length_drop] at w2
     exact ⟨w1, by omega⟩
   ·simp at h
/- Nr2: the document's Check and Encode; what is wanted of its Decode on shorter bytes is supposed. By this project. -/
abbrev seP (N : HV) : PP := fun A _ _ cs => Sn N A cs ∨ cs = []
def RDecR (b : List UInt8) : VR → HV → Prop := fun r N => match ndD b with
 | none => ∃ u, r = .v u ∧ u = .tup [.agg zNC, .i .i64 70]
 | some n => ∃ u, r = .v u ∧ ∃ w, u = .tup [.agg w, .i .i64 0] ∧ NodP (seP N) n w
def RDecOk (b : List UInt8) : Prop := ∀ (A : Option (Nat × Nat)) (c : Nat) (o : Bool) (hp : Hp), OkH hp → RBe ⟨hp, []⟩ A (b.map byV) → b.length ≤ c → Fn kxD 18 [.sl A b.length c o] hp [] (RDecR b)
theorem RDecOk.none {b : List UInt8} (h : RDecOk b) (hN : ndD b = none) {A : Option (Nat × Nat)} {c : Nat} {o : Bool} {hp : Hp} (ho : OkH hp) (hA : RBe ⟨hp, []⟩ A (b.map byV)) (hc : b.length ≤ c) : Fn kxD 18 [.sl A b.length c o] hp [] fun r N => ∃ u, r = .v u ∧ u = .tup [.agg zNC, .i .i64 70] := by
 have := h A c o hp ho hA hc
 unfold RDecR at this
 rw [hN] at this
 exact this
theorem RDecOk.some {b : List UInt8} {n : NodS} (h : RDecOk b) (hN : ndD b = some n) {A : Option (Nat × Nat)} {c : Nat} {o : Bool} {hp : Hp} (ho : OkH hp) (hA : RBe ⟨hp, []⟩ A (b.map byV)) (hc : b.length ≤ c) : Fn kxD 18 [.sl A b.length c o] hp [] fun r N => ∃ u, r = .v u ∧ ∃ w, u = .tup [.agg w, .i .i64 0] ∧ NodP (seP N) n w := by
 have := h A c o hp ho hA hc
 unfold RDecR at this
 rw [hN] at this
 exact this
theorem rpath_d {A : Option (Nat × Nat)} {xs : List UInt8} {c lo : Nat} {op : Bool} {hp : Hp} (ho : OkH hp) (hA0 : RBe ⟨hp, []⟩ A (xs.map byV)) (hl : xs.length ≤ 140737488355328) :
  Fn kxD 56 [.sl A xs.length c op, .i .i64 (lo : Nat)] hp [] fun r _ => r = .v (.b (decide (pathOk xs ∧ lo ≤ xs.length))) := by
 refine fn_of_w (T := []) ho.sv (fun _ => rfl) (fn := Try.f56) (by kernel_rfl) rfl rfl ?_
 refine wo ?_
 iterate 4 ((try refine w_seq ?_); refine wo ?_)
 refine w_loop (ι := Nat) (fun i => [(5, .i .i64 (i : Nat)), (1, .i .i64 (lo : Nat)), (0, .sl A xs.length c op)]) (fun i => []) (fun i => i ≤ xs.length ∧ ∀ j, (hj : j < xs.length) → j < i → xs[j].toNat < 16) (fun i => xs.length - i) 0 ⟨Nat.zero_le _, fun j _ h => by omega⟩ ⟨rfl, rfl, rfl, trivial⟩ (fun hp h => h) ?_
 intro i ⟨hi, hlt⟩
 refine wo ?_
 by_cases g : i < xs.length
 ·have hA := hA0.ne (by omega)
  obtain ⟨ba, oa, rfl⟩ := rb_spot hA (by omega)
  apply wm; iterate 5 exact rfl
  refine mv_int (v := .b true) rfl rfl (vi_lssT (by omega))
  refine wo ?_
  apply wn; iterate 5 exact rfl
  refine p_ia rfl rfl g
  apply wm; iterate 5 exact rfl
  refine m_ldN (j := i) rfl hA.1 hA.2 rfl (row_byte g)
  by_cases g1 : 15 < xs[i].toNat
  ·have hno : ¬ (pathOk xs ∧ lo ≤ xs.length) := fun h => by have := h.1.2 _ (List.getElem_mem g); omega
   apply wm; iterate 5 exact rfl
   refine mv_int (v := .b true) rfl rfl (vi_gtrT ((by show (15 : Int) < (xs[i].toNat : Nat); omega)))
   refine wo ?_
   exact w_ret (wend_ret (vres1 (rv_tmp rfl)) (by rw [decide_eq_false hno]))
  ·apply wm; iterate 5 exact rfl
   refine mv_int (v := .b false) rfl rfl (vi_gtrF ((by show ¬ (15 : Int) < (xs[i].toNat : Nat); omega)))
   refine wo ?_
   exact ⟨rfl, i + 1, ⟨g, fun j hj h => by
    rcases Nat.lt_or_ge j i with h' | h'
    ·exact hlt j hj h'
    ·obtain rfl : j = i := by omega
     omega⟩, by omega, ⟨rfl, rfl, rfl, trivial⟩, fun hp h => h⟩
 apply wm; iterate 5 exact rfl
 refine mv_int (v := .b false) rfl rfl (vi_lssF (by omega))
 refine wo ?_
 refine w_exit ?_
 obtain rfl : i = xs.length := by omega
 have hn16 : ∀ x ∈ xs, x.toNat < 16 := fun x hx => by
  obtain ⟨j, hj, rfl⟩ := List.mem_iff_getElem.1 hx
  exact hlt j hj hj
 refine wo ?_
 by_cases g1 : lo ≤ xs.length
 ·apply wm; iterate 5 exact rfl
  refine mv_int (v := .b true) rfl rfl (vi_geqT (by omega))
  refine wo ?_
  by_cases g2 : xs.length ≤ 64
  ·apply wmg; iterate 7 exact rfl
   refine mv_int (v := .b true) rfl rfl (vi_leqT (by omega))
   refine wo ?_
   exact w_ret (wend_ret (vres1 (rv_tmp rfl)) (by rw [decide_eq_true (show pathOk xs ∧ lo ≤ xs.length from ⟨⟨g2, hn16⟩, g1⟩)]))
  ·apply wmg; iterate 7 exact rfl
   refine mv_int (v := .b false) rfl rfl (vi_leqF (by omega))
   refine wo ?_
   exact w_ret (wend_ret (vres1 (rv_tmp rfl)) (by rw [decide_eq_false (fun h : pathOk xs ∧ lo ≤ xs.length => g2 h.1.1)]))
 ·apply wm; iterate 5 exact rfl
  refine mv_int (v := .b false) rfl rfl (vi_geqF (by omega))
  refine wo ?_
  exact w_ret (wend_ret (vres1 (rv_tmp rfl)) (by rw [decide_eq_false (fun h : pathOk xs ∧ lo ≤ xs.length => g1 h.2)]))
theorem rvalue_d {A : Option (Nat × Nat)} {v : List UInt8} {c : Nat} {o : Bool} {hp : Hp} (ho : OkH hp) : Fn kxD 57 [.sl A v.length c o] hp [] fun r _ => r = .v (.b (mayValS v)) := by
 unfold mayValS
 refine fn_of_w (T := []) ho.sv (fun _ => rfl) (fn := Try.f57) (by kernel_rfl) rfl rfl ?_
 refine wo ?_
 by_cases g : 1 ≤ v.length
 ·apply wm; iterate 5 exact rfl
  refine mv_int (v := .b true) rfl rfl (vi_geqT (by omega))
  refine wo ?_
  by_cases g2 : v.length ≤ 256
  ·apply wmg; iterate 7 exact rfl
   refine mv_int (v := .b true) rfl rfl (vi_leqT (by omega))
   refine wo ?_
   exact w_ret (wend_ret (vres1 (rv_tmp rfl)) (by rw [decide_eq_true ⟨g, g2⟩]))
  ·apply wmg; iterate 7 exact rfl
   refine mv_int (v := .b false) rfl rfl (vi_leqF (by omega))
   refine wo ?_
   exact w_ret (wend_ret (vres1 (rv_tmp rfl)) (by rw [decide_eq_false (fun h => g2 h.2)]))
 ·apply wm; iterate 5 exact rfl
  refine mv_int (v := .b false) rfl rfl (vi_geqF (by omega))
  refine wo ?_
  exact w_ret (wend_ret (vres1 (rv_tmp rfl)) (by rw [decide_eq_false (fun h => g h.1)]))
theorem noneS_eq (r : RefS) : noneS r = decide (r.k = 0 ∧ r.h = zH32 ∧ r.n = []) := by
 unfold noneS bareS
 by_cases k0 : r.k = 0
 ·rw [if_pos k0, decide_eq_true k0, Bool.true_and]
  exact decide_eq_decide.2 ⟨fun h => ⟨k0, h⟩, fun h => h.2⟩
 ·rw [decide_eq_false k0, Bool.false_and, decide_eq_false (fun h => k0 h.1)]
set_option maxHeartbeats 4000000 in
theorem rempty_d {P : PP} {r : RefS} {w : List V} {hp : Hp} (ho : OkH hp) (hr : RefP P r w) : Fn kxD 58 [.agg w] hp [] fun q _ => q = .v (.b (noneS r)) := by
 obtain ⟨hh, A, c, o, rfl, _, _⟩ := hr
 rw [noneS_eq]
 refine fn_of_w (T := []) ho.sv (fun _ => rfl) (fn := Try.f58) (by kernel_rfl) rfl rfl ?_
 refine wo ?_
 apply p_op; exact (vwant_n rfl); iterate 4 exact rfl
 refine ev_box rfl rfl fun bx => ⟨_, rfl, ?_⟩
 refine wo ?_
 by_cases k0 : r.k = 0
 rotate_left
 ·apply wm; iterate 5 exact rfl
  refine mv_int (v := .b false) rfl rfl (vi_eqlF (k0))
  refine wo ?_
  exact w_ret (wend_ret (vres1 (rv_tmp rfl)) (by rw [decide_eq_false (fun h => k0 h.1)]))
 apply wm; iterate 5 exact rfl
 refine mv_int (v := .b true) rfl rfl (vi_eqlT (k0))
 refine wo ?_
 refine zX (m_ldln (s := 31) (cs := r.h.map byV) rfl (refC_hash hh) (by rw [List.length_map, hh])) ?_
 apply wg; iterate 7 exact rfl
 refine p_buildA0 (Z := (List.replicate 32 (0 : UInt8)).map byV)
 apply wmg; iterate 7 exact rfl
 refine m_eqA (ys := zH32) rfl rfl rfl hh rfl
 by_cases g : r.h = zH32
 rotate_left
 ·rw [decide_eq_false g]
  refine wo ?_
  exact w_ret (wend_ret (vres1 (rv_tmp rfl)) (by rw [decide_eq_false (fun h => g h.2.1)]))
 rw [decide_eq_true g]
 refine wo ?_
 refine zX (m_ldl rfl (refC_node hh)) ?_
 refine wo ?_
 by_cases g2 : r.n = []
 ·apply wmg; iterate 7 exact rfl
  refine mv_int (v := .b true) rfl rfl (vi_eqlT ((by rw [g2]; rfl)))
  refine wo ?_
  exact w_ret (wend_ret (vres1 (rv_tmp rfl)) (by rw [decide_eq_true ⟨k0, g, g2⟩]))
 ·have g3 : r.n.length ≠ 0 := fun e => g2 (List.length_eq_zero_iff.1 e)
  apply wmg; iterate 7 exact rfl
  refine mv_int (v := .b false) rfl rfl (vi_eqlF (by omega))
  refine wo ?_
  exact w_ret (wend_ret (vres1 (rv_tmp rfl)) (by rw [decide_eq_false (fun h => g2 h.2.2)]))
def refK7 (r : RefS) : Int := if r.k = 2 then (match ndD r.n with
 | some m => m.k
 | none => 0) else 0
theorem mayRef2_eq (r : RefS) : (mayRefS ndD r).2 = (bareS r && (decide (r.k ≠ 2) || (ndD r.n).isSome)) := by
 unfold mayRefS
 cases hb : bareS r with
 | false => rw [if_pos rfl]; rfl
 | true =>
  rw [if_neg (by simp)]
  by_cases k2 : r.k = 2
  ·rw [if_neg (by simp [k2]), decide_eq_false (by simp [k2])]
   cases ndD r.n <;> rfl
  ·rw [if_pos k2, decide_eq_true k2]
   rfl
set_option maxHeartbeats 8000000 in
theorem rref_k {r : RefS} {w : List V} {hp : Hp} (ho : OkH hp) (hr : RefP (reP ⟨hp, []⟩) r w) (hD : r.k = 2 → RDecOk r.n) :
  Fn kxD 55 [.agg w] hp [] fun q _ => q = .v (.tup [.i .i64 (refK7 r), .b (mayRefS ndD r).2]) := by
 have hl := hr.len
 obtain ⟨hh, A, c, o, hw, hA, hc⟩ := hr
 subst hw
 rw [mayRef2_eq]
 unfold bareS refK7
 refine fn_of_w (T := []) ho.sv (fun _ => rfl) (fn := Try.f55) (by kernel_rfl) rfl rfl ?_
 refine wo ?_
 apply p_op; exact (vwant_n rfl); iterate 4 exact rfl
 refine ev_box rfl rfl fun bx => ⟨_, rfl, ?_⟩
 refine wo ?_
 apply wn; iterate 5 exact rfl
 refine p_buildA0 (Z := (List.replicate 32 (0 : UInt8)).map byV)
 apply p_op; exact (vwant_n rfl); iterate 4 exact rfl
 refine e_alloc rfl fun b4 => ⟨_, rfl, ?_⟩
 apply p_do; exact (vwant_n rfl); exact rfl; exact rfl
 refine e_stn (C' := zH32.map byV) rfl rfl (by simp [zH32]) rfl (Nat.le_of_ble_eq_true rfl) rfl ⟨_, rfl, ?_⟩
 refine wo ?_
 by_cases k0 : r.k = 0
 ·rw [if_pos k0, if_neg (by omega), decide_eq_true (show r.k ≠ 2 by omega)]
  apply wm; iterate 5 exact rfl
  refine mv_int (v := .b true) rfl rfl (vi_eqlT (k0))
  refine wo ?_
  refine yX (m_ldln (s := 31) (cs := r.h.map byV) rfl (refC_hash hh) (by rw [List.length_map, hh])) ?_
  refine yX (m_ldln (s := 31) (cs := zH32.map byV) rfl rfl rfl) ?_
  apply dm; iterate 6 exact rfl
  refine m_eqA (ys := zH32) rfl rfl rfl hh rfl
  by_cases g : r.h = zH32
  rotate_left
  ·rw [decide_eq_false g]
   refine wo ?_
   exact w_ret (wend_ret (vres2 (rv_tmp rfl) (rv_tmp rfl)) (by rw [decide_eq_false (fun h => g h.1)]; rfl))
  rw [decide_eq_true g]
  refine wo ?_
  refine yX (m_ldl rfl (refC_node hh)) ?_
  refine wo ?_
  by_cases g2 : r.n = []
  ·apply dmg; iterate 8 exact rfl
   refine mv_int (v := .b true) rfl rfl (vi_eqlT ((by rw [g2]; rfl)))
   refine wo ?_
   exact w_ret (wend_ret (vres2 (rv_tmp rfl) (rv_tmp rfl)) (by rw [decide_eq_true ⟨g, g2⟩]; rfl))
  ·have g3 : r.n.length ≠ 0 := fun e => g2 (List.length_eq_zero_iff.1 e)
   apply dmg; iterate 8 exact rfl
   refine mv_int (v := .b false) rfl rfl (vi_eqlF (by omega))
   refine wo ?_
   exact w_ret (wend_ret (vres2 (rv_tmp rfl) (rv_tmp rfl)) (by rw [decide_eq_false (fun h => g2 h.2)]; rfl))
 rw [if_neg k0]
 apply wm; iterate 5 exact rfl
 refine mv_int (v := .b false) rfl rfl (vi_eqlF (k0))
 refine wo ?_
 by_cases k1 : r.k = 1
 ·rw [if_pos k1, if_neg (by omega), decide_eq_true (show r.k ≠ 2 by omega)]
  apply wm; iterate 5 exact rfl
  refine mv_int (v := .b true) rfl rfl (vi_eqlT (k1))
  refine wo ?_
  refine yX (m_ldl rfl (refC_node hh)) ?_
  refine wo ?_
  by_cases g2 : r.n = []
  ·apply dm; iterate 6 exact rfl
   refine mv_int (v := .b true) rfl rfl (vi_eqlT ((by rw [g2]; rfl)))
   refine wo ?_
   exact w_ret (wend_ret (vres2 (rv_tmp rfl) (rv_tmp rfl)) (by rw [decide_eq_true g2]; rfl))
  ·have g3 : r.n.length ≠ 0 := fun e => g2 (List.length_eq_zero_iff.1 e)
   apply dm; iterate 6 exact rfl
   refine mv_int (v := .b false) rfl rfl (vi_eqlF (by omega))
   refine wo ?_
   exact w_ret (wend_ret (vres2 (rv_tmp rfl) (rv_tmp rfl)) (by rw [decide_eq_false g2]; rfl))
 rw [if_neg k1]
 apply wm; iterate 5 exact rfl
 refine mv_int (v := .b false) rfl rfl (vi_eqlF (k1))
 refine wo ?_
 by_cases k2 : r.k = 2
 rotate_left
 ·rw [if_neg k2, if_neg k2]
  apply wm; iterate 5 exact rfl
  refine mv_int (v := .b false) rfl rfl (vi_eqlF (k2))
  refine wo ?_
  exact w_ret (wend_ret (vres2 (rv_tmp rfl) (rv_tmp rfl)) rfl)
 rw [if_pos k2, if_pos k2, decide_eq_false (show ¬ r.k ≠ 2 by omega)]
 apply wm; iterate 5 exact rfl
 refine mv_int (v := .b true) rfl rfl (vi_eqlT (k2))
 refine wo ?_
 refine zX (m_ldl rfl (refC_node hh)) ?_
 cases hN : ndD r.n with
 | none =>
  apply p_callY []; exact (vwant_n rfl); iterate 4 exact rfl
  case hC => exact (fun hp' hs ht => (hD k2).none hN hs.ok (hA.give0 hs) hc)
  rintro u N rfl
  refine wo ?_
  apply p_op; exact (vwant_n rfl); iterate 4 exact rfl
  refine e_alloc (zc := zNC) (by kernel_rfl) fun b5 => ⟨_, rfl, ?_⟩
  apply p_do; exact (vwant_n rfl); exact rfl; exact rfl
  refine e_stn (C' := zNC) rfl rfl zNC_ne zNC_len (Nat.le_of_eq zNC_len.symm) (overV_all rfl) ⟨_, rfl, ?_⟩
  refine wo ?_
  apply dm; iterate 6 exact rfl
  refine mv_int (v := .b false) rfl rfl (vi_eqlF ((by decide)))
  refine wo ?_
  exact w_ret (wend_ret (vres2 (rv_tmp rfl) (rv_tmp rfl)) (by rw [show ((decide (r.h = zH32 ∧ r.n.length < 32)) && (false || (none : Option NodS).isSome)) = false by simp]; rfl))
 | some m =>
  apply p_callY []; exact (vwant_n rfl); iterate 4 exact rfl
  case hC => exact (fun hp' hs ht => (hD k2).some hN hs.ok (hA.give0 hs) hc)
  rintro u N ⟨wz, rfl, hm⟩
  have hml := hm.len
  refine wo ?_
  apply p_op; exact (vwant_n rfl); iterate 4 exact rfl
  refine e_alloc (zc := zNC) (by kernel_rfl) fun b5 => ⟨_, rfl, ?_⟩
  apply p_do; exact (vwant_n rfl); exact rfl; exact rfl
  refine e_stn (C' := wz) rfl rfl (ne_of_len hml (by decide)) hml (Nat.le_of_eq zNC_len.symm) (overV_all (hml.trans zNC_len.symm)) ⟨_, rfl, ?_⟩
  refine wo ?_
  refine yX (m_ldl rfl hm.k) ?_
  refine wo ?_
  apply dm; iterate 6 exact rfl
  refine mv_int (v := .b true) rfl rfl (vi_eqlT (rfl))
  refine wo ?_
  refine yX (m_ldl rfl (refC_node hh)) ?_
  refine wo ?_
  by_cases g2 : r.n.length < 32
  rotate_left
  ·apply dmg; iterate 8 exact rfl
   refine mv_int (v := .b false) rfl rfl (vi_lssF (by omega))
   refine wo ?_
   exact w_ret (wend_ret (vres2 (rv_tmp rfl) (rv_tmp rfl)) (by rw [decide_eq_false (fun h => g2 h.2)]; rfl))
  apply dmg; iterate 8 exact rfl
  refine mv_int (v := .b true) rfl rfl (vi_lssT (by omega))
  refine wo ?_
  refine yX (m_ldln (s := 31) (cs := r.h.map byV) rfl (refC_hash hh) (by rw [List.length_map, hh])) ?_
  refine yX (m_ldln (s := 31) (cs := zH32.map byV) rfl rfl rfl) ?_
  apply dmg; iterate 8 exact rfl
  refine m_eqA (ys := zH32) rfl rfl rfl hh rfl
  by_cases g : r.h = zH32
  ·rw [decide_eq_true g]
   refine wo ?_
   exact w_ret (wend_ret (vres2 (rv_tmp rfl) (rv_tmp rfl)) (by rw [decide_eq_true ⟨g, g2⟩]; rfl))
  ·rw [decide_eq_false g]
   refine wo ?_
   exact w_ret (wend_ret (vres2 (rv_tmp rfl) (rv_tmp rfl)) (by rw [decide_eq_false (fun h => g h.1)]; rfl))
theorem none_may {r : RefS} (h : noneS r = true) : (mayRefS ndD r).2 = true := by
 rw [none_z h]
 rfl
theorem may_none {r : RefS} (h : (mayRefS ndD r).2 = true) (hk : r.k = 0) : noneS r = true := by
 rw [mayRef2_eq] at h
 unfold noneS
 rw [decide_eq_true hk, Bool.true_and]
 exact (Bool.and_eq_true _ _ ▸ h).1
theorem things_zero {n : NodS} (hall : (n.kids.all fun r => (mayRefS ndD r).2) = true) : decide (thingsS n = 0) = (!n.full && n.kids.all noneS) := by
 have key : (n.kids.filter fun r => decide (r.k ≠ 0)).length = 0 ↔ n.kids.all noneS = true := by
  rw [List.length_eq_zero_iff, List.filter_eq_nil_iff, List.all_eq_true]
  refine ⟨fun h r hr => may_none (List.all_eq_true.1 hall r hr) (by simpa using h r hr), fun h r hr => ?_⟩
  have := none_z (h r hr)
  rw [this]
  simp [zRef]
 unfold thingsS
 cases hf : n.full with
 | true => rw [if_pos rfl]; simp
 | false =>
  rw [if_neg (by simp), Nat.add_zero]
  cases hk : n.kids.all noneS with
  | true => rw [decide_eq_true (key.2 hk)]; rfl
  | false => rw [decide_eq_false (fun h => by rw [key.1 h] at hk; simp at hk)]; rfl
theorem kids_bad {n : NodS} {r : RefS} (hr : r ∈ n.kids) (h : (mayRefS ndD r).2 = false) : mayS ndD n = false := by
 have h1 : (n.kids.all fun r => (mayRefS ndD r).2) = false := List.all_eq_false.2 ⟨r, hr, by rw [h]; simp⟩
 have h2 : n.kids.all noneS = false := List.all_eq_false.2 ⟨r, hr, fun h' => by rw [none_may h'] at h; simp at h⟩
 unfold mayS mayBrS mayLfS
 rw [h1, h2]
 simp
theorem may_k1 {n : NodS} (hk : n.k = 1) (hall : (n.kids.all fun r => (mayRefS ndD r).2) = true) : mayS ndD n = (decide (pathOk n.path ∧ 0 ≤ n.path.length) && (mayValS n.val && (decide (thingsS n = 0) && noneS n.next))) := by
 rw [things_zero hall, show decide (pathOk n.path ∧ 0 ≤ n.path.length) = decide (pathOk n.path) from decide_eq_decide.2 ⟨fun h => h.1, fun h => ⟨h, Nat.zero_le _⟩⟩]
 unfold mayS mayLfS
 rw [if_neg (by omega), if_neg (by omega), if_pos hk]
 cases decide (pathOk n.path) <;> cases mayValS n.val <;> cases n.full <;> cases noneS n.next <;> cases n.kids.all noneS <;> rfl
theorem nd_kind {b : List UInt8} {m : NodS} (h : ndD b = some m) : m.k = 1 ∨ m.k = 2 ∨ m.k = 3 := by
 obtain ⟨l, _, _, hs, _⟩ := ndD_some h
 rcases shape_cases hs with ⟨pb, nib, v, rfl, hu, rfl⟩ | ⟨pb, nib, x, y, rfl, hu, h1, rfl⟩ | ⟨ks, v, h7, h1, h2, rfl⟩
 ·exact .inl rfl
 ·exact .inr (.inl rfl)
 ·exact .inr (.inr rfl)
theorem may_k2 {n : NodS} (hk : n.k = 2) (hall : (n.kids.all fun r => (mayRefS ndD r).2) = true) : mayS ndD n = (decide (pathOk n.path ∧ 1 ≤ n.path.length) && (decide (n.val.length = 0) && (decide (thingsS n = 0) && ((mayRefS ndD n.next).2 && ((decide (n.next.k ≠ 2) || decide (refK7 n.next = 3)) && decide (n.next.k ≠ 0)))))) := by
 rw [things_zero hall]
 unfold mayS
 rw [if_neg (by omega), if_pos hk]
 cases h2 : (mayRefS ndD n.next).2 with
 | false =>
  rw [if_pos (.inl rfl)]
  cases decide (pathOk n.path ∧ 1 ≤ n.path.length) <;> cases decide (n.val.length = 0) <;> cases (!n.full && n.kids.all noneS) <;> rfl
 | true =>
  by_cases k0 : n.next.k = 0
  ·rw [if_pos (.inr (.inl k0)), decide_eq_false (show ¬ n.next.k ≠ 0 by omega)]
   simp
  have hw : ((mayRefS ndD n.next).1 ≠ 0 ∧ (mayRefS ndD n.next).1 ≠ 3) ↔ ¬ (n.next.k ≠ 2 ∨ refK7 n.next = 3) := by
   unfold mayRefS at h2 ⊢
   unfold refK7
   by_cases g : bareS n.next = false
   ·rw [if_pos g] at h2; simp at h2
   rw [if_neg g] at h2 ⊢
   by_cases k2 : n.next.k = 2
   ·rw [if_neg (by simp [k2])] at h2
    rw [if_neg (by simp [k2]), if_pos k2]
    cases hd : ndD n.next.n with
    | none => rw [hd] at h2; simp at h2
    | some m =>
     have := nd_kind hd
     dsimp only
     omega
   ·rw [if_pos k2]
    dsimp only
    omega
  have hw2 : (decide (n.next.k ≠ 2) || decide (refK7 n.next = 3)) = !decide ((mayRefS ndD n.next).1 ≠ 0 ∧ (mayRefS ndD n.next).1 ≠ 3) := by
   rw [show decide ((mayRefS ndD n.next).1 ≠ 0 ∧ (mayRefS ndD n.next).1 ≠ 3) = decide (¬ (n.next.k ≠ 2 ∨ refK7 n.next = 3)) from decide_eq_decide.2 hw]
   simp
  rw [hw2, decide_eq_true (show n.next.k ≠ 0 from k0)]
  by_cases g1 : (mayRefS ndD n.next).1 ≠ 0 ∧ (mayRefS ndD n.next).1 ≠ 3
  ·rw [if_pos (.inr (.inr (.inl g1))), decide_eq_true g1]
   simp
  rw [decide_eq_false g1]
  by_cases g2 : n.path.length = 0
  ·rw [if_pos (.inr (.inr (.inr (.inl g2)))), decide_eq_false (show ¬ (pathOk n.path ∧ 1 ≤ n.path.length) by omega)]
   rfl
  by_cases g3 : 0 < n.val.length
  ·rw [if_pos (.inr (.inr (.inr (.inr g3)))), decide_eq_false (show ¬ n.val.length = 0 by omega)]
   simp
  rw [if_neg (by simp only [not_or]; exact ⟨by simp, k0, g1, g2, g3⟩), decide_eq_true (show n.val.length = 0 by omega)]
  rw [show decide (pathOk n.path ∧ 1 ≤ n.path.length) = decide (pathOk n.path) from decide_eq_decide.2 ⟨fun h => h.1, fun h => ⟨h, by omega⟩⟩]
  unfold mayLfS
  have e1 : mayValS [0] = true := rfl
  have e2 : noneS zRef = true := rfl
  rw [e1, e2]
  cases decide (pathOk n.path) <;> cases n.full <;> cases n.kids.all noneS <;> rfl
theorem may_k3 {n : NodS} (hk : n.k = 3) (hall : (n.kids.all fun r => (mayRefS ndD r).2) = true) : mayS ndD n = (decide (n.path.length = 0) && (decide (2 ≤ thingsS n) && (noneS n.next && ((n.full == mayValS n.val) && (n.full || decide (n.val.length = 0)))))) := by
 unfold mayS mayBrS
 rw [if_pos hk, hall]
 have e : ((n.full == decide (0 < n.val.length)) && decide (n.val.length ≤ 256)) = ((n.full == mayValS n.val) && (n.full || decide (n.val.length = 0))) := by
  have e1 : mayValS n.val = (decide (0 < n.val.length) && decide (n.val.length ≤ 256)) := by unfold mayValS; rw [Bool.decide_and]; rfl
  rw [e1]
  by_cases g : 0 < n.val.length
  ·rw [decide_eq_true g, decide_eq_false (show ¬ n.val.length = 0 by omega)]
   cases n.full <;> cases decide (n.val.length ≤ 256) <;> rfl
  ·rw [decide_eq_false g, decide_eq_true (show n.val.length = 0 by omega), decide_eq_true (show n.val.length ≤ 256 by omega)]
   cases n.full <;> rfl
 rw [Bool.true_and, ← e]
 cases decide (2 ≤ thingsS n) <;> cases (n.full == decide (0 < n.val.length)) <;> cases decide (n.val.length ≤ 256) <;> cases decide (n.path.length = 0) <;> cases noneS n.next <;> rfl
theorem may_k0 {n : NodS} (h1 : n.k ≠ 1) (h2 : n.k ≠ 2) (h3 : n.k ≠ 3) : mayS ndD n = false := by
 unfold mayS
 rw [if_neg h3, if_neg h2, if_neg h1]
/- Nr3: the document's Check and Encode, walked; what is wanted of its Decode on shorter bytes is supposed. By this project. -/
set_option maxHeartbeats 32000000 in
theorem rcheck_k {n : NodS} {w : List V} {hp : Hp} (ho : OkH hp) (hn : NodP (reP ⟨hp, []⟩) n w) (hpl : n.path.length ≤ 140737488355328) (hD : ∀ r, (r = n.next ∨ r ∈ n.kids) → r.k = 2 → RDecOk r.n) :
  Fn kxD 31 [.agg w] hp [] fun q _ => q = .v (.i .i64 (if mayS ndD n = true then 0 else 70)) := by
 have hwl := hn.len
 have hk16 := hn.1
 have hkid := fun {i : Nat} (h : i < 16) => kid_at hn h
 obtain ⟨_, A, c, o, A2, c2, o2, nx, ks, hw, p1, _, p2, _, hnx, hks⟩ := hn
 have hkk : ∀ i, i < 16 → ∃ r, n.kids[i]? = some r ∧ w[0 + 38 + i * 34]? = some (.i .i64 r.k) := fun i hi => by
  obtain ⟨x, _, h2, _⟩ := nodC_kid (n := n) (p := .sl A n.path.length c o) (v := .sl A2 n.val.length c2 o2) hnx.len hks (i := i) (by omega)
  exact ⟨_, List.getElem?_eq_getElem (by omega), by rw [hw]; exact h2⟩
 have e0 : w[0 + 0]? = some (.i .i64 n.k) := by rw [hw]; rfl
 have e1 : w[0 + 1]? = some (.sl A n.path.length c o) := by rw [hw]; rfl
 have e2 : w[0 + 2]? = some (.sl A2 n.val.length c2 o2) := by rw [hw]; rfl
 have e3 : w[0 + 3]? = some (.b n.full) := by rw [hw]; rfl
 have e4 : (w.drop (0 + 4)).take 34 = nx := by rw [hw]; exact nodC_next hnx.len
 have e5 : w[0 + 4 + 0]? = some (.i .i64 n.next.k) := by rw [hw]; obtain ⟨_, A, c, o, rfl, _⟩ := hnx; rfl
 clear hw
 refine fn_of_w (T := []) ho.sv (fun _ => rfl) (fn := Try.f31) (by kernel_rfl) rfl rfl ?_
 refine wo ?_
 apply p_op; exact (vwant_n rfl); iterate 4 exact rfl
 refine ev_box rfl rfl fun bx => ⟨_, rfl, ?_⟩
 refine wo ?_
 iterate 4 ((try refine w_seq ?_); refine wo ?_)
 refine w_loop (ι := Nat × Nat) (fun s => [(4, .i .i64 (s.1 : Nat)), (3, .i .i64 (s.2 : Nat)), (1, .p (some (bx, 0)))]) (fun s => [(some bx, cellsO w 29)]) (fun s => s.1 ≤ 16 ∧ ((n.kids.take s.1).all fun r => (mayRefS ndD r).2) = true ∧ s.2 = ((n.kids.take s.1).filter fun r => decide (r.k ≠ 0)).length) (fun s => 16 - s.1) (0, 0) ⟨Nat.zero_le _, rfl, rfl⟩ ⟨rfl, rfl, rfl, trivial⟩ (fun hp h => h) ?_
 intro ⟨i, q⟩ ⟨hi, hall, hq⟩
 dsimp only at hi hall hq ⊢
 have hq16 : q ≤ 16 := by
  have := List.length_filter_le (fun r : RefS => decide (r.k ≠ 0)) (n.kids.take i)
  rw [List.length_take] at this
  omega
 refine wo ?_
 by_cases g : i < 16
 ·obtain ⟨r, x, h1, h2, h3⟩ := hkid g
  obtain ⟨r', h1', hk⟩ := hkk i g
  rw [h1] at h1'
  obtain rfl := Option.some.inj h1'
  have hmem : r ∈ n.kids := List.mem_of_getElem? h1
  have hsn : n.kids.take (i + 1) = n.kids.take i ++ [r] := by
   obtain ⟨q1, q2⟩ := List.getElem?_eq_some_iff.1 h1
   rw [List.take_succ_eq_append_getElem q1, q2]
  apply wm; iterate 5 exact rfl
  refine mv_int (v := .b true) rfl rfl (vi_lssT (by omega))
  refine wo ?_
  apply wn; iterate 5 exact rfl
  refine p_iaan rfl rfl g
  refine zX (m_ldln (s := 33) (cs := x) rfl h2 h3.len) ?_
  refine p_callq (vwant_n rfl) rfl rfl rfl rfl (fun hp hs => rref_k hs.ok (h3.mono fun A c o cs h => h.give0 hs) (hD r (.inr hmem))) ?_
  cases hm : (mayRefS ndD r).2 with
  | false =>
   refine wo ?_
   exact w_ret (wend_ret (vres1 (rv_tmp rfl)) (by rw [kids_bad hmem hm]; rfl))
  | true =>
   have hall' : ((n.kids.take (i + 1)).all fun r => (mayRefS ndD r).2) = true := by rw [hsn, List.all_append, hall]; simp [hm]
   refine wo ?_
   apply wn; iterate 5 exact rfl
   refine p_iaan rfl rfl g
   refine wo ?_
   refine zX (m_ldl rfl hk) ?_
   by_cases k0 : r.k = 0
   ·apply wm; iterate 5 exact rfl
    refine mv_int (v := .b false) rfl rfl (vi_neqF (by omega))
    refine wo ?_
    exact ⟨rfl, (i + 1, q), ⟨g, hall', by dsimp only; rw [hsn, filter_snoc, if_neg (by simp [k0]), hq]; rfl⟩, by dsimp only; omega, ⟨rfl, rfl, rfl, trivial⟩, fun hp h => h⟩
   ·apply wm; iterate 5 exact rfl
    refine mv_int (v := .b true) rfl rfl (vi_neqT (by omega))
    refine wo ?_
    exact ⟨rfl, (i + 1, q + 1), ⟨g, hall', by dsimp only; rw [hsn, filter_snoc, if_pos (by simp [k0]), hq]⟩, by dsimp only; omega, ⟨rfl, rfl, rfl, trivial⟩, fun hp h => h⟩
 apply wm; iterate 5 exact rfl
 refine mv_int (v := .b false) rfl rfl (vi_lssF (by omega))
 refine wo ?_
 refine w_exit ?_
 obtain rfl : i = 16 := by omega
 rw [List.take_of_length_le (by omega)] at hall hq
 have hT : thingsS n = q + (if n.full then 1 else 0) := by unfold thingsS; rw [hq]
 refine wOS0 ?_
 refine w_cutS [(3, .i .i64 (thingsS n : Nat)), (1, .p (some (bx, 0)))] [(some bx, cellsO w 29)] True ?_ fun _ => ?_
 ·refine wo ?_
  refine zX (m_ldl rfl e3) ?_
  rw [hT]
  cases hf : n.full with
  | true =>
   refine wo ?_
   exact ⟨trivial, rfl, ⟨rfl, rfl, trivial⟩, fun hp h => h⟩
  | false =>
   refine wo ?_
   exact ⟨trivial, rfl, ⟨rfl, rfl, trivial⟩, fun hp h => h⟩
 refine wOS0 ?_
 refine w_seq ?_
 refine wOS0 ?_
 refine w_cutS [(7, .b (mayS ndD n))] [] True ?_ fun _ => ?_
 ·refine wo ?_
  refine zX (m_ldl rfl e0) ?_
  refine wo ?_
  by_cases k1 : n.k = 1
  ·have hm := may_k1 k1 hall
   apply wm; iterate 5 exact rfl
   refine mv_int (v := .b true) rfl rfl (vi_eqlT (k1))
   refine wo ?_
   refine zX (m_ldl rfl e1) ?_
   refine p_callq (vwant_n rfl) rfl rfl rfl rfl (fun hp' hs => rpath_d (lo := 0) hs.ok (p1.give0 hs) hpl) ?_
   by_cases q1 : pathOk n.path ∧ 0 ≤ n.path.length
   rotate_left
   ·rw [decide_eq_false q1] at hm ⊢
    refine wo ?_
    exact ⟨trivial, rfl, ⟨by rw [hm]; rfl, trivial⟩, fun hp h => h.le⟩
   rw [decide_eq_true q1] at hm ⊢
   refine wo ?_
   refine zX (m_ldl rfl e2) ?_
   refine p_callq (vwant_g rfl rfl rfl) rfl rfl rfl rfl (fun hp' hs => rvalue_d hs.ok) ?_
   cases q2 : mayValS n.val with
   | false =>
    rw [q2] at hm
    refine wo ?_
    exact ⟨trivial, rfl, ⟨by rw [hm]; rfl, trivial⟩, fun hp h => h.le⟩
   | true =>
   rw [q2] at hm
   refine wo ?_
   by_cases q3 : thingsS n = 0
   rotate_left
   ·rw [decide_eq_false q3] at hm
    apply wmg; iterate 7 exact rfl
    refine mv_int (v := .b false) rfl rfl (vi_eqlF (by omega))
    refine wo ?_
    exact ⟨trivial, rfl, ⟨by rw [hm]; rfl, trivial⟩, fun hp h => h.le⟩
   rw [decide_eq_true q3] at hm
   apply wmg; iterate 7 exact rfl
   refine mv_int (v := .b true) rfl rfl (vi_eqlT (by omega))
   refine wo ?_
   refine zX (m_ldln (s := 33) (cs := nx) rfl e4 hnx.len) ?_
   refine p_callq (vwant_g rfl rfl rfl) rfl rfl rfl rfl (fun hp' hs => rempty_d hs.ok hnx) ?_
   refine wo ?_
   exact ⟨trivial, rfl, ⟨by rw [hm]; rfl, trivial⟩, fun hp h => h.le⟩
  apply wm; iterate 5 exact rfl
  refine mv_int (v := .b false) rfl rfl (vi_eqlF (k1))
  refine wo ?_
  by_cases k2 : n.k = 2
  ·have hm := may_k2 k2 hall
   apply wm; iterate 5 exact rfl
   refine mv_int (v := .b true) rfl rfl (vi_eqlT (k2))
   refine wo ?_
   refine zX (m_ldln (s := 33) (cs := nx) rfl e4 hnx.len) ?_
   refine p_callq (vwant_n rfl) rfl rfl rfl rfl (fun hp' hs => rref_k hs.ok (hnx.mono fun A c o cs h => h.give0 hs) (hD _ (.inl rfl))) ?_
   refine wOS0 ?_
   refine w_cutS [(10, .b (decide (n.next.k ≠ 2) || decide (refK7 n.next = 3))), (9, .b (mayRefS ndD n.next).2), (3, .i .i64 (thingsS n : Nat)), (1, .p (some (bx, 0)))] [(some bx, cellsO w 29)] True ?_ fun _ => ?_
   ·refine wo ?_
    refine zX (m_ldl rfl e5) ?_
    by_cases q1 : n.next.k = 2
    ·apply wm; iterate 5 exact rfl
     refine mv_int (v := .b false) rfl rfl (vi_neqF (q1))
     refine wo ?_
     apply wmg; iterate 7 exact rfl
     refine m_eqlD (p := refK7 n.next = 3) rfl rfl Iff.rfl
     refine wo ?_
     exact ⟨trivial, rfl, ⟨by rw [decide_eq_false (show ¬ n.next.k ≠ 2 by omega)]; rfl, rfl, rfl, rfl, trivial⟩, fun hp h => h⟩
    ·apply wm; iterate 5 exact rfl
     refine mv_int (v := .b true) rfl rfl (vi_neqT (q1))
     refine wo ?_
     exact ⟨trivial, rfl, ⟨by rw [decide_eq_true (show n.next.k ≠ 2 from q1)]; rfl, rfl, rfl, rfl, trivial⟩, fun hp h => h⟩
   refine wo ?_
   refine zX (m_ldl rfl e1) ?_
   refine p_callq (vwant_n rfl) rfl rfl rfl rfl (fun hp' hs => rpath_d (lo := 1) hs.ok (p1.give0 hs) hpl) ?_
   by_cases q1 : pathOk n.path ∧ 1 ≤ n.path.length
   rotate_left
   ·rw [decide_eq_false q1] at hm ⊢
    refine wo ?_
    exact ⟨trivial, rfl, ⟨by rw [hm]; rfl, trivial⟩, fun hp h => h.le⟩
   rw [decide_eq_true q1] at hm ⊢
   refine wo ?_
   refine zX (m_ldl rfl e2) ?_
   refine wo ?_
   by_cases q2 : n.val.length = 0
   rotate_left
   ·rw [decide_eq_false q2] at hm
    apply wmg; iterate 7 exact rfl
    refine mv_int (v := .b false) rfl rfl (vi_eqlF (by omega))
    refine wo ?_
    exact ⟨trivial, rfl, ⟨by rw [hm]; rfl, trivial⟩, fun hp h => h.le⟩
   rw [decide_eq_true q2] at hm
   apply wmg; iterate 7 exact rfl
   refine mv_int (v := .b true) rfl rfl (vi_eqlT (by omega))
   refine wo ?_
   by_cases q3 : thingsS n = 0
   rotate_left
   ·rw [decide_eq_false q3] at hm
    apply wmg; iterate 7 exact rfl
    refine mv_int (v := .b false) rfl rfl (vi_eqlF (by omega))
    refine wo ?_
    exact ⟨trivial, rfl, ⟨by rw [hm]; rfl, trivial⟩, fun hp h => h.le⟩
   rw [decide_eq_true q3] at hm
   apply wmg; iterate 7 exact rfl
   refine mv_int (v := .b true) rfl rfl (vi_eqlT (by omega))
   refine wo ?_
   cases q4 : (mayRefS ndD n.next).2 with
   | false =>
    rw [q4] at hm
    refine wo ?_
    exact ⟨trivial, rfl, ⟨by rw [hm]; rfl, trivial⟩, fun hp h => h.le⟩
   | true =>
   rw [q4] at hm
   refine wo ?_
   cases q5 : (decide (n.next.k ≠ 2) || decide (refK7 n.next = 3)) with
   | false =>
    rw [q5] at hm
    refine wo ?_
    exact ⟨trivial, rfl, ⟨by rw [hm]; rfl, trivial⟩, fun hp h => h.le⟩
   | true =>
   rw [q5] at hm
   refine wo ?_
   refine zX (m_ldl rfl e5) ?_
   by_cases q6 : n.next.k = 0
   ·rw [decide_eq_false (show ¬ n.next.k ≠ 0 by omega)] at hm
    apply wmg; iterate 7 exact rfl
    refine mv_int (v := .b false) rfl rfl (vi_neqF (q6))
    refine wo ?_
    exact ⟨trivial, rfl, ⟨by rw [hm]; rfl, trivial⟩, fun hp h => h.le⟩
   ·rw [decide_eq_true (show n.next.k ≠ 0 from q6)] at hm
    apply wmg; iterate 7 exact rfl
    refine mv_int (v := .b true) rfl rfl (vi_neqT (q6))
    refine wo ?_
    exact ⟨trivial, rfl, ⟨by rw [hm]; rfl, trivial⟩, fun hp h => h.le⟩
  apply wm; iterate 5 exact rfl
  refine mv_int (v := .b false) rfl rfl (vi_eqlF (k2))
  refine wo ?_
  by_cases k3 : n.k = 3
  rotate_left
  ·have hm := may_k0 k1 k2 k3
   apply wm; iterate 5 exact rfl
   refine mv_int (v := .b false) rfl rfl (vi_eqlF (k3))
   refine wo ?_
   exact ⟨trivial, rfl, ⟨by rw [hm]; rfl, trivial⟩, fun hp h => h.le⟩
  have hm := may_k3 k3 hall
  apply wm; iterate 5 exact rfl
  refine mv_int (v := .b true) rfl rfl (vi_eqlT (k3))
  refine wo ?_
  refine yX (m_ldl rfl e1) ?_
  refine wo ?_
  by_cases q1 : n.path.length = 0
  rotate_left
  ·rw [decide_eq_false q1] at hm
   apply dm; iterate 6 exact rfl
   refine mv_int (v := .b false) rfl rfl (vi_eqlF (by omega))
   refine wo ?_
   exact ⟨trivial, rfl, ⟨by rw [hm]; rfl, trivial⟩, fun hp h => h.le⟩
  rw [decide_eq_true q1] at hm
  apply dm; iterate 6 exact rfl
  refine mv_int (v := .b true) rfl rfl (vi_eqlT (by omega))
  refine wo ?_
  by_cases q2 : 2 ≤ thingsS n
  rotate_left
  ·rw [decide_eq_false q2] at hm
   apply dmg; iterate 8 exact rfl
   refine mv_int (v := .b false) rfl rfl (vi_geqF (by omega))
   refine wo ?_
   exact ⟨trivial, rfl, ⟨by rw [hm]; rfl, trivial⟩, fun hp h => h.le⟩
  rw [decide_eq_true q2] at hm
  apply dmg; iterate 8 exact rfl
  refine mv_int (v := .b true) rfl rfl (vi_geqT (by omega))
  refine wo ?_
  refine yX (m_ldln (s := 33) (cs := nx) rfl e4 hnx.len) ?_
  refine d_callq (vwant_g rfl rfl rfl) (by decide +kernel) rfl rfl rfl rfl (fun hp' hs => rempty_d hs.ok hnx) ?_
  cases q3 : noneS n.next with
  | false =>
   rw [q3] at hm
   refine wo ?_
   exact ⟨trivial, rfl, ⟨by rw [hm]; rfl, trivial⟩, fun hp h => h.le⟩
  | true =>
  rw [q3] at hm
  refine wo ?_
  refine yX (m_ldl rfl e3) ?_
  refine wo ?_
  refine yX (m_ldl rfl e2) ?_
  refine d_callq (vwant_g rfl rfl rfl) (by decide +kernel) rfl rfl rfl rfl (fun hp' hs => rvalue_d hs.ok) ?_
  apply dmg; iterate 8 exact rfl
  refine m_eqb rfl rfl rfl
  cases q4 : (n.full == mayValS n.val) with
  | false =>
   rw [q4] at hm
   refine wo ?_
   exact ⟨trivial, rfl, ⟨by rw [hm]; rfl, trivial⟩, fun hp h => h.le⟩
  | true =>
  rw [q4] at hm
  refine wo ?_
  refine yX (m_ldl rfl e3) ?_
  cases q5 : n.full with
  | true =>
   rw [q5] at hm
   refine wo ?_
   exact ⟨trivial, rfl, ⟨by rw [hm]; rfl, trivial⟩, fun hp h => h.le⟩
  | false =>
   rw [q5] at hm
   refine wo ?_
   refine yX (m_ldl rfl e2) ?_
   refine wo ?_
   by_cases q6 : n.val.length = 0
   ·rw [decide_eq_true q6] at hm
    apply dmg; iterate 8 exact rfl
    refine mv_int (v := .b true) rfl rfl (vi_eqlT (by omega))
    refine wo ?_
    exact ⟨trivial, rfl, ⟨by rw [hm]; rfl, trivial⟩, fun hp h => h.le⟩
   ·rw [decide_eq_false q6] at hm
    apply dmg; iterate 8 exact rfl
    refine mv_int (v := .b false) rfl rfl (vi_eqlF (by omega))
    refine wo ?_
    exact ⟨trivial, rfl, ⟨by rw [hm]; rfl, trivial⟩, fun hp h => h.le⟩
 refine wo ?_
 cases hm : mayS ndD n with
 | false =>
  refine wo ?_
  exact w_ret (wend_ret (vres1 (rv_tmp rfl)) rfl)
 | true =>
  refine wo ?_
  exact w_ret (wend_ret (vres1 (rv_tmp rfl)) rfl)
theorem encs_two (a b : It) : encs [a, b] = enc a ++ enc b := by rw [encs, encs, encs, List.append_nil]
theorem kid_may {n : NodS} (h : mayS ndD n = true) : (n.kids.all fun r => (mayRefS ndD r).2) = true := by
 cases hk : (n.kids.all fun r => (mayRefS ndD r).2) with
 | true => rfl
 | false =>
  obtain ⟨r, hr, h2⟩ := List.all_eq_false.1 hk
  rw [kids_bad hr (by simpa using h2)] at h
  simp at h
theorem RowU.snP {e : TypeId} {xs : List UInt8} {A : Option (Nat × Nat)} {n c : Nat} {op : Bool} {M : HV} (h : RowU e xs (.sl A n c op) M) : Sn M A (xs.map byV) := h.sn fun p hp => hp
set_option maxHeartbeats 32000000 in
theorem rencode_k {n : NodS} {w : List V} {hp : Hp} (ho : OkH hp) (hn : NodP (reP ⟨hp, []⟩) n w) (hpl : n.path.length ≤ 140737488355328) (hD : ∀ r, (r = n.next ∨ r ∈ n.kids) → r.k = 2 → RDecOk r.n) :
  Fn kxD 12 [.agg w] hp [] fun q N => if mayS ndD n = true then ∃ u, q = .v u ∧ ∃ w', u = .tup [w', .i .i64 0] ∧ RowK (ndB n) w' N else ∃ u, q = .v u ∧ u = .tup [.sl none 0 0 false, .i .i64 70] := by
 have hn0 := hn
 have hwl := hn.len
 have hk16 := hn.1
 have hok := hn.ok
 have hkid := fun {i : Nat} (h : i < 16) => kid_at hn h
 obtain ⟨_, A, c, o, A2, c2, o2, nx, ks, hw, p1, _, p2, _, hnx, hks⟩ := hn
 have e0 : w[0 + 0]? = some (.i .i64 n.k) := by rw [hw]; rfl
 have e1 : w[0 + 1]? = some (.sl A n.path.length c o) := by rw [hw]; rfl
 have e2 : w[0 + 2]? = some (.sl A2 n.val.length c2 o2) := by rw [hw]; rfl
 have e4 : (w.drop (0 + 4)).take 34 = nx := by rw [hw]; exact nodC_next hnx.len
 clear hw
 refine Fn.dropC ?_
 refine fn_of_w (T := []) ho.sv (fun _ => rfl) (fn := Try.f12) (by kernel_rfl) rfl rfl ?_
 refine wo ?_
 apply p_op; exact (vwant_n rfl); iterate 4 exact rfl
 refine ev_box rfl rfl fun bx => ⟨_, rfl, ?_⟩
 refine wo ?_
 refine zX (m_ldln (s := 581) (cs := w) rfl (all_take _ hwl) hwl) ?_
 refine p_callq (vwant_n rfl) rfl rfl rfl rfl (fun hp' hs => rcheck_k hs.ok (hn0.mono fun A c o cs h => h.give0 hs) hpl hD) ?_
 cases hm : mayS ndD n with
 | false =>
  rw [if_neg (by simp)]
  refine wo ?_
  apply wm; iterate 5 exact rfl
  refine mv_int (v := .b true) rfl rfl (vi_neqT ((by decide)))
  refine wo ?_
  exact w_ret (wend_ret (vres2 (rv_tmp rfl) (rv_tmp rfl)) ⟨[], cle, by rw [if_neg (by simp)]; exact ⟨_, rfl, rfl⟩⟩)
 | true =>
  rw [if_pos rfl]
  have hki := mayS_kind hm
  obtain ⟨_, q2, _⟩ := nd_key hok hm
  have q4 := (ndD_ndB hok hm).2
  have hall := kid_may hm
  have hB : ndB n = headB 192 (encs (itemsS n)).length ++ encs (itemsS n) := by unfold ndB; rw [enc]
  refine wo ?_
  apply wm; iterate 5 exact rfl
  refine mv_int (v := .b false) rfl rfl (vi_neqF ((by simp)))
  refine wOS0 ?_
  refine w_seq ?_
  refine wOS0 ?_
  refine w_cutE (ι := V × HV) (fun s => [(5, s.1)]) (fun s => s.2) (fun s => RowK (encs (itemsS n)) s.1 s.2) ?_ ?_
  ·refine wo ?_
   refine zX (m_ldl rfl e0) ?_
   refine wo ?_
   by_cases k1 : n.k = 1
   ·have hpa : pathOk n.path := by rcases hki with h | ⟨_, h⟩; omega; exact h
    have e : encs (itemsS n) = strB (packB n.path true) ++ strB n.val := by
     unfold itemsS
     rw [if_neg (by omega), if_pos k1, encs_two, enc, enc]
    rw [e] at q2 ⊢
    rw [List.length_append] at q2
    apply wm; iterate 5 exact rfl
    refine mv_int (v := .b true) rfl rfl (vi_eqlT (k1))
    refine wo ?_
    refine yX (m_ldl rfl e1) ?_
    apply d_callY []; exact (vwant_n rfl); decide +kernel; (iterate 4 exact rfl)
    try (case hok => exact rdOk_nil)
    case hC => exact (fun hp' hs ht => rpacked_d hs.ok (p1.give0 hs) hpa)
    rintro u1 N1 hu1
    obtain ⟨A3, o3, rfl⟩ := hu1.sl
    have hp65 := packB_len (leaf := true) hpa.1
    apply d_callY []; exact (vwant_n rfl); decide +kernel; (iterate 4 exact rfl)
    try (case hok => exact rdOk_nil)
    case hC => exact (fun hp' hs ht => rstr_d hs.ok (.inl (hu1.rb0 hs)) (by omega))
    rintro u2 N2 hu2
    obtain ⟨A4, o4, rfl⟩ := hu2.sl
    refine wo ?_
    refine yX (m_ldl rfl e2) ?_
    have hvl : n.val.length ≤ 1073741824 := by
     have : n.val.length ≤ (strB n.val).length := by
      have := itB_enc (.str n.val) (by rw [enc]; omega)
      by_cases g : ∃ b, n.val = [b] ∧ b.toNat < 128
      ·obtain ⟨b, hb, g2⟩ := g
       rw [hb, strB_one g2]
       exact Nat.le_refl _
      ·rw [strB_many fun b e h => g ⟨b, e, h⟩, List.length_append]
       omega
     omega
    apply d_callY []; exact (vwant_n rfl); decide +kernel; (iterate 4 exact rfl)
    try (case hok => exact rdOk_nil)
    case hC => exact (fun hp' hs ht => rstr_d hs.ok (p2.give0 hs) hvl)
    rintro u3 N3 hu3
    obtain ⟨A5, o5, rfl⟩ := hu3.sl
    apply d_op; exact (vwant_n rfl); exact rfl; exact noRd rfl; decide +kernel; (iterate 3 exact rfl); rotate_left
    refine e_appW (xs := strB (packB n.path true)) (ys := strB n.val) hu2 rfl rfl hu3.src rfl u8_one (by omega) fun A6 m6 o6 N6 hu6 hm6 => ⟨_, rfl, ?_⟩
    try (case hok => exact rdOk_b (by decide +kernel))
    refine wo ?_
    exact ⟨(_, N6), hu6, rfl, ⟨rfl, trivial⟩, fun hp h => h.le⟩
   apply wm; iterate 5 exact rfl
   refine mv_int (v := .b false) rfl rfl (vi_eqlF (k1))
   refine wo ?_
   by_cases k2 : n.k = 2
   ·have hpa : pathOk n.path := by rcases hki with h | ⟨_, h⟩; omega; exact h
    have hnm : (mayRefS ndD n.next).2 = true := by
     have := may_k2 k2 hall
     rw [hm] at this
     have := this.symm
     simp only [Bool.and_eq_true] at this
     exact this.2.2.2.1
    have e : encs (itemsS n) = strB (packB n.path false) ++ itemL n.next := by
     unfold itemsS
     rw [if_neg (by omega), if_neg k1, encs_two, enc, itemL_of hnm]
    rw [e] at q2 ⊢
    rw [List.length_append] at q2
    apply wm; iterate 5 exact rfl
    refine mv_int (v := .b true) rfl rfl (vi_eqlT (k2))
    refine wo ?_
    refine yX (m_ldl rfl e1) ?_
    apply d_callY []; exact (vwant_n rfl); decide +kernel; (iterate 4 exact rfl)
    try (case hok => exact rdOk_nil)
    case hC => exact (fun hp' hs ht => rpacked_d hs.ok (p1.give0 hs) hpa)
    rintro u1 N1 hu1
    obtain ⟨A3, o3, rfl⟩ := hu1.sl
    have hp65 := packB_len (leaf := false) hpa.1
    apply d_callY []; exact (vwant_n rfl); decide +kernel; (iterate 4 exact rfl)
    try (case hok => exact rdOk_nil)
    case hC => exact (fun hp' hs ht => rstr_d hs.ok (.inl (hu1.rb0 hs)) (by omega))
    rintro u2 N2 hu2
    obtain ⟨A4, o4, rfl⟩ := hu2.sl
    refine wo ?_
    refine yX (m_ldln (s := 33) (cs := nx) rfl e4 hnx.len) ?_
    apply d_callY []; exact (vwant_n rfl); decide +kernel; (iterate 4 exact rfl)
    try (case hok => exact rdOk_nil)
    case hC => exact (fun hp' hs ht => ritem_d (P := reP ⟨hp, []⟩) hs.ok hnx)
    rintro u3 N3 ⟨A5, c5, o5, rfl, hs3⟩
    have hz : RZ ⟨hp, []⟩ (N3 ++ (N2 ++ (N1 ++ [(some bx, cellsO w 29)]))) A5 ((itemL n.next).map byV) := hs3.elim (fun h => h.z) (fun h => h.z fun p hp => List.mem_append_left _ hp)
    apply d_op; exact (vwant_n rfl); exact rfl; exact noRd rfl; decide +kernel; (iterate 3 exact rfl); rotate_left
    refine e_appW (xs := strB (packB n.path false)) (ys := itemL n.next) hu2 rfl rfl hz rfl u8_one (by omega) fun A6 m6 o6 N6 hu6 hm6 => ⟨_, rfl, ?_⟩
    try (case hok => exact rdOk_b (by decide +kernel))
    refine wo ?_
    exact ⟨(_, N6), hu6, rfl, ⟨rfl, trivial⟩, fun hp h => h.le⟩
   have k3 : n.k = 3 := by rcases hki with h | ⟨h | h, _⟩ <;> omega
   have e : encs (itemsS n) = encs (n.kids.map refItS) ++ strB n.val := by
    unfold itemsS
    rw [if_pos k3, encs_app, encs, encs, enc, List.append_nil]
   rw [e] at q2 ⊢
   rw [List.length_append] at q2
   have hmap : ∀ i, (encs ((n.kids.take i).map refItS)).length ≤ (encs (n.kids.map refItS)).length := fun i => by
    have := encs_take (n.kids.map refItS) i
    rw [← List.map_take] at this
    exact this
   apply wm; iterate 5 exact rfl
   refine mv_int (v := .b false) rfl rfl (vi_eqlF (k2))
   refine wo ?_
   iterate 4 ((try refine w_seq ?_); refine wo ?_)
   refine w_loop (ι := Nat × V × HV) (fun s => [(6, .i .i64 (s.1 : Nat)), (5, s.2.1), (1, .p (some (bx, 0)))]) (fun s => s.2.2 ++ [(some bx, cellsO w 29)]) (fun s => s.1 ≤ 16 ∧ RowK (encs ((n.kids.take s.1).map refItS)) s.2.1 s.2.2) (fun s => 16 - s.1) (0, .sl none 0 0 false, []) ⟨Nat.zero_le _, by rw [List.take_zero, List.map_nil, encs]; exact .nil⟩ ⟨rfl, rfl, rfl, trivial⟩ (fun hp h => h) ?_
   intro ⟨i, u, N⟩ ⟨hi, hu⟩
   dsimp only at hi hu ⊢
   obtain ⟨A0, o0, rfl⟩ := hu.sl
   refine wo ?_
   by_cases g : i < 16
   ·obtain ⟨r, x, h1, h2, h3⟩ := hkid g
    have hmem : r ∈ n.kids := List.mem_of_getElem? h1
    have hrm := List.all_eq_true.1 hall r hmem
    have hsn : n.kids.take (i + 1) = n.kids.take i ++ [r] := by
     obtain ⟨q1, q2⟩ := List.getElem?_eq_some_iff.1 h1
     rw [List.take_succ_eq_append_getElem q1, q2]
    have hen : encs ((n.kids.take (i + 1)).map refItS) = encs ((n.kids.take i).map refItS) ++ itemL r := by
     rw [hsn, List.map_append, encs_app, List.map_cons, List.map_nil, encs, encs, List.append_nil, itemL_of hrm]
    have hle := hmap (i + 1)
    rw [hen, List.length_append] at hle
    apply wm; iterate 5 exact rfl
    refine mv_int (v := .b true) rfl rfl (vi_lssT (by omega))
    refine wo ?_
    apply wn; iterate 5 exact rfl
    refine p_iaan rfl rfl g
    refine zX (m_ldln (s := 33) (cs := x) rfl h2 h3.len) ?_
    apply p_callY []; exact (vwant_n rfl); iterate 4 exact rfl
    case hC => exact (fun hp' hs ht => ritem_d (P := reP ⟨hp, []⟩) hs.ok h3)
    rintro u3 N3 ⟨A5, c5, o5, rfl, hs3⟩
    have hz : RZ ⟨hp, []⟩ (N3 ++ (N ++ [(some bx, cellsO w 29)])) A5 ((itemL r).map byV) := hs3.elim (fun h => h.z) (fun h => h.z fun p hp => List.mem_append_left _ hp)
    apply p_op; exact (vwant_n rfl); iterate 4 exact rfl
    refine e_appW (xs := encs ((n.kids.take i).map refItS)) (ys := itemL r) hu rfl rfl hz rfl u8_one (by omega) fun A6 m6 o6 N6 hu6 hm6 => ⟨_, rfl, ?_⟩
    refine wo ?_
    exact ⟨rfl, (i + 1, _, N6), ⟨g, by dsimp only; rw [hen]; exact hu6⟩, by dsimp only; omega, ⟨rfl, rfl, rfl, trivial⟩, fun hp h => h.le⟩
   apply wm; iterate 5 exact rfl
   refine mv_int (v := .b false) rfl rfl (vi_lssF (by omega))
   refine wo ?_
   refine w_exit ?_
   obtain rfl : i = 16 := by omega
   have hkt : n.kids.take 16 = n.kids := List.take_of_length_le (by omega)
   rw [hkt] at hu ⊢
   have hvl : n.val.length ≤ 1073741824 := by
    have : n.val.length ≤ (strB n.val).length := by
     by_cases g : ∃ b, n.val = [b] ∧ b.toNat < 128
     ·obtain ⟨b, hb, g2⟩ := g
      rw [hb, strB_one g2]
      exact Nat.le_refl _
     ·rw [strB_many fun b e h => g ⟨b, e, h⟩, List.length_append]
      omega
    omega
   refine wo ?_
   refine zX (m_ldl rfl e2) ?_
   apply p_callY []; exact (vwant_n rfl); iterate 4 exact rfl
   case hC => exact (fun hp' hs ht => rstr_d hs.ok (p2.give0 hs) hvl)
   rintro u3 N3 hu3
   obtain ⟨A5, o5, rfl⟩ := hu3.sl
   apply p_op; exact (vwant_n rfl); iterate 4 exact rfl
   refine e_appW (xs := encs (n.kids.map refItS)) (ys := strB n.val) hu rfl rfl hu3.src rfl u8_one (by omega) fun A6 m6 o6 N6 hu6 hm6 => ⟨_, rfl, ?_⟩
   refine wo ?_
   exact ⟨(_, N6), hu6, rfl, ⟨rfl, trivial⟩, fun hp h => h.le⟩
  rintro ⟨u5, N5⟩ hu5
  dsimp only at hu5 ⊢
  obtain ⟨A5, o5, rfl⟩ := hu5.sl
  refine wo ?_
  apply p_callY []; exact (vwant_n rfl); iterate 4 exact rfl
  case hC => exact (fun hp' hs ht => rlist_d hs.ok (hu5.rb0 hs) (by omega))
  rintro u6 N6 hu6
  refine wo ?_
  exact w_ret (wend_ret (vres2 (rv_tmp rfl) (rv_tmp rfl)) ⟨N6, cle, by rw [if_pos rfl, hB]; exact ⟨_, rfl, _, rfl, hu6⟩⟩)
/- Nr4: the document's part, parts, content, refOf, unpacked. By this project. -/
theorem vres4 {C : Cx} {hp0 : Bs} {L : HV} {l : VL} {r r' r'' r3 : ResultVar} {v v' v'' v3 : V} (h : RvV C hp0 r l L v) (h' : RvV C hp0 r' l L v') (h'' : RvV C hp0 r'' l L v'') (h3 : RvV C hp0 r3 l L v3) : ResV C hp0 [r, r', r'', r3] l L (.tup [v, v', v'', v3]) := fun fr hp hf hs => by
 have := h fr hp hf hs
 have := h' fr hp hf hs
 have := h'' fr hp hf hs
 have := h3 fr hp hf hs
 rw [resV_cons, resV_cons, resV_cons, resV_cons]; simp [*, resV, tupV]
section
variable {K : Kx} {hp0 : Bs} {l : VL} {L : HV}
theorem m_leqD {a b : Operand} {t t' : TypeId} {k : IntKind} {x y : Int} {p : Prop} [Decidable p] (hx : evL l a = some (.i k x)) (hy : evL l b = some (.i k y)) (hp : p ↔ x ≤ y) : MVO K hp0 l L (.binOp .leq t a b t') (.b (decide p)) := by
 by_cases h : p
 ·rw [decide_eq_true h]; exact mv_int (v := .b true) hx hy (vi_leqT (hp.1 h))
 ·rw [decide_eq_false h]; exact mv_int (v := .b false) hx hy (vi_leqF fun g => h (hp.2 g))
theorem m_geqD {a b : Operand} {t t' : TypeId} {k : IntKind} {x y : Int} {p : Prop} [Decidable p] (hx : evL l a = some (.i k x)) (hy : evL l b = some (.i k y)) (hp : p ↔ y ≤ x) : MVO K hp0 l L (.binOp .geq t a b t') (.b (decide p)) := by
 by_cases h : p
 ·rw [decide_eq_true h]; exact mv_int (v := .b true) hx hy (vi_geqT (hp.1 h))
 ·rw [decide_eq_false h]; exact mv_int (v := .b false) hx hy (vi_geqF fun g => h (hp.2 g))
theorem m_lssD {a b : Operand} {t t' : TypeId} {k : IntKind} {x y : Int} {p : Prop} [Decidable p] (hx : evL l a = some (.i k x)) (hy : evL l b = some (.i k y)) (hp : p ↔ x < y) : MVO K hp0 l L (.binOp .lss t a b t') (.b (decide p)) := by
 by_cases h : p
 ·rw [decide_eq_true h]; exact mv_int (v := .b true) hx hy (vi_lssT (hp.1 h))
 ·rw [decide_eq_false h]; exact mv_int (v := .b false) hx hy (vi_lssF fun g => h (hp.2 g))
theorem e_slU {t e E : TypeId} {x : Operand} {lo hi : Option Operand} {A : Option (Nat × Nat)} {xs : List UInt8} {m i : Nat} {op : Bool} {N : HV} {k : VR → HV → Prop} [hS : SliceV K.C t e] [hs : SizeV K.C e 1] (hu : RowU E xs (.sl A m m op) N) (hx : evL l x = some (.sl A m m op)) (hlo : BoundL l lo 0 i) (hhi : BoundL l hi m m) (h0 : 0 < i) (h1 : i ≤ m) (hk : ∀ A' c', (Sn N A' ((xs.drop i).map byV) ∨ xs.drop i = []) → m - i ≤ c' → k (.v (.sl A' (m - i) c' op)) L) : EV K hp0 l L (.slice t x lo hi none) [] k := by
 obtain ⟨b, op2, oo, e1, rfl⟩ := hu.got (by
  cases hu with
  | nil => omega
  | own h => omega)
 simp only [V.sl.injEq] at e1
 obtain ⟨rfl, hm, _, rfl⟩ := e1
 by_cases g : op = true → i < m
 ·refine ev_mv (m_slg hx hlo hhi h1 (Nat.le_refl _) g (fun _ => ⟨_, rfl⟩)) (hk _ _ ?_ (Nat.le_refl _))
  by_cases gi : i < m
  ·refine .inl ?_
   have e2 : ((some (b, 0)).map fun a : Nat × Nat => (a.1, offV m i a.2 1)) = some (b, i) := by
    rw [Option.map_some, offV_ne (by omega)]
    simp
   rw [e2]
   exact Sn.own (List.mem_singleton.2 rfl) (by rw [List.map_drop]; exact List.take_of_length_le (Nat.le_refl _))
  ·exact .inr (List.drop_of_length_le (by omega))
 ·have g1 : op = true := by
   cases op with
   | true => rfl
   | false => exact absurd (fun h => by simp at h) g
  subst g1
  have hi' : i = m := by
   rcases Nat.lt_or_ge i m with h | h
   ·exact absurd (fun _ => h) g
   ·omega
  subst hi'
  refine ev_slE2 hx hlo hhi h0 fun b' => ?_
  have := hk (some (b', 0)) 0 (.inr (List.drop_of_length_le (by omega))) (by omega)
  rwa [Nat.sub_self] at this
end
abbrev partV7 (p : Part) : V := .tup [.b p.il, .i .i64 (p.f : Nat), .i .i64 (p.to : Nat), .b p.ok]
set_option maxHeartbeats 16000000 in
theorem rpart_d {A : Option (Nat × Nat)} {b : List UInt8} {c : Nat} {o : Bool} {hp : Hp} (ho : OkH hp) (hA0 : RBe ⟨hp, []⟩ A (b.map byV)) (hl : b.length ≤ 140737488355328) :
  Fn kxD 68 [.sl A b.length c o] hp [] fun r _ => r = .v (partV7 (partS b)) := by
 unfold partS
 refine fn_of_w (T := []) ho.sv (fun _ => rfl) (fn := Try.f68) (by kernel_rfl) rfl rfl ?_
 refine wo ?_
 by_cases g0 : b.length = 0
 ·rw [if_pos g0]
  apply wm; iterate 5 exact rfl
  refine mv_int (v := .b true) rfl rfl (vi_eqlT (by omega))
  refine wo ?_
  exact w_ret (wend_ret (vres4 (rv_tmp rfl) (rv_tmp rfl) (rv_tmp rfl) (rv_tmp rfl)) rfl)
 rw [if_neg g0]
 have hA := hA0.ne (by omega)
 obtain ⟨ba, oa, rfl⟩ := rb_spot hA (by omega)
 have hb0 := bAt_lt b 0
 apply wm; iterate 5 exact rfl
 refine mv_int (v := .b false) rfl rfl (vi_eqlF (by omega))
 refine wo ?_
 apply wn; iterate 5 exact rfl
 refine p_ia rfl rfl (show 0 < b.length by omega)
 apply wm; iterate 5 exact rfl
 refine m_ldN (j := 0) rfl hA.1 hA.2 rfl (byte_at (b := b) (p := 0) (by omega))
 apply wm; iterate 5 exact rfl
 refine m_convI (n := bAt b 0) rfl (by omega)
 refine wo ?_
 by_cases g1 : bAt b 0 < 128
 ·rw [if_pos g1]
  apply wm; iterate 5 exact rfl
  refine mv_int (v := .b true) rfl rfl (vi_lssT (by omega))
  refine wo ?_
  exact w_ret (wend_ret (vres4 (rv_tmp rfl) (rv_tmp rfl) (rv_tmp rfl) (rv_tmp rfl)) rfl)
 rw [if_neg g1]
 apply wm; iterate 5 exact rfl
 refine mv_int (v := .b false) rfl rfl (vi_lssF (by omega))
 refine wo ?_
 apply wm; iterate 5 exact rfl
 refine m_geqD (p := 192 ≤ bAt b 0) rfl rfl (by omega)
 refine wo ?_
 apply wm; iterate 5 exact rfl
 refine m_remN rfl rfl (by decide)
 refine wo ?_
 have hmod : bAt b 0 % 64 < 64 := Nat.mod_lt _ (by decide)
 by_cases g2 : bAt b 0 % 64 < 56
 ·rw [if_pos g2]
  apply wm; iterate 5 exact rfl
  refine mv_int (v := .b true) rfl rfl (vi_lssT (by omega))
  refine wo ?_
  apply wm; iterate 5 exact rfl
  refine m_leqD (p := 1 + bAt b 0 % 64 ≤ b.length) rfl rfl (by omega)
  refine wo ?_
  exact w_ret (wend_ret (vres4 (rv_tmp rfl) (rv_tmp rfl) (rv_tmp rfl) (rv_tmp rfl)) rfl)
 rw [if_neg g2]
 apply wm; iterate 5 exact rfl
 refine mv_int (v := .b false) rfl rfl (vi_lssF (by omega))
 refine wo ?_
 generalize hk : bAt b 0 % 64 - 55 = k
 have hk9 : k ≤ 8 := by omega
 refine wo ?_
 iterate 4 ((try refine w_seq ?_); refine wo ?_)
 refine w_loop (ι := Nat × Nat) (fun s => [(10, .i .i64 (s.1 : Nat)), (9, .i .i64 (s.2 : Nat)), (8, .i .i64 (k : Nat)), (7, .b (decide (192 ≤ bAt b 0))), (0, .sl (some (ba, oa)) b.length c o)]) (fun s => []) (fun s => 1 ≤ s.1 ∧ s.1 ≤ k + 1 ∧ s.2 ≤ 268435711 ∧ numL b k 1 0 = numL b (k + 1 - s.1) s.1 s.2) (fun s => k + 1 - s.1) (1, 0) ⟨Nat.le_refl _, Nat.le_add_left _ _, Nat.zero_le _, rfl⟩ ⟨rfl, rfl, rfl, rfl, rfl, trivial⟩ (fun hp h => h) ?_
 intro ⟨i, n⟩ ⟨hi1, hi, hn, hnum⟩
 dsimp only at hi1 hi hn hnum ⊢
 refine wo ?_
 by_cases g : i ≤ k
 ·have hst : k + 1 - i = (k - i) + 1 := by omega
  rw [hst, numL] at hnum
  apply wm; iterate 5 exact rfl
  refine mv_int (v := .b true) rfl rfl (vi_leqT (by omega))
  refine wo ?_
  by_cases g3 : b.length ≤ i
  ·rw [if_pos (.inl g3)] at hnum
   rw [hnum]
   apply wm; iterate 5 exact rfl
   refine mv_int (v := .b true) rfl rfl (vi_geqT (by omega))
   refine wo ?_
   exact w_ret (wend_ret (vres4 (rv_tmp rfl) (rv_tmp rfl) (rv_tmp rfl) (rv_tmp rfl)) rfl)
  apply wm; iterate 5 exact rfl
  refine mv_int (v := .b false) rfl rfl (vi_geqF (by omega))
  refine wo ?_
  by_cases g4 : 1048576 < n
  ·rw [if_pos (.inr g4)] at hnum
   rw [hnum]
   apply wmg; iterate 7 exact rfl
   refine mv_int (v := .b true) rfl rfl (vi_gtrT (by omega))
   refine wo ?_
   exact w_ret (wend_ret (vres4 (rv_tmp rfl) (rv_tmp rfl) (rv_tmp rfl) (rv_tmp rfl)) rfl)
  rw [if_neg (by omega)] at hnum
  have hbi := bAt_lt b i
  apply wmg; iterate 7 exact rfl
  refine mv_int (v := .b false) rfl rfl (vi_gtrF (by omega))
  refine wo ?_
  apply wn; iterate 5 exact rfl
  refine p_ia rfl rfl (show i < b.length by omega)
  apply wm; iterate 5 exact rfl
  refine m_ldN (j := i) rfl hA.1 hA.2 rfl (byte_at (b := b) (p := i) (by omega))
  apply wm; iterate 5 exact rfl
  refine m_convI (n := bAt b i) rfl (by omega)
  refine wo ?_
  exact ⟨rfl, (i + 1, 256 * n + bAt b i), ⟨by omega, by omega, by dsimp only; omega, by dsimp only; rw [hnum, show k + 1 - (i + 1) = k - i by omega]⟩, by dsimp only; omega, ⟨rfl, rfl, rfl, rfl, rfl, trivial⟩, fun hp h => h⟩
 apply wm; iterate 5 exact rfl
 refine mv_int (v := .b false) rfl rfl (vi_leqF (by omega))
 refine wo ?_
 refine w_exit ?_
 obtain rfl : i = k + 1 := by omega
 rw [Nat.sub_self, numL] at hnum
 rw [hnum]
 refine wo ?_
 apply wm; iterate 5 exact rfl
 refine m_leqD (p := 1 + k + n ≤ b.length) rfl rfl (by omega)
 refine wo ?_
 exact w_ret (wend_ret (vres4 (rv_tmp rfl) (rv_tmp rfl) (rv_tmp rfl) (rv_tmp rfl)) rfl)
theorem RBe.of {B : Bs} {A : Option (Nat × Nat)} {cs : List V} (h : RB B A cs) : RBe B A cs := .inl h
set_option maxHeartbeats 16000000 in
theorem rcont_d {A : Option (Nat × Nat)} {p : List UInt8} {c : Nat} {o : Bool} {hp : Hp} (ho : OkH hp) (hA : RB ⟨hp, []⟩ A (p.map byV)) (hc : p.length ≤ c) (hw : OneF p) (hl : p.length ≤ 140737488355328) :
  Fn kxD 62 [.sl A p.length c o] hp [] fun r N => ∃ u, r = .v u ∧ ∃ w, u = .tup [w, .b (contL p).2] ∧ RowK (contL p).1 w N := by
 obtain ⟨h1, h2⟩ := hw
 obtain ⟨i1, i2, i3, i4⟩ := part_in h1
 obtain ⟨ba, oa, rfl⟩ := rb_spot hA (by omega)
 have hpl : (p.map byV).length = p.length := List.length_map _
 have hpv : partV7 (partS p) = .tup [.b (partS p).il, .i .i64 ((partS p).f : Nat), .i .i64 (p.length : Nat), .b true] := by unfold partV7; rw [h1, h2]
 have hpt : ∀ {hp' : Hp}, OkH hp' → RB ⟨hp', []⟩ (some (ba, oa)) (p.map byV) → Fn kxD 68 [.sl (some (ba, oa)) p.length c o] hp' [] fun r _ => r = .v (.tup [.b (partS p).il, .i .i64 ((partS p).f : Nat), .i .i64 (p.length : Nat), .b true]) := fun ho hA => by
  have := rpart_d (c := c) (o := o) ho (.inl hA) hl
  rw [hpv] at this
  exact this
 have hco : contL p = ((p.drop (partS p).f).take (p.length - (partS p).f), !(partS p).il) := by
  unfold contL
  rw [h1, h2, Bool.true_and]
 rw [hco]
 have hf : (partS p).f ≤ p.length := by omega
 clear hpv hco i1 i2 i3 i4 h1 h2
 generalize (partS p).f = f at *
 generalize (partS p).il = il at *
 have hlen : ((p.drop f).take (p.length - f)).length = p.length - f := by rw [List.length_take, List.length_drop]; omega
 have hcell : (((p.map byV).drop f).take (p.length - f)) = ((p.drop f).take (p.length - f)).map byV := by rw [List.map_take, List.map_drop]
 refine Fn.dropC ?_
 refine fn_of_w (T := []) ho.sv (fun _ => rfl) (fn := Try.f62) (by kernel_rfl) rfl rfl ?_
 refine wo ?_
 refine p_callq (vwant_n rfl) rfl rfl rfl rfl (fun hp' hs => hpt hs.ok (hA.give0 hs)) ?_
 refine wo ?_
 apply p_op; exact (vwant_n rfl); iterate 4 exact rfl
 refine e_bs (C := []) rfl rfl .nil rfl fun bn => ⟨_, rfl, ?_⟩
 refine wo ?_
 rcases Nat.eq_zero_or_pos f with h0 | h0
 ·subst h0
  refine zX (m_sl0 (j := p.length) rfl (bl_some rfl) (bl_some rfl) hc) ?_
  apply p_op; exact (vwant_n rfl); iterate 4 exact rfl
  refine e_lit (new := p.map byV) rfl rfl hA.z hpl u8_one (by omega) fun b1 o1 oo h1 => ⟨_, rfl, ?_⟩
  have e0 : (p.drop 0).take (p.length - 0) = p := by rw [List.drop_zero, Nat.sub_zero]; exact List.take_of_length_le (Nat.le_refl _)
  rw [e0]
  cases il with
  | false =>
   refine wo ?_
   exact w_ret (wend_ret (vres2 (rv_tmp rfl) (rv_tmp rfl)) ⟨[_], cle, _, rfl, _, rfl, .own h1⟩)
  | true =>
   refine wo ?_
   exact w_ret (wend_ret (vres2 (rv_tmp rfl) (rv_tmp rfl)) ⟨[_], cle, _, rfl, _, rfl, .own h1⟩)
 ·apply p_op; exact (vwant_n rfl); iterate 4 exact rfl
  refine e_slH (i := f) (j := p.length) rfl (bl_some rfl) (bl_some rfl) h0 hf (Nat.le_refl _) hc hA hpl fun a' c' hr hcc => ⟨_, rfl, ?_⟩
  have hz : ∀ {L : HV}, RZ ⟨hp, []⟩ L (some a') (((p.drop f).take (p.length - f)).map byV) := fun {L} => by
   rw [← hcell]
   rcases hr with hr | hr
   ·exact hr.z
   ·have : ((p.map byV).drop f).take (p.length - f) = [] := by rw [← hr, Nat.sub_self, List.take_zero]
    rw [this]
    exact rz_emp
  apply p_op; exact (vwant_n rfl); iterate 4 exact rfl
  refine e_lit (new := ((p.drop f).take (p.length - f)).map byV) rfl rfl hz (by rw [List.length_map, hlen]) u8_one (by omega) fun b1 o1 oo h1 => ⟨_, rfl, ?_⟩
  have hrow : RowK ((p.drop f).take (p.length - f)) (.sl (some (b1, 0)) (p.length - f) (p.length - f) o1) [(some b1, .cells (((p.drop f).take (p.length - f)).map byV) 5 oo false)] := by
   have := RowU.own (e := 5) (xs := (p.drop f).take (p.length - f)) (b := b1) h1
   rw [hlen] at this
   exact this
  cases il with
  | false =>
   refine wo ?_
   exact w_ret (wend_ret (vres2 (rv_tmp rfl) (rv_tmp rfl)) ⟨_, cle, _, rfl, _, rfl, hrow⟩)
  | true =>
   refine wo ?_
   exact w_ret (wend_ret (vres2 (rv_tmp rfl) (rv_tmp rfl)) ⟨_, cle, _, rfl, _, rfl, hrow⟩)
/- Nr5: the document's refOf, unpacked and parts. By this project. -/
theorem copy_hash (s : List UInt8) : overV (zH32.map byV) 0 ((s.map byV).take (min s.length 32)) = (hashL s).map byV := by
 have hz : zH32.length = 32 := rfl
 have hd : ∀ k, k ≤ 32 → zH32.drop k = zH32.take (32 - k) := fun k hk => by
  unfold zH32
  rw [List.drop_replicate, List.take_replicate]
  congr 1
  omega
 unfold overV hashL
 rw [List.take_zero, List.nil_append, Nat.zero_add, List.length_take, List.length_map, ← List.map_take, ← List.map_drop, ← List.map_append]
 congr 1
 rw [List.take_append]
 by_cases g : s.length ≤ 32
 ·rw [List.take_of_length_le (by omega), List.take_of_length_le (by omega), hd _ (by omega)]
  congr 2
  omega
 ·rw [show min s.length 32 = 32 by omega, show min 32 s.length = 32 by omega, hd _ (by omega)]
  congr 2
  omega
set_option maxHeartbeats 16000000 in
theorem rrefof_d {A : Option (Nat × Nat)} {p : List UInt8} {c : Nat} {o : Bool} {hp : Hp} (ho : OkH hp) (hA : RB ⟨hp, []⟩ A (p.map byV)) (hc : p.length ≤ c) (hw : OneF p) (hl : p.length ≤ 140737488355328) :
  Fn kxD 61 [.sl A p.length c o] hp [] fun q N => ∃ u, q = .v u ∧ ∃ w, u = .tup [.agg w, .b (refL p).2] ∧ RefP (snP N) (refL p).1 w := by
 have hpl : (p.map byV).length = p.length := List.length_map _
 have hcl : (contL p).1.length ≤ p.length := by
  unfold contL
  rw [List.length_take, List.length_drop]
  omega
 refine Fn.dropC ?_
 unfold refL
 refine fn_of_w (T := []) ho.sv (fun _ => rfl) (fn := Try.f61) (by kernel_rfl) rfl rfl ?_
 refine wo ?_
 apply p_op; exact (vwant_n rfl); iterate 4 exact rfl
 refine e_alloc (zc := zFC) rfl fun b2 => ⟨_, rfl, ?_⟩
 refine wo ?_
 apply p_callY []; exact (vwant_n rfl); iterate 4 exact rfl
 case hC => exact (fun hp' hs ht => rcont_d hs.ok (hA.give0 hs) hc hw hl)
 rintro u N ⟨s0, rfl, hs0⟩
 generalize (contL p).1 = s at *
 obtain ⟨A1, o1, rfl⟩ := hs0.sl
 cases hq : (contL p).2 with
 | false =>
  rw [if_pos rfl]
  refine wo ?_
  apply p_op; exact (vwant_n rfl); iterate 4 exact rfl
  refine e_bs (C := []) rfl rfl .nil rfl fun bn => ⟨_, rfl, ?_⟩
  refine wo ?_
  apply p_op; exact (vwant_n rfl); iterate 4 exact rfl
  refine e_lit (new := p.map byV) rfl rfl hA.z hpl u8_one (by omega) fun b1 o2 oo h1 => ⟨_, rfl, ?_⟩
  apply wn; iterate 5 exact rfl
  refine p_buildS (C := refC ⟨2, zH32, p⟩ (.sl (some (b1, 0)) p.length p.length o2)) (.cons rfl rfl rfl rfl (Nat.le_of_ble_eq_true rfl) (.cons rfl rfl rfl rfl (Nat.le_of_ble_eq_true rfl) .nil)) rfl
  refine wo ?_
  apply wm; iterate 5 exact rfl
  refine m_lssD (p := p.length < 32) rfl rfl (by omega)
  refine wo ?_
  apply p_do; exact (vwant_n rfl); exact rfl; exact rfl
  refine e_stn (C' := refC ⟨2, zH32, p⟩ (.sl (some (b1, 0)) p.length p.length o2)) rfl rfl (by simp) rfl (Nat.le_of_ble_eq_true rfl) rfl ⟨_, rfl, ?_⟩
  refine wo ?_
  exact w_ret (wend_ret (vres2 (rv_cell rfl rfl) (rv_tmp rfl)) ⟨[(some b1, .cells (p.map byV) 5 oo false)], cle, _, rfl, _, rfl, rfl, some (b1, 0), _, o2, rfl, Sn.own (List.mem_singleton.2 rfl) (by rw [List.drop_zero]; exact List.take_of_length_le (Nat.le_refl _)), Nat.le_refl _⟩)
 | true =>
  rw [if_neg (by simp)]
  refine wo ?_
  by_cases g0 : s.length = 0
  ·rw [if_pos g0]
   apply wm; iterate 5 exact rfl
   refine mv_int (v := .b true) rfl rfl (vi_eqlT (by omega))
   refine wo ?_
   apply wn; iterate 5 exact rfl
   refine p_buildS (C := zFC) .nil (by rfl)
   apply p_do; exact (vwant_n rfl); exact rfl; exact rfl
   refine e_stn (C' := zFC) rfl rfl (ne_of_len zFC_len (by decide)) zFC_len (Nat.le_of_eq zFC_len.symm) rfl ⟨_, rfl, ?_⟩
   refine wo ?_
   exact w_ret (wend_ret (vres2 (rv_cell rfl rfl) (rv_tmp rfl)) ⟨[], cle, _, rfl, _, rfl, zFC_p _ Sn.nil⟩)
  rw [if_neg g0]
  have hh := hashL_len s
  have h32 : ((hashL s).map byV).length = 32 := by rw [List.length_map, hh]
  have hsl : (s.map byV).length = s.length := List.length_map _
  apply wm; iterate 5 exact rfl
  refine mv_int (v := .b false) rfl rfl (vi_eqlF (by omega))
  refine wo ?_
  apply p_op; exact (vwant_n rfl); iterate 4 exact rfl
  refine e_alloc (zc := zH32.map byV) rfl fun b6 => ⟨_, rfl, ?_⟩
  refine wo ?_
  refine zX (m_slaw rfl) ?_
  refine wo ?_
  apply p_op; exact (vwant_n rfl); iterate 4 exact rfl
  refine e_copy (C := zH32.map byV) (new := s.map byV) (vs := (s.map byV).take (min s.length 32)) (C' := (hashL s).map byV) rfl rfl hs0.src hsl rfl (by
   intro e
   have := congrArg List.length e
   rw [List.length_take, hsl, List.length_nil] at this
   omega) (by
   rw [List.length_take, hsl]
   have : (zH32.map byV).length = 32 := rfl
   omega) (copy_hash s) ⟨_, rfl, ?_⟩
  refine wo ?_
  refine zX (m_ldln (s := 31) (cs := (hashL s).map byV) rfl (all_take _ h32) h32) ?_
  apply wn; iterate 5 exact rfl
  refine p_buildS (C := refC ⟨1, hashL s, []⟩ (.sl none 0 0 false)) (.cons rfl rfl rfl rfl (Nat.le_of_ble_eq_true rfl) (.cons rfl rfl rfl h32 (Nat.le_of_ble_eq_true rfl) .nil)) (ref_put h32)
  refine wo ?_
  apply wm; iterate 5 exact rfl
  refine m_eqlD (p := s.length = 32) rfl rfl (by omega)
  refine wo ?_
  apply p_do; exact (vwant_n rfl); exact rfl; exact rfl
  refine e_stn (C' := refC ⟨1, hashL s, []⟩ (.sl none 0 0 false)) rfl rfl (by simp) (refC_len hh) (Nat.le_of_eq zFC_len.symm) (overV_all ((refC_len hh).trans zFC_len.symm)) ⟨_, rfl, ?_⟩
  refine wo ?_
  exact w_ret (wend_ret (vres2 (rv_cell rfl (refC_len hh)) (rv_tmp rfl)) ⟨[], cle, _, rfl, _, rfl, hh, none, 0, false, rfl, Sn.nil, Nat.le_refl _⟩)
set_option maxHeartbeats 16000000 in
theorem runp_d {A : Option (Nat × Nat)} {s : List UInt8} {c : Nat} {o : Bool} {hp : Hp} (ho : OkH hp) (hA : RB ⟨hp, []⟩ A (s.map byV)) (hl : s.length ≤ 1073741824) :
  Fn kxD 63 [.sl A s.length c o] hp [] fun q N => ∃ u, q = .v u ∧ ∃ A' c' o', u = .tup [.sl A' (unpL s).1.length c' o', .b (unpL s).2] ∧ (Sn N A' ((unpL s).1.map byV) ∨ (unpL s).1 = []) ∧ (unpL s).1.length ≤ c' := by
 refine Fn.dropC ?_
 refine fn_of_w (T := []) ho.sv (fun _ => rfl) (fn := Try.f63) (by kernel_rfl) rfl rfl ?_
 refine wo ?_
 iterate 4 ((try refine w_seq ?_); refine wo ?_)
 refine w_loop (ι := Nat × V × HV) (fun s' => [(5, .i .i64 (s'.1 : Nat)), (4, s'.2.1), (0, .sl A s.length c o)]) (fun s' => s'.2.2) (fun s' => s'.1 ≤ s.length ∧ RowK (nibB (s.take s'.1)) s'.2.1 s'.2.2) (fun s' => s.length - s'.1) (0, .sl none 0 0 false, []) ⟨Nat.zero_le _, .nil⟩ ⟨rfl, rfl, rfl, trivial⟩ (fun hp h => h) ?_
 intro ⟨i, u, N⟩ ⟨hi, hu⟩
 dsimp only at hi hu ⊢
 obtain ⟨A0, op0, rfl⟩ := hu.sl
 have hnl : (nibB (s.take i)).length ≤ 2147483648 := by rw [nibB_len, List.length_take]; omega
 refine wo ?_
 by_cases g : i < s.length
 ·obtain ⟨ba, oa, rfl⟩ := rb_spot hA (by omega)
  apply wm; iterate 5 exact rfl
  refine mv_int (v := .b true) rfl rfl (vi_lssT (by omega))
  refine wo ?_
  apply dn; iterate 5 exact rfl
  refine p_ia rfl rfl g
  apply dm; iterate 6 exact rfl
  refine m_ldN (j := i) rfl hA.1 hA.2 rfl (row_byte g)
  apply dm; iterate 6 exact rfl
  refine m_quoB (y := 16) rfl rfl (by decide)
  refine wo ?_
  apply dn; iterate 5 exact rfl
  refine p_ia rfl rfl g
  apply dm; iterate 6 exact rfl
  refine m_ldN (j := i) rfl hA.1 hA.2 rfl (row_byte g)
  apply dm; iterate 6 exact rfl
  refine m_remB (y := 16) rfl rfl (by decide)
  apply d_op; exact (vwant_n rfl); exact rfl; exact noRd rfl; decide +kernel; (iterate 3 exact rfl); rotate_left
  refine e_bs (C := [byV (UInt8.ofNat (s[i].toNat / 16)), byV (UInt8.ofNat (s[i].toNat % 16))]) rfl rfl (.cons rfl rfl (.cons rfl rfl .nil)) rfl fun b2 => ⟨_, rfl, ?_⟩
  try (case hok => exact rdOk_nil)
  apply d_op; exact (vwant_n rfl); exact rfl; exact noRd rfl; decide +kernel; (iterate 3 exact rfl); rotate_left
  refine e_appW (ys := [UInt8.ofNat (s[i].toNat / 16), UInt8.ofNat (s[i].toNat % 16)]) hu rfl rfl (rz_loc (k := 2) rfl) rfl u8_one (by omega) fun A' m' op' N' hu' hm' => ⟨_, rfl, ?_⟩
  try (case hok => exact rdOk_b (by decide +kernel))
  refine wo ?_
  refine ⟨rfl, (i + 1, _, N'), ⟨g, ?_⟩, by dsimp only; omega, ⟨rfl, rfl, rfl, trivial⟩, fun hp h => h.le⟩
  dsimp only
  rw [List.take_succ_eq_append_getElem g, nibB_snoc]
  exact hu'
 apply wm; iterate 5 exact rfl
 refine mv_int (v := .b false) rfl rfl (vi_lssF (by omega))
 refine wo ?_
 refine w_exit ?_
 obtain rfl : i = s.length := by omega
 rw [List.take_length] at hu hnl ⊢
 have hnl2 := nibB_len s
 refine wo ?_
 by_cases g0 : s.length = 0
 ·have e : unpL s = ([], false) := by unfold unpL; rw [if_pos g0]
  rw [e]
  apply wm; iterate 5 exact rfl
  refine mv_int (v := .b true) rfl rfl (vi_eqlT (by omega))
  refine wo ?_
  exact w_ret (wend_ret (vres2 (rv_tmp rfl) (rv_tmp rfl)) ⟨[], cle, _, rfl, none, 0, false, rfl, .inr rfl, Nat.le_refl _⟩)
 have e : unpL s = ((nibB s).drop (if bAt s 0 / 16 % 2 = 1 then 1 else 2), decide (2 ≤ bAt s 0 / 16)) := by unfold unpL; rw [if_neg g0]
 rw [e]
 have hb0 := bAt_lt s 0
 have hn0 : (nibB s)[0]? = some (UInt8.ofNat (bAt s 0 / 16)) := by
  match s, g0 with
  | x :: r, _ => rfl
 have hd : (nibB s)[0]? = some (UInt8.ofNat (bAt s 0 / 16)) → ((nibB s).map byV)[0 + 0]? = some (byV (UInt8.ofNat (bAt s 0 / 16))) := fun h => by rw [Nat.zero_add, List.getElem?_map, h]; rfl
 have hcell := hd hn0
 have hv16 : (UInt8.ofNat (bAt s 0 / 16)).toNat = bAt s 0 / 16 := by rw [UInt8.toNat_ofNat']; omega
 obtain ⟨bq, oq, oo, e9, hN⟩ := hu.got (by omega)
 simp only [V.sl.injEq, true_and] at e9
 obtain ⟨rfl, rfl⟩ := e9
 have hu2 := hu
 subst hN
 generalize bAt s 0 / 16 = f at *
 generalize hys : nibB s = ys at *
 apply wm; iterate 5 exact rfl
 refine mv_int (v := .b false) rfl rfl (vi_eqlF (by omega))
 refine wo ?_
 apply wn; iterate 5 exact rfl
 refine p_ia (i := 0) rfl rfl (by omega)
 refine zX (m_ldl rfl hcell) ?_
 apply wm; iterate 5 exact rfl
 refine m_geqD (p := 2 ≤ f) rfl rfl (by rw [hv16]; show 2 ≤ f ↔ (2 : Int) ≤ ((f : Nat) : Int); omega)
 refine wo ?_
 apply wn; iterate 5 exact rfl
 refine p_ia (i := 0) rfl rfl (by omega)
 refine zX (m_ldl rfl hcell) ?_
 apply wm; iterate 5 exact rfl
 refine m_remB (y := 2) rfl rfl (by decide)
 rw [hv16]
 have hv2 : (UInt8.ofNat (f % (2 : UInt8).toNat)).toNat = f % 2 := by rw [UInt8.toNat_ofNat']; show f % 2 % 256 = f % 2; omega
 by_cases g1 : f % 2 = 1
 ·rw [if_pos g1]
  apply wm; iterate 5 exact rfl
  refine mv_int (v := .b true) rfl rfl (vi_eqlT ((by rw [hv2, g1]; rfl)))
  refine wo ?_
  apply p_op; exact (vwant_n rfl); iterate 4 exact rfl
  refine e_slU (i := 1) hu2 rfl (bl_some rfl) bl_none (by decide) (by omega) fun A' c' hsn hcc => ⟨_, rfl, ?_⟩
  refine wo ?_
  exact w_ret (wend_ret (vres2 (rv_tmp rfl) (rv_tmp rfl)) ⟨_, cle, _, rfl, A', c', _, by rw [List.length_drop], hsn, by rw [List.length_drop]; exact hcc⟩)
 ·rw [if_neg g1]
  apply wm; iterate 5 exact rfl
  refine mv_int (v := .b false) rfl rfl (vi_eqlF ((by rw [hv2]; show ¬ ((f % 2 : Nat) : Int) = 1; omega)))
  refine wo ?_
  apply p_op; exact (vwant_n rfl); iterate 4 exact rfl
  refine e_slU (i := 2) hu2 rfl (bl_some rfl) bl_none (by decide) (by omega) fun A' c' hsn hcc => ⟨_, rfl, ?_⟩
  refine wo ?_
  exact w_ret (wend_ret (vres2 (rv_tmp rfl) (rv_tmp rfl)) ⟨_, cle, _, rfl, A', c', _, by rw [List.length_drop], hsn, by rw [List.length_drop]; exact hcc⟩)
def PartsR (B : Bs) : List (List UInt8) → List V → Prop
 | [], us => us = []
 | p :: l, us => ∃ A c o r, us = .sl A p.length c o :: r ∧ RB B A (p.map byV) ∧ p.length ≤ c ∧ PartsR B l r
theorem partsR_at {B : Bs} : ∀ {l : List (List UInt8)} {us : List V} {i : Nat} {p : List UInt8}, PartsR B l us → l[i]? = some p → ∃ A c o, us[i]? = some (.sl A p.length c o) ∧ RB B A (p.map byV) ∧ p.length ≤ c
 | [], _, _, _, _, h => by simp at h
 | q :: l, us, 0, p, h, hi => by
  obtain ⟨A, c, o, r, rfl, h1, h2, _⟩ := h
  simp only [List.getElem?_cons_zero, Option.some.injEq] at hi
  subst hi
  exact ⟨A, c, o, rfl, h1, h2⟩
 | q :: l, us, i + 1, p, h, hi => by
  obtain ⟨A, c, o, r, rfl, _, _, h3⟩ := h
  have := partsR_at (i := i) (p := p) h3 (by simpa using hi)
  simpa using this
theorem partsR_len {B : Bs} : ∀ {l : List (List UInt8)} {us : List V}, PartsR B l us → us.length = l.length
 | [], us, h => by rw [PartsR] at h; subst h; rfl
 | q :: l, us, h => by
  obtain ⟨A, c, o, r, rfl, _, _, h3⟩ := h
  rw [List.length_cons, List.length_cons, partsR_len h3]
def PartsO (ba oa : Nat) (b : List UInt8) : List (List UInt8) → List V → Prop
 | [], us => us = []
 | p :: l, us => ∃ i c o r, us = .sl (some (ba, oa + i)) p.length c o :: r ∧ (b.drop i).take p.length = p ∧ p.length ≤ c ∧ PartsO ba oa b l r
theorem partsO_snoc {ba oa i c : Nat} {b p : List UInt8} {o : Bool} (h : (b.drop i).take p.length = p) (hc : p.length ≤ c) : ∀ {l : List (List UInt8)} {us : List V}, PartsO ba oa b l us → PartsO ba oa b (l ++ [p]) (us ++ [.sl (some (ba, oa + i)) p.length c o])
 | [], us, k => by
  rw [PartsO] at k
  subst k
  exact ⟨i, c, o, [], rfl, h, hc, rfl⟩
 | q :: l, us, k => by
  obtain ⟨i', c', o', r, rfl, h1, h2, h3⟩ := k
  exact ⟨i', c', o', _, rfl, h1, h2, partsO_snoc h hc h3⟩
theorem partsO_r {B : Bs} {ba oa : Nat} {b : List UInt8} (h : RB B (some (ba, oa)) (b.map byV)) : ∀ {l : List (List UInt8)} {us : List V}, PartsO ba oa b l us → PartsR B l us
 | [], us, k => k
 | p :: l, us, k => by
  obtain ⟨i, c, o, r, rfl, h1, h2, h3⟩ := k
  refine ⟨some (ba, oa + i), c, o, r, rfl, ?_, h2, partsO_r h h3⟩
  have := (h.drop i).take p.length
  rw [← List.map_drop, ← List.map_take, h1] at this
  exact this
set_option maxHeartbeats 32000000 in
theorem rparts_d {A : Option (Nat × Nat)} {b : List UInt8} {c : Nat} {o : Bool} {hp : Hp} (ho : OkH hp) (hA0 : RBe ⟨hp, []⟩ A (b.map byV)) (hc : b.length ≤ c) (hl : b.length ≤ 140737488355328) :
  Fn kxD 60 [.sl A b.length c o] hp [] fun q N => match partsS b with
   | none => ∃ u, q = .v u ∧ u = .tup [.sl none 0 0 false, .b false]
   | some l => ∃ u, q = .v u ∧ ∃ w us, u = .tup [w, .b true] ∧ RowG 22 (0 + 1) l.length us w N ∧ ∃ ba oa, A = some (ba, oa) ∧ PartsO ba oa b l us := by
 refine Fn.dropC ?_
 unfold partsS
 refine fn_of_w (T := []) ho.sv (fun _ => rfl) (fn := Try.f60) (by kernel_rfl) rfl rfl ?_
 refine wo ?_
 refine p_callq (vwant_n rfl) rfl rfl rfl rfl (fun hp' hs => rpart_d hs.ok (hA0.give0 hs) hl) ?_
 refine wo ?_
 cases h1 : (partS b).ok with
 | false =>
  rw [if_neg (by simp)]
  refine wo ?_
  exact w_ret (wend_ret (vres2 (rv_tmp rfl) (rv_tmp rfl)) ⟨[], cle, _, rfl, rfl⟩)
 | true =>
 obtain ⟨i1, i2, i3, i4⟩ := part_in h1
 refine wo ?_
 cases h2 : (partS b).il with
 | false =>
  rw [if_neg (by simp)]
  refine wo ?_
  exact w_ret (wend_ret (vres2 (rv_tmp rfl) (rv_tmp rfl)) ⟨[], cle, _, rfl, rfl⟩)
 | true =>
 refine wo ?_
 by_cases h3 : (partS b).to = b.length
 rotate_left
 ·rw [if_neg (fun h => h3 h.2.2)]
  apply wmg; iterate 7 exact rfl
  refine mv_int (v := .b true) rfl rfl (vi_neqT ((by omega)))
  refine wo ?_
  exact w_ret (wend_ret (vres2 (rv_tmp rfl) (rv_tmp rfl)) ⟨[], cle, _, rfl, rfl⟩)
 rw [if_pos ⟨rfl, rfl, h3⟩]
 have hA := hA0.ne (by omega)
 obtain ⟨ba, oa, rfl⟩ := rb_spot hA (by omega)
 apply wmg; iterate 7 exact rfl
 refine mv_int (v := .b false) rfl rfl (vi_neqF ((by omega)))
 rw [h3] at i1 i4 ⊢
 generalize (partS b).f = f at *
 obtain ⟨X, hX⟩ : ∃ X, X = partsL (b.length + 1) (b.drop f) := ⟨_, rfl⟩
 rw [← hX]
 refine wo ?_
 iterate 4 ((try refine w_seq ?_); refine wo ?_)
 refine w_loop (ι := Nat × List (List UInt8) × List V × V × HV) (fun s => [(8, s.2.2.2.1), (6, .i .i64 (b.length : Nat)), (5, .i .i64 (s.1 : Nat)), (0, .sl (some (ba, oa)) b.length c o)]) (fun s => s.2.2.2.2) (fun s => s.1 ≤ b.length ∧ s.2.1.length ≤ s.1 ∧ RowG 22 (0 + 1) s.2.1.length s.2.2.1 s.2.2.2.1 s.2.2.2.2 ∧ PartsO ba oa b s.2.1 s.2.2.1 ∧ ∃ k, b.length - s.1 < k ∧ X = (partsL k (b.drop s.1)).map (s.2.1 ++ ·)) (fun s => b.length - s.1) (f, [], [], .sl none 0 0 false, []) ⟨i1, Nat.zero_le _, .nil, rfl, b.length + 1, by omega, by rw [hX]; simp⟩ ⟨rfl, rfl, rfl, rfl, trivial⟩ (fun hp h => h) ?_
 intro ⟨i, acc, us, u, N⟩ ⟨hi, hai, hu, hps, k, hk, hpl⟩
 dsimp only at hi hai hu hps hk hpl ⊢
 obtain ⟨A8, o8, rfl⟩ := hu.sl
 obtain ⟨k', rfl⟩ : ∃ k', k = k' + 1 := ⟨k - 1, by omega⟩
 rw [partsL, List.length_drop] at hpl
 refine wo ?_
 by_cases g : i < b.length
 ·rw [if_neg (show ¬ b.length - i = 0 by omega)] at hpl
  have hxl : (b.drop i).length = b.length - i := List.length_drop
  have hRd : RB ⟨hp, []⟩ (some (ba, oa + i)) ((b.drop i).map byV) := by
   have := hA.drop i
   rw [← List.map_drop] at this
   exact this
  have hpt : ∀ {hp' : Hp} {L : HV}, SV ⟨hp, []⟩ hp' L → Fn kxD 68 [.sl (some (ba, oa + i)) (b.length - i) (c - i) o] hp' [] fun r _ => r = .v (partV7 (partS (b.drop i))) := fun hs => by
   have := rpart_d (c := c - i) (o := o) hs.ok (.inl (hRd.give0 hs)) (by omega)
   rw [hxl] at this
   exact this
  apply wm; iterate 5 exact rfl
  refine mv_int (v := .b true) rfl rfl (vi_lssT (by omega))
  refine wo ?_
  refine zX (m_slD (i := i) (j := b.length) rfl (bl_some rfl) (bl_some rfl) (by omega) hc (by omega)) ?_
  refine p_callq (vwant_n rfl) rfl rfl rfl rfl (fun hp' hs => hpt hs) ?_
  refine wo ?_
  cases h9 : (partS (b.drop i)).ok with
  | false =>
   rw [if_neg (by rw [h9]; simp)] at hpl
   refine wo ?_
   exact w_ret (wend_ret (vres2 (rv_tmp rfl) (rv_tmp rfl)) ⟨[], cle, by rw [hpl]; exact ⟨_, rfl, rfl⟩⟩)
  | true =>
   rw [if_pos h9] at hpl
   obtain ⟨j1, j2, j3, j4⟩ := part_in h9
   rw [hxl] at j3
   generalize (partS (b.drop i)).to = n at *
   have htl : ((b.drop i).take n).length = n := by rw [List.length_take, hxl]; omega
   refine wo ?_
   refine zX (m_slD (i := i) (j := i + n) rfl (bl_some rfl) (bl_some rfl) (by omega) (by omega) (by omega)) ?_
   rw [Nat.add_sub_cancel_left]
   apply p_op; exact (vwant_n rfl); iterate 4 exact rfl
   refine e_bs (C := [.sl (some (ba, oa + i)) n (c - i) o]) rfl rfl (.cons rfl rfl .nil) rfl fun b1 => ⟨_, rfl, ?_⟩
   apply p_op; exact (vwant_n rfl); iterate 4 exact rfl
   refine e_appN (n := 1) hu rfl rfl (rz_loc (k := 1) rfl) rfl (by decide) (by omega) fun A3 o3 N3 hw3 => ⟨_, rfl, ?_⟩
   refine wo ?_
   refine ⟨rfl, (i + n, acc ++ [(b.drop i).take n], us ++ [.sl (some (ba, oa + i)) n (c - i) o], _, N3), ⟨by omega, by rw [List.length_append]; show acc.length + 1 ≤ i + n; omega, ?_, ?_, k', by dsimp only; omega, ?_⟩, by dsimp only; omega, ⟨rfl, rfl, rfl, rfl, trivial⟩, fun hp h => h.le⟩
   ·dsimp only
    rw [List.length_append]
    exact hw3
   ·have := partsO_snoc (ba := ba) (oa := oa) (i := i) (o := o) (c := c - i) (b := b) (p := (b.drop i).take n) (by rw [htl]) (by omega) hps
    rw [htl] at this
    exact this
   ·dsimp only
    rw [hpl, List.drop_drop, Option.map_map]
    congr 1
    funext x
    simp
 apply wm; iterate 5 exact rfl
 refine mv_int (v := .b false) rfl rfl (vi_lssF (by omega))
 refine wo ?_
 refine w_exit ?_
 rw [if_pos (show b.length - i = 0 by omega), Option.map_some, List.append_nil] at hpl
 refine wo ?_
 exact w_ret (wend_ret (vres2 (rv_tmp rfl) (rv_tmp rfl)) ⟨N, cle, by rw [hpl]; exact ⟨_, rfl, _, us, rfl, hu, ba, oa, rfl, hps⟩⟩)
/- Nh1: Hashes of node, by the program. By this project. -/
section
variable {K : Kx} {hp0 : Bs} {l : VL} {L : HV}
end
abbrev hsC (hs : List (List UInt8)) : List V := hs.flatMap fun h => h.map byV
structure RowH (hs : List (List UInt8)) (u : V) (N : HV) : Prop where
 row : RowG 24 32 hs.length (hsC hs) u N
 nil : hs = [] → u = .sl none 0 0 false
theorem RowH.zero : RowH [] (.sl none 0 0 false) [] := ⟨.nil, fun _ => rfl⟩
/- Nr6: the document's loose reading, Decode and Hashes. By this project. -/
theorem part_f1 {b : List UInt8} (h : (partS b).il = true) : 1 ≤ (partS b).f := by
 unfold partS at h ⊢
 split at h
 ·simp at h
 ·rename_i g0
  rw [if_neg g0]
  split at h
  ·simp at h
  ·rename_i g1
   rw [if_neg g1]
   split at h
   ·rename_i g2
    rw [if_pos g2]
    exact Nat.le_refl _
   ·rename_i g2
    rw [if_neg g2]
    split at h
    ·simp at h
    ·exact Nat.le_add_right _ _
theorem partsS_whole {b : List UInt8} {l : List (List UInt8)} (h : partsS b = some l) : b.length ≤ 268435800 ∧ ∀ p ∈ l, OneF p ∧ p.length < b.length := by
 unfold partsS at h
 split at h
 ·rename_i g
  obtain ⟨g1, g2, g3⟩ := g
  obtain ⟨i1, i2, i3, i4⟩ := part_in g1
  have hf := part_f1 g2
  refine ⟨by omega, fun p hp => ?_⟩
  obtain ⟨w1, w2⟩ := partsL_whole _ h p hp
  rw [List.length_drop] at w2
  exact ⟨w1, by omega⟩
 ·simp at h
theorem contL_le (p : List UInt8) : (contL p).1.length ≤ p.length := by
 unfold contL
 rw [List.length_take, List.length_drop]
 omega
theorem unpL_le (s : List UInt8) : (unpL s).1.length ≤ 2 * s.length := by
 unfold unpL
 split
 ·exact Nat.zero_le _
 ·rw [List.length_drop, nibB_len]
  omega
theorem getD_mem {l : List (List UInt8)} {i : Nat} (h : i < l.length) : l.getD i [] ∈ l := by
 rw [List.getD_eq_getElem?_getD, List.getElem?_eq_getElem h]
 exact List.getElem_mem h
theorem refL_n {p : List UInt8} (h : (refL p).1.k = 2) : (refL p).1.n = p ∧ (refL p).2 = decide (p.length < 32) := by
 unfold refL at h ⊢
 split
 ·exact ⟨rfl, rfl⟩
 ·rename_i g
  rw [if_neg g] at h
  split at h
  ·simp [zRef] at h
  ·simp at h
theorem loose_refs {b : List UInt8} {n : NodS} (h : looseS b = some n) : n.path.length ≤ 536871600 ∧ ∀ r, (r = n.next ∨ r ∈ n.kids) → r.k = 2 → r.n.length < b.length := by
 have hz : ∀ r ∈ List.replicate 16 zRef, r.k ≠ 2 := fun r hr => by rw [List.eq_of_mem_replicate hr, zRef_k]; decide
 unfold looseS at h
 split at h
 ·simp at h
 ·rename_i l hp
  obtain ⟨hb, hw⟩ := partsS_whole hp
  split at h
  ·rename_i h17
   split at h
   ·simp at h
   ·rename_i ks hks
    split at h
    ·obtain rfl := Option.some.inj h
     refine ⟨Nat.zero_le _, fun r hr hk => ?_⟩
     rcases hr with rfl | hr
     ·rw [zRef_k] at hk; simp at hk
     ·obtain ⟨p, hp1, rfl, _⟩ := (refsL_at hks).2 r hr
      rw [(refL_n hk).1]
      exact (hw p (List.mem_of_mem_take hp1)).2
    ·simp at h
  ·split at h
   ·simp at h
   ·rename_i h2
    have h2 : l.length = 2 := by omega
    have m0 := hw _ (getD_mem (l := l) (i := 0) (by omega))
    have m1 := hw _ (getD_mem (l := l) (i := 1) (by omega))
    have c0 := contL_le (l.getD 0 [])
    have u0 := unpL_le (contL (l.getD 0 [])).1
    split at h
    ·simp at h
    ·split at h
     ·split at h
      ·obtain rfl := Option.some.inj h
       refine ⟨by dsimp only; omega, fun r hr hk => ?_⟩
       rcases hr with rfl | hr
       ·rw [zRef_k] at hk; simp at hk
       ·exact absurd hk (hz r hr)
      ·simp at h
     ·split at h
      ·obtain rfl := Option.some.inj h
       refine ⟨by dsimp only; omega, fun r hr hk => ?_⟩
       rcases hr with rfl | hr
       ·dsimp only at hk ⊢
        rw [(refL_n hk).1]
        exact m1.2
       ·exact absurd hk (hz r hr)
      ·simp at h
theorem refsL_no : ∀ {l : List (List UInt8)} {p : List UInt8}, p ∈ l → (refL p).2 = false → refsL l = none
 | q :: l, p, h, k => by
  rw [refsL]
  rcases List.mem_cons.1 h with rfl | h
  ·rw [if_neg (by rw [k]; simp)]
  ·rw [refsL_no h k]
   split <;> rfl
theorem refsL_snoc : ∀ {l : List (List UInt8)} {ks : List RefS} {p : List UInt8}, refsL l = some ks → (refL p).2 = true → refsL (l ++ [p]) = some (ks ++ [(refL p).1])
 | [], ks, p, h, k => by
  rw [refsL] at h
  obtain rfl := Option.some.inj h
  rw [List.nil_append, refsL, if_pos k, refsL]
  rfl
 | q :: l, ks, p, h, k => by
  rw [refsL] at h
  split at h
  ·rename_i g
   obtain ⟨y, hy, rfl⟩ := Option.map_eq_some_iff.1 h
   rw [List.cons_append, refsL, if_pos g, refsL_snoc hy k]
   rfl
  ·simp at h
theorem getD_eq {l : List (List UInt8)} {i : Nat} {p : List UInt8} (h : l[i]? = some p) : l.getD i [] = p := by
 rw [List.getD_eq_getElem?_getD, h]; rfl
set_option maxHeartbeats 64000000 in
theorem rloose_d {A : Option (Nat × Nat)} {b : List UInt8} {c : Nat} {o : Bool} {hp : Hp} (ho : OkH hp) (hA : RBe ⟨hp, []⟩ A (b.map byV)) (hc : b.length ≤ c) (hl : b.length ≤ 140737488355328) :
  Fn kxD 38 [.sl A b.length c o] hp [] fun q N => match looseS b with
   | none => ∃ u, q = .v u ∧ ∃ w, u = .tup [.agg w, .b false] ∧ w.length = 582
   | some n => ∃ u, q = .v u ∧ ∃ w, u = .tup [.agg w, .b true] ∧ NodP (seP N) n w := by
 refine Fn.dropC ?_
 unfold looseS
 refine fn_of_w (T := []) ho.sv (fun _ => rfl) (fn := Try.f38) (by kernel_rfl) rfl rfl ?_
 refine wo ?_
 apply p_op; exact (vwant_n rfl); iterate 4 exact rfl
 refine e_alloc (zc := zNC) (by kernel_rfl) fun b2 => ⟨_, rfl, ?_⟩
 refine wo ?_
 cases hp0 : partsS b with
 | none =>
  have hC : ∀ {L : HV} {hp' : Hp}, SV ⟨hp, []⟩ hp' L → OkH hp' → Fn kxD 60 [.sl A b.length c o] hp' [] fun q N => ∃ u, q = .v u ∧ u = .tup [.sl none 0 0 false, .b false] := fun hs ho => by
   have := rparts_d (c := c) (o := o) ho (hA.give0 hs) hc hl
   rw [hp0] at this
   exact this
  apply p_callY []; exact (vwant_n rfl); iterate 4 exact rfl
  case hC => exact (fun hp' hs ht => hC hs hs.ok)
  rintro u N rfl
  refine wo ?_
  apply wn; iterate 5 exact rfl
  refine p_buildS (C := zNC) .nil (by kernel_rfl)
  apply p_do; exact (vwant_n rfl); exact rfl; exact rfl
  refine e_stn (C' := zNC) rfl rfl zNC_ne zNC_len (Nat.le_of_eq zNC_len.symm) (overV_all rfl) ⟨_, rfl, ?_⟩
  refine wo ?_
  exact w_ret (wend_ret (vres2 (rv_cell rfl zNC_len) (rv_tmp rfl)) ⟨[], cle, _, rfl, _, rfl, zNC_len⟩)
 | some l =>
  obtain ⟨hb28, hwh⟩ := partsS_whole hp0
  have hb0 : 0 < b.length := by
   rcases Nat.eq_zero_or_pos b.length with h | h
   ·have : b = [] := List.length_eq_zero_iff.1 h
    subst this
    simp [partsS, partS] at hp0
   ·exact h
  have hRB := hA.ne hb0
  obtain ⟨ba, oa, rfl⟩ := rb_spot hRB hb0
  have hC : ∀ {L : HV} {hp' : Hp}, SV ⟨hp, []⟩ hp' L → OkH hp' → Fn kxD 60 [.sl (some (ba, oa)) b.length c o] hp' [] fun q N => ∃ u, q = .v u ∧ ∃ w us, u = .tup [w, .b true] ∧ RowG 22 (0 + 1) l.length us w N ∧ PartsO ba oa b l us := fun hs ho => by
   have := rparts_d (c := c) (o := o) ho (hA.give0 hs) hc hl
   rw [hp0] at this
   refine this.mono ?_
   rintro r N ⟨u, h1, w, us, h2, h3, ba', oa', h4, h5⟩
   simp only [Option.some.injEq, Prod.mk.injEq] at h4
   obtain ⟨rfl, rfl⟩ := h4
   exact ⟨u, h1, w, us, h2, h3, h5⟩
  dsimp only
  apply p_callY []; exact (vwant_n rfl); iterate 4 exact rfl
  case hC => exact (fun hp' hs ht => hC hs hs.ok)
  rintro u N0 ⟨w0, us, rfl, hrow, hpo⟩
  have hps := partsO_r hRB hpo
  have husl := partsR_len hps
  obtain ⟨A4, o4, rfl⟩ := hrow.sl
  have hz582 : ∀ (m : NodS) (p v : V) (ks : List (List V)), ks.length = 16 → (∀ x ∈ ks, x.length = 34) → (nodC m p v zFC ks.flatten).length = 582 := fun m p v ks h1 h2 => by
   have := flatK_len h2
   rw [h1] at this
   simp only [List.length_cons, List.length_append, zFC_len, this]
  refine wo ?_
  iterate 4 ((try refine w_seq ?_); refine wo ?_)
  by_cases g17 : l.length = 17
  ·rw [if_pos g17]
   obtain ⟨b4, o4', oo4, e4, rfl⟩ := hrow.got (by omega)
   simp only [V.sl.injEq, true_and] at e4
   obtain ⟨rfl, rfl⟩ := e4
   apply wm; iterate 5 exact rfl
   refine mv_int (v := .b true) rfl rfl (vi_eqlT (by omega))
   refine wo ?_
   apply wn; iterate 5 exact rfl
   refine p_buildS (C := nodC brN (.sl none 0 0 false) (.sl none 0 0 false) zFC (List.replicate 16 zFC).flatten) (.cons rfl rfl rfl rfl (Nat.le_of_ble_eq_true rfl) .nil) (by kernel_rfl)
   apply p_op; exact (vwant_n rfl); iterate 4 exact rfl
   refine e_alloc (zc := zNC) (by kernel_rfl) fun b6 => ⟨_, rfl, ?_⟩
   apply p_do; exact (vwant_n rfl); exact rfl; exact rfl
   refine e_stn (C' := nodC brN (.sl none 0 0 false) (.sl none 0 0 false) zFC (List.replicate 16 zFC).flatten) rfl rfl (List.cons_ne_nil _ _) (by kernel_rfl) (Nat.le_of_eq zNC_len.symm) (overV_all (by kernel_rfl)) ⟨_, rfl, ?_⟩
   refine wo ?_
   iterate 4 ((try refine w_seq ?_); refine wo ?_)
   refine w_loop (ι := Nat × List (List V) × HV × List RefS) (fun s => [(7, .i .i64 (s.1 : Nat)), (6, .p (some (b6, 0))), (4, .sl (some (b4, 0)) l.length l.length o4), (2, .p (some (b2, 0)))]) (fun s => (some b6, cellsO (nodC brN (.sl none 0 0 false) (.sl none 0 0 false) zFC s.2.1.flatten) 29) :: (some b2, cellsO zNC 29) :: (some b4, .cells us 22 oo4 false) :: s.2.2.1) (fun s => s.1 ≤ 16 ∧ s.2.1.length = 16 ∧ (∀ x ∈ s.2.1, x.length = 34) ∧ refsL (l.take s.1) = some s.2.2.2 ∧ RefsP (seP s.2.2.1) s.2.2.2 (s.2.1.take s.1)) (fun s => 16 - s.1) (0, List.replicate 16 zFC, [], []) ⟨Nat.zero_le _, rfl, fun x hx => by rw [List.eq_of_mem_replicate hx]; rfl, by rw [List.take_zero, refsL], rfl⟩ ⟨rfl, rfl, rfl, rfl, trivial⟩ (fun hp h => h.le) ?_
   intro ⟨i, ks, X, rs⟩ ⟨hi, hk16, hk34, hrs, hX⟩
   dsimp only at hi hk16 hk34 hrs hX ⊢
   refine wo ?_
   by_cases g : i < 16
   ·obtain ⟨Ap, cp, op, hus, hRp, hcp⟩ := partsR_at (i := i) (p := l[i]) hps (List.getElem?_eq_getElem (by omega))
    have hsn : l.take (i + 1) = l.take i ++ [l[i]] := List.take_succ_eq_append_getElem (by omega)
    obtain ⟨hw1, hwl⟩ := hwh l[i] (List.getElem_mem (by omega))
    have hmem : l[i] ∈ l.take 16 := by
     rw [List.mem_take_iff_getElem]
     exact ⟨i, by omega, rfl⟩
    generalize l[i] = p at *
    apply wm; iterate 5 exact rfl
    refine mv_int (v := .b true) rfl rfl (vi_lssT (by omega))
    refine wo ?_
    apply wn; iterate 5 exact rfl
    refine p_ia rfl rfl (show i < l.length by omega)
    refine zX (m_ldl rfl (by rw [Nat.zero_add]; exact hus)) ?_
    apply p_callY []; exact (vwant_n rfl); iterate 4 exact rfl
    case hC => exact (fun hp' hs ht => rrefof_d hs.ok (hRp.give0 hs) hcp hw1 (by omega))
    rintro u N ⟨wr, rfl, hwr⟩
    have hwrl := hwr.len
    refine wo ?_
    apply p_op; exact (vwant_n rfl); iterate 4 exact rfl
    refine e_alloc (zc := zFC) rfl fun b8 => ⟨_, rfl, ?_⟩
    apply p_do; exact (vwant_n rfl); exact rfl; exact rfl
    refine e_stn (C' := wr) rfl rfl (ne_of_len hwrl (by decide)) hwrl (Nat.le_of_eq zFC_len.symm) (overV_all (hwrl.trans zFC_len.symm)) ⟨_, rfl, ?_⟩
    refine wo ?_
    cases hr : (refL p).2 with
    | false =>
     have hml := hz582 brN (.sl none 0 0 false) (.sl none 0 0 false) ks hk16 hk34
     refine wo ?_
     refine zX (m_ldln (s := 581) (cs := nodC brN (.sl none 0 0 false) (.sl none 0 0 false) zFC ks.flatten) rfl (all_take _ hml) hml) ?_
     apply p_do; exact (vwant_n rfl); exact rfl; exact rfl
     refine e_stn (C' := nodC brN (.sl none 0 0 false) (.sl none 0 0 false) zFC ks.flatten) rfl rfl (List.cons_ne_nil _ _) hml (Nat.le_of_eq zNC_len.symm) (overV_all (hml.trans zNC_len.symm)) ⟨_, rfl, ?_⟩
     refine wo ?_
     exact w_ret (wend_ret (vres2 (rv_cell rfl hml) (rv_tmp rfl)) ⟨[], cle, by rw [refsL_no hmem hr]; exact ⟨_, rfl, _, rfl, hml⟩⟩)
    | true =>
     refine wo ?_
     refine zX (m_ldln (s := 33) (cs := wr) rfl (all_take _ hwrl) hwrl) ?_
     refine wo ?_
     apply wn; iterate 5 exact rfl
     refine p_iaan rfl rfl g
     apply p_do; exact (vwant_n rfl); exact rfl; exact rfl
     refine e_stn (C' := nodC brN (.sl none 0 0 false) (.sl none 0 0 false) zFC (ks.set i wr).flatten) rfl rfl (ne_of_len hwrl (by decide)) hwrl (by rw [hz582 _ _ _ _ hk16 hk34]; omega) (nodC_putk zFC_len hk34 (by omega) hwrl) ⟨_, rfl, ?_⟩
     refine wo ?_
     refine ⟨rfl, (i + 1, ks.set i wr, N ++ X, rs ++ [(refL p).1]), ⟨g, by rw [List.length_set]; exact hk16, fun x hx => ?_, by rw [hsn]; exact refsL_snoc hrs hr, ?_⟩, by dsimp only; omega, ⟨rfl, rfl, rfl, rfl, trivial⟩, fun hp h => h.le⟩
     ·rcases List.mem_or_eq_of_mem_set hx with hx | rfl
      ·exact hk34 x hx
      ·exact hwrl
     ·dsimp only
      rw [set_take (by omega)]
      exact refsP_snoc (hwr.mono fun A c o cs h => .inl (h.mono fun p hp => List.mem_append_left _ hp)) (refsP_mono (fun A c o cs h => h.imp (fun h => h.mono fun p hp => List.mem_append_right _ hp) id) hX)
   apply wm; iterate 5 exact rfl
   refine mv_int (v := .b false) rfl rfl (vi_lssF (by omega))
   refine wo ?_
   refine w_exit ?_
   obtain rfl : i = 16 := by omega
   rw [List.take_of_length_le (Nat.le_of_eq hk16)] at hX
   rw [hrs]
   dsimp only
   have h16 : l[16]? = some l[16] := List.getElem?_eq_getElem (by omega)
   obtain ⟨Ap, cp, op, hus, hRp, hcp⟩ := partsR_at (i := 16) (p := l[16]) hps h16
   obtain ⟨hw1, hwl⟩ := hwh l[16] (List.getElem_mem (by omega))
   have hgd := getD_eq h16
   rw [hgd]
   generalize l[16] = p at *
   have hks : rs.length = 16 := by rw [← refsP_len hX, hk16]
   refine wo ?_
   apply wn; iterate 5 exact rfl
   refine p_ia (i := 16) rfl rfl (show 16 < l.length by omega)
   refine zX (m_ldl rfl (by rw [Nat.zero_add]; exact hus)) ?_
   apply p_callY []; exact (vwant_n rfl); iterate 4 exact rfl
   case hC => exact (fun hp' hs ht => rcont_d hs.ok (hRp.give0 hs) hcp hw1 (by omega))
   rintro u N ⟨sv, rfl, hsv⟩
   generalize (contL p).1 = v at *
   obtain ⟨A1, o1, rfl⟩ := hsv.sl
   refine wo ?_
   apply p_do; exact (vwant_n rfl); exact rfl; exact rfl
   refine e_st (C' := nodC brN (.sl none 0 0 false) (.sl A1 v.length v.length o1) zFC ks.flatten) rfl rfl rfl (by rw [hz582 _ _ _ _ hk16 hk34]; omega) rfl ⟨_, rfl, ?_⟩
   refine wo ?_
   apply wm; iterate 5 exact rfl
   refine m_gtrD (p := 0 < v.length) rfl rfl (by omega)
   refine wo ?_
   apply p_do; exact (vwant_n rfl); exact rfl; exact rfl
   refine e_st (C' := nodC ⟨3, [], [], decide (0 < v.length), zRef, []⟩ (.sl none 0 0 false) (.sl A1 v.length v.length o1) zFC ks.flatten) rfl rfl rfl (by rw [hz582 _ _ _ _ hk16 hk34]; omega) rfl ⟨_, rfl, ?_⟩
   refine wo ?_
   have hml := hz582 ⟨3, [], [], decide (0 < v.length), zRef, []⟩ (.sl none 0 0 false) (.sl A1 v.length v.length o1) ks hk16 hk34
   refine zX (m_ldln (s := 581) (cs := nodC ⟨3, [], [], decide (0 < v.length), zRef, []⟩ (.sl none 0 0 false) (.sl A1 v.length v.length o1) zFC ks.flatten) rfl (all_take _ hml) hml) ?_
   refine wo ?_
   apply p_do; exact (vwant_n rfl); exact rfl; exact rfl
   refine e_stn (C' := nodC ⟨3, [], [], decide (0 < v.length), zRef, []⟩ (.sl none 0 0 false) (.sl A1 v.length v.length o1) zFC ks.flatten) rfl rfl (List.cons_ne_nil _ _) hml (Nat.le_of_eq zNC_len.symm) (overV_all (hml.trans zNC_len.symm)) ⟨_, rfl, ?_⟩
   refine wo ?_
   refine w_ret (wend_ret (vres2 (rv_cell rfl hml) (rv_tmp rfl)) ⟨N ++ X, cle, ?_⟩)
   cases hq : (contL p).2 with
   | false =>
    rw [if_neg (by simp)]
    exact ⟨_, rfl, _, rfl, hml⟩
   | true =>
    rw [if_pos rfl]
    exact ⟨_, rfl, _, rfl, hks, none, 0, false, A1, _, o1, zFC, ks, rfl, .inr rfl, Nat.le_refl _, .inl (hsv.sn fun p hp => List.mem_append_left _ hp), Nat.le_refl _, zFC_p _ (.inr rfl), refsP_mono (fun A c o cs h => h.imp (fun h => h.mono fun p hp => List.mem_append_right _ hp) id) hX⟩
  rw [if_neg g17]
  apply wm; iterate 5 exact rfl
  refine mv_int (v := .b false) rfl rfl (vi_eqlF (by omega))
  refine wo ?_
  by_cases g2 : l.length = 2
  rotate_left
  ·rw [if_pos g2]
   apply wm; iterate 5 exact rfl
   refine mv_int (v := .b true) rfl rfl (vi_neqT (by omega))
   refine wo ?_
   apply wn; iterate 5 exact rfl
   refine p_buildS (C := zNC) .nil (by kernel_rfl)
   apply p_do; exact (vwant_n rfl); exact rfl; exact rfl
   refine e_stn (C' := zNC) rfl rfl zNC_ne zNC_len (Nat.le_of_eq zNC_len.symm) (overV_all rfl) ⟨_, rfl, ?_⟩
   refine wo ?_
   exact w_ret (wend_ret (vres2 (rv_cell rfl zNC_len) (rv_tmp rfl)) ⟨[], cle, _, rfl, _, rfl, zNC_len⟩)
  rw [if_neg (by omega)]
  obtain ⟨b4, o4', oo4, e4, rfl⟩ := hrow.got (by omega)
  simp only [V.sl.injEq, true_and] at e4
  obtain ⟨rfl, rfl⟩ := e4
  obtain ⟨p, x, rfl⟩ : ∃ p x, l = [p, x] := by
   match l, g2 with
   | [p, x], _ => exact ⟨p, x, rfl⟩
  obtain ⟨Ap, cp, op, hus0, hRp, hcp⟩ := partsR_at (i := 0) (p := p) hps rfl
  obtain ⟨Ax, cx, ox, hus1, hRx, hcx⟩ := partsR_at (i := 1) (p := x) hps rfl
  obtain ⟨hw0, hwl0⟩ := hwh p (by simp)
  obtain ⟨hw1, hwl1⟩ := hwh x (by simp)
  rw [List.getD_cons_zero, List.getD_cons_succ, List.getD_cons_zero]
  have hcl := contL_le p
  rw [List.singleton_append]
  apply wm; iterate 5 exact rfl
  refine mv_int (v := .b false) rfl rfl (vi_neqF (by omega))
  refine wo ?_
  apply wn; iterate 5 exact rfl
  refine p_ia (i := 0) rfl rfl (by simp)
  refine zX (m_ldl rfl hus0) ?_
  apply p_callY []; exact (vwant_n rfl); iterate 4 exact rfl
  case hC => exact (fun hp' hs ht => rcont_d hs.ok (hRp.give0 hs) hcp hw0 (by omega))
  rintro u N1 ⟨s1, rfl, hs1⟩
  generalize (contL p).1 = s at *
  obtain ⟨A1, o1, rfl⟩ := hs1.sl
  refine wo ?_
  apply p_callY []; exact (vwant_n rfl); iterate 4 exact rfl
  case hC => exact (fun hp' hs ht => runp_d hs.ok (hs1.rb0 hs) (by omega))
  rintro u N2 ⟨A2, c2, o2, rfl, hs2, hc2⟩
  generalize (unpL s).1 = way at *
  refine wo ?_
  cases hq : (contL p).2 with
  | false =>
   rw [if_pos rfl]
   refine wo ?_
   apply wn; iterate 5 exact rfl
   refine p_buildS (C := zNC) .nil (by kernel_rfl)
   apply p_do; exact (vwant_n rfl); exact rfl; exact rfl
   refine e_stn (C' := zNC) rfl rfl zNC_ne zNC_len (Nat.le_of_eq zNC_len.symm) (overV_all rfl) ⟨_, rfl, ?_⟩
   refine wo ?_
   exact w_ret (wend_ret (vres2 (rv_cell rfl zNC_len) (rv_tmp rfl)) ⟨[], cle, _, rfl, _, rfl, zNC_len⟩)
  | true =>
  rw [if_neg (by simp)]
  refine wo ?_
  cases hlf : (unpL s).2 with
  | true =>
   rw [if_pos rfl]
   refine wo ?_
   apply wn; iterate 5 exact rfl
   refine p_ia (i := 1) rfl rfl (by simp)
   refine zX (m_ldl rfl hus1) ?_
   apply p_callY []; exact (vwant_n rfl); iterate 4 exact rfl
   case hC => exact (fun hp' hs ht => rcont_d hs.ok (hRx.give0 hs) hcx hw1 (by omega))
   rintro u N3 ⟨s3, rfl, hs3⟩
   generalize (contL x).1 = v at *
   obtain ⟨A3, o3, rfl⟩ := hs3.sl
   have hlen : (nodC ⟨1, way, v, false, zRef, List.replicate 16 zRef⟩ (.sl A2 way.length c2 o2) (.sl A3 v.length v.length o3) zFC (List.replicate 16 zFC).flatten).length = 582 := by kernel_rfl
   refine wo ?_
   apply wn; iterate 5 exact rfl
   refine p_buildS (C := nodC ⟨1, way, v, false, zRef, List.replicate 16 zRef⟩ (.sl A2 way.length c2 o2) (.sl A3 v.length v.length o3) zFC (List.replicate 16 zFC).flatten) (.cons rfl rfl rfl rfl (Nat.le_of_ble_eq_true rfl) (.cons rfl rfl rfl rfl (Nat.le_of_ble_eq_true rfl) (.cons rfl rfl rfl rfl (Nat.le_of_ble_eq_true rfl) .nil))) (by kernel_rfl)
   refine wo ?_
   apply p_do; exact (vwant_n rfl); exact rfl; exact rfl
   refine e_stn (C' := nodC ⟨1, way, v, false, zRef, List.replicate 16 zRef⟩ (.sl A2 way.length c2 o2) (.sl A3 v.length v.length o3) zFC (List.replicate 16 zFC).flatten) rfl rfl (List.cons_ne_nil _ _) hlen (Nat.le_of_eq zNC_len.symm) (overV_all (hlen.trans zNC_len.symm)) ⟨_, rfl, ?_⟩
   refine wo ?_
   refine w_ret (wend_ret (vres2 (rv_cell rfl hlen) (rv_tmp rfl)) ⟨N3 ++ N2, cle, ?_⟩)
   cases hq2 : (contL x).2 with
   | false =>
    rw [if_neg (by simp)]
    exact ⟨_, rfl, _, rfl, hlen⟩
   | true =>
    rw [if_pos rfl]
    exact ⟨_, rfl, _, rfl, rfl, A2, c2, o2, A3, _, o3, zFC, List.replicate 16 zFC, rfl, hs2.imp (fun h => h.mono fun p hp => List.mem_append_right _ hp) (fun h => by rw [h]; rfl), hc2, .inl (hs3.sn fun p hp => List.mem_append_left _ hp), Nat.le_refl _, zFC_p _ (.inr rfl), refsP_rep (.inr rfl) 16⟩
  | false =>
   rw [if_neg (by simp)]
   refine wo ?_
   apply wn; iterate 5 exact rfl
   refine p_ia (i := 1) rfl rfl (by simp)
   refine zX (m_ldl rfl hus1) ?_
   apply p_callY []; exact (vwant_n rfl); iterate 4 exact rfl
   case hC => exact (fun hp' hs ht => rrefof_d hs.ok (hRx.give0 hs) hcx hw1 (by omega))
   rintro u N3 ⟨wr, rfl, hwr⟩
   have hwrl := hwr.len
   have hlen : (nodC ⟨2, way, [], false, (refL x).1, List.replicate 16 zRef⟩ (.sl A2 way.length c2 o2) (.sl none 0 0 false) wr (List.replicate 16 zFC).flatten).length = 582 := by
    have : (List.replicate 16 zFC).flatten.length = 544 := by kernel_rfl
    simp only [List.length_cons, List.length_append, hwrl, this]
   refine wo ?_
   apply p_op; exact (vwant_n rfl); iterate 4 exact rfl
   refine e_alloc (zc := zFC) rfl fun b18 => ⟨_, rfl, ?_⟩
   apply p_do; exact (vwant_n rfl); exact rfl; exact rfl
   refine e_stn (C' := wr) rfl rfl (ne_of_len hwrl (by decide)) hwrl (Nat.le_of_eq zFC_len.symm) (overV_all (hwrl.trans zFC_len.symm)) ⟨_, rfl, ?_⟩
   refine wo ?_
   refine zX (m_ldln (s := 33) (cs := wr) rfl (all_take _ hwrl) hwrl) ?_
   apply wn; iterate 5 exact rfl
   refine p_buildS (C := nodC ⟨2, way, [], false, (refL x).1, List.replicate 16 zRef⟩ (.sl A2 way.length c2 o2) (.sl none 0 0 false) wr (List.replicate 16 zFC).flatten) (.cons rfl rfl rfl rfl (Nat.le_of_ble_eq_true rfl) (.cons rfl rfl rfl rfl (Nat.le_of_ble_eq_true rfl) (.cons rfl rfl rfl hwrl (Nat.le_of_ble_eq_true rfl) .nil))) (ex_put hwrl)
   refine wo ?_
   apply p_do; exact (vwant_n rfl); exact rfl; exact rfl
   refine e_stn (C' := nodC ⟨2, way, [], false, (refL x).1, List.replicate 16 zRef⟩ (.sl A2 way.length c2 o2) (.sl none 0 0 false) wr (List.replicate 16 zFC).flatten) rfl rfl (List.cons_ne_nil _ _) hlen (Nat.le_of_eq zNC_len.symm) (overV_all (hlen.trans zNC_len.symm)) ⟨_, rfl, ?_⟩
   refine wo ?_
   refine w_ret (wend_ret (vres2 (rv_cell rfl hlen) (rv_tmp rfl)) ⟨N3 ++ N2, cle, ?_⟩)
   cases hq2 : (refL x).2 with
   | false =>
    rw [if_neg (by simp)]
    exact ⟨_, rfl, _, rfl, hlen⟩
   | true =>
    rw [if_pos rfl]
    exact ⟨_, rfl, _, rfl, rfl, A2, c2, o2, none, 0, false, wr, List.replicate 16 zFC, rfl, hs2.imp (fun h => h.mono fun p hp => List.mem_append_right _ hp) (fun h => by rw [h]; rfl), hc2, .inr rfl, Nat.le_refl _, hwr.mono fun A c o cs h => .inl (h.mono fun p hp => List.mem_append_left _ hp), refsP_rep (.inr rfl) 16⟩
theorem LooseNo {A : Option (Nat × Nat)} {b : List UInt8} {c : Nat} {o : Bool} {hp : Hp} (h0 : looseS b = none) (ho : OkH hp) (hA : RBe ⟨hp, []⟩ A (b.map byV)) (hc : b.length ≤ c) (hl : b.length ≤ 140737488355328) :
  Fn kxD 38 [.sl A b.length c o] hp [] fun q N => ∃ u, q = .v u ∧ ∃ w, u = .tup [.agg w, .b false] ∧ w.length = 582 := by
 have := rloose_d (o := o) ho hA hc hl
 rw [h0] at this
 exact this
theorem LooseOk {A : Option (Nat × Nat)} {b : List UInt8} {n : NodS} {c : Nat} {o : Bool} {hp : Hp} (h0 : looseS b = some n) (ho : OkH hp) (hA : RBe ⟨hp, []⟩ A (b.map byV)) (hc : b.length ≤ c) (hl : b.length ≤ 140737488355328) :
  Fn kxD 38 [.sl A b.length c o] hp [] fun q N => ∃ u, q = .v u ∧ ∃ w, u = .tup [.agg w, .b true] ∧ NodP (seP N) n w := by
 have := rloose_d (o := o) ho hA hc hl
 rw [h0] at this
 exact this
set_option maxHeartbeats 16000000 in
theorem rdecode_k {b : List UInt8} (hl : b.length ≤ 140737488355328) (ih : ∀ b' : List UInt8, b'.length < b.length → RDecOk b') : RDecOk b := by
 intro A c o hp ho hA hc
 unfold RDecR
 refine Fn.dropC ?_
 refine fn_of_w (T := []) ho.sv (fun _ => rfl) (fn := Try.f18) (by kernel_rfl) rfl rfl ?_
 refine wo ?_
 apply p_op; exact (vwant_n rfl); iterate 4 exact rfl
 refine e_alloc (zc := zNC) (by kernel_rfl) fun b2 => ⟨_, rfl, ?_⟩
 refine wo ?_
 cases hS : looseS b with
 | none =>
  rw [loose_no hS]
  apply p_callY []; exact (vwant_n rfl); iterate 4 exact rfl
  case hC => exact (fun hp' hs ht => LooseNo hS hs.ok (hA.give0 hs) hc hl)
  rintro u N ⟨w, rfl, hw⟩
  refine wo ?_
  apply p_op; exact (vwant_n rfl); iterate 4 exact rfl
  refine e_alloc (zc := zNC) (by kernel_rfl) fun b4 => ⟨_, rfl, ?_⟩
  apply p_do; exact (vwant_n rfl); exact rfl; exact rfl
  refine e_stn (C' := w) rfl rfl (ne_of_len hw (by decide)) hw (Nat.le_of_eq zNC_len.symm) (overV_all (hw.trans zNC_len.symm)) ⟨_, rfl, ?_⟩
  refine wo ?_
  apply wn; iterate 5 exact rfl
  refine p_buildS (C := zNC) .nil (by kernel_rfl)
  apply p_do; exact (vwant_n rfl); exact rfl; exact rfl
  refine e_stn (C' := zNC) rfl rfl zNC_ne zNC_len (Nat.le_of_eq zNC_len.symm) (overV_all rfl) ⟨_, rfl, ?_⟩
  refine wo ?_
  exact w_ret (wend_ret (vres2 (rv_cell rfl zNC_len) (rv_tmp rfl)) ⟨[], cle, _, rfl, rfl⟩)
 | some n =>
  obtain ⟨hpl, hrf⟩ := loose_refs hS
  have hiff := loose_iff hS
  rw [hiff]
  apply p_callY []; exact (vwant_n rfl); iterate 4 exact rfl
  case hC => exact (fun hp' hs ht => LooseOk hS hs.ok (hA.give0 hs) hc hl)
  rintro u N ⟨w, rfl, hw⟩
  have hwl := hw.len
  have hw2 : ∀ {hp' : Hp} {L : HV}, SV ⟨hp, []⟩ hp' L → (∀ p ∈ N, p ∈ L) → NodP (reP ⟨hp', []⟩) n w := fun hs hx => hw.mono fun A c o cs h => h.imp (fun h => h _ _ [] _ hs hx) id
  refine wo ?_
  apply p_op; exact (vwant_n rfl); iterate 4 exact rfl
  refine e_alloc (zc := zNC) (by kernel_rfl) fun b4 => ⟨_, rfl, ?_⟩
  apply p_do; exact (vwant_n rfl); exact rfl; exact rfl
  refine e_stn (C' := w) rfl rfl (ne_of_len hwl (by decide)) hwl (Nat.le_of_eq zNC_len.symm) (overV_all (hwl.trans zNC_len.symm)) ⟨_, rfl, ?_⟩
  refine wo ?_
  refine zX (m_ldln (s := 581) (cs := w) rfl (all_take _ hwl) hwl) ?_
  have hE : ∀ {hp' : Hp} {L : HV}, SV ⟨hp, []⟩ hp' L → (∀ p ∈ N, p ∈ L) → Fn kxD 12 [.agg w] hp' [] fun q N => if mayS ndD n = true then ∃ u, q = .v u ∧ ∃ w', u = .tup [w', .i .i64 0] ∧ RowK (ndB n) w' N else ∃ u, q = .v u ∧ u = .tup [.sl none 0 0 false, .i .i64 70] := fun hs hx => rencode_k hs.ok (hw2 hs hx) (by omega) fun r hr hk => ih _ (hrf r hr hk)
  cases hm : mayS ndD n with
  | false =>
   rw [if_neg (by simp)]
   have hE2 : ∀ {hp' : Hp} {L : HV}, SV ⟨hp, []⟩ hp' L → (∀ p ∈ N, p ∈ L) → Fn kxD 12 [.agg w] hp' [] fun q N => ∃ u, q = .v u ∧ u = .tup [.sl none 0 0 false, .i .i64 70] := fun hs hx => by
    have := hE hs hx
    simp only [hm, Bool.false_eq_true, if_false] at this
    exact this
   apply p_callY []; exact (vwant_n rfl); iterate 4 exact rfl
   case hC => exact (fun hp' hs ht => hE2 hs fun p hp => List.mem_cons_of_mem _ (List.mem_append_left _ hp))
   rintro u N2 rfl
   refine wo ?_
   apply wm; iterate 5 exact rfl
   refine mv_int (v := .b true) rfl rfl (vi_neqT ((by decide)))
   refine wo ?_
   apply wn; iterate 5 exact rfl
   refine p_buildS (C := zNC) .nil (by kernel_rfl)
   apply p_do; exact (vwant_n rfl); exact rfl; exact rfl
   refine e_stn (C' := zNC) rfl rfl zNC_ne zNC_len (Nat.le_of_eq zNC_len.symm) (overV_all rfl) ⟨_, rfl, ?_⟩
   refine wo ?_
   exact w_ret (wend_ret (vres2 (rv_cell rfl zNC_len) (rv_tmp rfl)) ⟨[], cle, _, rfl, rfl⟩)
  | true =>
   have hE2 : ∀ {hp' : Hp} {L : HV}, SV ⟨hp, []⟩ hp' L → (∀ p ∈ N, p ∈ L) → Fn kxD 12 [.agg w] hp' [] fun q N => ∃ u, q = .v u ∧ ∃ w', u = .tup [w', .i .i64 0] ∧ RowK (ndB n) w' N := fun hs hx => by
    have := hE hs hx
    simp only [hm, if_true] at this
    exact this
   apply p_callY []; exact (vwant_n rfl); iterate 4 exact rfl
   case hC => exact (fun hp' hs ht => hE2 hs fun p hp => List.mem_cons_of_mem _ (List.mem_append_left _ hp))
   rintro u N2 ⟨w2, rfl, hw2'⟩
   obtain ⟨A2, o2, rfl⟩ := hw2'.sl
   refine wo ?_
   apply wm; iterate 5 exact rfl
   refine mv_int (v := .b false) rfl rfl (vi_neqF ((by simp)))
   refine wo ?_
   apply p_op; exact (vwant_g rfl rfl rfl); iterate 4 exact rfl
   refine e_b2sZ (xs := ndB n) rfl hw2'.src ⟨_, rfl, ?_⟩
   refine wo ?_
   apply p_op; exact (vwant_g rfl rfl rfl); iterate 4 exact rfl
   refine e_b2sZ (xs := b) rfl hA.z ⟨_, rfl, ?_⟩
   apply wmg; iterate 7 exact rfl
   refine m_neqs rfl rfl
   by_cases g : ndB n = b
   ·rw [if_pos ⟨rfl, g⟩, show (!(ndB n == b)) = false by simp [g]]
    refine wo ?_
    refine zX (m_ldln (s := 581) (cs := w) rfl (all_take _ hwl) hwl) ?_
    apply p_do; exact (vwant_n rfl); exact rfl; exact rfl
    refine e_stn (C' := w) rfl rfl (ne_of_len hwl (by decide)) hwl (Nat.le_of_eq zNC_len.symm) (overV_all (hwl.trans zNC_len.symm)) ⟨_, rfl, ?_⟩
    refine wo ?_
    exact w_ret (wend_ret (vres2 (rv_cell rfl hwl) (rv_tmp rfl)) ⟨N, cle, _, rfl, _, rfl, hw⟩)
   ·rw [if_neg (fun h => g h.2), show (!(ndB n == b)) = true by simp [g]]
    refine wo ?_
    apply wn; iterate 5 exact rfl
    refine p_buildS (C := zNC) .nil (by kernel_rfl)
    apply p_do; exact (vwant_n rfl); exact rfl; exact rfl
    refine e_stn (C' := zNC) rfl rfl zNC_ne zNC_len (Nat.le_of_eq zNC_len.symm) (overV_all rfl) ⟨_, rfl, ?_⟩
    refine wo ?_
    exact w_ret (wend_ret (vres2 (rv_cell rfl zNC_len) (rv_tmp rfl)) ⟨[], cle, _, rfl, rfl⟩)
theorem rdecOk {b : List UInt8} (hl : b.length ≤ 140737488355328) : RDecOk b := by
 have : ∀ (m : Nat) (b : List UInt8), b.length = m → m ≤ 140737488355328 → RDecOk b := by
  intro m
  induction m using Nat.strongRecOn with
  | ind m ih => exact fun b hb hm => rdecode_k (by omega) fun b' h => ih _ (by omega) b' rfl (by omega)
 exact this _ b rfl hl
/- Nm3: NodeRound on the machine. By this project. -/
/- Nz1: the statements' nodeOf and asWas; Apart of any rows that were built. By this project. -/
def markN : List UInt8 := [85, 170, 85, 170]
theorem nroomy_d {A : Option (Nat × Nat)} {xs : List UInt8} {c : Nat} {op : Bool} {hp : Hp} (ho : OkH hp) (hA : RB ⟨hp, []⟩ A (xs.map byV)) (hl : xs.length ≤ 140737488355328) :
  Fn kxD 20 [.sl A xs.length c op] hp [] fun r N => ∃ u, r = .v u ∧ ∃ b, u = .sl (some (b, 0)) xs.length (xs.length + 4) true ∧ N = [(some b, .cells ((xs ++ markN).map byV) 5 (some 1) false)] := by
 refine Fn.drop ?_
 refine fn_of_w (T := []) ho.sv (fun _ => rfl) (fn := Try.f20) (by kernel_rfl) rfl rfl ?_
 refine wo ?_
 apply p_op; exact (vwant_n rfl); iterate 4 exact rfl
 refine e_bs (C := []) rfl rfl .nil rfl fun bn => ⟨_, rfl, ?_⟩
 refine wo ?_
 apply p_op; exact (vwant_n rfl); iterate 4 exact rfl
 refine e_lit (new := xs.map byV) rfl rfl hA.z (by simp) u8_one (by omega) fun b1 o1 oo h1 => ⟨_, rfl, ?_⟩
 refine wo ?_
 apply p_op; exact (vwant_n rfl); iterate 4 exact rfl
 refine e_bs (C := markN.map byV) rfl rfl (.cons rfl rfl (.cons rfl rfl (.cons rfl rfl (.cons rfl rfl .nil)))) rfl fun bm => ⟨_, rfl, ?_⟩
 apply p_op; exact (vwant_n rfl); iterate 4 exact rfl
 refine e_appU (old := xs.map byV) (new := markN.map byV) rfl rfl h1 (by simp) (rz_loc (k := 4) rfl) rfl (by decide) u8_one (by omega) fun b2 => ⟨_, rfl, ?_⟩
 dsimp only [List.set]
 rw [← List.map_append]
 refine wo ?_
 refine zX (m_slo0 rfl bl_none (bl_some rfl) (by omega)) ?_
 refine wo ?_
 exact w_ret (wend_ret (vres1 (rv_tmp rfl)) ⟨[_], _, rfl, _, rfl, b2, rfl, rfl⟩)
theorem naswas_d {b0 : Nat} {A : Option (Nat × Nat)} {xs : List UInt8} {c : Nat} {op : Bool} {hp : Hp} (ho : OkH hp) (hR : RB ⟨hp, []⟩ (some (b0, 0)) ((xs ++ markN).map byV)) (hA : RB ⟨hp, []⟩ A (xs.map byV)) (hl : xs.length ≤ 140737488355328) :
  Fn kxD 23 [.sl (some (b0, 0)) xs.length (xs.length + 4) true, .sl A xs.length c op] hp [] fun r _ => r = .v (.b true) := by
 have hm : xs.length + 4 = (xs ++ markN).length := by simp [markN]
 refine fn_of_w (T := []) ho.sv (fun _ => rfl) (fn := Try.f23) (by kernel_rfl) rfl rfl ?_
 refine wo ?_
 refine yX (m_slo0 rfl bl_none (bl_some rfl) (by omega)) ?_
 rw [hm]
 apply dm; iterate 6 exact rfl
 refine m_b2so (xs := xs ++ markN) rfl hR.1 hR.2
 refine wo ?_
 apply dm; iterate 6 exact rfl
 refine m_b2so rfl hA.1 hA.2
 apply dm; iterate 6 exact rfl
 refine m_cat (y := markN) rfl rfl (by simp [markN]; omega)
 apply dm; iterate 6 exact rfl
 refine m_eqs rfl rfl
 rw [beq_self_eq_true]
 refine wo ?_
 exact w_ret (wend_ret (vres1 (rv_tmp rfl)) rfl)
def PRm (N : HV) : PP := fun A c o cs => ∃ b xs, A = some (b, 0) ∧ cs = xs.map byV ∧ o = true ∧ c = xs.length + 4 ∧ (some b, VO.cells ((xs ++ markN).map byV) 5 (some 1) false) ∈ N
theorem PRm.mono {N M : HV} (h : ∀ p ∈ N, p ∈ M) : ∀ A c o cs, PRm N A c o cs → PRm M A c o cs := fun A c o cs ⟨b, xs, h1, h2, h3, h4, h5⟩ => ⟨b, xs, h1, h2, h3, h4, h _ h5⟩
theorem PRm.sn {N : HV} {A : Option (Nat × Nat)} {c : Nat} {o : Bool} {cs : List V} (h : PRm N A c o cs) : Sn N A cs := by
 obtain ⟨b, xs, rfl, rfl, _, _, h5⟩ := h
 exact Sn.own h5 (by rw [List.drop_zero, List.map_append, List.take_append_of_le_length (Nat.le_refl _), List.take_of_length_le (Nat.le_refl _)])
theorem refC_set {r : RefS} {s t : V} (h : r.h.length = 32) : (refC r s).set (0 + 33) t = refC r t := by
 have e : refC r s = (.i .i64 r.k :: r.h.map byV) ++ [s] := rfl
 have e2 : (.i .i64 r.k :: r.h.map byV : List V).length = 33 := by simp [h]
 rw [e, List.set_append_right _ _ (by rw [e2]; decide), e2]
 rfl
set_option maxHeartbeats 4000000 in
theorem lref_d {P : PP} {r : RefS} {w : List V} {hp : Hp} (ho : OkH hp) (hr : RefP P r w) (hP : ∀ A c o cs, P A c o cs → RB ⟨hp, []⟩ A cs) (hl : r.n.length ≤ 140737488355328) :
  Fn kxD 36 [.agg w] hp [] fun q N => ∃ u, q = .v u ∧ ∃ w', u = .agg w' ∧ RefP (PRm N) r w' := by
 have hwl := hr.len
 obtain ⟨hh, A, c, o, hw, hA, hc⟩ := hr
 subst hw
 have hB := hP _ _ _ _ hA
 refine Fn.dropC ?_
 refine fn_of_w (T := []) ho.sv (fun _ => rfl) (fn := Try.f36) (by kernel_rfl) rfl rfl ?_
 refine wo ?_
 apply p_op; exact (vwant_n rfl); iterate 4 exact rfl
 refine ev_box rfl rfl fun bx => ⟨_, rfl, ?_⟩
 apply p_op; exact (vwant_n rfl); iterate 4 exact rfl
 refine e_alloc (zc := zFC) rfl fun b2 => ⟨_, rfl, ?_⟩
 refine wo ?_
 refine zX (m_ldl rfl (refC_node hh)) ?_
 apply p_callY []; exact (vwant_n rfl); iterate 4 exact rfl
 case hC => exact (fun hp' hs ht => nroomy_d hs.ok (hB.give0 hs) hl)
 rintro u N ⟨b, rfl, rfl⟩
 rw [List.singleton_append]
 refine wo ?_
 apply p_do; exact (vwant_n rfl); exact rfl; exact rfl
 refine e_st (C' := refC r (.sl (some (b, 0)) r.n.length (r.n.length + 4) true)) rfl rfl rfl (by rw [hwl]; decide) (refC_set hh) ⟨_, rfl, ?_⟩
 refine wo ?_
 have hl2 : (refC r (.sl (some (b, 0)) r.n.length (r.n.length + 4) true)).length = 34 := refC_len hh
 refine zX (m_ldln (s := 33) (cs := refC r (.sl (some (b, 0)) r.n.length (r.n.length + 4) true)) rfl (all_take _ hl2) hl2) ?_
 apply p_do; exact (vwant_n rfl); exact rfl; exact rfl
 refine e_stn (C' := refC r (.sl (some (b, 0)) r.n.length (r.n.length + 4) true)) rfl rfl (ne_of_len hl2 (by decide)) hl2 (Nat.le_of_eq zFC_len.symm) (overV_all (hl2.trans zFC_len.symm)) ⟨_, rfl, ?_⟩
 refine wo ?_
 exact w_ret (wend_ret (vres1 (rv_cell rfl hl2)) ⟨[(some b, .cells ((r.n ++ markN).map byV) 5 (some 1) false)], cle, _, rfl, _, rfl, hh, some (b, 0), _, true, rfl, ⟨b, r.n, rfl, rfl, rfl, rfl, List.mem_singleton.2 rfl⟩, Nat.le_add_right _ _⟩)
theorem nodC_row {n : NodS} {p v : V} {nx w : List V} {ks : List (List V)} {i : Nat} (h : nx.length = 34) (hk : ∀ x ∈ ks, x.length = 34) (hi : ks[i]? = some w) : ((nodC n p v nx ks.flatten).drop (0 + 38 + i * 34)).take 34 = w := by
 have e : (nodC n p v nx ks.flatten).drop (0 + 38 + i * 34) = ks.flatten.drop (i * 34) := by
  rw [show 0 + 38 + i * 34 = i * 34 + 34 + 4 by omega]
  show (nx ++ ks.flatten).drop (i * 34 + 34) = _
  rw [List.drop_append, List.drop_of_length_le (by omega), List.nil_append, h, Nat.add_sub_cancel]
 rw [e]
 exact flat_row hk hi
theorem set_drop {α : Type} {l : List α} {i : Nat} {x : α} : (l.set i x).drop (i + 1) = l.drop (i + 1) := by
 rw [List.drop_set_of_lt (Nat.lt_succ_self i)]
set_option maxHeartbeats 16000000 in
theorem nodeof_d {P : PP} {n : NodS} {w : List V} {hp : Hp} (ho : OkH hp) (hn : NodP P n w) (hP : ∀ A c o cs, P A c o cs → RB ⟨hp, []⟩ A cs) (hl : NLen n) :
  Fn kxD 13 [.agg w] hp [] fun q N => ∃ u, q = .v u ∧ ∃ w', u = .agg w' ∧ NodP (PRm N) n w' := by
 have hwl := hn.len
 obtain ⟨h0, A, c, o, A2, c2, o2, nx, ks0, hw, p1, _, p2, _, hnx, hks⟩ := hn
 subst hw
 have hk0 := refsP_rows hks
 have hk0l := refsP_len hks
 have hB1 := hP _ _ _ _ p1
 have hB2 := hP _ _ _ _ p2
 have hlen : ∀ (p v : V) (x : List V) (ks : List (List V)), x.length = 34 → ks.length = 16 → (∀ y ∈ ks, y.length = 34) → (nodC n p v x ks.flatten).length = 582 := fun p v x ks hx h1 h2 => by
  have := flatK_len h2
  rw [h1] at this
  simp only [List.length_cons, List.length_append, hx, this]
 refine Fn.dropC ?_
 refine fn_of_w (T := []) ho.sv (fun _ => rfl) (fn := Try.f13) (by kernel_rfl) rfl rfl ?_
 refine wo ?_
 apply p_op; exact (vwant_n rfl); iterate 4 exact rfl
 refine ev_box rfl rfl fun bx => ⟨_, rfl, ?_⟩
 apply p_op; exact (vwant_n rfl); iterate 4 exact rfl
 refine e_alloc (zc := zNC) (by kernel_rfl) fun b2 => ⟨_, rfl, ?_⟩
 refine wo ?_
 apply p_callY []; exact (vwant_n rfl); iterate 4 exact rfl
 case hC => exact (fun hp' hs ht => nroomy_d hs.ok (hB1.give0 hs) hl.p)
 rintro u N1 ⟨b1, rfl, rfl⟩
 rw [List.singleton_append]
 refine wo ?_
 apply p_do; exact (vwant_n rfl); exact rfl; exact rfl
 refine e_st (C' := nodC n (.sl (some (b1, 0)) n.path.length (n.path.length + 4) true) (.sl A2 n.val.length c2 o2) nx ks0.flatten) rfl rfl rfl (by rw [hwl]; decide) rfl ⟨_, rfl, ?_⟩
 refine wo ?_
 apply p_callY []; exact (vwant_n rfl); iterate 4 exact rfl
 case hC => exact (fun hp' hs ht => nroomy_d hs.ok (hB2.give0 hs) hl.v)
 rintro u N2 ⟨b3, rfl, rfl⟩
 rw [List.singleton_append]
 refine wo ?_
 apply p_do; exact (vwant_n rfl); exact rfl; exact rfl
 refine e_st (C' := nodC n (.sl (some (b1, 0)) n.path.length (n.path.length + 4) true) (.sl (some (b3, 0)) n.val.length (n.val.length + 4) true) nx ks0.flatten) rfl rfl rfl (by rw [hlen _ _ _ _ hnx.len (by rw [hk0l, h0]) hk0]; decide) rfl ⟨_, rfl, ?_⟩
 refine wo ?_
 refine zX (m_ldln (s := 33) (cs := nx) rfl (nodC_next hnx.len) hnx.len) ?_
 apply p_callY []; exact (vwant_n rfl); iterate 4 exact rfl
 case hC => exact (fun hp' hs ht => lref_d hs.ok hnx (fun A c o cs h => (hP _ _ _ _ h).give0 hs) (hl.r _ (.inl rfl)))
 rintro u N3 ⟨nx', rfl, hnx'⟩
 refine wo ?_
 apply p_do; exact (vwant_n rfl); exact rfl; exact rfl
 refine e_stn (C' := nodC n (.sl (some (b1, 0)) n.path.length (n.path.length + 4) true) (.sl (some (b3, 0)) n.val.length (n.val.length + 4) true) nx' ks0.flatten) rfl rfl (ne_of_len hnx'.len (by decide)) hnx'.len (by rw [hlen _ _ _ _ hnx.len (by rw [hk0l, h0]) hk0]; decide) (nodC_put hnx.len hnx'.len) ⟨_, rfl, ?_⟩
 refine wo ?_
 iterate 4 ((try refine w_seq ?_); refine wo ?_)
 refine w_loop (ι := Nat × List (List V) × HV) (fun s => [(3, .i .i64 (s.1 : Nat)), (2, .p (some (b2, 0))), (1, .p (some (bx, 0)))]) (fun s => (some bx, cellsO (nodC n (.sl (some (b1, 0)) n.path.length (n.path.length + 4) true) (.sl (some (b3, 0)) n.val.length (n.val.length + 4) true) nx' s.2.1.flatten) 29) :: (some b2, cellsO zNC 29) :: (some b1, .cells ((n.path ++ markN).map byV) 5 (some 1) false) :: (some b3, .cells ((n.val ++ markN).map byV) 5 (some 1) false) :: (N3 ++ s.2.2)) (fun s => s.1 ≤ 16 ∧ s.2.1.length = 16 ∧ (∀ x ∈ s.2.1, x.length = 34) ∧ s.2.1.drop s.1 = ks0.drop s.1 ∧ RefsP (PRm s.2.2) (n.kids.take s.1) (s.2.1.take s.1)) (fun s => 16 - s.1) (0, ks0, []) ⟨Nat.zero_le _, by rw [hk0l, h0], hk0, rfl, rfl⟩ ⟨rfl, rfl, rfl, trivial⟩ (fun hp h => h.le) ?_
 intro ⟨i, ks, X⟩ ⟨hi, hk16, hk34, hdr, hX⟩
 dsimp only at hi hk16 hk34 hdr hX ⊢
 have hml := hlen (.sl (some (b1, 0)) n.path.length (n.path.length + 4) true) (.sl (some (b3, 0)) n.val.length (n.val.length + 4) true) nx' ks hnx'.len hk16 hk34
 refine wo ?_
 by_cases g : i < 16
 ·obtain ⟨x, hx0, hxr⟩ := refsP_at hks (List.getElem?_eq_getElem (show i < n.kids.length by omega))
  have hxi : ks[i]? = some x := by
   have := congrArg (fun l => l[0]?) hdr
   simp only [List.getElem?_drop, Nat.add_zero] at this
   rw [this]
   exact hx0
  have hmem : n.kids[i] ∈ n.kids := List.getElem_mem (show i < n.kids.length by omega)
  have hsn : n.kids.take (i + 1) = n.kids.take i ++ [n.kids[i]] := List.take_succ_eq_append_getElem (show i < n.kids.length by omega)
  apply wm; iterate 5 exact rfl
  refine mv_int (v := .b true) rfl rfl (vi_lssT (by omega))
  refine wo ?_
  apply wn; iterate 5 exact rfl
  refine p_iaan rfl rfl g
  refine zX (m_ldln (s := 33) (cs := x) rfl (nodC_row hnx'.len hk34 hxi) hxr.len) ?_
  apply p_callY []; exact (vwant_n rfl); iterate 4 exact rfl
  case hC => exact (fun hp' hs ht => lref_d hs.ok hxr (fun A c o cs h => (hP _ _ _ _ h).give0 hs) (hl.r _ (.inr hmem)))
  rintro u N4 ⟨x', rfl, hx'⟩
  refine wo ?_
  apply wn; iterate 5 exact rfl
  refine p_iaan rfl rfl g
  apply p_do; exact (vwant_n rfl); exact rfl; exact rfl
  refine e_stn (C' := nodC n (.sl (some (b1, 0)) n.path.length (n.path.length + 4) true) (.sl (some (b3, 0)) n.val.length (n.val.length + 4) true) nx' (ks.set i x').flatten) rfl rfl (ne_of_len hx'.len (by decide)) hx'.len (by rw [hml]; omega) (nodC_putk hnx'.len hk34 (by omega) hx'.len) ⟨_, rfl, ?_⟩
  refine wo ?_
  refine ⟨rfl, (i + 1, ks.set i x', N4 ++ X), ⟨g, by rw [List.length_set]; exact hk16, fun y hy => ?_, ?_, ?_⟩, by dsimp only; omega, ⟨rfl, rfl, rfl, trivial⟩, fun hp h => h.le⟩
  ·rcases List.mem_or_eq_of_mem_set hy with hy | rfl
   ·exact hk34 y hy
   ·exact hx'.len
  ·dsimp only
   rw [set_drop]
   have := congrArg (List.drop 1) hdr
   rwa [List.drop_drop, List.drop_drop] at this
  ·dsimp only
   rw [set_take (by omega), hsn]
   exact refsP_snoc (hx'.mono (PRm.mono fun p hp => List.mem_append_left _ hp)) (refsP_mono (PRm.mono fun p hp => List.mem_append_right _ hp) hX)
 apply wm; iterate 5 exact rfl
 refine mv_int (v := .b false) rfl rfl (vi_lssF (by omega))
 refine wo ?_
 refine w_exit ?_
 obtain rfl : i = 16 := by omega
 rw [List.take_of_length_le (Nat.le_of_eq hk16), List.take_of_length_le (by omega)] at hX
 refine wo ?_
 refine zX (m_ldln (s := 581) (cs := nodC n (.sl (some (b1, 0)) n.path.length (n.path.length + 4) true) (.sl (some (b3, 0)) n.val.length (n.val.length + 4) true) nx' ks.flatten) rfl (all_take _ hml) hml) ?_
 apply p_do; exact (vwant_n rfl); exact rfl; exact rfl
 refine e_stn (C' := nodC n (.sl (some (b1, 0)) n.path.length (n.path.length + 4) true) (.sl (some (b3, 0)) n.val.length (n.val.length + 4) true) nx' ks.flatten) rfl rfl (List.cons_ne_nil _ _) hml (Nat.le_of_eq zNC_len.symm) (overV_all (hml.trans zNC_len.symm)) ⟨_, rfl, ?_⟩
 refine wo ?_
 exact w_ret (wend_ret (vres1 (rv_cell rfl hml)) ⟨(some b1, .cells ((n.path ++ markN).map byV) 5 (some 1) false) :: (some b3, .cells ((n.val ++ markN).map byV) 5 (some 1) false) :: (N3 ++ X), cle, _, rfl, _, rfl, h0, some (b1, 0), _, true, some (b3, 0), _, true, nx', ks, rfl, ⟨b1, n.path, rfl, rfl, rfl, rfl, by simp⟩, Nat.le_add_right _ _, ⟨b3, n.val, rfl, rfl, rfl, rfl, by simp⟩, Nat.le_add_right _ _, hnx'.mono (PRm.mono fun p hp => by simp [hp]), refsP_mono (PRm.mono fun p hp => by simp [hp]) hX⟩)
/- Nz2: asWas, sameHashes, the document's Hashes; Apart of any rows that were built. By this project. -/
theorem kidnode_at {P : PP} {n : NodS} {w : List V} (hn : NodP P n w) {i : Nat} (hi : i < 16) : ∃ r A c o, n.kids[i]? = some r ∧ w[0 + 38 + i * 34 + 33]? = some (.sl A r.n.length c o) ∧ P A c o (r.n.map byV) := by
 obtain ⟨r, x, h1, h2, h3⟩ := kid_at hn hi
 obtain ⟨hh, A, c, o, hw, hA, _⟩ := h3
 refine ⟨r, A, c, o, h1, ?_, hA⟩
 have := refC_node (r := r) (s := .sl A r.n.length c o) hh
 rw [← hw, ← h2, List.getElem?_take, if_pos (by decide), List.getElem?_drop] at this
 rw [← this]
theorem nextnode_at {P : PP} {n : NodS} {w : List V} (hn : NodP P n w) : ∃ A c o, w[0 + 4 + 2 + 31]? = some (.sl A n.next.n.length c o) ∧ P A c o (n.next.n.map byV) := by
 obtain ⟨_, A, c, o, A2, c2, o2, nx, ks, rfl, _, _, _, _, hnx, _⟩ := hn
 obtain ⟨hh, A', c', o', rfl, hA, _⟩ := hnx
 refine ⟨A', c', o', ?_, hA⟩
 have := refC_node (r := n.next) (s := .sl A' n.next.n.length c' o') hh
 show (refC n.next (.sl A' n.next.n.length c' o') ++ ks.flatten)[33]? = _
 rw [List.getElem?_append_left (by rw [refC_len hh]; decide)]
 exact this
set_option maxHeartbeats 16000000 in
theorem laswas_d {P : PP} {X : HV} {n : NodS} {w w' : List V} {hp : Hp} (ho : OkH hp) (hm : NodP (PRm X) n w') (hn : NodP P n w) (hP : ∀ A c o cs, P A c o cs → RB ⟨hp, []⟩ A cs) (hX : ∀ b xs, (some b, VO.cells ((xs ++ markN).map byV) 5 (some 1) false) ∈ X → RB ⟨hp, []⟩ (some (b, 0)) ((xs ++ markN).map byV)) (hS : ∀ A cs, Sn X A cs → RB ⟨hp, []⟩ A cs) (hl : NLen n) :
  Fn kxD 16 [.agg w', .agg w] hp [] fun q _ => q = .v (.b true) := by
 have hwl := hn.len
 have hwl' := hm.len
 have hk16 := hm.1
 have hkid := fun {i : Nat} (h : i < 16) => kidnode_at hn h
 have hkid' := fun {i : Nat} (h : i < 16) => kidnode_at hm h
 obtain ⟨An, cn, on, en, pn⟩ := nextnode_at hn
 obtain ⟨An', cn', on', en', pn'⟩ := nextnode_at hm
 have hn0 := hn
 have hm0 := hm
 obtain ⟨_, A, c, o, A2, c2, o2, nx, ks, hw, p1, _, p2, _, _, _⟩ := hn
 obtain ⟨_, A', c', o', A2', c2', o2', nx', ks', hw', p1', _, p2', _, _, _⟩ := hm
 have e1 : w[0 + 1]? = some (.sl A n.path.length c o) := by rw [hw]; rfl
 have e2 : w[0 + 2]? = some (.sl A2 n.val.length c2 o2) := by rw [hw]; rfl
 have e1' : w'[0 + 1]? = some (.sl A' n.path.length c' o') := by rw [hw']; rfl
 have e2' : w'[0 + 2]? = some (.sl A2' n.val.length c2' o2') := by rw [hw']; rfl
 clear hw hw'
 have key : ∀ {A A' : Option (Nat × Nat)} {c c' : Nat} {o o' : Bool} {xs : List UInt8} {hp' : Hp} {L : HV}, PRm X A' c' o' (xs.map byV) → P A c o (xs.map byV) → xs.length ≤ 140737488355328 → SV ⟨hp, []⟩ hp' L → Fn kxD 23 [.sl A' xs.length c' o', .sl A xs.length c o] hp' [] fun r _ => r = .v (.b true) := fun {A A' c c' o o' xs hp' L} hp1 hp2 hl hs => by
  obtain ⟨b, ys, rfl, he, rfl, rfl, hmem⟩ := hp1
  have hxy : xs = ys := by
   exact (List.map_inj_right fun a b h => by
    simp only [byV, V.i.injEq, true_and] at h
    exact UInt8.toNat_inj.1 (Int.ofNat.inj h)).1 he
  subst hxy
  exact naswas_d hs.ok ((hX b xs hmem).give0 hs) ((hP _ _ _ _ hp2).give0 hs) hl
 refine fn_of_w (T := []) ho.sv (fun _ => rfl) (fn := Try.f16) (by kernel_rfl) rfl rfl ?_
 refine wo ?_
 apply p_op; exact (vwant_n rfl); iterate 4 exact rfl
 refine ev_box rfl rfl fun ba => ⟨_, rfl, ?_⟩
 apply p_op; exact (vwant_n rfl); iterate 4 exact rfl
 refine ev_box rfl rfl fun bb => ⟨_, rfl, ?_⟩
 refine wo ?_
 refine zX (m_ldl rfl e1') ?_
 refine wo ?_
 refine zX (m_ldl rfl e1) ?_
 refine p_callq (vwant_n rfl) rfl rfl rfl rfl (fun hp' hs => key p1' p1 hl.p hs) ?_
 refine wo ?_
 refine zX (m_ldl rfl e2') ?_
 refine wo ?_
 refine zX (m_ldl rfl e2) ?_
 refine p_callq (vwant_g rfl rfl rfl) rfl rfl rfl rfl (fun hp' hs => key p2' p2 hl.v hs) ?_
 refine wo ?_
 refine zX (m_ldl rfl en') ?_
 refine wo ?_
 refine zX (m_ldl rfl en) ?_
 refine p_callq (vwant_g rfl rfl rfl) rfl rfl rfl rfl (fun hp' hs => key pn' pn (hl.r _ (.inl rfl)) hs) ?_
 refine wo ?_
 iterate 4 ((try refine w_seq ?_); refine wo ?_)
 refine w_loop (ι := Nat) (fun i => [(6, .i .i64 (i : Nat)), (5, .b true), (3, .p (some (bb, 0))), (2, .p (some (ba, 0)))]) (fun i => [(some bb, cellsO w 29), (some ba, cellsO w' 29)]) (fun i => i ≤ 16) (fun i => 16 - i) 0 (Nat.zero_le _) ⟨rfl, rfl, rfl, rfl, trivial⟩ (fun hp h => h) ?_
 intro i hi
 refine wo ?_
 by_cases g : i < 16
 ·obtain ⟨r, Ak, ck, ok, h1, h2, h3⟩ := hkid g
  obtain ⟨r', Ak', ck', ok', h1', h2', h3'⟩ := hkid' g
  rw [h1] at h1'
  obtain rfl := Option.some.inj h1'
  have hmem : r ∈ n.kids := List.mem_of_getElem? h1
  apply wm; iterate 5 exact rfl
  refine mv_int (v := .b true) rfl rfl (vi_lssT (by omega))
  refine wo ?_
  apply dg; iterate 7 exact rfl
  refine p_iaan rfl rfl g
  refine wo ?_
  refine yX (m_ldl rfl h2') ?_
  refine wo ?_
  apply dg; iterate 7 exact rfl
  refine p_iaan rfl rfl g
  refine wo ?_
  refine yX (m_ldl rfl h2) ?_
  refine d_callq (vwant_g rfl rfl rfl) (by decide +kernel) rfl rfl rfl rfl (fun hp' hs => key h3' h3 (hl.r _ (.inr hmem)) hs) ?_
  refine wo ?_
  exact ⟨rfl, i + 1, g, by omega, ⟨rfl, rfl, rfl, rfl, trivial⟩, fun hp h => h⟩
 ·apply wm; iterate 5 exact rfl
  refine mv_int (v := .b false) rfl rfl (vi_lssF (by omega))
  refine wo ?_
  refine w_exit ?_
  refine wo ?_
  refine zX (m_ldln (s := 581) (cs := w') rfl (all_take _ hwl') hwl') ?_
  refine zX (m_ldln (s := 581) (cs := w) rfl (all_take _ hwl) hwl) ?_
  refine p_callq (vwant_g rfl rfl rfl) rfl rfl rfl rfl (fun hp' hs => nsame_d hs.ok hm0 hn0 (fun A c o cs h => (hS _ _ h.sn).give0 hs) (fun A c o cs h => (hP _ _ _ _ h).give0 hs)) ?_
  rw [sameN_t rfl]
  refine wo ?_
  exact w_ret (wend_ret (vres1 (rv_tmp rfl)) rfl)
/- Nz3: Apart of any rows that were built; NodeEncodes and NodeDecodes on the machine. By this project. -/
theorem hnds_ap : ∀ (A B : HV), hnds (A ++ B) = hnds A ++ hnds B
 | [], B => rfl
 | (some b, _) :: r, B => by rw [List.cons_append, hnds, hnds, hnds_ap r B, List.cons_append]
 | (none, _) :: r, B => by rw [List.cons_append, hnds, hnds, hnds_ap r B]
theorem sv_nodup {B : Bs} {hp : Hp} : ∀ {L : HV}, SV B hp L → (hnds L).Nodup
 | [], _ => by simp [hnds]
 | (some b, o) :: r, h => by
  rw [hnds, List.nodup_cons]
  exact ⟨h.fresh, sv_nodup (h.sub (List.sublist_cons_self _ _))⟩
 | (none, o) :: r, h => by
  rw [hnds]
  exact sv_nodup (h.sub (List.sublist_cons_self _ _))
inductive RowsK : List V → HV → Prop
 | nil : RowsK [] []
 | cons {x : List UInt8} {s : V} {M N : HV} {ss : List V} (h : RowK x s M) (hl : x.length ≤ 1099511627776) (k : RowsK ss N) : RowsK (s :: ss) (M ++ N)
theorem rowP_one {B : Bs} {hp : Hp} {x : List UInt8} {s : V} {M L : HV} {a : Nat} (hs : SV B hp L) (hm : ∀ p ∈ M, p ∈ L) (h : RowK x s M) (hl : x.length ≤ 1099511627776) (ha : a ∉ hnds M) : ∃ q, rowP hp a s = some q ∧ q.toList = hnds M := by
 cases h with
 | nil => exact ⟨none, by show (if (0 = 0 ∧ 0 = 0) then some none else none) = _; exact if_pos ⟨rfl, rfl⟩, rfl⟩
 | @own _ b op oo h =>
  refine ⟨some b, ?_, rfl⟩
  obtain ⟨i, hi⟩ := List.getElem?_of_mem (hm _ (List.mem_singleton.2 rfl))
  have hb := hs.has i _ _ hi
  have hne : b ≠ a := fun e => ha (by subst e; simp [hnds])
  have hg : hp.getW b = some (.cells (x.map byV) 5 oo false) := by simp only [Hp.getW, hb.2.1.1]; exact hb.1
  show (if 0 = 0 ∧ x.length = x.length ∧ x.length ≤ 1099511627776 ∧ b ≠ a then _ else _) = _
  rw [if_pos ⟨rfl, rfl, hl, hne⟩, hg]
  show (if (x.map byV).length = x.length ∧ (op = true → oo = some 1) then _ else _) = _
  rw [if_pos ⟨by rw [List.length_map], h⟩]
theorem rowsP_all {B : Bs} {hp : Hp} {L : HV} {a : Nat} (hs : SV B hp L) : ∀ {ss : List V} {M : HV}, RowsK ss M → (∀ p ∈ M, p ∈ L) → a ∉ hnds M → ∃ qs, mapO (rowP hp a) ss = some qs ∧ qs.filterMap id = hnds M
 | _, _, .nil, _, _ => ⟨[], by rw [mapO_nil], rfl⟩
 | _, _, .cons h hl k, hm, ha => by
  rw [hnds_ap, List.mem_append, not_or] at ha
  obtain ⟨q, h1, h2⟩ := rowP_one hs (fun p hp => hm p (List.mem_append_left _ hp)) h hl ha.1
  obtain ⟨qs, h3, h4⟩ := rowsP_all hs k (fun p hp => hm p (List.mem_append_right _ hp)) ha.2
  refine ⟨q :: qs, by rw [mapO_cons, h1]; dsimp only; rw [h3], ?_⟩
  rw [hnds_ap, ← h2, ← h4]
  cases q <;> rfl
set_option maxHeartbeats 1000000 in
theorem apartN_d {ss : List V} {n : Nat} {M Lr : HV} {a i : Nat} {t : TypeId} {B : Bs} {hp : Hp} (h0 : SV ⟨hp, hnds M⟩ hp M) (hs : SV B hp (M ++ Lr)) [hat : AtV a Lr (cellsO ss t) i] (hr : RowsK ss M) (hn : ss.length = n) (hnl : n ≤ 1073741824) :
  Fn kxD 15 [.sl (some (a, 0)) n n false] hp (hnds M) fun r N => ∃ u, r = .v u ∧ u = .b true ∧ N = [] := by
 have hai : (M ++ Lr)[M.length + i]? = some (some a, cellsO ss t) := by
  rw [List.getElem?_append_right (by omega), Nat.add_sub_cancel_left]; exact hat.h
 have hab := hs.has _ _ _ hai
 have hna : a ∉ hnds M := fun h => by
  obtain ⟨j, o, hj⟩ := hasT_hnds _ a h
  have hj2 := (List.getElem?_eq_some_iff.1 hj).1
  have := hs.one j _ _ _ _ (show (M ++ Lr)[j]? = some (some a, o) by rw [List.getElem?_append_left hj2]; exact hj) hai
  omega
 have hnd := sv_nodup h0
 obtain ⟨qs, hmo, hfm⟩ := rowsP_all (a := a) h0 hr (fun p hp => hp) hna
 have hT : ∀ x ∈ hnds M, Bs.Own ⟨hp, hnds M⟩ x ∧ x < hp.nx := fun x hx => by
  obtain ⟨j, o, hj⟩ := hasT_hnds _ x hx
  exact (h0.has j x o hj).2
 have hg : hp.getW a = some (cellsO ss t) := by simp only [Hp.getW, hab.2.1.1]; exact hab.1
 have hap : apExt 15 15 [.sl (some (a, 0)) n n false] hp = some (.v (.b true), voids hp (hnds M)) := by
  unfold apExt
  rw [if_pos rfl]
  show (if 0 = 0 ∧ n = n ∧ n ≤ 1073741824 then _ else _) = _
  rw [if_pos ⟨rfl, rfl, hnl⟩, hg]
  show (if ss.length = n then _ else _) = _
  rw [if_pos hn, hmo, Option.bind_some]
  rw [hfm, if_pos hnd]
 unfold Fn
 refine ⟨.v (.b true), voids hp (hnds M), ⟨1, fun n hn => ?_⟩, [], ⟨?_, fun x hx => ?_, fun _ _ _ h => by simp at h, fun _ _ _ _ _ h => by simp at h, fun x h h' => ?_, ?_⟩, ⟨?_, (hnds M).reverse, voids_log _ _, fun x hx => ?_, fun x hx => ?_⟩, _, rfl, rfl, rfl⟩
 ·obtain ⟨n, rfl⟩ : ∃ k, n = k + 1 := ⟨n - 1, by omega⟩
  simp only [vcall, hap]
 ·show hp.nx ≤ (voids hp _).nx
  rw [voids_nx]
  exact Nat.le_refl _
 ·rw [voids_get, if_neg fun h => hx (hT x h).1]
 ·rw [voids_nx] at h
  rw [voids_get]
  split
  ·rfl
  ·exact h0.top x h h'
 ·rw [voids_nx]
  exact h0.even
 ·rw [voids_nx]
  exact Nat.le_refl _
 ·rw [voids_nx]
  exact hT x (List.mem_reverse.1 hx)
 ·rw [voids_get, if_neg fun h => hx (List.mem_reverse.2 h)]
/- Nz4: NodeEncodes on the machine. By this project. -/
theorem PRm.at {N L : HV} {B : Bs} {hp : Hp} (hs : SV B hp L) (hm : ∀ p ∈ N, p ∈ L) : ∀ b xs, (some b, VO.cells ((xs ++ markN).map byV) 5 (some 1) false) ∈ N → RB ⟨hp, []⟩ (some (b, 0)) ((xs ++ markN).map byV) := fun b xs h => by
 obtain ⟨i, hi⟩ := List.getElem?_of_mem (hm _ h)
 exact rb_own0 hs hi (take_all _)
set_option maxHeartbeats 64000000 in
theorem enclaw_d {n : NodS} {w : List V} {hp : Hp} (ho : OkH hp) (hn : NodP (rbP ⟨hp, []⟩) n w) (hl : NLen n) :
  Fn kxD 4 [.agg w] hp [] fun r _ => r = .v (.b true) := by
 have hwl := hn.len
 have hok := hn.ok
 have hE : ∀ {hp' : Hp} {L : HV}, SV ⟨hp, []⟩ hp' L → Fn kxD 12 [.agg w] hp' [] fun q N => if mayS ndD n = true then ∃ u, q = .v u ∧ ∃ w', u = .tup [w', .i .i64 0] ∧ RowK (ndB n) w' N else ∃ u, q = .v u ∧ u = .tup [.sl none 0 0 false, .i .i64 70] := fun hs => rencode_k hs.ok (hn.mono fun A c o cs h => .inl (h.give0 hs)) hl.p fun r hr hk => rdecOk (hl.r r hr)
 refine fn_of_w (T := []) ho.sv (fun _ => rfl) (fn := Try.f4) (by kernel_rfl) rfl rfl ?_
 refine wo ?_
 apply p_op; exact (vwant_n rfl); iterate 4 exact rfl
 refine ev_box rfl rfl fun b1 => ⟨_, rfl, ?_⟩
 refine wo ?_
 refine zX (m_ldln (s := 581) (cs := w) rfl (all_take _ hwl) hwl) ?_
 cases hm : mayS ndD n with
 | false =>
  have hE2 : ∀ {hp' : Hp} {L : HV}, SV ⟨hp, []⟩ hp' L → Fn kxD 12 [.agg w] hp' [] fun q N => ∃ u, q = .v u ∧ u = .tup [.sl none 0 0 false, .i .i64 70] := fun hs => by
   have := hE hs
   simp only [hm, Bool.false_eq_true, if_false] at this
   exact this
  apply p_callY []; exact (vwant_n rfl); iterate 4 exact rfl
  case hC => exact (fun hp' hs ht => hE2 hs)
  rintro u N1 rfl
  refine wo ?_
  refine zX (m_ldln (s := 581) (cs := w) rfl (all_take _ hwl) hwl) ?_
  apply p_callY []; exact (vwant_n rfl); iterate 4 exact rfl
  case hC => exact (fun hp' hs ht => nodeof_d hs.ok hn (fun A c o cs h => h.give0 hs) hl)
  rintro u N2 ⟨w2, rfl, hw2⟩
  have hw2l := hw2.len
  refine wo ?_
  apply p_op; exact (vwant_n rfl); iterate 4 exact rfl
  refine e_alloc (zc := zNC) (by kernel_rfl) fun b5 => ⟨_, rfl, ?_⟩
  apply p_do; exact (vwant_n rfl); exact rfl; exact rfl
  refine e_stn (C' := w2) rfl rfl (ne_of_len hw2l (by decide)) hw2l (Nat.le_of_eq zNC_len.symm) (overV_all (hw2l.trans zNC_len.symm)) ⟨_, rfl, ?_⟩
  refine wo ?_
  refine zX (m_ldln (s := 581) (cs := w2) rfl (all_take _ hw2l) hw2l) ?_
  refine p_callq (vwant_n rfl) rfl rfl rfl rfl (fun hp' hs => ncheck_d hs.ok (hw2.mono fun A c o cs h => h.sn _ _ [] _ hs fun p hp => by simp [hp])) ?_
  rw [if_neg (by rw [hm]; simp)]
  refine wo ?_
  refine zX (m_ldln (s := 581) (cs := w2) rfl (all_take _ hw2l) hw2l) ?_
  apply p_callY []; exact (vwant_n rfl); iterate 4 exact rfl
  case hC => exact (fun hp' hs ht => nencode_no hm hs.ok (hw2.mono fun A c o cs h => h.sn _ _ [] _ hs fun p hp => by simp [hp]))
  rintro u N3 rfl
  refine wo ?_
  refine p_callq (vwant_n rfl) rfl rfl rfl rfl (fun hp' hs => num_d hs.ok) ?_
  refine wo ?_
  apply wm; iterate 5 exact rfl
  refine mv_int (v := .b true) rfl rfl (vi_eqlT (rfl))
  refine wo ?_
  refine p_callq (vwant_g rfl rfl rfl) rfl rfl rfl rfl (fun hp' hs => num_d hs.ok) ?_
  refine wo ?_
  apply wmg; iterate 7 exact rfl
  refine mv_int (v := .b true) rfl rfl (vi_eqlT (rfl))
  refine wo ?_
  apply p_op; exact (vwant_g rfl rfl rfl); iterate 4 exact rfl
  refine e_b2sZ (xs := []) rfl rz_emp ⟨_, rfl, ?_⟩
  refine wo ?_
  apply p_op; exact (vwant_g rfl rfl rfl); iterate 4 exact rfl
  refine e_b2sZ (xs := []) rfl rz_emp ⟨_, rfl, ?_⟩
  apply wmg; iterate 7 exact rfl
  refine m_eqs rfl rfl
  rw [beq_self_eq_true]
  refine wo ?_
  apply p_op; exact (vwant_g rfl rfl rfl); iterate 4 exact rfl
  refine e_bs (C := [.sl none 0 0 false]) rfl rfl (.cons rfl rfl .nil) rfl fun ba => ⟨_, rfl, ?_⟩
  apply p_callM ([]); exact (vwant_g rfl rfl rfl); iterate 4 exact rfl
  case hC => exact (fun hp' hs ht => apartN_d (ss := [.sl none 0 0 false]) ht hs (.cons .nil (by decide) .nil) rfl (by decide))
  rintro u N ⟨rfl, rfl⟩
  refine wo ?_
  refine zX (m_ldln (s := 581) (cs := w2) rfl (all_take _ hw2l) hw2l) ?_
  refine zX (m_ldln (s := 581) (cs := w) rfl (all_take _ hwl) hwl) ?_
  refine p_callq (vwant_g rfl rfl rfl) rfl rfl rfl rfl (fun hp' hs => laswas_d hs.ok hw2 hn (fun A c o cs h => h.give0 hs) (PRm.at hs fun p hp => by simp [hp]) (fun A cs h => h _ _ [] _ hs fun p hp => by simp [hp]) hl) ?_
  refine wo ?_
  refine p_callq (vwant_g rfl rfl rfl) rfl rfl rfl rfl (fun hp' hs => nknown_d hs.ok) ?_
  refine wo ?_
  exact w_ret (wend_ret (vres1 (rv_tmp rfl)) rfl)
 | true =>
  have h24 := (ndD_ndB hok hm).2
  have hE2 : ∀ {hp' : Hp} {L : HV}, SV ⟨hp, []⟩ hp' L → Fn kxD 12 [.agg w] hp' [] fun q N => ∃ u, q = .v u ∧ ∃ w', u = .tup [w', .i .i64 0] ∧ RowK (ndB n) w' N := fun hs => by
   have := hE hs
   simp only [hm, if_true] at this
   exact this
  apply p_callY []; exact (vwant_n rfl); iterate 4 exact rfl
  case hC => exact (fun hp' hs ht => hE2 hs)
  rintro u N1 ⟨u1, rfl, hu1⟩
  obtain ⟨A1, o1, rfl⟩ := hu1.sl
  refine wo ?_
  refine zX (m_ldln (s := 581) (cs := w) rfl (all_take _ hwl) hwl) ?_
  apply p_callY []; exact (vwant_n rfl); iterate 4 exact rfl
  case hC => exact (fun hp' hs ht => nodeof_d hs.ok hn (fun A c o cs h => h.give0 hs) hl)
  rintro u N2 ⟨w2, rfl, hw2⟩
  have hw2l := hw2.len
  refine wo ?_
  apply p_op; exact (vwant_n rfl); iterate 4 exact rfl
  refine e_alloc (zc := zNC) (by kernel_rfl) fun b5 => ⟨_, rfl, ?_⟩
  apply p_do; exact (vwant_n rfl); exact rfl; exact rfl
  refine e_stn (C' := w2) rfl rfl (ne_of_len hw2l (by decide)) hw2l (Nat.le_of_eq zNC_len.symm) (overV_all (hw2l.trans zNC_len.symm)) ⟨_, rfl, ?_⟩
  refine wo ?_
  refine zX (m_ldln (s := 581) (cs := w2) rfl (all_take _ hw2l) hw2l) ?_
  refine p_callq (vwant_n rfl) rfl rfl rfl rfl (fun hp' hs => ncheck_d hs.ok (hw2.mono fun A c o cs h => h.sn _ _ [] _ hs fun p hp => by simp [hp])) ?_
  rw [if_pos hm]
  refine wo ?_
  refine zX (m_ldln (s := 581) (cs := w2) rfl (all_take _ hw2l) hw2l) ?_
  apply p_callY []; exact (vwant_n rfl); iterate 4 exact rfl
  case hC => exact (fun hp' hs ht => nencode_ok hm hs.ok (hw2.mono fun A c o cs h => h.sn _ _ [] _ hs fun p hp => by simp [hp]))
  rintro u N3 ⟨u3, rfl, hu3⟩
  have hu3' := hu3
  obtain ⟨A3, o3, rfl⟩ := hu3.sl
  refine wo ?_
  refine p_callq (vwant_n rfl) rfl rfl rfl rfl (fun hp' hs => num_d hs.ok) ?_
  refine wo ?_
  apply wm; iterate 5 exact rfl
  refine mv_int (v := .b true) rfl rfl (vi_eqlT (rfl))
  refine wo ?_
  refine p_callq (vwant_g rfl rfl rfl) rfl rfl rfl rfl (fun hp' hs => num_d hs.ok) ?_
  refine wo ?_
  apply wmg; iterate 7 exact rfl
  refine mv_int (v := .b true) rfl rfl (vi_eqlT (rfl))
  refine wo ?_
  apply p_op; exact (vwant_g rfl rfl rfl); iterate 4 exact rfl
  refine e_b2sZ (xs := ndB n) rfl hu3.src ⟨_, rfl, ?_⟩
  refine wo ?_
  apply p_op; exact (vwant_g rfl rfl rfl); iterate 4 exact rfl
  refine e_b2sZ (xs := ndB n) rfl hu1.src ⟨_, rfl, ?_⟩
  apply wmg; iterate 7 exact rfl
  refine m_eqs rfl rfl
  rw [beq_self_eq_true]
  refine wo ?_
  apply p_op; exact (vwant_g rfl rfl rfl); iterate 4 exact rfl
  refine e_bs (C := [.sl A3 (ndB n).length (ndB n).length o3]) rfl rfl (.cons rfl rfl .nil) rfl fun ba => ⟨_, rfl, ?_⟩
  have hrow : RowsK [.sl A3 (ndB n).length (ndB n).length o3] N3 := by
   have := RowsK.cons hu3' (by omega) RowsK.nil
   rwa [List.append_nil] at this
  apply p_callM (N3); exact (vwant_g rfl rfl rfl); iterate 4 exact rfl
  case hC => exact (fun hp' hs ht => apartN_d ht hs hrow rfl (by decide))
  rintro u N ⟨rfl, rfl⟩
  refine wo ?_
  refine zX (m_ldln (s := 581) (cs := w2) rfl (all_take _ hw2l) hw2l) ?_
  refine zX (m_ldln (s := 581) (cs := w) rfl (all_take _ hwl) hwl) ?_
  refine p_callq (vwant_g rfl rfl rfl) rfl rfl rfl rfl (fun hp' hs => laswas_d hs.ok hw2 hn (fun A c o cs h => h.give0 hs) (PRm.at hs fun p hp => by simp [hp]) (fun A cs h => h _ _ [] _ hs fun p hp => by simp [hp]) hl) ?_
  refine wo ?_
  refine p_callq (vwant_g rfl rfl rfl) rfl rfl rfl rfl (fun hp' hs => nknown_d hs.ok) ?_
  refine wo ?_
  exact w_ret (wend_ret (vres1 (rv_tmp rfl)) rfl)
end Go.Proofs.Ytabpegdalmagpaa
namespace Go.Proofs.Ytabpegdalmagpaa
open Go.ChangeShapes Go.WideShapes Go.ChangeAt Go.RowKit Go.Extern.Stop
set_option maxRecDepth 100000 in
theorem neContract (H : Type) (enc : TypeId × Value → H) (W : World) (base : Nat) (args : Array Value) (ds gs : List (DataW H)) (before : List MemPlace)
  (hval : ∀ (j : Nat) t v, Try.f4.params[j]? = some t → args[j]? = some v → Value.okWide Try.prog W .any base t v)
  (hW : DataW.Whole enc Try.prog Try.f4.params.toList Rows.nodeEncodesSpec.vars false W args.toList ds gs before) (hz : (DataW.weightsEach Try.prog (Try.f4.params.toList ++ Rows.nodeEncodesSpec.plain.varTypes Try.prog) (ds ++ gs)).all (· ≤ reachBytes) = true) :
  Calls Try.prog 4 args W fun e W' => ∃ v, e = .returned v ∧ Rows.nodeEncodesSpec.post enc Try.prog Try.f4 false true false false W args v W' := by
 have hW' := hW
 obtain ⟨p, q, hA0, hV, rfl, hfz, hnd⟩ := hW
 have hA : DataW.TrodAll enc Try.prog W 0 (fun _ => true) true Try.f4.params.toList args.toList ds p := hA0
 rw [Try.params4] at hA hval hz
 obtain ⟨v0, vs0, d0, ds0, p0, q0, e0, rfl, rfl, h0, r0⟩ := trodAll_cons hA
 obtain ⟨rfl, rfl⟩ := trodAll_nil r0
 obtain rfl : args = #[v0] := by cases args; simp_all
 obtain ⟨rfl, rfl⟩ := trodVars_none hV
 simp only [List.cons_append, List.nil_append, DataW.weightsEach, List.all_append, List.all_nil, List.append_nil, Bool.and_eq_true] at hz
 obtain ⟨e, rfl, hE⟩ := open_node (t := 29) (hval 0 _ v0 rfl rfl) h0 hz.1
 have hG0 : AtG e.g 0 e.g := AtG.zero
 have hb : ∀ x ∈ e.g, GvOk W (gvE e.g) x := fun x hx => nod_gv hE x hx
 have hargs : renL (gvE e.g) [.agg (nodV 0 e)] = some [.agg e.cells.toArray] := by
  have r0 := nod_ren1 hE hG0
  simp only [renL, r0, Option.bind_some, Option.map_some]
 have hro := fun (j : Nat) (x : GV) (hj : e.g[j]? = some x) => gv_ro (gs := []) no_g no_nb hb hj
 refine (gv_law (gs := []) no_g no_nb hb kxD_ok hargs (enclaw_d (gv_okH no_g no_nb hb) (nod_p hro hE hG0) hE.lens)).mono ?_
 rintro e W' ⟨rfl, hb⟩
 exact ⟨_, rfl, law_post hW' nLaidOut (by kernel_rfl) rfl (by kernel_rfl) rfl rfl rfl rfl hb⟩
set_option maxRecDepth 100000 in
theorem neLifted (os : Os) (started : os.Started) (H : Type) (enc : TypeId × Value → H) :
  ReturnsInHanded {} Try.checked os 4 .any (Rows.nodeEncodesSpec.pre6 enc Try.prog Try.f4 Rows.nodeEncodesRow.domain false) (Rows.nodeEncodesSpec.post enc Try.prog Try.f4 false true false false) := by
 refine returnsInHanded_of_change_sized (C := Try.checked) (s := Rows.nodeEncodesSpec) nOwn started (by kernel_rfl) Try.func4
  (ChangeSpec.witness6 (enc := enc) (C := Try.checked) (s := Rows.nodeEncodesSpec) false ⟨#[], #[zNodeV], []⟩ 8 (by kernel_rfl) (by kernel_rfl) (by kernel_rfl) (by kernel_rfl)) ?_
 intro W base args ds gs before hval hW _ hz _
 exact neContract H enc W base args ds gs before hval hW hz
theorem NodeEncodes_holds : Rows.NodeEncodesSaid :=
 OpenClaim.holds_of_wide 4 Try.f4 rfl rfl rfl rfl rfl rfl rfl ⟨rfl, rfl, rfl, rfl, rfl⟩ rfl rfl rfl rfl rfl (by kernel_rfl) Try.func4 (by kernel_rfl)
  (of_decide_eq_true (by kernel_rfl)) (by unfold Func.isWrapper; rw [if_neg (of_decide_eq_false (by kernel_rfl))]; exact ⟨rfl, rfl⟩)
  (fun os started H enc _ => neLifted os started H enc)
#print axioms NodeEncodes_holds
end Go.Proofs.Ytabpegdalmagpaa
