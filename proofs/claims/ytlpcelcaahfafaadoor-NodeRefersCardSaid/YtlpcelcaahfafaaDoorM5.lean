/- Part 5 of the proof: Ds3, Ww, Wp, Wq, Wk, Vp, Vgl, Wl, Wo, Dla, Dm1, Dm2, Ds4, Ds5, Ds6, Ds7, Ds8, Ds9, Ds10, Ds11, Ds12, Ds13, Ds14, Ds15, Ds16, Wr. By this project. -/
import Derived.Test.YtlpcelcaahfafaaDoorM4
import Derived.Test.YtlpcelcaahfafaaDoorRows
import Derived.WalkKit
import Derived.ProofKit
import Derived.OpenShut
import Derived.Deep.DeepHandedRow
import Derived.Test.YtlpcelcaahfafaaDoorCards
import Derived.ChangeSlices
import Derived.Deep.Slices
set_option linter.unusedVariables false
set_option linter.unusedSectionVars false
set_option linter.unusedSimpArgs false
/- Ds3: bytes written into a sha state. By this project. -/
set_option maxRecDepth 100000
namespace Go.Proofs.YtlpcelcaahfafaaDoor
open Go.RowKit Go.Extern.Stop

/-- sha's tables lie where they should, and are not turned. -/
structure Tab (B : Bs) : Prop where
  k : ∃ T, B.hp.t.get 2 = some (.cells (kW.map wV) T none false)
  kn : ¬ B.Own 2
  first : RB B (some (1, 0)) (firstW.map wV)
theorem Tab.give {B : Bs} {hp : Hp} {Lt Lr : HV} (h : Tab B) (hs : SV B hp (Lt ++ Lr)) : Tab ⟨hp, hnds Lt⟩ :=
  ⟨by obtain ⟨T, e⟩ := h.k; exact ⟨T, (hs.old _ h.kn).trans e⟩, fun ho => h.kn (hs.headL.ownT (hasT_hnds Lt) _ ho), h.first.give hs⟩
theorem Tab.giveA {B : Bs} {hp : Hp} {L : HV} (h : Tab B) (hs : SV B hp L) : Tab ⟨hp, hnds L⟩ := Tab.give (Lr := []) h (by rw [List.append_nil]; exact hs)
theorem Tab.give0 {B : Bs} {hp : Hp} {L : HV} (h : Tab B) (hs : SV B hp L) : Tab ⟨hp, []⟩ := Tab.give (Lt := []) h hs
/-- Bytes on their way into a state. -/
structure WrI where
  m : List UInt8
  xs : List UInt8
  rest : List UInt8
  A : Option (Nat × Nat)
  c : Nat
/-- Room: behind what is told of a slice with open room, some lies. -/
def CapOk (n c : Nat) (op : Bool) : Prop := n ≤ c ∧ (op = true → n < c)
theorem capOk_f {n c : Nat} (h : n ≤ c) : CapOk n c false := ⟨h, fun h => by simp at h⟩
set_option maxHeartbeats 4000000 in
theorem write_g {b c t : Nat} {op : Bool} {A : Option (Nat × Nat)} {xs m : List UInt8} {cs : List V} {hp : Hp} (h0 : SV ⟨hp, [b]⟩ hp [(some b, cellsO cs 79)]) (hk : Tab ⟨hp, [b]⟩) (hA : RB ⟨hp, [b]⟩ A (xs.map byV)) (hc : CapOk xs.length c op) (hst : StT cs m t) (hl : t + xs.length < 4611686018427387904) :
    Fn kxD 28 [.p (some (b, 0)), .sl A xs.length c op] hp [b] fun r N => ∃ u, r = .v u ∧ (u = .tup [] ∧ ∃ cs', StT cs' (m ++ xs) (t + xs.length) ∧ N = [(some b, cellsO cs' 79)]) := by
  obtain ⟨rest, hr, rfl⟩ := hst
  have hw := absN_len m (m.length / 64)
  refine fn_of_w h0 (fun _ => rfl) (fn := Tryd.f28) (by kernel_rfl) rfl rfl ?_
  refine wo ?_
  first | (apply wm; iterate 5 exact rfl) | (apply dm; iterate 6 exact rfl) | (apply wmg; iterate 7 exact rfl) | (apply dmg; iterate 8 exact rfl)
  refine m_eqp rfl rfl
  refine wo ?_
  first | refine zX (m_ldl rfl (by rw [Nat.zero_add]; exact stC_taken hw hr.1)) ?_ | refine yX (m_ldl rfl (by rw [Nat.zero_add]; exact stC_taken hw hr.1)) ?_
  refine wo ?_
  first | (apply p_do; exact (vwant_n rfl); exact rfl; exact rfl) | (apply d_do; exact (vwant_n rfl); exact rfl; exact noRd rfl; decide +kernel; exact rfl; rotate_left) | (apply p_do; exact (vwant_g rfl rfl rfl); exact rfl; exact rfl) | (apply d_do; exact (vwant_g rfl rfl rfl); exact rfl; exact noRd rfl; decide +kernel; exact rfl; rotate_left)
  refine e_st (C := stC (absN m (m.length / 64)) rest (m.length % 64) t) (C' := stC (absN m (m.length / 64)) rest (m.length % 64) (t + xs.length)) rfl rfl rfl (by rw [stC_len hw hr.1]; decide) (stC_set_taken hw hr.1 _) ⟨_, rfl, ?_⟩
  try (case hok => first | exact rdOk_nil | exact rdOk_b (by decide +kernel))
  refine wo ?_
  refine w_loop (ι := WrI) (fun s => [(0, .p (some (b, 0))), (1, .sl s.A s.xs.length s.c op)]) (fun s => [(some b, cellsO (stC (absN s.m (s.m.length / 64)) s.rest (s.m.length % 64) (t + xs.length)) 79)]) (fun s => s.m ++ s.xs = m ++ xs ∧ restOk s.rest s.m ∧ RB ⟨hp, [b]⟩ s.A (s.xs.map byV) ∧ CapOk s.xs.length s.c op ∧ s.xs.length ≤ xs.length) (fun s => s.xs.length) ⟨m, xs, rest, A, c⟩ ⟨rfl, hr, hA, hc, Nat.le_refl _⟩ ⟨rfl, rfl, trivial⟩ (fun hp h => h) ?_
  intro ⟨m', xs', rest', A', c'⟩ ⟨q1, q2, q3, q5, q6⟩
  dsimp only at q1 q2 q3 q5 q6 ⊢
  have hw' := absN_len m' (m'.length / 64)
  have hh : m'.length % 64 < 64 := Nat.mod_lt _ (by decide)
  have q5' := q5.1
  refine wo ?_
  by_cases g : 0 < xs'.length
  rotate_left
  · first | (apply wm; iterate 5 exact rfl) | (apply dm; iterate 6 exact rfl) | (apply wmg; iterate 7 exact rfl) | (apply dmg; iterate 8 exact rfl)
    refine mv_int (v := .b false) rfl rfl (vi_gtrF (by omega))
    refine wo ?_
    refine w_exit ?_
    obtain rfl : xs' = [] := List.length_eq_zero_iff.1 (by omega)
    rw [List.append_nil] at q1
    subst q1
    exact wend_norm vres0 ⟨_, rfl, rfl, _, ⟨rest', q2, rfl⟩, rfl⟩
  first | (apply wm; iterate 5 exact rfl) | (apply dm; iterate 6 exact rfl) | (apply wmg; iterate 7 exact rfl) | (apply dmg; iterate 8 exact rfl)
  refine mv_int (v := .b true) rfl rfl (vi_gtrT (by omega))
  refine wo ?_
  first | refine zX (m_ldl rfl (by rw [Nat.zero_add]; exact stC_held hw' q2.1)) ?_ | refine yX (m_ldl rfl (by rw [Nat.zero_add]; exact stC_held hw' q2.1)) ?_
  first | refine zX (m_sla rfl (bl_some rfl) bl_none (Nat.le_of_lt hh) (Nat.le_refl _) hh) ?_ | refine yX (m_sla rfl (bl_some rfl) bl_none (Nat.le_of_lt hh) (Nat.le_refl _) hh) ?_
  refine wo ?_
  have hq0 : 0 < min xs'.length (64 - m'.length % 64) := by omega
  have hq1 : min xs'.length (64 - m'.length % 64) ≤ xs'.length := by omega
  have hq2 : m'.length % 64 + min xs'.length (64 - m'.length % 64) ≤ 64 := by omega
  have hq3 : m'.length % 64 + min xs'.length (64 - m'.length % 64) = 64 ∨ min xs'.length (64 - m'.length % 64) = xs'.length := by omega
  first | (apply p_op; exact (vwant_n rfl); iterate 4 exact rfl) | (apply d_op; exact (vwant_n rfl); exact rfl; exact noRd rfl; decide +kernel; (iterate 3 exact rfl); rotate_left) | (apply p_op; exact (vwant_g rfl rfl rfl); iterate 4 exact rfl) | (apply d_op; exact (vwant_g rfl rfl rfl); exact rfl; exact noRd rfl; decide +kernel; (iterate 3 exact rfl); rotate_left)
  refine e_copy (C := stC (absN m' (m'.length / 64)) rest' (m'.length % 64) (t + xs.length)) (C' := stC (absN m' (m'.length / 64)) (putB rest' (m'.length % 64) (xs'.take (min xs'.length (64 - m'.length % 64)))) (m'.length % 64) (t + xs.length)) rfl rfl q3.z (by simp) (vs := (xs'.take (min xs'.length (64 - m'.length % 64))).map byV) List.map_take.symm (fun e => by have := congrArg List.length e; rw [List.length_map, List.length_take, List.length_nil] at this; omega) (by rw [stC_len hw' q2.1, List.length_map, List.length_take]; omega) (by rw [Nat.zero_add]; exact stC_put hw' q2.1 (by rw [List.length_take]; omega)) ⟨_, rfl, ?_⟩
  try (case hok => first | exact rdOk_nil | exact rdOk_b (by decide +kernel))
  have hAs : ∃ a, A' = some a := by
    cases hq : xs'.map byV with
    | nil => have := congrArg List.length hq; simp at this; rw [this] at g; simp at g
    | cons v r =>
      obtain ⟨b, o, e⟩ := rv_some (by rw [← hq]; exact q3.1.rv)
      exact ⟨_, e⟩
  have hq5 : op = true → min xs'.length (64 - m'.length % 64) < c' := fun h => by have := q5.2 h; omega
  generalize hq : min xs'.length (64 - m'.length % 64) = q at *
  have hlq : (xs'.take q).length = q := by simp; omega
  have hpl : (putB rest' (m'.length % 64) (xs'.take q)).length = 64 := by rw [putB_len (by rw [hlq, q2.1]; exact hq2), q2.1]
  refine wo ?_
  first | refine zX (m_slg rfl (bl_some rfl) bl_none hq1 q5.1 hq5 (fun _ => hAs)) ?_ | refine yX (m_slg rfl (bl_some rfl) bl_none hq1 q5.1 hq5 (fun _ => hAs)) ?_
  refine wo ?_
  first | refine zX (m_ldl rfl (by rw [Nat.zero_add]; exact stC_held hw' hpl)) ?_ | refine yX (m_ldl rfl (by rw [Nat.zero_add]; exact stC_held hw' hpl)) ?_
  refine wo ?_
  first | (apply p_do; exact (vwant_n rfl); exact rfl; exact rfl) | (apply d_do; exact (vwant_n rfl); exact rfl; exact noRd rfl; decide +kernel; exact rfl; rotate_left) | (apply p_do; exact (vwant_g rfl rfl rfl); exact rfl; exact rfl) | (apply d_do; exact (vwant_g rfl rfl rfl); exact rfl; exact noRd rfl; decide +kernel; exact rfl; rotate_left)
  refine e_st (C := stC (absN m' (m'.length / 64)) (putB rest' (m'.length % 64) (xs'.take q)) (m'.length % 64) (t + xs.length)) (C' := stC (absN m' (m'.length / 64)) (putB rest' (m'.length % 64) (xs'.take q)) (m'.length % 64 + q) (t + xs.length)) rfl rfl rfl (by rw [stC_len hw' hpl]; decide) (stC_set_held hw' hpl _) ⟨_, rfl, ?_⟩
  try (case hok => first | exact rdOk_nil | exact rdOk_b (by decide +kernel))
  refine wo ?_
  first | refine zX (m_ldl rfl (by rw [Nat.zero_add]; exact stC_held hw' hpl)) ?_ | refine yX (m_ldl rfl (by rw [Nat.zero_add]; exact stC_held hw' hpl)) ?_
  refine wo ?_
  by_cases g2 : m'.length % 64 + q = 64
  · first | (apply wm; iterate 5 exact rfl) | (apply dm; iterate 6 exact rfl) | (apply wmg; iterate 7 exact rfl) | (apply dmg; iterate 8 exact rfl)
    refine mv_int (v := .b true) rfl rfl (vi_eqlT (by omega))
    refine wo ?_
    first | refine p_callT ([(some b, cellsO (stC (absN m' (m'.length / 64)) (putB rest' (m'.length % 64) (xs'.take q)) (m'.length % 64 + q) (t + xs.length)) 79)]) ([]) (vwant_n rfl) rfl rfl rfl rfl ((fun hp h => h)) (fun hp hs ht => block_d ht (hk.giveA hs).k hw' (absN_lt _ _) hpl) ?_ | refine d_callT ([(some b, cellsO (stC (absN m' (m'.length / 64)) (putB rest' (m'.length % 64) (xs'.take q)) (m'.length % 64 + q) (t + xs.length)) 79)]) ([]) (vwant_n rfl) (by decide +kernel) rfl rfl rfl rfl (by first | exact rdOk_nil | exact rdOk_b (by decide +kernel)) ((fun hp h => h)) (fun hp hs ht => block_d ht (hk.giveA hs).k hw' (absN_lt _ _) hpl) ?_ | refine p_callT ([(some b, cellsO (stC (absN m' (m'.length / 64)) (putB rest' (m'.length % 64) (xs'.take q)) (m'.length % 64 + q) (t + xs.length)) 79)]) ([]) (vwant_g rfl rfl rfl) rfl rfl rfl rfl ((fun hp h => h)) (fun hp hs ht => block_d ht (hk.giveA hs).k hw' (absN_lt _ _) hpl) ?_ | refine d_callT ([(some b, cellsO (stC (absN m' (m'.length / 64)) (putB rest' (m'.length % 64) (xs'.take q)) (m'.length % 64 + q) (t + xs.length)) 79)]) ([]) (vwant_g rfl rfl rfl) (by decide +kernel) rfl rfl rfl rfl (by first | exact rdOk_nil | exact rdOk_b (by decide +kernel)) ((fun hp h => h)) (fun hp hs ht => block_d ht (hk.giveA hs).k hw' (absN_lt _ _) hpl) ?_
    rintro u N rfl
    have hw2 := absN_len (m' ++ xs'.take q) ((m' ++ xs'.take q).length / 64)
    have hfull : m'.length % 64 + (xs'.take q).length = 64 := by rw [hlq]; exact g2
    have e2 := rest_full q2 hfull
    have e1 : ((blk (absN m' (m'.length / 64)) (putB rest' (m'.length % 64) (xs'.take q))).map wV ++ ((putB rest' (m'.length % 64) (xs'.take q)).map byV ++ [.i .i64 ((m'.length % 64 + q : Nat) : Int), .i .i64 ((t + xs.length : Nat) : Int)])) = stC (absN (m' ++ xs'.take q) ((m' ++ xs'.take q).length / 64)) (putB rest' (m'.length % 64) (xs'.take q)) (m'.length % 64 + q) (t + xs.length) := by
      rw [absN_full q2 hfull]; rfl
    refine wl_heap (L' := [(some b, cellsO (stC (absN (m' ++ xs'.take q) ((m' ++ xs'.take q).length / 64)) (putB rest' (m'.length % 64) (xs'.take q)) (m'.length % 64 + q) (t + xs.length)) 79)]) (fun hp h => by rw [← e1]; exact h) ?_
    refine wo ?_
    first | (apply p_do; exact (vwant_n rfl); exact rfl; exact rfl) | (apply d_do; exact (vwant_n rfl); exact rfl; exact noRd rfl; decide +kernel; exact rfl; rotate_left) | (apply p_do; exact (vwant_g rfl rfl rfl); exact rfl; exact rfl) | (apply d_do; exact (vwant_g rfl rfl rfl); exact rfl; exact noRd rfl; decide +kernel; exact rfl; rotate_left)
    refine e_st (C' := stC (absN (m' ++ xs'.take q) ((m' ++ xs'.take q).length / 64)) (putB rest' (m'.length % 64) (xs'.take q)) ((0 : Nat)) (t + xs.length)) rfl rfl rfl (by rw [stC_len hw2 hpl]; decide) (stC_set_held hw2 hpl 0) ⟨_, rfl, ?_⟩
    try (case hok => first | exact rdOk_nil | exact rdOk_b (by decide +kernel))
    refine wo ?_
    refine ⟨rfl, ⟨m' ++ xs'.take q, xs'.drop q, putB rest' (m'.length % 64) (xs'.take q), _, c' - q⟩, ⟨by rw [List.append_assoc, List.take_append_drop]; exact q1, restOk_full q2 hfull, by have := q3.off (i := q) (c := c') (by simpa using q5.1); rwa [← List.map_drop] at this, ⟨by simp; omega, fun h => by have := q5.2 h; simp; omega⟩, by simp; omega⟩, by simp; omega, ⟨rfl, by rw [List.length_drop]; rfl, trivial⟩, fun hp h => ?_⟩
    rw [e2.2.1]
    exact h
  · first | (apply wm; iterate 5 exact rfl) | (apply dm; iterate 6 exact rfl) | (apply wmg; iterate 7 exact rfl) | (apply dmg; iterate 8 exact rfl)
    refine mv_int (v := .b false) rfl rfl (vi_eqlF (by omega))
    refine wo ?_
    have hlt : m'.length % 64 + (xs'.take q).length < 64 := by rw [hlq]; omega
    have hxs : q = xs'.length := by omega
    have e3 : (m' ++ xs'.take q).length % 64 = m'.length % 64 + q := by rw [List.length_append, hlq]; omega
    have e4 : (m' ++ xs'.take q).length / 64 = m'.length / 64 := by rw [List.length_append, hlq]; omega
    refine ⟨rfl, ⟨m' ++ xs'.take q, xs'.drop q, putB rest' (m'.length % 64) (xs'.take q), _, c' - q⟩, ⟨by rw [List.append_assoc, List.take_append_drop]; exact q1, restOk_put q2 hlt, by have := q3.off (i := q) (c := c') (by simpa using q5.1); rwa [← List.map_drop] at this, ⟨by simp; omega, fun h => by have := q5.2 h; simp; omega⟩, by simp; omega⟩, by simp; omega, ⟨rfl, by rw [List.length_drop]; rfl, trivial⟩, fun hp h => ?_⟩
    rw [e3, e4, absN_app _ _ _ (by omega)]
    exact h
theorem write_d {b c t : Nat} {A : Option (Nat × Nat)} {xs m : List UInt8} {cs : List V} {hp : Hp} (h0 : SV ⟨hp, [b]⟩ hp [(some b, cellsO cs 79)]) (hk : Tab ⟨hp, [b]⟩) (hA : RB ⟨hp, [b]⟩ A (xs.map byV)) (hc : xs.length ≤ c) (hst : StT cs m t) (hl : t + xs.length < 4611686018427387904) :
    Fn kxD 28 [.p (some (b, 0)), .sl A xs.length c false] hp [b] fun r N => ∃ u, r = .v u ∧ (u = .tup [] ∧ ∃ cs', StT cs' (m ++ xs) (t + xs.length) ∧ N = [(some b, cellsO cs' 79)]) :=
  write_g h0 hk hA (capOk_f hc) hst hl
theorem write_n {b c t n : Nat} {A : Option (Nat × Nat)} {xs m : List UInt8} {cs : List V} {hp : Hp} (hn : xs.length = n) (h0 : SV ⟨hp, [b]⟩ hp [(some b, cellsO cs 79)]) (hk : Tab ⟨hp, [b]⟩) (hA : RB ⟨hp, [b]⟩ A (xs.map byV)) (hc : n ≤ c) (hst : StT cs m t) (hl : t + n < 4611686018427387904) :
    Fn kxD 28 [.p (some (b, 0)), .sl A n c false] hp [b] fun r N => ∃ u, r = .v u ∧ (u = .tup [] ∧ ∃ cs', StT cs' (m ++ xs) (t + n) ∧ N = [(some b, cellsO cs' 79)]) := by
  subst hn
  exact write_d h0 hk hA hc hst hl
end Go.Proofs.YtlpcelcaahfafaaDoor
/- Ww: words and bytes on the machine: what the operations make of them. By this project. -/
set_option maxRecDepth 100000
namespace Go.Proofs.YtlpcelcaahfafaaDoor
open Go.RowKit Go.Extern.Stop

theorem wV_def (n : Nat) : wV n = .i .u32 ((n % 4294967296 : Nat) : Int) := rfl
theorem vw_add (x y : Nat) : vint .add .u32 ((x % 4294967296 : Nat) : Int) ((y % 4294967296 : Nat) : Int) = some (wV (addW x y)) := by
  show some (V.i .u32 (IntKind.u32.wrap _)) = _
  rw [← Int.natCast_add, wrap32, wV_def]
  unfold addW
  show some (V.i .u32 (((x % 4294967296 + y % 4294967296) % 4294967296 : Nat) : Int)) = some (V.i .u32 ((((x + y) % 4294967296) % 4294967296 : Nat) : Int))
  congr 3
  omega
theorem vw_and (x y : Nat) : vint .and .u32 ((x % 4294967296 : Nat) : Int) ((y % 4294967296 : Nat) : Int) = some (wV (Nat.land x y)) := by
  show some (V.i .u32 (IntKind.u32.wrap _)) = _
  rw [BitVec.toNat_and, of32, of32, mod_land, wrap32, Nat.mod_mod]
  rfl
theorem vw_or (x y : Nat) : vint .or .u32 ((x % 4294967296 : Nat) : Int) ((y % 4294967296 : Nat) : Int) = some (wV (Nat.lor x y)) := by
  show some (V.i .u32 (IntKind.u32.wrap _)) = _
  rw [BitVec.toNat_or, of32, of32, mod_lor, wrap32, Nat.mod_mod]
  rfl
theorem vw_xor (x y : Nat) : vint .xor .u32 ((x % 4294967296 : Nat) : Int) ((y % 4294967296 : Nat) : Int) = some (wV (Nat.xor x y)) := by
  show some (V.i .u32 (IntKind.u32.wrap _)) = _
  rw [BitVec.toNat_xor, of32, of32, mod_xor, wrap32, Nat.mod_mod]
  rfl
theorem vw_not (x : Nat) : vun .xor (.i .u32 ((x % 4294967296 : Nat) : Int)) = some (wV (notW x)) := by
  have h : vint .xor .u32 (((4294967295 : Nat) % 4294967296 : Nat) : Int) ((x % 4294967296 : Nat) : Int) = some (wV (Nat.xor 4294967295 x)) := vw_xor 4294967295 x
  unfold notW
  exact h
theorem vw_shr (x : Nat) {n : Nat} (hn : n ≤ 32) : vshift .shr .u32 ((x % 4294967296 : Nat) : Int) (n : Int) = some (wV (shrW x n)) := by
  show some (V.i .u32 (Int.fdiv _ (2 ^ min n IntKind.u32.bits))) = _
  have e : min n IntKind.u32.bits = n := by simp [IntKind.bits]; omega
  rw [e, wV_def]
  unfold shrW
  have h2 : (x % 4294967296) / 2 ^ n < 4294967296 := Nat.lt_of_le_of_lt (Nat.div_le_self _ _) (Nat.mod_lt _ (by omega))
  show _ = some (V.i .u32 ((((x % 4294967296) / 2 ^ n) % 4294967296 : Nat) : Int))
  rw [Nat.mod_eq_of_lt h2]
  congr 2
  rw [Int.fdiv_eq_ediv_of_nonneg _ (by exact_mod_cast Nat.zero_le _)]
  norm_cast
theorem vw_shl (x : Nat) {n : Nat} (hn : n ≤ 32) : vshift .shl .u32 ((x % 4294967296 : Nat) : Int) (n : Int) = some (wV (shlW x n)) := by
  show some (V.i .u32 (IntKind.u32.wrap (_ * 2 ^ min n IntKind.u32.bits))) = _
  have e : min n IntKind.u32.bits = n := by simp [IntKind.bits]; omega
  rw [e, wV_def]
  have h2 : (((x % 4294967296 : Nat) : Int) * 2 ^ n) = (((x % 4294967296) * 2 ^ n : Nat) : Int) := by norm_cast
  rw [h2, wrap32]
  unfold shlW
  show some (V.i .u32 ((((x % 4294967296) * 2 ^ n) % 4294967296 : Nat) : Int)) = some (V.i .u32 ((((x * 2 ^ n) % 4294967296) % 4294967296 : Nat) : Int))
  rw [Nat.mod_mod, Nat.mod_mul_mod]
section
variable {K : Kx} {hp0 : Bs} {l : VL} {L : HV} {a b : Operand} {t t' : TypeId} {x y : Nat}
theorem mw_add (hx : evL l a = some (wV x)) (hy : evL l b = some (wV y)) : MVO K hp0 l L (.binOp .add t a b t') (wV (addW x y)) := mv_int hx hy (vw_add x y)
theorem mw_and (hx : evL l a = some (wV x)) (hy : evL l b = some (wV y)) : MVO K hp0 l L (.binOp .and t a b t') (wV (Nat.land x y)) := mv_int hx hy (vw_and x y)
theorem mw_or (hx : evL l a = some (wV x)) (hy : evL l b = some (wV y)) : MVO K hp0 l L (.binOp .or t a b t') (wV (Nat.lor x y)) := mv_int hx hy (vw_or x y)
theorem mw_xor (hx : evL l a = some (wV x)) (hy : evL l b = some (wV y)) : MVO K hp0 l L (.binOp .xor t a b t') (wV (Nat.xor x y)) := mv_int hx hy (vw_xor x y)
theorem pw_not (hx : evL l a = some (wV x)) : PV K.C l (.unOp .xor t a) (wV (notW x)) := pv_un hx (vw_not x)
theorem mw_shr {k : IntKind} {n : Nat} (hx : evL l a = some (wV x)) (hy : evL l b = some (.i k (n : Int))) (hn : n ≤ 32) : MVO K hp0 l L (.binOp .shr t a b t') (wV (shrW x n)) := mv_sh hx hy (vw_shr x hn)
theorem mw_shl {k : IntKind} {n : Nat} (hx : evL l a = some (wV x)) (hy : evL l b = some (.i k (n : Int))) (hn : n ≤ 32) : MVO K hp0 l L (.binOp .shl t a b t') (wV (shlW x n)) := mv_sh hx hy (vw_shl x hn)
theorem mw_c8 {s : TypeId} {n : Nat} [hs : IntV K.C s .u8] [ht : IntV K.C t .u32] (hx : evL l a = some (.i .u8 (n : Int))) : MVO K hp0 l L (.convert s t a) (wV n) := by
  have := m_conv (K := K) (hp0 := hp0) (L := L) (s := s) (t := t) hx
  rw [wrap32] at this
  exact this
end
theorem wV_zero : wV 0 = .i .u32 (.ofNat 0) := rfl
theorem wV_cells (n : Nat) : (wV n).cells = some [wV n] := rfl
attribute [local irreducible] wV
theorem wL_at {V : List Nat} {n j : Nat} (h : V.length = n) (hj : j < n) : (V.map wV)[j]? = some (wV (wordN V j)) := by
  unfold wordN
  rw [List.getElem?_map, List.getD_eq_getElem?_getD, List.getElem?_eq_getElem (by omega)]
  rfl
theorem bV_at {b : List UInt8} {j : Nat} (h : j < b.length) : (b.map byV)[j]? = some (.i .u8 ((byteN b j : Nat) : Int)) := by
  rw [List.getElem?_map, byteN, List.getElem?_eq_getElem h]
  rfl
def wCV (b : List UInt8) (t : Nat) : List V := (wExp b t).map wV ++ List.replicate (64 - t) (wV 0)
theorem wCV_len (b : List UInt8) {t : Nat} (h : t ≤ 64) : (wCV b t).length = 64 := by simp [wCV, wExp_len]; omega
theorem wCV_at (b : List UInt8) {i t : Nat} (h : i < t) : (wCV b t)[i]? = some (wV (wordN (wExp b t) i)) := by
  unfold wCV
  rw [List.getElem?_append_left (by simp [wExp_len]; exact h)]
  exact wL_at (wExp_len b t) h
theorem wCV_zero (b : List UInt8) : wCV b 0 = List.replicate 64 (wV 0) := by simp [wCV, wExp]
theorem wCV_all (b : List UInt8) : wCV b 64 = (wExp b 64).map wV := by simp [wCV]
theorem wCV_succ (b : List UInt8) {t : Nat} (h : t < 64) {x : Nat} (hx : x = wNext b (wExp b t) t) : (wCV b t).set t (wV x) = wCV b (t + 1) := by
  unfold wCV
  rw [List.set_append_right _ _ (by simp [wExp_len])]
  simp only [List.length_map, wExp_len, Nat.sub_self]
  rw [show 64 - t = (64 - (t + 1)) + 1 by omega, List.replicate_succ, List.set_cons_zero, hx]
  simp [wExp]
theorem addW_ref (a b c d : Nat) : addW (addW (addW a b) c) d = addW a (addW (addW b d) c) := by
  unfold addW
  show (((a + b) % 4294967296 + c) % 4294967296 + d) % 4294967296 = (a + ((b + d) % 4294967296 + c) % 4294967296) % 4294967296
  omega


/-! ### Bytes, numbers that count -/
theorem wrapU8 (n : Nat) : IntKind.u8.wrap (n : Int) = ((n % 256 : Nat) : Int) := by
  simp [IntKind.wrap, IntKind.bits, IntKind.signed]
theorem byV_ofNat (n : Nat) : byV (UInt8.ofNat n) = .i .u8 ((n % 256 : Nat) : Int) := by
  simp [byV, UInt8.toNat_ofNat]
theorem wrapU64 {n : Nat} (h : n < 18446744073709551616) : IntKind.u64.wrap (n : Int) = (n : Int) := by
  simp [IntKind.wrap, IntKind.bits, IntKind.signed]
  omega
theorem byV_cells (x : UInt8) : (byV x).cells = some [byV x] := rfl
section
variable {K : Kx} {hp0 : Bs} {l : VL} {L : HV} {a b : Operand} {t t' : TypeId}
theorem m_convB {s : TypeId} {q : IntKind} {p : Int} {n : Nat} [hs : IntV K.C s q] [ht : IntV K.C t .u8] (hx : evL l a = some (.i q p)) [hn : CastN p n] : MVO K hp0 l L (.convert s t a) (byV (UInt8.ofNat n)) := by
  have := m_conv (K := K) (hp0 := hp0) (L := L) (s := s) (t := t) hx
  rw [hn.h, wrapU8, ← byV_ofNat] at this
  exact this
theorem m_convU {s : TypeId} {q : IntKind} {p : Int} {n : Nat} [hs : IntV K.C s q] [ht : IntV K.C t .u64] (hx : evL l a = some (.i q p)) [hn : CastN p n] (h : n < 18446744073709551616) : MVO K hp0 l L (.convert s t a) (.i .u64 (n : Int)) := by
  have := m_conv (K := K) (hp0 := hp0) (L := L) (s := s) (t := t) hx
  rw [hn.h, wrapU64 h] at this
  exact this
theorem vsh_shr {q : IntKind} {n k : Nat} (hk : k ≤ q.bits) : vshift .shr q (n : Int) (k : Int) = some (.i q ((n / 2 ^ k : Nat) : Int)) := by
  show some (V.i q (Int.fdiv _ (2 ^ min k q.bits))) = _
  rw [show min k q.bits = k by omega]
  congr 2
  rw [Int.fdiv_eq_ediv_of_nonneg _ (by exact_mod_cast Nat.zero_le _)]
  norm_cast
theorem m_shrN {q k : IntKind} {x y : Int} {n m : Nat} (hx : evL l a = some (.i q x)) (hy : evL l b = some (.i k y)) [hn : CastN x n] [hm : CastN y m] (hk : m ≤ q.bits) : MVO K hp0 l L (.binOp .shr t a b t') (.i q ((n / 2 ^ m : Nat) : Int)) := by
  refine mv_sh hx hy ?_
  rw [hn.h, hm.h]
  exact vsh_shr hk
theorem vB_xor (x y : UInt8) : vint .xor .u8 (.ofNat x.toNat) (.ofNat y.toNat) = some (byV (x ^^^ y)) := by
  show some (V.i .u8 (IntKind.u8.wrap _)) = _
  have of8 : ∀ z : UInt8, (BitVec.ofInt IntKind.u8.bits (Int.ofNat z.toNat)).toNat = z.toNat := fun z => by
    have := z.toNat_lt
    simp [IntKind.bits]
  rw [BitVec.toNat_xor, of8, of8, wrapU8]
  have h : (x ^^^ y).toNat = x.toNat ^^^ y.toNat := UInt8.toNat_xor x y
  have h2 := (x ^^^ y).toNat_lt
  rw [h] at h2
  rw [Nat.mod_eq_of_lt h2]
  show _ = some (V.i .u8 (Int.ofNat (x ^^^ y).toNat))
  rw [h]
  rfl
theorem m_xorB {x y : UInt8} (hx : evL l a = some (byV x)) (hy : evL l b = some (byV y)) : MVO K hp0 l L (.binOp .xor t a b t') (byV (x ^^^ y)) := mv_int hx hy (vB_xor x y)
end
end Go.Proofs.YtlpcelcaahfafaaDoor
/- Wp: rows of bytes compared; maps looked into; least and greatest. By this project. -/
set_option maxRecDepth 100000
namespace Go.Proofs.YtlpcelcaahfafaaDoor
open Go.RowKit Go.Extern.Stop

/-! ### Equal bytes -/
theorem veq_u8 {C : Cx} {hp : Hp} {d : Nat} {e : TypeId} [hI : IntV C e .u8] (a b : UInt8) : veq C hp (d + 1) e (byV a) (byV b) = some (decide (a = b)) := by
  obtain ⟨ti, h1, h2⟩ := hI.h
  have e1 : intEq (Int.ofNat a.toNat) (Int.ofNat b.toNat) = decide (a = b) := by
    show Nat.beq a.toNat b.toNat = _
    rw [Bool.eq_iff_iff]
    simp only [decide_eq_true_eq]
    exact ⟨fun h => UInt8.toNat_inj.1 (Nat.eq_of_beq_eq_true h), fun h => by subst h; exact Nat.beq_refl _⟩
  simp only [veq, h1, Option.bind_some, h2, byV, e1]
  rfl
theorem eqEs_by {C : Cx} {hp : Hp} {d : Nat} {e : TypeId} [hI : IntV C e .u8] [hR : RowV C e false] : ∀ (xs ys : List UInt8), xs.length = ys.length → eqEs (veq C hp (d + 1) e) C e 1 xs.length (xs.map byV) (ys.map byV) = some (decide (xs = ys))
  | [], [], _ => rfl
  | a :: r, b :: s, h => by
    obtain ⟨ti, h1, h2⟩ := hR.h
    have ih := eqEs_by (C := C) (hp := hp) (d := d) (e := e) r s (by simpa using h)
    have p1 : ∀ (x : V) (l : List V), partV C e (x :: l) 0 = some x := fun x l => by simp [partV, h1, h2, getL_eq]
    simp only [List.length_cons, List.map_cons, eqEs, p1, Option.bind_some, veq_u8, dropF_eq, List.drop_succ_cons, List.drop_zero, ih]
    by_cases c : a = b <;> simp [c]
theorem veq_by {C : Cx} {hp : Hp} {d n : Nat} {t e : TypeId} [hA : ArrV C t n e] [hI : IntV C e .u8] [hR : RowV C e false] [hS : SizeV C e 1] {xs ys : List UInt8} (hx : xs.length = n) (hy : ys.length = n) : veq C hp (d + 2) t (.agg (xs.map byV)) (.agg (ys.map byV)) = some (decide (xs = ys)) := by
  obtain ⟨ti, h1, h2⟩ := hA.h
  obtain ⟨te, h3, h4⟩ := hS.h
  have := eqEs_by (C := C) (hp := hp) (d := d) (e := e) xs ys (by omega)
  rw [hx] at this
  rw [veq.eq_2]
  simp only [h1, Option.bind_some, h2, h3, h4]
  exact this
theorem mapEq_s {C : Cx} {hp : Hp} {t : TypeId} [hS : StrV C t] (a b : List UInt8) : mapEq C hp t (.s a) (.s b) = some (decide (a = b)) := by
  obtain ⟨ti, h1, h2⟩ := hS.h
  show veq C hp 3 t (.s a) (.s b) = _
  simp only [veq, h1, Option.bind_some, h2, byEq_iff]
  congr 1
  by_cases c : a = b <;> simp [c]
theorem mapEq_by {C : Cx} {hp : Hp} {n : Nat} {t e : TypeId} [hA : ArrV C t n e] [hI : IntV C e .u8] [hR : RowV C e false] [hS : SizeV C e 1] {xs ys : List UInt8} (hx : xs.length = n) (hy : ys.length = n) : mapEq C hp t (.agg (xs.map byV)) (.agg (ys.map byV)) = some (decide (xs = ys)) := by
  obtain ⟨ti, h1, h2⟩ := hA.h
  have e1 : (Nat.beq (lenF (xs.map byV)) n && Nat.beq (lenF (ys.map byV)) n) = true := by
    rw [lenF_eq, lenF_eq, List.length_map, List.length_map, hx, hy]; simp
  simp only [mapEq, h1, Option.bind_some, h2, e1]
  exact veq_by hx hy
/-- Keys that are looked for. -/
class KeyV (C : Cx) (hp : Hp) (kt : TypeId) {α : Type} (f : α → V) (ok : α → Prop) : Prop where
  fit : ∀ a, ok a → keyFit C kt (f a) = true
  eq : ∀ a b, ok a → ok b → ∃ t : Bool, mapEq C hp kt (f a) (f b) = some t ∧ (t = true ↔ a = b)
instance keyS {C : Cx} {hp : Hp} {t : TypeId} [hS : StrV C t] : KeyV C hp t V.s (fun _ => True) := ⟨fun a _ => by
  obtain ⟨ti, h1, h2⟩ := hS.h
  simp only [keyFit, h1, h2], fun a b _ _ => ⟨_, mapEq_s a b, by simp⟩⟩
instance keyB' {C : Cx} {hp : Hp} {n : Nat} {t e : TypeId} [hA : ArrV C t n e] [hI : IntV C e .u8] [hR : RowV C e false] [hS : SizeV C e 1] : KeyV C hp t (fun xs : List UInt8 => V.agg (xs.map byV)) (fun xs => xs.length = n) := ⟨fun a ha => by
  obtain ⟨ti, h1, h2⟩ := hA.h
  obtain ⟨te, h3, h4⟩ := hS.h
  obtain ⟨te', h5, h6⟩ := hI.h
  rw [h3] at h5
  obtain rfl := Option.some.inj h5
  simp only [keyFit, h1, h2, h3, h6, h4, lenF_eq, List.length_map, ha]
  simp, fun a b ha hb => ⟨_, mapEq_by ha hb, by simp⟩⟩
/-- Entries with such keys. -/
def entE {α : Type} (f : α → V) (ks : List α) (vs : List V) : List (V × V × Nat) := (ks.zip vs).zipIdx.map fun x => (f x.1.1, x.1.2, x.2)
def entI {α : Type} (f : α → V) (ks : List α) (vs : List V) (i : Nat) : List (V × V × Nat) := ((ks.zip vs).zipIdx i).map fun x => (f x.1.1, x.1.2, x.2)
theorem entE_len {α : Type} (f : α → V) {ks : List α} {vs : List V} (h : vs.length = ks.length) : (entE f ks vs).length = ks.length := by simp [entE, h]
section
variable {C : Cx} {hp : Hp} {kt : TypeId} {α : Type} {f : α → V} {ok : α → Prop} [hK : KeyV C hp kt f ok]
theorem find_none : ∀ {ks : List α} {vs : List V} {k : α} (i : Nat) (b : Nat), (∀ x ∈ ks, ok x) → ok k → k ∉ ks → vs.length = ks.length → findV (mapEq C hp kt) (f k) (entI f ks vs b) i = some none
  | [], vs, k, i, b, _, _, _, _ => by simp [entI, findV]
  | x :: r, [], k, i, b, _, _, _, h => by simp at h
  | x :: r, v :: vs, k, i, b, hx, hk, hn, hl => by
    obtain ⟨t, h1, h2⟩ := hK.eq k x hk (hx x (by simp))
    have ht : t = false := by
      cases t with
      | false => rfl
      | true => exact absurd (h2.1 rfl) (fun e => hn (by simp [e]))
    have ih := find_none (ks := r) (vs := vs) (k := k) (i + 1) (b + 1) (fun y hy => hx y (by simp [hy])) hk (fun h => hn (by simp [h])) (by simpa using hl)
    have e : entI f (x :: r) (v :: vs) b = (f x, v, b) :: entI f r vs (b + 1) := by simp [entI, List.zipIdx_cons]
    rw [e]
    simp only [findV, h1, ht, Option.bind_some]
    exact ih
theorem find_some : ∀ {ks : List α} {vs : List V} {k : α} {j : Nat} {v : V} (i : Nat) (b : Nat), (∀ x ∈ ks, ok x) → ks.Nodup → vs.length = ks.length → ks[j]? = some k → vs[j]? = some v → findV (mapEq C hp kt) (f k) (entI f ks vs b) i = some (some (i + j, v))
  | [], vs, k, j, v, i, b, _, _, _, hj, _ => by simp at hj
  | x :: r, [], k, j, v, i, b, _, _, h, _, _ => by simp at h
  | x :: r, u :: vs, k, j, v, i, b, hx, hn, hl, hj, hv => by
    have e : entI f (x :: r) (u :: vs) b = (f x, u, b) :: entI f r vs (b + 1) := by simp [entI, List.zipIdx_cons]
    rw [e]
    cases j with
    | zero =>
      simp only [List.getElem?_cons_zero, Option.some.injEq] at hj hv
      subst hj hv
      obtain ⟨t, h1, h2⟩ := hK.eq x x (hx x (by simp)) (hx x (by simp))
      have ht := h2.2 rfl
      simp only [findV, h1, ht, Option.bind_some, Nat.add_zero]
    | succ j =>
      simp only [List.getElem?_cons_succ] at hj hv
      have hm : k ∈ r := List.mem_of_getElem? hj
      have hne : k ≠ x := fun e => (List.nodup_cons.1 hn).1 (e ▸ hm)
      obtain ⟨t, h1, h2⟩ := hK.eq k x (hx k (by simp [hm])) (hx x (by simp))
      have ht : t = false := by
        cases t with
        | false => rfl
        | true => exact absurd (h2.1 rfl) hne
      have ih := find_some (ks := r) (vs := vs) (k := k) (j := j) (v := v) (i + 1) (b + 1) (fun y hy => hx y (by simp [hy])) (List.nodup_cons.1 hn).2 (by simpa using hl) hj hv
      simp only [findV, h1, ht, Option.bind_some]
      rw [ih, show i + 1 + j = i + (j + 1) by omega]
variable {t et : TypeId} [hM : MapV C t kt et] {b clk : Nat} {ks : List α} {vs : List V} {k : α}
include hM
theorem lk_none {z : V} [hz : ZeroV C et z] (hg : hp.t.get b = some (.map (entE f ks vs) clk)) (hks : ∀ x ∈ ks, ok x) (hk : ok k) (hn : k ∉ ks) (hl : vs.length = ks.length) : vlookup C hp t (.m (some b)) (f k) false = some z := by
  obtain ⟨ti, h1, h2⟩ := hM.h
  obtain ⟨te, h3, h4⟩ := hz.h
  have hf := find_none (C := C) (hp := hp) (kt := kt) (f := f) (ok := ok) (ks := ks) (vs := vs) (k := k) 0 0 hks hk hn hl
  have hg' : hp.get b = some (.map (entE f ks vs) clk) := hg
  have hf' : findV (mapEq C hp kt) (f k) (entE f ks vs) 0 = some none := hf
  simp only [vlookup, h1, Option.bind_some, h2, hK.fit k hk, hg', hf', h3, h4]
theorem lk_some {j : Nat} {v : V} (hg : hp.t.get b = some (.map (entE f ks vs) clk)) (hks : ∀ x ∈ ks, ok x) (hd : ks.Nodup) (hl : vs.length = ks.length) (hj : ks[j]? = some k) (hv : vs[j]? = some v) : vlookup C hp t (.m (some b)) (f k) false = some v := by
  obtain ⟨ti, h1, h2⟩ := hM.h
  have hf := find_some (C := C) (hp := hp) (kt := kt) (f := f) (ok := ok) (ks := ks) (vs := vs) (k := k) (j := j) (v := v) 0 0 hks hd hl hj hv
  have hg' : hp.get b = some (.map (entE f ks vs) clk) := hg
  have hf' : findV (mapEq C hp kt) (f k) (entE f ks vs) 0 = some (some (0 + j, v)) := hf
  simp only [vlookup, h1, Option.bind_some, h2, hK.fit k (hks k (List.mem_of_getElem? hj)), hg', hf']
omit hM hK in
theorem ent_add {v : V} (hl : vs.length = ks.length) : entE f ks vs ++ [(f k, v, ks.length)] = entE f (ks ++ [k]) (vs ++ [v]) := by
  simp [entE, List.zip_append hl.symm, List.zipIdx_append, hl]
theorem up_none {v : V} (hg : hp.getW b = some (.map (entE f ks vs) ks.length)) (hks : ∀ x ∈ ks, ok x) (hk : ok k) (hn : k ∉ ks) (hl : vs.length = ks.length) : vmapup C hp t (.m (some b)) (f k) v = some (hp.put b (some (.map (entE f (ks ++ [k]) (vs ++ [v])) (ks.length + 1)))) := by
  obtain ⟨ti, h1, h2⟩ := hM.h
  have hf : findV (mapEq C hp kt) (f k) (entE f ks vs) 0 = some none := find_none (C := C) (hp := hp) (kt := kt) (f := f) (ok := ok) (ks := ks) (vs := vs) (k := k) 0 0 hks hk hn hl
  simp only [vmapup, h1, Option.bind_some, h2, hK.fit k hk, hg, hf]
  rw [ent_add hl]
theorem ent_none {z : V} [hz : ZeroV C et z] (hg : hp.getW b = some (.map (entE f ks vs) ks.length)) (hks : ∀ x ∈ ks, ok x) (hk : ok k) (hn : k ∉ ks) (hl : vs.length = ks.length) : vmapentry C hp t (.m (some b)) (f k) = some (.tup [z, .i .i64 (ks.length : Int)], hp.put b (some (.map (entE f (ks ++ [k]) (vs ++ [z])) (ks.length + 1)))) := by
  obtain ⟨ti, h1, h2⟩ := hM.h
  obtain ⟨te, h3, h4⟩ := hz.h
  have hf : findV (mapEq C hp kt) (f k) (entE f ks vs) 0 = some none := find_none (C := C) (hp := hp) (kt := kt) (f := f) (ok := ok) (ks := ks) (vs := vs) (k := k) 0 0 hks hk hn hl
  simp only [vmapentry, h1, Option.bind_some, h2, hK.fit k hk, hg, hf, h3, h4]
  rw [ent_add hl]
  rfl
omit hM hK in
theorem modL_eq {α : Type} (g : α → α) : ∀ (l : List α) (n : Nat), modL g l n = l.modify n g
  | [], n => by cases n <;> rfl
  | x :: r, 0 => rfl
  | x :: r, n + 1 => by simp [modL, modL_eq g r n]
omit hM hK in
theorem ent_at {j : Nat} {k : α} {v : V} (hj : ks[j]? = some k) (hv : vs[j]? = some v) : (entE f ks vs)[j]? = some (f k, v, j) := by
  unfold entE
  rw [List.getElem?_map, List.getElem?_zipIdx]
  rw [List.getElem?_zip_eq_some (z := (k, v)) |>.2 ⟨hj, hv⟩]
  simp
theorem ent_some {j : Nat} {v : V} (hg : hp.getW b = some (.map (entE f ks vs) clk)) (hks : ∀ x ∈ ks, ok x) (hd : ks.Nodup) (hl : vs.length = ks.length) (hj : ks[j]? = some k) (hv : vs[j]? = some v) : vmapentry C hp t (.m (some b)) (f k) = some (.tup [v, .i .i64 (j : Int)], hp.put b (some (.map (entE f ks vs) clk))) := by
  obtain ⟨ti, h1, h2⟩ := hM.h
  have hf : findV (mapEq C hp kt) (f k) (entE f ks vs) 0 = some (some (0 + j, v)) := find_some (C := C) (hp := hp) (kt := kt) (f := f) (ok := ok) (ks := ks) (vs := vs) (k := k) (j := j) (v := v) 0 0 hks hd hl hj hv
  have ha := ent_at (f := f) hj hv
  have e : modL (fun e => (f k, e.2)) (entE f ks vs) j = entE f ks vs := by
    rw [modL_eq]
    apply List.ext_getElem?
    intro i
    rw [List.getElem?_modify]
    by_cases c : j = i
    · subst c
      rw [ha]
      simp
    · simp [c]
  simp only [vmapentry, h1, Option.bind_some, h2, hK.fit k (hks k (List.mem_of_getElem? hj)), hg, hf, Nat.zero_add, getL_eq, ha, e]
  rfl
theorem up_some {j : Nat} {v w : V} (hg : hp.getW b = some (.map (entE f ks vs) clk)) (hks : ∀ x ∈ ks, ok x) (hd : ks.Nodup) (hl : vs.length = ks.length) (hj : ks[j]? = some k) (hv : vs[j]? = some w) : vmapup C hp t (.m (some b)) (f k) v = some (hp.put b (some (.map (entE f ks (vs.set j v)) clk))) := by
  obtain ⟨ti, h1, h2⟩ := hM.h
  have hf : findV (mapEq C hp kt) (f k) (entE f ks vs) 0 = some (some (0 + j, w)) := find_some (C := C) (hp := hp) (kt := kt) (f := f) (ok := ok) (ks := ks) (vs := vs) (k := k) (j := j) (v := w) 0 0 hks hd hl hj hv
  have ha := ent_at (f := f) hj hv
  have hjl : j < vs.length := (List.getElem?_eq_some_iff.1 hv).1
  have e : modL (fun e => (f k, v, e.2.2)) (entE f ks vs) j = entE f ks (vs.set j v) := by
    rw [modL_eq]
    apply List.ext_getElem?
    intro i
    rw [List.getElem?_modify]
    by_cases c : j = i
    · subst c
      have ha2 := ent_at (f := f) hj (v := v) (vs := vs.set j v) (by rw [List.getElem?_set_self hjl])
      rw [ha, ha2]
      simp
    · unfold entE
      simp only [List.getElem?_map, List.getElem?_zipIdx, c, if_false, Option.map_map]
      have e2 : (ks.zip (vs.set j v))[i]? = (ks.zip vs)[i]? := by
        simp only [List.zip, List.getElem?_zipWith, List.getElem?_set_ne c]
      rw [e2]
      simp
  simp only [vmapup, h1, Option.bind_some, h2, hK.fit k (hks k (List.mem_of_getElem? hj)), hg, hf, Nat.zero_add, e]
end
theorem put_born {α : Type} {f : α → V} {ks : List α} {vs : List V} {v w : V} {j : Nat} (hl : vs.length = ks.length) (hv : vs[j]? = some v) : putBorn j w (entE f ks vs) = some (entE f ks (vs.set j w)) := by
  have key : ∀ (ks : List α) (vs : List V) (b j : Nat) (v : V), vs.length = ks.length → vs[j]? = some v → putBorn (b + j) w (entI f ks vs b) = some (entI f ks (vs.set j w) b) := by
    intro ks
    induction ks with
    | nil => intro vs b j v hl hv; have : vs = [] := List.length_eq_zero_iff.1 (by simpa using hl); subst this; simp at hv
    | cons x r ih =>
      intro vs b j v hl hv
      cases vs with
      | nil => simp at hl
      | cons u vs =>
        have e : ∀ u (vs : List V), entI f (x :: r) (u :: vs) b = (f x, u, b) :: entI f r vs (b + 1) := fun u vs => by simp [entI, List.zipIdx_cons]
        rw [e]
        cases j with
        | zero =>
          rw [List.set_cons_zero, e]
          simp [putBorn]
        | succ j =>
          rw [List.set_cons_succ, e]
          have h1 : Nat.beq b (b + (j + 1)) = false := by
            rw [Bool.eq_false_iff]; intro h; have := Nat.eq_of_beq_eq_true h; omega
          have := ih vs (b + 1) j v (by simpa using hl) (by simpa using hv)
          rw [show b + 1 + j = b + (j + 1) by omega] at this
          simp only [putBorn, h1, this, Option.bind_some]
  have := key ks vs 0 j v hl hv
  rw [Nat.zero_add] at this
  exact this
/-! ### Numbers -/
section
variable {K : Kx} {hp0 : Bs} {l : VL} {L : HV} {a b : Operand} {t t' : TypeId}
theorem m_subI {p q : Int} (hx : evL l a = some (.i .i64 p)) (hy : evL l b = some (.i .i64 q)) (h1 : -9223372036854775808 ≤ p - q ∧ p - q < 9223372036854775808) : MVO K hp0 l L (.binOp .sub t a b t') (.i .i64 (p - q)) :=
  mv_int hx hy (by show some (V.i .i64 (IntKind.i64.wrap (p - q))) = _; rw [IntWalk.i64_in _ (by omega)])
theorem m_minI {p q : Int} {ts : Array TypeId} {k : IntKind} (hx : evL l a = some (.i k p)) (hy : evL l b = some (.i k q)) : MVO K hp0 l L (.call { callee := .builtin .min, args := #[a, b], argTypes := ts }) (.i k (min p q)) := mvo_of <| mv_nil (fun _ _ => rfl) fun call fr hp hf => by
  show oCall K.C call fr hp { callee := .builtin .min, args := #[a, b], argTypes := ts } = _
  have ha : evLs l [a, b] = some [.i k p, .i k q] := by simp [evLs, hx, hy]
  simp only [oCall, hf.evs ha, Option.bind_some, vbuiltin, foldO, vmm, intLt_iff, ret1]
  by_cases c : q < p
  · simp [c, show min p q = q by omega]
  · simp [c, show min p q = p by omega]
theorem m_maxI {p q : Int} {ts : Array TypeId} {k : IntKind} (hx : evL l a = some (.i k p)) (hy : evL l b = some (.i k q)) : MVO K hp0 l L (.call { callee := .builtin .max, args := #[a, b], argTypes := ts }) (.i k (max p q)) := mvo_of <| mv_nil (fun _ _ => rfl) fun call fr hp hf => by
  show oCall K.C call fr hp { callee := .builtin .max, args := #[a, b], argTypes := ts } = _
  have ha : evLs l [a, b] = some [.i k p, .i k q] := by simp [evLs, hx, hy]
  simp only [oCall, hf.evs ha, Option.bind_some, vbuiltin, foldO, vmm, intLt_iff, ret1]
  by_cases c : p < q
  · simp [c, show max p q = q by omega]
  · simp [c, show max p q = p by omega]
theorem vB_and (x y : UInt8) : vint .and .u8 (.ofNat x.toNat) (.ofNat y.toNat) = some (byV (x &&& y)) := by
  show some (V.i .u8 (IntKind.u8.wrap _)) = _
  have of8 : ∀ z : UInt8, (BitVec.ofInt IntKind.u8.bits (Int.ofNat z.toNat)).toNat = z.toNat := fun z => by
    have := z.toNat_lt
    simp [IntKind.bits]
  rw [BitVec.toNat_and, of8, of8, wrapU8]
  have h : (x &&& y).toNat = x.toNat &&& y.toNat := UInt8.toNat_and x y
  have h2 := (x &&& y).toNat_lt
  rw [h] at h2
  rw [Nat.mod_eq_of_lt h2]
  show _ = some (V.i .u8 (Int.ofNat (x &&& y).toNat))
  rw [h]
  rfl
theorem vB_or (x y : UInt8) : vint .or .u8 (.ofNat x.toNat) (.ofNat y.toNat) = some (byV (x ||| y)) := by
  show some (V.i .u8 (IntKind.u8.wrap _)) = _
  have of8 : ∀ z : UInt8, (BitVec.ofInt IntKind.u8.bits (Int.ofNat z.toNat)).toNat = z.toNat := fun z => by
    have := z.toNat_lt
    simp [IntKind.bits]
  rw [BitVec.toNat_or, of8, of8, wrapU8]
  have h : (x ||| y).toNat = x.toNat ||| y.toNat := UInt8.toNat_or x y
  have h2 := (x ||| y).toNat_lt
  rw [h] at h2
  rw [Nat.mod_eq_of_lt h2]
  show _ = some (V.i .u8 (Int.ofNat (x ||| y).toNat))
  rw [h]
  rfl
theorem m_andB {x y : UInt8} (hx : evL l a = some (byV x)) (hy : evL l b = some (byV y)) : MVO K hp0 l L (.binOp .and t a b t') (byV (x &&& y)) := mv_int hx hy (vB_and x y)
theorem m_orB {x y : UInt8} (hx : evL l a = some (byV x)) (hy : evL l b = some (byV y)) : MVO K hp0 l L (.binOp .or t a b t') (byV (x ||| y)) := mv_int hx hy (vB_or x y)
theorem m_shlB {x : UInt8} {k : IntKind} {p : Int} {n : Nat} (hx : evL l a = some (byV x)) (hy : evL l b = some (.i k p)) [hn : CastN p n] (h : n ≤ 8) : MVO K hp0 l L (.binOp .shl t a b t') (byV (UInt8.ofNat (x.toNat * 2 ^ n))) := by
  refine mv_sh hx hy ?_
  rw [hn.h]
  show some (V.i .u8 (IntKind.u8.wrap ((x.toNat : Int) * 2 ^ min n IntKind.u8.bits))) = _
  rw [show min n IntKind.u8.bits = n by simp [IntKind.bits]; omega]
  have e : ((x.toNat : Int) * 2 ^ n) = ((x.toNat * 2 ^ n : Nat) : Int) := by norm_cast
  rw [e, wrapU8, ← byV_ofNat]
end
end Go.Proofs.YtlpcelcaahfafaaDoor
/- Wq: calls that turn some of the own objects, the rest kept; appending single cells; slices against nil. By this project. -/
set_option maxRecDepth 100000
namespace Go.Proofs.YtlpcelcaahfafaaDoor
open Go.RowKit Go.Extern.Stop

instance (priority := 50) {b i : Nat} {o : VO} {N L : HV} [k : AtV b L o i] : AtV b (N ++ L) o (N.length + i) := ⟨by rw [List.getElem?_append_right (by omega), Nat.add_sub_cancel_left]; exact k.h⟩
instance (priority := 50) {i : Nat} {x : Option Nat × VO} {N L L' : HV} [k : SetV L i x L'] : SetV (N ++ L) (N.length + i) x (N ++ L') := ⟨by rw [List.set_append_right _ _ (by omega), Nat.add_sub_cancel_left, k.h]⟩
theorem rb_at {B : Bs} {hp : Hp} {Lt Lr : HV} {b o i : Nat} {C cs : List V} {E : TypeId} {op : Option Nat} {mk : Bool} (hs : SV B hp (Lt ++ Lr)) [h : AtV b Lr (.cells C E op mk) i] (hc : (C.drop o).take cs.length = cs) : RB ⟨hp, hnds Lt⟩ (some (b, o)) cs := rb_own hs h.h hc
theorem rb_at0 {B : Bs} {hp : Hp} {L : HV} {b o i : Nat} {C cs : List V} {E : TypeId} {op : Option Nat} {mk : Bool} (hs : SV B hp L) [h : AtV b L (.cells C E op mk) i] (hc : (C.drop o).take cs.length = cs) : RB ⟨hp, []⟩ (some (b, o)) cs := rb_own0 hs h.h hc
/-- An object taken out of the list; what is left. -/
class OutX (L : HV) (i : Nat) (x : outParam (Option Nat × VO)) (r : outParam HV) : Prop where h : L.Perm (x :: r)
instance {x : Option Nat × VO} {r : HV} : OutX (x :: r) 0 x r := ⟨List.Perm.refl _⟩
instance {x y : Option Nat × VO} {r r' : HV} {i : Nat} [k : OutX r i x r'] : OutX (y :: r) (i + 1) x (y :: r') := ⟨(k.h.cons y).trans (List.Perm.swap x y r')⟩
instance {x : Option Nat × VO} {y : Option Nat × VO} {r s r' : HV} {i : Nat} [k : OutX (y :: (r ++ s)) i x r'] : OutX ((y :: r) ++ s) i x r' := ⟨k.h⟩
instance {x : Option Nat × VO} {s r' : HV} {i : Nat} [k : OutX s i x r'] : OutX ([] ++ s) i x r' := ⟨k.h⟩
class OutXs (L : HV) (is : List Nat) (Lt Lr : outParam HV) : Prop where h : L.Perm (Lt ++ Lr)
instance {L : HV} : OutXs L [] [] L := ⟨List.Perm.refl _⟩
instance {L r K R : HV} {i : Nat} {is : List Nat} {x : Option Nat × VO} [k : OutX L i x r] [q : OutXs r is K R] : OutXs L (i :: is) (x :: K) R := ⟨k.h.trans (q.h.cons x)⟩
/-- A whole list of objects taken out. -/
class OutM (L : HV) (M : HV) (r : outParam HV) : Prop where h : L.Perm (M ++ r)
instance (priority := high) {M R : HV} : OutM (M ++ R) M R := ⟨List.Perm.refl _⟩
instance (priority := high) {M : HV} : OutM M M [] := ⟨by rw [List.append_nil]⟩
instance {x : Option Nat × VO} {L M r : HV} [k : OutM L M r] : OutM (x :: L) M (x :: r) := ⟨(k.h.cons x).trans List.perm_middle.symm⟩
instance (priority := low) {N L M r : HV} [k : OutM L M r] : OutM (N ++ L) M (N ++ r) := ⟨(k.h.append_left N).trans (List.perm_append_comm_assoc _ _ _)⟩
instance (priority := 40) {x : Option Nat × VO} {r s M q : HV} [k : OutM (x :: (r ++ s)) M q] : OutM ((x :: r) ++ s) M q := ⟨k.h⟩
section
variable {K : Kx} {nt : Nat} {hp0 : Bs} {l : VL} {df : DL} {L L0 : HV} {Q : WQ}
theorem p_callM {ops rest : List Oper} {d : Nat} {c : Call} {ty : TypeId} {ps : String} {af : Array Edge} {gd : Option (Nat × Bool)} {xs vs : List V} {f : Nat} {R : V → HV → Prop} {Lr : HV} (Lt : HV) (hg : WantV ops l ⟨some d, .call c, ty, ps, af, gd⟩) (hlt : Nat.ble (d + 1) nt = true) (hnt : Nat.ble nt trMax = true) (ha : evLs l c.args.toList = some xs) (hc : callee c.callee l K.C xs = some (f, vs)) [pt : OutM L Lt Lr] (hC : ∀ hp, SV hp0 hp (Lt ++ Lr) → SV ⟨hp, hnds Lt⟩ hp Lt → Fn K f vs hp (hnds Lt) fun r N => ∃ u, r = .v u ∧ R u N)
    (k : ∀ u N, R u N → WGL K nt hp0 ops rest ((d, u) :: l) df (N ++ Lr) Q) : WGL K nt hp0 ops (⟨some d, .call c, ty, ps, af, gd⟩ :: rest) l df L Q := p_callT Lt Lr hg hlt hnt ha hc (fun hp h => h.perm pt.h) (fun hp hs ht => hC hp (hs.perm pt.h) ht) k
theorem d_callM {ops rest : List Oper} {pres : Tr Nat} {i np : Nat} {tl : List Nat} {rl : List (Nat × List Nat)} {d : Nat} {c : Call} {ty : TypeId} {ps : String} {af : Array Edge} {gd : Option (Nat × Bool)} {xs vs : List V} {f : Nat} {R : V → HV → Prop} {Lr : HV} (Lt : HV) (hg : WantV ops l ⟨some d, .call c, ty, ps, af, gd⟩) (hm : maskLe np (maskOf pres i) = true) (hlt : Nat.ble (d + 1) nt = true) (hnt : Nat.ble nt trMax = true) (ha : evLs l c.args.toList = some xs) (hc : callee c.callee l K.C xs = some (f, vs)) [pt : OutM L Lt Lr] (hok : RdOk pres i (hnds Lt) rl) (hC : ∀ hp, SV hp0 hp (Lt ++ Lr) → SV ⟨hp, hnds Lt⟩ hp Lt → Fn K f vs hp (hnds Lt) fun r N => ∃ u, r = .v u ∧ R u N)
    (k : ∀ u N, R u N → WGD K nt hp0 ops pres L0 df rest (i + 1) (hnds Lt ++ tl) rl (np ||| (1 <<< i)) ((d, u) :: l) (N ++ Lr) Q) : WGD K nt hp0 ops pres L0 df (⟨some d, .call c, ty, ps, af, gd⟩ :: rest) i tl rl np l L Q := d_callT Lt Lr hg hm hlt hnt ha hc hok (fun hp h => h.perm pt.h) (fun hp hs ht => hC hp (hs.perm pt.h) ht) k
theorem p_callY {ops rest : List Oper} {d : Nat} {c : Call} {ty : TypeId} {ps : String} {af : Array Edge} {gd : Option (Nat × Bool)} {xs vs : List V} {f : Nat} {R : V → HV → Prop} {Lt Lr : HV} (is : List Nat) (hg : WantV ops l ⟨some d, .call c, ty, ps, af, gd⟩) (hlt : Nat.ble (d + 1) nt = true) (hnt : Nat.ble nt trMax = true) (ha : evLs l c.args.toList = some xs) (hc : callee c.callee l K.C xs = some (f, vs)) [pt : OutXs L is Lt Lr] (hC : ∀ hp, SV hp0 hp (Lt ++ Lr) → SV ⟨hp, hnds Lt⟩ hp Lt → Fn K f vs hp (hnds Lt) fun r N => ∃ u, r = .v u ∧ R u N)
    (k : ∀ u N, R u N → WGL K nt hp0 ops rest ((d, u) :: l) df (N ++ Lr) Q) : WGL K nt hp0 ops (⟨some d, .call c, ty, ps, af, gd⟩ :: rest) l df L Q := p_callT Lt Lr hg hlt hnt ha hc (fun hp h => h.perm pt.h) (fun hp hs ht => hC hp (hs.perm pt.h) ht) k
theorem d_callY {ops rest : List Oper} {pres : Tr Nat} {i np : Nat} {tl : List Nat} {rl : List (Nat × List Nat)} {d : Nat} {c : Call} {ty : TypeId} {ps : String} {af : Array Edge} {gd : Option (Nat × Bool)} {xs vs : List V} {f : Nat} {R : V → HV → Prop} {Lt Lr : HV} (is : List Nat) (hg : WantV ops l ⟨some d, .call c, ty, ps, af, gd⟩) (hm : maskLe np (maskOf pres i) = true) (hlt : Nat.ble (d + 1) nt = true) (hnt : Nat.ble nt trMax = true) (ha : evLs l c.args.toList = some xs) (hc : callee c.callee l K.C xs = some (f, vs)) [pt : OutXs L is Lt Lr] (hok : RdOk pres i (hnds Lt) rl) (hC : ∀ hp, SV hp0 hp (Lt ++ Lr) → SV ⟨hp, hnds Lt⟩ hp Lt → Fn K f vs hp (hnds Lt) fun r N => ∃ u, r = .v u ∧ R u N)
    (k : ∀ u N, R u N → WGD K nt hp0 ops pres L0 df rest (i + 1) (hnds Lt ++ tl) rl (np ||| (1 <<< i)) ((d, u) :: l) (N ++ Lr) Q) : WGD K nt hp0 ops pres L0 df (⟨some d, .call c, ty, ps, af, gd⟩ :: rest) i tl rl np l L Q := d_callT Lt Lr hg hm hlt hnt ha hc hok (fun hp h => h.perm pt.h) (fun hp hs ht => hC hp (hs.perm pt.h) ht) k
/-! ### Objects apart -/
instance (priority := 50) {b : Nat} {M N : List Nat} [k : NotIn b M] [q : NotIn b N] : NotIn b (M ++ N) := ⟨fun h => by
  rcases List.mem_append.1 h with h | h
  · exact k.h h
  · exact q.h h⟩
theorem notin_of {B : Bs} {hp : Hp} {L M r : HV} {b i : Nat} {o : VO} (hs : SV B hp L) [k : OutM L M r] [h : AtV b r o i] : NotIn b (hnds M) := ⟨fun hm => by
  have hs2 := hs.perm k.h
  have h1 : (M ++ r)[M.length + i]? = some (some b, o) := by rw [List.getElem?_append_right (by omega), Nat.add_sub_cancel_left]; exact h.h
  obtain ⟨j, o2, hj⟩ := hasT_hnds M b hm
  have hj2 := (List.getElem?_eq_some_iff.1 hj).1
  have := hs2.one _ _ _ _ _ h1 (show (M ++ r)[j]? = some (some b, o2) by rw [List.getElem?_append_left hj2]; exact hj)
  omega⟩
class RdNot (tch : List Nat) (rl : List (Nat × List Nat)) : Prop where h : ∀ p ∈ rl, ∀ h ∈ p.2, h ∉ tch
instance {tch : List Nat} : RdNot tch [] := ⟨by simp⟩
instance {tch : List Nat} {i b : Nat} {rl : List (Nat × List Nat)} [k : NotIn b tch] [q : RdNot tch rl] : RdNot tch ((i, [b]) :: rl) := ⟨fun p hp h hh => by
  rcases List.mem_cons.1 hp with rfl | hp
  · rw [List.mem_singleton.1 hh]; exact k.h
  · exact q.h p hp h hh⟩
theorem rdOk_c {pres : Tr Nat} {i : Nat} {tch : List Nat} {rl : List (Nat × List Nat)} [k : RdNot tch rl] : RdOk pres i tch rl := fun p hp => .inr (k.h p hp)
/-! ### New objects, in no order with what is ahead -/
theorem d_op0 {ops rest : List Oper} {pres : Tr Nat} {i np : Nat} {rl : List (Nat × List Nat)} {o : Oper} {d : Nat} (hg : WantV ops l o) (hi : isPure o.op = false) (hr : NoRd K.C l o.op) (hm : maskLe np (maskOf pres i) = false) (hd : o.dst = some d) (hlt : Nat.ble (d + 1) nt = true) (hnt : Nat.ble nt trMax = true)
    (h : EN K hp0 l L0 o.op fun v N => WGD K nt hp0 ops pres L0 df rest (i + 1) [] rl (np ||| (1 <<< i)) ((d, v) :: l) (N ++ L) Q) : WGD K nt hp0 ops pres L0 df (o :: rest) i [] rl np l L Q := wd_op0 hg hi hr hm hd hlt hnt h
theorem en_new {op : Op} {o : VO} {f : Nat → V} {k : V → HV → Prop} (h : ∀ call fr hp, FrV fr l → SV hp0 hp L → vop K.C call fr hp op = (hp.new o).bind fun r => some (.v (f r.1), r.2)) (hk : ∀ b, k (f b) [(some b, o)]) : EN K hp0 l L op k := by
  unfold EN
  intro fr hp hf hs
  obtain ⟨hp', h1, h2, h3⟩ := new_sv (o := o) (hp0 := ⟨hp, []⟩) (L := []) hs.ok.sv
  exact ⟨f hp.nx, hp', _, ⟨0, fun n _ => by rw [h _ fr hp hf hs, h1]; rfl⟩, h2, h3, hk hp.nx⟩
theorem en_alloc {t : TypeId} {z : V} {zc : List V} {k : V → HV → Prop} [hz : ZeroV K.C t z] (hc : z.cells = some zc) (hk : ∀ b, k (.p (some (b, 0))) [(some b, cellsO zc t)]) : EN K hp0 l L (.alloc t) k := by
  obtain ⟨ti, h1, h2⟩ := hz.h
  haveI : TiV K.C t ti := ⟨h1⟩
  exact en_new (o := cellsO zc t) (f := fun b => .p (some (b, 0))) (fun call fr hp hf hs => by
    show oAlloc K.C hp t = _
    simp only [oAlloc, h1, Option.bind_some, h2, hc, ret2]
    cases hp.new (cellsO zc t) <;> rfl) hk
theorem en_bs {t e : TypeId} {n : Nat} {z : V} {xs : List (Nat × Operand)} {C : List V} {k : V → HV → Prop} [hS : SliceV K.C t e] [hs : SizeV K.C e 1] [hz : ZeroV K.C e z] (hc : z.cells = some [z]) (hn : Nat.ble n 16777216 = true) (hq : SeqV l 0 xs C) (hC : xs.length = n)
    (hk : ∀ b, k (.sl (some (b, 0)) n n false) [(some b, cellsO C e)]) : EN K hp0 l L (.buildSlice t n xs.toArray) k := by
  obtain ⟨ti, h3, h4⟩ := hS.h
  obtain ⟨te, h5, h6⟩ := hs.h
  obtain ⟨te', h7, h8⟩ := hz.h
  rw [h5] at h7
  obtain rfl := Option.some.inj h7
  refine en_new (o := cellsO C e) (f := fun b => .sl (some (b, 0)) n n false) (fun call fr hp hf hs => ?_) hk
  show ret2 (vbuildS K.C hp fr t n xs) = _
  have hl := hq.len
  have e1 := hq.fill hf (List.replicate n z) (by simp; omega)
  rw [List.take_zero, List.nil_append, List.drop_of_length_le (by simp; omega), List.append_nil] at e1
  have e2 : Nat.ble (n * 1) 16777216 = true := by rw [Nat.mul_one]; exact hn
  simp only [vbuildS, h3, Option.bind_some, h4, h5, h8, hc, h6, e2, repL_eq, e1, ret2]
  cases hp.new (cellsO C e) <;> rfl
/-! ### Appending elements of one cell -/
theorem e_app0' {tS tX e eX : TypeId} {s x : Operand} {A : Option (Nat × Nat)} {n c : Nat} {op op' : Bool} {new : List V} {k : VR → HV → Prop} [hS : SliceV K.C tS e] [hz : SizeV K.C e 1] [hG : GrowV K.C e] [hX : SliceV K.C tX eX] (hs : evL l s = some (.sl none 0 0 op)) (hx : evL l x = some (.sl A n c op')) (hr : RZ hp0 L A new) (hnl : new.length = n) (hn : 0 < n) (hl : ∀ te, tiV K.C e = some te → GrowTo te (n))
    (hk : ∀ b, k (.v (.sl (some (b, 0)) n n true)) ((some b, .cells new e (some 1) false) :: L)) : EV K hp0 l L (.call { callee := .builtin .append, args := #[s, x], argTypes := #[tS, tX] }) [] k := by
  obtain ⟨ti, h3, h4⟩ := hS.h
  obtain ⟨te, h5, h6⟩ := hz.h
  obtain ⟨tx, h7, h8⟩ := hX.h
  obtain ⟨tg, h9, h10⟩ := hG.h
  rw [h5] at h9
  obtain rfl := Option.some.inj h9
  haveI : TiV K.C tS ti := ⟨h3⟩
  haveI : TiV K.C e te := ⟨h5⟩
  haveI : TiV K.C tX tx := ⟨h7⟩
  refine ev_app0 (c := 0) hs hx h4 (src_sl h8 hr (by rw [h6]; omega) (by omega)) hn (hl _ h5) h10 (fun b => ?_)
  rw [h6]
  exact hk b
theorem e_app0 {tS tX e eX : TypeId} {s x : Operand} {A : Option (Nat × Nat)} {n c : Nat} {op op' : Bool} {new : List V} {k : VR → HV → Prop} [hS : SliceV K.C tS e] [hz : SizeV K.C e 1] [hG : GrowV K.C e] [hX : SliceV K.C tX eX] (hs : evL l s = some (.sl none 0 0 op)) (hx : evL l x = some (.sl A n c op')) (hr : RZ hp0 L A new) (hnl : new.length = n) (hn : 0 < n) (hl : n ≤ 1073741824)
    (hk : ∀ b, k (.v (.sl (some (b, 0)) n n true)) ((some b, .cells new e (some 1) false) :: L)) : EV K hp0 l L (.call { callee := .builtin .append, args := #[s, x], argTypes := #[tS, tX] }) [] k :=
  e_app0' hs hx hr hnl hn (fun _ _ => .inl hl) hk
theorem e_app0b {tS tX e eX : TypeId} {s x : Operand} {A : Option (Nat × Nat)} {n c : Nat} {op op' : Bool} {new : List V} {k : VR → HV → Prop} [hS : SliceV K.C tS e] [hz : SizeV K.C e 1] [hG : GrowV K.C e] [hX : SliceV K.C tX eX] (hs : evL l s = some (.sl none 0 0 op)) (hx : evL l x = some (.sl A n c op')) (hr : RZ hp0 L A new) (hnl : new.length = n) (hn : 0 < n) (h8 : ∃ te, tiV K.C e = some te ∧ te.bytes = 1) (hl : n ≤ 150000000000000)
    (hk : ∀ b, k (.v (.sl (some (b, 0)) n n true)) ((some b, .cells new e (some 1) false) :: L)) : EV K hp0 l L (.call { callee := .builtin .append, args := #[s, x], argTypes := #[tS, tX] }) [] k :=
  e_app0' hs hx hr hnl hn (fun te h => by obtain ⟨t1, h1, h2⟩ := h8; rw [h1] at h; exact .inr ⟨by rw [← Option.some.inj h]; exact h2, hl⟩) hk
theorem e_appO' {tS tX e eX : TypeId} {s x : Operand} {A : Option (Nat × Nat)} {b m n c i : Nat} {op' : Bool} {old new : List V} {mk : Bool} {k : VR → HV → Prop} [hS : SliceV K.C tS e] [hz : SizeV K.C e 1] [hG : GrowV K.C e] [hX : SliceV K.C tX eX] (hs : evL l s = some (.sl (some (b, 0)) m m true)) (hx : evL l x = some (.sl A n c op')) [hL : AtV b L (.cells old e (some 1) mk) i] (hol : old.length = m) (hr : RZ hp0 L A new) (hnl : new.length = n) (hn : 0 < n) (hl : ∀ te, tiV K.C e = some te → GrowTo te (m + n))
    (hk : ∀ b, k (.v (.sl (some (b, 0)) (m + n) (m + n) true)) (L.set i (some b, .cells (old ++ new) e (some 1) mk))) : EV K hp0 l L (.call { callee := .builtin .append, args := #[s, x], argTypes := #[tS, tX] }) [b] k := by
  obtain ⟨ti, h3, h4⟩ := hS.h
  obtain ⟨te, h5, h6⟩ := hz.h
  obtain ⟨tx, h7, h8⟩ := hX.h
  obtain ⟨tg, h9, h10⟩ := hG.h
  rw [h5] at h9
  obtain rfl := Option.some.inj h9
  haveI : TiV K.C tS ti := ⟨h3⟩
  haveI : TiV K.C e te := ⟨h5⟩
  haveI : TiV K.C tX tx := ⟨h7⟩
  haveI : AtV b L (.cells old e (some te.size) mk) i := ⟨by rw [h6]; exact hL.h⟩
  refine ev_appO (L' := L) (old := old) (mk := mk) (i := i) hs hx h4 (by rw [h6]; omega) (src_sl h8 hr (by rw [h6]; omega) (by omega)) hn (hl _ h5) h10 (fun b => ?_)
  rw [h6]
  exact hk b
theorem e_appO {tS tX e eX : TypeId} {s x : Operand} {A : Option (Nat × Nat)} {b m n c i : Nat} {op' : Bool} {old new : List V} {mk : Bool} {k : VR → HV → Prop} [hS : SliceV K.C tS e] [hz : SizeV K.C e 1] [hG : GrowV K.C e] [hX : SliceV K.C tX eX] (hs : evL l s = some (.sl (some (b, 0)) m m true)) (hx : evL l x = some (.sl A n c op')) [hL : AtV b L (.cells old e (some 1) mk) i] (hol : old.length = m) (hr : RZ hp0 L A new) (hnl : new.length = n) (hn : 0 < n) (hl : m + n ≤ 1073741824)
    (hk : ∀ b, k (.v (.sl (some (b, 0)) (m + n) (m + n) true)) (L.set i (some b, .cells (old ++ new) e (some 1) mk))) : EV K hp0 l L (.call { callee := .builtin .append, args := #[s, x], argTypes := #[tS, tX] }) [b] k :=
  e_appO' hs hx hol hr hnl hn (fun _ _ => .inl hl) hk
theorem e_appOb {tS tX e eX : TypeId} {s x : Operand} {A : Option (Nat × Nat)} {b m n c i : Nat} {op' : Bool} {old new : List V} {mk : Bool} {k : VR → HV → Prop} [hS : SliceV K.C tS e] [hz : SizeV K.C e 1] [hG : GrowV K.C e] [hX : SliceV K.C tX eX] (hs : evL l s = some (.sl (some (b, 0)) m m true)) (hx : evL l x = some (.sl A n c op')) [hL : AtV b L (.cells old e (some 1) mk) i] (hol : old.length = m) (hr : RZ hp0 L A new) (hnl : new.length = n) (hn : 0 < n) (h8 : ∃ te, tiV K.C e = some te ∧ te.bytes = 1) (hl : m + n ≤ 150000000000000)
    (hk : ∀ b, k (.v (.sl (some (b, 0)) (m + n) (m + n) true)) (L.set i (some b, .cells (old ++ new) e (some 1) mk))) : EV K hp0 l L (.call { callee := .builtin .append, args := #[s, x], argTypes := #[tS, tX] }) [b] k :=
  e_appO' hs hx hol hr hnl hn (fun te h => by obtain ⟨t1, h1, h2⟩ := h8; rw [h1] at h; exact .inr ⟨by rw [← Option.some.inj h]; exact h2, hl⟩) hk
theorem e_appG' {tS tX e eX : TypeId} {s x : Operand} {A : Option (Nat × Nat)} {b o m c n c' : Nat} {op' : Bool} {old new : List V} {k : VR → HV → Prop} [hS : SliceV K.C tS e] [hz : SizeV K.C e 1] [hG : GrowV K.C e] [hX : SliceV K.C tX eX] (hs : evL l s = some (.sl (some (b, o)) m c false)) (hx : evL l x = some (.sl A n c' op')) (hold : RZ hp0 L (some (b, o)) old) (hol : old.length = m) (hr : RZ hp0 L A new) (hnl : new.length = n) (hgr : c < m + n) (hl : ∀ te, tiV K.C e = some te → GrowTo te (m + n))
    (hk : ∀ b, k (.v (.sl (some (b, 0)) (m + n) (m + n) true)) ((some b, .cells (old ++ new) e (some 1) false) :: L)) : EV K hp0 l L (.call { callee := .builtin .append, args := #[s, x], argTypes := #[tS, tX] }) [] k := by
  obtain ⟨ti, h3, h4⟩ := hS.h
  obtain ⟨te, h5, h6⟩ := hz.h
  obtain ⟨tx, h7, h8⟩ := hX.h
  obtain ⟨tg, h9, h10⟩ := hG.h
  rw [h5] at h9
  obtain rfl := Option.some.inj h9
  haveI : TiV K.C tS ti := ⟨h3⟩
  haveI : TiV K.C e te := ⟨h5⟩
  haveI : TiV K.C tX tx := ⟨h7⟩
  refine ev_appG (old := old) hs hx h4 hold (by rw [h6]; omega) (src_sl h8 hr (by rw [h6]; omega) (by omega)) hgr (hl _ h5) h10 (fun b => ?_)
  rw [h6]
  exact hk b
theorem e_appG {tS tX e eX : TypeId} {s x : Operand} {A : Option (Nat × Nat)} {b o m c n c' : Nat} {op' : Bool} {old new : List V} {k : VR → HV → Prop} [hS : SliceV K.C tS e] [hz : SizeV K.C e 1] [hG : GrowV K.C e] [hX : SliceV K.C tX eX] (hs : evL l s = some (.sl (some (b, o)) m c false)) (hx : evL l x = some (.sl A n c' op')) (hold : RZ hp0 L (some (b, o)) old) (hol : old.length = m) (hr : RZ hp0 L A new) (hnl : new.length = n) (hgr : c < m + n) (hl : m + n ≤ 1073741824)
    (hk : ∀ b, k (.v (.sl (some (b, 0)) (m + n) (m + n) true)) ((some b, .cells (old ++ new) e (some 1) false) :: L)) : EV K hp0 l L (.call { callee := .builtin .append, args := #[s, x], argTypes := #[tS, tX] }) [] k :=
  e_appG' hs hx hold hol hr hnl hgr (fun _ _ => .inl hl) hk
theorem e_appGb {tS tX e eX : TypeId} {s x : Operand} {A : Option (Nat × Nat)} {b o m c n c' : Nat} {op' : Bool} {old new : List V} {k : VR → HV → Prop} [hS : SliceV K.C tS e] [hz : SizeV K.C e 1] [hG : GrowV K.C e] [hX : SliceV K.C tX eX] (hs : evL l s = some (.sl (some (b, o)) m c false)) (hx : evL l x = some (.sl A n c' op')) (hold : RZ hp0 L (some (b, o)) old) (hol : old.length = m) (hr : RZ hp0 L A new) (hnl : new.length = n) (hgr : c < m + n) (h8 : ∃ te, tiV K.C e = some te ∧ te.bytes = 1) (hl : m + n ≤ 150000000000000)
    (hk : ∀ b, k (.v (.sl (some (b, 0)) (m + n) (m + n) true)) ((some b, .cells (old ++ new) e (some 1) false) :: L)) : EV K hp0 l L (.call { callee := .builtin .append, args := #[s, x], argTypes := #[tS, tX] }) [] k :=
  e_appG' hs hx hold hol hr hnl hgr (fun te h => by obtain ⟨t1, h1, h2⟩ := h8; rw [h1] at h; exact .inr ⟨by rw [← Option.some.inj h]; exact h2, hl⟩) hk
/-- How many entries an own map has. -/
theorem m_lenm {t kt et : TypeId} {x : Operand} {b i clk : Nat} {es : List (V × V × Nat)} [hM : MapV K.C t kt et] (hx : evL l x = some (.m (some b))) [hL : AtV b L (.map es clk) i] : MV K hp0 l L (.call { callee := .builtin .len, args := #[x], argTypes := #[t] }) [b] (.i .i64 (es.length : Int)) := by
  obtain ⟨ti, h1, h2⟩ := hM.h
  haveI : TiV K.C t ti := ⟨h1⟩
  exact mv_lenm hx h2
theorem e_range {t kt et : TypeId} {x : Operand} {b i clk : Nat} {es : List (V × V × Nat)} {kk : VR → HV → Prop} [hM : MapV K.C t kt et] (hx : evL l x = some (.m (some b))) [hL : AtV b L (.map es clk) i] (hkk : ∀ c, kk (.v (.p (some (c, 0)))) ((some c, .iter (some b) clk [] clk) :: L)) : EV K hp0 l L (.range t x) [] kk := by
  obtain ⟨ti, h1, h2⟩ := hM.h
  haveI : TiV K.C t ti := ⟨h1⟩
  exact ev_range hx h2 hkk
/-- What the last step of a walk handed out. -/
theorem ev_entry {x : Operand} {c b j i since last n clk : Nat} {seen : List Nat} {es : List (V × V × Nat)} {e : V × V × Nat} {kk : VR → HV → Prop} (hx : evL l x = some (.p (some (c, 0)))) [hI : AtV c L (.iter (some b) since seen last) j] [hL : AtV b L (.map es clk) i] (hcl : clk = last) (hn : lastN seen = some n) (he : findBorn n es = some e) (hkk : kk (.v (.tup [e.1, e.2.1])) L) : EV K hp0 l L (.entry x) [] kk :=
  ev_same (fun call fr hp hf hs => by
    show oIter fr hp x = _
    have h1 : hp.get c = some (.iter (some b) since seen last) := (hs.has j _ _ hI.h).1
    have h2 : hp.get b = some (.map es clk) := (hs.has i _ _ hL.h).1
    have h3 : Nat.beq clk last = true := by rw [hcl]; exact Nat.beq_refl _
    simp only [oIter, hf.ev hx, Option.bind_some, ventry, h1, hn, h2, h3, he, ret1]) hkk
/-- Bytes that are said to be shared with a string. -/
theorem e_share {t e E : TypeId} {x : Operand} {b o n c i : Nat} {op : Bool} {C : List V} {oo : Option Nat} {mk : Bool} {L' : HV} {kk : VR → HV → Prop} [ht : SliceV K.C t e] [he : IntV K.C e .u8] (hx : evL l x = some (.sl (some (b, o)) n c op)) [hL : AtV b L (.cells C E oo mk) i] [hS : SetV L i (some b, .cells C E oo true) L'] (hkk : kk (.v (.sl (some (b, o)) n c op)) L') : EV K hp0 l L (.convert t t x) [b] kk := by
  obtain ⟨ti, h3, h4⟩ := ht.h
  obtain ⟨ei, h5, h6⟩ := he.h
  unfold EV
  intro fr hp hf hs
  have hb := hs.has i b _ hL.h
  obtain ⟨h1, h2⟩ := put_sv (o' := .cells C E oo true) hs hL.h
  refine ⟨_, _, L', ⟨0, fun n _ => ?_⟩, by rw [← hS.h]; exact h1, h2, tch_put hb.2.1, hkk⟩
  show oConv K.C fr hp t t x = _
  have e3 : hp.getW b = some (.cells C E oo mk) := by simp only [Hp.getW, hb.2.1.1]; exact hb.1
  simp only [oConv, hf.ev hx, Option.bind_some, vconv, h3, h4, Nat.beq_refl, h5, h6, e3, ret2]
/-- A string's bytes, in new memory. -/
theorem e_s2b {s t e : TypeId} {x : Operand} {a : List UInt8} {kk : VR → HV → Prop} [hs : StrV K.C s] [ht : SliceV K.C t e] [he : IntV K.C e .u8] (hx : evL l x = some (.s a)) (hkk : ∀ b, kk (.v (.sl (some (b, 0)) a.length a.length true)) ((some b, .cells (a.map byV) e (some 1) true) :: L)) : EV K hp0 l L (.convert s t x) [] kk := by
  obtain ⟨si, h1, h2⟩ := hs.h
  obtain ⟨ti, h3, h4⟩ := ht.h
  obtain ⟨ei, h5, h6⟩ := he.h
  exact ev_new (o := .cells (a.map byV) e (some 1) true) (f := fun b => .sl (some (b, 0)) a.length a.length true) (fun call fr hp hf hs => by
    show oConv K.C fr hp s t x = _
    simp only [oConv, hf.ev hx, Option.bind_some, vconv, h1, h3, h2, h4, h5, h6, lenF_eq, ret2]
    cases hp.new (.cells (a.map byV) e (some 1) true) <;> rfl) hkk
/-- A slice against nil. -/
theorem m_eqsl {t t' e : TypeId} {x y : Operand} {a : Nat × Nat} {n c : Nat} {op : Bool} [hS : SliceV K.C t e] (hx : evL l x = some (.sl (some a) n c op)) (hy : evL l y = some (.sl none 0 0 false)) : MVO K hp0 l L (.binOp .eql t x y t') (.b false) := by
  obtain ⟨ti, h1, h2⟩ := hS.h
  exact mv_eql hx hy rfl fun hp => by simp only [veqOp, veq, h1, Option.bind_some, h2]
theorem m_eqsl0 {t t' e : TypeId} {x y : Operand} {n c : Nat} {op : Bool} [hS : SliceV K.C t e] (hx : evL l x = some (.sl none n c op)) (hy : evL l y = some (.sl none 0 0 false)) : MVO K hp0 l L (.binOp .eql t x y t') (.b true) := by
  obtain ⟨ti, h1, h2⟩ := hS.h
  exact mv_eql hx hy rfl fun hp => by simp only [veqOp, veq, h1, Option.bind_some, h2]; rfl
/-- A call that the machine runs through by itself, whatever the memory. -/
theorem fn_run {K : Kx} {f : Nat} {args : List V} {v : V} {hp : Hp} {m : Nat} (ho : OkH hp) (h : ∀ k, vcall K.C K.ext K.extd (k + m) f args hp = some (.v v, hp)) : Fn K f args hp [] fun r _ => r = .v v := by
  unfold Fn
  refine ⟨.v v, hp, ⟨m, fun n hn => ?_⟩, [], ho.sv, stp_refl _ _, rfl⟩
  obtain ⟨k, rfl⟩ : ∃ k, n = k + m := ⟨n - m, by omega⟩
  exact h k
end
end Go.Proofs.YtlpcelcaahfafaaDoor
/- Wk: from the machine's memory to the world's: what a call from a small memory leaves as it was. By this project. -/
namespace Go.Proofs.YtlpcelcaahfafaaDoor
open Go.RowKit Go.Extern.Stop

/-- What may be turned of a small memory is whole blocks, told. -/
def Whole1 (E : Env) (t : Tr VO) : Prop := ∀ h o, t.get h = some o → roB h = false → ∃ cs T b, o = .cells cs T none false ∧ E h = some (b, 0, 0)
/-- A call that leaves such a memory as it was leaves the world as it was. -/
theorem keep_all {E E' : Env} {hp hp' : Hp} {w w' : World} {N : HV} (hw : Whole1 E hp.t) (ho : OkH hp) (hR : Rep E hp.t w) (hO : Out E hp w E' hp' w') (hs : SV ⟨hp, []⟩ hp' N) : ∀ k, k < w.heap.size → w'.heap[k]? = w.heap[k]? := fun k hk => by
  rcases Classical.em (∃ h o e, hp.t.get h = some o ∧ E h = some e ∧ roB h = false ∧ e.1 = k) with ⟨h, o, e, h1, h2, h3, h4⟩ | hn
  · obtain ⟨cs, T, b, rfl, h5⟩ := hw h o h1 h3
    rw [h2] at h5
    obtain rfl := Option.some.inj h5
    have h4 : b = k := h4
    subst h4
    have hlt : h < hp.nx := by
      rcases Nat.lt_or_ge h hp.nx with q | q
      · exact q
      · rw [ho.top h q h3] at h1; simp at h1
    have h6 : hp'.t.get h = some (.cells cs T none false) := by rw [hs.old h (not_own0 (.inl hlt))]; exact h1
    obtain ⟨b1, x1, p1, l1, s1, f1, a1, a2, a3, a4, a5, a6, a7, a8⟩ := rep_cells hR h1
    obtain ⟨b2, x2, p2, l2, s2, f2, c1, c2, c3, c4, c5, c6, c7, c8⟩ := rep_cells hO.rep h6
    rw [h2] at a1
    rw [hO.le h _ h2] at c1
    simp only [Option.some.injEq, Prod.mk.injEq] at a1 c1
    obtain ⟨rfl, e1, rfl⟩ := a1
    obtain ⟨rfl, e2, rfl⟩ := c1
    have q1 : p1 = [] := List.length_eq_zero_iff.1 e1.symm
    have q2 : p2 = [] := List.length_eq_zero_iff.1 e2.symm
    subst q1 q2
    obtain ⟨rfl, _⟩ := a5 rfl
    obtain ⟨rfl, _⟩ := c5 rfl
    obtain rfl := a7 rfl
    obtain rfl := c7 rfl
    have := renL_mono hO.le a3
    rw [c3] at this
    obtain rfl := Option.some.inj this
    rw [a2, c2]
  · exact hO.frm.keep k hk fun h o e h1 h2 h3 h4 => hn ⟨h, o, e, h1, h2, h3, h4⟩
theorem out_kept {E : Env} {hp : Hp} {w w' : World} (hR : Rep E hp.t w) (hk : ∀ k, k < w.heap.size → w'.heap[k]? = w.heap[k]?) (ho : w'.os = w.os) (ht : w'.tape = w.tape) (hu : w'.output = w.output) (hz : w.heap.size ≤ w'.heap.size) : Out E hp w E hp w' :=
  ⟨Env.le_refl E, fun _ _ => rfl, ⟨fun h o hh => by
    obtain ⟨e, x, h1, h2, h3⟩ := hR.has h o hh
    exact ⟨e, x, h1, by rw [hk _ (lt_of_heap h2)]; exact h2, h3⟩, hR.inj⟩, ⟨ho, ht, hu, hz, fun k hk' _ => hk k hk', fun h o e h1 h2 h3 => .inl ⟨h, o, e, h1, h2, h3, rfl⟩⟩⟩
end Go.Proofs.YtlpcelcaahfafaaDoor
/- What a law's row asks, out of a call that hands back true and turns nothing that was there. By this project. -/
namespace Go.Proofs.YtlpcelcaahfafaaDoor
open Go.ChangeShapes Go.WideShapes Go.ChangeAt Go.RowKit

section
variable {H : Type} {enc : TypeId × Value → H} {P : Program}
theorem trodAll_below (hl : laidOutB P = true) {W W' : World} (hb : Below W.heap.size W W') : ∀ (ts : List TypeId) (vs : List Value) (ds : List (DataW H)) (ps : List MemPlace), (ts.all fun t => P.readableRec t && decide (t < P.types.size)) = true →
    DataW.TrodAll enc P W 0 (fun _ => true) true ts vs ds ps → (∀ x ∈ ps, x.block < W.heap.size) → DataW.TrodAll enc P W' 0 (fun b => decide (b < W.heap.size)) true ts vs ds ps
  | [], vs, ds, ps, _, h, _ => by
    cases vs <;> cases ds <;> simp [DataW.TrodAll] at h ⊢
    exact h
  | t :: ts, vs, ds, ps, ht, h, hlt => by
    obtain ⟨v, vs', d, ds', p, q, rfl, rfl, rfl, h1, h2⟩ := trodAll_cons h
    simp only [List.all_cons, Bool.and_eq_true, decide_eq_true_eq] at ht
    have k1 := Below.trod hl ht.1.1 ht.1.2 h1 hb (fun x hx => hlt x (by simp [hx]))
    have k2 := trodAll_below hl hb ts vs' ds' q ht.2 h2 (fun x hx => hlt x (by simp [hx]))
    exact ⟨p, q, k1, k2, rfl⟩
theorem law_post {f : Func} {s : ChangeSpec} {W W' : World} {args : Array Value} {ds gs : List (DataW H)} {before : List MemPlace} {tb : TypeId} (hW : DataW.Whole enc P f.params.toList s.vars false W args.toList ds gs before)
    (hl : laidOutB P = true) (hp : (f.params.toList.all fun t => P.readableRec t && decide (t < P.types.size)) = true) (hr : f.resultTypes = #[tb]) (hb : P.underlying tb = some .bool) (hs : s.vars = [])
    (h1 : (s.fn H (ds ++ gs)).results = [.lit (.bool true)]) (h2 : (s.fn H (ds ++ gs)).args = ds) (h3 : (s.fn H (ds ++ gs)).vars = []) (hbel : Below W.heap.size W W') :
    s.post enc P f false true false false W args (.bool true) W' := by
  have hW' := hW
  obtain ⟨p, q, hA, hV, rfl, hfz, hnd⟩ := hW
  rw [hs] at hV
  obtain ⟨rfl, rfl⟩ := trodVars_none hV
  refine ⟨ds, [], _, [], p, [], hW', ?_, ?_, ?_, hbel.frame _, fun h => by cases h⟩
  · rw [h1, hr]
    exact trodAll_mk1 (shut_bool hb true)
  · rw [h2]
    exact trodAll_below hl hbel _ _ _ _ hp hA (fun x hx => by simpa using hW'.lt x (by simpa using hx))
  · rw [h3, hs]
    rfl
end

section
variable {H : Type} {enc : TypeId × Value → H} {P : Program} {w : World} {base fuel : Nat} {sp : Nat → Bool} {held : Bool} {t e : TypeId} {cs : List Value} {ds : List (DataW H)} {p : List MemPlace}
theorem trod_int1 {k : IntKind} {n : Int} {o : Nat} {q : List MemPlace} (ht : intT P t = some k) (h : DataW.trod enc P w base sp held fuel t ((cs.drop o).take 1) = some (.lit (.int k n), q)) : cs[o]? = some (.int k n) := by
  obtain ⟨m, h1, h2, _⟩ := DataW.trod_int (und_int ht) h
  simp only [Prod.mk.injEq, DataW.lit.injEq, Lit.int.injEq, true_and] at h2
  obtain ⟨rfl, _⟩ := h2
  have := congrArg (·[0]?) h1
  simpa [List.getElem?_take, List.getElem?_drop] using this
end
theorem trodAll_nil {H : Type} {enc : TypeId × Value → H} {P : Program} {W : World} {b : Nat} {sp : Nat → Bool} {vs : List Value} {ds : List (DataW H)} {held : Bool} {p : List MemPlace} (h : DataW.TrodAll enc P W b sp held [] vs ds p) : vs = [] ∧ ds = [] := by
  cases vs <;> cases ds <;> simp [DataW.TrodAll] at h ⊢
end Go.Proofs.YtlpcelcaahfafaaDoor
/- Vgl: package variables of numbers and truth values at a law's beginning. By this project. -/
set_option maxRecDepth 100000
namespace Go.Proofs.YtlpcelcaahfafaaDoor
open Go.ChangeShapes Go.WideShapes Go.ChangeAt Go.RowKit Go.Extern.Stop

/-- Cells that are the same (whole numbers and truth values). -/
def vSame : V → V → Bool
  | .i k n, .i k' n' => kindEq k k' && intEq n n'
  | .b x, .b y => x == y
  | _, _ => false
theorem vSame_eq {a b : V} (h : vSame a b = true) : a = b := by
  unfold vSame at h
  split at h
  · rename_i k n k' n'
    simp only [Bool.and_eq_true] at h
    obtain ⟨h1, h2⟩ := h
    have e1 : k = k' := by cases k <;> cases k' <;> first | rfl | simp [kindEq] at h1
    have e2 : n = n' := by
      cases n <;> cases n' <;> simp only [intEq] at h2 <;> first | exact congrArg _ (Nat.eq_of_beq_eq_true h2) | simp at h2
    rw [e1, e2]
  · simp only [beq_iff_eq] at h
    rw [h]
  · simp at h
noncomputable def lSame (a : List V) : List V → Bool := List.rec (fun b => b.isEmpty) (fun x _ ih b => List.rec false (fun y s _ => Bool.rec false (ih s) (vSame x y)) b) a
theorem lSame_eq : ∀ {a b : List V}, lSame a b = true → a = b
  | [], [], _ => rfl
  | [], y :: s, h => by simp [lSame] at h
  | x :: r, [], h => by simp [lSame] at h
  | x :: r, y :: s, h => by
    have e : lSame (x :: r) (y :: s) = Bool.rec false (lSame r s) (vSame x y) := rfl
    rw [e] at h
    cases hb : vSame x y with
    | false => rw [hb] at h; simp at h
    | true =>
      rw [hb] at h
      rw [vSame_eq hb, lSame_eq h]
/-- Package variables: number, cells, type. -/
abbrev Gs := List (Nat × List V × TypeId)
noncomputable def gsT : Gs → Tr VO
  | [] => .lf
  | (g, cs, T) :: r => (gsT r).set g (some (.cells cs T none false))
noncomputable def gsHp (gs : Gs) : Hp := ⟨gsT gs, gMax, []⟩
noncomputable def gsSame (hp : Hp) : Gs → Bool
  | [] => true
  | (g, cs, T) :: r => match hp.t.get g with
    | some (.cells cs' T' none false) => match Nat.beq T' T && lSame cs' cs with
      | true => gsSame hp r
      | false => false
    | _ => false
theorem gsSame_mem {hp : Hp} : ∀ {gs : Gs}, gsSame hp gs = true → ∀ x ∈ gs, hp.t.get x.1 = some (.cells x.2.1 x.2.2 none false)
  | [], _, x, hx => by simp at hx
  | (g, cs, T) :: r, h, x, hx => by
    simp only [gsSame] at h
    split at h
    · rename_i cs' T' hg
      split at h
      · rename_i hb
        simp only [Bool.and_eq_true] at hb
        rcases List.mem_cons.mp hx with rfl | hx
        · rw [hg, Nat.eq_of_beq_eq_true hb.1, lSame_eq hb.2]
        · exact gsSame_mem h x hx
      · simp at h
    · simp at h
theorem gsT_get : ∀ {gs : Gs}, (∀ x ∈ gs, x.1 < trMax) → ∀ h o, (gsT gs).get h = some o → ∃ x ∈ gs, x.1 = h ∧ o = .cells x.2.1 x.2.2 none false
  | [], _, h, o, ho => by rw [gsT, Tr.get_eq, tr_get_lf] at ho; simp at ho
  | (g, cs, T) :: r, hl, h, o, ho => by
    rw [gsT, Tr.get_set _ _ _] at ho
    split at ho
    · rename_i e
      simp only [Option.some.injEq] at ho
      exact ⟨(g, cs, T), by simp, e.symm, ho.symm⟩
    · obtain ⟨x, h1, h2⟩ := gsT_get (fun x hx => hl x (List.mem_cons_of_mem _ hx)) h o ho
      exact ⟨x, List.mem_cons_of_mem _ h1, h2⟩
/-- What is told of one of them. -/
def GOk (W : World) (x : Nat × List V × TypeId) : Prop := x.1 < gMax ∧ ∃ l, (∀ E, renL E x.2.1 = some l) ∧ l.all (·.oneCell') = true ∧ W.heap[x.1]? = some (.cells l.toArray x.2.2 (0, 0))
theorem gs_ok {gs : Gs} {W : World} (h : ∀ x ∈ gs, GOk W x) : GlOk (gsT gs) W := fun i o ho => by
  obtain ⟨x, hx, rfl, rfl⟩ := gsT_get (fun x hx => by have := (h x hx).1; unfold gMax at this; unfold trMax; omega) i o ho
  obtain ⟨h1, l, h2, h3, h4⟩ := h x hx
  exact ⟨h1, _, _, l, rfl, h2, h3, h4⟩
noncomputable def gsTrue (gs : Gs) (r : Option (VR × Hp)) : Bool := match r with
  | some (.v (.b true), hp) => gsSame hp gs
  | _ => false
theorem gs_law {P : Program} {call : CallF} (hc : CallOk P call) {f : Nat} {gs : Gs} (h : gsTrue gs (call f [] (gsHp gs)) = true) {W : World} (hg : ∀ x ∈ gs, GOk W x) : Calls P f #[] W fun e W' => e = .returned (.bool true) ∧ Below W.heap.size W W' := by
  unfold gsTrue at h
  split at h
  · rename_i hp' hr
    refine law_calls hc hr (fun E => rfl) (Nat.le_refl _) (gs_ok hg) fun i o ho => ?_
    obtain ⟨x, hx, rfl, rfl⟩ := gsT_get (fun x hx => by have := (hg x hx).1; unfold gMax at this; unfold trMax; omega) i o ho
    exact gsSame_mem h x hx
  · simp at h
/-! ### Plain data: its cells, one behind the other -/
mutual
def flatD {H : Type} : DataW H → Option (List Value)
  | .lit (.int k n) => some [.int k n]
  | .lit (.bool b) => some [.bool b]
  | .agg ds => flatDs ds
  | _ => none
def flatDs {H : Type} : List (DataW H) → Option (List Value)
  | [] => some []
  | d :: r => (flatD d).bind fun a => (flatDs r).bind fun b => some (a ++ b)
end
def contigT (P : Program) : List Field → Nat → Nat → Bool
  | [], o, n => o == n
  | f :: r, o, n => f.offset == o && contigT P r (o + P.cellsOf f.type) n
def plainT (P : Program) : Nat → TypeId → Bool
  | 0, _ => false
  | k + 1, t => match P.underlying t with
    | some .bool => true
    | some (.int _) => true
    | some (.array n e) => P.cellsOf t == n * P.cellsOf e && plainT P k e
    | some (.struct fs) => contigT P fs.toList 0 (P.cellsOf t) && fs.toList.all (fun f => plainT P k f.type)
    | _ => false
section
variable {H : Type} {enc : TypeId × Value → H} {P : Program} {w : World} {base : Nat} {sp : Nat → Bool} {held : Bool}
theorem flat_chunks (s : Nat) : ∀ (xs : List (DataW H × List MemPlace)) (cs : List Value), cs.length = xs.length * s → (∀ (i : Nat) y, xs[i]? = some y → flatD y.1 = some ((cs.drop (i * s)).take s)) → flatDs (xs.map (·.1)) = some cs
  | [], cs, hl, _ => by
    have : cs = [] := List.length_eq_zero_iff.1 (by simpa using hl)
    subst this
    simp [flatDs]
  | x :: r, cs, hl, h => by
    have h0 := h 0 x rfl
    have ih := flat_chunks s r (cs.drop s) (by rw [List.length_drop, hl, List.length_cons, Nat.add_mul]; omega) (fun i y hi => by
      have := h (i + 1) y (by simpa using hi)
      rw [List.drop_drop]
      rw [Nat.add_mul, Nat.one_mul, Nat.add_comm] at this
      exact this)
    simp only [Nat.zero_mul, List.drop_zero] at h0
    simp [flatDs, h0, ih]
theorem flat_fields : ∀ (fs : List Field) (o : Nat) (xs : List (DataW H × List MemPlace)) (cs : List Value), contigT P fs o cs.length = true → xs.length = fs.length →
    (∀ (i : Nat) (f : Field) y, fs[i]? = some f → xs[i]? = some y → flatD y.1 = some ((cs.drop f.offset).take (P.cellsOf f.type))) → flatDs (xs.map (·.1)) = some (cs.drop o)
  | [], o, xs, cs, hc, hl, _ => by
    have : xs = [] := List.length_eq_zero_iff.1 (by simpa using hl)
    subst this
    have : o = cs.length := by simpa [contigT] using hc
    subst this
    simp [flatDs]
  | f :: fs, o, [], cs, _, hl, _ => by simp at hl
  | f :: fs, o, x :: xs, cs, hc, hl, h => by
    simp only [contigT, Bool.and_eq_true, beq_iff_eq] at hc
    obtain ⟨rfl, hc⟩ := hc
    have h0 := h 0 f x rfl rfl
    have ih := flat_fields fs (f.offset + P.cellsOf f.type) xs cs hc (by simpa using hl) (fun i g y hg hy => h (i + 1) g y (by simpa using hg) (by simpa using hy))
    simp only [List.map_cons, flatDs, h0, ih, Option.bind_some, Option.some.injEq]
    rw [← List.drop_drop, List.take_append_drop]
theorem flat_trod : ∀ (k : Nat) (t : TypeId) (fuel : Nat) (cs : List Value) (d : DataW H) (p : List MemPlace), plainT P k t = true → DataW.trod enc P w base sp held fuel t cs = some (d, p) → flatD d = some cs
  | 0, t, fuel, cs, d, p, ht, h => by simp [plainT] at ht
  | k + 1, t, fuel, cs, d, p, ht, h => by
    unfold plainT at ht
    split at ht
    · rename_i hu
      obtain ⟨b, rfl, hx⟩ := DataW.trod_bool hu h
      simp only [Prod.mk.injEq] at hx
      obtain ⟨rfl, _⟩ := hx
      simp [flatD]
    · rename_i q hu
      obtain ⟨n, rfl, hx, _⟩ := DataW.trod_int hu h
      simp only [Prod.mk.injEq] at hx
      obtain ⟨rfl, _⟩ := hx
      simp [flatD]
    · rename_i n e hu
      simp only [Bool.and_eq_true, beq_iff_eq] at ht
      obtain ⟨xs, m, _, hx, hl, hxl, hf⟩ := DataW.trod_array hu h
      simp only [Prod.mk.injEq] at hx
      obtain ⟨rfl, _⟩ := hx
      simp only [flatD]
      refine flat_chunks (P.cellsOf e) xs cs (by rw [hl, ht.1, hxl]) fun i y hy => ?_
      have hi : i < n := by have := (List.getElem?_eq_some_iff.1 hy).1; omega
      have := hf i hi
      rw [hy] at this
      exact flat_trod k e m _ y.1 y.2 ht.2 this
    · rename_i fs hu
      simp only [Bool.and_eq_true] at ht
      obtain ⟨xs, m, _, hx, hl, hxl, hf⟩ := DataW.trod_struct hu h
      simp only [Prod.mk.injEq] at hx
      obtain ⟨rfl, _⟩ := hx
      simp only [flatD]
      have := flat_fields (P := P) fs.toList 0 xs cs (by rw [hl]; exact ht.1) (by simpa using hxl) fun i f y hg hy => by
        have hg' : fs[i]? = some f := by simpa using hg
        have := hf i f hg'
        rw [hy] at this
        exact flat_trod k f.type m _ y.1 y.2 (List.all_eq_true.1 ht.2 f (List.mem_of_getElem? hg)) this
      simpa using this
    · simp at ht
end
theorem glob_cells {P : Program} {W : World} {name : String} {g : Nat} {cs cs' : Array Value} {t : TypeId} {fz : Nat × Nat} (hg : P.globalNamed name = some g) (hv : W.var? P name = some cs) (hh : W.heap[g]? = some (.cells cs' t fz)) : cs' = cs := by
  unfold World.var? at hv
  rw [hg] at hv
  simp only [Option.bind_some, hh, Option.some.injEq] at hv
  exact hv
def rowOf (P : Program) (g : Nat) : Option TypeId := ((begin P (fun _ _ => 0) default).world.heap[g]?).bind Obj.row? |>.map (·.2)
theorem shaped_glob {P : Program} {W : World} (h : W.ShapedOpen P) {g : Nat} {t : TypeId} (hg : g < P.globals.size) (hr : rowOf P g = some t) : ∃ cs, W.heap[g]? = some (.cells cs t (0, 0)) := by
  unfold rowOf at hr
  simp only [Option.map_eq_some_iff] at hr
  obtain ⟨⟨z, t'⟩, h1, rfl⟩ := hr
  obtain ⟨cs, h2, _⟩ := h.1 g z t' hg h1
  exact ⟨cs, h2⟩
/-- A listed variable of plain data, as the row's list gives it; and what else it gives. -/
theorem laid_skip {P : Program} {W : World} {r : List (String × DataW Unit)} {ps : List MemPlace} {x : String × DataW Unit} (hL : DataW.LaidVars P W (x :: r) ps) : ∃ ps', DataW.LaidVars P W r ps' := by
  obtain ⟨_, _⟩ := x
  obtain ⟨g', t', cs', fuel, p, q, hg', ht', hvar, hd, hrest, _⟩ := hL
  exact ⟨_, hrest⟩
theorem laid_gl {P : Program} {W : World} {r : List (String × DataW Unit)} {ps : List MemPlace} {name : String} {D : DataW Unit} (g : Nat) (t : TypeId) (l : List Value) (cs : List V) (hL : DataW.LaidVars P W ((name, D) :: r) ps) (hS : W.ShapedOpen P)
    (hg : P.globalNamed name = some g) (ht : (P.globals[g]?).map (·.type) = some t) (hlt : g < P.globals.size) (hgm : g < gMax) (hrow : rowOf P g = some t) (hpl : plainT P 8 t = true) (hf : flatD D = some l) (hr : ∀ E, renL E cs = some l) (h1 : l.all (·.oneCell') = true) :
    GOk W (g, cs, t) ∧ ∃ ps', DataW.LaidVars P W r ps' := by
  obtain ⟨g', t', cs', fuel, p, q, hg', ht', hvar, hd, hrest, _⟩ := hL
  obtain rfl : g' = g := Option.some.inj (hg'.symm.trans hg)
  obtain rfl : t' = t := Option.some.inj (ht'.symm.trans ht)
  have h2 := flat_trod 8 _ _ _ _ _ hpl hd
  rw [hf] at h2
  obtain rfl := Option.some.inj h2
  obtain ⟨a1, b1⟩ := shaped_glob hS hlt hrow
  obtain rfl := glob_cells hg hvar b1
  refine ⟨⟨hgm, _, hr, h1, ?_⟩, _, hrest⟩
  show W.heap[g']? = _
  rw [b1]
end Go.Proofs.YtlpcelcaahfafaaDoor
/- Wl: a law whose arguments hold slices of bytes: from a contract of the machine to a call in the world. By this project. -/
set_option maxRecDepth 100000
namespace Go.Proofs.YtlpcelcaahfafaaDoor
open Go.RowKit Go.Extern.Stop

/-- Bytes that were handed in: where, which, the room; the block's kind of cell; how much lies behind them. -/
structure BV where
  A : Option Addr
  xs : List UInt8
  c : Nat
  T : TypeId
  ex : Nat
/-- They lie there. -/
structure BvOk (W : World) (q : BV) : Prop where
  emp : q.A = none → q.xs = []
  spot : ∀ a, q.A = some a → a.spot = none
  at' : ∀ a, q.A = some a → q.xs ≠ [] → ∃ pre sp fz, W.heap[a.block]? = some (.cells (pre ++ q.xs.map cell ++ sp).toArray q.T fz) ∧ pre.length = a.off ∧ sp.length = q.ex
theorem bv_of {W : World} {A : Option Addr} {xs : List UInt8} {c : Nat} (hs : ∀ a, A = some a → a.spot = none) (h : RW W A (xs.map cell)) : ∃ q : BV, q.A = A ∧ q.xs = xs ∧ q.c = c ∧ BvOk W q := by
  cases xs with
  | nil => exact ⟨⟨A, [], c, 0, 0⟩, rfl, rfl, rfl, ⟨fun _ => rfl, hs, fun a _ hn => absurd rfl hn⟩⟩
  | cons x r =>
    obtain ⟨a, rfl, h0⟩ := h 0 (cell x) rfl
    have hsp := hs a rfl
    obtain ⟨ab, ao, sp⟩ := a
    simp only at hsp
    subst hsp
    have hcell : ∀ j v, ((x :: r).map cell)[j]? = some v → W.cell? ⟨ab, ao + j, none⟩ = some v := fun j v hv => by
      obtain ⟨ad, e, h1⟩ := h j v hv
      obtain rfl := Option.some.inj e
      rw [Addr.add_mid] at h1
      exact h1
    obtain ⟨C, T, fz, hb⟩ : ∃ C T fz, W.heap[ab]? = some (.cells C T fz) := by
      have h0 := hcell 0 (cell x) rfl
      unfold World.cell? at h0
      simp only at h0
      split at h0
      · rename_i c t f hq
        exact ⟨c, t, f, hq⟩
      · simp at h0
    have hC : ∀ j v, ((x :: r).map cell)[j]? = some v → C.toList[ao + j]? = some v := fun j v hv => by
      have h1 := hcell j v hv
      unfold World.cell? at h1
      simp only [hb, Option.isSome_none, Bool.false_eq_true, if_false] at h1
      simpa using h1
    have hlen : ao + (x :: r).length ≤ C.toList.length := by
      have := hC r.length (cell ((x :: r)[r.length]'(by simp))) (by rw [List.getElem?_map, List.getElem?_eq_getElem (by simp)]; rfl)
      have := (List.getElem?_eq_some_iff.1 this).1
      simp only [List.length_cons]
      omega
    have hmid : (C.toList.drop ao).take (x :: r).length = (x :: r).map cell := by
      apply List.ext_getElem?
      intro j
      rw [List.getElem?_take]
      split
      · rename_i hj
        rw [List.getElem?_drop]
        rw [hC j (cell ((x :: r)[j])) (by rw [List.getElem?_map, List.getElem?_eq_getElem hj]; rfl), List.getElem?_map, List.getElem?_eq_getElem hj]
        rfl
      · rename_i hj
        rw [List.getElem?_eq_none (by rw [List.length_map]; omega)]
    refine ⟨⟨some ⟨ab, ao, none⟩, x :: r, c, T, C.toList.length - (ao + (x :: r).length)⟩, rfl, rfl, rfl, ⟨fun e => by simp at e, fun b e => hs b e, fun b e _ => ?_⟩⟩
    obtain rfl := Option.some.inj e
    refine ⟨C.toList.take ao, C.toList.drop (ao + (x :: r).length), fz, ?_, by rw [List.length_take]; exact Nat.min_eq_left (by omega), by rw [List.length_drop]⟩
    rw [hb, ← hmid, ← List.drop_drop, List.append_assoc, List.take_append_drop, List.take_append_drop]
def bvE (bs : List BV) : Env := fun x => match decide (x < gMax) with
  | true => some (x, 0, 0)
  | false => match roB x with
    | true => (bs[(x - 65) / 2]?).bind fun q => q.A.map fun a => (a.block, a.off, q.ex)
    | false => none
noncomputable def bvT : List BV → Nat → Tr VO → Tr VO
  | [], _, t => t
  | q :: r, i, t => bvT r (i + 1) (match q.xs with
    | [] => t
    | _ => t.set (65 + 2 * i) (some (.cells (q.xs.map byV) q.T (some 1) true)))
def bvV (i : Nat) (q : BV) : V := .sl (q.A.map fun _ => (65 + 2 * i, 0)) q.xs.length q.c false
theorem bvT_lo : ∀ (bs : List BV) (i : Nat) (t : Tr VO) (x : Nat), x < 65 + 2 * i → (bvT bs i t).get x = t.get x
  | [], _, _, _, _ => rfl
  | q :: r, i, t, x, h => by
    rw [bvT, bvT_lo r (i + 1) _ x (by omega)]
    split
    · rfl
    · rw [Tr.get_set, if_neg (by omega)]
theorem bvT_at : ∀ (bs : List BV) (i : Nat) (t : Tr VO) (j : Nat) (q : BV), bs[j]? = some q → q.xs ≠ [] → (bvT bs i t).get (65 + 2 * (i + j)) = some (.cells (q.xs.map byV) q.T (some 1) true)
  | [], _, _, _, _, h, _ => by simp at h
  | q :: r, i, t, 0, p, h, hn => by
    simp only [List.getElem?_cons_zero, Option.some.injEq] at h
    subst h
    rw [bvT, bvT_lo r (i + 1) _ _ (by omega)]
    split
    · rename_i e
      exact absurd e hn
    · rw [Nat.add_zero, Tr.get_set, if_pos rfl]
  | q :: r, i, t, j + 1, p, h, hn => by
    rw [bvT, show i + (j + 1) = (i + 1) + j by omega]
    exact bvT_at r (i + 1) _ j p (by simpa using h) hn
theorem bvT_inv : ∀ (bs : List BV) (i : Nat) (t : Tr VO) (x : Nat) (o : VO), (bvT bs i t).get x = some o → t.get x = some o ∨ ∃ j q, bs[j]? = some q ∧ q.xs ≠ [] ∧ x = 65 + 2 * (i + j) ∧ o = .cells (q.xs.map byV) q.T (some 1) true
  | [], _, _, _, _, h => .inl h
  | q :: r, i, t, x, o, h => by
    rw [bvT] at h
    rcases bvT_inv r (i + 1) _ x o h with h1 | ⟨j, p, h1, h2, h3, h4⟩
    · split at h1
      · exact .inl h1
      · rename_i hne
        rw [Tr.get_set] at h1
        split at h1
        · rename_i e
          exact .inr ⟨0, q, rfl, fun e2 => hne e2, by rw [Nat.add_zero]; exact e, (Option.some.inj h1).symm⟩
        · exact .inl h1
    · exact .inr ⟨j + 1, p, by simpa using h1, h2, by omega, h4⟩
def notByte : V → Bool
  | .i .u8 _ => false
  | .i _ _ => true
  | .b _ => true
  | _ => false
theorem notByte_ren {E : Env} : ∀ {cs : List V} {l : List Value}, cs.all notByte = true → renL E cs = some l → ∀ v ∈ l, ∀ y : UInt8, v ≠ cell y
  | [], l, _, h, v, hv, y => by simp [renL] at h; subst h; simp at hv
  | c :: r, l, ha, h, v, hv, y => by
    simp only [List.all_cons, Bool.and_eq_true] at ha
    obtain ⟨x, t, h1, h2, rfl⟩ := renL_cons h
    rcases List.mem_cons.1 hv with rfl | hv
    · intro e
      subst e
      cases c with
      | i k n =>
        simp [ren] at h1
        obtain ⟨rfl, _⟩ := h1
        simp [notByte] at ha
      | b b => simp [ren, cell] at h1
      | _ => simp [notByte] at ha
    · exact notByte_ren ha.2 h2 v hv y
theorem roB_view (i : Nat) : roB (65 + 2 * i) = true := by
  have e : (65 + 2 * i) % 2 = 1 := by omega
  have e2 : Nat.ble gMax (65 + 2 * i) = true := ble_t (by show 64 ≤ _; omega)
  unfold roB
  rw [e2]
  show Nat.beq ((65 + 2 * i) % 2) 1 = true
  rw [e]
  rfl
theorem bvE_view {bs : List BV} {i : Nat} {q : BV} (h : bs[i]? = some q) : bvE bs (65 + 2 * i) = q.A.map fun a => (a.block, a.off, q.ex) := by
  have e1 : decide (65 + 2 * i < gMax) = false := decide_eq_false (by show ¬ _ < 64; omega)
  have e2 : (65 + 2 * i - 65) / 2 = i := by omega
  simp only [bvE, e1, roB_view, e2, h, Option.bind_some]
theorem bvE_gl (bs : List BV) : GlE (bvE bs) := fun g hg => by simp only [bvE, decide_eq_true hg]
theorem renL_bytes {E : Env} : ∀ (xs : List UInt8), renL E (xs.map byV) = some (xs.map cell)
  | [] => rfl
  | x :: r => by
    have e : ren E (byV x) = some (cell x) := rfl
    simp [renL, e, renL_bytes r]
/-- The memory at a law's beginning. -/
noncomputable def lawHp (gs : Gs) (bs : List BV) : Hp := ⟨bvT bs 0 (gsT gs), 66 + 2 * bs.length, []⟩
theorem ren_bv {bs : List BV} {i : Nat} {q : BV} {W : World} (h : bs[i]? = some q) (hq : BvOk W q) : ren (bvE bs) (bvV i q) = some (.slice q.A q.xs.length q.c) := by
  unfold bvV
  cases hA : q.A with
  | none => simp [ren]
  | some a =>
    have e := bvE_view h
    rw [hA] at e
    have hs := hq.spot a hA
    simp only [Option.map_some] at e ⊢
    simp only [ren, e, Option.map_some, Nat.add_zero]
    obtain ⟨b, o, s⟩ := a
    simp only at hs
    subst hs
    simp
section
variable {gs : Gs} {bs : List BV} {W : World} (hg : ∀ x ∈ gs, GOk W x) (hnb : ∀ x ∈ gs, x.2.1.all notByte = true) (hb : ∀ q ∈ bs, BvOk W q)
include hg hnb hb
theorem law_rep : Rep (bvE bs) (lawHp gs bs).t W := by
  have hlt : ∀ x ∈ gs, x.1 < trMax := fun x hx => by have := (hg x hx).1; unfold gMax at this; unfold trMax; omega
  have key : ∀ x o, (lawHp gs bs).t.get x = some o → (∃ g ∈ gs, g.1 = x ∧ o = .cells g.2.1 g.2.2 none false) ∨ ∃ j q, bs[j]? = some q ∧ q.xs ≠ [] ∧ x = 65 + 2 * j ∧ o = .cells (q.xs.map byV) q.T (some 1) true := fun x o h => by
    rcases bvT_inv bs 0 _ x o h with h | ⟨j, q, h1, h2, h3, h4⟩
    · exact .inl (gsT_get hlt x o h)
    · exact .inr ⟨j, q, h1, h2, by rw [h3, Nat.zero_add], h4⟩
  have hview : ∀ j q, bs[j]? = some q → q.xs ≠ [] → ∃ a pre sp fz, q.A = some a ∧ bvE bs (65 + 2 * j) = some (a.block, a.off, q.ex) ∧ W.heap[a.block]? = some (.cells (pre ++ q.xs.map cell ++ sp).toArray q.T fz) ∧ pre.length = a.off ∧ sp.length = q.ex := fun j q h hn => by
    have ok := hb q (List.mem_of_getElem? h)
    cases hA : q.A with
    | none => exact absurd (ok.emp hA) hn
    | some a =>
      obtain ⟨pre, sp, fz, h1, h2, h3⟩ := ok.at' a hA hn
      exact ⟨a, pre, sp, fz, rfl, by rw [bvE_view h, hA]; rfl, h1, h2, h3⟩
  have apart : ∀ g ∈ gs, ∀ j q e, bs[j]? = some q → q.xs ≠ [] → bvE bs (65 + 2 * j) = some e → e.1 ≠ g.1 := fun g hgm j q e h hn he hc => by
    obtain ⟨a, pre, sp, fz, hA, h1, h2, h3, h4⟩ := hview j q h hn
    rw [h1] at he
    obtain rfl := Option.some.inj he
    obtain ⟨_, l, k1, k2, k3⟩ := hg g hgm
    have hc : a.block = g.1 := hc
    rw [hc, k3] at h2
    simp only [Option.some.injEq, Obj.cells.injEq] at h2
    have h5 : l = pre ++ q.xs.map cell ++ sp := by
      have := congrArg Array.toList h2.1
      simpa using this
    obtain ⟨x, r, hx⟩ := List.exists_cons_of_ne_nil hn
    exact notByte_ren (hnb g hgm) (k1 (bvE bs)) (cell x) (by rw [h5, hx]; simp) x rfl
  refine ⟨fun x o h => ?_, fun x y o o' e e' hx hy hex hey hee => ?_⟩
  · rcases key x o h with ⟨g, hgm, rfl, rfl⟩ | ⟨j, q, h1, h2, rfl, rfl⟩
    · obtain ⟨k0, l, k1, k2, k3⟩ := hg g hgm
      exact ⟨(g.1, 0, 0), _, bvE_gl bs _ k0, k3, [], l, [], (0, 0), k1 _, k2, rfl, by simp, fun _ => ⟨rfl, rfl⟩, fun s hs => by simp at hs, fun _ => rfl, .inl rfl⟩
    · obtain ⟨a, pre, sp, fz, hA, k1, k2, k3, k4⟩ := hview j q h1 h2
      refine ⟨_, _, k1, k2, pre, q.xs.map cell, sp, fz, renL_bytes _, ?_, k3, rfl, fun e => by simp at e, fun s hs => ?_, fun e => by simp at e, .inr (.inr (roB_view j))⟩
      · simp [Value.oneCell', cell]
      · simp only [Option.some.injEq] at hs
        subst hs
        simpa using k4
  · rcases key x o hx with ⟨g, hgm, rfl, rfl⟩ | ⟨j, q, h1, h2, rfl, rfl⟩ <;> rcases key y o' hy with ⟨g', hgm', rfl, rfl⟩ | ⟨j', q', h1', h2', rfl, rfl⟩
    · rw [bvE_gl bs _ (hg g hgm).1] at hex
      rw [bvE_gl bs _ (hg g' hgm').1] at hey
      obtain rfl := Option.some.inj hex
      obtain rfl := Option.some.inj hey
      exact .inl hee
    · rw [bvE_gl bs _ (hg g hgm).1] at hex
      obtain rfl := Option.some.inj hex
      exact absurd hee.symm (apart g hgm j' q' e' h1' h2' hey)
    · rw [bvE_gl bs _ (hg g' hgm').1] at hey
      obtain rfl := Option.some.inj hey
      exact absurd hee (apart g' hgm' j q e h1 h2 hex)
    · exact .inr ⟨roB_view j, roB_view j'⟩
theorem law_okH : OkH (lawHp gs bs) := by
  refine ⟨fun h hh hr => ?_, ?_⟩
  · have hh : 66 + 2 * bs.length ≤ h := hh
    cases hq : (lawHp gs bs).t.get h with
    | none => rfl
    | some o =>
      rcases bvT_inv bs 0 _ h o hq with h1 | ⟨j, q, h1, h2, h3, h4⟩
      · obtain ⟨g, hgm, rfl, _⟩ := gsT_get (fun x hx => by have := (hg x hx).1; unfold gMax at this; unfold trMax; omega) h o h1
        have := (hg g hgm).1
        have : g.1 < 64 := this
        omega
      · rw [h3, Nat.zero_add, roB_view] at hr
        simp at hr
  · have e : (66 + 2 * bs.length) % 2 = 0 := by omega
    show (Nat.beq ((66 + 2 * bs.length) % 2) 0 && Nat.ble gMax (66 + 2 * bs.length)) = true
    rw [e, ble_t (show gMax ≤ 66 + 2 * bs.length by show 64 ≤ _; omega)]
    rfl
theorem law_ro {i : Nat} {q : BV} (h : bs[i]? = some q) : RB ⟨lawHp gs bs, []⟩ (q.A.map fun _ => (65 + 2 * i, 0)) (q.xs.map byV) := by
  have hro : RO (lawHp gs bs) (q.A.map fun _ => (65 + 2 * i, 0)) (q.xs.map byV) := by
    refine ⟨fun b o e => ?_, fun j v hv => ?_⟩
    · simp only [Option.map_eq_some_iff, Prod.mk.injEq] at e
      obtain ⟨_, _, rfl, _⟩ := e
      exact .inr (roB_view i)
    · have hn : q.xs ≠ [] := fun e => by rw [e] at hv; simp at hv
      cases hA : q.A with
      | none => exact absurd ((hb q (List.mem_of_getElem? h)).emp hA) hn
      | some a =>
        refine ⟨65 + 2 * i, 0, rfl, ?_⟩
        have e := bvT_at bs 0 (gsT gs) i q h hn
        rw [Nat.zero_add] at e
        have e' : (lawHp gs bs).t.get (65 + 2 * i) = some (.cells (q.xs.map byV) q.T (some 1) true) := e
        simp only [cellV, cellsAt, Hp.get, e', Option.bind_some, Nat.zero_add]
        exact hv
  exact ⟨hro, now0 hro⟩
theorem law_glob {x : Nat × List V × TypeId} (hx : x ∈ gs) (hget : (gsT gs).get x.1 = some (.cells x.2.1 x.2.2 none false)) : (lawHp gs bs).t.get x.1 = some (.cells x.2.1 x.2.2 none false) := by
  have h1 := (hg x hx).1
  have h1 : x.1 < 64 := h1
  show (bvT bs 0 (gsT gs)).get x.1 = _
  rw [bvT_lo bs 0 _ _ (by omega)]
  exact hget
/-- The call. -/
theorem bv_law {P : Program} {C : Cx} {ext : CallF} {extd : DefF} (hc : ∀ n, CallOk P (vcall C ext extd n)) {f : Nat} {args : List V} {vargs : List Value} (hargs : renL (bvE bs) args = some vargs) (hfn : Fn ⟨C, ext, extd⟩ f args (lawHp gs bs) [] fun r _ => r = .v (.b true)) :
    Calls P f vargs.toArray W fun e W' => e = .returned (.bool true) ∧ Below W.heap.size W W' := by
  have hR := law_rep hg hnb hb
  have hO := law_okH hg hnb hb
  unfold Fn at hfn
  obtain ⟨r, hp', ⟨M, hrun⟩, N', hsv, hstp, rfl⟩ := hfn
  obtain ⟨_, _, key⟩ := hc M _ _ _ _ _ (hrun M (Nat.le_refl _))
  refine (key (bvE bs) W vargs hR (bvE_gl bs) hargs (fun x h1 h2 => ?_)).mono ?_
  · have h1 : 66 + 2 * bs.length ≤ x := h1
    have e1 : decide (x < gMax) = false := decide_eq_false (by show ¬ _ < 64; omega)
    simp only [bvE, e1]
    split
    · rw [List.getElem?_eq_none (by omega)]
      rfl
    · rfl
  · rintro e w' ⟨E', hOut, x, hx, rfl⟩
    have hx' : x = .bool true := by simpa [ren] using hx.symm
    subst hx'
    have hW1 : Whole1 (bvE bs) (lawHp gs bs).t := fun x o hx hr => by
      rcases bvT_inv bs 0 _ x o hx with h1 | ⟨j, q, h1, h2, h3, h4⟩
      · obtain ⟨g, hgm, rfl, rfl⟩ := gsT_get (fun x hx => by have := (hg x hx).1; unfold gMax at this; unfold trMax; omega) x o h1
        exact ⟨_, _, _, rfl, bvE_gl bs _ (hg g hgm).1⟩
      · rw [h3, Nat.zero_add, roB_view] at hr
        simp at hr
    exact ⟨rfl, hOut.frm.os, hOut.frm.tape, hOut.frm.output, hOut.frm.size, keep_all hW1 hO hR hOut hsv⟩
end
end Go.Proofs.YtlpcelcaahfafaaDoor
/- Wo: opening slices of bytes and rows of bytes that are handed in. By this project. -/
namespace Go.Proofs.YtlpcelcaahfafaaDoor
open Go.ChangeShapes Go.WideShapes Go.ChangeAt Go.RowKit Go.Extern.Stop

theorem okWide_agg {P : Program} {w : World} {r : Reach} {base : Nat} {t : TypeId} {v : Value} {ts : List TypeId} {n : Nat} (hrow : rowT P t = some true) (hn : P.cellsOf t = n) (hts : P.cellTypes P.depth t = some ts) (hl : ts.length = n) (h : Value.okWide P w r base t v) :
    ∃ C : List Value, v = .agg C.toArray ∧ C.length = n ∧ ∀ (i : Nat) (x : Value) (u : TypeId), C[i]? = some x → ts[i]? = some u → Cell.okWide P w r base u x := by
  unfold rowT at hrow
  cases hu : P.underlying t with
  | none => rw [hu] at hrow; simp at hrow
  | some d =>
    rw [hu] at hrow
    have key : (∃ cs, v = .agg cs ∧ cs.size = P.cellsOf t ∧ Row.okWide P w r base t cs) := by
      unfold Value.okWide at h
      rw [hu] at h
      cases d <;> first | exact h | simp at hrow
    obtain ⟨cs, rfl, hsz, ts', hts', _, hc⟩ := key
    rw [hts] at hts'
    obtain rfl := Option.some.inj hts'
    refine ⟨cs.toList, by simp, by simpa [hn] using hsz, fun i x u hx hu' => ?_⟩
    have hi : i < n := by have := (List.getElem?_eq_some_iff.1 hu').1; omega
    obtain ⟨u2, h1, h2⟩ := hc i x (by simpa using hx)
    rw [hl, Nat.mod_eq_of_lt hi, hu'] at h1
    obtain rfl := Option.some.inj h1
    exact h2
theorem okWide_cell_int {P : Program} {w : World} {r : Reach} {base : Nat} {t : TypeId} {v : Value} {k : IntKind} (ht : intT P t = some k) (h : Cell.okWide P w r base t v) : ∃ n, v = .int k n ∧ k.has n := by
  have hu := und_int ht
  unfold Cell.okWide at h
  rw [hu] at h
  have h' : Cell.ok P w r base t v := by cases v <;> exact h
  unfold Cell.ok at h'
  rw [hu] at h'
  cases v <;> simp at h'
  obtain ⟨rfl, h2⟩ := h'
  exact ⟨_, rfl, h2⟩
open Go.Extern.Stop in
theorem bytes_of_cells : ∀ (L : List Value), (∀ v ∈ L, ∃ n, v = .int .u8 n ∧ IntKind.u8.has n) → ∃ xs : List UInt8, L = xs.map cell
  | [], _ => ⟨[], rfl⟩
  | v :: r, h => by
    obtain ⟨n, rfl, hn⟩ := h v (by simp)
    obtain ⟨xs, rfl⟩ := bytes_of_cells r (fun v hv => h v (by simp [hv]))
    refine ⟨UInt8.ofNat n.toNat :: xs, ?_⟩
    have h1 : 0 ≤ n ∧ n ≤ 255 := by simpa [IntKind.has, IntKind.min, IntKind.max, IntKind.signed, IntKind.bits] using hn
    have : ((UInt8.ofNat n.toNat).toNat : Int) = n := by simp; omega
    show _ = Value.int .u8 ((UInt8.ofNat n.toNat).toNat : Int) :: _
    rw [this]

theorem seg_bytes {P : Program} {w : World} {r : Reach} {base : Nat} {ts : List TypeId} {C : List Value} {o n : Nat} {e : TypeId} (he : intT P e = some .u8) (hC : o + n ≤ C.length) (hts : ∀ i, i < n → ts[o + i]? = some e)
    (h : ∀ (i : Nat) (x : Value) (u : TypeId), C[i]? = some x → ts[i]? = some u → Cell.okWide P w r base u x) : ∃ xs : List UInt8, (C.drop o).take n = xs.map cell := by
  refine bytes_of_cells _ fun v hv => ?_
  obtain ⟨i, hi, rfl⟩ := List.mem_iff_getElem.1 hv
  have hin : i < n := by simp at hi; omega
  have hx : C[o + i]? = some ((C.drop o).take n)[i] := by
    rw [List.getElem_take, List.getElem_drop]
    exact List.getElem?_eq_getElem _
  exact okWide_cell_int he (h _ _ _ hx (hts i hin))
section
variable {H : Type} {enc : TypeId × Value → H} {P : Program} {W : World} {base : Nat} {held : Bool} {t e q : TypeId}
/-- A slice of bytes. -/
structure OpenB (W : World) (v : Value) (xs : List UInt8) (d : DataW H) : Prop where
  get : ∃ A c, v = .slice A xs.length c ∧ xs.length ≤ c ∧ RW W A (xs.map cell)
  shape : xs = [] ∨ ∃ elems spare, d = .slice elems spare ∧ elems.length = xs.length
theorem open_b (ht : sliceT P t = some e) (he : intT P e = some .u8) (hc : P.cellsOf e = 1) {fuel : Nat} {cs : List Value} {d : DataW H} {ps : List MemPlace} (h : DataW.trod enc P W base (fun _ => true) held fuel t cs = some (d, ps)) :
    ∃ v xs, cs = [v] ∧ OpenB W v xs d := by
  rcases open_ints (und_slice ht) (und_int he) hc h with ⟨rfl, hx⟩ | ⟨a, len, cap, zs, rfl, hb, hl, hm, hz, hx, hcell, hwf⟩
  · exact ⟨_, [], rfl, ⟨none, 0, rfl, Nat.le_refl _, fun j v hv => by simp at hv⟩, .inl rfl⟩
  · simp only [if_true] at hz
    simp only [Prod.mk.injEq] at hx
    obtain ⟨rfl, _⟩ := hx
    obtain ⟨xs, hxs⟩ := bytes_of_cells ((zs.take len).map fun n => .int .u8 n) (fun v hv => by
      obtain ⟨n, hn, rfl⟩ := List.mem_map.1 hv
      refine ⟨n, rfl, ?_⟩
      have := hwf n (List.mem_of_mem_take hn)
      simpa [Lit.wf, IntKind.has] using this)
    have hlen : xs.length = len := by
      have := congrArg List.length hxs
      simp at this
      omega
    refine ⟨_, xs, by rw [← hlen], ⟨some a, cap, rfl, by omega, fun j v hv => ?_⟩, .inr ⟨_, _, rfl, by simp [lits]; omega⟩⟩
    · rw [← hxs, List.getElem?_map, List.getElem?_take] at hv
      split at hv
      · rename_i hj
        have h1 := hcell j (by omega)
        have hj2 : j < zs.length := by omega
        rw [List.getElem?_eq_getElem hj2, Option.map_some, Option.some.injEq] at hv
        refine ⟨a, rfl, ?_⟩
        rw [h1, ← hv]
        simp [List.getD, hj2]
      · simp at hv
theorem okWide_slice {r : Reach} {v : Value} (ht : sliceT P t = some e) (h : Value.okWide P W r base t v) : ∃ A m c, v = .slice A m c := by
  have hu := und_slice ht
  unfold Value.okWide at h
  rw [hu] at h
  have h' : Cell.okWide P W r base t v := h
  unfold Cell.okWide at h'
  rw [hu] at h'
  have h2 : Cell.ok P W r base t v := by cases v <;> exact h'
  unfold Cell.ok at h2
  rw [hu] at h2
  cases v <;> first | exact ⟨_, _, _, rfl⟩ | exact h2.elim
theorem okWide_int {r : Reach} {v : Value} {k : IntKind} (ht : intT P t = some k) (h : Value.okWide P W r base t v) : ∃ n, v = .int k n ∧ k.has n := by
  refine okWide_cell_int (w := W) (r := r) (base := base) ht ?_
  have hu := und_int ht
  unfold Value.okWide at h
  rw [hu] at h
  exact h
theorem okWide_addr {r : Reach} {A : Option Addr} {m c : Nat} (ht : sliceT P t = some e) (h : Value.okWide P W r base t (.slice A m c)) : ∀ a, A = some a → a.spot = none := fun a ha => by
  subst ha
  have hu := und_slice ht
  unfold Value.okWide at h
  rw [hu] at h
  have h' : Cell.okWide P W r base t (.slice (some a) m c) := h
  unfold Cell.okWide at h'
  rw [hu] at h'
  have h2 : Cell.ok P W r base t (.slice (some a) m c) := h'
  unfold Cell.ok at h2
  rw [hu] at h2
  exact h2.2.2.2.1
theorem open_bv {r : Reach} {b0 : Nat} (ht : sliceT P t = some e) (he : intT P e = some .u8) (hc : P.cellsOf e = 1) {v : Value} {d : DataW H} {ps : List MemPlace} (hv : Value.okWide P W r b0 t v) (h : DataW.Trod enc P W base (fun _ => true) held t v d ps) : ∃ q : BV, v = .slice q.A q.xs.length q.c ∧ q.xs.length ≤ q.c ∧ BvOk W q ∧ (q.xs = [] ∨ ∃ elems spare, d = .slice elems spare ∧ elems.length = q.xs.length) := by
  obtain ⟨fuel, h⟩ := h
  obtain ⟨A, m, c, rfl⟩ := okWide_slice ht hv
  obtain ⟨v', xs, h1, h2⟩ := open_b ht he hc h
  obtain rfl : Value.slice A m c = v' := by simpa [Value.cells] using h1
  obtain ⟨A', c', h3, h4, h5⟩ := h2.get
  simp only [Value.slice.injEq] at h3
  obtain ⟨rfl, rfl, rfl⟩ := h3
  obtain ⟨q, e1, e2, e3, h6⟩ := bv_of (c := c) (okWide_addr ht hv) h5
  exact ⟨q, by rw [e1, e2, e3], by rw [e2, e3]; exact h4, h6, by rw [e2]; exact h2.shape⟩
end
end Go.Proofs.YtlpcelcaahfafaaDoor
/- Dla: sha's tables at a law's beginning; what the machine is told holds. By this project. -/
set_option maxRecDepth 100000
namespace Go.Proofs.YtlpcelcaahfafaaDoor
open Go.ChangeShapes Go.WideShapes Go.ChangeAt Go.RowKit Go.Extern.Stop

abbrev shaGs : Gs := [(2, kW.map wV, 74), (1, firstW.map wV, 62)]
theorem sha_nb : ∀ x ∈ shaGs, x.2.1.all notByte = true := by
  intro x hx
  simp only [shaGs, List.mem_cons, List.not_mem_nil, or_false] at hx
  rcases hx with rfl | rfl <;> kernel_rfl
theorem sha_gs {W : World} {ps : List MemPlace} {r : List (String × DataW Unit)} (hL : DataW.LaidVars Tryd.prog W (("cairn/sha.k", Rows.laid_cairn_sha_k) :: ("cairn/sha.first", Rows.laid_cairn_sha_first) :: r) ps) (hS : W.ShapedOpen Tryd.prog) : ∀ x ∈ shaGs, GOk W x := by
  obtain ⟨g1, ps2, h2⟩ := laid_gl 2 74 (kW.map wcell) (kW.map wV) hL hS (by kernel_rfl) (by kernel_rfl) (of_decide_eq_true (by kernel_rfl)) (of_decide_eq_true (by kernel_rfl)) (by kernel_rfl) (by kernel_rfl) (by kernel_rfl) (fun E => mapWV_ren _) (by kernel_rfl)
  obtain ⟨g2, _⟩ := laid_gl 1 62 (firstW.map wcell) (firstW.map wV) h2 hS (by kernel_rfl) (by kernel_rfl) (of_decide_eq_true (by kernel_rfl)) (of_decide_eq_true (by kernel_rfl)) (by kernel_rfl) (by kernel_rfl) (by kernel_rfl) (fun E => mapWV_ren _) (by kernel_rfl)
  intro x hx
  simp only [shaGs, List.mem_cons, List.not_mem_nil, or_false] at hx
  rcases hx with rfl | rfl <;> assumption
theorem kxD_ok (n : Nat) : CallOk Tryd.prog (vcall kxD.C kxD.ext kxD.extd n) := vcall_ok0 (orExt_ok mu_ext (orExt_ok shaExt_ok srtExt_ok)) mu_extd n
theorem sha_tab {W : World} {bs : List BV} (hg : ∀ x ∈ shaGs, GOk W x) (hb : ∀ q ∈ bs, BvOk W q) : Tab ⟨lawHp shaGs bs, []⟩ := by
  have e1 := law_glob hg sha_nb hb (x := (2, kW.map wV, 74)) (by simp) (by kernel_rfl)
  have e2 := law_glob hg sha_nb hb (x := (1, firstW.map wV, 62)) (by simp) (by kernel_rfl)
  have hnx : ∀ g, g < 64 → g < (lawHp shaGs bs).nx := fun g h => by show g < 66 + 2 * bs.length; omega
  have hro : RO (lawHp shaGs bs) (some (1, 0)) (firstW.map wV) := ⟨fun b o e => by
    simp only [Option.some.injEq, Prod.mk.injEq] at e
    obtain ⟨rfl, rfl⟩ := e
    exact .inl (hnx _ (by decide)), fun j v hv => ⟨_, 0, rfl, by
      simp only [cellV, cellsAt, Hp.get, e2, Option.bind_some, Nat.zero_add]
      exact hv⟩⟩
  exact ⟨⟨_, e1⟩, not_own0 (.inl (hnx _ (by decide))), hro, now0 hro⟩
theorem bv_small {H : Type} {P : Program} {q : BV} {d : DataW H} {t e : TypeId} (hu : P.underlying t = some (.slice e)) (hb : P.bytesOf e = 1) (h : q.xs = [] ∨ ∃ elems spare, d = .slice elems spare ∧ elems.length = q.xs.length) (hz : (DataW.weights P t d).all (· ≤ reachBytes) = true) : q.xs.length < 72057594037927936 := by
  rcases h with h | ⟨elems, spare, rfl, he⟩
  · rw [h]; decide
  · simp only [DataW.weights, hu, hb, List.all_cons, Bool.and_eq_true, decide_eq_true_eq] at hz
    have := hz.1
    simp only [reachBytes, Nat.mul_one] at this
    omega
theorem hash_open {W : World} {base : Nat} {v : Value} (h : Value.okWide Tryd.prog W .any base 31 v) : ∃ wr : List UInt8, v = .agg (wr.map cell).toArray ∧ wr.length = 32 := by
  obtain ⟨C, rfl, hl, hc⟩ := okWide_agg (P := Tryd.prog) (t := 31) (w := W) (r := .any) (base := base) (v := v) (ts := List.replicate 32 5) (n := 32) RowT.h (by kernel_rfl) (by kernel_rfl) (by simp) h
  obtain ⟨wr, hw⟩ := seg_bytes (P := Tryd.prog) (e := 5) (o := 0) (n := 32) IntT.h (by omega) (fun i hi => by rw [Nat.zero_add, List.getElem?_replicate, if_pos hi]) hc
  rw [List.drop_zero, List.take_of_length_le (by omega)] at hw
  have hwl := congrArg List.length hw
  rw [List.length_map, hl] at hwl
  exact ⟨wr, by rw [hw], hwl.symm⟩
end Go.Proofs.YtlpcelcaahfafaaDoor
/- Dm1: a block as the document mixes it: turned, words, mixed of cairnref02 on the machine. By this project. -/
set_option maxRecDepth 100000
namespace Go.Proofs.YtlpcelcaahfafaaDoor
open Go.RowKit Go.Extern.Stop

theorem turned_v (x n : Nat) (hn : n ≤ 32) {hp : Hp} (ho : OkH hp) : Fn kxD 34 [wV x, .i .i64 (n : Int)] hp [] fun r _ => r = .v (wV (rotW x n)) := by
  refine fn_of_w (T := []) ho.sv (fun _ => rfl) (fn := Tryd.f34) (by kernel_rfl) rfl rfl ?_
  refine wo ?_
  first | (apply wm; iterate 5 exact rfl) | (apply dm; iterate 6 exact rfl) | (apply wmg; iterate 7 exact rfl) | (apply dmg; iterate 8 exact rfl)
  refine mw_shr rfl rfl hn
  refine wo ?_
  first | (apply wm; iterate 5 exact rfl) | (apply dm; iterate 6 exact rfl) | (apply wmg; iterate 7 exact rfl) | (apply dmg; iterate 8 exact rfl)
  refine mw_shl rfl rfl (by omega)
  first | (apply wm; iterate 5 exact rfl) | (apply dm; iterate 6 exact rfl) | (apply wmg; iterate 7 exact rfl) | (apply dmg; iterate 8 exact rfl)
  refine mw_or rfl rfl
  refine wo ?_
  refine w_ret (wend_ret (vres1 (rv_tmp rfl)) ?_)
  unfold rotW
  rfl

set_option maxHeartbeats 4000000 in
theorem words_v (h o c : Nat) (op : Bool) (b : List UInt8) (hb : b.length = 64) {hp : Hp} (ho : OkH hp) (hr : RO hp (some (h, o)) (b.map byV)) : Fn kxD 33 [.sl (some (h, o)) 64 c op] hp [] fun r _ => r = .v (.agg ((wExp b 64).map wV)) := by
  refine fn_of_w (T := []) ho.sv (fun _ => rfl) (fn := Tryd.f33) (by kernel_rfl) rfl rfl ?_
  refine wo ?_
  first | (apply p_op; exact (vwant_n rfl); iterate 4 exact rfl) | (apply d_op; exact (vwant_n rfl); exact rfl; exact noRd rfl; decide +kernel; (iterate 3 exact rfl); rotate_left) | (apply p_op; exact (vwant_g rfl rfl rfl); iterate 4 exact rfl) | (apply d_op; exact (vwant_g rfl rfl rfl); exact rfl; exact noRd rfl; decide +kernel; (iterate 3 exact rfl); rotate_left)
  refine e_alloc rfl fun br => ⟨_, rfl, ?_⟩
  try (case hok => first | exact rdOk_nil | exact rdOk_b (by decide +kernel))
  refine wo ?_
  first | (apply p_op; exact (vwant_n rfl); iterate 4 exact rfl) | (apply d_op; exact (vwant_n rfl); exact rfl; exact noRd rfl; decide +kernel; (iterate 3 exact rfl); rotate_left) | (apply p_op; exact (vwant_g rfl rfl rfl); iterate 4 exact rfl) | (apply d_op; exact (vwant_g rfl rfl rfl); exact rfl; exact noRd rfl; decide +kernel; (iterate 3 exact rfl); rotate_left)
  refine e_alloc rfl fun bw => ⟨_, rfl, ?_⟩
  try (case hok => first | exact rdOk_nil | exact rdOk_b (by decide +kernel))
  refine wo ?_
  refine w_seq ?_
  refine wo ?_
  refine w_loop (ι := Nat) (fun t => [(4, .i .i64 (t : Nat)), (3, .p (some (bw, 0))), (2, .p (some (br, 0))), (0, .sl (some (h, o)) 64 c op)]) (fun t => [(some bw, cellsO (wCV b t) 74), (some br, cellsO (List.replicate 64 (wV 0)) 74)]) (fun t => t ≤ 16) (fun t => 16 - t) 0 (Nat.zero_le _) ⟨rfl, rfl, rfl, rfl, trivial⟩ (fun hp h => by rw [wCV_zero, wV_zero]; exact h) ?_
  intro t ht
  refine wo ?_
  by_cases c1 : t < 16
  rotate_left
  · first | (apply wm; iterate 5 exact rfl) | (apply dm; iterate 6 exact rfl) | (apply wmg; iterate 7 exact rfl) | (apply dmg; iterate 8 exact rfl)
    refine mv_int (v := .b false) rfl rfl (vi_lssF (by omega))
    refine wo ?_
    refine w_exit ?_
    obtain rfl : t = 16 := by omega
    refine wo ?_
    refine w_seq ?_
    refine wo ?_
    refine w_loop (ι := Nat) (fun t => [(5, .i .i64 (t : Nat)), (3, .p (some (bw, 0))), (2, .p (some (br, 0)))]) (fun t => [(some bw, cellsO (wCV b t) 74), (some br, cellsO (List.replicate 64 (wV 0)) 74)]) (fun t => 16 ≤ t ∧ t ≤ 64) (fun t => 64 - t) 16 ⟨Nat.le_refl _, by omega⟩ ⟨rfl, rfl, rfl, trivial⟩ (fun hp h => h) ?_
    rintro t ⟨h16, ht⟩
    refine wo ?_
    by_cases c2 : t < 64
    rotate_left
    · first | (apply wm; iterate 5 exact rfl) | (apply dm; iterate 6 exact rfl) | (apply wmg; iterate 7 exact rfl) | (apply dmg; iterate 8 exact rfl)
      refine mv_int (v := .b false) rfl rfl (vi_lssF (by omega))
      refine wo ?_
      refine w_exit ?_
      obtain rfl : t = 64 := by omega
      refine wo ?_
      first | refine zX (m_ldln (s := 63) (cs := wCV b 64) rfl (List.take_of_length_le (by rw [List.drop_zero]; exact Nat.le_of_eq (wCV_len b (by omega)))) (wCV_len b (by omega))) ?_ | refine yX (m_ldln (s := 63) (cs := wCV b 64) rfl (List.take_of_length_le (by rw [List.drop_zero]; exact Nat.le_of_eq (wCV_len b (by omega)))) (wCV_len b (by omega))) ?_
      first | (apply p_do; exact (vwant_n rfl); exact rfl; exact rfl) | (apply d_do; exact (vwant_n rfl); exact rfl; exact noRd rfl; decide +kernel; exact rfl; rotate_left) | (apply p_do; exact (vwant_g rfl rfl rfl); exact rfl; exact rfl) | (apply d_do; exact (vwant_g rfl rfl rfl); exact rfl; exact noRd rfl; decide +kernel; exact rfl; rotate_left)
      refine e_stn (C := List.replicate 64 (wV 0)) (C' := wCV b 64) rfl rfl (fun e => by have := wCV_len b (t := 64) (by omega); rw [e] at this; simp at this) (wCV_len b (by omega)) (by simp) (by unfold overV; rw [wCV_len b (by omega)]; simp) ⟨_, rfl, ?_⟩
      try (case hok => first | exact rdOk_nil | exact rdOk_b (by decide +kernel))
      refine wo ?_
      refine w_ret (wend_ret (vres1 ?_) rfl)
      intro fr hp2 hf hs
      have h1 := hf.look 2 _ rfl
      have h2 := (hs.has 1 br _ rfl).1
      simp only [h1, Option.bind_some, ptrV, cellsAt, Hp.get, h2, partV]
      show (tiV vC 74).bind _ = _
      rw [wt74]
      simp only [Option.bind_some]
      show (cutL (wCV b 64) 0 64).bind _ = _
      rw [cutL_mk (by rw [wCV_len b (by omega)]; omega), List.drop_zero, List.take_of_length_le (by rw [wCV_len b (by omega)]; omega), wCV_all]
      rfl
    first | (apply wm; iterate 5 exact rfl) | (apply dm; iterate 6 exact rfl) | (apply wmg; iterate 7 exact rfl) | (apply dmg; iterate 8 exact rfl)
    refine mv_int (v := .b true) rfl rfl (vi_lssT (by omega))
    refine wo ?_
    first | (apply wn; iterate 5 exact rfl) | (apply dn; iterate 5 exact rfl) | (apply wg; iterate 7 exact rfl) | (apply dg; iterate 7 exact rfl)
    refine p_iaa rfl rfl (by omega)
    first | refine zX (m_ldl rfl (by rw [Nat.zero_add]; exact wCV_at b (i := t - 15) (by omega))) ?_ | refine yX (m_ldl rfl (by rw [Nat.zero_add]; exact wCV_at b (i := t - 15) (by omega))) ?_
    refine wo ?_
    first | (apply wn; iterate 5 exact rfl) | (apply dn; iterate 5 exact rfl) | (apply wg; iterate 7 exact rfl) | (apply dg; iterate 7 exact rfl)
    refine p_iaa rfl rfl (by omega)
    first | refine zX (m_ldl rfl (by rw [Nat.zero_add]; exact wCV_at b (i := t - 2) (by omega))) ?_ | refine yX (m_ldl rfl (by rw [Nat.zero_add]; exact wCV_at b (i := t - 2) (by omega))) ?_
    refine wo ?_
    first | refine p_callq (vwant_n rfl) rfl rfl rfl rfl (fun hp hs => turned_v _ 7 (by decide) hs.ok) ?_ | refine d_callq (vwant_n rfl) (by decide +kernel) rfl rfl rfl rfl (fun hp hs => turned_v _ 7 (by decide) hs.ok) ?_ | refine d_callq0 (vwant_n rfl) (by decide +kernel) rfl rfl rfl rfl (fun hp hs => turned_v _ 7 (by decide) hs.ok) ?_ | refine p_callq (vwant_g rfl rfl rfl) rfl rfl rfl rfl (fun hp hs => turned_v _ 7 (by decide) hs.ok) ?_ | refine d_callq (vwant_g rfl rfl rfl) (by decide +kernel) rfl rfl rfl rfl (fun hp hs => turned_v _ 7 (by decide) hs.ok) ?_ | refine d_callq0 (vwant_g rfl rfl rfl) (by decide +kernel) rfl rfl rfl rfl (fun hp hs => turned_v _ 7 (by decide) hs.ok) ?_
    refine wo ?_
    first | refine p_callq (vwant_n rfl) rfl rfl rfl rfl (fun hp hs => turned_v _ 18 (by decide) hs.ok) ?_ | refine d_callq (vwant_n rfl) (by decide +kernel) rfl rfl rfl rfl (fun hp hs => turned_v _ 18 (by decide) hs.ok) ?_ | refine d_callq0 (vwant_n rfl) (by decide +kernel) rfl rfl rfl rfl (fun hp hs => turned_v _ 18 (by decide) hs.ok) ?_ | refine p_callq (vwant_g rfl rfl rfl) rfl rfl rfl rfl (fun hp hs => turned_v _ 18 (by decide) hs.ok) ?_ | refine d_callq (vwant_g rfl rfl rfl) (by decide +kernel) rfl rfl rfl rfl (fun hp hs => turned_v _ 18 (by decide) hs.ok) ?_ | refine d_callq0 (vwant_g rfl rfl rfl) (by decide +kernel) rfl rfl rfl rfl (fun hp hs => turned_v _ 18 (by decide) hs.ok) ?_
    first | (apply wm; iterate 5 exact rfl) | (apply dm; iterate 6 exact rfl) | (apply wmg; iterate 7 exact rfl) | (apply dmg; iterate 8 exact rfl)
    refine mw_xor rfl rfl
    refine wo ?_
    first | (apply wm; iterate 5 exact rfl) | (apply dm; iterate 6 exact rfl) | (apply wmg; iterate 7 exact rfl) | (apply dmg; iterate 8 exact rfl)
    refine mw_shr (n := 3) rfl rfl (by decide)
    first | (apply wm; iterate 5 exact rfl) | (apply dm; iterate 6 exact rfl) | (apply wmg; iterate 7 exact rfl) | (apply dmg; iterate 8 exact rfl)
    refine mw_xor rfl rfl
    refine wo ?_
    first | refine p_callq (vwant_n rfl) rfl rfl rfl rfl (fun hp hs => turned_v _ 17 (by decide) hs.ok) ?_ | refine d_callq (vwant_n rfl) (by decide +kernel) rfl rfl rfl rfl (fun hp hs => turned_v _ 17 (by decide) hs.ok) ?_ | refine d_callq0 (vwant_n rfl) (by decide +kernel) rfl rfl rfl rfl (fun hp hs => turned_v _ 17 (by decide) hs.ok) ?_ | refine p_callq (vwant_g rfl rfl rfl) rfl rfl rfl rfl (fun hp hs => turned_v _ 17 (by decide) hs.ok) ?_ | refine d_callq (vwant_g rfl rfl rfl) (by decide +kernel) rfl rfl rfl rfl (fun hp hs => turned_v _ 17 (by decide) hs.ok) ?_ | refine d_callq0 (vwant_g rfl rfl rfl) (by decide +kernel) rfl rfl rfl rfl (fun hp hs => turned_v _ 17 (by decide) hs.ok) ?_
    refine wo ?_
    first | refine p_callq (vwant_n rfl) rfl rfl rfl rfl (fun hp hs => turned_v _ 19 (by decide) hs.ok) ?_ | refine d_callq (vwant_n rfl) (by decide +kernel) rfl rfl rfl rfl (fun hp hs => turned_v _ 19 (by decide) hs.ok) ?_ | refine d_callq0 (vwant_n rfl) (by decide +kernel) rfl rfl rfl rfl (fun hp hs => turned_v _ 19 (by decide) hs.ok) ?_ | refine p_callq (vwant_g rfl rfl rfl) rfl rfl rfl rfl (fun hp hs => turned_v _ 19 (by decide) hs.ok) ?_ | refine d_callq (vwant_g rfl rfl rfl) (by decide +kernel) rfl rfl rfl rfl (fun hp hs => turned_v _ 19 (by decide) hs.ok) ?_ | refine d_callq0 (vwant_g rfl rfl rfl) (by decide +kernel) rfl rfl rfl rfl (fun hp hs => turned_v _ 19 (by decide) hs.ok) ?_
    first | (apply wm; iterate 5 exact rfl) | (apply dm; iterate 6 exact rfl) | (apply wmg; iterate 7 exact rfl) | (apply dmg; iterate 8 exact rfl)
    refine mw_xor rfl rfl
    refine wo ?_
    first | (apply wm; iterate 5 exact rfl) | (apply dm; iterate 6 exact rfl) | (apply wmg; iterate 7 exact rfl) | (apply dmg; iterate 8 exact rfl)
    refine mw_shr (n := 10) rfl rfl (by decide)
    first | (apply wm; iterate 5 exact rfl) | (apply dm; iterate 6 exact rfl) | (apply wmg; iterate 7 exact rfl) | (apply dmg; iterate 8 exact rfl)
    refine mw_xor rfl rfl
    refine wo ?_
    first | (apply wn; iterate 5 exact rfl) | (apply dn; iterate 5 exact rfl) | (apply wg; iterate 7 exact rfl) | (apply dg; iterate 7 exact rfl)
    refine p_iaa rfl rfl (by omega)
    first | refine zX (m_ldl rfl (by rw [Nat.zero_add]; exact wCV_at b (i := t - 7) (by omega))) ?_ | refine yX (m_ldl rfl (by rw [Nat.zero_add]; exact wCV_at b (i := t - 7) (by omega))) ?_
    first | (apply wm; iterate 5 exact rfl) | (apply dm; iterate 6 exact rfl) | (apply wmg; iterate 7 exact rfl) | (apply dmg; iterate 8 exact rfl)
    refine mw_add rfl rfl
    refine wo ?_
    first | (apply wm; iterate 5 exact rfl) | (apply dm; iterate 6 exact rfl) | (apply wmg; iterate 7 exact rfl) | (apply dmg; iterate 8 exact rfl)
    refine mw_add rfl rfl
    refine wo ?_
    first | (apply wn; iterate 5 exact rfl) | (apply dn; iterate 5 exact rfl) | (apply wg; iterate 7 exact rfl) | (apply dg; iterate 7 exact rfl)
    refine p_iaa rfl rfl (by omega)
    first | refine zX (m_ldl rfl (by rw [Nat.zero_add]; exact wCV_at b (i := t - 16) (by omega))) ?_ | refine yX (m_ldl rfl (by rw [Nat.zero_add]; exact wCV_at b (i := t - 16) (by omega))) ?_
    first | (apply wm; iterate 5 exact rfl) | (apply dm; iterate 6 exact rfl) | (apply wmg; iterate 7 exact rfl) | (apply dmg; iterate 8 exact rfl)
    refine mw_add rfl rfl
    first | (apply wn; iterate 5 exact rfl) | (apply dn; iterate 5 exact rfl) | (apply wg; iterate 7 exact rfl) | (apply dg; iterate 7 exact rfl)
    refine p_iaa rfl rfl (by omega)
    first | (apply p_do; exact (vwant_n rfl); exact rfl; exact rfl) | (apply d_do; exact (vwant_n rfl); exact rfl; exact noRd rfl; decide +kernel; exact rfl; rotate_left) | (apply p_do; exact (vwant_g rfl rfl rfl); exact rfl; exact rfl) | (apply d_do; exact (vwant_g rfl rfl rfl); exact rfl; exact noRd rfl; decide +kernel; exact rfl; rotate_left)
    refine e_st (C := wCV b t) rfl rfl (wV_cells _) (by rw [wCV_len b ht]; omega) rfl ⟨_, rfl, ?_⟩
    try (case hok => first | exact rdOk_nil | exact rdOk_b (by decide +kernel))
    refine wo ?_
    refine ⟨rfl, t + 1, ⟨by omega, by omega⟩, by omega, ⟨rfl, rfl, rfl, trivial⟩, fun hp h => ?_⟩
    rw [Nat.zero_add, wCV_succ b c2 (by rw [wNext, if_neg (by omega), addW_ref]; rfl)] at h
    exact h
  first | (apply wm; iterate 5 exact rfl) | (apply dm; iterate 6 exact rfl) | (apply wmg; iterate 7 exact rfl) | (apply dmg; iterate 8 exact rfl)
  refine mv_int (v := .b true) rfl rfl (vi_lssT (by omega))
  refine wo ?_
  first | (apply wn; iterate 5 exact rfl) | (apply dn; iterate 5 exact rfl) | (apply wg; iterate 7 exact rfl) | (apply dg; iterate 7 exact rfl)
  refine p_ia rfl rfl (by omega)
  first | (apply wm; iterate 5 exact rfl) | (apply dm; iterate 6 exact rfl) | (apply wmg; iterate 7 exact rfl) | (apply dmg; iterate 8 exact rfl)
  refine m_ldN (j := 4 * t) rfl hr (now0 hr) (by omega) (bV_at (j := 4 * t) (by omega))
  first | (apply wm; iterate 5 exact rfl) | (apply dm; iterate 6 exact rfl) | (apply wmg; iterate 7 exact rfl) | (apply dmg; iterate 8 exact rfl)
  refine mw_c8 rfl
  first | (apply wm; iterate 5 exact rfl) | (apply dm; iterate 6 exact rfl) | (apply wmg; iterate 7 exact rfl) | (apply dmg; iterate 8 exact rfl)
  refine mw_shl (n := 24) rfl rfl (by decide)
  refine wo ?_
  first | (apply wn; iterate 5 exact rfl) | (apply dn; iterate 5 exact rfl) | (apply wg; iterate 7 exact rfl) | (apply dg; iterate 7 exact rfl)
  refine p_ia rfl rfl (by omega)
  first | (apply wm; iterate 5 exact rfl) | (apply dm; iterate 6 exact rfl) | (apply wmg; iterate 7 exact rfl) | (apply dmg; iterate 8 exact rfl)
  refine m_ldN (j := 4 * t + 1) rfl hr (now0 hr) (by omega) (bV_at (j := 4 * t + 1) (by omega))
  first | (apply wm; iterate 5 exact rfl) | (apply dm; iterate 6 exact rfl) | (apply wmg; iterate 7 exact rfl) | (apply dmg; iterate 8 exact rfl)
  refine mw_c8 rfl
  first | (apply wm; iterate 5 exact rfl) | (apply dm; iterate 6 exact rfl) | (apply wmg; iterate 7 exact rfl) | (apply dmg; iterate 8 exact rfl)
  refine mw_shl (n := 16) rfl rfl (by decide)
  first | (apply wm; iterate 5 exact rfl) | (apply dm; iterate 6 exact rfl) | (apply wmg; iterate 7 exact rfl) | (apply dmg; iterate 8 exact rfl)
  refine mw_or rfl rfl
  refine wo ?_
  first | (apply wn; iterate 5 exact rfl) | (apply dn; iterate 5 exact rfl) | (apply wg; iterate 7 exact rfl) | (apply dg; iterate 7 exact rfl)
  refine p_ia rfl rfl (by omega)
  first | (apply wm; iterate 5 exact rfl) | (apply dm; iterate 6 exact rfl) | (apply wmg; iterate 7 exact rfl) | (apply dmg; iterate 8 exact rfl)
  refine m_ldN (j := 4 * t + 2) rfl hr (now0 hr) (by omega) (bV_at (j := 4 * t + 2) (by omega))
  first | (apply wm; iterate 5 exact rfl) | (apply dm; iterate 6 exact rfl) | (apply wmg; iterate 7 exact rfl) | (apply dmg; iterate 8 exact rfl)
  refine mw_c8 rfl
  first | (apply wm; iterate 5 exact rfl) | (apply dm; iterate 6 exact rfl) | (apply wmg; iterate 7 exact rfl) | (apply dmg; iterate 8 exact rfl)
  refine mw_shl (n := 8) rfl rfl (by decide)
  first | (apply wm; iterate 5 exact rfl) | (apply dm; iterate 6 exact rfl) | (apply wmg; iterate 7 exact rfl) | (apply dmg; iterate 8 exact rfl)
  refine mw_or rfl rfl
  refine wo ?_
  first | (apply wn; iterate 5 exact rfl) | (apply dn; iterate 5 exact rfl) | (apply wg; iterate 7 exact rfl) | (apply dg; iterate 7 exact rfl)
  refine p_ia rfl rfl (by omega)
  first | (apply wm; iterate 5 exact rfl) | (apply dm; iterate 6 exact rfl) | (apply wmg; iterate 7 exact rfl) | (apply dmg; iterate 8 exact rfl)
  refine m_ldN (j := 4 * t + 3) rfl hr (now0 hr) (by omega) (bV_at (j := 4 * t + 3) (by omega))
  first | (apply wm; iterate 5 exact rfl) | (apply dm; iterate 6 exact rfl) | (apply wmg; iterate 7 exact rfl) | (apply dmg; iterate 8 exact rfl)
  refine mw_c8 rfl
  first | (apply wm; iterate 5 exact rfl) | (apply dm; iterate 6 exact rfl) | (apply wmg; iterate 7 exact rfl) | (apply dmg; iterate 8 exact rfl)
  refine mw_or rfl rfl
  first | (apply wn; iterate 5 exact rfl) | (apply dn; iterate 5 exact rfl) | (apply wg; iterate 7 exact rfl) | (apply dg; iterate 7 exact rfl)
  refine p_iaa rfl rfl (by omega)
  first | (apply p_do; exact (vwant_n rfl); exact rfl; exact rfl) | (apply d_do; exact (vwant_n rfl); exact rfl; exact noRd rfl; decide +kernel; exact rfl; rotate_left) | (apply p_do; exact (vwant_g rfl rfl rfl); exact rfl; exact rfl) | (apply d_do; exact (vwant_g rfl rfl rfl); exact rfl; exact noRd rfl; decide +kernel; exact rfl; rotate_left)
  refine e_st (C := wCV b t) rfl rfl (wV_cells _) (by rw [wCV_len b (by omega)]; omega) rfl ⟨_, rfl, ?_⟩
  try (case hok => first | exact rdOk_nil | exact rdOk_b (by decide +kernel))
  refine wo ?_
  refine ⟨rfl, t + 1, by omega, by omega, ⟨rfl, rfl, rfl, rfl, trivial⟩, fun hp h => ?_⟩
  rw [Nat.zero_add, wCV_succ b (by omega) (by rw [wNext, if_pos c1]; rfl)] at h
  exact h
end Go.Proofs.YtlpcelcaahfafaaDoor
/- Dm2: a block as the document mixes it: mixed of cairnref02 on the machine. By this project. -/
set_option maxRecDepth 100000
namespace Go.Proofs.YtlpcelcaahfafaaDoor
open Go.RowKit Go.Extern.Stop

attribute [local irreducible] wV
theorem addW_comm (a b : Nat) : addW a b = addW b a := by
  unfold addW
  show (a + b) % 4294967296 = (b + a) % 4294967296
  omega
/-- The sums, so far, in the mixed words' place. -/
def sumV (ws V : List Nat) (k : Nat) : List Nat := (List.zipWith addW ws V).take k ++ V.drop k
theorem sumV_len {ws V : List Nat} {k : Nat} (h : ws.length = 8) (h2 : V.length = 8) (hk : k ≤ 8) : (sumV ws V k).length = 8 := by simp [sumV, h, h2]; omega
theorem sumV_at {ws V : List Nat} {k : Nat} (h : ws.length = 8) (h2 : V.length = 8) (hk : k < 8) : wordN (sumV ws V k) k = wordN V k := by
  unfold sumV wordN
  rw [List.getD_eq_getElem?_getD, List.getD_eq_getElem?_getD, List.getElem?_append_right (by simp [h, h2]; omega), List.getElem?_drop]
  congr 2
  simp [h, h2]; omega
theorem sumV_set {ws V : List Nat} {k : Nat} (h : ws.length = 8) (h2 : V.length = 8) (hk : k < 8) : (sumV ws V k).set k (addW (wordN V k) (wordN ws k)) = sumV ws V (k + 1) := by
  rw [addW_comm]
  unfold sumV wordN
  have hl : ((List.zipWith addW ws V).take k).length = k := by simp [h, h2]; omega
  rw [List.set_append_right _ _ (by omega), hl, Nat.sub_self, List.drop_eq_getElem_cons (by omega), List.set_cons_zero, List.take_succ_eq_append_getElem (by simp [h, h2]; omega)]
  simp only [List.append_assoc, List.cons_append, List.nil_append, List.getElem_zipWith]
  rw [List.getD_eq_getElem?_getD, List.getD_eq_getElem?_getD, List.getElem?_eq_getElem (by omega), List.getElem?_eq_getElem (by omega)]
  rfl
theorem sumV_all {ws V : List Nat} (h : ws.length = 8) (h2 : V.length = 8) : sumV ws V 8 = List.zipWith addW ws V := by
  unfold sumV
  rw [List.take_of_length_le (by simp [h, h2]), List.drop_of_length_le (by omega), List.append_nil]
set_option maxHeartbeats 8000000 in
theorem mixed_v (h o c : Nat) (op : Bool) (ws : List Nat) (b : List UInt8) (hws : ws.length = 8) (hb : b.length = 64) {hp : Hp} (ho : OkH hp) (hr : RO hp (some (h, o)) (b.map byV)) (hk : RO hp (some (0, 0)) (kW.map wV)) :
    Fn kxD 26 [.agg (ws.map wV), .sl (some (h, o)) 64 c op] hp [] fun r _ => r = .v (.agg ((blk ws b).map wV)) := by
  have hne : ∀ {V : List Nat}, V.length = 8 → V.map wV ≠ [] := fun {V} h e => by
    have := congrArg List.length e
    simp [h] at this
  refine fn_of_w (T := []) ho.sv (fun _ => rfl) (fn := Tryd.f26) (by kernel_rfl) rfl rfl ?_
  refine wo ?_
  first | (apply p_op; exact (vwant_n rfl); iterate 4 exact rfl) | (apply d_op; exact (vwant_n rfl); exact rfl; exact noRd rfl; decide +kernel; (iterate 3 exact rfl); rotate_left) | (apply p_op; exact (vwant_g rfl rfl rfl); iterate 4 exact rfl) | (apply d_op; exact (vwant_g rfl rfl rfl); exact rfl; exact noRd rfl; decide +kernel; (iterate 3 exact rfl); rotate_left)
  refine ev_box rfl rfl fun bs => ⟨_, rfl, ?_⟩
  try (case hok => first | exact rdOk_nil | exact rdOk_b (by decide +kernel))
  refine wo ?_
  first | (apply p_op; exact (vwant_n rfl); iterate 4 exact rfl) | (apply d_op; exact (vwant_n rfl); exact rfl; exact noRd rfl; decide +kernel; (iterate 3 exact rfl); rotate_left) | (apply p_op; exact (vwant_g rfl rfl rfl); iterate 4 exact rfl) | (apply d_op; exact (vwant_g rfl rfl rfl); exact rfl; exact noRd rfl; decide +kernel; (iterate 3 exact rfl); rotate_left)
  refine e_alloc rfl fun br => ⟨_, rfl, ?_⟩
  try (case hok => first | exact rdOk_nil | exact rdOk_b (by decide +kernel))
  refine wo ?_
  first | refine p_callq (vwant_n rfl) rfl rfl rfl rfl (fun hp hs => words_v h o c op b hb hs.ok (ro_kept hr hs)) ?_ | refine d_callq (vwant_n rfl) (by decide +kernel) rfl rfl rfl rfl (fun hp hs => words_v h o c op b hb hs.ok (ro_kept hr hs)) ?_ | refine d_callq0 (vwant_n rfl) (by decide +kernel) rfl rfl rfl rfl (fun hp hs => words_v h o c op b hb hs.ok (ro_kept hr hs)) ?_ | refine p_callq (vwant_g rfl rfl rfl) rfl rfl rfl rfl (fun hp hs => words_v h o c op b hb hs.ok (ro_kept hr hs)) ?_ | refine d_callq (vwant_g rfl rfl rfl) (by decide +kernel) rfl rfl rfl rfl (fun hp hs => words_v h o c op b hb hs.ok (ro_kept hr hs)) ?_ | refine d_callq0 (vwant_g rfl rfl rfl) (by decide +kernel) rfl rfl rfl rfl (fun hp hs => words_v h o c op b hb hs.ok (ro_kept hr hs)) ?_
  refine wo ?_
  first | (apply p_op; exact (vwant_n rfl); iterate 4 exact rfl) | (apply d_op; exact (vwant_n rfl); exact rfl; exact noRd rfl; decide +kernel; (iterate 3 exact rfl); rotate_left) | (apply p_op; exact (vwant_g rfl rfl rfl); iterate 4 exact rfl) | (apply d_op; exact (vwant_g rfl rfl rfl); exact rfl; exact noRd rfl; decide +kernel; (iterate 3 exact rfl); rotate_left)
  refine e_alloc rfl fun bw => ⟨_, rfl, ?_⟩
  try (case hok => first | exact rdOk_nil | exact rdOk_b (by decide +kernel))
  first | (apply p_do; exact (vwant_n rfl); exact rfl; exact rfl) | (apply d_do; exact (vwant_n rfl); exact rfl; exact noRd rfl; decide +kernel; exact rfl; rotate_left) | (apply p_do; exact (vwant_g rfl rfl rfl); exact rfl; exact rfl) | (apply d_do; exact (vwant_g rfl rfl rfl); exact rfl; exact noRd rfl; decide +kernel; exact rfl; rotate_left)
  refine e_stn (C' := (wExp b 64).map wV) rfl rfl (fun e => by have := congrArg List.length e; simp [wExp_len] at this) (by simp [wExp_len]) (by simp) (by simp [overV, wExp_len]) ⟨_, rfl, ?_⟩
  try (case hok => first | exact rdOk_nil | exact rdOk_b (by decide +kernel))
  refine wo ?_
  first | refine zX (m_ldln (s := 7) rfl (List.take_of_length_le (by simp [hws])) (by simp [hws])) ?_ | refine yX (m_ldln (s := 7) rfl (List.take_of_length_le (by simp [hws])) (by simp [hws])) ?_
  first | (apply p_op; exact (vwant_n rfl); iterate 4 exact rfl) | (apply d_op; exact (vwant_n rfl); exact rfl; exact noRd rfl; decide +kernel; (iterate 3 exact rfl); rotate_left) | (apply p_op; exact (vwant_g rfl rfl rfl); iterate 4 exact rfl) | (apply d_op; exact (vwant_g rfl rfl rfl); exact rfl; exact noRd rfl; decide +kernel; (iterate 3 exact rfl); rotate_left)
  refine e_alloc rfl fun bv => ⟨_, rfl, ?_⟩
  try (case hok => first | exact rdOk_nil | exact rdOk_b (by decide +kernel))
  first | (apply p_do; exact (vwant_n rfl); exact rfl; exact rfl) | (apply d_do; exact (vwant_n rfl); exact rfl; exact noRd rfl; decide +kernel; exact rfl; rotate_left) | (apply p_do; exact (vwant_g rfl rfl rfl); exact rfl; exact rfl) | (apply d_do; exact (vwant_g rfl rfl rfl); exact rfl; exact noRd rfl; decide +kernel; exact rfl; rotate_left)
  refine e_stn (C' := ws.map wV) rfl rfl (hne hws) (by simp [hws]) (by simp) (by simp [overV, hws]) ⟨_, rfl, ?_⟩
  try (case hok => first | exact rdOk_nil | exact rdOk_b (by decide +kernel))
  refine wo ?_
  refine w_seq ?_
  refine wo ?_
  refine w_loop (ι := Nat) (fun t => [(7, .i .i64 (t : Nat)), (6, .p (some (bv, 0))), (5, .p (some (bw, 0))), (4, .p (some (br, 0))), (2, .p (some (bs, 0)))])
    (fun t => [(some bv, cellsO ((rds ws b t).map wV) 62), (some bw, cellsO ((wExp b 64).map wV) 74), (some br, cellsO (List.replicate 8 (.i .u32 (.ofNat 0))) 62), (some bs, cellsO (ws.map wV) 62)]) (fun t => t ≤ 64) (fun t => 64 - t) 0 (Nat.zero_le _) ⟨rfl, rfl, rfl, rfl, rfl, trivial⟩ (fun hp h => h) ?_
  intro t ht
  have hV := rds_len hws b t
  generalize hVV : rds ws b t = V at hV ⊢
  have h0 : ∀ {u}, u < 8 → (V.map wV)[0 + u]? = some (wV (wordN V u)) := fun {u} hu => by rw [Nat.zero_add]; exact wL_at hV hu
  have h1 : ∀ {u}, u < 64 → ((wExp b 64).map wV)[0 + u]? = some (wV (wordN (wExp b 64) u)) := fun {u} hu => by rw [Nat.zero_add]; exact wL_at (wExp_len b 64) hu
  have h2 : ∀ {u}, u < 64 → (kW.map wV)[u]? = some (wV (wordN kW u)) := fun {u} hu => wL_at (n := 64) rfl hu
  refine wo ?_
  by_cases c1 : t < 64
  rotate_left
  · first | (apply wm; iterate 5 exact rfl) | (apply dm; iterate 6 exact rfl) | (apply wmg; iterate 7 exact rfl) | (apply dmg; iterate 8 exact rfl)
    refine mv_int (v := .b false) rfl rfl (vi_lssF (by omega))
    refine wo ?_
    refine w_exit ?_
    obtain rfl : t = 64 := by omega
    refine wo ?_
    refine w_seq ?_
    refine wo ?_
    refine w_loop (ι := Nat) (fun k => [(12, .i .i64 (k : Nat)), (6, .p (some (bv, 0))), (4, .p (some (br, 0))), (2, .p (some (bs, 0)))])
      (fun k => [(some bv, cellsO ((sumV ws V k).map wV) 62), (some br, cellsO (List.replicate 8 (.i .u32 (.ofNat 0))) 62), (some bs, cellsO (ws.map wV) 62)]) (fun k => k ≤ 8) (fun k => 8 - k) 0 (Nat.zero_le _) ⟨rfl, rfl, rfl, rfl, trivial⟩ (fun hp h => by
        have e : sumV ws V 0 = V := by simp [sumV]
        rw [e]
        exact h.pick [0, 2, 3] _ rfl (by decide)) ?_
    intro k hk8
    refine wo ?_
    by_cases d1 : k < 8
    rotate_left
    · first | (apply wm; iterate 5 exact rfl) | (apply dm; iterate 6 exact rfl) | (apply wmg; iterate 7 exact rfl) | (apply dmg; iterate 8 exact rfl)
      refine mv_int (v := .b false) rfl rfl (vi_lssF (by omega))
      refine wo ?_
      refine w_exit ?_
      obtain rfl : k = 8 := by omega
      have hl8 : (sumV ws V 8).length = 8 := sumV_len hws hV (Nat.le_refl _)
      refine wo ?_
      first | refine zX (m_ldln (s := 7) rfl (List.take_of_length_le (by simp [hl8])) (by simp [hl8])) ?_ | refine yX (m_ldln (s := 7) rfl (List.take_of_length_le (by simp [hl8])) (by simp [hl8])) ?_
      first | (apply p_do; exact (vwant_n rfl); exact rfl; exact rfl) | (apply d_do; exact (vwant_n rfl); exact rfl; exact noRd rfl; decide +kernel; exact rfl; rotate_left) | (apply p_do; exact (vwant_g rfl rfl rfl); exact rfl; exact rfl) | (apply d_do; exact (vwant_g rfl rfl rfl); exact rfl; exact noRd rfl; decide +kernel; exact rfl; rotate_left)
      refine e_stn (C := List.replicate 8 (.i .u32 (.ofNat 0))) (C' := (sumV ws V 8).map wV) rfl rfl (hne hl8) (by simp [hl8]) (by simp) (by simp [overV, hl8]) ⟨_, rfl, ?_⟩
      try (case hok => first | exact rdOk_nil | exact rdOk_b (by decide +kernel))
      refine wo ?_
      refine w_ret (wend_ret (vres1 ?_) rfl)
      intro fr hp2 hf hs
      have e1 := hf.look 4 _ rfl
      have e2 := (hs.has 1 br _ rfl).1
      simp only [e1, Option.bind_some, ptrV, cellsAt, Hp.get, e2, partV]
      show (tiV vC 62).bind _ = _
      rw [wt62]
      simp only [Option.bind_some]
      show (cutL ((sumV ws V 8).map wV) 0 8).bind _ = _
      rw [cutL_mk (by simp [hl8]), List.drop_zero, List.take_of_length_le (by simp [hl8]), sumV_all hws hV, ← hVV]
      rfl
    have hSl : (sumV ws V k).length = 8 := sumV_len hws hV hk8
    first | (apply wm; iterate 5 exact rfl) | (apply dm; iterate 6 exact rfl) | (apply wmg; iterate 7 exact rfl) | (apply dmg; iterate 8 exact rfl)
    refine mv_int (v := .b true) rfl rfl (vi_lssT (by omega))
    refine wo ?_
    first | (apply wn; iterate 5 exact rfl) | (apply dn; iterate 5 exact rfl) | (apply wg; iterate 7 exact rfl) | (apply dg; iterate 7 exact rfl)
    refine p_iaa rfl rfl (by omega)
    first | refine zX (m_ldl (v := wV (wordN V k)) rfl (by rw [Nat.zero_add, ← sumV_at hws hV d1]; exact wL_at hSl d1)) ?_ | refine yX (m_ldl (v := wV (wordN V k)) rfl (by rw [Nat.zero_add, ← sumV_at hws hV d1]; exact wL_at hSl d1)) ?_
    refine wo ?_
    first | (apply wn; iterate 5 exact rfl) | (apply dn; iterate 5 exact rfl) | (apply wg; iterate 7 exact rfl) | (apply dg; iterate 7 exact rfl)
    refine p_iaa rfl rfl (by omega)
    first | refine zX (m_ldl rfl (by rw [Nat.zero_add]; exact wL_at hws d1)) ?_ | refine yX (m_ldl rfl (by rw [Nat.zero_add]; exact wL_at hws d1)) ?_
    first | (apply wm; iterate 5 exact rfl) | (apply dm; iterate 6 exact rfl) | (apply wmg; iterate 7 exact rfl) | (apply dmg; iterate 8 exact rfl)
    refine mw_add rfl rfl
    first | (apply wn; iterate 5 exact rfl) | (apply dn; iterate 5 exact rfl) | (apply wg; iterate 7 exact rfl) | (apply dg; iterate 7 exact rfl)
    refine p_iaa rfl rfl (by omega)
    first | (apply p_do; exact (vwant_n rfl); exact rfl; exact rfl) | (apply d_do; exact (vwant_n rfl); exact rfl; exact noRd rfl; decide +kernel; exact rfl; rotate_left) | (apply p_do; exact (vwant_g rfl rfl rfl); exact rfl; exact rfl) | (apply d_do; exact (vwant_g rfl rfl rfl); exact rfl; exact noRd rfl; decide +kernel; exact rfl; rotate_left)
    refine e_st (C := (sumV ws V k).map wV) rfl rfl (wV_cells _) (by simp [hSl]; omega) rfl ⟨_, rfl, ?_⟩
    try (case hok => first | exact rdOk_nil | exact rdOk_b (by decide +kernel))
    refine wo ?_
    refine ⟨rfl, k + 1, d1, by omega, ⟨rfl, rfl, rfl, rfl, trivial⟩, fun hp h => ?_⟩
    rw [Nat.zero_add, ← List.map_set, sumV_set hws hV d1] at h
    exact h
  first | (apply wm; iterate 5 exact rfl) | (apply dm; iterate 6 exact rfl) | (apply wmg; iterate 7 exact rfl) | (apply dmg; iterate 8 exact rfl)
  refine mv_int (v := .b true) rfl rfl (vi_lssT (by omega))
  refine wo ?_
  first | (apply wn; iterate 5 exact rfl) | (apply dn; iterate 5 exact rfl) | (apply wg; iterate 7 exact rfl) | (apply dg; iterate 7 exact rfl)
  refine p_iaa rfl rfl (by decide)
  first | refine zX (m_ldl rfl (h0 (by decide))) ?_ | refine yX (m_ldl rfl (h0 (by decide))) ?_
  refine wo ?_
  first | (apply wn; iterate 5 exact rfl) | (apply dn; iterate 5 exact rfl) | (apply wg; iterate 7 exact rfl) | (apply dg; iterate 7 exact rfl)
  refine p_iaa rfl rfl (by decide)
  first | refine zX (m_ldl rfl (h0 (u := 0) (by decide))) ?_ | refine yX (m_ldl rfl (h0 (u := 0) (by decide))) ?_
  refine wo ?_
  first | (apply wn; iterate 5 exact rfl) | (apply dn; iterate 5 exact rfl) | (apply wg; iterate 7 exact rfl) | (apply dg; iterate 7 exact rfl)
  refine p_iaa rfl rfl (by decide)
  first | refine zX (m_ldl rfl (h0 (by decide))) ?_ | refine yX (m_ldl rfl (h0 (by decide))) ?_
  refine wo ?_
  first | refine p_callq (vwant_n rfl) rfl rfl rfl rfl (fun hp hs => turned_v _ 6 (by decide) hs.ok) ?_ | refine d_callq (vwant_n rfl) (by decide +kernel) rfl rfl rfl rfl (fun hp hs => turned_v _ 6 (by decide) hs.ok) ?_ | refine d_callq0 (vwant_n rfl) (by decide +kernel) rfl rfl rfl rfl (fun hp hs => turned_v _ 6 (by decide) hs.ok) ?_ | refine p_callq (vwant_g rfl rfl rfl) rfl rfl rfl rfl (fun hp hs => turned_v _ 6 (by decide) hs.ok) ?_ | refine d_callq (vwant_g rfl rfl rfl) (by decide +kernel) rfl rfl rfl rfl (fun hp hs => turned_v _ 6 (by decide) hs.ok) ?_ | refine d_callq0 (vwant_g rfl rfl rfl) (by decide +kernel) rfl rfl rfl rfl (fun hp hs => turned_v _ 6 (by decide) hs.ok) ?_
  refine wo ?_
  first | refine p_callq (vwant_n rfl) rfl rfl rfl rfl (fun hp hs => turned_v _ 11 (by decide) hs.ok) ?_ | refine d_callq (vwant_n rfl) (by decide +kernel) rfl rfl rfl rfl (fun hp hs => turned_v _ 11 (by decide) hs.ok) ?_ | refine d_callq0 (vwant_n rfl) (by decide +kernel) rfl rfl rfl rfl (fun hp hs => turned_v _ 11 (by decide) hs.ok) ?_ | refine p_callq (vwant_g rfl rfl rfl) rfl rfl rfl rfl (fun hp hs => turned_v _ 11 (by decide) hs.ok) ?_ | refine d_callq (vwant_g rfl rfl rfl) (by decide +kernel) rfl rfl rfl rfl (fun hp hs => turned_v _ 11 (by decide) hs.ok) ?_ | refine d_callq0 (vwant_g rfl rfl rfl) (by decide +kernel) rfl rfl rfl rfl (fun hp hs => turned_v _ 11 (by decide) hs.ok) ?_
  first | (apply wm; iterate 5 exact rfl) | (apply dm; iterate 6 exact rfl) | (apply wmg; iterate 7 exact rfl) | (apply dmg; iterate 8 exact rfl)
  refine mw_xor rfl rfl
  refine wo ?_
  first | refine p_callq (vwant_n rfl) rfl rfl rfl rfl (fun hp hs => turned_v _ 25 (by decide) hs.ok) ?_ | refine d_callq (vwant_n rfl) (by decide +kernel) rfl rfl rfl rfl (fun hp hs => turned_v _ 25 (by decide) hs.ok) ?_ | refine d_callq0 (vwant_n rfl) (by decide +kernel) rfl rfl rfl rfl (fun hp hs => turned_v _ 25 (by decide) hs.ok) ?_ | refine p_callq (vwant_g rfl rfl rfl) rfl rfl rfl rfl (fun hp hs => turned_v _ 25 (by decide) hs.ok) ?_ | refine d_callq (vwant_g rfl rfl rfl) (by decide +kernel) rfl rfl rfl rfl (fun hp hs => turned_v _ 25 (by decide) hs.ok) ?_ | refine d_callq0 (vwant_g rfl rfl rfl) (by decide +kernel) rfl rfl rfl rfl (fun hp hs => turned_v _ 25 (by decide) hs.ok) ?_
  first | (apply wm; iterate 5 exact rfl) | (apply dm; iterate 6 exact rfl) | (apply wmg; iterate 7 exact rfl) | (apply dmg; iterate 8 exact rfl)
  refine mw_xor rfl rfl
  first | (apply wm; iterate 5 exact rfl) | (apply dm; iterate 6 exact rfl) | (apply wmg; iterate 7 exact rfl) | (apply dmg; iterate 8 exact rfl)
  refine mw_add rfl rfl
  refine wo ?_
  first | (apply wn; iterate 5 exact rfl) | (apply dn; iterate 5 exact rfl) | (apply wg; iterate 7 exact rfl) | (apply dg; iterate 7 exact rfl)
  refine p_iaa rfl rfl (by decide)
  first | refine zX (m_ldl rfl (h0 (by decide))) ?_ | refine yX (m_ldl rfl (h0 (by decide))) ?_
  first | (apply wm; iterate 5 exact rfl) | (apply dm; iterate 6 exact rfl) | (apply wmg; iterate 7 exact rfl) | (apply dmg; iterate 8 exact rfl)
  refine mw_and rfl rfl
  refine wo ?_
  first | (apply wn; iterate 5 exact rfl) | (apply dn; iterate 5 exact rfl) | (apply wg; iterate 7 exact rfl) | (apply dg; iterate 7 exact rfl)
  refine pw_not rfl
  first | (apply wn; iterate 5 exact rfl) | (apply dn; iterate 5 exact rfl) | (apply wg; iterate 7 exact rfl) | (apply dg; iterate 7 exact rfl)
  refine p_iaa rfl rfl (by decide)
  first | refine zX (m_ldl rfl (h0 (by decide))) ?_ | refine yX (m_ldl rfl (h0 (by decide))) ?_
  first | (apply wm; iterate 5 exact rfl) | (apply dm; iterate 6 exact rfl) | (apply wmg; iterate 7 exact rfl) | (apply dmg; iterate 8 exact rfl)
  refine mw_and rfl rfl
  first | (apply wm; iterate 5 exact rfl) | (apply dm; iterate 6 exact rfl) | (apply wmg; iterate 7 exact rfl) | (apply dmg; iterate 8 exact rfl)
  refine mw_xor rfl rfl
  first | (apply wm; iterate 5 exact rfl) | (apply dm; iterate 6 exact rfl) | (apply wmg; iterate 7 exact rfl) | (apply dmg; iterate 8 exact rfl)
  refine mw_add rfl rfl
  refine wo ?_
  first | (apply wn; iterate 5 exact rfl) | (apply dn; iterate 5 exact rfl) | (apply wg; iterate 7 exact rfl) | (apply dg; iterate 7 exact rfl)
  refine p_iaa rfl rfl c1
  first | (apply wm; iterate 5 exact rfl) | (apply dm; iterate 6 exact rfl) | (apply wmg; iterate 7 exact rfl) | (apply dmg; iterate 8 exact rfl)
  refine m_ldN (j := t) rfl hk (now0 hk) (by omega) (h2 c1)
  first | (apply wm; iterate 5 exact rfl) | (apply dm; iterate 6 exact rfl) | (apply wmg; iterate 7 exact rfl) | (apply dmg; iterate 8 exact rfl)
  refine mw_add rfl rfl
  refine wo ?_
  first | (apply wn; iterate 5 exact rfl) | (apply dn; iterate 5 exact rfl) | (apply wg; iterate 7 exact rfl) | (apply dg; iterate 7 exact rfl)
  refine p_iaa rfl rfl c1
  first | refine zX (m_ldl rfl (h1 c1)) ?_ | refine yX (m_ldl rfl (h1 c1)) ?_
  first | (apply wm; iterate 5 exact rfl) | (apply dm; iterate 6 exact rfl) | (apply wmg; iterate 7 exact rfl) | (apply dmg; iterate 8 exact rfl)
  refine mw_add rfl rfl
  refine wo ?_
  first | refine p_callq (vwant_n rfl) rfl rfl rfl rfl (fun hp hs => turned_v _ 2 (by decide) hs.ok) ?_ | refine d_callq (vwant_n rfl) (by decide +kernel) rfl rfl rfl rfl (fun hp hs => turned_v _ 2 (by decide) hs.ok) ?_ | refine d_callq0 (vwant_n rfl) (by decide +kernel) rfl rfl rfl rfl (fun hp hs => turned_v _ 2 (by decide) hs.ok) ?_ | refine p_callq (vwant_g rfl rfl rfl) rfl rfl rfl rfl (fun hp hs => turned_v _ 2 (by decide) hs.ok) ?_ | refine d_callq (vwant_g rfl rfl rfl) (by decide +kernel) rfl rfl rfl rfl (fun hp hs => turned_v _ 2 (by decide) hs.ok) ?_ | refine d_callq0 (vwant_g rfl rfl rfl) (by decide +kernel) rfl rfl rfl rfl (fun hp hs => turned_v _ 2 (by decide) hs.ok) ?_
  refine wo ?_
  first | refine p_callq (vwant_n rfl) rfl rfl rfl rfl (fun hp hs => turned_v _ 13 (by decide) hs.ok) ?_ | refine d_callq (vwant_n rfl) (by decide +kernel) rfl rfl rfl rfl (fun hp hs => turned_v _ 13 (by decide) hs.ok) ?_ | refine d_callq0 (vwant_n rfl) (by decide +kernel) rfl rfl rfl rfl (fun hp hs => turned_v _ 13 (by decide) hs.ok) ?_ | refine p_callq (vwant_g rfl rfl rfl) rfl rfl rfl rfl (fun hp hs => turned_v _ 13 (by decide) hs.ok) ?_ | refine d_callq (vwant_g rfl rfl rfl) (by decide +kernel) rfl rfl rfl rfl (fun hp hs => turned_v _ 13 (by decide) hs.ok) ?_ | refine d_callq0 (vwant_g rfl rfl rfl) (by decide +kernel) rfl rfl rfl rfl (fun hp hs => turned_v _ 13 (by decide) hs.ok) ?_
  first | (apply wm; iterate 5 exact rfl) | (apply dm; iterate 6 exact rfl) | (apply wmg; iterate 7 exact rfl) | (apply dmg; iterate 8 exact rfl)
  refine mw_xor rfl rfl
  refine wo ?_
  first | refine p_callq (vwant_n rfl) rfl rfl rfl rfl (fun hp hs => turned_v _ 22 (by decide) hs.ok) ?_ | refine d_callq (vwant_n rfl) (by decide +kernel) rfl rfl rfl rfl (fun hp hs => turned_v _ 22 (by decide) hs.ok) ?_ | refine d_callq0 (vwant_n rfl) (by decide +kernel) rfl rfl rfl rfl (fun hp hs => turned_v _ 22 (by decide) hs.ok) ?_ | refine p_callq (vwant_g rfl rfl rfl) rfl rfl rfl rfl (fun hp hs => turned_v _ 22 (by decide) hs.ok) ?_ | refine d_callq (vwant_g rfl rfl rfl) (by decide +kernel) rfl rfl rfl rfl (fun hp hs => turned_v _ 22 (by decide) hs.ok) ?_ | refine d_callq0 (vwant_g rfl rfl rfl) (by decide +kernel) rfl rfl rfl rfl (fun hp hs => turned_v _ 22 (by decide) hs.ok) ?_
  first | (apply wm; iterate 5 exact rfl) | (apply dm; iterate 6 exact rfl) | (apply wmg; iterate 7 exact rfl) | (apply dmg; iterate 8 exact rfl)
  refine mw_xor rfl rfl
  refine wo ?_
  first | (apply wn; iterate 5 exact rfl) | (apply dn; iterate 5 exact rfl) | (apply wg; iterate 7 exact rfl) | (apply dg; iterate 7 exact rfl)
  refine p_iaa rfl rfl (by decide)
  first | refine zX (m_ldl rfl (h0 (by decide))) ?_ | refine yX (m_ldl rfl (h0 (by decide))) ?_
  first | (apply wm; iterate 5 exact rfl) | (apply dm; iterate 6 exact rfl) | (apply wmg; iterate 7 exact rfl) | (apply dmg; iterate 8 exact rfl)
  refine mw_and rfl rfl
  refine wo ?_
  first | (apply wn; iterate 5 exact rfl) | (apply dn; iterate 5 exact rfl) | (apply wg; iterate 7 exact rfl) | (apply dg; iterate 7 exact rfl)
  refine p_iaa rfl rfl (by decide)
  first | refine zX (m_ldl rfl (h0 (by decide))) ?_ | refine yX (m_ldl rfl (h0 (by decide))) ?_
  first | (apply wm; iterate 5 exact rfl) | (apply dm; iterate 6 exact rfl) | (apply wmg; iterate 7 exact rfl) | (apply dmg; iterate 8 exact rfl)
  refine mw_and rfl rfl
  first | (apply wm; iterate 5 exact rfl) | (apply dm; iterate 6 exact rfl) | (apply wmg; iterate 7 exact rfl) | (apply dmg; iterate 8 exact rfl)
  refine mw_xor rfl rfl
  first | (apply wn; iterate 5 exact rfl) | (apply dn; iterate 5 exact rfl) | (apply wg; iterate 7 exact rfl) | (apply dg; iterate 7 exact rfl)
  refine p_iaa rfl rfl (by decide)
  first | refine zX (m_ldl rfl (h0 (by decide))) ?_ | refine yX (m_ldl rfl (h0 (by decide))) ?_
  first | (apply wn; iterate 5 exact rfl) | (apply dn; iterate 5 exact rfl) | (apply wg; iterate 7 exact rfl) | (apply dg; iterate 7 exact rfl)
  refine p_iaa rfl rfl (by decide)
  first | refine zX (m_ldl rfl (h0 (by decide))) ?_ | refine yX (m_ldl rfl (h0 (by decide))) ?_
  first | (apply wm; iterate 5 exact rfl) | (apply dm; iterate 6 exact rfl) | (apply wmg; iterate 7 exact rfl) | (apply dmg; iterate 8 exact rfl)
  refine mw_and rfl rfl
  first | (apply wm; iterate 5 exact rfl) | (apply dm; iterate 6 exact rfl) | (apply wmg; iterate 7 exact rfl) | (apply dmg; iterate 8 exact rfl)
  refine mw_xor rfl rfl
  first | (apply wm; iterate 5 exact rfl) | (apply dm; iterate 6 exact rfl) | (apply wmg; iterate 7 exact rfl) | (apply dmg; iterate 8 exact rfl)
  refine mw_add rfl rfl
  refine wo ?_
  first | (apply wm; iterate 5 exact rfl) | (apply dm; iterate 6 exact rfl) | (apply wmg; iterate 7 exact rfl) | (apply dmg; iterate 8 exact rfl)
  refine mw_add rfl rfl
  first | (apply wn; iterate 5 exact rfl) | (apply dn; iterate 5 exact rfl) | (apply wg; iterate 7 exact rfl) | (apply dg; iterate 7 exact rfl)
  refine p_iaa rfl rfl (by decide)
  first | refine zX (m_ldl rfl (h0 (u := 0) (by decide))) ?_ | refine yX (m_ldl rfl (h0 (u := 0) (by decide))) ?_
  first | (apply wn; iterate 5 exact rfl) | (apply dn; iterate 5 exact rfl) | (apply wg; iterate 7 exact rfl) | (apply dg; iterate 7 exact rfl)
  refine p_iaa rfl rfl (by decide)
  first | refine zX (m_ldl rfl (h0 (by decide))) ?_ | refine yX (m_ldl rfl (h0 (by decide))) ?_
  first | (apply wn; iterate 5 exact rfl) | (apply dn; iterate 5 exact rfl) | (apply wg; iterate 7 exact rfl) | (apply dg; iterate 7 exact rfl)
  refine p_iaa rfl rfl (by decide)
  first | refine zX (m_ldl rfl (h0 (by decide))) ?_ | refine yX (m_ldl rfl (h0 (by decide))) ?_
  first | (apply wn; iterate 5 exact rfl) | (apply dn; iterate 5 exact rfl) | (apply wg; iterate 7 exact rfl) | (apply dg; iterate 7 exact rfl)
  refine p_iaa rfl rfl (by decide)
  first | refine zX (m_ldl rfl (h0 (by decide))) ?_ | refine yX (m_ldl rfl (h0 (by decide))) ?_
  refine wo ?_
  first | (apply wm; iterate 5 exact rfl) | (apply dm; iterate 6 exact rfl) | (apply wmg; iterate 7 exact rfl) | (apply dmg; iterate 8 exact rfl)
  refine mw_add rfl rfl
  first | (apply wn; iterate 5 exact rfl) | (apply dn; iterate 5 exact rfl) | (apply wg; iterate 7 exact rfl) | (apply dg; iterate 7 exact rfl)
  refine p_iaa rfl rfl (by decide)
  first | refine zX (m_ldl rfl (h0 (by decide))) ?_ | refine yX (m_ldl rfl (h0 (by decide))) ?_
  first | (apply wn; iterate 5 exact rfl) | (apply dn; iterate 5 exact rfl) | (apply wg; iterate 7 exact rfl) | (apply dg; iterate 7 exact rfl)
  refine p_iaa rfl rfl (by decide)
  first | refine zX (m_ldl rfl (h0 (by decide))) ?_ | refine yX (m_ldl rfl (h0 (by decide))) ?_
  first | (apply wn; iterate 5 exact rfl) | (apply dn; iterate 5 exact rfl) | (apply wg; iterate 7 exact rfl) | (apply dg; iterate 7 exact rfl)
  refine p_iaa rfl rfl (by decide)
  first | refine zX (m_ldl rfl (h0 (by decide))) ?_ | refine yX (m_ldl rfl (h0 (by decide))) ?_
  first | (apply wn; iterate 5 exact rfl) | (apply dn; iterate 5 exact rfl) | (apply wg; iterate 7 exact rfl) | (apply dg; iterate 7 exact rfl)
  refine pv_buildA (C := (rnd V (wordN kW t) (wordN (wExp b 64) t)).map wV) rfl rfl (.cons rfl (wV_cells _) rfl rfl (by decide) (.cons rfl (wV_cells _) rfl rfl (by decide) (.cons rfl (wV_cells _) rfl rfl (by decide) (.cons rfl (wV_cells _) rfl rfl (by decide) (.cons rfl (wV_cells _) rfl rfl (by decide) (.cons rfl (wV_cells _) rfl rfl (by decide) (.cons rfl (wV_cells _) rfl rfl (by decide) (.cons rfl (wV_cells _) rfl rfl (by decide) .nil)))))))) rfl
  first | (apply p_do; exact (vwant_n rfl); exact rfl; exact rfl) | (apply d_do; exact (vwant_n rfl); exact rfl; exact noRd rfl; decide +kernel; exact rfl; rotate_left) | (apply p_do; exact (vwant_g rfl rfl rfl); exact rfl; exact rfl) | (apply d_do; exact (vwant_g rfl rfl rfl); exact rfl; exact noRd rfl; decide +kernel; exact rfl; rotate_left)
  refine e_stn (s := 8) (C := V.map wV) (C' := (rnd V (wordN kW t) (wordN (wExp b 64) t)).map wV) rfl rfl (hne (rnd_len _ _ _)) (by rw [List.length_map, rnd_len]) (by simp [hV]) (by have hr := rnd_len V (wordN kW t) (wordN (wExp b 64) t); simp only [overV, List.take_zero, List.nil_append, Nat.zero_add, List.length_map, hr, hV]; rw [List.drop_of_length_le (by simp [hV])]; simp) ⟨_, rfl, ?_⟩
  try (case hok => first | exact rdOk_nil | exact rdOk_b (by decide +kernel))
  refine wo ?_
  refine ⟨rfl, t + 1, c1, by omega, ⟨rfl, rfl, rfl, rfl, rfl, trivial⟩, fun hp h => ?_⟩
  rw [rds, hVV]
  exact h
end Go.Proofs.YtlpcelcaahfafaaDoor
/- Ds4: the sum of a sha state. By this project. -/
set_option maxRecDepth 100000
namespace Go.Proofs.YtlpcelcaahfafaaDoor
open Go.RowKit Go.Extern.Stop

/-! ### The message's end -/
def zN (n : Nat) : Nat := (119 - n % 64) % 64
def sizeB (n : Nat) : List UInt8 := (List.range 8).map fun i => UInt8.ofNat (8 * n / 2 ^ (56 - 8 * i))
def padB (m : List UInt8) : List UInt8 := m ++ [128] ++ List.replicate (zN m.length) 0 ++ sizeB m.length
def wB (w : Nat) : List UInt8 := [UInt8.ofNat (w % 4294967296 / 2 ^ 24), UInt8.ofNat (w % 4294967296 / 2 ^ 16), UInt8.ofNat (w % 4294967296 / 2 ^ 8), UInt8.ofNat (w % 4294967296)]
/-- The sum. -/
def sumB (m : List UInt8) : List UInt8 := (absN (padB m) ((padB m).length / 64)).flatMap wB
theorem zN_stop {n z : Nat} (h : z ≤ zN n) : (n + 1 + z) % 64 = 56 ↔ z = zN n := by
  unfold zN at *
  omega
theorem sizeB_len (n : Nat) : (sizeB n).length = 8 := by simp [sizeB]
theorem padB_len (m : List UInt8) : (padB m).length % 64 = 0 := by
  simp only [padB, List.length_append, List.length_replicate, sizeB_len, List.length_cons, List.length_nil]
  unfold zN
  omega
theorem flat_len : ∀ ws : List Nat, (ws.flatMap wB).length = 4 * ws.length
  | [] => rfl
  | w :: r => by
    rw [List.flatMap_cons, List.length_append, flat_len r, List.length_cons]
    show 4 + _ = _
    omega
theorem sumB_len (m : List UInt8) : (sumB m).length = 32 := by rw [sumB, flat_len, absN_len]
/-- The size's bytes, so many. -/
def szC (n i : Nat) : List V := ((sizeB n).take i).map byV ++ List.replicate (8 - i) (byV 0)
theorem szC_len (n : Nat) {i : Nat} (h : i ≤ 8) : (szC n i).length = 8 := by simp [szC, sizeB_len]; omega
theorem szC_set (n : Nat) {i : Nat} (h : i < 8) : (szC n i).set i (byV (UInt8.ofNat (8 * n / 2 ^ (56 - 8 * i)))) = szC n (i + 1) := by
  unfold szC
  have e : (((sizeB n).take i).map byV).length = i := by simp [sizeB_len]; omega
  rw [List.set_append_right _ _ (by omega), e, Nat.sub_self, show 8 - i = (8 - (i + 1)) + 1 by omega, List.replicate_succ, List.set_cons_zero, List.take_succ_eq_append_getElem (by rw [sizeB_len]; exact h), List.map_append, List.append_assoc]
  simp [sizeB]
theorem szC_all (n : Nat) : szC n 8 = (sizeB n).map byV := by
  unfold szC
  rw [List.take_of_length_le (by rw [sizeB_len]; exact Nat.le_refl 8), Nat.sub_self, List.replicate_zero, List.append_nil]
/-- The sum's bytes, of so many words. -/
def smC (ws : List Nat) (i : Nat) : List V := ((ws.take i).flatMap wB).map byV ++ List.replicate (32 - 4 * i) (byV 0)
theorem smC_len {ws : List Nat} (hw : ws.length = 8) {i : Nat} (h : i ≤ 8) : (smC ws i).length = 32 := by
  unfold smC
  rw [List.length_append, List.length_map, flat_len, List.length_replicate, List.length_take]
  omega
theorem smC_set {ws : List Nat} (hw : ws.length = 8) {i w : Nat} (h : i < 8) (hv : ws[i]? = some w) : ((((smC ws i).set (4 * i) (byV (UInt8.ofNat (w % 4294967296 / 2 ^ 24)))).set (4 * i + 1) (byV (UInt8.ofNat (w % 4294967296 / 2 ^ 16)))).set (4 * i + 2) (byV (UInt8.ofNat (w % 4294967296 / 2 ^ 8)))).set (4 * i + 3) (byV (UInt8.ofNat (w % 4294967296))) = smC ws (i + 1) := by
  unfold smC
  have e : (((ws.take i).flatMap wB).map byV).length = 4 * i := by
    rw [List.length_map, flat_len, List.length_take]; omega
  obtain ⟨hi, hw2⟩ := List.getElem?_eq_some_iff.1 hv
  rw [List.take_succ_eq_append_getElem (by omega), hw2, List.flatMap_append, List.map_append, List.append_assoc]
  rw [List.set_append_right _ _ (by omega), List.set_append_right _ _ (by omega), List.set_append_right _ _ (by omega), List.set_append_right _ _ (by omega), e]
  rw [show 32 - 4 * i = (32 - 4 * (i + 1)) + 4 by omega]
  congr 1
  simp only [Nat.sub_self, Nat.add_sub_cancel_left, List.replicate_succ]
  rfl
theorem smC_all {ws : List Nat} (hw : ws.length = 8) : smC ws 8 = (ws.flatMap wB).map byV := by
  unfold smC
  rw [List.take_of_length_le (by omega)]
  simp
theorem StT.ne {cs : List V} {m : List UInt8} {t : Nat} (h : StT cs m t) : cs ≠ [] := fun e => by
  have := h.len
  rw [e] at this
  simp at this
theorem StT.held {cs : List V} {m : List UInt8} {t : Nat} (h : StT cs m t) : cs[72]? = some (.i .i64 ((m.length % 64 : Nat) : Int)) := by
  obtain ⟨rest, hr, rfl⟩ := h
  exact stC_held (absN_len _ _) hr.1
theorem StT.taken {cs : List V} {m : List UInt8} {t : Nat} (h : StT cs m t) : cs[73]? = some (.i .i64 (t : Int)) := by
  obtain ⟨rest, hr, rfl⟩ := h
  exact stC_taken (absN_len _ _) hr.1
theorem StT.words {cs : List V} {m : List UInt8} {t : Nat} (h : StT cs m t) : (cs.drop 0).take 8 = (absN m (m.length / 64)).map wV := by
  obtain ⟨rest, hr, rfl⟩ := h
  rw [List.drop_zero, stC, List.take_append_of_le_length (by simp [absN_len]), List.take_of_length_le (by simp [absN_len])]
set_option maxHeartbeats 4000000 in
theorem sum_d {b : Nat} {m : List UInt8} {cs : List V} {hp : Hp} (ho : OkH hp) (hk : Tab ⟨hp, []⟩) (hA : RB ⟨hp, []⟩ (some (b, 0)) cs) (hst : StT cs m m.length) (hl : m.length < 288230376151711744) :
    Fn kxD 29 [.p (some (b, 0))] hp [] fun r _ => r = .v (.agg ((sumB m).map byV)) := by
  have hcl := hst.len
  refine fn_of_w (T := []) ho.sv (fun _ => rfl) (fn := Tryd.f29) (by kernel_rfl) rfl rfl ?_
  refine wo ?_
  first | (apply p_op; exact (vwant_n rfl); iterate 4 exact rfl) | (apply d_op; exact (vwant_n rfl); exact rfl; exact noRd rfl; decide +kernel; (iterate 3 exact rfl); rotate_left) | (apply p_op; exact (vwant_g rfl rfl rfl); iterate 4 exact rfl) | (apply d_op; exact (vwant_g rfl rfl rfl); exact rfl; exact noRd rfl; decide +kernel; (iterate 3 exact rfl); rotate_left)
  refine e_alloc rfl fun bo => ⟨_, rfl, ?_⟩
  try (case hok => first | exact rdOk_nil | exact rdOk_b (by decide +kernel))
  refine wo ?_
  first | (apply p_op; exact (vwant_n rfl); iterate 4 exact rfl) | (apply d_op; exact (vwant_n rfl); exact rfl; exact noRd rfl; decide +kernel; (iterate 3 exact rfl); rotate_left) | (apply p_op; exact (vwant_g rfl rfl rfl); iterate 4 exact rfl) | (apply d_op; exact (vwant_g rfl rfl rfl); exact rfl; exact noRd rfl; decide +kernel; (iterate 3 exact rfl); rotate_left)
  refine e_alloc rfl fun bh => ⟨_, rfl, ?_⟩
  try (case hok => first | exact rdOk_nil | exact rdOk_b (by decide +kernel))
  refine wo ?_
  first | (apply wm; iterate 5 exact rfl) | (apply dm; iterate 6 exact rfl) | (apply wmg; iterate 7 exact rfl) | (apply dmg; iterate 8 exact rfl)
  refine m_eqp rfl rfl
  refine wo ?_
  first | (apply wm; iterate 5 exact rfl) | (apply dm; iterate 6 exact rfl) | (apply wmg; iterate 7 exact rfl) | (apply dmg; iterate 8 exact rfl)
  refine m_ldnN rfl hA.1 hA.2 rfl (by rw [List.drop_zero]; exact List.take_of_length_le (by omega)) hcl
  first | (apply p_op; exact (vwant_n rfl); iterate 4 exact rfl) | (apply d_op; exact (vwant_n rfl); exact rfl; exact noRd rfl; decide +kernel; (iterate 3 exact rfl); rotate_left) | (apply p_op; exact (vwant_g rfl rfl rfl); iterate 4 exact rfl) | (apply d_op; exact (vwant_g rfl rfl rfl); exact rfl; exact noRd rfl; decide +kernel; (iterate 3 exact rfl); rotate_left)
  refine e_alloc rfl fun be => ⟨_, rfl, ?_⟩
  try (case hok => first | exact rdOk_nil | exact rdOk_b (by decide +kernel))
  first | (apply p_do; exact (vwant_n rfl); exact rfl; exact rfl) | (apply d_do; exact (vwant_n rfl); exact rfl; exact noRd rfl; decide +kernel; exact rfl; rotate_left) | (apply p_do; exact (vwant_g rfl rfl rfl); exact rfl; exact rfl) | (apply d_do; exact (vwant_g rfl rfl rfl); exact rfl; exact noRd rfl; decide +kernel; exact rfl; rotate_left)
  refine e_stn (C' := cs) rfl rfl hst.ne hcl (Nat.le_of_ble_eq_true rfl) (overV_all (by rw [hcl]; rfl)) ⟨_, rfl, ?_⟩
  try (case hok => first | exact rdOk_nil | exact rdOk_b (by decide +kernel))
  refine wo ?_
  first | (apply wm; iterate 5 exact rfl) | (apply dm; iterate 6 exact rfl) | (apply wmg; iterate 7 exact rfl) | (apply dmg; iterate 8 exact rfl)
  refine m_ldN rfl hA.1 hA.2 rfl hst.taken
  refine wo ?_
  first | (apply wm; iterate 5 exact rfl) | (apply dm; iterate 6 exact rfl) | (apply wmg; iterate 7 exact rfl) | (apply dmg; iterate 8 exact rfl)
  refine m_convU rfl (by omega)
  refine wo ?_
  first | (apply p_op; exact (vwant_n rfl); iterate 4 exact rfl) | (apply d_op; exact (vwant_n rfl); exact rfl; exact noRd rfl; decide +kernel; (iterate 3 exact rfl); rotate_left) | (apply p_op; exact (vwant_g rfl rfl rfl); iterate 4 exact rfl) | (apply d_op; exact (vwant_g rfl rfl rfl); exact rfl; exact noRd rfl; decide +kernel; (iterate 3 exact rfl); rotate_left)
  refine e_bs (C := [byV 128]) rfl rfl (.cons rfl rfl .nil) rfl fun b1 => ⟨_, rfl, ?_⟩
  try (case hok => first | exact rdOk_nil | exact rdOk_b (by decide +kernel))
  first | (apply p_callX [1] [0, 2, 3]; exact (vwant_n rfl); iterate 4 exact rfl) | (apply d_callX [1] [0, 2, 3]; exact (vwant_n rfl); decide +kernel; (iterate 4 exact rfl)) | (apply p_callX [1] [0, 2, 3]; exact (vwant_g rfl rfl rfl); iterate 4 exact rfl) | (apply d_callX [1] [0, 2, 3]; exact (vwant_g rfl rfl rfl); decide +kernel; (iterate 4 exact rfl))
  case hn => decide
  try (case hok => first | exact rdOk_nil | exact rdOk_b (by decide +kernel) | exact rdOk_c)
  case hC => exact (fun hp hs ht => write_d (xs := [128]) ht (hk.give hs) (rb_own hs (i := 0) rfl rfl) (Nat.le_refl 1) hst (by simp; omega))
  rintro u N ⟨rfl, cs1, hst1, rfl⟩
  refine wo ?_
  refine w_seq ?_
  refine wo ?_
  refine w_loop (ι := Nat × List V) (fun s => [(5, .i .u64 ((8 * m.length : Nat) : Int)), (4, .p (some (be, 0))), (3, .p (some (bh, 0))), (2, .p (some (bo, 0)))])
    (fun s => [(some be, cellsO s.2 79), (some bh, cellsO (List.replicate 32 (byV 0)) 31), (some bo, cellsO (List.replicate 32 (byV 0)) 31)])
    (fun s => s.1 ≤ zN m.length ∧ StT s.2 (m ++ [128] ++ List.replicate s.1 0) (m.length + 1 + s.1)) (fun s => zN m.length - s.1) (0, cs1) ⟨Nat.zero_le _, by rw [List.replicate_zero, List.append_nil]; exact hst1⟩ ⟨rfl, rfl, rfl, rfl, trivial⟩ (fun hp h => h.pick [0, 2, 3] _ rfl (by decide)) ?_
  intro ⟨z, cs2⟩ ⟨hz, hst2⟩
  dsimp only at hz hst2 ⊢
  have hlen : (m ++ [128] ++ List.replicate z 0).length = m.length + 1 + z := by simp only [List.length_append, List.length_replicate, List.length_cons, List.length_nil]
  have hzl : zN m.length < 64 := Nat.mod_lt _ (by decide)
  have h56 := zN_stop hz
  rw [← hlen] at h56
  refine wo ?_
  first | refine zX (m_ldl rfl (by rw [Nat.zero_add]; exact hst2.held)) ?_ | refine yX (m_ldl rfl (by rw [Nat.zero_add]; exact hst2.held)) ?_
  by_cases g : z = zN m.length
  rotate_left
  · first | (apply wm; iterate 5 exact rfl) | (apply dm; iterate 6 exact rfl) | (apply wmg; iterate 7 exact rfl) | (apply dmg; iterate 8 exact rfl)
    refine mv_int (v := .b true) rfl rfl (vi_neqT (by omega))
    refine wo ?_
    first | (apply p_op; exact (vwant_n rfl); iterate 4 exact rfl) | (apply d_op; exact (vwant_n rfl); exact rfl; exact noRd rfl; decide +kernel; (iterate 3 exact rfl); rotate_left) | (apply p_op; exact (vwant_g rfl rfl rfl); iterate 4 exact rfl) | (apply d_op; exact (vwant_g rfl rfl rfl); exact rfl; exact noRd rfl; decide +kernel; (iterate 3 exact rfl); rotate_left)
    refine e_bs (C := [byV 0]) rfl rfl (.cons rfl rfl .nil) rfl fun b2 => ⟨_, rfl, ?_⟩
    try (case hok => first | exact rdOk_nil | exact rdOk_b (by decide +kernel))
    first | (apply p_callX [1] [0, 2, 3]; exact (vwant_n rfl); iterate 4 exact rfl) | (apply d_callX [1] [0, 2, 3]; exact (vwant_n rfl); decide +kernel; (iterate 4 exact rfl)) | (apply p_callX [1] [0, 2, 3]; exact (vwant_g rfl rfl rfl); iterate 4 exact rfl) | (apply d_callX [1] [0, 2, 3]; exact (vwant_g rfl rfl rfl); decide +kernel; (iterate 4 exact rfl))
    case hn => decide
    try (case hok => first | exact rdOk_nil | exact rdOk_b (by decide +kernel) | exact rdOk_c)
    case hC => exact (fun hp hs ht => write_d (xs := [0]) ht (hk.give hs) (rb_own hs (i := 0) rfl rfl) (Nat.le_refl 1) hst2 (by simp; omega))
    rintro u N ⟨rfl, cs3, hst3, rfl⟩
    refine wo ?_
    refine ⟨rfl, (z + 1, cs3), ⟨by dsimp only; omega, ?_⟩, by dsimp only; omega, ⟨rfl, rfl, rfl, rfl, trivial⟩, fun hp h => h.pick [0, 2, 3] _ rfl (by decide)⟩
    rw [List.append_assoc (m ++ [128])] at hst3
    dsimp only
    rw [List.replicate_succ']
    exact hst3
  first | (apply wm; iterate 5 exact rfl) | (apply dm; iterate 6 exact rfl) | (apply wmg; iterate 7 exact rfl) | (apply dmg; iterate 8 exact rfl)
  refine mv_int (v := .b false) rfl rfl (vi_neqF (by omega))
  refine wo ?_
  refine w_exit ?_
  refine wo ?_
  first | (apply p_op; exact (vwant_n rfl); iterate 4 exact rfl) | (apply d_op; exact (vwant_n rfl); exact rfl; exact noRd rfl; decide +kernel; (iterate 3 exact rfl); rotate_left) | (apply p_op; exact (vwant_g rfl rfl rfl); iterate 4 exact rfl) | (apply d_op; exact (vwant_g rfl rfl rfl); exact rfl; exact noRd rfl; decide +kernel; (iterate 3 exact rfl); rotate_left)
  refine e_alloc rfl fun bz => ⟨_, rfl, ?_⟩
  try (case hok => first | exact rdOk_nil | exact rdOk_b (by decide +kernel))
  refine wo ?_
  refine w_seq ?_
  refine wo ?_
  refine w_loop (ι := Nat) (fun i => [(29, .i .i64 (i : Nat)), (6, .p (some (bz, 0))), (5, .i .u64 ((8 * m.length : Nat) : Int)), (4, .p (some (be, 0))), (3, .p (some (bh, 0))), (2, .p (some (bo, 0)))])
    (fun i => [(some bz, cellsO (szC m.length i) 82), (some be, cellsO cs2 79), (some bh, cellsO (List.replicate 32 (byV 0)) 31), (some bo, cellsO (List.replicate 32 (byV 0)) 31)])
    (fun i => i ≤ 8) (fun i => 8 - i) 0 (Nat.zero_le _) ⟨rfl, rfl, rfl, rfl, rfl, rfl, trivial⟩ (fun hp h => h) ?_
  intro i hi
  refine wo ?_
  by_cases c : i < 8
  · first | (apply wm; iterate 5 exact rfl) | (apply dm; iterate 6 exact rfl) | (apply wmg; iterate 7 exact rfl) | (apply dmg; iterate 8 exact rfl)
    refine mv_int (v := .b true) rfl rfl (vi_lssT (by omega))
    refine wo ?_
    first | (apply wm; iterate 5 exact rfl) | (apply dm; iterate 6 exact rfl) | (apply wmg; iterate 7 exact rfl) | (apply dmg; iterate 8 exact rfl)
    refine m_shrN rfl rfl (by simp [IntKind.bits]; omega)
    first | (apply wm; iterate 5 exact rfl) | (apply dm; iterate 6 exact rfl) | (apply wmg; iterate 7 exact rfl) | (apply dmg; iterate 8 exact rfl)
    refine m_convB rfl
    first | (apply wn; iterate 5 exact rfl) | (apply dn; iterate 5 exact rfl) | (apply wg; iterate 7 exact rfl) | (apply dg; iterate 7 exact rfl)
    refine p_iaa rfl rfl c
    first | (apply p_do; exact (vwant_n rfl); exact rfl; exact rfl) | (apply d_do; exact (vwant_n rfl); exact rfl; exact noRd rfl; decide +kernel; exact rfl; rotate_left) | (apply p_do; exact (vwant_g rfl rfl rfl); exact rfl; exact rfl) | (apply d_do; exact (vwant_g rfl rfl rfl); exact rfl; exact noRd rfl; decide +kernel; exact rfl; rotate_left)
    refine e_st (C := szC m.length i) (C' := szC m.length (i + 1)) rfl rfl rfl (by rw [szC_len _ hi]; omega) (by rw [Nat.zero_add]; exact szC_set m.length c) ⟨_, rfl, ?_⟩
    try (case hok => first | exact rdOk_nil | exact rdOk_b (by decide +kernel))
    refine wo ?_
    exact ⟨rfl, i + 1, c, by omega, ⟨rfl, rfl, rfl, rfl, rfl, rfl, trivial⟩, fun hp h => h⟩
  first | (apply wm; iterate 5 exact rfl) | (apply dm; iterate 6 exact rfl) | (apply wmg; iterate 7 exact rfl) | (apply dmg; iterate 8 exact rfl)
  refine mv_int (v := .b false) rfl rfl (vi_lssF (by omega))
  refine wo ?_
  refine w_exit ?_
  obtain rfl : i = 8 := by omega
  refine wo ?_
  first | refine zX (m_slaw rfl) ?_ | refine yX (m_slaw rfl) ?_
  first | (apply p_callX [1] [0, 2, 3]; exact (vwant_n rfl); iterate 4 exact rfl) | (apply d_callX [1] [0, 2, 3]; exact (vwant_n rfl); decide +kernel; (iterate 4 exact rfl)) | (apply p_callX [1] [0, 2, 3]; exact (vwant_g rfl rfl rfl); iterate 4 exact rfl) | (apply d_callX [1] [0, 2, 3]; exact (vwant_g rfl rfl rfl); decide +kernel; (iterate 4 exact rfl))
  case hn => decide
  try (case hok => first | exact rdOk_nil | exact rdOk_b (by decide +kernel) | exact rdOk_c)
  case hC => exact (fun hp hs ht => write_d (xs := sizeB m.length) ht (hk.give hs) (rb_own hs (i := 0) rfl (by rw [szC_all, List.drop_zero]; exact List.take_of_length_le (by rw [List.length_map]; exact Nat.le_refl _))) (Nat.le_refl 8) hst2 (by rw [sizeB_len]; omega))
  rintro u N ⟨rfl, cs3, hst3, rfl⟩
  rw [g] at hst3
  have hst3 : StT cs3 (padB m) (m.length + 1 + zN m.length + (sizeB m.length).length) := hst3
  have hws : (absN (padB m) ((padB m).length / 64)).length = 8 := absN_len _ _
  refine wo ?_
  refine w_seq ?_
  refine wo ?_
  first | refine zX (m_ldln (s := 7) (cs := (absN (padB m) ((padB m).length / 64)).map wV) rfl (by exact hst3.words) (by rw [List.length_map, hws])) ?_ | refine yX (m_ldln (s := 7) (cs := (absN (padB m) ((padB m).length / 64)).map wV) rfl (by exact hst3.words) (by rw [List.length_map, hws])) ?_
  refine wo ?_
  have hsm : (absN (padB m) ((padB m).length / 64)).flatMap wB = sumB m := rfl
  generalize absN (padB m) ((padB m).length / 64) = ws at hws hsm
  refine w_loop (ι := Nat) (fun i => [(45, .i .i64 (i : Nat)), (44, .agg (ws.map wV)), (3, .p (some (bh, 0))), (2, .p (some (bo, 0)))])
    (fun i => [(some bh, cellsO (smC ws i) 31), (some bo, cellsO (List.replicate 32 (byV 0)) 31)])
    (fun i => i ≤ 8) (fun i => 8 - i) 0 (Nat.zero_le _) ⟨rfl, rfl, rfl, rfl, trivial⟩ (fun hp h => h.pick [2, 3] _ rfl (by decide)) ?_
  intro i hi
  have hsl := smC_len hws hi
  refine wo ?_
  by_cases c : i < 8
  · first | (apply wm; iterate 5 exact rfl) | (apply dm; iterate 6 exact rfl) | (apply wmg; iterate 7 exact rfl) | (apply dmg; iterate 8 exact rfl)
    refine mv_int (v := .b true) rfl rfl (vi_lssT (by omega))
    refine wo ?_
    obtain ⟨w, hv⟩ : ∃ w, ws[i]? = some w := ⟨ws[i], List.getElem?_eq_getElem (by omega)⟩
    first | (apply wn; iterate 5 exact rfl) | (apply dn; iterate 5 exact rfl) | (apply wg; iterate 7 exact rfl) | (apply dg; iterate 7 exact rfl)
    refine p_ix (v := .i .u32 ((w % 4294967296 : Nat) : Int)) rfl rfl c (by rw [List.getElem?_map, hv]; rfl)
    refine wo ?_
    first | (apply wm; iterate 5 exact rfl) | (apply dm; iterate 6 exact rfl) | (apply wmg; iterate 7 exact rfl) | (apply dmg; iterate 8 exact rfl)
    refine m_shrN rfl rfl (by decide)
    first | (apply wm; iterate 5 exact rfl) | (apply dm; iterate 6 exact rfl) | (apply wmg; iterate 7 exact rfl) | (apply dmg; iterate 8 exact rfl)
    refine m_convB rfl
    refine wo ?_
    first | (apply wm; iterate 5 exact rfl) | (apply dm; iterate 6 exact rfl) | (apply wmg; iterate 7 exact rfl) | (apply dmg; iterate 8 exact rfl)
    refine m_shrN rfl rfl (by decide)
    first | (apply wm; iterate 5 exact rfl) | (apply dm; iterate 6 exact rfl) | (apply wmg; iterate 7 exact rfl) | (apply dmg; iterate 8 exact rfl)
    refine m_convB rfl
    refine wo ?_
    first | (apply wm; iterate 5 exact rfl) | (apply dm; iterate 6 exact rfl) | (apply wmg; iterate 7 exact rfl) | (apply dmg; iterate 8 exact rfl)
    refine m_shrN rfl rfl (by decide)
    first | (apply wm; iterate 5 exact rfl) | (apply dm; iterate 6 exact rfl) | (apply wmg; iterate 7 exact rfl) | (apply dmg; iterate 8 exact rfl)
    refine m_convB rfl
    refine wo ?_
    first | (apply wm; iterate 5 exact rfl) | (apply dm; iterate 6 exact rfl) | (apply wmg; iterate 7 exact rfl) | (apply dmg; iterate 8 exact rfl)
    refine m_convB rfl
    first | (apply wn; iterate 5 exact rfl) | (apply dn; iterate 5 exact rfl) | (apply wg; iterate 7 exact rfl) | (apply dg; iterate 7 exact rfl)
    refine p_iaa rfl rfl (by omega)
    first | (apply p_do; exact (vwant_n rfl); exact rfl; exact rfl) | (apply d_do; exact (vwant_n rfl); exact rfl; exact noRd rfl; decide +kernel; exact rfl; rotate_left) | (apply p_do; exact (vwant_g rfl rfl rfl); exact rfl; exact rfl) | (apply d_do; exact (vwant_g rfl rfl rfl); exact rfl; exact noRd rfl; decide +kernel; exact rfl; rotate_left)
    refine e_st (C := smC ws i) rfl rfl rfl (by rw [hsl]; omega) rfl ⟨_, rfl, ?_⟩
    try (case hok => first | exact rdOk_nil | exact rdOk_b (by decide +kernel))
    first | (apply wn; iterate 5 exact rfl) | (apply dn; iterate 5 exact rfl) | (apply wg; iterate 7 exact rfl) | (apply dg; iterate 7 exact rfl)
    refine p_iaa rfl rfl (by omega)
    first | (apply p_do; exact (vwant_n rfl); exact rfl; exact rfl) | (apply d_do; exact (vwant_n rfl); exact rfl; exact noRd rfl; decide +kernel; exact rfl; rotate_left) | (apply p_do; exact (vwant_g rfl rfl rfl); exact rfl; exact rfl) | (apply d_do; exact (vwant_g rfl rfl rfl); exact rfl; exact noRd rfl; decide +kernel; exact rfl; rotate_left)
    refine e_st rfl rfl rfl (by rw [List.length_set, hsl]; omega) rfl ⟨_, rfl, ?_⟩
    try (case hok => first | exact rdOk_nil | exact rdOk_b (by decide +kernel))
    first | (apply wn; iterate 5 exact rfl) | (apply dn; iterate 5 exact rfl) | (apply wg; iterate 7 exact rfl) | (apply dg; iterate 7 exact rfl)
    refine p_iaa rfl rfl (by omega)
    first | (apply p_do; exact (vwant_n rfl); exact rfl; exact rfl) | (apply d_do; exact (vwant_n rfl); exact rfl; exact noRd rfl; decide +kernel; exact rfl; rotate_left) | (apply p_do; exact (vwant_g rfl rfl rfl); exact rfl; exact rfl) | (apply d_do; exact (vwant_g rfl rfl rfl); exact rfl; exact noRd rfl; decide +kernel; exact rfl; rotate_left)
    refine e_st rfl rfl rfl (by rw [List.length_set, List.length_set, hsl]; omega) rfl ⟨_, rfl, ?_⟩
    try (case hok => first | exact rdOk_nil | exact rdOk_b (by decide +kernel))
    first | (apply wn; iterate 5 exact rfl) | (apply dn; iterate 5 exact rfl) | (apply wg; iterate 7 exact rfl) | (apply dg; iterate 7 exact rfl)
    refine p_iaa rfl rfl (by omega)
    first | (apply p_do; exact (vwant_n rfl); exact rfl; exact rfl) | (apply d_do; exact (vwant_n rfl); exact rfl; exact noRd rfl; decide +kernel; exact rfl; rotate_left) | (apply p_do; exact (vwant_g rfl rfl rfl); exact rfl; exact rfl) | (apply d_do; exact (vwant_g rfl rfl rfl); exact rfl; exact noRd rfl; decide +kernel; exact rfl; rotate_left)
    refine e_st rfl rfl rfl (by rw [List.length_set, List.length_set, List.length_set, hsl]; omega) rfl ⟨_, rfl, ?_⟩
    try (case hok => first | exact rdOk_nil | exact rdOk_b (by decide +kernel))
    refine wo ?_
    refine ⟨rfl, i + 1, c, by omega, ⟨rfl, rfl, rfl, rfl, trivial⟩, fun hp h => ?_⟩
    simp only [Nat.zero_add] at h
    rw [smC_set hws c hv] at h
    exact h
  first | (apply wm; iterate 5 exact rfl) | (apply dm; iterate 6 exact rfl) | (apply wmg; iterate 7 exact rfl) | (apply dmg; iterate 8 exact rfl)
  refine mv_int (v := .b false) rfl rfl (vi_lssF (by omega))
  refine wo ?_
  refine w_exit ?_
  obtain rfl : i = 8 := by omega
  refine wo ?_
  first | refine zX (m_ldln (s := 31) rfl (by rw [List.drop_zero]; exact List.take_of_length_le (by omega)) hsl) ?_ | refine yX (m_ldln (s := 31) rfl (by rw [List.drop_zero]; exact List.take_of_length_le (by omega)) hsl) ?_
  first | (apply p_do; exact (vwant_n rfl); exact rfl; exact rfl) | (apply d_do; exact (vwant_n rfl); exact rfl; exact noRd rfl; decide +kernel; exact rfl; rotate_left) | (apply p_do; exact (vwant_g rfl rfl rfl); exact rfl; exact rfl) | (apply d_do; exact (vwant_g rfl rfl rfl); exact rfl; exact noRd rfl; decide +kernel; exact rfl; rotate_left)
  refine e_stn (C' := smC ws 8) rfl rfl (fun e => by rw [e] at hsl; simp at hsl) hsl (by simp) (overV_all (by rw [hsl]; simp)) ⟨_, rfl, ?_⟩
  try (case hok => first | exact rdOk_nil | exact rdOk_b (by decide +kernel))
  refine wo ?_
  refine w_ret (wend_ret (vres1 (rv_cell rfl hsl)) ?_)
  rw [smC_all hws, hsm]
end Go.Proofs.YtlpcelcaahfafaaDoor
/- Ds5: sha's New and Sum. By this project. -/
set_option maxRecDepth 100000
namespace Go.Proofs.YtlpcelcaahfafaaDoor
open Go.RowKit Go.Extern.Stop

theorem new0 : StT (stC firstW (List.replicate 64 0) 0 0) [] 0 := ⟨List.replicate 64 0, ⟨rfl, rfl⟩, rfl⟩
theorem shanew_d {hp : Hp} (ho : OkH hp) (hk : Tab ⟨hp, []⟩) :
    Fn kxD 27 [] hp [] fun r N => ∃ u, r = .v u ∧ ∃ b cs, u = .p (some (b, 0)) ∧ StT cs [] 0 ∧ N = [(some b, cellsO cs 79)] := by
  refine fn_of_w (T := []) ho.sv (fun _ => rfl) (fn := Tryd.f27) (by kernel_rfl) rfl rfl ?_
  refine wo ?_
  first | (apply wm; iterate 5 exact rfl) | (apply dm; iterate 6 exact rfl) | (apply wmg; iterate 7 exact rfl) | (apply dmg; iterate 8 exact rfl)
  refine m_ldnN (s := 7) (j := 0) rfl hk.first.1 hk.first.2 rfl rfl rfl
  first | (apply wn; iterate 5 exact rfl) | (apply dn; iterate 5 exact rfl) | (apply wg; iterate 7 exact rfl) | (apply dg; iterate 7 exact rfl)
  refine p_buildS (C := stC firstW (List.replicate 64 0) 0 0) (.cons rfl rfl rfl rfl (by decide) .nil) rfl
  first | (apply p_op; exact (vwant_n rfl); iterate 4 exact rfl) | (apply d_op; exact (vwant_n rfl); exact rfl; exact noRd rfl; decide +kernel; (iterate 3 exact rfl); rotate_left) | (apply p_op; exact (vwant_g rfl rfl rfl); iterate 4 exact rfl) | (apply d_op; exact (vwant_g rfl rfl rfl); exact rfl; exact noRd rfl; decide +kernel; (iterate 3 exact rfl); rotate_left)
  refine ev_box rfl rfl fun b => ⟨_, rfl, ?_⟩
  try (case hok => first | exact rdOk_nil | exact rdOk_b (by decide +kernel))
  refine wo ?_
  exact w_ret (wend_ret (vres1 (rv_tmp rfl)) ⟨_, rfl, _, _, rfl, new0, rfl⟩)
/-- A part: where it lies, its bytes, its room. -/
abbrev Prt := Option (Nat × Nat) × List UInt8 × Nat × Bool
def prV (p : Prt) : V := .sl p.1 p.2.1.length p.2.2.1 p.2.2.2
def prB (ps : List Prt) : List UInt8 := ps.flatMap fun p => p.2.1
def PrOk (B : Bs) (ps : List Prt) : Prop := ∀ p ∈ ps, RB B p.1 (p.2.1.map byV) ∧ CapOk p.2.1.length p.2.2.1 p.2.2.2
theorem prB_take {ps : List Prt} {i : Nat} {p : Prt} (h : ps[i]? = some p) : prB (ps.take (i + 1)) = prB (ps.take i) ++ p.2.1 := by
  obtain ⟨hi, e⟩ := List.getElem?_eq_some_iff.1 h
  rw [List.take_succ_eq_append_getElem hi, e, prB, prB, List.flatMap_append]
  simp
theorem prB_le {ps : List Prt} {i : Nat} : (prB (ps.take i)).length ≤ (prB ps).length := by
  have e : ps = ps.take i ++ ps.drop i := (List.take_append_drop i ps).symm
  have e2 : prB ps = prB (ps.take i) ++ prB (ps.drop i) := by
    rw [prB, prB, prB, ← List.flatMap_append, ← e]
  rw [e2, List.length_append]
  omega
set_option maxHeartbeats 4000000 in
theorem shasum_d {ps : List Prt} {P : Option (Nat × Nat)} {c : Nat} {op : Bool} {hp : Hp} (ho : OkH hp) (hk : Tab ⟨hp, []⟩) (hP : RB ⟨hp, []⟩ P (ps.map prV)) (hps : PrOk ⟨hp, []⟩ ps) (hl : (prB ps).length < 288230376151711744) (hn : ps.length < 4611686018427387904) :
    Fn kxD 21 [.sl P ps.length c op] hp [] fun r _ => r = .v (.agg ((sumB (prB ps)).map byV)) := by
  refine fn_of_w (T := []) ho.sv (fun _ => rfl) (fn := Tryd.f21) (by kernel_rfl) rfl rfl ?_
  refine wo ?_
  first | (apply p_op; exact (vwant_n rfl); iterate 4 exact rfl) | (apply d_op; exact (vwant_n rfl); exact rfl; exact noRd rfl; decide +kernel; (iterate 3 exact rfl); rotate_left) | (apply p_op; exact (vwant_g rfl rfl rfl); iterate 4 exact rfl) | (apply d_op; exact (vwant_g rfl rfl rfl); exact rfl; exact noRd rfl; decide +kernel; (iterate 3 exact rfl); rotate_left)
  refine e_alloc rfl fun bo => ⟨_, rfl, ?_⟩
  try (case hok => first | exact rdOk_nil | exact rdOk_b (by decide +kernel))
  refine wo ?_
  first | (apply p_callX [] [0]; exact (vwant_n rfl); iterate 4 exact rfl) | (apply d_callX [] [0]; exact (vwant_n rfl); decide +kernel; (iterate 4 exact rfl)) | (apply p_callX [] [0]; exact (vwant_g rfl rfl rfl); iterate 4 exact rfl) | (apply d_callX [] [0]; exact (vwant_g rfl rfl rfl); decide +kernel; (iterate 4 exact rfl))
  case hn => decide
  try (case hok => first | exact rdOk_nil | exact rdOk_b (by decide +kernel) | exact rdOk_c)
  case hC => exact (fun hp hs ht => shanew_d hs.ok (hk.give0 hs))
  rintro u N ⟨b, cs0, rfl, hst0, rfl⟩
  refine wo ?_
  refine w_seq ?_
  refine wo ?_
  refine w_loop (ι := Nat × List V) (fun s => [(9, .i .i64 (s.1 : Nat)), (8, .i .i64 (ps.length : Nat)), (7, .sl P ps.length c op), (3, .p (some (b, 0))), (2, .p (some (bo, 0)))])
    (fun s => [(some b, cellsO s.2 79), (some bo, cellsO (List.replicate 32 (byV 0)) 31)])
    (fun s => s.1 ≤ ps.length ∧ StT s.2 (prB (ps.take s.1)) (prB (ps.take s.1)).length) (fun s => ps.length - s.1) (0, cs0) ⟨Nat.zero_le _, by rw [List.take_zero]; exact hst0⟩ ⟨rfl, rfl, rfl, rfl, rfl, trivial⟩ (fun hp h => h) ?_
  intro ⟨i, cs⟩ ⟨hi, hst⟩
  dsimp only at hi hst ⊢
  refine wo ?_
  by_cases g : i < ps.length
  · first | (apply wm; iterate 5 exact rfl) | (apply dm; iterate 6 exact rfl) | (apply wmg; iterate 7 exact rfl) | (apply dmg; iterate 8 exact rfl)
    refine mv_int (v := .b true) rfl rfl (vi_lssT (by omega))
    refine wo ?_
    obtain ⟨p, hv⟩ : ∃ p, ps[i]? = some p := ⟨ps[i], List.getElem?_eq_getElem g⟩
    have hpm : p ∈ ps := List.mem_of_getElem? hv
    have hv2 : (ps.map prV)[i]? = some (prV p) := by rw [List.getElem?_map, hv]; rfl
    obtain ⟨bp, opp, rfl⟩ : ∃ b o, P = some (b, o) := by
      cases hq : ps.map prV with
      | nil => rw [hq] at hv2; simp at hv2
      | cons v r => exact rv_some (by rw [← hq]; exact hP.1.rv)
    first | (apply wn; iterate 5 exact rfl) | (apply dn; iterate 5 exact rfl) | (apply wg; iterate 7 exact rfl) | (apply dg; iterate 7 exact rfl)
    refine p_ia rfl rfl g
    first | (apply wm; iterate 5 exact rfl) | (apply dm; iterate 6 exact rfl) | (apply wmg; iterate 7 exact rfl) | (apply dmg; iterate 8 exact rfl)
    refine m_ldN rfl hP.1 hP.2 rfl hv2
    refine wo ?_
    have hle := prB_le (ps := ps) (i := i + 1)
    rw [prB_take hv, List.length_append] at hle
    first | (apply p_callX [0] [1]; exact (vwant_n rfl); iterate 4 exact rfl) | (apply d_callX [0] [1]; exact (vwant_n rfl); decide +kernel; (iterate 4 exact rfl)) | (apply p_callX [0] [1]; exact (vwant_g rfl rfl rfl); iterate 4 exact rfl) | (apply d_callX [0] [1]; exact (vwant_g rfl rfl rfl); decide +kernel; (iterate 4 exact rfl))
    case hn => decide
    try (case hok => first | exact rdOk_nil | exact rdOk_b (by decide +kernel) | exact rdOk_c)
    case hC => exact (fun hp hs ht => write_g ht (hk.give hs) ((hps p hpm).1.give hs) (hps p hpm).2 hst (by omega))
    rintro u N ⟨rfl, cs', hst', rfl⟩
    refine wo ?_
    refine ⟨rfl, (i + 1, cs'), ⟨g, ?_⟩, by dsimp only; omega, ⟨rfl, rfl, rfl, rfl, rfl, trivial⟩, fun hp h => h⟩
    dsimp only
    rw [prB_take hv, List.length_append]
    exact hst'
  · first | (apply wm; iterate 5 exact rfl) | (apply dm; iterate 6 exact rfl) | (apply wmg; iterate 7 exact rfl) | (apply dmg; iterate 8 exact rfl)
    refine mv_int (v := .b false) rfl rfl (vi_lssF (by omega))
    refine wo ?_
    refine w_exit ?_
    obtain rfl : i = ps.length := by omega
    rw [List.take_length] at hst
    refine wo ?_
    first | refine p_callq (vwant_n rfl) rfl rfl rfl rfl (fun hp hs => sum_d hs.ok (hk.give0 hs) (rb_own0 hs (i := 0) rfl (by rw [List.drop_zero]; exact List.take_of_length_le (Nat.le_refl _))) hst hl) ?_ | refine d_callq (vwant_n rfl) (by decide +kernel) rfl rfl rfl rfl (fun hp hs => sum_d hs.ok (hk.give0 hs) (rb_own0 hs (i := 0) rfl (by rw [List.drop_zero]; exact List.take_of_length_le (Nat.le_refl _))) hst hl) ?_ | refine d_callq0 (vwant_n rfl) (by decide +kernel) rfl rfl rfl rfl (fun hp hs => sum_d hs.ok (hk.give0 hs) (rb_own0 hs (i := 0) rfl (by rw [List.drop_zero]; exact List.take_of_length_le (Nat.le_refl _))) hst hl) ?_ | refine p_callq (vwant_g rfl rfl rfl) rfl rfl rfl rfl (fun hp hs => sum_d hs.ok (hk.give0 hs) (rb_own0 hs (i := 0) rfl (by rw [List.drop_zero]; exact List.take_of_length_le (Nat.le_refl _))) hst hl) ?_ | refine d_callq (vwant_g rfl rfl rfl) (by decide +kernel) rfl rfl rfl rfl (fun hp hs => sum_d hs.ok (hk.give0 hs) (rb_own0 hs (i := 0) rfl (by rw [List.drop_zero]; exact List.take_of_length_le (Nat.le_refl _))) hst hl) ?_ | refine d_callq0 (vwant_g rfl rfl rfl) (by decide +kernel) rfl rfl rfl rfl (fun hp hs => sum_d hs.ok (hk.give0 hs) (rb_own0 hs (i := 0) rfl (by rw [List.drop_zero]; exact List.take_of_length_le (Nat.le_refl _))) hst hl) ?_
    first | (apply p_do; exact (vwant_n rfl); exact rfl; exact rfl) | (apply d_do; exact (vwant_n rfl); exact rfl; exact noRd rfl; decide +kernel; exact rfl; rotate_left) | (apply p_do; exact (vwant_g rfl rfl rfl); exact rfl; exact rfl) | (apply d_do; exact (vwant_g rfl rfl rfl); exact rfl; exact noRd rfl; decide +kernel; exact rfl; rotate_left)
    refine e_stn (C' := (sumB (prB ps)).map byV) rfl rfl (fun e => by have := congrArg List.length e; rw [List.length_map, sumB_len] at this; simp at this) (by rw [List.length_map, sumB_len]) (by simp) (overV_all (by rw [List.length_map, sumB_len]; simp)) ⟨_, rfl, ?_⟩
    try (case hok => first | exact rdOk_nil | exact rdOk_b (by decide +kernel))
    refine wo ?_
    exact w_ret (wend_ret (vres1 (rv_cell rfl (by rw [List.length_map, sumB_len]))) rfl)
end Go.Proofs.YtlpcelcaahfafaaDoor
/- Ds6: mac's New, Write, Code. By this project. -/
set_option maxRecDepth 100000
namespace Go.Proofs.YtlpcelcaahfafaaDoor
open Go.RowKit Go.Extern.Stop

def keyB (k : List UInt8) : List UInt8 := k ++ List.replicate (64 - k.length) 0
def ipad (k : List UInt8) : List UInt8 := (keyB k).map (· ^^^ 54)
def opad (k : List UInt8) : List UInt8 := (keyB k).map (· ^^^ 92)
/-- The code. -/
def macB (k x : List UInt8) : List UInt8 := sumB (opad k ++ sumB (ipad k ++ x))
theorem keyB_len {k : List UInt8} (h : k.length ≤ 64) : (keyB k).length = 64 := by simp [keyB]; omega
theorem macB_len (k x : List UInt8) : (macB k x).length = 32 := sumB_len _
def xorL (b : List UInt8) (x : UInt8) (i : Nat) : List UInt8 := (b.map (· ^^^ x)).take i ++ b.drop i
theorem xorL_len {b : List UInt8} {x : UInt8} {i : Nat} (h : i ≤ b.length) : (xorL b x i).length = b.length := by simp [xorL]; omega
theorem xorL_zero (b : List UInt8) (x : UInt8) : xorL b x 0 = b := by simp [xorL]
theorem xorL_all {b : List UInt8} {x : UInt8} {n : Nat} (h : b.length = n) : xorL b x n = b.map (· ^^^ x) := by simp [xorL, ← h, List.take_of_length_le]
theorem xorL_at {b : List UInt8} {x y : UInt8} {i : Nat} (h : b[i]? = some y) : (xorL b x i)[i]? = some y := by
  obtain ⟨hi, e⟩ := List.getElem?_eq_some_iff.1 h
  unfold xorL
  rw [List.getElem?_append_right (by simp; omega), List.getElem?_drop]
  have e2 : (((b.map (· ^^^ x)).take i).length) = i := by simp; omega
  rw [e2, Nat.sub_self, Nat.add_zero]
  exact h
theorem xorL_set {b : List UInt8} {x y : UInt8} {i : Nat} (h : b[i]? = some y) : (xorL b x i).set i (y ^^^ x) = xorL b x (i + 1) := by
  obtain ⟨hi, e⟩ := List.getElem?_eq_some_iff.1 h
  unfold xorL
  have e2 : (((b.map (· ^^^ x)).take i).length) = i := by simp; omega
  rw [List.set_append_right _ _ (by omega), e2, Nat.sub_self, List.drop_eq_getElem_cons hi, List.set_cons_zero, List.take_succ_eq_append_getElem (by simp; omega), List.append_assoc]
  simp [e]
theorem prOk_two {B : Bs} {A A' : Option (Nat × Nat)} {x y : List UInt8} {c d : Nat} (h1 : RB B A (x.map byV)) (h2 : RB B A' (y.map byV)) (hx : x.length ≤ c) (hy : y.length ≤ d) : PrOk B [(A, x, c, false), (A', y, d, false)] := fun p hp => by
  rcases List.mem_cons.1 hp with rfl | hp
  · exact ⟨h1, capOk_f hx⟩
  · rcases List.mem_cons.1 hp with rfl | hp
    · exact ⟨h2, capOk_f hy⟩
    · simp at hp
theorem prB_two (A B : Option (Nat × Nat)) (x y : List UInt8) (c d : Nat) : prB [(A, x, c, false), (B, y, d, false)] = x ++ y := by simp [prB]
end Go.Proofs.YtlpcelcaahfafaaDoor
/- Ds7: digest's cut, mac's Equal, a book's code. By this project. -/
set_option maxRecDepth 100000
namespace Go.Proofs.YtlpcelcaahfafaaDoor
open Go.RowKit Go.Extern.Stop

def cutY (bits i : Nat) (y : UInt8) : UInt8 := if min 8 (bits - 8 * i) < 8 then y &&& UInt8.ofNat (255 * 2 ^ (8 - min 8 (bits - 8 * i))) else y
/-- The first bits alone. -/
def cutB (bits : Nat) (h : List UInt8) : List UInt8 := h.mapIdx (cutY bits)
theorem cutB_len (bits : Nat) (h : List UInt8) : (cutB bits h).length = h.length := by simp [cutB]
def cutP (bits : Nat) (h : List UInt8) (i : Nat) : List UInt8 := (cutB bits h).take i ++ h.drop i
theorem cutP_len {bits : Nat} {h : List UInt8} {i : Nat} (hi : i ≤ h.length) : (cutP bits h i).length = h.length := by simp [cutP, cutB_len]; omega
theorem cutP_at {bits : Nat} {h : List UInt8} {i : Nat} {y : UInt8} (hy : h[i]? = some y) : (cutP bits h i)[i]? = some y := by
  obtain ⟨hi, e⟩ := List.getElem?_eq_some_iff.1 hy
  unfold cutP
  have e2 : ((cutB bits h).take i).length = i := by rw [List.length_take, cutB_len]; omega
  rw [List.getElem?_append_right (by omega), e2, Nat.sub_self, List.getElem?_drop, Nat.add_zero]
  exact hy
theorem cutP_set {bits : Nat} {h : List UInt8} {i : Nat} {y : UInt8} (hy : h[i]? = some y) : (cutP bits h i).set i (cutY bits i y) = cutP bits h (i + 1) := by
  obtain ⟨hi, e⟩ := List.getElem?_eq_some_iff.1 hy
  unfold cutP
  have e2 : ((cutB bits h).take i).length = i := by rw [List.length_take, cutB_len]; omega
  rw [List.set_append_right _ _ (by omega), e2, Nat.sub_self, List.drop_eq_getElem_cons hi, List.set_cons_zero, List.take_succ_eq_append_getElem (by rw [cutB_len]; exact hi), List.append_assoc]
  simp [cutB, e]
theorem cutP_same {bits : Nat} {h : List UInt8} {i : Nat} {y : UInt8} (hy : h[i]? = some y) (hc : cutY bits i y = y) : cutP bits h i = cutP bits h (i + 1) := by
  rw [← cutP_set hy, hc]
  obtain ⟨h1, h2⟩ := List.getElem?_eq_some_iff.1 (cutP_at (bits := bits) hy)
  conv => lhs; rw [← List.set_getElem_self h1, h2]
theorem cutP_all {bits : Nat} {h : List UInt8} {n : Nat} (hn : h.length = n) : cutP bits h n = cutB bits h := by
  unfold cutP
  rw [List.take_of_length_le (by rw [cutB_len]; omega), List.drop_of_length_le (by omega), List.append_nil]
set_option maxHeartbeats 4000000 in
theorem cut_d {h : List UInt8} {bits : Nat} (hh : h.length = 32) (hb : bits ≤ 256) {hp : Hp} (ho : OkH hp) :
    Fn kxD 20 [.agg (h.map byV), .i .i64 (bits : Int)] hp [] fun r _ => r = .v (.agg ((cutB bits h).map byV)) := by
  have hne : ∀ {l : List UInt8}, l.length = 32 → l.map byV ≠ [] := fun {l} hl e => by have := congrArg List.length e; rw [List.length_map, hl] at this; simp at this
  refine fn_of_w (T := []) ho.sv (fun _ => rfl) (fn := Tryd.f20) (by kernel_rfl) rfl rfl ?_
  refine wo ?_
  first | (apply p_op; exact (vwant_n rfl); iterate 4 exact rfl) | (apply d_op; exact (vwant_n rfl); exact rfl; exact noRd rfl; decide +kernel; (iterate 3 exact rfl); rotate_left) | (apply p_op; exact (vwant_g rfl rfl rfl); iterate 4 exact rfl) | (apply d_op; exact (vwant_g rfl rfl rfl); exact rfl; exact noRd rfl; decide +kernel; (iterate 3 exact rfl); rotate_left)
  refine ev_box rfl rfl fun bh => ⟨_, rfl, ?_⟩
  try (case hok => first | exact rdOk_nil | exact rdOk_b (by decide +kernel))
  first | (apply p_op; exact (vwant_n rfl); iterate 4 exact rfl) | (apply d_op; exact (vwant_n rfl); exact rfl; exact noRd rfl; decide +kernel; (iterate 3 exact rfl); rotate_left) | (apply p_op; exact (vwant_g rfl rfl rfl); iterate 4 exact rfl) | (apply d_op; exact (vwant_g rfl rfl rfl); exact rfl; exact noRd rfl; decide +kernel; (iterate 3 exact rfl); rotate_left)
  refine e_alloc rfl fun bo => ⟨_, rfl, ?_⟩
  try (case hok => first | exact rdOk_nil | exact rdOk_b (by decide +kernel))
  refine wo ?_
  refine w_seq ?_
  refine wo ?_
  refine w_loop (ι := Nat) (fun i => [(7, .i .i64 (i : Nat)), (1, .i .i64 (bits : Nat)), (4, .p (some (bo, 0))), (2, .p (some (bh, 0)))])
    (fun i => [(some bo, cellsO (List.replicate 32 (byV 0)) 31), (some bh, cellsO ((cutP bits h i).map byV) 31)])
    (fun i => i ≤ 32) (fun i => 32 - i) 0 (Nat.zero_le _) ⟨rfl, rfl, rfl, rfl, trivial⟩ (fun hp h' => by
      have e : cutP bits h 0 = h := by simp [cutP]
      rw [e]
      exact h') ?_
  intro i hi
  have hll : (cutP bits h i).length = 32 := (cutP_len (by omega)).trans hh
  refine wo ?_
  by_cases c : i < 32
  · first | (apply wm; iterate 5 exact rfl) | (apply dm; iterate 6 exact rfl) | (apply wmg; iterate 7 exact rfl) | (apply dmg; iterate 8 exact rfl)
    refine mv_int (v := .b true) rfl rfl (vi_lssT (by omega))
    refine wo ?_
    obtain ⟨y, hy⟩ : ∃ y, h[i]? = some y := ⟨h[i], List.getElem?_eq_getElem (by omega)⟩
    first | (apply wm; iterate 5 exact rfl) | (apply dm; iterate 6 exact rfl) | (apply wmg; iterate 7 exact rfl) | (apply dmg; iterate 8 exact rfl)
    refine m_subI rfl rfl (by omega)
    first | (apply wm; iterate 5 exact rfl) | (apply dm; iterate 6 exact rfl) | (apply wmg; iterate 7 exact rfl) | (apply dmg; iterate 8 exact rfl)
    refine m_minI rfl rfl
    first | (apply wm; iterate 5 exact rfl) | (apply dm; iterate 6 exact rfl) | (apply wmg; iterate 7 exact rfl) | (apply dmg; iterate 8 exact rfl)
    refine m_maxI rfl rfl
    rw [show max (0 : Int) (min 8 ((bits : Int) - ((8 * i : Nat) : Int))) = ((min 8 (bits - 8 * i) : Nat) : Int) by omega]
    refine wo ?_
    by_cases g : min 8 (bits - 8 * i) < 8
    · first | (apply wm; iterate 5 exact rfl) | (apply dm; iterate 6 exact rfl) | (apply wmg; iterate 7 exact rfl) | (apply dmg; iterate 8 exact rfl)
      refine mv_int (v := .b true) rfl rfl (vi_lssT (by omega))
      refine wo ?_
      first | (apply wn; iterate 5 exact rfl) | (apply dn; iterate 5 exact rfl) | (apply wg; iterate 7 exact rfl) | (apply dg; iterate 7 exact rfl)
      refine p_iaa rfl rfl c
      first | refine zX (m_ldl (v := byV y) rfl (by rw [Nat.zero_add, List.getElem?_map, cutP_at hy]; rfl)) ?_ | refine yX (m_ldl (v := byV y) rfl (by rw [Nat.zero_add, List.getElem?_map, cutP_at hy]; rfl)) ?_
      refine wo ?_
      first | (apply wm; iterate 5 exact rfl) | (apply dm; iterate 6 exact rfl) | (apply wmg; iterate 7 exact rfl) | (apply dmg; iterate 8 exact rfl)
      refine m_shlB (x := 255) rfl rfl (by omega)
      first | (apply wm; iterate 5 exact rfl) | (apply dm; iterate 6 exact rfl) | (apply wmg; iterate 7 exact rfl) | (apply dmg; iterate 8 exact rfl)
      refine m_andB rfl rfl
      first | (apply wn; iterate 5 exact rfl) | (apply dn; iterate 5 exact rfl) | (apply wg; iterate 7 exact rfl) | (apply dg; iterate 7 exact rfl)
      refine p_iaa rfl rfl c
      first | (apply p_do; exact (vwant_n rfl); exact rfl; exact rfl) | (apply d_do; exact (vwant_n rfl); exact rfl; exact noRd rfl; decide +kernel; exact rfl; rotate_left) | (apply p_do; exact (vwant_g rfl rfl rfl); exact rfl; exact rfl) | (apply d_do; exact (vwant_g rfl rfl rfl); exact rfl; exact noRd rfl; decide +kernel; exact rfl; rotate_left)
      refine e_st (C := (cutP bits h i).map byV) (C' := (cutP bits h (i + 1)).map byV) rfl rfl rfl (by rw [List.length_map, hll]; omega) (by
        rw [Nat.zero_add, ← List.map_set]
        have e : cutY bits i y = y &&& UInt8.ofNat (UInt8.toNat 255 * 2 ^ (8 - min 8 (bits - 8 * i))) := by unfold cutY; rw [if_pos g]; rfl
        rw [← e, cutP_set hy]) ⟨_, rfl, ?_⟩
      try (case hok => first | exact rdOk_nil | exact rdOk_b (by decide +kernel))
      refine wo ?_
      exact ⟨rfl, i + 1, c, by omega, ⟨rfl, rfl, rfl, rfl, trivial⟩, fun hp h' => h'⟩
    · first | (apply wm; iterate 5 exact rfl) | (apply dm; iterate 6 exact rfl) | (apply wmg; iterate 7 exact rfl) | (apply dmg; iterate 8 exact rfl)
      refine mv_int (v := .b false) rfl rfl (vi_lssF (by omega))
      refine wo ?_
      exact ⟨rfl, i + 1, c, by omega, ⟨rfl, rfl, rfl, rfl, trivial⟩, fun hp h' => by
        rw [← cutP_same hy (by unfold cutY; rw [if_neg g])]
        exact h'⟩
  · first | (apply wm; iterate 5 exact rfl) | (apply dm; iterate 6 exact rfl) | (apply wmg; iterate 7 exact rfl) | (apply dmg; iterate 8 exact rfl)
    refine mv_int (v := .b false) rfl rfl (vi_lssF (by omega))
    refine wo ?_
    refine w_exit ?_
    obtain rfl : i = 32 := by omega
    rw [cutP_all hh]
    have hcl : ((cutB bits h).map byV).length = 32 := by rw [List.length_map, cutB_len, hh]
    refine wo ?_
    first | refine zX (m_ldln (s := 31) (cs := (cutB bits h).map byV) rfl (by rw [List.drop_zero]; exact List.take_of_length_le (by omega)) hcl) ?_ | refine yX (m_ldln (s := 31) (cs := (cutB bits h).map byV) rfl (by rw [List.drop_zero]; exact List.take_of_length_le (by omega)) hcl) ?_
    first | (apply p_do; exact (vwant_n rfl); exact rfl; exact rfl) | (apply d_do; exact (vwant_n rfl); exact rfl; exact noRd rfl; decide +kernel; exact rfl; rotate_left) | (apply p_do; exact (vwant_g rfl rfl rfl); exact rfl; exact rfl) | (apply d_do; exact (vwant_g rfl rfl rfl); exact rfl; exact noRd rfl; decide +kernel; exact rfl; rotate_left)
    refine e_stn (C' := (cutB bits h).map byV) rfl rfl (fun e => by rw [e] at hcl; simp at hcl) hcl (by simp) (overV_all (by rw [hcl]; simp)) ⟨_, rfl, ?_⟩
    try (case hok => first | exact rdOk_nil | exact rdOk_b (by decide +kernel))
    refine wo ?_
    exact w_ret (wend_ret (vres1 (rv_cell rfl hcl)) rfl)
/-- What the differences come to. -/
def difB (a b : List UInt8) (i : Nat) : UInt8 := ((a.zip b).take i).foldl (fun d p => d ||| (p.1 ^^^ p.2)) 0
theorem orB_zero {x y : UInt8} : x ||| y = 0 ↔ x = 0 ∧ y = 0 := by
  rw [← UInt8.toNat_inj, ← UInt8.toNat_inj, ← UInt8.toNat_inj, UInt8.toNat_or]
  show x.toNat ||| y.toNat = 0 ↔ x.toNat = 0 ∧ y.toNat = 0
  exact Nat.or_eq_zero_iff
theorem xorB_zero {x y : UInt8} : x ^^^ y = 0 ↔ x = y := UInt8.xor_eq_zero_iff
theorem difB_succ {a b : List UInt8} {i : Nat} {x y : UInt8} (hx : a[i]? = some x) (hy : b[i]? = some y) : difB a b (i + 1) = difB a b i ||| (x ^^^ y) := by
  have hz : (a.zip b)[i]? = some (x, y) := List.getElem?_zip_eq_some.2 ⟨hx, hy⟩
  obtain ⟨h1, h2⟩ := List.getElem?_eq_some_iff.1 hz
  unfold difB
  rw [List.take_succ_eq_append_getElem h1, List.foldl_append, h2]
  rfl
theorem difB_zero {a b : List UInt8} (hl : a.length = b.length) : ∀ i, i ≤ a.length → (difB a b i = 0 ↔ a.take i = b.take i)
  | 0, _ => by simp [difB]
  | i + 1, h => by
    have hx : a[i]? = some a[i] := List.getElem?_eq_getElem (by omega)
    have hy : b[i]? = some b[i] := List.getElem?_eq_getElem (by omega)
    rw [difB_succ hx hy, orB_zero, xorB_zero, difB_zero hl i (by omega), List.take_succ_eq_append_getElem (by omega), List.take_succ_eq_append_getElem (by omega)]
    constructor
    · rintro ⟨h1, h2⟩
      rw [h1, h2]
    · intro h'
      have := List.append_inj h' (by simp; omega)
      exact ⟨this.1, by simpa using this.2⟩
end Go.Proofs.YtlpcelcaahfafaaDoor
/- Ds8: what a book has noted: strings by their hashes; a string noted. By this project. -/
set_option maxRecDepth 100000
namespace Go.Proofs.YtlpcelcaahfafaaDoor
open Go.RowKit Go.Extern.Stop

theorem mapS_of : ∀ (ss : List (List UInt8)), mapO asS (ss.map V.s) = some ss
  | [] => rfl
  | x :: r => by rw [List.map_cons, mapO_cons, mapS_of r]; rfl
/-- Strings sorted in place. -/
theorem sort_d {b : Nat} {E : TypeId} {ss : List (List UInt8)} {hp : Hp} (h0 : SV ⟨hp, [b]⟩ hp [(some b, .cells (ss.map .s) E (some 1) false)]) (hl : ss.length ≤ 1000000000) :
    Fn kxD 32 [.sl (some (b, 0)) ss.length ss.length true] hp [b] fun r N => ∃ u, r = .v u ∧ N = [(some b, .cells ((srtB ss).map .s) E (some 1) false)] := by
  unfold Fn
  have hput := put_sv (o' := .cells ((srtB ss).map V.s) E (some 1) false) (i := 0) h0 rfl
  refine ⟨.v (.tup []), _, ⟨1, fun n hn => ?_⟩, [(some b, .cells ((srtB ss).map .s) E (some 1) false)], hput.1, hput.2, _, rfl, rfl⟩
  obtain ⟨n, rfl⟩ : ∃ k, n = k + 1 := ⟨n - 1, by omega⟩
  have e5 : hp.getW b = some (.cells (ss.map .s) E (some 1) false) := getW_own (i := 0) h0 rfl
  have e1 : takeF (dropF (ss.map V.s) 0) ss.length = ss.map V.s := by rw [takeF_eq, dropF_eq, List.drop_zero]; exact List.take_of_length_le (by simp)
  have e2 : (Nat.beq (lenF ss) ss.length && (Nat.ble ss.length 1000000000 && geL (ss.map V.s) (0 + ss.length))) = true := by
    rw [lenF_eq]
    have : geL (ss.map V.s) (0 + ss.length) = true := geL_iff.2 (by simp)
    rw [this, Nat.beq_refl, ble_t hl]
    rfl
  have e3 : appF (takeF (ss.map V.s) 0) (appF ((srtB ss).map V.s) (dropF (ss.map V.s) (0 + ss.length))) = (srtB ss).map V.s := by
    rw [appF_eq, appF_eq, takeF_eq, dropF_eq, List.take_zero, List.nil_append, List.drop_of_length_le (by simp), List.append_nil]
  have e6 : srtExt 32 32 [.sl (some (b, 0)) ss.length ss.length true] hp = some (.v (.tup []), hp.put b (some (.cells ((srtB ss).map .s) E (some 1) false))) := by
    show (match hp.getW b with | _ => _) = _
    simp only [srtExt, e5, e1, mapS_of, Option.bind_some, e2, e3]
  have q : muExt 22 32 [.sl (some (b, 0)) ss.length ss.length true] hp = none := rfl
  have q2 : shaExt 35 2 32 [.sl (some (b, 0)) ss.length ss.length true] hp = none := rfl
  simp only [vcall, orExt, q, q2, e6]

theorem sort_n {b n : Nat} {E : TypeId} {C : List V} (ss : List (List UInt8)) {hp : Hp} (hC : C = ss.map V.s) (hn : ss.length = n) (h0 : SV ⟨hp, [b]⟩ hp [(some b, .cells C E (some 1) false)]) (hl : n ≤ 1000000000) :
    Fn kxD 32 [.sl (some (b, 0)) n n true] hp [b] fun r N => ∃ u, r = .v u ∧ N = [(some b, .cells ((srtB ss).map .s) E (some 1) false)] := by
  subst hC hn
  exact sort_d h0 hl
theorem SV.lastL {B : Bs} {hp : Hp} {x : Option Nat × VO} {L : HV} (h : SV B hp (x :: L)) : SV B hp (L ++ [x]) := h.perm (List.perm_append_singleton x L).symm
theorem SV.midL {B : Bs} {hp : Hp} {x : Option Nat × VO} {L M : HV} (h : SV B hp (x :: (L ++ M))) : SV B hp (L ++ x :: M) := h.perm List.perm_middle.symm
theorem SV.frontL {B : Bs} {hp : Hp} {x : Option Nat × VO} {L M : HV} (h : SV B hp (L ++ x :: M)) : SV B hp (x :: (L ++ M)) := h.perm List.perm_middle
/-- Strings of one hash. -/
structure Grp where
  h : List UInt8
  b : Nat
  ss : List (List UInt8)
/-- What was noted: where its two maps lie; the strings; those of each hash. -/
structure Nt where
  a : Nat
  s : Nat
  all : List (List UInt8)
  gs : List Grp
abbrev hK (xs : List UInt8) : V := .agg (xs.map byV)
abbrev grpV (g : Grp) : V := .sl (some (g.b, 0)) g.ss.length g.ss.length true
abbrev grpO (g : Grp) : Option Nat × VO := (some g.b, .cells (g.ss.map V.s) 9 (some 1) false)
abbrev ntA (n : Nt) : VO := .map (entE V.s n.all (n.all.map fun _ => V.b true)) n.all.length
abbrev ntS (n : Nt) : VO := .map (entE hK (n.gs.map (·.h)) (n.gs.map grpV)) (n.gs.map (·.h)).length
abbrev ntL (n : Nt) : HV := (some n.a, ntA n) :: (some n.s, ntS n) :: n.gs.map grpO
structure NtOk (hf : List UInt8 → List UInt8) (n : Nt) : Prop where
  nd : n.all.Nodup
  gd : (n.gs.map (·.h)).Nodup
  gl : ∀ g ∈ n.gs, g.h.length = 32
  gm : ∀ s ∈ n.all, hf s ∈ n.gs.map (·.h)
  gn : ∀ g ∈ n.gs, g.ss = srtB (n.all.filter (fun s => hf s == g.h)) ∧ g.ss ≠ []
def addS (all : List (List UInt8)) (s : List UInt8) : List (List UInt8) := if s ∈ all then all else all ++ [s]
theorem nt0 (hf : List UInt8 → List UInt8) (a s : Nat) : NtOk hf ⟨a, s, [], []⟩ := ⟨by simp, by simp, by simp, by simp, by simp⟩
theorem insB_len (x : List UInt8) : ∀ l, (insB x l).length = l.length + 1 := fun l => (insB_perm x l).length_eq
theorem srtB_perm_eq {l l' : List (List UInt8)} (h : l.Perm l') : srtB l = srtB l' := by rw [← srtB_eq, ← srtB_eq]; exact mergeSort_of_perm h
theorem srtB_app (l : List (List UInt8)) (s : List UInt8) : srtB (srtB l ++ [s]) = srtB (l ++ [s]) := srtB_perm_eq ((srtB_perm l).append_right _)
theorem nt_new {hf : List UInt8 → List UInt8} {n : Nt} {s : List UInt8} {b : Nat} (h : NtOk hf n) (hs : s ∉ n.all) (hg : hf s ∉ n.gs.map (·.h)) (hl : (hf s).length = 32) : NtOk hf ⟨n.a, n.s, n.all ++ [s], n.gs ++ [⟨hf s, b, [s]⟩]⟩ := by
  have hne : ∀ x ∈ n.all, hf x ≠ hf s := fun x hx e => hg (e ▸ h.gm x hx)
  refine ⟨?_, ?_, ?_, ?_, ?_⟩
  · rw [List.nodup_append]
    exact ⟨h.nd, by simp, fun a ha b hb e => by simp at hb; subst hb; exact hs (e ▸ ha)⟩
  · rw [List.map_append, List.nodup_append]
    exact ⟨h.gd, by simp, fun a ha b hb e => by simp at hb; subst hb; exact hg (e ▸ ha)⟩
  · intro g hg'
    rcases List.mem_append.1 hg' with q | q
    · exact h.gl g q
    · simp at q; subst q; exact hl
  · intro x hx
    rw [List.map_append]
    rcases List.mem_append.1 hx with q | q
    · exact List.mem_append_left _ (h.gm x q)
    · simp at q; subst q; simp
  · intro g hg'
    rcases List.mem_append.1 hg' with q | q
    · have e : (hf s == g.h) = false := by
        rw [beq_eq_false_iff_ne]
        intro e
        exact hg (e ▸ List.mem_map_of_mem (f := (·.h)) q)
      simp only [List.filter_append, List.filter_cons, e, List.filter_nil]
      simpa using h.gn g q
    · simp only [List.mem_singleton] at q
      subst q
      have e : n.all.filter (fun x => hf x == hf s) = [] := List.filter_eq_nil_iff.2 fun x hx => by simpa using hne x hx
      simp [List.filter_append, e, srtB, insB]
theorem nt_old {hf : List UInt8 → List UInt8} {n : Nt} {s : List UInt8} {b : Nat} {g1 g2 : List Grp} {g : Grp} (h : NtOk hf n) (hs : s ∉ n.all) (hg : n.gs = g1 ++ g :: g2) (he : g.h = hf s) : NtOk hf ⟨n.a, n.s, n.all ++ [s], g1 ++ ⟨hf s, b, srtB (g.ss ++ [s])⟩ :: g2⟩ := by
  have hmap : (g1 ++ (⟨hf s, b, srtB (g.ss ++ [s])⟩ : Grp) :: g2).map (·.h) = n.gs.map (·.h) := by rw [hg]; simp [he]
  have hgm : g ∈ n.gs := by rw [hg]; simp
  refine ⟨?_, by rw [hmap]; exact h.gd, ?_, ?_, ?_⟩
  · rw [List.nodup_append]
    exact ⟨h.nd, by simp, fun a ha b hb e => by simp at hb; subst hb; exact hs (e ▸ ha)⟩
  · intro x hx
    rcases List.mem_append.1 hx with q | q
    · exact h.gl x (by rw [hg]; exact List.mem_append_left _ q)
    · rcases List.mem_cons.1 q with rfl | q
      · show (hf s).length = 32
        rw [← he]; exact h.gl g hgm
      · exact h.gl x (by rw [hg]; simp [q])
  · intro x hx
    show hf x ∈ (g1 ++ (⟨hf s, b, srtB (g.ss ++ [s])⟩ : Grp) :: g2).map (·.h)
    rw [hmap]
    rcases List.mem_append.1 hx with q | q
    · exact h.gm x q
    · simp at q; subst q
      rw [← he]
      exact List.mem_map_of_mem hgm
  · have hnd := h.gd
    rw [hg, List.map_append, List.map_cons, List.nodup_append] at hnd
    obtain ⟨d1, d2, d3⟩ := hnd
    rw [List.nodup_cons] at d2
    have other : ∀ x ∈ n.gs, x.h ≠ hf s → x.ss = srtB ((n.all ++ [s]).filter (fun y => hf y == x.h)) ∧ x.ss ≠ [] := fun x hx hne => by
      have e : (hf s == x.h) = false := by rw [beq_eq_false_iff_ne]; exact fun e => hne e.symm
      simp only [List.filter_append, List.filter_cons, e, List.filter_nil]
      simpa using h.gn x hx
    intro x hx
    rcases List.mem_append.1 hx with q | q
    · refine other x (by rw [hg]; exact List.mem_append_left _ q) fun e => ?_
      exact d3 x.h (List.mem_map_of_mem q) g.h (by simp) (e.trans he.symm)
    · rcases List.mem_cons.1 q with rfl | q
      · obtain ⟨h1, h2⟩ := h.gn g hgm
        refine ⟨?_, ?_⟩
        · show srtB (g.ss ++ [s]) = srtB ((n.all ++ [s]).filter (fun y => hf y == hf s))
          rw [List.filter_append, h1, srtB_app, he]
          simp
        · show srtB (g.ss ++ [s]) ≠ []
          intro e
          have := (srtB_perm (g.ss ++ [s])).length_eq
          rw [e] at this
          simp at this
      · refine other x (by rw [hg]; simp [q]) fun e => ?_
        exact d2.1 (by rw [he, ← e]; exact List.mem_map_of_mem q)
end Go.Proofs.YtlpcelcaahfafaaDoor
/- Ds9: a string noted. By this project. -/
set_option maxRecDepth 100000
namespace Go.Proofs.YtlpcelcaahfafaaDoor
open Go.RowKit Go.Extern.Stop

set_option maxHeartbeats 8000000 in
theorem note_d {hf : List UInt8 → List UInt8} {n : Nt} {b o : Nat} {s : List UInt8} {hp : Hp} (h0 : SV ⟨hp, hnds (ntL n)⟩ hp (ntL n)) (hok : NtOk hf n) (hR : RB ⟨hp, hnds (ntL n)⟩ (some (b, o)) [.m (some n.s), .m (some n.a)]) (hh : (hf s).length = 32) (hl : n.all.length < 100000000) :
    Fn kxD 24 [.p (some (b, o)), .s s, .agg ((hf s).map byV)] hp (hnds (ntL n)) fun r N => ∃ u, r = .v u ∧ (u = .tup [] ∧ ∃ n', NtOk hf n' ∧ n'.a = n.a ∧ n'.s = n.s ∧ n'.all = addS n.all s ∧ N = ntL n') := by
  have hhl : ((hf s).map byV).length = 32 := by rw [List.length_map, hh]
  have hvl : (n.all.map fun _ => V.b true).length = n.all.length := by simp
  have hgv : (n.gs.map grpV).length = (n.gs.map (·.h)).length := by simp
  have hgk : ∀ x ∈ n.gs.map (·.h), x.length = 32 := fun x hx => by
    obtain ⟨g, hg, rfl⟩ := List.mem_map.1 hx
    exact hok.gl g hg
  refine fn_of_w h0 (fun _ => rfl) (fn := Tryd.f24) (by kernel_rfl) rfl rfl ?_
  refine wo ?_
  first | (apply p_op; exact (vwant_n rfl); iterate 4 exact rfl) | (apply d_op; exact (vwant_n rfl); exact rfl; exact noRd rfl; decide +kernel; (iterate 3 exact rfl); rotate_left) | (apply p_op; exact (vwant_g rfl rfl rfl); iterate 4 exact rfl) | (apply d_op; exact (vwant_g rfl rfl rfl); exact rfl; exact noRd rfl; decide +kernel; (iterate 3 exact rfl); rotate_left)
  refine ev_box rfl rfl fun bh => ⟨_, rfl, ?_⟩
  try (case hok => first | exact rdOk_nil | exact rdOk_b (by decide +kernel))
  refine wo ?_
  first | (apply wm; iterate 5 exact rfl) | (apply dm; iterate 6 exact rfl) | (apply wmg; iterate 7 exact rfl) | (apply dmg; iterate 8 exact rfl)
  refine m_ldN rfl hR.1 hR.2 (j := 1) rfl rfl
  refine wo ?_
  by_cases hs : s ∈ n.all
  · obtain ⟨j, hj⟩ := List.getElem?_of_mem hs
    first | refine zX (mv_lookup (v := .b true) rfl rfl fun hp hg => lk_some (C := kxD.C) (f := V.s) (ok := fun _ => True) hg (fun _ _ => trivial) hok.nd hvl hj (by rw [List.getElem?_map, hj]; rfl)) ?_ | refine yX (mv_lookup (v := .b true) rfl rfl fun hp hg => lk_some (C := kxD.C) (f := V.s) (ok := fun _ => True) hg (fun _ _ => trivial) hok.nd hvl hj (by rw [List.getElem?_map, hj]; rfl)) ?_
    refine wo ?_
    refine w_heap (L' := ntL n) (fun hp h => h.tail (N := [_])) ?_
    exact w_ret (wend_ret vres0 ⟨_, rfl, rfl, n, hok, rfl, rfl, (if_pos hs).symm, rfl⟩)
  · first | refine zX (mv_lookup (v := .b false) rfl rfl fun hp hg => lk_none (C := kxD.C) (f := V.s) (ok := fun _ => True) hg (fun _ _ => trivial) trivial hs hvl) ?_ | refine yX (mv_lookup (v := .b false) rfl rfl fun hp hg => lk_none (C := kxD.C) (f := V.s) (ok := fun _ => True) hg (fun _ _ => trivial) trivial hs hvl) ?_
    refine wo ?_
    first | (apply wm; iterate 5 exact rfl) | (apply dm; iterate 6 exact rfl) | (apply wmg; iterate 7 exact rfl) | (apply dmg; iterate 8 exact rfl)
    refine m_ldN rfl hR.1 hR.2 (j := 1) rfl rfl
    refine wo ?_
    first | (apply p_do; exact (vwant_n rfl); exact rfl; exact rfl) | (apply d_do; exact (vwant_n rfl); exact rfl; exact noRd rfl; decide +kernel; exact rfl; rotate_left) | (apply p_do; exact (vwant_g rfl rfl rfl); exact rfl; exact rfl) | (apply d_do; exact (vwant_g rfl rfl rfl); exact rfl; exact noRd rfl; decide +kernel; exact rfl; rotate_left)
    refine ev_mapup rfl rfl rfl (fun hp hg => up_none (C := kxD.C) (f := V.s) (ok := fun _ => True) hg (fun _ _ => trivial) trivial hs hvl) ⟨_, rfl, ?_⟩
    try (case hok => first | exact rdOk_nil | exact rdOk_b (by decide +kernel))
    refine wo ?_
    by_cases hg : hf s ∈ n.gs.map (·.h)
    · obtain ⟨g, hgm, hge⟩ := List.mem_map.1 hg
      obtain ⟨g1, g2, hgs⟩ := List.append_of_mem hgm
      have hgj : n.gs[g1.length]? = some g := by rw [hgs, List.getElem?_append_right (Nat.le_refl _)]; simp
      have hkj : (n.gs.map (·.h))[g1.length]? = some (hf s) := by rw [List.getElem?_map, hgj, Option.map_some, hge]
      have hvj : (n.gs.map grpV)[g1.length]? = some (grpV g) := by rw [List.getElem?_map, hgj, Option.map_some]
      have hgl : g.ss.length ≤ n.all.length := by
        rw [(hok.gn g hgm).1, (srtB_perm _).length_eq]
        exact List.length_filter_le _ _
      refine wd_heap (L' := grpO g :: (some bh, cellsO ((hf s).map byV) 31) :: (some n.a, .map (entE V.s (n.all ++ [s]) ((n.all.map fun _ => V.b true) ++ [V.b true])) (n.all.length + 1)) :: (some n.s, ntS n) :: (g1 ++ g2).map grpO) (fun hp h => ?_) ?_
      · rw [hgs, List.map_append, List.map_cons] at h
        rw [List.map_append]
        exact SV.frontL (L := [_, _, _] ++ g1.map grpO) h
      first | (apply wm; iterate 5 exact rfl) | (apply dm; iterate 6 exact rfl) | (apply wmg; iterate 7 exact rfl) | (apply dmg; iterate 8 exact rfl)
      refine m_ldN rfl hR.1 hR.2 (j := 0) rfl rfl
      first | refine zX (m_ldln (s := 31) (cs := (hf s).map byV) rfl (by rw [List.drop_zero]; exact List.take_of_length_le (by omega)) hhl) ?_ | refine yX (m_ldln (s := 31) (cs := (hf s).map byV) rfl (by rw [List.drop_zero]; exact List.take_of_length_le (by omega)) hhl) ?_
      refine wo ?_
      first | (apply p_op; exact (vwant_n rfl); iterate 4 exact rfl) | (apply d_op; exact (vwant_n rfl); exact rfl; exact noRd rfl; decide +kernel; (iterate 3 exact rfl); rotate_left) | (apply p_op; exact (vwant_g rfl rfl rfl); iterate 4 exact rfl) | (apply d_op; exact (vwant_g rfl rfl rfl); exact rfl; exact noRd rfl; decide +kernel; (iterate 3 exact rfl); rotate_left)
      refine e_bs (C := [.s s]) rfl rfl (.cons rfl rfl .nil) rfl fun bn => ⟨_, rfl, ?_⟩
      try (case hok => first | exact rdOk_nil | exact rdOk_b (by decide +kernel))
      first | (apply p_op; exact (vwant_n rfl); iterate 4 exact rfl) | (apply d_op; exact (vwant_n rfl); exact rfl; exact noRd rfl; decide +kernel; (iterate 3 exact rfl); rotate_left) | (apply p_op; exact (vwant_g rfl rfl rfl); iterate 4 exact rfl) | (apply d_op; exact (vwant_g rfl rfl rfl); exact rfl; exact noRd rfl; decide +kernel; (iterate 3 exact rfl); rotate_left)
      refine ev_mapentry rfl (kv := hK (hf s)) rfl (fun hp hg' => ent_some (C := kxD.C) (f := hK) (ok := fun xs => xs.length = 32) hg' hgk hok.gd hgv hkj hvj) ⟨_, rfl, ?_⟩
      try (case hok => first | exact rdOk_nil | exact rdOk_b (by decide +kernel))
      refine wo ?_
      first | (apply p_op; exact (vwant_n rfl); iterate 4 exact rfl) | (apply d_op; exact (vwant_n rfl); exact rfl; exact noRd rfl; decide +kernel; (iterate 3 exact rfl); rotate_left) | (apply p_op; exact (vwant_g rfl rfl rfl); iterate 4 exact rfl) | (apply d_op; exact (vwant_g rfl rfl rfl); exact rfl; exact noRd rfl; decide +kernel; (iterate 3 exact rfl); rotate_left)
      refine e_appO (old := g.ss.map V.s) (new := [.s s]) rfl rfl (by simp) (rz_loc (k := 1) rfl) rfl (by decide) (by omega) fun bg => ⟨_, rfl, ?_⟩
      try (case hok => first | exact rdOk_nil | exact rdOk_b (by decide +kernel))
      dsimp only [List.set]
      refine wo ?_
      first | (apply p_do; exact (vwant_n rfl); exact rfl; exact rfl) | (apply d_do; exact (vwant_n rfl); exact rfl; exact noRd rfl; decide +kernel; exact rfl; rotate_left) | (apply p_do; exact (vwant_g rfl rfl rfl); exact rfl; exact rfl) | (apply d_do; exact (vwant_g rfl rfl rfl); exact rfl; exact noRd rfl; decide +kernel; exact rfl; rotate_left)
      refine ev_entryst rfl rfl rfl (put_born (by simp) (v := grpV g) hvj) ⟨_, rfl, ?_⟩
      try (case hok => first | exact rdOk_nil | exact rdOk_b (by decide +kernel))
      refine wo ?_
      first | (apply wm; iterate 5 exact rfl) | (apply dm; iterate 6 exact rfl) | (apply wmg; iterate 7 exact rfl) | (apply dmg; iterate 8 exact rfl)
      refine m_ldN rfl hR.1 hR.2 (j := 0) rfl rfl
      first | refine zX (m_ldln (s := 31) (cs := (hf s).map byV) rfl (by rw [List.drop_zero]; exact List.take_of_length_le (by omega)) hhl) ?_ | refine yX (m_ldln (s := 31) (cs := (hf s).map byV) rfl (by rw [List.drop_zero]; exact List.take_of_length_le (by omega)) hhl) ?_
      first | refine zX (mv_lookup (kv := hK (hf s)) (v := .sl (some (bg, 0)) (g.ss.length + 1) (g.ss.length + 1) true) rfl rfl fun hp hg' => lk_some (C := kxD.C) (f := hK) (ok := fun xs => xs.length = 32) (j := g1.length) hg' hgk hok.gd (by simp) hkj (by rw [List.getElem?_set_self (by rw [hgs]; simp)])) ?_ | refine yX (mv_lookup (kv := hK (hf s)) (v := .sl (some (bg, 0)) (g.ss.length + 1) (g.ss.length + 1) true) rfl rfl fun hp hg' => lk_some (C := kxD.C) (f := hK) (ok := fun xs => xs.length = 32) (j := g1.length) hg' hgk hok.gd (by simp) hkj (by rw [List.getElem?_set_self (by rw [hgs]; simp)])) ?_
      first | (apply p_callY [1]; exact (vwant_n rfl); iterate 4 exact rfl) | (apply d_callY [1]; exact (vwant_n rfl); decide +kernel; (iterate 4 exact rfl)) | (apply p_callY [1]; exact (vwant_g rfl rfl rfl); iterate 4 exact rfl) | (apply d_callY [1]; exact (vwant_g rfl rfl rfl); decide +kernel; (iterate 4 exact rfl))
      try (case hok => first | exact rdOk_nil | exact rdOk_b (by decide +kernel) | exact rdOk_c)
      case hC => exact (fun hp hs' ht => sort_n (g.ss ++ [s]) (by simp) (by simp) ht (by omega))
      rintro u N rfl
      have hsl : (srtB (g.ss ++ [s])).length = g.ss.length + 1 := by rw [(srtB_perm _).length_eq]; simp
      refine wd_heap (L' := ntL ⟨n.a, n.s, n.all ++ [s], g1 ++ ⟨hf s, bg, srtB (g.ss ++ [s])⟩ :: g2⟩) (fun hp h => ?_) ?_
      · have e : ntL ⟨n.a, n.s, n.all ++ [s], g1 ++ ⟨hf s, bg, srtB (g.ss ++ [s])⟩ :: g2⟩ = (some n.a, .map (entE V.s (n.all ++ [s]) ((n.all.map fun _ => V.b true) ++ [V.b true])) (n.all.length + 1)) :: (some n.s, .map (entE hK (n.gs.map (·.h)) ((n.gs.map grpV).set g1.length (.sl (some (bg, 0)) (g.ss.length + 1) (g.ss.length + 1) true))) (n.gs.map (·.h)).length) :: (g1.map grpO ++ grpO ⟨hf s, bg, srtB (g.ss ++ [s])⟩ :: g2.map grpO) := by
          have e1 : (n.gs.map grpV).set g1.length (.sl (some (bg, 0)) (g.ss.length + 1) (g.ss.length + 1) true) = (g1 ++ (⟨hf s, bg, srtB (g.ss ++ [s])⟩ : Grp) :: g2).map grpV := by
            rw [hgs, List.map_append, List.set_append_right _ _ (by simp)]
            simp [hsl]
          have e2 : (g1 ++ (⟨hf s, bg, srtB (g.ss ++ [s])⟩ : Grp) :: g2).map (·.h) = n.gs.map (·.h) := by rw [hgs]; simp [hge]
          rw [e1, ← e2]
          simp
        rw [e]
        rw [List.map_append] at h
        exact SV.tail (N := [_, _]) (SV.midL (L := [_, _, _, _] ++ g1.map grpO) h)
      · refine wo ?_
        exact wend_norm vres0 ⟨_, rfl, rfl, _, nt_old hok hs hgs hge, rfl, rfl, (if_neg hs).symm, rfl⟩
    · first | (apply wm; iterate 5 exact rfl) | (apply dm; iterate 6 exact rfl) | (apply wmg; iterate 7 exact rfl) | (apply dmg; iterate 8 exact rfl)
      refine m_ldN rfl hR.1 hR.2 (j := 0) rfl rfl
      first | refine zX (m_ldln (s := 31) (cs := (hf s).map byV) rfl (by rw [List.drop_zero]; exact List.take_of_length_le (by omega)) hhl) ?_ | refine yX (m_ldln (s := 31) (cs := (hf s).map byV) rfl (by rw [List.drop_zero]; exact List.take_of_length_le (by omega)) hhl) ?_
      refine wo ?_
      first | (apply p_op; exact (vwant_n rfl); iterate 4 exact rfl) | (apply d_op; exact (vwant_n rfl); exact rfl; exact noRd rfl; decide +kernel; (iterate 3 exact rfl); rotate_left) | (apply p_op; exact (vwant_g rfl rfl rfl); iterate 4 exact rfl) | (apply d_op; exact (vwant_g rfl rfl rfl); exact rfl; exact noRd rfl; decide +kernel; (iterate 3 exact rfl); rotate_left)
      refine e_bs (C := [.s s]) rfl rfl (.cons rfl rfl .nil) rfl fun bn => ⟨_, rfl, ?_⟩
      try (case hok => first | exact rdOk_nil | exact rdOk_b (by decide +kernel))
      first | (apply p_op; exact (vwant_n rfl); iterate 4 exact rfl) | (apply d_op; exact (vwant_n rfl); exact rfl; exact noRd rfl; decide +kernel; (iterate 3 exact rfl); rotate_left) | (apply p_op; exact (vwant_g rfl rfl rfl); iterate 4 exact rfl) | (apply d_op; exact (vwant_g rfl rfl rfl); exact rfl; exact noRd rfl; decide +kernel; (iterate 3 exact rfl); rotate_left)
      refine ev_mapentry rfl (kv := hK (hf s)) rfl (fun hp hg' => ent_none (C := kxD.C) (f := hK) (ok := fun xs => xs.length = 32) hg' hgk hh hg hgv) ⟨_, rfl, ?_⟩
      try (case hok => first | exact rdOk_nil | exact rdOk_b (by decide +kernel))
      refine wo ?_
      first | (apply p_op; exact (vwant_n rfl); iterate 4 exact rfl) | (apply d_op; exact (vwant_n rfl); exact rfl; exact noRd rfl; decide +kernel; (iterate 3 exact rfl); rotate_left) | (apply p_op; exact (vwant_g rfl rfl rfl); iterate 4 exact rfl) | (apply d_op; exact (vwant_g rfl rfl rfl); exact rfl; exact noRd rfl; decide +kernel; (iterate 3 exact rfl); rotate_left)
      refine e_app0 (new := [.s s]) rfl rfl (rz_loc (k := 1) rfl) rfl (by decide) (by decide) fun bg => ⟨_, rfl, ?_⟩
      try (case hok => first | exact rdOk_nil | exact rdOk_b (by decide +kernel))
      refine wo ?_
      first | (apply p_do; exact (vwant_n rfl); exact rfl; exact rfl) | (apply d_do; exact (vwant_n rfl); exact rfl; exact noRd rfl; decide +kernel; exact rfl; rotate_left) | (apply p_do; exact (vwant_g rfl rfl rfl); exact rfl; exact rfl) | (apply d_do; exact (vwant_g rfl rfl rfl); exact rfl; exact noRd rfl; decide +kernel; exact rfl; rotate_left)
      refine ev_entryst rfl rfl rfl (put_born (by simp) (v := .sl none 0 0 false) (by simp)) ⟨_, rfl, ?_⟩
      try (case hok => first | exact rdOk_nil | exact rdOk_b (by decide +kernel))
      refine wo ?_
      first | (apply wm; iterate 5 exact rfl) | (apply dm; iterate 6 exact rfl) | (apply wmg; iterate 7 exact rfl) | (apply dmg; iterate 8 exact rfl)
      refine m_ldN rfl hR.1 hR.2 (j := 0) rfl rfl
      first | refine zX (m_ldln (s := 31) (cs := (hf s).map byV) rfl (by rw [List.drop_zero]; exact List.take_of_length_le (by omega)) hhl) ?_ | refine yX (m_ldln (s := 31) (cs := (hf s).map byV) rfl (by rw [List.drop_zero]; exact List.take_of_length_le (by omega)) hhl) ?_
      have hset : ((n.gs.map grpV) ++ [V.sl none 0 0 false]).set (n.gs.map (·.h)).length (.sl (some (bg, 0)) 1 1 true) = n.gs.map grpV ++ [.sl (some (bg, 0)) 1 1 true] := by
        rw [List.set_append_right _ _ (by simp)]
        simp
      rw [hset]
      have hk2 : ∀ x ∈ n.gs.map (·.h) ++ [hf s], x.length = 32 := fun x hx => by
        rcases List.mem_append.1 hx with q | q
        · exact hgk x q
        · rw [List.mem_singleton.1 q]; exact hh
      have hd2 : (n.gs.map (·.h) ++ [hf s]).Nodup := by
        rw [List.nodup_append]
        exact ⟨hok.gd, by simp, fun a ha b hb e => by simp at hb; subst hb; exact hg (e ▸ ha)⟩
      have hl2 : (n.gs.map grpV ++ [V.sl (some (bg, 0)) 1 1 true]).length = (n.gs.map (·.h) ++ [hf s]).length := by simp
      have hj2 : (n.gs.map (·.h) ++ [hf s])[(n.gs.map (·.h)).length]? = some (hf s) := by simp
      have hv2 : (n.gs.map grpV ++ [V.sl (some (bg, 0)) 1 1 true])[(n.gs.map (·.h)).length]? = some (.sl (some (bg, 0)) 1 1 true) := by rw [List.getElem?_append_right (by simp)]; simp
      first | refine zX (mv_lookup (kv := hK (hf s)) (v := .sl (some (bg, 0)) 1 1 true) rfl rfl fun hp hg' => lk_some (C := kxD.C) (f := hK) (ok := fun xs => xs.length = 32) hg' hk2 hd2 hl2 hj2 hv2) ?_ | refine yX (mv_lookup (kv := hK (hf s)) (v := .sl (some (bg, 0)) 1 1 true) rfl rfl fun hp hg' => lk_some (C := kxD.C) (f := hK) (ok := fun xs => xs.length = 32) hg' hk2 hd2 hl2 hj2 hv2) ?_
      first | (apply p_callY [0]; exact (vwant_n rfl); iterate 4 exact rfl) | (apply d_callY [0]; exact (vwant_n rfl); decide +kernel; (iterate 4 exact rfl)) | (apply p_callY [0]; exact (vwant_g rfl rfl rfl); iterate 4 exact rfl) | (apply d_callY [0]; exact (vwant_g rfl rfl rfl); decide +kernel; (iterate 4 exact rfl))
      try (case hok => first | exact rdOk_nil | exact rdOk_b (by decide +kernel) | exact rdOk_c)
      case hC => exact (fun hp hs' ht => sort_n [s] rfl rfl ht (by decide))
      rintro u N rfl
      refine wd_heap (L' := ntL ⟨n.a, n.s, n.all ++ [s], n.gs ++ [⟨hf s, bg, [s]⟩]⟩) (fun hp h => ?_) ?_
      · have e : ntL ⟨n.a, n.s, n.all ++ [s], n.gs ++ [⟨hf s, bg, [s]⟩]⟩ = (some n.a, .map (entE V.s (n.all ++ [s]) ((n.all.map fun _ => V.b true) ++ [V.b true])) (n.all.length + 1)) :: (some n.s, .map (entE hK (n.gs.map (·.h) ++ [hf s]) (n.gs.map grpV ++ [.sl (some (bg, 0)) 1 1 true])) ((n.gs.map (·.h)).length + 1)) :: (n.gs.map grpO ++ [grpO ⟨hf s, bg, [s]⟩]) := by
          simp
          rfl
        rw [e]
        exact SV.tail (N := [_, _]) (SV.lastL h)
      · refine wo ?_
        exact wend_norm vres0 ⟨_, rfl, rfl, _, nt_new hok hs hg hh, rfl, rfl, (if_neg hs).symm, rfl⟩
end Go.Proofs.YtlpcelcaahfafaaDoor
/- Ds10: a book on the machine: locked, unlocked; Hash. By this project. -/
set_option maxRecDepth 100000
namespace Go.Proofs.YtlpcelcaahfafaaDoor
open Go.RowKit Go.Extern.Stop

theorem Fn.drop {K : Kx} {f : Nat} {args : List V} {hp : Hp} {T : List Nat} {R : VR → HV → Prop} (h : Fn K f args hp T fun r N => ∃ G N', N = G ++ N' ∧ R r N') : Fn K f args hp T R := by
  unfold Fn at *
  obtain ⟨r, hp', h1, N, h2, h3, G, N', rfl, h4⟩ := h
  exact ⟨r, hp', h1, N', h2.tail, h3, h4⟩
theorem SV.swapL {B : Bs} {hp : Hp} {P M R : HV} (h : SV B hp (P ++ (M ++ R))) : SV B hp (M ++ (P ++ R)) := h.perm (List.perm_append_comm_assoc _ _ _)
/-! ### The lock -/
theorem muTurn_sv {B : Bs} {hp : Hp} {L : HV} {i b o p q : Nat} {C : List V} {T : TypeId} (hs : SV B hp L) (h : L[i]? = some (some b, .cells C T none false)) (hc : C[o]? = some (.i .i32 (p : Int))) : muTurn hp b o p q = some (hp.put b (some (.cells (C.set o (.i .i32 (q : Int))) T none false))) := by
  have hb := hs.has i b _ h
  have e1 : cellsAt hp b = some C := by simp only [cellsAt, Hp.get, hb.1]
  have e2 : getL C o = some (.i .i32 (p : Int)) := by rw [getL_eq]; exact hc
  have e3 : hp.getW b = some (.cells C T none false) := getW_own hs h
  have ho : o < C.length := (List.getElem?_eq_some_iff.1 hc).1
  have e4 : intEq ((p : Nat) : Int) (.ofNat p) = true := by rw [intEq_iff]; simp
  have e5 : geL C (o + lenF [V.i .i32 (.ofNat q)]) = true := geL_iff.2 (by rw [lenF_eq]; exact ho)
  have e6 : putAt o C [V.i .i32 (.ofNat q)] = C.set o (.i .i32 (q : Int)) := by
    rw [putAt_eq o C [V.i .i32 (.ofNat q)] ho, List.set_eq_take_append_cons_drop, if_pos ho]
    simp
  simp only [muTurn, e1, e2, e4, storeV, e3, e5, e6]
theorem lock_d {b o : Nat} {C : List V} {T : TypeId} {hp : Hp} (h0 : SV ⟨hp, [b]⟩ hp [(some b, .cells C T none false)]) (hc : C[o]? = some (.i .i32 0)) :
    Fn kxD 22 [.p (some (b, o))] hp [b] fun r N => ∃ u, r = .v u ∧ N = [(some b, .cells (C.set o (.i .i32 1)) T none false)] := by
  unfold Fn
  have hput := put_sv (o' := .cells (C.set o (.i .i32 1)) T none false) (i := 0) h0 rfl
  refine ⟨.v (.tup []), _, ⟨1, fun n hn => ?_⟩, [(some b, .cells (C.set o (.i .i32 1)) T none false)], hput.1, hput.2, _, rfl, rfl⟩
  obtain ⟨n, rfl⟩ : ∃ k, n = k + 1 := ⟨n - 1, by omega⟩
  have e1 := muTurn_sv (q := 1) (p := 0) h0 (i := 0) rfl hc
  have q : muExt 22 22 [.p (some (b, o))] hp = some (.v (.tup []), hp.put b (some (.cells (C.set o (.i .i32 1)) T none false))) := by
    show (muTurn hp b o 0 1).bind _ = _
    rw [e1]
    rfl
  simp only [vcall, orExt, q]
theorem unlock_df {b o i : Nat} {C : List V} {T : TypeId} {u : FM} {B : Bs} {L L' : HV} (hL : L[i]? = some (some b, .cells C T none false)) (hc : C[o]? = some (.i .i32 1)) (hS : L.set i (some b, .cells (C.set o (.i .i32 0)) T none false) = L') :
    DFn kxD 23 [.p (some (b, o))] u B L fun r u' L2 => r = .v (.tup []) ∧ u' = u ∧ L2 = L' := fun hp hs => by
  have hput := put_sv (o' := .cells (C.set o (.i .i32 0)) T none false) (i := i) hs hL
  refine ⟨.v (.tup []), u, _, L', ⟨0, fun n hn => ?_⟩, by rw [← hS]; exact hput.1, hput.2, rfl, rfl, rfl⟩
  have e1 := muTurn_sv (q := 0) (p := 1) hs hL hc
  have q : muExtd 23 23 [.p (some (b, o))] u hp = some (.v (.tup []), u, hp.put b (some (.cells (C.set o (.i .i32 0)) T none false))) := by
    show (muTurn hp b o 1 0).bind _ = _
    rw [e1]
    rfl
  simp only [vdcall, q]
/-- The end of a function that unlocks. -/
theorem wend_unl {b o i : Nat} {C : List V} {T : TypeId} {B : Bs} {l : VL} {L L' : HV} {rs : List ResultVar} {R : VR → HV → Prop} {v : V} (hL : L[i]? = some (some b, .cells C T none false)) (hc : C[o]? = some (.i .i32 1)) (hS : L.set i (some b, .cells (C.set o (.i .i32 0)) T none false) = L') (hv : ResV kxD.C B rs l L' v) (hR : R (.v v) L') :
    wend kxD B rs R .ret l [(23, [.p (some (b, o))])] L := ⟨.ret, rfl, fun hp hs => by
  obtain ⟨r, u', hp', L2, h1, h2, h3, rfl, rfl, rfl⟩ := unlock_df (u := .ret) hL hc hS hp hs
  exact ⟨_, _, hp', _, h1, h2, h3, v, hv, hR⟩⟩
theorem wend_unlN {b o i : Nat} {C : List V} {T : TypeId} {B : Bs} {l : VL} {L L' : HV} {rs : List ResultVar} {R : VR → HV → Prop} {v : V} (hL : L[i]? = some (some b, .cells C T none false)) (hc : C[o]? = some (.i .i32 1)) (hS : L.set i (some b, .cells (C.set o (.i .i32 0)) T none false) = L') (hv : ResV kxD.C B rs l L' v) (hR : R (.v v) L') :
    wend kxD B rs R .norm l [(23, [.p (some (b, o))])] L := ⟨.ret, rfl, fun hp hs => by
  obtain ⟨r, u', hp', L2, h1, h2, h3, rfl, rfl, rfl⟩ := unlock_df (u := .ret) hL hc hS hp hs
  exact ⟨_, _, hp', _, h1, h2, h3, v, hv, hR⟩⟩
/-! ### The book -/
structure Bk where
  b : Nat
  z : Nat
  bits : Nat
  cb : Nat
  sec : List UInt8
  hd : Nt
  cd : Nt
  fg : Nat
  fs : List (List UInt8 × List UInt8)
abbrev bkC (B : Bk) (mu : Nat) : List V := [.i .i64 (B.bits : Int), .i .i64 (B.cb : Int), .sl (some (B.z, 0)) B.sec.length B.sec.length true, .i .i32 (mu : Int), .i .u32 0, .m (some B.hd.s), .m (some B.hd.a), .m (some B.cd.s), .m (some B.cd.a), .m (some B.fg)]
abbrev fgO (B : Bk) : VO := .map (entE V.s (B.fs.map (·.1)) (B.fs.map fun p => hK p.2)) (B.fs.map (·.1)).length
abbrev bkL (B : Bk) : HV := (some B.b, cellsO (bkC B 0) 57) :: (some B.z, .cells (B.sec.map byV) 5 (some 1) false) :: (some B.fg, fgO B) :: (ntL B.hd ++ ntL B.cd)
def bkH (B : Bk) (x : List UInt8) : List UInt8 := cutB B.bits (sumB x)
def bkM (B : Bk) (x : List UInt8) : List UInt8 := cutB B.cb (macB B.sec x)
structure BkOk (B : Bk) : Prop where
  sec : B.sec.length = 32
  bits : B.bits ≤ 256
  cb : B.cb ≤ 256
  hd : NtOk (bkH B) B.hd
  cd : NtOk (bkM B) B.cd
  fd : (B.fs.map (·.1)).Nodup
  fl : ∀ p ∈ B.fs, p.2 = bkM B p.1
theorem bkH_len (B : Bk) (x : List UInt8) : (bkH B x).length = 32 := by rw [bkH, cutB_len, sumB_len]
theorem bkM_len (B : Bk) (x : List UInt8) : (bkM B x).length = 32 := by rw [bkM, cutB_len, macB_len]
theorem prOk_one {B : Bs} {A : Option (Nat × Nat)} {x : List UInt8} {c : Nat} {op : Bool} (h1 : RB B A (x.map byV)) (hx : CapOk x.length c op) : PrOk B [(A, x, c, op)] := fun p hp => by
  rcases List.mem_cons.1 hp with rfl | hp
  · exact ⟨h1, hx⟩
  · simp at hp
theorem prB_one (A : Option (Nat × Nat)) (x : List UInt8) (c : Nat) (op : Bool) : prB [(A, x, c, op)] = x := by simp [prB]
set_option maxHeartbeats 8000000 in
theorem hash_g {B : Bk} {A : Option (Nat × Nat)} {xs : List UInt8} {c : Nat} {op : Bool} {hp : Hp} (h0 : SV ⟨hp, hnds (bkL B)⟩ hp (bkL B)) (hB : BkOk B) (hk : Tab ⟨hp, hnds (bkL B)⟩) (hA : RB ⟨hp, hnds (bkL B)⟩ A (xs.map byV)) (hc : CapOk xs.length c op) (hx : xs.length < 72057594037927936) (hl : B.hd.all.length < 100000000) :
    Fn kxD 15 [.p (some (B.b, 0)), .sl A xs.length c op] hp (hnds (bkL B)) fun r N => ∃ u, r = .v u ∧ (u = hK (bkH B xs) ∧ ∃ hd', let B' : Bk := ⟨B.b, B.z, B.bits, B.cb, B.sec, hd', B.cd, B.fg, B.fs⟩; BkOk B' ∧ hd'.all = addS B.hd.all xs ∧ N = bkL B') := by
  refine Fn.drop ?_
  have hll : ((bkH B xs).map byV).length = 32 := by rw [List.length_map, bkH_len]
  have hne : (bkH B xs).map byV ≠ [] := fun e => by rw [e] at hll; simp at hll
  refine fn_of_w h0 (fun _ => rfl) (fn := Tryd.f15) (by kernel_rfl) rfl rfl ?_
  refine wo ?_
  first | (apply p_op; exact (vwant_n rfl); iterate 4 exact rfl) | (apply d_op; exact (vwant_n rfl); exact rfl; exact noRd rfl; decide +kernel; (iterate 3 exact rfl); rotate_left) | (apply p_op; exact (vwant_g rfl rfl rfl); iterate 4 exact rfl) | (apply d_op; exact (vwant_g rfl rfl rfl); exact rfl; exact noRd rfl; decide +kernel; (iterate 3 exact rfl); rotate_left)
  refine e_alloc rfl fun bo => ⟨_, rfl, ?_⟩
  try (case hok => first | exact rdOk_nil | exact rdOk_b (by decide +kernel))
  refine wo ?_
  first | (apply wm; iterate 5 exact rfl) | (apply dm; iterate 6 exact rfl) | (apply wmg; iterate 7 exact rfl) | (apply dmg; iterate 8 exact rfl)
  refine m_eqp rfl rfl
  refine wo ?_
  first | (apply p_op; exact (vwant_n rfl); iterate 4 exact rfl) | (apply d_op; exact (vwant_n rfl); exact rfl; exact noRd rfl; decide +kernel; (iterate 3 exact rfl); rotate_left) | (apply p_op; exact (vwant_g rfl rfl rfl); iterate 4 exact rfl) | (apply d_op; exact (vwant_g rfl rfl rfl); exact rfl; exact noRd rfl; decide +kernel; (iterate 3 exact rfl); rotate_left)
  refine e_bs (C := [.sl A xs.length c op]) rfl rfl (.cons rfl rfl .nil) rfl fun bp => ⟨_, rfl, ?_⟩
  try (case hok => first | exact rdOk_nil | exact rdOk_b (by decide +kernel))
  first | refine p_callq (vwant_n rfl) rfl rfl rfl rfl (fun hp hs => shasum_d (ps := [(A, xs, c, op)]) hs.ok (hk.give0 hs) (rb_own0 hs (i := 0) rfl (List.take_of_length_le (Nat.le_refl _))) (prOk_one (hA.give0 hs) hc) (by rw [prB_one]; omega) (Nat.le_of_ble_eq_true rfl)) ?_ | refine d_callq (vwant_n rfl) (by decide +kernel) rfl rfl rfl rfl (fun hp hs => shasum_d (ps := [(A, xs, c, op)]) hs.ok (hk.give0 hs) (rb_own0 hs (i := 0) rfl (List.take_of_length_le (Nat.le_refl _))) (prOk_one (hA.give0 hs) hc) (by rw [prB_one]; omega) (Nat.le_of_ble_eq_true rfl)) ?_ | refine d_callq0 (vwant_n rfl) (by decide +kernel) rfl rfl rfl rfl (fun hp hs => shasum_d (ps := [(A, xs, c, op)]) hs.ok (hk.give0 hs) (rb_own0 hs (i := 0) rfl (List.take_of_length_le (Nat.le_refl _))) (prOk_one (hA.give0 hs) hc) (by rw [prB_one]; omega) (Nat.le_of_ble_eq_true rfl)) ?_ | refine p_callq (vwant_g rfl rfl rfl) rfl rfl rfl rfl (fun hp hs => shasum_d (ps := [(A, xs, c, op)]) hs.ok (hk.give0 hs) (rb_own0 hs (i := 0) rfl (List.take_of_length_le (Nat.le_refl _))) (prOk_one (hA.give0 hs) hc) (by rw [prB_one]; omega) (Nat.le_of_ble_eq_true rfl)) ?_ | refine d_callq (vwant_g rfl rfl rfl) (by decide +kernel) rfl rfl rfl rfl (fun hp hs => shasum_d (ps := [(A, xs, c, op)]) hs.ok (hk.give0 hs) (rb_own0 hs (i := 0) rfl (List.take_of_length_le (Nat.le_refl _))) (prOk_one (hA.give0 hs) hc) (by rw [prB_one]; omega) (Nat.le_of_ble_eq_true rfl)) ?_ | refine d_callq0 (vwant_g rfl rfl rfl) (by decide +kernel) rfl rfl rfl rfl (fun hp hs => shasum_d (ps := [(A, xs, c, op)]) hs.ok (hk.give0 hs) (rb_own0 hs (i := 0) rfl (List.take_of_length_le (Nat.le_refl _))) (prOk_one (hA.give0 hs) hc) (by rw [prB_one]; omega) (Nat.le_of_ble_eq_true rfl)) ?_
  rw [prB_one]
  refine wo ?_
  first | refine p_callq (vwant_n rfl) rfl rfl rfl rfl (fun hp hs => cut_d (sumB_len xs) hB.bits hs.ok) ?_ | refine d_callq (vwant_n rfl) (by decide +kernel) rfl rfl rfl rfl (fun hp hs => cut_d (sumB_len xs) hB.bits hs.ok) ?_ | refine d_callq0 (vwant_n rfl) (by decide +kernel) rfl rfl rfl rfl (fun hp hs => cut_d (sumB_len xs) hB.bits hs.ok) ?_ | refine p_callq (vwant_g rfl rfl rfl) rfl rfl rfl rfl (fun hp hs => cut_d (sumB_len xs) hB.bits hs.ok) ?_ | refine d_callq (vwant_g rfl rfl rfl) (by decide +kernel) rfl rfl rfl rfl (fun hp hs => cut_d (sumB_len xs) hB.bits hs.ok) ?_ | refine d_callq0 (vwant_g rfl rfl rfl) (by decide +kernel) rfl rfl rfl rfl (fun hp hs => cut_d (sumB_len xs) hB.bits hs.ok) ?_
  first | (apply d_op0; exact (vwant_n rfl); exact rfl; exact noRd rfl; decide +kernel; (iterate 3 exact rfl)) | (apply d_op0; exact (vwant_g rfl rfl rfl); exact rfl; exact noRd rfl; decide +kernel; (iterate 3 exact rfl))
  refine en_alloc rfl fun bh => ?_
  first | (apply p_do; exact (vwant_n rfl); exact rfl; exact rfl) | (apply d_do; exact (vwant_n rfl); exact rfl; exact noRd rfl; decide +kernel; exact rfl; rotate_left) | (apply p_do; exact (vwant_g rfl rfl rfl); exact rfl; exact rfl) | (apply d_do; exact (vwant_g rfl rfl rfl); exact rfl; exact noRd rfl; decide +kernel; exact rfl; rotate_left)
  refine e_stn (C' := (bkH B xs).map byV) rfl rfl hne hll (by simp) (overV_all (by show ((bkH B xs).map byV).length = _; rw [hll]; simp)) ⟨_, rfl, ?_⟩
  try (case hok => first | exact rdOk_nil | exact rdOk_b (by decide +kernel))
  refine wo ?_
  first | (apply p_callY [3]; exact (vwant_n rfl); iterate 4 exact rfl) | (apply d_callY [3]; exact (vwant_n rfl); decide +kernel; (iterate 4 exact rfl)) | (apply p_callY [3]; exact (vwant_g rfl rfl rfl); iterate 4 exact rfl) | (apply d_callY [3]; exact (vwant_g rfl rfl rfl); decide +kernel; (iterate 4 exact rfl))
  try (case hok => first | exact rdOk_nil | exact rdOk_b (by decide +kernel) | exact rdOk_c)
  case hC => exact (fun hp hs ht => lock_d ht rfl)
  rintro u N rfl
  dsimp only [List.set]
  refine wo ?_
  refine wl_defer (vwant_n rfl) rfl rfl rfl rfl rfl ?_
  refine wo ?_
  first | (apply wm; iterate 5 exact rfl) | (apply dm; iterate 6 exact rfl) | (apply wmg; iterate 7 exact rfl) | (apply dmg; iterate 8 exact rfl)
  refine m_b2so rfl hA.1 hA.2
  first | refine zX (m_ldln (s := 31) (cs := (bkH B xs).map byV) rfl (by rw [List.drop_zero]; exact List.take_of_length_le (by omega)) hll) ?_ | refine yX (m_ldln (s := 31) (cs := (bkH B xs).map byV) rfl (by rw [List.drop_zero]; exact List.take_of_length_le (by omega)) hll) ?_
  first | (apply p_callM (ntL B.hd); exact (vwant_n rfl); iterate 4 exact rfl) | (apply d_callM (ntL B.hd); exact (vwant_n rfl); decide +kernel; (iterate 4 exact rfl)) | (apply p_callM (ntL B.hd); exact (vwant_g rfl rfl rfl); iterate 4 exact rfl) | (apply d_callM (ntL B.hd); exact (vwant_g rfl rfl rfl); decide +kernel; (iterate 4 exact rfl))
  try (case hok => first | exact rdOk_nil | exact rdOk_b (by decide +kernel) | exact rdOk_c)
  case hC => exact (fun hp hs ht => note_d ht hB.hd (rb_own hs (i := 0) rfl rfl) (bkH_len B xs) hl)
  rintro u N ⟨rfl, hd', hn, ha, hs, hall, rfl⟩
  refine wd_heap (L' := [_, _, _, _, _, _] ++ (ntL hd' ++ ntL B.cd)) (fun hp h => SV.swapL h) ?_
  refine wo ?_
  first | refine zX (m_ldln (s := 31) (cs := (bkH B xs).map byV) rfl (by rw [List.drop_zero]; exact List.take_of_length_le (by omega)) hll) ?_ | refine yX (m_ldln (s := 31) (cs := (bkH B xs).map byV) rfl (by rw [List.drop_zero]; exact List.take_of_length_le (by omega)) hll) ?_
  first | (apply p_do; exact (vwant_n rfl); exact rfl; exact rfl) | (apply d_do; exact (vwant_n rfl); exact rfl; exact noRd rfl; decide +kernel; exact rfl; rotate_left) | (apply p_do; exact (vwant_g rfl rfl rfl); exact rfl; exact rfl) | (apply d_do; exact (vwant_g rfl rfl rfl); exact rfl; exact noRd rfl; decide +kernel; exact rfl; rotate_left)
  refine e_stn (C' := (bkH B xs).map byV) rfl rfl hne hll (by simp) (overV_all (by rw [hll]; simp)) ⟨_, rfl, ?_⟩
  try (case hok => first | exact rdOk_nil | exact rdOk_b (by decide +kernel))
  refine wo ?_
  refine w_heap (L' := [_, _, _] ++ _ :: _) (fun hp h => SV.midL (L := [_, _, _]) h) ?_
  refine w_ret (wend_unl (i := 3) rfl rfl rfl (vres1 (rv_cell (i := 2) (hL := ⟨rfl⟩) rfl hll)) ⟨[_, _, _], _, rfl, _, rfl, rfl, hd', ⟨hB.sec, hB.bits, hB.cb, hn, hB.cd, hB.fd, hB.fl⟩, hall, ?_⟩)
  simp only [bkL, bkC, ha, hs]
  rfl
theorem hash_d {B : Bk} {A : Option (Nat × Nat)} {xs : List UInt8} {c : Nat} {hp : Hp} (h0 : SV ⟨hp, hnds (bkL B)⟩ hp (bkL B)) (hB : BkOk B) (hk : Tab ⟨hp, hnds (bkL B)⟩) (hA : RB ⟨hp, hnds (bkL B)⟩ A (xs.map byV)) (hc : xs.length ≤ c) (hx : xs.length < 72057594037927936) (hl : B.hd.all.length < 100000000) :
    Fn kxD 15 [.p (some (B.b, 0)), .sl A xs.length c false] hp (hnds (bkL B)) fun r N => ∃ u, r = .v u ∧ (u = hK (bkH B xs) ∧ ∃ hd', let B' : Bk := ⟨B.b, B.z, B.bits, B.cb, B.sec, hd', B.cd, B.fg, B.fs⟩; BkOk B' ∧ hd'.all = addS B.hd.all xs ∧ N = bkL B') :=
  hash_g h0 hB hk hA (capOk_f hc) hx hl
end Go.Proofs.YtlpcelcaahfafaaDoor
/- Ds11: a book's code, Code. By this project. -/
set_option maxRecDepth 100000
namespace Go.Proofs.YtlpcelcaahfafaaDoor
open Go.RowKit Go.Extern.Stop

theorem SV.endL {B : Bs} {hp : Hp} {M P H : HV} (h : SV B hp (M ++ (P ++ (H ++ [])))) : SV B hp (P ++ (H ++ M)) := h.perm (by rw [List.append_nil, ← List.append_assoc P H M]; exact List.perm_append_comm)
end Go.Proofs.YtlpcelcaahfafaaDoor
/- Ds12: a book's Accept, Sound, Len. By this project. -/
set_option maxRecDepth 100000
namespace Go.Proofs.YtlpcelcaahfafaaDoor
open Go.RowKit Go.Extern.Stop

def addF (fs : List (List UInt8 × List UInt8)) (p : List UInt8 × List UInt8) : List (List UInt8 × List UInt8) := if p.1 ∈ fs.map (·.1) then fs else fs ++ [p]
theorem SV.swapE {B : Bs} {hp : Hp} {P M R : HV} (h : SV B hp (P ++ (M ++ R))) : SV B hp (P ++ (R ++ M)) := h.perm (List.perm_append_comm.append_left P)
end Go.Proofs.YtlpcelcaahfafaaDoor
/- Ds13: a book's Sound, Len. By this project. -/
set_option maxRecDepth 100000
namespace Go.Proofs.YtlpcelcaahfafaaDoor
open Go.RowKit Go.Extern.Stop

theorem ntFlat {B : Bs} {hp : Hp} {P : HV} {m n : Nt} (h : SV B hp (P ++ (ntL m ++ ntL n))) : SV B hp (P ++ ((some m.a, ntA m) :: (some m.s, ntS m) :: (some n.a, ntA n) :: (some n.s, ntS n) :: (m.gs.map grpO ++ n.gs.map grpO))) :=
  h.perm ((((List.perm_append_comm_assoc (m.gs.map grpO) [(some n.a, ntA n), (some n.s, ntS n)] (n.gs.map grpO)).append_left [(some m.a, ntA m), (some m.s, ntS m)])).append_left P)
theorem ntBack {B : Bs} {hp : Hp} {P : HV} {m n : Nt} (h : SV B hp (P ++ ((some m.a, ntA m) :: (some m.s, ntS m) :: (some n.a, ntA n) :: (some n.s, ntS n) :: (m.gs.map grpO ++ n.gs.map grpO)))) : SV B hp (P ++ (ntL m ++ ntL n)) :=
  h.perm ((((List.perm_append_comm_assoc [(some n.a, ntA n), (some n.s, ntS n)] (m.gs.map grpO) (n.gs.map grpO)).append_left [(some m.a, ntA m), (some m.s, ntS m)])).append_left P)
theorem ntA_len (n : Nt) : (entE V.s n.all (n.all.map fun _ => V.b true)).length = n.all.length := entE_len _ (by simp)
theorem ntS_len (n : Nt) : (entE hK (n.gs.map (·.h)) (n.gs.map grpV)).length = n.gs.length := by rw [entE_len _ (by simp)]; simp
theorem fgO_len (B : Bk) : (entE V.s (B.fs.map (·.1)) (B.fs.map fun p => hK p.2)).length = B.fs.length := by rw [entE_len _ (by simp)]; simp
def bkSound (B : Bk) : Bool := decide (B.hd.all.length = B.hd.gs.length) && (decide (B.cd.all.length = B.cd.gs.length) && decide (B.fs.length = 0))
end Go.Proofs.YtlpcelcaahfafaaDoor
/- Ds14: a new book. By this project. -/
set_option maxRecDepth 100000
namespace Go.Proofs.YtlpcelcaahfafaaDoor
open Go.RowKit Go.Extern.Stop

theorem clone_d {A : Option (Nat × Nat)} {xs : List UInt8} {c : Nat} {op : Bool} {hp : Hp} (ho : OkH hp) (hA : RB ⟨hp, []⟩ A (xs.map byV)) (h0 : 0 < xs.length) (h1 : xs.length ≤ 1073741824) :
    Fn kxD 16 [.sl A xs.length c op] hp [] fun r N => ∃ u, r = .v u ∧ ∃ b, u = .sl (some (b, 0)) xs.length xs.length true ∧ N = [(some b, .cells (xs.map byV) 5 (some 1) false)] := by
  refine Fn.drop ?_
  obtain ⟨b, o, rfl⟩ : ∃ b o, A = some (b, o) := by
    cases hq : xs.map byV with
    | nil => have := congrArg List.length hq; simp at this; rw [this] at h0; simp at h0
    | cons v r => exact rv_some (by rw [← hq]; exact hA.1.rv)
  refine fn_of_w (T := []) ho.sv (fun _ => rfl) (fn := Tryd.f16) (by kernel_rfl) rfl rfl ?_
  refine wo ?_
  first | (apply wm; iterate 5 exact rfl) | (apply dm; iterate 6 exact rfl) | (apply wmg; iterate 7 exact rfl) | (apply dmg; iterate 8 exact rfl)
  refine m_eqsl rfl rfl
  refine wo ?_
  first | (apply p_op; exact (vwant_n rfl); iterate 4 exact rfl) | (apply d_op; exact (vwant_n rfl); exact rfl; exact noRd rfl; decide +kernel; (iterate 3 exact rfl); rotate_left) | (apply p_op; exact (vwant_g rfl rfl rfl); iterate 4 exact rfl) | (apply d_op; exact (vwant_g rfl rfl rfl); exact rfl; exact noRd rfl; decide +kernel; (iterate 3 exact rfl); rotate_left)
  refine e_bs (C := []) rfl rfl .nil rfl fun bn => ⟨_, rfl, ?_⟩
  try (case hok => first | exact rdOk_nil | exact rdOk_b (by decide +kernel))
  refine wo ?_
  first | (apply p_op; exact (vwant_n rfl); iterate 4 exact rfl) | (apply d_op; exact (vwant_n rfl); exact rfl; exact noRd rfl; decide +kernel; (iterate 3 exact rfl); rotate_left) | (apply p_op; exact (vwant_g rfl rfl rfl); iterate 4 exact rfl) | (apply d_op; exact (vwant_g rfl rfl rfl); exact rfl; exact noRd rfl; decide +kernel; (iterate 3 exact rfl); rotate_left)
  refine e_appG (old := []) (new := xs.map byV) rfl rfl (rz_loc (k := 0) rfl) rfl hA.z (by simp) (by omega) (by omega) fun bg => ⟨_, rfl, ?_⟩
  try (case hok => first | exact rdOk_nil | exact rdOk_b (by decide +kernel))
  refine wo ?_
  refine w_heap (L' := [_, _]) (fun hp h => h.pick [1, 0] _ rfl (by decide)) ?_
  rw [Nat.zero_add]
  exact w_ret (wend_ret (vres1 (rv_tmp rfl)) ⟨[_], _, rfl, _, rfl, bg, rfl, rfl⟩)
theorem begin_d {hp : Hp} (ho : OkH hp) :
    Fn kxD 17 [] hp [] fun r N => ∃ u, r = .v u ∧ ∃ a s, u = .agg [.m (some s), .m (some a)] ∧ N = ntL ⟨a, s, [], []⟩ := by
  refine Fn.drop ?_
  refine fn_of_w (T := []) ho.sv (fun _ => rfl) (fn := Tryd.f17) (by kernel_rfl) rfl rfl ?_
  refine wo ?_
  first | (apply p_op; exact (vwant_n rfl); iterate 4 exact rfl) | (apply d_op; exact (vwant_n rfl); exact rfl; exact noRd rfl; decide +kernel; (iterate 3 exact rfl); rotate_left) | (apply p_op; exact (vwant_g rfl rfl rfl); iterate 4 exact rfl) | (apply d_op; exact (vwant_g rfl rfl rfl); exact rfl; exact noRd rfl; decide +kernel; (iterate 3 exact rfl); rotate_left)
  refine e_alloc rfl fun bo => ⟨_, rfl, ?_⟩
  try (case hok => first | exact rdOk_nil | exact rdOk_b (by decide +kernel))
  refine wo ?_
  first | (apply p_op; exact (vwant_n rfl); iterate 4 exact rfl) | (apply d_op; exact (vwant_n rfl); exact rfl; exact noRd rfl; decide +kernel; (iterate 3 exact rfl); rotate_left) | (apply p_op; exact (vwant_g rfl rfl rfl); iterate 4 exact rfl) | (apply d_op; exact (vwant_g rfl rfl rfl); exact rfl; exact noRd rfl; decide +kernel; (iterate 3 exact rfl); rotate_left)
  refine ev_mkmap fun s => ⟨_, rfl, ?_⟩
  try (case hok => first | exact rdOk_nil | exact rdOk_b (by decide +kernel))
  first | (apply p_op; exact (vwant_n rfl); iterate 4 exact rfl) | (apply d_op; exact (vwant_n rfl); exact rfl; exact noRd rfl; decide +kernel; (iterate 3 exact rfl); rotate_left) | (apply p_op; exact (vwant_g rfl rfl rfl); iterate 4 exact rfl) | (apply d_op; exact (vwant_g rfl rfl rfl); exact rfl; exact noRd rfl; decide +kernel; (iterate 3 exact rfl); rotate_left)
  refine ev_mkmap fun a => ⟨_, rfl, ?_⟩
  try (case hok => first | exact rdOk_nil | exact rdOk_b (by decide +kernel))
  first | (apply wn; iterate 5 exact rfl) | (apply dn; iterate 5 exact rfl) | (apply wg; iterate 7 exact rfl) | (apply dg; iterate 7 exact rfl)
  refine p_buildS (C := [.m (some s), .m (some a)]) (.cons rfl rfl rfl rfl (Nat.le_of_ble_eq_true rfl) (.cons rfl rfl rfl rfl (Nat.le_of_ble_eq_true rfl) .nil)) rfl
  first | (apply p_do; exact (vwant_n rfl); exact rfl; exact rfl) | (apply d_do; exact (vwant_n rfl); exact rfl; exact noRd rfl; decide +kernel; exact rfl; rotate_left) | (apply p_do; exact (vwant_g rfl rfl rfl); exact rfl; exact rfl) | (apply d_do; exact (vwant_g rfl rfl rfl); exact rfl; exact noRd rfl; decide +kernel; exact rfl; rotate_left)
  refine e_stn (C' := [.m (some s), .m (some a)]) rfl rfl (by simp) rfl (by simp) rfl ⟨_, rfl, ?_⟩
  try (case hok => first | exact rdOk_nil | exact rdOk_b (by decide +kernel))
  refine wo ?_
  refine w_heap (L' := [_, _, _]) (fun hp h => h.pick [2, 0, 1] _ rfl (by decide)) ?_
  exact w_ret (wend_ret (vres1 (rv_cell rfl rfl)) ⟨[_], _, rfl, _, rfl, a, s, rfl, rfl⟩)
set_option maxHeartbeats 8000000 in
theorem new_d {A : Option (Nat × Nat)} {xs : List UInt8} {bits cb c : Nat} {op : Bool} {hp : Hp} (ho : OkH hp) (hA : RB ⟨hp, []⟩ A (xs.map byV)) (hx : xs.length = 32) (b1 : 8 ≤ bits) (b2 : bits ≤ 256) (c1 : 8 ≤ cb) (c2 : cb ≤ 256) :
    Fn kxD 5 [.i .i64 (bits : Int), .i .i64 (cb : Int), .sl A xs.length c op] hp [] fun r N => ∃ u, r = .v u ∧ ∃ b z ha hs ca cs fg, u = .tup [.p (some (b, 0)), .i .i64 0] ∧ N = bkL ⟨b, z, bits, cb, xs, ⟨ha, hs, [], []⟩, ⟨ca, cs, [], []⟩, fg, []⟩ := by
  refine fn_of_w (T := []) ho.sv (fun _ => rfl) (fn := Tryd.f5) (by kernel_rfl) rfl rfl ?_
  refine wo ?_
  first | (apply wm; iterate 5 exact rfl) | (apply dm; iterate 6 exact rfl) | (apply wmg; iterate 7 exact rfl) | (apply dmg; iterate 8 exact rfl)
  refine mv_int (v := .b false) rfl rfl (vi_lssF (by omega))
  refine wo ?_
  first | (apply wm; iterate 5 exact rfl) | (apply dm; iterate 6 exact rfl) | (apply wmg; iterate 7 exact rfl) | (apply dmg; iterate 8 exact rfl)
  refine mv_int (v := .b false) rfl rfl (vi_gtrF (by omega))
  refine wo ?_
  first | (apply wm; iterate 5 exact rfl) | (apply dm; iterate 6 exact rfl) | (apply wmg; iterate 7 exact rfl) | (apply dmg; iterate 8 exact rfl)
  refine mv_int (v := .b false) rfl rfl (vi_lssF (by omega))
  refine wo ?_
  first | (apply wm; iterate 5 exact rfl) | (apply dm; iterate 6 exact rfl) | (apply wmg; iterate 7 exact rfl) | (apply dmg; iterate 8 exact rfl)
  refine mv_int (v := .b false) rfl rfl (vi_gtrF (by omega))
  refine wo ?_
  first | (apply wm; iterate 5 exact rfl) | (apply dm; iterate 6 exact rfl) | (apply wmg; iterate 7 exact rfl) | (apply dmg; iterate 8 exact rfl)
  refine mv_int (v := .b false) rfl rfl (vi_neqF (by omega))
  refine wo ?_
  first | (apply p_callY []; exact (vwant_n rfl); iterate 4 exact rfl) | (apply d_callY []; exact (vwant_n rfl); decide +kernel; (iterate 4 exact rfl)) | (apply p_callY []; exact (vwant_g rfl rfl rfl); iterate 4 exact rfl) | (apply d_callY []; exact (vwant_g rfl rfl rfl); decide +kernel; (iterate 4 exact rfl))
  try (case hok => first | exact rdOk_nil | exact rdOk_b (by decide +kernel) | exact rdOk_c)
  case hC => exact (fun hp hs ht => clone_d hs.ok (hA.give0 hs) (by omega) (by omega))
  rintro u N ⟨z, rfl, rfl⟩
  refine wo ?_
  first | (apply p_callY []; exact (vwant_n rfl); iterate 4 exact rfl) | (apply d_callY []; exact (vwant_n rfl); decide +kernel; (iterate 4 exact rfl)) | (apply p_callY []; exact (vwant_g rfl rfl rfl); iterate 4 exact rfl) | (apply d_callY []; exact (vwant_g rfl rfl rfl); decide +kernel; (iterate 4 exact rfl))
  try (case hok => first | exact rdOk_nil | exact rdOk_b (by decide +kernel) | exact rdOk_c)
  case hC => exact (fun hp hs ht => begin_d hs.ok)
  rintro u N ⟨ha, hs, rfl, rfl⟩
  refine wo ?_
  first | (apply p_callY []; exact (vwant_n rfl); iterate 4 exact rfl) | (apply d_callY []; exact (vwant_n rfl); decide +kernel; (iterate 4 exact rfl)) | (apply p_callY []; exact (vwant_g rfl rfl rfl); iterate 4 exact rfl) | (apply d_callY []; exact (vwant_g rfl rfl rfl); decide +kernel; (iterate 4 exact rfl))
  try (case hok => first | exact rdOk_nil | exact rdOk_b (by decide +kernel) | exact rdOk_c)
  case hC => exact (fun hp hs ht => begin_d hs.ok)
  rintro u N ⟨ca, cs, rfl, rfl⟩
  refine wo ?_
  first | (apply p_op; exact (vwant_n rfl); iterate 4 exact rfl) | (apply d_op; exact (vwant_n rfl); exact rfl; exact noRd rfl; decide +kernel; (iterate 3 exact rfl); rotate_left) | (apply p_op; exact (vwant_g rfl rfl rfl); iterate 4 exact rfl) | (apply d_op; exact (vwant_g rfl rfl rfl); exact rfl; exact noRd rfl; decide +kernel; (iterate 3 exact rfl); rotate_left)
  refine ev_mkmap fun fg => ⟨_, rfl, ?_⟩
  try (case hok => first | exact rdOk_nil | exact rdOk_b (by decide +kernel))
  first | (apply wn; iterate 5 exact rfl) | (apply dn; iterate 5 exact rfl) | (apply wg; iterate 7 exact rfl) | (apply dg; iterate 7 exact rfl)
  refine p_buildS (C := bkC ⟨0, z, bits, cb, xs, ⟨ha, hs, [], []⟩, ⟨ca, cs, [], []⟩, fg, []⟩ 0) (.cons rfl rfl rfl rfl (Nat.le_of_ble_eq_true rfl) (.cons rfl rfl rfl rfl (Nat.le_of_ble_eq_true rfl) (.cons rfl rfl rfl rfl (Nat.le_of_ble_eq_true rfl) (.cons rfl rfl rfl rfl (Nat.le_of_ble_eq_true rfl) (.cons rfl rfl rfl rfl (Nat.le_of_ble_eq_true rfl) (.cons rfl rfl rfl rfl (Nat.le_of_ble_eq_true rfl) .nil)))))) rfl
  first | (apply p_op; exact (vwant_n rfl); iterate 4 exact rfl) | (apply d_op; exact (vwant_n rfl); exact rfl; exact noRd rfl; decide +kernel; (iterate 3 exact rfl); rotate_left) | (apply p_op; exact (vwant_g rfl rfl rfl); iterate 4 exact rfl) | (apply d_op; exact (vwant_g rfl rfl rfl); exact rfl; exact noRd rfl; decide +kernel; (iterate 3 exact rfl); rotate_left)
  refine ev_box rfl rfl fun b => ⟨_, rfl, ?_⟩
  try (case hok => first | exact rdOk_nil | exact rdOk_b (by decide +kernel))
  refine wo ?_
  refine w_heap (L' := [_, _, _, _, _, _, _]) (fun hp h => h.pick [0, 6, 1, 4, 5, 2, 3] _ rfl (by decide)) ?_
  exact w_ret (wend_ret (vres2 (rv_tmp rfl) (rv_tmp rfl)) ⟨_, rfl, b, z, ha, hs, ca, cs, fg, rfl, rfl⟩)
theorem new_ok {b z bits cb ha hs ca cs fg : Nat} {xs : List UInt8} (hx : xs.length = 32) (b2 : bits ≤ 256) (c2 : cb ≤ 256) : BkOk ⟨b, z, bits, cb, xs, ⟨ha, hs, [], []⟩, ⟨ca, cs, [], []⟩, fg, []⟩ :=
  ⟨hx, b2, c2, nt0 _ _ _, nt0 _ _ _, by simp, by simp⟩
end Go.Proofs.YtlpcelcaahfafaaDoor
/- Ds15: a book's Forgeries, where there is none, where there is one. By this project. -/
set_option maxRecDepth 100000
namespace Go.Proofs.YtlpcelcaahfafaaDoor
open Go.RowKit Go.Extern.Stop

end Go.Proofs.YtlpcelcaahfafaaDoor
/- Ds16: the statements' own small functions: Bits, Secret. By this project. -/
set_option maxRecDepth 100000
namespace Go.Proofs.YtlpcelcaahfafaaDoor
open Go.RowKit Go.Extern.Stop

section
variable {K : Kx} {hp0 : Bs} {l : VL} {L : HV} {a b : Operand} {t t' : TypeId}
theorem m_remI {p q : Int} (hx : evL l a = some (.i .i64 p)) (hy : evL l b = some (.i .i64 q)) (hq : q ≠ 0) : MVO K hp0 l L (.binOp .rem t a b t') (.i .i64 (p.tmod q)) :=
  mv_int hx hy (by
    have e : intEq q 0 = false := by rw [intEq_iff]; simpa using hq
    simp only [vint, e])
theorem m_remN {p q : Int} {m n : Nat} (hx : evL l a = some (.i .i64 p)) (hy : evL l b = some (.i .i64 q)) [hm : CastN p m] [hn : CastN q n] (hq : 0 < n) : MVO K hp0 l L (.binOp .rem t a b t') (.i .i64 ((m % n : Nat) : Int)) := by
  have := m_remI (K := K) (hp0 := hp0) (L := L) (t := t) (t' := t') hx hy (by rw [hn.h]; omega)
  rw [hm.h, hn.h] at this
  rw [Int.natCast_emod]
  rw [Int.tmod_eq_emod_of_nonneg (by omega)] at this
  exact this
theorem m_quoN {p q : Int} {m n : Nat} (hx : evL l a = some (.i .i64 p)) (hy : evL l b = some (.i .i64 q)) [hm : CastN p m] [hn : CastN q n] (hq : 0 < n) (hl : m < 9223372036854775808) : MVO K hp0 l L (.binOp .quo t a b t') (.i .i64 ((m / n : Nat) : Int)) := by
  obtain rfl := hm.h
  obtain rfl := hn.h
  refine mv_int hx hy ?_
  have e : intEq (n : Int) 0 = false := by rw [intEq_iff]; simp; omega
  have e2 : (m : Int).tdiv (n : Int) = ((m / n : Nat) : Int) := by rw [Int.tdiv_eq_ediv_of_nonneg (by omega)]; norm_cast
  have h3 : m / n ≤ m := Nat.div_le_self _ _
  simp only [vint, e]
  rw [e2]
  generalize m / n = q at *
  rw [IntWalk.i64_in _ (by omega)]
theorem intEq0 {y : UInt8} (hq : y.toNat ≠ 0) : intEq (Int.ofNat y.toNat) 0 = false := by
  rw [intEq_iff, beq_eq_false_iff_ne]
  exact fun h => hq (Int.ofNat.inj h)
theorem m_quoB {x y : UInt8} (hx : evL l a = some (byV x)) (hy : evL l b = some (byV y)) (hq : y.toNat ≠ 0) : MVO K hp0 l L (.binOp .quo t a b t') (byV (UInt8.ofNat (x.toNat / y.toNat))) :=
  mv_int hx hy (by
    have e2 : (Int.ofNat x.toNat).tdiv (Int.ofNat y.toNat) = ((x.toNat / y.toNat : Nat) : Int) := by rw [Int.tdiv_eq_ediv_of_nonneg (by simp)]; norm_cast
    simp only [vint, intEq0 hq]
    rw [e2, wrapU8, ← byV_ofNat])
theorem m_remB {x y : UInt8} (hx : evL l a = some (byV x)) (hy : evL l b = some (byV y)) (hq : y.toNat ≠ 0) : MVO K hp0 l L (.binOp .rem t a b t') (byV (UInt8.ofNat (x.toNat % y.toNat))) :=
  mv_int hx hy (by
    have e2 : (Int.ofNat x.toNat).tmod (Int.ofNat y.toNat) = ((x.toNat % y.toNat : Nat) : Int) := by rw [Int.tmod_eq_emod_of_nonneg (by simp)]; norm_cast
    have h3 := x.toNat_lt
    have h4 : x.toNat % y.toNat ≤ x.toNat := Nat.mod_le _ _
    simp only [vint, intEq0 hq]
    rw [e2, byV_ofNat, Nat.mod_eq_of_lt (a := x.toNat % y.toNat) (b := 256) (by omega)])
theorem p_negI {p : Int} (hx : evL l a = some (.i .i64 p)) (h1 : -9223372036854775808 < p ∧ p < 9223372036854775808) : PV K.C l (.unOp .neg t a) (.i .i64 (-p)) :=
  pv_un hx (by show some (V.i .i64 (IntKind.i64.wrap (0 - p))) = _; rw [IntWalk.i64_in _ (by omega), Int.zero_sub])
end
def bitsN (n : Int) : Nat := 8 + (n.tmod 249).natAbs
theorem bitsN_le (n : Int) : 8 ≤ bitsN n ∧ bitsN n ≤ 256 := by
  unfold bitsN
  have h1 : (n.tmod 249).natAbs = n.natAbs % 249 := by rw [Int.natAbs_tmod]; rfl
  rw [h1]
  have := Nat.mod_lt n.natAbs (show 0 < 249 by omega)
  omega
theorem rv_some' {hp : Hp} {A : Option (Nat × Nat)} {cs : List V} (h : RV hp A cs) (hn : 0 < cs.length) : ∃ b o, A = some (b, o) := by
  cases cs with
  | nil => simp at hn
  | cons v r => exact rv_some h
/-- 32 bytes made of any. -/
def secB (xs : List UInt8) : List UInt8 := (List.range 32).map fun i => xs.getD i 0
theorem secB_len (xs : List UInt8) : (secB xs).length = 32 := by simp [secB]
theorem secB_take {xs : List UInt8} {i : Nat} (h : i < 32) : (secB xs).take (i + 1) = (secB xs).take i ++ [xs.getD i 0] := by
  rw [List.take_succ_eq_append_getElem (by rw [secB_len]; exact h)]
  simp only [secB, List.getElem_map, List.getElem_range]
end Go.Proofs.YtlpcelcaahfafaaDoor
/- Wr: appends to a literal; equal arrays told as equal; strings; what lies behind a value that was handed out. By this project. -/
set_option maxRecDepth 100000
namespace Go.Proofs.YtlpcelcaahfafaaDoor
open Go.RowKit Go.Extern.Stop

section
variable {K : Kx} {hp0 : Bs} {l : VL} {L : HV} {a b : Operand} {t t' : TypeId}
theorem m_eqA {e : TypeId} {n : Nat} {ti : TI} {xs ys : List UInt8} [ht : TiV K.C t ti] [hA : ArrV K.C t n e] [hI : IntV K.C e .u8] [hR : RowV K.C e false] [hS : SizeV K.C e 1] (he : ti.eq = true) (hx : evL l a = some (.agg (xs.map byV))) (hy : evL l b = some (.agg (ys.map byV))) (h1 : xs.length = n) (h2 : ys.length = n) : MVO K hp0 l L (.binOp .eql t a b t') (.b (decide (xs = ys))) :=
  mv_eql hx hy rfl fun hp => by
    simp only [veqOp, ht.h, Option.bind_some, he]
    exact veq_by (d := 28) h1 h2
theorem m_neqA {e : TypeId} {n : Nat} {ti : TI} {xs ys : List UInt8} [ht : TiV K.C t ti] [hA : ArrV K.C t n e] [hI : IntV K.C e .u8] [hR : RowV K.C e false] [hS : SizeV K.C e 1] (he : ti.eq = true) (hx : evL l a = some (.agg (xs.map byV))) (hy : evL l b = some (.agg (ys.map byV))) (h1 : xs.length = n) (h2 : ys.length = n) : MVO K hp0 l L (.binOp .neq t a b t') (.b (!decide (xs = ys))) :=
  mv_neq hx hy rfl fun hp => by
    simp only [veqOp, ht.h, Option.bind_some, he]
    exact veq_by (d := 28) h1 h2
theorem m_neqb {ti : TI} {x y : Bool} [ht : TiV K.C t ti] (hd : ti.d = .bool) (hx : evL l a = some (.b x)) (hy : evL l b = some (.b y)) : MVO K hp0 l L (.binOp .neq t a b t') (.b (!(x == y))) :=
  mv_neq hx hy rfl fun hp => by simp only [veqOp, veq, ht.h, Option.bind_some, hd]
end
section
variable {K : Kx} {nt : Nat} {hp0 : Bs} {hp : Hp} {l : VL} {L L0 : HV} {Q : WQ} {a b : Operand} {t t' : TypeId}
theorem ev_heap {op : Op} {tch : List Nat} {k k' : VR → HV → Prop} (h : EV K hp0 l L op tch k') (hk : ∀ r L', k' r L' → ∃ L'', (∀ hp, SV hp0 hp L' → SV hp0 hp L'') ∧ k r L'') : EV K hp0 l L op tch k := by
  unfold EV at h ⊢
  intro fr hp hf hs
  obtain ⟨r, hp', L', h1, h2, h3, h4, h5⟩ := h fr hp hf hs
  obtain ⟨L'', h6, h7⟩ := hk r L' h5
  exact ⟨r, hp', L'', h1, h6 _ h2, h3, h4, h7⟩
theorem ev_tch {op : Op} {b i : Nat} {o : VO} {k : VR → HV → Prop} [hL : AtV b L o i] (h : EV K hp0 l L op [] k) : EV K hp0 l L op [b] k := by
  unfold EV at h ⊢
  intro fr hp hf hs
  obtain ⟨r, hp', L', h1, h2, h3, ⟨h4, h5⟩, h6⟩ := h fr hp hf hs
  exact ⟨r, hp', L', h1, h2, h3, ⟨fun x hx => by simp only [List.mem_singleton] at hx; subst hx; exact (hs.has i _ _ hL.h).2.1, fun x h h' => (h5 x h h').imp_right fun h => by simp at h⟩, h6⟩
theorem set_perm {α : Type} {y : α} : ∀ (L : List α) (i : Nat), i < L.length → (L.set i y).Perm (y :: L.eraseIdx i)
  | x :: r, 0, _ => List.Perm.refl _
  | x :: r, i + 1, h => by
    simp only [List.set_cons_succ, List.eraseIdx_cons_succ]
    exact ((set_perm r i (by simpa using h)).cons x).trans (List.Perm.swap y x _)
/-- To a literal without elements, of bytes. -/
theorem e_lit {tS tX e eX : TypeId} {s x : Operand} {A : Option (Nat × Nat)} {b0 n c : Nat} {op' : Bool} {new : List V} {k : VR → HV → Prop} [hS : SliceV K.C tS e] [hz : SizeV K.C e 1] [hG : GrowV K.C e] [hX : SliceV K.C tX eX] (hs : evL l s = some (.sl (some (b0, 0)) 0 0 false)) (hx : evL l x = some (.sl A n c op')) (hr : RZ hp0 ((some b0, cellsO [] e) :: L) A new) (hnl : new.length = n) (h8 : ∃ te, tiV K.C e = some te ∧ te.bytes = 1) (hl : n ≤ 150000000000000)
    (hk : ∀ b op oo, (op = true → oo = some 1) → k (.v (.sl (some (b, 0)) n n op)) ((some b, .cells new e oo false) :: L)) : EV K hp0 l ((some b0, cellsO [] e) :: L) (.call { callee := .builtin .append, args := #[s, x], argTypes := #[tS, tX] }) [] k := by
  by_cases h0 : n = 0
  · subst h0
    obtain rfl := List.length_eq_zero_iff.1 hnl
    obtain ⟨ti, h3, h4⟩ := hS.h
    obtain ⟨te, h5, h6⟩ := hz.h
    obtain ⟨tx, h7, h8⟩ := hX.h
    haveI : TiV K.C tS ti := ⟨h3⟩
    haveI : TiV K.C e te := ⟨h5⟩
    haveI : TiV K.C tX tx := ⟨h7⟩
    exact ev_appN hs hx h4 (src_sl h8 hr (by simp) (by omega)) (Nat.le_refl 0) (hk b0 false none (fun h => by simp at h))
  · refine ev_heap (k' := fun r L' => ∃ b, r = .v (.sl (some (b, 0)) n n true) ∧ L' = (some b, .cells new e (some 1) false) :: (some b0, cellsO [] e) :: L) (e_appGb (old := []) hs hx rz_nil rfl hr hnl (by omega) h8 (by omega) fun b => ⟨b, by rw [Nat.zero_add], rfl⟩) ?_
    rintro r L' ⟨b, rfl, rfl⟩
    exact ⟨_, fun hp h => h.sub ((List.sublist_cons_self _ _).cons_cons _), hk b true (some 1) (fun _ => rfl)⟩
/-- To a row of bytes that may have open room. -/
theorem e_appU {tS tX e eX : TypeId} {s x : Operand} {A : Option (Nat × Nat)} {b m n c i : Nat} {op op' : Bool} {oo : Option Nat} {old new : List V} {k : VR → HV → Prop} [hS : SliceV K.C tS e] [hz : SizeV K.C e 1] [hG : GrowV K.C e] [hX : SliceV K.C tX eX] (hs : evL l s = some (.sl (some (b, 0)) m m op)) (hx : evL l x = some (.sl A n c op')) [hL : AtV b L (.cells old e oo false) i] (hoo : op = true → oo = some 1) (hol : old.length = m) (hr : RZ hp0 L A new) (hnl : new.length = n) (hn : 0 < n) (h8 : ∃ te, tiV K.C e = some te ∧ te.bytes = 1) (hl : m + n ≤ 150000000000000)
    (hk : ∀ b', k (.v (.sl (some (b', 0)) (m + n) (m + n) true)) (L.set i (some b', .cells (old ++ new) e (some 1) false))) : EV K hp0 l L (.call { callee := .builtin .append, args := #[s, x], argTypes := #[tS, tX] }) [b] k := by
  cases op with
  | true =>
    obtain rfl := hoo rfl
    exact e_appOb hs hx hol hr hnl hn h8 hl hk
  | false =>
    refine ev_tch (ev_heap (k' := fun r L' => ∃ b', r = .v (.sl (some (b', 0)) (m + n) (m + n) true) ∧ L' = (some b', .cells (old ++ new) e (some 1) false) :: L) (e_appGb (old := old) hs hx (rz_loc (k := m) (by rw [List.drop_zero]; exact List.take_of_length_le (Nat.le_of_eq hol))) hol hr hnl (by omega) h8 hl fun b' => ⟨b', rfl, rfl⟩) ?_)
    rintro r L' ⟨b', rfl, rfl⟩
    have hi := (List.getElem?_eq_some_iff.1 hL.h).1
    exact ⟨_, fun hp h => (h.sub (List.Sublist.cons_cons _ (List.eraseIdx_sublist ..))).perm (set_perm L i hi).symm, hk b'⟩
/-! ### Strings; numbers without a sign -/
theorem m_cat {x y : List UInt8} (hx : evL l a = some (.s x)) (hy : evL l b = some (.s y)) (h : x.length + y.length ≤ 150000000000000) : MVO K hp0 l L (.binOp .add t a b t') (.s (x ++ y)) := mv_str hx hy (by
  simp only [vstr, lenF_eq, appF_eq, ble_t h])
theorem m_eqs {x y : List UInt8} (hx : evL l a = some (.s x)) (hy : evL l b = some (.s y)) : MVO K hp0 l L (.binOp .eql t a b t') (.b (x == y)) := mv_str hx hy (by
  simp only [vstr, byEq_iff])
theorem m_mulU {p q : Int} {m n : Nat} (hx : evL l a = some (.i .u64 p)) (hy : evL l b = some (.i .u64 q)) [hm : CastN p m] [hn : CastN q n] (h : m * n < 18446744073709551616) : MVO K hp0 l L (.binOp .mul t a b t') (.i .u64 ((m * n : Nat) : Int)) := by
  obtain rfl := hm.h
  obtain rfl := hn.h
  refine mv_int hx hy ?_
  show some (V.i .u64 (IntKind.u64.wrap ((m : Int) * (n : Int)))) = _
  rw [← Int.natCast_mul, wrapU64 h]
end
/-- What lies behind a slice that was handed out: the objects X hold its bytes. -/
structure Seen (X : HV) (A : Option (Nat × Nat)) (xs : List UInt8) : Prop where
  h : ∀ {B : Bs} {hp : Hp} {L : HV}, SV B hp L → (∀ p ∈ X, p ∈ L) → RB ⟨hp, []⟩ A (xs.map byV)
theorem Seen.nil : Seen [] none [] := ⟨fun _ _ => RB.nil⟩
theorem Seen.own {b : Nat} {xs : List UInt8} {T : TypeId} {oo : Option Nat} {mk : Bool} : Seen [(some b, .cells (xs.map byV) T oo mk)] (some (b, 0)) xs := ⟨fun hs hx => by
  obtain ⟨i, hi⟩ := List.getElem?_of_mem (hx _ (List.mem_singleton.2 rfl))
  exact rb_own0 hs hi (by rw [List.drop_zero]; exact List.take_of_length_le (Nat.le_refl _))⟩
/-- An object taken out of the list, by its handle; what is left. -/
class OutB (b : Nat) (L : HV) (x : outParam (Option Nat × VO)) (r : outParam HV) : Prop where h : L.Perm (x :: r)
instance (priority := high) {b : Nat} {o : VO} {r : HV} : OutB b ((some b, o) :: r) (some b, o) r := ⟨List.Perm.refl _⟩
instance (priority := low) {b : Nat} {x y : Option Nat × VO} {r r' : HV} [k : OutB b r x r'] : OutB b (y :: r) x (y :: r') := ⟨(k.h.cons y).trans (List.Perm.swap x y r')⟩
instance (priority := 50) {b : Nat} {x : Option Nat × VO} {N L r : HV} [k : OutB b L x r] : OutB b (N ++ L) x (N ++ r) := ⟨(k.h.append_left N).trans List.perm_middle⟩
instance (priority := 40) {b : Nat} {x y : Option Nat × VO} {r s r' : HV} [k : OutB b (y :: (r ++ s)) x r'] : OutB b ((y :: r) ++ s) x r' := ⟨k.h⟩
instance (priority := 40) {b : Nat} {x : Option Nat × VO} {s r' : HV} [k : OutB b s x r'] : OutB b ([] ++ s) x r' := ⟨k.h⟩
/-- One object to the front; the others by a name. -/
theorem w_front {K : Kx} {nt : Nat} {hp0 : Bs} {l : VL} {df : DL} {L : HV} {Q : WQ} {c : Code} (b : Nat) {x : Option Nat × VO} {r : HV} [k : OutB b L x r] (h : ∀ r0, r0 = r → WG K nt hp0 c l df (x :: r0) Q) : WG K nt hp0 c l df L Q := w_heap (fun hp hs => hs.perm k.h) (h r rfl)
end Go.Proofs.YtlpcelcaahfafaaDoor
