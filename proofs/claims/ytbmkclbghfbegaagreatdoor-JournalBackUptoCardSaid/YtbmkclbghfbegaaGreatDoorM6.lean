/- Part 6 of the proof: Ds6, Ds7, Ds8, Ds9, Ds10, Ds11, Ds12, Ds13, Ds14, Ds15, Ds16, Dn1, Ds17, Dn2, Js3, Js4, Js5, Je, Jk, Wdp, Dr1, Dr2, Js6, Js7, Dr3, Dr4. By this project. -/
import Derived.Test.YtbmkclbghfbegaaGreatDoorM5
set_option linter.unusedVariables false
set_option linter.unusedSectionVars false
set_option linter.unusedSimpArgs false
set_option maxRecDepth 100000
/- Ds6: mac's New, Write, Code. By this project. -/
set_option maxRecDepth 100000
namespace Go.Proofs.YtbmkclbghfbegaaGreatDoor
open Go.RowKit Go.Extern.Stop
def keyB (k : List UInt8) : List UInt8 := k ++ List.replicate (64 - k.length) 0
def ipad (k : List UInt8) : List UInt8 := (keyB k).map (· ^^^ 54)
def opad (k : List UInt8) : List UInt8 := (keyB k).map (· ^^^ 92)
def macB (k x : List UInt8) : List UInt8 := sumB (opad k ++ sumB (ipad k ++ x))
theorem H8 {k : List UInt8} (h : k.length ≤ 64) : (keyB k).length = 64 := by simp [keyB]; omega
theorem H7 (k x : List UInt8) : (macB k x).length = 32 := CE _
def xorL (b : List UInt8) (x : UInt8) (i : Nat) : List UInt8 := (b.map (· ^^^ x)).take i ++ b.drop i
theorem xorL_len {b : List UInt8} {x : UInt8} {i : Nat} (h : i ≤ b.length) : (xorL b x i).length = b.length := by simp [xorL]; omega
theorem xorL_zero (b : List UInt8) (x : UInt8) : xorL b x 0 = b := by simp [xorL]
theorem xorL_all {b : List UInt8} {x : UInt8} {n : Nat} (h : b.length = n) : xorL b x n = b.map (· ^^^ x) := by simp [xorL, ← h, Ip]
theorem xorL_at {b : List UInt8} {x y : UInt8} {i : Nat} (h : b[i]? = some y) : (xorL b x i)[i]? = some y := by
 obtain ⟨hi, e⟩ := Iv.1 h
 unfold xorL
 rw [List.getElem?_append_right (by simp; omega), List.getElem?_drop]
 have e2 : (((b.map (· ^^^ x)).take i).length) = i := by simp; omega
 rw [e2, Nat.sub_self, Nat.add_zero]
 exact h
theorem xorL_set {b : List UInt8} {x y : UInt8} {i : Nat} (h : b[i]? = some y) : (xorL b x i).set i (y ^^^ x) = xorL b x (i + 1) := by
 obtain ⟨hi, e⟩ := Iv.1 h
 unfold xorL
 have e2 : (((b.map (· ^^^ x)).take i).length) = i := by simp; omega
 rw [List.set_append_right _ _ (by omega), e2, Nat.sub_self, List.drop_eq_getElem_cons hi, List.set_cons_zero, List.take_succ_eq_append_getElem (by simp; omega), List.append_assoc]
 simp [e]
theorem macblock_d {k : List UInt8} {A : Option (Nat × Nat)} {c : Nat} {op : Bool} {hp : Hp} (ho : OkH hp) (hA : RB ⟨hp, []⟩ A (k.map byV)) (h0 : 0 < k.length) (h1 : k.length ≤ 64) :
  Fn kxD 141 [.sl A k.length c op] hp [] fun r _ => r = .v (.agg ((keyB k).map byV)) := by
 have hkl := H8 h1
 refine Au (T := []) ho.sv (fun _ => rfl) (fn := Tryz.f141) (by kernel_rfl) rfl rfl ?_
 refine wo ?_
 apply p_op; exact (Aa rfl); iterate 4 exact rfl
 refine As rfl fun bo => ⟨_, rfl, ?_⟩
 refine wo ?_
 apply p_op; exact (Aa rfl); iterate 4 exact rfl
 refine As rfl fun bb => ⟨_, rfl, ?_⟩
 refine wo ?_
 apply wm; iterate 5 exact rfl
 refine Af (v := .b false) rfl rfl (Bm (by omega))
 refine wo ?_
 refine zX (HN rfl) ?_
 refine wo ?_
 apply p_op; exact (Aa rfl); iterate 4 exact rfl
 refine e_copy (C' := (keyB k).map byV) (vs := k.map byV) rfl rfl hA.z (by simp) (by rw [show min k.length 64 = k.length by omega]; exact Ip (by simp)) (fun e => by have := congrArg List.length e; rw [List.length_map, List.length_nil] at this; omega) (by simp; omega) (by
  unfold Cg keyB
  rw [List.take_zero, List.nil_append, Nat.zero_add, List.map_append, List.length_map, List.drop_replicate, List.map_replicate]
  rfl) ⟨_, rfl, ?_⟩
 refine wo ?_
 refine zX (AO (s := 63) (cs := (keyB k).map byV) rfl (by rw [List.drop_zero]; exact Ip (by rw [List.length_map]; omega)) (by rw [List.length_map]; exact hkl)) ?_
 apply p_do; exact (Aa rfl); exact rfl; exact rfl
 refine AG (C' := (keyB k).map byV) rfl rfl (fun e => by have := congrArg List.length e; rw [List.length_map, hkl] at this; simp at this) (by rw [List.length_map, hkl]) (by simp) (AC (by rw [List.length_map, hkl]; simp)) ⟨_, rfl, ?_⟩
 refine wo ?_
 exact Ay (Ag (AR (AB rfl (by rw [List.length_map, hkl]))) rfl)
abbrev kyO (bs : Nat) (ob : List UInt8) : VO := Am (.p (some (bs, 0)) :: ob.map byV) 227
set_option maxHeartbeats 4000000 in
theorem macnew_d {k : List UInt8} {A : Option (Nat × Nat)} {c : Nat} {op : Bool} {hp : Hp} (ho : OkH hp) (hk : Tab ⟨hp, []⟩) (hA : RB ⟨hp, []⟩ A (k.map byV)) (h0 : 0 < k.length) (h1 : k.length ≤ 64) :
  Fn kxD 120 [.sl A k.length c op] hp [] fun r N => ∃ u, r = .v u ∧ ∃ bk bs cs, u = .p (some (bk, 0)) ∧ StT cs (ipad k) 64 ∧ N = [(some bk, kyO bs (opad k)), (some bs, Am cs 241)] := by
 have hkl := H8 h1
 refine Au (T := []) ho.sv (fun _ => rfl) (fn := Tryz.f120) (by kernel_rfl) rfl rfl ?_
 refine wo ?_
 apply EG [] []; exact (Aa rfl); iterate 4 exact rfl
 case hn => decide
 case hC => exact (fun hp hs ht => shanew_d hs.ok (hk.give0 hs))
 rintro u N ⟨bs, cs, rfl, hst, rfl⟩
 refine wo ?_
 refine AY (Aa rfl) rfl rfl rfl rfl (fun hp hs => macblock_d hs.ok (hA.give0 hs) h0 h1) ?_
 apply wn; iterate 5 exact rfl
 refine Av (C := .p (some (bs, 0)) :: (keyB k).map byV) (.cons rfl rfl rfl rfl (Io rfl) (.cons rfl rfl rfl (by rw [List.length_map, hkl]) (Io rfl) .nil)) (by
  have e : ((keyB k).map byV).length = 64 := by rw [List.length_map, hkl]
  simp only [DC, Cg, e]
  simp)
 apply p_op; exact (Aa rfl); iterate 4 exact rfl
 refine Br rfl rfl fun bk => ⟨_, rfl, ?_⟩
 refine wo ?_
 refine zX (AO (s := 63) (cs := (keyB k).map byV) rfl (by rw [Nat.zero_add, List.drop_succ_cons, List.drop_zero]; exact Ip (by rw [List.length_map]; omega)) (by rw [List.length_map]; exact hkl)) ?_
 apply p_op; exact (Aa rfl); iterate 4 exact rfl
 refine As rfl fun bf => ⟨_, rfl, ?_⟩
 apply p_do; exact (Aa rfl); exact rfl; exact rfl
 refine AG (C' := (keyB k).map byV) rfl rfl (fun e => by have := congrArg List.length e; rw [List.length_map, hkl] at this; simp at this) (by rw [List.length_map, hkl]) (by simp) (AC (by rw [List.length_map, hkl]; simp)) ⟨_, rfl, ?_⟩
 refine wo ?_
 refine BM ?_
 refine wo ?_
 refine Bq (ι := Nat) (fun i => [(15, .i .i64 (i : Nat)), (4, .p (some (bf, 0))), (3, .p (some (bk, 0)))])
  (fun i => [(some bf, Am ((xorL (keyB k) 54 i).map byV) 224), (some bk, kyO bs (xorL (keyB k) 92 i)), (some bs, Am cs 241)])
  (fun i => i ≤ 64) (fun i => 64 - i) 0 (Nat.zero_le _) ⟨rfl, rfl, rfl, trivial⟩ (fun hp h => by rw [xorL_zero, xorL_zero]; exact h) ?_
 intro i hi
 have l1 : (xorL (keyB k) 54 i).length = 64 := (xorL_len (by omega)).trans hkl
 have l2 : (xorL (keyB k) 92 i).length = 64 := (xorL_len (by omega)).trans hkl
 refine wo ?_
 by_cases g : i < 64
 ·obtain ⟨y, hy⟩ : ∃ y, (keyB k)[i]? = some y := ⟨(keyB k)[i], Iq (by omega)⟩
  apply wm; iterate 5 exact rfl
  refine Af (v := .b true) rfl rfl (AL (by omega))
  refine wo ?_
  apply wn; iterate 5 exact rfl
  refine FR rfl rfl g
  refine zX (Bi (v := byV y) rfl (by rw [Nat.zero_add, List.getElem?_map, xorL_at hy]; rfl)) ?_
  apply wm; iterate 5 exact rfl
  refine m_xorB (y := 54) rfl rfl
  apply wn; iterate 5 exact rfl
  refine FR rfl rfl g
  apply p_do; exact (Aa rfl); exact rfl; exact rfl
  refine e_st (C := (xorL (keyB k) 54 i).map byV) (C' := (xorL (keyB k) 54 (i + 1)).map byV) rfl rfl rfl (by rw [List.length_map, l1]; omega) (by rw [Nat.zero_add, ← List.map_set, xorL_set hy]) ⟨_, rfl, ?_⟩
  refine wo ?_
  apply dn; iterate 5 exact rfl
  refine FR rfl rfl g
  refine yX (Bi (v := byV y) rfl (by rw [show 0 + 1 + i = i + 1 by omega, List.getElem?_cons_succ, List.getElem?_map, xorL_at hy]; rfl)) ?_
  apply dm; iterate 6 exact rfl
  refine m_xorB (y := 92) rfl rfl
  refine wo ?_
  apply dn; iterate 5 exact rfl
  refine FR rfl rfl g
  apply d_do; exact (Aa rfl); exact rfl; exact noRd rfl; decide +kernel; exact rfl; rotate_left
  refine e_st (C := .p (some (bs, 0)) :: (xorL (keyB k) 92 i).map byV) (C' := .p (some (bs, 0)) :: (xorL (keyB k) 92 (i + 1)).map byV) rfl rfl rfl (by rw [List.length_cons, List.length_map, l2]; omega) (by rw [show 0 + 1 + i = i + 1 by omega, List.set_cons_succ, ← List.map_set, xorL_set hy]) ⟨_, rfl, ?_⟩
  try (case hok => exact Bf (by decide +kernel))
  refine wo ?_
  exact ⟨rfl, i + 1, g, by omega, ⟨rfl, rfl, rfl, trivial⟩, fun hp h => h⟩
 ·apply wm; iterate 5 exact rfl
  refine Af (v := .b false) rfl rfl (AF (by omega))
  refine wo ?_
  refine Bd ?_
  obtain rfl : i = 64 := by omega
  rw [xorL_all hkl, xorL_all hkl]
  refine wo ?_
  refine yX (HN rfl) ?_
  have hil : (ipad k).length = 64 := by rw [ipad, List.length_map, hkl]
  apply d_callX [2] [0, 1]; exact (Aa rfl); decide +kernel; (iterate 4 exact rfl)
  case hn => decide
  try (case hok => exact Bf (by decide +kernel))
  case hC => exact (fun hp hs ht => write_n (xs := ipad k) hil ht (hk.give hs) (ES hs (i := 0) rfl (by rw [List.drop_zero]; exact Ip (Nat.le_refl _))) (Nat.le_refl _) hst (by omega))
  rintro u N ⟨rfl, cs', hst', rfl⟩
  refine wo ?_
  refine D3 (L' := [(some bk, kyO bs (opad k)), (some bs, Am cs' 241)]) (fun hp h => h.pick [2, 0] _ rfl (by decide)) ?_
  refine Ay (Ag (AR (Ai rfl)) ⟨_, rfl, _, _, _, rfl, ?_, rfl⟩)
  exact hst'
set_option maxHeartbeats 4000000 in
theorem macwrite_d {bk bs c t : Nat} {op : Bool} {A : Option (Nat × Nat)} {kc : List V} {xs m : List UInt8} {cs : List V} {hp : Hp} (h0 : SV ⟨hp, [bs]⟩ hp [(some bs, Am cs 241)]) (hk : Tab ⟨hp, [bs]⟩) (hK : RB ⟨hp, [bs]⟩ (some (bk, 0)) (.p (some (bs, 0)) :: kc)) (hA : RB ⟨hp, [bs]⟩ A (xs.map byV)) (hc : CapOk xs.length c op) (hst : StT cs m t) (hl : t + xs.length < 4611686018427387904) :
  Fn kxD 121 [.p (some (bk, 0)), .sl A xs.length c op] hp [bs] fun r N => ∃ u, r = .v u ∧ (u = .tup [] ∧ ∃ cs', StT cs' (m ++ xs) (t + xs.length) ∧ N = [(some bs, Am cs' 241)]) := by
 refine Au h0 (fun _ => rfl) (fn := Tryz.f121) (by kernel_rfl) rfl rfl ?_
 refine wo ?_
 apply wm; iterate 5 exact rfl
 refine m_neqp rfl rfl
 refine wo ?_
 apply wm; iterate 5 exact rfl
 refine BO rfl hK.1 hK.2 rfl (j := 0) rfl
 refine wo ?_
 apply EG [0] []; exact (Aa rfl); iterate 4 exact rfl
 case hn => decide
 case hC => exact (fun hp hs ht => write_g ht (hk.give hs) (hA.give hs) hc hst hl)
 rintro u N ⟨rfl, cs', hst', rfl⟩
 refine wo ?_
 exact Gm vres0 ⟨_, rfl, rfl, _, hst', rfl⟩
theorem prOk_two {B : Bs} {A A' : Option (Nat × Nat)} {x y : List UInt8} {c d : Nat} (h1 : RB B A (x.map byV)) (h2 : RB B A' (y.map byV)) (hx : x.length ≤ c) (hy : y.length ≤ d) : PrOk B [(A, x, c, false), (A', y, d, false)] := fun p hp => by
 rcases List.mem_cons.1 hp with rfl | hp
 ·exact ⟨h1, capOk_f hx⟩
 ·rcases List.mem_cons.1 hp with rfl | hp
  ·exact ⟨h2, capOk_f hy⟩
  ·simp at hp
theorem prB_two (A B : Option (Nat × Nat)) (x y : List UInt8) (c d : Nat) : prB [(A, x, c, false), (B, y, d, false)] = x ++ y := by simp [prB]
set_option maxHeartbeats 4000000 in
theorem maccode_d {bk bs : Nat} {k m : List UInt8} {cs : List V} {hp : Hp} (ho : OkH hp) (hk : Tab ⟨hp, []⟩) (hkl : k.length ≤ 64) (hw : wkB bk = false) (hK : RB ⟨hp, []⟩ (some (bk, 0)) (.p (some (bs, 0)) :: (opad k).map byV)) (hS : RB ⟨hp, []⟩ (some (bs, 0)) cs) (hst : StT cs m m.length) (hl : m.length < 288230376151711744) :
  Fn kxD 122 [.p (some (bk, 0))] hp [] fun r _ => r = .v (.agg ((sumB (opad k ++ sumB m)).map byV)) := by
 have hol : (opad k).length = 64 := by rw [opad, List.length_map, H8 hkl]
 refine Au (T := []) ho.sv (fun _ => rfl) (fn := Tryz.f122) (by kernel_rfl) rfl rfl ?_
 refine wo ?_
 apply p_op; exact (Aa rfl); iterate 4 exact rfl
 refine As rfl fun bo => ⟨_, rfl, ?_⟩
 refine wo ?_
 apply wm; iterate 5 exact rfl
 refine m_eqp rfl rfl
 refine wo ?_
 apply wm; iterate 5 exact rfl
 refine BO rfl hK.1 hK.2 rfl (j := 0) rfl
 refine wo ?_
 refine AY (Aa rfl) rfl rfl rfl rfl (fun hp hs => sum_d hs.ok (hk.give0 hs) (hS.give0 hs) hst hl) ?_
 have hsl : ((sumB m).map byV).length = 32 := by rw [List.length_map, CE]
 apply p_op; exact (Aa rfl); iterate 4 exact rfl
 refine As rfl fun bh => ⟨_, rfl, ?_⟩
 apply p_do; exact (Aa rfl); exact rfl; exact rfl
 refine AG (C' := (sumB m).map byV) rfl rfl (fun e => by rw [e] at hsl; simp at hsl) hsl (by simp) (AC (by rw [hsl]; simp)) ⟨_, rfl, ?_⟩
 refine wo ?_
 refine yX (m_slawR rfl hw) ?_
 refine wo ?_
 refine yX (HN rfl) ?_
 refine wo ?_
 have e2 : [(some (bk, 0 + 1), opad k, 64, false), (some (bh, 0), sumB m, 32, false)].map prV = [.sl (some (bk, 0 + 1)) 64 64 false, .sl (some (bh, 0)) 32 32 false] := by
  simp only [List.map_cons, List.map_nil, prV, hol, CE]
 apply d_op; exact (Aa rfl); exact rfl; exact noRd rfl; decide +kernel; (iterate 3 exact rfl); rotate_left
 refine e_bs (C := [(some (bk, 0 + 1), opad k, 64, false), (some (bh, 0), sumB m, 32, false)].map prV) rfl rfl (by rw [e2]; exact .cons rfl rfl (.cons rfl rfl .nil)) rfl fun bp => ⟨_, rfl, ?_⟩
 try (case hok => exact A9)
 refine EL (Aa rfl) (by decide +kernel) rfl rfl rfl rfl (fun hp hs => shasum_d (ps := [(some (bk, 0 + 1), opad k, 64, false), (some (bh, 0), sumB m, 32, false)]) hs.ok (hk.give0 hs) (Cc hs (i := 0) rfl (Ip (Nat.le_refl _))) (prOk_two ((hK.give0 hs).drop 1) (Cc hs (i := 1) rfl (Ip (Nat.le_refl _))) (Nat.le_of_eq hol) (Nat.le_of_eq (CE m))) (by rw [prB_two, List.length_append, hol, CE]; decide) (Nat.lt_of_lt_of_le (Nat.lt_succ_self 2) (by decide))) ?_
 rw [prB_two]
 have hsl2 : ((sumB (opad k ++ sumB m)).map byV).length = 32 := by rw [List.length_map, CE]
 apply d_do; exact (Aa rfl); exact rfl; exact noRd rfl; decide +kernel; exact rfl; rotate_left
 refine AG (C' := (sumB (opad k ++ sumB m)).map byV) rfl rfl (fun e => by rw [e] at hsl2; simp at hsl2) hsl2 (by simp) (AC (by rw [hsl2]; simp)) ⟨_, rfl, ?_⟩
 try (case hok => exact Bf (by decide +kernel))
 refine wo ?_
 exact Ay (Ag (AR (AB rfl hsl2)) rfl)
set_option maxHeartbeats 4000000 in
theorem mac_d {k : List UInt8} {A P : Option (Nat × Nat)} {ps : List Prt} {c c' : Nat} {op op' : Bool} {hp : Hp} (ho : OkH hp) (hk : Tab ⟨hp, []⟩) (hA : RB ⟨hp, []⟩ A (k.map byV)) (h0 : 0 < k.length) (h1 : k.length ≤ 64) (hP : RB ⟨hp, []⟩ P (ps.map prV)) (hps : PrOk ⟨hp, []⟩ ps) (hl : (prB ps).length < 144115188075855872) (hn : ps.length < 4611686018427387904) :
  Fn kxD 94 [.sl A k.length c op, .sl P ps.length c' op'] hp [] fun r _ => r = .v (.agg ((macB k (prB ps)).map byV)) := by
 have hil : (ipad k).length = 64 := by rw [ipad, List.length_map, H8 h1]
 refine Au (T := []) ho.sv (fun _ => rfl) (fn := Tryz.f94) (by kernel_rfl) rfl rfl ?_
 refine wo ?_
 apply p_op; exact (Aa rfl); iterate 4 exact rfl
 refine As rfl fun bo => ⟨_, rfl, ?_⟩
 refine wo ?_
 apply EG [] [0]; exact (Aa rfl); iterate 4 exact rfl
 case hn => decide
 case hC => exact (fun hp hs ht => macnew_d hs.ok (hk.give0 hs) (hA.give0 hs) h0 h1)
 rintro u N ⟨bk, bs, cs0, rfl, hst0, rfl⟩
 refine wo ?_
 refine BM ?_
 refine wo ?_
 refine Bq (ι := Nat × List V) (fun s => [(12, .i .i64 (s.1 : Nat)), (11, .i .i64 (ps.length : Nat)), (10, .sl P ps.length c' op'), (5, .p (some (bk, 0))), (4, .p (some (bo, 0)))])
  (fun s => [(some bk, kyO bs (opad k)), (some bs, Am s.2 241), (some bo, Am (List.replicate 32 (byV 0)) 23)])
  (fun s => s.1 ≤ ps.length ∧ StT s.2 (ipad k ++ prB (ps.take s.1)) (ipad k ++ prB (ps.take s.1)).length) (fun s => ps.length - s.1) (0, cs0) ⟨Nat.zero_le _, by rw [List.take_zero, show prB [] = [] from rfl, List.append_nil, hil]; exact hst0⟩ ⟨rfl, rfl, rfl, rfl, rfl, trivial⟩ (fun hp h => h) ?_
 intro ⟨i, cs⟩ ⟨hi, hst⟩
 dsimp only at hi hst ⊢
 refine wo ?_
 by_cases g : i < ps.length
 ·apply wm; iterate 5 exact rfl
  refine Af (v := .b true) rfl rfl (AL (by omega))
  refine wo ?_
  obtain ⟨p, hv⟩ : ∃ p, ps[i]? = some p := ⟨ps[i], Iq g⟩
  have hpm : p ∈ ps := List.mem_of_getElem? hv
  have hv2 : (ps.map prV)[i]? = some (prV p) := by rw [List.getElem?_map, hv]; rfl
  obtain ⟨bp, opp, rfl⟩ : ∃ b o, P = some (b, o) := by
   cases hq : ps.map prV with
   | nil => rw [hq] at hv2; simp at hv2
   | cons v r => exact Cw (by rw [← hq]; exact hP.1.rv)
  apply wn; iterate 5 exact rfl
  refine p_ia rfl rfl g
  apply wm; iterate 5 exact rfl
  refine BO rfl hP.1 hP.2 rfl hv2
  refine wo ?_
  have hle := prB_le (ps := ps) (i := i + 1)
  rw [H5 hv, List.length_append] at hle
  apply EG [1] [0, 2]; exact (Aa rfl); iterate 4 exact rfl
  case hn => decide
  case hC => exact (fun hp hs ht => macwrite_d ht (hk.give hs) (ES hs (i := 0) rfl (Ip (Nat.le_refl _))) ((hps p hpm).1.give hs) (hps p hpm).2 hst (by rw [List.length_append]; omega))
  rintro u N ⟨rfl, cs', hst', rfl⟩
  refine wo ?_
  refine ⟨rfl, (i + 1, cs'), ⟨g, ?_⟩, by dsimp only; omega, ⟨rfl, rfl, rfl, rfl, rfl, trivial⟩, fun hp h => h.pick [1, 0, 2] _ rfl (by decide)⟩
  dsimp only
  rw [H5 hv, ← List.append_assoc, List.length_append]
  exact hst'
 ·apply wm; iterate 5 exact rfl
  refine Af (v := .b false) rfl rfl (AF (by omega))
  refine wo ?_
  refine Bd ?_
  obtain rfl : i = ps.length := by omega
  rw [List.take_length] at hst
  refine wo ?_
  refine AY (Aa rfl) rfl rfl rfl rfl (fun hp hs => maccode_d hs.ok (hk.give0 hs) h1 (FV (hs.has 0 _ _ rfl).2.1.1) (Cc hs (i := 0) rfl (Ip (Nat.le_refl _))) (Cc hs (i := 1) rfl (Ip (Nat.le_refl _))) hst (by rw [List.length_append]; omega)) ?_
  have hsl : ((sumB (opad k ++ sumB (ipad k ++ prB ps))).map byV).length = 32 := by rw [List.length_map, CE]
  apply p_do; exact (Aa rfl); exact rfl; exact rfl
  refine AG (C' := (macB k (prB ps)).map byV) rfl rfl (fun e => by rw [e] at hsl; simp at hsl) hsl (by simp) (AC (by rw [hsl]; simp)) ⟨_, rfl, ?_⟩
  refine wo ?_
  exact Ay (Ag (AR (AB rfl hsl)) rfl)
end Go.Proofs.YtbmkclbghfbegaaGreatDoor
/- Ds7: digest's cut, mac's Equal, a book's code. By this project. -/
set_option maxRecDepth 100000
namespace Go.Proofs.YtbmkclbghfbegaaGreatDoor
open Go.RowKit Go.Extern.Stop
def cutY (bits i : Nat) (y : UInt8) : UInt8 := if min 8 (bits - 8 * i) < 8 then y &&& UInt8.ofNat (255 * 2 ^ (8 - min 8 (bits - 8 * i))) else y
def cutB (bits : Nat) (h : List UInt8) : List UInt8 := h.mapIdx (cutY bits)
theorem Dk (bits : Nat) (h : List UInt8) : (cutB bits h).length = h.length := by simp [cutB]
def cutP (bits : Nat) (h : List UInt8) (i : Nat) : List UInt8 := (cutB bits h).take i ++ h.drop i
theorem cutP_len {bits : Nat} {h : List UInt8} {i : Nat} (hi : i ≤ h.length) : (cutP bits h i).length = h.length := by simp [cutP, Dk]; omega
theorem cutP_at {bits : Nat} {h : List UInt8} {i : Nat} {y : UInt8} (hy : h[i]? = some y) : (cutP bits h i)[i]? = some y := by
 obtain ⟨hi, e⟩ := Iv.1 hy
 unfold cutP
 have e2 : ((cutB bits h).take i).length = i := by rw [List.length_take, Dk]; omega
 rw [List.getElem?_append_right (by omega), e2, Nat.sub_self, List.getElem?_drop, Nat.add_zero]
 exact hy
theorem cutP_set {bits : Nat} {h : List UInt8} {i : Nat} {y : UInt8} (hy : h[i]? = some y) : (cutP bits h i).set i (cutY bits i y) = cutP bits h (i + 1) := by
 obtain ⟨hi, e⟩ := Iv.1 hy
 unfold cutP
 have e2 : ((cutB bits h).take i).length = i := by rw [List.length_take, Dk]; omega
 rw [List.set_append_right _ _ (by omega), e2, Nat.sub_self, List.drop_eq_getElem_cons hi, List.set_cons_zero, List.take_succ_eq_append_getElem (by rw [Dk]; exact hi), List.append_assoc]
 simp [cutB, e]
theorem cutP_same {bits : Nat} {h : List UInt8} {i : Nat} {y : UInt8} (hy : h[i]? = some y) (hc : cutY bits i y = y) : cutP bits h i = cutP bits h (i + 1) := by
 rw [← cutP_set hy, hc]
 obtain ⟨h1, h2⟩ := Iv.1 (cutP_at (bits := bits) hy)
 conv => lhs; rw [← List.set_getElem_self h1, h2]
theorem cutP_all {bits : Nat} {h : List UInt8} {n : Nat} (hn : h.length = n) : cutP bits h n = cutB bits h := by
 unfold cutP
 rw [Ip (by rw [Dk]; omega), List.drop_of_length_le (by omega), List.append_nil]
set_option maxHeartbeats 4000000 in
theorem cut_d {h : List UInt8} {bits : Nat} (hh : h.length = 32) (hb : bits ≤ 256) {hp : Hp} (ho : OkH hp) :
  Fn kxD 93 [.agg (h.map byV), .i .i64 (bits : Int)] hp [] fun r _ => r = .v (.agg ((cutB bits h).map byV)) := by
 have hne : ∀ {l : List UInt8}, l.length = 32 → l.map byV ≠ [] := fun {l} hl e => by have := congrArg List.length e; rw [List.length_map, hl] at this; simp at this
 refine Au (T := []) ho.sv (fun _ => rfl) (fn := Tryz.f93) (by kernel_rfl) rfl rfl ?_
 refine wo ?_
 apply p_op; exact (Aa rfl); iterate 4 exact rfl
 refine Br rfl rfl fun bh => ⟨_, rfl, ?_⟩
 apply p_op; exact (Aa rfl); iterate 4 exact rfl
 refine As rfl fun bo => ⟨_, rfl, ?_⟩
 refine wo ?_
 refine BM ?_
 refine wo ?_
 refine Bq (ι := Nat) (fun i => [(7, .i .i64 (i : Nat)), (1, .i .i64 (bits : Nat)), (4, .p (some (bo, 0))), (2, .p (some (bh, 0)))])
  (fun i => [(some bo, Am (List.replicate 32 (byV 0)) 23), (some bh, Am ((cutP bits h i).map byV) 23)])
  (fun i => i ≤ 32) (fun i => 32 - i) 0 (Nat.zero_le _) ⟨rfl, rfl, rfl, rfl, trivial⟩ (fun hp h' => by
   have e : cutP bits h 0 = h := by simp [cutP]
   rw [e]
   exact h') ?_
 intro i hi
 have hll : (cutP bits h i).length = 32 := (cutP_len (by omega)).trans hh
 refine wo ?_
 by_cases c : i < 32
 ·apply wm; iterate 5 exact rfl
  refine Af (v := .b true) rfl rfl (AL (by omega))
  refine wo ?_
  obtain ⟨y, hy⟩ : ∃ y, h[i]? = some y := ⟨h[i], Iq (by omega)⟩
  apply wm; iterate 5 exact rfl
  refine m_subI rfl rfl (by omega)
  apply wm; iterate 5 exact rfl
  refine m_minI rfl rfl
  apply wm; iterate 5 exact rfl
  refine m_maxI rfl rfl
  rw [show max (0 : Int) (min 8 ((bits : Int) - ((8 * i : Nat) : Int))) = ((min 8 (bits - 8 * i) : Nat) : Int) by omega]
  refine wo ?_
  by_cases g : min 8 (bits - 8 * i) < 8
  ·apply wm; iterate 5 exact rfl
   refine Af (v := .b true) rfl rfl (AL (by omega))
   refine wo ?_
   apply dn; iterate 5 exact rfl
   refine FR rfl rfl c
   refine yX (Bi (v := byV y) rfl (by rw [Nat.zero_add, List.getElem?_map, cutP_at hy]; rfl)) ?_
   refine wo ?_
   apply dm; iterate 6 exact rfl
   refine m_shlB (x := 255) rfl rfl (by omega)
   apply dm; iterate 6 exact rfl
   refine m_andB rfl rfl
   apply dn; iterate 5 exact rfl
   refine FR rfl rfl c
   apply d_do; exact (Aa rfl); exact rfl; exact noRd rfl; decide +kernel; exact rfl; rotate_left
   refine e_st (C := (cutP bits h i).map byV) (C' := (cutP bits h (i + 1)).map byV) rfl rfl rfl (by rw [List.length_map, hll]; omega) (by
    rw [Nat.zero_add, ← List.map_set]
    have e : cutY bits i y = y &&& UInt8.ofNat (UInt8.toNat 255 * 2 ^ (8 - min 8 (bits - 8 * i))) := by unfold cutY; rw [if_pos g]; rfl
    rw [← e, cutP_set hy]) ⟨_, rfl, ?_⟩
   try (case hok => exact Bf (by decide +kernel))
   refine wo ?_
   exact ⟨rfl, i + 1, c, by omega, ⟨rfl, rfl, rfl, rfl, trivial⟩, fun hp h' => h'⟩
  ·apply wm; iterate 5 exact rfl
   refine Af (v := .b false) rfl rfl (AF (by omega))
   refine wo ?_
   exact ⟨rfl, i + 1, c, by omega, ⟨rfl, rfl, rfl, rfl, trivial⟩, fun hp h' => by
    rw [← cutP_same hy (by unfold cutY; rw [if_neg g])]
    exact h'⟩
 ·apply wm; iterate 5 exact rfl
  refine Af (v := .b false) rfl rfl (AF (by omega))
  refine wo ?_
  refine Bd ?_
  obtain rfl : i = 32 := by omega
  rw [cutP_all hh]
  have hcl : ((cutB bits h).map byV).length = 32 := by rw [List.length_map, Dk, hh]
  refine wo ?_
  refine zX (AO (s := 31) (cs := (cutB bits h).map byV) rfl (by rw [List.drop_zero]; exact Ip (by omega)) hcl) ?_
  apply p_do; exact (Aa rfl); exact rfl; exact rfl
  refine AG (C' := (cutB bits h).map byV) rfl rfl (fun e => by rw [e] at hcl; simp at hcl) hcl (by simp) (AC (by rw [hcl]; simp)) ⟨_, rfl, ?_⟩
  refine wo ?_
  exact Ay (Ag (AR (AB rfl hcl)) rfl)
def difB (a b : List UInt8) (i : Nat) : UInt8 := ((a.zip b).take i).foldl (fun d p => d ||| (p.1 ^^^ p.2)) 0
theorem orB_zero {x y : UInt8} : x ||| y = 0 ↔ x = 0 ∧ y = 0 := by
 rw [← UInt8.toNat_inj, ← UInt8.toNat_inj, ← UInt8.toNat_inj, UInt8.toNat_or]
 show x.toNat ||| y.toNat = 0 ↔ x.toNat = 0 ∧ y.toNat = 0
 exact Nat.or_eq_zero_iff
theorem xorB_zero {x y : UInt8} : x ^^^ y = 0 ↔ x = y := UInt8.xor_eq_zero_iff
theorem difB_succ {a b : List UInt8} {i : Nat} {x y : UInt8} (hx : a[i]? = some x) (hy : b[i]? = some y) : difB a b (i + 1) = difB a b i ||| (x ^^^ y) := by
 have hz : (a.zip b)[i]? = some (x, y) := List.getElem?_zip_eq_some.2 ⟨hx, hy⟩
 obtain ⟨h1, h2⟩ := Iv.1 hz
 unfold difB
 rw [List.take_succ_eq_append_getElem h1, List.foldl_append, h2]
 rfl
theorem difB_zero {a b : List UInt8} (hl : a.length = b.length) : ∀ i, i ≤ a.length → (difB a b i = 0 ↔ a.take i = b.take i)
 | 0, _ => by simp [difB]
 | i + 1, h => by
  have hx : a[i]? = some a[i] := Iq (by omega)
  have hy : b[i]? = some b[i] := Iq (by omega)
  rw [difB_succ hx hy, orB_zero, xorB_zero, difB_zero hl i (by omega), List.take_succ_eq_append_getElem (by omega), List.take_succ_eq_append_getElem (by omega)]
  constructor
  ·rintro ⟨h1, h2⟩
   rw [h1, h2]
  ·intro h'
   have := List.append_inj h' (by simp; omega)
   exact ⟨this.1, by simpa using this.2⟩
set_option maxHeartbeats 4000000 in
theorem equal_d {a b : List UInt8} (ha : a.length = 32) (hb : b.length = 32) {hp : Hp} (ho : OkH hp) :
  Fn kxD 81 [.agg (a.map byV), .agg (b.map byV)] hp [] fun r _ => r = .v (.b (decide (a = b))) := by
 refine Au (T := []) ho.sv (fun _ => rfl) (fn := Tryz.f81) (by kernel_rfl) rfl rfl ?_
 refine wo ?_
 apply p_op; exact (Aa rfl); iterate 4 exact rfl
 refine Br rfl rfl fun pa => ⟨_, rfl, ?_⟩
 apply p_op; exact (Aa rfl); iterate 4 exact rfl
 refine Br rfl rfl fun pb => ⟨_, rfl, ?_⟩
 refine wo ?_
 refine BM ?_
 refine wo ?_
 refine Bq (ι := Nat) (fun i => [(7, .i .i64 (i : Nat)), (5, byV (difB a b i)), (3, .p (some (pb, 0))), (2, .p (some (pa, 0)))])
  (fun i => [(some pb, Am (b.map byV) 23), (some pa, Am (a.map byV) 23)])
  (fun i => i ≤ 32) (fun i => 32 - i) 0 (Nat.zero_le _) ⟨rfl, rfl, rfl, rfl, trivial⟩ (fun hp h' => h') ?_
 intro i hi
 refine wo ?_
 by_cases c : i < 32
 ·apply wm; iterate 5 exact rfl
  refine Af (v := .b true) rfl rfl (AL (by omega))
  refine wo ?_
  have hx : a[i]? = some a[i] := Iq (by omega)
  have hy : b[i]? = some b[i] := Iq (by omega)
  apply dn; iterate 5 exact rfl
  refine FR rfl rfl c
  refine yX (Bi (v := byV a[i]) rfl (by rw [Nat.zero_add, List.getElem?_map, hx]; rfl)) ?_
  refine wo ?_
  apply dn; iterate 5 exact rfl
  refine FR rfl rfl c
  refine yX (Bi (v := byV b[i]) rfl (by rw [Nat.zero_add, List.getElem?_map, hy]; rfl)) ?_
  apply dm; iterate 6 exact rfl
  refine m_xorB rfl rfl
  apply dm; iterate 6 exact rfl
  refine m_orB rfl rfl
  refine wo ?_
  exact ⟨rfl, i + 1, c, by omega, ⟨rfl, by rw [difB_succ hx hy]; rfl, rfl, rfl, trivial⟩, fun hp h' => h'⟩
 ·apply wm; iterate 5 exact rfl
  refine Af (v := .b false) rfl rfl (AF (by omega))
  refine wo ?_
  refine Bd ?_
  obtain rfl : i = 32 := by omega
  have hd := difB_zero (a := a) (b := b) (by omega) 32 (by omega)
  rw [Ip (by omega), Ip (by omega)] at hd
  refine wo ?_
  by_cases e : a = b
  ·rw [hd.2 e]
   apply wm; iterate 5 exact rfl
   refine Af (v := .b true) rfl rfl (Be (rfl))
   refine wo ?_
   exact Ay (Ag (AR (Ai rfl)) (by rw [decide_eq_true e]))
  ·have hn : ¬ difB a b 32 = 0 := fun h' => e (hd.1 h')
   apply wm; iterate 5 exact rfl
   refine Af (v := .b false) rfl rfl (BW ((fun h' => hn (UInt8.toNat_inj.1 (Int.ofNat.inj h')))))
   refine wo ?_
   exact Ay (Ag (AR (Ai rfl)) (by rw [decide_eq_false e]))
/- Ds8: what a book has noted: strings by their hashes; a string noted. By this project. -/
theorem mapS_of : ∀ (ss : List (List UInt8)), mapO asS (ss.map V.s) = some ss
 | [] => rfl
 | x :: r => by rw [List.map_cons, Bb, mapS_of r]; rfl
theorem sort_d {b : Nat} {E : TypeId} {ss : List (List UInt8)} {hp : Hp} (h0 : SV ⟨hp, [b]⟩ hp [(some b, .cells (ss.map .s) E (some 1) false)]) (hl : ss.length ≤ 1000000000) :
  Fn kxD 95 [.sl (some (b, 0)) ss.length ss.length true] hp [b] fun r N => ∃ u, r = .v u ∧ N = [(some b, .cells ((srtB ss).map .s) E (some 1) false)] := by
 unfold Fn
 have hput := Fb (o' := .cells ((srtB ss).map V.s) E (some 1) false) (i := 0) h0 rfl
 refine ⟨.v (.tup []), _, ⟨1, fun n hn => ?_⟩, [(some b, .cells ((srtB ss).map .s) E (some 1) false)], hput.1, hput.2, _, rfl, rfl⟩
 obtain ⟨n, rfl⟩ : ∃ k, n = k + 1 := ⟨n - 1, by omega⟩
 have e5 : hp.getW b = some (.cells (ss.map .s) E (some 1) false) := EJ (i := 0) h0 rfl
 have e1 : Gt (Hv (ss.map V.s) 0) ss.length = ss.map V.s := by rw [Cp, Cr, List.drop_zero]; exact Ip (by simp)
 have e2 : (Nat.beq (lenF ss) ss.length && (Nat.ble ss.length 1000000000 && geL (ss.map V.s) (0 + ss.length))) = true := by
  rw [Bj]
  have : geL (ss.map V.s) (0 + ss.length) = true := CJ.2 (by simp)
  rw [this, Nat.beq_refl, G9 hl]
  rfl
 have e3 : appF (Gt (ss.map V.s) 0) (appF ((srtB ss).map V.s) (Hv (ss.map V.s) (0 + ss.length))) = (srtB ss).map V.s := by
  rw [Cd, Cd, Cp, Cr, List.take_zero, List.nil_append, List.drop_of_length_le (by simp), List.append_nil]
 have e6 : srtExt 95 95 [.sl (some (b, 0)) ss.length ss.length true] hp = some (.v (.tup []), hp.put b (some (.cells ((srtB ss).map .s) E (some 1) false))) := by
  show (match hp.getW b with | _ => _) = _
  simp only [srtExt, e5, e1, mapS_of, Ir, e2, e3]
 have q : muExt 48 95 [.sl (some (b, 0)) ss.length ss.length true] hp = none := rfl
 have q2 : shaExt 159 4 95 [.sl (some (b, 0)) ss.length ss.length true] hp = none := rfl
 simp only [BN, orExt, q, q2, e6]
theorem sort_n {b n : Nat} {E : TypeId} {C : List V} (ss : List (List UInt8)) {hp : Hp} (hC : C = ss.map V.s) (hn : ss.length = n) (h0 : SV ⟨hp, [b]⟩ hp [(some b, .cells C E (some 1) false)]) (hl : n ≤ 1000000000) :
  Fn kxD 95 [.sl (some (b, 0)) n n true] hp [b] fun r N => ∃ u, r = .v u ∧ N = [(some b, .cells ((srtB ss).map .s) E (some 1) false)] := by
 subst hC hn
 exact sort_d h0 hl
theorem SV.lastL {B : Bs} {hp : Hp} {x : Option Nat × VO} {L : HV} (h : SV B hp (x :: L)) : SV B hp (L ++ [x]) := h.perm (List.perm_append_singleton x L).symm
theorem SV.midL {B : Bs} {hp : Hp} {x : Option Nat × VO} {L M : HV} (h : SV B hp (x :: (L ++ M))) : SV B hp (L ++ x :: M) := h.perm List.perm_middle.symm
theorem SV.frontL {B : Bs} {hp : Hp} {x : Option Nat × VO} {L M : HV} (h : SV B hp (L ++ x :: M)) : SV B hp (x :: (L ++ M)) := h.perm List.perm_middle
structure Grp where
 h : List UInt8
 b : Nat
 ss : List (List UInt8)
structure Nt where
 a : Nat
 s : Nat
 all : List (List UInt8)
 gs : List Grp
abbrev hK (xs : List UInt8) : V := .agg (xs.map byV)
abbrev grpV (g : Grp) : V := .sl (some (g.b, 0)) g.ss.length g.ss.length true
abbrev grpO (g : Grp) : Option Nat × VO := (some g.b, .cells (g.ss.map V.s) 9 (some 1) false)
abbrev ntA (n : Nt) : VO := .map (entE V.s n.all (n.all.map fun _ => V.b true)) n.all.length
abbrev ntS (n : Nt) : VO := .map (entE hK (n.gs.map (·.h)) (n.gs.map grpV)) (n.gs.map (·.h)).length
abbrev ntL (n : Nt) : HV := (some n.a, ntA n) :: (some n.s, ntS n) :: n.gs.map grpO
structure NtOk (hf : List UInt8 → List UInt8) (n : Nt) : Prop where
 nd : n.all.Nodup
 gd : (n.gs.map (·.h)).Nodup
 gl : ∀ g ∈ n.gs, g.h.length = 32
 gm : ∀ s ∈ n.all, hf s ∈ n.gs.map (·.h)
 gn : ∀ g ∈ n.gs, g.ss = srtB (n.all.filter (fun s => hf s == g.h)) ∧ g.ss ≠ []
def addS (all : List (List UInt8)) (s : List UInt8) : List (List UInt8) := if s ∈ all then all else all ++ [s]
theorem nt0 (hf : List UInt8 → List UInt8) (a s : Nat) : NtOk hf ⟨a, s, [], []⟩ := ⟨by simp, by simp, by simp, by simp, by simp⟩
theorem srtB_perm_eq {l l' : List (List UInt8)} (h : l.Perm l') : srtB l = srtB l' := by rw [← srtB_eq, ← srtB_eq]; exact mergeSort_of_perm h
theorem srtB_app (l : List (List UInt8)) (s : List UInt8) : srtB (srtB l ++ [s]) = srtB (l ++ [s]) := srtB_perm_eq ((Dy l).append_right _)
theorem nt_new {hf : List UInt8 → List UInt8} {n : Nt} {s : List UInt8} {b : Nat} (h : NtOk hf n) (hs : s ∉ n.all) (hg : hf s ∉ n.gs.map (·.h)) (hl : (hf s).length = 32) : NtOk hf ⟨n.a, n.s, n.all ++ [s], n.gs ++ [⟨hf s, b, [s]⟩]⟩ := by
 have hne : ∀ x ∈ n.all, hf x ≠ hf s := fun x hx e => hg (e ▸ h.gm x hx)
 refine ⟨?_, ?_, ?_, ?_, ?_⟩
 ·rw [List.nodup_append]
  exact ⟨h.nd, by simp, fun a ha b hb e => by simp at hb; subst hb; exact hs (e ▸ ha)⟩
 ·rw [List.map_append, List.nodup_append]
  exact ⟨h.gd, by simp, fun a ha b hb e => by simp at hb; subst hb; exact hg (e ▸ ha)⟩
 ·intro g hg'
  rcases List.mem_append.1 hg' with q | q
  ·exact h.gl g q
  ·simp at q; subst q; exact hl
 ·intro x hx
  rw [List.map_append]
  rcases List.mem_append.1 hx with q | q
  ·exact List.mem_append_left _ (h.gm x q)
  ·simp at q; subst q; simp
 ·intro g hg'
  rcases List.mem_append.1 hg' with q | q
  ·have e : (hf s == g.h) = false := by
    rw [beq_eq_false_iff_ne]
    intro e
    exact hg (e ▸ List.mem_map_of_mem (f := (·.h)) q)
   simp only [List.filter_append, List.filter_cons, e, List.filter_nil]
   simpa using h.gn g q
  ·simp only [List.mem_singleton] at q
   subst q
   have e : n.all.filter (fun x => hf x == hf s) = [] := List.filter_eq_nil_iff.2 fun x hx => by simpa using hne x hx
   simp [List.filter_append, e, srtB, insB]
theorem nt_old {hf : List UInt8 → List UInt8} {n : Nt} {s : List UInt8} {b : Nat} {g1 g2 : List Grp} {g : Grp} (h : NtOk hf n) (hs : s ∉ n.all) (hg : n.gs = g1 ++ g :: g2) (he : g.h = hf s) : NtOk hf ⟨n.a, n.s, n.all ++ [s], g1 ++ ⟨hf s, b, srtB (g.ss ++ [s])⟩ :: g2⟩ := by
 have hmap : (g1 ++ (⟨hf s, b, srtB (g.ss ++ [s])⟩ : Grp) :: g2).map (·.h) = n.gs.map (·.h) := by rw [hg]; simp [he]
 have hgm : g ∈ n.gs := by rw [hg]; simp
 refine ⟨?_, by rw [hmap]; exact h.gd, ?_, ?_, ?_⟩
 ·rw [List.nodup_append]
  exact ⟨h.nd, by simp, fun a ha b hb e => by simp at hb; subst hb; exact hs (e ▸ ha)⟩
 ·intro x hx
  rcases List.mem_append.1 hx with q | q
  ·exact h.gl x (by rw [hg]; exact List.mem_append_left _ q)
  ·rcases List.mem_cons.1 q with rfl | q
   ·show (hf s).length = 32
    rw [← he]; exact h.gl g hgm
   ·exact h.gl x (by rw [hg]; simp [q])
 ·intro x hx
  show hf x ∈ (g1 ++ (⟨hf s, b, srtB (g.ss ++ [s])⟩ : Grp) :: g2).map (·.h)
  rw [hmap]
  rcases List.mem_append.1 hx with q | q
  ·exact h.gm x q
  ·simp at q; subst q
   rw [← he]
   exact List.mem_map_of_mem hgm
 ·have hnd := h.gd
  rw [hg, List.map_append, List.map_cons, List.nodup_append] at hnd
  obtain ⟨d1, d2, d3⟩ := hnd
  rw [List.nodup_cons] at d2
  have other : ∀ x ∈ n.gs, x.h ≠ hf s → x.ss = srtB ((n.all ++ [s]).filter (fun y => hf y == x.h)) ∧ x.ss ≠ [] := fun x hx hne => by
   have e : (hf s == x.h) = false := by rw [beq_eq_false_iff_ne]; exact fun e => hne e.symm
   simp only [List.filter_append, List.filter_cons, e, List.filter_nil]
   simpa using h.gn x hx
  intro x hx
  rcases List.mem_append.1 hx with q | q
  ·refine other x (by rw [hg]; exact List.mem_append_left _ q) fun e => ?_
   exact d3 x.h (List.mem_map_of_mem q) g.h (by simp) (e.trans he.symm)
  ·rcases List.mem_cons.1 q with rfl | q
   ·obtain ⟨h1, h2⟩ := h.gn g hgm
    refine ⟨?_, ?_⟩
    ·show srtB (g.ss ++ [s]) = srtB ((n.all ++ [s]).filter (fun y => hf y == hf s))
     rw [List.filter_append, h1, srtB_app, he]
     simp
    ·show srtB (g.ss ++ [s]) ≠ []
     intro e
     have := (Dy (g.ss ++ [s])).length_eq
     rw [e] at this
     simp at this
   ·refine other x (by rw [hg]; simp [q]) fun e => ?_
    exact d2.1 (by rw [he, ← e]; exact List.mem_map_of_mem q)
/- Ds9: a string noted. By this project. -/
set_option maxHeartbeats 8000000 in
theorem note_d {hf : List UInt8 → List UInt8} {n : Nt} {b o : Nat} {s : List UInt8} {hp : Hp} (h0 : SV ⟨hp, hnds (ntL n)⟩ hp (ntL n)) (hok : NtOk hf n) (hR : RB ⟨hp, hnds (ntL n)⟩ (some (b, o)) [.m (some n.s), .m (some n.a)]) (hh : (hf s).length = 32) (hl : n.all.length < 100000000) :
  Fn kxD 74 [.p (some (b, o)), .s s, .agg ((hf s).map byV)] hp (hnds (ntL n)) fun r N => ∃ u, r = .v u ∧ (u = .tup [] ∧ ∃ n', NtOk hf n' ∧ n'.a = n.a ∧ n'.s = n.s ∧ n'.all = addS n.all s ∧ N = ntL n') := by
 have hhl : ((hf s).map byV).length = 32 := by rw [List.length_map, hh]
 have hvl : (n.all.map fun _ => V.b true).length = n.all.length := by simp
 have hgv : (n.gs.map grpV).length = (n.gs.map (·.h)).length := by simp
 have hgk : ∀ x ∈ n.gs.map (·.h), x.length = 32 := fun x hx => by
  obtain ⟨g, hg, rfl⟩ := List.mem_map.1 hx
  exact hok.gl g hg
 refine Au h0 (fun _ => rfl) (fn := Tryz.f74) (by kernel_rfl) rfl rfl ?_
 refine wo ?_
 apply p_op; exact (Aa rfl); iterate 4 exact rfl
 refine Br rfl rfl fun bh => ⟨_, rfl, ?_⟩
 refine wo ?_
 apply wm; iterate 5 exact rfl
 refine BO rfl hR.1 hR.2 (j := 1) rfl rfl
 refine wo ?_
 by_cases hs : s ∈ n.all
 ·obtain ⟨j, hj⟩ := List.getElem?_of_mem hs
  refine zX (Ef (v := .b true) rfl rfl fun hp hg => lk_some (C := kxD.C) (f := V.s) (ok := fun _ => True) hg (fun _ _ => trivial) hok.nd hvl hj (by rw [List.getElem?_map, hj]; rfl)) ?_
  refine wo ?_
  refine D3 (L' := ntL n) (fun hp h => h.tail (N := [_])) ?_
  exact Ay (Ag vres0 ⟨_, rfl, rfl, n, hok, rfl, rfl, (if_pos hs).symm, rfl⟩)
 ·refine zX (Ef (v := .b false) rfl rfl fun hp hg => lk_none (C := kxD.C) (f := V.s) (ok := fun _ => True) hg (fun _ _ => trivial) trivial hs hvl) ?_
  refine wo ?_
  apply wm; iterate 5 exact rfl
  refine BO rfl hR.1 hR.2 (j := 1) rfl rfl
  refine wo ?_
  apply p_do; exact (Aa rfl); exact rfl; exact rfl
  refine ev_mapup rfl rfl rfl (fun hp hg => up_none (C := kxD.C) (f := V.s) (ok := fun _ => True) hg (fun _ _ => trivial) trivial hs hvl) ⟨_, rfl, ?_⟩
  refine wo ?_
  by_cases hg : hf s ∈ n.gs.map (·.h)
  ·obtain ⟨g, hgm, hge⟩ := List.mem_map.1 hg
   obtain ⟨g1, g2, hgs⟩ := List.append_of_mem hgm
   have hgj : n.gs[g1.length]? = some g := by rw [hgs, List.getElem?_append_right (Nat.le_refl _)]; simp
   have hkj : (n.gs.map (·.h))[g1.length]? = some (hf s) := by rw [List.getElem?_map, hgj, Option.map_some, hge]
   have hvj : (n.gs.map grpV)[g1.length]? = some (grpV g) := by rw [List.getElem?_map, hgj, Option.map_some]
   have hgl : g.ss.length ≤ n.all.length := by
    rw [(hok.gn g hgm).1, (Dy _).length_eq]
    exact List.length_filter_le _ _
   refine wd_heap (L' := grpO g :: (some bh, Am ((hf s).map byV) 23) :: (some n.a, .map (entE V.s (n.all ++ [s]) ((n.all.map fun _ => V.b true) ++ [V.b true])) (n.all.length + 1)) :: (some n.s, ntS n) :: (g1 ++ g2).map grpO) (fun hp h => ?_) ?_
   ·rw [hgs, List.map_append, List.map_cons] at h
    rw [List.map_append]
    exact SV.frontL (L := [_, _, _] ++ g1.map grpO) h
   apply dm; iterate 6 exact rfl
   refine BO rfl hR.1 hR.2 (j := 0) rfl rfl
   refine yX (AO (s := 31) (cs := (hf s).map byV) rfl (by rw [List.drop_zero]; exact Ip (by omega)) hhl) ?_
   refine wo ?_
   apply d_op; exact (Aa rfl); exact rfl; exact noRd rfl; decide +kernel; (iterate 3 exact rfl); rotate_left
   refine e_bs (C := [.s s]) rfl rfl (.cons rfl rfl .nil) rfl fun bn => ⟨_, rfl, ?_⟩
   try (case hok => exact A9)
   apply d_op; exact (Aa rfl); exact rfl; exact noRd rfl; decide +kernel; (iterate 3 exact rfl); rotate_left
   refine ev_mapentry rfl (kv := hK (hf s)) rfl (fun hp hg' => ent_some (C := kxD.C) (f := hK) (ok := fun xs => xs.length = 32) hg' hgk hok.gd hgv hkj hvj) ⟨_, rfl, ?_⟩
   try (case hok => exact Bf (by decide +kernel))
   refine wo ?_
   apply d_op; exact (Aa rfl); exact rfl; exact noRd rfl; decide +kernel; (iterate 3 exact rfl); rotate_left
   refine e_appO (old := g.ss.map V.s) (new := [.s s]) rfl rfl (by simp) (Bw (k := 1) rfl) rfl (by decide) (by omega) fun bg => ⟨_, rfl, ?_⟩
   try (case hok => exact Bf (by decide +kernel))
   dsimp only [List.set]
   refine wo ?_
   apply d_do; exact (Aa rfl); exact rfl; exact noRd rfl; decide +kernel; exact rfl; rotate_left
   refine ev_entryst rfl rfl rfl (put_born (by simp) (v := grpV g) hvj) ⟨_, rfl, ?_⟩
   try (case hok => exact Bf (by decide +kernel))
   refine wo ?_
   apply dm; iterate 6 exact rfl
   refine BO rfl hR.1 hR.2 (j := 0) rfl rfl
   refine yX (AO (s := 31) (cs := (hf s).map byV) rfl (by rw [List.drop_zero]; exact Ip (by omega)) hhl) ?_
   refine yX (Ef (kv := hK (hf s)) (v := .sl (some (bg, 0)) (g.ss.length + 1) (g.ss.length + 1) true) rfl rfl fun hp hg' => lk_some (C := kxD.C) (f := hK) (ok := fun xs => xs.length = 32) (j := g1.length) hg' hgk hok.gd (by simp) hkj (by rw [List.getElem?_set_self (by rw [hgs]; simp)])) ?_
   apply D2 [1]; exact (Aa rfl); decide +kernel; (iterate 4 exact rfl)
   try (case hok => exact Bf (by decide +kernel))
   case hC => exact (fun hp hs' ht => sort_n (g.ss ++ [s]) (by simp) (by simp) ht (by omega))
   rintro u N rfl
   have hsl : (srtB (g.ss ++ [s])).length = g.ss.length + 1 := by rw [(Dy _).length_eq]; simp
   refine wd_heap (L' := ntL ⟨n.a, n.s, n.all ++ [s], g1 ++ ⟨hf s, bg, srtB (g.ss ++ [s])⟩ :: g2⟩) (fun hp h => ?_) ?_
   ·have e : ntL ⟨n.a, n.s, n.all ++ [s], g1 ++ ⟨hf s, bg, srtB (g.ss ++ [s])⟩ :: g2⟩ = (some n.a, .map (entE V.s (n.all ++ [s]) ((n.all.map fun _ => V.b true) ++ [V.b true])) (n.all.length + 1)) :: (some n.s, .map (entE hK (n.gs.map (·.h)) ((n.gs.map grpV).set g1.length (.sl (some (bg, 0)) (g.ss.length + 1) (g.ss.length + 1) true))) (n.gs.map (·.h)).length) :: (g1.map grpO ++ grpO ⟨hf s, bg, srtB (g.ss ++ [s])⟩ :: g2.map grpO) := by
     have e1 : (n.gs.map grpV).set g1.length (.sl (some (bg, 0)) (g.ss.length + 1) (g.ss.length + 1) true) = (g1 ++ (⟨hf s, bg, srtB (g.ss ++ [s])⟩ : Grp) :: g2).map grpV := by
      rw [hgs, List.map_append, List.set_append_right _ _ (by simp)]
      simp [hsl]
     have e2 : (g1 ++ (⟨hf s, bg, srtB (g.ss ++ [s])⟩ : Grp) :: g2).map (·.h) = n.gs.map (·.h) := by rw [hgs]; simp [hge]
     rw [e1, ← e2]
     simp
    rw [e]
    rw [List.map_append] at h
    exact SV.tail (N := [_, _]) (SV.midL (L := [_, _, _, _] ++ g1.map grpO) h)
   ·refine wo ?_
    exact Gm vres0 ⟨_, rfl, rfl, _, nt_old hok hs hgs hge, rfl, rfl, (if_neg hs).symm, rfl⟩
  ·apply dm; iterate 6 exact rfl
   refine BO rfl hR.1 hR.2 (j := 0) rfl rfl
   refine yX (AO (s := 31) (cs := (hf s).map byV) rfl (by rw [List.drop_zero]; exact Ip (by omega)) hhl) ?_
   refine wo ?_
   apply d_op; exact (Aa rfl); exact rfl; exact noRd rfl; decide +kernel; (iterate 3 exact rfl); rotate_left
   refine e_bs (C := [.s s]) rfl rfl (.cons rfl rfl .nil) rfl fun bn => ⟨_, rfl, ?_⟩
   try (case hok => exact A9)
   apply d_op; exact (Aa rfl); exact rfl; exact noRd rfl; decide +kernel; (iterate 3 exact rfl); rotate_left
   refine ev_mapentry rfl (kv := hK (hf s)) rfl (fun hp hg' => ent_none (C := kxD.C) (f := hK) (ok := fun xs => xs.length = 32) hg' hgk hh hg hgv) ⟨_, rfl, ?_⟩
   try (case hok => exact Bf (by decide +kernel))
   refine wo ?_
   apply d_op; exact (Aa rfl); exact rfl; exact noRd rfl; decide +kernel; (iterate 3 exact rfl); rotate_left
   refine e_app0 (new := [.s s]) rfl rfl (Bw (k := 1) rfl) rfl (by decide) (by decide) fun bg => ⟨_, rfl, ?_⟩
   try (case hok => exact A9)
   refine wo ?_
   apply d_do; exact (Aa rfl); exact rfl; exact noRd rfl; decide +kernel; exact rfl; rotate_left
   refine ev_entryst rfl rfl rfl (put_born (by simp) (v := .sl none 0 0 false) (by simp)) ⟨_, rfl, ?_⟩
   try (case hok => exact Bf (by decide +kernel))
   refine wo ?_
   apply dm; iterate 6 exact rfl
   refine BO rfl hR.1 hR.2 (j := 0) rfl rfl
   refine yX (AO (s := 31) (cs := (hf s).map byV) rfl (by rw [List.drop_zero]; exact Ip (by omega)) hhl) ?_
   have hset : ((n.gs.map grpV) ++ [V.sl none 0 0 false]).set (n.gs.map (·.h)).length (.sl (some (bg, 0)) 1 1 true) = n.gs.map grpV ++ [.sl (some (bg, 0)) 1 1 true] := by
    rw [List.set_append_right _ _ (by simp)]
    simp
   rw [hset]
   have hk2 : ∀ x ∈ n.gs.map (·.h) ++ [hf s], x.length = 32 := fun x hx => by
    rcases List.mem_append.1 hx with q | q
    ·exact hgk x q
    ·rw [List.mem_singleton.1 q]; exact hh
   have hd2 : (n.gs.map (·.h) ++ [hf s]).Nodup := by
    rw [List.nodup_append]
    exact ⟨hok.gd, by simp, fun a ha b hb e => by simp at hb; subst hb; exact hg (e ▸ ha)⟩
   have hl2 : (n.gs.map grpV ++ [V.sl (some (bg, 0)) 1 1 true]).length = (n.gs.map (·.h) ++ [hf s]).length := by simp
   have hj2 : (n.gs.map (·.h) ++ [hf s])[(n.gs.map (·.h)).length]? = some (hf s) := by simp
   have hv2 : (n.gs.map grpV ++ [V.sl (some (bg, 0)) 1 1 true])[(n.gs.map (·.h)).length]? = some (.sl (some (bg, 0)) 1 1 true) := by rw [List.getElem?_append_right (by simp)]; simp
   refine yX (Ef (kv := hK (hf s)) (v := .sl (some (bg, 0)) 1 1 true) rfl rfl fun hp hg' => lk_some (C := kxD.C) (f := hK) (ok := fun xs => xs.length = 32) hg' hk2 hd2 hl2 hj2 hv2) ?_
   apply D2 [0]; exact (Aa rfl); decide +kernel; (iterate 4 exact rfl)
   try (case hok => exact Bf (by decide +kernel))
   case hC => exact (fun hp hs' ht => sort_n [s] rfl rfl ht (by decide))
   rintro u N rfl
   refine wd_heap (L' := ntL ⟨n.a, n.s, n.all ++ [s], n.gs ++ [⟨hf s, bg, [s]⟩]⟩) (fun hp h => ?_) ?_
   ·have e : ntL ⟨n.a, n.s, n.all ++ [s], n.gs ++ [⟨hf s, bg, [s]⟩]⟩ = (some n.a, .map (entE V.s (n.all ++ [s]) ((n.all.map fun _ => V.b true) ++ [V.b true])) (n.all.length + 1)) :: (some n.s, .map (entE hK (n.gs.map (·.h) ++ [hf s]) (n.gs.map grpV ++ [.sl (some (bg, 0)) 1 1 true])) ((n.gs.map (·.h)).length + 1)) :: (n.gs.map grpO ++ [grpO ⟨hf s, bg, [s]⟩]) := by
     simp
     rfl
    rw [e]
    exact SV.tail (N := [_, _]) (SV.lastL h)
   ·refine wo ?_
    exact Gm vres0 ⟨_, rfl, rfl, _, nt_new hok hs hg hh, rfl, rfl, (if_neg hs).symm, rfl⟩
/- Ds10: a book on the machine: locked, unlocked; Hash. By this project. -/
theorem Fn.drop {K : Kx} {f : Nat} {args : List V} {hp : Hp} {T : List Nat} {R : VR → HV → Prop} (h : Fn K f args hp T fun r N => ∃ G N', N = G ++ N' ∧ R r N') : Fn K f args hp T R := by
 unfold Fn at *
 obtain ⟨r, hp', h1, N, h2, h3, G, N', rfl, h4⟩ := h
 exact ⟨r, hp', h1, N', h2.tail, h3, h4⟩
theorem muTurn_sv {B : Bs} {hp : Hp} {L : HV} {i b o p q : Nat} {C : List V} {T : TypeId} (hs : SV B hp L) (h : L[i]? = some (some b, .cells C T none false)) (hc : C[o]? = some (.i .i32 (p : Int))) : F0 hp b o p q = some (hp.put b (some (.cells (C.set o (.i .i32 (q : Int))) T none false))) := by
 have hb := hs.has i b _ h
 have e1 : Bn hp b = some C := by simp only [Bn, Hp.get, hb.1]
 have e2 : getL C o = some (.i .i32 (p : Int)) := by rw [BK]; exact hc
 have e3 : hp.getW b = some (.cells C T none false) := EJ hs h
 have ho : o < C.length := (Iv.1 hc).1
 have e4 : GY ((p : Nat) : Int) (.ofNat p) = true := by rw [BQ]; simp
 have e5 : geL C (o + lenF [V.i .i32 (.ofNat q)]) = true := CJ.2 (by rw [Bj]; exact ho)
 have e6 : Hn o C [V.i .i32 (.ofNat q)] = C.set o (.i .i32 (q : Int)) := by
  rw [CS o C [V.i .i32 (.ofNat q)] ho, List.set_eq_take_append_cons_drop, if_pos ho]
  simp
 simp only [F0, e1, e2, e4, CX, e3, e5, e6]
theorem lock_d {b o : Nat} {C : List V} {T : TypeId} {hp : Hp} (h0 : SV ⟨hp, [b]⟩ hp [(some b, .cells C T none false)]) (hc : C[o]? = some (.i .i32 0)) :
  Fn kxD 48 [.p (some (b, o))] hp [b] fun r N => ∃ u, r = .v u ∧ N = [(some b, .cells (C.set o (.i .i32 1)) T none false)] := by
 unfold Fn
 have hput := Fb (o' := .cells (C.set o (.i .i32 1)) T none false) (i := 0) h0 rfl
 refine ⟨.v (.tup []), _, ⟨1, fun n hn => ?_⟩, [(some b, .cells (C.set o (.i .i32 1)) T none false)], hput.1, hput.2, _, rfl, rfl⟩
 obtain ⟨n, rfl⟩ : ∃ k, n = k + 1 := ⟨n - 1, by omega⟩
 have e1 := muTurn_sv (q := 1) (p := 0) h0 (i := 0) rfl hc
 have q : muExt 48 48 [.p (some (b, o))] hp = some (.v (.tup []), hp.put b (some (.cells (C.set o (.i .i32 1)) T none false))) := by
  show (F0 hp b o 0 1).bind _ = _
  rw [e1]
  rfl
 simp only [BN, orExt, q]
theorem unlock_df {b o i : Nat} {C : List V} {T : TypeId} {u : FM} {B : Bs} {L L' : HV} (hL : L[i]? = some (some b, .cells C T none false)) (hc : C[o]? = some (.i .i32 1)) (hS : L.set i (some b, .cells (C.set o (.i .i32 0)) T none false) = L') :
  DFn kxD 49 [.p (some (b, o))] u B L fun r u' L2 => r = .v (.tup []) ∧ u' = u ∧ L2 = L' := fun hp hs => by
 have hput := Fb (o' := .cells (C.set o (.i .i32 0)) T none false) (i := i) hs hL
 refine ⟨.v (.tup []), u, _, L', ⟨0, fun n hn => ?_⟩, by rw [← hS]; exact hput.1, hput.2, rfl, rfl, rfl⟩
 have e1 := muTurn_sv (q := 0) (p := 1) hs hL hc
 have q : muExtd 49 49 [.p (some (b, o))] u hp = some (.v (.tup []), u, hp.put b (some (.cells (C.set o (.i .i32 0)) T none false))) := by
  show (F0 hp b o 1 0).bind _ = _
  rw [e1]
  rfl
 simp only [HG, q]
theorem Gl {b o i : Nat} {C : List V} {T : TypeId} {B : Bs} {l : VL} {L L' : HV} {rs : List ResultVar} {R : VR → HV → Prop} {v : V} (hL : L[i]? = some (some b, .cells C T none false)) (hc : C[o]? = some (.i .i32 1)) (hS : L.set i (some b, .cells (C.set o (.i .i32 0)) T none false) = L') (hv : ResV kxD.C B rs l L' v) (hR : R (.v v) L') :
  wend kxD B rs R .ret l [(49, [.p (some (b, o))])] L := ⟨.ret, rfl, fun hp hs => by
 obtain ⟨r, u', hp', L2, h1, h2, h3, rfl, rfl, rfl⟩ := unlock_df (u := .ret) hL hc hS hp hs
 exact ⟨_, _, hp', _, h1, h2, h3, v, hv, hR⟩⟩
structure Bk where
 b : Nat
 z : Nat
 bits : Nat
 cb : Nat
 sec : List UInt8
 hd : Nt
 cd : Nt
 fg : Nat
 fs : List (List UInt8 × List UInt8)
abbrev bkC (B : Bk) (mu : Nat) : List V := [.i .i64 (B.bits : Int), .i .i64 (B.cb : Int), .sl (some (B.z, 0)) B.sec.length B.sec.length true, .i .i32 (mu : Int), .i .u32 0, .m (some B.hd.s), .m (some B.hd.a), .m (some B.cd.s), .m (some B.cd.a), .m (some B.fg)]
abbrev fgO (B : Bk) : VO := .map (entE V.s (B.fs.map (·.1)) (B.fs.map fun p => hK p.2)) (B.fs.map (·.1)).length
abbrev bkL (B : Bk) : HV := (some B.b, Am (bkC B 0) 114) :: (some B.z, .cells (B.sec.map byV) 5 (some 1) false) :: (some B.fg, fgO B) :: (ntL B.hd ++ ntL B.cd)
def bkH (B : Bk) (x : List UInt8) : List UInt8 := cutB B.bits (sumB x)
def bkM (B : Bk) (x : List UInt8) : List UInt8 := cutB B.cb (macB B.sec x)
structure BkOk (B : Bk) : Prop where
 sec : B.sec.length = 32
 bits : B.bits ≤ 256
 cb : B.cb ≤ 256
 hd : NtOk (bkH B) B.hd
 cd : NtOk (bkM B) B.cd
 fd : (B.fs.map (·.1)).Nodup
 fl : ∀ p ∈ B.fs, p.2 = bkM B p.1
theorem bkM_len (B : Bk) (x : List UInt8) : (bkM B x).length = 32 := by rw [bkM, Dk, H7]
theorem prOk_one {B : Bs} {A : Option (Nat × Nat)} {x : List UInt8} {c : Nat} {op : Bool} (h1 : RB B A (x.map byV)) (hx : CapOk x.length c op) : PrOk B [(A, x, c, op)] := fun p hp => by
 rcases List.mem_cons.1 hp with rfl | hp
 ·exact ⟨h1, hx⟩
 ·simp at hp
theorem prB_one (A : Option (Nat × Nat)) (x : List UInt8) (c : Nat) (op : Bool) : prB [(A, x, c, op)] = x := by simp [prB]
/- Ds11: a book's code, Code. By this project. -/
set_option maxHeartbeats 8000000 in
theorem bcode_d {B : Bk} {mu : Nat} {A : Option (Nat × Nat)} {xs : List UInt8} {c : Nat} {op : Bool} {hp : Hp} (ho : OkH hp) (hs32 : B.sec.length = 32) (hcb : B.cb ≤ 256) (hk : Tab ⟨hp, []⟩) (hB : RB ⟨hp, []⟩ (some (B.b, 0)) (bkC B mu)) (hz : RB ⟨hp, []⟩ (some (B.z, 0)) (B.sec.map byV)) (hA : RB ⟨hp, []⟩ A (xs.map byV)) (hc : CapOk xs.length c op) (hx : xs.length < 72057594037927936) :
  Fn kxD 73 [.p (some (B.b, 0)), .sl A xs.length c op] hp [] fun r _ => r = .v (hK (bkM B xs)) := by
 have hll : ((bkM B xs).map byV).length = 32 := by rw [List.length_map, bkM_len]
 have hne : (bkM B xs).map byV ≠ [] := fun e => by rw [e] at hll; simp at hll
 refine Au (T := []) ho.sv (fun _ => rfl) (fn := Tryz.f73) (by kernel_rfl) rfl rfl ?_
 refine wo ?_
 apply p_op; exact (Aa rfl); iterate 4 exact rfl
 refine As rfl fun bo => ⟨_, rfl, ?_⟩
 refine wo ?_
 apply dm; iterate 6 exact rfl
 refine BO rfl hB.1 hB.2 (j := 2) rfl rfl
 refine wo ?_
 apply d_op; exact (Aa rfl); exact rfl; exact noRd rfl; decide +kernel; (iterate 3 exact rfl); rotate_left
 refine e_bs (C := [.sl A xs.length c op]) rfl rfl (.cons rfl rfl .nil) rfl fun bp => ⟨_, rfl, ?_⟩
 try (case hok => exact A9)
 refine EL (Aa rfl) (by decide +kernel) rfl rfl rfl rfl (fun hp hs => mac_d (k := B.sec) (ps := [(A, xs, c, op)]) hs.ok (hk.give0 hs) (hz.give0 hs) (by omega) (by omega) (Cc hs (i := 0) rfl (Ip (Nat.le_refl _))) (prOk_one (hA.give0 hs) hc) (by rw [prB_one]; omega) (Io rfl)) ?_
 rw [prB_one]
 refine wo ?_
 apply dm; iterate 6 exact rfl
 refine BO rfl hB.1 hB.2 (j := 1) rfl rfl
 refine EL (Aa rfl) (by decide +kernel) rfl rfl rfl rfl (fun hp hs => cut_d (H7 _ _) hcb hs.ok) ?_
 apply d_do; exact (Aa rfl); exact rfl; exact noRd rfl; decide +kernel; exact rfl; rotate_left
 refine AG (C' := (bkM B xs).map byV) rfl rfl hne hll (by simp) (AC (by show ((bkM B xs).map byV).length = _; rw [hll]; simp)) ⟨_, rfl, ?_⟩
 try (case hok => exact Bf (by decide +kernel))
 refine wo ?_
 exact Ay (Ag (AR (AB rfl hll)) rfl)
theorem SV.endL {B : Bs} {hp : Hp} {M P H : HV} (h : SV B hp (M ++ (P ++ (H ++ [])))) : SV B hp (P ++ (H ++ M)) := h.perm (by rw [List.append_nil, ← List.append_assoc P H M]; exact List.perm_append_comm)
set_option maxHeartbeats 8000000 in
theorem code_g {B : Bk} {A : Option (Nat × Nat)} {xs : List UInt8} {c : Nat} {op : Bool} {hp : Hp} (h0 : SV ⟨hp, hnds (bkL B)⟩ hp (bkL B)) (hB : BkOk B) (hk : Tab ⟨hp, hnds (bkL B)⟩) (hA : RB ⟨hp, hnds (bkL B)⟩ A (xs.map byV)) (hc : CapOk xs.length c op) (hx : xs.length < 72057594037927936) (hl : B.cd.all.length < 100000000) :
  Fn kxD 45 [.p (some (B.b, 0)), .sl A xs.length c op] hp (hnds (bkL B)) fun r N => ∃ u, r = .v u ∧ (u = hK (bkM B xs) ∧ ∃ cd', let B' : Bk := ⟨B.b, B.z, B.bits, B.cb, B.sec, B.hd, cd', B.fg, B.fs⟩; BkOk B' ∧ cd'.all = addS B.cd.all xs ∧ N = bkL B') := by
 refine Fn.drop ?_
 have hll : ((bkM B xs).map byV).length = 32 := by rw [List.length_map, bkM_len]
 have hne : (bkM B xs).map byV ≠ [] := fun e => by rw [e] at hll; simp at hll
 refine Au h0 (fun _ => rfl) (fn := Tryz.f45) (by kernel_rfl) rfl rfl ?_
 refine wo ?_
 apply p_op; exact (Aa rfl); iterate 4 exact rfl
 refine As rfl fun bo => ⟨_, rfl, ?_⟩
 refine wo ?_
 apply wm; iterate 5 exact rfl
 refine m_eqp rfl rfl
 refine wo ?_
 refine AY (Aa rfl) rfl rfl rfl rfl (fun hp hs => bcode_d (mu := 0) hs.ok hB.sec hB.cb (hk.give0 hs) (Cc hs (i := 1) rfl rfl) (Cc hs (i := 2) rfl (Ip (Nat.le_refl _))) (hA.give0 hs) hc hx) ?_
 apply p_op; exact (Aa rfl); iterate 4 exact rfl
 refine As rfl fun bh => ⟨_, rfl, ?_⟩
 apply p_do; exact (Aa rfl); exact rfl; exact rfl
 refine AG (C' := (bkM B xs).map byV) rfl rfl hne hll (by simp) (AC (by rw [hll]; simp)) ⟨_, rfl, ?_⟩
 refine wo ?_
 apply AU [2]; exact (Aa rfl); iterate 4 exact rfl
 case hC => exact (fun hp hs ht => lock_d ht rfl)
 rintro u N rfl
 dsimp only [List.set]
 refine wo ?_
 refine HT (Aa rfl) rfl rfl rfl rfl rfl ?_
 refine wo ?_
 apply dm; iterate 6 exact rfl
 refine m_b2so rfl hA.1 hA.2
 refine yX (AO (s := 31) (cs := (bkM B xs).map byV) rfl (by rw [List.drop_zero]; exact Ip (by omega)) hll) ?_
 apply d_callM (ntL B.cd); exact (Aa rfl); decide +kernel; (iterate 4 exact rfl)
 try (case hok => exact Bf (by decide +kernel))
 case hC => exact (fun hp hs ht => note_d ht hB.cd (ES hs (i := 0) rfl rfl) (bkM_len B xs) hl)
 rintro u N ⟨rfl, cd', hn, ha, hs, hall, rfl⟩
 refine wd_heap (L' := [_, _, _, _, _] ++ (ntL B.hd ++ ntL cd')) (fun hp h => SV.endL h) ?_
 refine wo ?_
 refine zX (AO (s := 31) (cs := (bkM B xs).map byV) rfl (by rw [List.drop_zero]; exact Ip (by omega)) hll) ?_
 apply p_do; exact (Aa rfl); exact rfl; exact rfl
 refine AG (C' := (bkM B xs).map byV) rfl rfl hne hll (by simp) (AC (by rw [hll]; simp)) ⟨_, rfl, ?_⟩
 refine wo ?_
 refine D3 (L' := [_, _] ++ _ :: _) (fun hp h => SV.midL (L := [_, _]) h) ?_
 refine Ay (Gl (i := 2) rfl rfl rfl (AR (AB (i := 1) (hL := ⟨rfl⟩) rfl hll)) ⟨[_, _], _, rfl, _, rfl, rfl, cd', ⟨hB.sec, hB.bits, hB.cb, hB.hd, hn, hB.fd, hB.fl⟩, hall, ?_⟩)
 simp only [bkL, bkC, ha, hs]
 rfl
/- Ds12: a book's Accept, Sound, Len. By this project. -/
def addF (fs : List (List UInt8 × List UInt8)) (p : List UInt8 × List UInt8) : List (List UInt8 × List UInt8) := if p.1 ∈ fs.map (·.1) then fs else fs ++ [p]
theorem SV.swapE {B : Bs} {hp : Hp} {P M R : HV} (h : SV B hp (P ++ (M ++ R))) : SV B hp (P ++ (R ++ M)) := h.perm (List.perm_append_comm.append_left P)
set_option maxHeartbeats 8000000 in
theorem accept_d {B : Bk} {A : Option (Nat × Nat)} {xs code : List UInt8} {c : Nat} {op : Bool} {hp : Hp} (h0 : SV ⟨hp, hnds (bkL B)⟩ hp (bkL B)) (hB : BkOk B) (hk : Tab ⟨hp, hnds (bkL B)⟩) (hA : RB ⟨hp, hnds (bkL B)⟩ A (xs.map byV)) (hc : CapOk xs.length c op) (hx : xs.length < 72057594037927936) (hcl : code.length = 32) :
  Fn kxD 53 [.p (some (B.b, 0)), .sl A xs.length c op, hK code] hp (hnds (bkL B)) fun r N => ∃ u, r = .v u ∧ (u = .b (decide (bkM B xs = code)) ∧ ∃ fs', let B' : Bk := ⟨B.b, B.z, B.bits, B.cb, B.sec, B.hd, B.cd, B.fg, fs'⟩; BkOk B' ∧ fs' = (if bkM B xs = code ∧ xs ∉ B.cd.all then addF B.fs (xs, code) else B.fs) ∧ N = bkL B') := by
 refine Fn.drop ?_
 have hll : (code.map byV).length = 32 := by rw [List.length_map, hcl]
 have hvl : (B.cd.all.map fun _ => V.b true).length = B.cd.all.length := by simp
 have hfl : (B.fs.map fun p => hK p.2).length = (B.fs.map (·.1)).length := by simp
 refine Au h0 (fun _ => rfl) (fn := Tryz.f53) (by kernel_rfl) rfl rfl ?_
 refine D3 (L' := [_, _, _] ++ (ntL B.cd ++ ntL B.hd)) (fun hp h => SV.swapE h) ?_
 refine wo ?_
 apply p_op; exact (Aa rfl); iterate 4 exact rfl
 refine Br rfl rfl fun bx => ⟨_, rfl, ?_⟩
 refine wo ?_
 apply dm; iterate 6 exact rfl
 refine m_eqp rfl rfl
 refine wo ?_
 refine EL (BH rfl rfl rfl) (by decide +kernel) rfl rfl rfl rfl (fun hp hs => bcode_d (mu := 0) hs.ok hB.sec hB.cb (hk.give0 hs) (Cc hs (i := 1) rfl rfl) (Cc hs (i := 2) rfl (Ip (Nat.le_refl _))) (hA.give0 hs) hc hx) ?_
 refine yX (AO (s := 31) (cs := code.map byV) rfl (by rw [List.drop_zero]; exact Ip (by omega)) hll) ?_
 refine EL (BH rfl rfl rfl) (by decide +kernel) rfl rfl rfl rfl (fun hp hs => equal_d (bkM_len B xs) hcl hs.ok) ?_
 refine wo ?_
 by_cases g : bkM B xs = code
 rotate_left
 ·rw [decide_eq_false g]
  refine wo ?_
  refine D3 (L' := [_] ++ bkL B) (fun hp h => SV.swapE (P := [_, _, _, _]) h) ?_
  exact Ay (Ag (AR (Ai rfl)) ⟨[_], _, rfl, _, rfl, rfl, B.fs, hB, (if_neg (fun h => g h.1)).symm, rfl⟩)
 ·rw [decide_eq_true g]
  refine wo ?_
  apply AU [1]; exact (Aa rfl); iterate 4 exact rfl
  case hC => exact (fun hp hs ht => lock_d ht rfl)
  rintro u N rfl
  dsimp only [List.set]
  refine wo ?_
  refine HT (Aa rfl) rfl rfl rfl rfl rfl ?_
  refine wo ?_
  apply dm; iterate 6 exact rfl
  refine m_b2so rfl hA.1 hA.2
  by_cases hs : xs ∈ B.cd.all
  ·obtain ⟨j, hj⟩ := List.getElem?_of_mem hs
   refine yX (Ef (v := .b true) rfl rfl fun hp hg => lk_some (C := kxD.C) (f := V.s) (ok := fun _ => True) hg (fun _ _ => trivial) hB.cd.nd hvl hj (by rw [List.getElem?_map, hj]; rfl)) ?_
   refine wo ?_
   refine D3 (L' := [_] ++ _ :: _) (fun hp h => SV.midL (L := [_]) (SV.swapE (P := [_, _, _, _]) h)) ?_
   exact Ay (Gl (i := 1) rfl rfl rfl (AR (Ai rfl)) ⟨[_], _, rfl, _, rfl, rfl, B.fs, hB, (if_neg (fun h => h.2 hs)).symm, rfl⟩)
  ·refine yX (Ef (v := .b false) rfl rfl fun hp hg => lk_none (C := kxD.C) (f := V.s) (ok := fun _ => True) hg (fun _ _ => trivial) trivial hs hvl) ?_
   refine wo ?_
   apply dm; iterate 6 exact rfl
   refine m_b2so rfl hA.1 hA.2
   refine yX (AO (s := 31) (cs := code.map byV) rfl (by rw [List.drop_zero]; exact Ip (by omega)) hll) ?_
   have hif : (if bkM B xs = code ∧ xs ∉ B.cd.all then addF B.fs (xs, code) else B.fs) = addF B.fs (xs, code) := if_pos ⟨g, hs⟩
   by_cases hf : xs ∈ B.fs.map (·.1)
   ·obtain ⟨j, hj⟩ := List.getElem?_of_mem hf
    rw [List.getElem?_map] at hj
    obtain ⟨p, hp1, hp2⟩ := Option.map_eq_some_iff.1 hj
    have hv : (B.fs.map fun p => hK p.2)[j]? = some (hK code) := by
     rw [List.getElem?_map, hp1, Option.map_some, hB.fl p (List.mem_of_getElem? hp1), hp2, g]
    have hset : (B.fs.map fun p => hK p.2).set j (hK code) = B.fs.map fun p => hK p.2 := by
     obtain ⟨h5, h6⟩ := Iv.1 hv
     conv => lhs; rw [← h6]
     exact List.set_getElem_self h5
    apply d_do; exact (Aa rfl); exact rfl; exact noRd rfl; decide +kernel; exact rfl; rotate_left
    refine ev_mapup (kv := .s xs) (v := hK code) rfl rfl rfl (fun hp hg => up_some (C := kxD.C) (f := V.s) (ok := fun _ => True) hg (fun _ _ => trivial) hB.fd hfl (by rw [List.getElem?_map]; exact hj) hv) ⟨_, rfl, ?_⟩
    try (case hok => exact Bf (by decide +kernel))
    rw [hset]
    refine wo ?_
    refine D3 (L' := [_] ++ _ :: _) (fun hp h => SV.midL (L := [_]) (SV.swapE (P := [_, _, _, _]) h)) ?_
    exact Ay (Gl (i := 1) rfl rfl rfl (AR (Ai rfl)) ⟨[_], _, rfl, _, rfl, rfl, B.fs, hB, by rw [hif, addF, if_pos hf], rfl⟩)
   ·apply d_do; exact (Aa rfl); exact rfl; exact noRd rfl; decide +kernel; exact rfl; rotate_left
    refine ev_mapup (kv := .s xs) (v := hK code) rfl rfl rfl (fun hp hg => up_none (C := kxD.C) (f := V.s) (ok := fun _ => True) hg (fun _ _ => trivial) trivial hf hfl) ⟨_, rfl, ?_⟩
    try (case hok => exact Bf (by decide +kernel))
    refine wo ?_
    refine D3 (L' := [_] ++ _ :: _) (fun hp h => SV.midL (L := [_]) (SV.swapE (P := [_, _, _, _]) h)) ?_
    refine Ay (Gl (i := 1) rfl rfl rfl (AR (Ai rfl)) ⟨[_], _, rfl, _, rfl, rfl, B.fs ++ [(xs, code)], ⟨hB.sec, hB.bits, hB.cb, hB.hd, hB.cd, ?_, ?_⟩, by rw [hif, addF, if_neg hf], ?_⟩)
    ·show ((B.fs ++ [(xs, code)]).map (·.1)).Nodup
     rw [List.map_append, List.nodup_append]
     exact ⟨hB.fd, by simp, fun a ha b hb e => by simp at hb; subst hb; exact hf (e ▸ ha)⟩
    ·intro p hp'
     rcases List.mem_append.1 hp' with q | q
     ·exact hB.fl p q
     ·rw [List.mem_singleton.1 q]; exact g.symm
    ·simp only [bkL, fgO, List.map_append, List.map_cons, List.map_nil, List.length_append, List.length_cons, List.length_nil]
     rfl
/- Ds13: a book's Sound, Len. By this project. -/
/- Ds14: a new book. By this project. -/
theorem clone_d {A : Option (Nat × Nat)} {xs : List UInt8} {c : Nat} {op : Bool} {hp : Hp} (ho : OkH hp) (hA : RB ⟨hp, []⟩ A (xs.map byV)) (h0 : 0 < xs.length) (h1 : xs.length ≤ 1073741824) :
  Fn kxD 50 [.sl A xs.length c op] hp [] fun r N => ∃ u, r = .v u ∧ ∃ b, u = .sl (some (b, 0)) xs.length xs.length true ∧ N = [(some b, .cells (xs.map byV) 5 (some 1) false)] := by
 refine Fn.drop ?_
 obtain ⟨b, o, rfl⟩ : ∃ b o, A = some (b, o) := by
  cases hq : xs.map byV with
  | nil => have := congrArg List.length hq; simp at this; rw [this] at h0; simp at h0
  | cons v r => exact Cw (by rw [← hq]; exact hA.1.rv)
 refine Au (T := []) ho.sv (fun _ => rfl) (fn := Tryz.f50) (by kernel_rfl) rfl rfl ?_
 refine wo ?_
 apply wm; iterate 5 exact rfl
 refine m_eqsl rfl rfl
 refine wo ?_
 apply p_op; exact (Aa rfl); iterate 4 exact rfl
 refine e_bs (C := []) rfl rfl .nil rfl fun bn => ⟨_, rfl, ?_⟩
 refine wo ?_
 apply p_op; exact (Aa rfl); iterate 4 exact rfl
 refine e_appG (old := []) (new := xs.map byV) rfl rfl (Bw (k := 0) rfl) rfl hA.z (by simp) (by omega) (by omega) fun bg => ⟨_, rfl, ?_⟩
 refine wo ?_
 refine D3 (L' := [_, _]) (fun hp h => h.pick [1, 0] _ rfl (by decide)) ?_
 rw [Nat.zero_add]
 exact Ay (Ag (AR (Ai rfl)) ⟨[_], _, rfl, _, rfl, bg, rfl, rfl⟩)
theorem begin_d {hp : Hp} (ho : OkH hp) :
  Fn kxD 63 [] hp [] fun r N => ∃ u, r = .v u ∧ ∃ a s, u = .agg [.m (some s), .m (some a)] ∧ N = ntL ⟨a, s, [], []⟩ := by
 refine Fn.drop ?_
 refine Au (T := []) ho.sv (fun _ => rfl) (fn := Tryz.f63) (by kernel_rfl) rfl rfl ?_
 refine wo ?_
 apply p_op; exact (Aa rfl); iterate 4 exact rfl
 refine As rfl fun bo => ⟨_, rfl, ?_⟩
 refine wo ?_
 apply p_op; exact (Aa rfl); iterate 4 exact rfl
 refine ev_mkmap fun s => ⟨_, rfl, ?_⟩
 apply p_op; exact (Aa rfl); iterate 4 exact rfl
 refine ev_mkmap fun a => ⟨_, rfl, ?_⟩
 apply wn; iterate 5 exact rfl
 refine Av (C := [.m (some s), .m (some a)]) (.cons rfl rfl rfl rfl (Io rfl) (.cons rfl rfl rfl rfl (Io rfl) .nil)) rfl
 apply p_do; exact (Aa rfl); exact rfl; exact rfl
 refine AG (C' := [.m (some s), .m (some a)]) rfl rfl (by simp) rfl (by simp) rfl ⟨_, rfl, ?_⟩
 refine wo ?_
 refine D3 (L' := [_, _, _]) (fun hp h => h.pick [2, 0, 1] _ rfl (by decide)) ?_
 exact Ay (Ag (AR (AB rfl rfl)) ⟨[_], _, rfl, _, rfl, a, s, rfl, rfl⟩)
set_option maxHeartbeats 8000000 in
theorem new_d {A : Option (Nat × Nat)} {xs : List UInt8} {bits cb c : Nat} {op : Bool} {hp : Hp} (ho : OkH hp) (hA : RB ⟨hp, []⟩ A (xs.map byV)) (hx : xs.length = 32) (b1 : 8 ≤ bits) (b2 : bits ≤ 256) (c1 : 8 ≤ cb) (c2 : cb ≤ 256) :
  Fn kxD 32 [.i .i64 (bits : Int), .i .i64 (cb : Int), .sl A xs.length c op] hp [] fun r N => ∃ u, r = .v u ∧ ∃ b z ha hs ca cs fg, u = .tup [.p (some (b, 0)), .i .i64 0] ∧ N = bkL ⟨b, z, bits, cb, xs, ⟨ha, hs, [], []⟩, ⟨ca, cs, [], []⟩, fg, []⟩ := by
 refine Au (T := []) ho.sv (fun _ => rfl) (fn := Tryz.f32) (by kernel_rfl) rfl rfl ?_
 refine wo ?_
 apply wm; iterate 5 exact rfl
 refine Af (v := .b false) rfl rfl (AF (by omega))
 refine wo ?_
 apply wmg; iterate 7 exact rfl
 refine Af (v := .b false) rfl rfl (Bm (by omega))
 refine wo ?_
 apply wmg; iterate 7 exact rfl
 refine Af (v := .b false) rfl rfl (AF (by omega))
 refine wo ?_
 apply wmg; iterate 7 exact rfl
 refine Af (v := .b false) rfl rfl (Bm (by omega))
 refine wo ?_
 apply wm; iterate 5 exact rfl
 refine Af (v := .b false) rfl rfl (AK (by omega))
 refine wo ?_
 apply AU []; exact (Aa rfl); iterate 4 exact rfl
 case hC => exact (fun hp hs ht => clone_d hs.ok (hA.give0 hs) (by omega) (by omega))
 rintro u N ⟨z, rfl, rfl⟩
 refine wo ?_
 apply AU []; exact (Aa rfl); iterate 4 exact rfl
 case hC => exact (fun hp hs ht => begin_d hs.ok)
 rintro u N ⟨ha, hs, rfl, rfl⟩
 refine wo ?_
 apply AU []; exact (Aa rfl); iterate 4 exact rfl
 case hC => exact (fun hp hs ht => begin_d hs.ok)
 rintro u N ⟨ca, cs, rfl, rfl⟩
 refine wo ?_
 apply p_op; exact (Aa rfl); iterate 4 exact rfl
 refine ev_mkmap fun fg => ⟨_, rfl, ?_⟩
 apply wn; iterate 5 exact rfl
 refine Av (C := bkC ⟨0, z, bits, cb, xs, ⟨ha, hs, [], []⟩, ⟨ca, cs, [], []⟩, fg, []⟩ 0) (.cons rfl rfl rfl rfl (Io rfl) (.cons rfl rfl rfl rfl (Io rfl) (.cons rfl rfl rfl rfl (Io rfl) (.cons rfl rfl rfl rfl (Io rfl) (.cons rfl rfl rfl rfl (Io rfl) (.cons rfl rfl rfl rfl (Io rfl) .nil)))))) rfl
 apply p_op; exact (Aa rfl); iterate 4 exact rfl
 refine Br rfl rfl fun b => ⟨_, rfl, ?_⟩
 refine wo ?_
 refine D3 (L' := [_, _, _, _, _, _, _]) (fun hp h => h.pick [0, 6, 1, 4, 5, 2, 3] _ rfl (by decide)) ?_
 exact Ay (Ag (B8 (Ai rfl) (Ai rfl)) ⟨_, rfl, b, z, ha, hs, ca, cs, fg, rfl, rfl⟩)
theorem new_ok {b z bits cb ha hs ca cs fg : Nat} {xs : List UInt8} (hx : xs.length = 32) (b2 : bits ≤ 256) (c2 : cb ≤ 256) : BkOk ⟨b, z, bits, cb, xs, ⟨ha, hs, [], []⟩, ⟨ca, cs, [], []⟩, fg, []⟩ :=
 ⟨hx, b2, c2, nt0 _ _ _, nt0 _ _ _, by simp, by simp⟩
/- Ds15: a book's Forgeries, where there is none, where there is one. By this project. -/
theorem srtf0 (k : Nat) (hp : Hp) : BN vC kxD.ext kxD.extd (k + 40) 54 [.sl none 0 0 false, .fn 55 [] []] hp = some (.v (.tup []), hp) := by kernel_rfl
set_option maxHeartbeats 8000000 in
theorem forg0_d {B : Bk} {hp : Hp} (h0 : SV ⟨hp, hnds (bkL B)⟩ hp (bkL B)) (hf : B.fs = []) :
  Fn kxD 21 [.p (some (B.b, 0))] hp (hnds (bkL B)) fun r N => ∃ u, r = .v u ∧ (u = .sl none 0 0 false ∧ N = bkL B) := by
 refine Fn.drop ?_
 have e0 : fgO B = .map [] 0 := by rw [fgO, hf]; rfl
 refine Au h0 (fun _ => rfl) (fn := Tryz.f21) (by kernel_rfl) rfl rfl ?_
 refine wo ?_
 apply wm; iterate 5 exact rfl
 refine m_eqp rfl rfl
 refine wo ?_
 apply AU [0]; exact (Aa rfl); iterate 4 exact rfl
 case hC => exact (fun hp hs ht => lock_d ht rfl)
 rintro u N rfl
 dsimp only [List.set]
 refine wo ?_
 refine HT (Aa rfl) rfl rfl rfl rfl rfl ?_
 refine wo ?_
 refine BM ?_
 refine wo ?_
 rw [e0]
 apply p_op; exact (Aa rfl); iterate 4 exact rfl
 refine e_range rfl fun c => ⟨_, rfl, ?_⟩
 refine wo ?_
 refine Bq (ι := Unit) (fun _ => [(19, .p (some (c, 0))), (3, .sl none 0 0 false), (0, .p (some (B.b, 0)))]) (fun _ => (some c, .iter (some B.fg) 0 [] 0) :: (some B.b, Am (bkC B 1) 114) :: (some B.z, .cells (B.sec.map byV) 5 (some 1) false) :: (some B.fg, .map [] 0) :: (ntL B.hd ++ ntL B.cd)) (fun _ => True) (fun _ => 0) () trivial ⟨rfl, rfl, rfl, trivial⟩ (fun hp h => h) ?_
 intro _ _
 refine wo ?_
 apply p_op; exact (Aa rfl); iterate 4 exact rfl
 refine ev_next0 rfl rfl rfl ⟨_, rfl, ?_⟩
 refine wo ?_
 refine Bd ?_
 refine wo ?_
 refine AY (Aa rfl) rfl rfl rfl rfl (fun hp hs => fn_run hs.ok (fun k => srtf0 k hp)) ?_
 refine wo ?_
 refine Ay (Gl (i := 1) rfl rfl rfl (AR (Ai rfl)) ⟨[_], _, rfl, _, rfl, rfl, ?_⟩)
 rw [bkL, e0]
 rfl
/- Ds16: the statements' own small functions: Bits, Secret. By this project. -/
section
variable {K : Kx} {hp0 : Bs} {l : VL} {L : HV} {a b : Operand} {t t' : TypeId}
theorem m_remI {p q : Int} (hx : evL l a = some (.i .i64 p)) (hy : evL l b = some (.i .i64 q)) (hq : q ≠ 0) : MVO K hp0 l L (.binOp .rem t a b t') (.i .i64 (p.tmod q)) :=
 Af hx hy (by
  have e : GY q 0 = false := by rw [BQ]; simpa using hq
  simp only [vint, e])
theorem m_remN {p q : Int} {m n : Nat} (hx : evL l a = some (.i .i64 p)) (hy : evL l b = some (.i .i64 q)) [hm : CastN p m] [hn : CastN q n] (hq : 0 < n) : MVO K hp0 l L (.binOp .rem t a b t') (.i .i64 ((m % n : Nat) : Int)) := by
 have := m_remI (K := K) (hp0 := hp0) (L := L) (t := t) (t' := t') hx hy (by rw [hn.h]; omega)
 rw [hm.h, hn.h] at this
 rw [Int.natCast_emod]
 rw [Int.tmod_eq_emod_of_nonneg (by omega)] at this
 exact this
theorem m_quoN {p q : Int} {m n : Nat} (hx : evL l a = some (.i .i64 p)) (hy : evL l b = some (.i .i64 q)) [hm : CastN p m] [hn : CastN q n] (hq : 0 < n) (hl : m < 9223372036854775808) : MVO K hp0 l L (.binOp .quo t a b t') (.i .i64 ((m / n : Nat) : Int)) := by
 obtain rfl := hm.h
 obtain rfl := hn.h
 refine Af hx hy ?_
 have e : GY (n : Int) 0 = false := by rw [BQ]; simp; omega
 have e2 : (m : Int).tdiv (n : Int) = ((m / n : Nat) : Int) := by rw [Int.tdiv_eq_ediv_of_nonneg (by omega)]; norm_cast
 have h3 : m / n ≤ m := Nat.div_le_self _ _
 simp only [vint, e]
 rw [e2]
 generalize m / n = q at *
 rw [IntWalk.i64_in _ (by omega)]
theorem p_negI {p : Int} (hx : evL l a = some (.i .i64 p)) (h1 : -9223372036854775808 < p ∧ p < 9223372036854775808) : PV K.C l (.unOp .neg t a) (.i .i64 (-p)) :=
 pv_un hx (by show some (V.i .i64 (IntKind.i64.wrap (0 - p))) = _; rw [IntWalk.i64_in _ (by omega), Int.zero_sub])
end
def bitsN (n : Int) : Nat := 8 + (n.tmod 249).natAbs
theorem bitsN_le (n : Int) : 8 ≤ bitsN n ∧ bitsN n ≤ 256 := by
 unfold bitsN
 have h1 : (n.tmod 249).natAbs = n.natAbs % 249 := by rw [Int.natAbs_tmod]; rfl
 rw [h1]
 have := Nat.mod_lt n.natAbs (show 0 < 249 by omega)
 omega
theorem bits_d {n : Int} {hp : Hp} (ho : OkH hp) : Fn kxD 31 [.i .i64 n] hp [] fun r _ => r = .v (.i .i64 ((bitsN n : Nat) : Int)) := by
 have hb := bitsN_le n
 unfold bitsN at hb
 refine Au (T := []) ho.sv (fun _ => rfl) (fn := Tryz.f31) (by kernel_rfl) rfl rfl ?_
 refine wo ?_
 apply wm; iterate 5 exact rfl
 refine m_remI rfl rfl (by decide)
 refine wo ?_
 by_cases c : n.tmod 249 < 0
 ·apply wm; iterate 5 exact rfl
  refine Af (v := .b true) rfl rfl (AL (by omega))
  refine wo ?_
  apply wn; iterate 5 exact rfl
  refine p_negI rfl (by omega)
  refine wo ?_
  rw [show -(n.tmod 249) = (((n.tmod 249).natAbs : Nat) : Int) by omega]
  refine wo ?_
  exact Ay (Ag (AR (Ai rfl)) rfl)
 ·apply wm; iterate 5 exact rfl
  refine Af (v := .b false) rfl rfl (AF (by omega))
  refine wo ?_
  rw [show n.tmod 249 = (((n.tmod 249).natAbs : Nat) : Int) by omega]
  refine wo ?_
  exact Ay (Ag (AR (Ai rfl)) (by unfold bitsN; rfl))
theorem H3 {hp : Hp} {A : Option (Nat × Nat)} {cs : List V} (h : RV hp A cs) (hn : 0 < cs.length) : ∃ b o, A = some (b, o) := by
 cases cs with
 | nil => simp at hn
 | cons v r => exact Cw h
def secB (xs : List UInt8) : List UInt8 := (List.range 32).map fun i => xs.getD i 0
theorem Gy (xs : List UInt8) : (secB xs).length = 32 := by simp [secB]
theorem Gx {xs : List UInt8} {i : Nat} (h : i < 32) : (secB xs).take (i + 1) = (secB xs).take i ++ [xs.getD i 0] := by
 rw [List.take_succ_eq_append_getElem (by rw [Gy]; exact h)]
 simp only [secB, List.getElem_map, List.getElem_range]
set_option maxHeartbeats 4000000 in
theorem secret_d {A : Option (Nat × Nat)} {xs : List UInt8} {c : Nat} {op : Bool} {hp : Hp} (ho : OkH hp) (hA : RB ⟨hp, []⟩ A (xs.map byV)) :
  Fn kxD 33 [.sl A xs.length c op] hp [] fun r N => ∃ u, r = .v u ∧ ∃ b, u = .sl (some (b, 0)) 32 32 true ∧ N = [(some b, .cells ((secB xs).map byV) 5 (some 1) false)] := by
 refine Fn.drop ?_
 refine Au (T := []) ho.sv (fun _ => rfl) (fn := Tryz.f33) (by kernel_rfl) rfl rfl ?_
 refine wo ?_
 refine BM ?_
 refine wo ?_
 refine Bq (ι := Nat × Nat) (fun s => [(4, .i .i64 (s.1 : Nat)), (3, match s.1 with | 0 => .sl none 0 0 false | i + 1 => .sl (some (s.2, 0)) (i + 1) (i + 1) true), (0, .sl A xs.length c op)])
  (fun s => match s.1 with | 0 => [] | i + 1 => [(some s.2, .cells (((secB xs).take (i + 1)).map byV) 5 (some 1) false)])
  (fun s => s.1 ≤ 32) (fun s => 32 - s.1) (0, 0) (Nat.zero_le _) ⟨rfl, rfl, rfl, trivial⟩ (fun hp h => h) ?_
 intro ⟨i, b⟩ hi
 dsimp only at hi ⊢
 refine wo ?_
 by_cases g : i < 32
 ·apply wm; iterate 5 exact rfl
  refine Af (v := .b true) rfl rfl (AL (by omega))
  refine wo ?_
  cases i with
  | zero =>
   dsimp only
   by_cases c : 0 < xs.length
   ·obtain ⟨ba, oa, rfl⟩ : ∃ b o, A = some (b, o) := H3 (hA.1.rv) (by rw [List.length_map]; omega)
    apply wm; iterate 5 exact rfl
    refine Af (v := .b true) rfl rfl (AL (by omega))
    refine wo ?_
    apply wn; iterate 5 exact rfl
    refine p_ia rfl rfl (by omega)
    apply wm; iterate 5 exact rfl
    refine BO (v := byV (xs.getD (0) 0)) rfl hA.1 hA.2 rfl (by rw [List.getElem?_map, List.getD_eq_getElem?_getD, Iq (by omega)]; rfl)
    refine wo ?_
    apply p_op; exact (Aa rfl); iterate 4 exact rfl
    refine e_bs (C := [byV (xs.getD (0) 0)]) rfl rfl (.cons rfl rfl .nil) rfl fun bn => ⟨_, rfl, ?_⟩
    apply p_op; exact (Aa rfl); iterate 4 exact rfl
    refine e_app0 (new := [byV (xs.getD (0) 0)]) rfl rfl (Bw (k := 1) rfl) rfl (by decide) (by decide) fun bg => ⟨_, rfl, ?_⟩
    refine wo ?_
    refine ⟨rfl, (1, bg), Nat.succ_le_succ (Nat.zero_le _), by dsimp only; omega, ⟨rfl, rfl, rfl, trivial⟩, fun hp h => ?_⟩
    have e : ((secB xs).take (0 + 1)).map byV = [byV (xs.getD (0) 0)] := by rw [Gx (by decide)]; rfl
    dsimp only
    rw [e]
    exact h.pick [0] _ rfl (by decide)
   ·apply wm; iterate 5 exact rfl
    refine Af (v := .b false) rfl rfl (AF (by omega))
    refine wo ?_
    apply p_op; exact (Aa rfl); iterate 4 exact rfl
    refine e_bs (C := [byV 0]) rfl rfl (.cons rfl rfl .nil) rfl fun bn => ⟨_, rfl, ?_⟩
    apply p_op; exact (Aa rfl); iterate 4 exact rfl
    refine e_app0 (new := [byV 0]) rfl rfl (Bw (k := 1) rfl) rfl (by decide) (by decide) fun bg => ⟨_, rfl, ?_⟩
    refine wo ?_
    refine ⟨rfl, (1, bg), Nat.succ_le_succ (Nat.zero_le _), by dsimp only; omega, ⟨rfl, rfl, rfl, trivial⟩, fun hp h => ?_⟩
    have e : ((secB xs).take (0 + 1)).map byV = [byV 0] := by rw [Gx (by decide)]; simp [List.getD_eq_getElem?_getD, List.getElem?_eq_none (show xs.length ≤ 0 by omega)]
    dsimp only
    rw [e]
    exact h.pick [0] _ rfl (by decide)
  | succ i =>
   dsimp only
   by_cases c : i + 1 < xs.length
   ·obtain ⟨ba, oa, rfl⟩ : ∃ b o, A = some (b, o) := H3 (hA.1.rv) (by rw [List.length_map]; omega)
    apply wm; iterate 5 exact rfl
    refine Af (v := .b true) rfl rfl (AL (by omega))
    refine wo ?_
    apply wn; iterate 5 exact rfl
    refine p_ia rfl rfl (by omega)
    apply wm; iterate 5 exact rfl
    refine BO (v := byV (xs.getD (i + 1) 0)) rfl hA.1 hA.2 rfl (by rw [List.getElem?_map, List.getD_eq_getElem?_getD, Iq (by omega)]; rfl)
    refine wo ?_
    apply p_op; exact (Aa rfl); iterate 4 exact rfl
    refine e_bs (C := [byV (xs.getD (i + 1) 0)]) rfl rfl (.cons rfl rfl .nil) rfl fun bn => ⟨_, rfl, ?_⟩
    apply p_op; exact (Aa rfl); iterate 4 exact rfl
    refine e_appO (old := ((secB xs).take (i + 1)).map byV) (new := [byV (xs.getD (i + 1) 0)]) rfl rfl (by rw [List.length_map, List.length_take, Gy]; omega) (Bw (k := 1) rfl) rfl (by decide) (by omega) fun bg => ⟨_, rfl, ?_⟩
    dsimp only [List.set]
    refine wo ?_
    refine ⟨rfl, (i + 1 + 1, bg), g, by dsimp only; omega, ⟨rfl, rfl, rfl, trivial⟩, fun hp h => ?_⟩
    have e : ((secB xs).take (i + 1 + 1)).map byV = ((secB xs).take (i + 1)).map byV ++ [byV (xs.getD (i + 1) 0)] := by rw [Gx g, List.map_append]; rfl
    dsimp only
    rw [e]
    exact h.pick [1] _ rfl (by decide)
   ·apply wm; iterate 5 exact rfl
    refine Af (v := .b false) rfl rfl (AF (by omega))
    refine wo ?_
    apply p_op; exact (Aa rfl); iterate 4 exact rfl
    refine e_bs (C := [byV 0]) rfl rfl (.cons rfl rfl .nil) rfl fun bn => ⟨_, rfl, ?_⟩
    apply p_op; exact (Aa rfl); iterate 4 exact rfl
    refine e_appO (old := ((secB xs).take (i + 1)).map byV) (new := [byV 0]) rfl rfl (by rw [List.length_map, List.length_take, Gy]; omega) (Bw (k := 1) rfl) rfl (by decide) (by omega) fun bg => ⟨_, rfl, ?_⟩
    dsimp only [List.set]
    refine wo ?_
    refine ⟨rfl, (i + 1 + 1, bg), g, by dsimp only; omega, ⟨rfl, rfl, rfl, trivial⟩, fun hp h => ?_⟩
    have e : ((secB xs).take (i + 1 + 1)).map byV = ((secB xs).take (i + 1)).map byV ++ [byV 0] := by rw [Gx g, List.map_append]; simp [List.getD_eq_getElem?_getD, List.getElem?_eq_none (show xs.length ≤ i + 1 by omega)]
    dsimp only
    rw [e]
    exact h.pick [1] _ rfl (by decide)
 ·apply wm; iterate 5 exact rfl
  refine Af (v := .b false) rfl rfl (AF (by omega))
  refine wo ?_
  refine Bd ?_
  obtain rfl : i = 32 := by omega
  refine wo ?_
  refine Ay (Ag (AR (Ai rfl)) ⟨[], _, rfl, _, rfl, b, rfl, ?_⟩)
  rw [Ip (by rw [Gy]; decide)]
/- Dn1: the document's sum of any bytes: Padded, Sum of cairnref02. By this project. -/
theorem u8_bytes : (tiV vC 5).map (·.bytes) = some 1 := by kernel_rfl
theorem CM : ∃ te, tiV kxD.C 5 = some te ∧ te.bytes = 1 := by
 obtain ⟨te, h1, h2⟩ := Option.map_eq_some_iff.1 u8_bytes
 exact ⟨te, h1, h2⟩
/- Ds17: what the document fixes of hashes; how many hashes a book knows; the closed part of the statements. By this project. -/
theorem new_n {A : Option (Nat × Nat)} {xs : List UInt8} {bits cb c n : Nat} {op : Bool} {hp : Hp} (hn : xs.length = n) (ho : OkH hp) (hA : RB ⟨hp, []⟩ A (xs.map byV)) (hx : xs.length = 32) (b1 : 8 ≤ bits) (b2 : bits ≤ 256) (c1 : 8 ≤ cb) (c2 : cb ≤ 256) :
  Fn kxD 32 [.i .i64 (bits : Int), .i .i64 (cb : Int), .sl A n c op] hp [] fun r N => ∃ u, r = .v u ∧ ∃ b z ha hs ca cs fg, u = .tup [.p (some (b, 0)), .i .i64 0] ∧ N = bkL ⟨b, z, bits, cb, xs, ⟨ha, hs, [], []⟩, ⟨ca, cs, [], []⟩, fg, []⟩ := by
 subst hn
 exact new_d ho hA hx b1 b2 c1 c2
structure BkSt (B : Bk) (b bits cb : Nat) (sec : List UInt8) (ha ca : List (List UInt8)) (fs : List (List UInt8 × List UInt8)) : Prop where
 ok : BkOk B
 b : B.b = b
 bits : B.bits = bits
 cb : B.cb = cb
 sec : B.sec = sec
 ha : B.hd.all = ha
 ca : B.cd.all = ca
 fs : B.fs = fs
theorem new_s {A : Option (Nat × Nat)} {xs : List UInt8} {bits cb c n : Nat} {op : Bool} {hp : Hp} (hn : xs.length = n) (ho : OkH hp) (hA : RB ⟨hp, []⟩ A (xs.map byV)) (hx : xs.length = 32) (b1 : 8 ≤ bits) (b2 : bits ≤ 256) (c1 : 8 ≤ cb) (c2 : cb ≤ 256) :
  Fn kxD 32 [.i .i64 (bits : Int), .i .i64 (cb : Int), .sl A n c op] hp [] fun r N => ∃ u, r = .v u ∧ ∃ b B, u = .tup [.p (some (b, 0)), .i .i64 0] ∧ BkSt B b bits cb xs [] [] [] ∧ N = bkL B :=
 (new_n hn ho hA hx b1 b2 c1 c2).mono fun r N ⟨u, h1, b, z, ha, hs, ca, cs, fg, h2, h3⟩ => ⟨u, h1, b, _, h2, ⟨new_ok hx b2 c2, rfl, rfl, rfl, rfl, rfl, rfl, rfl⟩, h3⟩
variable {B : Bk} {b bits cb : Nat} {sec : List UInt8} {ha ca : List (List UInt8)} {fs : List (List UInt8 × List UInt8)}
theorem code_gs {A : Option (Nat × Nat)} {xs : List UInt8} {c : Nat} {op : Bool} {hp : Hp} (hB : BkSt B b bits cb sec ha ca fs) (h0 : SV ⟨hp, hnds (bkL B)⟩ hp (bkL B)) (hk : Tab ⟨hp, hnds (bkL B)⟩) (hA : RB ⟨hp, hnds (bkL B)⟩ A (xs.map byV)) (hc : CapOk xs.length c op) (hx : xs.length < 72057594037927936) (hl : ca.length < 100000000) :
  Fn kxD 45 [.p (some (b, 0)), .sl A xs.length c op] hp (hnds (bkL B)) fun r N => ∃ u, r = .v u ∧ (u = hK (cutB cb (macB sec xs)) ∧ ∃ B', BkSt B' b bits cb sec ha (addS ca xs) fs ∧ N = bkL B') := by
 obtain ⟨ok, rfl, rfl, rfl, rfl, rfl, rfl, rfl⟩ := hB
 exact (code_g h0 ok hk hA hc hx hl).mono fun r N ⟨u, h1, h2, hd', h3, h4, h5⟩ => ⟨u, h1, h2, _, ⟨h3, rfl, rfl, rfl, rfl, rfl, h4, rfl⟩, h5⟩
theorem accept_gs {A : Option (Nat × Nat)} {xs code : List UInt8} {c : Nat} {op : Bool} {hp : Hp} (hB : BkSt B b bits cb sec ha ca fs) (h0 : SV ⟨hp, hnds (bkL B)⟩ hp (bkL B)) (hk : Tab ⟨hp, hnds (bkL B)⟩) (hA : RB ⟨hp, hnds (bkL B)⟩ A (xs.map byV)) (hc : CapOk xs.length c op) (hx : xs.length < 72057594037927936) (hcl : code.length = 32) :
  Fn kxD 53 [.p (some (b, 0)), .sl A xs.length c op, hK code] hp (hnds (bkL B)) fun r N => ∃ u, r = .v u ∧ (u = .b (decide (cutB cb (macB sec xs) = code)) ∧ ∃ B', BkSt B' b bits cb sec ha ca (if cutB cb (macB sec xs) = code ∧ xs ∉ ca then addF fs (xs, code) else fs) ∧ N = bkL B') := by
 obtain ⟨ok, rfl, rfl, rfl, rfl, rfl, rfl, rfl⟩ := hB
 exact (accept_d h0 ok hk hA hc hx hcl).mono fun r N ⟨u, h1, h2, fs', h3, h4, h5⟩ => ⟨u, h1, h2, _, ⟨h3, rfl, rfl, rfl, rfl, rfl, rfl, h4⟩, h5⟩
theorem forg0_s {hp : Hp} (hB : BkSt B b bits cb sec ha ca []) (h0 : SV ⟨hp, hnds (bkL B)⟩ hp (bkL B)) :
  Fn kxD 21 [.p (some (b, 0))] hp (hnds (bkL B)) fun r N => ∃ u, r = .v u ∧ (u = .sl none 0 0 false ∧ N = bkL B) := by
 have hf := hB.fs
 obtain rfl := hB.b
 exact forg0_d h0 hf
end Go.Proofs.YtbmkclbghfbegaaGreatDoor
/- Dn2: hashes and refs, as the document tells them and as the program does: Hash of cairnref04, Refer and SameRef of cairnref07, Refer of node; the statements' Roomy, AsWas. By this project. -/
set_option maxRecDepth 100000
namespace Go.Proofs.YtbmkclbghfbegaaGreatDoor
open Go.RowKit Go.Extern.Stop
section
variable {K : Kx} {hp0 : Bs} {l : VL} {L : HV} {a b : Operand} {t t' : TypeId}
end
/- Js3: rlp: shortest, head, deeper, may, size. By this project. -/
section
variable {K : Kx} {hp0 : Bs} {l : VL} {L : HV} {a b : Operand} {t t' : TypeId}
theorem m_addB {x y : UInt8} (hx : evL l a = some (byV x)) (hy : evL l b = some (byV y)) : MVO K hp0 l L (.binOp .add t a b t') (byV (x + y)) :=
 Af hx hy (by
  show some (V.i .u8 (IntKind.u8.wrap (Int.ofNat x.toNat + Int.ofNat y.toNat))) = _
  have e : Int.ofNat x.toNat + Int.ofNat y.toNat = ((x.toNat + y.toNat : Nat) : Int) := by simp
  rw [e, wrapU8, ← G7]
  congr 1)
theorem m_subW {x y : UInt8} (hx : evL l a = some (byV x)) (hy : evL l b = some (byV y)) : MVO K hp0 l L (.binOp .sub t a b t') (byV (x - y)) :=
 Af hx hy (by
  show some (V.i .u8 (IntKind.u8.wrap (Int.ofNat x.toNat - Int.ofNat y.toNat))) = _
  have h1 := x.toNat_lt
  have h2 := y.toNat_lt
  have e : (x - y).toNat = (256 - y.toNat + x.toNat) % 256 := by rw [UInt8.toNat_sub]
  have e2 : IntKind.u8.wrap (Int.ofNat x.toNat - Int.ofNat y.toNat) = (((256 - y.toNat + x.toNat) % 256 : Nat) : Int) := by
   simp only [IntKind.wrap, IntKind.bits, IntKind.signed]
   simp
   omega
  rw [e2, ← e]
  rfl)
end
theorem base_55 (x y : UInt8) : x + 56 - 1 + y = x + 55 + y := by
 have e : x + 56 - 1 = x + 55 := by
  rw [← UInt8.toNat_inj, UInt8.toNat_sub, UInt8.toNat_add, UInt8.toNat_add]
  have h1 : UInt8.toNat 56 = 56 := rfl
  have h2 : UInt8.toNat 55 = 55 := rfl
  have h3 : UInt8.toNat 1 = 1 := rfl
  rw [h1, h2, h3]
  omega
 rw [e]
theorem H1 {n : Nat} (h : n < 18446744073709551616) : (Ax n).length ≤ 8 := Fv 8 n (by omega)
set_option maxHeartbeats 4000000 in
theorem shortest_d {n : Nat} {hp : Hp} (ho : OkH hp) (hn : n < 18446744073709551616) :
  Fn kxD 91 [.i .u64 (n : Int)] hp [] fun r N => ∃ u, r = .v u ∧ RowK (Ax n) u N := by
 have h8 := H1 hn
 refine Au (T := []) ho.sv (fun _ => rfl) (fn := Tryz.f91) (by kernel_rfl) rfl rfl ?_
 refine wo ?_
 refine BM ?_
 refine wo ?_
 refine Bq (ι := Nat × List UInt8 × V × HV) (fun s => [(3, s.2.2.1), (0, .i .u64 (s.1 : Int))]) (fun s => s.2.2.2) (fun s => s.1 ≤ n ∧ Ax n = Ax s.1 ++ s.2.1 ∧ RowK s.2.1 s.2.2.1 s.2.2.2) (fun s => s.1) (n, [], .sl none 0 0 false, []) ⟨Nat.le_refl _, (List.append_nil _).symm, .nil⟩ ⟨rfl, rfl, trivial⟩ (fun hp h => h) ?_
 intro ⟨m, acc, u, N⟩ ⟨h1, h2, h3⟩
 dsimp only at h1 h2 h3 ⊢
 obtain ⟨A, op, rfl⟩ := h3.sl
 have h4 : acc.length ≤ 8 := by
  have := congrArg List.length h2
  rw [List.length_append] at this
  omega
 refine wo ?_
 by_cases g : 0 < m
 ·apply wm; iterate 5 exact rfl
  refine Af (v := .b true) rfl rfl (Cv (by omega))
  refine wo ?_
  apply wm; iterate 5 exact rfl
  refine DG rfl
  apply p_op; exact (Aa rfl); iterate 4 exact rfl
  refine e_bs (C := [byV (UInt8.ofNat m)]) rfl rfl (.cons rfl rfl .nil) rfl fun b1 => ⟨_, rfl, ?_⟩
  refine wo ?_
  apply p_op; exact (Aa rfl); iterate 4 exact rfl
  refine C8 (RowU.lit1 (y := UInt8.ofNat m)) rfl rfl h3.src rfl CM (by show 1 + acc.length ≤ _; omega) fun A' m' op' N' hu' hm' => ⟨_, rfl, ?_⟩
  refine wo ?_
  apply wm; iterate 5 exact rfl
  refine m_shrN rfl rfl (by decide)
  refine wo ?_
  refine ⟨rfl, (m / 2 ^ 8, UInt8.ofNat m :: acc, _, N'), ⟨Nat.le_trans (Nat.div_le_self _ _) h1, ?_, hu'⟩, Nat.div_lt_self g (by decide), ⟨rfl, rfl, trivial⟩, fun hp h => h.headL⟩
  rw [h2, Cf g, List.append_assoc]
  rfl
 ·apply wm; iterate 5 exact rfl
  refine Af (v := .b false) rfl rfl (Bm (by omega))
  refine wo ?_
  refine Bd ?_
  obtain rfl : m = 0 := by omega
  rw [Bv, List.nil_append] at h2
  refine wo ?_
  exact Ay (Ag (AR (Ai rfl)) ⟨_, rfl, by rw [h2]; exact h3⟩)
set_option maxHeartbeats 4000000 in
theorem head_d {n : Nat} {base : UInt8} {hp : Hp} (ho : OkH hp) (hn : n < 9223372036854775808) :
  Fn kxD 92 [.i .i64 (n : Int), byV base] hp [] fun r N => ∃ u, r = .v u ∧ RowK (BA base n) u N := by
 have h8 := H1 (n := n) (by omega)
 refine Fn.dropM ?_
 refine Au (T := []) ho.sv (fun _ => rfl) (fn := Tryz.f92) (by kernel_rfl) rfl rfl ?_
 refine wo ?_
 by_cases g : n < 56
 ·have e : BA base n = [base + UInt8.ofNat n] := if_pos g
  rw [e]
  apply wm; iterate 5 exact rfl
  refine Af (v := .b true) rfl rfl (AL (by omega))
  refine wo ?_
  apply wm; iterate 5 exact rfl
  refine DG rfl
  apply wm; iterate 5 exact rfl
  refine m_addB rfl rfl
  apply p_op; exact (Aa rfl); iterate 4 exact rfl
  refine e_bs (C := [byV (base + UInt8.ofNat n)]) rfl rfl (.cons rfl rfl .nil) rfl fun b1 => ⟨_, rfl, ?_⟩
  refine wo ?_
  exact Ay (Ag (AR (Ai rfl)) ⟨_, outM _, _, rfl, RowU.lit1⟩)
 ·have e : BA base n = (base + 55 + UInt8.ofNat (Ax n).length) :: Ax n := if_neg g
  rw [e]
  apply wm; iterate 5 exact rfl
  refine Af (v := .b false) rfl rfl (AF (by omega))
  refine wo ?_
  apply wm; iterate 5 exact rfl
  refine m_convU rfl (by omega)
  apply AU []; exact (Aa rfl); iterate 4 exact rfl
  case hC => exact (fun hp hs ht => shortest_d hs.ok (by omega))
  rintro u N hu
  obtain ⟨A, op, rfl⟩ := hu.sl
  refine wo ?_
  apply wm; iterate 5 exact rfl
  refine m_addB (y := 56) rfl rfl
  apply wm; iterate 5 exact rfl
  refine m_subW (y := 1) rfl rfl
  refine wo ?_
  apply wm; iterate 5 exact rfl
  refine DG rfl
  apply wm; iterate 5 exact rfl
  refine m_addB rfl rfl
  rw [base_55]
  apply p_op; exact (Aa rfl); iterate 4 exact rfl
  refine e_bs (C := [byV (base + 55 + UInt8.ofNat (Ax n).length)]) rfl rfl (.cons rfl rfl .nil) rfl fun b1 => ⟨_, rfl, ?_⟩
  refine wo ?_
  apply p_op; exact (Aa rfl); iterate 4 exact rfl
  refine C8 (RowU.lit1 (y := base + 55 + UInt8.ofNat (Ax n).length)) rfl rfl hu.src rfl CM (by show 1 + _ ≤ _; omega) fun A' m' op' N' hu' hm' => ⟨_, rfl, ?_⟩
  refine wo ?_
  exact Ay (Ag (AR (Ai rfl)) ⟨_, outM N', _, rfl, hu'⟩)
theorem len_encs : ∀ (l : List It), l.length ≤ (encs l).length
 | [] => by simp
 | t :: r => by
  rw [encs, List.length_append, List.length_cons]
  have := enc_pos t
  have := len_encs r
  omega
theorem len_enc {l : List It} (h : (enc (.list l)).length ≤ 1073741824) : (encs l).length ≤ 1073741824 ∧ l.length ≤ 1073741824 := by
 rw [enc, List.length_append] at h
 have := len_encs l
 omega
theorem it_at {B : Bs} {l : List It} {A : Option (Nat × Nat)} {vs : List (List V)} {i : Nat} (hA : RB B A vs.flatten) (h : ItRs B l vs) (hi : i < l.length) : ∃ b o vi, A = some (b, o) ∧ (vs.flatten.drop (i * 3)).take 3 = vi ∧ ItR B l[i] vi ∧ vi.length = 3 ∧ vi ≠ [] := by
 obtain ⟨vi, hv, ht⟩ := itRs_at h (Iq hi)
 have h3 := itR_len ht
 have hne : vi ≠ [] := fun e => by rw [e] at h3; simp at h3
 have hf := Di (itRs_rows h) hv
 have hb : ∃ b o, A = some (b, o) := by
  cases hq : vs.flatten with
  | nil => rw [hq] at hf; simp at hf; exact absurd hf hne
  | cons v r => exact Cw (by rw [← hq]; exact hA.1.rv)
 obtain ⟨b, o, rfl⟩ := hb
 exact ⟨b, o, vi, rfl, hf, ht, h3, hne⟩
set_option maxHeartbeats 8000000 in
theorem deeper_k : ∀ (k : Nat) {t : It} {v : List V} {most : Nat} {hp : Hp}, (enc t).length ≤ 1073741824 → depth t ≤ k → OkH hp → ItR ⟨hp, []⟩ t v → depth t ≤ most → most < 1000000 →
  Fn kxD 69 [.agg v, .i .i64 (most : Int)] hp [] fun r _ => r = .v (.b false) := by
 intro k
 induction k with
 | zero =>
  intro t v most hp hl hd ho ht hm hm2
  cases t with
  | list l => rw [depth] at hd; omega
  | str bs =>
   rw [ItR] at ht
   obtain ⟨A, c, o, rfl, hA⟩ := ht
   refine Au (T := []) ho.sv (fun _ => rfl) (fn := Tryz.f69) (by kernel_rfl) rfl rfl ?_
   refine wo ?_
   apply p_op; exact (Aa rfl); iterate 4 exact rfl
   refine Br rfl rfl fun bx => ⟨_, rfl, ?_⟩
   refine wo ?_
   exact Ay (Ag (AR (Ai rfl)) rfl)
 | succ k ih =>
  intro t v most hp hl hd ho ht hm hm2
  cases t with
  | str bs =>
   rw [ItR] at ht
   obtain ⟨A, c, o, rfl, hA⟩ := ht
   refine Au (T := []) ho.sv (fun _ => rfl) (fn := Tryz.f69) (by kernel_rfl) rfl rfl ?_
   refine wo ?_
   apply p_op; exact (Aa rfl); iterate 4 exact rfl
   refine Br rfl rfl fun bx => ⟨_, rfl, ?_⟩
   refine wo ?_
   exact Ay (Ag (AR (Ai rfl)) rfl)
  | list l =>
   rw [ItR] at ht
   obtain ⟨A, c, o, vs, rfl, hA, hvs⟩ := ht
   rw [depth] at hd hm
   obtain ⟨hl1, hl2⟩ := len_enc hl
   refine Au (T := []) ho.sv (fun _ => rfl) (fn := Tryz.f69) (by kernel_rfl) rfl rfl ?_
   refine wo ?_
   apply p_op; exact (Aa rfl); iterate 4 exact rfl
   refine Br rfl rfl fun bx => ⟨_, rfl, ?_⟩
   refine wo ?_
   apply wm; iterate 5 exact rfl
   refine Af (v := .b false) rfl rfl (BW (by omega))
   refine wo ?_
   refine BM ?_
   refine wo ?_
   refine Bq (ι := Nat) (fun i => [(15, .i .i64 (i : Nat)), (14, .i .i64 (l.length : Nat)), (13, .sl A l.length c o), (2, .p (some (bx, 0))), (1, .i .i64 (most : Nat))]) (fun i => [(some bx, Am [.b true, .sl none 0 0 false, .sl A l.length c o] 95)]) (fun i => i ≤ l.length) (fun i => l.length - i) 0 (Nat.zero_le _) ⟨rfl, rfl, rfl, rfl, rfl, trivial⟩ (fun hp h => h) ?_
   intro i hi
   refine wo ?_
   by_cases g : i < l.length
   ·obtain ⟨b, oa, vi, rfl, hvi, hti, h3, hne⟩ := it_at hA hvs g
    have hdi : depth l[i] ≤ C9 l := Fm (List.getElem_mem g)
    have hei : (enc l[i]).length ≤ (encs l).length := enc_mem (List.getElem_mem g)
    apply wm; iterate 5 exact rfl
    refine Af (v := .b true) rfl rfl (AL (by omega))
    refine wo ?_
    apply wn; iterate 5 exact rfl
    refine CO rfl rfl g
    apply wm; iterate 5 exact rfl
    refine BT (j := i * 3) (s := 2) rfl hA.1 hA.2 rfl hvi h3
    apply p_op; exact (Aa rfl); iterate 4 exact rfl
    refine As rfl fun bi => ⟨_, rfl, ?_⟩
    apply p_do; exact (Aa rfl); exact rfl; exact rfl
    refine AG (C' := vi) rfl rfl hne h3 (by simp) (AC (by rw [h3]; rfl)) ⟨_, rfl, ?_⟩
    refine wo ?_
    refine zX (AO (s := 2) (cs := vi) rfl (by rw [List.drop_zero]; exact Ip (by omega)) h3) ?_
    refine wo ?_
    refine AY (Aa rfl) rfl rfl rfl rfl (fun hp hs => ih (most := most - 1) (by omega) (by omega) hs.ok (hti.give0 hs) (by omega) (by omega)) ?_
    refine wo ?_
    exact ⟨rfl, i + 1, g, by omega, ⟨rfl, rfl, rfl, rfl, rfl, trivial⟩, fun hp h => h.pick [1] _ rfl (by decide)⟩
   ·apply wm; iterate 5 exact rfl
    refine Af (v := .b false) rfl rfl (AF (by omega))
    refine wo ?_
    refine Bd ?_
    refine wo ?_
    exact Ay (Ag (AR (Ai rfl)) rfl)
theorem deeper_d {t : It} {v : List V} {most : Nat} {hp : Hp} (hl : (enc t).length ≤ 1073741824) (ho : OkH hp) (ht : ItR ⟨hp, []⟩ t v) (hm : depth t ≤ most) (hm2 : most < 1000000) :
  Fn kxD 69 [.agg v, .i .i64 (most : Int)] hp [] fun r _ => r = .v (.b false) := deeper_k _ hl (Nat.le_refl _) ho ht hm hm2
set_option maxHeartbeats 8000000 in
theorem rmay_k : ∀ (k : Nat) {t : It} {v : List V} {hp : Hp}, (enc t).length ≤ 1073741824 → depth t ≤ k → OkH hp → ItR ⟨hp, []⟩ t v →
  Fn kxD 70 [.agg v] hp [] fun r _ => r = .v (.b true) := by
 intro k
 induction k with
 | zero =>
  intro t v hp hl hd ho ht
  cases t with
  | list l => rw [depth] at hd; omega
  | str bs =>
   rw [ItR] at ht
   obtain ⟨A, c, o, rfl, hA⟩ := ht
   refine Au (T := []) ho.sv (fun _ => rfl) (fn := Tryz.f70) (by kernel_rfl) rfl rfl ?_
   refine wo ?_
   apply p_op; exact (Aa rfl); iterate 4 exact rfl
   refine Br rfl rfl fun bx => ⟨_, rfl, ?_⟩
   refine wo ?_
   apply wm; iterate 5 exact rfl
   refine Af (v := .b true) rfl rfl (Be (rfl))
   refine wo ?_
   exact Ay (Ag (AR (Ai rfl)) rfl)
 | succ k ih =>
  intro t v hp hl hd ho ht
  cases t with
  | str bs =>
   rw [ItR] at ht
   obtain ⟨A, c, o, rfl, hA⟩ := ht
   refine Au (T := []) ho.sv (fun _ => rfl) (fn := Tryz.f70) (by kernel_rfl) rfl rfl ?_
   refine wo ?_
   apply p_op; exact (Aa rfl); iterate 4 exact rfl
   refine Br rfl rfl fun bx => ⟨_, rfl, ?_⟩
   refine wo ?_
   apply wm; iterate 5 exact rfl
   refine Af (v := .b true) rfl rfl (Be (rfl))
   refine wo ?_
   exact Ay (Ag (AR (Ai rfl)) rfl)
  | list l =>
   rw [ItR] at ht
   obtain ⟨A, c, o, vs, rfl, hA, hvs⟩ := ht
   rw [depth] at hd
   obtain ⟨hl1, hl2⟩ := len_enc hl
   refine Au (T := []) ho.sv (fun _ => rfl) (fn := Tryz.f70) (by kernel_rfl) rfl rfl ?_
   refine wo ?_
   apply p_op; exact (Aa rfl); iterate 4 exact rfl
   refine Br rfl rfl fun bx => ⟨_, rfl, ?_⟩
   refine wo ?_
   refine BM ?_
   refine wo ?_
   refine Bq (ι := Nat) (fun i => [(15, .i .i64 (i : Nat)), (14, .i .i64 (l.length : Nat)), (13, .sl A l.length c o), (1, .p (some (bx, 0)))]) (fun i => [(some bx, Am [.b true, .sl none 0 0 false, .sl A l.length c o] 95)]) (fun i => i ≤ l.length) (fun i => l.length - i) 0 (Nat.zero_le _) ⟨rfl, rfl, rfl, rfl, trivial⟩ (fun hp h => h) ?_
   intro i hi
   refine wo ?_
   by_cases g : i < l.length
   ·obtain ⟨b, oa, vi, rfl, hvi, hti, h3, hne⟩ := it_at hA hvs g
    have hdi : depth l[i] ≤ C9 l := Fm (List.getElem_mem g)
    have hei : (enc l[i]).length ≤ (encs l).length := enc_mem (List.getElem_mem g)
    apply wm; iterate 5 exact rfl
    refine Af (v := .b true) rfl rfl (AL (by omega))
    refine wo ?_
    apply wn; iterate 5 exact rfl
    refine CO rfl rfl g
    apply wm; iterate 5 exact rfl
    refine BT (j := i * 3) (s := 2) rfl hA.1 hA.2 rfl hvi h3
    apply p_op; exact (Aa rfl); iterate 4 exact rfl
    refine As rfl fun bi => ⟨_, rfl, ?_⟩
    apply p_do; exact (Aa rfl); exact rfl; exact rfl
    refine AG (C' := vi) rfl rfl hne h3 (by simp) (AC (by rw [h3]; rfl)) ⟨_, rfl, ?_⟩
    refine wo ?_
    refine zX (AO (s := 2) (cs := vi) rfl (by rw [List.drop_zero]; exact Ip (by omega)) h3) ?_
    refine AY (Aa rfl) rfl rfl rfl rfl (fun hp hs => ih (by omega) (by omega) hs.ok (hti.give0 hs)) ?_
    refine wo ?_
    exact ⟨rfl, i + 1, g, by omega, ⟨rfl, rfl, rfl, rfl, trivial⟩, fun hp h => h.pick [1] _ rfl (by decide)⟩
   ·apply wm; iterate 5 exact rfl
    refine Af (v := .b false) rfl rfl (AF (by omega))
    refine wo ?_
    refine Bd ?_
    refine wo ?_
    apply wm; iterate 5 exact rfl
    refine Af (v := .b true) rfl rfl (Be (rfl))
    refine wo ?_
    exact Ay (Ag (AR (Ai rfl)) rfl)
theorem rmay_d {t : It} {v : List V} {hp : Hp} (hl : (enc t).length ≤ 1073741824) (ho : OkH hp) (ht : ItR ⟨hp, []⟩ t v) : Fn kxD 70 [.agg v] hp [] fun r _ => r = .v (.b true) := rmay_k _ hl (Nat.le_refl _) ho ht
/- Js4: rlp: size, form, Encode. By this project. -/
theorem G5 {l : List It} {i : Nat} (h : i < l.length) : encs (l.take (i + 1)) = encs (l.take i) ++ enc l[i] := by
 rw [List.take_succ_eq_append_getElem h, encs_app, encs, encs, List.append_nil]
theorem G4 (l : List It) (i : Nat) : (encs (l.take i)).length ≤ (encs l).length := by
 conv => rhs; rw [← List.take_append_drop i l, encs_app, List.length_append]
 omega
theorem DN {b : UInt8} (h : b.toNat < 128) : strB [b] = [b] := by show (if b.toNat < 128 then [b] else BA 128 1 ++ [b]) = _; rw [if_pos h]
theorem strB_big {b : UInt8} (h : ¬ b.toNat < 128) : strB [b] = BA 128 1 ++ [b] := by show (if b.toNat < 128 then [b] else BA 128 1 ++ [b]) = _; rw [if_neg h]
theorem D7 {bs : List UInt8} (h : bs.length ≠ 1) : strB bs = BA 128 bs.length ++ bs := by
 unfold strB
 split
 ·simp at h
 ·rfl
theorem strB_many {bs : List UInt8} (h : ∀ b, bs = [b] → ¬ b.toNat < 128) : strB bs = BA 128 bs.length ++ bs := by
 by_cases g : bs.length = 1
 ·obtain ⟨b, rfl⟩ := List.length_eq_one_iff.1 g
  exact strB_big (h b rfl)
 ·exact D7 g
theorem C7 (base : UInt8) {n : Nat} (h : n < 18446744073709551616) : (BA base n).length ≤ 9 := by
 have := H1 h
 unfold BA
 split
 ·simp
 ·simp only [List.length_cons]; omega
theorem rb_one {B : Bs} {A : Option (Nat × Nat)} {y : UInt8} {r : List V} (h : RB B A (byV y :: r)) : ∃ b o, A = some (b, o) := Cw h.1.rv
set_option maxHeartbeats 8000000 in
theorem size_k : ∀ (k : Nat) {t : It} {v : List V} {hp : Hp}, depth t ≤ k → OkH hp → ItR ⟨hp, []⟩ t v → (enc t).length ≤ 1048576 →
  Fn kxD 71 [.agg v] hp [] fun r _ => r = .v (.i .i64 ((enc t).length : Int)) := by
 have strs : ∀ {bs : List UInt8} {v : List V} {hp : Hp}, OkH hp → ItR ⟨hp, []⟩ (.str bs) v → (enc (.str bs)).length ≤ 1048576 → Fn kxD 71 [.agg v] hp [] fun r _ => r = .v (.i .i64 ((enc (.str bs)).length : Int)) := by
  intro bs v hp ho ht hl
  rw [ItR] at ht
  obtain ⟨A, c, o, rfl, hA⟩ := ht
  rw [enc] at hl ⊢
  refine Au (T := []) ho.sv (fun _ => rfl) (fn := Tryz.f71) (by kernel_rfl) rfl rfl ?_
  refine wo ?_
  apply p_op; exact (Aa rfl); iterate 4 exact rfl
  refine Br rfl rfl fun bx => ⟨_, rfl, ?_⟩
  refine wo ?_
  iterate 4 ((try refine BM ?_); refine wo ?_)
  by_cases g : bs.length = 1
  ·obtain ⟨y, rfl⟩ := List.length_eq_one_iff.1 g
   obtain ⟨b, oa, rfl⟩ := rb_one hA
   apply wm; iterate 5 exact rfl
   refine Af (v := .b true) rfl rfl (Be (rfl))
   refine wo ?_
   apply wg; iterate 7 exact rfl
   refine p_ia (i := 0) rfl rfl Nat.one_pos
   apply wmg; iterate 7 exact rfl
   refine BO (j := 0) (v := byV y) rfl hA.1 hA.2 rfl rfl
   by_cases g2 : y.toNat < 128
   ·rw [DN g2]
    apply wmg; iterate 7 exact rfl
    refine Af (v := .b true) rfl rfl (AL ((by show Int.ofNat y.toNat < 128; simp; omega)))
    refine wo ?_
    exact Ay (Ag (AR (Ai rfl)) rfl)
   ·have h91 := C7 128 (n := 1) (by decide)
    rw [strB_big g2]
    apply wmg; iterate 7 exact rfl
    refine Af (v := .b false) rfl rfl (AF ((by show ¬ Int.ofNat y.toNat < 128; simp; omega)))
    refine wo ?_
    apply AU []; exact (Aa rfl); iterate 4 exact rfl
    case hC => exact (fun hp hs ht => head_d (n := 1) (base := 128) hs.ok (by decide))
    rintro u N hu
    obtain ⟨A', op', rfl⟩ := hu.sl
    refine wo ?_
    exact Ay (Ag (AR (Ai rfl)) (by rw [List.length_append, Nat.add_comm]))
  ·have hb : bs.length ≤ 1048576 := by
    rw [D7 g, List.length_append] at hl
    omega
   have h9 := C7 128 (n := bs.length) (by omega)
   rw [D7 g, List.length_append]
   apply wm; iterate 5 exact rfl
   refine Af (v := .b false) rfl rfl (BW (by omega))
   refine wo ?_
   apply AU []; exact (Aa rfl); iterate 4 exact rfl
   case hC => exact (fun hp hs ht => head_d (n := bs.length) (base := 128) hs.ok (by omega))
   rintro u N hu
   obtain ⟨A', op', rfl⟩ := hu.sl
   refine wo ?_
   exact Ay (Ag (AR (Ai rfl)) (by rw [Nat.add_comm]))
 intro k
 induction k with
 | zero =>
  intro t v hp hd ho ht hl
  cases t with
  | list l => rw [depth] at hd; omega
  | str bs => exact strs ho ht hl
 | succ k ih =>
  intro t v hp hd ho ht hl
  cases t with
  | str bs => exact strs ho ht hl
  | list l =>
   rw [ItR] at ht
   obtain ⟨A, c, o, vs, rfl, hA, hvs⟩ := ht
   rw [depth] at hd
   have hl2 := (len_enc (l := l) (by omega)).2
   rw [enc, List.length_append] at hl ⊢
   have h9 := C7 192 (n := (encs l).length) (by omega)
   refine Au (T := []) ho.sv (fun _ => rfl) (fn := Tryz.f71) (by kernel_rfl) rfl rfl ?_
   refine wo ?_
   apply p_op; exact (Aa rfl); iterate 4 exact rfl
   refine Br rfl rfl fun bx => ⟨_, rfl, ?_⟩
   refine wo ?_
   iterate 4 ((try refine BM ?_); refine wo ?_)
   refine Bq (ι := Nat) (fun i => [(15, .i .i64 (i : Nat)), (14, .i .i64 (l.length : Nat)), (13, .sl A l.length c o), (3, .i .i64 ((encs (l.take i)).length : Nat)), (4, byV 192), (1, .p (some (bx, 0)))]) (fun i => [(some bx, Am [.b true, .sl none 0 0 false, .sl A l.length c o] 95)]) (fun i => i ≤ l.length) (fun i => l.length - i) 0 (Nat.zero_le _) ⟨rfl, rfl, rfl, rfl, rfl, rfl, trivial⟩ (fun hp h => h) ?_
   intro i hi
   have hlt := G4 l i
   refine wo ?_
   by_cases g : i < l.length
   ·obtain ⟨b, oa, vi, rfl, hvi, hti, h3, hne⟩ := it_at hA hvs g
    have hdi : depth l[i] ≤ C9 l := Fm (List.getElem_mem g)
    have hli : (enc l[i]).length ≤ (encs l).length := enc_mem (List.getElem_mem g)
    have hl1 := G4 l (i + 1)
    rw [G5 g, List.length_append] at hl1
    apply wm; iterate 5 exact rfl
    refine Af (v := .b true) rfl rfl (AL (by omega))
    refine wo ?_
    apply wn; iterate 5 exact rfl
    refine CO rfl rfl g
    apply wm; iterate 5 exact rfl
    refine BT (j := i * 3) (s := 2) rfl hA.1 hA.2 rfl hvi h3
    apply p_op; exact (Aa rfl); iterate 4 exact rfl
    refine As rfl fun bi => ⟨_, rfl, ?_⟩
    apply p_do; exact (Aa rfl); exact rfl; exact rfl
    refine AG (C' := vi) rfl rfl hne h3 (by simp) (AC (by rw [h3]; rfl)) ⟨_, rfl, ?_⟩
    refine wo ?_
    refine zX (AO (s := 2) (cs := vi) rfl (by rw [List.drop_zero]; exact Ip (by omega)) h3) ?_
    refine AY (Aa rfl) rfl rfl rfl rfl (fun hp hs => ih (by omega) hs.ok (hti.give0 hs) (by omega)) ?_
    refine wo ?_
    apply wm; iterate 5 exact rfl
    refine Af (v := .b false) rfl rfl (Bm (by omega))
    refine wo ?_
    exact ⟨rfl, i + 1, g, by omega, ⟨rfl, rfl, rfl, by rw [G5 g, List.length_append]; rfl, rfl, rfl, trivial⟩, fun hp h => h.pick [1] _ rfl (by decide)⟩
   ·apply wm; iterate 5 exact rfl
    refine Af (v := .b false) rfl rfl (AF (by omega))
    refine wo ?_
    refine Bd ?_
    obtain rfl : i = l.length := by omega
    rw [List.take_length]
    refine wo ?_
    apply AU []; exact (Aa rfl); iterate 4 exact rfl
    case hC => exact (fun hp hs ht => head_d (n := (encs l).length) (base := 192) hs.ok (by omega))
    rintro u N hu
    obtain ⟨A', op', rfl⟩ := hu.sl
    refine wo ?_
    exact Ay (Ag (AR (Ai rfl)) (by rw [Nat.add_comm]))
theorem size_d {t : It} {v : List V} {hp : Hp} (ho : OkH hp) (ht : ItR ⟨hp, []⟩ t v) (hl : (enc t).length ≤ 1048576) :
  Fn kxD 71 [.agg v] hp [] fun r _ => r = .v (.i .i64 ((enc t).length : Int)) := size_k _ (Nat.le_refl _) ho ht hl
theorem SV.fresh {B : Bs} {hp : Hp} {b : Nat} {o : VO} {M : HV} (h : SV B hp ((some b, o) :: M)) : b ∉ hnds M := fun hb => by
 obtain ⟨i, o', hi⟩ := CI M b hb
 have := h.one 0 (i + 1) b o o' rfl (by simpa using hi)
 omega
instance {b : Nat} : NotIn b (hnds []) := ⟨by simp [hnds]⟩
instance {b : Nat} {x y : List Nat} [h : NotIn b x] [k : NotIn b y] : NotIn b (x ++ y) := ⟨fun e => (List.mem_append.1 e).elim h.h k.h⟩
set_option maxHeartbeats 16000000 in
theorem form_k : ∀ (k : Nat) {t : It} {v : List V} {xs : List UInt8} {u0 : V} {N0 : HV} {hp : Hp}, depth t ≤ k → SV ⟨hp, hnds N0⟩ hp N0 → RowK xs u0 N0 → ItR ⟨hp, hnds N0⟩ t v → xs.length + (enc t).length ≤ 1073741824 →
  Fn kxD 72 [u0, .agg v] hp (hnds N0) fun r N => ∃ u, r = .v u ∧ RowK (xs ++ enc t) u N := by
 have strs : ∀ {bs : List UInt8} {v : List V} {xs : List UInt8} {u0 : V} {N0 : HV} {hp : Hp}, SV ⟨hp, hnds N0⟩ hp N0 → RowK xs u0 N0 → ItR ⟨hp, hnds N0⟩ (.str bs) v → xs.length + (enc (.str bs)).length ≤ 1073741824 →
   Fn kxD 72 [u0, .agg v] hp (hnds N0) fun r N => ∃ u, r = .v u ∧ RowK (xs ++ enc (.str bs)) u N := by
  intro bs v xs u0 N0 hp h0 hu0 ht hl
  rw [ItR] at ht
  obtain ⟨A, c, o, rfl, hA⟩ := ht
  rw [enc] at hl ⊢
  obtain ⟨A0, op0, rfl⟩ := hu0.sl
  have big : (∀ b, bs = [b] → ¬ b.toNat < 128) → strB bs = BA 128 bs.length ++ bs := strB_many
  refine Fn.dropM ?_
  refine Au h0 (fun _ => rfl) (fn := Tryz.f72) (by kernel_rfl) rfl rfl ?_
  refine wo ?_
  apply p_op; exact (Aa rfl); iterate 4 exact rfl
  refine Br rfl rfl fun bx => ⟨_, rfl, ?_⟩
  refine wo ?_
  iterate 4 ((try refine BM ?_); refine wo ?_)
  by_cases g : ∃ y, bs = [y] ∧ y.toNat < 128
  ·obtain ⟨y, rfl, g2⟩ := g
   obtain ⟨b, oa, rfl⟩ := rb_one hA
   rw [DN g2]
   apply wm; iterate 5 exact rfl
   refine Af (v := .b true) rfl rfl (Be (rfl))
   refine wo ?_
   apply wg; iterate 7 exact rfl
   refine p_ia (i := 0) rfl rfl Nat.one_pos
   apply wmg; iterate 7 exact rfl
   refine BO (j := 0) (v := byV y) rfl hA.1 hA.2 rfl rfl
   apply wmg; iterate 7 exact rfl
   refine Af (v := .b true) rfl rfl (AL ((by show Int.ofNat y.toNat < 128; simp; omega)))
   refine wo ?_
   apply wn; iterate 5 exact rfl
   refine p_ia (i := 0) rfl rfl Nat.one_pos
   apply wm; iterate 5 exact rfl
   refine BO (j := 0) (v := byV y) rfl hA.1 hA.2 rfl rfl
   apply p_op; exact (Aa rfl); iterate 4 exact rfl
   refine e_bs (C := [byV y]) rfl rfl (.cons rfl rfl .nil) rfl fun b1 => ⟨_, rfl, ?_⟩
   apply p_op; exact (Aa rfl); iterate 4 exact rfl
   refine C8 (ys := [y]) hu0 rfl rfl (Bw (k := 1) rfl) rfl CM (by omega) fun A' m' op' N' hu' hm' => ⟨_, rfl, ?_⟩
   refine wo ?_
   exact Ay (Ag (AR (Ai rfl)) ⟨_, outM N', _, rfl, hu'⟩)
  ·have hs := big fun b e h => g ⟨b, e, h⟩
   have hb : bs.length ≤ 1073741824 := by rw [hs, List.length_append] at hl; omega
   rw [hs] at hl ⊢
   rw [List.length_append] at hl
   have tail : ∀ {l : VL} {nt : Nat}, True := fun {_ _} => trivial
   refine He (φ := NotIn bx (hnds N0)) (fun hp hs => ⟨hs.fresh⟩) fun hni => ?_
   by_cases g1 : bs.length = 1
   ·obtain ⟨y, rfl⟩ := List.length_eq_one_iff.1 g1
    have hl1 : xs.length + ((BA 128 1).length + 1) ≤ 1073741824 := hl
    obtain ⟨b, oa, rfl⟩ := rb_one hA
    apply wm; iterate 5 exact rfl
    refine Af (v := .b true) rfl rfl (Be (rfl))
    refine wo ?_
    apply wg; iterate 7 exact rfl
    refine p_ia (i := 0) rfl rfl Nat.one_pos
    apply wmg; iterate 7 exact rfl
    refine BO (j := 0) (v := byV y) rfl hA.1 hA.2 rfl rfl
    apply wmg; iterate 7 exact rfl
    refine Af (v := .b false) rfl rfl (AF ((by have q : ¬ y.toNat < 128 := fun h => g ⟨y, rfl, h⟩; show ¬ Int.ofNat y.toNat < 128; simp; omega)))
    refine wo ?_
    apply D2 []; exact (Aa rfl); decide +kernel; (iterate 4 exact rfl)
    try (case hok => exact A9)
    case hC => exact (fun hp hs ht => head_d (n := 1) (base := 128) hs.ok (by decide))
    rintro u N hu
    obtain ⟨A', op', rfl⟩ := hu.sl
    refine wo ?_
    apply d_op; exact (Aa rfl); exact rfl; exact noRd rfl; decide +kernel; (iterate 3 exact rfl); rotate_left
    refine C8 hu0 rfl rfl hu.src rfl CM (by omega) fun A1 m1 op1 N1 hu1 hm1 => ⟨_, rfl, ?_⟩
    try (case hok => exact Bf (by decide +kernel))
    refine wo ?_
    apply d_op; exact (Aa rfl); exact rfl; exact noRd rfl; decide +kernel; (iterate 3 exact rfl); rotate_left
    refine C8 (ys := [y]) hu1 rfl rfl hA.z rfl CM (by rw [List.length_append]; omega) fun A2 m2 op2 N2 hu2 hm2 => ⟨_, rfl, ?_⟩
    try (case hok => exact Bf (by decide +kernel))
    refine wo ?_
    rw [List.append_assoc] at hu2
    exact Ay (Ag (AR (Ai rfl)) ⟨_, outM N2, _, rfl, hu2⟩)
   ·apply wm; iterate 5 exact rfl
    refine Af (v := .b false) rfl rfl (BW (by omega))
    refine wo ?_
    apply D2 []; exact (Aa rfl); decide +kernel; (iterate 4 exact rfl)
    try (case hok => exact A9)
    case hC => exact (fun hp hs ht => head_d (n := bs.length) (base := 128) hs.ok (by omega))
    rintro u N hu
    obtain ⟨A', op', rfl⟩ := hu.sl
    refine wo ?_
    apply d_op; exact (Aa rfl); exact rfl; exact noRd rfl; decide +kernel; (iterate 3 exact rfl); rotate_left
    refine C8 hu0 rfl rfl hu.src rfl CM (by omega) fun A1 m1 op1 N1 hu1 hm1 => ⟨_, rfl, ?_⟩
    try (case hok => exact Bf (by decide +kernel))
    refine wo ?_
    apply d_op; exact (Aa rfl); exact rfl; exact noRd rfl; decide +kernel; (iterate 3 exact rfl); rotate_left
    refine C8 (ys := bs) hu1 rfl rfl hA.z rfl CM (by rw [List.length_append]; omega) fun A2 m2 op2 N2 hu2 hm2 => ⟨_, rfl, ?_⟩
    try (case hok => exact Bf (by decide +kernel))
    refine wo ?_
    rw [List.append_assoc] at hu2
    exact Ay (Ag (AR (Ai rfl)) ⟨_, outM N2, _, rfl, hu2⟩)
 intro k
 induction k with
 | zero =>
  intro t v xs u0 N0 hp hd h0 hu0 ht hl
  cases t with
  | list l => rw [depth] at hd; omega
  | str bs => exact strs h0 hu0 ht hl
 | succ k ih =>
  intro t v xs u0 N0 hp hd h0 hu0 ht hl
  cases t with
  | str bs => exact strs h0 hu0 ht hl
  | list l =>
   rw [ItR] at ht
   obtain ⟨A, c, o, vs, rfl, hA, hvs⟩ := ht
   rw [depth] at hd
   have hl2 := (len_enc (l := l) (by omega)).2
   rw [enc] at hl ⊢
   rw [List.length_append] at hl
   obtain ⟨A0, op0, rfl⟩ := hu0.sl
   refine Fn.dropM ?_
   refine Au h0 (fun _ => rfl) (fn := Tryz.f72) (by kernel_rfl) rfl rfl ?_
   refine wo ?_
   apply p_op; exact (Aa rfl); iterate 4 exact rfl
   refine Br rfl rfl fun bx => ⟨_, rfl, ?_⟩
   refine wo ?_
   iterate 4 ((try refine BM ?_); refine wo ?_)
   refine Bq (ι := Nat × V × HV) (fun s => [(14, .i .i64 (s.1 : Nat)), (13, .i .i64 (l.length : Nat)), (12, .sl A l.length c o), (5, s.2.1), (3, .p (some (bx, 0))), (0, .sl A0 xs.length xs.length op0)]) (fun s => s.2.2 ++ ((some bx, Am [.b true, .sl none 0 0 false, .sl A l.length c o] 95) :: N0)) (fun s => s.1 ≤ l.length ∧ RowK (encs (l.take s.1)) s.2.1 s.2.2) (fun s => l.length - s.1) (0, .sl none 0 0 false, []) ⟨Nat.zero_le _, by rw [List.take_zero, encs]; exact .nil⟩ ⟨rfl, rfl, rfl, rfl, rfl, rfl, trivial⟩ (fun hp h => h) ?_
   intro ⟨i, u, N⟩ ⟨hi, hu⟩
   dsimp only at hi hu ⊢
   obtain ⟨A1, op1, rfl⟩ := hu.sl
   have hlt := G4 l i
   refine wo ?_
   by_cases g : i < l.length
   ·obtain ⟨b, oa, vi, rfl, hvi, hti, h3, hne⟩ := it_at hA hvs g
    have hdi : depth l[i] ≤ C9 l := Fm (List.getElem_mem g)
    have hl1 := G4 l (i + 1)
    rw [G5 g, List.length_append] at hl1
    apply wm; iterate 5 exact rfl
    refine Af (v := .b true) rfl rfl (AL (by omega))
    refine wo ?_
    apply wn; iterate 5 exact rfl
    refine CO rfl rfl g
    apply wm; iterate 5 exact rfl
    refine BT (j := i * 3) (s := 2) rfl hA.1 hA.2 rfl hvi h3
    apply p_op; exact (Aa rfl); iterate 4 exact rfl
    refine As rfl fun bi => ⟨_, rfl, ?_⟩
    apply p_do; exact (Aa rfl); exact rfl; exact rfl
    refine AG (C' := vi) rfl rfl hne h3 (by simp) (AC (by rw [h3]; rfl)) ⟨_, rfl, ?_⟩
    refine wo ?_
    refine zX (AO (s := 2) (cs := vi) rfl (by rw [List.drop_zero]; exact Ip (by omega)) h3) ?_
    apply Db (N); exact (Aa rfl); iterate 4 exact rfl
    case hC => exact (fun hp hs ht => ih (by omega) ht hu (H9 (fun h => h.give hs) _ _ hti) (by omega))
    rintro u N2 hu2
    refine wo ?_
    exact ⟨rfl, (i + 1, u, N2), ⟨g, by rw [G5 g]; exact hu2⟩, by dsimp only; omega, ⟨rfl, rfl, rfl, rfl, rfl, rfl, trivial⟩, fun hp h => h.sub ((List.sublist_cons_self _ _).append_left N2)⟩
   ·apply wm; iterate 5 exact rfl
    refine Af (v := .b false) rfl rfl (AF (by omega))
    refine wo ?_
    refine Bd ?_
    obtain rfl : i = l.length := by omega
    rw [List.take_length] at hu
    refine wo ?_
    apply AU []; exact (Aa rfl); iterate 4 exact rfl
    case hC => exact (fun hp hs ht => head_d (n := (encs (l.take l.length)).length) (base := 192) hs.ok (by rw [List.take_length]; omega))
    rintro u N2 hu2
    rw [List.take_length] at hu2 ⊢
    obtain ⟨A2, op2, rfl⟩ := hu2.sl
    refine wo ?_
    apply p_op; exact (Aa rfl); iterate 4 exact rfl
    refine C8 hu0 rfl rfl hu2.src rfl CM (by omega) fun A3 m3 op3 N3 hu3 hm3 => ⟨_, rfl, ?_⟩
    refine wo ?_
    apply p_op; exact (Aa rfl); iterate 4 exact rfl
    refine C8 hu3 rfl rfl hu.src rfl CM (by rw [List.length_append]; omega) fun A4 m4 op4 N4 hu4 hm4 => ⟨_, rfl, ?_⟩
    refine wo ?_
    rw [List.append_assoc] at hu4
    exact Ay (Ag (AR (Ai rfl)) ⟨_, outM N4, _, rfl, hu4⟩)
theorem form_d {t : It} {v : List V} {hp : Hp} (ho : OkH hp) (ht : ItR ⟨hp, []⟩ t v) (hl : (enc t).length ≤ 1048576) :
  Fn kxD 72 [.sl none 0 0 false, .agg v] hp [] fun r N => ∃ u, r = .v u ∧ RowK (enc t) u N := form_k _ (xs := []) (N0 := []) (Nat.le_refl _) ho.sv .nil ht (by simp; omega)
set_option maxHeartbeats 4000000 in
theorem encode_d {t : It} {v : List V} {hp : Hp} (ho : OkH hp) (ht : ItR ⟨hp, []⟩ t v) (hd : depth t ≤ 80) (hl : (enc t).length ≤ 1048576) :
  Fn kxD 44 [.agg v] hp [] fun r N => ∃ u, r = .v u ∧ ∃ w, u = .tup [w, .i .i64 0] ∧ RowK (enc t) w N := by
 have h3 := itR_len ht
 have hne : v ≠ [] := fun e => by rw [e] at h3; simp at h3
 refine Fn.dropM ?_
 refine Au (T := []) ho.sv (fun _ => rfl) (fn := Tryz.f44) (by kernel_rfl) rfl rfl ?_
 refine wo ?_
 apply p_op; exact (Aa rfl); iterate 4 exact rfl
 refine Br rfl rfl fun bx => ⟨_, rfl, ?_⟩
 refine wo ?_
 refine zX (AO (s := 2) (cs := v) rfl (by rw [List.drop_zero]; exact Ip (by omega)) h3) ?_
 refine AY (Aa rfl) rfl rfl rfl rfl (fun hp hs => deeper_d (most := 80) (by omega) hs.ok (ht.give0 hs) hd (by decide)) ?_
 refine wo ?_
 refine zX (AO (s := 2) (cs := v) rfl (by rw [List.drop_zero]; exact Ip (by omega)) h3) ?_
 refine AY (Aa rfl) rfl rfl rfl rfl (fun hp hs => rmay_d (by omega) hs.ok (ht.give0 hs)) ?_
 refine wo ?_
 refine zX (AO (s := 2) (cs := v) rfl (by rw [List.drop_zero]; exact Ip (by omega)) h3) ?_
 refine AY (Aa rfl) rfl rfl rfl rfl (fun hp hs => size_d hs.ok (ht.give0 hs) hl) ?_
 apply wm; iterate 5 exact rfl
 refine Af (v := .b false) rfl rfl (Bm (by omega))
 refine wo ?_
 refine zX (AO (s := 2) (cs := v) rfl (by rw [List.drop_zero]; exact Ip (by omega)) h3) ?_
 apply AU []; exact (Aa rfl); iterate 4 exact rfl
 case hC => exact (fun hp hs ht2 => form_d hs.ok (ht.give0 hs) hl)
 rintro u N hu
 refine wo ?_
 exact Ay (Ag (B8 (Ai rfl) (Ai rfl)) ⟨_, outM N, _, rfl, _, rfl, hu⟩)
/- Js5: rows of elements of several cells; records; the journal's small functions. By this project. -/
inductive RowG (e : TypeId) (sz : Nat) : Nat → List V → V → HV → Prop
 | nil : RowG e sz 0 [] (.sl none 0 0 false) []
 | own {n : Nat} {cs : List V} {b : Nat} {op : Bool} {oo : Option Nat} (h : op = true → oo = some sz) (hl : cs.length = n * sz) : RowG e sz n cs (.sl (some (b, 0)) n n op) [(some b, .cells cs e oo false)]
theorem RowG.lit {e : TypeId} {sz n b : Nat} {C : List V} (hn : C.length = n * sz) : RowG e sz n C (.sl (some (b, 0)) n n false) [(some b, Am C e)] := .own (fun h => by simp at h) hn
theorem RowG.sl {e : TypeId} {sz n : Nat} {cs : List V} {u : V} {N : HV} (h : RowG e sz n cs u N) : ∃ A op, u = .sl A n n op := by
 cases h with
 | nil => exact ⟨_, _, rfl⟩
 | own h => exact ⟨_, _, rfl⟩
theorem RowG.src {e : TypeId} {sz m : Nat} {cs : List V} {A : Option (Nat × Nat)} {n c : Nat} {op : Bool} {M L r : HV} {B : Bs} (h : RowG e sz m cs (.sl A n c op) M) [k : OutM L M r] : RZ B L A cs := by
 cases h with
 | nil => exact rz_nil
 | own h hl => exact fun hp hs => (Bw (L := (some _, .cells cs e _ false) :: r) (k := cs.length) (by rw [List.drop_zero]; exact Ip (by simp))) hp (hs.perm k.h)
theorem RowG.rb {e : TypeId} {sz m : Nat} {cs : List V} {A : Option (Nat × Nat)} {n c : Nat} {op : Bool} {M Lt Lr r : HV} {B : Bs} {hp : Hp} (h : RowG e sz m cs (.sl A n c op) M) [k : OutM Lr M r] (hs : SV B hp (Lt ++ Lr)) : RB ⟨hp, hnds Lt⟩ A cs := by
 cases h with
 | nil => exact RB.nil
 | own h hl => exact ES (hs.perm (k.h.append_left Lt)) (i := 0) rfl (by rw [List.drop_zero]; exact Ip (by simp))
inductive SeqN (l : VL) (sz : Nat) : Nat → List (Nat × Operand) → List V → Prop
 | nil {i : Nat} : SeqN l sz i [] []
 | cons {i : Nat} {x : Operand} {v : V} {vc : List V} {r : List (Nat × Operand)} {vs : List V} (hx : evL l x = some v) (hc : v.cells = some vc) (h1 : vc.length = sz) (h : SeqN l sz (i + 1) r vs) : SeqN l sz i ((i, x) :: r) (vc ++ vs)
theorem SeqN.len {l : VL} {sz i : Nat} {xs : List (Nat × Operand)} {vs : List V} (h : SeqN l sz i xs vs) : vs.length = xs.length * sz := by
 induction h with
 | nil => simp
 | cons _ _ h1 _ ih => rw [List.length_append, ih, h1, List.length_cons, Nat.succ_mul, Nat.add_comm]
theorem SeqN.fill {l : VL} {sz : Nat} {fr : Tr V} (hf : FrV fr l) {i : Nat} {xs : List (Nat × Operand)} {vs : List V} (h : SeqN l sz i xs vs) : ∀ C : List V, i * sz + vs.length ≤ C.length → EX fr (fun i => some (i * sz, sz)) C xs = some (C.take (i * sz) ++ vs ++ C.drop (i * sz + vs.length)) := by
 induction h with
 | nil => intro C _; simp [EX]
 | @cons i x v vc r vs hx hc h1 h ih =>
  intro C hC
  rw [List.length_append, h1] at hC
  have e1 : Nat.beq (lenF vc) sz = true := by rw [Bj, h1]; exact beq_t _
  have e2 : geL C (i * sz + sz) = true := CJ.2 (by omega)
  simp only [EX, hf.ev hx, hc, Ir, e1, e2, Bool.and_self]
  have e3 : Hn (i * sz) C vc = C.take (i * sz) ++ vc ++ C.drop (i * sz + sz) := by rw [CS _ _ _ (by omega), h1]
  have e0 : (C.take (i * sz)).length = i * sz := by simp; omega
  have e4 : (C.take (i * sz) ++ vc).length = (i + 1) * sz := by rw [List.length_append, e0, h1, Nat.succ_mul]
  rw [e3, ih _ (by simp only [List.length_append, List.length_drop, e0, h1, Nat.succ_mul]; omega)]
  rw [List.take_append_of_le_length (by omega), Ip (by omega), List.drop_append, List.drop_of_length_le (by omega), e4, List.drop_drop]
  rw [show i * sz + sz + ((i + 1) * sz + vs.length - (i + 1) * sz) = i * sz + (vc ++ vs).length by rw [List.length_append, h1]; omega]
  simp
section
variable {K : Kx} {hp0 : Bs} {l : VL} {L : HV}
theorem Fl {t e : TypeId} {n sz : Nat} {z : V} {zc : List V} {xs : List (Nat × Operand)} {C C0 : List V} {k : VR → HV → Prop} [hS : SliceV K.C t e] [hs : SizeV K.C e sz] [hz : ZeroV K.C e z] (hc : z.cells = some zc) (hzl : zc.length = sz) (hn : Nat.ble (n * sz) 16777216 = true) (hq : SeqN l sz 0 xs C0) (hE : C0 = C) (hC : xs.length = n)
  (hk : ∀ b, k (.v (.sl (some (b, 0)) n n false)) ((some b, Am C e) :: L)) : EV K hp0 l L (.buildSlice t n xs.toArray) [] k := by
 rw [hE] at hq
 obtain ⟨ti, h3, h4⟩ := hS.h
 obtain ⟨te, h5, h6⟩ := hs.h
 obtain ⟨te', h7, h8⟩ := hz.h
 rw [h5] at h7
 obtain rfl := Iu h7
 exact G3 (o := Am C e) (f := fun b => .sl (some (b, 0)) n n false) (fun call fr hp hf hsv => by
  show ret2 (DR K.C hp fr t n xs) = _
  have hl := hq.len
  rw [hC] at hl
  have hrl : (repL zc n).length = n * sz := by
   clear hn hq hC hk hl
   induction n with
   | zero => rw [GD]; simp
   | succ n ih => rw [CZ, List.length_append, ih, hzl, Nat.succ_mul, Nat.add_comm]
  have e1 := hq.fill hf (repL zc n) (by omega)
  rw [Nat.zero_mul, List.take_zero, List.nil_append, List.drop_of_length_le (by omega), List.append_nil] at e1
  simp only [DR, h3, Ir, h4, h5, h8, hc, h6, hn, e1, ret2]
  cases hp.new (Am C e) <;> rfl) hk
theorem EU {tS tX e eX : TypeId} {s x : Operand} {A : Option (Nat × Nat)} {n c m sz : Nat} {op' : Bool} {cs ds : List V} {u : V} {N0 L1 : HV} {k : VR → HV → Prop} [hS : SliceV K.C tS e] [hz : SizeV K.C e (sz + 1)] [hG : GrowV K.C e] [hX : SliceV K.C tX eX] (hu : RowG e (sz + 1) m cs u N0) (hs : evL l s = some u) (hx : evL l x = some (.sl A n c op')) [hL : OutM L N0 L1] (hr : RZ hp0 L A ds) (hn : ds.length = n * (sz + 1)) (h0 : 0 < n) (hl : m + n ≤ 1073741824)
  (hk : ∀ A' op' N', RowG e (sz + 1) (m + n) (cs ++ ds) (.sl A' (m + n) (m + n) op') N' → k (.v (.sl A' (m + n) (m + n) op')) (N' ++ L1)) : EV K hp0 l L (.call { callee := .builtin .append, args := #[s, x], argTypes := #[tS, tX] }) (hnds N0) k := by
 obtain ⟨ti, h3, h4⟩ := hS.h
 obtain ⟨te, h5, h6⟩ := hz.h
 obtain ⟨tx, h7, h8⟩ := hX.h
 obtain ⟨tg, h9, h10⟩ := hG.h
 rw [h5] at h9
 obtain rfl := Iu h9
 haveI : TiV K.C tS ti := ⟨h3⟩
 haveI : TiV K.C e te := ⟨h5⟩
 haveI : TiV K.C tX tx := ⟨h7⟩
 have hsrc : SrcV K hp0 L tX te.size (.sl A n c op') n ds := HI h8 hr (by rw [h6]; exact hn) (by omega)
 cases hu with
 | nil =>
  refine Fi (k' := fun r L' => ∃ b, r = .v (.sl (some (b, 0)) n n true) ∧ L' = (some b, .cells ds e (some te.size) false) :: L) (ev_app0 (c := 0) hs hx h4 hsrc h0 (.inl (by omega)) h10 fun b => ⟨b, rfl, rfl⟩) ?_
  rintro r L' ⟨b, rfl, rfl⟩
  refine ⟨(some b, .cells ds e (some te.size) false) :: L1, fun hp h => h.perm (hL.h.cons _), ?_⟩
  have := hk (some (b, 0)) true [(some b, .cells ds e (some te.size) false)] (by
   rw [Nat.zero_add, List.nil_append, h6]
   exact RowG.own (fun _ => rfl) hn)
  rw [Nat.zero_add] at this
  exact this
 | @own _ _ b op oo h hcl =>
  obtain ⟨i, hi⟩ := List.getElem?_of_mem (hL.h.mem_iff.2 (List.mem_append_left _ (List.mem_singleton.2 rfl)))
  haveI : AtV b L (.cells cs e oo false) i := ⟨hi⟩
  have hfin : ∀ b', RowG e (sz + 1) (m + n) (cs ++ ds) (.sl (some (b', 0)) (m + n) (m + n) true) [(some b', .cells (cs ++ ds) e (some te.size) false)] := fun b' => by
   rw [h6]
   exact RowG.own (fun _ => rfl) (by rw [List.length_append, hcl, hn, Nat.add_mul])
  cases op with
  | true =>
   obtain rfl := h rfl
   haveI : AtV b L (.cells cs e (some te.size) false) i := ⟨by rw [h6]; exact hi⟩
   refine Fi (k' := fun r L' => ∃ b', r = .v (.sl (some (b', 0)) (m + n) (m + n) true) ∧ L' = L.set i (some b', .cells (cs ++ ds) e (some te.size) false)) (ev_appO (L' := L) (old := cs) (mk := false) (i := i) hs hx h4 (by rw [h6]; exact hcl) hsrc h0 (.inl hl) h10 fun b' => ⟨b', rfl, rfl⟩) ?_
   rintro r L' ⟨b', rfl, rfl⟩
   exact ⟨(some b', .cells (cs ++ ds) e (some te.size) false) :: L1, fun hp h' => h'.perm (perm_set hL.h hi), hk _ _ [_] (hfin b')⟩
  | false =>
   refine ev_tch (Fi (k' := fun r L' => ∃ b', r = .v (.sl (some (b', 0)) (m + n) (m + n) true) ∧ L' = (some b', .cells (cs ++ ds) e (some te.size) false) :: L) (ev_appG (old := cs) hs hx h4 (Bw (k := cs.length) (by rw [List.drop_zero]; exact Ip (Nat.le_refl _))) (by rw [h6]; exact hcl) hsrc (by omega) (.inl hl) h10 fun b' => ⟨b', rfl, rfl⟩) ?_)
   rintro r L' ⟨b', rfl, rfl⟩
   exact ⟨(some b', .cells (cs ++ ds) e (some te.size) false) :: L1, fun hp h' => (h'.perm (hL.h.cons _)).sub ((List.sublist_cons_self _ _).cons_cons _), hk _ _ [_] (hfin b')⟩
theorem p_ixn {t e : TypeId} {x y : Operand} {m i s : Nat} {k : IntKind} {n : Int} {C cs : List V} [hS : ArrV K.C t m e] [hs : SizeV K.C e s] [hr : RowV K.C e true] (hx : evL l x = some (.agg C)) (hy : evL l y = some (.i k n)) [hn : CastN n i] (hi : i < m) (hl : i * s + s ≤ C.length) (hc : (C.drop (i * s)).take s = cs) : PV K.C l (.index t x y) (.agg cs) := by
 obtain ⟨ti, h1, h2⟩ := hS.h
 obtain ⟨te, h4, h5⟩ := hs.h
 obtain ⟨te', h6, h7⟩ := hr.h
 rw [h4] at h6
 obtain rfl := Iu h6
 obtain rfl := hn.h
 unfold PV
 exact fun fr hfr => by
  simp only [BF, pIx, hfr.ev hx, hfr.ev hy, Ir, vindex, h1, natV, intV?, h2, h4]
  show (match Nat.blt i m with | true => _ | false => _) = _
  rw [show Nat.blt i m = true by rw [Nat.blt_eq]; exact hi]
  simp only [C4, h4, Ir, h7, h5]
  rw [Gg hl, hc]
  rfl
end
structure Chg where
 key : List UInt8
 val : List UInt8
 gone : Bool
structure Rec where
 kind : Int
 count : Int
 seq : Int
 prev : List UInt8
 root : List UInt8
 ch : List Chg
def ChgR (B : Bs) (c : Chg) (v : List V) : Prop := ∃ A kc ko A' vc vo, v = [.sl A c.key.length kc ko, .sl A' c.val.length vc vo, .b c.gone] ∧ RB B A (c.key.map byV) ∧ RB B A' (c.val.map byV)
def Fq (B : Bs) : List Chg → List (List V) → Prop
 | [], vs => vs = []
 | c :: r, vs => ∃ v ws, vs = v :: ws ∧ ChgR B c v ∧ Fq B r ws
theorem chgR_len {B : Bs} {c : Chg} {v : List V} (h : ChgR B c v) : v.length = 3 := by obtain ⟨_, _, _, _, _, _, rfl, _⟩ := h; rfl
theorem chgRs_at {B : Bs} : ∀ {l : List Chg} {vs : List (List V)} {i : Nat} {t : Chg}, Fq B l vs → l[i]? = some t → ∃ v, vs[i]? = some v ∧ ChgR B t v
 | [], _, _, _, _, hi => by simp at hi
 | x :: r, vs, 0, t, h, hi => by
  obtain ⟨v, ws, rfl, h1, _⟩ := h
  simp only [List.getElem?_cons_zero, Im] at hi
  subst hi
  exact ⟨v, rfl, h1⟩
 | x :: r, vs, i + 1, t, h, hi => by
  obtain ⟨v, ws, rfl, _, h2⟩ := h
  have := chgRs_at (i := i) (t := t) h2 (by simpa using hi)
  simpa using this
theorem Hz {B : Bs} : ∀ {l : List Chg} {vs : List (List V)}, Fq B l vs → ∀ x ∈ vs, x.length = 3
 | [], vs, h, x, hx => by rw [Fq] at h; subst h; simp at hx
 | t :: r, vs, h, x, hx => by
  obtain ⟨v, ws, rfl, h1, h2⟩ := h
  rcases List.mem_cons.1 hx with rfl | hx
  ·exact chgR_len h1
  ·exact Hz h2 x hx
theorem ChgR.mono {B B' : Bs} (hm : ∀ {A : Option (Nat × Nat)} {cs : List V}, RB B A cs → RB B' A cs) {c : Chg} {v : List V} (h : ChgR B c v) : ChgR B' c v := by
 obtain ⟨A, kc, ko, A', vc, vo, h1, h2, h3⟩ := h
 exact ⟨A, kc, ko, A', vc, vo, h1, hm h2, hm h3⟩
theorem Ei {B B' : Bs} (hm : ∀ {A : Option (Nat × Nat)} {cs : List V}, RB B A cs → RB B' A cs) : ∀ {l : List Chg} {vs : List (List V)}, Fq B l vs → Fq B' l vs
 | [], vs, h => h
 | t :: r, vs, h => by
  obtain ⟨v, ws, h0, h1, h2⟩ := h
  exact ⟨v, ws, h0, h1.mono hm, Ei hm h2⟩
def recC (r : Rec) (s : V) : List V := .i .i64 r.kind :: .i .i64 r.count :: .i .i64 r.seq :: (r.prev.map byV ++ (r.root.map byV ++ [s]))
structure RecOk (r : Rec) : Prop where
 prev : r.prev.length = 32
 root : r.root.length = 32
 len : r.ch.length * 56 ≤ 140737488355328
 kv : ∀ c ∈ r.ch, c.key.length ≤ 140737488355328 ∧ c.val.length ≤ 140737488355328
def RecR (B : Bs) (r : Rec) (v : List V) : Prop := RecOk r ∧ ∃ A c o vs, v = recC r (.sl A r.ch.length c o) ∧ RB B A vs.flatten ∧ Fq B r.ch vs
theorem RecR.mono {B B' : Bs} (hm : ∀ {A : Option (Nat × Nat)} {cs : List V}, RB B A cs → RB B' A cs) {r : Rec} {v : List V} (h : RecR B r v) : RecR B' r v := by
 obtain ⟨h0, A, c, o, vs, h1, h2, h3⟩ := h
 exact ⟨h0, A, c, o, vs, h1, hm h2, Ei hm h3⟩
theorem RecR.give0 {B : Bs} {hp : Hp} {L : HV} {r : Rec} {v : List V} (h : RecR B r v) (hs : SV B hp L) : RecR ⟨hp, []⟩ r v := h.mono fun h => h.give0 hs
theorem RecR.give {B : Bs} {hp : Hp} {Lt Lr : HV} {r : Rec} {v : List V} (h : RecR B r v) (hs : SV B hp (Lt ++ Lr)) : RecR ⟨hp, hnds Lt⟩ r v := h.mono fun h => h.give hs
theorem Dg {r : Rec} {s : V} (h : RecOk r) : (recC r s).length = 68 := by simp [recC, h.prev, h.root]
theorem recC_prev {r : Rec} {s : V} (h : RecOk r) : ((recC r s).drop 3).take 32 = r.prev.map byV := by
 simp only [recC, List.drop_succ_cons, List.drop_zero]
 rw [List.take_append_of_le_length (by simp [h.prev]), Ip (by simp [h.prev])]
theorem recC_root {r : Rec} {s : V} (h : RecOk r) : ((recC r s).drop 35).take 32 = r.root.map byV := by
 have e : (recC r s).drop 35 = r.root.map byV ++ [s] := by
  simp only [recC, List.drop_succ_cons, List.drop_zero]
  rw [List.drop_append_of_le_length (by simp [h.prev]), List.drop_of_length_le (by simp [h.prev]), List.nil_append]
 rw [e, List.take_append_of_le_length (by simp [h.root]), Ip (by simp [h.root])]
theorem F7 {r : Rec} {s : V} (h : RecOk r) : (recC r s)[67]? = some s := by
 have e : (recC r s).drop 67 = [s] := by
  simp only [recC, List.drop_succ_cons, List.drop_zero]
  rw [List.drop_append, List.drop_of_length_le (by simp [h.prev]), List.nil_append, List.length_map, h.prev, List.drop_append, List.drop_of_length_le (by simp [h.root]), List.nil_append, List.length_map, h.root]
  rfl
 have := List.getElem?_drop (xs := recC r s) (i := 67) (j := 0)
 rw [e] at this
 simpa using this.symm
theorem ch_at {B : Bs} {l : List Chg} {A : Option (Nat × Nat)} {vs : List (List V)} {i : Nat} (hA : RB B A vs.flatten) (h : Fq B l vs) (hi : i < l.length) : ∃ b o vi, A = some (b, o) ∧ (vs.flatten.drop (i * 3)).take 3 = vi ∧ ChgR B l[i] vi ∧ vi.length = 3 ∧ vi ≠ [] := by
 obtain ⟨vi, hv, ht⟩ := chgRs_at h (Iq hi)
 have h3 := chgR_len ht
 have hne : vi ≠ [] := fun e => by rw [e] at h3; simp at h3
 have hf := Di (Hz h) hv
 have hb : ∃ b o, A = some (b, o) := by
  cases hq : vs.flatten with
  | nil => rw [hq] at hf; simp at hf; exact absurd hf hne
  | cons v r => exact Cw (by rw [← hq]; exact hA.1.rv)
 obtain ⟨b, o, rfl⟩ := hb
 exact ⟨b, o, vi, rfl, hf, ht, h3, hne⟩
def mayC (c : Chg) : Prop := c.key.length ≤ 32 ∧ (if c.gone = true then c.val.length = 0 else 1 ≤ c.val.length ∧ c.val.length ≤ 256)
instance (c : Chg) : Decidable (mayC c) := by unfold mayC; infer_instance
def mayR (r : Rec) : Prop := (r.kind = 1 ∨ r.kind = 2) ∧ (1 ≤ r.count ∧ r.count ≤ 1099511627776) ∧ (0 ≤ r.seq ∧ r.seq ≤ r.count) ∧ (r.kind = 2 → 1 ≤ r.seq) ∧ (r.kind = 1 → r.ch.length = 0) ∧ r.ch.length ≤ 32 ∧ ∀ c ∈ r.ch, mayC c
instance (r : Rec) : Decidable (mayR r) := by unfold mayR; infer_instance
def kindsC : List V := [.i .i64 1, .i .i64 0, .i .i64 0, .b false, .i .i64 2, .i .i64 1, .i .i64 32, .b true]
def kindC (k : Int) : List V := if k = 1 then [.i .i64 1, .i .i64 0, .i .i64 0, .b false] else if k = 2 then [.i .i64 2, .i .i64 1, .i .i64 32, .b true] else [.i .i64 0, .i .i64 0, .i .i64 0, .b false]
abbrev KTab (B : Bs) : Prop := RB B (some (0, 0)) kindsC
set_option maxHeartbeats 4000000 in
theorem kindof_d {k : Int} {hp : Hp} (ho : OkH hp) (hk : KTab ⟨hp, []⟩) :
  Fn kxD 66 [.i .i64 k] hp [] fun r _ => r = .v (.tup [.agg (kindC k), .b (decide (k = 1 ∨ k = 2))]) := by
 refine Au (T := []) ho.sv (fun _ => rfl) (fn := Tryz.f66) (by kernel_rfl) rfl rfl ?_
 refine wo ?_
 apply p_op; exact (Aa rfl); iterate 4 exact rfl
 refine As rfl fun bo => ⟨_, rfl, ?_⟩
 refine wo ?_
 refine BM ?_
 refine wo ?_
 apply wm; iterate 5 exact rfl
 refine BT (j := 0) (s := 7) (vs := kindsC) rfl hk.1 hk.2 rfl rfl rfl
 refine wo ?_
 refine Bq (ι := Nat) (fun i => [(7, .i .i64 (i : Nat)), (6, .agg kindsC), (2, .p (some (bo, 0))), (0, .i .i64 k)]) (fun i => [(some bo, Am [.i .i64 0, .i .i64 0, .i .i64 0, .b false] 132)]) (fun i => i ≤ 2 ∧ (1 ≤ i → k ≠ 1) ∧ (2 ≤ i → k ≠ 2)) (fun i => 2 - i) 0 ⟨by omega, by omega, by omega⟩ ⟨rfl, rfl, rfl, rfl, trivial⟩ (fun hp h => h) ?_
 intro i ⟨hi, h1, h2⟩
 refine wo ?_
 by_cases g : i < 2
 ·apply wm; iterate 5 exact rfl
  refine Af (v := .b true) rfl rfl (AL (by omega))
  refine wo ?_
  by_cases g0 : i = 0
  ·subst g0
   apply wn; iterate 5 exact rfl
   refine p_ixn (i := 0) (s := 4) (cs := [.i .i64 1, .i .i64 0, .i .i64 0, .b false]) rfl rfl (by decide) (by decide) rfl
   apply p_op; exact (Aa rfl); iterate 4 exact rfl
   refine As rfl fun bk => ⟨_, rfl, ?_⟩
   apply p_do; exact (Aa rfl); exact rfl; exact rfl
   refine AG (C' := [.i .i64 1, .i .i64 0, .i .i64 0, .b false]) rfl rfl (by simp) rfl (by decide) rfl ⟨_, rfl, ?_⟩
   refine wo ?_
   by_cases gk : k = 1
   ·subst gk
    apply wm; iterate 5 exact rfl
    refine Af (v := .b true) rfl rfl (Be (rfl))
    refine wo ?_
    refine zX (AO (s := 3) (cs := [.i .i64 1, .i .i64 0, .i .i64 0, .b false]) rfl rfl rfl) ?_
    apply p_do; exact (Aa rfl); exact rfl; exact rfl
    refine AG (C' := [.i .i64 1, .i .i64 0, .i .i64 0, .b false]) rfl rfl (by simp) rfl (by decide) rfl ⟨_, rfl, ?_⟩
    refine wo ?_
    exact Ay (Ag (B8 (AB rfl rfl) (Ai rfl)) rfl)
   ·apply wm; iterate 5 exact rfl
    refine Af (v := .b false) rfl rfl (BW ((fun h => gk h.symm)))
    refine wo ?_
    exact ⟨rfl, 1, ⟨by omega, fun _ => gk, by omega⟩, by omega, ⟨rfl, rfl, rfl, rfl, trivial⟩, fun hp h => h.pick [1] _ rfl (by decide)⟩
  ·obtain rfl : i = 1 := by omega
   apply wn; iterate 5 exact rfl
   refine p_ixn (i := 1) (s := 4) (cs := [.i .i64 2, .i .i64 1, .i .i64 32, .b true]) rfl rfl (by decide) (by decide) rfl
   apply p_op; exact (Aa rfl); iterate 4 exact rfl
   refine As rfl fun bk => ⟨_, rfl, ?_⟩
   apply p_do; exact (Aa rfl); exact rfl; exact rfl
   refine AG (C' := [.i .i64 2, .i .i64 1, .i .i64 32, .b true]) rfl rfl (by simp) rfl (by decide) rfl ⟨_, rfl, ?_⟩
   refine wo ?_
   by_cases gk : k = 2
   ·subst gk
    apply wm; iterate 5 exact rfl
    refine Af (v := .b true) rfl rfl (Be (rfl))
    refine wo ?_
    refine zX (AO (s := 3) (cs := [.i .i64 2, .i .i64 1, .i .i64 32, .b true]) rfl rfl rfl) ?_
    apply p_do; exact (Aa rfl); exact rfl; exact rfl
    refine AG (C' := [.i .i64 2, .i .i64 1, .i .i64 32, .b true]) rfl rfl (by simp) rfl (by decide) rfl ⟨_, rfl, ?_⟩
    refine wo ?_
    exact Ay (Ag (B8 (AB rfl rfl) (Ai rfl)) rfl)
   ·apply wm; iterate 5 exact rfl
    refine Af (v := .b false) rfl rfl (BW ((fun h => gk h.symm)))
    refine wo ?_
    exact ⟨rfl, 2, ⟨by omega, fun _ => h1 (by omega), fun _ => gk⟩, by omega, ⟨rfl, rfl, rfl, rfl, trivial⟩, fun hp h => h.pick [1] _ rfl (by decide)⟩
 ·apply wm; iterate 5 exact rfl
  refine Af (v := .b false) rfl rfl (AF (by omega))
  refine wo ?_
  refine Bd ?_
  have n1 := h1 (by omega)
  have n2 := h2 (by omega)
  refine wo ?_
  apply wn; iterate 5 exact rfl
  refine Av (C := [.i .i64 0, .i .i64 0, .i .i64 0, .b false]) .nil rfl
  apply p_do; exact (Aa rfl); exact rfl; exact rfl
  refine AG (C' := [.i .i64 0, .i .i64 0, .i .i64 0, .b false]) rfl rfl (by simp) rfl (by decide) rfl ⟨_, rfl, ?_⟩
  refine wo ?_
  exact Ay (Ag (B8 (AB rfl rfl) (Ai rfl)) (by unfold kindC; rw [if_neg n1, if_neg n2, decide_eq_false (fun h => h.elim n1 n2)]))
set_option maxHeartbeats 4000000 in
theorem maychange_d {c : Chg} {v : List V} {hp : Hp} (ho : OkH hp) (hc : ChgR ⟨hp, []⟩ c v) :
  Fn kxD 67 [.agg v] hp [] fun r _ => r = .v (.b (decide (mayC c))) := by
 obtain ⟨A, kc, ko, A', vc, vo, rfl, hk, hv⟩ := hc
 refine Au (T := []) ho.sv (fun _ => rfl) (fn := Tryz.f67) (by kernel_rfl) rfl rfl ?_
 refine wo ?_
 apply p_op; exact (Aa rfl); iterate 4 exact rfl
 refine Br rfl rfl fun bx => ⟨_, rfl, ?_⟩
 refine wo ?_
 by_cases g1 : c.key.length ≤ 32
 rotate_left
 ·apply wm; iterate 5 exact rfl
  refine Af (v := .b true) rfl rfl (Cv (by omega))
  refine wo ?_
  exact Ay (Ag (AR (Ai rfl)) (by rw [decide_eq_false (fun h => g1 h.1)]))
 apply wm; iterate 5 exact rfl
 refine Af (v := .b false) rfl rfl (Bm (by omega))
 refine wo ?_
 by_cases g2 : c.gone = true
 ·have e : mayC c ↔ c.val.length = 0 := by unfold mayC; rw [if_pos g2]; exact and_iff_right g1
  rw [g2, decide_eq_decide.2 e]
  refine wo ?_
  by_cases g3 : c.val.length = 0
  ·apply wm; iterate 5 exact rfl
   refine Af (v := .b true) rfl rfl (Be (by omega))
   refine wo ?_
   exact Ay (Ag (AR (Ai rfl)) (by rw [decide_eq_true g3]))
  ·apply wm; iterate 5 exact rfl
   refine Af (v := .b false) rfl rfl (BW (by omega))
   refine wo ?_
   exact Ay (Ag (AR (Ai rfl)) (by rw [decide_eq_false g3]))
 ·have g2' : c.gone = false := by simpa using g2
  have e : mayC c ↔ (1 ≤ c.val.length ∧ c.val.length ≤ 256) := by unfold mayC; rw [if_neg g2]; exact and_iff_right g1
  rw [g2', decide_eq_decide.2 e]
  refine wo ?_
  by_cases g3 : 1 ≤ c.val.length
  ·apply wm; iterate 5 exact rfl
   refine Af (v := .b true) rfl rfl (En (by omega))
   refine wo ?_
   by_cases g4 : c.val.length ≤ 256
   ·apply wmg; iterate 7 exact rfl
    refine Af (v := .b true) rfl rfl (Hg (by omega))
    refine wo ?_
    exact Ay (Ag (AR (Ai rfl)) (by rw [decide_eq_true ⟨g3, g4⟩]))
   ·apply wmg; iterate 7 exact rfl
    refine Af (v := .b false) rfl rfl (Hh (by omega))
    refine wo ?_
    exact Ay (Ag (AR (Ai rfl)) (by rw [decide_eq_false (fun h => g4 h.2)]))
  ·apply wm; iterate 5 exact rfl
   refine Af (v := .b false) rfl rfl (Eo (by omega))
   refine wo ?_
   exact Ay (Ag (AR (Ai rfl)) (by rw [decide_eq_false (fun h => g3 h.1)]))
end Go.Proofs.YtbmkclbghfbegaaGreatDoor
/- Je: a record that was handed in, opened. By this project. -/
set_option maxRecDepth 100000
namespace Go.Proofs.YtbmkclbghfbegaaGreatDoor
open Go.ChangeShapes Go.WideShapes Go.ChangeAt Go.RowKit Go.Extern.Stop
structure BOk (W : World) (q : GV) (xs : List UInt8) (c : Nat) : Prop where
 cs : q.cs = xs.map byV
 emp : q.A = none → xs = []
 spot : ∀ a, q.A = some a → a.spot ≠ none → xs = [] ∧ c = 0
 at' : ∀ a, q.A = some a → xs ≠ [] → ∃ pre sp fz, W.heap[a.block]? = some (.cells (pre ++ xs.map cell ++ sp).toArray q.T fz) ∧ pre.length = a.off ∧ sp.length = q.ex * q.sz
 cap : xs.length ≤ c
theorem BOk.gv {W : World} {E : Env} {q : GV} {xs : List UInt8} {c : Nat} (h : BOk W q xs c) : GvOk W E q := by
 refine ⟨fun e => by rw [h.cs, h.emp e]; rfl, fun a ha hs => by rw [h.cs, (h.spot a ha hs).1]; rfl, fun a ha hn => ?_, ?_⟩
 ·have hx : xs ≠ [] := fun e => hn (by rw [h.cs, e]; rfl)
  obtain ⟨pre, sp, fz, h1, h2, h3⟩ := h.at' a ha hx
  exact ⟨pre, xs.map cell, sp, fz, by rw [h.cs]; exact Fy xs, List.all_eq_true.2 (fun v hv => by obtain ⟨y, _, rfl⟩ := List.mem_map.1 hv; rfl), h1, h2, h3⟩
 ·rw [h.cs]
  cases xs <;> rfl
theorem rw_spot {W : World} {a : Addr} {v : Value} {r : List Value} (h : RW W (some a) (v :: r)) : a.spot = none := by
 obtain ⟨a', e, h1⟩ := h 0 v rfl
 obtain rfl := Iu e
 have : a.add 0 = a := rfl
 rw [this] at h1
 unfold World.cell? at h1
 split at h1
 ·split at h1
  ·simp at h1
  ·rename_i hs
   simpa using hs
 ·simp at h1
section
variable {H : Type} {enc : TypeId × Value → H} {P : Program} {W : World} {base : Nat} {held : Bool} {t e : TypeId}
theorem open_gb (ht : sliceT P t = some e) (he : intT P e = some .u8) (hc : P.cellsOf e = 1) (hby : P.bytesOf e = 1) {fuel : Nat} {v : Value} {d : DataW H} {ps : List MemPlace} (h : DataW.trod enc P W base (fun _ => true) held fuel t [v] = some (d, ps)) (hz : (DataW.weights P t d).all (· ≤ reachBytes) = true) :
  ∃ (q : GV) (xs : List UInt8) (c : Nat), v = .slice q.A xs.length c ∧ BOk W q xs c ∧ xs.length ≤ 140737488355328 := by
 obtain ⟨v', xs, h1, h2⟩ := open_b ht he hc h
 obtain rfl : v = v' := by simpa using h1
 obtain ⟨A, c, rfl, hxc, hrw⟩ := h2.get
 have hspot : ∀ a, A = some a → a.spot ≠ none → xs = [] ∧ c = 0 := fun a ha hs => by
  subst ha
  have hx : xs = [] := by
   cases xs with
   | nil => rfl
   | cons x r => exact absurd (rw_spot hrw) hs
  subst hx
  refine ⟨rfl, ?_⟩
  rcases DataW.trod_slice (Dx ht) h with ⟨e1, _⟩ | ⟨a', len, cap, elems, rest, n, _, e1, _, _, _, _, _, _, e2, _⟩
  ·simp only [List.cons.injEq, Value.slice.injEq, and_true] at e1
   exact e1.2.2
  ·simp only [List.cons.injEq, Value.slice.injEq, Im, and_true] at e1
   obtain ⟨rfl, rfl, rfl⟩ := e1
   obtain ⟨hr, hj⟩ := e2 rfl
   rcases Nat.eq_zero_or_pos c with h0 | h0
   ·exact h0
   ·exfalso
    simp only [List.length_nil, Nat.sub_zero] at hr hj
    have h3 := hj 0 h0
    rw [Iq (by omega), Il] at h3
    obtain ⟨cs, h4, _⟩ := h3
    rw [hc] at h4
    simp only [Nat.add_zero, Nat.zero_mul] at h4
    have h5 := World.cells?_some h4
    have h6 := h5.2.2 0 (by omega)
    have h7 : cs.length = 1 := h5.2.1
    rw [Iq (by omega)] at h6
    have e0 : (a.add 0).add 0 = a := rfl
    rw [e0] at h6
    unfold World.cell? at h6
    split at h6
    ·split at h6
     ·simp at h6
     ·rename_i hq
      exact hs (by simpa using hq)
    ·simp at h6
 have hlen : xs.length ≤ 140737488355328 := by
  rcases h2.shape with h3 | ⟨elems, spare, rfl, h4⟩
  ·rw [h3]; decide
  ·simp only [DataW.weights, Dx ht, hby, List.all_cons, Bool.and_eq_true, decide_eq_true_eq] at hz
   have := hz.1
   simp only [reachBytes, Nat.mul_one] at this
   omega
 cases hx : xs with
 | nil =>
  subst hx
  exact ⟨⟨A, [], 0, 1, 0⟩, [], c, rfl, ⟨rfl, fun _ => rfl, hspot, fun a _ hn => absurd rfl hn, hxc⟩, by decide⟩
 | cons x r =>
  subst hx
  obtain ⟨a, rfl, _⟩ := hrw 0 (cell x) rfl
  have hsp := rw_spot hrw
  obtain ⟨pre, sp, T, fz, h3, h4⟩ := rw_block hsp (by simp) hrw
  refine ⟨⟨some a, (x :: r).map byV, T, 1, sp.length⟩, x :: r, c, rfl, ⟨rfl, fun e => by simp at e, hspot, fun a' ha _ => ?_, hxc⟩, hlen⟩
  simp only [Im] at ha
  subst ha
  exact ⟨pre, sp, fz, h3, h4, (Nat.mul_one _).symm⟩
theorem FW : ∀ {ts : List TypeId} {ds : List (DataW H)} {i : Nat} {t : TypeId} {d : DataW H}, ts[i]? = some t → ds[i]? = some d → (DataW.weightsEach P ts ds).all (· ≤ reachBytes) = true → (DataW.weights P t d).all (· ≤ reachBytes) = true
 | [], _, _, _, _, h, _, _ => by simp at h
 | _ :: _, [], _, _, _, _, h, _ => by simp at h
 | t' :: ts, d' :: ds, 0, t, d, h, h', hz => by
  simp at h h'
  subst h h'
  simp only [DataW.weightsEach, List.all_append, Bool.and_eq_true] at hz
  exact hz.1
 | t' :: ts, d' :: ds, i + 1, t, d, h, h', hz => by
  simp only [DataW.weightsEach, List.all_append, Bool.and_eq_true] at hz
  exact FW (by simpa using h) (by simpa using h') hz.2
theorem El : ∀ {ds : List (DataW H)} {d : DataW H}, d ∈ ds → (DataW.weightsAll P t ds).all (· ≤ reachBytes) = true → (DataW.weights P t d).all (· ≤ reachBytes) = true
 | [], _, h, _ => by simp at h
 | d' :: ds, d, h, hz => by
  simp only [DataW.weightsAll, List.all_append, Bool.and_eq_true] at hz
  rcases List.mem_cons.1 h with rfl | h
  ·exact hz.1
  ·exact El h hz.2
end
structure Ent where
 qk : GV
 qv : GV
 ck : Nat
 cv : Nat
 c : Chg
def Ent.cells (e : Ent) : List Value := [.slice e.qk.A e.c.key.length e.ck, .slice e.qv.A e.c.val.length e.cv, .bool e.c.gone]
structure EntOk (W : World) (e : Ent) : Prop where
 k : BOk W e.qk e.c.key e.ck
 v : BOk W e.qv e.c.val e.cv
 lk : e.c.key.length ≤ 140737488355328
 lv : e.c.val.length ≤ 140737488355328
def entG (l : List Ent) : List GV := l.flatMap fun e => [e.qk, e.qv]
instance : Inhabited GV := ⟨⟨none, [], 0, 1, 0⟩⟩
instance : Inhabited Chg := ⟨⟨[], [], false⟩⟩
instance : Inhabited Ent := ⟨⟨default, default, 0, 0, default⟩⟩
theorem Dp {W : World} {base k : Nat} {a : Addr} {cs : List Value} (h : W.cells? base a k = some cs) (hk : 0 < k) : a.spot = none := by
 have h5 := World.cells?_some h
 have h6 := h5.2.2 0 hk
 have h7 : cs.length = k := h5.2.1
 rw [Iq (by omega)] at h6
 have e0 : a.add 0 = a := rfl
 rw [e0] at h6
 unfold World.cell? at h6
 split at h6
 ·split at h6
  ·simp at h6
  ·rename_i hq
   simpa using hq
 ·simp at h6
section
variable {H : Type} {enc : TypeId × Value → H} {P : Program} {W : World} {base : Nat} {held : Bool} {t e : TypeId}
theorem Es {i o : Nat} (hu : fieldT P t i = some (o, e)) {fuel : Nat} {cs : List Value} {d : DataW H} {ps : List MemPlace} (h : DataW.trod enc P W base (fun _ => true) held fuel t cs = some (d, ps)) (hz : (DataW.weights P t d).all (· ≤ reachBytes) = true) :
  ∃ n d' ps', DataW.trod enc P W base (fun _ => true) held n e ((cs.drop o).take (P.cellsOf e)) = some (d', ps') ∧ (DataW.weights P e d').all (· ≤ reachBytes) = true := by
 obtain ⟨fs, f, h1, h2, rfl, rfl⟩ := und_field hu
 obtain ⟨xs, n, rfl, hx, hl, hlen, hf⟩ := DataW.trod_struct h1 h
 simp only [Is] at hx
 obtain ⟨rfl, rfl⟩ := hx
 have hi : i < xs.length := by rw [hlen]; exact (Array.getElem?_eq_some_iff.1 h2).1
 have h3 := hf i f h2
 rw [Iq hi] at h3
 refine ⟨n, xs[i].1, xs[i].2, h3, ?_⟩
 simp only [DataW.weights, h1] at hz
 exact FW (i := i) (by simp [h2]) (by simp [hi]) hz
theorem trod_len {i o : Nat} (hu : fieldT P t i = some (o, e)) {fuel : Nat} {cs : List Value} {x : DataW H × List MemPlace} (h : DataW.trod enc P W base (fun _ => true) held fuel t cs = some x) : cs.length = P.cellsOf t := by
 obtain ⟨fs, f, h1, h2, rfl, rfl⟩ := und_field hu
 obtain ⟨xs, n, rfl, hx, hl, hlen, hf⟩ := DataW.trod_struct h1 h
 exact hl
theorem open_ent {fuel : Nat} {cs : List Value} {d : DataW H} {ps : List MemPlace} (h : DataW.trod enc Tryz.prog W base (fun _ => true) held fuel 87 cs = some (d, ps)) (hz : (DataW.weights Tryz.prog 87 d).all (· ≤ reachBytes) = true) :
  ∃ x : Ent, cs = x.cells ∧ EntOk W x := by
 have hl := trod_len (FieldT.h (P := Tryz.prog) (t := 87) (i := 0)) h
 rw [show Tryz.prog.cellsOf 87 = 3 by kernel_rfl] at hl
 match cs, hl with
 | [a, b, c], _ =>
  obtain ⟨n0, d0, p0, k0, z0⟩ := Es (FieldT.h (P := Tryz.prog) (t := 87) (i := 0)) h hz
  obtain ⟨n1, d1, p1, k1, z1⟩ := Es (FieldT.h (P := Tryz.prog) (t := 87) (i := 1)) h hz
  obtain ⟨n2, d2, p2, k2, z2⟩ := Es (FieldT.h (P := Tryz.prog) (t := 87) (i := 2)) h hz
  rw [show Tryz.prog.cellsOf 33 = 1 by kernel_rfl] at k0 k1
  rw [show Tryz.prog.cellsOf 4 = 1 by kernel_rfl] at k2
  obtain ⟨qk, xk, ck, rfl, o0, l0⟩ := open_gb (SliceT.h (P := Tryz.prog) (t := 33)) (IntT.h (P := Tryz.prog) (t := 5)) (by kernel_rfl) (by kernel_rfl) k0 z0
  obtain ⟨qv, xv, cv, rfl, o1, l1⟩ := open_gb (SliceT.h (P := Tryz.prog) (t := 33)) (IntT.h (P := Tryz.prog) (t := 5)) (by kernel_rfl) (by kernel_rfl) k1 z1
  obtain ⟨g, hg, _⟩ := DataW.trod_bool (by kernel_rfl) k2
  obtain rfl : c = .bool g := by simpa using hg
  exact ⟨⟨qk, qv, ck, cv, ⟨xk, xv, g⟩⟩, rfl, o0, o1, l0, l1⟩
theorem flat_map {α β : Type} (f : Nat → α) (g : α → List β) : ∀ n, ((List.range n).map f).flatMap g = (List.range n).flatMap fun i => g (f i) := fun n => by rw [List.flatMap_map]
theorem open_chs {fuel : Nat} {v : Value} {d : DataW H} {ps : List MemPlace} (h : DataW.trod enc Tryz.prog W base (fun _ => true) held fuel 24 [v] = some (d, ps)) (hz : (DataW.weights Tryz.prog 24 d).all (· ≤ reachBytes) = true) :
  ∃ (A : Option Addr) (l : List Ent) (c : Nat), v = .slice A l.length c ∧ (∀ x ∈ l, EntOk W x) ∧ l.length * 56 ≤ 140737488355328 ∧ (A = none → l = []) ∧ (∀ a, A = some a → a.spot ≠ none → l = [] ∧ c = 0) ∧
   ∀ a, A = some a → l ≠ [] → ∃ pre sp T fz, W.heap[a.block]? = some (.cells (pre ++ l.flatMap Ent.cells ++ sp).toArray T fz) ∧ pre.length = a.off := by
 have hu := Dx (SliceT.h (P := Tryz.prog) (t := 24))
 have hc : Tryz.prog.cellsOf 87 = 3 := by kernel_rfl
 rcases DataW.trod_slice hu h with ⟨e1, _⟩ | ⟨a, len, cap, elems, rest, n, _, e1, ed, _, _, _, hlen, hel, e2, _⟩
 ·obtain rfl : v = .slice none 0 0 := by simpa using e1
  exact ⟨none, [], 0, rfl, fun x hx => by simp at hx, by decide, fun _ => rfl, fun a ha => by simp at ha, fun a ha => by simp at ha⟩
 ·obtain rfl : v = .slice (some a) len cap := by simpa using e1
  simp only [Is] at ed
  obtain ⟨rfl, _⟩ := ed
  obtain ⟨e2, e3⟩ := e2 rfl
  simp only [DataW.weights, hu, List.all_cons, List.all_append, Bool.and_eq_true, decide_eq_true_eq, show Tryz.prog.bytesOf 87 = 56 by kernel_rfl, List.length_map] at hz
  obtain ⟨hz1, hz2, _⟩ := hz
  have each : ∀ i, i < len → ∃ x : Ent, W.cells? base (a.add (i * 3)) 3 = some x.cells ∧ EntOk W x := fun i hi => by
   have h1 := hel i hi
   rw [hc, Iq (by omega), Il] at h1
   obtain ⟨cs, h2, h3⟩ := h1
   obtain ⟨x, rfl, hx⟩ := open_ent (d := elems[i].1) (ps := elems[i].2) h3 (El (List.mem_map.2 ⟨elems[i], List.getElem_mem _, rfl⟩) hz2)
   exact ⟨x, h2, hx⟩
  obtain ⟨f, hf⟩ := Go.Deep.choose_lt each
  refine ⟨some a, (List.range len).map f, cap, by simp, fun x hx => ?_, ?_, fun e => by simp at e, fun a' ha hs => ?_, fun a' ha hn => ?_⟩
  ·obtain ⟨i, hi, rfl⟩ := List.mem_map.1 hx
   exact (hf i (List.mem_range.1 hi)).2
  ·simp only [reachBytes] at hz1
   simp only [List.length_map, List.length_range]
   omega
  ·obtain rfl := Iu ha
   have h0 : len = 0 := by
    rcases Nat.eq_zero_or_pos len with h0 | h0
    ·exact h0
    ·have := Dp (hf 0 h0).1 (by decide)
     exact absurd this hs
   subst h0
   refine ⟨rfl, ?_⟩
   rcases Nat.eq_zero_or_pos cap with h0 | h0
   ·exact h0
   ·exfalso
    have h1 := e3 0 (by omega)
    rw [hc, Iq (by omega), Il] at h1
    obtain ⟨cs, h2, _⟩ := h1
    exact hs (Dp h2 (by decide))
  ·obtain rfl := Iu ha
   have h0 : 0 < len := by
    rcases Nat.eq_zero_or_pos len with h0 | h0
    ·subst h0; exact absurd rfl hn
    ·exact h0
   have hsp := Dp (hf 0 h0).1 (by decide)
   have hsp : a.spot = none := hsp
   obtain ⟨hrw, _⟩ := rw_elems (f := fun i => (f i).cells) hsp (fun i hi => (hf i hi).1)
   rw [flat_map]
   exact rw_block hsp (fun e => by
    have := congrArg List.length e
    obtain ⟨m, rfl⟩ : ∃ m, len = m + 1 := ⟨len - 1, by omega⟩
    simp [List.range_succ, Ent.cells] at this) hrw
end
/- Jk: a record that was handed in, opened whole. By this project. -/
theorem ent_one (l : List Ent) : (l.flatMap Ent.cells).all (·.oneCell') = true := by
 refine List.all_eq_true.2 fun v hv => ?_
 obtain ⟨e, _, he⟩ := List.mem_flatMap.1 hv
 simp only [Ent.cells, List.mem_cons, List.not_mem_nil, or_false] at he
 rcases he with rfl | rfl | rfl <;> rfl
section
variable {H : Type} {enc : TypeId × Value → H} {W : World}
end
end Go.Proofs.YtbmkclbghfbegaaGreatDoor
/- Wdp: a region that draws, in which one operation panics; a deferred function that recovers. By this project. -/
namespace Go.Proofs.YtbmkclbghfbegaaGreatDoor
open Go.RowKit Go.Extern.Stop
theorem vdpan_none {C : Cx} {call : Bp} {n : Nat} {ops : List Oper} {hp : Hp} {pres : Tr Nat} {t0 : Tr VO} {q : V × Hp} : ∀ {r : List Oper} {i : Nat} {fr : Tr V} {rds : List (Nat × List Nat)}, Gq C call n ops hp pres r i fr = some q → Ep C call n ops pres t0 r i ⟨true, [], 0, fr, hp, rds⟩ = none
 | [], i, fr, rds, h => by simp [Gq] at h
 | o :: r, i, fr, rds, h => by
  unfold Gq at h
  simp only [Ep]
  have hm : ∀ m, Ca 0 m = true := fun m => by simp [Ca]
  have hrd : ∀ m, Fa C call hp fr o.op m [] = Fa C call hp fr o.op 0 [] := fun m => rfl
  split at h
  ·rename_i fr' hq
   have key : ∃ rds', vd1 C call n ops pres t0 o i ⟨true, [], 0, fr, hp, rds⟩ = some ⟨true, [], 0, fr', hp, rds'⟩ := by
    simp only [vq1, Il] at hq
    obtain ⟨b, hb, hq⟩ := hq
    simp only [vd1, hb, Ir]
    cases b with
    | false =>
     simp only at hq ⊢
     rw [hq]
     exact ⟨_, rfl⟩
    | true =>
     simp only at hq ⊢
     cases hp' : AX o.op with
     | true =>
      simp only [hp', Il] at hq
      obtain ⟨v, hv, hq⟩ := hq
      simp only [hv, Ir, hq]
      exact ⟨_, rfl⟩
     | false =>
      simp only [hp', Il] at hq
      obtain ⟨vR, hv, hq⟩ := hq
      simp only [hrd, hv, Ir, hq]
      exact ⟨_, rfl⟩
   obtain ⟨rds', e⟩ := key
   rw [e, Ir]
   exact vdpan_none h
  ·rename_i hq
   simp only [Il] at h
   obtain ⟨b, hb, h⟩ := h
   have key : vd1 C call n ops pres t0 o i ⟨true, [], 0, fr, hp, rds⟩ = none := by
    simp only [vq1, hb, Ir] at hq
    simp only [vd1, hb, Ir]
    cases b with
    | false => simp at h
    | true =>
     simp only at hq h ⊢
     cases hp' : AX o.op with
     | true => simp [hp'] at h
     | false =>
      simp only [hp', Il] at h hq
      obtain ⟨⟨rr, qq⟩, hv, h⟩ := h
      simp only [hrd]
      cases hr : Fa C call hp fr o.op 0 [] with
      | some vR =>
       simp only [hr, Ir] at hq
       simp only [hq, Option.bind_none]
      | none =>
       simp only [hm, hv, Ir]
       cases rr with
       | v x => simp at h
       | pan x => rfl
   rw [key, Option.bind_none]
def WPN (K : Kx) (nt : Nat) (hp0 : Bs) (ops : List Oper) (pres : Tr Nat) (L : HV) (rest : List Oper) (i : Nat) (l : VL) (Q : V → HV → Prop) : Prop :=
 ∀ fr hp, FrV fr l → SV hp0 hp L → ∃ x q L', (∃ N, ∀ n, N ≤ n → Gq K.C (BN K.C K.ext K.extd n) nt ops hp pres rest i fr = some (x, q)) ∧ SV hp0 q L' ∧ Stp hp0 hp q ∧ Q x L'
def WQR (K : Kx) (nt : Nat) (hp0 : Bs) (ops : List Oper) (pres : Tr Nat) (p : Nat) (L : HV) (rest : List Oper) (i : Nat) (l : VL) : Prop :=
 ∀ fr hp n, FrV fr l → SV hp0 hp L → vqrest K.C (BN K.C K.ext K.extd n) nt ops hp pres p rest i fr = true
section
variable {K : Kx} {nt : Nat} {hp0 : Bs} {l : VL} {df : DL} {L : HV} {Q : WQ} {ops rest : List Oper} {pres : Tr Nat} {i p : Nat} {P : V → HV → Prop}
theorem w_dpan {id : Nat} {ops : Array Oper} (ha : (DP ops.toList (BD ops.toList 0 .lf) ops.toList 0 [] && Fk (BD ops.toList 0 .lf) ops.toList 0) = true) (h : WPN K nt hp0 ops.toList (BD ops.toList 0 .lf) L ops.toList 0 l fun x L' => Q (.pan x) [] df L') : WG K nt hp0 (.region id ops true) l df L Q := by
 unfold WG
 intro fr hp hf hs
 obtain ⟨x, q, L', ⟨N, h1⟩, h2, h3, h4⟩ := h fr hp hf hs
 refine ⟨.pan x, G6 ops.toList fr, df, q, [], L', ⟨N + 1, fun n m hn hm => ?_⟩, ⟨fun t v hv => by simp at hv⟩, h2, h3, h4⟩
 obtain ⟨m, rfl⟩ : ∃ k, m = k + 1 := ⟨m - 1, by omega⟩
 have e := h1 n (by omega)
 have e0 := vdpan_none (t0 := hp.t) (rds := []) e
 simp only [Bc, ha]
 rw [e0, e]
 rfl
theorem wp_pure {o : Oper} {v : V} {t : Nat} (hw : BS ops l o) (hi : AX o.op = true) (hd : o.dst = some t) (hlt : Nat.ble (t + 1) nt = true) (hnt : Nat.ble nt AV = true) (h : PV K.C l o.op v) (k : WPN K nt hp0 ops pres L rest (i + 1) ((t, v) :: l) P) : WPN K nt hp0 ops pres L (o :: rest) i l P := fun fr hp hf hs => by
 unfold BS at hw
 unfold PV at h
 obtain ⟨fr1, g1, g2⟩ := hf.set (Io hlt) (Io hnt) v
 obtain ⟨x, q, L', ⟨N, k1⟩, k2⟩ := k fr1 hp g2 hs
 refine ⟨x, q, L', ⟨N, fun n hn => ?_⟩, k2⟩
 have e : vq1 K.C (BN K.C K.ext K.extd n) nt ops hp o fr = some fr1 := by simp only [vq1, hw fr hf, hi, h fr hf, Ir, hd, g1]
 simp only [Gq, e]
 exact k1 n hn
theorem wp_rd {o : Oper} {v : V} {t : Nat} {R : List Nat} (hw : BS ops l o) (hi : AX o.op = false) (hr : isRd o.op = true) (hd : o.dst = some t) (hlt : Nat.ble (t + 1) nt = true) (hnt : Nat.ble nt AV = true) (h : MV K hp0 l L o.op R v) (k : WPN K nt hp0 ops pres L rest (i + 1) ((t, v) :: l) P) : WPN K nt hp0 ops pres L (o :: rest) i l P := fun fr hp hf hs => by
 unfold BS at hw
 unfold MV at h
 obtain ⟨fr1, g1, g2⟩ := hf.set (Io hlt) (Io hnt) v
 obtain ⟨e1, e2⟩ := h fr hf
 obtain ⟨e3, e4⟩ := e2 hp hs
 obtain ⟨x, q, L', ⟨N, k1⟩, k2⟩ := k fr1 hp g2 hs
 refine ⟨x, q, L', ⟨N, fun n hn => ?_⟩, k2⟩
 have hun : allL (fun h => CD 0 h []) R = true := Ci.2 fun x hx => rfl
 have e5 : Fa K.C (BN K.C K.ext K.extd n) hp fr o.op 0 [] = some (v, R) := by
  have e6 := e4 (BN K.C K.ext K.extd n) ⟨Eu hp.t R, hp.nx, []⟩ (fun h hh => HZ hh)
  simp only [Fa, hr, e1, hun, e6, Ir]
  have : Nat.beq hp.nx hp.nx = true := by simp
  simp only [this]
 have e : vq1 K.C (BN K.C K.ext K.extd n) nt ops hp o fr = some fr1 := by simp only [vq1, hw fr hf, hi, e5, Ir, hd, g1]
 simp only [Gq, e]
 exact k1 n hn
theorem wp_pan {o : Oper} {tch : List Nat} (hw : BS ops l o) (hi : AX o.op = false) (hr : isRd o.op = false) (h : EV K hp0 l L o.op tch fun r L' => ∃ x, r = .pan x ∧ P x L') (k : WQR K nt hp0 ops pres i L rest (i + 1) l) : WPN K nt hp0 ops pres L (o :: rest) i l P := fun fr hp hf hs => by
 unfold BS at hw
 unfold EV at h
 obtain ⟨r, hp1, L1, ⟨N, h1⟩, h2, h3, _, x, rfl, h5⟩ := h fr ⟨hp.t, hp.nx, []⟩ hf ⟨hs.nx, hs.old, hs.has, hs.one, hs.top, hs.even⟩
 refine ⟨x, ⟨hp1.t, hp1.nx, hp1.log ++ hp.log⟩, L1, ⟨N, fun n hn => ?_⟩, ⟨h2.nx, h2.old, h2.has, h2.one, h2.top, h2.even⟩, ?_, h5⟩
 ·have e0 : Fa K.C (BN K.C K.ext K.extd n) hp fr o.op 0 [] = none := by simp only [Fa, hr]
  have e : vq1 K.C (BN K.C K.ext K.extd n) nt ops hp o fr = none := by simp only [vq1, hw fr hf, hi, e0, Ir, Option.bind_none]
  simp only [Gq, e, hw fr hf, hi, h1 n hn, k fr hp n hf hs, Ir]
 ·obtain ⟨g1, g, g2, g3, g4⟩ := h3
  simp only [List.append_nil] at g2
  exact ⟨g1, hp1.log, rfl, by rw [g2]; exact g3, by rw [g2]; exact g4⟩
theorem wq_nil : WQR K nt hp0 ops pres p L [] i l := fun fr hp n _ _ => rfl
theorem wq_dep {o : Oper} (hb : AM (Ap pres i) p = true) (k : WQR K nt hp0 ops pres p L rest (i + 1) l) : WQR K nt hp0 ops pres p L (o :: rest) i l := fun fr hp n hf hs => by
 simp only [vqrest, hb]
 exact k fr hp n hf hs
end
theorem E4 {C : Cx} {call : Bp} {ops : List Oper} : ∀ (r : List Oper) (s : Sv) (u : FM), (r.all fun o => !isRec o.op && !CH o.op) = true → CV C call ops r s u = (Dd C call ops r s).bind fun q => some (q.1, q.2, u)
 | [], s, u, _ => rfl
 | o :: r, s, u, h => by
  simp only [List.all_cons, Bool.and_eq_true, Bool.not_eq_true'] at h
  obtain ⟨⟨h1, h2⟩, h3⟩ := h
  cases hw : Ct ops s.fr o with
  | none => simp only [CV, Dd, hw, Option.bind_none]
  | some b =>
   cases b with
   | false =>
    simp only [CV, Dd, hw, Ir]
    cases setD s.n s.fr o.dst undV with
    | none => rfl
    | some fr => simp only [Ir]; exact E4 r _ _ h3
   | true =>
    rw [Ft C call o s h2 hw]
    simp only [CV, hw, Ir, h1]
    cases vop C call s.fr s.hp o.op with
    | none => rfl
    | some q =>
     obtain ⟨rr, hp'⟩ := q
     cases rr with
     | v x =>
      simp only [Ir]
      cases setD s.n s.fr o.dst x with
      | none => rfl
      | some fr => simp only [Ir]; exact E4 r _ _ h3
     | pan x => rfl
def ET : Code → Bool
 | .seq a b => ET a && ET b
 | .cond _ a b => ET a && ET b
 | .block _ c => ET c
 | .region _ ops draw => draw || ops.toList.all fun o => !isRec o.op && !CH o.op
 | .skip => true
 | .ret => true
 | .exit _ => true
 | _ => false
theorem Cz {C : Cx} {call : Bp} : ∀ (n : Nat) (c : Code) (s : Sv) (u : FM) (q : Ex × Sv), ET c = true → Bc C call n c s = some q → Cm C call (n + 1) c s u = some (q.1, q.2, u)
 | 0, _, _, _, _, _, h => by simp [Bc] at h
 | n + 1, c, s, u, q, hc, h => by
  cases c with
  | seq a b =>
   simp only [ET, Bool.and_eq_true] at hc
   simp only [Bc, Il] at h
   obtain ⟨⟨e, s1⟩, h1, h2⟩ := h
   show (Cm C call (n + 1) a s u).bind _ = _
   rw [Cz n a s u _ hc.1 h1, Ir]
   cases e with
   | norm => exact Cz n b s1 u q hc.2 h2
   | exit j => obtain rfl := Iu h2; rfl
   | ret => obtain rfl := Iu h2; rfl
   | pan x => obtain rfl := Iu h2; rfl
  | cond x a b =>
   simp only [ET, Bool.and_eq_true] at hc
   simp only [Bc, Il] at h
   obtain ⟨v, h1, h2⟩ := h
   show (evV s.fr x).bind _ = _
   rw [h1, Ir]
   cases v with
   | b t =>
    cases t with
    | false => exact Cz n b s u q hc.2 h2
    | true => exact Cz n a s u q hc.1 h2
   | _ => simp at h2
  | block id c =>
   simp only [ET] at hc
   simp only [Bc, Il] at h
   obtain ⟨⟨e, s1⟩, h1, h2⟩ := h
   show (Cm C call (n + 1) c s u).bind _ = _
   rw [Cz n c s u _ hc h1, Ir]
   cases e with
   | exit j =>
    simp only at h2 ⊢
    cases hj : Nat.beq j id with
    | true => rw [hj] at h2; obtain rfl := Iu h2; rfl
    | false => rw [hj] at h2; obtain rfl := Iu h2; rfl
   | norm => obtain rfl := Iu h2; rfl
   | ret => obtain rfl := Iu h2; rfl
   | pan x => obtain rfl := Iu h2; rfl
  | region id ops draw =>
   cases draw with
   | true =>
    show (Bc C call (n + 1) (.region id ops true) s).bind _ = _
    rw [h]
    rfl
   | false =>
    simp only [ET, Bool.false_or] at hc
    simp only [Bc, Il] at h
    obtain ⟨⟨e, s1⟩, h1, h2⟩ := h
    show (CV C call ops.toList ops.toList s u).bind _ = _
    rw [E4 _ _ _ hc, h1, Ir, Ir]
    cases e with
    | none => obtain rfl := Iu h2; rfl
    | some x => obtain rfl := Iu h2; rfl
  | skip =>
   unfold Cm
   simp only [h, Ir]
  | ret =>
   unfold Cm
   simp only [h, Ir]
  | exit j =>
   unfold Cm
   simp only [h, Ir]
  | _ => simp [ET] at hc
theorem dfn_rec {K : Kx} {hp0 : Bs} {L : HV} {f d id : Nat} {fn : Func} {c : Code} {o : Oper} {vs : List V} {u : FM} {R : VR → FM → HV → Prop} (hx : ∀ hp, K.extd f vs u hp = none) (hfn : K.C.F.get f = some fn) (hb : fn.body = some (.seq (.region id #[o] false) c)) (ho : isRec o.op = true) (hg : o.guard = none) (hd : o.dst = some d) (hlt : Nat.ble (d + 1) fn.ntmps = true) (hnt : Nat.ble fn.ntmps AV = true) (hc : ET c = true)
  (hn : (Nat.ble vs.length fn.ntmps && Nat.ble vs.length 1000 && Nat.blt fn.ntmps AV) = true)
  (h : WG K fn.ntmps hp0 c ((d, (drec u).1) :: HQ 0 vs) [] L (fun e l df L' => df = [] ∧ match e with
   | .exit _ => False
   | .pan x => R (.pan x) (drec u).2 L'
   | _ => ∃ v, ResV K.C hp0 fn.results.toList l L' v ∧ R (.v v) (drec u).2 L')) : DFn K f vs u hp0 L R := fun hp hs => by
 unfold WG at h
 obtain ⟨fr, e1, e2⟩ := enter_fr (hp := hp) hn
 obtain ⟨fr1, g1, g2⟩ := e2.set (Io hlt) (Io hnt) (drec u).1
 obtain ⟨e, fr2, df2, hp2, l2, L2, ⟨N, h1⟩, h2, h3, h4, rfl, h6⟩ := h fr1 hp g2 hs
 have hw : ∀ fr, Ct (#[o] : Array Oper).toList fr o = some true := fun fr => by simp only [Ct, hg]
 have step : ∀ n, N + 2 ≤ n → Cm K.C (BN K.C K.ext K.extd n) n (.seq (.region id #[o] false) c) ⟨fr, [], hp, fn.ntmps⟩ u = some (e, ⟨fr2, [], hp2, fn.ntmps⟩, (drec u).2) := fun n hn' => by
  obtain ⟨m, rfl⟩ : ∃ k, n = k + 2 := ⟨n - 2, by omega⟩
  have e3 : Cm K.C (BN K.C K.ext K.extd (m + 2)) (m + 1) (.region id #[o] false) ⟨fr, [], hp, fn.ntmps⟩ u = some (.norm, ⟨fr1, [], hp, fn.ntmps⟩, (drec u).2) := by
   show (CV K.C _ (#[o] : Array Oper).toList [o] ⟨fr, [], hp, fn.ntmps⟩ u).bind _ = _
   simp only [CV, hw, Ir, ho, hd, g1]
  show (Cm K.C (BN K.C K.ext K.extd (m + 2)) (m + 1) (.region id #[o] false) ⟨fr, [], hp, fn.ntmps⟩ u).bind _ = _
  rw [e3, Ir]
  simp only
  rw [Cz _ _ _ _ _ hc (h1 (m + 2) m (by omega) (by omega))]
 have fin : ∀ n, N + 2 ≤ n → HG K.C (BN K.C K.ext K.extd n) K.extd n f vs u hp = (match e with
   | .exit _ => none
   | .pan x => some (.pan x, (drec u).2, hp2)
   | _ => (endV K.C fn fr2 hp2).bind fun v => some (.v v, (drec u).2, hp2)) := fun n hn' => by
  simp only [HG, hx hp, hfn, hb, Ir, e1, step n hn']
  cases e <;> rfl
 cases e with
 | exit j => exact h6.elim
 | pan x => exact ⟨.pan x, (drec u).2, hp2, L2, ⟨N + 2, fun n hn' => fin n hn'⟩, h3, h4, h6⟩
 | norm =>
  obtain ⟨v, hv, h6⟩ := h6
  refine ⟨.v v, (drec u).2, hp2, L2, ⟨N + 2, fun n hn' => ?_⟩, h3, h4, h6⟩
  rw [fin n hn']
  have := hv fr2 hp2 h2 h3
  simp only [endV, this, Ir]
 | ret =>
  obtain ⟨v, hv, h6⟩ := h6
  refine ⟨.v v, (drec u).2, hp2, L2, ⟨N + 2, fun n hn' => ?_⟩, h3, h4, h6⟩
  rw [fin n hn']
  have := hv fr2 hp2 h2 h3
  simp only [endV, this, Ir]
section
variable {K : Kx} {nt : Nat} {hp0 : Bs} {l : VL} {df : DL} {L : HV} {Q : WQ} {ops rest : List Oper} {pres : Tr Nat} {i : Nat} {P : V → HV → Prop}
theorem ev_panic {x : Operand} {t : Nat} {v : V} {k : VR → HV → Prop} (hx : evL l x = some (.ifc t v)) (hk : k (.pan (.ifc t v)) L) : EV K hp0 l L (.panic x) [] k := by
 unfold EV
 exact fun fr hp hf hs => ⟨_, hp, L, ⟨0, fun n _ => by
  show oPanic fr hp x = _
  simp only [oPanic, hf.ev hx, Ir]⟩, hs, CQ _ _, HY, hk⟩
theorem EE {dst : Option Tmp} {x : Operand} {ty : TypeId} {ps : String} {af : Array Edge} {gd : Option (Nat × Bool)} {t : Nat} {v : V} (hg : BS ops l ⟨dst, .panic x, ty, ps, af, gd⟩) (hx : evL l x = some (.ifc t v)) (h : Q (.pan (.ifc t v)) l df L) : WGL K nt hp0 ops (⟨dst, .panic x, ty, ps, af, gd⟩ :: rest) l df L Q :=
 wl_pan hg rfl (ev_panic hx ⟨_, rfl, h⟩)
theorem p_callP {dst : Option Tmp} {c : Call} {ty : TypeId} {ps : String} {af : Array Edge} {gd : Option (Nat × Bool)} {xs vs : List V} {f : Nat} {R : V → HV → Prop} {Lr : HV} (Lt : HV) (hg : BS ops l ⟨dst, .call c, ty, ps, af, gd⟩) (ha : evLs l c.args.toList = some xs) (hc : callee c.callee l K.C xs = some (f, vs)) [pt : OutM L Lt Lr] (hC : ∀ hp, SV hp0 hp (Lt ++ Lr) → SV ⟨hp, hnds Lt⟩ hp Lt → Fn K f vs hp (hnds Lt) fun r N => ∃ x, r = .pan x ∧ R x N)
  (k : ∀ x N, R x N → Q (.pan x) l df (N ++ Lr)) : WGL K nt hp0 ops (⟨dst, .call c, ty, ps, af, gd⟩ :: rest) l df L Q :=
 wl_pan hg rfl (Ih (Lt := Lt) (Lr := Lr) ha hc (fun hp h => h.perm pt.h) (fun hp hs ht => hC hp (hs.perm pt.h) ht) fun r N ⟨x, e, h⟩ => ⟨x, e, k x N h⟩)
theorem wp_callP {dst : Option Tmp} {c : Call} {ty : TypeId} {ps : String} {af : Array Edge} {gd : Option (Nat × Bool)} {xs vs : List V} {f : Nat} {R : V → HV → Prop} {Lr : HV} (Lt : HV) (hg : BS ops l ⟨dst, .call c, ty, ps, af, gd⟩) (hr : isRd (.call c) = false) (ha : evLs l c.args.toList = some xs) (hc : callee c.callee l K.C xs = some (f, vs)) [pt : OutM L Lt Lr] (hC : ∀ hp, SV hp0 hp (Lt ++ Lr) → SV ⟨hp, hnds Lt⟩ hp Lt → Fn K f vs hp (hnds Lt) fun r N => ∃ x, r = .pan x ∧ R x N)
  (hk : ∀ x N, R x N → P x (N ++ Lr)) (k : WQR K nt hp0 ops pres i L rest (i + 1) l) : WPN K nt hp0 ops pres L (⟨dst, .call c, ty, ps, af, gd⟩ :: rest) i l P :=
 wp_pan hg rfl hr (Ih (Lt := Lt) (Lr := Lr) ha hc (fun hp h => h.perm pt.h) (fun hp hs ht => hC hp (hs.perm pt.h) ht) fun r N ⟨x, e, h⟩ => ⟨x, e, hk x N h⟩) k
end
theorem rdOk_e {pres : Tr Nat} {i : Nat} {tch : List Nat} : RdOk pres i tch [] := fun p hp => by simp at hp
theorem rdOk_d {pres : Tr Nat} {i j : Nat} {tch R : List Nat} {rl : List (Nat × List Nat)} (h : AM (Ap pres i) j = true) (k : RdOk pres i tch rl) : RdOk pres i tch ((j, R) :: rl) := fun q hq => by
 rcases List.mem_cons.1 hq with rfl | hq
 ·exact .inl h
 ·exact k q hq
theorem rdOk_n {pres : Tr Nat} {i j b : Nat} {tch : List Nat} {rl : List (Nat × List Nat)} [h : NotIn b tch] (k : RdOk pres i tch rl) : RdOk pres i tch ((j, [b]) :: rl) := fun q hq => by
 rcases List.mem_cons.1 hq with rfl | hq
 ·refine .inr fun x hx => ?_
  rw [List.mem_singleton.1 hx]
  exact h.h
 ·exact k q hq
theorem nin1 {B : Bs} {hp : Hp} {L : HV} {b b' i j : Nat} {o o' : VO} (hs : SV B hp L) [h : AtV b L o i] [h' : AtV b' L o' j] (hij : i ≠ j) : NotIn b [b'] := ⟨fun hm => by
 obtain rfl := List.mem_singleton.1 hm
 exact hij (hs.one _ _ _ _ _ h.h h'.h)⟩
/- Dr1: reading items of bytes strictly, as plain law; a cut within a row of bytes; a number's bytes. By this project. -/
abbrev Flt := Nat × Nat
def beN (n : Nat) : List UInt8 → Nat
 | [] => n
 | c :: r => beN (n * 256 + c.toNat) r
theorem beN_app : ∀ (l r : List UInt8) (n : Nat), beN n (l ++ r) = beN (beN n l) r
 | [], r, n => rfl
 | c :: l, r, n => by rw [List.cons_append, beN, beN, beN_app l r]
theorem beN_lt : ∀ (l : List UInt8) (n : Nat), beN n l < (n + 1) * 256 ^ l.length
 | [], n => by simp [beN]
 | c :: r, n => by
  rw [beN, List.length_cons, Nat.pow_succ]
  have h1 := beN_lt r (n * 256 + c.toNat)
  have h2 := c.toNat_lt
  have h3 : (n * 256 + c.toNat + 1) * 256 ^ r.length ≤ ((n + 1) * 256) * 256 ^ r.length := Nat.mul_le_mul_right _ (by omega)
  have h4 : ((n + 1) * 256) * 256 ^ r.length = (n + 1) * (256 ^ r.length * 256) := by rw [Nat.mul_assoc, Nat.mul_comm 256]
  omega
def bAt (b : List UInt8) (p : Nat) : Nat := match b[p]? with
 | some x => x.toNat
 | none => 0
theorem F3 (b : List UInt8) (p : Nat) : bAt b p < 256 := by
 unfold bAt
 split
 ·rename_i x _
  exact x.toNat_lt
 ·decide
theorem bAt_get {b : List UInt8} {p : Nat} (h : p < b.length) : bAt b p = b[p].toNat := by
 unfold bAt
 rw [Iq h]
def lenS (b : List UInt8) (e p : Nat) : Except Flt (Nat × Nat) :=
 if bAt b p % 64 < 56 then .ok (bAt b p % 64, p + 1)
 else if e < p + 1 + (bAt b p % 64 - 55) then .error (p, 50)
 else if bAt b (p + 1) = 0 then .error (p, 52)
 else if 1048576 < beN 0 ((b.drop (p + 1)).take (bAt b p % 64 - 55)) then .error (p, 54)
 else if beN 0 ((b.drop (p + 1)).take (bAt b p % 64 - 55)) < 56 then .error (p, 52)
 else .ok (beN 0 ((b.drop (p + 1)).take (bAt b p % 64 - 55)), p + 1 + (bAt b p % 64 - 55))
theorem lenS_ok {b : List UInt8} {e p n q : Nat} (hp : p < e) (h : lenS b e p = .ok (n, q)) : p < q ∧ q ≤ e ∧ n ≤ 1048576 := by
 unfold lenS at h
 split at h
 ·simp only [Except.ok.injEq, Is] at h; omega
 ·split at h
  ·simp at h
  ·split at h
   ·simp at h
   ·split at h
    ·simp at h
    ·split at h
     ·simp at h
     ·simp only [Except.ok.injEq, Is] at h; omega
mutual
def DZ : Nat → List UInt8 → Nat → Nat → Nat → Option (Except Flt (It × Nat))
 | 0, _, _, _, _ => none
 | f + 1, b, p, e, d =>
  if p = e then some (.error (p, 50))
  else if bAt b p < 128 then some (.ok (.str [UInt8.ofNat (bAt b p)], p + 1))
  else if 192 ≤ bAt b p ∧ 80 ≤ d then some (.error (p, 53))
  else match lenS b e p with
   | .error x => some (.error x)
   | .ok (n, q) =>
    if e < q + n then some (.error (p, 50))
    else if 192 ≤ bAt b p then Eg f b q (q + n) (d + 1) []
    else if n = 1 ∧ bAt b q < 128 then some (.error (p, 52))
    else some (.ok (.str ((b.drop q).take n), q + n))
def Eg : Nat → List UInt8 → Nat → Nat → Nat → List It → Option (Except Flt (It × Nat))
 | 0, _, _, _, _, _ => none
 | f + 1, b, q, e, d, acc =>
  if q < e then match DZ f b q e d with
   | none => none
   | some (.error x) => some (.error x)
   | some (.ok (t, q')) => Eg f b q' e d (acc ++ [t])
  else some (.ok (.list acc, q))
end
mutual
theorem GU : ∀ {f : Nat} {b : List UInt8} {p e d q : Nat} {t : It}, p ≤ e → DZ f b p e d = some (.ok (t, q)) → p < q ∧ q ≤ e
 | 0, b, p, e, d, q, t, _, h => by simp [DZ] at h
 | f + 1, b, p, e, d, q, t, hp, h => by
  rw [DZ] at h
  split at h
  ·simp at h
  ·rename_i hpe
   split at h
   ·simp only [Im, Except.ok.injEq, Is] at h
    omega
   ·split at h
    ·simp at h
    ·split at h
     ·simp at h
     ·rename_i n q0 hl
      obtain ⟨l1, l2, _⟩ := lenS_ok (by omega) hl
      split at h
      ·simp at h
      ·split at h
       ·obtain ⟨h1, h2⟩ := listS_at (by omega) h
        omega
       ·split at h
        ·simp at h
        ·simp only [Im, Except.ok.injEq, Is] at h
         omega
theorem listS_at : ∀ {f : Nat} {b : List UInt8} {p e d q : Nat} {acc : List It} {t : It}, p ≤ e → Eg f b p e d acc = some (.ok (t, q)) → p ≤ q ∧ q = e
 | 0, b, p, e, d, q, acc, t, _, h => by simp [Eg] at h
 | f + 1, b, p, e, d, q, acc, t, hp, h => by
  rw [Eg] at h
  split at h
  ·split at h
   ·simp at h
   ·simp at h
   ·rename_i t' q' hi
    obtain ⟨h1, h2⟩ := GU (by omega) hi
    obtain ⟨h3, h4⟩ := listS_at h2 h
    omega
  ·simp only [Im, Except.ok.injEq, Is] at h
   omega
end
mutual
theorem FE : ∀ (f : Nat) (b : List UInt8) (p e d : Nat), p ≤ e → 2 * (e - p) + 1 ≤ f → ∃ r, DZ f b p e d = some r
 | 0, b, p, e, d, _, h => by omega
 | f + 1, b, p, e, d, hp, h => by
  rw [DZ]
  split
  ·exact ⟨_, rfl⟩
  ·split
   ·exact ⟨_, rfl⟩
   ·split
    ·exact ⟨_, rfl⟩
    ·split
     ·exact ⟨_, rfl⟩
     ·rename_i n q hl
      obtain ⟨l1, l2, _⟩ := lenS_ok (by omega) hl
      split
      ·exact ⟨_, rfl⟩
      ·split
       ·exact listS_some f b q (q + n) (d + 1) [] (by omega) (by omega)
       ·split
        ·exact ⟨_, rfl⟩
        ·exact ⟨_, rfl⟩
theorem listS_some : ∀ (f : Nat) (b : List UInt8) (q e d : Nat) (acc : List It), q ≤ e → 2 * (e - q) + 2 ≤ f → ∃ r, Eg f b q e d acc = some r
 | 0, b, q, e, d, acc, _, h => by omega
 | f + 1, b, q, e, d, acc, hq, h => by
  rw [Eg]
  split
  ·obtain ⟨r, hr⟩ := FE f b q e d (by omega) (by omega)
   rw [hr]
   match r, hr with
   | .error x, hr => exact ⟨_, rfl⟩
   | .ok (t, q'), hr =>
    obtain ⟨h1, h2⟩ := GU hq hr
    exact listS_some f b q' e d (acc ++ [t]) h2 (by omega)
  ·exact ⟨_, rfl⟩
end
def decS (b : List UInt8) : Except Flt It :=
 if 1048576 < b.length then .error (0, 54)
 else match DZ (2 * b.length + 1) b 0 b.length 0 with
  | some (.ok (t, q)) => if q < b.length then .error (q, 51) else .ok t
  | some (.error x) => .error x
  | none => .error (0, 0)
def Sn (X : HV) (A : Option (Nat × Nat)) (cs : List V) : Prop := ∀ (B : Bs) (hp : Hp) (Lt L : HV), SV B hp (Lt ++ L) → (∀ p ∈ X, p ∈ L) → RB ⟨hp, hnds Lt⟩ A cs
theorem Sn.own {X : HV} {b o : Nat} {C cs : List V} {T : TypeId} {oo : Option Nat} {mk : Bool} (h : (some b, .cells C T oo mk) ∈ X) (hc : (C.drop o).take cs.length = cs) : Sn X (some (b, o)) cs := fun B hp Lt L hs hx => by
 obtain ⟨j, hj⟩ := List.getElem?_of_mem (hx _ h)
 exact ES hs hj hc
theorem Sn.nil {X : HV} : Sn X none [] := fun _ _ _ _ _ _ => RB.nil
theorem Sn.mono {X Y : HV} {A : Option (Nat × Nat)} {cs : List V} (h : Sn X A cs) (hx : ∀ p ∈ X, p ∈ Y) : Sn Y A cs := fun B hp Lt L hs hy => h B hp Lt L hs fun p hp => hy p (hx p hp)
theorem DM {α : Type} (l : List α) : (l.drop 0).take l.length = l := by rw [List.drop_zero]; exact Ip (Nat.le_refl _)
mutual
def ItP (P : Option (Nat × Nat) → List V → Prop) : It → List V → Prop
 | .str bs, v => ∃ A c o, v = [.b false, .sl A bs.length c o, .sl none 0 0 false] ∧ P A (bs.map byV)
 | .list l, v => ∃ A c o vs, v = [.b true, .sl none 0 0 false, .sl A l.length c o] ∧ P A vs.flatten ∧ ItPs P l vs
def ItPs (P : Option (Nat × Nat) → List V → Prop) : List It → List (List V) → Prop
 | [], vs => vs = []
 | t :: r, vs => ∃ v ws, vs = v :: ws ∧ ItP P t v ∧ ItPs P r ws
end
mutual
theorem itP_mono {P P' : Option (Nat × Nat) → List V → Prop} (hm : ∀ A cs, P A cs → P' A cs) : ∀ (t : It) (v : List V), ItP P t v → ItP P' t v
 | .str bs, v, h => by
  rw [ItP] at h ⊢
  obtain ⟨A, c, o, h1, h2⟩ := h
  exact ⟨A, c, o, h1, hm _ _ h2⟩
 | .list l, v, h => by
  rw [ItP] at h ⊢
  obtain ⟨A, c, o, vs, h1, h2, h3⟩ := h
  exact ⟨A, c, o, vs, h1, hm _ _ h2, GX hm l vs h3⟩
theorem GX {P P' : Option (Nat × Nat) → List V → Prop} (hm : ∀ A cs, P A cs → P' A cs) : ∀ (l : List It) (vs : List (List V)), ItPs P l vs → ItPs P' l vs
 | [], vs, h => by rw [ItPs] at h ⊢; exact h
 | t :: r, vs, h => by
  rw [ItPs] at h ⊢
  obtain ⟨v, ws, h0, h1, h2⟩ := h
  exact ⟨v, ws, h0, itP_mono hm t v h1, GX hm r ws h2⟩
end
mutual
theorem itP_r {B : Bs} {P : Option (Nat × Nat) → List V → Prop} (hm : ∀ A cs, P A cs → RB B A cs) : ∀ (t : It) (v : List V), ItP P t v → ItR B t v
 | .str bs, v, h => by
  rw [ItP] at h
  rw [ItR]
  obtain ⟨A, c, o, h1, h2⟩ := h
  exact ⟨A, c, o, h1, hm _ _ h2⟩
 | .list l, v, h => by
  rw [ItP] at h
  rw [ItR]
  obtain ⟨A, c, o, vs, h1, h2, h3⟩ := h
  exact ⟨A, c, o, vs, h1, hm _ _ h2, itPs_r hm l vs h3⟩
theorem itPs_r {B : Bs} {P : Option (Nat × Nat) → List V → Prop} (hm : ∀ A cs, P A cs → RB B A cs) : ∀ (l : List It) (vs : List (List V)), ItPs P l vs → ItRs B l vs
 | [], vs, h => by rw [ItPs] at h; rw [ItRs]; exact h
 | t :: r, vs, h => by
  rw [ItPs] at h
  rw [ItRs]
  obtain ⟨v, ws, h0, h1, h2⟩ := h
  exact ⟨v, ws, h0, itP_r hm t v h1, itPs_r hm r ws h2⟩
end
theorem itPs_snoc {P : Option (Nat × Nat) → List V → Prop} {t : It} {v : List V} (k : ItP P t v) : ∀ {l : List It} {vs : List (List V)}, ItPs P l vs → ItPs P (l ++ [t]) (vs ++ [v])
 | [], vs, h => by
  rw [ItPs] at h
  subst h
  rw [List.nil_append, List.nil_append, ItPs]
  exact ⟨v, [], rfl, k, by rw [ItPs]⟩
 | x :: r, vs, h => by
  rw [ItPs] at h
  obtain ⟨w, ws, rfl, h1, h2⟩ := h
  rw [List.cons_append, List.cons_append, ItPs]
  exact ⟨w, ws ++ [v], rfl, h1, itPs_snoc k h2⟩
abbrev ItX (X : HV) (t : It) (v : List V) : Prop := ItP (Sn X) t v
abbrev ItXs (X : HV) (l : List It) (vs : List (List V)) : Prop := ItPs (Sn X) l vs
section
variable {K : Kx} {nt : Nat} {hp0 : Bs} {l : VL} {df : DL} {L : HV} {Q : WQ} {t t' : TypeId} {a b : Operand}
theorem m_shlU {x : Int} {k : IntKind} {p : Int} {m n : Nat} (hx : evL l a = some (.i .u64 x)) (hy : evL l b = some (.i k p)) [hm : CastN x m] [hn : CastN p n] (h : n ≤ 64) (h2 : m * 2 ^ n < 18446744073709551616) : MVO K hp0 l L (.binOp .shl t a b t') (.i .u64 ((m * 2 ^ n : Nat) : Int)) := by
 refine mv_sh hx hy ?_
 rw [hn.h, hm.h]
 show some (V.i .u64 (IntKind.u64.wrap ((m : Int) * 2 ^ min n IntKind.u64.bits))) = _
 rw [show min n IntKind.u64.bits = n by simp [IntKind.bits]; omega]
 have e : ((m : Int) * 2 ^ n) = ((m * 2 ^ n : Nat) : Int) := by norm_cast
 rw [e, wrapU64 h2]
theorem m_orU {x y : Int} {m n : Nat} (hx : evL l a = some (.i .u64 x)) (hy : evL l b = some (.i .u64 y)) [hm : CastN x m] [hn : CastN y n] (h1 : m < 18446744073709551616) (h2 : n < 18446744073709551616) : MVO K hp0 l L (.binOp .or t a b t') (.i .u64 ((m ||| n : Nat) : Int)) := by
 obtain rfl := hm.h
 obtain rfl := hn.h
 refine Af hx hy ?_
 show some (V.i .u64 (IntKind.u64.wrap _)) = _
 have of : ∀ z : Nat, z < 18446744073709551616 → (BitVec.ofInt IntKind.u64.bits (z : Int)).toNat = z := fun z hz => by
  simp only [IntKind.bits, BitVec.toNat_ofInt]
  omega
 rw [BitVec.toNat_or, of m h1, of n h2, wrapU64 (Nat.or_lt_two_pow (n := 64) h1 h2)]
theorem or_shl {m c : Nat} (h : c < 256) : m * 2 ^ 8 ||| c = m * 256 + c := by
 have := Nat.two_pow_add_eq_or_of_lt (i := 8) h m
 rw [Nat.mul_comm m (2 ^ 8), ← this]
theorem m_convI {s : TypeId} {q : IntKind} {p : Int} {n : Nat} [hs : IntV K.C s q] [ht : IntV K.C t .i64] (hx : evL l a = some (.i q p)) [hn : CastN p n] (h : n < 9223372036854775808) : MVO K hp0 l L (.convert s t a) (.i .i64 (n : Int)) := by
 have := m_conv (K := K) (hp0 := hp0) (L := L) (s := s) (t := t) hx
 rw [hn.h, IntWalk.i64_in _ (by omega)] at this
 exact this
theorem m_slD {e : TypeId} {lo hi : Option Operand} {b o m c i j : Nat} {op : Bool} [hS : SliceV K.C t e] [hs : SizeV K.C e 1] (hx : evL l a = some (.sl (some (b, o)) m c op)) (hlo : Bt l lo 0 i) (hhi : Bt l hi m j) (h1 : i ≤ j) (h2 : j ≤ c) (h3 : i < c) : MV K hp0 l L (.slice t a lo hi none) [] (.sl (some (b, o + i)) (j - i) (c - i) op) := by
 have := m_slg (K := K) (hp0 := hp0) (L := L) (t := t) (e := e) hx hlo hhi h1 h2 (fun _ => h3) (fun _ => ⟨_, rfl⟩)
 rw [Option.map_some, offV_ne (by omega), Nat.mul_one] at this
 exact this
theorem ev_slE2 {t e : TypeId} {x : Operand} {lo hi : Option Operand} {b o m : Nat} {k : VR → HV → Prop} [hS : SliceV K.C t e] [hz : SizeV K.C e 1] (hx : evL l x = some (.sl (some (b, o)) m m true)) (hlo : Bt l lo 0 m) (hhi : Bt l hi m m) (h0 : 0 < m) (hk : ∀ b', k (.v (.sl (some (b', 0)) 0 0 true)) L) : EV K hp0 l L (.slice t x lo hi none) [] k := by
 obtain ⟨ti, h3, h4⟩ := hS.h
 obtain ⟨te, h5, h6⟩ := hz.h
 unfold EV
 intro fr hp hf hs
 refine ⟨.v (.sl (some (hp.nx, 0)) 0 0 true), ⟨hp.t, hp.nx + 2, hp.log⟩, L, ⟨0, fun N _ => ?_⟩, ⟨Nat.le_trans hs.nx (Nat.le_add_right _ _), hs.old, fun i b o hi => ?_, hs.one, fun x h1 h2 => hs.top x (Nat.le_trans (Nat.le_add_right _ _) h1) h2, H6 hs.even⟩, ⟨Nat.le_add_right _ _, [], rfl, fun x hx => by simp at hx, fun _ _ => rfl⟩, ⟨fun x h => by simp at h, fun _ h h' => absurd h h'⟩, hk hp.nx⟩
 ·show CG K.C fr hp t x lo hi none = _
  have e0 : Nat.beq m 0 = false := beq_f (by omega)
  have e1 : Nat.blt 0 m = true := by rw [Nat.blt_eq]; exact h0
  have e2 : (Nat.beq (Nat.mod hp.nx 2) 0 && Nat.ble gMax hp.nx) = true := hs.even
  simp only [Bool.and_eq_true] at e2
  simp only [CG, hf.ev hx, Ir, EQ, vslEnd, h3, hlo fr hf, h4, h5, hhi fr hf, GT (Nat.le_refl m), e0, e1, e2.1, e2.2, Nat.beq_refl, Bool.and_self, ret2]
 ·have := hs.has i b o hi
  exact ⟨this.1, this.2.1, Nat.lt_of_lt_of_le this.2.2 (Nat.le_add_right _ _)⟩
theorem e_slH {t e : TypeId} {x : Operand} {lo hi : Option Operand} {A : Option (Nat × Nat)} {cs : List V} {m c i j : Nat} {op : Bool} {k : VR → HV → Prop} [hS : SliceV K.C t e] [hs : SizeV K.C e 1] (hx : evL l x = some (.sl A m c op)) (hlo : Bt l lo 0 i) (hhi : Bt l hi m j) (h0 : 0 < i) (h1 : i ≤ j) (h2 : j ≤ m) (h3 : m ≤ c) (hA : RB hp0 A cs) (hl : cs.length = m) (hk : ∀ a' c', (RB hp0 (some a') ((cs.drop i).take (j - i)) ∨ j = i) → j - i ≤ c' → k (.v (.sl (some a') (j - i) c' op)) L) : EV K hp0 l L (.slice t x lo hi none) [] k := by
 have hsome : ∃ a, A = some a := by
  cases hq : cs with
  | nil => rw [hq] at hl; simp at hl; omega
  | cons v r =>
   obtain ⟨b, o, e⟩ := Cw (by rw [← hq]; exact hA.1.rv)
   exact ⟨_, e⟩
 obtain ⟨⟨b, o⟩, rfl⟩ := hsome
 by_cases g : op = true → i < c
 ·refine ev_mv (m_slg hx hlo hhi h1 (by omega) g (fun _ => ⟨_, rfl⟩)) (hk _ _ (.inl ?_) (by omega))
  exact RB.take (hA.off (by omega)) _
 ·have g1 : op = true := by
   cases op with
   | true => rfl
   | false => exact absurd (fun h => by simp at h) g
  subst g1
  have g2 : ¬ i < c := fun h => g fun _ => h
  obtain rfl : j = i := by omega
  obtain rfl : j = m := by omega
  obtain rfl : c = j := by omega
  refine ev_slE2 hx hlo hhi h0 fun b' => ?_
  have := hk (b', 0) 0 (.inr rfl) (by omega)
  rw [Nat.sub_self] at this
  exact this
end
/- Dr2: the reader's head. By this project. -/
abbrev flt (x : Flt) : V := .ifc 180 (.agg [.i .i64 (x.1 : Nat), .i .i64 (x.2 : Nat)])
abbrev rdO (br : Nat) (s : V) (p : Nat) : Option Nat × VO := (some br, Am [s, .i .i64 (p : Nat)] 212)
theorem EM {b : List UInt8} {p : Nat} (h : p < b.length) : (b.map byV)[p]? = some (.i .u8 (bAt b p : Nat)) := by
 rw [List.getElem?_map, Iq h, bAt_get h]
 rfl
theorem DT {B : Bs} {A : Option (Nat × Nat)} {b : List UInt8} (h : RB B A (b.map byV)) (hb : 0 < b.length) : ∃ a o, A = some (a, o) := by
 cases hq : b with
 | nil => rw [hq] at hb; simp at hb
 | cons v r =>
  rw [hq] at h
  exact Cw h.1.rv
theorem td_st {ti : TI} {fs : List (Nat × Nat)} (h : ti.d = .st fs) : ti.d ≠ .ifc := by
 rw [h]
 intro e
 cases e
set_option maxHeartbeats 16000000 in
theorem rlen_d {b : List UInt8} {A : Option (Nat × Nat)} {c : Nat} {o : Bool} {p e br : Nat} {hp : Hp} (h0 : SV ⟨hp, [br]⟩ hp [rdO br (.sl A b.length c o) p]) (hb : RB ⟨hp, [br]⟩ A (b.map byV)) (hc : b.length ≤ c) (hpe : p < e) (he : e ≤ b.length) (hl : b.length ≤ 1048576) :
  Fn kxD 154 [.p (some (br, 0)), .i .i64 (e : Nat)] hp [br] fun r N => match lenS b e p with
   | .error x => ∃ y, r = .pan y ∧ y = flt x
   | .ok (n, q) => ∃ u, r = .v u ∧ u = .i .i64 (n : Nat) ∧ N = [rdO br (.sl A b.length c o) q] := by
 obtain ⟨ba, oa, rfl⟩ := DT hb (by omega)
 have hx := EM (b := b) (p := p) (by omega)
 have hx4 := F3 b p
 unfold lenS
 refine Au h0 (fun _ => rfl) (fn := Tryz.f154) (by kernel_rfl) rfl rfl ?_
 refine wo ?_
 apply wn; iterate 5 exact rfl
 refine p_ia rfl rfl (by omega)
 apply wm; iterate 5 exact rfl
 refine BO (j := p) rfl hb.1 hb.2 rfl hx
 apply wm; iterate 5 exact rfl
 refine m_convI rfl (by omega)
 apply wm; iterate 5 exact rfl
 refine m_remN rfl rfl (by decide)
 refine wo ?_
 apply p_do; exact (Aa rfl); exact rfl; exact rfl
 refine e_st (C' := [.sl (some (ba, oa)) b.length c o, .i .i64 ((p + 1 : Nat) : Int)]) rfl rfl rfl (Io rfl) rfl ⟨_, rfl, ?_⟩
 refine wo ?_
 by_cases g : bAt b p % 64 < 56
 ·rw [if_pos g]
  apply wm; iterate 5 exact rfl
  refine Af (v := .b true) rfl rfl (AL (by omega))
  refine wo ?_
  exact Ay (Ag (AR (Ai rfl)) ⟨_, rfl, rfl, rfl⟩)
 rw [if_neg g]
 apply wm; iterate 5 exact rfl
 refine Af (v := .b false) rfl rfl (AF (by omega))
 refine wo ?_
 generalize hm : bAt b p % 64 = m at *
 have hm64 : m < 64 := by omega
 by_cases g1 : e < p + 1 + (m - 55)
 ·rw [if_pos g1]
  apply wm; iterate 5 exact rfl
  refine Af (v := .b true) rfl rfl (Cv (by omega))
  refine wo ?_
  apply wn; iterate 5 exact rfl
  refine Av (C := [.i .i64 (p : Nat), .i .i64 50]) (.cons rfl rfl rfl rfl (Io rfl) (.cons rfl rfl rfl rfl (Io rfl) .nil)) rfl
  apply wn; iterate 5 exact rfl
  refine EA (td_st rfl) rfl
  refine EE (Aa rfl) rfl ?_
  exact Ce ⟨_, rfl, rfl⟩
 rw [if_neg g1]
 apply wm; iterate 5 exact rfl
 refine Af (v := .b false) rfl rfl (Bm (by omega))
 refine wo ?_
 have hx1 := EM (b := b) (p := p + 1) (by omega)
 have hy4 := F3 b (p + 1)
 obtain ⟨k, hk⟩ : ∃ k, k = m - 56 + 1 := ⟨_, rfl⟩
 rw [show m - 55 = k by omega, ← hk]
 apply dn; iterate 5 exact rfl
 refine p_ia rfl rfl (by omega)
 apply dm; iterate 6 exact rfl
 refine BO (j := p + 1) rfl hb.1 hb.2 rfl hx1
 by_cases g2 : bAt b (p + 1) = 0
 ·rw [if_pos g2]
  apply dm; iterate 6 exact rfl
  refine Af (v := .b true) rfl rfl (Be (by omega))
  refine wo ?_
  apply wn; iterate 5 exact rfl
  refine Av (C := [.i .i64 (p : Nat), .i .i64 52]) (.cons rfl rfl rfl rfl (Io rfl) (.cons rfl rfl rfl rfl (Io rfl) .nil)) rfl
  apply wn; iterate 5 exact rfl
  refine EA (td_st rfl) rfl
  refine EE (Aa rfl) rfl ?_
  exact Ce ⟨_, rfl, rfl⟩
 rw [if_neg g2]
 apply dm; iterate 6 exact rfl
 refine Af (v := .b false) rfl rfl (BW (by omega))
 refine wo ?_
 iterate 4 ((try refine BM ?_); refine wo ?_)
 refine yX (m_slD (i := p + 1) (j := p + 1 + k) rfl (BR rfl) (BR rfl) (by omega) (by omega) (by omega)) ?_
 rw [show p + 1 + k - (p + 1) = k by omega]
 refine wo ?_
 iterate 4 ((try refine BM ?_); refine wo ?_)
 refine Bq (ι := Nat) (fun i => [(80, .i .i64 (i : Nat)), (79, .i .i64 (k : Nat)), (78, .sl (some (ba, oa + (p + 1))) k (c - (p + 1)) o), (8, .i .u64 (beN 0 ((b.drop (p + 1)).take i) : Nat)), (7, .i .i64 (k : Nat)), (5, .i .i64 (p : Nat)), (1, .i .i64 (e : Nat)), (0, .p (some (br, 0)))]) (fun i => [rdO br (.sl (some (ba, oa)) b.length c o) (p + 1)]) (fun i => i ≤ k) (fun i => k - i) 0 (Nat.zero_le _) ⟨rfl, rfl, rfl, rfl, rfl, rfl, rfl, rfl, trivial⟩ (fun hp h => h) ?_
 intro i hi
 try dsimp only at hi ⊢
 refine wo ?_
 by_cases g3 : i < k
 ·have hxi := EM (b := b) (p := p + 1 + i) (by omega)
  have hz4 := F3 b (p + 1 + i)
  have hbd : beN 0 ((b.drop (p + 1)).take i) < 72057594037927936 := by
   have h1 := beN_lt ((b.drop (p + 1)).take i) 0
   have h2 : ((b.drop (p + 1)).take i).length ≤ 7 := by rw [List.length_take]; omega
   have h3 : 256 ^ ((b.drop (p + 1)).take i).length ≤ 256 ^ 7 := Nat.pow_le_pow_right (by decide) h2
   have h4 : (256 : Nat) ^ 7 = 72057594037927936 := rfl
   omega
  have hnx : beN 0 ((b.drop (p + 1)).take (i + 1)) = beN 0 ((b.drop (p + 1)).take i) * 256 + bAt b (p + 1 + i) := by
   rw [List.take_succ_eq_append_getElem (by rw [List.length_drop]; omega), beN_app, beN, beN, List.getElem_drop, bAt_get]
  apply wm; iterate 5 exact rfl
  refine Af (v := .b true) rfl rfl (AL (by omega))
  refine wo ?_
  apply wn; iterate 5 exact rfl
  refine p_ia rfl rfl g3
  apply wm; iterate 5 exact rfl
  refine BO (j := p + 1 + i) rfl hb.1 hb.2 (by omega) hxi
  refine wo ?_
  apply wm; iterate 5 exact rfl
  refine m_shlU rfl rfl (by decide) (by omega)
  refine wo ?_
  apply wm; iterate 5 exact rfl
  refine m_convU rfl (by omega)
  apply wm; iterate 5 exact rfl
  refine m_orU rfl rfl (by omega) (by omega)
  rw [or_shl hz4, ← hnx]
  refine wo ?_
  exact ⟨rfl, i + 1, g3, by (try dsimp only); omega, ⟨rfl, rfl, rfl, rfl, rfl, rfl, rfl, rfl, trivial⟩, fun hp h => h⟩
 apply wm; iterate 5 exact rfl
 refine Af (v := .b false) rfl rfl (AF (by omega))
 refine wo ?_
 refine Bd ?_
 obtain rfl : i = k := by omega
 have hbd : beN 0 ((b.drop (p + 1)).take i) < 18446744073709551616 := by
  have h1 := beN_lt ((b.drop (p + 1)).take i) 0
  have h2 : ((b.drop (p + 1)).take i).length ≤ 8 := by rw [List.length_take]; omega
  have h3 : 256 ^ ((b.drop (p + 1)).take i).length ≤ 256 ^ 8 := Nat.pow_le_pow_right (by decide) h2
  have h4 : (256 : Nat) ^ 8 = 18446744073709551616 := rfl
  omega
 generalize beN 0 ((b.drop (p + 1)).take i) = n at *
 refine wo ?_
 apply p_do; exact (Aa rfl); exact rfl; exact rfl
 refine e_st (C' := [.sl (some (ba, oa)) b.length c o, .i .i64 ((p + 1 + i : Nat) : Int)]) rfl rfl rfl (Io rfl) rfl ⟨_, rfl, ?_⟩
 refine wo ?_
 by_cases g4 : 1048576 < n
 ·rw [if_pos g4]
  apply wm; iterate 5 exact rfl
  refine Af (v := .b true) rfl rfl (Cv (by omega))
  refine wo ?_
  apply wn; iterate 5 exact rfl
  refine Av (C := [.i .i64 (p : Nat), .i .i64 54]) (.cons rfl rfl rfl rfl (Io rfl) (.cons rfl rfl rfl rfl (Io rfl) .nil)) rfl
  apply wn; iterate 5 exact rfl
  refine EA (td_st rfl) rfl
  refine EE (Aa rfl) rfl ?_
  exact Ce ⟨_, rfl, rfl⟩
 rw [if_neg g4]
 apply wm; iterate 5 exact rfl
 refine Af (v := .b false) rfl rfl (Bm (by omega))
 refine wo ?_
 by_cases g5 : n < 56
 ·rw [if_pos g5]
  apply wm; iterate 5 exact rfl
  refine Af (v := .b true) rfl rfl (AL (by omega))
  refine wo ?_
  apply wn; iterate 5 exact rfl
  refine Av (C := [.i .i64 (p : Nat), .i .i64 52]) (.cons rfl rfl rfl rfl (Io rfl) (.cons rfl rfl rfl rfl (Io rfl) .nil)) rfl
  apply wn; iterate 5 exact rfl
  refine EA (td_st rfl) rfl
  refine EE (Aa rfl) rfl ?_
  exact Ce ⟨_, rfl, rfl⟩
 rw [if_neg g5]
 apply wm; iterate 5 exact rfl
 refine Af (v := .b false) rfl rfl (AF (by omega))
 refine wo ?_
 apply wm; iterate 5 exact rfl
 refine m_convI rfl (by omega)
 refine wo ?_
 exact Ay (Ag (AR (Ai rfl)) ⟨_, rfl, rfl, rfl⟩)
/- Js6: memory told in another order, by counting; the journal's may, text, number. By this project. -/
instance (priority := 49) {x : Option Nat × VO} {N L L' : HV} [k : SetV L 0 x L'] : SetV (N ++ L) N.length x (N ++ L') := ⟨by rw [List.set_append_right _ _ (Nat.le_refl _), Nat.sub_self, k.h]⟩
open Classical in
noncomputable def ind {α : Type} (a x : α) : Nat := if x = a then 1 else 0
noncomputable def cnt {α : Type} (a : α) : List α → Nat
 | [] => 0
 | x :: r => ind a x + cnt a r
theorem cnt_nil {α : Type} {a : α} : cnt a [] = 0 := rfl
theorem Dl {α : Type} {a x : α} {r : List α} : cnt a (x :: r) = ind a x + cnt a r := rfl
theorem cnt_app {α : Type} {a : α} : ∀ {l r : List α}, cnt a (l ++ r) = cnt a l + cnt a r
 | [], r => by rw [List.nil_append, cnt_nil, Nat.zero_add]
 | x :: l, r => by rw [List.cons_append, Dl, Dl, cnt_app, Nat.add_assoc]
theorem ind_self {α : Type} {a : α} : ind a a = 1 := if_pos rfl
theorem cnt_pos {α : Type} {a : α} : ∀ {l : List α}, 0 < cnt a l → a ∈ l
 | [], h => by rw [cnt_nil] at h; omega
 | x :: r, h => by
  rw [Dl] at h
  by_cases e : x = a
  ·subst e; simp
  ·have : ind a x = 0 := if_neg e
   exact List.mem_cons_of_mem _ (cnt_pos (by omega))
theorem mem_cnt {α : Type} {a : α} : ∀ {l : List α}, a ∈ l → 0 < cnt a l
 | x :: r, h => by
  rw [Dl]
  rcases List.mem_cons.1 h with rfl | h
  ·rw [ind_self]; omega
  ·have := mem_cnt h; omega
theorem cnt_two {α : Type} {a : α} : ∀ {l : List α} {i j : Nat}, i < j → l[i]? = some a → l[j]? = some a → 2 ≤ cnt a l
 | x :: r, 0, j + 1, _, h1, h2 => by
  simp only [List.getElem?_cons_zero, Im] at h1
  subst h1
  rw [Dl, ind_self]
  have := mem_cnt (List.mem_of_getElem? (show r[j]? = some x by simpa using h2))
  omega
 | x :: r, i + 1, j + 1, h, h1, h2 => by
  rw [Dl]
  have := cnt_two (l := r) (i := i) (j := j) (by omega) (by simpa using h1) (by simpa using h2)
  omega
 | [], _, _, _, h1, _ => by simp at h1
theorem two_cnt {α : Type} {a : α} : ∀ {l : List α}, 2 ≤ cnt a l → ∃ i j : Nat, i < j ∧ l[i]? = some a ∧ l[j]? = some a
 | [], h => by rw [cnt_nil] at h; omega
 | x :: r, h => by
  rw [Dl] at h
  by_cases e : x = a
  ·subst e
   rw [ind_self] at h
   obtain ⟨j, hj⟩ := List.getElem?_of_mem (cnt_pos (show 0 < cnt x r by omega))
   exact ⟨0, j + 1, by omega, rfl, by simpa using hj⟩
  ·have : ind a x = 0 := if_neg e
   obtain ⟨i, j, h1, h2, h3⟩ := two_cnt (show 2 ≤ cnt a r by omega)
   exact ⟨i + 1, j + 1, by omega, by simpa using h2, by simpa using h3⟩
theorem SV.le {B : Bs} {hp : Hp} {L L' : HV} (h : SV B hp L) (hc : ∀ a, cnt a L' ≤ cnt a L := by intro a; (try simp only [cnt_app, Dl, cnt_nil, Am, rowO]); omega) : SV B hp L' := by
 have hm : ∀ a ∈ L', a ∈ L := fun a ha => cnt_pos (Nat.lt_of_lt_of_le (mem_cnt ha) (hc a))
 have key : ∀ (i j b : Nat) (o o' : VO), i < j → L'[i]? = some (some b, o) → L'[j]? = some (some b, o') → False := fun i j b o o' hij hi hj => by
  obtain ⟨p, hp1⟩ := List.getElem?_of_mem (hm _ (List.mem_of_getElem? hi))
  obtain ⟨q, hq1⟩ := List.getElem?_of_mem (hm _ (List.mem_of_getElem? hj))
  have e := h.one _ _ _ _ _ hp1 hq1
  subst e
  rw [hp1] at hq1
  simp only [Im, Is, true_and] at hq1
  subst hq1
  have h2 := cnt_two hij hi hj
  obtain ⟨i', j', h3, h4, h5⟩ := two_cnt (Nat.le_trans h2 (hc _))
  have := h.one _ _ _ _ _ h4 h5
  omega
 refine ⟨h.nx, h.old, fun i b o hi => ?_, fun i j b o o' hi hj => ?_, h.top, h.even⟩
 ·obtain ⟨j, hj⟩ := List.getElem?_of_mem (hm _ (List.mem_of_getElem? hi))
  exact h.has j b o hj
 ·rcases Nat.lt_trichotomy i j with g | g | g
  ·exact (key i j b o o' g hi hj).elim
  ·exact g
  ·exact (key j i b o' o g hj hi).elim
theorem Fn.dropC {K : Kx} {f : Nat} {args : List V} {hp : Hp} {T : List Nat} {R : VR → HV → Prop} (h : Fn K f args hp T fun r N => ∃ N', (∀ a, cnt a N' ≤ cnt a N) ∧ R r N') : Fn K f args hp T R := by
 unfold Fn at *
 obtain ⟨r, hp', h1, N, h2, h3, N', hc, h4⟩ := h
 exact ⟨r, hp', h1, N', h2.le hc, h3, h4⟩
theorem cle {L' L : HV} (hc : ∀ a, cnt a L' ≤ cnt a L := by intro a; (try simp only [cnt_app, Dl, cnt_nil, Am, rowO]); omega) : ∀ a, cnt a L' ≤ cnt a L := hc
theorem mayR_kind {r : Rec} (h : mayR r) : 0 ≤ r.kind ∧ r.kind ≤ 2 := by have := h.1; omega
set_option maxHeartbeats 16000000 in
theorem jmay_d {r : Rec} {v : List V} {hp : Hp} (ho : OkH hp) (hk : KTab ⟨hp, []⟩) (hr : RecR ⟨hp, []⟩ r v) :
  Fn kxD 41 [.agg v] hp [] fun r' _ => r' = .v (.b (decide (mayR r))) := by
 obtain ⟨hok, A, c, o, vs, rfl, hA, hvs⟩ := hr
 have hC : (recC r (.sl A r.ch.length c o)).length = 68 := Dg hok
 have hrl := hok.len
 have hch : (recC r (.sl A r.ch.length c o))[0 + 67]? = some (.sl A r.ch.length c o) := by rw [Nat.zero_add]; exact F7 hok
 refine Au (T := []) ho.sv (fun _ => rfl) (fn := Tryz.f41) (by kernel_rfl) rfl rfl ?_
 refine wo ?_
 apply p_op; exact (Aa rfl); iterate 4 exact rfl
 refine Br rfl rfl fun bx => ⟨_, rfl, ?_⟩
 refine wo ?_
 refine AY (Aa rfl) rfl rfl rfl rfl (fun hp hs => kindof_d hs.ok (hk.give0 hs)) ?_
 refine wo ?_
 have hkl : (kindC r.kind).length = 4 := by unfold kindC; split <;> (try split) <;> rfl
 have hkne : kindC r.kind ≠ [] := fun e => by rw [e] at hkl; simp at hkl
 apply p_op; exact (Aa rfl); iterate 4 exact rfl
 refine As rfl fun bk => ⟨_, rfl, ?_⟩
 apply p_do; exact (Aa rfl); exact rfl; exact rfl
 refine AG (C' := kindC r.kind) rfl rfl hkne hkl (by simp) (AC (by rw [hkl]; rfl)) ⟨_, rfl, ?_⟩
 refine wo ?_
 refine BM ?_
 refine wo ?_
 refine zX (Bi rfl hch) ?_
 refine wo ?_
 refine Bq (ι := Nat) (fun i => [(16, .i .i64 (i : Nat)), (15, .i .i64 (r.ch.length : Nat)), (14, .sl A r.ch.length c o), (4, .b (decide (r.kind = 1 ∨ r.kind = 2))), (3, .p (some (bk, 0))), (1, .p (some (bx, 0)))]) (fun i => [(some bk, Am (kindC r.kind) 132), (some bx, Am (recC r (.sl A r.ch.length c o)) 26)]) (fun i => i ≤ r.ch.length ∧ ∀ c ∈ r.ch.take i, mayC c) (fun i => r.ch.length - i) 0 ⟨Nat.zero_le _, by simp⟩ ⟨rfl, rfl, rfl, rfl, rfl, rfl, trivial⟩ (fun hp h => h) ?_
 intro i ⟨hi, hall⟩
 refine wo ?_
 by_cases g : i < r.ch.length
 ·obtain ⟨b, oa, vi, rfl, hvi, hti, h3, hne⟩ := ch_at hA hvs g
  apply wm; iterate 5 exact rfl
  refine Af (v := .b true) rfl rfl (AL (by omega))
  refine wo ?_
  apply wn; iterate 5 exact rfl
  refine CO rfl rfl g
  apply wm; iterate 5 exact rfl
  refine BT (j := i * 3) (s := 2) rfl hA.1 hA.2 rfl hvi h3
  apply p_op; exact (Aa rfl); iterate 4 exact rfl
  refine As rfl fun bi => ⟨_, rfl, ?_⟩
  apply p_do; exact (Aa rfl); exact rfl; exact rfl
  refine AG (C' := vi) rfl rfl hne h3 (by simp) (AC (by rw [h3]; rfl)) ⟨_, rfl, ?_⟩
  refine wo ?_
  refine zX (AO (s := 2) (cs := vi) rfl (by rw [List.drop_zero]; exact Ip (by omega)) h3) ?_
  refine AY (Aa rfl) rfl rfl rfl rfl (fun hp hs => maychange_d hs.ok (hti.mono fun h => h.give0 hs)) ?_
  refine wo ?_
  by_cases gm : mayC r.ch[i]
  ·rw [decide_eq_true gm]
   refine wo ?_
   exact ⟨rfl, i + 1, ⟨g, fun c hc => by
    rw [List.take_succ_eq_append_getElem g] at hc
    rcases List.mem_append.1 hc with h | h
    ·exact hall c h
    ·rw [List.mem_singleton.1 h]; exact gm⟩, by omega, ⟨rfl, rfl, rfl, rfl, rfl, rfl, trivial⟩, fun hp h => h.pick [1, 2] _ rfl (by decide)⟩
  ·rw [decide_eq_false gm]
   refine wo ?_
   exact Ay (Ag (AR (Ai rfl)) (by rw [decide_eq_false (fun h : mayR r => gm (h.2.2.2.2.2.2 _ (List.getElem_mem g)))]))
 apply wm; iterate 5 exact rfl
 refine Af (v := .b false) rfl rfl (AF (by omega))
 refine wo ?_
 refine Bd ?_
 obtain rfl : i = r.ch.length := by omega
 rw [List.take_length] at hall
 refine wo ?_
 by_cases g0 : r.kind = 1 ∨ r.kind = 2
 rotate_left
 ·rw [decide_eq_false g0]
  refine wo ?_
  exact Ay (Ag (AR (Ai rfl)) (by rw [decide_eq_false (fun h : mayR r => g0 h.1)]))
 rw [decide_eq_true g0]
 refine wo ?_
 by_cases g1 : 1 ≤ r.count
 rotate_left
 ·apply wmg; iterate 7 exact rfl
  refine Af (v := .b false) rfl rfl (Eo (by omega))
  refine wo ?_
  exact Ay (Ag (AR (Ai rfl)) (by rw [decide_eq_false (fun h : mayR r => g1 h.2.1.1)]))
 apply wmg; iterate 7 exact rfl
 refine Af (v := .b true) rfl rfl (En (by omega))
 refine wo ?_
 by_cases g2 : r.count ≤ 1099511627776
 rotate_left
 ·apply wmg; iterate 7 exact rfl
  refine Af (v := .b false) rfl rfl (Hh (by omega))
  refine wo ?_
  exact Ay (Ag (AR (Ai rfl)) (by rw [decide_eq_false (fun h : mayR r => g2 h.2.1.2)]))
 apply wmg; iterate 7 exact rfl
 refine Af (v := .b true) rfl rfl (Hg (by omega))
 refine wo ?_
 by_cases g3 : 0 ≤ r.seq
 rotate_left
 ·apply wmg; iterate 7 exact rfl
  refine Af (v := .b false) rfl rfl (Eo (by omega))
  refine wo ?_
  exact Ay (Ag (AR (Ai rfl)) (by rw [decide_eq_false (fun h : mayR r => g3 h.2.2.1.1)]))
 apply wmg; iterate 7 exact rfl
 refine Af (v := .b true) rfl rfl (En (by omega))
 refine wo ?_
 refine wo ?_
 by_cases g4 : r.seq ≤ r.count
 rotate_left
 ·apply wmg; iterate 7 exact rfl
  refine Af (v := .b false) rfl rfl (Hh (by omega))
  refine wo ?_
  exact Ay (Ag (AR (Ai rfl)) (by rw [decide_eq_false (fun h : mayR r => g4 h.2.2.1.2)]))
 apply wmg; iterate 7 exact rfl
 refine Af (v := .b true) rfl rfl (Hg (by omega))
 refine wo ?_
 refine wo ?_
 have hl1 : (kindC r.kind)[0 + 1]? = some (.i .i64 (if r.kind = 2 then 1 else 0)) := by
  unfold kindC
  rcases g0 with h | h <;> rw [h] <;> rfl
 have hl2 : (kindC r.kind)[0 + 2]? = some (.i .i64 (if r.kind = 2 then 32 else 0)) := by
  unfold kindC
  rcases g0 with h | h <;> rw [h] <;> rfl
 refine zX (Bi rfl hl1) ?_
 by_cases g5 : r.kind = 2 → 1 ≤ r.seq
 rotate_left
 ·have g6 : ¬ (if r.kind = 2 then (1 : Int) else 0) ≤ r.seq := by split <;> omega
  apply wmg; iterate 7 exact rfl
  refine Af (v := .b false) rfl rfl (Eo (g6))
  refine wo ?_
  exact Ay (Ag (AR (Ai rfl)) (by rw [decide_eq_false (fun h : mayR r => g5 h.2.2.2.1)]))
 have g6 : (if r.kind = 2 then (1 : Int) else 0) ≤ r.seq := by split <;> omega
 apply wmg; iterate 7 exact rfl
 refine Af (v := .b true) rfl rfl (En (g6))
 refine wo ?_
 refine zX (Bi rfl hch) ?_
 refine wo ?_
 refine zX (Bi rfl hl2) ?_
 by_cases g7 : (r.kind = 1 → r.ch.length = 0) ∧ r.ch.length ≤ 32
 ·have g8 : ((r.ch.length : Nat) : Int) ≤ (if r.kind = 2 then (32 : Int) else 0) := by split <;> omega
  apply wmg; iterate 7 exact rfl
  refine Af (v := .b true) rfl rfl (Hg (g8))
  refine wo ?_
  exact Ay (Ag (AR (Ai rfl)) (by rw [decide_eq_true (show mayR r from ⟨g0, ⟨g1, g2⟩, ⟨g3, g4⟩, g5, g7.1, g7.2, hall⟩)]))
 ·have g8 : ¬ ((r.ch.length : Nat) : Int) ≤ (if r.kind = 2 then (32 : Int) else 0) := by split <;> omega
  apply wmg; iterate 7 exact rfl
  refine Af (v := .b false) rfl rfl (Hh (g8))
  refine wo ?_
  exact Ay (Ag (AR (Ai rfl)) (by rw [decide_eq_false (fun h : mayR r => g7 ⟨h.2.2.2.2.1, h.2.2.2.2.2.1⟩)]))
theorem jtext_d {A : Option (Nat × Nat)} {n c : Nat} {o : Bool} {hp : Hp} (ho : OkH hp) :
  Fn kxD 42 [.sl A n c o] hp [] fun r _ => r = .v (.agg [.b false, .sl A n c o, .sl none 0 0 false]) := by
 refine Au (T := []) ho.sv (fun _ => rfl) (fn := Tryz.f42) (by kernel_rfl) rfl rfl ?_
 refine wo ?_
 apply p_op; exact (Aa rfl); iterate 4 exact rfl
 refine As rfl fun bo => ⟨_, rfl, ?_⟩
 refine wo ?_
 apply wn; iterate 5 exact rfl
 refine Av (C := [.b false, .sl A n c o, .sl none 0 0 false]) (.cons rfl rfl rfl rfl (Io rfl) .nil) rfl
 apply p_do; exact (Aa rfl); exact rfl; exact rfl
 refine AG (C' := [.b false, .sl A n c o, .sl none 0 0 false]) rfl rfl (by simp) rfl (Io rfl) rfl ⟨_, rfl, ?_⟩
 refine wo ?_
 exact Ay (Ag (AR (AB rfl rfl)) rfl)
theorem rnumber_d {n : Nat} {hp : Hp} (ho : OkH hp) (hn : n < 9223372036854775808) :
  Fn kxD 68 [.i .i64 (n : Int)] hp [] fun r N => ∃ u, r = .v u ∧ ∃ w, u = .tup [.agg [.b false, w, .sl none 0 0 false], .i .i64 0] ∧ RowK (Ax n) w N := by
 refine Fn.dropC ?_
 refine Au (T := []) ho.sv (fun _ => rfl) (fn := Tryz.f68) (by kernel_rfl) rfl rfl ?_
 refine wo ?_
 apply p_op; exact (Aa rfl); iterate 4 exact rfl
 refine As rfl fun bo => ⟨_, rfl, ?_⟩
 refine wo ?_
 apply wm; iterate 5 exact rfl
 refine Af (v := .b false) rfl rfl (AF (by omega))
 refine wo ?_
 apply wm; iterate 5 exact rfl
 refine m_convU rfl (by omega)
 apply AU []; exact (Aa rfl); iterate 4 exact rfl
 case hC => exact (fun hp hs ht => shortest_d hs.ok (by omega))
 rintro u N hu
 obtain ⟨A, op, rfl⟩ := hu.sl
 apply wn; iterate 5 exact rfl
 refine Av (C := [.b false, .sl A (Ax n).length (Ax n).length op, .sl none 0 0 false]) (.cons rfl rfl rfl rfl (Io rfl) .nil) rfl
 apply p_do; exact (Aa rfl); exact rfl; exact rfl
 refine AG (C' := [.b false, .sl A (Ax n).length (Ax n).length op, .sl none 0 0 false]) rfl rfl (by simp) rfl (Io rfl) rfl ⟨_, rfl, ?_⟩
 refine wo ?_
 exact Ay (Ag (B8 (AB rfl rfl) (Ai rfl)) ⟨N, cle, _, rfl, _, rfl, hu⟩)
theorem jnumber_d {n : Nat} {hp : Hp} (ho : OkH hp) (hn : n < 9223372036854775808) :
  Fn kxD 43 [.i .i64 (n : Int)] hp [] fun r N => ∃ u, r = .v u ∧ ∃ w, u = .agg [.b false, w, .sl none 0 0 false] ∧ RowK (Ax n) w N := by
 refine Fn.dropC ?_
 refine Au (T := []) ho.sv (fun _ => rfl) (fn := Tryz.f43) (by kernel_rfl) rfl rfl ?_
 refine wo ?_
 apply p_op; exact (Aa rfl); iterate 4 exact rfl
 refine As rfl fun bo => ⟨_, rfl, ?_⟩
 refine wo ?_
 apply AU []; exact (Aa rfl); iterate 4 exact rfl
 case hC => exact (fun hp hs ht => rnumber_d hs.ok hn)
 rintro u N ⟨w, rfl, hu⟩
 obtain ⟨A, op, rfl⟩ := hu.sl
 refine wo ?_
 apply p_op; exact (Aa rfl); iterate 4 exact rfl
 refine As rfl fun bn => ⟨_, rfl, ?_⟩
 apply p_do; exact (Aa rfl); exact rfl; exact rfl
 refine AG (C' := [.b false, .sl A (Ax n).length (Ax n).length op, .sl none 0 0 false]) rfl rfl (by simp) rfl (Io rfl) rfl ⟨_, rfl, ?_⟩
 refine wo ?_
 refine zX (AO (s := 2) (cs := [.b false, .sl A (Ax n).length (Ax n).length op, .sl none 0 0 false]) rfl rfl rfl) ?_
 apply p_do; exact (Aa rfl); exact rfl; exact rfl
 refine AG (C' := [.b false, .sl A (Ax n).length (Ax n).length op, .sl none 0 0 false]) rfl rfl (by simp) rfl (Io rfl) rfl ⟨_, rfl, ?_⟩
 refine wo ?_
 exact Ay (Ag (AR (AB rfl rfl)) ⟨N, cle, _, rfl, _, rfl, hu⟩)
/- Js7: a record's body: what it is; the journal's. By this project. -/
def numI (n : Int) : It := .str (Ax n.toNat)
def chgK (c : Chg) : List It := .str c.key :: (if c.gone = true then [] else [.str c.val])
def chgT (c : Chg) : It := .list (chgK c)
def recK (r : Rec) : List It := [numI r.kind, numI r.count, numI r.seq, .str r.prev, .str r.root, .list (r.ch.map chgT)]
def recT (r : Rec) : It := .list (recK r)
def Bo (r : Rec) : List UInt8 := enc (recT r)
theorem Gu {bs : List UInt8} (h : bs.length < 18446744073709551616) : (strB bs).length ≤ bs.length + 9 := by
 have h9 := C7 128 h
 by_cases g : ∃ b, bs = [b] ∧ b.toNat < 128
 ·obtain ⟨b, rfl, g2⟩ := g
  rw [DN g2]; simp
 ·rw [strB_many fun b e h => g ⟨b, e, h⟩, List.length_append]
  omega
theorem EK (bs : List UInt8) : enc (.str bs) = strB bs := by rw [enc]
theorem Dj (l : List It) : enc (.list l) = BA 192 (encs l).length ++ encs l := by rw [enc]
theorem chg_len {c : Chg} (h : mayC c) : (enc (chgT c)).length ≤ 320 := by
 unfold mayC at h
 have h1 := Gu (bs := c.key) (by omega)
 unfold chgT chgK
 by_cases g : c.gone = true
 ·rw [if_pos g] at h
  rw [if_pos g, Dj, encs, encs, EK, List.append_nil, List.length_append]
  have := C7 192 (n := (strB c.key).length) (by omega)
  omega
 ·rw [if_neg g] at h
  have h2 := Gu (bs := c.val) (by omega)
  rw [if_neg g, Dj, encs, encs, encs, EK, EK, List.append_nil, List.length_append, List.length_append]
  have := C7 192 (n := (strB c.key).length + (strB c.val).length) (by omega)
  omega
theorem chgs_len : ∀ (l : List Chg), (∀ c ∈ l, mayC c) → (encs (l.map chgT)).length ≤ l.length * 320
 | [], _ => by simp [encs]
 | c :: r, h => by
  rw [List.map_cons, encs, List.length_append, List.length_cons, Nat.succ_mul]
  have := chgs_len r fun c hc => h c (List.mem_cons_of_mem _ hc)
  have := chg_len (h c (by simp))
  omega
theorem num_len {n : Int} (h : n ≤ 1099511627776) : (enc (numI n)).length ≤ 20 := by
 have h1 := H1 (n := n.toNat) (by omega)
 have := Gu (bs := Ax n.toNat) (by omega)
 unfold numI
 rw [EK]
 omega
theorem recK_len {r : Rec} (ho : RecOk r) (h : mayR r) : (encs (recK r)).length ≤ 12000 := by
 have h1 := num_len (n := r.kind) (by have := h.1; omega)
 have h2 := num_len h.2.1.2
 have h3 := num_len (n := r.seq) (by have := h.2.2.1.2; have := h.2.1.2; omega)
 have h4 := Gu (bs := r.prev) (by have := ho.prev; omega)
 have h5 := Gu (bs := r.root) (by have := ho.root; omega)
 have h6 := chgs_len r.ch h.2.2.2.2.2.2
 have h7 := h.2.2.2.2.2.1
 have h8 := C7 192 (n := (encs (r.ch.map chgT)).length) (by omega)
 have := ho.prev
 have := ho.root
 unfold recK
 simp only [encs, Dj, EK, List.length_append, List.length_nil]
 omega
theorem FK {r : Rec} (ho : RecOk r) (h : mayR r) : (Bo r).length ≤ 12100 := by
 have h1 := recK_len ho h
 have h2 := C7 192 (n := (encs (recK r)).length) (by omega)
 unfold Bo recT
 rw [Dj, List.length_append]
 omega
theorem depth_str (bs : List UInt8) : depth (.str bs) = 0 := by rw [depth]
theorem depths_le : ∀ {l : List It} {k : Nat}, (∀ t ∈ l, depth t ≤ k) → C9 l ≤ k
 | [], k, _ => by rw [C9]; exact Nat.zero_le _
 | t :: r, k, h => by
  rw [C9]
  exact Nat.max_le.2 ⟨h t (by simp), depths_le fun t ht => h t (List.mem_cons_of_mem _ ht)⟩
theorem chg_depth (c : Chg) : depth (chgT c) ≤ 1 := by
 unfold chgT
 rw [depth]
 have : C9 (chgK c) ≤ 0 := depths_le fun t ht => by
  unfold chgK at ht
  rcases List.mem_cons.1 ht with rfl | ht
  ·rw [depth_str]; exact Nat.le_refl _
  ·split at ht
   ·simp at ht
   ·rw [List.mem_singleton.1 ht, depth_str]; exact Nat.le_refl _
 omega
theorem rec_depth (r : Rec) : depth (recT r) ≤ 80 := by
 unfold recT
 rw [depth]
 have h1 : C9 (r.ch.map chgT) ≤ 1 := depths_le fun t ht => by
  obtain ⟨c, _, rfl⟩ := List.mem_map.1 ht
  exact chg_depth c
 have : C9 (recK r) ≤ 2 := by
  unfold recK numI
  simp only [C9, depth]
  omega
 omega
def SeenI (B : Bs) (X : HV) (l : List It) (vs : List (List V)) : Prop := ∀ hp L, SV B hp L → (∀ p ∈ X, p ∈ L) → ItRs ⟨hp, []⟩ l vs
theorem SeenI.nil {B : Bs} : SeenI B [] [] [] := fun _ _ _ _ => rfl
theorem itRs_app {B : Bs} : ∀ {l r : List It} {vs ws : List (List V)}, ItRs B l vs → ItRs B r ws → ItRs B (l ++ r) (vs ++ ws)
 | [], r, vs, ws, h, k => by rw [ItRs] at h; subst h; exact k
 | t :: l, r, vs, ws, h, k => by
  rw [ItRs] at h
  obtain ⟨v, us, rfl, h1, h2⟩ := h
  rw [List.cons_append, List.cons_append, ItRs]
  exact ⟨v, us ++ ws, rfl, h1, itRs_app h2 k⟩
theorem GW {B : Bs} {t : It} {v : List V} (h : ItR B t v) : ItRs B [t] [v] := by
 rw [ItRs]
 exact ⟨v, [], rfl, h, rfl⟩
theorem itRs_two {B : Bs} {t t' : It} {v v' : List V} (h : ItR B t v) (h' : ItR B t' v') : ItRs B [t, t'] [v, v'] := by
 rw [ItRs]
 exact ⟨v, [v'], rfl, h, GW h'⟩
theorem Fg {B : Bs} {t : It} {v : List V} {r : List It} {ws : List (List V)} (h : ItR B t v) (k : ItRs B r ws) : ItRs B (t :: r) (v :: ws) := by
 rw [ItRs]
 exact ⟨v, ws, rfl, h, k⟩
theorem itR_str {B : Bs} {bs : List UInt8} {A : Option (Nat × Nat)} {n c : Nat} {o : Bool} (h : RB B A (bs.map byV)) (hn : bs.length = n) : ItR B (.str bs) [.b false, .sl A n c o, .sl none 0 0 false] := by
 subst hn
 rw [ItR]
 exact ⟨A, c, o, rfl, h⟩
theorem itR_list {B : Bs} {l : List It} {A : Option (Nat × Nat)} {n c : Nat} {o : Bool} {vs : List (List V)} (h : RB B A vs.flatten) (k : ItRs B l vs) (hn : l.length = n) : ItR B (.list l) [.b true, .sl none 0 0 false, .sl A n c o] := by
 subst hn
 rw [ItR]
 exact ⟨A, c, o, vs, rfl, h, k⟩
theorem B5 {α : Type} {vs : List (List α)} {v : List α} : (vs ++ [v]).flatten = vs.flatten ++ v := by simp
set_option maxHeartbeats 32000000 in
theorem jbody_d {r : Rec} {v : List V} {hp : Hp} (ho : OkH hp) (hk : KTab ⟨hp, []⟩) (hr : RecR ⟨hp, []⟩ r v) :
  Fn kxD 12 [.agg v] hp [] fun r' N => ∃ u, r' = .v u ∧ ((mayR r → ∃ w, u = .tup [w, .i .i64 0] ∧ RowK (Bo r) w N) ∧ (¬ mayR r → u = .tup [.sl none 0 0 false, .i .i64 2] ∧ N = [])) := by
 have hr0 := hr
 obtain ⟨hok, A, c, o, vs, rfl, hA, hvs⟩ := hr
 have hC : (recC r (.sl A r.ch.length c o)).length = 68 := Dg hok
 have hrl := hok.len
 have hch : (recC r (.sl A r.ch.length c o))[0 + 67]? = some (.sl A r.ch.length c o) := by rw [Nat.zero_add]; exact F7 hok
 refine Fn.dropC ?_
 refine Au (T := []) ho.sv (fun _ => rfl) (fn := Tryz.f12) (by kernel_rfl) rfl rfl ?_
 refine wo ?_
 apply p_op; exact (Aa rfl); iterate 4 exact rfl
 refine Br rfl rfl fun bx => ⟨_, rfl, ?_⟩
 refine wo ?_
 refine zX (AO (s := 67) (cs := recC r (.sl A r.ch.length c o)) rfl (by rw [List.drop_zero]; exact Ip (by omega)) hC) ?_
 refine AY (Aa rfl) rfl rfl rfl rfl (fun hp hs => jmay_d hs.ok (hk.give0 hs) (hr0.give0 hs)) ?_
 by_cases hm : mayR r
 rotate_left
 ·rw [decide_eq_false hm]
  refine wo ?_
  exact Ay (Ag (B8 (Ai rfl) (Ai rfl)) ⟨[], cle, _, rfl, fun h => absurd h hm, fun _ => ⟨rfl, rfl⟩⟩)
 rw [decide_eq_true hm]
 have h32 := hm.2.2.2.2.2.1
 refine wo ?_
 apply wn; iterate 5 exact rfl
 refine Av (C := [.b true, .sl none 0 0 false, .sl none 0 0 false]) (.cons rfl rfl rfl rfl (Io rfl) .nil) rfl
 apply p_op; exact (Aa rfl); iterate 4 exact rfl
 refine As rfl fun bc => ⟨_, rfl, ?_⟩
 apply p_do; exact (Aa rfl); exact rfl; exact rfl
 refine AG (C' := [.b true, .sl none 0 0 false, .sl none 0 0 false]) rfl rfl (by simp) rfl (Io rfl) rfl ⟨_, rfl, ?_⟩
 refine wo ?_
 refine BM ?_
 refine wo ?_
 refine zX (Bi rfl hch) ?_
 refine wo ?_
 refine Bq (ι := Nat × V × HV × HV × List (List V)) (fun s => [(18, .i .i64 (s.1 : Nat)), (17, .i .i64 (r.ch.length : Nat)), (16, .sl A r.ch.length c o), (4, .p (some (bc, 0))), (1, .p (some (bx, 0)))]) (fun s => (some bc, Am [.b true, .sl none 0 0 false, s.2.1] 95) :: (some bx, Am (recC r (.sl A r.ch.length c o)) 26) :: (s.2.2.1 ++ s.2.2.2.1)) (fun s => s.1 ≤ r.ch.length ∧ RowG 95 3 s.1 s.2.2.2.2.flatten s.2.1 s.2.2.1 ∧ SeenI ⟨hp, []⟩ s.2.2.2.1 ((r.ch.take s.1).map chgT) s.2.2.2.2) (fun s => r.ch.length - s.1) (0, .sl none 0 0 false, [], [], []) ⟨Nat.zero_le _, .nil, SeenI.nil⟩ ⟨rfl, rfl, rfl, rfl, rfl, trivial⟩ (fun hp h => h) ?_
 intro ⟨i, w, N, X, us⟩ ⟨hi, hw, hX⟩
 dsimp only at hi hw hX ⊢
 obtain ⟨Aw, ow, rfl⟩ := hw.sl
 refine wo ?_
 by_cases g : i < r.ch.length
 ·obtain ⟨b, oa, vi, rfl, hvi, hti, h3, hne⟩ := ch_at hA hvs g
  obtain ⟨A1, kc, ko, A2, vc, vo, rfl, hk1, hk2⟩ := hti
  apply wm; iterate 5 exact rfl
  refine Af (v := .b true) rfl rfl (AL (by omega))
  refine wo ?_
  apply wn; iterate 5 exact rfl
  refine CO rfl rfl g
  apply wm; iterate 5 exact rfl
  refine BT (j := i * 3) (s := 2) rfl hA.1 hA.2 rfl hvi h3
  apply p_op; exact (Aa rfl); iterate 4 exact rfl
  refine As rfl fun bi => ⟨_, rfl, ?_⟩
  apply p_do; exact (Aa rfl); exact rfl; exact rfl
  refine AG (C' := [.sl A1 r.ch[i].key.length kc ko, .sl A2 r.ch[i].val.length vc vo, .b r.ch[i].gone]) rfl rfl hne h3 (Io rfl) rfl ⟨_, rfl, ?_⟩
  refine wo ?_
  refine AY (Aa rfl) rfl rfl rfl rfl (fun hp hs => jtext_d hs.ok) ?_
  apply p_op; exact (Aa rfl); iterate 4 exact rfl
  refine Fl (C := [.b false, .sl A1 r.ch[i].key.length kc ko, .sl none 0 0 false]) (n := 1) (sz := 3) rfl rfl (by decide) (.cons rfl rfl rfl .nil) rfl rfl fun b1 => ⟨_, rfl, ?_⟩
  apply wn; iterate 5 exact rfl
  refine Av (C := [.b true, .sl none 0 0 false, .sl (some (b1, 0)) 1 1 false]) (.cons rfl rfl rfl rfl (Io rfl) (.cons rfl rfl rfl rfl (Io rfl) .nil)) rfl
  apply p_op; exact (Aa rfl); iterate 4 exact rfl
  refine As rfl fun b2 => ⟨_, rfl, ?_⟩
  apply p_do; exact (Aa rfl); exact rfl; exact rfl
  refine AG (C' := [.b true, .sl none 0 0 false, .sl (some (b1, 0)) 1 1 false]) rfl rfl (by simp) rfl (Io rfl) rfl ⟨_, rfl, ?_⟩
  refine wo ?_
  by_cases gg : r.ch[i].gone = true
  ·rw [gg]
   refine wo ?_
   refine zX (AO (s := 2) (cs := [.b true, .sl none 0 0 false, .sl (some (b1, 0)) 1 1 false]) rfl rfl rfl) ?_
   apply p_op; exact (Aa rfl); iterate 4 exact rfl
   refine Fl (C := [.b true, .sl none 0 0 false, .sl (some (b1, 0)) 1 1 false]) (n := 1) (sz := 3) rfl rfl (by decide) (.cons rfl rfl rfl .nil) rfl rfl fun b3 => ⟨_, rfl, ?_⟩
   apply p_op; exact (Aa rfl); iterate 4 exact rfl
   refine EU (n := 1) hw rfl rfl (Bw (k := 3) rfl) rfl (by decide) (by omega) fun A3 o3 N3 hw3 => ⟨_, rfl, ?_⟩
   refine wo ?_
   apply p_do; exact (Aa rfl); exact rfl; exact rfl
   refine e_st (C' := [.b true, .sl none 0 0 false, .sl A3 (i + 1) (i + 1) o3]) rfl rfl rfl (Io rfl) rfl ⟨_, rfl, ?_⟩
   refine wo ?_
   refine ⟨rfl, (i + 1, .sl A3 (i + 1) (i + 1) o3, N3, (some b1, Am [.b false, .sl A1 r.ch[i].key.length kc ko, .sl none 0 0 false] 95) :: X, us ++ [[.b true, .sl none 0 0 false, .sl (some (b1, 0)) 1 1 false]]), ⟨g, by rw [B5]; exact hw3, fun hp L hs hm => ?_⟩, by dsimp only; omega, ⟨rfl, rfl, rfl, rfl, rfl, trivial⟩, fun hp h => h.le⟩
   rw [List.take_succ_eq_append_getElem g, List.map_append]
   refine itRs_app (hX hp L hs fun p hp => hm p (List.mem_cons_of_mem _ hp)) (GW ?_)
   obtain ⟨j, hj⟩ := List.getElem?_of_mem (hm _ List.mem_cons_self)
   unfold chgT chgK
   rw [if_pos gg, ItR]
   refine ⟨_, _, _, [[.b false, .sl A1 r.ch[i].key.length kc ko, .sl none 0 0 false]], rfl, Cc hs hj rfl, GW ?_⟩
   rw [ItR]
   exact ⟨_, _, _, rfl, hk1.give0 hs⟩
  ·have gg' : r.ch[i].gone = false := by simpa using gg
   rw [gg']
   refine wo ?_
   refine EL (Aa rfl) (by decide +kernel) rfl rfl rfl rfl (fun hp hs => jtext_d hs.ok) ?_
   apply d_op; exact (Aa rfl); exact rfl; exact noRd rfl; decide +kernel; (iterate 3 exact rfl); rotate_left
   refine Fl (C := [.b false, .sl A2 r.ch[i].val.length vc vo, .sl none 0 0 false]) (n := 1) (sz := 3) rfl rfl (by decide) (.cons rfl rfl rfl .nil) rfl rfl fun b3 => ⟨_, rfl, ?_⟩
   try (case hok => exact A9)
   apply d_op; exact (Aa rfl); exact rfl; exact noRd rfl; decide +kernel; (iterate 3 exact rfl); rotate_left
   refine EU (n := 1) (RowG.lit (C := [.b false, .sl A1 r.ch[i].key.length kc ko, .sl none 0 0 false]) (n := 1) rfl) rfl rfl (Bw (k := 3) rfl) rfl (by decide) (by decide) fun A3 o3 N3 hw3 => ⟨_, rfl, ?_⟩
   try (case hok => exact Bf (by decide +kernel))
   refine wo ?_
   apply d_do; exact (Aa rfl); exact rfl; exact noRd rfl; decide +kernel; exact rfl; rotate_left
   refine e_st (C' := [.b true, .sl none 0 0 false, .sl A3 (1 + 1) (1 + 1) o3]) rfl rfl rfl (Io rfl) rfl ⟨_, rfl, ?_⟩
   try (case hok => exact Bf (by decide +kernel))
   refine wo ?_
   refine zX (AO (s := 2) (cs := [.b true, .sl none 0 0 false, .sl A3 (1 + 1) (1 + 1) o3]) rfl rfl rfl) ?_
   apply p_op; exact (Aa rfl); iterate 4 exact rfl
   refine Fl (C := [.b true, .sl none 0 0 false, .sl A3 (1 + 1) (1 + 1) o3]) (n := 1) (sz := 3) rfl rfl (by decide) (.cons rfl rfl rfl .nil) rfl rfl fun b4 => ⟨_, rfl, ?_⟩
   apply p_op; exact (Aa rfl); iterate 4 exact rfl
   refine EU (n := 1) hw rfl rfl (Bw (k := 3) rfl) rfl (by decide) (by omega) fun A4 o4 N4 hw4 => ⟨_, rfl, ?_⟩
   refine wo ?_
   apply p_do; exact (Aa rfl); exact rfl; exact rfl
   refine e_st (C' := [.b true, .sl none 0 0 false, .sl A4 (i + 1) (i + 1) o4]) rfl rfl rfl (Io rfl) rfl ⟨_, rfl, ?_⟩
   refine wo ?_
   refine ⟨rfl, (i + 1, .sl A4 (i + 1) (i + 1) o4, N4, N3 ++ X, us ++ [[.b true, .sl none 0 0 false, .sl A3 (1 + 1) (1 + 1) o3]]), ⟨g, by rw [B5]; exact hw4, fun hp L hs hm => ?_⟩, by dsimp only; omega, ⟨rfl, rfl, rfl, rfl, rfl, trivial⟩, fun hp h => h.le⟩
   rw [List.take_succ_eq_append_getElem g, List.map_append]
   refine itRs_app (hX hp L hs fun p hp => hm p (List.mem_append_right _ hp)) (GW ?_)
   unfold chgT chgK
   rw [if_neg gg, ItR]
   refine ⟨_, _, _, [[.b false, .sl A1 r.ch[i].key.length kc ko, .sl none 0 0 false], [.b false, .sl A2 r.ch[i].val.length vc vo, .sl none 0 0 false]], rfl, ?_, itRs_two ?_ ?_⟩
   ·cases hw3 with
    | own h hl =>
     obtain ⟨j, hj⟩ := List.getElem?_of_mem (hm _ (List.mem_append_left _ List.mem_cons_self))
     exact Cc hs hj rfl
   ·rw [ItR]
    exact ⟨_, _, _, rfl, hk1.give0 hs⟩
   ·rw [ItR]
    exact ⟨_, _, _, rfl, hk2.give0 hs⟩
 apply wm; iterate 5 exact rfl
 refine Af (v := .b false) rfl rfl (AF (by omega))
 refine wo ?_
 refine Bd ?_
 obtain rfl : i = r.ch.length := by omega
 rw [List.take_length] at hX
 obtain ⟨k, hkk⟩ : ∃ k : Nat, r.kind = (k : Int) := ⟨r.kind.toNat, by have := mayR_kind hm; omega⟩
 obtain ⟨n, hn⟩ : ∃ n : Nat, r.count = (n : Int) := ⟨r.count.toNat, by have := hm.2.1; omega⟩
 obtain ⟨q, hq⟩ : ∃ q : Nat, r.seq = (q : Int) := ⟨r.seq.toNat, by have := hm.2.2.1; omega⟩
 have b1 := mayR_kind hm
 have b2 := hm.2.1
 have b3 := hm.2.2.1
 refine wo ?_
 rw [hkk]
 apply D2 []; exact (Aa rfl); decide +kernel; (iterate 4 exact rfl)
 try (case hok => exact A9)
 case hC => exact (fun hp hs ht => jnumber_d (n := k) hs.ok (by omega))
 rintro u1 N1 ⟨w1, rfl, hu1⟩
 refine wo ?_
 rw [hn]
 apply D2 []; exact (Aa rfl); decide +kernel; (iterate 4 exact rfl)
 try (case hok => exact A9)
 case hC => exact (fun hp hs ht => jnumber_d (n := n) hs.ok (by omega))
 rintro u2 N2 ⟨w2, rfl, hu2⟩
 refine wo ?_
 rw [hq]
 apply D2 []; exact (Aa rfl); decide +kernel; (iterate 4 exact rfl)
 try (case hok => exact A9)
 case hC => exact (fun hp hs ht => jnumber_d (n := q) hs.ok (by omega))
 rintro u3 N3 ⟨w3, rfl, hu3⟩
 obtain ⟨A1, o1, rfl⟩ := hu1.sl
 obtain ⟨A2, o2, rfl⟩ := hu2.sl
 obtain ⟨A3, o3, rfl⟩ := hu3.sl
 refine wo ?_
 refine yX (HN rfl) ?_
 refine EL (Aa rfl) (by decide +kernel) rfl rfl rfl rfl (fun hp hs => jtext_d hs.ok) ?_
 refine wo ?_
 refine yX (HN rfl) ?_
 refine EL (Aa rfl) (by decide +kernel) rfl rfl rfl rfl (fun hp hs => jtext_d hs.ok) ?_
 refine wo ?_
 refine yX (AO (s := 2) (cs := [.b true, .sl none 0 0 false, .sl Aw r.ch.length r.ch.length ow]) rfl rfl rfl) ?_
 apply d_op; exact (Aa rfl); exact rfl; exact noRd rfl; decide +kernel; (iterate 3 exact rfl); rotate_left
 refine Fl (C := [.b false, .sl A1 (Ax k).length (Ax k).length o1, .sl none 0 0 false, .b false, .sl A2 (Ax n).length (Ax n).length o2, .sl none 0 0 false, .b false, .sl A3 (Ax q).length (Ax q).length o3, .sl none 0 0 false, .b false, .sl (some (bx, 0 + 3)) 32 32 false, .sl none 0 0 false, .b false, .sl (some (bx, 0 + 35)) 32 32 false, .sl none 0 0 false, .b true, .sl none 0 0 false, .sl Aw r.ch.length r.ch.length ow]) (n := 6) (sz := 3) rfl rfl (by decide) (.cons rfl rfl rfl (.cons rfl rfl rfl (.cons rfl rfl rfl (.cons rfl rfl rfl (.cons rfl rfl rfl (.cons rfl rfl rfl .nil)))))) rfl rfl fun bl => ⟨_, rfl, ?_⟩
 try (case hok => exact A9)
 refine wo ?_
 apply wn; iterate 5 exact rfl
 refine Av (C := [.b true, .sl none 0 0 false, .sl (some (bl, 0)) 6 6 false]) (.cons rfl rfl rfl rfl (Io rfl) (.cons rfl rfl rfl rfl (Io rfl) .nil)) rfl
 have e1 : r.kind.toNat = k := by rw [hkk]; rfl
 have e2 : r.count.toNat = n := by rw [hn]; rfl
 have e3 : r.seq.toNat = q := by rw [hq]; rfl
 have hit : ∀ (hp' : Hp), SV ⟨hp, []⟩ hp' ([] ++ ((some bl, Am [.b false, .sl A1 (Ax k).length (Ax k).length o1, .sl none 0 0 false, .b false, .sl A2 (Ax n).length (Ax n).length o2, .sl none 0 0 false, .b false, .sl A3 (Ax q).length (Ax q).length o3, .sl none 0 0 false, .b false, .sl (some (bx, 0 + 3)) 32 32 false, .sl none 0 0 false, .b false, .sl (some (bx, 0 + 35)) 32 32 false, .sl none 0 0 false, .b true, .sl none 0 0 false, .sl Aw r.ch.length r.ch.length ow] 95) :: (N3 ++ (N2 ++ (N1 ++ ((some bc, Am [.b true, .sl none 0 0 false, .sl Aw r.ch.length r.ch.length ow] 95) :: (some bx, Am (recC r (.sl A r.ch.length c o)) 26) :: (N ++ X))))))) → ItR ⟨hp', []⟩ (recT r) [.b true, .sl none 0 0 false, .sl (some (bl, 0)) 6 6 false] := fun hp' hs => by
  obtain ⟨j, hj⟩ := List.getElem?_of_mem (show (some bx, Am (recC r (.sl A r.ch.length c o)) 26) ∈ _ from List.mem_cons_of_mem _ (List.mem_append_right N3 (List.mem_append_right N2 (List.mem_append_right N1 (List.mem_cons_of_mem (some bc, Am [.b true, .sl none 0 0 false, .sl Aw r.ch.length r.ch.length ow] 95) (List.mem_cons_self (l := N ++ X)))))))
  refine itR_list (vs := [[.b false, .sl A1 (Ax k).length (Ax k).length o1, .sl none 0 0 false], [.b false, .sl A2 (Ax n).length (Ax n).length o2, .sl none 0 0 false], [.b false, .sl A3 (Ax q).length (Ax q).length o3, .sl none 0 0 false], [.b false, .sl (some (bx, 0 + 3)) 32 32 false, .sl none 0 0 false], [.b false, .sl (some (bx, 0 + 35)) 32 32 false, .sl none 0 0 false], [.b true, .sl none 0 0 false, .sl Aw r.ch.length r.ch.length ow]]) (Cc hs (i := 0) rfl rfl) ?_ rfl
  unfold recK numI
  rw [e1, e2, e3]
  refine Fg (itR_str (hu1.rb (Lt := []) hs) rfl) (Fg (itR_str (hu2.rb (Lt := []) hs) rfl) (Fg (itR_str (hu3.rb (Lt := []) hs) rfl) (Fg (itR_str (Cc hs hj ?_) hok.prev) (Fg (itR_str (Cc hs hj ?_) hok.root) (GW (itR_list (hw.rb (Lt := []) hs) (hX hp' _ hs fun p hp => by simp [hp]) (by rw [List.length_map])))))))
  ·rw [List.length_map, hok.prev]
   exact recC_prev hok
  ·rw [List.length_map, hok.root]
   exact recC_root hok
 apply AU []; exact (Aa rfl); iterate 4 exact rfl
 case hC => exact (fun hp hs ht => encode_d (t := recT r) hs.ok (hit hp hs) (rec_depth r) (by have := FK hok hm; unfold Bo at this; omega))
 rintro u5 N5 ⟨w5, rfl, hu5⟩
 obtain ⟨A5, o5, rfl⟩ := hu5.sl
 refine wo ?_
 apply wm; iterate 5 exact rfl
 refine Af (v := .b false) rfl rfl (AK ((by simp)))
 refine wo ?_
 exact Ay (Ag (B8 (Ai rfl) (Ai rfl)) ⟨N5, cle, _, rfl, fun _ => ⟨_, rfl, hu5⟩, fun h => absurd hm h⟩)
/- Dr3: the reader's items. By this project. -/
theorem clone_g {a : Nat × Nat} {xs : List UInt8} {n c : Nat} {op : Bool} {hp : Hp} (ho : OkH hp) (hn : xs.length = n) (hA : RB ⟨hp, []⟩ (some a) (xs.map byV) ∨ n = 0) (hl : n ≤ 140737488355328) :
  Fn kxD 50 [.sl (some a) n c op] hp [] fun r N => ∃ u, r = .v u ∧ ∃ b o1 oo, u = .sl (some (b, 0)) n n o1 ∧ N = [(some b, .cells (xs.map byV) 5 oo false)] := by
 refine Au (T := []) ho.sv (fun _ => rfl) (fn := Tryz.f50) (by kernel_rfl) rfl rfl ?_
 refine wo ?_
 apply wm; iterate 5 exact rfl
 refine m_eqsl rfl rfl
 refine wo ?_
 apply p_op; exact (Aa rfl); iterate 4 exact rfl
 refine e_bs (C := []) rfl rfl .nil rfl fun bn => ⟨_, rfl, ?_⟩
 refine wo ?_
 apply p_op; exact (Aa rfl); iterate 4 exact rfl
 refine e_lit (new := xs.map byV) rfl rfl (hA.elim (fun h => h.z) (fun e => by obtain rfl : xs = [] := List.length_eq_zero_iff.1 (by omega); exact rz_nil)) (by simp; omega) CM (by omega) fun b1 o1 oo h1 => ⟨_, rfl, ?_⟩
 refine wo ?_
 exact Ay (Ag (AR (Ai rfl)) ⟨_, rfl, b1, o1, oo, rfl, rfl⟩)
theorem RowG.sn {e : TypeId} {sz m : Nat} {cs : List V} {A : Option (Nat × Nat)} {n c : Nat} {op : Bool} {M X : HV} (h : RowG e sz m cs (.sl A n c op) M) (hm : ∀ p ∈ M, p ∈ X) : Sn X A cs := by
 cases h with
 | nil => exact Sn.nil
 | own h hl => exact Sn.own (hm _ List.mem_cons_self) (DM _)
theorem byV_bAt (b : List UInt8) (p : Nat) : byV (UInt8.ofNat (bAt b p)) = .i .u8 (bAt b p : Nat) := by rw [G7, Nat.mod_eq_of_lt (F3 b p)]
def itQ (s : V) (br : Nat) (r : Except Flt (It × Nat)) (w : VR) (N : HV) : Prop := match r with
 | .error x => ∃ y, w = .pan y ∧ y = flt x
 | .ok (t, q) => ∃ u, w = .v u ∧ ∃ a1 a2 a3 X, u = .agg [a1, a2, a3] ∧ N = rdO br s q :: X ∧ ItX X t [a1, a2, a3]
def ItemC (f : Nat) : Prop := ∀ {b : List UInt8} {A : Option (Nat × Nat)} {c : Nat} {o : Bool} {p e d br : Nat} {hp : Hp} {r : Except Flt (It × Nat)}, SV ⟨hp, [br]⟩ hp [rdO br (.sl A b.length c o) p] → RB ⟨hp, [br]⟩ A (b.map byV) → b.length ≤ c → p ≤ e → e ≤ b.length → b.length ≤ 1048576 → d ≤ 80 → DZ f b p e d = some r → Fn kxD 132 [.p (some (br, 0)), .i .i64 (e : Nat), .i .i64 (d : Nat)] hp [br] (itQ (.sl A b.length c o) br r)
def ListC (f : Nat) : Prop := ∀ {b : List UInt8} {A : Option (Nat × Nat)} {c : Nat} {o : Bool} {p e d br : Nat} {hp : Hp} {r : Except Flt (It × Nat)}, SV ⟨hp, [br]⟩ hp [rdO br (.sl A b.length c o) p] → RB ⟨hp, [br]⟩ A (b.map byV) → b.length ≤ c → p ≤ e → e ≤ b.length → b.length ≤ 1048576 → d ≤ 80 → Eg f b p e d [] = some r → Fn kxD 155 [.p (some (br, 0)), .i .i64 (e : Nat), .i .i64 (d : Nat)] hp [br] (itQ (.sl A b.length c o) br r)
set_option maxHeartbeats 32000000 in
theorem item_d {F : Nat} (hL : ∀ g, g < F → ListC g) : ItemC F := by
 intro b A c o p e d br hp r h0 hb hc hpe he hl hd hr
 cases F with
 | zero => simp [DZ] at hr
 | succ F => ?_
 have hLF : ListC F := hL F (Nat.lt_succ_self F)
 rw [DZ] at hr
 refine Fn.dropC ?_
 by_cases g0 : p = e
 ·rw [if_pos g0] at hr
  obtain rfl := Iu hr
  refine Au h0 (fun _ => rfl) (fn := Tryz.f132) (by kernel_rfl) rfl rfl ?_
  refine wo ?_
  apply p_op; exact (Aa rfl); iterate 4 exact rfl
  refine As rfl fun bo => ⟨_, rfl, ?_⟩
  refine wo ?_
  apply wm; iterate 5 exact rfl
  refine Af (v := .b true) rfl rfl (Be (by omega))
  refine wo ?_
  apply wn; iterate 5 exact rfl
  refine Av (C := [.i .i64 (p : Nat), .i .i64 50]) (.cons rfl rfl rfl rfl (Io rfl) (.cons rfl rfl rfl rfl (Io rfl) .nil)) rfl
  apply wn; iterate 5 exact rfl
  refine EA (td_st rfl) rfl
  refine EE (Aa rfl) rfl ?_
  exact Ce ⟨[], cle, _, rfl, rfl⟩
 rw [if_neg g0] at hr
 obtain ⟨ba, oa, rfl⟩ := DT hb (by omega)
 have hx := EM (b := b) (p := p) (by omega)
 have hx4 := F3 b p
 refine Au h0 (fun _ => rfl) (fn := Tryz.f132) (by kernel_rfl) rfl rfl ?_
 refine wo ?_
 apply p_op; exact (Aa rfl); iterate 4 exact rfl
 refine As rfl fun bo => ⟨_, rfl, ?_⟩
 refine wo ?_
 apply wm; iterate 5 exact rfl
 refine Af (v := .b false) rfl rfl (BW (by omega))
 refine wo ?_
 apply wn; iterate 5 exact rfl
 refine p_ia rfl rfl (by omega)
 apply wm; iterate 5 exact rfl
 refine BO (j := p) rfl hb.1 hb.2 rfl hx
 refine wo ?_
 by_cases g1 : bAt b p < 128
 ·rw [if_pos g1] at hr
  obtain rfl := Iu hr
  apply wm; iterate 5 exact rfl
  refine Af (v := .b true) rfl rfl (AL (by omega))
  refine wo ?_
  apply p_do; exact (Aa rfl); exact rfl; exact rfl
  refine e_st (C' := [.sl (some (ba, oa)) b.length c o, .i .i64 ((p + 1 : Nat) : Int)]) rfl rfl rfl (Io rfl) rfl ⟨_, rfl, ?_⟩
  refine wo ?_
  apply p_op; exact (Aa rfl); iterate 4 exact rfl
  refine e_bs (C := [.i .u8 (bAt b p : Nat)]) rfl rfl (.cons rfl rfl .nil) rfl fun b1 => ⟨_, rfl, ?_⟩
  apply wn; iterate 5 exact rfl
  refine Av (C := [.b false, .sl (some (b1, 0)) 1 1 false, .sl none 0 0 false]) (.cons rfl rfl rfl rfl (Io rfl) .nil) rfl
  apply p_do; exact (Aa rfl); exact rfl; exact rfl
  refine AG (C' := [.b false, .sl (some (b1, 0)) 1 1 false, .sl none 0 0 false]) rfl rfl (by simp) rfl (Io rfl) rfl ⟨_, rfl, ?_⟩
  refine wo ?_
  refine Ay (Ag (AR (AB rfl rfl)) ⟨[(some br, Am [.sl (some (ba, oa)) b.length c o, .i .i64 ((p + 1) : Nat)] 212), (some b1, Am [.i .u8 (bAt b p : Nat)] 5)], cle, _, rfl, _, _, _, _, rfl, rfl, ?_⟩)
  rw [ItX, ItP]
  refine ⟨_, _, _, rfl, Sn.own List.mem_cons_self ?_⟩
  rw [List.map_cons, byV_bAt]
  rfl
 rw [if_neg g1] at hr
 apply wm; iterate 5 exact rfl
 refine Af (v := .b false) rfl rfl (AF (by omega))
 refine wo ?_
 by_cases g3 : 192 ≤ bAt b p ∧ 80 ≤ d
 ·rw [if_pos g3] at hr
  obtain rfl := Iu hr
  have g31 := g3.1
  have g32 := g3.2
  apply wm; iterate 5 exact rfl
  refine Af (v := .b true) rfl rfl (En (by omega))
  refine wo ?_
  apply wmg; iterate 7 exact rfl
  refine Af (v := .b true) rfl rfl (En (by omega))
  refine wo ?_
  apply wn; iterate 5 exact rfl
  refine Av (C := [.i .i64 (p : Nat), .i .i64 53]) (.cons rfl rfl rfl rfl (Io rfl) (.cons rfl rfl rfl rfl (Io rfl) .nil)) rfl
  apply wn; iterate 5 exact rfl
  refine EA (td_st rfl) rfl
  refine EE (Aa rfl) rfl ?_
  exact Ce ⟨[], cle, _, rfl, rfl⟩
 rw [if_neg g3] at hr
 cases hS : lenS b e p with
 | error x =>
  rw [hS] at hr
  obtain rfl := Iu hr
  have hC : ∀ {Lr : HV} (hp' : Hp), SV ⟨hp, [br]⟩ hp' ([rdO br (.sl (some (ba, oa)) b.length c o) p] ++ Lr) → SV ⟨hp', [br]⟩ hp' [rdO br (.sl (some (ba, oa)) b.length c o) p] → Fn kxD 154 [.p (some (br, 0)), .i .i64 (e : Nat)] hp' [br] fun r N => ∃ y, r = .pan y ∧ y = flt x := fun hp' hs ht => by
   have := rlen_d (p := p) (e := e) ht (hb.give hs) hc (by omega) he hl
   rw [hS] at this
   exact this
  by_cases g2 : 192 ≤ bAt b p
  ·have g4 : ¬ 80 ≤ d := fun h => g3 ⟨g2, h⟩
   apply wm; iterate 5 exact rfl
   refine Af (v := .b true) rfl rfl (En (by omega))
   refine wo ?_
   apply wmg; iterate 7 exact rfl
   refine Af (v := .b false) rfl rfl (Eo (by omega))
   refine wo ?_
   refine p_callP [rdO br (.sl (some (ba, oa)) b.length c o) p] (Aa rfl) rfl rfl (fun hp' hs ht => hC hp' hs ht) ?_
   rintro y N rfl
   exact Ce ⟨[], cle, _, rfl, rfl⟩
  ·apply wm; iterate 5 exact rfl
   refine Af (v := .b false) rfl rfl (Eo (by omega))
   refine wo ?_
   refine p_callP [rdO br (.sl (some (ba, oa)) b.length c o) p] (Aa rfl) rfl rfl (fun hp' hs ht => hC hp' hs ht) ?_
   rintro y N rfl
   exact Ce ⟨[], cle, _, rfl, rfl⟩
 | ok nq =>
  obtain ⟨n, q⟩ := nq
  rw [hS] at hr
  dsimp only at hr
  obtain ⟨l1, l2, l3⟩ := lenS_ok (by omega) hS
  have hC : ∀ {Lr : HV} (hp' : Hp), SV ⟨hp, [br]⟩ hp' ([rdO br (.sl (some (ba, oa)) b.length c o) p] ++ Lr) → SV ⟨hp', [br]⟩ hp' [rdO br (.sl (some (ba, oa)) b.length c o) p] → Fn kxD 154 [.p (some (br, 0)), .i .i64 (e : Nat)] hp' [br] fun r N => ∃ u, r = .v u ∧ u = .i .i64 (n : Nat) ∧ N = [rdO br (.sl (some (ba, oa)) b.length c o) q] := fun hp' hs ht => by
   have := rlen_d (p := p) (e := e) ht (hb.give hs) hc (by omega) he hl
   rw [hS] at this
   exact this
  by_cases g2 : 192 ≤ bAt b p
  ·have g4 : ¬ 80 ≤ d := fun h => g3 ⟨g2, h⟩
   apply wm; iterate 5 exact rfl
   refine Af (v := .b true) rfl rfl (En (by omega))
   refine wo ?_
   apply wmg; iterate 7 exact rfl
   refine Af (v := .b false) rfl rfl (Eo (by omega))
   refine wo ?_
   apply Db ([rdO br (.sl (some (ba, oa)) b.length c o) p]); exact (Aa rfl); iterate 4 exact rfl
   case hC => exact (fun hp' hs ht => hC hp' hs ht)
   rintro u N ⟨rfl, rfl⟩
   refine wo ?_
   by_cases g5 : e < q + n
   ·rw [if_pos g5] at hr
    obtain rfl := Iu hr
    apply wm; iterate 5 exact rfl
    refine Af (v := .b true) rfl rfl (Cv (by omega))
    refine wo ?_
    apply wn; iterate 5 exact rfl
    refine Av (C := [.i .i64 (p : Nat), .i .i64 50]) (.cons rfl rfl rfl rfl (Io rfl) (.cons rfl rfl rfl rfl (Io rfl) .nil)) rfl
    apply wn; iterate 5 exact rfl
    refine EA (td_st rfl) rfl
    refine EE (Aa rfl) rfl ?_
    exact Ce ⟨[], cle, _, rfl, rfl⟩
   rw [if_neg g5, if_pos g2] at hr
   apply wm; iterate 5 exact rfl
   refine Af (v := .b false) rfl rfl (Bm (by omega))
   refine wo ?_
   apply wm; iterate 5 exact rfl
   refine Af (v := .b true) rfl rfl (En (by omega))
   refine wo ?_
   cases r with
   | error x =>
    refine p_callP [rdO br (.sl (some (ba, oa)) b.length c o) q] (R := fun y _ => y = flt x) (Aa rfl) rfl rfl (fun hp' hs ht => hLF ht (hb.give hs) hc (by omega) (by omega) hl (by omega) hr) ?_
    rintro y N rfl
    exact Ce ⟨[], cle, _, rfl, rfl⟩
   | ok tq =>
    obtain ⟨t, q'⟩ := tq
    apply Db ([rdO br (.sl (some (ba, oa)) b.length c o) q]); exact (Aa rfl); iterate 4 exact rfl
    case hC => exact (fun hp' hs ht => hLF ht (hb.give hs) hc (by omega) (by omega) hl (by omega) hr)
    rintro u N ⟨a1, a2, a3, X, rfl, rfl, hX⟩
    apply p_do; exact (Aa rfl); exact rfl; exact rfl
    refine AG (C' := [a1, a2, a3]) rfl rfl (by simp) rfl (Io rfl) rfl ⟨_, rfl, ?_⟩
    refine wo ?_
    exact Ay (Ag (AR (AB rfl rfl)) ⟨rdO br (.sl (some (ba, oa)) b.length c o) q' :: X, cle, _, rfl, a1, a2, a3, X, rfl, rfl, hX⟩)
  ·apply wm; iterate 5 exact rfl
   refine Af (v := .b false) rfl rfl (Eo (by omega))
   refine wo ?_
   apply Db ([rdO br (.sl (some (ba, oa)) b.length c o) p]); exact (Aa rfl); iterate 4 exact rfl
   case hC => exact (fun hp' hs ht => hC hp' hs ht)
   rintro u N ⟨rfl, rfl⟩
   refine wo ?_
   by_cases g5 : e < q + n
   ·rw [if_pos g5] at hr
    obtain rfl := Iu hr
    apply wm; iterate 5 exact rfl
    refine Af (v := .b true) rfl rfl (Cv (by omega))
    refine wo ?_
    apply wn; iterate 5 exact rfl
    refine Av (C := [.i .i64 (p : Nat), .i .i64 50]) (.cons rfl rfl rfl rfl (Io rfl) (.cons rfl rfl rfl rfl (Io rfl) .nil)) rfl
    apply wn; iterate 5 exact rfl
    refine EA (td_st rfl) rfl
    refine EE (Aa rfl) rfl ?_
    exact Ce ⟨[], cle, _, rfl, rfl⟩
   rw [if_neg g5, if_neg g2] at hr
   apply wm; iterate 5 exact rfl
   refine Af (v := .b false) rfl rfl (Bm (by omega))
   refine wo ?_
   apply wm; iterate 5 exact rfl
   refine Af (v := .b false) rfl rfl (Eo (by omega))
   refine wo ?_
   apply d_op; exact (Aa rfl); exact rfl; exact noRd rfl; decide +kernel; (iterate 3 exact rfl); rotate_left
   refine e_slH rfl (BR rfl) (BR rfl) (by omega) (Nat.le_add_right q n) (by omega) hc hb (by simp) fun a' c' hA' hc' => ⟨_, rfl, ?_⟩
   try (case hok => exact A9)
   have hxl : ((b.drop q).take n).length = n := by rw [List.length_take, List.length_drop]; omega
   have hqn : q + n - q = n := by omega
   rw [hqn] at hA' hc'
   rw [hqn]
   rw [← List.map_drop, ← List.map_take] at hA'
   apply D2 []; exact (Aa rfl); decide +kernel; (iterate 4 exact rfl)
   try (case hok => exact A9)
   case hC => exact (fun hp' hs ht => clone_g hs.ok hxl (hA'.imp (fun h => h.give0 hs) (fun h => by omega)) (by omega))
   rintro u N ⟨b1, o1, oo, rfl, rfl⟩
   refine wo ?_
   by_cases g6 : n = 1
   ·subst g6
    have hx1 : (((b.drop q).take 1).map byV)[0]? = some (.i .u8 (bAt b q : Nat)) := by
     rw [← EM (b := b) (p := q) (by omega), List.getElem?_map, List.getElem?_map, List.getElem?_take, if_pos (by decide), List.getElem?_drop, Nat.add_zero]
    have hy4 := F3 b q
    apply wm; iterate 5 exact rfl
    refine Af (v := .b true) rfl rfl (Be (by omega))
    refine wo ?_
    apply wg; iterate 7 exact rfl
    refine p_ia rfl rfl (by decide)
    refine zX (Bi rfl hx1) ?_
    by_cases g7 : bAt b q < 128
    ·rw [if_pos ⟨rfl, g7⟩] at hr
     obtain rfl := Iu hr
     apply wmg; iterate 7 exact rfl
     refine Af (v := .b true) rfl rfl (AL (by omega))
     refine wo ?_
     apply wn; iterate 5 exact rfl
     refine Av (C := [.i .i64 (p : Nat), .i .i64 52]) (.cons rfl rfl rfl rfl (Io rfl) (.cons rfl rfl rfl rfl (Io rfl) .nil)) rfl
     apply wn; iterate 5 exact rfl
     refine EA (td_st rfl) rfl
     refine EE (Aa rfl) rfl ?_
     exact Ce ⟨[], cle, _, rfl, rfl⟩
    rw [if_neg (fun h => g7 h.2)] at hr
    obtain rfl := Iu hr
    apply wmg; iterate 7 exact rfl
    refine Af (v := .b false) rfl rfl (AF (by omega))
    refine wo ?_
    apply p_do; exact (Aa rfl); exact rfl; exact rfl
    refine e_st (C' := [.sl (some (ba, oa)) b.length c o, .i .i64 ((q + 1 : Nat) : Int)]) rfl rfl rfl (Io rfl) rfl ⟨_, rfl, ?_⟩
    refine wo ?_
    apply wn; iterate 5 exact rfl
    refine Av (C := [.b false, .sl (some (b1, 0)) 1 1 o1, .sl none 0 0 false]) (.cons rfl rfl rfl rfl (Io rfl) .nil) rfl
    apply p_do; exact (Aa rfl); exact rfl; exact rfl
    refine AG (C' := [.b false, .sl (some (b1, 0)) 1 1 o1, .sl none 0 0 false]) rfl rfl (by simp) rfl (Io rfl) rfl ⟨_, rfl, ?_⟩
    refine wo ?_
    refine Ay (Ag (AR (AB rfl rfl)) ⟨[(some br, Am [.sl (some (ba, oa)) b.length c o, .i .i64 ((q + 1) : Nat)] 212), (some b1, .cells (((b.drop q).take 1).map byV) 5 oo false)], cle, _, rfl, _, _, _, _, rfl, rfl, ?_⟩)
    rw [ItX, ItP, hxl]
    exact ⟨_, _, _, rfl, Sn.own List.mem_cons_self (DM _)⟩
   ·rw [if_neg (fun h => g6 h.1)] at hr
    obtain rfl := Iu hr
    apply wm; iterate 5 exact rfl
    refine Af (v := .b false) rfl rfl (BW (by omega))
    refine wo ?_
    apply p_do; exact (Aa rfl); exact rfl; exact rfl
    refine e_st (C' := [.sl (some (ba, oa)) b.length c o, .i .i64 ((q + n : Nat) : Int)]) rfl rfl rfl (Io rfl) rfl ⟨_, rfl, ?_⟩
    refine wo ?_
    apply wn; iterate 5 exact rfl
    refine Av (C := [.b false, .sl (some (b1, 0)) n n o1, .sl none 0 0 false]) (.cons rfl rfl rfl rfl (Io rfl) .nil) rfl
    apply p_do; exact (Aa rfl); exact rfl; exact rfl
    refine AG (C' := [.b false, .sl (some (b1, 0)) n n o1, .sl none 0 0 false]) rfl rfl (by simp) rfl (Io rfl) rfl ⟨_, rfl, ?_⟩
    refine wo ?_
    refine Ay (Ag (AR (AB rfl rfl)) ⟨[(some br, Am [.sl (some (ba, oa)) b.length c o, .i .i64 ((q + n) : Nat)] 212), (some b1, .cells (((b.drop q).take n).map byV) 5 oo false)], cle, _, rfl, _, _, _, _, rfl, rfl, ?_⟩)
    rw [ItX, ItP, hxl]
    exact ⟨_, _, _, rfl, Sn.own List.mem_cons_self (DM _)⟩
set_option maxHeartbeats 32000000 in
theorem list_d {F : Nat} (hI : ∀ g, g < F → ItemC g) : ListC F := by
 intro b A c o p e d br hp r h0 hb hc hpe he hl hd hr
 refine Fn.dropC ?_
 refine Au h0 (fun _ => rfl) (fn := Tryz.f155) (by kernel_rfl) rfl rfl ?_
 refine wo ?_
 apply p_op; exact (Aa rfl); iterate 4 exact rfl
 refine As rfl fun bo => ⟨_, rfl, ?_⟩
 refine wo ?_
 apply wn; iterate 5 exact rfl
 refine Av (C := [.b true, .sl none 0 0 false, .sl none 0 0 false]) (.cons rfl rfl rfl rfl (Io rfl) .nil) rfl
 apply p_op; exact (Aa rfl); iterate 4 exact rfl
 refine As rfl fun bx => ⟨_, rfl, ?_⟩
 apply p_do; exact (Aa rfl); exact rfl; exact rfl
 refine AG (C' := [.b true, .sl none 0 0 false, .sl none 0 0 false]) rfl rfl (by simp) rfl (Io rfl) rfl ⟨_, rfl, ?_⟩
 refine wo ?_
 refine BM ?_
 refine wo ?_
 refine Bq (ι := Nat × Nat × Nat × List It × V × HV × HV × List (List V)) (fun s => [(7, .p (some (bx, 0))), (6, .p (some (bo, 0))), (2, .i .i64 (d : Nat)), (1, .i .i64 (e : Nat)), (0, .p (some (br, 0)))]) (fun s => (some bx, Am [.b true, .sl none 0 0 false, s.2.2.2.2.1] 95) :: (some bo, Am [.b false, .sl none 0 0 false, .sl none 0 0 false] 95) :: rdO br (.sl A b.length c o) s.1 :: (s.2.2.2.2.2.1 ++ s.2.2.2.2.2.2.1)) (fun s => s.1 ≤ e ∧ s.2.1 ≤ F ∧ s.2.2.1 ≤ s.1 ∧ s.2.2.2.1.length = s.2.2.1 ∧ Eg s.2.1 b s.1 e d s.2.2.2.1 = some r ∧ RowG 95 3 s.2.2.1 s.2.2.2.2.2.2.2.flatten s.2.2.2.2.1 s.2.2.2.2.2.1 ∧ ItXs s.2.2.2.2.2.2.1 s.2.2.2.1 s.2.2.2.2.2.2.2) (fun s => e - s.1) (p, F, 0, [], .sl none 0 0 false, [], [], []) ⟨hpe, Nat.le_refl _, Nat.zero_le _, rfl, hr, .nil, (by rw [ItXs, ItPs])⟩ ⟨rfl, rfl, rfl, rfl, rfl, trivial⟩ (fun hp h => h) ?_
 intro ⟨q, f, n, acc, w, N, X, us⟩ ⟨hq, hf, hnq, hn, hr, hw, hX⟩
 dsimp only at hq hf hnq hn hr hw hX ⊢
 obtain ⟨Aw, ow, rfl⟩ := hw.sl
 cases f with
 | zero => simp [Eg] at hr
 | succ f => ?_
 rw [Eg] at hr
 refine wo ?_
 by_cases g : q < e
 ·rw [if_pos g] at hr
  apply wm; iterate 5 exact rfl
  refine Af (v := .b true) rfl rfl (AL (by omega))
  cases hi : DZ f b q e d with
  | none => rw [hi] at hr; simp at hr
  | some ri => ?_
  rw [hi] at hr
  have hIf : ItemC f := hI f (by omega)
  cases ri with
  | error x =>
   obtain rfl := Iu hr
   repeat (first | ((first | (apply wn; iterate 5 exact rfl) | (apply dn; iterate 5 exact rfl) | (apply wg; iterate 7 exact rfl) | (apply dg; iterate 7 exact rfl)); first | (apply Hm; exact rfl) | (apply pv_assign; exact rfl) | (apply pv_nilc; exact rfl) | (apply pv_ext; exact rfl; exact rfl) | (apply p_fa; exact rfl) | (apply pv_not; exact rfl) | (apply pv_pickT; exact rfl; exact rfl) | (apply pv_pickF; exact rfl; exact rfl)) | ((first | (apply wm; iterate 5 exact rfl) | (apply dm; iterate 6 exact rfl) | (apply wmg; iterate 7 exact rfl) | (apply dmg; iterate 8 exact rfl)); first | (apply m_len; exact rfl) | exact mv_addN rfl rfl (by omega) | exact mv_subN rfl rfl (by omega) | exact mv_mulN rfl rfl (by omega)) | (apply ww; (iterate 5 exact rfl); exact Bi rfl rfl) | apply wl_nil | (apply w_seqN; exact rfl) | apply w_block | apply w_region | (apply w_condT; exact rfl) | (apply w_condF; exact rfl) | apply w_skip | apply w_label | apply wd_nil | refine dy rfl rfl rfl rfl rfl rfl (Bi rfl rfl) ?_ | (apply dw; (iterate 3 exact rfl); decide +kernel; (iterate 3 exact rfl); exact Bi rfl rfl) | (apply wi; iterate 6 exact rfl) | (apply wu; iterate 6 exact rfl) | (apply wi0; iterate 4 exact rfl) | (apply di; iterate 6 exact rfl) | (apply du; iterate 6 exact rfl) | (apply wwg; (iterate 7 exact rfl); exact Bi rfl rfl) | refine dyg rfl rfl rfl rfl rfl rfl rfl rfl (Bi rfl rfl) ?_ | (apply dwg; (iterate 5 exact rfl); decide +kernel; (iterate 3 exact rfl); exact Bi rfl rfl))
   refine w_dpan (by kernel_rfl) ?_
   refine wp_pure (Aa rfl) rfl rfl rfl rfl (p_fa rfl) ?_
   refine wp_rd (Aa rfl) rfl rfl rfl rfl rfl (Bi rfl rfl) ?_
   refine wp_pure (Aa rfl) rfl rfl rfl rfl (Hm rfl) ?_
   refine wp_pure (Aa rfl) rfl rfl rfl rfl (Hm rfl) ?_
   refine wp_pure (Aa rfl) rfl rfl rfl rfl (Hm rfl) ?_
   refine wp_callP [rdO br (.sl A b.length c o) q] (R := fun y _ => y = flt x) (Aa rfl) rfl rfl rfl (fun hp' hs ht => hIf ht (hb.give hs) hc (by omega) he hl hd hi) ?_ ?_
   ·rintro y N' rfl
    exact Ce ⟨[], cle, _, rfl, rfl⟩
   refine wq_dep (by decide +kernel) ?_
   refine wq_dep (by decide +kernel) ?_
   refine wq_dep (by decide +kernel) ?_
   refine wq_dep (by decide +kernel) ?_
   exact wq_nil
  | ok tq =>
   obtain ⟨t, q'⟩ := tq
   dsimp only at hr
   obtain ⟨i1, i2⟩ := GU hq hi
   refine He (fun hp hs => notin_of (b := bx) (M := [rdO br (.sl A b.length c o) q]) hs) fun hnot => ?_
   haveI := hnot
   refine wo ?_
   apply d_callM ([rdO br (.sl A b.length c o) q]); exact (Aa rfl); decide +kernel; (iterate 4 exact rfl)
   try (case hok => exact rdOk_c)
   case hC => exact (fun hp' hs ht => hIf ht (hb.give hs) hc (by omega) he hl hd hi)
   rintro u N1 ⟨a1, a2, a3, X1, rfl, rfl, hX1⟩
   apply d_op; exact (Aa rfl); exact rfl; exact noRd rfl; decide +kernel; (iterate 3 exact rfl); rotate_left
   refine Fl (C := [a1, a2, a3]) (n := 1) (sz := 3) rfl rfl (by decide) (.cons rfl rfl rfl .nil) rfl rfl fun b1 => ⟨_, rfl, ?_⟩
   try (case hok => exact A9)
   apply d_op; exact (Aa rfl); exact rfl; exact noRd rfl; decide +kernel; (iterate 3 exact rfl); rotate_left
   refine EU (n := 1) hw rfl rfl (Bw (k := 3) rfl) rfl (by decide) (by omega) fun A3 o3 N3 hw3 => ⟨_, rfl, ?_⟩
   try (case hok => exact Bf (by decide +kernel))
   refine wo ?_
   apply d_do; exact (Aa rfl); exact rfl; exact noRd rfl; decide +kernel; exact rfl; rotate_left
   refine e_st (C' := [.b true, .sl none 0 0 false, .sl A3 (n + 1) (n + 1) o3]) rfl rfl rfl (Io rfl) rfl ⟨_, rfl, ?_⟩
   try (case hok => exact Bf (by decide +kernel))
   refine wo ?_
   refine ⟨rfl, (q', f, n + 1, acc ++ [t], .sl A3 (n + 1) (n + 1) o3, N3, X1 ++ X, us ++ [[a1, a2, a3]]), ⟨i2, by dsimp only; omega, by dsimp only; omega, by simp [hn], hr, by rw [B5]; exact hw3, ?_⟩, by dsimp only; omega, ⟨rfl, rfl, rfl, rfl, rfl, trivial⟩, fun hp h => h.le⟩
   exact itPs_snoc (itP_mono (fun A cs h => h.mono fun p hp => List.mem_append_left _ hp) _ _ hX1) (GX (fun A cs h => h.mono fun p hp => List.mem_append_right _ hp) _ _ hX)
 rw [if_neg g] at hr
 obtain rfl := Iu hr
 apply wm; iterate 5 exact rfl
 refine Af (v := .b false) rfl rfl (AF (by omega))
 refine wo ?_
 refine Bd ?_
 refine wo ?_
 refine zX (AO (s := 2) (cs := [.b true, .sl none 0 0 false, .sl Aw n n ow]) rfl rfl rfl) ?_
 apply p_do; exact (Aa rfl); exact rfl; exact rfl
 refine AG (C' := [.b true, .sl none 0 0 false, .sl Aw n n ow]) rfl rfl (by simp) rfl (Io rfl) rfl ⟨_, rfl, ?_⟩
 refine wo ?_
 refine Ay (Ag (AR (AB rfl rfl)) ⟨rdO br (.sl A b.length c o) q :: (N ++ X), cle, _, rfl, _, _, _, N ++ X, rfl, rfl, ?_⟩)
 rw [ItX, ItP, hn]
 exact ⟨_, _, _, us, rfl, hw.sn fun p hp => List.mem_append_left _ hp, GX (fun A cs h => h.mono fun p hp => List.mem_append_right _ hp) _ _ hX⟩
theorem reads : ∀ F, ItemC F ∧ ListC F := by
 intro F
 induction F using Nat.strongRecOn with
 | ind F ih => exact ⟨item_d fun g hg => (ih g hg).2, list_d fun g hg => (ih g hg).1⟩
/- Dr4: reading bytes as an item: what gives up is caught. By this project. -/
section
variable {K : Kx} {hp0 : Bs} {l : VL} {L : HV} {a b : Operand} {t t' : TypeId}
theorem m_eqi0 {s : Nat} {v : V} [hI : IfcV K.C t] (hx : evL l a = some (.ifc s v)) (hy : evL l b = some .ni) : MVO K hp0 l L (.binOp .eql t a b t') (.b false) := mv_eql hx hy rfl fun hp => by
 obtain ⟨ti, h1, h2⟩ := hI.h
 simp only [Hj, veq, h1, Ir, h2]
theorem m_eqn0 [hI : IfcV K.C t] (hx : evL l a = some .ni) (hy : evL l b = some .ni) (hc : (FF a || FF b) = true) : MVO K hp0 l L (.binOp .eql t a b t') (.b true) := mv_eql hx hy rfl fun hp => by
 obtain ⟨ti, h1, h2⟩ := hI.h
 simp only [Hj, hc, veq, h1, Ir, h2]
end
theorem lenS_err {b : List UInt8} {e p : Nat} {x : Flt} (h : lenS b e p = .error x) : x.2 ≠ 0 := by
 unfold lenS at h
 split at h
 ·simp at h
 ·split at h
  ·obtain rfl := Except.error.inj h; simp
  ·split at h
   ·obtain rfl := Except.error.inj h; simp
   ·split at h
    ·obtain rfl := Except.error.inj h; simp
    ·split at h
     ·obtain rfl := Except.error.inj h; simp
     ·simp at h
mutual
theorem itemS_err : ∀ {f : Nat} {b : List UInt8} {p e d : Nat} {x : Flt}, DZ f b p e d = some (.error x) → x.2 ≠ 0
 | 0, b, p, e, d, x, h => by simp [DZ] at h
 | f + 1, b, p, e, d, x, h => by
  rw [DZ] at h
  split at h
  ·obtain rfl := Except.error.inj (Iu h); simp
  ·split at h
   ·simp at h
   ·split at h
    ·obtain rfl := Except.error.inj (Iu h); simp
    ·split at h
     ·rename_i hl
      obtain rfl := Except.error.inj (Iu h)
      exact lenS_err hl
     ·split at h
      ·obtain rfl := Except.error.inj (Iu h); simp
      ·split at h
       ·exact listS_err h
       ·split at h
        ·obtain rfl := Except.error.inj (Iu h); simp
        ·simp at h
theorem listS_err : ∀ {f : Nat} {b : List UInt8} {p e d : Nat} {acc : List It} {x : Flt}, Eg f b p e d acc = some (.error x) → x.2 ≠ 0
 | 0, b, p, e, d, acc, x, h => by simp [Eg] at h
 | f + 1, b, p, e, d, acc, x, h => by
  rw [Eg] at h
  split at h
  ·split at h
   ·simp at h
   ·rename_i hi
    obtain rfl := Except.error.inj (Iu h)
    exact itemS_err hi
   ·exact listS_err h
  ·simp at h
end
def readS (b : List UInt8) : Except Flt (It × Nat) :=
 if 1048576 < b.length then .error (0, 54)
 else match DZ (2 * b.length + 1) b 0 b.length 0 with
  | some r => r
  | none => .error (0, 0)
theorem readS_err {b : List UInt8} {x : Flt} (h : readS b = .error x) : x.2 ≠ 0 := by
 unfold readS at h
 split at h
 ·obtain rfl := Except.error.inj h; simp
 ·obtain ⟨r, hr⟩ := FE (2 * b.length + 1) b 0 b.length 0 (Nat.zero_le _) (by omega)
  rw [hr] at h
  dsimp only at h
  subst h
  exact itemS_err hr
theorem decS_of (b : List UInt8) : decS b = match readS b with
 | .error x => .error x
 | .ok (t, q) => if q < b.length then .error (q, 51) else .ok t := by
 unfold decS readS
 split
 ·rfl
 ·obtain ⟨r, hr⟩ := FE (2 * b.length + 1) b 0 b.length 0 (Nat.zero_le _) (by omega)
  rw [hr]
  cases r with
  | error x => rfl
  | ok tq => rfl
abbrev zI : List V := [.b false, .sl none 0 0 false, .sl none 0 0 false]
set_option maxHeartbeats 8000000 in
theorem read1_df {b2 b3 b4 : Nat} {x : Flt} {B : Bs} {c2 c3 c4 : List V} {L : HV} (h2 : c2.length = 3) (h3 : c3.length = 1) (h4 : c4.length = 2) :
  DFn kxD 131 [.p (some (b2, 0)), .p (some (b3, 0)), .p (some (b4, 0))] (.pan (flt x) false) B ((some b2, Am c2 95) :: (some b3, Am c3 3) :: (some b4, Am c4 180) :: L) fun r u' L' => r = .v (.tup []) ∧ u' = .pan (flt x) true ∧ ∃ bt o, L' = (some bt, o) :: (some b2, Am zI 95) :: (some b3, Am [.i .i64 0] 3) :: (some b4, Am [.i .i64 (x.1 : Nat), .i .i64 (x.2 : Nat)] 180) :: L := by
 obtain ⟨y1, y2, y3, rfl⟩ : ∃ a b c, c2 = [a, b, c] := by
  match c2, h2 with
  | [a, b, c], _ => exact ⟨a, b, c, rfl⟩
 obtain ⟨y4, rfl⟩ : ∃ a, c3 = [a] := by
  match c3, h3 with
  | [a], _ => exact ⟨a, rfl⟩
 obtain ⟨y5, y6, rfl⟩ : ∃ a b, c4 = [a, b] := by
  match c4, h4 with
  | [a, b], _ => exact ⟨a, b, rfl⟩
 refine dfn_rec (fun _ => rfl) (fn := Tryz.f131) (by kernel_rfl) rfl rfl rfl rfl rfl rfl (by kernel_rfl) rfl ?_
 refine wo ?_
 apply wm; iterate 5 exact rfl
 refine m_eqi0 rfl rfl
 refine wo ?_
 apply wn; iterate 5 exact rfl
 refine pv_ta rfl rfl
 refine wo ?_
 apply p_op; exact (Aa rfl); iterate 4 exact rfl
 refine As rfl fun bt => ⟨_, rfl, ?_⟩
 apply p_do; exact (Aa rfl); exact rfl; exact rfl
 refine AG (C' := [.i .i64 (x.1 : Nat), .i .i64 (x.2 : Nat)]) rfl rfl (by simp) rfl (Io rfl) rfl ⟨_, rfl, ?_⟩
 refine He (fun hp hs => (⟨nin1 (b := bt) (b' := b2) hs (by decide), nin1 (b := bt) (b' := b3) hs (by decide), nin1 (b := bt) (b' := b4) hs (by decide)⟩ : NotIn bt [b2] ∧ NotIn bt [b3] ∧ NotIn bt [b4])) fun ⟨n2, n3, n4⟩ => ?_
 refine wo ?_
 apply dn; iterate 5 exact rfl
 refine Av (C := zI) .nil rfl
 refine yX (AO (s := 1) (cs := [.i .i64 (x.1 : Nat), .i .i64 (x.2 : Nat)]) rfl rfl rfl) ?_
 apply d_do; exact (Aa rfl); exact rfl; exact noRd rfl; decide +kernel; exact rfl; rotate_left
 refine AG (C' := zI) rfl rfl (by simp) rfl (Io rfl) rfl ⟨_, rfl, ?_⟩
 try (case hok => exact rdOk_c)
 apply d_do; exact (Aa rfl); exact rfl; exact noRd rfl; decide +kernel; exact rfl; rotate_left
 refine e_st (C' := [.i .i64 0]) rfl rfl rfl (Io rfl) rfl ⟨_, rfl, ?_⟩
 try (case hok => exact rdOk_c)
 apply d_do; exact (Aa rfl); exact rfl; exact noRd rfl; decide +kernel; exact rfl; rotate_left
 refine AG (C' := [.i .i64 (x.1 : Nat), .i .i64 (x.2 : Nat)]) rfl rfl (by simp) rfl (Io rfl) rfl ⟨_, rfl, ?_⟩
 try (case hok => exact Bf (by decide +kernel))
 refine wo ?_
 exact ⟨rfl, .tup [], vres0, rfl, rfl, bt, _, rfl⟩
set_option maxHeartbeats 8000000 in
theorem read1_df0 {b2 b3 b4 : Nat} {B : Bs} {L : HV} :
  DFn kxD 131 [.p (some (b2, 0)), .p (some (b3, 0)), .p (some (b4, 0))] .ret B L fun r u' L' => r = .v (.tup []) ∧ u' = .ret ∧ L' = L := by
 refine dfn_rec (fun _ => rfl) (fn := Tryz.f131) (by kernel_rfl) rfl rfl rfl rfl rfl rfl (by kernel_rfl) rfl ?_
 refine wo ?_
 apply wm; iterate 5 exact rfl
 refine m_eqn0 rfl rfl rfl
 refine wo ?_
 exact ⟨rfl, .tup [], vres0, rfl, rfl, rfl⟩
set_option maxHeartbeats 16000000 in
theorem read_d {A : Option (Nat × Nat)} {b : List UInt8} {c : Nat} {o : Bool} {hp : Hp} (ho : OkH hp) (hb : RB ⟨hp, []⟩ A (b.map byV)) (hc : b.length ≤ c) :
  Fn kxD 104 [.sl A b.length c o] hp [] fun r N => match readS b with
   | .error x => ∃ u, r = .v u ∧ u = .tup [.agg zI, .i .i64 0, .agg [.i .i64 (x.1 : Nat), .i .i64 (x.2 : Nat)]]
   | .ok (t, q) => ∃ u, r = .v u ∧ ∃ a1 a2 a3, u = .tup [.agg [a1, a2, a3], .i .i64 (q : Nat), .agg [.i .i64 0, .i .i64 0]] ∧ ItX N t [a1, a2, a3] := by
 refine Fn.dropC ?_
 unfold readS
 refine Au (T := []) ho.sv (fun _ => rfl) (fn := Tryz.f104) (by kernel_rfl) rfl rfl ?_
 refine wo ?_
 apply p_op; exact (Aa rfl); iterate 4 exact rfl
 refine As rfl fun b2 => ⟨_, rfl, ?_⟩
 apply p_op; exact (Aa rfl); iterate 4 exact rfl
 refine As rfl fun b3 => ⟨_, rfl, ?_⟩
 apply p_op; exact (Aa rfl); iterate 4 exact rfl
 refine As rfl fun b4 => ⟨_, rfl, ?_⟩
 refine wo ?_
 by_cases g : 1048576 < b.length
 ·rw [if_pos g]
  apply wm; iterate 5 exact rfl
  refine Af (v := .b true) rfl rfl (Cv (by omega))
  refine wo ?_
  apply wn; iterate 5 exact rfl
  refine Av (C := zI) .nil rfl
  apply wn; iterate 5 exact rfl
  refine Av (C := [.i .i64 0, .i .i64 54]) (.cons rfl rfl rfl rfl (Io rfl) (.cons rfl rfl rfl rfl (Io rfl) .nil)) rfl
  apply p_do; exact (Aa rfl); exact rfl; exact rfl
  refine AG (C' := zI) rfl rfl (by simp) rfl (Io rfl) rfl ⟨_, rfl, ?_⟩
  apply p_do; exact (Aa rfl); exact rfl; exact rfl
  refine e_st (C' := [.i .i64 0]) rfl rfl rfl (Io rfl) rfl ⟨_, rfl, ?_⟩
  apply p_do; exact (Aa rfl); exact rfl; exact rfl
  refine AG (C' := [.i .i64 0, .i .i64 54]) rfl rfl (by simp) rfl (Io rfl) rfl ⟨_, rfl, ?_⟩
  refine wo ?_
  exact Ay (Ag (FP (AB rfl rfl) (rv_cell1 rfl rfl) (AB rfl rfl)) ⟨[], cle, _, rfl, rfl⟩)
 rw [if_neg g]
 obtain ⟨r, hr⟩ := FE (2 * b.length + 1) b 0 b.length 0 (Nat.zero_le _) (by omega)
 rw [hr]
 dsimp only
 apply wm; iterate 5 exact rfl
 refine Af (v := .b false) rfl rfl (Bm (by omega))
 refine wo ?_
 apply wn; iterate 5 exact rfl
 refine pv_mkfn rfl rfl
 refine HT (Aa rfl) rfl rfl rfl rfl rfl ?_
 refine wo ?_
 apply wn; iterate 5 exact rfl
 refine Av (C := [.sl A b.length c o, .i .i64 0]) (.cons rfl rfl rfl rfl (Io rfl) .nil) rfl
 apply p_op; exact (Aa rfl); iterate 4 exact rfl
 refine Br rfl rfl fun br => ⟨_, rfl, ?_⟩
 refine wo ?_
 cases r with
 | error x =>
  refine p_callP [rdO br (.sl A b.length c o) 0] (R := fun y _ => y = flt x) (Aa rfl) rfl rfl (fun hp' hs ht => (reads _).1 ht (hb.give hs) hc (Nat.zero_le _) (Nat.le_refl _) (by omega) (by decide) hr) ?_
  rintro y N rfl
  refine ⟨.pan (flt x) false, rfl, fun hp' hs => ?_⟩
  obtain ⟨r, u', hp2, L2, h1, h2, h3, rfl, rfl, bt, o', rfl⟩ := read1_df (x := x) (b2 := b2) (b3 := b3) (b4 := b4) (c2 := zI) (c3 := [.i .i64 0]) (c4 := [.i .i64 0, .i .i64 0]) (L := []) rfl rfl rfl hp' (hs.tail.pick [2, 1, 0] _ rfl (by decide))
  exact ⟨_, _, hp2, _, h1, h2, h3, _, FP (AB rfl rfl) (rv_cell1 rfl rfl) (AB rfl rfl), [], cle, _, rfl, rfl⟩
 | ok tq =>
  obtain ⟨t, q⟩ := tq
  apply Db ([rdO br (.sl A b.length c o) 0]); exact (Aa rfl); iterate 4 exact rfl
  case hC => exact (fun hp' hs ht => (reads _).1 ht (hb.give hs) hc (Nat.zero_le _) (Nat.le_refl _) (by omega) (by decide) hr)
  rintro u N ⟨a1, a2, a3, X, rfl, rfl, hX⟩
  apply p_do; exact (Aa rfl); exact rfl; exact rfl
  refine AG (C' := [a1, a2, a3]) rfl rfl (by simp) rfl (Io rfl) rfl ⟨_, rfl, ?_⟩
  refine He (fun hp hs => (⟨nin1 (b := br) (b' := b2) hs (by omega), nin1 (b := br) (b' := b3) hs (by omega), nin1 (b := br) (b' := b4) hs (by omega), nin1 (b := b2) (b' := b3) hs (by omega), nin1 (b := b2) (b' := b4) hs (by omega)⟩ : NotIn br [b2] ∧ NotIn br [b3] ∧ NotIn br [b4] ∧ NotIn b2 [b3] ∧ NotIn b2 [b4])) fun ⟨n2, n3, n4, n5, n6⟩ => ?_
  refine wo ?_
  refine yX (AO (s := 2) (cs := [a1, a2, a3]) rfl rfl rfl) ?_
  refine wo ?_
  apply dn; iterate 5 exact rfl
  refine Av (C := [.i .i64 0, .i .i64 0]) .nil rfl
  apply d_do; exact (Aa rfl); exact rfl; exact noRd rfl; decide +kernel; exact rfl; rotate_left
  refine AG (C' := [a1, a2, a3]) rfl rfl (by simp) rfl (Io rfl) rfl ⟨_, rfl, ?_⟩
  try (case hok => repeat (first | exact rdOk_e | refine rdOk_d (by decide +kernel) ?_ | refine rdOk_n ?_))
  apply d_do; exact (Aa rfl); exact rfl; exact noRd rfl; decide +kernel; exact rfl; rotate_left
  refine e_st (C' := [.i .i64 (q : Nat)]) rfl rfl rfl (Io rfl) rfl ⟨_, rfl, ?_⟩
  try (case hok => exact Bf (by decide +kernel))
  apply d_do; exact (Aa rfl); exact rfl; exact noRd rfl; decide +kernel; exact rfl; rotate_left
  refine AG (C' := [.i .i64 0, .i .i64 0]) rfl rfl (by simp) rfl (Io rfl) rfl ⟨_, rfl, ?_⟩
  try (case hok => exact Bf (by decide +kernel))
  refine wo ?_
  refine Ay ⟨.ret, rfl, fun hp' hs => ?_⟩
  obtain ⟨r, u', hp2, L2, h1, h2, h3, rfl, rfl, rfl⟩ := read1_df0 (b2 := b2) (b3 := b3) (b4 := b4) hp' hs
  exact ⟨_, _, hp2, _, h1, h2, h3, _, FP (AB rfl rfl) (rv_cell1 rfl rfl) (AB rfl rfl), X, cle, _, rfl, a1, a2, a3, rfl, hX⟩
set_option maxHeartbeats 16000000 in
theorem decode_d {A : Option (Nat × Nat)} {b : List UInt8} {c : Nat} {o : Bool} {hp : Hp} (ho : OkH hp) (hb : RB ⟨hp, []⟩ A (b.map byV)) (hc : b.length ≤ c) :
  Fn kxD 78 [.sl A b.length c o] hp [] fun r N => match decS b with
   | .error x => ∃ u, r = .v u ∧ u = .tup [.agg zI, .i .i64 (x.1 : Nat), .i .i64 (x.2 : Nat)]
   | .ok t => ∃ u, r = .v u ∧ ∃ a1 a2 a3, u = .tup [.agg [a1, a2, a3], .i .i64 0, .i .i64 0] ∧ ItX N t [a1, a2, a3] := by
 refine Fn.dropC ?_
 rw [decS_of]
 refine Au (T := []) ho.sv (fun _ => rfl) (fn := Tryz.f78) (by kernel_rfl) rfl rfl ?_
 refine wo ?_
 apply p_op; exact (Aa rfl); iterate 4 exact rfl
 refine As rfl fun b2 => ⟨_, rfl, ?_⟩
 refine wo ?_
 cases hS : readS b with
 | error x =>
  have hx := readS_err hS
  have hC : ∀ {L : HV} {hp' : Hp}, SV ⟨hp, []⟩ hp' L → OkH hp' → Fn kxD 104 [.sl A b.length c o] hp' [] fun r N => ∃ u, r = .v u ∧ u = .tup [.agg zI, .i .i64 0, .agg [.i .i64 (x.1 : Nat), .i .i64 (x.2 : Nat)]] := fun hs ho => by
   have := read_d (o := o) ho (hb.give0 hs) hc
   rw [hS] at this
   exact this
  apply AU []; exact (Aa rfl); iterate 4 exact rfl
  case hC => exact (fun hp' hs ht => hC hs hs.ok)
  rintro u N rfl
  refine wo ?_
  apply p_op; exact (Aa rfl); iterate 4 exact rfl
  refine As rfl fun b5 => ⟨_, rfl, ?_⟩
  apply p_op; exact (Aa rfl); iterate 4 exact rfl
  refine As rfl fun b7 => ⟨_, rfl, ?_⟩
  apply p_do; exact (Aa rfl); exact rfl; exact rfl
  refine AG (C' := zI) rfl rfl (by simp) rfl (Io rfl) rfl ⟨_, rfl, ?_⟩
  refine wo ?_
  apply p_do; exact (Aa rfl); exact rfl; exact rfl
  refine AG (C' := [.i .i64 (x.1 : Nat), .i .i64 (x.2 : Nat)]) rfl rfl (by simp) rfl (Io rfl) rfl ⟨_, rfl, ?_⟩
  refine He (fun hp hs => nin1 (b := b7) (b' := b2) hs (by omega)) fun n2 => ?_
  refine wo ?_
  apply wm; iterate 5 exact rfl
  refine Af (v := .b true) rfl rfl (Cu (by omega))
  refine wo ?_
  apply dn; iterate 5 exact rfl
  refine Av (C := zI) .nil rfl
  refine wo ?_
  apply d_do; exact (Aa rfl); exact rfl; exact noRd rfl; decide +kernel; exact rfl; rotate_left
  refine AG (C' := zI) rfl rfl (by simp) rfl (Io rfl) rfl ⟨_, rfl, ?_⟩
  try (case hok => exact rdOk_c)
  refine wo ?_
  exact Ay (Ag (FP (AB rfl rfl) (Ai rfl) (Ai rfl)) ⟨[], cle, _, rfl, rfl⟩)
 | ok tq =>
  obtain ⟨t, q⟩ := tq
  dsimp only
  have hC : ∀ {L : HV} {hp' : Hp}, SV ⟨hp, []⟩ hp' L → OkH hp' → Fn kxD 104 [.sl A b.length c o] hp' [] fun r N => ∃ u, r = .v u ∧ ∃ a1 a2 a3, u = .tup [.agg [a1, a2, a3], .i .i64 (q : Nat), .agg [.i .i64 0, .i .i64 0]] ∧ ItX N t [a1, a2, a3] := fun hs ho => by
   have := read_d (o := o) ho (hb.give0 hs) hc
   rw [hS] at this
   exact this
  apply AU []; exact (Aa rfl); iterate 4 exact rfl
  case hC => exact (fun hp' hs ht => hC hs hs.ok)
  rintro u N ⟨a1, a2, a3, rfl, hX⟩
  refine wo ?_
  apply p_op; exact (Aa rfl); iterate 4 exact rfl
  refine As rfl fun b5 => ⟨_, rfl, ?_⟩
  apply p_op; exact (Aa rfl); iterate 4 exact rfl
  refine As rfl fun b7 => ⟨_, rfl, ?_⟩
  apply p_do; exact (Aa rfl); exact rfl; exact rfl
  refine AG (C' := [a1, a2, a3]) rfl rfl (by simp) rfl (Io rfl) rfl ⟨_, rfl, ?_⟩
  refine wo ?_
  apply p_do; exact (Aa rfl); exact rfl; exact rfl
  refine AG (C' := [.i .i64 0, .i .i64 0]) rfl rfl (by simp) rfl (Io rfl) rfl ⟨_, rfl, ?_⟩
  refine wo ?_
  apply wm; iterate 5 exact rfl
  refine Af (v := .b false) rfl rfl (AK (by omega))
  refine wo ?_
  by_cases g : q < b.length
  ·rw [if_pos g]
   apply wm; iterate 5 exact rfl
   refine Af (v := .b true) rfl rfl (AL (by omega))
   refine wo ?_
   apply wn; iterate 5 exact rfl
   refine Av (C := zI) .nil rfl
   refine wo ?_
   apply p_do; exact (Aa rfl); exact rfl; exact rfl
   refine AG (C' := zI) rfl rfl (by simp) rfl (Io rfl) rfl ⟨_, rfl, ?_⟩
   refine wo ?_
   exact Ay (Ag (FP (AB rfl rfl) (Ai rfl) (Ai rfl)) ⟨[], cle, _, rfl, rfl⟩)
  ·rw [if_neg g]
   apply wm; iterate 5 exact rfl
   refine Af (v := .b false) rfl rfl (AF (by omega))
   refine wo ?_
   refine zX (AO (s := 2) (cs := [a1, a2, a3]) rfl rfl rfl) ?_
   apply p_do; exact (Aa rfl); exact rfl; exact rfl
   refine AG (C' := [a1, a2, a3]) rfl rfl (by simp) rfl (Io rfl) rfl ⟨_, rfl, ?_⟩
   refine wo ?_
   exact Ay (Ag (FP (AB rfl rfl) (Ai rfl) (Ai rfl)) ⟨N, cle, _, rfl, a1, a2, a3, rfl, hX⟩)
end Go.Proofs.YtbmkclbghfbegaaGreatDoor
