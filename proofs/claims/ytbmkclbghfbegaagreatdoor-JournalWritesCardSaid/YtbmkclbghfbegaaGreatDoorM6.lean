/- Part 6 of the proof: Wl, Wo, Dla, Dm1, Dm2, Ds4, Ds5, Ds6, Ds7, Ds8, Ds9, Ds10, Ds11, Ds12, Ds13, Ds14, Ds15, Ds16, Wr, Dn1, Ds17, Dn2, Dlb, Wv, Wx, Js1, Js2, Js3, Js4, Js5, Je, Jk. By this project. -/
import Derived.Test.YtbmkclbghfbegaaGreatDoorM5
import Derived.ChangeSlices
import Derived.Deep.Slices
import Derived.JoinedOf
import Derived.Deep.DeepHandedRow
set_option linter.unusedVariables false
set_option linter.unusedSectionVars false
set_option linter.unusedSimpArgs false
set_option maxRecDepth 100000
/- Wl: a law whose arguments hold slices of bytes: from a contract of the machine to a call in the world. By this project. -/
set_option maxRecDepth 100000
namespace Go.Proofs.YtbmkclbghfbegaaGreatDoor
open Go.RowKit Go.Extern.Stop
structure BV where
 A : Option Addr
 xs : List UInt8
 c : Nat
 T : TypeId
 ex : Nat
structure BvOk (W : World) (q : BV) : Prop where
 emp : q.A = none → q.xs = []
 spot : ∀ a, q.A = some a → a.spot = none
 at' : ∀ a, q.A = some a → q.xs ≠ [] → ∃ pre sp fz, W.heap[a.block]? = some (.cells (pre ++ q.xs.map cell ++ sp).toArray q.T fz) ∧ pre.length = a.off ∧ sp.length = q.ex
def notByte : V → Bool
 | .i .u8 _ => false
 | .i _ _ => true
 | .b _ => true
 | _ => false
theorem roB_view (i : Nat) : roB (65 + 4 * i) = true := by
 have e : (65 + 4 * i) % 2 = 1 := by omega
 have e2 : Nat.ble gMax (65 + 4 * i) = true := ble_t (by show 64 ≤ _; omega)
 unfold roB
 rw [e2]
 show Nat.beq ((65 + 4 * i) % 2) 1 = true
 rw [e]
 rfl
theorem wk_view (i : Nat) : wkB (65 + 4 * i) = false := by
 have e : (65 + 4 * i) % 4 = 1 := by omega
 unfold wkB
 split
 ·rename_i h
  have h : (65 + 4 * i) % 4 = 3 := Nat.eq_of_beq_eq_true h
  omega
 ·rfl
theorem renL_bytes {E : Env} : ∀ (xs : List UInt8), renL E (xs.map byV) = some (xs.map cell)
 | [] => rfl
 | x :: r => by
  have e : ren E (byV x) = some (cell x) := rfl
  simp [renL, e, renL_bytes r]
section
variable {gs : Gs} {bs : List BV} {W : World} (hg : ∀ x ∈ gs, GOk W x) (hnb : ∀ x ∈ gs, x.2.1.all notByte = true) (hb : ∀ q ∈ bs, BvOk W q)
include hg hnb hb
end
end Go.Proofs.YtbmkclbghfbegaaGreatDoor
/- Wo: opening slices of bytes and rows of bytes that are handed in. By this project. -/
namespace Go.Proofs.YtbmkclbghfbegaaGreatDoor
open Go.ChangeShapes Go.WideShapes Go.ChangeAt Go.RowKit Go.Extern.Stop
theorem okWide_agg {P : Program} {w : World} {r : Reach} {base : Nat} {t : TypeId} {v : Value} {ts : List TypeId} {n : Nat} (hrow : rowT P t = some true) (hn : P.cellsOf t = n) (hts : P.cellTypes P.depth t = some ts) (hl : ts.length = n) (h : Value.okWide P w r base t v) :
  ∃ C : List Value, v = .agg C.toArray ∧ C.length = n ∧ ∀ (i : Nat) (x : Value) (u : TypeId), C[i]? = some x → ts[i]? = some u → Cell.okWide P w r base u x := by
 unfold rowT at hrow
 cases hu : P.underlying t with
 | none => rw [hu] at hrow; simp at hrow
 | some d =>
  rw [hu] at hrow
  have key : (∃ cs, v = .agg cs ∧ cs.size = P.cellsOf t ∧ Row.okWide P w r base t cs) := by
   unfold Value.okWide at h
   rw [hu] at h
   cases d <;> first | exact h | simp at hrow
  obtain ⟨cs, rfl, hsz, ts', hts', _, hc⟩ := key
  rw [hts] at hts'
  obtain rfl := Option.some.inj hts'
  refine ⟨cs.toList, by simp, by simpa [hn] using hsz, fun i x u hx hu' => ?_⟩
  have hi : i < n := by have := (List.getElem?_eq_some_iff.1 hu').1; omega
  obtain ⟨u2, h1, h2⟩ := hc i x (by simpa using hx)
  rw [hl, Nat.mod_eq_of_lt hi, hu'] at h1
  obtain rfl := Option.some.inj h1
  exact h2
theorem okWide_cell_int {P : Program} {w : World} {r : Reach} {base : Nat} {t : TypeId} {v : Value} {k : IntKind} (ht : intT P t = some k) (h : Cell.okWide P w r base t v) : ∃ n, v = .int k n ∧ k.has n := by
 have hu := und_int ht
 unfold Cell.okWide at h
 rw [hu] at h
 have h' : Cell.ok P w r base t v := by cases v <;> exact h
 unfold Cell.ok at h'
 rw [hu] at h'
 cases v <;> simp at h'
 obtain ⟨rfl, h2⟩ := h'
 exact ⟨_, rfl, h2⟩
open Go.Extern.Stop in
theorem bytes_of_cells : ∀ (L : List Value), (∀ v ∈ L, ∃ n, v = .int .u8 n ∧ IntKind.u8.has n) → ∃ xs : List UInt8, L = xs.map cell
 | [], _ => ⟨[], rfl⟩
 | v :: r, h => by
  obtain ⟨n, rfl, hn⟩ := h v (by simp)
  obtain ⟨xs, rfl⟩ := bytes_of_cells r (fun v hv => h v (by simp [hv]))
  refine ⟨UInt8.ofNat n.toNat :: xs, ?_⟩
  have h1 : 0 ≤ n ∧ n ≤ 255 := by simpa [IntKind.has, IntKind.min, IntKind.max, IntKind.signed, IntKind.bits] using hn
  have : ((UInt8.ofNat n.toNat).toNat : Int) = n := by simp; omega
  show _ = Value.int .u8 ((UInt8.ofNat n.toNat).toNat : Int) :: _
  rw [this]
theorem seg_bytes {P : Program} {w : World} {r : Reach} {base : Nat} {ts : List TypeId} {C : List Value} {o n : Nat} {e : TypeId} (he : intT P e = some .u8) (hC : o + n ≤ C.length) (hts : ∀ i, i < n → ts[o + i]? = some e)
  (h : ∀ (i : Nat) (x : Value) (u : TypeId), C[i]? = some x → ts[i]? = some u → Cell.okWide P w r base u x) : ∃ xs : List UInt8, (C.drop o).take n = xs.map cell := by
 refine bytes_of_cells _ fun v hv => ?_
 obtain ⟨i, hi, rfl⟩ := List.mem_iff_getElem.1 hv
 have hin : i < n := by simp at hi; omega
 have hx : C[o + i]? = some ((C.drop o).take n)[i] := by
  rw [List.getElem_take, List.getElem_drop]
  exact List.getElem?_eq_getElem _
 exact okWide_cell_int he (h _ _ _ hx (hts i hin))
section
variable {H : Type} {enc : TypeId × Value → H} {P : Program} {W : World} {base : Nat} {held : Bool} {t e q : TypeId}
structure OpenB (W : World) (v : Value) (xs : List UInt8) (d : DataW H) : Prop where
 get : ∃ A c, v = .slice A xs.length c ∧ xs.length ≤ c ∧ RW W A (xs.map cell)
 shape : xs = [] ∨ ∃ elems spare, d = .slice elems spare ∧ elems.length = xs.length
theorem open_b (ht : sliceT P t = some e) (he : intT P e = some .u8) (hc : P.cellsOf e = 1) {fuel : Nat} {cs : List Value} {d : DataW H} {ps : List MemPlace} (h : DataW.trod enc P W base (fun _ => true) held fuel t cs = some (d, ps)) :
  ∃ v xs, cs = [v] ∧ OpenB W v xs d := by
 rcases open_ints (und_slice ht) (und_int he) hc h with ⟨rfl, hx⟩ | ⟨a, len, cap, zs, rfl, hb, hl, hm, hz, hx, hcell, hwf⟩
 ·exact ⟨_, [], rfl, ⟨none, 0, rfl, Nat.le_refl _, fun j v hv => by simp at hv⟩, .inl rfl⟩
 ·simp only [if_true] at hz
  simp only [Prod.mk.injEq] at hx
  obtain ⟨rfl, _⟩ := hx
  obtain ⟨xs, hxs⟩ := bytes_of_cells ((zs.take len).map fun n => .int .u8 n) (fun v hv => by
   obtain ⟨n, hn, rfl⟩ := List.mem_map.1 hv
   refine ⟨n, rfl, ?_⟩
   have := hwf n (List.mem_of_mem_take hn)
   simpa [Lit.wf, IntKind.has] using this)
  have hlen : xs.length = len := by
   have := congrArg List.length hxs
   simp at this
   omega
  refine ⟨_, xs, by rw [← hlen], ⟨some a, cap, rfl, by omega, fun j v hv => ?_⟩, .inr ⟨_, _, rfl, by simp [lits]; omega⟩⟩
  ·rw [← hxs, List.getElem?_map, List.getElem?_take] at hv
   split at hv
   ·rename_i hj
    have h1 := hcell j (by omega)
    have hj2 : j < zs.length := by omega
    rw [List.getElem?_eq_getElem hj2, Option.map_some, Option.some.injEq] at hv
    refine ⟨a, rfl, ?_⟩
    rw [h1, ← hv]
    simp [List.getD, hj2]
   ·simp at hv
theorem okWide_int {r : Reach} {v : Value} {k : IntKind} (ht : intT P t = some k) (h : Value.okWide P W r base t v) : ∃ n, v = .int k n ∧ k.has n := by
 refine okWide_cell_int (w := W) (r := r) (base := base) ht ?_
 have hu := und_int ht
 unfold Value.okWide at h
 rw [hu] at h
 exact h
end
end Go.Proofs.YtbmkclbghfbegaaGreatDoor
/- Dla: sha's tables at a law's beginning; what the machine is told holds. By this project. -/
set_option maxRecDepth 100000
namespace Go.Proofs.YtbmkclbghfbegaaGreatDoor
open Go.ChangeShapes Go.WideShapes Go.ChangeAt Go.RowKit Go.Extern.Stop
abbrev shaGs : Gs := [(4, kW.map wV, 237), (3, firstW.map wV, 220)]
theorem sha_nb : ∀ x ∈ shaGs, x.2.1.all notByte = true := by
 intro x hx
 simp only [shaGs, List.mem_cons, List.not_mem_nil, or_false] at hx
 rcases hx with rfl | rfl <;> kernel_rfl
theorem kxD_ok (n : Nat) : CallOk Tryz.prog (vcall kxD.C kxD.ext kxD.extd n) := vcall_ok0 (orExt_ok mu_ext (orExt_ok shaExt_ok (orExt_ok srtExt_ok apExt_ok))) mu_extd n
end Go.Proofs.YtbmkclbghfbegaaGreatDoor
/- Dm1: a block as the document mixes it: turned, words, mixed of cairnref02 on the machine. By this project. -/
set_option maxRecDepth 100000
namespace Go.Proofs.YtbmkclbghfbegaaGreatDoor
open Go.RowKit Go.Extern.Stop
theorem turned_v (x n : Nat) (hn : n ≤ 32) {hp : Hp} (ho : OkH hp) : Fn kxD 158 [wV x, .i .i64 (n : Int)] hp [] fun r _ => r = .v (wV (rotW x n)) := by
 refine fn_of_w (T := []) ho.sv (fun _ => rfl) (fn := Tryz.f158) (by kernel_rfl) rfl rfl ?_
 refine wo ?_
 apply dm; iterate 6 exact rfl
 refine mw_shr rfl rfl hn
 refine wo ?_
 apply dm; iterate 6 exact rfl
 refine mw_shl rfl rfl (by omega)
 apply dm; iterate 6 exact rfl
 refine mw_or rfl rfl
 refine wo ?_
 refine w_ret (wend_ret (vres1 (rv_tmp rfl)) ?_)
 unfold rotW
 rfl
set_option maxHeartbeats 4000000 in
theorem words_v (h o c : Nat) (op : Bool) (b : List UInt8) (hb : b.length = 64) {hp : Hp} (ho : OkH hp) (hr : RO hp (some (h, o)) (b.map byV)) : Fn kxD 157 [.sl (some (h, o)) 64 c op] hp [] fun r _ => r = .v (.agg ((wExp b 64).map wV)) := by
 refine fn_of_w (T := []) ho.sv (fun _ => rfl) (fn := Tryz.f157) (by kernel_rfl) rfl rfl ?_
 refine wo ?_
 apply p_op; exact (vwant_n rfl); iterate 4 exact rfl
 refine e_alloc rfl fun br => ⟨_, rfl, ?_⟩
 refine wo ?_
 apply p_op; exact (vwant_n rfl); iterate 4 exact rfl
 refine e_alloc rfl fun bw => ⟨_, rfl, ?_⟩
 refine wo ?_
 refine w_seq ?_
 refine wo ?_
 refine w_loop (ι := Nat) (fun t => [(4, .i .i64 (t : Nat)), (3, .p (some (bw, 0))), (2, .p (some (br, 0))), (0, .sl (some (h, o)) 64 c op)]) (fun t => [(some bw, cellsO (wCV b t) 237), (some br, cellsO (List.replicate 64 (wV 0)) 237)]) (fun t => t ≤ 16) (fun t => 16 - t) 0 (Nat.zero_le _) ⟨rfl, rfl, rfl, rfl, trivial⟩ (fun hp h => by rw [wCV_zero, wV_zero]; exact h) ?_
 intro t ht
 refine wo ?_
 by_cases c1 : t < 16
 rotate_left
 ·apply wm; iterate 5 exact rfl
  refine mv_int (v := .b false) rfl rfl (vi_lssF (by omega))
  refine wo ?_
  refine w_exit ?_
  obtain rfl : t = 16 := by omega
  refine wo ?_
  refine w_seq ?_
  refine wo ?_
  refine w_loop (ι := Nat) (fun t => [(5, .i .i64 (t : Nat)), (3, .p (some (bw, 0))), (2, .p (some (br, 0)))]) (fun t => [(some bw, cellsO (wCV b t) 237), (some br, cellsO (List.replicate 64 (wV 0)) 237)]) (fun t => 16 ≤ t ∧ t ≤ 64) (fun t => 64 - t) 16 ⟨Nat.le_refl _, by omega⟩ ⟨rfl, rfl, rfl, trivial⟩ (fun hp h => h) ?_
  rintro t ⟨h16, ht⟩
  refine wo ?_
  by_cases c2 : t < 64
  rotate_left
  ·apply wm; iterate 5 exact rfl
   refine mv_int (v := .b false) rfl rfl (vi_lssF (by omega))
   refine wo ?_
   refine w_exit ?_
   obtain rfl : t = 64 := by omega
   refine wo ?_
   refine zX (m_ldln (s := 63) (cs := wCV b 64) rfl (List.take_of_length_le (by rw [List.drop_zero]; exact Nat.le_of_eq (wCV_len b (by omega)))) (wCV_len b (by omega))) ?_
   apply p_do; exact (vwant_n rfl); exact rfl; exact rfl
   refine e_stn (C := List.replicate 64 (wV 0)) (C' := wCV b 64) rfl rfl (fun e => by have := wCV_len b (t := 64) (by omega); rw [e] at this; simp at this) (wCV_len b (by omega)) (by simp) (by unfold overV; rw [wCV_len b (by omega)]; simp) ⟨_, rfl, ?_⟩
   refine wo ?_
   refine w_ret (wend_ret (vres1 ?_) rfl)
   intro fr hp2 hf hs
   have h1 := hf.look 2 _ rfl
   have h2 := (hs.has 1 br _ rfl).1
   simp only [h1, Option.bind_some, ptrV, cellsAt, Hp.get, h2, partV]
   show (tiV vC 237).bind _ = _
   rw [wt237]
   simp only [Option.bind_some]
   show (cutL (wCV b 64) 0 64).bind _ = _
   rw [cutL_mk (by rw [wCV_len b (by omega)]; omega), List.drop_zero, List.take_of_length_le (by rw [wCV_len b (by omega)]; omega), wCV_all]
   rfl
  apply wm; iterate 5 exact rfl
  refine mv_int (v := .b true) rfl rfl (vi_lssT (by omega))
  refine wo ?_
  apply wn; iterate 5 exact rfl
  refine p_iaa rfl rfl (by omega)
  refine zX (m_ldl rfl (by rw [Nat.zero_add]; exact wCV_at b (i := t - 15) (by omega))) ?_
  refine wo ?_
  apply wn; iterate 5 exact rfl
  refine p_iaa rfl rfl (by omega)
  refine zX (m_ldl rfl (by rw [Nat.zero_add]; exact wCV_at b (i := t - 2) (by omega))) ?_
  refine wo ?_
  refine p_callq (vwant_n rfl) rfl rfl rfl rfl (fun hp hs => turned_v _ 7 (by decide) hs.ok) ?_
  refine wo ?_
  refine p_callq (vwant_n rfl) rfl rfl rfl rfl (fun hp hs => turned_v _ 18 (by decide) hs.ok) ?_
  apply wm; iterate 5 exact rfl
  refine mw_xor rfl rfl
  refine wo ?_
  apply wm; iterate 5 exact rfl
  refine mw_shr (n := 3) rfl rfl (by decide)
  apply wm; iterate 5 exact rfl
  refine mw_xor rfl rfl
  refine wo ?_
  refine p_callq (vwant_n rfl) rfl rfl rfl rfl (fun hp hs => turned_v _ 17 (by decide) hs.ok) ?_
  refine wo ?_
  refine p_callq (vwant_n rfl) rfl rfl rfl rfl (fun hp hs => turned_v _ 19 (by decide) hs.ok) ?_
  apply wm; iterate 5 exact rfl
  refine mw_xor rfl rfl
  refine wo ?_
  apply wm; iterate 5 exact rfl
  refine mw_shr (n := 10) rfl rfl (by decide)
  apply wm; iterate 5 exact rfl
  refine mw_xor rfl rfl
  refine wo ?_
  apply dn; iterate 5 exact rfl
  refine p_iaa rfl rfl (by omega)
  refine yX (m_ldl rfl (by rw [Nat.zero_add]; exact wCV_at b (i := t - 7) (by omega))) ?_
  apply dm; iterate 6 exact rfl
  refine mw_add rfl rfl
  refine wo ?_
  apply dm; iterate 6 exact rfl
  refine mw_add rfl rfl
  refine wo ?_
  apply dn; iterate 5 exact rfl
  refine p_iaa rfl rfl (by omega)
  refine yX (m_ldl rfl (by rw [Nat.zero_add]; exact wCV_at b (i := t - 16) (by omega))) ?_
  apply dm; iterate 6 exact rfl
  refine mw_add rfl rfl
  apply dn; iterate 5 exact rfl
  refine p_iaa rfl rfl (by omega)
  apply d_do; exact (vwant_n rfl); exact rfl; exact noRd rfl; decide +kernel; exact rfl; rotate_left
  refine e_st (C := wCV b t) rfl rfl (wV_cells _) (by rw [wCV_len b ht]; omega) rfl ⟨_, rfl, ?_⟩
  try (case hok => exact rdOk_b (by decide +kernel))
  refine wo ?_
  refine ⟨rfl, t + 1, ⟨by omega, by omega⟩, by omega, ⟨rfl, rfl, rfl, trivial⟩, fun hp h => ?_⟩
  rw [Nat.zero_add, wCV_succ b c2 (by rw [wNext, if_neg (by omega), addW_ref]; rfl)] at h
  exact h
 apply wm; iterate 5 exact rfl
 refine mv_int (v := .b true) rfl rfl (vi_lssT (by omega))
 refine wo ?_
 apply dn; iterate 5 exact rfl
 refine p_ia rfl rfl (by omega)
 apply dm; iterate 6 exact rfl
 refine m_ldN (j := 4 * t) rfl hr (now0 hr) (by omega) (bV_at (j := 4 * t) (by omega))
 apply dm; iterate 6 exact rfl
 refine mw_c8 rfl
 apply dm; iterate 6 exact rfl
 refine mw_shl (n := 24) rfl rfl (by decide)
 refine wo ?_
 apply dn; iterate 5 exact rfl
 refine p_ia rfl rfl (by omega)
 apply dm; iterate 6 exact rfl
 refine m_ldN (j := 4 * t + 1) rfl hr (now0 hr) (by omega) (bV_at (j := 4 * t + 1) (by omega))
 apply dm; iterate 6 exact rfl
 refine mw_c8 rfl
 apply dm; iterate 6 exact rfl
 refine mw_shl (n := 16) rfl rfl (by decide)
 apply dm; iterate 6 exact rfl
 refine mw_or rfl rfl
 refine wo ?_
 apply dn; iterate 5 exact rfl
 refine p_ia rfl rfl (by omega)
 apply dm; iterate 6 exact rfl
 refine m_ldN (j := 4 * t + 2) rfl hr (now0 hr) (by omega) (bV_at (j := 4 * t + 2) (by omega))
 apply dm; iterate 6 exact rfl
 refine mw_c8 rfl
 apply dm; iterate 6 exact rfl
 refine mw_shl (n := 8) rfl rfl (by decide)
 apply dm; iterate 6 exact rfl
 refine mw_or rfl rfl
 refine wo ?_
 apply dn; iterate 5 exact rfl
 refine p_ia rfl rfl (by omega)
 apply dm; iterate 6 exact rfl
 refine m_ldN (j := 4 * t + 3) rfl hr (now0 hr) (by omega) (bV_at (j := 4 * t + 3) (by omega))
 apply dm; iterate 6 exact rfl
 refine mw_c8 rfl
 apply dm; iterate 6 exact rfl
 refine mw_or rfl rfl
 apply dn; iterate 5 exact rfl
 refine p_iaa rfl rfl (by omega)
 apply d_do; exact (vwant_n rfl); exact rfl; exact noRd rfl; decide +kernel; exact rfl; rotate_left
 refine e_st (C := wCV b t) rfl rfl (wV_cells _) (by rw [wCV_len b (by omega)]; omega) rfl ⟨_, rfl, ?_⟩
 try (case hok => exact rdOk_b (by decide +kernel))
 refine wo ?_
 refine ⟨rfl, t + 1, by omega, by omega, ⟨rfl, rfl, rfl, rfl, trivial⟩, fun hp h => ?_⟩
 rw [Nat.zero_add, wCV_succ b (by omega) (by rw [wNext, if_pos c1]; rfl)] at h
 exact h
end Go.Proofs.YtbmkclbghfbegaaGreatDoor
/- Dm2: a block as the document mixes it: mixed of cairnref02 on the machine. By this project. -/
set_option maxRecDepth 100000
namespace Go.Proofs.YtbmkclbghfbegaaGreatDoor
open Go.RowKit Go.Extern.Stop
attribute [local irreducible] wV
theorem addW_comm (a b : Nat) : addW a b = addW b a := by
 unfold addW
 show (a + b) % 4294967296 = (b + a) % 4294967296
 omega
def sumV (ws V : List Nat) (k : Nat) : List Nat := (List.zipWith addW ws V).take k ++ V.drop k
theorem sumV_len {ws V : List Nat} {k : Nat} (h : ws.length = 8) (h2 : V.length = 8) (hk : k ≤ 8) : (sumV ws V k).length = 8 := by simp [sumV, h, h2]; omega
theorem sumV_at {ws V : List Nat} {k : Nat} (h : ws.length = 8) (h2 : V.length = 8) (hk : k < 8) : wordN (sumV ws V k) k = wordN V k := by
 unfold sumV wordN
 rw [List.getD_eq_getElem?_getD, List.getD_eq_getElem?_getD, List.getElem?_append_right (by simp [h, h2]; omega), List.getElem?_drop]
 congr 2
 simp [h, h2]; omega
theorem sumV_set {ws V : List Nat} {k : Nat} (h : ws.length = 8) (h2 : V.length = 8) (hk : k < 8) : (sumV ws V k).set k (addW (wordN V k) (wordN ws k)) = sumV ws V (k + 1) := by
 rw [addW_comm]
 unfold sumV wordN
 have hl : ((List.zipWith addW ws V).take k).length = k := by simp [h, h2]; omega
 rw [List.set_append_right _ _ (by omega), hl, Nat.sub_self, List.drop_eq_getElem_cons (by omega), List.set_cons_zero, List.take_succ_eq_append_getElem (by simp [h, h2]; omega)]
 simp only [List.append_assoc, List.cons_append, List.nil_append, List.getElem_zipWith]
 rw [List.getD_eq_getElem?_getD, List.getD_eq_getElem?_getD, List.getElem?_eq_getElem (by omega), List.getElem?_eq_getElem (by omega)]
 rfl
theorem sumV_all {ws V : List Nat} (h : ws.length = 8) (h2 : V.length = 8) : sumV ws V 8 = List.zipWith addW ws V := by
 unfold sumV
 rw [List.take_of_length_le (by simp [h, h2]), List.drop_of_length_le (by omega), List.append_nil]
set_option maxHeartbeats 8000000 in
theorem mixed_v (h o c : Nat) (op : Bool) (ws : List Nat) (b : List UInt8) (hws : ws.length = 8) (hb : b.length = 64) {hp : Hp} (ho : OkH hp) (hr : RO hp (some (h, o)) (b.map byV)) (hk : RO hp (some (2, 0)) (kW.map wV)) :
  Fn kxD 139 [.agg (ws.map wV), .sl (some (h, o)) 64 c op] hp [] fun r _ => r = .v (.agg ((blk ws b).map wV)) := by
 have hne : ∀ {V : List Nat}, V.length = 8 → V.map wV ≠ [] := fun {V} h e => by
  have := congrArg List.length e
  simp [h] at this
 refine fn_of_w (T := []) ho.sv (fun _ => rfl) (fn := Tryz.f139) (by kernel_rfl) rfl rfl ?_
 refine wo ?_
 apply p_op; exact (vwant_n rfl); iterate 4 exact rfl
 refine ev_box rfl rfl fun bs => ⟨_, rfl, ?_⟩
 refine wo ?_
 apply p_op; exact (vwant_n rfl); iterate 4 exact rfl
 refine e_alloc rfl fun br => ⟨_, rfl, ?_⟩
 refine wo ?_
 refine p_callq (vwant_n rfl) rfl rfl rfl rfl (fun hp hs => words_v h o c op b hb hs.ok (ro_kept hr hs)) ?_
 refine wo ?_
 apply p_op; exact (vwant_n rfl); iterate 4 exact rfl
 refine e_alloc rfl fun bw => ⟨_, rfl, ?_⟩
 apply p_do; exact (vwant_n rfl); exact rfl; exact rfl
 refine e_stn (C' := (wExp b 64).map wV) rfl rfl (fun e => by have := congrArg List.length e; simp [wExp_len] at this) (by simp [wExp_len]) (by simp) (by simp [overV, wExp_len]) ⟨_, rfl, ?_⟩
 refine wo ?_
 refine zX (m_ldln (s := 7) rfl (List.take_of_length_le (by simp [hws])) (by simp [hws])) ?_
 apply p_op; exact (vwant_n rfl); iterate 4 exact rfl
 refine e_alloc rfl fun bv => ⟨_, rfl, ?_⟩
 apply p_do; exact (vwant_n rfl); exact rfl; exact rfl
 refine e_stn (C' := ws.map wV) rfl rfl (hne hws) (by simp [hws]) (by simp) (by simp [overV, hws]) ⟨_, rfl, ?_⟩
 refine wo ?_
 refine w_seq ?_
 refine wo ?_
 refine w_loop (ι := Nat) (fun t => [(7, .i .i64 (t : Nat)), (6, .p (some (bv, 0))), (5, .p (some (bw, 0))), (4, .p (some (br, 0))), (2, .p (some (bs, 0)))])
  (fun t => [(some bv, cellsO ((rds ws b t).map wV) 220), (some bw, cellsO ((wExp b 64).map wV) 237), (some br, cellsO (List.replicate 8 (.i .u32 (.ofNat 0))) 220), (some bs, cellsO (ws.map wV) 220)]) (fun t => t ≤ 64) (fun t => 64 - t) 0 (Nat.zero_le _) ⟨rfl, rfl, rfl, rfl, rfl, trivial⟩ (fun hp h => h) ?_
 intro t ht
 have hV := rds_len hws b t
 generalize hVV : rds ws b t = V at hV ⊢
 have h0 : ∀ {u}, u < 8 → (V.map wV)[0 + u]? = some (wV (wordN V u)) := fun {u} hu => by rw [Nat.zero_add]; exact wL_at hV hu
 have h1 : ∀ {u}, u < 64 → ((wExp b 64).map wV)[0 + u]? = some (wV (wordN (wExp b 64) u)) := fun {u} hu => by rw [Nat.zero_add]; exact wL_at (wExp_len b 64) hu
 have h2 : ∀ {u}, u < 64 → (kW.map wV)[u]? = some (wV (wordN kW u)) := fun {u} hu => wL_at (n := 64) rfl hu
 refine wo ?_
 by_cases c1 : t < 64
 rotate_left
 ·apply wm; iterate 5 exact rfl
  refine mv_int (v := .b false) rfl rfl (vi_lssF (by omega))
  refine wo ?_
  refine w_exit ?_
  obtain rfl : t = 64 := by omega
  refine wo ?_
  refine w_seq ?_
  refine wo ?_
  refine w_loop (ι := Nat) (fun k => [(12, .i .i64 (k : Nat)), (6, .p (some (bv, 0))), (4, .p (some (br, 0))), (2, .p (some (bs, 0)))])
   (fun k => [(some bv, cellsO ((sumV ws V k).map wV) 220), (some br, cellsO (List.replicate 8 (.i .u32 (.ofNat 0))) 220), (some bs, cellsO (ws.map wV) 220)]) (fun k => k ≤ 8) (fun k => 8 - k) 0 (Nat.zero_le _) ⟨rfl, rfl, rfl, rfl, trivial⟩ (fun hp h => by
    have e : sumV ws V 0 = V := by simp [sumV]
    rw [e]
    exact h.pick [0, 2, 3] _ rfl (by decide)) ?_
  intro k hk8
  refine wo ?_
  by_cases d1 : k < 8
  rotate_left
  ·apply wm; iterate 5 exact rfl
   refine mv_int (v := .b false) rfl rfl (vi_lssF (by omega))
   refine wo ?_
   refine w_exit ?_
   obtain rfl : k = 8 := by omega
   have hl8 : (sumV ws V 8).length = 8 := sumV_len hws hV (Nat.le_refl _)
   refine wo ?_
   refine zX (m_ldln (s := 7) rfl (List.take_of_length_le (by simp [hl8])) (by simp [hl8])) ?_
   apply p_do; exact (vwant_n rfl); exact rfl; exact rfl
   refine e_stn (C := List.replicate 8 (.i .u32 (.ofNat 0))) (C' := (sumV ws V 8).map wV) rfl rfl (hne hl8) (by simp [hl8]) (by simp) (by simp [overV, hl8]) ⟨_, rfl, ?_⟩
   refine wo ?_
   refine w_ret (wend_ret (vres1 ?_) rfl)
   intro fr hp2 hf hs
   have e1 := hf.look 4 _ rfl
   have e2 := (hs.has 1 br _ rfl).1
   simp only [e1, Option.bind_some, ptrV, cellsAt, Hp.get, e2, partV]
   show (tiV vC 220).bind _ = _
   rw [wt220]
   simp only [Option.bind_some]
   show (cutL ((sumV ws V 8).map wV) 0 8).bind _ = _
   rw [cutL_mk (by simp [hl8]), List.drop_zero, List.take_of_length_le (by simp [hl8]), sumV_all hws hV, ← hVV]
   rfl
  have hSl : (sumV ws V k).length = 8 := sumV_len hws hV hk8
  apply wm; iterate 5 exact rfl
  refine mv_int (v := .b true) rfl rfl (vi_lssT (by omega))
  refine wo ?_
  apply dn; iterate 5 exact rfl
  refine p_iaa rfl rfl (by omega)
  refine yX (m_ldl (v := wV (wordN V k)) rfl (by rw [Nat.zero_add, ← sumV_at hws hV d1]; exact wL_at hSl d1)) ?_
  refine wo ?_
  apply dn; iterate 5 exact rfl
  refine p_iaa rfl rfl (by omega)
  refine yX (m_ldl rfl (by rw [Nat.zero_add]; exact wL_at hws d1)) ?_
  apply dm; iterate 6 exact rfl
  refine mw_add rfl rfl
  apply dn; iterate 5 exact rfl
  refine p_iaa rfl rfl (by omega)
  apply d_do; exact (vwant_n rfl); exact rfl; exact noRd rfl; decide +kernel; exact rfl; rotate_left
  refine e_st (C := (sumV ws V k).map wV) rfl rfl (wV_cells _) (by simp [hSl]; omega) rfl ⟨_, rfl, ?_⟩
  try (case hok => exact rdOk_b (by decide +kernel))
  refine wo ?_
  refine ⟨rfl, k + 1, d1, by omega, ⟨rfl, rfl, rfl, rfl, trivial⟩, fun hp h => ?_⟩
  rw [Nat.zero_add, ← List.map_set, sumV_set hws hV d1] at h
  exact h
 apply wm; iterate 5 exact rfl
 refine mv_int (v := .b true) rfl rfl (vi_lssT (by omega))
 refine wo ?_
 apply wn; iterate 5 exact rfl
 refine p_iaa rfl rfl (by decide)
 refine zX (m_ldl rfl (h0 (by decide))) ?_
 refine wo ?_
 apply wn; iterate 5 exact rfl
 refine p_iaa rfl rfl (by decide)
 refine zX (m_ldl rfl (h0 (u := 0) (by decide))) ?_
 refine wo ?_
 apply dn; iterate 5 exact rfl
 refine p_iaa rfl rfl (by decide)
 refine yX (m_ldl rfl (h0 (by decide))) ?_
 refine wo ?_
 refine d_callq (vwant_n rfl) (by decide +kernel) rfl rfl rfl rfl (fun hp hs => turned_v _ 6 (by decide) hs.ok) ?_
 refine wo ?_
 refine d_callq (vwant_n rfl) (by decide +kernel) rfl rfl rfl rfl (fun hp hs => turned_v _ 11 (by decide) hs.ok) ?_
 apply dm; iterate 6 exact rfl
 refine mw_xor rfl rfl
 refine wo ?_
 refine d_callq (vwant_n rfl) (by decide +kernel) rfl rfl rfl rfl (fun hp hs => turned_v _ 25 (by decide) hs.ok) ?_
 apply dm; iterate 6 exact rfl
 refine mw_xor rfl rfl
 apply dm; iterate 6 exact rfl
 refine mw_add rfl rfl
 refine wo ?_
 apply dn; iterate 5 exact rfl
 refine p_iaa rfl rfl (by decide)
 refine yX (m_ldl rfl (h0 (by decide))) ?_
 apply dm; iterate 6 exact rfl
 refine mw_and rfl rfl
 refine wo ?_
 apply dn; iterate 5 exact rfl
 refine pw_not rfl
 apply dn; iterate 5 exact rfl
 refine p_iaa rfl rfl (by decide)
 refine yX (m_ldl rfl (h0 (by decide))) ?_
 apply dm; iterate 6 exact rfl
 refine mw_and rfl rfl
 apply dm; iterate 6 exact rfl
 refine mw_xor rfl rfl
 apply dm; iterate 6 exact rfl
 refine mw_add rfl rfl
 refine wo ?_
 apply dn; iterate 5 exact rfl
 refine p_iaa rfl rfl c1
 apply dm; iterate 6 exact rfl
 refine m_ldN (j := t) rfl hk (now0 hk) (by omega) (h2 c1)
 apply dm; iterate 6 exact rfl
 refine mw_add rfl rfl
 refine wo ?_
 apply dn; iterate 5 exact rfl
 refine p_iaa rfl rfl c1
 refine yX (m_ldl rfl (h1 c1)) ?_
 apply dm; iterate 6 exact rfl
 refine mw_add rfl rfl
 refine wo ?_
 refine d_callq (vwant_n rfl) (by decide +kernel) rfl rfl rfl rfl (fun hp hs => turned_v _ 2 (by decide) hs.ok) ?_
 refine wo ?_
 refine d_callq (vwant_n rfl) (by decide +kernel) rfl rfl rfl rfl (fun hp hs => turned_v _ 13 (by decide) hs.ok) ?_
 apply dm; iterate 6 exact rfl
 refine mw_xor rfl rfl
 refine wo ?_
 refine d_callq (vwant_n rfl) (by decide +kernel) rfl rfl rfl rfl (fun hp hs => turned_v _ 22 (by decide) hs.ok) ?_
 apply dm; iterate 6 exact rfl
 refine mw_xor rfl rfl
 refine wo ?_
 apply dn; iterate 5 exact rfl
 refine p_iaa rfl rfl (by decide)
 refine yX (m_ldl rfl (h0 (by decide))) ?_
 apply dm; iterate 6 exact rfl
 refine mw_and rfl rfl
 refine wo ?_
 apply dn; iterate 5 exact rfl
 refine p_iaa rfl rfl (by decide)
 refine yX (m_ldl rfl (h0 (by decide))) ?_
 apply dm; iterate 6 exact rfl
 refine mw_and rfl rfl
 apply dm; iterate 6 exact rfl
 refine mw_xor rfl rfl
 apply dn; iterate 5 exact rfl
 refine p_iaa rfl rfl (by decide)
 refine yX (m_ldl rfl (h0 (by decide))) ?_
 apply dn; iterate 5 exact rfl
 refine p_iaa rfl rfl (by decide)
 refine yX (m_ldl rfl (h0 (by decide))) ?_
 apply dm; iterate 6 exact rfl
 refine mw_and rfl rfl
 apply dm; iterate 6 exact rfl
 refine mw_xor rfl rfl
 apply dm; iterate 6 exact rfl
 refine mw_add rfl rfl
 refine wo ?_
 apply wm; iterate 5 exact rfl
 refine mw_add rfl rfl
 apply wn; iterate 5 exact rfl
 refine p_iaa rfl rfl (by decide)
 refine zX (m_ldl rfl (h0 (u := 0) (by decide))) ?_
 apply wn; iterate 5 exact rfl
 refine p_iaa rfl rfl (by decide)
 refine zX (m_ldl rfl (h0 (by decide))) ?_
 apply wn; iterate 5 exact rfl
 refine p_iaa rfl rfl (by decide)
 refine zX (m_ldl rfl (h0 (by decide))) ?_
 apply wn; iterate 5 exact rfl
 refine p_iaa rfl rfl (by decide)
 refine zX (m_ldl rfl (h0 (by decide))) ?_
 refine wo ?_
 apply wm; iterate 5 exact rfl
 refine mw_add rfl rfl
 apply wn; iterate 5 exact rfl
 refine p_iaa rfl rfl (by decide)
 refine zX (m_ldl rfl (h0 (by decide))) ?_
 apply wn; iterate 5 exact rfl
 refine p_iaa rfl rfl (by decide)
 refine zX (m_ldl rfl (h0 (by decide))) ?_
 apply wn; iterate 5 exact rfl
 refine p_iaa rfl rfl (by decide)
 refine zX (m_ldl rfl (h0 (by decide))) ?_
 apply wn; iterate 5 exact rfl
 refine pv_buildA (C := (rnd V (wordN kW t) (wordN (wExp b 64) t)).map wV) rfl rfl (.cons rfl (wV_cells _) rfl rfl (by decide) (.cons rfl (wV_cells _) rfl rfl (by decide) (.cons rfl (wV_cells _) rfl rfl (by decide) (.cons rfl (wV_cells _) rfl rfl (by decide) (.cons rfl (wV_cells _) rfl rfl (by decide) (.cons rfl (wV_cells _) rfl rfl (by decide) (.cons rfl (wV_cells _) rfl rfl (by decide) (.cons rfl (wV_cells _) rfl rfl (by decide) .nil)))))))) rfl
 apply p_do; exact (vwant_n rfl); exact rfl; exact rfl
 refine e_stn (s := 8) (C := V.map wV) (C' := (rnd V (wordN kW t) (wordN (wExp b 64) t)).map wV) rfl rfl (hne (rnd_len _ _ _)) (by rw [List.length_map, rnd_len]) (by simp [hV]) (by have hr := rnd_len V (wordN kW t) (wordN (wExp b 64) t); simp only [overV, List.take_zero, List.nil_append, Nat.zero_add, List.length_map, hr, hV]; rw [List.drop_of_length_le (by simp [hV])]; simp) ⟨_, rfl, ?_⟩
 refine wo ?_
 refine ⟨rfl, t + 1, c1, by omega, ⟨rfl, rfl, rfl, rfl, rfl, trivial⟩, fun hp h => ?_⟩
 rw [rds, hVV]
 exact h
end Go.Proofs.YtbmkclbghfbegaaGreatDoor
/- Ds4: the sum of a sha state. By this project. -/
set_option maxRecDepth 100000
namespace Go.Proofs.YtbmkclbghfbegaaGreatDoor
open Go.RowKit Go.Extern.Stop
def zN (n : Nat) : Nat := (119 - n % 64) % 64
def sizeB (n : Nat) : List UInt8 := (List.range 8).map fun i => UInt8.ofNat (8 * n / 2 ^ (56 - 8 * i))
def padB (m : List UInt8) : List UInt8 := m ++ [128] ++ List.replicate (zN m.length) 0 ++ sizeB m.length
def wB (w : Nat) : List UInt8 := [UInt8.ofNat (w % 4294967296 / 2 ^ 24), UInt8.ofNat (w % 4294967296 / 2 ^ 16), UInt8.ofNat (w % 4294967296 / 2 ^ 8), UInt8.ofNat (w % 4294967296)]
def sumB (m : List UInt8) : List UInt8 := (absN (padB m) ((padB m).length / 64)).flatMap wB
theorem zN_stop {n z : Nat} (h : z ≤ zN n) : (n + 1 + z) % 64 = 56 ↔ z = zN n := by
 unfold zN at *
 omega
theorem sizeB_len (n : Nat) : (sizeB n).length = 8 := by simp [sizeB]
theorem padB_len (m : List UInt8) : (padB m).length % 64 = 0 := by
 simp only [padB, List.length_append, List.length_replicate, sizeB_len, List.length_cons, List.length_nil]
 unfold zN
 omega
theorem flat_len : ∀ ws : List Nat, (ws.flatMap wB).length = 4 * ws.length
 | [] => rfl
 | w :: r => by
  rw [List.flatMap_cons, List.length_append, flat_len r, List.length_cons]
  show 4 + _ = _
  omega
theorem sumB_len (m : List UInt8) : (sumB m).length = 32 := by rw [sumB, flat_len, absN_len]
def szC (n i : Nat) : List V := ((sizeB n).take i).map byV ++ List.replicate (8 - i) (byV 0)
theorem szC_len (n : Nat) {i : Nat} (h : i ≤ 8) : (szC n i).length = 8 := by simp [szC, sizeB_len]; omega
theorem szC_set (n : Nat) {i : Nat} (h : i < 8) : (szC n i).set i (byV (UInt8.ofNat (8 * n / 2 ^ (56 - 8 * i)))) = szC n (i + 1) := by
 unfold szC
 have e : (((sizeB n).take i).map byV).length = i := by simp [sizeB_len]; omega
 rw [List.set_append_right _ _ (by omega), e, Nat.sub_self, show 8 - i = (8 - (i + 1)) + 1 by omega, List.replicate_succ, List.set_cons_zero, List.take_succ_eq_append_getElem (by rw [sizeB_len]; exact h), List.map_append, List.append_assoc]
 simp [sizeB]
theorem szC_all (n : Nat) : szC n 8 = (sizeB n).map byV := by
 unfold szC
 rw [List.take_of_length_le (by rw [sizeB_len]; exact Nat.le_refl 8), Nat.sub_self, List.replicate_zero, List.append_nil]
def smC (ws : List Nat) (i : Nat) : List V := ((ws.take i).flatMap wB).map byV ++ List.replicate (32 - 4 * i) (byV 0)
theorem smC_len {ws : List Nat} (hw : ws.length = 8) {i : Nat} (h : i ≤ 8) : (smC ws i).length = 32 := by
 unfold smC
 rw [List.length_append, List.length_map, flat_len, List.length_replicate, List.length_take]
 omega
theorem smC_set {ws : List Nat} (hw : ws.length = 8) {i w : Nat} (h : i < 8) (hv : ws[i]? = some w) : ((((smC ws i).set (4 * i) (byV (UInt8.ofNat (w % 4294967296 / 2 ^ 24)))).set (4 * i + 1) (byV (UInt8.ofNat (w % 4294967296 / 2 ^ 16)))).set (4 * i + 2) (byV (UInt8.ofNat (w % 4294967296 / 2 ^ 8)))).set (4 * i + 3) (byV (UInt8.ofNat (w % 4294967296))) = smC ws (i + 1) := by
 unfold smC
 have e : (((ws.take i).flatMap wB).map byV).length = 4 * i := by
  rw [List.length_map, flat_len, List.length_take]; omega
 obtain ⟨hi, hw2⟩ := List.getElem?_eq_some_iff.1 hv
 rw [List.take_succ_eq_append_getElem (by omega), hw2, List.flatMap_append, List.map_append, List.append_assoc]
 rw [List.set_append_right _ _ (by omega), List.set_append_right _ _ (by omega), List.set_append_right _ _ (by omega), List.set_append_right _ _ (by omega), e]
 rw [show 32 - 4 * i = (32 - 4 * (i + 1)) + 4 by omega]
 congr 1
 simp only [Nat.sub_self, Nat.add_sub_cancel_left, List.replicate_succ]
 rfl
theorem smC_all {ws : List Nat} (hw : ws.length = 8) : smC ws 8 = (ws.flatMap wB).map byV := by
 unfold smC
 rw [List.take_of_length_le (by omega)]
 simp
theorem StT.ne {cs : List V} {m : List UInt8} {t : Nat} (h : StT cs m t) : cs ≠ [] := fun e => by
 have := h.len
 rw [e] at this
 simp at this
theorem StT.held {cs : List V} {m : List UInt8} {t : Nat} (h : StT cs m t) : cs[72]? = some (.i .i64 ((m.length % 64 : Nat) : Int)) := by
 obtain ⟨rest, hr, rfl⟩ := h
 exact stC_held (absN_len _ _) hr.1
theorem StT.taken {cs : List V} {m : List UInt8} {t : Nat} (h : StT cs m t) : cs[73]? = some (.i .i64 (t : Int)) := by
 obtain ⟨rest, hr, rfl⟩ := h
 exact stC_taken (absN_len _ _) hr.1
theorem StT.words {cs : List V} {m : List UInt8} {t : Nat} (h : StT cs m t) : (cs.drop 0).take 8 = (absN m (m.length / 64)).map wV := by
 obtain ⟨rest, hr, rfl⟩ := h
 rw [List.drop_zero, stC, List.take_append_of_le_length (by simp [absN_len]), List.take_of_length_le (by simp [absN_len])]
set_option maxHeartbeats 4000000 in
theorem sum_d {b : Nat} {m : List UInt8} {cs : List V} {hp : Hp} (ho : OkH hp) (hk : Tab ⟨hp, []⟩) (hA : RB ⟨hp, []⟩ (some (b, 0)) cs) (hst : StT cs m m.length) (hl : m.length < 288230376151711744) :
  Fn kxD 143 [.p (some (b, 0))] hp [] fun r _ => r = .v (.agg ((sumB m).map byV)) := by
 have hcl := hst.len
 refine fn_of_w (T := []) ho.sv (fun _ => rfl) (fn := Tryz.f143) (by kernel_rfl) rfl rfl ?_
 refine wo ?_
 apply p_op; exact (vwant_n rfl); iterate 4 exact rfl
 refine e_alloc rfl fun bo => ⟨_, rfl, ?_⟩
 refine wo ?_
 apply p_op; exact (vwant_n rfl); iterate 4 exact rfl
 refine e_alloc rfl fun bh => ⟨_, rfl, ?_⟩
 refine wo ?_
 apply wm; iterate 5 exact rfl
 refine m_eqp rfl rfl
 refine wo ?_
 apply wm; iterate 5 exact rfl
 refine m_ldnN rfl hA.1 hA.2 rfl (by rw [List.drop_zero]; exact List.take_of_length_le (by omega)) hcl
 apply p_op; exact (vwant_n rfl); iterate 4 exact rfl
 refine e_alloc rfl fun be => ⟨_, rfl, ?_⟩
 apply p_do; exact (vwant_n rfl); exact rfl; exact rfl
 refine e_stn (C' := cs) rfl rfl hst.ne hcl (Nat.le_of_ble_eq_true rfl) (overV_all (by rw [hcl]; rfl)) ⟨_, rfl, ?_⟩
 refine wo ?_
 apply wm; iterate 5 exact rfl
 refine m_ldN rfl hA.1 hA.2 rfl hst.taken
 refine wo ?_
 apply wm; iterate 5 exact rfl
 refine m_convU rfl (by omega)
 refine wo ?_
 apply p_op; exact (vwant_n rfl); iterate 4 exact rfl
 refine e_bs (C := [byV 128]) rfl rfl (.cons rfl rfl .nil) rfl fun b1 => ⟨_, rfl, ?_⟩
 apply p_callX [1] [0, 2, 3]; exact (vwant_n rfl); iterate 4 exact rfl
 case hn => decide
 case hC => exact (fun hp hs ht => write_d (xs := [128]) ht (hk.give hs) (rb_own hs (i := 0) rfl rfl) (Nat.le_refl 1) hst (by simp; omega))
 rintro u N ⟨rfl, cs1, hst1, rfl⟩
 refine wo ?_
 refine w_seq ?_
 refine wo ?_
 refine w_loop (ι := Nat × List V) (fun s => [(5, .i .u64 ((8 * m.length : Nat) : Int)), (4, .p (some (be, 0))), (3, .p (some (bh, 0))), (2, .p (some (bo, 0)))])
  (fun s => [(some be, cellsO s.2 241), (some bh, cellsO (List.replicate 32 (byV 0)) 23), (some bo, cellsO (List.replicate 32 (byV 0)) 23)])
  (fun s => s.1 ≤ zN m.length ∧ StT s.2 (m ++ [128] ++ List.replicate s.1 0) (m.length + 1 + s.1)) (fun s => zN m.length - s.1) (0, cs1) ⟨Nat.zero_le _, by rw [List.replicate_zero, List.append_nil]; exact hst1⟩ ⟨rfl, rfl, rfl, rfl, trivial⟩ (fun hp h => h.pick [0, 2, 3] _ rfl (by decide)) ?_
 intro ⟨z, cs2⟩ ⟨hz, hst2⟩
 dsimp only at hz hst2 ⊢
 have hlen : (m ++ [128] ++ List.replicate z 0).length = m.length + 1 + z := by simp only [List.length_append, List.length_replicate, List.length_cons, List.length_nil]
 have hzl : zN m.length < 64 := Nat.mod_lt _ (by decide)
 have h56 := zN_stop hz
 rw [← hlen] at h56
 refine wo ?_
 refine zX (m_ldl rfl (by rw [Nat.zero_add]; exact hst2.held)) ?_
 by_cases g : z = zN m.length
 rotate_left
 ·apply wm; iterate 5 exact rfl
  refine mv_int (v := .b true) rfl rfl (vi_neqT (by omega))
  refine wo ?_
  apply p_op; exact (vwant_n rfl); iterate 4 exact rfl
  refine e_bs (C := [byV 0]) rfl rfl (.cons rfl rfl .nil) rfl fun b2 => ⟨_, rfl, ?_⟩
  apply p_callX [1] [0, 2, 3]; exact (vwant_n rfl); iterate 4 exact rfl
  case hn => decide
  case hC => exact (fun hp hs ht => write_d (xs := [0]) ht (hk.give hs) (rb_own hs (i := 0) rfl rfl) (Nat.le_refl 1) hst2 (by simp; omega))
  rintro u N ⟨rfl, cs3, hst3, rfl⟩
  refine wo ?_
  refine ⟨rfl, (z + 1, cs3), ⟨by dsimp only; omega, ?_⟩, by dsimp only; omega, ⟨rfl, rfl, rfl, rfl, trivial⟩, fun hp h => h.pick [0, 2, 3] _ rfl (by decide)⟩
  rw [List.append_assoc (m ++ [128])] at hst3
  dsimp only
  rw [List.replicate_succ']
  exact hst3
 apply wm; iterate 5 exact rfl
 refine mv_int (v := .b false) rfl rfl (vi_neqF (by omega))
 refine wo ?_
 refine w_exit ?_
 refine wo ?_
 apply p_op; exact (vwant_n rfl); iterate 4 exact rfl
 refine e_alloc rfl fun bz => ⟨_, rfl, ?_⟩
 refine wo ?_
 refine w_seq ?_
 refine wo ?_
 refine w_loop (ι := Nat) (fun i => [(29, .i .i64 (i : Nat)), (6, .p (some (bz, 0))), (5, .i .u64 ((8 * m.length : Nat) : Int)), (4, .p (some (be, 0))), (3, .p (some (bh, 0))), (2, .p (some (bo, 0)))])
  (fun i => [(some bz, cellsO (szC m.length i) 244), (some be, cellsO cs2 241), (some bh, cellsO (List.replicate 32 (byV 0)) 23), (some bo, cellsO (List.replicate 32 (byV 0)) 23)])
  (fun i => i ≤ 8) (fun i => 8 - i) 0 (Nat.zero_le _) ⟨rfl, rfl, rfl, rfl, rfl, rfl, trivial⟩ (fun hp h => h) ?_
 intro i hi
 refine wo ?_
 by_cases c : i < 8
 ·apply wm; iterate 5 exact rfl
  refine mv_int (v := .b true) rfl rfl (vi_lssT (by omega))
  refine wo ?_
  apply wm; iterate 5 exact rfl
  refine m_shrN rfl rfl (by simp [IntKind.bits]; omega)
  apply wm; iterate 5 exact rfl
  refine m_convB rfl
  apply wn; iterate 5 exact rfl
  refine p_iaa rfl rfl c
  apply p_do; exact (vwant_n rfl); exact rfl; exact rfl
  refine e_st (C := szC m.length i) (C' := szC m.length (i + 1)) rfl rfl rfl (by rw [szC_len _ hi]; omega) (by rw [Nat.zero_add]; exact szC_set m.length c) ⟨_, rfl, ?_⟩
  refine wo ?_
  exact ⟨rfl, i + 1, c, by omega, ⟨rfl, rfl, rfl, rfl, rfl, rfl, trivial⟩, fun hp h => h⟩
 apply wm; iterate 5 exact rfl
 refine mv_int (v := .b false) rfl rfl (vi_lssF (by omega))
 refine wo ?_
 refine w_exit ?_
 obtain rfl : i = 8 := by omega
 refine wo ?_
 refine zX (m_slaw rfl) ?_
 apply p_callX [1] [0, 2, 3]; exact (vwant_n rfl); iterate 4 exact rfl
 case hn => decide
 case hC => exact (fun hp hs ht => write_d (xs := sizeB m.length) ht (hk.give hs) (rb_own hs (i := 0) rfl (by rw [szC_all, List.drop_zero]; exact List.take_of_length_le (by rw [List.length_map]; exact Nat.le_refl _))) (Nat.le_refl 8) hst2 (by rw [sizeB_len]; omega))
 rintro u N ⟨rfl, cs3, hst3, rfl⟩
 rw [g] at hst3
 have hst3 : StT cs3 (padB m) (m.length + 1 + zN m.length + (sizeB m.length).length) := hst3
 have hws : (absN (padB m) ((padB m).length / 64)).length = 8 := absN_len _ _
 refine wo ?_
 refine w_seq ?_
 refine wo ?_
 refine zX (m_ldln (s := 7) (cs := (absN (padB m) ((padB m).length / 64)).map wV) rfl (by exact hst3.words) (by rw [List.length_map, hws])) ?_
 refine wo ?_
 have hsm : (absN (padB m) ((padB m).length / 64)).flatMap wB = sumB m := rfl
 generalize absN (padB m) ((padB m).length / 64) = ws at hws hsm
 refine w_loop (ι := Nat) (fun i => [(45, .i .i64 (i : Nat)), (44, .agg (ws.map wV)), (3, .p (some (bh, 0))), (2, .p (some (bo, 0)))])
  (fun i => [(some bh, cellsO (smC ws i) 23), (some bo, cellsO (List.replicate 32 (byV 0)) 23)])
  (fun i => i ≤ 8) (fun i => 8 - i) 0 (Nat.zero_le _) ⟨rfl, rfl, rfl, rfl, trivial⟩ (fun hp h => h.pick [2, 3] _ rfl (by decide)) ?_
 intro i hi
 have hsl := smC_len hws hi
 refine wo ?_
 by_cases c : i < 8
 ·apply wm; iterate 5 exact rfl
  refine mv_int (v := .b true) rfl rfl (vi_lssT (by omega))
  refine wo ?_
  obtain ⟨w, hv⟩ : ∃ w, ws[i]? = some w := ⟨ws[i], List.getElem?_eq_getElem (by omega)⟩
  apply wn; iterate 5 exact rfl
  refine p_ix (v := .i .u32 ((w % 4294967296 : Nat) : Int)) rfl rfl c (by rw [List.getElem?_map, hv]; rfl)
  refine wo ?_
  apply wm; iterate 5 exact rfl
  refine m_shrN rfl rfl (by decide)
  apply wm; iterate 5 exact rfl
  refine m_convB rfl
  refine wo ?_
  apply wm; iterate 5 exact rfl
  refine m_shrN rfl rfl (by decide)
  apply wm; iterate 5 exact rfl
  refine m_convB rfl
  refine wo ?_
  apply wm; iterate 5 exact rfl
  refine m_shrN rfl rfl (by decide)
  apply wm; iterate 5 exact rfl
  refine m_convB rfl
  refine wo ?_
  apply wm; iterate 5 exact rfl
  refine m_convB rfl
  apply wn; iterate 5 exact rfl
  refine p_iaa rfl rfl (by omega)
  apply p_do; exact (vwant_n rfl); exact rfl; exact rfl
  refine e_st (C := smC ws i) rfl rfl rfl (by rw [hsl]; omega) rfl ⟨_, rfl, ?_⟩
  apply wn; iterate 5 exact rfl
  refine p_iaa rfl rfl (by omega)
  apply p_do; exact (vwant_n rfl); exact rfl; exact rfl
  refine e_st rfl rfl rfl (by rw [List.length_set, hsl]; omega) rfl ⟨_, rfl, ?_⟩
  apply wn; iterate 5 exact rfl
  refine p_iaa rfl rfl (by omega)
  apply p_do; exact (vwant_n rfl); exact rfl; exact rfl
  refine e_st rfl rfl rfl (by rw [List.length_set, List.length_set, hsl]; omega) rfl ⟨_, rfl, ?_⟩
  apply wn; iterate 5 exact rfl
  refine p_iaa rfl rfl (by omega)
  apply p_do; exact (vwant_n rfl); exact rfl; exact rfl
  refine e_st rfl rfl rfl (by rw [List.length_set, List.length_set, List.length_set, hsl]; omega) rfl ⟨_, rfl, ?_⟩
  refine wo ?_
  refine ⟨rfl, i + 1, c, by omega, ⟨rfl, rfl, rfl, rfl, trivial⟩, fun hp h => ?_⟩
  simp only [Nat.zero_add] at h
  rw [smC_set hws c hv] at h
  exact h
 apply wm; iterate 5 exact rfl
 refine mv_int (v := .b false) rfl rfl (vi_lssF (by omega))
 refine wo ?_
 refine w_exit ?_
 obtain rfl : i = 8 := by omega
 refine wo ?_
 refine zX (m_ldln (s := 31) rfl (by rw [List.drop_zero]; exact List.take_of_length_le (by omega)) hsl) ?_
 apply p_do; exact (vwant_n rfl); exact rfl; exact rfl
 refine e_stn (C' := smC ws 8) rfl rfl (fun e => by rw [e] at hsl; simp at hsl) hsl (by simp) (overV_all (by rw [hsl]; simp)) ⟨_, rfl, ?_⟩
 refine wo ?_
 refine w_ret (wend_ret (vres1 (rv_cell rfl hsl)) ?_)
 rw [smC_all hws, hsm]
end Go.Proofs.YtbmkclbghfbegaaGreatDoor
/- Ds5: sha's New and Sum. By this project. -/
set_option maxRecDepth 100000
namespace Go.Proofs.YtbmkclbghfbegaaGreatDoor
open Go.RowKit Go.Extern.Stop
theorem new0 : StT (stC firstW (List.replicate 64 0) 0 0) [] 0 := ⟨List.replicate 64 0, ⟨rfl, rfl⟩, rfl⟩
theorem shanew_d {hp : Hp} (ho : OkH hp) (hk : Tab ⟨hp, []⟩) :
  Fn kxD 140 [] hp [] fun r N => ∃ u, r = .v u ∧ ∃ b cs, u = .p (some (b, 0)) ∧ StT cs [] 0 ∧ N = [(some b, cellsO cs 241)] := by
 refine fn_of_w (T := []) ho.sv (fun _ => rfl) (fn := Tryz.f140) (by kernel_rfl) rfl rfl ?_
 refine wo ?_
 apply wm; iterate 5 exact rfl
 refine m_ldnN (s := 7) (j := 0) rfl hk.first.1 hk.first.2 rfl rfl rfl
 apply wn; iterate 5 exact rfl
 refine p_buildS (C := stC firstW (List.replicate 64 0) 0 0) (.cons rfl rfl rfl rfl (by decide) .nil) rfl
 apply p_op; exact (vwant_n rfl); iterate 4 exact rfl
 refine ev_box rfl rfl fun b => ⟨_, rfl, ?_⟩
 refine wo ?_
 exact w_ret (wend_ret (vres1 (rv_tmp rfl)) ⟨_, rfl, _, _, rfl, new0, rfl⟩)
abbrev Prt := Option (Nat × Nat) × List UInt8 × Nat × Bool
def prV (p : Prt) : V := .sl p.1 p.2.1.length p.2.2.1 p.2.2.2
def prB (ps : List Prt) : List UInt8 := ps.flatMap fun p => p.2.1
def PrOk (B : Bs) (ps : List Prt) : Prop := ∀ p ∈ ps, RB B p.1 (p.2.1.map byV) ∧ CapOk p.2.1.length p.2.2.1 p.2.2.2
theorem prB_take {ps : List Prt} {i : Nat} {p : Prt} (h : ps[i]? = some p) : prB (ps.take (i + 1)) = prB (ps.take i) ++ p.2.1 := by
 obtain ⟨hi, e⟩ := List.getElem?_eq_some_iff.1 h
 rw [List.take_succ_eq_append_getElem hi, e, prB, prB, List.flatMap_append]
 simp
theorem prB_le {ps : List Prt} {i : Nat} : (prB (ps.take i)).length ≤ (prB ps).length := by
 have e : ps = ps.take i ++ ps.drop i := (List.take_append_drop i ps).symm
 have e2 : prB ps = prB (ps.take i) ++ prB (ps.drop i) := by
  rw [prB, prB, prB, ← List.flatMap_append, ← e]
 rw [e2, List.length_append]
 omega
set_option maxHeartbeats 4000000 in
theorem shasum_d {ps : List Prt} {P : Option (Nat × Nat)} {c : Nat} {op : Bool} {hp : Hp} (ho : OkH hp) (hk : Tab ⟨hp, []⟩) (hP : RB ⟨hp, []⟩ P (ps.map prV)) (hps : PrOk ⟨hp, []⟩ ps) (hl : (prB ps).length < 288230376151711744) (hn : ps.length < 4611686018427387904) :
  Fn kxD 144 [.sl P ps.length c op] hp [] fun r _ => r = .v (.agg ((sumB (prB ps)).map byV)) := by
 refine fn_of_w (T := []) ho.sv (fun _ => rfl) (fn := Tryz.f144) (by kernel_rfl) rfl rfl ?_
 refine wo ?_
 apply p_op; exact (vwant_n rfl); iterate 4 exact rfl
 refine e_alloc rfl fun bo => ⟨_, rfl, ?_⟩
 refine wo ?_
 apply p_callX [] [0]; exact (vwant_n rfl); iterate 4 exact rfl
 case hn => decide
 case hC => exact (fun hp hs ht => shanew_d hs.ok (hk.give0 hs))
 rintro u N ⟨b, cs0, rfl, hst0, rfl⟩
 refine wo ?_
 refine w_seq ?_
 refine wo ?_
 refine w_loop (ι := Nat × List V) (fun s => [(9, .i .i64 (s.1 : Nat)), (8, .i .i64 (ps.length : Nat)), (7, .sl P ps.length c op), (3, .p (some (b, 0))), (2, .p (some (bo, 0)))])
  (fun s => [(some b, cellsO s.2 241), (some bo, cellsO (List.replicate 32 (byV 0)) 23)])
  (fun s => s.1 ≤ ps.length ∧ StT s.2 (prB (ps.take s.1)) (prB (ps.take s.1)).length) (fun s => ps.length - s.1) (0, cs0) ⟨Nat.zero_le _, by rw [List.take_zero]; exact hst0⟩ ⟨rfl, rfl, rfl, rfl, rfl, trivial⟩ (fun hp h => h) ?_
 intro ⟨i, cs⟩ ⟨hi, hst⟩
 dsimp only at hi hst ⊢
 refine wo ?_
 by_cases g : i < ps.length
 ·apply wm; iterate 5 exact rfl
  refine mv_int (v := .b true) rfl rfl (vi_lssT (by omega))
  refine wo ?_
  obtain ⟨p, hv⟩ : ∃ p, ps[i]? = some p := ⟨ps[i], List.getElem?_eq_getElem g⟩
  have hpm : p ∈ ps := List.mem_of_getElem? hv
  have hv2 : (ps.map prV)[i]? = some (prV p) := by rw [List.getElem?_map, hv]; rfl
  obtain ⟨bp, opp, rfl⟩ : ∃ b o, P = some (b, o) := by
   cases hq : ps.map prV with
   | nil => rw [hq] at hv2; simp at hv2
   | cons v r => exact rv_some (by rw [← hq]; exact hP.1.rv)
  apply wn; iterate 5 exact rfl
  refine p_ia rfl rfl g
  apply wm; iterate 5 exact rfl
  refine m_ldN rfl hP.1 hP.2 rfl hv2
  refine wo ?_
  have hle := prB_le (ps := ps) (i := i + 1)
  rw [prB_take hv, List.length_append] at hle
  apply p_callX [0] [1]; exact (vwant_n rfl); iterate 4 exact rfl
  case hn => decide
  case hC => exact (fun hp hs ht => write_g ht (hk.give hs) ((hps p hpm).1.give hs) (hps p hpm).2 hst (by omega))
  rintro u N ⟨rfl, cs', hst', rfl⟩
  refine wo ?_
  refine ⟨rfl, (i + 1, cs'), ⟨g, ?_⟩, by dsimp only; omega, ⟨rfl, rfl, rfl, rfl, rfl, trivial⟩, fun hp h => h⟩
  dsimp only
  rw [prB_take hv, List.length_append]
  exact hst'
 ·apply wm; iterate 5 exact rfl
  refine mv_int (v := .b false) rfl rfl (vi_lssF (by omega))
  refine wo ?_
  refine w_exit ?_
  obtain rfl : i = ps.length := by omega
  rw [List.take_length] at hst
  refine wo ?_
  refine p_callq (vwant_n rfl) rfl rfl rfl rfl (fun hp hs => sum_d hs.ok (hk.give0 hs) (rb_own0 hs (i := 0) rfl (by rw [List.drop_zero]; exact List.take_of_length_le (Nat.le_refl _))) hst hl) ?_
  apply p_do; exact (vwant_n rfl); exact rfl; exact rfl
  refine e_stn (C' := (sumB (prB ps)).map byV) rfl rfl (fun e => by have := congrArg List.length e; rw [List.length_map, sumB_len] at this; simp at this) (by rw [List.length_map, sumB_len]) (by simp) (overV_all (by rw [List.length_map, sumB_len]; simp)) ⟨_, rfl, ?_⟩
  refine wo ?_
  exact w_ret (wend_ret (vres1 (rv_cell rfl (by rw [List.length_map, sumB_len]))) rfl)
end Go.Proofs.YtbmkclbghfbegaaGreatDoor
/- Ds6: mac's New, Write, Code. By this project. -/
set_option maxRecDepth 100000
namespace Go.Proofs.YtbmkclbghfbegaaGreatDoor
open Go.RowKit Go.Extern.Stop
def keyB (k : List UInt8) : List UInt8 := k ++ List.replicate (64 - k.length) 0
def ipad (k : List UInt8) : List UInt8 := (keyB k).map (· ^^^ 54)
def opad (k : List UInt8) : List UInt8 := (keyB k).map (· ^^^ 92)
def macB (k x : List UInt8) : List UInt8 := sumB (opad k ++ sumB (ipad k ++ x))
theorem keyB_len {k : List UInt8} (h : k.length ≤ 64) : (keyB k).length = 64 := by simp [keyB]; omega
theorem macB_len (k x : List UInt8) : (macB k x).length = 32 := sumB_len _
def xorL (b : List UInt8) (x : UInt8) (i : Nat) : List UInt8 := (b.map (· ^^^ x)).take i ++ b.drop i
theorem xorL_len {b : List UInt8} {x : UInt8} {i : Nat} (h : i ≤ b.length) : (xorL b x i).length = b.length := by simp [xorL]; omega
theorem xorL_zero (b : List UInt8) (x : UInt8) : xorL b x 0 = b := by simp [xorL]
theorem xorL_all {b : List UInt8} {x : UInt8} {n : Nat} (h : b.length = n) : xorL b x n = b.map (· ^^^ x) := by simp [xorL, ← h, List.take_of_length_le]
theorem xorL_at {b : List UInt8} {x y : UInt8} {i : Nat} (h : b[i]? = some y) : (xorL b x i)[i]? = some y := by
 obtain ⟨hi, e⟩ := List.getElem?_eq_some_iff.1 h
 unfold xorL
 rw [List.getElem?_append_right (by simp; omega), List.getElem?_drop]
 have e2 : (((b.map (· ^^^ x)).take i).length) = i := by simp; omega
 rw [e2, Nat.sub_self, Nat.add_zero]
 exact h
theorem xorL_set {b : List UInt8} {x y : UInt8} {i : Nat} (h : b[i]? = some y) : (xorL b x i).set i (y ^^^ x) = xorL b x (i + 1) := by
 obtain ⟨hi, e⟩ := List.getElem?_eq_some_iff.1 h
 unfold xorL
 have e2 : (((b.map (· ^^^ x)).take i).length) = i := by simp; omega
 rw [List.set_append_right _ _ (by omega), e2, Nat.sub_self, List.drop_eq_getElem_cons hi, List.set_cons_zero, List.take_succ_eq_append_getElem (by simp; omega), List.append_assoc]
 simp [e]
theorem macblock_d {k : List UInt8} {A : Option (Nat × Nat)} {c : Nat} {op : Bool} {hp : Hp} (ho : OkH hp) (hA : RB ⟨hp, []⟩ A (k.map byV)) (h0 : 0 < k.length) (h1 : k.length ≤ 64) :
  Fn kxD 141 [.sl A k.length c op] hp [] fun r _ => r = .v (.agg ((keyB k).map byV)) := by
 have hkl := keyB_len h1
 refine fn_of_w (T := []) ho.sv (fun _ => rfl) (fn := Tryz.f141) (by kernel_rfl) rfl rfl ?_
 refine wo ?_
 apply p_op; exact (vwant_n rfl); iterate 4 exact rfl
 refine e_alloc rfl fun bo => ⟨_, rfl, ?_⟩
 refine wo ?_
 apply p_op; exact (vwant_n rfl); iterate 4 exact rfl
 refine e_alloc rfl fun bb => ⟨_, rfl, ?_⟩
 refine wo ?_
 apply wm; iterate 5 exact rfl
 refine mv_int (v := .b false) rfl rfl (vi_gtrF (by omega))
 refine wo ?_
 refine zX (m_slaw rfl) ?_
 refine wo ?_
 apply p_op; exact (vwant_n rfl); iterate 4 exact rfl
 refine e_copy (C' := (keyB k).map byV) (vs := k.map byV) rfl rfl hA.z (by simp) (by rw [show min k.length 64 = k.length by omega]; exact List.take_of_length_le (by simp)) (fun e => by have := congrArg List.length e; rw [List.length_map, List.length_nil] at this; omega) (by simp; omega) (by
  unfold overV keyB
  rw [List.take_zero, List.nil_append, Nat.zero_add, List.map_append, List.length_map, List.drop_replicate, List.map_replicate]
  rfl) ⟨_, rfl, ?_⟩
 refine wo ?_
 refine zX (m_ldln (s := 63) (cs := (keyB k).map byV) rfl (by rw [List.drop_zero]; exact List.take_of_length_le (by rw [List.length_map]; omega)) (by rw [List.length_map]; exact hkl)) ?_
 apply p_do; exact (vwant_n rfl); exact rfl; exact rfl
 refine e_stn (C' := (keyB k).map byV) rfl rfl (fun e => by have := congrArg List.length e; rw [List.length_map, hkl] at this; simp at this) (by rw [List.length_map, hkl]) (by simp) (overV_all (by rw [List.length_map, hkl]; simp)) ⟨_, rfl, ?_⟩
 refine wo ?_
 exact w_ret (wend_ret (vres1 (rv_cell rfl (by rw [List.length_map, hkl]))) rfl)
abbrev kyO (bs : Nat) (ob : List UInt8) : VO := cellsO (.p (some (bs, 0)) :: ob.map byV) 227
set_option maxHeartbeats 4000000 in
theorem macnew_d {k : List UInt8} {A : Option (Nat × Nat)} {c : Nat} {op : Bool} {hp : Hp} (ho : OkH hp) (hk : Tab ⟨hp, []⟩) (hA : RB ⟨hp, []⟩ A (k.map byV)) (h0 : 0 < k.length) (h1 : k.length ≤ 64) :
  Fn kxD 120 [.sl A k.length c op] hp [] fun r N => ∃ u, r = .v u ∧ ∃ bk bs cs, u = .p (some (bk, 0)) ∧ StT cs (ipad k) 64 ∧ N = [(some bk, kyO bs (opad k)), (some bs, cellsO cs 241)] := by
 have hkl := keyB_len h1
 refine fn_of_w (T := []) ho.sv (fun _ => rfl) (fn := Tryz.f120) (by kernel_rfl) rfl rfl ?_
 refine wo ?_
 apply p_callX [] []; exact (vwant_n rfl); iterate 4 exact rfl
 case hn => decide
 case hC => exact (fun hp hs ht => shanew_d hs.ok (hk.give0 hs))
 rintro u N ⟨bs, cs, rfl, hst, rfl⟩
 refine wo ?_
 refine p_callq (vwant_n rfl) rfl rfl rfl rfl (fun hp hs => macblock_d hs.ok (hA.give0 hs) h0 h1) ?_
 apply wn; iterate 5 exact rfl
 refine p_buildS (C := .p (some (bs, 0)) :: (keyB k).map byV) (.cons rfl rfl rfl rfl (Nat.le_of_ble_eq_true rfl) (.cons rfl rfl rfl (by rw [List.length_map, hkl]) (Nat.le_of_ble_eq_true rfl) .nil)) (by
  have e : ((keyB k).map byV).length = 64 := by rw [List.length_map, hkl]
  simp only [putAllV, overV, e]
  simp)
 apply p_op; exact (vwant_n rfl); iterate 4 exact rfl
 refine ev_box rfl rfl fun bk => ⟨_, rfl, ?_⟩
 refine wo ?_
 refine zX (m_ldln (s := 63) (cs := (keyB k).map byV) rfl (by rw [Nat.zero_add, List.drop_succ_cons, List.drop_zero]; exact List.take_of_length_le (by rw [List.length_map]; omega)) (by rw [List.length_map]; exact hkl)) ?_
 apply p_op; exact (vwant_n rfl); iterate 4 exact rfl
 refine e_alloc rfl fun bf => ⟨_, rfl, ?_⟩
 apply p_do; exact (vwant_n rfl); exact rfl; exact rfl
 refine e_stn (C' := (keyB k).map byV) rfl rfl (fun e => by have := congrArg List.length e; rw [List.length_map, hkl] at this; simp at this) (by rw [List.length_map, hkl]) (by simp) (overV_all (by rw [List.length_map, hkl]; simp)) ⟨_, rfl, ?_⟩
 refine wo ?_
 refine w_seq ?_
 refine wo ?_
 refine w_loop (ι := Nat) (fun i => [(15, .i .i64 (i : Nat)), (4, .p (some (bf, 0))), (3, .p (some (bk, 0)))])
  (fun i => [(some bf, cellsO ((xorL (keyB k) 54 i).map byV) 224), (some bk, kyO bs (xorL (keyB k) 92 i)), (some bs, cellsO cs 241)])
  (fun i => i ≤ 64) (fun i => 64 - i) 0 (Nat.zero_le _) ⟨rfl, rfl, rfl, trivial⟩ (fun hp h => by rw [xorL_zero, xorL_zero]; exact h) ?_
 intro i hi
 have l1 : (xorL (keyB k) 54 i).length = 64 := (xorL_len (by omega)).trans hkl
 have l2 : (xorL (keyB k) 92 i).length = 64 := (xorL_len (by omega)).trans hkl
 refine wo ?_
 by_cases g : i < 64
 ·obtain ⟨y, hy⟩ : ∃ y, (keyB k)[i]? = some y := ⟨(keyB k)[i], List.getElem?_eq_getElem (by omega)⟩
  apply wm; iterate 5 exact rfl
  refine mv_int (v := .b true) rfl rfl (vi_lssT (by omega))
  refine wo ?_
  apply wn; iterate 5 exact rfl
  refine p_iaa rfl rfl g
  refine zX (m_ldl (v := byV y) rfl (by rw [Nat.zero_add, List.getElem?_map, xorL_at hy]; rfl)) ?_
  apply wm; iterate 5 exact rfl
  refine m_xorB (y := 54) rfl rfl
  apply wn; iterate 5 exact rfl
  refine p_iaa rfl rfl g
  apply p_do; exact (vwant_n rfl); exact rfl; exact rfl
  refine e_st (C := (xorL (keyB k) 54 i).map byV) (C' := (xorL (keyB k) 54 (i + 1)).map byV) rfl rfl rfl (by rw [List.length_map, l1]; omega) (by rw [Nat.zero_add, ← List.map_set, xorL_set hy]) ⟨_, rfl, ?_⟩
  refine wo ?_
  apply dn; iterate 5 exact rfl
  refine p_iaa rfl rfl g
  refine yX (m_ldl (v := byV y) rfl (by rw [show 0 + 1 + i = i + 1 by omega, List.getElem?_cons_succ, List.getElem?_map, xorL_at hy]; rfl)) ?_
  apply dm; iterate 6 exact rfl
  refine m_xorB (y := 92) rfl rfl
  refine wo ?_
  apply dn; iterate 5 exact rfl
  refine p_iaa rfl rfl g
  apply d_do; exact (vwant_n rfl); exact rfl; exact noRd rfl; decide +kernel; exact rfl; rotate_left
  refine e_st (C := .p (some (bs, 0)) :: (xorL (keyB k) 92 i).map byV) (C' := .p (some (bs, 0)) :: (xorL (keyB k) 92 (i + 1)).map byV) rfl rfl rfl (by rw [List.length_cons, List.length_map, l2]; omega) (by rw [show 0 + 1 + i = i + 1 by omega, List.set_cons_succ, ← List.map_set, xorL_set hy]) ⟨_, rfl, ?_⟩
  try (case hok => exact rdOk_b (by decide +kernel))
  refine wo ?_
  exact ⟨rfl, i + 1, g, by omega, ⟨rfl, rfl, rfl, trivial⟩, fun hp h => h⟩
 ·apply wm; iterate 5 exact rfl
  refine mv_int (v := .b false) rfl rfl (vi_lssF (by omega))
  refine wo ?_
  refine w_exit ?_
  obtain rfl : i = 64 := by omega
  rw [xorL_all hkl, xorL_all hkl]
  refine wo ?_
  refine yX (m_slaw rfl) ?_
  have hil : (ipad k).length = 64 := by rw [ipad, List.length_map, hkl]
  apply d_callX [2] [0, 1]; exact (vwant_n rfl); decide +kernel; (iterate 4 exact rfl)
  case hn => decide
  try (case hok => exact rdOk_b (by decide +kernel))
  case hC => exact (fun hp hs ht => write_n (xs := ipad k) hil ht (hk.give hs) (rb_own hs (i := 0) rfl (by rw [List.drop_zero]; exact List.take_of_length_le (Nat.le_refl _))) (Nat.le_refl _) hst (by omega))
  rintro u N ⟨rfl, cs', hst', rfl⟩
  refine wo ?_
  refine w_heap (L' := [(some bk, kyO bs (opad k)), (some bs, cellsO cs' 241)]) (fun hp h => h.pick [2, 0] _ rfl (by decide)) ?_
  refine w_ret (wend_ret (vres1 (rv_tmp rfl)) ⟨_, rfl, _, _, _, rfl, ?_, rfl⟩)
  exact hst'
set_option maxHeartbeats 4000000 in
theorem macwrite_d {bk bs c t : Nat} {op : Bool} {A : Option (Nat × Nat)} {kc : List V} {xs m : List UInt8} {cs : List V} {hp : Hp} (h0 : SV ⟨hp, [bs]⟩ hp [(some bs, cellsO cs 241)]) (hk : Tab ⟨hp, [bs]⟩) (hK : RB ⟨hp, [bs]⟩ (some (bk, 0)) (.p (some (bs, 0)) :: kc)) (hA : RB ⟨hp, [bs]⟩ A (xs.map byV)) (hc : CapOk xs.length c op) (hst : StT cs m t) (hl : t + xs.length < 4611686018427387904) :
  Fn kxD 121 [.p (some (bk, 0)), .sl A xs.length c op] hp [bs] fun r N => ∃ u, r = .v u ∧ (u = .tup [] ∧ ∃ cs', StT cs' (m ++ xs) (t + xs.length) ∧ N = [(some bs, cellsO cs' 241)]) := by
 refine fn_of_w h0 (fun _ => rfl) (fn := Tryz.f121) (by kernel_rfl) rfl rfl ?_
 refine wo ?_
 apply wm; iterate 5 exact rfl
 refine m_neqp rfl rfl
 refine wo ?_
 apply wm; iterate 5 exact rfl
 refine m_ldN rfl hK.1 hK.2 rfl (j := 0) rfl
 refine wo ?_
 apply p_callX [0] []; exact (vwant_n rfl); iterate 4 exact rfl
 case hn => decide
 case hC => exact (fun hp hs ht => write_g ht (hk.give hs) (hA.give hs) hc hst hl)
 rintro u N ⟨rfl, cs', hst', rfl⟩
 refine wo ?_
 exact wend_norm vres0 ⟨_, rfl, rfl, _, hst', rfl⟩
theorem prOk_two {B : Bs} {A A' : Option (Nat × Nat)} {x y : List UInt8} {c d : Nat} (h1 : RB B A (x.map byV)) (h2 : RB B A' (y.map byV)) (hx : x.length ≤ c) (hy : y.length ≤ d) : PrOk B [(A, x, c, false), (A', y, d, false)] := fun p hp => by
 rcases List.mem_cons.1 hp with rfl | hp
 ·exact ⟨h1, capOk_f hx⟩
 ·rcases List.mem_cons.1 hp with rfl | hp
  ·exact ⟨h2, capOk_f hy⟩
  ·simp at hp
theorem prB_two (A B : Option (Nat × Nat)) (x y : List UInt8) (c d : Nat) : prB [(A, x, c, false), (B, y, d, false)] = x ++ y := by simp [prB]
set_option maxHeartbeats 4000000 in
theorem maccode_d {bk bs : Nat} {k m : List UInt8} {cs : List V} {hp : Hp} (ho : OkH hp) (hk : Tab ⟨hp, []⟩) (hkl : k.length ≤ 64) (hw : wkB bk = false) (hK : RB ⟨hp, []⟩ (some (bk, 0)) (.p (some (bs, 0)) :: (opad k).map byV)) (hS : RB ⟨hp, []⟩ (some (bs, 0)) cs) (hst : StT cs m m.length) (hl : m.length < 288230376151711744) :
  Fn kxD 122 [.p (some (bk, 0))] hp [] fun r _ => r = .v (.agg ((sumB (opad k ++ sumB m)).map byV)) := by
 have hol : (opad k).length = 64 := by rw [opad, List.length_map, keyB_len hkl]
 refine fn_of_w (T := []) ho.sv (fun _ => rfl) (fn := Tryz.f122) (by kernel_rfl) rfl rfl ?_
 refine wo ?_
 apply p_op; exact (vwant_n rfl); iterate 4 exact rfl
 refine e_alloc rfl fun bo => ⟨_, rfl, ?_⟩
 refine wo ?_
 apply wm; iterate 5 exact rfl
 refine m_eqp rfl rfl
 refine wo ?_
 apply wm; iterate 5 exact rfl
 refine m_ldN rfl hK.1 hK.2 rfl (j := 0) rfl
 refine wo ?_
 refine p_callq (vwant_n rfl) rfl rfl rfl rfl (fun hp hs => sum_d hs.ok (hk.give0 hs) (hS.give0 hs) hst hl) ?_
 have hsl : ((sumB m).map byV).length = 32 := by rw [List.length_map, sumB_len]
 apply p_op; exact (vwant_n rfl); iterate 4 exact rfl
 refine e_alloc rfl fun bh => ⟨_, rfl, ?_⟩
 apply p_do; exact (vwant_n rfl); exact rfl; exact rfl
 refine e_stn (C' := (sumB m).map byV) rfl rfl (fun e => by rw [e] at hsl; simp at hsl) hsl (by simp) (overV_all (by rw [hsl]; simp)) ⟨_, rfl, ?_⟩
 refine wo ?_
 refine yX (m_slawR rfl hw) ?_
 refine wo ?_
 refine yX (m_slaw rfl) ?_
 refine wo ?_
 have e2 : [(some (bk, 0 + 1), opad k, 64, false), (some (bh, 0), sumB m, 32, false)].map prV = [.sl (some (bk, 0 + 1)) 64 64 false, .sl (some (bh, 0)) 32 32 false] := by
  simp only [List.map_cons, List.map_nil, prV, hol, sumB_len]
 apply d_op; exact (vwant_n rfl); exact rfl; exact noRd rfl; decide +kernel; (iterate 3 exact rfl); rotate_left
 refine e_bs (C := [(some (bk, 0 + 1), opad k, 64, false), (some (bh, 0), sumB m, 32, false)].map prV) rfl rfl (by rw [e2]; exact .cons rfl rfl (.cons rfl rfl .nil)) rfl fun bp => ⟨_, rfl, ?_⟩
 try (case hok => exact rdOk_nil)
 refine d_callq (vwant_n rfl) (by decide +kernel) rfl rfl rfl rfl (fun hp hs => shasum_d (ps := [(some (bk, 0 + 1), opad k, 64, false), (some (bh, 0), sumB m, 32, false)]) hs.ok (hk.give0 hs) (rb_own0 hs (i := 0) rfl (List.take_of_length_le (Nat.le_refl _))) (prOk_two ((hK.give0 hs).drop 1) (rb_own0 hs (i := 1) rfl (List.take_of_length_le (Nat.le_refl _))) (Nat.le_of_eq hol) (Nat.le_of_eq (sumB_len m))) (by rw [prB_two, List.length_append, hol, sumB_len]; decide) (Nat.lt_of_lt_of_le (Nat.lt_succ_self 2) (by decide))) ?_
 rw [prB_two]
 have hsl2 : ((sumB (opad k ++ sumB m)).map byV).length = 32 := by rw [List.length_map, sumB_len]
 apply d_do; exact (vwant_n rfl); exact rfl; exact noRd rfl; decide +kernel; exact rfl; rotate_left
 refine e_stn (C' := (sumB (opad k ++ sumB m)).map byV) rfl rfl (fun e => by rw [e] at hsl2; simp at hsl2) hsl2 (by simp) (overV_all (by rw [hsl2]; simp)) ⟨_, rfl, ?_⟩
 try (case hok => exact rdOk_b (by decide +kernel))
 refine wo ?_
 exact w_ret (wend_ret (vres1 (rv_cell rfl hsl2)) rfl)
set_option maxHeartbeats 4000000 in
theorem mac_d {k : List UInt8} {A P : Option (Nat × Nat)} {ps : List Prt} {c c' : Nat} {op op' : Bool} {hp : Hp} (ho : OkH hp) (hk : Tab ⟨hp, []⟩) (hA : RB ⟨hp, []⟩ A (k.map byV)) (h0 : 0 < k.length) (h1 : k.length ≤ 64) (hP : RB ⟨hp, []⟩ P (ps.map prV)) (hps : PrOk ⟨hp, []⟩ ps) (hl : (prB ps).length < 144115188075855872) (hn : ps.length < 4611686018427387904) :
  Fn kxD 94 [.sl A k.length c op, .sl P ps.length c' op'] hp [] fun r _ => r = .v (.agg ((macB k (prB ps)).map byV)) := by
 have hil : (ipad k).length = 64 := by rw [ipad, List.length_map, keyB_len h1]
 refine fn_of_w (T := []) ho.sv (fun _ => rfl) (fn := Tryz.f94) (by kernel_rfl) rfl rfl ?_
 refine wo ?_
 apply p_op; exact (vwant_n rfl); iterate 4 exact rfl
 refine e_alloc rfl fun bo => ⟨_, rfl, ?_⟩
 refine wo ?_
 apply p_callX [] [0]; exact (vwant_n rfl); iterate 4 exact rfl
 case hn => decide
 case hC => exact (fun hp hs ht => macnew_d hs.ok (hk.give0 hs) (hA.give0 hs) h0 h1)
 rintro u N ⟨bk, bs, cs0, rfl, hst0, rfl⟩
 refine wo ?_
 refine w_seq ?_
 refine wo ?_
 refine w_loop (ι := Nat × List V) (fun s => [(12, .i .i64 (s.1 : Nat)), (11, .i .i64 (ps.length : Nat)), (10, .sl P ps.length c' op'), (5, .p (some (bk, 0))), (4, .p (some (bo, 0)))])
  (fun s => [(some bk, kyO bs (opad k)), (some bs, cellsO s.2 241), (some bo, cellsO (List.replicate 32 (byV 0)) 23)])
  (fun s => s.1 ≤ ps.length ∧ StT s.2 (ipad k ++ prB (ps.take s.1)) (ipad k ++ prB (ps.take s.1)).length) (fun s => ps.length - s.1) (0, cs0) ⟨Nat.zero_le _, by rw [List.take_zero, show prB [] = [] from rfl, List.append_nil, hil]; exact hst0⟩ ⟨rfl, rfl, rfl, rfl, rfl, trivial⟩ (fun hp h => h) ?_
 intro ⟨i, cs⟩ ⟨hi, hst⟩
 dsimp only at hi hst ⊢
 refine wo ?_
 by_cases g : i < ps.length
 ·apply wm; iterate 5 exact rfl
  refine mv_int (v := .b true) rfl rfl (vi_lssT (by omega))
  refine wo ?_
  obtain ⟨p, hv⟩ : ∃ p, ps[i]? = some p := ⟨ps[i], List.getElem?_eq_getElem g⟩
  have hpm : p ∈ ps := List.mem_of_getElem? hv
  have hv2 : (ps.map prV)[i]? = some (prV p) := by rw [List.getElem?_map, hv]; rfl
  obtain ⟨bp, opp, rfl⟩ : ∃ b o, P = some (b, o) := by
   cases hq : ps.map prV with
   | nil => rw [hq] at hv2; simp at hv2
   | cons v r => exact rv_some (by rw [← hq]; exact hP.1.rv)
  apply wn; iterate 5 exact rfl
  refine p_ia rfl rfl g
  apply wm; iterate 5 exact rfl
  refine m_ldN rfl hP.1 hP.2 rfl hv2
  refine wo ?_
  have hle := prB_le (ps := ps) (i := i + 1)
  rw [prB_take hv, List.length_append] at hle
  apply p_callX [1] [0, 2]; exact (vwant_n rfl); iterate 4 exact rfl
  case hn => decide
  case hC => exact (fun hp hs ht => macwrite_d ht (hk.give hs) (rb_own hs (i := 0) rfl (List.take_of_length_le (Nat.le_refl _))) ((hps p hpm).1.give hs) (hps p hpm).2 hst (by rw [List.length_append]; omega))
  rintro u N ⟨rfl, cs', hst', rfl⟩
  refine wo ?_
  refine ⟨rfl, (i + 1, cs'), ⟨g, ?_⟩, by dsimp only; omega, ⟨rfl, rfl, rfl, rfl, rfl, trivial⟩, fun hp h => h.pick [1, 0, 2] _ rfl (by decide)⟩
  dsimp only
  rw [prB_take hv, ← List.append_assoc, List.length_append]
  exact hst'
 ·apply wm; iterate 5 exact rfl
  refine mv_int (v := .b false) rfl rfl (vi_lssF (by omega))
  refine wo ?_
  refine w_exit ?_
  obtain rfl : i = ps.length := by omega
  rw [List.take_length] at hst
  refine wo ?_
  refine p_callq (vwant_n rfl) rfl rfl rfl rfl (fun hp hs => maccode_d hs.ok (hk.give0 hs) h1 (wkB_ro (hs.has 0 _ _ rfl).2.1.1) (rb_own0 hs (i := 0) rfl (List.take_of_length_le (Nat.le_refl _))) (rb_own0 hs (i := 1) rfl (List.take_of_length_le (Nat.le_refl _))) hst (by rw [List.length_append]; omega)) ?_
  have hsl : ((sumB (opad k ++ sumB (ipad k ++ prB ps))).map byV).length = 32 := by rw [List.length_map, sumB_len]
  apply p_do; exact (vwant_n rfl); exact rfl; exact rfl
  refine e_stn (C' := (macB k (prB ps)).map byV) rfl rfl (fun e => by rw [e] at hsl; simp at hsl) hsl (by simp) (overV_all (by rw [hsl]; simp)) ⟨_, rfl, ?_⟩
  refine wo ?_
  exact w_ret (wend_ret (vres1 (rv_cell rfl hsl)) rfl)
end Go.Proofs.YtbmkclbghfbegaaGreatDoor
/- Ds7: digest's cut, mac's Equal, a book's code. By this project. -/
set_option maxRecDepth 100000
namespace Go.Proofs.YtbmkclbghfbegaaGreatDoor
open Go.RowKit Go.Extern.Stop
def cutY (bits i : Nat) (y : UInt8) : UInt8 := if min 8 (bits - 8 * i) < 8 then y &&& UInt8.ofNat (255 * 2 ^ (8 - min 8 (bits - 8 * i))) else y
def cutB (bits : Nat) (h : List UInt8) : List UInt8 := h.mapIdx (cutY bits)
theorem cutB_len (bits : Nat) (h : List UInt8) : (cutB bits h).length = h.length := by simp [cutB]
def cutP (bits : Nat) (h : List UInt8) (i : Nat) : List UInt8 := (cutB bits h).take i ++ h.drop i
theorem cutP_len {bits : Nat} {h : List UInt8} {i : Nat} (hi : i ≤ h.length) : (cutP bits h i).length = h.length := by simp [cutP, cutB_len]; omega
theorem cutP_at {bits : Nat} {h : List UInt8} {i : Nat} {y : UInt8} (hy : h[i]? = some y) : (cutP bits h i)[i]? = some y := by
 obtain ⟨hi, e⟩ := List.getElem?_eq_some_iff.1 hy
 unfold cutP
 have e2 : ((cutB bits h).take i).length = i := by rw [List.length_take, cutB_len]; omega
 rw [List.getElem?_append_right (by omega), e2, Nat.sub_self, List.getElem?_drop, Nat.add_zero]
 exact hy
theorem cutP_set {bits : Nat} {h : List UInt8} {i : Nat} {y : UInt8} (hy : h[i]? = some y) : (cutP bits h i).set i (cutY bits i y) = cutP bits h (i + 1) := by
 obtain ⟨hi, e⟩ := List.getElem?_eq_some_iff.1 hy
 unfold cutP
 have e2 : ((cutB bits h).take i).length = i := by rw [List.length_take, cutB_len]; omega
 rw [List.set_append_right _ _ (by omega), e2, Nat.sub_self, List.drop_eq_getElem_cons hi, List.set_cons_zero, List.take_succ_eq_append_getElem (by rw [cutB_len]; exact hi), List.append_assoc]
 simp [cutB, e]
theorem cutP_same {bits : Nat} {h : List UInt8} {i : Nat} {y : UInt8} (hy : h[i]? = some y) (hc : cutY bits i y = y) : cutP bits h i = cutP bits h (i + 1) := by
 rw [← cutP_set hy, hc]
 obtain ⟨h1, h2⟩ := List.getElem?_eq_some_iff.1 (cutP_at (bits := bits) hy)
 conv => lhs; rw [← List.set_getElem_self h1, h2]
theorem cutP_all {bits : Nat} {h : List UInt8} {n : Nat} (hn : h.length = n) : cutP bits h n = cutB bits h := by
 unfold cutP
 rw [List.take_of_length_le (by rw [cutB_len]; omega), List.drop_of_length_le (by omega), List.append_nil]
set_option maxHeartbeats 4000000 in
theorem cut_d {h : List UInt8} {bits : Nat} (hh : h.length = 32) (hb : bits ≤ 256) {hp : Hp} (ho : OkH hp) :
  Fn kxD 93 [.agg (h.map byV), .i .i64 (bits : Int)] hp [] fun r _ => r = .v (.agg ((cutB bits h).map byV)) := by
 have hne : ∀ {l : List UInt8}, l.length = 32 → l.map byV ≠ [] := fun {l} hl e => by have := congrArg List.length e; rw [List.length_map, hl] at this; simp at this
 refine fn_of_w (T := []) ho.sv (fun _ => rfl) (fn := Tryz.f93) (by kernel_rfl) rfl rfl ?_
 refine wo ?_
 apply p_op; exact (vwant_n rfl); iterate 4 exact rfl
 refine ev_box rfl rfl fun bh => ⟨_, rfl, ?_⟩
 apply p_op; exact (vwant_n rfl); iterate 4 exact rfl
 refine e_alloc rfl fun bo => ⟨_, rfl, ?_⟩
 refine wo ?_
 refine w_seq ?_
 refine wo ?_
 refine w_loop (ι := Nat) (fun i => [(7, .i .i64 (i : Nat)), (1, .i .i64 (bits : Nat)), (4, .p (some (bo, 0))), (2, .p (some (bh, 0)))])
  (fun i => [(some bo, cellsO (List.replicate 32 (byV 0)) 23), (some bh, cellsO ((cutP bits h i).map byV) 23)])
  (fun i => i ≤ 32) (fun i => 32 - i) 0 (Nat.zero_le _) ⟨rfl, rfl, rfl, rfl, trivial⟩ (fun hp h' => by
   have e : cutP bits h 0 = h := by simp [cutP]
   rw [e]
   exact h') ?_
 intro i hi
 have hll : (cutP bits h i).length = 32 := (cutP_len (by omega)).trans hh
 refine wo ?_
 by_cases c : i < 32
 ·apply wm; iterate 5 exact rfl
  refine mv_int (v := .b true) rfl rfl (vi_lssT (by omega))
  refine wo ?_
  obtain ⟨y, hy⟩ : ∃ y, h[i]? = some y := ⟨h[i], List.getElem?_eq_getElem (by omega)⟩
  apply wm; iterate 5 exact rfl
  refine m_subI rfl rfl (by omega)
  apply wm; iterate 5 exact rfl
  refine m_minI rfl rfl
  apply wm; iterate 5 exact rfl
  refine m_maxI rfl rfl
  rw [show max (0 : Int) (min 8 ((bits : Int) - ((8 * i : Nat) : Int))) = ((min 8 (bits - 8 * i) : Nat) : Int) by omega]
  refine wo ?_
  by_cases g : min 8 (bits - 8 * i) < 8
  ·apply wm; iterate 5 exact rfl
   refine mv_int (v := .b true) rfl rfl (vi_lssT (by omega))
   refine wo ?_
   apply dn; iterate 5 exact rfl
   refine p_iaa rfl rfl c
   refine yX (m_ldl (v := byV y) rfl (by rw [Nat.zero_add, List.getElem?_map, cutP_at hy]; rfl)) ?_
   refine wo ?_
   apply dm; iterate 6 exact rfl
   refine m_shlB (x := 255) rfl rfl (by omega)
   apply dm; iterate 6 exact rfl
   refine m_andB rfl rfl
   apply dn; iterate 5 exact rfl
   refine p_iaa rfl rfl c
   apply d_do; exact (vwant_n rfl); exact rfl; exact noRd rfl; decide +kernel; exact rfl; rotate_left
   refine e_st (C := (cutP bits h i).map byV) (C' := (cutP bits h (i + 1)).map byV) rfl rfl rfl (by rw [List.length_map, hll]; omega) (by
    rw [Nat.zero_add, ← List.map_set]
    have e : cutY bits i y = y &&& UInt8.ofNat (UInt8.toNat 255 * 2 ^ (8 - min 8 (bits - 8 * i))) := by unfold cutY; rw [if_pos g]; rfl
    rw [← e, cutP_set hy]) ⟨_, rfl, ?_⟩
   try (case hok => exact rdOk_b (by decide +kernel))
   refine wo ?_
   exact ⟨rfl, i + 1, c, by omega, ⟨rfl, rfl, rfl, rfl, trivial⟩, fun hp h' => h'⟩
  ·apply wm; iterate 5 exact rfl
   refine mv_int (v := .b false) rfl rfl (vi_lssF (by omega))
   refine wo ?_
   exact ⟨rfl, i + 1, c, by omega, ⟨rfl, rfl, rfl, rfl, trivial⟩, fun hp h' => by
    rw [← cutP_same hy (by unfold cutY; rw [if_neg g])]
    exact h'⟩
 ·apply wm; iterate 5 exact rfl
  refine mv_int (v := .b false) rfl rfl (vi_lssF (by omega))
  refine wo ?_
  refine w_exit ?_
  obtain rfl : i = 32 := by omega
  rw [cutP_all hh]
  have hcl : ((cutB bits h).map byV).length = 32 := by rw [List.length_map, cutB_len, hh]
  refine wo ?_
  refine zX (m_ldln (s := 31) (cs := (cutB bits h).map byV) rfl (by rw [List.drop_zero]; exact List.take_of_length_le (by omega)) hcl) ?_
  apply p_do; exact (vwant_n rfl); exact rfl; exact rfl
  refine e_stn (C' := (cutB bits h).map byV) rfl rfl (fun e => by rw [e] at hcl; simp at hcl) hcl (by simp) (overV_all (by rw [hcl]; simp)) ⟨_, rfl, ?_⟩
  refine wo ?_
  exact w_ret (wend_ret (vres1 (rv_cell rfl hcl)) rfl)
end Go.Proofs.YtbmkclbghfbegaaGreatDoor
/- Ds8: what a book has noted: strings by their hashes; a string noted. By this project. -/
set_option maxRecDepth 100000
namespace Go.Proofs.YtbmkclbghfbegaaGreatDoor
open Go.RowKit Go.Extern.Stop
theorem mapS_of : ∀ (ss : List (List UInt8)), mapO asS (ss.map V.s) = some ss
 | [] => rfl
 | x :: r => by rw [List.map_cons, mapO_cons, mapS_of r]; rfl
theorem sort_d {b : Nat} {E : TypeId} {ss : List (List UInt8)} {hp : Hp} (h0 : SV ⟨hp, [b]⟩ hp [(some b, .cells (ss.map .s) E (some 1) false)]) (hl : ss.length ≤ 1000000000) :
  Fn kxD 95 [.sl (some (b, 0)) ss.length ss.length true] hp [b] fun r N => ∃ u, r = .v u ∧ N = [(some b, .cells ((srtB ss).map .s) E (some 1) false)] := by
 unfold Fn
 have hput := put_sv (o' := .cells ((srtB ss).map V.s) E (some 1) false) (i := 0) h0 rfl
 refine ⟨.v (.tup []), _, ⟨1, fun n hn => ?_⟩, [(some b, .cells ((srtB ss).map .s) E (some 1) false)], hput.1, hput.2, _, rfl, rfl⟩
 obtain ⟨n, rfl⟩ : ∃ k, n = k + 1 := ⟨n - 1, by omega⟩
 have e5 : hp.getW b = some (.cells (ss.map .s) E (some 1) false) := getW_own (i := 0) h0 rfl
 have e1 : takeF (dropF (ss.map V.s) 0) ss.length = ss.map V.s := by rw [takeF_eq, dropF_eq, List.drop_zero]; exact List.take_of_length_le (by simp)
 have e2 : (Nat.beq (lenF ss) ss.length && (Nat.ble ss.length 1000000000 && geL (ss.map V.s) (0 + ss.length))) = true := by
  rw [lenF_eq]
  have : geL (ss.map V.s) (0 + ss.length) = true := geL_iff.2 (by simp)
  rw [this, Nat.beq_refl, ble_t hl]
  rfl
 have e3 : appF (takeF (ss.map V.s) 0) (appF ((srtB ss).map V.s) (dropF (ss.map V.s) (0 + ss.length))) = (srtB ss).map V.s := by
  rw [appF_eq, appF_eq, takeF_eq, dropF_eq, List.take_zero, List.nil_append, List.drop_of_length_le (by simp), List.append_nil]
 have e6 : srtExt 95 95 [.sl (some (b, 0)) ss.length ss.length true] hp = some (.v (.tup []), hp.put b (some (.cells ((srtB ss).map .s) E (some 1) false))) := by
  show (match hp.getW b with | _ => _) = _
  simp only [srtExt, e5, e1, mapS_of, Option.bind_some, e2, e3]
 have q : muExt 48 95 [.sl (some (b, 0)) ss.length ss.length true] hp = none := rfl
 have q2 : shaExt 159 4 95 [.sl (some (b, 0)) ss.length ss.length true] hp = none := rfl
 simp only [vcall, orExt, q, q2, e6]
theorem sort_n {b n : Nat} {E : TypeId} {C : List V} (ss : List (List UInt8)) {hp : Hp} (hC : C = ss.map V.s) (hn : ss.length = n) (h0 : SV ⟨hp, [b]⟩ hp [(some b, .cells C E (some 1) false)]) (hl : n ≤ 1000000000) :
  Fn kxD 95 [.sl (some (b, 0)) n n true] hp [b] fun r N => ∃ u, r = .v u ∧ N = [(some b, .cells ((srtB ss).map .s) E (some 1) false)] := by
 subst hC hn
 exact sort_d h0 hl
theorem SV.lastL {B : Bs} {hp : Hp} {x : Option Nat × VO} {L : HV} (h : SV B hp (x :: L)) : SV B hp (L ++ [x]) := h.perm (List.perm_append_singleton x L).symm
theorem SV.midL {B : Bs} {hp : Hp} {x : Option Nat × VO} {L M : HV} (h : SV B hp (x :: (L ++ M))) : SV B hp (L ++ x :: M) := h.perm List.perm_middle.symm
theorem SV.frontL {B : Bs} {hp : Hp} {x : Option Nat × VO} {L M : HV} (h : SV B hp (L ++ x :: M)) : SV B hp (x :: (L ++ M)) := h.perm List.perm_middle
structure Grp where
 h : List UInt8
 b : Nat
 ss : List (List UInt8)
structure Nt where
 a : Nat
 s : Nat
 all : List (List UInt8)
 gs : List Grp
abbrev hK (xs : List UInt8) : V := .agg (xs.map byV)
abbrev grpV (g : Grp) : V := .sl (some (g.b, 0)) g.ss.length g.ss.length true
abbrev grpO (g : Grp) : Option Nat × VO := (some g.b, .cells (g.ss.map V.s) 9 (some 1) false)
abbrev ntA (n : Nt) : VO := .map (entE V.s n.all (n.all.map fun _ => V.b true)) n.all.length
abbrev ntS (n : Nt) : VO := .map (entE hK (n.gs.map (·.h)) (n.gs.map grpV)) (n.gs.map (·.h)).length
abbrev ntL (n : Nt) : HV := (some n.a, ntA n) :: (some n.s, ntS n) :: n.gs.map grpO
structure NtOk (hf : List UInt8 → List UInt8) (n : Nt) : Prop where
 nd : n.all.Nodup
 gd : (n.gs.map (·.h)).Nodup
 gl : ∀ g ∈ n.gs, g.h.length = 32
 gm : ∀ s ∈ n.all, hf s ∈ n.gs.map (·.h)
 gn : ∀ g ∈ n.gs, g.ss = srtB (n.all.filter (fun s => hf s == g.h)) ∧ g.ss ≠ []
def addS (all : List (List UInt8)) (s : List UInt8) : List (List UInt8) := if s ∈ all then all else all ++ [s]
theorem nt0 (hf : List UInt8 → List UInt8) (a s : Nat) : NtOk hf ⟨a, s, [], []⟩ := ⟨by simp, by simp, by simp, by simp, by simp⟩
theorem srtB_perm_eq {l l' : List (List UInt8)} (h : l.Perm l') : srtB l = srtB l' := by rw [← srtB_eq, ← srtB_eq]; exact mergeSort_of_perm h
theorem srtB_app (l : List (List UInt8)) (s : List UInt8) : srtB (srtB l ++ [s]) = srtB (l ++ [s]) := srtB_perm_eq ((srtB_perm l).append_right _)
theorem nt_new {hf : List UInt8 → List UInt8} {n : Nt} {s : List UInt8} {b : Nat} (h : NtOk hf n) (hs : s ∉ n.all) (hg : hf s ∉ n.gs.map (·.h)) (hl : (hf s).length = 32) : NtOk hf ⟨n.a, n.s, n.all ++ [s], n.gs ++ [⟨hf s, b, [s]⟩]⟩ := by
 have hne : ∀ x ∈ n.all, hf x ≠ hf s := fun x hx e => hg (e ▸ h.gm x hx)
 refine ⟨?_, ?_, ?_, ?_, ?_⟩
 ·rw [List.nodup_append]
  exact ⟨h.nd, by simp, fun a ha b hb e => by simp at hb; subst hb; exact hs (e ▸ ha)⟩
 ·rw [List.map_append, List.nodup_append]
  exact ⟨h.gd, by simp, fun a ha b hb e => by simp at hb; subst hb; exact hg (e ▸ ha)⟩
 ·intro g hg'
  rcases List.mem_append.1 hg' with q | q
  ·exact h.gl g q
  ·simp at q; subst q; exact hl
 ·intro x hx
  rw [List.map_append]
  rcases List.mem_append.1 hx with q | q
  ·exact List.mem_append_left _ (h.gm x q)
  ·simp at q; subst q; simp
 ·intro g hg'
  rcases List.mem_append.1 hg' with q | q
  ·have e : (hf s == g.h) = false := by
    rw [beq_eq_false_iff_ne]
    intro e
    exact hg (e ▸ List.mem_map_of_mem (f := (·.h)) q)
   simp only [List.filter_append, List.filter_cons, e, List.filter_nil]
   simpa using h.gn g q
  ·simp only [List.mem_singleton] at q
   subst q
   have e : n.all.filter (fun x => hf x == hf s) = [] := List.filter_eq_nil_iff.2 fun x hx => by simpa using hne x hx
   simp [List.filter_append, e, srtB, insB]
theorem nt_old {hf : List UInt8 → List UInt8} {n : Nt} {s : List UInt8} {b : Nat} {g1 g2 : List Grp} {g : Grp} (h : NtOk hf n) (hs : s ∉ n.all) (hg : n.gs = g1 ++ g :: g2) (he : g.h = hf s) : NtOk hf ⟨n.a, n.s, n.all ++ [s], g1 ++ ⟨hf s, b, srtB (g.ss ++ [s])⟩ :: g2⟩ := by
 have hmap : (g1 ++ (⟨hf s, b, srtB (g.ss ++ [s])⟩ : Grp) :: g2).map (·.h) = n.gs.map (·.h) := by rw [hg]; simp [he]
 have hgm : g ∈ n.gs := by rw [hg]; simp
 refine ⟨?_, by rw [hmap]; exact h.gd, ?_, ?_, ?_⟩
 ·rw [List.nodup_append]
  exact ⟨h.nd, by simp, fun a ha b hb e => by simp at hb; subst hb; exact hs (e ▸ ha)⟩
 ·intro x hx
  rcases List.mem_append.1 hx with q | q
  ·exact h.gl x (by rw [hg]; exact List.mem_append_left _ q)
  ·rcases List.mem_cons.1 q with rfl | q
   ·show (hf s).length = 32
    rw [← he]; exact h.gl g hgm
   ·exact h.gl x (by rw [hg]; simp [q])
 ·intro x hx
  show hf x ∈ (g1 ++ (⟨hf s, b, srtB (g.ss ++ [s])⟩ : Grp) :: g2).map (·.h)
  rw [hmap]
  rcases List.mem_append.1 hx with q | q
  ·exact h.gm x q
  ·simp at q; subst q
   rw [← he]
   exact List.mem_map_of_mem hgm
 ·have hnd := h.gd
  rw [hg, List.map_append, List.map_cons, List.nodup_append] at hnd
  obtain ⟨d1, d2, d3⟩ := hnd
  rw [List.nodup_cons] at d2
  have other : ∀ x ∈ n.gs, x.h ≠ hf s → x.ss = srtB ((n.all ++ [s]).filter (fun y => hf y == x.h)) ∧ x.ss ≠ [] := fun x hx hne => by
   have e : (hf s == x.h) = false := by rw [beq_eq_false_iff_ne]; exact fun e => hne e.symm
   simp only [List.filter_append, List.filter_cons, e, List.filter_nil]
   simpa using h.gn x hx
  intro x hx
  rcases List.mem_append.1 hx with q | q
  ·refine other x (by rw [hg]; exact List.mem_append_left _ q) fun e => ?_
   exact d3 x.h (List.mem_map_of_mem q) g.h (by simp) (e.trans he.symm)
  ·rcases List.mem_cons.1 q with rfl | q
   ·obtain ⟨h1, h2⟩ := h.gn g hgm
    refine ⟨?_, ?_⟩
    ·show srtB (g.ss ++ [s]) = srtB ((n.all ++ [s]).filter (fun y => hf y == hf s))
     rw [List.filter_append, h1, srtB_app, he]
     simp
    ·show srtB (g.ss ++ [s]) ≠ []
     intro e
     have := (srtB_perm (g.ss ++ [s])).length_eq
     rw [e] at this
     simp at this
   ·refine other x (by rw [hg]; simp [q]) fun e => ?_
    exact d2.1 (by rw [he, ← e]; exact List.mem_map_of_mem q)
end Go.Proofs.YtbmkclbghfbegaaGreatDoor
/- Ds9: a string noted. By this project. -/
set_option maxRecDepth 100000
namespace Go.Proofs.YtbmkclbghfbegaaGreatDoor
open Go.RowKit Go.Extern.Stop
set_option maxHeartbeats 8000000 in
theorem note_d {hf : List UInt8 → List UInt8} {n : Nt} {b o : Nat} {s : List UInt8} {hp : Hp} (h0 : SV ⟨hp, hnds (ntL n)⟩ hp (ntL n)) (hok : NtOk hf n) (hR : RB ⟨hp, hnds (ntL n)⟩ (some (b, o)) [.m (some n.s), .m (some n.a)]) (hh : (hf s).length = 32) (hl : n.all.length < 100000000) :
  Fn kxD 74 [.p (some (b, o)), .s s, .agg ((hf s).map byV)] hp (hnds (ntL n)) fun r N => ∃ u, r = .v u ∧ (u = .tup [] ∧ ∃ n', NtOk hf n' ∧ n'.a = n.a ∧ n'.s = n.s ∧ n'.all = addS n.all s ∧ N = ntL n') := by
 have hhl : ((hf s).map byV).length = 32 := by rw [List.length_map, hh]
 have hvl : (n.all.map fun _ => V.b true).length = n.all.length := by simp
 have hgv : (n.gs.map grpV).length = (n.gs.map (·.h)).length := by simp
 have hgk : ∀ x ∈ n.gs.map (·.h), x.length = 32 := fun x hx => by
  obtain ⟨g, hg, rfl⟩ := List.mem_map.1 hx
  exact hok.gl g hg
 refine fn_of_w h0 (fun _ => rfl) (fn := Tryz.f74) (by kernel_rfl) rfl rfl ?_
 refine wo ?_
 apply p_op; exact (vwant_n rfl); iterate 4 exact rfl
 refine ev_box rfl rfl fun bh => ⟨_, rfl, ?_⟩
 refine wo ?_
 apply wm; iterate 5 exact rfl
 refine m_ldN rfl hR.1 hR.2 (j := 1) rfl rfl
 refine wo ?_
 by_cases hs : s ∈ n.all
 ·obtain ⟨j, hj⟩ := List.getElem?_of_mem hs
  refine zX (mv_lookup (v := .b true) rfl rfl fun hp hg => lk_some (C := kxD.C) (f := V.s) (ok := fun _ => True) hg (fun _ _ => trivial) hok.nd hvl hj (by rw [List.getElem?_map, hj]; rfl)) ?_
  refine wo ?_
  refine w_heap (L' := ntL n) (fun hp h => h.tail (N := [_])) ?_
  exact w_ret (wend_ret vres0 ⟨_, rfl, rfl, n, hok, rfl, rfl, (if_pos hs).symm, rfl⟩)
 ·refine zX (mv_lookup (v := .b false) rfl rfl fun hp hg => lk_none (C := kxD.C) (f := V.s) (ok := fun _ => True) hg (fun _ _ => trivial) trivial hs hvl) ?_
  refine wo ?_
  apply wm; iterate 5 exact rfl
  refine m_ldN rfl hR.1 hR.2 (j := 1) rfl rfl
  refine wo ?_
  apply p_do; exact (vwant_n rfl); exact rfl; exact rfl
  refine ev_mapup rfl rfl rfl (fun hp hg => up_none (C := kxD.C) (f := V.s) (ok := fun _ => True) hg (fun _ _ => trivial) trivial hs hvl) ⟨_, rfl, ?_⟩
  refine wo ?_
  by_cases hg : hf s ∈ n.gs.map (·.h)
  ·obtain ⟨g, hgm, hge⟩ := List.mem_map.1 hg
   obtain ⟨g1, g2, hgs⟩ := List.append_of_mem hgm
   have hgj : n.gs[g1.length]? = some g := by rw [hgs, List.getElem?_append_right (Nat.le_refl _)]; simp
   have hkj : (n.gs.map (·.h))[g1.length]? = some (hf s) := by rw [List.getElem?_map, hgj, Option.map_some, hge]
   have hvj : (n.gs.map grpV)[g1.length]? = some (grpV g) := by rw [List.getElem?_map, hgj, Option.map_some]
   have hgl : g.ss.length ≤ n.all.length := by
    rw [(hok.gn g hgm).1, (srtB_perm _).length_eq]
    exact List.length_filter_le _ _
   refine wd_heap (L' := grpO g :: (some bh, cellsO ((hf s).map byV) 23) :: (some n.a, .map (entE V.s (n.all ++ [s]) ((n.all.map fun _ => V.b true) ++ [V.b true])) (n.all.length + 1)) :: (some n.s, ntS n) :: (g1 ++ g2).map grpO) (fun hp h => ?_) ?_
   ·rw [hgs, List.map_append, List.map_cons] at h
    rw [List.map_append]
    exact SV.frontL (L := [_, _, _] ++ g1.map grpO) h
   apply dm; iterate 6 exact rfl
   refine m_ldN rfl hR.1 hR.2 (j := 0) rfl rfl
   refine yX (m_ldln (s := 31) (cs := (hf s).map byV) rfl (by rw [List.drop_zero]; exact List.take_of_length_le (by omega)) hhl) ?_
   refine wo ?_
   apply d_op; exact (vwant_n rfl); exact rfl; exact noRd rfl; decide +kernel; (iterate 3 exact rfl); rotate_left
   refine e_bs (C := [.s s]) rfl rfl (.cons rfl rfl .nil) rfl fun bn => ⟨_, rfl, ?_⟩
   try (case hok => exact rdOk_nil)
   apply d_op; exact (vwant_n rfl); exact rfl; exact noRd rfl; decide +kernel; (iterate 3 exact rfl); rotate_left
   refine ev_mapentry rfl (kv := hK (hf s)) rfl (fun hp hg' => ent_some (C := kxD.C) (f := hK) (ok := fun xs => xs.length = 32) hg' hgk hok.gd hgv hkj hvj) ⟨_, rfl, ?_⟩
   try (case hok => exact rdOk_b (by decide +kernel))
   refine wo ?_
   apply d_op; exact (vwant_n rfl); exact rfl; exact noRd rfl; decide +kernel; (iterate 3 exact rfl); rotate_left
   refine e_appO (old := g.ss.map V.s) (new := [.s s]) rfl rfl (by simp) (rz_loc (k := 1) rfl) rfl (by decide) (by omega) fun bg => ⟨_, rfl, ?_⟩
   try (case hok => exact rdOk_b (by decide +kernel))
   dsimp only [List.set]
   refine wo ?_
   apply d_do; exact (vwant_n rfl); exact rfl; exact noRd rfl; decide +kernel; exact rfl; rotate_left
   refine ev_entryst rfl rfl rfl (put_born (by simp) (v := grpV g) hvj) ⟨_, rfl, ?_⟩
   try (case hok => exact rdOk_b (by decide +kernel))
   refine wo ?_
   apply dm; iterate 6 exact rfl
   refine m_ldN rfl hR.1 hR.2 (j := 0) rfl rfl
   refine yX (m_ldln (s := 31) (cs := (hf s).map byV) rfl (by rw [List.drop_zero]; exact List.take_of_length_le (by omega)) hhl) ?_
   refine yX (mv_lookup (kv := hK (hf s)) (v := .sl (some (bg, 0)) (g.ss.length + 1) (g.ss.length + 1) true) rfl rfl fun hp hg' => lk_some (C := kxD.C) (f := hK) (ok := fun xs => xs.length = 32) (j := g1.length) hg' hgk hok.gd (by simp) hkj (by rw [List.getElem?_set_self (by rw [hgs]; simp)])) ?_
   apply d_callY [1]; exact (vwant_n rfl); decide +kernel; (iterate 4 exact rfl)
   try (case hok => exact rdOk_b (by decide +kernel))
   case hC => exact (fun hp hs' ht => sort_n (g.ss ++ [s]) (by simp) (by simp) ht (by omega))
   rintro u N rfl
   have hsl : (srtB (g.ss ++ [s])).length = g.ss.length + 1 := by rw [(srtB_perm _).length_eq]; simp
   refine wd_heap (L' := ntL ⟨n.a, n.s, n.all ++ [s], g1 ++ ⟨hf s, bg, srtB (g.ss ++ [s])⟩ :: g2⟩) (fun hp h => ?_) ?_
   ·have e : ntL ⟨n.a, n.s, n.all ++ [s], g1 ++ ⟨hf s, bg, srtB (g.ss ++ [s])⟩ :: g2⟩ = (some n.a, .map (entE V.s (n.all ++ [s]) ((n.all.map fun _ => V.b true) ++ [V.b true])) (n.all.length + 1)) :: (some n.s, .map (entE hK (n.gs.map (·.h)) ((n.gs.map grpV).set g1.length (.sl (some (bg, 0)) (g.ss.length + 1) (g.ss.length + 1) true))) (n.gs.map (·.h)).length) :: (g1.map grpO ++ grpO ⟨hf s, bg, srtB (g.ss ++ [s])⟩ :: g2.map grpO) := by
     have e1 : (n.gs.map grpV).set g1.length (.sl (some (bg, 0)) (g.ss.length + 1) (g.ss.length + 1) true) = (g1 ++ (⟨hf s, bg, srtB (g.ss ++ [s])⟩ : Grp) :: g2).map grpV := by
      rw [hgs, List.map_append, List.set_append_right _ _ (by simp)]
      simp [hsl]
     have e2 : (g1 ++ (⟨hf s, bg, srtB (g.ss ++ [s])⟩ : Grp) :: g2).map (·.h) = n.gs.map (·.h) := by rw [hgs]; simp [hge]
     rw [e1, ← e2]
     simp
    rw [e]
    rw [List.map_append] at h
    exact SV.tail (N := [_, _]) (SV.midL (L := [_, _, _, _] ++ g1.map grpO) h)
   ·refine wo ?_
    exact wend_norm vres0 ⟨_, rfl, rfl, _, nt_old hok hs hgs hge, rfl, rfl, (if_neg hs).symm, rfl⟩
  ·apply dm; iterate 6 exact rfl
   refine m_ldN rfl hR.1 hR.2 (j := 0) rfl rfl
   refine yX (m_ldln (s := 31) (cs := (hf s).map byV) rfl (by rw [List.drop_zero]; exact List.take_of_length_le (by omega)) hhl) ?_
   refine wo ?_
   apply d_op; exact (vwant_n rfl); exact rfl; exact noRd rfl; decide +kernel; (iterate 3 exact rfl); rotate_left
   refine e_bs (C := [.s s]) rfl rfl (.cons rfl rfl .nil) rfl fun bn => ⟨_, rfl, ?_⟩
   try (case hok => exact rdOk_nil)
   apply d_op; exact (vwant_n rfl); exact rfl; exact noRd rfl; decide +kernel; (iterate 3 exact rfl); rotate_left
   refine ev_mapentry rfl (kv := hK (hf s)) rfl (fun hp hg' => ent_none (C := kxD.C) (f := hK) (ok := fun xs => xs.length = 32) hg' hgk hh hg hgv) ⟨_, rfl, ?_⟩
   try (case hok => exact rdOk_b (by decide +kernel))
   refine wo ?_
   apply d_op; exact (vwant_n rfl); exact rfl; exact noRd rfl; decide +kernel; (iterate 3 exact rfl); rotate_left
   refine e_app0 (new := [.s s]) rfl rfl (rz_loc (k := 1) rfl) rfl (by decide) (by decide) fun bg => ⟨_, rfl, ?_⟩
   try (case hok => exact rdOk_nil)
   refine wo ?_
   apply d_do; exact (vwant_n rfl); exact rfl; exact noRd rfl; decide +kernel; exact rfl; rotate_left
   refine ev_entryst rfl rfl rfl (put_born (by simp) (v := .sl none 0 0 false) (by simp)) ⟨_, rfl, ?_⟩
   try (case hok => exact rdOk_b (by decide +kernel))
   refine wo ?_
   apply dm; iterate 6 exact rfl
   refine m_ldN rfl hR.1 hR.2 (j := 0) rfl rfl
   refine yX (m_ldln (s := 31) (cs := (hf s).map byV) rfl (by rw [List.drop_zero]; exact List.take_of_length_le (by omega)) hhl) ?_
   have hset : ((n.gs.map grpV) ++ [V.sl none 0 0 false]).set (n.gs.map (·.h)).length (.sl (some (bg, 0)) 1 1 true) = n.gs.map grpV ++ [.sl (some (bg, 0)) 1 1 true] := by
    rw [List.set_append_right _ _ (by simp)]
    simp
   rw [hset]
   have hk2 : ∀ x ∈ n.gs.map (·.h) ++ [hf s], x.length = 32 := fun x hx => by
    rcases List.mem_append.1 hx with q | q
    ·exact hgk x q
    ·rw [List.mem_singleton.1 q]; exact hh
   have hd2 : (n.gs.map (·.h) ++ [hf s]).Nodup := by
    rw [List.nodup_append]
    exact ⟨hok.gd, by simp, fun a ha b hb e => by simp at hb; subst hb; exact hg (e ▸ ha)⟩
   have hl2 : (n.gs.map grpV ++ [V.sl (some (bg, 0)) 1 1 true]).length = (n.gs.map (·.h) ++ [hf s]).length := by simp
   have hj2 : (n.gs.map (·.h) ++ [hf s])[(n.gs.map (·.h)).length]? = some (hf s) := by simp
   have hv2 : (n.gs.map grpV ++ [V.sl (some (bg, 0)) 1 1 true])[(n.gs.map (·.h)).length]? = some (.sl (some (bg, 0)) 1 1 true) := by rw [List.getElem?_append_right (by simp)]; simp
   refine yX (mv_lookup (kv := hK (hf s)) (v := .sl (some (bg, 0)) 1 1 true) rfl rfl fun hp hg' => lk_some (C := kxD.C) (f := hK) (ok := fun xs => xs.length = 32) hg' hk2 hd2 hl2 hj2 hv2) ?_
   apply d_callY [0]; exact (vwant_n rfl); decide +kernel; (iterate 4 exact rfl)
   try (case hok => exact rdOk_b (by decide +kernel))
   case hC => exact (fun hp hs' ht => sort_n [s] rfl rfl ht (by decide))
   rintro u N rfl
   refine wd_heap (L' := ntL ⟨n.a, n.s, n.all ++ [s], n.gs ++ [⟨hf s, bg, [s]⟩]⟩) (fun hp h => ?_) ?_
   ·have e : ntL ⟨n.a, n.s, n.all ++ [s], n.gs ++ [⟨hf s, bg, [s]⟩]⟩ = (some n.a, .map (entE V.s (n.all ++ [s]) ((n.all.map fun _ => V.b true) ++ [V.b true])) (n.all.length + 1)) :: (some n.s, .map (entE hK (n.gs.map (·.h) ++ [hf s]) (n.gs.map grpV ++ [.sl (some (bg, 0)) 1 1 true])) ((n.gs.map (·.h)).length + 1)) :: (n.gs.map grpO ++ [grpO ⟨hf s, bg, [s]⟩]) := by
     simp
     rfl
    rw [e]
    exact SV.tail (N := [_, _]) (SV.lastL h)
   ·refine wo ?_
    exact wend_norm vres0 ⟨_, rfl, rfl, _, nt_new hok hs hg hh, rfl, rfl, (if_neg hs).symm, rfl⟩
end Go.Proofs.YtbmkclbghfbegaaGreatDoor
/- Ds10: a book on the machine: locked, unlocked; Hash. By this project. -/
set_option maxRecDepth 100000
namespace Go.Proofs.YtbmkclbghfbegaaGreatDoor
open Go.RowKit Go.Extern.Stop
theorem Fn.drop {K : Kx} {f : Nat} {args : List V} {hp : Hp} {T : List Nat} {R : VR → HV → Prop} (h : Fn K f args hp T fun r N => ∃ G N', N = G ++ N' ∧ R r N') : Fn K f args hp T R := by
 unfold Fn at *
 obtain ⟨r, hp', h1, N, h2, h3, G, N', rfl, h4⟩ := h
 exact ⟨r, hp', h1, N', h2.tail, h3, h4⟩
theorem muTurn_sv {B : Bs} {hp : Hp} {L : HV} {i b o p q : Nat} {C : List V} {T : TypeId} (hs : SV B hp L) (h : L[i]? = some (some b, .cells C T none false)) (hc : C[o]? = some (.i .i32 (p : Int))) : muTurn hp b o p q = some (hp.put b (some (.cells (C.set o (.i .i32 (q : Int))) T none false))) := by
 have hb := hs.has i b _ h
 have e1 : cellsAt hp b = some C := by simp only [cellsAt, Hp.get, hb.1]
 have e2 : getL C o = some (.i .i32 (p : Int)) := by rw [getL_eq]; exact hc
 have e3 : hp.getW b = some (.cells C T none false) := getW_own hs h
 have ho : o < C.length := (List.getElem?_eq_some_iff.1 hc).1
 have e4 : intEq ((p : Nat) : Int) (.ofNat p) = true := by rw [intEq_iff]; simp
 have e5 : geL C (o + lenF [V.i .i32 (.ofNat q)]) = true := geL_iff.2 (by rw [lenF_eq]; exact ho)
 have e6 : putAt o C [V.i .i32 (.ofNat q)] = C.set o (.i .i32 (q : Int)) := by
  rw [putAt_eq o C [V.i .i32 (.ofNat q)] ho, List.set_eq_take_append_cons_drop, if_pos ho]
  simp
 simp only [muTurn, e1, e2, e4, storeV, e3, e5, e6]
theorem lock_d {b o : Nat} {C : List V} {T : TypeId} {hp : Hp} (h0 : SV ⟨hp, [b]⟩ hp [(some b, .cells C T none false)]) (hc : C[o]? = some (.i .i32 0)) :
  Fn kxD 48 [.p (some (b, o))] hp [b] fun r N => ∃ u, r = .v u ∧ N = [(some b, .cells (C.set o (.i .i32 1)) T none false)] := by
 unfold Fn
 have hput := put_sv (o' := .cells (C.set o (.i .i32 1)) T none false) (i := 0) h0 rfl
 refine ⟨.v (.tup []), _, ⟨1, fun n hn => ?_⟩, [(some b, .cells (C.set o (.i .i32 1)) T none false)], hput.1, hput.2, _, rfl, rfl⟩
 obtain ⟨n, rfl⟩ : ∃ k, n = k + 1 := ⟨n - 1, by omega⟩
 have e1 := muTurn_sv (q := 1) (p := 0) h0 (i := 0) rfl hc
 have q : muExt 48 48 [.p (some (b, o))] hp = some (.v (.tup []), hp.put b (some (.cells (C.set o (.i .i32 1)) T none false))) := by
  show (muTurn hp b o 0 1).bind _ = _
  rw [e1]
  rfl
 simp only [vcall, orExt, q]
theorem unlock_df {b o i : Nat} {C : List V} {T : TypeId} {u : FM} {B : Bs} {L L' : HV} (hL : L[i]? = some (some b, .cells C T none false)) (hc : C[o]? = some (.i .i32 1)) (hS : L.set i (some b, .cells (C.set o (.i .i32 0)) T none false) = L') :
  DFn kxD 49 [.p (some (b, o))] u B L fun r u' L2 => r = .v (.tup []) ∧ u' = u ∧ L2 = L' := fun hp hs => by
 have hput := put_sv (o' := .cells (C.set o (.i .i32 0)) T none false) (i := i) hs hL
 refine ⟨.v (.tup []), u, _, L', ⟨0, fun n hn => ?_⟩, by rw [← hS]; exact hput.1, hput.2, rfl, rfl, rfl⟩
 have e1 := muTurn_sv (q := 0) (p := 1) hs hL hc
 have q : muExtd 49 49 [.p (some (b, o))] u hp = some (.v (.tup []), u, hp.put b (some (.cells (C.set o (.i .i32 0)) T none false))) := by
  show (muTurn hp b o 1 0).bind _ = _
  rw [e1]
  rfl
 simp only [vdcall, q]
theorem wend_unl {b o i : Nat} {C : List V} {T : TypeId} {B : Bs} {l : VL} {L L' : HV} {rs : List ResultVar} {R : VR → HV → Prop} {v : V} (hL : L[i]? = some (some b, .cells C T none false)) (hc : C[o]? = some (.i .i32 1)) (hS : L.set i (some b, .cells (C.set o (.i .i32 0)) T none false) = L') (hv : ResV kxD.C B rs l L' v) (hR : R (.v v) L') :
  wend kxD B rs R .ret l [(49, [.p (some (b, o))])] L := ⟨.ret, rfl, fun hp hs => by
 obtain ⟨r, u', hp', L2, h1, h2, h3, rfl, rfl, rfl⟩ := unlock_df (u := .ret) hL hc hS hp hs
 exact ⟨_, _, hp', _, h1, h2, h3, v, hv, hR⟩⟩
structure Bk where
 b : Nat
 z : Nat
 bits : Nat
 cb : Nat
 sec : List UInt8
 hd : Nt
 cd : Nt
 fg : Nat
 fs : List (List UInt8 × List UInt8)
abbrev bkC (B : Bk) (mu : Nat) : List V := [.i .i64 (B.bits : Int), .i .i64 (B.cb : Int), .sl (some (B.z, 0)) B.sec.length B.sec.length true, .i .i32 (mu : Int), .i .u32 0, .m (some B.hd.s), .m (some B.hd.a), .m (some B.cd.s), .m (some B.cd.a), .m (some B.fg)]
abbrev fgO (B : Bk) : VO := .map (entE V.s (B.fs.map (·.1)) (B.fs.map fun p => hK p.2)) (B.fs.map (·.1)).length
abbrev bkL (B : Bk) : HV := (some B.b, cellsO (bkC B 0) 114) :: (some B.z, .cells (B.sec.map byV) 5 (some 1) false) :: (some B.fg, fgO B) :: (ntL B.hd ++ ntL B.cd)
def bkH (B : Bk) (x : List UInt8) : List UInt8 := cutB B.bits (sumB x)
def bkM (B : Bk) (x : List UInt8) : List UInt8 := cutB B.cb (macB B.sec x)
structure BkOk (B : Bk) : Prop where
 sec : B.sec.length = 32
 bits : B.bits ≤ 256
 cb : B.cb ≤ 256
 hd : NtOk (bkH B) B.hd
 cd : NtOk (bkM B) B.cd
 fd : (B.fs.map (·.1)).Nodup
 fl : ∀ p ∈ B.fs, p.2 = bkM B p.1
theorem bkM_len (B : Bk) (x : List UInt8) : (bkM B x).length = 32 := by rw [bkM, cutB_len, macB_len]
theorem prOk_one {B : Bs} {A : Option (Nat × Nat)} {x : List UInt8} {c : Nat} {op : Bool} (h1 : RB B A (x.map byV)) (hx : CapOk x.length c op) : PrOk B [(A, x, c, op)] := fun p hp => by
 rcases List.mem_cons.1 hp with rfl | hp
 ·exact ⟨h1, hx⟩
 ·simp at hp
theorem prB_one (A : Option (Nat × Nat)) (x : List UInt8) (c : Nat) (op : Bool) : prB [(A, x, c, op)] = x := by simp [prB]
end Go.Proofs.YtbmkclbghfbegaaGreatDoor
/- Ds11: a book's code, Code. By this project. -/
set_option maxRecDepth 100000
namespace Go.Proofs.YtbmkclbghfbegaaGreatDoor
open Go.RowKit Go.Extern.Stop
set_option maxHeartbeats 8000000 in
theorem bcode_d {B : Bk} {mu : Nat} {A : Option (Nat × Nat)} {xs : List UInt8} {c : Nat} {op : Bool} {hp : Hp} (ho : OkH hp) (hs32 : B.sec.length = 32) (hcb : B.cb ≤ 256) (hk : Tab ⟨hp, []⟩) (hB : RB ⟨hp, []⟩ (some (B.b, 0)) (bkC B mu)) (hz : RB ⟨hp, []⟩ (some (B.z, 0)) (B.sec.map byV)) (hA : RB ⟨hp, []⟩ A (xs.map byV)) (hc : CapOk xs.length c op) (hx : xs.length < 72057594037927936) :
  Fn kxD 73 [.p (some (B.b, 0)), .sl A xs.length c op] hp [] fun r _ => r = .v (hK (bkM B xs)) := by
 have hll : ((bkM B xs).map byV).length = 32 := by rw [List.length_map, bkM_len]
 have hne : (bkM B xs).map byV ≠ [] := fun e => by rw [e] at hll; simp at hll
 refine fn_of_w (T := []) ho.sv (fun _ => rfl) (fn := Tryz.f73) (by kernel_rfl) rfl rfl ?_
 refine wo ?_
 apply p_op; exact (vwant_n rfl); iterate 4 exact rfl
 refine e_alloc rfl fun bo => ⟨_, rfl, ?_⟩
 refine wo ?_
 apply dm; iterate 6 exact rfl
 refine m_ldN rfl hB.1 hB.2 (j := 2) rfl rfl
 refine wo ?_
 apply d_op; exact (vwant_n rfl); exact rfl; exact noRd rfl; decide +kernel; (iterate 3 exact rfl); rotate_left
 refine e_bs (C := [.sl A xs.length c op]) rfl rfl (.cons rfl rfl .nil) rfl fun bp => ⟨_, rfl, ?_⟩
 try (case hok => exact rdOk_nil)
 refine d_callq (vwant_n rfl) (by decide +kernel) rfl rfl rfl rfl (fun hp hs => mac_d (k := B.sec) (ps := [(A, xs, c, op)]) hs.ok (hk.give0 hs) (hz.give0 hs) (by omega) (by omega) (rb_own0 hs (i := 0) rfl (List.take_of_length_le (Nat.le_refl _))) (prOk_one (hA.give0 hs) hc) (by rw [prB_one]; omega) (Nat.le_of_ble_eq_true rfl)) ?_
 rw [prB_one]
 refine wo ?_
 apply dm; iterate 6 exact rfl
 refine m_ldN rfl hB.1 hB.2 (j := 1) rfl rfl
 refine d_callq (vwant_n rfl) (by decide +kernel) rfl rfl rfl rfl (fun hp hs => cut_d (macB_len _ _) hcb hs.ok) ?_
 apply d_do; exact (vwant_n rfl); exact rfl; exact noRd rfl; decide +kernel; exact rfl; rotate_left
 refine e_stn (C' := (bkM B xs).map byV) rfl rfl hne hll (by simp) (overV_all (by show ((bkM B xs).map byV).length = _; rw [hll]; simp)) ⟨_, rfl, ?_⟩
 try (case hok => exact rdOk_b (by decide +kernel))
 refine wo ?_
 exact w_ret (wend_ret (vres1 (rv_cell rfl hll)) rfl)
theorem SV.endL {B : Bs} {hp : Hp} {M P H : HV} (h : SV B hp (M ++ (P ++ (H ++ [])))) : SV B hp (P ++ (H ++ M)) := h.perm (by rw [List.append_nil, ← List.append_assoc P H M]; exact List.perm_append_comm)
set_option maxHeartbeats 8000000 in
theorem code_g {B : Bk} {A : Option (Nat × Nat)} {xs : List UInt8} {c : Nat} {op : Bool} {hp : Hp} (h0 : SV ⟨hp, hnds (bkL B)⟩ hp (bkL B)) (hB : BkOk B) (hk : Tab ⟨hp, hnds (bkL B)⟩) (hA : RB ⟨hp, hnds (bkL B)⟩ A (xs.map byV)) (hc : CapOk xs.length c op) (hx : xs.length < 72057594037927936) (hl : B.cd.all.length < 100000000) :
  Fn kxD 45 [.p (some (B.b, 0)), .sl A xs.length c op] hp (hnds (bkL B)) fun r N => ∃ u, r = .v u ∧ (u = hK (bkM B xs) ∧ ∃ cd', let B' : Bk := ⟨B.b, B.z, B.bits, B.cb, B.sec, B.hd, cd', B.fg, B.fs⟩; BkOk B' ∧ cd'.all = addS B.cd.all xs ∧ N = bkL B') := by
 refine Fn.drop ?_
 have hll : ((bkM B xs).map byV).length = 32 := by rw [List.length_map, bkM_len]
 have hne : (bkM B xs).map byV ≠ [] := fun e => by rw [e] at hll; simp at hll
 refine fn_of_w h0 (fun _ => rfl) (fn := Tryz.f45) (by kernel_rfl) rfl rfl ?_
 refine wo ?_
 apply p_op; exact (vwant_n rfl); iterate 4 exact rfl
 refine e_alloc rfl fun bo => ⟨_, rfl, ?_⟩
 refine wo ?_
 apply wm; iterate 5 exact rfl
 refine m_eqp rfl rfl
 refine wo ?_
 refine p_callq (vwant_n rfl) rfl rfl rfl rfl (fun hp hs => bcode_d (mu := 0) hs.ok hB.sec hB.cb (hk.give0 hs) (rb_own0 hs (i := 1) rfl rfl) (rb_own0 hs (i := 2) rfl (List.take_of_length_le (Nat.le_refl _))) (hA.give0 hs) hc hx) ?_
 apply p_op; exact (vwant_n rfl); iterate 4 exact rfl
 refine e_alloc rfl fun bh => ⟨_, rfl, ?_⟩
 apply p_do; exact (vwant_n rfl); exact rfl; exact rfl
 refine e_stn (C' := (bkM B xs).map byV) rfl rfl hne hll (by simp) (overV_all (by rw [hll]; simp)) ⟨_, rfl, ?_⟩
 refine wo ?_
 apply p_callY [2]; exact (vwant_n rfl); iterate 4 exact rfl
 case hC => exact (fun hp hs ht => lock_d ht rfl)
 rintro u N rfl
 dsimp only [List.set]
 refine wo ?_
 refine wl_defer (vwant_n rfl) rfl rfl rfl rfl rfl ?_
 refine wo ?_
 apply dm; iterate 6 exact rfl
 refine m_b2so rfl hA.1 hA.2
 refine yX (m_ldln (s := 31) (cs := (bkM B xs).map byV) rfl (by rw [List.drop_zero]; exact List.take_of_length_le (by omega)) hll) ?_
 apply d_callM (ntL B.cd); exact (vwant_n rfl); decide +kernel; (iterate 4 exact rfl)
 try (case hok => exact rdOk_b (by decide +kernel))
 case hC => exact (fun hp hs ht => note_d ht hB.cd (rb_own hs (i := 0) rfl rfl) (bkM_len B xs) hl)
 rintro u N ⟨rfl, cd', hn, ha, hs, hall, rfl⟩
 refine wd_heap (L' := [_, _, _, _, _] ++ (ntL B.hd ++ ntL cd')) (fun hp h => SV.endL h) ?_
 refine wo ?_
 refine zX (m_ldln (s := 31) (cs := (bkM B xs).map byV) rfl (by rw [List.drop_zero]; exact List.take_of_length_le (by omega)) hll) ?_
 apply p_do; exact (vwant_n rfl); exact rfl; exact rfl
 refine e_stn (C' := (bkM B xs).map byV) rfl rfl hne hll (by simp) (overV_all (by rw [hll]; simp)) ⟨_, rfl, ?_⟩
 refine wo ?_
 refine w_heap (L' := [_, _] ++ _ :: _) (fun hp h => SV.midL (L := [_, _]) h) ?_
 refine w_ret (wend_unl (i := 2) rfl rfl rfl (vres1 (rv_cell (i := 1) (hL := ⟨rfl⟩) rfl hll)) ⟨[_, _], _, rfl, _, rfl, rfl, cd', ⟨hB.sec, hB.bits, hB.cb, hB.hd, hn, hB.fd, hB.fl⟩, hall, ?_⟩)
 simp only [bkL, bkC, ha, hs]
 rfl
end Go.Proofs.YtbmkclbghfbegaaGreatDoor
/- Ds12: a book's Accept, Sound, Len. By this project. -/
set_option maxRecDepth 100000
namespace Go.Proofs.YtbmkclbghfbegaaGreatDoor
open Go.RowKit Go.Extern.Stop
end Go.Proofs.YtbmkclbghfbegaaGreatDoor
/- Ds13: a book's Sound, Len. By this project. -/
set_option maxRecDepth 100000
namespace Go.Proofs.YtbmkclbghfbegaaGreatDoor
open Go.RowKit Go.Extern.Stop
theorem ntFlat {B : Bs} {hp : Hp} {P : HV} {m n : Nt} (h : SV B hp (P ++ (ntL m ++ ntL n))) : SV B hp (P ++ ((some m.a, ntA m) :: (some m.s, ntS m) :: (some n.a, ntA n) :: (some n.s, ntS n) :: (m.gs.map grpO ++ n.gs.map grpO))) :=
 h.perm ((((List.perm_append_comm_assoc (m.gs.map grpO) [(some n.a, ntA n), (some n.s, ntS n)] (n.gs.map grpO)).append_left [(some m.a, ntA m), (some m.s, ntS m)])).append_left P)
theorem ntBack {B : Bs} {hp : Hp} {P : HV} {m n : Nt} (h : SV B hp (P ++ ((some m.a, ntA m) :: (some m.s, ntS m) :: (some n.a, ntA n) :: (some n.s, ntS n) :: (m.gs.map grpO ++ n.gs.map grpO)))) : SV B hp (P ++ (ntL m ++ ntL n)) :=
 h.perm ((((List.perm_append_comm_assoc [(some n.a, ntA n), (some n.s, ntS n)] (m.gs.map grpO) (n.gs.map grpO)).append_left [(some m.a, ntA m), (some m.s, ntS m)])).append_left P)
theorem ntA_len (n : Nt) : (entE V.s n.all (n.all.map fun _ => V.b true)).length = n.all.length := entE_len _ (by simp)
set_option maxHeartbeats 8000000 in
theorem len_d {B : Bk} {hp : Hp} (h0 : SV ⟨hp, hnds (bkL B)⟩ hp (bkL B)) :
  Fn kxD 16 [.p (some (B.b, 0))] hp (hnds (bkL B)) fun r N => ∃ u, r = .v u ∧ (u = .tup [.i .i64 (B.hd.all.length : Int), .i .i64 (B.cd.all.length : Int)] ∧ N = bkL B) := by
 refine fn_of_w h0 (fun _ => rfl) (fn := Tryz.f16) (by kernel_rfl) rfl rfl ?_
 refine w_heap (L' := [_, _, _] ++ _) (fun hp h => ntFlat h) ?_
 refine wo ?_
 apply wm; iterate 5 exact rfl
 refine m_eqp rfl rfl
 refine wo ?_
 apply p_callY [0]; exact (vwant_n rfl); iterate 4 exact rfl
 case hC => exact (fun hp hs ht => lock_d ht rfl)
 rintro u N rfl
 dsimp only [List.set]
 refine wo ?_
 refine wl_defer (vwant_n rfl) rfl rfl rfl rfl rfl ?_
 refine wo ?_
 refine yX (m_lenm rfl) ?_
 refine wo ?_
 refine yX (m_lenm rfl) ?_
 rw [ntA_len, ntA_len]
 refine wo ?_
 refine w_heap (L' := [_, _, _] ++ (ntL B.hd ++ ntL B.cd)) (fun hp h => ntBack h) ?_
 exact w_ret (wend_unl (i := 0) rfl rfl rfl (vres2 (rv_tmp rfl) (rv_tmp rfl)) ⟨_, rfl, rfl, rfl⟩)
end Go.Proofs.YtbmkclbghfbegaaGreatDoor
/- Ds14: a new book. By this project. -/
set_option maxRecDepth 100000
namespace Go.Proofs.YtbmkclbghfbegaaGreatDoor
open Go.RowKit Go.Extern.Stop
theorem clone_d {A : Option (Nat × Nat)} {xs : List UInt8} {c : Nat} {op : Bool} {hp : Hp} (ho : OkH hp) (hA : RB ⟨hp, []⟩ A (xs.map byV)) (h0 : 0 < xs.length) (h1 : xs.length ≤ 1073741824) :
  Fn kxD 50 [.sl A xs.length c op] hp [] fun r N => ∃ u, r = .v u ∧ ∃ b, u = .sl (some (b, 0)) xs.length xs.length true ∧ N = [(some b, .cells (xs.map byV) 5 (some 1) false)] := by
 refine Fn.drop ?_
 obtain ⟨b, o, rfl⟩ : ∃ b o, A = some (b, o) := by
  cases hq : xs.map byV with
  | nil => have := congrArg List.length hq; simp at this; rw [this] at h0; simp at h0
  | cons v r => exact rv_some (by rw [← hq]; exact hA.1.rv)
 refine fn_of_w (T := []) ho.sv (fun _ => rfl) (fn := Tryz.f50) (by kernel_rfl) rfl rfl ?_
 refine wo ?_
 apply wm; iterate 5 exact rfl
 refine m_eqsl rfl rfl
 refine wo ?_
 apply p_op; exact (vwant_n rfl); iterate 4 exact rfl
 refine e_bs (C := []) rfl rfl .nil rfl fun bn => ⟨_, rfl, ?_⟩
 refine wo ?_
 apply p_op; exact (vwant_n rfl); iterate 4 exact rfl
 refine e_appG (old := []) (new := xs.map byV) rfl rfl (rz_loc (k := 0) rfl) rfl hA.z (by simp) (by omega) (by omega) fun bg => ⟨_, rfl, ?_⟩
 refine wo ?_
 refine w_heap (L' := [_, _]) (fun hp h => h.pick [1, 0] _ rfl (by decide)) ?_
 rw [Nat.zero_add]
 exact w_ret (wend_ret (vres1 (rv_tmp rfl)) ⟨[_], _, rfl, _, rfl, bg, rfl, rfl⟩)
theorem begin_d {hp : Hp} (ho : OkH hp) :
  Fn kxD 63 [] hp [] fun r N => ∃ u, r = .v u ∧ ∃ a s, u = .agg [.m (some s), .m (some a)] ∧ N = ntL ⟨a, s, [], []⟩ := by
 refine Fn.drop ?_
 refine fn_of_w (T := []) ho.sv (fun _ => rfl) (fn := Tryz.f63) (by kernel_rfl) rfl rfl ?_
 refine wo ?_
 apply p_op; exact (vwant_n rfl); iterate 4 exact rfl
 refine e_alloc rfl fun bo => ⟨_, rfl, ?_⟩
 refine wo ?_
 apply p_op; exact (vwant_n rfl); iterate 4 exact rfl
 refine ev_mkmap fun s => ⟨_, rfl, ?_⟩
 apply p_op; exact (vwant_n rfl); iterate 4 exact rfl
 refine ev_mkmap fun a => ⟨_, rfl, ?_⟩
 apply wn; iterate 5 exact rfl
 refine p_buildS (C := [.m (some s), .m (some a)]) (.cons rfl rfl rfl rfl (Nat.le_of_ble_eq_true rfl) (.cons rfl rfl rfl rfl (Nat.le_of_ble_eq_true rfl) .nil)) rfl
 apply p_do; exact (vwant_n rfl); exact rfl; exact rfl
 refine e_stn (C' := [.m (some s), .m (some a)]) rfl rfl (by simp) rfl (by simp) rfl ⟨_, rfl, ?_⟩
 refine wo ?_
 refine w_heap (L' := [_, _, _]) (fun hp h => h.pick [2, 0, 1] _ rfl (by decide)) ?_
 exact w_ret (wend_ret (vres1 (rv_cell rfl rfl)) ⟨[_], _, rfl, _, rfl, a, s, rfl, rfl⟩)
set_option maxHeartbeats 8000000 in
theorem new_d {A : Option (Nat × Nat)} {xs : List UInt8} {bits cb c : Nat} {op : Bool} {hp : Hp} (ho : OkH hp) (hA : RB ⟨hp, []⟩ A (xs.map byV)) (hx : xs.length = 32) (b1 : 8 ≤ bits) (b2 : bits ≤ 256) (c1 : 8 ≤ cb) (c2 : cb ≤ 256) :
  Fn kxD 32 [.i .i64 (bits : Int), .i .i64 (cb : Int), .sl A xs.length c op] hp [] fun r N => ∃ u, r = .v u ∧ ∃ b z ha hs ca cs fg, u = .tup [.p (some (b, 0)), .i .i64 0] ∧ N = bkL ⟨b, z, bits, cb, xs, ⟨ha, hs, [], []⟩, ⟨ca, cs, [], []⟩, fg, []⟩ := by
 refine fn_of_w (T := []) ho.sv (fun _ => rfl) (fn := Tryz.f32) (by kernel_rfl) rfl rfl ?_
 refine wo ?_
 apply wm; iterate 5 exact rfl
 refine mv_int (v := .b false) rfl rfl (vi_lssF (by omega))
 refine wo ?_
 apply wmg; iterate 7 exact rfl
 refine mv_int (v := .b false) rfl rfl (vi_gtrF (by omega))
 refine wo ?_
 apply wmg; iterate 7 exact rfl
 refine mv_int (v := .b false) rfl rfl (vi_lssF (by omega))
 refine wo ?_
 apply wmg; iterate 7 exact rfl
 refine mv_int (v := .b false) rfl rfl (vi_gtrF (by omega))
 refine wo ?_
 apply wm; iterate 5 exact rfl
 refine mv_int (v := .b false) rfl rfl (vi_neqF (by omega))
 refine wo ?_
 apply p_callY []; exact (vwant_n rfl); iterate 4 exact rfl
 case hC => exact (fun hp hs ht => clone_d hs.ok (hA.give0 hs) (by omega) (by omega))
 rintro u N ⟨z, rfl, rfl⟩
 refine wo ?_
 apply p_callY []; exact (vwant_n rfl); iterate 4 exact rfl
 case hC => exact (fun hp hs ht => begin_d hs.ok)
 rintro u N ⟨ha, hs, rfl, rfl⟩
 refine wo ?_
 apply p_callY []; exact (vwant_n rfl); iterate 4 exact rfl
 case hC => exact (fun hp hs ht => begin_d hs.ok)
 rintro u N ⟨ca, cs, rfl, rfl⟩
 refine wo ?_
 apply p_op; exact (vwant_n rfl); iterate 4 exact rfl
 refine ev_mkmap fun fg => ⟨_, rfl, ?_⟩
 apply wn; iterate 5 exact rfl
 refine p_buildS (C := bkC ⟨0, z, bits, cb, xs, ⟨ha, hs, [], []⟩, ⟨ca, cs, [], []⟩, fg, []⟩ 0) (.cons rfl rfl rfl rfl (Nat.le_of_ble_eq_true rfl) (.cons rfl rfl rfl rfl (Nat.le_of_ble_eq_true rfl) (.cons rfl rfl rfl rfl (Nat.le_of_ble_eq_true rfl) (.cons rfl rfl rfl rfl (Nat.le_of_ble_eq_true rfl) (.cons rfl rfl rfl rfl (Nat.le_of_ble_eq_true rfl) (.cons rfl rfl rfl rfl (Nat.le_of_ble_eq_true rfl) .nil)))))) rfl
 apply p_op; exact (vwant_n rfl); iterate 4 exact rfl
 refine ev_box rfl rfl fun b => ⟨_, rfl, ?_⟩
 refine wo ?_
 refine w_heap (L' := [_, _, _, _, _, _, _]) (fun hp h => h.pick [0, 6, 1, 4, 5, 2, 3] _ rfl (by decide)) ?_
 exact w_ret (wend_ret (vres2 (rv_tmp rfl) (rv_tmp rfl)) ⟨_, rfl, b, z, ha, hs, ca, cs, fg, rfl, rfl⟩)
theorem new_ok {b z bits cb ha hs ca cs fg : Nat} {xs : List UInt8} (hx : xs.length = 32) (b2 : bits ≤ 256) (c2 : cb ≤ 256) : BkOk ⟨b, z, bits, cb, xs, ⟨ha, hs, [], []⟩, ⟨ca, cs, [], []⟩, fg, []⟩ :=
 ⟨hx, b2, c2, nt0 _ _ _, nt0 _ _ _, by simp, by simp⟩
end Go.Proofs.YtbmkclbghfbegaaGreatDoor
/- Ds15: a book's Forgeries, where there is none, where there is one. By this project. -/
set_option maxRecDepth 100000
namespace Go.Proofs.YtbmkclbghfbegaaGreatDoor
open Go.RowKit Go.Extern.Stop
end Go.Proofs.YtbmkclbghfbegaaGreatDoor
/- Ds16: the statements' own small functions: Bits, Secret. By this project. -/
set_option maxRecDepth 100000
namespace Go.Proofs.YtbmkclbghfbegaaGreatDoor
open Go.RowKit Go.Extern.Stop
section
variable {K : Kx} {hp0 : Bs} {l : VL} {L : HV} {a b : Operand} {t t' : TypeId}
theorem m_remI {p q : Int} (hx : evL l a = some (.i .i64 p)) (hy : evL l b = some (.i .i64 q)) (hq : q ≠ 0) : MVO K hp0 l L (.binOp .rem t a b t') (.i .i64 (p.tmod q)) :=
 mv_int hx hy (by
  have e : intEq q 0 = false := by rw [intEq_iff]; simpa using hq
  simp only [vint, e])
theorem m_remN {p q : Int} {m n : Nat} (hx : evL l a = some (.i .i64 p)) (hy : evL l b = some (.i .i64 q)) [hm : CastN p m] [hn : CastN q n] (hq : 0 < n) : MVO K hp0 l L (.binOp .rem t a b t') (.i .i64 ((m % n : Nat) : Int)) := by
 have := m_remI (K := K) (hp0 := hp0) (L := L) (t := t) (t' := t') hx hy (by rw [hn.h]; omega)
 rw [hm.h, hn.h] at this
 rw [Int.natCast_emod]
 rw [Int.tmod_eq_emod_of_nonneg (by omega)] at this
 exact this
theorem m_quoN {p q : Int} {m n : Nat} (hx : evL l a = some (.i .i64 p)) (hy : evL l b = some (.i .i64 q)) [hm : CastN p m] [hn : CastN q n] (hq : 0 < n) (hl : m < 9223372036854775808) : MVO K hp0 l L (.binOp .quo t a b t') (.i .i64 ((m / n : Nat) : Int)) := by
 obtain rfl := hm.h
 obtain rfl := hn.h
 refine mv_int hx hy ?_
 have e : intEq (n : Int) 0 = false := by rw [intEq_iff]; simp; omega
 have e2 : (m : Int).tdiv (n : Int) = ((m / n : Nat) : Int) := by rw [Int.tdiv_eq_ediv_of_nonneg (by omega)]; norm_cast
 have h3 : m / n ≤ m := Nat.div_le_self _ _
 simp only [vint, e]
 rw [e2]
 generalize m / n = q at *
 rw [IntWalk.i64_in _ (by omega)]
theorem intEq0 {y : UInt8} (hq : y.toNat ≠ 0) : intEq (Int.ofNat y.toNat) 0 = false := by
 rw [intEq_iff, beq_eq_false_iff_ne]
 exact fun h => hq (Int.ofNat.inj h)
theorem m_remB {x y : UInt8} (hx : evL l a = some (byV x)) (hy : evL l b = some (byV y)) (hq : y.toNat ≠ 0) : MVO K hp0 l L (.binOp .rem t a b t') (byV (UInt8.ofNat (x.toNat % y.toNat))) :=
 mv_int hx hy (by
  have e2 : (Int.ofNat x.toNat).tmod (Int.ofNat y.toNat) = ((x.toNat % y.toNat : Nat) : Int) := by rw [Int.tmod_eq_emod_of_nonneg (by simp)]; norm_cast
  have h3 := x.toNat_lt
  have h4 : x.toNat % y.toNat ≤ x.toNat := Nat.mod_le _ _
  simp only [vint, intEq0 hq]
  rw [e2, byV_ofNat, Nat.mod_eq_of_lt (a := x.toNat % y.toNat) (b := 256) (by omega)])
theorem p_negI {p : Int} (hx : evL l a = some (.i .i64 p)) (h1 : -9223372036854775808 < p ∧ p < 9223372036854775808) : PV K.C l (.unOp .neg t a) (.i .i64 (-p)) :=
 pv_un hx (by show some (V.i .i64 (IntKind.i64.wrap (0 - p))) = _; rw [IntWalk.i64_in _ (by omega), Int.zero_sub])
end
def bitsN (n : Int) : Nat := 8 + (n.tmod 249).natAbs
theorem bitsN_le (n : Int) : 8 ≤ bitsN n ∧ bitsN n ≤ 256 := by
 unfold bitsN
 have h1 : (n.tmod 249).natAbs = n.natAbs % 249 := by rw [Int.natAbs_tmod]; rfl
 rw [h1]
 have := Nat.mod_lt n.natAbs (show 0 < 249 by omega)
 omega
theorem bits_d {n : Int} {hp : Hp} (ho : OkH hp) : Fn kxD 31 [.i .i64 n] hp [] fun r _ => r = .v (.i .i64 ((bitsN n : Nat) : Int)) := by
 have hb := bitsN_le n
 unfold bitsN at hb
 refine fn_of_w (T := []) ho.sv (fun _ => rfl) (fn := Tryz.f31) (by kernel_rfl) rfl rfl ?_
 refine wo ?_
 apply wm; iterate 5 exact rfl
 refine m_remI rfl rfl (by decide)
 refine wo ?_
 by_cases c : n.tmod 249 < 0
 ·apply wm; iterate 5 exact rfl
  refine mv_int (v := .b true) rfl rfl (vi_lssT (by omega))
  refine wo ?_
  apply wn; iterate 5 exact rfl
  refine p_negI rfl (by omega)
  refine wo ?_
  rw [show -(n.tmod 249) = (((n.tmod 249).natAbs : Nat) : Int) by omega]
  refine wo ?_
  exact w_ret (wend_ret (vres1 (rv_tmp rfl)) rfl)
 ·apply wm; iterate 5 exact rfl
  refine mv_int (v := .b false) rfl rfl (vi_lssF (by omega))
  refine wo ?_
  rw [show n.tmod 249 = (((n.tmod 249).natAbs : Nat) : Int) by omega]
  refine wo ?_
  exact w_ret (wend_ret (vres1 (rv_tmp rfl)) (by unfold bitsN; rfl))
theorem rv_some' {hp : Hp} {A : Option (Nat × Nat)} {cs : List V} (h : RV hp A cs) (hn : 0 < cs.length) : ∃ b o, A = some (b, o) := by
 cases cs with
 | nil => simp at hn
 | cons v r => exact rv_some h
def secB (xs : List UInt8) : List UInt8 := (List.range 32).map fun i => xs.getD i 0
theorem secB_len (xs : List UInt8) : (secB xs).length = 32 := by simp [secB]
theorem secB_take {xs : List UInt8} {i : Nat} (h : i < 32) : (secB xs).take (i + 1) = (secB xs).take i ++ [xs.getD i 0] := by
 rw [List.take_succ_eq_append_getElem (by rw [secB_len]; exact h)]
 simp only [secB, List.getElem_map, List.getElem_range]
set_option maxHeartbeats 4000000 in
theorem secret_d {A : Option (Nat × Nat)} {xs : List UInt8} {c : Nat} {op : Bool} {hp : Hp} (ho : OkH hp) (hA : RB ⟨hp, []⟩ A (xs.map byV)) :
  Fn kxD 33 [.sl A xs.length c op] hp [] fun r N => ∃ u, r = .v u ∧ ∃ b, u = .sl (some (b, 0)) 32 32 true ∧ N = [(some b, .cells ((secB xs).map byV) 5 (some 1) false)] := by
 refine Fn.drop ?_
 refine fn_of_w (T := []) ho.sv (fun _ => rfl) (fn := Tryz.f33) (by kernel_rfl) rfl rfl ?_
 refine wo ?_
 refine w_seq ?_
 refine wo ?_
 refine w_loop (ι := Nat × Nat) (fun s => [(4, .i .i64 (s.1 : Nat)), (3, match s.1 with | 0 => .sl none 0 0 false | i + 1 => .sl (some (s.2, 0)) (i + 1) (i + 1) true), (0, .sl A xs.length c op)])
  (fun s => match s.1 with | 0 => [] | i + 1 => [(some s.2, .cells (((secB xs).take (i + 1)).map byV) 5 (some 1) false)])
  (fun s => s.1 ≤ 32) (fun s => 32 - s.1) (0, 0) (Nat.zero_le _) ⟨rfl, rfl, rfl, trivial⟩ (fun hp h => h) ?_
 intro ⟨i, b⟩ hi
 dsimp only at hi ⊢
 refine wo ?_
 by_cases g : i < 32
 ·apply wm; iterate 5 exact rfl
  refine mv_int (v := .b true) rfl rfl (vi_lssT (by omega))
  refine wo ?_
  cases i with
  | zero =>
   dsimp only
   by_cases c : 0 < xs.length
   ·obtain ⟨ba, oa, rfl⟩ : ∃ b o, A = some (b, o) := rv_some' (hA.1.rv) (by rw [List.length_map]; omega)
    apply wm; iterate 5 exact rfl
    refine mv_int (v := .b true) rfl rfl (vi_lssT (by omega))
    refine wo ?_
    apply wn; iterate 5 exact rfl
    refine p_ia rfl rfl (by omega)
    apply wm; iterate 5 exact rfl
    refine m_ldN (v := byV (xs.getD (0) 0)) rfl hA.1 hA.2 rfl (by rw [List.getElem?_map, List.getD_eq_getElem?_getD, List.getElem?_eq_getElem (by omega)]; rfl)
    refine wo ?_
    apply p_op; exact (vwant_n rfl); iterate 4 exact rfl
    refine e_bs (C := [byV (xs.getD (0) 0)]) rfl rfl (.cons rfl rfl .nil) rfl fun bn => ⟨_, rfl, ?_⟩
    apply p_op; exact (vwant_n rfl); iterate 4 exact rfl
    refine e_app0 (new := [byV (xs.getD (0) 0)]) rfl rfl (rz_loc (k := 1) rfl) rfl (by decide) (by decide) fun bg => ⟨_, rfl, ?_⟩
    refine wo ?_
    refine ⟨rfl, (1, bg), Nat.succ_le_succ (Nat.zero_le _), by dsimp only; omega, ⟨rfl, rfl, rfl, trivial⟩, fun hp h => ?_⟩
    have e : ((secB xs).take (0 + 1)).map byV = [byV (xs.getD (0) 0)] := by rw [secB_take (by decide)]; rfl
    dsimp only
    rw [e]
    exact h.pick [0] _ rfl (by decide)
   ·apply wm; iterate 5 exact rfl
    refine mv_int (v := .b false) rfl rfl (vi_lssF (by omega))
    refine wo ?_
    apply p_op; exact (vwant_n rfl); iterate 4 exact rfl
    refine e_bs (C := [byV 0]) rfl rfl (.cons rfl rfl .nil) rfl fun bn => ⟨_, rfl, ?_⟩
    apply p_op; exact (vwant_n rfl); iterate 4 exact rfl
    refine e_app0 (new := [byV 0]) rfl rfl (rz_loc (k := 1) rfl) rfl (by decide) (by decide) fun bg => ⟨_, rfl, ?_⟩
    refine wo ?_
    refine ⟨rfl, (1, bg), Nat.succ_le_succ (Nat.zero_le _), by dsimp only; omega, ⟨rfl, rfl, rfl, trivial⟩, fun hp h => ?_⟩
    have e : ((secB xs).take (0 + 1)).map byV = [byV 0] := by rw [secB_take (by decide)]; simp [List.getD_eq_getElem?_getD, List.getElem?_eq_none (show xs.length ≤ 0 by omega)]
    dsimp only
    rw [e]
    exact h.pick [0] _ rfl (by decide)
  | succ i =>
   dsimp only
   by_cases c : i + 1 < xs.length
   ·obtain ⟨ba, oa, rfl⟩ : ∃ b o, A = some (b, o) := rv_some' (hA.1.rv) (by rw [List.length_map]; omega)
    apply wm; iterate 5 exact rfl
    refine mv_int (v := .b true) rfl rfl (vi_lssT (by omega))
    refine wo ?_
    apply wn; iterate 5 exact rfl
    refine p_ia rfl rfl (by omega)
    apply wm; iterate 5 exact rfl
    refine m_ldN (v := byV (xs.getD (i + 1) 0)) rfl hA.1 hA.2 rfl (by rw [List.getElem?_map, List.getD_eq_getElem?_getD, List.getElem?_eq_getElem (by omega)]; rfl)
    refine wo ?_
    apply p_op; exact (vwant_n rfl); iterate 4 exact rfl
    refine e_bs (C := [byV (xs.getD (i + 1) 0)]) rfl rfl (.cons rfl rfl .nil) rfl fun bn => ⟨_, rfl, ?_⟩
    apply p_op; exact (vwant_n rfl); iterate 4 exact rfl
    refine e_appO (old := ((secB xs).take (i + 1)).map byV) (new := [byV (xs.getD (i + 1) 0)]) rfl rfl (by rw [List.length_map, List.length_take, secB_len]; omega) (rz_loc (k := 1) rfl) rfl (by decide) (by omega) fun bg => ⟨_, rfl, ?_⟩
    dsimp only [List.set]
    refine wo ?_
    refine ⟨rfl, (i + 1 + 1, bg), g, by dsimp only; omega, ⟨rfl, rfl, rfl, trivial⟩, fun hp h => ?_⟩
    have e : ((secB xs).take (i + 1 + 1)).map byV = ((secB xs).take (i + 1)).map byV ++ [byV (xs.getD (i + 1) 0)] := by rw [secB_take g, List.map_append]; rfl
    dsimp only
    rw [e]
    exact h.pick [1] _ rfl (by decide)
   ·apply wm; iterate 5 exact rfl
    refine mv_int (v := .b false) rfl rfl (vi_lssF (by omega))
    refine wo ?_
    apply p_op; exact (vwant_n rfl); iterate 4 exact rfl
    refine e_bs (C := [byV 0]) rfl rfl (.cons rfl rfl .nil) rfl fun bn => ⟨_, rfl, ?_⟩
    apply p_op; exact (vwant_n rfl); iterate 4 exact rfl
    refine e_appO (old := ((secB xs).take (i + 1)).map byV) (new := [byV 0]) rfl rfl (by rw [List.length_map, List.length_take, secB_len]; omega) (rz_loc (k := 1) rfl) rfl (by decide) (by omega) fun bg => ⟨_, rfl, ?_⟩
    dsimp only [List.set]
    refine wo ?_
    refine ⟨rfl, (i + 1 + 1, bg), g, by dsimp only; omega, ⟨rfl, rfl, rfl, trivial⟩, fun hp h => ?_⟩
    have e : ((secB xs).take (i + 1 + 1)).map byV = ((secB xs).take (i + 1)).map byV ++ [byV 0] := by rw [secB_take g, List.map_append]; simp [List.getD_eq_getElem?_getD, List.getElem?_eq_none (show xs.length ≤ i + 1 by omega)]
    dsimp only
    rw [e]
    exact h.pick [1] _ rfl (by decide)
 ·apply wm; iterate 5 exact rfl
  refine mv_int (v := .b false) rfl rfl (vi_lssF (by omega))
  refine wo ?_
  refine w_exit ?_
  obtain rfl : i = 32 := by omega
  refine wo ?_
  refine w_ret (wend_ret (vres1 (rv_tmp rfl)) ⟨[], _, rfl, _, rfl, b, rfl, ?_⟩)
  rw [List.take_of_length_le (by rw [secB_len]; decide)]
end Go.Proofs.YtbmkclbghfbegaaGreatDoor
/- Wr: appends to a literal; equal arrays told as equal; strings; what lies behind a value that was handed out. By this project. -/
set_option maxRecDepth 100000
namespace Go.Proofs.YtbmkclbghfbegaaGreatDoor
open Go.RowKit Go.Extern.Stop
section
variable {K : Kx} {hp0 : Bs} {l : VL} {L : HV} {a b : Operand} {t t' : TypeId}
theorem m_neqA {e : TypeId} {n : Nat} {ti : TI} {xs ys : List UInt8} [ht : TiV K.C t ti] [hA : ArrV K.C t n e] [hI : IntV K.C e .u8] [hR : RowV K.C e false] [hS : SizeV K.C e 1] (he : ti.eq = true) (hx : evL l a = some (.agg (xs.map byV))) (hy : evL l b = some (.agg (ys.map byV))) (h1 : xs.length = n) (h2 : ys.length = n) : MVO K hp0 l L (.binOp .neq t a b t') (.b (!decide (xs = ys))) :=
 mv_neq hx hy rfl fun hp => by
  simp only [veqOp, ht.h, Option.bind_some, he]
  exact veq_by (d := 28) h1 h2
theorem m_neqb {ti : TI} {x y : Bool} [ht : TiV K.C t ti] (hd : ti.d = .bool) (hx : evL l a = some (.b x)) (hy : evL l b = some (.b y)) : MVO K hp0 l L (.binOp .neq t a b t') (.b (!(x == y))) :=
 mv_neq hx hy rfl fun hp => by simp only [veqOp, veq, ht.h, Option.bind_some, hd]
end
section
variable {K : Kx} {nt : Nat} {hp0 : Bs} {hp : Hp} {l : VL} {L L0 : HV} {Q : WQ} {a b : Operand} {t t' : TypeId}
theorem ev_heap {op : Op} {tch : List Nat} {k k' : VR → HV → Prop} (h : EV K hp0 l L op tch k') (hk : ∀ r L', k' r L' → ∃ L'', (∀ hp, SV hp0 hp L' → SV hp0 hp L'') ∧ k r L'') : EV K hp0 l L op tch k := by
 unfold EV at h ⊢
 intro fr hp hf hs
 obtain ⟨r, hp', L', h1, h2, h3, h4, h5⟩ := h fr hp hf hs
 obtain ⟨L'', h6, h7⟩ := hk r L' h5
 exact ⟨r, hp', L'', h1, h6 _ h2, h3, h4, h7⟩
theorem ev_tch {op : Op} {b i : Nat} {o : VO} {k : VR → HV → Prop} [hL : AtV b L o i] (h : EV K hp0 l L op [] k) : EV K hp0 l L op [b] k := by
 unfold EV at h ⊢
 intro fr hp hf hs
 obtain ⟨r, hp', L', h1, h2, h3, ⟨h4, h5⟩, h6⟩ := h fr hp hf hs
 exact ⟨r, hp', L', h1, h2, h3, ⟨fun x hx => by simp only [List.mem_singleton] at hx; subst hx; exact (hs.has i _ _ hL.h).2.1, fun x h h' => (h5 x h h').imp_right fun h => by simp at h⟩, h6⟩
theorem set_perm {α : Type} {y : α} : ∀ (L : List α) (i : Nat), i < L.length → (L.set i y).Perm (y :: L.eraseIdx i)
 | x :: r, 0, _ => List.Perm.refl _
 | x :: r, i + 1, h => by
  simp only [List.set_cons_succ, List.eraseIdx_cons_succ]
  exact ((set_perm r i (by simpa using h)).cons x).trans (List.Perm.swap y x _)
theorem e_lit {tS tX e eX : TypeId} {s x : Operand} {A : Option (Nat × Nat)} {b0 n c : Nat} {op' : Bool} {new : List V} {k : VR → HV → Prop} [hS : SliceV K.C tS e] [hz : SizeV K.C e 1] [hG : GrowV K.C e] [hX : SliceV K.C tX eX] (hs : evL l s = some (.sl (some (b0, 0)) 0 0 false)) (hx : evL l x = some (.sl A n c op')) (hr : RZ hp0 ((some b0, cellsO [] e) :: L) A new) (hnl : new.length = n) (h8 : ∃ te, tiV K.C e = some te ∧ te.bytes = 1) (hl : n ≤ 150000000000000)
  (hk : ∀ b op oo, (op = true → oo = some 1) → k (.v (.sl (some (b, 0)) n n op)) ((some b, .cells new e oo false) :: L)) : EV K hp0 l ((some b0, cellsO [] e) :: L) (.call { callee := .builtin .append, args := #[s, x], argTypes := #[tS, tX] }) [] k := by
 by_cases h0 : n = 0
 ·subst h0
  obtain rfl := List.length_eq_zero_iff.1 hnl
  obtain ⟨ti, h3, h4⟩ := hS.h
  obtain ⟨te, h5, h6⟩ := hz.h
  obtain ⟨tx, h7, h8⟩ := hX.h
  haveI : TiV K.C tS ti := ⟨h3⟩
  haveI : TiV K.C e te := ⟨h5⟩
  haveI : TiV K.C tX tx := ⟨h7⟩
  exact ev_appN hs hx h4 (src_sl h8 hr (by simp) (by omega)) (Nat.le_refl 0) (hk b0 false none (fun h => by simp at h))
 ·refine ev_heap (k' := fun r L' => ∃ b, r = .v (.sl (some (b, 0)) n n true) ∧ L' = (some b, .cells new e (some 1) false) :: (some b0, cellsO [] e) :: L) (e_appGb (old := []) hs hx rz_nil rfl hr hnl (by omega) h8 (by omega) fun b => ⟨b, by rw [Nat.zero_add], rfl⟩) ?_
  rintro r L' ⟨b, rfl, rfl⟩
  exact ⟨_, fun hp h => h.sub ((List.sublist_cons_self _ _).cons_cons _), hk b true (some 1) (fun _ => rfl)⟩
theorem e_appU {tS tX e eX : TypeId} {s x : Operand} {A : Option (Nat × Nat)} {b m n c i : Nat} {op op' : Bool} {oo : Option Nat} {old new : List V} {k : VR → HV → Prop} [hS : SliceV K.C tS e] [hz : SizeV K.C e 1] [hG : GrowV K.C e] [hX : SliceV K.C tX eX] (hs : evL l s = some (.sl (some (b, 0)) m m op)) (hx : evL l x = some (.sl A n c op')) [hL : AtV b L (.cells old e oo false) i] (hoo : op = true → oo = some 1) (hol : old.length = m) (hr : RZ hp0 L A new) (hnl : new.length = n) (hn : 0 < n) (h8 : ∃ te, tiV K.C e = some te ∧ te.bytes = 1) (hl : m + n ≤ 150000000000000)
  (hk : ∀ b', k (.v (.sl (some (b', 0)) (m + n) (m + n) true)) (L.set i (some b', .cells (old ++ new) e (some 1) false))) : EV K hp0 l L (.call { callee := .builtin .append, args := #[s, x], argTypes := #[tS, tX] }) [b] k := by
 cases op with
 | true =>
  obtain rfl := hoo rfl
  exact e_appOb hs hx hol hr hnl hn h8 hl hk
 | false =>
  refine ev_tch (ev_heap (k' := fun r L' => ∃ b', r = .v (.sl (some (b', 0)) (m + n) (m + n) true) ∧ L' = (some b', .cells (old ++ new) e (some 1) false) :: L) (e_appGb (old := old) hs hx (rz_loc (k := m) (by rw [List.drop_zero]; exact List.take_of_length_le (Nat.le_of_eq hol))) hol hr hnl (by omega) h8 hl fun b' => ⟨b', rfl, rfl⟩) ?_)
  rintro r L' ⟨b', rfl, rfl⟩
  have hi := (List.getElem?_eq_some_iff.1 hL.h).1
  exact ⟨_, fun hp h => (h.sub (List.Sublist.cons_cons _ (List.eraseIdx_sublist ..))).perm (set_perm L i hi).symm, hk b'⟩
theorem m_mulU {p q : Int} {m n : Nat} (hx : evL l a = some (.i .u64 p)) (hy : evL l b = some (.i .u64 q)) [hm : CastN p m] [hn : CastN q n] (h : m * n < 18446744073709551616) : MVO K hp0 l L (.binOp .mul t a b t') (.i .u64 ((m * n : Nat) : Int)) := by
 obtain rfl := hm.h
 obtain rfl := hn.h
 refine mv_int hx hy ?_
 show some (V.i .u64 (IntKind.u64.wrap ((m : Int) * (n : Int)))) = _
 rw [← Int.natCast_mul, wrapU64 h]
end
structure Seen (X : HV) (A : Option (Nat × Nat)) (xs : List UInt8) : Prop where
 h : ∀ {B : Bs} {hp : Hp} {L : HV}, SV B hp L → (∀ p ∈ X, p ∈ L) → RB ⟨hp, []⟩ A (xs.map byV)
theorem Seen.nil : Seen [] none [] := ⟨fun _ _ => RB.nil⟩
theorem Seen.own {b : Nat} {xs : List UInt8} {T : TypeId} {oo : Option Nat} {mk : Bool} : Seen [(some b, .cells (xs.map byV) T oo mk)] (some (b, 0)) xs := ⟨fun hs hx => by
 obtain ⟨i, hi⟩ := List.getElem?_of_mem (hx _ (List.mem_singleton.2 rfl))
 exact rb_own0 hs hi (by rw [List.drop_zero]; exact List.take_of_length_le (Nat.le_refl _))⟩
end Go.Proofs.YtbmkclbghfbegaaGreatDoor
/- Dn1: the document's sum of any bytes: Padded, Sum of cairnref02. By this project. -/
set_option maxRecDepth 100000
namespace Go.Proofs.YtbmkclbghfbegaaGreatDoor
open Go.RowKit Go.Extern.Stop
theorem u8_bytes : (tiV vC 5).map (·.bytes) = some 1 := by kernel_rfl
theorem u8_one : ∃ te, tiV kxD.C 5 = some te ∧ te.bytes = 1 := by
 obtain ⟨te, h1, h2⟩ := Option.map_eq_some_iff.1 u8_bytes
 exact ⟨te, h1, h2⟩
theorem sizeB_succ (n : Nat) {j : Nat} (h : j < 8) : (sizeB n).take (j + 1) = (sizeB n).take j ++ [UInt8.ofNat (n * 8 / 2 ^ (56 - 8 * j))] := by
 rw [List.take_succ_eq_append_getElem (by rw [sizeB_len]; exact h)]
 simp only [sizeB, List.getElem_map, List.getElem_range, Nat.mul_comm n 8]
theorem padB_size (xs : List UInt8) : (padB xs).length = xs.length + 1 + zN xs.length + 8 := by
 simp only [padB, List.length_append, List.length_replicate, sizeB_len, List.length_cons, List.length_nil]
set_option maxHeartbeats 4000000 in
theorem padded_d {A : Option (Nat × Nat)} {xs : List UInt8} {c : Nat} {op : Bool} {hp : Hp} (ho : OkH hp) (hA : RB ⟨hp, []⟩ A (xs.map byV)) (hl : xs.length ≤ 140737488355328) :
  Fn kxD 138 [.sl A xs.length c op] hp [] fun r N => ∃ u, r = .v u ∧ ∃ b, u = .sl (some (b, 0)) (padB xs).length (padB xs).length true ∧ N = [(some b, .cells ((padB xs).map byV) 5 (some 1) false)] := by
 have hz64 : zN xs.length < 64 := Nat.mod_lt _ (by decide)
 refine Fn.drop ?_
 refine fn_of_w (T := []) ho.sv (fun _ => rfl) (fn := Tryz.f138) (by kernel_rfl) rfl rfl ?_
 refine wo ?_
 apply p_op; exact (vwant_n rfl); iterate 4 exact rfl
 refine e_bs (C := []) rfl rfl .nil rfl fun bn => ⟨_, rfl, ?_⟩
 refine wo ?_
 apply p_op; exact (vwant_n rfl); iterate 4 exact rfl
 refine e_lit (new := xs.map byV) rfl rfl hA.z (by simp) u8_one (by omega) fun b1 o1 oo h1 => ⟨_, rfl, ?_⟩
 refine wo ?_
 apply p_op; exact (vwant_n rfl); iterate 4 exact rfl
 refine e_bs (C := [byV 128]) rfl rfl (.cons rfl rfl .nil) rfl fun bm => ⟨_, rfl, ?_⟩
 apply p_op; exact (vwant_n rfl); iterate 4 exact rfl
 refine e_appU (old := xs.map byV) (new := [byV 128]) rfl rfl h1 (by simp) (rz_loc (k := 1) rfl) rfl (by decide) u8_one (by omega) fun b2 => ⟨_, rfl, ?_⟩
 dsimp only [List.set]
 refine wo ?_
 refine w_seq ?_
 refine wo ?_
 refine w_loop (ι := Nat × Nat) (fun s => [(3, .sl (some (s.2, 0)) (xs.length + 1 + s.1) (xs.length + 1 + s.1) true), (0, .sl A xs.length c op)])
  (fun s => [(some s.2, .cells ((xs ++ [128] ++ List.replicate s.1 0).map byV) 5 (some 1) false)])
  (fun s => s.1 ≤ zN xs.length) (fun s => zN xs.length - s.1) (0, b2) (Nat.zero_le _) ⟨rfl, rfl, trivial⟩ (fun hp h => by
   have e : (xs ++ [128] ++ List.replicate 0 0).map byV = xs.map byV ++ [byV 128] := by simp
   dsimp only
   rw [e]
   exact h.pick [1] _ rfl (by decide)) ?_
 intro ⟨z, b⟩ hz
 dsimp only at hz ⊢
 have h56 := zN_stop hz
 refine wo ?_
 apply wm; iterate 5 exact rfl
 refine m_remN rfl rfl (by decide)
 by_cases g : z = zN xs.length
 rotate_left
 ·have q : (xs.length + 1 + z) % 64 ≠ 56 := fun e => g (h56.1 e)
  apply wm; iterate 5 exact rfl
  refine mv_int (v := .b true) rfl rfl (vi_neqT (by omega))
  refine wo ?_
  apply p_op; exact (vwant_n rfl); iterate 4 exact rfl
  refine e_bs (C := [byV 0]) rfl rfl (.cons rfl rfl .nil) rfl fun bm => ⟨_, rfl, ?_⟩
  apply p_op; exact (vwant_n rfl); iterate 4 exact rfl
  refine e_appOb (old := (xs ++ [128] ++ List.replicate z 0).map byV) (new := [byV 0]) rfl rfl (by simp only [List.length_map, List.length_append, List.length_replicate, List.length_cons, List.length_nil]) (rz_loc (k := 1) rfl) rfl (by decide) u8_one (by omega) fun bg => ⟨_, rfl, ?_⟩
  dsimp only [List.set]
  refine wo ?_
  refine ⟨rfl, (z + 1, bg), by dsimp only; omega, by dsimp only; omega, ⟨rfl, rfl, trivial⟩, fun hp h => ?_⟩
  have e : (xs ++ [128] ++ List.replicate (z + 1) 0).map byV = (xs ++ [128] ++ List.replicate z 0).map byV ++ [byV 0] := by rw [List.replicate_succ', ← List.append_assoc, List.map_append]; rfl
  dsimp only
  rw [e]
  exact h.pick [1] _ rfl (by decide)
 subst g
 have q : (xs.length + 1 + zN xs.length) % 64 = 56 := h56.2 rfl
 apply wm; iterate 5 exact rfl
 refine mv_int (v := .b false) rfl rfl (vi_neqF (by omega))
 refine wo ?_
 refine w_exit ?_
 refine wo ?_
 apply wm; iterate 5 exact rfl
 refine m_convU rfl (by omega)
 apply wm; iterate 5 exact rfl
 refine m_mulU rfl rfl (by omega)
 refine wo ?_
 refine w_seq ?_
 refine wo ?_
 refine w_loop (ι := Nat × Nat) (fun s => [(5, .i .i64 (56 - ((8 * s.1 : Nat) : Int))), (4, .i .u64 ((xs.length * 8 : Nat) : Int)), (3, .sl (some (s.2, 0)) (xs.length + 1 + zN xs.length + s.1) (xs.length + 1 + zN xs.length + s.1) true)])
  (fun s => [(some s.2, .cells ((xs ++ [128] ++ List.replicate (zN xs.length) 0 ++ (sizeB xs.length).take s.1).map byV) 5 (some 1) false)])
  (fun s => s.1 ≤ 8) (fun s => 8 - s.1) (0, b) (Nat.zero_le _) ⟨rfl, rfl, rfl, trivial⟩ (fun hp h => by
   dsimp only
   rw [List.take_zero, List.append_nil]
   exact h) ?_
 intro ⟨j, b⟩ hj
 dsimp only at hj ⊢
 refine wo ?_
 by_cases g : j < 8
 ·rw [show (56 : Int) - ((8 * j : Nat) : Int) = ((56 - 8 * j : Nat) : Int) by omega]
  apply wm; iterate 5 exact rfl
  refine mv_int (v := .b true) rfl rfl (vi_geqT (by omega))
  refine wo ?_
  apply wm; iterate 5 exact rfl
  refine m_shrN rfl rfl (by simp [IntKind.bits]; omega)
  apply wm; iterate 5 exact rfl
  refine m_convB rfl
  apply p_op; exact (vwant_n rfl); iterate 4 exact rfl
  refine e_bs (C := [byV (UInt8.ofNat (xs.length * 8 / 2 ^ (56 - 8 * j)))]) rfl rfl (.cons rfl rfl .nil) rfl fun bm => ⟨_, rfl, ?_⟩
  apply p_op; exact (vwant_n rfl); iterate 4 exact rfl
  refine e_appOb (old := (xs ++ [128] ++ List.replicate (zN xs.length) 0 ++ (sizeB xs.length).take j).map byV) (new := [byV (UInt8.ofNat (xs.length * 8 / 2 ^ (56 - 8 * j)))]) rfl rfl (by simp only [List.length_map, List.length_append, List.length_replicate, List.length_cons, List.length_nil, List.length_take, sizeB_len]; omega) (rz_loc (k := 1) rfl) rfl (by decide) u8_one (by omega) fun bg => ⟨_, rfl, ?_⟩
  dsimp only [List.set]
  refine wo ?_
  apply wm; iterate 5 exact rfl
  refine m_subI rfl rfl (by omega)
  rw [show ((56 - 8 * j : Nat) : Int) - 8 = 56 - ((8 * (j + 1) : Nat) : Int) by omega]
  refine wo ?_
  refine ⟨rfl, (j + 1, bg), g, by dsimp only; omega, ⟨rfl, rfl, rfl, trivial⟩, fun hp h => ?_⟩
  dsimp only
  rw [sizeB_succ _ g, ← List.append_assoc, List.map_append]
  exact h.pick [1] _ rfl (by decide)
 ·obtain rfl : j = 8 := by omega
  apply wm; iterate 5 exact rfl
  refine mv_int (v := .b false) rfl rfl (vi_geqF (by omega))
  refine wo ?_
  refine w_exit ?_
  refine wo ?_
  have e : xs ++ [128] ++ List.replicate (zN xs.length) 0 ++ (sizeB xs.length).take 8 = padB xs := by
   rw [List.take_of_length_le (by rw [sizeB_len]; exact Nat.le_refl 8)]
   rfl
  rw [e, ← padB_size]
  exact w_ret (wend_ret (vres1 (rv_tmp rfl)) ⟨[], _, rfl, _, rfl, b, rfl, rfl⟩)
theorem flat_at : ∀ (ws : List Nat) (i w : Nat), ws[i / 4]? = some w → (ws.flatMap wB)[i]? = some (UInt8.ofNat (w % 4294967296 / 2 ^ (24 - 8 * (i % 4))))
 | [], i, w, h => by simp at h
 | v :: r, 0, w, h => by simp at h; subst h; rfl
 | v :: r, 1, w, h => by simp at h; subst h; rfl
 | v :: r, 2, w, h => by simp at h; subst h; rfl
 | v :: r, 3, w, h => by simp at h; subst h; simp [List.flatMap_cons, wB]
 | v :: r, i + 4, w, h => by
  rw [show (i + 4) / 4 = i / 4 + 1 by omega, List.getElem?_cons_succ] at h
  rw [List.flatMap_cons, List.getElem?_append_right (by show 4 ≤ _; omega), show (i + 4) % 4 = i % 4 by omega]
  exact flat_at r i w h
def smT (h : List UInt8) (i : Nat) : List V := (h.take i).map byV ++ List.replicate (32 - i) (byV 0)
theorem smT_len {h : List UInt8} (hh : h.length = 32) {i : Nat} (hi : i ≤ 32) : (smT h i).length = 32 := by
 simp only [smT, List.length_append, List.length_map, List.length_take, List.length_replicate]
 omega
theorem smT_set {h : List UInt8} {i : Nat} {y : UInt8} (hi : i < 32) (hy : h[i]? = some y) : (smT h i).set i (byV y) = smT h (i + 1) := by
 obtain ⟨h1, h2⟩ := List.getElem?_eq_some_iff.1 hy
 unfold smT
 have e : ((h.take i).map byV).length = i := by rw [List.length_map, List.length_take]; omega
 rw [List.set_append_right _ _ (by omega), e, Nat.sub_self, show 32 - i = (32 - (i + 1)) + 1 by omega, List.replicate_succ, List.set_cons_zero, List.take_succ_eq_append_getElem h1, h2, List.map_append, List.append_assoc]
 rfl
theorem smT_all {h : List UInt8} (hh : h.length = 32) : smT h 32 = h.map byV := by
 unfold smT
 rw [List.take_of_length_le (by omega), Nat.sub_self, List.replicate_zero, List.append_nil]
set_option maxHeartbeats 8000000 in
theorem rsum_d {A : Option (Nat × Nat)} {xs : List UInt8} {c : Nat} {op : Bool} {hp : Hp} (ho : OkH hp) (hk : RB ⟨hp, []⟩ (some (2, 0)) (kW.map wV)) (hA : RB ⟨hp, []⟩ A (xs.map byV)) (hl : xs.length ≤ 140737488355328) :
  Fn kxD 119 [.sl A xs.length c op] hp [] fun r _ => r = .v (.agg ((sumB xs).map byV)) := by
 have hz64 : zN xs.length < 64 := Nat.mod_lt _ (by decide)
 have hpl := padB_size xs
 have hp0 := padB_len xs
 refine fn_of_w (T := []) ho.sv (fun _ => rfl) (fn := Tryz.f119) (by kernel_rfl) rfl rfl ?_
 refine wo ?_
 apply p_op; exact (vwant_n rfl); iterate 4 exact rfl
 refine e_alloc rfl fun bo => ⟨_, rfl, ?_⟩
 refine wo ?_
 apply wn; iterate 5 exact rfl
 refine pv_buildA (C := firstW.map wV) rfl rfl (.cons rfl rfl rfl rfl (by decide) (.cons rfl rfl rfl rfl (by decide) (.cons rfl rfl rfl rfl (by decide) (.cons rfl rfl rfl rfl (by decide) (.cons rfl rfl rfl rfl (by decide) (.cons rfl rfl rfl rfl (by decide) (.cons rfl rfl rfl rfl (by decide) (.cons rfl rfl rfl rfl (by decide) .nil)))))))) rfl
 apply p_op; exact (vwant_n rfl); iterate 4 exact rfl
 refine e_alloc rfl fun bs => ⟨_, rfl, ?_⟩
 apply p_do; exact (vwant_n rfl); exact rfl; exact rfl
 refine e_stn (C := List.replicate 8 (.i .u32 (.ofNat 0))) (C' := firstW.map wV) rfl rfl (by simp [firstW]) rfl (by decide) (overV_all rfl) ⟨_, rfl, ?_⟩
 refine wo ?_
 apply p_callY []; exact (vwant_n rfl); iterate 4 exact rfl
 case hC => exact (fun hp hs ht => padded_d hs.ok (hA.give0 hs) hl)
 rintro u N ⟨bp, rfl, rfl⟩
 refine wo ?_
 refine w_seq ?_
 refine wo ?_
 refine w_loop (ι := Nat) (fun i => [(5, .i .i64 ((64 * i : Nat) : Int)), (4, .sl (some (bp, 0)) (padB xs).length (padB xs).length true), (3, .p (some (bs, 0))), (2, .p (some (bo, 0)))])
  (fun i => [(some bp, .cells ((padB xs).map byV) 5 (some 1) false), (some bs, cellsO ((absN (padB xs) i).map wV) 220), (some bo, cellsO (List.replicate 32 (byV 0)) 23)])
  (fun i => 64 * i ≤ (padB xs).length) (fun i => (padB xs).length - 64 * i) 0 (Nat.zero_le _) ⟨rfl, rfl, rfl, rfl, trivial⟩ (fun hp h => h) ?_
 intro i hi
 have hil := absN_len (padB xs) i
 refine wo ?_
 by_cases g : 64 * i < (padB xs).length
 ·have hbl : (((padB xs).drop (64 * i)).take 64).length = 64 := by rw [List.length_take, List.length_drop]; omega
  have hbc : (((padB xs).map byV).drop (0 + 64 * i)).take ((((padB xs).drop (64 * i)).take 64).map byV).length = (((padB xs).drop (64 * i)).take 64).map byV := by
   rw [Nat.zero_add, List.length_map, hbl, ← List.map_drop, ← List.map_take]
  have hnl : ((absN (padB xs) (i + 1)).map wV).length = 8 := by rw [List.length_map, absN_len]
  apply wm; iterate 5 exact rfl
  refine mv_int (v := .b true) rfl rfl (vi_lssT (by omega))
  refine wo ?_
  refine yX (m_ldln (s := 7) (cs := (absN (padB xs) i).map wV) rfl (by rw [List.drop_zero]; exact List.take_of_length_le (by rw [List.length_map, hil]; decide)) (by rw [List.length_map, hil])) ?_
  refine wo ?_
  refine yX (m_sloi rfl (bl_some rfl) (bl_some rfl) (Nat.le_add_right _ _) (by omega) g) ?_
  rw [show 64 * i + 64 - 64 * i = 64 by omega]
  refine d_callq (vwant_n rfl) (by decide +kernel) rfl rfl rfl rfl (fun hp hs => mixed_v bp (0 + 64 * i) _ true (absN (padB xs) i) (((padB xs).drop (64 * i)).take 64) hil hbl hs.ok (rb_own0 hs (i := 0) rfl hbc).1 (hk.give0 hs).1) ?_
  apply d_do; exact (vwant_n rfl); exact rfl; exact noRd rfl; decide +kernel; exact rfl; rotate_left
  refine e_stn (C := (absN (padB xs) i).map wV) (C' := (absN (padB xs) (i + 1)).map wV) rfl rfl (fun e => by have := hnl.symm.trans (congrArg List.length e); simp at this) hnl (by simp [hil]) (overV_all (hnl.trans (by rw [List.length_map, hil]))) ⟨_, rfl, ?_⟩
  try (case hok => exact rdOk_b (by decide +kernel))
  refine wo ?_
  exact ⟨rfl, i + 1, by show 64 * (i + 1) ≤ _; omega, by show _ - 64 * (i + 1) < _; omega, ⟨rfl, rfl, rfl, rfl, trivial⟩, fun hp h => h⟩
 apply wm; iterate 5 exact rfl
 refine mv_int (v := .b false) rfl rfl (vi_lssF (by omega))
 refine wo ?_
 refine w_exit ?_
 obtain rfl : i = (padB xs).length / 64 := by omega
 have hsm : (absN (padB xs) ((padB xs).length / 64)).flatMap wB = sumB xs := rfl
 generalize absN (padB xs) ((padB xs).length / 64) = ws at hil hsm
 have hsl := sumB_len xs
 refine wo ?_
 apply p_op; exact (vwant_n rfl); iterate 4 exact rfl
 refine e_alloc rfl fun bh => ⟨_, rfl, ?_⟩
 refine wo ?_
 refine w_seq ?_
 refine wo ?_
 refine w_loop (ι := Nat) (fun i => [(7, .i .i64 (i : Nat)), (6, .p (some (bh, 0))), (3, .p (some (bs, 0))), (2, .p (some (bo, 0)))])
  (fun i => [(some bh, cellsO (smT (sumB xs) i) 23), (some bs, cellsO (ws.map wV) 220), (some bo, cellsO (List.replicate 32 (byV 0)) 23)])
  (fun i => i ≤ 32) (fun i => 32 - i) 0 (Nat.zero_le _) ⟨rfl, rfl, rfl, rfl, trivial⟩ (fun hp h => h.pick [0, 2, 3] _ rfl (by decide)) ?_
 intro i hi
 have hml := smT_len hsl hi
 refine wo ?_
 by_cases g : i < 32
 ·obtain ⟨w, hv⟩ : ∃ w, ws[i / 4]? = some w := ⟨ws[i / 4], List.getElem?_eq_getElem (by omega)⟩
  have hy : (sumB xs)[i]? = some (UInt8.ofNat (w % 4294967296 / 2 ^ (24 - 8 * (i % 4)))) := by rw [← hsm]; exact flat_at ws i w hv
  apply wm; iterate 5 exact rfl
  refine mv_int (v := .b true) rfl rfl (vi_lssT (by omega))
  refine wo ?_
  apply wm; iterate 5 exact rfl
  refine m_quoN rfl rfl (by decide) (by omega)
  apply wn; iterate 5 exact rfl
  refine p_iaa rfl rfl (by omega)
  refine zX (m_ldl (v := .i .u32 ((w % 4294967296 : Nat) : Int)) rfl (by rw [Nat.zero_add, List.getElem?_map, hv]; rfl)) ?_
  refine wo ?_
  apply wm; iterate 5 exact rfl
  refine m_remN rfl rfl (by decide)
  refine wo ?_
  apply wm; iterate 5 exact rfl
  refine m_shrN rfl rfl (by simp [IntKind.bits]; omega)
  apply wm; iterate 5 exact rfl
  refine m_convB rfl
  apply wn; iterate 5 exact rfl
  refine p_iaa rfl rfl (by omega)
  apply p_do; exact (vwant_n rfl); exact rfl; exact rfl
  refine e_st (C := smT (sumB xs) i) (C' := smT (sumB xs) (i + 1)) rfl rfl rfl (by rw [hml]; omega) (by rw [Nat.zero_add]; exact smT_set g hy) ⟨_, rfl, ?_⟩
  refine wo ?_
  exact ⟨rfl, i + 1, g, by omega, ⟨rfl, rfl, rfl, rfl, trivial⟩, fun hp h => h⟩
 apply wm; iterate 5 exact rfl
 refine mv_int (v := .b false) rfl rfl (vi_lssF (by omega))
 refine wo ?_
 refine w_exit ?_
 obtain rfl : i = 32 := by omega
 rw [smT_all hsl]
 have hcl : ((sumB xs).map byV).length = 32 := by rw [List.length_map, hsl]
 refine wo ?_
 refine zX (m_ldln (s := 31) (cs := (sumB xs).map byV) rfl (by rw [List.drop_zero]; exact List.take_of_length_le (by omega)) hcl) ?_
 apply p_do; exact (vwant_n rfl); exact rfl; exact rfl
 refine e_stn (C' := (sumB xs).map byV) rfl rfl (fun e => by rw [e] at hcl; simp at hcl) hcl (by simp) (overV_all (by rw [hcl]; simp)) ⟨_, rfl, ?_⟩
 refine wo ?_
 exact w_ret (wend_ret (vres1 (rv_cell rfl hcl)) rfl)
end Go.Proofs.YtbmkclbghfbegaaGreatDoor
/- Ds17: what the document fixes of hashes; how many hashes a book knows; the closed part of the statements. By this project. -/
set_option maxRecDepth 100000
namespace Go.Proofs.YtbmkclbghfbegaaGreatDoor
open Go.RowKit Go.Extern.Stop
theorem cutB_at {bits i : Nat} {h : List UInt8} {y : UInt8} (hy : h[i]? = some y) : (cutB bits h)[i]? = some (cutY bits i y) := by
 rw [cutB, List.getElem?_mapIdx, hy]
 rfl
theorem new_n {A : Option (Nat × Nat)} {xs : List UInt8} {bits cb c n : Nat} {op : Bool} {hp : Hp} (hn : xs.length = n) (ho : OkH hp) (hA : RB ⟨hp, []⟩ A (xs.map byV)) (hx : xs.length = 32) (b1 : 8 ≤ bits) (b2 : bits ≤ 256) (c1 : 8 ≤ cb) (c2 : cb ≤ 256) :
  Fn kxD 32 [.i .i64 (bits : Int), .i .i64 (cb : Int), .sl A n c op] hp [] fun r N => ∃ u, r = .v u ∧ ∃ b z ha hs ca cs fg, u = .tup [.p (some (b, 0)), .i .i64 0] ∧ N = bkL ⟨b, z, bits, cb, xs, ⟨ha, hs, [], []⟩, ⟨ca, cs, [], []⟩, fg, []⟩ := by
 subst hn
 exact new_d ho hA hx b1 b2 c1 c2
structure BkSt (B : Bk) (b bits cb : Nat) (sec : List UInt8) (ha ca : List (List UInt8)) (fs : List (List UInt8 × List UInt8)) : Prop where
 ok : BkOk B
 b : B.b = b
 bits : B.bits = bits
 cb : B.cb = cb
 sec : B.sec = sec
 ha : B.hd.all = ha
 ca : B.cd.all = ca
 fs : B.fs = fs
theorem new_s {A : Option (Nat × Nat)} {xs : List UInt8} {bits cb c n : Nat} {op : Bool} {hp : Hp} (hn : xs.length = n) (ho : OkH hp) (hA : RB ⟨hp, []⟩ A (xs.map byV)) (hx : xs.length = 32) (b1 : 8 ≤ bits) (b2 : bits ≤ 256) (c1 : 8 ≤ cb) (c2 : cb ≤ 256) :
  Fn kxD 32 [.i .i64 (bits : Int), .i .i64 (cb : Int), .sl A n c op] hp [] fun r N => ∃ u, r = .v u ∧ ∃ b B, u = .tup [.p (some (b, 0)), .i .i64 0] ∧ BkSt B b bits cb xs [] [] [] ∧ N = bkL B :=
 (new_n hn ho hA hx b1 b2 c1 c2).mono fun r N ⟨u, h1, b, z, ha, hs, ca, cs, fg, h2, h3⟩ => ⟨u, h1, b, _, h2, ⟨new_ok hx b2 c2, rfl, rfl, rfl, rfl, rfl, rfl, rfl⟩, h3⟩
variable {B : Bk} {b bits cb : Nat} {sec : List UInt8} {ha ca : List (List UInt8)} {fs : List (List UInt8 × List UInt8)}
theorem code_gs {A : Option (Nat × Nat)} {xs : List UInt8} {c : Nat} {op : Bool} {hp : Hp} (hB : BkSt B b bits cb sec ha ca fs) (h0 : SV ⟨hp, hnds (bkL B)⟩ hp (bkL B)) (hk : Tab ⟨hp, hnds (bkL B)⟩) (hA : RB ⟨hp, hnds (bkL B)⟩ A (xs.map byV)) (hc : CapOk xs.length c op) (hx : xs.length < 72057594037927936) (hl : ca.length < 100000000) :
  Fn kxD 45 [.p (some (b, 0)), .sl A xs.length c op] hp (hnds (bkL B)) fun r N => ∃ u, r = .v u ∧ (u = hK (cutB cb (macB sec xs)) ∧ ∃ B', BkSt B' b bits cb sec ha (addS ca xs) fs ∧ N = bkL B') := by
 obtain ⟨ok, rfl, rfl, rfl, rfl, rfl, rfl, rfl⟩ := hB
 exact (code_g h0 ok hk hA hc hx hl).mono fun r N ⟨u, h1, h2, hd', h3, h4, h5⟩ => ⟨u, h1, h2, _, ⟨h3, rfl, rfl, rfl, rfl, rfl, h4, rfl⟩, h5⟩
theorem len_s {hp : Hp} (hB : BkSt B b bits cb sec ha ca fs) (h0 : SV ⟨hp, hnds (bkL B)⟩ hp (bkL B)) :
  Fn kxD 16 [.p (some (b, 0))] hp (hnds (bkL B)) fun r N => ∃ u, r = .v u ∧ (u = .tup [.i .i64 (ha.length : Int), .i .i64 (ca.length : Int)] ∧ N = bkL B) := by
 obtain ⟨ok, rfl, rfl, rfl, rfl, rfl, rfl, rfl⟩ := hB
 exact len_d h0
end Go.Proofs.YtbmkclbghfbegaaGreatDoor
/- Dn2: hashes and refs, as the document tells them and as the program does: Hash of cairnref04, Refer and SameRef of cairnref07, Refer of node; the statements' Roomy, AsWas. By this project. -/
set_option maxRecDepth 100000
namespace Go.Proofs.YtbmkclbghfbegaaGreatDoor
open Go.RowKit Go.Extern.Stop
section
variable {K : Kx} {hp0 : Bs} {l : VL} {L : HV} {a b : Operand} {t t' : TypeId}
theorem m_mulB {x y : UInt8} (hx : evL l a = some (byV x)) (hy : evL l b = some (byV y)) : MVO K hp0 l L (.binOp .mul t a b t') (byV (UInt8.ofNat (x.toNat * y.toNat))) :=
 mv_int hx hy (by
  show some (V.i .u8 (IntKind.u8.wrap (Int.ofNat x.toNat * Int.ofNat y.toNat))) = _
  have e : Int.ofNat x.toNat * Int.ofNat y.toNat = ((x.toNat * y.toNat : Nat) : Int) := by simp
  rw [e, wrapU8, ← byV_ofNat])
theorem m_subB {x y : UInt8} (hx : evL l a = some (byV x)) (hy : evL l b = some (byV y)) (h : y.toNat ≤ x.toNat) : MVO K hp0 l L (.binOp .sub t a b t') (byV (UInt8.ofNat (x.toNat - y.toNat))) :=
 mv_int hx hy (by
  show some (V.i .u8 (IntKind.u8.wrap (Int.ofNat x.toNat - Int.ofNat y.toNat))) = _
  have e : Int.ofNat x.toNat - Int.ofNat y.toNat = ((x.toNat - y.toNat : Nat) : Int) := by simp; omega
  rw [e, wrapU8, ← byV_ofNat])
end
theorem mask_rem : ∀ m, m < 8 → ∀ y, y < 256 → (UInt8.ofNat y &&& UInt8.ofNat (255 * 2 ^ (8 - m))) = UInt8.ofNat (y - y % 2 ^ (8 - m)) := by decide +kernel
theorem pow_next : ∀ j, j < 8 → UInt8.ofNat ((UInt8.ofNat (2 ^ j)).toNat * (2 : UInt8).toNat) = UInt8.ofNat (2 ^ (j + 1)) := by decide +kernel
theorem pow_val : ∀ j, j < 8 → (UInt8.ofNat (2 ^ j)).toNat = 2 ^ j := by decide +kernel
theorem cutY_full {bits i : Nat} {y : UInt8} (h : 8 * i + 8 ≤ bits) : cutY bits i y = y := by
 unfold cutY
 rw [if_neg (by omega)]
theorem cutY_mid {bits i : Nat} {y : UInt8} (h1 : 8 * i < bits) (h2 : bits < 8 * i + 8) : cutY bits i y = UInt8.ofNat (y.toNat - y.toNat % 2 ^ (8 - (bits - 8 * i))) := by
 unfold cutY
 rw [if_pos (by omega), show min 8 (bits - 8 * i) = bits - 8 * i by omega, ← mask_rem _ (by omega) _ y.toNat_lt, UInt8.ofNat_toNat]
theorem cutY_none {bits i : Nat} {y : UInt8} (h : bits ≤ 8 * i) : cutY bits i y = 0 := by
 unfold cutY
 rw [if_pos (by omega), show min 8 (bits - 8 * i) = 0 by omega, show UInt8.ofNat (255 * 2 ^ (8 - 0)) = 0 by decide, UInt8.and_zero]
theorem smT_same {h : List UInt8} {i : Nat} (hi : i < 32) (hy : h[i]? = some 0) : smT h i = smT h (i + 1) := by
 rw [← smT_set hi hy]
 have e : ((h.take i).map byV).length = i := by
  have := (List.getElem?_eq_some_iff.1 hy).1
  rw [List.length_map, List.length_take]; omega
 have h2 : (smT h i)[i]? = some (byV 0) := by
  unfold smT
  rw [List.getElem?_append_right (by omega), e, Nat.sub_self, List.getElem?_replicate, if_pos (by omega)]
 obtain ⟨h3, h4⟩ := List.getElem?_eq_some_iff.1 h2
 conv => lhs; rw [← List.set_getElem_self h3, h4]
set_option maxHeartbeats 8000000 in
theorem rcut_d {h : List UInt8} {bits : Nat} (hh : h.length = 32) (hb : bits ≤ 256) {hp : Hp} (ho : OkH hp) :
  Fn kxD 90 [.i .i64 (bits : Int), .agg (h.map byV)] hp [] fun r _ => r = .v (.agg ((cutB bits h).map byV)) := by
 have hne : ∀ {l : List UInt8}, l.length = 32 → l.map byV ≠ [] := fun {l} hl e => by have := congrArg List.length e; rw [List.length_map, hl] at this; simp at this
 have hch : (cutB bits h).length = 32 := by rw [cutB_len, hh]
 refine fn_of_w (T := []) ho.sv (fun _ => rfl) (fn := Tryz.f90) (by kernel_rfl) rfl rfl ?_
 refine wo ?_
 apply p_op; exact (vwant_n rfl); iterate 4 exact rfl
 refine ev_box rfl rfl fun bh => ⟨_, rfl, ?_⟩
 apply p_op; exact (vwant_n rfl); iterate 4 exact rfl
 refine e_alloc rfl fun br => ⟨_, rfl, ?_⟩
 refine wo ?_
 apply p_op; exact (vwant_n rfl); iterate 4 exact rfl
 refine e_alloc rfl fun bo => ⟨_, rfl, ?_⟩
 refine wo ?_
 refine w_seq ?_
 refine wo ?_
 refine w_loop (ι := Nat) (fun i => [(6, .i .i64 (i : Nat)), (5, .p (some (bo, 0))), (4, .p (some (br, 0))), (3, .p (some (bh, 0))), (0, .i .i64 (bits : Int))])
  (fun i => [(some bo, cellsO (smT (cutB bits h) i) 23), (some br, cellsO (List.replicate 32 (byV 0)) 23), (some bh, cellsO (h.map byV) 23)])
  (fun i => i ≤ 32) (fun i => 32 - i) 0 (Nat.zero_le _) ⟨rfl, rfl, rfl, rfl, rfl, trivial⟩ (fun hp h => h) ?_
 intro i hi
 have hml := smT_len hch hi
 refine wo ?_
 by_cases g : i < 32
 rotate_left
 ·apply wm; iterate 5 exact rfl
  refine mv_int (v := .b false) rfl rfl (vi_lssF (by omega))
  refine wo ?_
  refine w_exit ?_
  obtain rfl : i = 32 := by omega
  rw [smT_all hch]
  have hcl : ((cutB bits h).map byV).length = 32 := by rw [List.length_map, hch]
  refine wo ?_
  refine zX (m_ldln (s := 31) (cs := (cutB bits h).map byV) rfl (by rw [List.drop_zero]; exact List.take_of_length_le (by omega)) hcl) ?_
  apply p_do; exact (vwant_n rfl); exact rfl; exact rfl
  refine e_stn (C' := (cutB bits h).map byV) rfl rfl (hne hch) hcl (by simp) (overV_all (by rw [hcl]; simp)) ⟨_, rfl, ?_⟩
  refine wo ?_
  exact w_ret (wend_ret (vres1 (rv_cell rfl hcl)) rfl)
 obtain ⟨y, hy⟩ : ∃ y, h[i]? = some y := ⟨h[i], List.getElem?_eq_getElem (by omega)⟩
 have hcy := cutB_at (bits := bits) hy
 have hld : (h.map byV)[0 + i]? = some (byV y) := by rw [Nat.zero_add, List.getElem?_map, hy]; rfl
 apply wm; iterate 5 exact rfl
 refine mv_int (v := .b true) rfl rfl (vi_lssT (by omega))
 refine wo ?_
 refine w_seq ?_
 refine wo ?_
 apply wm; iterate 5 exact rfl
 refine m_subI rfl rfl (by omega)
 refine wo ?_
 by_cases c1 : 8 * i + 8 ≤ bits
 ·rw [cutY_full c1] at hcy
  apply wm; iterate 5 exact rfl
  refine mv_int (v := .b true) rfl rfl (vi_geqT (by omega))
  refine wo ?_
  apply wn; iterate 5 exact rfl
  refine p_iaa rfl rfl g
  refine zX (m_ldl rfl hld) ?_
  apply wn; iterate 5 exact rfl
  refine p_iaa rfl rfl g
  apply p_do; exact (vwant_n rfl); exact rfl; exact rfl
  refine e_st (C := smT (cutB bits h) i) (C' := smT (cutB bits h) (i + 1)) rfl rfl rfl (by rw [hml]; omega) (by rw [Nat.zero_add]; exact smT_set g hcy) ⟨_, rfl, ?_⟩
  refine wo ?_
  exact ⟨rfl, i + 1, g, by omega, ⟨rfl, rfl, rfl, rfl, rfl, trivial⟩, fun hp h' => h'⟩
 apply wm; iterate 5 exact rfl
 refine mv_int (v := .b false) rfl rfl (vi_geqF (by omega))
 refine wo ?_
 by_cases c2 : 8 * i < bits
 rotate_left
 ·rw [cutY_none (by omega)] at hcy
  apply wm; iterate 5 exact rfl
  refine mv_int (v := .b false) rfl rfl (vi_gtrF (by omega))
  refine wo ?_
  exact ⟨rfl, i + 1, g, by omega, ⟨rfl, rfl, rfl, rfl, rfl, trivial⟩, fun hp h' => by rw [← smT_same g hcy]; exact h'⟩
 rw [show (bits : Int) - ((8 * i : Nat) : Int) = ((bits - 8 * i : Nat) : Int) by omega]
 apply wm; iterate 5 exact rfl
 refine mv_int (v := .b true) rfl rfl (vi_gtrT (by omega))
 refine wo ?_
 refine w_seq ?_
 refine wo ?_
 refine w_loop (ι := Nat) (fun j => [(9, .i .i64 ((bits - 8 * i + j : Nat) : Int)), (8, byV (UInt8.ofNat (2 ^ j))), (6, .i .i64 (i : Nat)), (5, .p (some (bo, 0))), (4, .p (some (br, 0))), (3, .p (some (bh, 0))), (0, .i .i64 (bits : Int))])
  (fun _ => _) (fun j => j ≤ 8 - (bits - 8 * i)) (fun j => 8 - (bits - 8 * i) - j) 0 (Nat.zero_le _) ⟨rfl, rfl, rfl, rfl, rfl, rfl, rfl, trivial⟩ (fun hp h => h) ?_
 intro j hj
 refine wo ?_
 by_cases g2 : j < 8 - (bits - 8 * i)
 ·apply wm; iterate 5 exact rfl
  refine mv_int (v := .b true) rfl rfl (vi_lssT (by omega))
  refine wo ?_
  apply wm; iterate 5 exact rfl
  refine m_mulB (y := 2) rfl rfl
  rw [pow_next j (by omega)]
  refine wo ?_
  exact ⟨rfl, j + 1, g2, by omega, ⟨rfl, rfl, rfl, rfl, rfl, rfl, rfl, trivial⟩, fun hp h => h⟩
 obtain rfl : j = 8 - (bits - 8 * i) := by omega
 have hpv := pow_val (8 - (bits - 8 * i)) (by omega)
 have hle : (UInt8.ofNat (y.toNat % (UInt8.ofNat (2 ^ (8 - (bits - 8 * i)))).toNat)).toNat = y.toNat % 2 ^ (8 - (bits - 8 * i)) := by
  rw [hpv, UInt8.toNat_ofNat', Nat.mod_eq_of_lt]
  exact Nat.lt_of_le_of_lt (Nat.mod_le _ _) y.toNat_lt
 rw [cutY_mid c2 (by omega), ← hle] at hcy
 apply wm; iterate 5 exact rfl
 refine mv_int (v := .b false) rfl rfl (vi_lssF (by omega))
 refine wo ?_
 refine w_exit ?_
 refine wo ?_
 apply dn; iterate 5 exact rfl
 refine p_iaa rfl rfl g
 refine yX (m_ldl rfl hld) ?_
 refine wo ?_
 apply dn; iterate 5 exact rfl
 refine p_iaa rfl rfl g
 refine yX (m_ldl rfl hld) ?_
 refine wo ?_
 apply dm; iterate 6 exact rfl
 refine m_remB rfl rfl (by rw [hpv]; exact Nat.pos_iff_ne_zero.1 (Nat.two_pow_pos _))
 apply dm; iterate 6 exact rfl
 refine m_subB rfl rfl (by rw [hle]; exact Nat.mod_le _ _)
 apply dn; iterate 5 exact rfl
 refine p_iaa rfl rfl g
 apply d_do; exact (vwant_n rfl); exact rfl; exact noRd rfl; decide +kernel; exact rfl; rotate_left
 refine e_st (C := smT (cutB bits h) i) (C' := smT (cutB bits h) (i + 1)) rfl rfl rfl (by rw [hml]; omega) (by rw [Nat.zero_add]; exact smT_set g hcy) ⟨_, rfl, ?_⟩
 try (case hok => exact rdOk_b (by decide +kernel))
 refine wo ?_
 exact ⟨rfl, i + 1, g, by omega, ⟨rfl, rfl, rfl, rfl, rfl, trivial⟩, fun hp h' => h'⟩
abbrev RTab (B : Bs) : Prop := RB B (some (2, 0)) (kW.map wV)
end Go.Proofs.YtbmkclbghfbegaaGreatDoor
/- Dlb: sha's tables and the document's at a law's beginning. By this project. -/
set_option maxRecDepth 100000
namespace Go.Proofs.YtbmkclbghfbegaaGreatDoor
open Go.ChangeShapes Go.WideShapes Go.ChangeAt Go.RowKit Go.Extern.Stop
abbrev rGs : Gs := (2, kW.map wV, 237) :: shaGs
theorem r_nb : ∀ x ∈ rGs, x.2.1.all notByte = true := by
 intro x hx
 rcases List.mem_cons.1 hx with rfl | hx
 ·kernel_rfl
 ·exact sha_nb x hx
end Go.Proofs.YtbmkclbghfbegaaGreatDoor
/- Wv: a law whose arguments hold slices of whatever lies in memory: from a contract of the machine to a call in the world. By this project. -/
set_option maxRecDepth 100000
namespace Go.Proofs.YtbmkclbghfbegaaGreatDoor
open Go.RowKit Go.Extern.Stop
structure GV where
 A : Option Addr
 cs : List V
 T : TypeId
 sz : Nat
 ex : Nat
def headOk : List V → Bool
 | [] => true
 | .i .u8 _ :: _ => true
 | .sl _ _ _ _ :: _ => true
 | _ => false
structure GvOk (W : World) (E : Env) (q : GV) : Prop where
 emp : q.A = none → q.cs = []
 spot : ∀ a, q.A = some a → a.spot ≠ none → q.cs = []
 at' : ∀ a, q.A = some a → q.cs ≠ [] → ∃ pre l sp fz, renL E q.cs = some l ∧ l.all (·.oneCell') = true ∧ W.heap[a.block]? = some (.cells (pre ++ l ++ sp).toArray q.T fz) ∧ pre.length = a.off ∧ sp.length = q.ex * q.sz
 hd : headOk q.cs = true
def gvE (bs : List GV) : Env := fun x => match decide (x < gMax) with
 | true => some (x, 0, 0)
 | false => match roB x with
  | true => (bs[(x - 65) / 4]?).bind fun q => q.A.bind fun a => match wkB x with
   | true => a.spot.map fun s => (a.block, a.off, s)
   | false => some (a.block, a.off, q.ex)
  | false => none
def gvA (i : Nat) (q : GV) : Option (Nat × Nat) := q.A.map fun a => (match a.spot with
 | none => 65 + 4 * i
 | some _ => 67 + 4 * i, 0)
noncomputable def gvT : List GV → Nat → Tr VO → Tr VO
 | [], _, t => t
 | q :: r, i, t => gvT r (i + 1) (match q.cs with
  | [] => t
  | _ => t.set (65 + 4 * i) (some (.cells (q.cs) q.T (some q.sz) true)))
def gvV (i : Nat) (q : GV) (n c : Nat) : V := .sl (gvA i q) n c false
theorem gvT_lo : ∀ (bs : List GV) (i : Nat) (t : Tr VO) (x : Nat), x < 65 + 4 * i → (gvT bs i t).get x = t.get x
 | [], _, _, _, _ => rfl
 | q :: r, i, t, x, h => by
  rw [gvT, gvT_lo r (i + 1) _ x (by omega)]
  split
  ·rfl
  ·rw [Tr.get_set, if_neg (by omega)]
theorem gvT_at : ∀ (bs : List GV) (i : Nat) (t : Tr VO) (j : Nat) (q : GV), bs[j]? = some q → q.cs ≠ [] → (gvT bs i t).get (65 + 4 * (i + j)) = some (.cells (q.cs) q.T (some q.sz) true)
 | [], _, _, _, _, h, _ => by simp at h
 | q :: r, i, t, 0, p, h, hn => by
  simp only [List.getElem?_cons_zero, Option.some.injEq] at h
  subst h
  rw [gvT, gvT_lo r (i + 1) _ _ (by omega)]
  split
  ·rename_i e
   exact absurd e hn
  ·rw [Nat.add_zero, Tr.get_set, if_pos rfl]
 | q :: r, i, t, j + 1, p, h, hn => by
  rw [gvT, show i + (j + 1) = (i + 1) + j by omega]
  exact gvT_at r (i + 1) _ j p (by simpa using h) hn
theorem gvT_inv : ∀ (bs : List GV) (i : Nat) (t : Tr VO) (x : Nat) (o : VO), (gvT bs i t).get x = some o → t.get x = some o ∨ ∃ j q, bs[j]? = some q ∧ q.cs ≠ [] ∧ x = 65 + 4 * (i + j) ∧ o = .cells (q.cs) q.T (some q.sz) true
 | [], _, _, _, _, h => .inl h
 | q :: r, i, t, x, o, h => by
  rw [gvT] at h
  rcases gvT_inv r (i + 1) _ x o h with h1 | ⟨j, p, h1, h2, h3, h4⟩
  ·split at h1
   ·exact .inl h1
   ·rename_i hne
    rw [Tr.get_set] at h1
    split at h1
    ·rename_i e
     exact .inr ⟨0, q, rfl, fun e2 => hne e2, by rw [Nat.add_zero]; exact e, (Option.some.inj h1).symm⟩
    ·exact .inl h1
  ·exact .inr ⟨j + 1, p, by simpa using h1, h2, by omega, h4⟩
theorem notInt_ren {E : Env} : ∀ {cs : List V} {l : List Value}, cs.all notByte = true → renL E cs = some l → ∀ v ∈ l, ∀ n : Int, v ≠ .int .u8 n
 | [], l, _, h, v, hv, y => by simp [renL] at h; subst h; simp at hv
 | c :: r, l, ha, h, v, hv, y => by
  simp only [List.all_cons, Bool.and_eq_true] at ha
  obtain ⟨x, t, h1, h2, rfl⟩ := renL_cons h
  rcases List.mem_cons.1 hv with rfl | hv
  ·intro e
   subst e
   cases c with
   | i k n =>
    simp [ren] at h1
    obtain ⟨rfl, _⟩ := h1
    simp [notByte] at ha
   | b b => simp [ren] at h1
   | _ => simp [notByte] at ha
  ·exact notInt_ren ha.2 h2 v hv y
theorem notSl_ren {E : Env} : ∀ {cs : List V} {l : List Value}, cs.all notByte = true → renL E cs = some l → ∀ v ∈ l, ∀ A m c, v ≠ .slice A m c
 | [], l, _, h, v, hv, _, _, _ => by simp [renL] at h; subst h; simp at hv
 | c :: r, l, ha, h, v, hv, A, m, k => by
  simp only [List.all_cons, Bool.and_eq_true] at ha
  obtain ⟨x, t, h1, h2, rfl⟩ := renL_cons h
  rcases List.mem_cons.1 hv with rfl | hv
  ·intro e
   subst e
   cases c with
   | i k n => simp [ren] at h1
   | b b => simp [ren] at h1
   | _ => simp [notByte] at ha
  ·exact notSl_ren ha.2 h2 v hv A m k
theorem notByte_hd {E : Env} {cs : List V} {l : List Value} {v : V} {r : List V} {x : Value} (ha : cs.all notByte = true) (h : renL E cs = some l) (hv : headOk (v :: r) = true) (hx : ren E v = some x) : x ∉ l := by
 intro hm
 cases v with
 | i k n =>
  cases k <;> simp [headOk] at hv
  simp only [ren, Option.some.injEq] at hx
  subst hx
  exact notInt_ren ha h _ hm n rfl
 | sl A m c o =>
  obtain ⟨A', m', c', rfl⟩ : ∃ A' m' c', x = .slice A' m' c' := by
   cases A with
   | none => simp [ren] at hx; exact ⟨_, _, _, hx.symm⟩
   | some a =>
    obtain ⟨e, _, ⟨_, rfl⟩ | ⟨_, _, _, _, rfl⟩⟩ := ren_slk hx <;> exact ⟨_, _, _, rfl⟩
  exact notSl_ren ha h _ hm _ _ _ rfl
 | _ => simp [headOk] at hv
theorem roB_wk (i : Nat) : roB (67 + 4 * i) = true ∧ wkB (67 + 4 * i) = true := by
 have e : (67 + 4 * i) % 2 = 1 := by omega
 have e4 : (67 + 4 * i) % 4 = 3 := by omega
 have e2 : Nat.ble gMax (67 + 4 * i) = true := ble_t (by show 64 ≤ _; omega)
 have h1 : roB (67 + 4 * i) = true := by
  unfold roB
  rw [e2]
  show Nat.beq ((67 + 4 * i) % 2) 1 = true
  rw [e]; rfl
 refine ⟨h1, ?_⟩
 have e5 : Nat.beq (Nat.mod (67 + 4 * i) 4) 3 = true := by show Nat.beq ((67 + 4 * i) % 4) 3 = true; rw [e4]; rfl
 unfold wkB
 rw [e5]
 exact h1
theorem gvE_view {bs : List GV} {i : Nat} {q : GV} (h : bs[i]? = some q) : gvE bs (65 + 4 * i) = q.A.map fun a => (a.block, a.off, q.ex) := by
 have e1 : decide (65 + 4 * i < gMax) = false := decide_eq_false (by show ¬ _ < 64; omega)
 have e2 : (65 + 4 * i - 65) / 4 = i := by omega
 simp only [gvE, e1, roB_view, e2, h, Option.bind_some, wk_view]
 cases q.A <;> rfl
theorem gvE_wk {bs : List GV} {i : Nat} {q : GV} {a : Addr} {s : Nat} (h : bs[i]? = some q) (hA : q.A = some a) (hs : a.spot = some s) : gvE bs (67 + 4 * i) = some (a.block, a.off, s) := by
 have e1 : decide (67 + 4 * i < gMax) = false := decide_eq_false (by show ¬ _ < 64; omega)
 have e2 : (67 + 4 * i - 65) / 4 = i := by omega
 simp only [gvE, e1, (roB_wk i).1, (roB_wk i).2, e2, h, Option.bind_some, hA, hs, Option.map_some]
theorem gvE_gl (bs : List GV) : GlE (gvE bs) := fun g hg => by simp only [gvE, decide_eq_true hg]
noncomputable def gvHp (gs : Gs) (bs : List GV) : Hp := ⟨gvT bs 0 (gsT gs), 66 + 4 * bs.length, []⟩
theorem ren_gv {bs : List GV} {i : Nat} {q : GV} {n c : Nat} (h : bs[i]? = some q) (hw : ∀ a, q.A = some a → a.spot ≠ none → n = 0 ∧ c = 0) : ren (gvE bs) (gvV i q n c) = some (.slice q.A n c) := by
 unfold gvV gvA
 cases hA : q.A with
 | none => simp [ren]
 | some a =>
  simp only [Option.map_some]
  cases hs : a.spot with
  | none =>
   have e := gvE_view h
   rw [hA] at e
   simp only
   rw [ren_sl_mk e (wk_view i)]
   obtain ⟨b, o, s⟩ := a
   simp only at hs
   subst hs
   simp
  | some s =>
   obtain ⟨rfl, rfl⟩ := hw a hA (by rw [hs]; simp)
   simp only
   rw [ren_sl_wk (gvE_wk h hA hs) (roB_wk i).2]
   obtain ⟨b, o, s'⟩ := a
   simp only at hs
   subst hs
   rfl
section
variable {gs : Gs} {bs : List GV} {W : World} (hg : ∀ x ∈ gs, GOk W x) (hnb : ∀ x ∈ gs, x.2.1.all notByte = true) (hb : ∀ q ∈ bs, GvOk W (gvE bs) q)
include hg hnb hb
theorem gv_rep : Rep (gvE bs) (gvHp gs bs).t W := by
 have hlt : ∀ x ∈ gs, x.1 < trMax := fun x hx => by have := (hg x hx).1; unfold gMax at this; unfold trMax; omega
 have key : ∀ x o, (gvHp gs bs).t.get x = some o → (∃ g ∈ gs, g.1 = x ∧ o = .cells g.2.1 g.2.2 none false) ∨ ∃ j q, bs[j]? = some q ∧ q.cs ≠ [] ∧ x = 65 + 4 * j ∧ o = .cells (q.cs) q.T (some q.sz) true := fun x o h => by
  rcases gvT_inv bs 0 _ x o h with h | ⟨j, q, h1, h2, h3, h4⟩
  ·exact .inl (gsT_get hlt x o h)
  ·exact .inr ⟨j, q, h1, h2, by rw [h3, Nat.zero_add], h4⟩
 have hview : ∀ j q, bs[j]? = some q → q.cs ≠ [] → ∃ a pre l sp fz, q.A = some a ∧ gvE bs (65 + 4 * j) = some (a.block, a.off, q.ex) ∧ renL (gvE bs) q.cs = some l ∧ l.all (·.oneCell') = true ∧ W.heap[a.block]? = some (.cells (pre ++ l ++ sp).toArray q.T fz) ∧ pre.length = a.off ∧ sp.length = q.ex * q.sz := fun j q h hn => by
  have ok := hb q (List.mem_of_getElem? h)
  cases hA : q.A with
  | none => exact absurd (ok.emp hA) hn
  | some a =>
   obtain ⟨pre, l, sp, fz, h1, h2, h3, h4, h5⟩ := ok.at' a hA hn
   exact ⟨a, pre, l, sp, fz, rfl, by rw [gvE_view h, hA]; rfl, h1, h2, h3, h4, h5⟩
 have apart : ∀ g ∈ gs, ∀ j q e, bs[j]? = some q → q.cs ≠ [] → gvE bs (65 + 4 * j) = some e → e.1 ≠ g.1 := fun g hgm j q e h hn he hc => by
  obtain ⟨a, pre, l2, sp, fz, hA, h1, hr, _, h2, h3, h4⟩ := hview j q h hn
  rw [h1] at he
  obtain rfl := Option.some.inj he
  obtain ⟨_, l, k1, k2, k3⟩ := hg g hgm
  have hc : a.block = g.1 := hc
  rw [hc, k3] at h2
  simp only [Option.some.injEq, Obj.cells.injEq] at h2
  have h5 : l = pre ++ l2 ++ sp := by
   have := congrArg Array.toList h2.1
   simpa using this
  have hd := (hb q (List.mem_of_getElem? h)).hd
  obtain ⟨v, r, hx⟩ := List.exists_cons_of_ne_nil hn
  rw [hx] at hr hd
  obtain ⟨x, t, q1, q2, rfl⟩ := renL_cons hr
  exact notByte_hd (hnb g hgm) (k1 (gvE bs)) hd q1 (by rw [h5]; simp)
 refine ⟨fun x o h => ?_, fun x y o o' e e' hx hy hex hey hee => ?_⟩
 ·rcases key x o h with ⟨g, hgm, rfl, rfl⟩ | ⟨j, q, h1, h2, rfl, rfl⟩
  ·obtain ⟨k0, l, k1, k2, k3⟩ := hg g hgm
   exact ⟨(g.1, 0, 0), _, gvE_gl bs _ k0, k3, [], l, [], (0, 0), k1 _, k2, rfl, by simp, fun _ => ⟨rfl, rfl⟩, fun s hs => by simp at hs, fun _ => rfl, .inl rfl⟩
  ·obtain ⟨a, pre, l, sp, fz, hA, k1, kr, ko, k2, k3, k4⟩ := hview j q h1 h2
   refine ⟨_, _, k1, k2, pre, l, sp, fz, kr, ko, k3, rfl, fun e => by simp at e, fun s hs => ?_, fun e => by simp at e, .inr (.inr (roB_view j))⟩
   simp only [Option.some.injEq] at hs
   subst hs
   exact k4
 ·rcases key x o hx with ⟨g, hgm, rfl, rfl⟩ | ⟨j, q, h1, h2, rfl, rfl⟩ <;> rcases key y o' hy with ⟨g', hgm', rfl, rfl⟩ | ⟨j', q', h1', h2', rfl, rfl⟩
  ·rw [gvE_gl bs _ (hg g hgm).1] at hex
   rw [gvE_gl bs _ (hg g' hgm').1] at hey
   obtain rfl := Option.some.inj hex
   obtain rfl := Option.some.inj hey
   exact .inl hee
  ·rw [gvE_gl bs _ (hg g hgm).1] at hex
   obtain rfl := Option.some.inj hex
   exact absurd hee.symm (apart g hgm j' q' e' h1' h2' hey)
  ·rw [gvE_gl bs _ (hg g' hgm').1] at hey
   obtain rfl := Option.some.inj hey
   exact absurd hee (apart g' hgm' j q e h1 h2 hex)
  ·exact .inr ⟨roB_view j, roB_view j'⟩
theorem gv_okH : OkH (gvHp gs bs) := by
 refine ⟨fun h hh hr => ?_, ?_⟩
 ·have hh : 66 + 4 * bs.length ≤ h := hh
  cases hq : (gvHp gs bs).t.get h with
  | none => rfl
  | some o =>
   rcases gvT_inv bs 0 _ h o hq with h1 | ⟨j, q, h1, h2, h3, h4⟩
   ·obtain ⟨g, hgm, rfl, _⟩ := gsT_get (fun x hx => by have := (hg x hx).1; unfold gMax at this; unfold trMax; omega) h o h1
    have := (hg g hgm).1
    have : g.1 < 64 := this
    omega
   ·rw [h3, Nat.zero_add, roB_view] at hr
    simp at hr
 ·have e : (66 + 4 * bs.length) % 2 = 0 := by omega
  show (Nat.beq ((66 + 4 * bs.length) % 2) 0 && Nat.ble gMax (66 + 4 * bs.length)) = true
  rw [e, ble_t (show gMax ≤ 66 + 4 * bs.length by show 64 ≤ _; omega)]
  rfl
theorem gv_ro {i : Nat} {q : GV} (h : bs[i]? = some q) : RB ⟨gvHp gs bs, []⟩ (gvA i q) (q.cs) := by
 have hro : RO (gvHp gs bs) (gvA i q) (q.cs) := by
  unfold gvA
  refine ⟨fun b o e => ?_, fun j v hv => ?_⟩
  ·simp only [Option.map_eq_some_iff, Prod.mk.injEq] at e
   obtain ⟨a, _, rfl, _⟩ := e
   split
   ·exact .inr (roB_view i)
   ·exact .inr (roB_wk i).1
  ·have hn : q.cs ≠ [] := fun e => by rw [e] at hv; simp at hv
   cases hA : q.A with
   | none => exact absurd ((hb q (List.mem_of_getElem? h)).emp hA) hn
   | some a =>
    have hsp : a.spot = none := by
     cases hq : a.spot with
     | none => rfl
     | some x => exact absurd ((hb q (List.mem_of_getElem? h)).spot a hA (by rw [hq]; simp)) hn
    refine ⟨65 + 4 * i, 0, by rw [Option.map_some, hsp], ?_⟩
    have e := gvT_at bs 0 (gsT gs) i q h hn
    rw [Nat.zero_add] at e
    have e' : (gvHp gs bs).t.get (65 + 4 * i) = some (.cells (q.cs) q.T (some q.sz) true) := e
    simp only [cellV, cellsAt, Hp.get, e', Option.bind_some, Nat.zero_add]
    exact hv
 exact ⟨hro, now0 hro⟩
theorem gv_glob {x : Nat × List V × TypeId} (hx : x ∈ gs) (hget : (gsT gs).get x.1 = some (.cells x.2.1 x.2.2 none false)) : (gvHp gs bs).t.get x.1 = some (.cells x.2.1 x.2.2 none false) := by
 have h1 := (hg x hx).1
 have h1 : x.1 < 64 := h1
 show (gvT bs 0 (gsT gs)).get x.1 = _
 rw [gvT_lo bs 0 _ _ (by omega)]
 exact hget
theorem gv_law {P : Program} {C : Cx} {ext : CallF} {extd : DefF} (hc : ∀ n, CallOk P (vcall C ext extd n)) {f : Nat} {args : List V} {vargs : List Value} (hargs : renL (gvE bs) args = some vargs) (hfn : Fn ⟨C, ext, extd⟩ f args (gvHp gs bs) [] fun r _ => r = .v (.b true)) :
  Calls P f vargs.toArray W fun e W' => e = .returned (.bool true) ∧ Below W.heap.size W W' := by
 have hR := gv_rep hg hnb hb
 have hO := gv_okH hg hnb hb
 unfold Fn at hfn
 obtain ⟨r, hp', ⟨M, hrun⟩, N', hsv, hstp, rfl⟩ := hfn
 obtain ⟨_, _, key⟩ := hc M _ _ _ _ _ (hrun M (Nat.le_refl _))
 refine (key (gvE bs) W vargs hR (gvE_gl bs) hargs (fun x h1 h2 => ?_)).mono ?_
 ·have h1 : 66 + 4 * bs.length ≤ x := h1
  have e1 : decide (x < gMax) = false := decide_eq_false (by show ¬ _ < 64; omega)
  simp only [gvE, e1]
  split
  ·rw [List.getElem?_eq_none (by omega)]
   rfl
  ·rfl
 ·rintro e w' ⟨E', hOut, x, hx, rfl⟩
  have hx' : x = .bool true := by simpa [ren] using hx.symm
  subst hx'
  have hW1 : Whole1 (gvE bs) (gvHp gs bs).t := fun x o hx hr => by
   rcases gvT_inv bs 0 _ x o hx with h1 | ⟨j, q, h1, h2, h3, h4⟩
   ·obtain ⟨g, hgm, rfl, rfl⟩ := gsT_get (fun x hx => by have := (hg x hx).1; unfold gMax at this; unfold trMax; omega) x o h1
    exact ⟨_, _, _, rfl, gvE_gl bs _ (hg g hgm).1⟩
   ·rw [h3, Nat.zero_add, roB_view] at hr
    simp at hr
  exact ⟨rfl, hOut.frm.os, hOut.frm.tape, hOut.frm.output, hOut.frm.size, keep_all hW1 hO hR hOut hsv⟩
end
end Go.Proofs.YtbmkclbghfbegaaGreatDoor
/- Wx: what is handed in, nested: slices of structs of slices; the contract of a law whose arguments' memory is known to be well made. By this project. -/
namespace Go.Proofs.YtbmkclbghfbegaaGreatDoor
open Go.ChangeShapes Go.WideShapes Go.ChangeAt Go.RowKit Go.Extern.Stop
theorem rw_block {W : World} {a : Addr} {cs : List Value} (hs : a.spot = none) (hn : cs ≠ []) (h : RW W (some a) cs) : ∃ pre sp T fz, W.heap[a.block]? = some (.cells (pre ++ cs ++ sp).toArray T fz) ∧ pre.length = a.off := by
 obtain ⟨x, r, rfl⟩ := List.exists_cons_of_ne_nil hn
 obtain ⟨ab, ao, sp⟩ := a
 simp only at hs
 subst hs
 have hcell : ∀ j v, (x :: r)[j]? = some v → W.cell? ⟨ab, ao + j, none⟩ = some v := fun j v hv => by
  obtain ⟨ad, e, h1⟩ := h j v hv
  obtain rfl := Option.some.inj e
  rw [Addr.add_mid] at h1
  exact h1
 obtain ⟨C, T, fz, hb⟩ : ∃ C T fz, W.heap[ab]? = some (.cells C T fz) := by
  have h0 := hcell 0 x rfl
  unfold World.cell? at h0
  simp only at h0
  split at h0
  ·rename_i c t f hq
   exact ⟨c, t, f, hq⟩
  ·simp at h0
 have hC : ∀ j v, (x :: r)[j]? = some v → C.toList[ao + j]? = some v := fun j v hv => by
  have h1 := hcell j v hv
  unfold World.cell? at h1
  simp only [hb, Option.isSome_none, Bool.false_eq_true, if_false] at h1
  simpa using h1
 have hlen : ao + (x :: r).length ≤ C.toList.length := by
  have := hC r.length ((x :: r)[r.length]'(by simp)) (List.getElem?_eq_getElem (by simp))
  have := (List.getElem?_eq_some_iff.1 this).1
  simp only [List.length_cons]
  omega
 have hmid : (C.toList.drop ao).take (x :: r).length = x :: r := by
  apply List.ext_getElem?
  intro j
  rw [List.getElem?_take]
  split
  ·rename_i hj
   rw [List.getElem?_drop]
   rw [hC j ((x :: r)[j]) (List.getElem?_eq_getElem hj), List.getElem?_eq_getElem hj]
  ·rename_i hj
   rw [List.getElem?_eq_none (by omega)]
 refine ⟨C.toList.take ao, C.toList.drop (ao + (x :: r).length), T, fz, ?_, by rw [List.length_take]; exact Nat.min_eq_left (by omega)⟩
 have e : C.toList.take ao ++ ((C.toList.drop ao).take (x :: r).length ++ (C.toList.drop ao).drop (x :: r).length) = C.toList := by rw [List.take_append_drop, List.take_append_drop]
 rw [hmid, List.drop_drop, ← List.append_assoc] at e
 rw [hb, e]
theorem rw_elems {W : World} {base : Nat} {a : Addr} {k m : Nat} {f : Nat → List Value} (hs : a.spot = none) (hk : ∀ i, i < m → W.cells? base (a.add (i * k)) k = some (f i)) : RW W (some a) ((List.range m).flatMap f) ∧ ∀ i, i < m → (f i).length = k := by
 have hl : ∀ i, i < m → (f i).length = k := fun i hi => (World.cells?_some (hk i hi)).2.1
 refine ⟨?_, hl⟩
 have key : ∀ n, n ≤ m → ((List.range n).flatMap f).length = n * k := fun n hn => by
  induction n with
  | zero => simp
  | succ n ih => rw [List.range_succ, List.flatMap_append, List.length_append, ih (by omega)]; simp [hl n (by omega), Nat.succ_mul]
 have get : ∀ n, n ≤ m → ∀ j v, ((List.range n).flatMap f)[j]? = some v → W.cell? (a.add j) = some v := fun n => by
  induction n with
  | zero => intro _ j v h; simp at h
  | succ n ih =>
   intro hn j v h
   rw [List.range_succ, List.flatMap_append] at h
   have e := key n (by omega)
   by_cases hj : j < n * k
   ·rw [List.getElem?_append_left (by omega)] at h
    exact ih (by omega) j v h
   ·rw [List.getElem?_append_right (by omega), e] at h
    have h2 : (f n)[j - n * k]? = some v := by simpa using h
    have h3 := (World.cells?_some (hk n (by omega))).2.2 (j - n * k) (by have := (List.getElem?_eq_some_iff.1 h2).1; rw [hl n (by omega)] at this; exact this)
    rw [h2] at h3
    rw [← h3]
    congr 1
    obtain ⟨ab, ao, sp⟩ := a
    simp only at hs
    subst hs
    rw [Addr.add_mid, Addr.add_mid, Addr.add_mid]
    congr 1
    omega
 exact fun j v h => ⟨a, rfl, get m (Nat.le_refl _) j v h⟩
end Go.Proofs.YtbmkclbghfbegaaGreatDoor
/- Js1: nested lists of bytes, and their one form; records and their bytes. By this project. -/
set_option maxRecDepth 100000
namespace Go.Proofs.YtbmkclbghfbegaaGreatDoor
open Go.RowKit Go.Extern.Stop
inductive It where
 | str (bs : List UInt8)
 | list (l : List It)
def shortB (n : Nat) : List UInt8 := if h : n = 0 then [] else shortB (n / 256) ++ [UInt8.ofNat n]
theorem shortB_zero : shortB 0 = [] := by rw [shortB]; rfl
theorem shortB_pos {n : Nat} (h : 0 < n) : shortB n = shortB (n / 256) ++ [UInt8.ofNat n] := by rw [shortB, dif_neg (by omega)]
theorem shortB_len : ∀ (k n : Nat), n < 256 ^ k → (shortB n).length ≤ k
  | 0, n, h => by obtain rfl : n = 0 := by simpa using h
                  rw [shortB_zero]; exact Nat.le_refl 0
  | k + 1, n, h => by
    rcases Nat.eq_zero_or_pos n with rfl | h0
    · rw [shortB_zero]; exact Nat.zero_le _
    · have := shortB_len k (n / 256) (by rw [Nat.div_lt_iff_lt_mul (by decide), ← Nat.pow_succ]; exact h)
      rw [shortB_pos h0, List.length_append]
      simp only [List.length_cons, List.length_nil]
      omega
def headB (base : UInt8) (n : Nat) : List UInt8 := if n < 56 then [base + UInt8.ofNat n] else (base + 55 + UInt8.ofNat (shortB n).length) :: shortB n
def strB : List UInt8 → List UInt8
 | [b] => if b.toNat < 128 then [b] else headB 128 1 ++ [b]
 | bs => headB 128 bs.length ++ bs
mutual
def enc : It → List UInt8
 | .str bs => strB bs
 | .list l => headB 192 (encs l).length ++ encs l
def encs : List It → List UInt8
 | [] => []
 | t :: r => enc t ++ encs r
end
mutual
def depth : It → Nat
 | .str _ => 0
 | .list l => depths l + 1
def depths : List It → Nat
 | [] => 0
 | t :: r => max (depth t) (depths r)
end
theorem headB_pos (base : UInt8) (n : Nat) : 0 < (headB base n).length := by
 unfold headB
 split <;> simp
theorem strB_pos (bs : List UInt8) : 0 < (strB bs).length := by
 unfold strB
 split
 ·split
  ·simp
  ·simp
 ·have := headB_pos 128 bs.length
  rw [List.length_append]; omega
theorem enc_pos (t : It) : 0 < (enc t).length := by
 cases t with
 | str bs => rw [enc]; exact strB_pos bs
 | list l => rw [enc, List.length_append]; have := headB_pos 192 (encs l).length; omega
theorem encs_app : ∀ (l r : List It), encs (l ++ r) = encs l ++ encs r
 | [], r => by rw [List.nil_append, encs, List.nil_append]
 | t :: l, r => by rw [List.cons_append, encs, encs, encs_app l r, List.append_assoc]
theorem depth_mem : ∀ {l : List It} {t : It}, t ∈ l → depth t ≤ depths l
 | x :: r, t, h => by
  rw [depths]
  rcases List.mem_cons.1 h with rfl | h
  ·omega
  ·have := depth_mem h; omega
theorem enc_mem : ∀ {l : List It} {t : It}, t ∈ l → (enc t).length ≤ (encs l).length
 | x :: r, t, h => by
  rw [encs, List.length_append]
  rcases List.mem_cons.1 h with rfl | h
  ·omega
  ·have := enc_mem h; omega
mutual
def ItR (B : Bs) : It → List V → Prop
 | .str bs, v => ∃ A c o, v = [.b false, .sl A bs.length c o, .sl none 0 0 false] ∧ RB B A (bs.map byV)
 | .list l, v => ∃ A c o vs, v = [.b true, .sl none 0 0 false, .sl A l.length c o] ∧ RB B A vs.flatten ∧ ItRs B l vs
def ItRs (B : Bs) : List It → List (List V) → Prop
 | [], vs => vs = []
 | t :: r, vs => ∃ v ws, vs = v :: ws ∧ ItR B t v ∧ ItRs B r ws
end
theorem itR_len {B : Bs} {t : It} {v : List V} (h : ItR B t v) : v.length = 3 := by
 cases t with
 | str bs => obtain ⟨A, c, o, rfl, _⟩ := h; rfl
 | list l => obtain ⟨A, c, o, vs, rfl, _⟩ := h; rfl
theorem itRs_at {B : Bs} : ∀ {l : List It} {vs : List (List V)} {i : Nat} {t : It}, ItRs B l vs → l[i]? = some t → ∃ v, vs[i]? = some v ∧ ItR B t v
 | [], _, _, _, _, hi => by simp at hi
 | x :: r, vs, 0, t, h, hi => by
  rw [ItRs] at h
  obtain ⟨v, ws, rfl, h1, _⟩ := h
  simp only [List.getElem?_cons_zero, Option.some.injEq] at hi
  subst hi
  exact ⟨v, rfl, h1⟩
 | x :: r, vs, i + 1, t, h, hi => by
  rw [ItRs] at h
  obtain ⟨v, ws, rfl, _, h2⟩ := h
  have := itRs_at (i := i) (t := t) h2 (by simpa using hi)
  simpa using this
theorem flat_row {α : Type} {k : Nat} : ∀ {vs : List (List α)} {i : Nat} {v : List α}, (∀ x ∈ vs, x.length = k) → vs[i]? = some v → (vs.flatten.drop (i * k)).take k = v
 | [], _, _, _, h => by simp at h
 | x :: r, 0, v, hk, h => by
  simp only [List.getElem?_cons_zero, Option.some.injEq] at h
  subst h
  rw [Nat.zero_mul, List.drop_zero, List.flatten_cons, List.take_append_of_le_length (by rw [hk x (by simp)]; exact Nat.le_refl _), List.take_of_length_le (by rw [hk x (by simp)]; exact Nat.le_refl _)]
 | x :: r, i + 1, v, hk, h => by
  have hx := hk x (by simp)
  rw [List.flatten_cons, show (i + 1) * k = x.length + i * k by rw [hx, Nat.succ_mul]; omega, ← List.drop_drop, List.drop_append_of_le_length (Nat.le_refl _), List.drop_of_length_le (Nat.le_refl _), List.nil_append]
  exact flat_row (fun y hy => hk y (by simp [hy])) (by simpa using h)
theorem itRs_rows {B : Bs} : ∀ {l : List It} {vs : List (List V)}, ItRs B l vs → ∀ x ∈ vs, x.length = 3
 | [], vs, h, x, hx => by rw [ItRs] at h; subst h; simp at hx
 | t :: r, vs, h, x, hx => by
  rw [ItRs] at h
  obtain ⟨v, ws, rfl, h1, h2⟩ := h
  rcases List.mem_cons.1 hx with rfl | hx
  ·exact itR_len h1
  ·exact itRs_rows h2 x hx
mutual
theorem itR_mono {B B' : Bs} (hm : ∀ {A : Option (Nat × Nat)} {cs : List V}, RB B A cs → RB B' A cs) : ∀ (t : It) (v : List V), ItR B t v → ItR B' t v
 | .str bs, v, h => by
  rw [ItR] at h ⊢
  obtain ⟨A, c, o, h1, h2⟩ := h
  exact ⟨A, c, o, h1, hm h2⟩
 | .list l, v, h => by
  rw [ItR] at h ⊢
  obtain ⟨A, c, o, vs, h1, h2, h3⟩ := h
  exact ⟨A, c, o, vs, h1, hm h2, itRs_mono hm l vs h3⟩
theorem itRs_mono {B B' : Bs} (hm : ∀ {A : Option (Nat × Nat)} {cs : List V}, RB B A cs → RB B' A cs) : ∀ (l : List It) (vs : List (List V)), ItRs B l vs → ItRs B' l vs
 | [], vs, h => by rw [ItRs] at h ⊢; exact h
 | t :: r, vs, h => by
  rw [ItRs] at h ⊢
  obtain ⟨v, ws, h0, h1, h2⟩ := h
  exact ⟨v, ws, h0, itR_mono hm t v h1, itRs_mono hm r ws h2⟩
end
theorem ItR.give0 {B : Bs} {hp : Hp} {L : HV} {t : It} {v : List V} (h : ItR B t v) (hs : SV B hp L) : ItR ⟨hp, []⟩ t v := itR_mono (fun h => h.give0 hs) t v h
theorem ItR.give {B : Bs} {hp : Hp} {Lt Lr : HV} {t : It} {v : List V} (h : ItR B t v) (hs : SV B hp (Lt ++ Lr)) : ItR ⟨hp, hnds Lt⟩ t v := itR_mono (fun h => h.give hs) t v h
end Go.Proofs.YtbmkclbghfbegaaGreatDoor
/- Js2: rows of bytes that are built by appending; numbers' bytes, heads. By this project. -/
set_option maxRecDepth 100000
namespace Go.Proofs.YtbmkclbghfbegaaGreatDoor
open Go.RowKit Go.Extern.Stop
inductive RowU (e : TypeId) : List UInt8 → V → HV → Prop
 | nil : RowU e [] (.sl none 0 0 false) []
 | own {xs : List UInt8} {b : Nat} {op : Bool} {oo : Option Nat} (h : op = true → oo = some 1) : RowU e xs (.sl (some (b, 0)) xs.length xs.length op) [(some b, .cells (xs.map byV) e oo false)]
theorem RowU.lit {e : TypeId} {xs : List UInt8} {b n : Nat} {C : List V} (hC : xs.map byV = C) (hn : xs.length = n) : RowU e xs (.sl (some (b, 0)) n n false) [(some b, cellsO C e)] := by
 subst hC hn
 exact .own (fun h => by simp at h)
theorem RowU.lit1 {e : TypeId} {y : UInt8} {b : Nat} : RowU e [y] (.sl (some (b, 0)) 1 1 false) [(some b, cellsO [byV y] e)] := RowU.lit rfl rfl
theorem RowU.sl {e : TypeId} {xs : List UInt8} {u : V} {N : HV} (h : RowU e xs u N) : ∃ A op, u = .sl A xs.length xs.length op := by
 cases h with
 | nil => exact ⟨_, _, rfl⟩
 | own h => exact ⟨_, _, rfl⟩
instance (priority := high) {x : Option Nat × VO} {L : HV} : OutM (x :: L) [x] L := ⟨List.Perm.refl _⟩
instance (priority := high) {L : HV} : OutM L [] L := ⟨List.Perm.refl _⟩
theorem outM {L : HV} (M : HV) {r : HV} [h : OutM L M r] : ∃ G, L.Perm (G ++ M) := ⟨r, h.h.trans List.perm_append_comm⟩
theorem Fn.dropM {K : Kx} {f : Nat} {args : List V} {hp : Hp} {T : List Nat} {R : VR → HV → Prop} (h : Fn K f args hp T fun r N => ∃ N', (∃ G, N.Perm (G ++ N')) ∧ R r N') : Fn K f args hp T R := by
 unfold Fn at *
 obtain ⟨r, hp', h1, N, h2, h3, N', ⟨G, hG⟩, h4⟩ := h
 exact ⟨r, hp', h1, N', (h2.perm hG).tail, h3, h4⟩
theorem RowU.src {e : TypeId} {xs : List UInt8} {A : Option (Nat × Nat)} {n c : Nat} {op : Bool} {M L r : HV} {B : Bs} (h : RowU e xs (.sl A n c op) M) [k : OutM L M r] : RZ B L A (xs.map byV) := by
 cases h with
 | nil => exact rz_nil
 | own h => exact fun hp hs => (rz_loc (L := (some _, .cells (xs.map byV) e _ false) :: r) (k := xs.length) (by rw [List.drop_zero]; exact List.take_of_length_le (by simp))) hp (hs.perm k.h)
theorem RowU.rb {e : TypeId} {xs : List UInt8} {A : Option (Nat × Nat)} {n c : Nat} {op : Bool} {M Lt Lr r : HV} {B : Bs} {hp : Hp} (h : RowU e xs (.sl A n c op) M) [k : OutM Lr M r] (hs : SV B hp (Lt ++ Lr)) : RB ⟨hp, hnds Lt⟩ A (xs.map byV) := by
 cases h with
 | nil => exact RB.nil
 | own h => exact rb_own (hs.perm (k.h.append_left Lt)) (i := 0) rfl (by rw [List.drop_zero]; exact List.take_of_length_le (by simp))
theorem RowU.rb0 {e : TypeId} {xs : List UInt8} {A : Option (Nat × Nat)} {n c : Nat} {op : Bool} {M L r : HV} {B : Bs} {hp : Hp} (h : RowU e xs (.sl A n c op) M) [k : OutM L M r] (hs : SV B hp L) : RB ⟨hp, []⟩ A (xs.map byV) := RowU.rb (Lt := []) h hs
theorem RowU.seen {e : TypeId} {xs : List UInt8} {A : Option (Nat × Nat)} {n c : Nat} {op : Bool} {M : HV} (h : RowU e xs (.sl A n c op) M) : Seen M A xs := by
 cases h with
 | nil => exact Seen.nil
 | own h => exact Seen.own
theorem perm_set {α : Type} {L r : List α} {x y : α} {i : Nat} (h : L.Perm (x :: r)) (hi : L[i]? = some x) : (L.set i y).Perm (y :: r) := by
 obtain ⟨h1, h2⟩ := List.getElem?_eq_some_iff.1 hi
 refine (set_perm L i h1).trans (List.Perm.cons y ?_)
 have e : (L.set i x) = L := by rw [← h2]; exact List.set_getElem_self h1
 have k := set_perm (y := x) L i h1
 rw [e] at k
 exact List.Perm.cons_inv (k.symm.trans h)
section
variable {K : Kx} {hp0 : Bs} {l : VL} {L : HV}
theorem e_appW {tS tX e eX : TypeId} {s x : Operand} {A : Option (Nat × Nat)} {n c : Nat} {op' : Bool} {xs ys : List UInt8} {u : V} {N0 L1 : HV} {k : VR → HV → Prop} [hS : SliceV K.C tS e] [hz : SizeV K.C e 1] [hG : GrowV K.C e] [hX : SliceV K.C tX eX] (hu : RowU e xs u N0) (hs : evL l s = some u) (hx : evL l x = some (.sl A n c op')) [hL : OutM L N0 L1] (hr : RZ hp0 L A (ys.map byV)) (hn : ys.length = n) (h8 : ∃ te, tiV K.C e = some te ∧ te.bytes = 1) (hl : xs.length + n ≤ 150000000000000)
  (hk : ∀ A' m' op' N', RowU e (xs ++ ys) (.sl A' m' m' op') N' → m' = xs.length + n → k (.v (.sl A' m' m' op')) (N' ++ L1)) : EV K hp0 l L (.call { callee := .builtin .append, args := #[s, x], argTypes := #[tS, tX] }) (hnds N0) k := by
 have hyl : (ys.map byV).length = n := by rw [List.length_map, hn]
 by_cases h0 : n = 0
 ·subst h0
  obtain rfl := List.length_eq_zero_iff.1 hn
  obtain ⟨ti, h3, h4⟩ := hS.h
  obtain ⟨te, h5, h6⟩ := hz.h
  obtain ⟨tx, h7, h8⟩ := hX.h
  haveI : TiV K.C tS ti := ⟨h3⟩
  haveI : TiV K.C e te := ⟨h5⟩
  haveI : TiV K.C tX tx := ⟨h7⟩
  obtain ⟨A0, op0, rfl⟩ := hu.sl
  have hk2 : k (.v (.sl A0 xs.length xs.length op0)) (N0 ++ L1) := hk _ _ _ _ (by rw [List.append_nil]; exact hu) rfl
  have base : EV K hp0 l L (.call { callee := .builtin .append, args := #[s, x], argTypes := #[tS, tX] }) [] k :=
   ev_heap (k' := fun r L' => r = .v (.sl A0 xs.length xs.length op0) ∧ L' = L) (ev_appN hs hx h4 (src_sl h8 hr (by simp) (by omega)) (Nat.le_refl _) ⟨rfl, rfl⟩) (by
    rintro r L' ⟨rfl, rfl⟩
    exact ⟨_, fun hp h => h.perm hL.h, hk2⟩)
  cases hu with
  | nil => exact base
  | own h =>
   obtain ⟨i, hi⟩ := List.getElem?_of_mem (hL.h.mem_iff.2 (List.mem_append_left _ (List.mem_singleton.2 rfl)))
   haveI : AtV _ L _ i := ⟨hi⟩
   exact ev_tch base
 ·cases hu with
  | nil =>
   refine ev_heap (k' := fun r L' => ∃ b, r = .v (.sl (some (b, 0)) n n true) ∧ L' = (some b, .cells (ys.map byV) e (some 1) false) :: L) (e_app0b hs hx hr hyl (by omega) h8 (by simp at hl; omega) fun b => ⟨b, rfl, rfl⟩) ?_
   rintro r L' ⟨b, rfl, rfl⟩
   refine ⟨(some b, .cells (ys.map byV) e (some 1) false) :: L1, fun hp h => h.perm (hL.h.cons _), ?_⟩
   subst hn
   exact hk _ _ _ [_] (RowU.own (xs := ys) (fun _ => rfl)) (by simp)
  | @own _ b op oo h =>
   obtain ⟨i, hi⟩ := List.getElem?_of_mem (hL.h.mem_iff.2 (List.mem_append_left _ (List.mem_singleton.2 rfl)))
   haveI : AtV b L (.cells (xs.map byV) e oo false) i := ⟨hi⟩
   refine ev_heap (k' := fun r L' => ∃ b', r = .v (.sl (some (b', 0)) (xs.length + n) (xs.length + n) true) ∧ L' = L.set i (some b', .cells (xs.map byV ++ ys.map byV) e (some 1) false)) (e_appU (old := xs.map byV) hs hx h (by simp) hr hyl (by omega) h8 hl fun b' => ⟨b', rfl, rfl⟩) ?_
   rintro r L' ⟨b', rfl, rfl⟩
   refine ⟨(some b', .cells (xs.map byV ++ ys.map byV) e (some 1) false) :: L1, fun hp h' => h'.perm (perm_set hL.h hi), ?_⟩
   have e1 : (xs ++ ys).length = xs.length + n := by rw [List.length_append, hn]
   rw [← e1, ← List.map_append]
   exact hk _ _ _ [_] (RowU.own (xs := xs ++ ys) (fun _ => rfl)) e1
end
abbrev RowK := RowU 5
end Go.Proofs.YtbmkclbghfbegaaGreatDoor
/- Js3: rlp: shortest, head, deeper, may, size. By this project. -/
set_option maxRecDepth 100000
namespace Go.Proofs.YtbmkclbghfbegaaGreatDoor
open Go.RowKit Go.Extern.Stop
section
variable {K : Kx} {hp0 : Bs} {l : VL} {L : HV} {a b : Operand} {t t' : TypeId}
theorem m_addB {x y : UInt8} (hx : evL l a = some (byV x)) (hy : evL l b = some (byV y)) : MVO K hp0 l L (.binOp .add t a b t') (byV (x + y)) :=
 mv_int hx hy (by
  show some (V.i .u8 (IntKind.u8.wrap (Int.ofNat x.toNat + Int.ofNat y.toNat))) = _
  have e : Int.ofNat x.toNat + Int.ofNat y.toNat = ((x.toNat + y.toNat : Nat) : Int) := by simp
  rw [e, wrapU8, ← byV_ofNat]
  congr 1)
theorem m_subW {x y : UInt8} (hx : evL l a = some (byV x)) (hy : evL l b = some (byV y)) : MVO K hp0 l L (.binOp .sub t a b t') (byV (x - y)) :=
 mv_int hx hy (by
  show some (V.i .u8 (IntKind.u8.wrap (Int.ofNat x.toNat - Int.ofNat y.toNat))) = _
  have h1 := x.toNat_lt
  have h2 := y.toNat_lt
  have e : (x - y).toNat = (256 - y.toNat + x.toNat) % 256 := by rw [UInt8.toNat_sub]
  have e2 : IntKind.u8.wrap (Int.ofNat x.toNat - Int.ofNat y.toNat) = (((256 - y.toNat + x.toNat) % 256 : Nat) : Int) := by
   simp only [IntKind.wrap, IntKind.bits, IntKind.signed]
   simp
   omega
  rw [e2, ← e]
  rfl)
end
theorem base_55 (x y : UInt8) : x + 56 - 1 + y = x + 55 + y := by
 have e : x + 56 - 1 = x + 55 := by
  rw [← UInt8.toNat_inj, UInt8.toNat_sub, UInt8.toNat_add, UInt8.toNat_add]
  have h1 : UInt8.toNat 56 = 56 := rfl
  have h2 : UInt8.toNat 55 = 55 := rfl
  have h3 : UInt8.toNat 1 = 1 := rfl
  rw [h1, h2, h3]
  omega
 rw [e]
theorem shortB_8 {n : Nat} (h : n < 18446744073709551616) : (shortB n).length ≤ 8 := shortB_len 8 n (by omega)
set_option maxHeartbeats 4000000 in
theorem shortest_d {n : Nat} {hp : Hp} (ho : OkH hp) (hn : n < 18446744073709551616) :
  Fn kxD 91 [.i .u64 (n : Int)] hp [] fun r N => ∃ u, r = .v u ∧ RowK (shortB n) u N := by
 have h8 := shortB_8 hn
 refine fn_of_w (T := []) ho.sv (fun _ => rfl) (fn := Tryz.f91) (by kernel_rfl) rfl rfl ?_
 refine wo ?_
 refine w_seq ?_
 refine wo ?_
 refine w_loop (ι := Nat × List UInt8 × V × HV) (fun s => [(3, s.2.2.1), (0, .i .u64 (s.1 : Int))]) (fun s => s.2.2.2) (fun s => s.1 ≤ n ∧ shortB n = shortB s.1 ++ s.2.1 ∧ RowK s.2.1 s.2.2.1 s.2.2.2) (fun s => s.1) (n, [], .sl none 0 0 false, []) ⟨Nat.le_refl _, (List.append_nil _).symm, .nil⟩ ⟨rfl, rfl, trivial⟩ (fun hp h => h) ?_
 intro ⟨m, acc, u, N⟩ ⟨h1, h2, h3⟩
 dsimp only at h1 h2 h3 ⊢
 obtain ⟨A, op, rfl⟩ := h3.sl
 have h4 : acc.length ≤ 8 := by
  have := congrArg List.length h2
  rw [List.length_append] at this
  omega
 refine wo ?_
 by_cases g : 0 < m
 ·apply wm; iterate 5 exact rfl
  refine mv_int (v := .b true) rfl rfl (vi_gtrT (by omega))
  refine wo ?_
  apply wm; iterate 5 exact rfl
  refine m_convB rfl
  apply p_op; exact (vwant_n rfl); iterate 4 exact rfl
  refine e_bs (C := [byV (UInt8.ofNat m)]) rfl rfl (.cons rfl rfl .nil) rfl fun b1 => ⟨_, rfl, ?_⟩
  refine wo ?_
  apply p_op; exact (vwant_n rfl); iterate 4 exact rfl
  refine e_appW (RowU.lit1 (y := UInt8.ofNat m)) rfl rfl h3.src rfl u8_one (by show 1 + acc.length ≤ _; omega) fun A' m' op' N' hu' hm' => ⟨_, rfl, ?_⟩
  refine wo ?_
  apply wm; iterate 5 exact rfl
  refine m_shrN rfl rfl (by decide)
  refine wo ?_
  refine ⟨rfl, (m / 2 ^ 8, UInt8.ofNat m :: acc, _, N'), ⟨Nat.le_trans (Nat.div_le_self _ _) h1, ?_, hu'⟩, Nat.div_lt_self g (by decide), ⟨rfl, rfl, trivial⟩, fun hp h => h.headL⟩
  rw [h2, shortB_pos g, List.append_assoc]
  rfl
 ·apply wm; iterate 5 exact rfl
  refine mv_int (v := .b false) rfl rfl (vi_gtrF (by omega))
  refine wo ?_
  refine w_exit ?_
  obtain rfl : m = 0 := by omega
  rw [shortB_zero, List.nil_append] at h2
  refine wo ?_
  exact w_ret (wend_ret (vres1 (rv_tmp rfl)) ⟨_, rfl, by rw [h2]; exact h3⟩)
set_option maxHeartbeats 4000000 in
theorem head_d {n : Nat} {base : UInt8} {hp : Hp} (ho : OkH hp) (hn : n < 9223372036854775808) :
  Fn kxD 92 [.i .i64 (n : Int), byV base] hp [] fun r N => ∃ u, r = .v u ∧ RowK (headB base n) u N := by
 have h8 := shortB_8 (n := n) (by omega)
 refine Fn.dropM ?_
 refine fn_of_w (T := []) ho.sv (fun _ => rfl) (fn := Tryz.f92) (by kernel_rfl) rfl rfl ?_
 refine wo ?_
 by_cases g : n < 56
 ·have e : headB base n = [base + UInt8.ofNat n] := if_pos g
  rw [e]
  apply wm; iterate 5 exact rfl
  refine mv_int (v := .b true) rfl rfl (vi_lssT (by omega))
  refine wo ?_
  apply wm; iterate 5 exact rfl
  refine m_convB rfl
  apply wm; iterate 5 exact rfl
  refine m_addB rfl rfl
  apply p_op; exact (vwant_n rfl); iterate 4 exact rfl
  refine e_bs (C := [byV (base + UInt8.ofNat n)]) rfl rfl (.cons rfl rfl .nil) rfl fun b1 => ⟨_, rfl, ?_⟩
  refine wo ?_
  exact w_ret (wend_ret (vres1 (rv_tmp rfl)) ⟨_, outM _, _, rfl, RowU.lit1⟩)
 ·have e : headB base n = (base + 55 + UInt8.ofNat (shortB n).length) :: shortB n := if_neg g
  rw [e]
  apply wm; iterate 5 exact rfl
  refine mv_int (v := .b false) rfl rfl (vi_lssF (by omega))
  refine wo ?_
  apply wm; iterate 5 exact rfl
  refine m_convU rfl (by omega)
  apply p_callY []; exact (vwant_n rfl); iterate 4 exact rfl
  case hC => exact (fun hp hs ht => shortest_d hs.ok (by omega))
  rintro u N hu
  obtain ⟨A, op, rfl⟩ := hu.sl
  refine wo ?_
  apply wm; iterate 5 exact rfl
  refine m_addB (y := 56) rfl rfl
  apply wm; iterate 5 exact rfl
  refine m_subW (y := 1) rfl rfl
  refine wo ?_
  apply wm; iterate 5 exact rfl
  refine m_convB rfl
  apply wm; iterate 5 exact rfl
  refine m_addB rfl rfl
  rw [base_55]
  apply p_op; exact (vwant_n rfl); iterate 4 exact rfl
  refine e_bs (C := [byV (base + 55 + UInt8.ofNat (shortB n).length)]) rfl rfl (.cons rfl rfl .nil) rfl fun b1 => ⟨_, rfl, ?_⟩
  refine wo ?_
  apply p_op; exact (vwant_n rfl); iterate 4 exact rfl
  refine e_appW (RowU.lit1 (y := base + 55 + UInt8.ofNat (shortB n).length)) rfl rfl hu.src rfl u8_one (by show 1 + _ ≤ _; omega) fun A' m' op' N' hu' hm' => ⟨_, rfl, ?_⟩
  refine wo ?_
  exact w_ret (wend_ret (vres1 (rv_tmp rfl)) ⟨_, outM N', _, rfl, hu'⟩)
theorem len_encs : ∀ (l : List It), l.length ≤ (encs l).length
 | [] => by simp
 | t :: r => by
  rw [encs, List.length_append, List.length_cons]
  have := enc_pos t
  have := len_encs r
  omega
theorem len_enc {l : List It} (h : (enc (.list l)).length ≤ 1073741824) : (encs l).length ≤ 1073741824 ∧ l.length ≤ 1073741824 := by
 rw [enc, List.length_append] at h
 have := len_encs l
 omega
theorem it_at {B : Bs} {l : List It} {A : Option (Nat × Nat)} {vs : List (List V)} {i : Nat} (hA : RB B A vs.flatten) (h : ItRs B l vs) (hi : i < l.length) : ∃ b o vi, A = some (b, o) ∧ (vs.flatten.drop (i * 3)).take 3 = vi ∧ ItR B l[i] vi ∧ vi.length = 3 ∧ vi ≠ [] := by
 obtain ⟨vi, hv, ht⟩ := itRs_at h (List.getElem?_eq_getElem hi)
 have h3 := itR_len ht
 have hne : vi ≠ [] := fun e => by rw [e] at h3; simp at h3
 have hf := flat_row (itRs_rows h) hv
 have hb : ∃ b o, A = some (b, o) := by
  cases hq : vs.flatten with
  | nil => rw [hq] at hf; simp at hf; exact absurd hf hne
  | cons v r => exact rv_some (by rw [← hq]; exact hA.1.rv)
 obtain ⟨b, o, rfl⟩ := hb
 exact ⟨b, o, vi, rfl, hf, ht, h3, hne⟩
set_option maxHeartbeats 8000000 in
theorem deeper_k : ∀ (k : Nat) {t : It} {v : List V} {most : Nat} {hp : Hp}, (enc t).length ≤ 1073741824 → depth t ≤ k → OkH hp → ItR ⟨hp, []⟩ t v → depth t ≤ most → most < 1000000 →
  Fn kxD 69 [.agg v, .i .i64 (most : Int)] hp [] fun r _ => r = .v (.b false) := by
 intro k
 induction k with
 | zero =>
  intro t v most hp hl hd ho ht hm hm2
  cases t with
  | list l => rw [depth] at hd; omega
  | str bs =>
   rw [ItR] at ht
   obtain ⟨A, c, o, rfl, hA⟩ := ht
   refine fn_of_w (T := []) ho.sv (fun _ => rfl) (fn := Tryz.f69) (by kernel_rfl) rfl rfl ?_
   refine wo ?_
   apply p_op; exact (vwant_n rfl); iterate 4 exact rfl
   refine ev_box rfl rfl fun bx => ⟨_, rfl, ?_⟩
   refine wo ?_
   exact w_ret (wend_ret (vres1 (rv_tmp rfl)) rfl)
 | succ k ih =>
  intro t v most hp hl hd ho ht hm hm2
  cases t with
  | str bs =>
   rw [ItR] at ht
   obtain ⟨A, c, o, rfl, hA⟩ := ht
   refine fn_of_w (T := []) ho.sv (fun _ => rfl) (fn := Tryz.f69) (by kernel_rfl) rfl rfl ?_
   refine wo ?_
   apply p_op; exact (vwant_n rfl); iterate 4 exact rfl
   refine ev_box rfl rfl fun bx => ⟨_, rfl, ?_⟩
   refine wo ?_
   exact w_ret (wend_ret (vres1 (rv_tmp rfl)) rfl)
  | list l =>
   rw [ItR] at ht
   obtain ⟨A, c, o, vs, rfl, hA, hvs⟩ := ht
   rw [depth] at hd hm
   obtain ⟨hl1, hl2⟩ := len_enc hl
   refine fn_of_w (T := []) ho.sv (fun _ => rfl) (fn := Tryz.f69) (by kernel_rfl) rfl rfl ?_
   refine wo ?_
   apply p_op; exact (vwant_n rfl); iterate 4 exact rfl
   refine ev_box rfl rfl fun bx => ⟨_, rfl, ?_⟩
   refine wo ?_
   apply wm; iterate 5 exact rfl
   refine mv_int (v := .b false) rfl rfl (vi_eqlF (by omega))
   refine wo ?_
   refine w_seq ?_
   refine wo ?_
   refine w_loop (ι := Nat) (fun i => [(15, .i .i64 (i : Nat)), (14, .i .i64 (l.length : Nat)), (13, .sl A l.length c o), (2, .p (some (bx, 0))), (1, .i .i64 (most : Nat))]) (fun i => [(some bx, cellsO [.b true, .sl none 0 0 false, .sl A l.length c o] 95)]) (fun i => i ≤ l.length) (fun i => l.length - i) 0 (Nat.zero_le _) ⟨rfl, rfl, rfl, rfl, rfl, trivial⟩ (fun hp h => h) ?_
   intro i hi
   refine wo ?_
   by_cases g : i < l.length
   ·obtain ⟨b, oa, vi, rfl, hvi, hti, h3, hne⟩ := it_at hA hvs g
    have hdi : depth l[i] ≤ depths l := depth_mem (List.getElem_mem g)
    have hei : (enc l[i]).length ≤ (encs l).length := enc_mem (List.getElem_mem g)
    apply wm; iterate 5 exact rfl
    refine mv_int (v := .b true) rfl rfl (vi_lssT (by omega))
    refine wo ?_
    apply wn; iterate 5 exact rfl
    refine p_ian rfl rfl g
    apply wm; iterate 5 exact rfl
    refine m_ldnN (j := i * 3) (s := 2) rfl hA.1 hA.2 rfl hvi h3
    apply p_op; exact (vwant_n rfl); iterate 4 exact rfl
    refine e_alloc rfl fun bi => ⟨_, rfl, ?_⟩
    apply p_do; exact (vwant_n rfl); exact rfl; exact rfl
    refine e_stn (C' := vi) rfl rfl hne h3 (by simp) (overV_all (by rw [h3]; rfl)) ⟨_, rfl, ?_⟩
    refine wo ?_
    refine zX (m_ldln (s := 2) (cs := vi) rfl (by rw [List.drop_zero]; exact List.take_of_length_le (by omega)) h3) ?_
    refine wo ?_
    refine p_callq (vwant_n rfl) rfl rfl rfl rfl (fun hp hs => ih (most := most - 1) (by omega) (by omega) hs.ok (hti.give0 hs) (by omega) (by omega)) ?_
    refine wo ?_
    exact ⟨rfl, i + 1, g, by omega, ⟨rfl, rfl, rfl, rfl, rfl, trivial⟩, fun hp h => h.pick [1] _ rfl (by decide)⟩
   ·apply wm; iterate 5 exact rfl
    refine mv_int (v := .b false) rfl rfl (vi_lssF (by omega))
    refine wo ?_
    refine w_exit ?_
    refine wo ?_
    exact w_ret (wend_ret (vres1 (rv_tmp rfl)) rfl)
theorem deeper_d {t : It} {v : List V} {most : Nat} {hp : Hp} (hl : (enc t).length ≤ 1073741824) (ho : OkH hp) (ht : ItR ⟨hp, []⟩ t v) (hm : depth t ≤ most) (hm2 : most < 1000000) :
  Fn kxD 69 [.agg v, .i .i64 (most : Int)] hp [] fun r _ => r = .v (.b false) := deeper_k _ hl (Nat.le_refl _) ho ht hm hm2
set_option maxHeartbeats 8000000 in
theorem rmay_k : ∀ (k : Nat) {t : It} {v : List V} {hp : Hp}, (enc t).length ≤ 1073741824 → depth t ≤ k → OkH hp → ItR ⟨hp, []⟩ t v →
  Fn kxD 70 [.agg v] hp [] fun r _ => r = .v (.b true) := by
 intro k
 induction k with
 | zero =>
  intro t v hp hl hd ho ht
  cases t with
  | list l => rw [depth] at hd; omega
  | str bs =>
   rw [ItR] at ht
   obtain ⟨A, c, o, rfl, hA⟩ := ht
   refine fn_of_w (T := []) ho.sv (fun _ => rfl) (fn := Tryz.f70) (by kernel_rfl) rfl rfl ?_
   refine wo ?_
   apply p_op; exact (vwant_n rfl); iterate 4 exact rfl
   refine ev_box rfl rfl fun bx => ⟨_, rfl, ?_⟩
   refine wo ?_
   apply wm; iterate 5 exact rfl
   refine mv_int (v := .b true) rfl rfl (vi_eqlT (rfl))
   refine wo ?_
   exact w_ret (wend_ret (vres1 (rv_tmp rfl)) rfl)
 | succ k ih =>
  intro t v hp hl hd ho ht
  cases t with
  | str bs =>
   rw [ItR] at ht
   obtain ⟨A, c, o, rfl, hA⟩ := ht
   refine fn_of_w (T := []) ho.sv (fun _ => rfl) (fn := Tryz.f70) (by kernel_rfl) rfl rfl ?_
   refine wo ?_
   apply p_op; exact (vwant_n rfl); iterate 4 exact rfl
   refine ev_box rfl rfl fun bx => ⟨_, rfl, ?_⟩
   refine wo ?_
   apply wm; iterate 5 exact rfl
   refine mv_int (v := .b true) rfl rfl (vi_eqlT (rfl))
   refine wo ?_
   exact w_ret (wend_ret (vres1 (rv_tmp rfl)) rfl)
  | list l =>
   rw [ItR] at ht
   obtain ⟨A, c, o, vs, rfl, hA, hvs⟩ := ht
   rw [depth] at hd
   obtain ⟨hl1, hl2⟩ := len_enc hl
   refine fn_of_w (T := []) ho.sv (fun _ => rfl) (fn := Tryz.f70) (by kernel_rfl) rfl rfl ?_
   refine wo ?_
   apply p_op; exact (vwant_n rfl); iterate 4 exact rfl
   refine ev_box rfl rfl fun bx => ⟨_, rfl, ?_⟩
   refine wo ?_
   refine w_seq ?_
   refine wo ?_
   refine w_loop (ι := Nat) (fun i => [(15, .i .i64 (i : Nat)), (14, .i .i64 (l.length : Nat)), (13, .sl A l.length c o), (1, .p (some (bx, 0)))]) (fun i => [(some bx, cellsO [.b true, .sl none 0 0 false, .sl A l.length c o] 95)]) (fun i => i ≤ l.length) (fun i => l.length - i) 0 (Nat.zero_le _) ⟨rfl, rfl, rfl, rfl, trivial⟩ (fun hp h => h) ?_
   intro i hi
   refine wo ?_
   by_cases g : i < l.length
   ·obtain ⟨b, oa, vi, rfl, hvi, hti, h3, hne⟩ := it_at hA hvs g
    have hdi : depth l[i] ≤ depths l := depth_mem (List.getElem_mem g)
    have hei : (enc l[i]).length ≤ (encs l).length := enc_mem (List.getElem_mem g)
    apply wm; iterate 5 exact rfl
    refine mv_int (v := .b true) rfl rfl (vi_lssT (by omega))
    refine wo ?_
    apply wn; iterate 5 exact rfl
    refine p_ian rfl rfl g
    apply wm; iterate 5 exact rfl
    refine m_ldnN (j := i * 3) (s := 2) rfl hA.1 hA.2 rfl hvi h3
    apply p_op; exact (vwant_n rfl); iterate 4 exact rfl
    refine e_alloc rfl fun bi => ⟨_, rfl, ?_⟩
    apply p_do; exact (vwant_n rfl); exact rfl; exact rfl
    refine e_stn (C' := vi) rfl rfl hne h3 (by simp) (overV_all (by rw [h3]; rfl)) ⟨_, rfl, ?_⟩
    refine wo ?_
    refine zX (m_ldln (s := 2) (cs := vi) rfl (by rw [List.drop_zero]; exact List.take_of_length_le (by omega)) h3) ?_
    refine p_callq (vwant_n rfl) rfl rfl rfl rfl (fun hp hs => ih (by omega) (by omega) hs.ok (hti.give0 hs)) ?_
    refine wo ?_
    exact ⟨rfl, i + 1, g, by omega, ⟨rfl, rfl, rfl, rfl, trivial⟩, fun hp h => h.pick [1] _ rfl (by decide)⟩
   ·apply wm; iterate 5 exact rfl
    refine mv_int (v := .b false) rfl rfl (vi_lssF (by omega))
    refine wo ?_
    refine w_exit ?_
    refine wo ?_
    apply wm; iterate 5 exact rfl
    refine mv_int (v := .b true) rfl rfl (vi_eqlT (rfl))
    refine wo ?_
    exact w_ret (wend_ret (vres1 (rv_tmp rfl)) rfl)
theorem rmay_d {t : It} {v : List V} {hp : Hp} (hl : (enc t).length ≤ 1073741824) (ho : OkH hp) (ht : ItR ⟨hp, []⟩ t v) : Fn kxD 70 [.agg v] hp [] fun r _ => r = .v (.b true) := rmay_k _ hl (Nat.le_refl _) ho ht
end Go.Proofs.YtbmkclbghfbegaaGreatDoor
/- Js4: rlp: size, form, Encode. By this project. -/
set_option maxRecDepth 100000
namespace Go.Proofs.YtbmkclbghfbegaaGreatDoor
open Go.RowKit Go.Extern.Stop
theorem encs_succ {l : List It} {i : Nat} (h : i < l.length) : encs (l.take (i + 1)) = encs (l.take i) ++ enc l[i] := by
 rw [List.take_succ_eq_append_getElem h, encs_app, encs, encs, List.append_nil]
theorem encs_take (l : List It) (i : Nat) : (encs (l.take i)).length ≤ (encs l).length := by
 conv => rhs; rw [← List.take_append_drop i l, encs_app, List.length_append]
 omega
theorem strB_one {b : UInt8} (h : b.toNat < 128) : strB [b] = [b] := by show (if b.toNat < 128 then [b] else headB 128 1 ++ [b]) = _; rw [if_pos h]
theorem strB_big {b : UInt8} (h : ¬ b.toNat < 128) : strB [b] = headB 128 1 ++ [b] := by show (if b.toNat < 128 then [b] else headB 128 1 ++ [b]) = _; rw [if_neg h]
theorem strB_else {bs : List UInt8} (h : bs.length ≠ 1) : strB bs = headB 128 bs.length ++ bs := by
 unfold strB
 split
 ·simp at h
 ·rfl
theorem strB_many {bs : List UInt8} (h : ∀ b, bs = [b] → ¬ b.toNat < 128) : strB bs = headB 128 bs.length ++ bs := by
 by_cases g : bs.length = 1
 ·obtain ⟨b, rfl⟩ := List.length_eq_one_iff.1 g
  exact strB_big (h b rfl)
 ·exact strB_else g
theorem headB_len (base : UInt8) {n : Nat} (h : n < 18446744073709551616) : (headB base n).length ≤ 9 := by
 have := shortB_8 h
 unfold headB
 split
 ·simp
 ·simp only [List.length_cons]; omega
theorem rb_one {B : Bs} {A : Option (Nat × Nat)} {y : UInt8} {r : List V} (h : RB B A (byV y :: r)) : ∃ b o, A = some (b, o) := rv_some h.1.rv
set_option maxHeartbeats 8000000 in
theorem size_k : ∀ (k : Nat) {t : It} {v : List V} {hp : Hp}, depth t ≤ k → OkH hp → ItR ⟨hp, []⟩ t v → (enc t).length ≤ 1048576 →
  Fn kxD 71 [.agg v] hp [] fun r _ => r = .v (.i .i64 ((enc t).length : Int)) := by
 have strs : ∀ {bs : List UInt8} {v : List V} {hp : Hp}, OkH hp → ItR ⟨hp, []⟩ (.str bs) v → (enc (.str bs)).length ≤ 1048576 → Fn kxD 71 [.agg v] hp [] fun r _ => r = .v (.i .i64 ((enc (.str bs)).length : Int)) := by
  intro bs v hp ho ht hl
  rw [ItR] at ht
  obtain ⟨A, c, o, rfl, hA⟩ := ht
  rw [enc] at hl ⊢
  refine fn_of_w (T := []) ho.sv (fun _ => rfl) (fn := Tryz.f71) (by kernel_rfl) rfl rfl ?_
  refine wo ?_
  apply p_op; exact (vwant_n rfl); iterate 4 exact rfl
  refine ev_box rfl rfl fun bx => ⟨_, rfl, ?_⟩
  refine wo ?_
  iterate 4 ((try refine w_seq ?_); refine wo ?_)
  by_cases g : bs.length = 1
  ·obtain ⟨y, rfl⟩ := List.length_eq_one_iff.1 g
   obtain ⟨b, oa, rfl⟩ := rb_one hA
   apply wm; iterate 5 exact rfl
   refine mv_int (v := .b true) rfl rfl (vi_eqlT (rfl))
   refine wo ?_
   apply wg; iterate 7 exact rfl
   refine p_ia (i := 0) rfl rfl Nat.one_pos
   apply wmg; iterate 7 exact rfl
   refine m_ldN (j := 0) (v := byV y) rfl hA.1 hA.2 rfl rfl
   by_cases g2 : y.toNat < 128
   ·rw [strB_one g2]
    apply wmg; iterate 7 exact rfl
    refine mv_int (v := .b true) rfl rfl (vi_lssT ((by show Int.ofNat y.toNat < 128; simp; omega)))
    refine wo ?_
    exact w_ret (wend_ret (vres1 (rv_tmp rfl)) rfl)
   ·have h91 := headB_len 128 (n := 1) (by decide)
    rw [strB_big g2]
    apply wmg; iterate 7 exact rfl
    refine mv_int (v := .b false) rfl rfl (vi_lssF ((by show ¬ Int.ofNat y.toNat < 128; simp; omega)))
    refine wo ?_
    apply p_callY []; exact (vwant_n rfl); iterate 4 exact rfl
    case hC => exact (fun hp hs ht => head_d (n := 1) (base := 128) hs.ok (by decide))
    rintro u N hu
    obtain ⟨A', op', rfl⟩ := hu.sl
    refine wo ?_
    exact w_ret (wend_ret (vres1 (rv_tmp rfl)) (by rw [List.length_append, Nat.add_comm]))
  ·have hb : bs.length ≤ 1048576 := by
    rw [strB_else g, List.length_append] at hl
    omega
   have h9 := headB_len 128 (n := bs.length) (by omega)
   rw [strB_else g, List.length_append]
   apply wm; iterate 5 exact rfl
   refine mv_int (v := .b false) rfl rfl (vi_eqlF (by omega))
   refine wo ?_
   apply p_callY []; exact (vwant_n rfl); iterate 4 exact rfl
   case hC => exact (fun hp hs ht => head_d (n := bs.length) (base := 128) hs.ok (by omega))
   rintro u N hu
   obtain ⟨A', op', rfl⟩ := hu.sl
   refine wo ?_
   exact w_ret (wend_ret (vres1 (rv_tmp rfl)) (by rw [Nat.add_comm]))
 intro k
 induction k with
 | zero =>
  intro t v hp hd ho ht hl
  cases t with
  | list l => rw [depth] at hd; omega
  | str bs => exact strs ho ht hl
 | succ k ih =>
  intro t v hp hd ho ht hl
  cases t with
  | str bs => exact strs ho ht hl
  | list l =>
   rw [ItR] at ht
   obtain ⟨A, c, o, vs, rfl, hA, hvs⟩ := ht
   rw [depth] at hd
   have hl2 := (len_enc (l := l) (by omega)).2
   rw [enc, List.length_append] at hl ⊢
   have h9 := headB_len 192 (n := (encs l).length) (by omega)
   refine fn_of_w (T := []) ho.sv (fun _ => rfl) (fn := Tryz.f71) (by kernel_rfl) rfl rfl ?_
   refine wo ?_
   apply p_op; exact (vwant_n rfl); iterate 4 exact rfl
   refine ev_box rfl rfl fun bx => ⟨_, rfl, ?_⟩
   refine wo ?_
   iterate 4 ((try refine w_seq ?_); refine wo ?_)
   refine w_loop (ι := Nat) (fun i => [(15, .i .i64 (i : Nat)), (14, .i .i64 (l.length : Nat)), (13, .sl A l.length c o), (3, .i .i64 ((encs (l.take i)).length : Nat)), (4, byV 192), (1, .p (some (bx, 0)))]) (fun i => [(some bx, cellsO [.b true, .sl none 0 0 false, .sl A l.length c o] 95)]) (fun i => i ≤ l.length) (fun i => l.length - i) 0 (Nat.zero_le _) ⟨rfl, rfl, rfl, rfl, rfl, rfl, trivial⟩ (fun hp h => h) ?_
   intro i hi
   have hlt := encs_take l i
   refine wo ?_
   by_cases g : i < l.length
   ·obtain ⟨b, oa, vi, rfl, hvi, hti, h3, hne⟩ := it_at hA hvs g
    have hdi : depth l[i] ≤ depths l := depth_mem (List.getElem_mem g)
    have hli : (enc l[i]).length ≤ (encs l).length := enc_mem (List.getElem_mem g)
    have hl1 := encs_take l (i + 1)
    rw [encs_succ g, List.length_append] at hl1
    apply wm; iterate 5 exact rfl
    refine mv_int (v := .b true) rfl rfl (vi_lssT (by omega))
    refine wo ?_
    apply wn; iterate 5 exact rfl
    refine p_ian rfl rfl g
    apply wm; iterate 5 exact rfl
    refine m_ldnN (j := i * 3) (s := 2) rfl hA.1 hA.2 rfl hvi h3
    apply p_op; exact (vwant_n rfl); iterate 4 exact rfl
    refine e_alloc rfl fun bi => ⟨_, rfl, ?_⟩
    apply p_do; exact (vwant_n rfl); exact rfl; exact rfl
    refine e_stn (C' := vi) rfl rfl hne h3 (by simp) (overV_all (by rw [h3]; rfl)) ⟨_, rfl, ?_⟩
    refine wo ?_
    refine zX (m_ldln (s := 2) (cs := vi) rfl (by rw [List.drop_zero]; exact List.take_of_length_le (by omega)) h3) ?_
    refine p_callq (vwant_n rfl) rfl rfl rfl rfl (fun hp hs => ih (by omega) hs.ok (hti.give0 hs) (by omega)) ?_
    refine wo ?_
    apply wm; iterate 5 exact rfl
    refine mv_int (v := .b false) rfl rfl (vi_gtrF (by omega))
    refine wo ?_
    exact ⟨rfl, i + 1, g, by omega, ⟨rfl, rfl, rfl, by rw [encs_succ g, List.length_append]; rfl, rfl, rfl, trivial⟩, fun hp h => h.pick [1] _ rfl (by decide)⟩
   ·apply wm; iterate 5 exact rfl
    refine mv_int (v := .b false) rfl rfl (vi_lssF (by omega))
    refine wo ?_
    refine w_exit ?_
    obtain rfl : i = l.length := by omega
    rw [List.take_length]
    refine wo ?_
    apply p_callY []; exact (vwant_n rfl); iterate 4 exact rfl
    case hC => exact (fun hp hs ht => head_d (n := (encs l).length) (base := 192) hs.ok (by omega))
    rintro u N hu
    obtain ⟨A', op', rfl⟩ := hu.sl
    refine wo ?_
    exact w_ret (wend_ret (vres1 (rv_tmp rfl)) (by rw [Nat.add_comm]))
theorem size_d {t : It} {v : List V} {hp : Hp} (ho : OkH hp) (ht : ItR ⟨hp, []⟩ t v) (hl : (enc t).length ≤ 1048576) :
  Fn kxD 71 [.agg v] hp [] fun r _ => r = .v (.i .i64 ((enc t).length : Int)) := size_k _ (Nat.le_refl _) ho ht hl
theorem SV.fresh {B : Bs} {hp : Hp} {b : Nat} {o : VO} {M : HV} (h : SV B hp ((some b, o) :: M)) : b ∉ hnds M := fun hb => by
 obtain ⟨i, o', hi⟩ := hasT_hnds M b hb
 have := h.one 0 (i + 1) b o o' rfl (by simpa using hi)
 omega
instance {b : Nat} : NotIn b (hnds []) := ⟨by simp [hnds]⟩
instance {b : Nat} {x y : List Nat} [h : NotIn b x] [k : NotIn b y] : NotIn b (x ++ y) := ⟨fun e => (List.mem_append.1 e).elim h.h k.h⟩
set_option maxHeartbeats 16000000 in
theorem form_k : ∀ (k : Nat) {t : It} {v : List V} {xs : List UInt8} {u0 : V} {N0 : HV} {hp : Hp}, depth t ≤ k → SV ⟨hp, hnds N0⟩ hp N0 → RowK xs u0 N0 → ItR ⟨hp, hnds N0⟩ t v → xs.length + (enc t).length ≤ 1073741824 →
  Fn kxD 72 [u0, .agg v] hp (hnds N0) fun r N => ∃ u, r = .v u ∧ RowK (xs ++ enc t) u N := by
 have strs : ∀ {bs : List UInt8} {v : List V} {xs : List UInt8} {u0 : V} {N0 : HV} {hp : Hp}, SV ⟨hp, hnds N0⟩ hp N0 → RowK xs u0 N0 → ItR ⟨hp, hnds N0⟩ (.str bs) v → xs.length + (enc (.str bs)).length ≤ 1073741824 →
   Fn kxD 72 [u0, .agg v] hp (hnds N0) fun r N => ∃ u, r = .v u ∧ RowK (xs ++ enc (.str bs)) u N := by
  intro bs v xs u0 N0 hp h0 hu0 ht hl
  rw [ItR] at ht
  obtain ⟨A, c, o, rfl, hA⟩ := ht
  rw [enc] at hl ⊢
  obtain ⟨A0, op0, rfl⟩ := hu0.sl
  have big : (∀ b, bs = [b] → ¬ b.toNat < 128) → strB bs = headB 128 bs.length ++ bs := strB_many
  refine Fn.dropM ?_
  refine fn_of_w h0 (fun _ => rfl) (fn := Tryz.f72) (by kernel_rfl) rfl rfl ?_
  refine wo ?_
  apply p_op; exact (vwant_n rfl); iterate 4 exact rfl
  refine ev_box rfl rfl fun bx => ⟨_, rfl, ?_⟩
  refine wo ?_
  iterate 4 ((try refine w_seq ?_); refine wo ?_)
  by_cases g : ∃ y, bs = [y] ∧ y.toNat < 128
  ·obtain ⟨y, rfl, g2⟩ := g
   obtain ⟨b, oa, rfl⟩ := rb_one hA
   rw [strB_one g2]
   apply wm; iterate 5 exact rfl
   refine mv_int (v := .b true) rfl rfl (vi_eqlT (rfl))
   refine wo ?_
   apply wg; iterate 7 exact rfl
   refine p_ia (i := 0) rfl rfl Nat.one_pos
   apply wmg; iterate 7 exact rfl
   refine m_ldN (j := 0) (v := byV y) rfl hA.1 hA.2 rfl rfl
   apply wmg; iterate 7 exact rfl
   refine mv_int (v := .b true) rfl rfl (vi_lssT ((by show Int.ofNat y.toNat < 128; simp; omega)))
   refine wo ?_
   apply wn; iterate 5 exact rfl
   refine p_ia (i := 0) rfl rfl Nat.one_pos
   apply wm; iterate 5 exact rfl
   refine m_ldN (j := 0) (v := byV y) rfl hA.1 hA.2 rfl rfl
   apply p_op; exact (vwant_n rfl); iterate 4 exact rfl
   refine e_bs (C := [byV y]) rfl rfl (.cons rfl rfl .nil) rfl fun b1 => ⟨_, rfl, ?_⟩
   apply p_op; exact (vwant_n rfl); iterate 4 exact rfl
   refine e_appW (ys := [y]) hu0 rfl rfl (rz_loc (k := 1) rfl) rfl u8_one (by omega) fun A' m' op' N' hu' hm' => ⟨_, rfl, ?_⟩
   refine wo ?_
   exact w_ret (wend_ret (vres1 (rv_tmp rfl)) ⟨_, outM N', _, rfl, hu'⟩)
  ·have hs := big fun b e h => g ⟨b, e, h⟩
   have hb : bs.length ≤ 1073741824 := by rw [hs, List.length_append] at hl; omega
   rw [hs] at hl ⊢
   rw [List.length_append] at hl
   have tail : ∀ {l : VL} {nt : Nat}, True := fun {_ _} => trivial
   refine wl_know (φ := NotIn bx (hnds N0)) (fun hp hs => ⟨hs.fresh⟩) fun hni => ?_
   by_cases g1 : bs.length = 1
   ·obtain ⟨y, rfl⟩ := List.length_eq_one_iff.1 g1
    have hl1 : xs.length + ((headB 128 1).length + 1) ≤ 1073741824 := hl
    obtain ⟨b, oa, rfl⟩ := rb_one hA
    apply wm; iterate 5 exact rfl
    refine mv_int (v := .b true) rfl rfl (vi_eqlT (rfl))
    refine wo ?_
    apply wg; iterate 7 exact rfl
    refine p_ia (i := 0) rfl rfl Nat.one_pos
    apply wmg; iterate 7 exact rfl
    refine m_ldN (j := 0) (v := byV y) rfl hA.1 hA.2 rfl rfl
    apply wmg; iterate 7 exact rfl
    refine mv_int (v := .b false) rfl rfl (vi_lssF ((by have q : ¬ y.toNat < 128 := fun h => g ⟨y, rfl, h⟩; show ¬ Int.ofNat y.toNat < 128; simp; omega)))
    refine wo ?_
    apply d_callY []; exact (vwant_n rfl); decide +kernel; (iterate 4 exact rfl)
    try (case hok => exact rdOk_nil)
    case hC => exact (fun hp hs ht => head_d (n := 1) (base := 128) hs.ok (by decide))
    rintro u N hu
    obtain ⟨A', op', rfl⟩ := hu.sl
    refine wo ?_
    apply d_op; exact (vwant_n rfl); exact rfl; exact noRd rfl; decide +kernel; (iterate 3 exact rfl); rotate_left
    refine e_appW hu0 rfl rfl hu.src rfl u8_one (by omega) fun A1 m1 op1 N1 hu1 hm1 => ⟨_, rfl, ?_⟩
    try (case hok => exact rdOk_b (by decide +kernel))
    refine wo ?_
    apply d_op; exact (vwant_n rfl); exact rfl; exact noRd rfl; decide +kernel; (iterate 3 exact rfl); rotate_left
    refine e_appW (ys := [y]) hu1 rfl rfl hA.z rfl u8_one (by rw [List.length_append]; omega) fun A2 m2 op2 N2 hu2 hm2 => ⟨_, rfl, ?_⟩
    try (case hok => exact rdOk_b (by decide +kernel))
    refine wo ?_
    rw [List.append_assoc] at hu2
    exact w_ret (wend_ret (vres1 (rv_tmp rfl)) ⟨_, outM N2, _, rfl, hu2⟩)
   ·apply wm; iterate 5 exact rfl
    refine mv_int (v := .b false) rfl rfl (vi_eqlF (by omega))
    refine wo ?_
    apply d_callY []; exact (vwant_n rfl); decide +kernel; (iterate 4 exact rfl)
    try (case hok => exact rdOk_nil)
    case hC => exact (fun hp hs ht => head_d (n := bs.length) (base := 128) hs.ok (by omega))
    rintro u N hu
    obtain ⟨A', op', rfl⟩ := hu.sl
    refine wo ?_
    apply d_op; exact (vwant_n rfl); exact rfl; exact noRd rfl; decide +kernel; (iterate 3 exact rfl); rotate_left
    refine e_appW hu0 rfl rfl hu.src rfl u8_one (by omega) fun A1 m1 op1 N1 hu1 hm1 => ⟨_, rfl, ?_⟩
    try (case hok => exact rdOk_b (by decide +kernel))
    refine wo ?_
    apply d_op; exact (vwant_n rfl); exact rfl; exact noRd rfl; decide +kernel; (iterate 3 exact rfl); rotate_left
    refine e_appW (ys := bs) hu1 rfl rfl hA.z rfl u8_one (by rw [List.length_append]; omega) fun A2 m2 op2 N2 hu2 hm2 => ⟨_, rfl, ?_⟩
    try (case hok => exact rdOk_b (by decide +kernel))
    refine wo ?_
    rw [List.append_assoc] at hu2
    exact w_ret (wend_ret (vres1 (rv_tmp rfl)) ⟨_, outM N2, _, rfl, hu2⟩)
 intro k
 induction k with
 | zero =>
  intro t v xs u0 N0 hp hd h0 hu0 ht hl
  cases t with
  | list l => rw [depth] at hd; omega
  | str bs => exact strs h0 hu0 ht hl
 | succ k ih =>
  intro t v xs u0 N0 hp hd h0 hu0 ht hl
  cases t with
  | str bs => exact strs h0 hu0 ht hl
  | list l =>
   rw [ItR] at ht
   obtain ⟨A, c, o, vs, rfl, hA, hvs⟩ := ht
   rw [depth] at hd
   have hl2 := (len_enc (l := l) (by omega)).2
   rw [enc] at hl ⊢
   rw [List.length_append] at hl
   obtain ⟨A0, op0, rfl⟩ := hu0.sl
   refine Fn.dropM ?_
   refine fn_of_w h0 (fun _ => rfl) (fn := Tryz.f72) (by kernel_rfl) rfl rfl ?_
   refine wo ?_
   apply p_op; exact (vwant_n rfl); iterate 4 exact rfl
   refine ev_box rfl rfl fun bx => ⟨_, rfl, ?_⟩
   refine wo ?_
   iterate 4 ((try refine w_seq ?_); refine wo ?_)
   refine w_loop (ι := Nat × V × HV) (fun s => [(14, .i .i64 (s.1 : Nat)), (13, .i .i64 (l.length : Nat)), (12, .sl A l.length c o), (5, s.2.1), (3, .p (some (bx, 0))), (0, .sl A0 xs.length xs.length op0)]) (fun s => s.2.2 ++ ((some bx, cellsO [.b true, .sl none 0 0 false, .sl A l.length c o] 95) :: N0)) (fun s => s.1 ≤ l.length ∧ RowK (encs (l.take s.1)) s.2.1 s.2.2) (fun s => l.length - s.1) (0, .sl none 0 0 false, []) ⟨Nat.zero_le _, by rw [List.take_zero, encs]; exact .nil⟩ ⟨rfl, rfl, rfl, rfl, rfl, rfl, trivial⟩ (fun hp h => h) ?_
   intro ⟨i, u, N⟩ ⟨hi, hu⟩
   dsimp only at hi hu ⊢
   obtain ⟨A1, op1, rfl⟩ := hu.sl
   have hlt := encs_take l i
   refine wo ?_
   by_cases g : i < l.length
   ·obtain ⟨b, oa, vi, rfl, hvi, hti, h3, hne⟩ := it_at hA hvs g
    have hdi : depth l[i] ≤ depths l := depth_mem (List.getElem_mem g)
    have hl1 := encs_take l (i + 1)
    rw [encs_succ g, List.length_append] at hl1
    apply wm; iterate 5 exact rfl
    refine mv_int (v := .b true) rfl rfl (vi_lssT (by omega))
    refine wo ?_
    apply wn; iterate 5 exact rfl
    refine p_ian rfl rfl g
    apply wm; iterate 5 exact rfl
    refine m_ldnN (j := i * 3) (s := 2) rfl hA.1 hA.2 rfl hvi h3
    apply p_op; exact (vwant_n rfl); iterate 4 exact rfl
    refine e_alloc rfl fun bi => ⟨_, rfl, ?_⟩
    apply p_do; exact (vwant_n rfl); exact rfl; exact rfl
    refine e_stn (C' := vi) rfl rfl hne h3 (by simp) (overV_all (by rw [h3]; rfl)) ⟨_, rfl, ?_⟩
    refine wo ?_
    refine zX (m_ldln (s := 2) (cs := vi) rfl (by rw [List.drop_zero]; exact List.take_of_length_le (by omega)) h3) ?_
    apply p_callM (N); exact (vwant_n rfl); iterate 4 exact rfl
    case hC => exact (fun hp hs ht => ih (by omega) ht hu (itR_mono (fun h => h.give hs) _ _ hti) (by omega))
    rintro u N2 hu2
    refine wo ?_
    exact ⟨rfl, (i + 1, u, N2), ⟨g, by rw [encs_succ g]; exact hu2⟩, by dsimp only; omega, ⟨rfl, rfl, rfl, rfl, rfl, rfl, trivial⟩, fun hp h => h.sub ((List.sublist_cons_self _ _).append_left N2)⟩
   ·apply wm; iterate 5 exact rfl
    refine mv_int (v := .b false) rfl rfl (vi_lssF (by omega))
    refine wo ?_
    refine w_exit ?_
    obtain rfl : i = l.length := by omega
    rw [List.take_length] at hu
    refine wo ?_
    apply p_callY []; exact (vwant_n rfl); iterate 4 exact rfl
    case hC => exact (fun hp hs ht => head_d (n := (encs (l.take l.length)).length) (base := 192) hs.ok (by rw [List.take_length]; omega))
    rintro u N2 hu2
    rw [List.take_length] at hu2 ⊢
    obtain ⟨A2, op2, rfl⟩ := hu2.sl
    refine wo ?_
    apply p_op; exact (vwant_n rfl); iterate 4 exact rfl
    refine e_appW hu0 rfl rfl hu2.src rfl u8_one (by omega) fun A3 m3 op3 N3 hu3 hm3 => ⟨_, rfl, ?_⟩
    refine wo ?_
    apply p_op; exact (vwant_n rfl); iterate 4 exact rfl
    refine e_appW hu3 rfl rfl hu.src rfl u8_one (by rw [List.length_append]; omega) fun A4 m4 op4 N4 hu4 hm4 => ⟨_, rfl, ?_⟩
    refine wo ?_
    rw [List.append_assoc] at hu4
    exact w_ret (wend_ret (vres1 (rv_tmp rfl)) ⟨_, outM N4, _, rfl, hu4⟩)
theorem form_d {t : It} {v : List V} {hp : Hp} (ho : OkH hp) (ht : ItR ⟨hp, []⟩ t v) (hl : (enc t).length ≤ 1048576) :
  Fn kxD 72 [.sl none 0 0 false, .agg v] hp [] fun r N => ∃ u, r = .v u ∧ RowK (enc t) u N := form_k _ (xs := []) (N0 := []) (Nat.le_refl _) ho.sv .nil ht (by simp; omega)
set_option maxHeartbeats 4000000 in
theorem encode_d {t : It} {v : List V} {hp : Hp} (ho : OkH hp) (ht : ItR ⟨hp, []⟩ t v) (hd : depth t ≤ 80) (hl : (enc t).length ≤ 1048576) :
  Fn kxD 44 [.agg v] hp [] fun r N => ∃ u, r = .v u ∧ ∃ w, u = .tup [w, .i .i64 0] ∧ RowK (enc t) w N := by
 have h3 := itR_len ht
 have hne : v ≠ [] := fun e => by rw [e] at h3; simp at h3
 refine Fn.dropM ?_
 refine fn_of_w (T := []) ho.sv (fun _ => rfl) (fn := Tryz.f44) (by kernel_rfl) rfl rfl ?_
 refine wo ?_
 apply p_op; exact (vwant_n rfl); iterate 4 exact rfl
 refine ev_box rfl rfl fun bx => ⟨_, rfl, ?_⟩
 refine wo ?_
 refine zX (m_ldln (s := 2) (cs := v) rfl (by rw [List.drop_zero]; exact List.take_of_length_le (by omega)) h3) ?_
 refine p_callq (vwant_n rfl) rfl rfl rfl rfl (fun hp hs => deeper_d (most := 80) (by omega) hs.ok (ht.give0 hs) hd (by decide)) ?_
 refine wo ?_
 refine zX (m_ldln (s := 2) (cs := v) rfl (by rw [List.drop_zero]; exact List.take_of_length_le (by omega)) h3) ?_
 refine p_callq (vwant_n rfl) rfl rfl rfl rfl (fun hp hs => rmay_d (by omega) hs.ok (ht.give0 hs)) ?_
 refine wo ?_
 refine zX (m_ldln (s := 2) (cs := v) rfl (by rw [List.drop_zero]; exact List.take_of_length_le (by omega)) h3) ?_
 refine p_callq (vwant_n rfl) rfl rfl rfl rfl (fun hp hs => size_d hs.ok (ht.give0 hs) hl) ?_
 apply wm; iterate 5 exact rfl
 refine mv_int (v := .b false) rfl rfl (vi_gtrF (by omega))
 refine wo ?_
 refine zX (m_ldln (s := 2) (cs := v) rfl (by rw [List.drop_zero]; exact List.take_of_length_le (by omega)) h3) ?_
 apply p_callY []; exact (vwant_n rfl); iterate 4 exact rfl
 case hC => exact (fun hp hs ht2 => form_d hs.ok (ht.give0 hs) hl)
 rintro u N hu
 refine wo ?_
 exact w_ret (wend_ret (vres2 (rv_tmp rfl) (rv_tmp rfl)) ⟨_, outM N, _, rfl, _, rfl, hu⟩)
end Go.Proofs.YtbmkclbghfbegaaGreatDoor
/- Js5: rows of elements of several cells; records; the journal's small functions. By this project. -/
set_option maxRecDepth 100000
namespace Go.Proofs.YtbmkclbghfbegaaGreatDoor
open Go.RowKit Go.Extern.Stop
inductive RowG (e : TypeId) (sz : Nat) : Nat → List V → V → HV → Prop
 | nil : RowG e sz 0 [] (.sl none 0 0 false) []
 | own {n : Nat} {cs : List V} {b : Nat} {op : Bool} {oo : Option Nat} (h : op = true → oo = some sz) (hl : cs.length = n * sz) : RowG e sz n cs (.sl (some (b, 0)) n n op) [(some b, .cells cs e oo false)]
theorem RowG.lit {e : TypeId} {sz n b : Nat} {C : List V} (hn : C.length = n * sz) : RowG e sz n C (.sl (some (b, 0)) n n false) [(some b, cellsO C e)] := .own (fun h => by simp at h) hn
theorem RowG.sl {e : TypeId} {sz n : Nat} {cs : List V} {u : V} {N : HV} (h : RowG e sz n cs u N) : ∃ A op, u = .sl A n n op := by
 cases h with
 | nil => exact ⟨_, _, rfl⟩
 | own h => exact ⟨_, _, rfl⟩
theorem RowG.src {e : TypeId} {sz m : Nat} {cs : List V} {A : Option (Nat × Nat)} {n c : Nat} {op : Bool} {M L r : HV} {B : Bs} (h : RowG e sz m cs (.sl A n c op) M) [k : OutM L M r] : RZ B L A cs := by
 cases h with
 | nil => exact rz_nil
 | own h hl => exact fun hp hs => (rz_loc (L := (some _, .cells cs e _ false) :: r) (k := cs.length) (by rw [List.drop_zero]; exact List.take_of_length_le (by simp))) hp (hs.perm k.h)
theorem RowG.rb {e : TypeId} {sz m : Nat} {cs : List V} {A : Option (Nat × Nat)} {n c : Nat} {op : Bool} {M Lt Lr r : HV} {B : Bs} {hp : Hp} (h : RowG e sz m cs (.sl A n c op) M) [k : OutM Lr M r] (hs : SV B hp (Lt ++ Lr)) : RB ⟨hp, hnds Lt⟩ A cs := by
 cases h with
 | nil => exact RB.nil
 | own h hl => exact rb_own (hs.perm (k.h.append_left Lt)) (i := 0) rfl (by rw [List.drop_zero]; exact List.take_of_length_le (by simp))
theorem RowG.rb0 {e : TypeId} {sz m : Nat} {cs : List V} {A : Option (Nat × Nat)} {n c : Nat} {op : Bool} {M L r : HV} {B : Bs} {hp : Hp} (h : RowG e sz m cs (.sl A n c op) M) [k : OutM L M r] (hs : SV B hp L) : RB ⟨hp, []⟩ A cs := RowG.rb (Lt := []) h hs
inductive SeqN (l : VL) (sz : Nat) : Nat → List (Nat × Operand) → List V → Prop
 | nil {i : Nat} : SeqN l sz i [] []
 | cons {i : Nat} {x : Operand} {v : V} {vc : List V} {r : List (Nat × Operand)} {vs : List V} (hx : evL l x = some v) (hc : v.cells = some vc) (h1 : vc.length = sz) (h : SeqN l sz (i + 1) r vs) : SeqN l sz i ((i, x) :: r) (vc ++ vs)
theorem SeqN.len {l : VL} {sz i : Nat} {xs : List (Nat × Operand)} {vs : List V} (h : SeqN l sz i xs vs) : vs.length = xs.length * sz := by
 induction h with
 | nil => simp
 | cons _ _ h1 _ ih => rw [List.length_append, ih, h1, List.length_cons, Nat.succ_mul, Nat.add_comm]
theorem SeqN.fill {l : VL} {sz : Nat} {fr : Tr V} (hf : FrV fr l) {i : Nat} {xs : List (Nat × Operand)} {vs : List V} (h : SeqN l sz i xs vs) : ∀ C : List V, i * sz + vs.length ≤ C.length → fillV fr (fun i => some (i * sz, sz)) C xs = some (C.take (i * sz) ++ vs ++ C.drop (i * sz + vs.length)) := by
 induction h with
 | nil => intro C _; simp [fillV]
 | @cons i x v vc r vs hx hc h1 h ih =>
  intro C hC
  rw [List.length_append, h1] at hC
  have e1 : Nat.beq (lenF vc) sz = true := by rw [lenF_eq, h1]; exact beq_t _
  have e2 : geL C (i * sz + sz) = true := geL_iff.2 (by omega)
  simp only [fillV, hf.ev hx, hc, Option.bind_some, e1, e2, Bool.and_self]
  have e3 : putAt (i * sz) C vc = C.take (i * sz) ++ vc ++ C.drop (i * sz + sz) := by rw [putAt_eq _ _ _ (by omega), h1]
  have e0 : (C.take (i * sz)).length = i * sz := by simp; omega
  have e4 : (C.take (i * sz) ++ vc).length = (i + 1) * sz := by rw [List.length_append, e0, h1, Nat.succ_mul]
  rw [e3, ih _ (by simp only [List.length_append, List.length_drop, e0, h1, Nat.succ_mul]; omega)]
  rw [List.take_append_of_le_length (by omega), List.take_of_length_le (by omega), List.drop_append, List.drop_of_length_le (by omega), e4, List.drop_drop]
  rw [show i * sz + sz + ((i + 1) * sz + vs.length - (i + 1) * sz) = i * sz + (vc ++ vs).length by rw [List.length_append, h1]; omega]
  simp
section
variable {K : Kx} {hp0 : Bs} {l : VL} {L : HV}
theorem e_bsn {t e : TypeId} {n sz : Nat} {z : V} {zc : List V} {xs : List (Nat × Operand)} {C C0 : List V} {k : VR → HV → Prop} [hS : SliceV K.C t e] [hs : SizeV K.C e sz] [hz : ZeroV K.C e z] (hc : z.cells = some zc) (hzl : zc.length = sz) (hn : Nat.ble (n * sz) 16777216 = true) (hq : SeqN l sz 0 xs C0) (hE : C0 = C) (hC : xs.length = n)
  (hk : ∀ b, k (.v (.sl (some (b, 0)) n n false)) ((some b, cellsO C e) :: L)) : EV K hp0 l L (.buildSlice t n xs.toArray) [] k := by
 rw [hE] at hq
 obtain ⟨ti, h3, h4⟩ := hS.h
 obtain ⟨te, h5, h6⟩ := hs.h
 obtain ⟨te', h7, h8⟩ := hz.h
 rw [h5] at h7
 obtain rfl := Option.some.inj h7
 exact ev_new (o := cellsO C e) (f := fun b => .sl (some (b, 0)) n n false) (fun call fr hp hf hsv => by
  show ret2 (vbuildS K.C hp fr t n xs) = _
  have hl := hq.len
  rw [hC] at hl
  have hrl : (repL zc n).length = n * sz := by
   clear hn hq hC hk hl
   induction n with
   | zero => rw [repL_zero]; simp
   | succ n ih => rw [repL_succ, List.length_append, ih, hzl, Nat.succ_mul, Nat.add_comm]
  have e1 := hq.fill hf (repL zc n) (by omega)
  rw [Nat.zero_mul, List.take_zero, List.nil_append, List.drop_of_length_le (by omega), List.append_nil] at e1
  simp only [vbuildS, h3, Option.bind_some, h4, h5, h8, hc, h6, hn, e1, ret2]
  cases hp.new (cellsO C e) <;> rfl) hk
theorem e_appN {tS tX e eX : TypeId} {s x : Operand} {A : Option (Nat × Nat)} {n c m sz : Nat} {op' : Bool} {cs ds : List V} {u : V} {N0 L1 : HV} {k : VR → HV → Prop} [hS : SliceV K.C tS e] [hz : SizeV K.C e (sz + 1)] [hG : GrowV K.C e] [hX : SliceV K.C tX eX] (hu : RowG e (sz + 1) m cs u N0) (hs : evL l s = some u) (hx : evL l x = some (.sl A n c op')) [hL : OutM L N0 L1] (hr : RZ hp0 L A ds) (hn : ds.length = n * (sz + 1)) (h0 : 0 < n) (hl : m + n ≤ 1073741824)
  (hk : ∀ A' op' N', RowG e (sz + 1) (m + n) (cs ++ ds) (.sl A' (m + n) (m + n) op') N' → k (.v (.sl A' (m + n) (m + n) op')) (N' ++ L1)) : EV K hp0 l L (.call { callee := .builtin .append, args := #[s, x], argTypes := #[tS, tX] }) (hnds N0) k := by
 obtain ⟨ti, h3, h4⟩ := hS.h
 obtain ⟨te, h5, h6⟩ := hz.h
 obtain ⟨tx, h7, h8⟩ := hX.h
 obtain ⟨tg, h9, h10⟩ := hG.h
 rw [h5] at h9
 obtain rfl := Option.some.inj h9
 haveI : TiV K.C tS ti := ⟨h3⟩
 haveI : TiV K.C e te := ⟨h5⟩
 haveI : TiV K.C tX tx := ⟨h7⟩
 have hsrc : SrcV K hp0 L tX te.size (.sl A n c op') n ds := src_sl h8 hr (by rw [h6]; exact hn) (by omega)
 cases hu with
 | nil =>
  refine ev_heap (k' := fun r L' => ∃ b, r = .v (.sl (some (b, 0)) n n true) ∧ L' = (some b, .cells ds e (some te.size) false) :: L) (ev_app0 (c := 0) hs hx h4 hsrc h0 (.inl (by omega)) h10 fun b => ⟨b, rfl, rfl⟩) ?_
  rintro r L' ⟨b, rfl, rfl⟩
  refine ⟨(some b, .cells ds e (some te.size) false) :: L1, fun hp h => h.perm (hL.h.cons _), ?_⟩
  have := hk (some (b, 0)) true [(some b, .cells ds e (some te.size) false)] (by
   rw [Nat.zero_add, List.nil_append, h6]
   exact RowG.own (fun _ => rfl) hn)
  rw [Nat.zero_add] at this
  exact this
 | @own _ _ b op oo h hcl =>
  obtain ⟨i, hi⟩ := List.getElem?_of_mem (hL.h.mem_iff.2 (List.mem_append_left _ (List.mem_singleton.2 rfl)))
  haveI : AtV b L (.cells cs e oo false) i := ⟨hi⟩
  have hfin : ∀ b', RowG e (sz + 1) (m + n) (cs ++ ds) (.sl (some (b', 0)) (m + n) (m + n) true) [(some b', .cells (cs ++ ds) e (some te.size) false)] := fun b' => by
   rw [h6]
   exact RowG.own (fun _ => rfl) (by rw [List.length_append, hcl, hn, Nat.add_mul])
  cases op with
  | true =>
   obtain rfl := h rfl
   haveI : AtV b L (.cells cs e (some te.size) false) i := ⟨by rw [h6]; exact hi⟩
   refine ev_heap (k' := fun r L' => ∃ b', r = .v (.sl (some (b', 0)) (m + n) (m + n) true) ∧ L' = L.set i (some b', .cells (cs ++ ds) e (some te.size) false)) (ev_appO (L' := L) (old := cs) (mk := false) (i := i) hs hx h4 (by rw [h6]; exact hcl) hsrc h0 (.inl hl) h10 fun b' => ⟨b', rfl, rfl⟩) ?_
   rintro r L' ⟨b', rfl, rfl⟩
   exact ⟨(some b', .cells (cs ++ ds) e (some te.size) false) :: L1, fun hp h' => h'.perm (perm_set hL.h hi), hk _ _ [_] (hfin b')⟩
  | false =>
   refine ev_tch (ev_heap (k' := fun r L' => ∃ b', r = .v (.sl (some (b', 0)) (m + n) (m + n) true) ∧ L' = (some b', .cells (cs ++ ds) e (some te.size) false) :: L) (ev_appG (old := cs) hs hx h4 (rz_loc (k := cs.length) (by rw [List.drop_zero]; exact List.take_of_length_le (Nat.le_refl _))) (by rw [h6]; exact hcl) hsrc (by omega) (.inl hl) h10 fun b' => ⟨b', rfl, rfl⟩) ?_)
   rintro r L' ⟨b', rfl, rfl⟩
   exact ⟨(some b', .cells (cs ++ ds) e (some te.size) false) :: L1, fun hp h' => (h'.perm (hL.h.cons _)).sub ((List.sublist_cons_self _ _).cons_cons _), hk _ _ [_] (hfin b')⟩
theorem p_ixn {t e : TypeId} {x y : Operand} {m i s : Nat} {k : IntKind} {n : Int} {C cs : List V} [hS : ArrV K.C t m e] [hs : SizeV K.C e s] [hr : RowV K.C e true] (hx : evL l x = some (.agg C)) (hy : evL l y = some (.i k n)) [hn : CastN n i] (hi : i < m) (hl : i * s + s ≤ C.length) (hc : (C.drop (i * s)).take s = cs) : PV K.C l (.index t x y) (.agg cs) := by
 obtain ⟨ti, h1, h2⟩ := hS.h
 obtain ⟨te, h4, h5⟩ := hs.h
 obtain ⟨te', h6, h7⟩ := hr.h
 rw [h4] at h6
 obtain rfl := Option.some.inj h6
 obtain rfl := hn.h
 unfold PV
 exact fun fr hfr => by
  simp only [vpure, pIx, hfr.ev hx, hfr.ev hy, Option.bind_some, vindex, h1, natV, intV?, h2, h4]
  show (match Nat.blt i m with | true => _ | false => _) = _
  rw [show Nat.blt i m = true by rw [Nat.blt_eq]; exact hi]
  simp only [partV, h4, Option.bind_some, h7, h5]
  rw [cutL_mk hl, hc]
  rfl
end
structure Chg where
 key : List UInt8
 val : List UInt8
 gone : Bool
structure Rec where
 kind : Int
 count : Int
 seq : Int
 prev : List UInt8
 root : List UInt8
 ch : List Chg
def ChgR (B : Bs) (c : Chg) (v : List V) : Prop := ∃ A kc ko A' vc vo, v = [.sl A c.key.length kc ko, .sl A' c.val.length vc vo, .b c.gone] ∧ RB B A (c.key.map byV) ∧ RB B A' (c.val.map byV)
def ChgRs (B : Bs) : List Chg → List (List V) → Prop
 | [], vs => vs = []
 | c :: r, vs => ∃ v ws, vs = v :: ws ∧ ChgR B c v ∧ ChgRs B r ws
theorem chgR_len {B : Bs} {c : Chg} {v : List V} (h : ChgR B c v) : v.length = 3 := by obtain ⟨_, _, _, _, _, _, rfl, _⟩ := h; rfl
theorem chgRs_at {B : Bs} : ∀ {l : List Chg} {vs : List (List V)} {i : Nat} {t : Chg}, ChgRs B l vs → l[i]? = some t → ∃ v, vs[i]? = some v ∧ ChgR B t v
 | [], _, _, _, _, hi => by simp at hi
 | x :: r, vs, 0, t, h, hi => by
  obtain ⟨v, ws, rfl, h1, _⟩ := h
  simp only [List.getElem?_cons_zero, Option.some.injEq] at hi
  subst hi
  exact ⟨v, rfl, h1⟩
 | x :: r, vs, i + 1, t, h, hi => by
  obtain ⟨v, ws, rfl, _, h2⟩ := h
  have := chgRs_at (i := i) (t := t) h2 (by simpa using hi)
  simpa using this
theorem chgRs_rows {B : Bs} : ∀ {l : List Chg} {vs : List (List V)}, ChgRs B l vs → ∀ x ∈ vs, x.length = 3
 | [], vs, h, x, hx => by rw [ChgRs] at h; subst h; simp at hx
 | t :: r, vs, h, x, hx => by
  obtain ⟨v, ws, rfl, h1, h2⟩ := h
  rcases List.mem_cons.1 hx with rfl | hx
  ·exact chgR_len h1
  ·exact chgRs_rows h2 x hx
theorem ChgR.mono {B B' : Bs} (hm : ∀ {A : Option (Nat × Nat)} {cs : List V}, RB B A cs → RB B' A cs) {c : Chg} {v : List V} (h : ChgR B c v) : ChgR B' c v := by
 obtain ⟨A, kc, ko, A', vc, vo, h1, h2, h3⟩ := h
 exact ⟨A, kc, ko, A', vc, vo, h1, hm h2, hm h3⟩
theorem chgRs_mono {B B' : Bs} (hm : ∀ {A : Option (Nat × Nat)} {cs : List V}, RB B A cs → RB B' A cs) : ∀ {l : List Chg} {vs : List (List V)}, ChgRs B l vs → ChgRs B' l vs
 | [], vs, h => h
 | t :: r, vs, h => by
  obtain ⟨v, ws, h0, h1, h2⟩ := h
  exact ⟨v, ws, h0, h1.mono hm, chgRs_mono hm h2⟩
def recC (r : Rec) (s : V) : List V := .i .i64 r.kind :: .i .i64 r.count :: .i .i64 r.seq :: (r.prev.map byV ++ (r.root.map byV ++ [s]))
structure RecOk (r : Rec) : Prop where
 prev : r.prev.length = 32
 root : r.root.length = 32
 len : r.ch.length * 56 ≤ 140737488355328
 kv : ∀ c ∈ r.ch, c.key.length ≤ 140737488355328 ∧ c.val.length ≤ 140737488355328
def RecR (B : Bs) (r : Rec) (v : List V) : Prop := RecOk r ∧ ∃ A c o vs, v = recC r (.sl A r.ch.length c o) ∧ RB B A vs.flatten ∧ ChgRs B r.ch vs
theorem RecR.mono {B B' : Bs} (hm : ∀ {A : Option (Nat × Nat)} {cs : List V}, RB B A cs → RB B' A cs) {r : Rec} {v : List V} (h : RecR B r v) : RecR B' r v := by
 obtain ⟨h0, A, c, o, vs, h1, h2, h3⟩ := h
 exact ⟨h0, A, c, o, vs, h1, hm h2, chgRs_mono hm h3⟩
theorem RecR.give0 {B : Bs} {hp : Hp} {L : HV} {r : Rec} {v : List V} (h : RecR B r v) (hs : SV B hp L) : RecR ⟨hp, []⟩ r v := h.mono fun h => h.give0 hs
theorem RecR.give {B : Bs} {hp : Hp} {Lt Lr : HV} {r : Rec} {v : List V} (h : RecR B r v) (hs : SV B hp (Lt ++ Lr)) : RecR ⟨hp, hnds Lt⟩ r v := h.mono fun h => h.give hs
theorem recC_len {r : Rec} {s : V} (h : RecOk r) : (recC r s).length = 68 := by simp [recC, h.prev, h.root]
theorem recC_prev {r : Rec} {s : V} (h : RecOk r) : ((recC r s).drop 3).take 32 = r.prev.map byV := by
 simp only [recC, List.drop_succ_cons, List.drop_zero]
 rw [List.take_append_of_le_length (by simp [h.prev]), List.take_of_length_le (by simp [h.prev])]
theorem recC_root {r : Rec} {s : V} (h : RecOk r) : ((recC r s).drop 35).take 32 = r.root.map byV := by
 have e : (recC r s).drop 35 = r.root.map byV ++ [s] := by
  simp only [recC, List.drop_succ_cons, List.drop_zero]
  rw [List.drop_append_of_le_length (by simp [h.prev]), List.drop_of_length_le (by simp [h.prev]), List.nil_append]
 rw [e, List.take_append_of_le_length (by simp [h.root]), List.take_of_length_le (by simp [h.root])]
theorem recC_ch {r : Rec} {s : V} (h : RecOk r) : (recC r s)[67]? = some s := by
 have e : (recC r s).drop 67 = [s] := by
  simp only [recC, List.drop_succ_cons, List.drop_zero]
  rw [List.drop_append, List.drop_of_length_le (by simp [h.prev]), List.nil_append, List.length_map, h.prev, List.drop_append, List.drop_of_length_le (by simp [h.root]), List.nil_append, List.length_map, h.root]
  rfl
 have := List.getElem?_drop (xs := recC r s) (i := 67) (j := 0)
 rw [e] at this
 simpa using this.symm
theorem ch_at {B : Bs} {l : List Chg} {A : Option (Nat × Nat)} {vs : List (List V)} {i : Nat} (hA : RB B A vs.flatten) (h : ChgRs B l vs) (hi : i < l.length) : ∃ b o vi, A = some (b, o) ∧ (vs.flatten.drop (i * 3)).take 3 = vi ∧ ChgR B l[i] vi ∧ vi.length = 3 ∧ vi ≠ [] := by
 obtain ⟨vi, hv, ht⟩ := chgRs_at h (List.getElem?_eq_getElem hi)
 have h3 := chgR_len ht
 have hne : vi ≠ [] := fun e => by rw [e] at h3; simp at h3
 have hf := flat_row (chgRs_rows h) hv
 have hb : ∃ b o, A = some (b, o) := by
  cases hq : vs.flatten with
  | nil => rw [hq] at hf; simp at hf; exact absurd hf hne
  | cons v r => exact rv_some (by rw [← hq]; exact hA.1.rv)
 obtain ⟨b, o, rfl⟩ := hb
 exact ⟨b, o, vi, rfl, hf, ht, h3, hne⟩
def mayC (c : Chg) : Prop := c.key.length ≤ 32 ∧ (if c.gone = true then c.val.length = 0 else 1 ≤ c.val.length ∧ c.val.length ≤ 256)
instance (c : Chg) : Decidable (mayC c) := by unfold mayC; infer_instance
def mayR (r : Rec) : Prop := (r.kind = 1 ∨ r.kind = 2) ∧ (1 ≤ r.count ∧ r.count ≤ 1099511627776) ∧ (0 ≤ r.seq ∧ r.seq ≤ r.count) ∧ (r.kind = 2 → 1 ≤ r.seq) ∧ (r.kind = 1 → r.ch.length = 0) ∧ r.ch.length ≤ 32 ∧ ∀ c ∈ r.ch, mayC c
instance (r : Rec) : Decidable (mayR r) := by unfold mayR; infer_instance
def kindsC : List V := [.i .i64 1, .i .i64 0, .i .i64 0, .b false, .i .i64 2, .i .i64 1, .i .i64 32, .b true]
def kindC (k : Int) : List V := if k = 1 then [.i .i64 1, .i .i64 0, .i .i64 0, .b false] else if k = 2 then [.i .i64 2, .i .i64 1, .i .i64 32, .b true] else [.i .i64 0, .i .i64 0, .i .i64 0, .b false]
abbrev KTab (B : Bs) : Prop := RB B (some (0, 0)) kindsC
set_option maxHeartbeats 4000000 in
theorem kindof_d {k : Int} {hp : Hp} (ho : OkH hp) (hk : KTab ⟨hp, []⟩) :
  Fn kxD 66 [.i .i64 k] hp [] fun r _ => r = .v (.tup [.agg (kindC k), .b (decide (k = 1 ∨ k = 2))]) := by
 refine fn_of_w (T := []) ho.sv (fun _ => rfl) (fn := Tryz.f66) (by kernel_rfl) rfl rfl ?_
 refine wo ?_
 apply p_op; exact (vwant_n rfl); iterate 4 exact rfl
 refine e_alloc rfl fun bo => ⟨_, rfl, ?_⟩
 refine wo ?_
 refine w_seq ?_
 refine wo ?_
 apply wm; iterate 5 exact rfl
 refine m_ldnN (j := 0) (s := 7) (vs := kindsC) rfl hk.1 hk.2 rfl rfl rfl
 refine wo ?_
 refine w_loop (ι := Nat) (fun i => [(7, .i .i64 (i : Nat)), (6, .agg kindsC), (2, .p (some (bo, 0))), (0, .i .i64 k)]) (fun i => [(some bo, cellsO [.i .i64 0, .i .i64 0, .i .i64 0, .b false] 132)]) (fun i => i ≤ 2 ∧ (1 ≤ i → k ≠ 1) ∧ (2 ≤ i → k ≠ 2)) (fun i => 2 - i) 0 ⟨by omega, by omega, by omega⟩ ⟨rfl, rfl, rfl, rfl, trivial⟩ (fun hp h => h) ?_
 intro i ⟨hi, h1, h2⟩
 refine wo ?_
 by_cases g : i < 2
 ·apply wm; iterate 5 exact rfl
  refine mv_int (v := .b true) rfl rfl (vi_lssT (by omega))
  refine wo ?_
  by_cases g0 : i = 0
  ·subst g0
   apply wn; iterate 5 exact rfl
   refine p_ixn (i := 0) (s := 4) (cs := [.i .i64 1, .i .i64 0, .i .i64 0, .b false]) rfl rfl (by decide) (by decide) rfl
   apply p_op; exact (vwant_n rfl); iterate 4 exact rfl
   refine e_alloc rfl fun bk => ⟨_, rfl, ?_⟩
   apply p_do; exact (vwant_n rfl); exact rfl; exact rfl
   refine e_stn (C' := [.i .i64 1, .i .i64 0, .i .i64 0, .b false]) rfl rfl (by simp) rfl (by decide) rfl ⟨_, rfl, ?_⟩
   refine wo ?_
   by_cases gk : k = 1
   ·subst gk
    apply wm; iterate 5 exact rfl
    refine mv_int (v := .b true) rfl rfl (vi_eqlT (rfl))
    refine wo ?_
    refine zX (m_ldln (s := 3) (cs := [.i .i64 1, .i .i64 0, .i .i64 0, .b false]) rfl rfl rfl) ?_
    apply p_do; exact (vwant_n rfl); exact rfl; exact rfl
    refine e_stn (C' := [.i .i64 1, .i .i64 0, .i .i64 0, .b false]) rfl rfl (by simp) rfl (by decide) rfl ⟨_, rfl, ?_⟩
    refine wo ?_
    exact w_ret (wend_ret (vres2 (rv_cell rfl rfl) (rv_tmp rfl)) rfl)
   ·apply wm; iterate 5 exact rfl
    refine mv_int (v := .b false) rfl rfl (vi_eqlF ((fun h => gk h.symm)))
    refine wo ?_
    exact ⟨rfl, 1, ⟨by omega, fun _ => gk, by omega⟩, by omega, ⟨rfl, rfl, rfl, rfl, trivial⟩, fun hp h => h.pick [1] _ rfl (by decide)⟩
  ·obtain rfl : i = 1 := by omega
   apply wn; iterate 5 exact rfl
   refine p_ixn (i := 1) (s := 4) (cs := [.i .i64 2, .i .i64 1, .i .i64 32, .b true]) rfl rfl (by decide) (by decide) rfl
   apply p_op; exact (vwant_n rfl); iterate 4 exact rfl
   refine e_alloc rfl fun bk => ⟨_, rfl, ?_⟩
   apply p_do; exact (vwant_n rfl); exact rfl; exact rfl
   refine e_stn (C' := [.i .i64 2, .i .i64 1, .i .i64 32, .b true]) rfl rfl (by simp) rfl (by decide) rfl ⟨_, rfl, ?_⟩
   refine wo ?_
   by_cases gk : k = 2
   ·subst gk
    apply wm; iterate 5 exact rfl
    refine mv_int (v := .b true) rfl rfl (vi_eqlT (rfl))
    refine wo ?_
    refine zX (m_ldln (s := 3) (cs := [.i .i64 2, .i .i64 1, .i .i64 32, .b true]) rfl rfl rfl) ?_
    apply p_do; exact (vwant_n rfl); exact rfl; exact rfl
    refine e_stn (C' := [.i .i64 2, .i .i64 1, .i .i64 32, .b true]) rfl rfl (by simp) rfl (by decide) rfl ⟨_, rfl, ?_⟩
    refine wo ?_
    exact w_ret (wend_ret (vres2 (rv_cell rfl rfl) (rv_tmp rfl)) rfl)
   ·apply wm; iterate 5 exact rfl
    refine mv_int (v := .b false) rfl rfl (vi_eqlF ((fun h => gk h.symm)))
    refine wo ?_
    exact ⟨rfl, 2, ⟨by omega, fun _ => h1 (by omega), fun _ => gk⟩, by omega, ⟨rfl, rfl, rfl, rfl, trivial⟩, fun hp h => h.pick [1] _ rfl (by decide)⟩
 ·apply wm; iterate 5 exact rfl
  refine mv_int (v := .b false) rfl rfl (vi_lssF (by omega))
  refine wo ?_
  refine w_exit ?_
  have n1 := h1 (by omega)
  have n2 := h2 (by omega)
  refine wo ?_
  apply wn; iterate 5 exact rfl
  refine p_buildS (C := [.i .i64 0, .i .i64 0, .i .i64 0, .b false]) .nil rfl
  apply p_do; exact (vwant_n rfl); exact rfl; exact rfl
  refine e_stn (C' := [.i .i64 0, .i .i64 0, .i .i64 0, .b false]) rfl rfl (by simp) rfl (by decide) rfl ⟨_, rfl, ?_⟩
  refine wo ?_
  exact w_ret (wend_ret (vres2 (rv_cell rfl rfl) (rv_tmp rfl)) (by unfold kindC; rw [if_neg n1, if_neg n2, decide_eq_false (fun h => h.elim n1 n2)]))
set_option maxHeartbeats 4000000 in
theorem maychange_d {c : Chg} {v : List V} {hp : Hp} (ho : OkH hp) (hc : ChgR ⟨hp, []⟩ c v) :
  Fn kxD 67 [.agg v] hp [] fun r _ => r = .v (.b (decide (mayC c))) := by
 obtain ⟨A, kc, ko, A', vc, vo, rfl, hk, hv⟩ := hc
 refine fn_of_w (T := []) ho.sv (fun _ => rfl) (fn := Tryz.f67) (by kernel_rfl) rfl rfl ?_
 refine wo ?_
 apply p_op; exact (vwant_n rfl); iterate 4 exact rfl
 refine ev_box rfl rfl fun bx => ⟨_, rfl, ?_⟩
 refine wo ?_
 by_cases g1 : c.key.length ≤ 32
 rotate_left
 ·apply wm; iterate 5 exact rfl
  refine mv_int (v := .b true) rfl rfl (vi_gtrT (by omega))
  refine wo ?_
  exact w_ret (wend_ret (vres1 (rv_tmp rfl)) (by rw [decide_eq_false (fun h => g1 h.1)]))
 apply wm; iterate 5 exact rfl
 refine mv_int (v := .b false) rfl rfl (vi_gtrF (by omega))
 refine wo ?_
 by_cases g2 : c.gone = true
 ·have e : mayC c ↔ c.val.length = 0 := by unfold mayC; rw [if_pos g2]; exact and_iff_right g1
  rw [g2, decide_eq_decide.2 e]
  refine wo ?_
  by_cases g3 : c.val.length = 0
  ·apply wm; iterate 5 exact rfl
   refine mv_int (v := .b true) rfl rfl (vi_eqlT (by omega))
   refine wo ?_
   exact w_ret (wend_ret (vres1 (rv_tmp rfl)) (by rw [decide_eq_true g3]))
  ·apply wm; iterate 5 exact rfl
   refine mv_int (v := .b false) rfl rfl (vi_eqlF (by omega))
   refine wo ?_
   exact w_ret (wend_ret (vres1 (rv_tmp rfl)) (by rw [decide_eq_false g3]))
 ·have g2' : c.gone = false := by simpa using g2
  have e : mayC c ↔ (1 ≤ c.val.length ∧ c.val.length ≤ 256) := by unfold mayC; rw [if_neg g2]; exact and_iff_right g1
  rw [g2', decide_eq_decide.2 e]
  refine wo ?_
  by_cases g3 : 1 ≤ c.val.length
  ·apply wm; iterate 5 exact rfl
   refine mv_int (v := .b true) rfl rfl (vi_geqT (by omega))
   refine wo ?_
   by_cases g4 : c.val.length ≤ 256
   ·apply wmg; iterate 7 exact rfl
    refine mv_int (v := .b true) rfl rfl (vi_leqT (by omega))
    refine wo ?_
    exact w_ret (wend_ret (vres1 (rv_tmp rfl)) (by rw [decide_eq_true ⟨g3, g4⟩]))
   ·apply wmg; iterate 7 exact rfl
    refine mv_int (v := .b false) rfl rfl (vi_leqF (by omega))
    refine wo ?_
    exact w_ret (wend_ret (vres1 (rv_tmp rfl)) (by rw [decide_eq_false (fun h => g4 h.2)]))
  ·apply wm; iterate 5 exact rfl
   refine mv_int (v := .b false) rfl rfl (vi_geqF (by omega))
   refine wo ?_
   exact w_ret (wend_ret (vres1 (rv_tmp rfl)) (by rw [decide_eq_false (fun h => g3 h.1)]))
end Go.Proofs.YtbmkclbghfbegaaGreatDoor
/- Je: a record that was handed in, opened. By this project. -/
set_option maxRecDepth 100000
namespace Go.Proofs.YtbmkclbghfbegaaGreatDoor
open Go.ChangeShapes Go.WideShapes Go.ChangeAt Go.RowKit Go.Extern.Stop
structure BOk (W : World) (q : GV) (xs : List UInt8) (c : Nat) : Prop where
 cs : q.cs = xs.map byV
 emp : q.A = none → xs = []
 spot : ∀ a, q.A = some a → a.spot ≠ none → xs = [] ∧ c = 0
 at' : ∀ a, q.A = some a → xs ≠ [] → ∃ pre sp fz, W.heap[a.block]? = some (.cells (pre ++ xs.map cell ++ sp).toArray q.T fz) ∧ pre.length = a.off ∧ sp.length = q.ex * q.sz
theorem BOk.gv {W : World} {E : Env} {q : GV} {xs : List UInt8} {c : Nat} (h : BOk W q xs c) : GvOk W E q := by
 refine ⟨fun e => by rw [h.cs, h.emp e]; rfl, fun a ha hs => by rw [h.cs, (h.spot a ha hs).1]; rfl, fun a ha hn => ?_, ?_⟩
 ·have hx : xs ≠ [] := fun e => hn (by rw [h.cs, e]; rfl)
  obtain ⟨pre, sp, fz, h1, h2, h3⟩ := h.at' a ha hx
  exact ⟨pre, xs.map cell, sp, fz, by rw [h.cs]; exact renL_bytes xs, List.all_eq_true.2 (fun v hv => by obtain ⟨y, _, rfl⟩ := List.mem_map.1 hv; rfl), h1, h2, h3⟩
 ·rw [h.cs]
  cases xs <;> rfl
theorem rw_spot {W : World} {a : Addr} {v : Value} {r : List Value} (h : RW W (some a) (v :: r)) : a.spot = none := by
 obtain ⟨a', e, h1⟩ := h 0 v rfl
 obtain rfl := Option.some.inj e
 have : a.add 0 = a := rfl
 rw [this] at h1
 unfold World.cell? at h1
 split at h1
 ·split at h1
  ·simp at h1
  ·rename_i hs
   simpa using hs
 ·simp at h1
section
variable {H : Type} {enc : TypeId × Value → H} {P : Program} {W : World} {base : Nat} {held : Bool} {t e : TypeId}
theorem open_gb (ht : sliceT P t = some e) (he : intT P e = some .u8) (hc : P.cellsOf e = 1) (hby : P.bytesOf e = 1) {fuel : Nat} {v : Value} {d : DataW H} {ps : List MemPlace} (h : DataW.trod enc P W base (fun _ => true) held fuel t [v] = some (d, ps)) (hz : (DataW.weights P t d).all (· ≤ reachBytes) = true) :
  ∃ (q : GV) (xs : List UInt8) (c : Nat), v = .slice q.A xs.length c ∧ BOk W q xs c ∧ xs.length ≤ 140737488355328 := by
 obtain ⟨v', xs, h1, h2⟩ := open_b ht he hc h
 obtain rfl : v = v' := by simpa using h1
 obtain ⟨A, c, rfl, hxc, hrw⟩ := h2.get
 have hspot : ∀ a, A = some a → a.spot ≠ none → xs = [] ∧ c = 0 := fun a ha hs => by
  subst ha
  have hx : xs = [] := by
   cases xs with
   | nil => rfl
   | cons x r => exact absurd (rw_spot hrw) hs
  subst hx
  refine ⟨rfl, ?_⟩
  rcases DataW.trod_slice (und_slice ht) h with ⟨e1, _⟩ | ⟨a', len, cap, elems, rest, n, _, e1, _, _, _, _, _, _, e2, _⟩
  ·simp only [List.cons.injEq, Value.slice.injEq, and_true] at e1
   exact e1.2.2
  ·simp only [List.cons.injEq, Value.slice.injEq, Option.some.injEq, and_true] at e1
   obtain ⟨rfl, rfl, rfl⟩ := e1
   obtain ⟨hr, hj⟩ := e2 rfl
   rcases Nat.eq_zero_or_pos c with h0 | h0
   ·exact h0
   ·exfalso
    simp only [List.length_nil, Nat.sub_zero] at hr hj
    have h3 := hj 0 h0
    rw [List.getElem?_eq_getElem (by omega), Option.bind_eq_some_iff] at h3
    obtain ⟨cs, h4, _⟩ := h3
    rw [hc] at h4
    simp only [Nat.add_zero, Nat.zero_mul] at h4
    have h5 := World.cells?_some h4
    have h6 := h5.2.2 0 (by omega)
    have h7 : cs.length = 1 := h5.2.1
    rw [List.getElem?_eq_getElem (by omega)] at h6
    have e0 : (a.add 0).add 0 = a := rfl
    rw [e0] at h6
    unfold World.cell? at h6
    split at h6
    ·split at h6
     ·simp at h6
     ·rename_i hq
      exact hs (by simpa using hq)
    ·simp at h6
 have hlen : xs.length ≤ 140737488355328 := by
  rcases h2.shape with h3 | ⟨elems, spare, rfl, h4⟩
  ·rw [h3]; decide
  ·simp only [DataW.weights, und_slice ht, hby, List.all_cons, Bool.and_eq_true, decide_eq_true_eq] at hz
   have := hz.1
   simp only [reachBytes, Nat.mul_one] at this
   omega
 cases hx : xs with
 | nil =>
  subst hx
  exact ⟨⟨A, [], 0, 1, 0⟩, [], c, rfl, ⟨rfl, fun _ => rfl, hspot, fun a _ hn => absurd rfl hn⟩, by decide⟩
 | cons x r =>
  subst hx
  obtain ⟨a, rfl, _⟩ := hrw 0 (cell x) rfl
  have hsp := rw_spot hrw
  obtain ⟨pre, sp, T, fz, h3, h4⟩ := rw_block hsp (by simp) hrw
  refine ⟨⟨some a, (x :: r).map byV, T, 1, sp.length⟩, x :: r, c, rfl, ⟨rfl, fun e => by simp at e, hspot, fun a' ha _ => ?_⟩, hlen⟩
  simp only [Option.some.injEq] at ha
  subst ha
  exact ⟨pre, sp, fz, h3, h4, (Nat.mul_one _).symm⟩
theorem weightsEach_at : ∀ {ts : List TypeId} {ds : List (DataW H)} {i : Nat} {t : TypeId} {d : DataW H}, ts[i]? = some t → ds[i]? = some d → (DataW.weightsEach P ts ds).all (· ≤ reachBytes) = true → (DataW.weights P t d).all (· ≤ reachBytes) = true
 | [], _, _, _, _, h, _, _ => by simp at h
 | _ :: _, [], _, _, _, _, h, _ => by simp at h
 | t' :: ts, d' :: ds, 0, t, d, h, h', hz => by
  simp at h h'
  subst h h'
  simp only [DataW.weightsEach, List.all_append, Bool.and_eq_true] at hz
  exact hz.1
 | t' :: ts, d' :: ds, i + 1, t, d, h, h', hz => by
  simp only [DataW.weightsEach, List.all_append, Bool.and_eq_true] at hz
  exact weightsEach_at (by simpa using h) (by simpa using h') hz.2
theorem weightsAll_at : ∀ {ds : List (DataW H)} {d : DataW H}, d ∈ ds → (DataW.weightsAll P t ds).all (· ≤ reachBytes) = true → (DataW.weights P t d).all (· ≤ reachBytes) = true
 | [], _, h, _ => by simp at h
 | d' :: ds, d, h, hz => by
  simp only [DataW.weightsAll, List.all_append, Bool.and_eq_true] at hz
  rcases List.mem_cons.1 h with rfl | h
  ·exact hz.1
  ·exact weightsAll_at h hz.2
end
structure Ent where
 qk : GV
 qv : GV
 ck : Nat
 cv : Nat
 c : Chg
def Ent.cells (e : Ent) : List Value := [.slice e.qk.A e.c.key.length e.ck, .slice e.qv.A e.c.val.length e.cv, .bool e.c.gone]
structure EntOk (W : World) (e : Ent) : Prop where
 k : BOk W e.qk e.c.key e.ck
 v : BOk W e.qv e.c.val e.cv
 lk : e.c.key.length ≤ 140737488355328
 lv : e.c.val.length ≤ 140737488355328
def chV : Nat → List Ent → List (List V)
 | _, [] => []
 | i, e :: r => [gvV (1 + 2 * i) e.qk e.c.key.length e.ck, gvV (2 + 2 * i) e.qv e.c.val.length e.cv, .b e.c.gone] :: chV (i + 1) r
def entG (l : List Ent) : List GV := l.flatMap fun e => [e.qk, e.qv]
theorem entG_at : ∀ {l : List Ent} {i : Nat} {e : Ent}, l[i]? = some e → (entG l)[2 * i]? = some e.qk ∧ (entG l)[2 * i + 1]? = some e.qv
 | [], _, _, h => by simp at h
 | x :: r, 0, e, h => by
  simp at h
  subst h
  exact ⟨rfl, rfl⟩
 | x :: r, i + 1, e, h => by
  obtain ⟨h1, h2⟩ := entG_at (l := r) (i := i) (e := e) (by simpa using h)
  have e1 : entG (x :: r) = x.qk :: x.qv :: entG r := rfl
  rw [e1, show 2 * (i + 1) = 2 * i + 1 + 1 by omega]
  exact ⟨by simpa using h1, by simpa using h2⟩
theorem chV_ren {bs : List GV} : ∀ {l : List Ent} {i : Nat} {W : World}, (∀ e ∈ l, EntOk W e) → (∀ j e, l[j]? = some e → bs[1 + 2 * (i + j)]? = some e.qk ∧ bs[2 + 2 * (i + j)]? = some e.qv) → renL (gvE bs) (chV i l).flatten = some (l.flatMap Ent.cells)
 | [], _, _, _, _ => rfl
 | e :: r, i, W, h1, h2 => by
  obtain ⟨k1, k2⟩ := h2 0 e rfl
  have he := h1 e List.mem_cons_self
  have r1 := ren_gv (n := e.c.key.length) (c := e.ck) k1 (fun a ha hs => by obtain ⟨x, y⟩ := he.k.spot a ha hs; exact ⟨by rw [x]; rfl, y⟩)
  have r2 := ren_gv (n := e.c.val.length) (c := e.cv) k2 (fun a ha hs => by obtain ⟨x, y⟩ := he.v.spot a ha hs; exact ⟨by rw [x]; rfl, y⟩)
  have ih := chV_ren (bs := bs) (l := r) (i := i + 1) (W := W) (fun e he => h1 e (List.mem_cons_of_mem _ he)) (fun j e hj => by
   have := h2 (j + 1) e (by simpa using hj)
   rwa [show i + (j + 1) = i + 1 + j by omega] at this)
  rw [Nat.add_zero] at r1 r2
  have r3 : ren (gvE bs) (.b e.c.gone) = some (.bool e.c.gone) := rfl
  rw [chV, List.flatten_cons, List.flatMap_cons]
  exact renL_joinA (by simp [renL, r1, r2, r3, Ent.cells]) ih
theorem chV_chg {gs : Gs} {bs : List GV} {B : Bs} : ∀ {l : List Ent} {i : Nat} {W : World}, (∀ e ∈ l, EntOk W e) → (∀ j q, bs[j]? = some q → RB B (gvA j q) q.cs) → (∀ j e, l[j]? = some e → bs[1 + 2 * (i + j)]? = some e.qk ∧ bs[2 + 2 * (i + j)]? = some e.qv) → ChgRs B (l.map (·.c)) (chV i l)
 | [], _, _, _, _, _ => rfl
 | e :: r, i, W, h1, hb, h2 => by
  obtain ⟨k1, k2⟩ := h2 0 e rfl
  have he := h1 e List.mem_cons_self
  rw [Nat.add_zero] at k1 k2
  have r1 := hb _ _ k1
  have r2 := hb _ _ k2
  rw [he.k.cs] at r1
  rw [he.v.cs] at r2
  refine ⟨_, _, rfl, ⟨_, _, _, _, _, _, rfl, r1, r2⟩, chV_chg (gs := gs) (W := W) (fun e he => h1 e (List.mem_cons_of_mem _ he)) hb (fun j e hj => ?_)⟩
  have := h2 (j + 1) e (by simpa using hj)
  rwa [show i + (j + 1) = i + 1 + j by omega] at this
instance : Inhabited GV := ⟨⟨none, [], 0, 1, 0⟩⟩
instance : Inhabited Chg := ⟨⟨[], [], false⟩⟩
instance : Inhabited Ent := ⟨⟨default, default, 0, 0, default⟩⟩
theorem spot_cells {W : World} {base k : Nat} {a : Addr} {cs : List Value} (h : W.cells? base a k = some cs) (hk : 0 < k) : a.spot = none := by
 have h5 := World.cells?_some h
 have h6 := h5.2.2 0 hk
 have h7 : cs.length = k := h5.2.1
 rw [List.getElem?_eq_getElem (by omega)] at h6
 have e0 : a.add 0 = a := rfl
 rw [e0] at h6
 unfold World.cell? at h6
 split at h6
 ·split at h6
  ·simp at h6
  ·rename_i hq
   simpa using hq
 ·simp at h6
section
variable {H : Type} {enc : TypeId × Value → H} {P : Program} {W : World} {base : Nat} {held : Bool} {t e : TypeId}
theorem trod_at {i o : Nat} (hu : fieldT P t i = some (o, e)) {fuel : Nat} {cs : List Value} {d : DataW H} {ps : List MemPlace} (h : DataW.trod enc P W base (fun _ => true) held fuel t cs = some (d, ps)) (hz : (DataW.weights P t d).all (· ≤ reachBytes) = true) :
  ∃ n d' ps', DataW.trod enc P W base (fun _ => true) held n e ((cs.drop o).take (P.cellsOf e)) = some (d', ps') ∧ (DataW.weights P e d').all (· ≤ reachBytes) = true := by
 obtain ⟨fs, f, h1, h2, rfl, rfl⟩ := und_field hu
 obtain ⟨xs, n, rfl, hx, hl, hlen, hf⟩ := DataW.trod_struct h1 h
 simp only [Prod.mk.injEq] at hx
 obtain ⟨rfl, rfl⟩ := hx
 have hi : i < xs.length := by rw [hlen]; exact (Array.getElem?_eq_some_iff.1 h2).1
 have h3 := hf i f h2
 rw [List.getElem?_eq_getElem hi] at h3
 refine ⟨n, xs[i].1, xs[i].2, h3, ?_⟩
 simp only [DataW.weights, h1] at hz
 exact weightsEach_at (i := i) (by simp [h2]) (by simp [hi]) hz
theorem trod_len {i o : Nat} (hu : fieldT P t i = some (o, e)) {fuel : Nat} {cs : List Value} {x : DataW H × List MemPlace} (h : DataW.trod enc P W base (fun _ => true) held fuel t cs = some x) : cs.length = P.cellsOf t := by
 obtain ⟨fs, f, h1, h2, rfl, rfl⟩ := und_field hu
 obtain ⟨xs, n, rfl, hx, hl, hlen, hf⟩ := DataW.trod_struct h1 h
 exact hl
theorem open_ent {fuel : Nat} {cs : List Value} {d : DataW H} {ps : List MemPlace} (h : DataW.trod enc Tryz.prog W base (fun _ => true) held fuel 87 cs = some (d, ps)) (hz : (DataW.weights Tryz.prog 87 d).all (· ≤ reachBytes) = true) :
  ∃ x : Ent, cs = x.cells ∧ EntOk W x := by
 have hl := trod_len (FieldT.h (P := Tryz.prog) (t := 87) (i := 0)) h
 rw [show Tryz.prog.cellsOf 87 = 3 by kernel_rfl] at hl
 match cs, hl with
 | [a, b, c], _ =>
  obtain ⟨n0, d0, p0, k0, z0⟩ := trod_at (FieldT.h (P := Tryz.prog) (t := 87) (i := 0)) h hz
  obtain ⟨n1, d1, p1, k1, z1⟩ := trod_at (FieldT.h (P := Tryz.prog) (t := 87) (i := 1)) h hz
  obtain ⟨n2, d2, p2, k2, z2⟩ := trod_at (FieldT.h (P := Tryz.prog) (t := 87) (i := 2)) h hz
  rw [show Tryz.prog.cellsOf 33 = 1 by kernel_rfl] at k0 k1
  rw [show Tryz.prog.cellsOf 4 = 1 by kernel_rfl] at k2
  obtain ⟨qk, xk, ck, rfl, o0, l0⟩ := open_gb (SliceT.h (P := Tryz.prog) (t := 33)) (IntT.h (P := Tryz.prog) (t := 5)) (by kernel_rfl) (by kernel_rfl) k0 z0
  obtain ⟨qv, xv, cv, rfl, o1, l1⟩ := open_gb (SliceT.h (P := Tryz.prog) (t := 33)) (IntT.h (P := Tryz.prog) (t := 5)) (by kernel_rfl) (by kernel_rfl) k1 z1
  obtain ⟨g, hg, _⟩ := DataW.trod_bool (by kernel_rfl) k2
  obtain rfl : c = .bool g := by simpa using hg
  exact ⟨⟨qk, qv, ck, cv, ⟨xk, xv, g⟩⟩, rfl, o0, o1, l0, l1⟩
theorem flat_map {α β : Type} (f : Nat → α) (g : α → List β) : ∀ n, ((List.range n).map f).flatMap g = (List.range n).flatMap fun i => g (f i) := fun n => by rw [List.flatMap_map]
theorem open_chs {fuel : Nat} {v : Value} {d : DataW H} {ps : List MemPlace} (h : DataW.trod enc Tryz.prog W base (fun _ => true) held fuel 24 [v] = some (d, ps)) (hz : (DataW.weights Tryz.prog 24 d).all (· ≤ reachBytes) = true) :
  ∃ (A : Option Addr) (l : List Ent) (c : Nat), v = .slice A l.length c ∧ (∀ x ∈ l, EntOk W x) ∧ l.length * 56 ≤ 140737488355328 ∧ (A = none → l = []) ∧ (∀ a, A = some a → a.spot ≠ none → l = [] ∧ c = 0) ∧
   ∀ a, A = some a → l ≠ [] → ∃ pre sp T fz, W.heap[a.block]? = some (.cells (pre ++ l.flatMap Ent.cells ++ sp).toArray T fz) ∧ pre.length = a.off := by
 have hu := und_slice (SliceT.h (P := Tryz.prog) (t := 24))
 have hc : Tryz.prog.cellsOf 87 = 3 := by kernel_rfl
 rcases DataW.trod_slice hu h with ⟨e1, _⟩ | ⟨a, len, cap, elems, rest, n, _, e1, ed, _, _, _, hlen, hel, e2, _⟩
 ·obtain rfl : v = .slice none 0 0 := by simpa using e1
  exact ⟨none, [], 0, rfl, fun x hx => by simp at hx, by decide, fun _ => rfl, fun a ha => by simp at ha, fun a ha => by simp at ha⟩
 ·obtain rfl : v = .slice (some a) len cap := by simpa using e1
  simp only [Prod.mk.injEq] at ed
  obtain ⟨rfl, _⟩ := ed
  obtain ⟨e2, e3⟩ := e2 rfl
  simp only [DataW.weights, hu, List.all_cons, List.all_append, Bool.and_eq_true, decide_eq_true_eq, show Tryz.prog.bytesOf 87 = 56 by kernel_rfl, List.length_map] at hz
  obtain ⟨hz1, hz2, _⟩ := hz
  have each : ∀ i, i < len → ∃ x : Ent, W.cells? base (a.add (i * 3)) 3 = some x.cells ∧ EntOk W x := fun i hi => by
   have h1 := hel i hi
   rw [hc, List.getElem?_eq_getElem (by omega), Option.bind_eq_some_iff] at h1
   obtain ⟨cs, h2, h3⟩ := h1
   obtain ⟨x, rfl, hx⟩ := open_ent (d := elems[i].1) (ps := elems[i].2) h3 (weightsAll_at (List.mem_map.2 ⟨elems[i], List.getElem_mem _, rfl⟩) hz2)
   exact ⟨x, h2, hx⟩
  obtain ⟨f, hf⟩ := Go.Deep.choose_lt each
  refine ⟨some a, (List.range len).map f, cap, by simp, fun x hx => ?_, ?_, fun e => by simp at e, fun a' ha hs => ?_, fun a' ha hn => ?_⟩
  ·obtain ⟨i, hi, rfl⟩ := List.mem_map.1 hx
   exact (hf i (List.mem_range.1 hi)).2
  ·simp only [reachBytes] at hz1
   simp only [List.length_map, List.length_range]
   omega
  ·obtain rfl := Option.some.inj ha
   have h0 : len = 0 := by
    rcases Nat.eq_zero_or_pos len with h0 | h0
    ·exact h0
    ·have := spot_cells (hf 0 h0).1 (by decide)
     exact absurd this hs
   subst h0
   refine ⟨rfl, ?_⟩
   rcases Nat.eq_zero_or_pos cap with h0 | h0
   ·exact h0
   ·exfalso
    have h1 := e3 0 (by omega)
    rw [hc, List.getElem?_eq_getElem (by omega), Option.bind_eq_some_iff] at h1
    obtain ⟨cs, h2, _⟩ := h1
    exact hs (spot_cells h2 (by decide))
  ·obtain rfl := Option.some.inj ha
   have h0 : 0 < len := by
    rcases Nat.eq_zero_or_pos len with h0 | h0
    ·subst h0; exact absurd rfl hn
    ·exact h0
   have hsp := spot_cells (hf 0 h0).1 (by decide)
   have hsp : a.spot = none := hsp
   obtain ⟨hrw, _⟩ := rw_elems (f := fun i => (f i).cells) hsp (fun i hi => (hf i hi).1)
   rw [flat_map]
   exact rw_block hsp (fun e => by
    have := congrArg List.length e
    obtain ⟨m, rfl⟩ : ∃ m, len = m + 1 := ⟨len - 1, by omega⟩
    simp [List.range_succ, Ent.cells] at this) hrw
end
end Go.Proofs.YtbmkclbghfbegaaGreatDoor
/- Jk: a record that was handed in, opened whole. By this project. -/
set_option maxRecDepth 100000
namespace Go.Proofs.YtbmkclbghfbegaaGreatDoor
open Go.ChangeShapes Go.WideShapes Go.ChangeAt Go.RowKit Go.Extern.Stop
def recTs : List TypeId := [3, 2, 2] ++ List.replicate 64 5 ++ [24]
theorem ent_one (l : List Ent) : (l.flatMap Ent.cells).all (·.oneCell') = true := by
 refine List.all_eq_true.2 fun v hv => ?_
 obtain ⟨e, _, he⟩ := List.mem_flatMap.1 hv
 simp only [Ent.cells, List.mem_cons, List.not_mem_nil, or_false] at he
 rcases he with rfl | rfl | rfl <;> rfl
theorem chV_hd (l : List Ent) : headOk (chV 0 l).flatten = true := by cases l <;> rfl
theorem chV_nil (l : List Ent) : (chV 0 l).flatten = [] ↔ l = [] := by cases l <;> simp [chV]
section
variable {H : Type} {enc : TypeId × Value → H} {W : World}
theorem open_rec {b0 : Nat} {v : Value} {d : DataW H} {ps : List MemPlace} (hv : Value.okWide Tryz.prog W .any b0 26 v) (h : DataW.Trod enc Tryz.prog W 0 (fun _ => true) true 26 v d ps) (hz : (DataW.weights Tryz.prog 26 d).all (· ≤ reachBytes) = true) :
  ∃ (r : Rec) (q0 : GV) (c : Nat) (l : List Ent), RecOk r ∧ r.ch = l.map (·.c) ∧ (∀ e ∈ l, EntOk W e) ∧ q0.cs = (chV 0 l).flatten ∧ GvOk W (gvE (q0 :: entG l)) q0 ∧ renL (gvE (q0 :: entG l)) [.agg (recC r (gvV 0 q0 r.ch.length c))] = some [v] := by
 obtain ⟨fuel, h⟩ := h
 obtain ⟨C, rfl, hl, hC⟩ := okWide_agg (n := 68) (ts := recTs) (by kernel_rfl) (by kernel_rfl) (by kernel_rfl) rfl hv
 have hcell : (Value.agg C.toArray).cells.toList = C := by simp [Value.cells]
 rw [hcell] at h
 obtain ⟨n, d', ps', k5, z5⟩ := trod_at (FieldT.h (P := Tryz.prog) (t := 26) (i := 5)) h hz
 rw [show Tryz.prog.cellsOf 24 = 1 by kernel_rfl] at k5
 obtain ⟨s, hs⟩ : ∃ s, C[67]? = some s := ⟨_, List.getElem?_eq_getElem (by omega)⟩
 have hd67 : (C.drop 67).take 1 = [s] := by
  have h1 : 67 < C.length := by omega
  rw [List.drop_eq_getElem_cons h1]
  rw [List.getElem?_eq_getElem h1] at hs
  simp only [Option.some.injEq] at hs
  simp [hs]
 rw [hd67] at k5
 obtain ⟨A, l, c, rfl, hE, h56, hAn, hAs, hAt⟩ := open_chs k5 z5
 have int : ∀ i t, intT Tryz.prog t = some .i64 → recTs[i]? = some t → i < 68 → ∃ z : Int, C[i]? = some (.int .i64 z) := fun i t ht hr hi => by
  have hx : C[i]? = some C[i] := List.getElem?_eq_getElem (by omega)
  obtain ⟨z, hz, _⟩ := okWide_cell_int ht (hC i C[i] t hx hr)
  exact ⟨z, by rw [hx, hz]⟩
 obtain ⟨z0, hz0⟩ := int 0 3 (IntT.h (P := Tryz.prog)) rfl (by decide)
 obtain ⟨z1, hz1⟩ := int 1 2 (IntT.h (P := Tryz.prog)) rfl (by decide)
 obtain ⟨z2, hz2⟩ := int 2 2 (IntT.h (P := Tryz.prog)) rfl (by decide)
 have u8 : ∀ i, i < 64 → recTs[3 + i]? = some 5 := fun i hi => by
  have : ∀ i : Fin 64, recTs[3 + i.1]? = some 5 := by decide +kernel
  exact this ⟨i, hi⟩
 obtain ⟨pv, hpv⟩ := seg_bytes (o := 3) (n := 32) (IntT.h (P := Tryz.prog) (t := 5)) (by omega) (fun i hi => u8 i (by omega)) hC
 obtain ⟨rt, hrt⟩ := seg_bytes (o := 35) (n := 32) (ts := recTs) (IntT.h (P := Tryz.prog) (t := 5)) (by omega) (fun i hi => by rw [show 35 + i = 3 + (32 + i) by omega]; exact u8 _ (by omega)) hC
 have lpv : pv.length = 32 := by
  have := congrArg List.length hpv
  simp only [List.length_take, List.length_drop, List.length_map] at this
  omega
 have lrt : rt.length = 32 := by
  have := congrArg List.length hrt
  simp only [List.length_take, List.length_drop, List.length_map] at this
  omega
 have hsplit : C = .int .i64 z0 :: .int .i64 z1 :: .int .i64 z2 :: (pv.map cell ++ (rt.map cell ++ [.slice A l.length c])) := by
  rw [← hpv, ← hrt, ← hd67]
  have e1 : C = C.take 3 ++ C.drop 3 := (List.take_append_drop 3 C).symm
  have e2 : C.drop 3 = (C.drop 3).take 32 ++ (C.drop 3).drop 32 := (List.take_append_drop 32 _).symm
  have e3 : C.drop 35 = (C.drop 35).take 32 ++ (C.drop 35).drop 32 := (List.take_append_drop 32 _).symm
  have e4 : (C.drop 67).take 1 = C.drop 67 := List.take_of_length_le (by rw [List.length_drop]; omega)
  rw [List.drop_drop] at e2 e3
  have e5 : C.take 3 = [.int .i64 z0, .int .i64 z1, .int .i64 z2] := by
   apply List.ext_getElem?
   intro i
   match i with
   | 0 => simpa using hz0
   | 1 => simpa using hz1
   | 2 => simpa using hz2
   | i + 3 => simp; omega
  rw [e4]
  have e6 : C.drop 35 = (C.drop 35).take 32 ++ C.drop 67 := e3
  have e7 : C.drop 3 = (C.drop 3).take 32 ++ C.drop 35 := e2
  rw [← e6, ← e7]
  rw [e5] at e1
  exact e1
 obtain ⟨T, sp, hblk⟩ : ∃ T sp, ∀ a, A = some a → l ≠ [] → ∃ pre fz, W.heap[a.block]? = some (.cells (pre ++ l.flatMap Ent.cells ++ sp).toArray T fz) ∧ pre.length = a.off := by
  cases hA : A with
  | none => exact ⟨0, [], fun a ha => by simp at ha⟩
  | some a =>
   by_cases hn : l = []
   ·exact ⟨0, [], fun a' _ h => absurd hn h⟩
   ·obtain ⟨pre, sp, T, fz, h1, h2⟩ := hAt a hA hn
    exact ⟨T, sp, fun a' ha _ => by
     obtain rfl := Option.some.inj ha
     exact ⟨pre, fz, h1, h2⟩⟩
 let q0 : GV := ⟨A, (chV 0 l).flatten, T, 1, sp.length⟩
 have hren : renL (gvE (q0 :: entG l)) (chV 0 l).flatten = some (l.flatMap Ent.cells) := chV_ren hE (fun j e hj => by
  obtain ⟨h1, h2⟩ := entG_at hj
  rw [Nat.zero_add]
  rw [show 1 + 2 * j = 2 * j + 1 by omega, show 2 + 2 * j = 2 * j + 1 + 1 by omega]
  exact ⟨by simpa using h1, by simpa using h2⟩)
 let r : Rec := ⟨z0, z1, z2, pv, rt, l.map (·.c)⟩
 have hrl : r.ch.length = l.length := by simp [r]
 refine ⟨r, q0, c, l, ⟨lpv, lrt, by rw [hrl]; exact h56, fun x hx => ?_⟩, rfl, hE, rfl, ⟨fun e => (chV_nil l).2 (hAn e), fun a ha hs => (chV_nil l).2 (hAs a ha hs).1, fun a ha hn => ?_, chV_hd l⟩, ?_⟩
 ·obtain ⟨e, he, rfl⟩ := List.mem_map.1 hx
  exact ⟨(hE e he).lk, (hE e he).lv⟩
 ·obtain ⟨pre, fz, h1, h2⟩ := hblk a ha (fun e => hn ((chV_nil l).2 e))
  exact ⟨pre, _, sp, fz, hren, ent_one l, h1, h2, (Nat.mul_one _).symm⟩
 ·have hgv : ren (gvE (q0 :: entG l)) (gvV 0 q0 l.length c) = some (.slice A l.length c) := ren_gv (bs := q0 :: entG l) (i := 0) rfl (fun a ha hs => by
   obtain ⟨x, y⟩ := hAs a ha hs
   exact ⟨by rw [x]; rfl, y⟩)
  have hR : renL (gvE (q0 :: entG l)) (recC r (gvV 0 q0 r.ch.length c)) = some C := by
   rw [hsplit, hrl]
   have h1 : renL (gvE (q0 :: entG l)) [gvV 0 q0 l.length c] = some [.slice A l.length c] := by simp [renL, hgv]
   have h2 := renL_joinA (renL_bytes (E := gvE (q0 :: entG l)) pv) (renL_joinA (renL_bytes rt) h1)
   have h2' : renL (gvE (q0 :: entG l)) (r.prev.map byV ++ (r.root.map byV ++ [gvV 0 q0 l.length c])) = some (pv.map cell ++ (rt.map cell ++ [.slice A l.length c])) := h2
   simp only [recC, renL, h2', ren, Option.bind_some, Option.map_some]
   rfl
  have hone : C.all (·.oneCell') = true := by
   rw [hsplit]
   refine List.all_eq_true.2 fun v hv => ?_
   simp only [List.mem_cons, List.mem_append, List.mem_map, List.not_mem_nil, or_false] at hv
   rcases hv with rfl | rfl | rfl | ⟨x, _, rfl⟩ | ⟨x, _, rfl⟩ | rfl <;> rfl
  simp only [renL, ren_agg_mk hR hone, Option.bind_some, Option.map_some]
theorem rec_gv {q0 : GV} {l : List Ent} (hE : ∀ e ∈ l, EntOk W e) (h0 : GvOk W (gvE (q0 :: entG l)) q0) : ∀ q ∈ q0 :: entG l, GvOk W (gvE (q0 :: entG l)) q := fun q hq => by
 rcases List.mem_cons.1 hq with rfl | hq
 ·exact h0
 ·obtain ⟨e, he, h1⟩ := List.mem_flatMap.1 hq
  simp only [List.mem_cons, List.not_mem_nil, or_false] at h1
  rcases h1 with rfl | rfl
  ·exact (hE e he).k.gv
  ·exact (hE e he).v.gv
theorem rec_r {gs : Gs} {q0 : GV} {l : List Ent} {r : Rec} {c : Nat} (hg : ∀ x ∈ gs, GOk W x) (hnb : ∀ x ∈ gs, x.2.1.all notByte = true) (hb : ∀ q ∈ q0 :: entG l, GvOk W (gvE (q0 :: entG l)) q) (hr : RecOk r) (hch : r.ch = l.map (·.c)) (hE : ∀ e ∈ l, EntOk W e) (hq : q0.cs = (chV 0 l).flatten) : RecR ⟨gvHp gs (q0 :: entG l), []⟩ r (recC r (gvV 0 q0 r.ch.length c)) := by
 refine ⟨hr, _, _, _, chV 0 l, rfl, ?_, ?_⟩
 ·rw [← hq]
  exact gv_ro hg hnb hb (i := 0) rfl
 ·rw [hch]
  refine chV_chg (gs := gs) (bs := q0 :: entG l) (W := W) hE (fun j q hj => gv_ro hg hnb hb hj) (fun j e hj => ?_)
  obtain ⟨h1, h2⟩ := entG_at hj
  rw [Nat.zero_add, show 1 + 2 * j = 2 * j + 1 by omega, show 2 + 2 * j = 2 * j + 1 + 1 by omega]
  exact ⟨by simpa using h1, by simpa using h2⟩
end
end Go.Proofs.YtbmkclbghfbegaaGreatDoor
