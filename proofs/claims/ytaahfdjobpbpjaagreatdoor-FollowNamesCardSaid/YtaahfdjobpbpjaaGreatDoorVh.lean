/- Vh: the machine's slices cut, built, copied; conversions, against the world's. By this project. -/
import Derived.Test.YtaahfdjobpbpjaaGreatDoorVg
set_option linter.unusedVariables false
set_option linter.unusedSectionVars false
set_option linter.unusedSimpArgs false
namespace Go.Proofs.YtaahfdjobpbpjaaGreatDoor
open Go.RowKit Go.Extern.Stop

section
variable {P : Program} {C : Cx} (hC : COk P C) {E : Env} {hp : Hp} {w : World} {fr : Tr V} {a : Act}
include hC
theorem vcopy_ok {tD ty : TypeId} {ts : Array TypeId} {d x v : V} {D X : Value} {hp' : Hp} (hR : Rep E hp.t w) (hts : ts[0]? = some tD) (h : vcopy C hp tD d x = some (v, hp')) (hD : ren E d = some D) (hX : ren E x = some X) : OkV P E hp w (Builtin.copy_ ts ty #[D, X]) v hp' := by
  simp only [vcopy, takeF_eq, Option.bind_eq_some_iff] at h
  obtain ⟨di, hdi, h⟩ := h
  have hT := tiV_ok hC hdi
  split at h
  · rename_i e base l c op hd
    have hu := hT.sl hd
    simp only [Option.bind_eq_some_iff] at h
    obtain ⟨ei, hei, ⟨n, new⟩, hnx, h⟩ := h
    have hei := tiV_ok hC hei
    obtain ⟨L, g1, g2, g3, g4, g5⟩ := srcV_ok (P := P) hR hnx hX
    have hsz := hei.size w
    have hm : min n l ≤ n := Nat.min_le_left _ _
    split at h
    · simp only [Option.some.injEq, Prod.mk.injEq] at h
      obtain ⟨rfl, rfl⟩ := h
      simp only [ren, Option.some.injEq] at hD
      subst hD
      refine okv_same hR ?_ rfl
      simp [Builtin.copy_, hts, run_underlying hu w, g4, hsz, g5 _ hm, goInt]
    · rename_i hh o
      simp only [Option.bind_eq_some_iff, Option.some.injEq, Prod.mk.injEq] at h
      obtain ⟨hp1, h1, rfl, rfl⟩ := h
      simp only [ren, Option.map_eq_some_iff] at hD
      obtain ⟨⟨b, k, ex⟩, he, rfl⟩ := hD
      obtain ⟨q1, q2, q3, q4⟩ := storeV_ok hR h1 (renL_take _ g1) (List.all_eq_true.2 fun u hu => List.all_eq_true.1 g3 u (List.mem_of_mem_take hu)) he
      refine ⟨by omega, fun _ => ⟨_, _, _, ?_, rfl, q4⟩⟩
      have hst := run_storeCells_cells (P := P) b (k + o) (L.take (min n l * ei.size)) 0 w (by simpa using q2) (by simpa using q3) (fun u hu => List.all_eq_true.1 g3 u (List.mem_of_mem_take hu))
      simp only [Nat.add_zero] at hst
      simp [Builtin.copy_, hts, run_underlying hu w, g4, hsz, g5 _ hm, goInt, hst]
  · simp at h
theorem fillRep {ti : TI} {t : TypeId} (hT : TIok P t ti) {z : V} {zc : List V} (hz : ti.z = some z) (hzc : z.cells = some zc) : ∃ zv ZL, (∀ w, (zeroValue t).run P w = .ok zv w) ∧ zv.cells = ZL.toArray ∧ renL E zc = some ZL ∧ ZL.all (·.oneCell') = true ∧ ZL.length = ti.size ∧
    ∀ n, ((Array.range (n * ti.size)).map (ZL.toArray[· % ZL.toArray.size]!)) = (repL ZL n).toArray := by
  obtain ⟨i, hi, hsz, hby, hzz⟩ := hT.info
  obtain ⟨zv, hzv, hzr⟩ := hzz z hz
  obtain ⟨zc', hzc', hzl⟩ := hT.zl z hz
  rw [hzc] at hzc'
  obtain rfl := Option.some.inj hzc'
  obtain ⟨ZL, k1, k2, k3⟩ := ren_cells (ofVal_ren hzr E) hzc
  have hl : ZL.length = ti.size := by rw [renL_len k1, hzl]
  refine ⟨zv, ZL, fun w => by simp [zeroValue, typeInfo, hi, hzv], k3, k1, k2, hl, fun n => ?_⟩
  rw [← hl]
  apply Array.ext'
  simp only [Array.toList_map, Array.toList_range, List.size_toArray]
  induction n with
  | zero => simp [repL_zero]
  | succ n ih =>
    simp only [repL_succ]
    rw [show (n + 1) * ZL.length = ZL.length + n * ZL.length by rw [Nat.succ_mul, Nat.add_comm], List.range_add, List.map_append, List.map_map]
    congr 1
    · apply List.ext_getElem
      · simp
      · intro j h1 h2
        simp only [List.length_map, List.length_range] at h1
        simp [Nat.mod_eq_of_lt h1, h1]
    · rw [← ih]
      apply List.map_congr_left
      intro j _
      simp
theorem vmakeS_ok {t : TypeId} {l c : Nat} {v : V} {hp' : Hp} {k1 k2 : IntKind} (hR : Rep E hp.t w) (h : vmakeS C hp t l c = some (v, hp')) : OkV P E hp w (Instr.makeSlice t (.int k1 l) (.int k2 c)) v hp' := by
  simp only [vmakeS, Option.bind_eq_some_iff] at h
  obtain ⟨ti, ht, h⟩ := h
  have hT := tiV_ok hC ht
  split at h
  · rename_i e hd
    simp only [Option.bind_eq_some_iff] at h
    obtain ⟨ei, hei, z, hz, zc, hzc, h⟩ := h
    have hei := tiV_ok hC hei
    split at h
    · rename_i hb
      simp only [Bool.and_eq_true] at hb
      obtain ⟨⟨⟨b1, b2⟩, b3⟩, b4⟩ := hb
      have b1 := Nat.le_of_ble_eq_true b1
      have b2 := Nat.le_of_ble_eq_true b2
      have b3 := Nat.le_of_ble_eq_true b3
      have b4 := Nat.le_of_ble_eq_true b4
      simp only [Option.bind_eq_some_iff, Option.some.injEq, Prod.mk.injEq] at h
      obtain ⟨⟨h', hp1⟩, hn, rfl, rfl⟩ := h
      obtain ⟨zv, ZL, q1, q2, q3, q4, q5, q6⟩ := fillRep hC (E := E) hei hz hzc
      obtain ⟨i, hi, hsz, hby, hzz⟩ := hei.info
      have hzi : i.zero = some zv := by
        have := q1 w
        simp only [zeroValue, typeInfo, Sem.run_bind, program, Sem.run, Result.andThen_ok, hi] at this
        cases hzo : i.zero with
        | none => simp [hzo, unsupported, Sem.run] at this
        | some u => simp [hzo, Sem.run] at this; rw [this]
      have hn' := new_some hn
      refine ⟨by simp only; omega, fun hf => ?_⟩
      have hrun := run_make (P := P) w t e i zv (hT.sl hd) hi hzi k1 k2 (l : Int) (c : Int) (by omega) (by omega) (by
        rw [hby]
        have : ei.bytes * c ≤ 100000 * 16777216 := Nat.mul_le_mul b4 b3
        have : ((ei.bytes * c : Nat) : Int) ≤ 281474976710656 := by omega
        rwa [Int.natCast_mul] at this) (by omega)
      have hmc : madeCells zv.cells ((c : Int).toNat * i.size) = (repL ZL c).toArray := by
        rw [q2, Int.toNat_natCast, hsz]; exact q6 c
      rw [hmc] at hrun
      have hobj : ObjRep E (.cells (repL zc c) e none false) (w.heap.size, 0, 0) (.cells (repL ZL c).toArray e) :=
        ⟨[], repL ZL c, [], (0, 0), renL_rep q3 c, repL_all q4 c, rfl, by simp, fun _ => ⟨rfl, rfl⟩, fun s hs => by simp at hs, fun _ => rfl, .inl rfl⟩
      obtain ⟨r1, rfl, r2, r3⟩ := out_new hn hR hf hobj
      exact ⟨_, _, _, hrun, by simp [ren, r3], r2⟩
    · simp at h
  · simp at h
theorem vbuildS_ok {t : TypeId} {len : Nat} {parts : List (Nat × Operand)} {v : V} {hp' : Hp} (hR : Rep E hp.t w) (hF : FrR E fr a) (h : vbuildS C hp fr t len parts = some (v, hp')) : OkV P E hp w (Instr.buildSlice t len (parts.map fun x => (x.1, a.eval x.2)).toArray) v hp' := by
  simp only [vbuildS, Option.bind_eq_some_iff] at h
  obtain ⟨ti, ht, h⟩ := h
  have hT := tiV_ok hC ht
  split at h
  · rename_i e hd
    simp only [Option.bind_eq_some_iff] at h
    obtain ⟨ei, hei, z, hz, zc, hzc, h⟩ := h
    have hei := tiV_ok hC hei
    split at h
    · rename_i hb
      have hb := Nat.le_of_ble_eq_true hb
      simp only [Option.bind_eq_some_iff, Option.some.injEq, Prod.mk.injEq] at h
      obtain ⟨cs, hcs, ⟨h', hp1⟩, hn, rfl, rfl⟩ := h
      obtain ⟨zv, ZL, q1, q2, q3, q4, q5, q6⟩ := fillRep hC (E := E) hei hz hzc
      obtain ⟨M, m1, m2, m3, m4⟩ := fillV_ok hF hcs (renL_rep q3 len) (repL_all q4 len)
      have hn' := new_some hn
      refine ⟨by simp only; omega, fun hf => ?_⟩
      have hobj : ObjRep E (.cells cs e none false) (w.heap.size, 0, 0) (.cells M.toArray e) :=
        ⟨[], M, [], (0, 0), m1, m2, rfl, by simp, fun _ => ⟨rfl, rfl⟩, fun s hs => by simp at hs, fun _ => rfl, .inl rfl⟩
      obtain ⟨r1, rfl, r2, r3⟩ := out_new hn hR hf hobj
      refine ⟨.slice (some ⟨w.heap.size, 0, none⟩) len len, _, _, ?_, by simp [ren, r3], r2⟩
      have hgt : ¬ len * ei.size > 2 ^ 24 := by omega
      by_cases h0 : len * ei.size = 0
      · have e0 : (repL ZL len).toArray = #[] := by
          have : (repL ZL len).length = 0 := by rw [repL_len, q5]; exact h0
          simp [List.length_eq_zero_iff.1 this]
        rw [e0] at m4
        simp only [Instr.buildSlice, Sem.run_bind, run_underlying (hT.sl hd) w, Result.andThen_ok, hei.size w]
        rw [if_neg hgt]
        simp only [h0, if_true, Sem.run_bind, Sem.run_pure, Result.andThen_ok]
        simp only [Array.range_zero', List.map_toArray, Array.map_empty]
        first
        | (rw [m4]; simp [newRow])
        | (simp [m4, newRow])
      · have := q6 len
        rw [q2.symm] at this
        simp only [Instr.buildSlice, Sem.run_bind, run_underlying (hT.sl hd) w, Result.andThen_ok, hei.size w]
        rw [if_neg hgt]
        rw [if_neg h0]
        simp only [Sem.run_bind, q1 w, Result.andThen_ok, Sem.run_pure]
        rw [this]
        simp only [m4]
        simp [newRow]
    · simp at h
  · simp at h
theorem boundV_ok {x : Option Operand} {d n : Nat} (hF : FrR E fr a) (h : boundV fr x d = some n) : (x = none ∧ n = d) ∨ ∃ q k, x = some q ∧ a.eval q = .int k n := by
  cases x with
  | none => simp [boundV] at h; exact .inl ⟨rfl, h.symm⟩
  | some q =>
    simp only [boundV, Option.bind_eq_some_iff, natV] at h
    obtain ⟨v, hv, m, hm, h⟩ := h
    have := asNat_some h
    subst this
    cases v <;> simp [intV?] at hm
    subst hm
    have := hF.ev hv
    simp only [ren, Option.some.injEq] at this
    exact .inr ⟨q, _, rfl, this.symm⟩
omit hC in
theorem leO_some {x y : Nat} {u : Unit} (h : leO x y = some u) : x ≤ y := by
  unfold leO at h
  split at h
  · rename_i hb; exact Nat.le_of_ble_eq_true hb
  · simp at h
include hC in
theorem sbound {x : Operand} {n y : Nat} {k : IntKind} {code : BoundsCode} (h : a.eval x = .int k n) (hy : n ≤ y) (w : World) : (Instr.sliceBound (a.eval x) y code).run P w = .ok n w := by
  rw [h]
  simp [Instr.sliceBound, asIntOf, show (n : Int) ≤ (y : Int) by omega]
/-- The bounds of a cut. -/
theorem sliceBounds_ok {isS : Bool} {len cap l h m : Nat} {lo hi mx : Option Operand} (hF : FrR E fr a) (hl : boundV fr lo 0 = some l) (hh : boundV fr hi len = some h) (hm : (mx = none ∧ m = cap) ∨ ∃ q k, mx = some q ∧ a.eval q = .int k m ∧ hi ≠ none) (h1 : l ≤ h) (h2 : h ≤ m) (h3 : m ≤ cap) :
    (Instr.sliceBounds isS len cap (lo.map a.eval) (hi.map a.eval) (mx.map a.eval)).run P w = .ok (l, h, m) w := by
  have hl := boundV_ok hC hF hl
  have hh := boundV_ok hC hF hh
  rcases hm with ⟨rfl, rfl⟩ | ⟨q, k, rfl, hq, hne⟩
  · rcases hh with ⟨rfl, rfl⟩ | ⟨p, k', rfl, hp⟩
    · rcases hl with ⟨rfl, rfl⟩ | ⟨o, k2, rfl, ho⟩
      · simp [Instr.sliceBounds]
      · simp [Instr.sliceBounds, sbound hC ho h1]
    · rcases hl with ⟨rfl, rfl⟩ | ⟨o, k2, rfl, ho⟩
      · simp [Instr.sliceBounds, sbound hC hp h2]
      · simp [Instr.sliceBounds, sbound hC hp h2, sbound hC ho h1]
  · rcases hh with ⟨rfl, rfl⟩ | ⟨p, k', rfl, hp⟩
    · exact absurd rfl hne
    · rcases hl with ⟨rfl, rfl⟩ | ⟨o, k2, rfl, ho⟩
      · simp [Instr.sliceBounds, sbound hC hp h2, sbound hC hq h3]
      · simp [Instr.sliceBounds, sbound hC hp h2, sbound hC ho h1, sbound hC hq h3]
omit hC in
theorem ifadd (m l b k o s : Nat) : (if m = l then (⟨b, k + o, none⟩ : Addr) else (⟨b, k + o, none⟩ : Addr).add (l * s)) = ⟨b, k + offV m l o s, none⟩ := by
  unfold offV
  by_cases h : m = l
  · subst h; simp [Nat.beq_eq]
  · have : Nat.beq m l = false := by rw [Bool.eq_false_iff]; intro e; exact h (Nat.eq_of_beq_eq_true e)
    rw [if_neg h, this]
    simp [Addr.add_mid, Nat.add_assoc]
omit hC in
theorem ifmap (m l b k o s : Nat) : (if m = l then some (⟨b, k + o, none⟩ : Addr) else (some (⟨b, k + o, none⟩ : Addr)).map (·.add (l * s))) = some ⟨b, k + offV m l o s, none⟩ := by
  rw [← ifadd]
  split <;> rfl
omit hC in
theorem offV_zero (m o s : Nat) : offV m 0 o s = o := by unfold offV; split <;> simp
omit hC in
theorem offV_ne {m l : Nat} (h : m ≠ l) (o s : Nat) : offV m l o s = o + l * s := by
  unfold offV
  have : Nat.beq m l = false := by rw [Bool.eq_false_iff]; intro e; exact h (Nat.eq_of_beq_eq_true e)
  rw [this]
include hC in
theorem vslEnd_ok {t : TypeId} {x v : V} {X : Value} {lo hi mx : Option Operand} {hp' : Hp} (hR : Rep E hp.t w) (hF : FrR E fr a) (h : vslEnd C hp fr t x lo hi mx = some (v, hp')) (hX : ren E x = some X) : OkV P E hp w (Instr.sliceAt t X (lo.map a.eval) (hi.map a.eval) (mx.map a.eval)) v hp' := by
  simp only [vslEnd, Option.bind_eq_some_iff] at h
  obtain ⟨ti, ht, l, hl, h⟩ := h
  have hT := tiV_ok hC ht
  split at h
  · rename_i e A len c hd
    simp only [Option.bind_eq_some_iff] at h
    obtain ⟨ei, hei, n, hn, h⟩ := h
    have hei := tiV_ok hC hei
    have hu := hT.sl hd
    split at h
    · rename_i hb
      simp only [Bool.and_eq_true] at hb
      obtain ⟨⟨⟨⟨b1, b2⟩, b3⟩, b4⟩, b5⟩ := hb
      obtain rfl := Nat.eq_of_beq_eq_true b1
      obtain rfl := Nat.eq_of_beq_eq_true b2
      simp only [Option.some.injEq, Prod.mk.injEq] at h
      obtain ⟨rfl, rfl⟩ := h
      obtain ⟨b, o⟩ := A
      simp only [ren, Option.map_eq_some_iff] at hX
      obtain ⟨⟨B, k, ex⟩, he, rfl⟩ := hX
      refine ⟨by simp only; omega, fun hf => ?_⟩
      have hE : E hp.nx = none := hf _ (Nat.le_refl _) (by simp only; omega)
      have hle := Env.upd_le (e := (B, k + offV (n + ex) n o ei.size, ex)) hE
      have this := sliceBounds_ok hC (isS := true) (w := w) (cap := n + ex) hF hl hn (.inl ⟨rfl, rfl⟩) (Nat.le_refl _) (by omega) (Nat.le_refl _)
      simp only [Option.map_none] at this
      have ne : ∀ h o', hp.t.get h = some o' → h ≠ hp.nx := fun h o' hh e' => by
        subst e'
        obtain ⟨_, _, h1, _⟩ := hR.has _ _ hh
        rw [hE] at h1; simp at h1
      refine ⟨.slice (some ⟨B, k + offV (n + ex) n o ei.size, none⟩) 0 ex, w, E.upd hp.nx (B, k + offV (n + ex) n o ei.size, ex), ?_, ?_, hle, fun h hh => Env.upd_ne (by simp only at hh; omega), ⟨fun h o' hh => ?_, fun h h' o1 o2 e1 e2 g1 g2 g3 g4 => ?_⟩, ⟨rfl, rfl, rfl, Nat.le_refl _, fun _ _ _ => rfl, fun h o' e' g1 g2 g3 => ?_⟩⟩
      · unfold Instr.sliceAt
        rw [Sem.run_bind, run_underlying hu w]
        simp only [if_true, Result.andThen_ok]
        simp only [Instr.slice, Sem.run_bind, run_underlying hu w, Result.andThen_ok, Option.map_none, this, hei.size w, Sem.run_pure, ifmap]
        rw [Nat.sub_self, Nat.add_sub_cancel_left]
      · simp [ren, Env.upd_eq]
      · obtain ⟨e', y, h1, h2, h3⟩ := hR.has h o' hh
        exact ⟨e', y, hle _ _ h1, h2, h3.mono hle⟩
      · rw [Env.upd_ne (ne _ _ g1)] at g3
        rw [Env.upd_ne (ne _ _ g2)] at g4
        exact hR.inj _ _ _ _ _ _ g1 g2 g3 g4
      · rw [Env.upd_ne (ne _ _ g1)] at g2
        exact .inl ⟨h, o', e', g1, g2, g3, rfl⟩
    · simp at h
  · simp at h
theorem vslice_ok {t : TypeId} {x v : V} {X : Value} {lo hi mx : Option Operand} (hR : Rep E hp.t w) (hF : FrR E fr a) (h : vslice C hp fr t x lo hi mx = some v) (hX : ren E x = some X) : OkV P E hp w (Instr.sliceAt t X (lo.map a.eval) (hi.map a.eval) (mx.map a.eval)) v hp := by
  simp only [vslice, takeF_eq, dropF_eq, lenF_eq, Option.bind_eq_some_iff] at h
  obtain ⟨ti, ht, l, hl, h⟩ := h
  have hT := tiV_ok hC ht
  split at h
  · rename_i s hd
    simp only [ren, Option.some.injEq] at hX
    subst hX
    split at h
    · simp only [Option.bind_eq_some_iff, Option.some.injEq] at h
      obtain ⟨n, hn, _, h1, _, h2, rfl⟩ := h
      have h1 := leO_some h1
      have h2 := leO_some h2
      refine okv_same hR ?_ rfl
      have hs : (⟨s.toArray⟩ : ByteArray).size = s.length := by simp [ByteArray.size]
      have := sliceBounds_ok hC (isS := false) (w := w) hF hl hn (.inl ⟨rfl, rfl⟩) h2 h1 (Nat.le_refl _)
      simp only [Option.map_none] at this
      simp only [Instr.sliceAt, Sem.run_bind, run_underlying (hT.str hd) w, Result.andThen_ok, Instr.slice, Option.map_none, Option.isSome_none, Bool.false_eq_true, if_false, hs]
      rw [this]
      simp only [Result.andThen_ok, Sem.run_pure]
      congr 2
      apply ByteArray.ext
      apply Array.ext'
      simp [ByteArray.data_extract, List.drop_take]
    · simp at h
  · rename_i e A len c op hd
    simp only [Option.bind_eq_some_iff] at h
    obtain ⟨ei, hei, n, hn, h⟩ := h
    have hei := tiV_ok hC hei
    have hu := hT.sl hd
    have hst : ∀ X lo hi mx, (Instr.sliceAt t X lo hi mx).run P w = (Instr.slice t X lo hi mx).run P w := fun X lo hi mx => by
      unfold Instr.sliceAt
      rw [Sem.run_bind, run_underlying hu w]
      rfl
    split at h
    · simp only [Option.bind_eq_some_iff] at h
      obtain ⟨_, h1, _, h2, h⟩ := h
      have h1 := leO_some h1
      have h2 := leO_some h2
      split at h
      · simp only [Option.some.injEq] at h
        subst h
        simp only [ren, Option.some.injEq] at hX
        subst hX
        refine okv_same hR ?_ rfl
        have := sliceBounds_ok hC (isS := true) (w := w) hF hl hn (.inl ⟨rfl, rfl⟩) h2 h1 (Nat.le_refl _)
        simp only [Option.map_none] at this
        rw [hst]
        simp [Instr.slice, run_underlying hu w, this, hei.size w]
      · rename_i b o
        simp only [ren, Option.map_eq_some_iff] at hX
        obtain ⟨⟨B, k, ex⟩, he, rfl⟩ := hX
        cases op with
        | false =>
          simp only [Option.some.injEq] at h
          subst h
          have := sliceBounds_ok hC (isS := true) (w := w) hF hl hn (.inl ⟨rfl, rfl⟩) h2 h1 (Nat.le_refl _)
          simp only [Option.map_none] at this
          refine okv_same hR (x := .slice (some ⟨B, k + offV c l o ei.size, none⟩) (n - l) (c - l)) ?_ (by simp [ren, he])
          rw [hst]
          simp only [Bool.false_eq_true, if_false]
          simp only [Instr.slice, Sem.run_bind, run_underlying hu w, Result.andThen_ok, Option.map_none, this, hei.size w, Sem.run_pure, ifmap]
        | true =>
          have this := sliceBounds_ok hC (isS := true) (w := w) (cap := c + ex) hF hl hn (.inl ⟨rfl, rfl⟩) h2 (by omega) (Nat.le_refl _)
          simp only [Option.map_none] at this
          simp only at h
          split at h
          · rename_i hb
            have hb := Nat.eq_of_beq_eq_true hb
            subst hb
            simp only [Option.some.injEq] at h
            subst h
            refine okv_same hR (x := .slice (some ⟨B, k + o, none⟩) n (c + ex)) ?_ (by simp [ren, he])
            rw [hst]
            simp only [if_true]
            simp only [Instr.slice, Sem.run_bind, run_underlying hu w, Result.andThen_ok, Option.map_none, this, hei.size w, Sem.run_pure, ifmap, offV_zero]
            simp
          · rename_i hb1 hb2
            have hc : c ≠ l := fun e => by rw [e] at hb2; simp [Nat.beq_eq] at hb2
            simp only [Option.some.injEq] at h
            subst h
            refine okv_same hR (x := .slice (some ⟨B, k + (o + l * ei.size), none⟩) (n - l) (c - l + ex)) ?_ (by simp [ren, he])
            rw [hst]
            simp only [if_true]
            simp only [Instr.slice, Sem.run_bind, run_underlying hu w, Result.andThen_ok, Option.map_none, this, hei.size w, Sem.run_pure, ifmap, offV_ne (show c + ex ≠ l by omega)]
            rw [show c + ex - l = c - l + ex by omega]
          · simp at h
    · rename_i m
      simp only [Option.bind_eq_some_iff] at h
      obtain ⟨mm, hm, h⟩ := h
      split at h
      · simp at h
      · rename_i hiq
        simp only [Option.bind_eq_some_iff] at h
        obtain ⟨_, h0, _, h1, _, h2, h⟩ := h
        have h0 := leO_some h0
        have h1 := leO_some h1
        have h2 := leO_some h2
        have hmx : ∃ q k, some m = some q ∧ a.eval q = .int k mm ∧ some hiq ≠ none := by
          rcases boundV_ok hC hF hm with ⟨e, _⟩ | ⟨q, k, e, h⟩
          · simp at e
          · exact ⟨q, k, e, h, by simp⟩
        split at h
        · simp only [Option.some.injEq] at h
          subst h
          simp only [ren, Option.some.injEq] at hX
          subst hX
          refine okv_same hR ?_ rfl
          have := sliceBounds_ok hC (isS := true) (w := w) hF hl hn (.inr hmx) h2 h1 h0
          rw [hst]
          simp only [Instr.slice, Sem.run_bind, run_underlying hu w, Result.andThen_ok, this, hei.size w, Sem.run_pure]
          simp
        · rename_i b o
          simp only [ren, Option.map_eq_some_iff] at hX
          obtain ⟨⟨B, k, ex⟩, he, rfl⟩ := hX
          simp only [Option.some.injEq] at h
          subst h
          have := sliceBounds_ok hC (isS := true) (w := w) (cap := if op = true then c + ex else c) hF hl hn (.inr hmx) h2 h1 (by split <;> omega)
          refine okv_same hR (x := .slice (some ⟨B, k + offV mm l o ei.size, none⟩) (n - l) (mm - l)) ?_ (by simp [ren, he])
          rw [hst]
          simp only [Instr.slice, Sem.run_bind, run_underlying hu w, Result.andThen_ok, this, hei.size w, Sem.run_pure, ifmap]
  · rename_i n e b o hd
    split at h
    · simp only [Option.bind_eq_some_iff, Option.some.injEq] at h
      obtain ⟨ei, hei, hh, hn, _, h1, _, h2, rfl⟩ := h
      have hei := tiV_ok hC hei
      have h1 := leO_some h1
      have h2 := leO_some h2
      simp only [ren, Option.map_eq_some_iff] at hX
      obtain ⟨⟨B, k, ex⟩, he, rfl⟩ := hX
      have := sliceBounds_ok hC (isS := false) (w := w) hF hl hn (.inl ⟨rfl, rfl⟩) h2 h1 (Nat.le_refl _)
      simp only [Option.map_none] at this
      refine okv_same hR (x := .slice (some ⟨B, k + offV n l o ei.size, none⟩) (hh - l) (n - l)) ?_ (by simp [ren, he])
      simp only [Instr.sliceAt, Sem.run_bind, run_underlying (hT.arr hd) w, Result.andThen_ok, Instr.sureAddr, Sem.run_pure, Option.map_none, this, hei.size w]
      rw [ifadd]
    · simp at h
  · simp at h
end
end Go.Proofs.YtaahfdjobpbpjaaGreatDoor
