/- Vl: the machine's operations, against the world's. By this project. -/
import Derived.Test.YtaahfdjobpbpjaaGreatDoorVk
set_option linter.unusedVariables false
set_option linter.unusedSectionVars false
set_option linter.unusedSimpArgs false
namespace Go.Proofs.YtaahfdjobpbpjaaGreatDoor
open Go.RowKit Go.Extern.Stop

/-- The variables of packages stand for themselves. -/
def GlE (E : Env) : Prop := ∀ g, g < gMax → E g = some (g, 0, 0)
/-- What the machine's calls come to in the world. -/
def CallOk (P : Program) (call : CallF) : Prop := ∀ f args hp r hp', call f args hp = some (r, hp') → Ext hp hp' ∧ callT P f = true ∧
  ∀ E w vargs, Rep E hp.t w → GlE E → renL E args = some vargs → Free E hp.nx hp'.nx → Calls P f vargs.toArray w (CallRes E hp w r hp')
section
variable {P : Program} {C : Cx} (hC : COk P C) {call : CallF} (hcall : CallOk P call) {E : Env} {hp : Hp} {w : World} {fr : Tr V} {a : Act}
theorem upon_v {s : Sem Value} {v : V} {hp' : Hp} (h : OkV P E hp w s v hp') : hp.nx ≤ hp'.nx ∧ (Free E hp.nx hp'.nx → Upon P E hp w (.v v) hp' ((do pure (.value (← s)) : Sem Next).run P w)) :=
  ⟨h.1, fun hf => by
    obtain ⟨x, w', E', h1, h2, h3⟩ := h.2 hf
    rw [Sem.run_bind, h1]
    exact ⟨v, E', rfl, h2, h3⟩⟩
theorem upon_u {s : Sem Unit} {hp' : Hp} (h : OkU P E hp w s hp') : hp.nx ≤ hp'.nx ∧ (Free E hp.nx hp'.nx → Upon P E hp w (.v undV) hp' ((do s; pure .skip : Sem Next).run P w)) :=
  ⟨h.1, fun hf => by
    obtain ⟨w', E', h1, h3⟩ := h.2 hf
    rw [Sem.run_bind, h1]
    exact ⟨E', rfl, h3⟩⟩
theorem ptrV_some {v : V} {p : Nat × Nat} {X : Value} (h : ptrV v = some p) (hX : ren E v = some X) : ∃ b k ex, E p.1 = some (b, k, ex) ∧ X = .pointer (some ⟨b, k + p.2, none⟩) := by
  cases v <;> simp [ptrV] at h
  subst h
  simp only [ren, Option.map_eq_some_iff] at hX
  obtain ⟨⟨b, k, ex⟩, he, rfl⟩ := hX
  exact ⟨b, k, ex, he, rfl⟩
theorem ret1_some {v : Option V} {r : VR} {hp' : Hp} (h : ret1 hp v = some (r, hp')) : ∃ x, v = some x ∧ r = .v x ∧ hp' = hp := by
  simp only [ret1, Option.bind_eq_some_iff, Option.some.injEq, Prod.mk.injEq] at h
  obtain ⟨x, h1, h2, h3⟩ := h
  exact ⟨x, h1, h2.symm, h3.symm⟩
theorem ret2_some {v : Option (V × Hp)} {r : VR} {hp' : Hp} (h : ret2 v = some (r, hp')) : ∃ x, v = some (x, hp') ∧ r = .v x := by
  simp only [ret2, Option.bind_eq_some_iff, Option.some.injEq, Prod.mk.injEq] at h
  obtain ⟨⟨x, hp1⟩, h1, h2, h3⟩ := h
  simp only at h2 h3
  subst h3
  exact ⟨x, h1, h2.symm⟩
theorem ret0_some {v : Option Hp} {r : VR} {hp' : Hp} (h : ret0 v = some (r, hp')) : v = some hp' ∧ r = .v undV := by
  simp only [ret0, Option.bind_eq_some_iff, Option.some.injEq, Prod.mk.injEq] at h
  obtain ⟨x, h1, h2, h3⟩ := h
  subst h3
  exact ⟨h1, h2.symm⟩
theorem natV_some {v : V} {n : Nat} (h : (intV? v).bind asNat = some n) : ∃ k, v = .i k (n : Int) := by
  simp only [Option.bind_eq_some_iff] at h
  obtain ⟨z, h1, h2⟩ := h
  have := asNat_some h2
  subst this
  cases v <;> simp [intV?] at h1
  subst h1
  exact ⟨_, rfl⟩
/-- A row of new cells. -/
theorem newcells_ok {cs : List V} {t : TypeId} {L : List Value} {h' : Nat} {hp' : Hp} (hR : Rep E hp.t w) (hn : hp.new (.cells cs t none false) = some (h', hp')) (hL : renL E cs = some L) (h1 : L.all (·.oneCell') = true) :
    hp.nx ≤ hp'.nx ∧ (Free E hp.nx hp'.nx → ∃ E', ren E' (.p (some (h', 0))) = some (.pointer (some ⟨w.heap.size, 0, none⟩)) ∧ Out E hp w E' hp' (w.alloc (.cells L.toArray t))) := by
  have hn' := new_some hn
  refine ⟨by omega, fun hf => ?_⟩
  obtain ⟨q1, rfl, q2, q3⟩ := out_new (E := E) (w := w) (k := 0) (x := .cells L.toArray t) hn hR hf ⟨[], L, [], (0, 0), hL, h1, rfl, by simp, fun _ => ⟨rfl, rfl⟩, fun s hs => by simp at hs, fun _ => rfl, .inl rfl⟩
  exact ⟨_, by simp [ren, q3], q2⟩
include hC
theorem lenV_ok {ty t : TypeId} {ts : Array TypeId} {ti : TI} {x : V} {X : Value} {n : Nat} (hR : Rep E hp.t w) (hts : ts[0]? = some t) (hti : tiV C t = some ti) (h : lenV hp ti.d x = some n) (hX : ren E x = some X) : (Builtin.len_ ts ty #[X]).run P w = .ok (.int .i64 n) w := by
  have hT := tiV_ok hC hti
  unfold lenV at h
  simp only [lenF_eq] at h
  split at h
  · rename_i s hd
    simp only [Option.some.injEq] at h
    simp only [ren, Option.some.injEq] at hX
    subst h hX
    have hs : (⟨s.toArray⟩ : ByteArray).size = s.length := by simp [ByteArray.size]
    simp [Builtin.len_, hts, run_underlying (hT.str hd) w, goInt, hs]
  · rename_i e A n' c op hd
    simp only [Option.some.injEq] at h
    subst h
    cases A with
    | none =>
      simp only [ren, Option.some.injEq] at hX
      subst hX
      simp [Builtin.len_, hts, run_underlying (hT.sl hd) w, goInt]
    | some A =>
      simp only [ren, Option.map_eq_some_iff] at hX
      obtain ⟨e, _, rfl⟩ := hX
      simp [Builtin.len_, hts, run_underlying (hT.sl hd) w, goInt]
  · rename_i n' e hd
    simp only [Option.some.injEq] at h
    subst h
    cases X <;> simp [Builtin.len_, hts, run_underlying (hT.arr hd) w, goInt]
  · rename_i k e hd
    simp only [Option.some.injEq] at h
    simp only [ren, Option.some.injEq] at hX
    subst h hX
    simp [Builtin.len_, hts, run_underlying (hT.map hd) w, goInt]
  · rename_i k e r hd
    split at h
    · rename_i es clock hg
      simp only [Option.some.injEq] at h
      subst h
      obtain ⟨b, l, g1, g2, g3⟩ := rep_map hR hg
      simp only [ren, g1, Option.map_some, Option.some.injEq] at hX
      subst hX
      simp [Builtin.len_, hts, run_underlying (hT.map hd) w, goInt, MapKept.run_getObj_map g3, renEs_len g2]
    · simp at h
  · simp at h
omit hC in
theorem vmm_max {x y v : V} {X Y : Value} (h : vmm true x y = some v) (hX : ren E x = some X) (hY : ren E y = some Y) : ∃ Z, ren E v = some Z ∧ Builtin.max2 X Y = pure Z := by
  unfold vmm at h
  split at h
  · simp only [Option.some.injEq] at h
    simp only [ren, Option.some.injEq] at hX hY
    subst h hX hY
    refine ⟨_, rfl, ?_⟩
    rename_i k a k' b
    simp only [Builtin.max2, intLt_iff]
    by_cases hlt : a < b <;> simp [hlt]
  · simp at h
omit hC in
theorem vmm_min {x y v : V} {X Y : Value} (h : vmm false x y = some v) (hX : ren E x = some X) (hY : ren E y = some Y) : ∃ Z, ren E v = some Z ∧ Builtin.min2 X Y = pure Z := by
  unfold vmm at h
  split at h
  · simp only [Option.some.injEq] at h
    simp only [ren, Option.some.injEq] at hX hY
    subst h hX hY
    refine ⟨_, rfl, ?_⟩
    rename_i k a k' b
    simp only [Builtin.min2, intLt_iff]
    by_cases hlt : b < a <;> simp [hlt]
  · simp at h
omit hC in
theorem foldO_ok {f : V → V → Option V} {g : Value → Value → Sem Value} (hfg : ∀ x y v X Y, f x y = some v → ren E x = some X → ren E y = some Y → ∃ Z, ren E v = some Z ∧ g X Y = pure Z) : ∀ (l : List V) (b v : V) (L : List Value) (B : Value), foldO f l b = some v → renL E l = some L → ren E b = some B →
    ∃ Z, ren E v = some Z ∧ ∀ w, (L.foldlM g B).run P w = .ok Z w
  | [], b, v, L, B, h, hL, hB => by
    simp [foldO] at h
    simp [renL] at hL
    subst h hL
    exact ⟨B, hB, fun w => rfl⟩
  | x :: r, b, v, L, B, h, hL, hB => by
    obtain ⟨X, t, h1, h2, rfl⟩ := renL_cons hL
    simp only [foldO, Option.bind_eq_some_iff] at h
    obtain ⟨c, hc, h⟩ := h
    obtain ⟨Z, g1, g2⟩ := hfg _ _ _ _ _ hc hB h1
    obtain ⟨Y, k1, k2⟩ := foldO_ok hfg r c v t Z h h2 g1
    exact ⟨Y, k1, fun w => by rw [List.foldlM_cons, g2, Sem.run_bind]; simp [k2]⟩
theorem vbuiltin_ok {b : Builtin} {ts : Array TypeId} {ty : TypeId} {cs : Array Bool} {args : List V} {vargs : List Value} {r : VR} {hp' : Hp} (hR : Rep E hp.t w) (h : vbuiltin C hp b ts.toList args = some (r, hp')) (hA : renL E args = some vargs) :
    hp.nx ≤ hp'.nx ∧ (Free E hp.nx hp'.nx → Upon P E hp w r hp' ((builtin b ts ty cs vargs.toArray).run P w)) := by
  unfold vbuiltin at h
  split at h
  · rename_i tS tX s x hts
    split at h
    · rename_i ht
      obtain ⟨v, h1, rfl⟩ := ret2_some h
      obtain ⟨S, t, k1, k2, rfl⟩ := renL_cons hA
      obtain ⟨X, t', k3, k4, rfl⟩ := renL_cons k2
      simp only [renL, Option.some.injEq] at k4
      subst k4
      have : ts = #[tS, tX] := by apply Array.ext'; simpa using hts
      subst this
      exact upon_v (vappend_ok hC (ty := ty) hR ht h1 k1 k3)
    · simp at h
  · rename_i t rest x hts
    simp only [Option.bind_eq_some_iff] at h
    obtain ⟨ti, hti, h⟩ := h
    obtain ⟨v, h1, rfl, rfl⟩ := ret1_some h
    simp only [Option.bind_eq_some_iff, Option.some.injEq] at h1
    obtain ⟨n, hn, rfl⟩ := h1
    obtain ⟨X, t', k1, k2, rfl⟩ := renL_cons hA
    simp only [renL, Option.some.injEq] at k2
    subst k2
    have h0 : ts[0]? = some t := by rw [← Array.getElem?_toList, hts]; rfl
    exact upon_v (okv_same hR (lenV_ok hC (ty := ty) hR h0 hti hn k1) rfl)
  · rename_i t rest d x hts
    obtain ⟨v, h1, rfl⟩ := ret2_some h
    obtain ⟨D, t', k1, k2, rfl⟩ := renL_cons hA
    obtain ⟨X, t'', k3, k4, rfl⟩ := renL_cons k2
    simp only [renL, Option.some.injEq] at k4
    subst k4
    have h0 : ts[0]? = some t := by rw [← Array.getElem?_toList, hts]; rfl
    exact upon_v (vcopy_ok hC (ty := ty) hR h0 h1 k1 k3)
  · rename_i t rest m k hts
    simp only [Option.bind_eq_some_iff, Option.some.injEq, Prod.mk.injEq] at h
    obtain ⟨hp1, h1, rfl, rfl⟩ := h
    obtain ⟨M, t', k1, k2, rfl⟩ := renL_cons hA
    obtain ⟨K, t'', k3, k4, rfl⟩ := renL_cons k2
    simp only [renL, Option.some.injEq] at k4
    subst k4
    have h0 : ts[0]? = some t := by rw [← Array.getElem?_toList, hts]; rfl
    exact upon_v (vdelete_ok hC (ty := ty) hR h0 h1 k1 k3)
  · rename_i x rest
    obtain ⟨v, h1, rfl, rfl⟩ := ret1_some h
    obtain ⟨X, t', k1, k2, rfl⟩ := renL_cons hA
    obtain ⟨Z, g1, g2⟩ := foldO_ok (P := P) (fun x y v X Y => vmm_max) rest x v t' X h1 k2 k1
    exact upon_v (okv_same hR (by simp only [Builtin.max_]; exact g2 w) g1)
  · rename_i x rest
    obtain ⟨v, h1, rfl, rfl⟩ := ret1_some h
    obtain ⟨X, t', k1, k2, rfl⟩ := renL_cons hA
    obtain ⟨Z, g1, g2⟩ := foldO_ok (P := P) (fun x y v X Y => vmm_min) rest x v t' X h1 k2 k1
    exact upon_v (okv_same hR (by simp only [Builtin.min_]; exact g2 w) g1)
  · simp at h
include hcall
theorem vcallF_ok {f : Nat} {args : List V} {vargs : List Value} {r : VR} {hp' : Hp} (hR : Rep E hp.t w) (hG : GlE E) (h : call f args hp = some (r, hp')) (hA : renL E args = some vargs) :
    hp.nx ≤ hp'.nx ∧ (Free E hp.nx hp'.nx → Upon P E hp w r hp' ((callFunc f vargs.toArray).run P w)) := by
  obtain ⟨h1, h2, h3⟩ := hcall _ _ _ _ _ h
  refine ⟨h1.nx, fun hf => ?_⟩
  rw [run_callT h2]
  exact ⟨rfl, h3 E w vargs hR hG hA hf⟩
omit hC hcall in
theorem vop_pure {o : Op} (h : isPure o = true) : vop C call fr hp o = ret1 hp (vpure C fr o) := by cases o <;> first | rfl | (simp [isPure] at h; done)
theorem vop_ok {o : Op} {r : VR} {hp' : Hp} (hR : Rep E hp.t w) (hF : FrR E fr a) (h : vop C call fr hp o = some (r, hp')) (dst : Option Tmp) (ty : TypeId) (ps : String) (af : Array Edge) (gd : Option (Nat × Bool)) :
    hp.nx ≤ hp'.nx ∧ (Free E hp.nx hp'.nx → Upon P E hp w r hp' ((execOp a.eval ⟨dst, o, ty, ps, af, gd⟩).run P w)) := by
  have hG : GlE E := hF.gl
  by_cases hpu : isPure o = true
  · rw [vop_pure hpu] at h
    obtain ⟨v, h1, rfl, rfl⟩ := ret1_some h
    obtain ⟨x, k1, k2⟩ := vpure_ok hC hF h1 dst ty ps af gd
    refine ⟨Nat.le_refl _, fun _ => ?_⟩
    rw [k2 w]
    exact ⟨v, E, rfl, k1, out_refl hR⟩
  · unfold vop at h
    split at h
    iterate 15 (· exact (hpu rfl).elim)
    · rename_i t
      unfold oAlloc at h
      simp only [Option.bind_eq_some_iff] at h
      obtain ⟨ti, hti, z, hz, zc, hzc, h⟩ := h
      obtain ⟨v, h1, rfl⟩ := ret2_some h
      simp only [Option.bind_eq_some_iff, Option.some.injEq, Prod.mk.injEq] at h1
      obtain ⟨⟨h', hp1⟩, hn, rfl, rfl⟩ := h1
      have hT := tiV_ok hC hti
      obtain ⟨zv, z1, z2⟩ := hT.zero hz w
      obtain ⟨L, g1, g2, g3⟩ := ren_cells (z2 E) hzc
      obtain ⟨q1, q2⟩ := newcells_ok hR hn g1 g2
      refine upon_v (s := Instr.alloc t true (.tuple #[])) ⟨q1, fun hf => ?_⟩
      obtain ⟨E', e1, e2⟩ := q2 hf
      exact ⟨_, _, E', by simp [Instr.alloc, z1, newVar, newRow, g3], e1, e2⟩
    · rename_i t x
      unfold oBox at h
      simp only [Option.bind_eq_some_iff] at h
      obtain ⟨v, hv, vc, hvc, h⟩ := h
      obtain ⟨u, h1, rfl⟩ := ret2_some h
      simp only [Option.bind_eq_some_iff, Option.some.injEq, Prod.mk.injEq] at h1
      obtain ⟨⟨h', hp1⟩, hn, rfl, rfl⟩ := h1
      obtain ⟨L, g1, g2, g3⟩ := ren_cells (hF.ev hv) hvc
      obtain ⟨q1, q2⟩ := newcells_ok hR hn g1 g2
      refine upon_v (s := Instr.box t (a.eval x)) ⟨q1, fun hf => ?_⟩
      obtain ⟨E', e1, e2⟩ := q2 hf
      exact ⟨_, _, E', by simp [Instr.box, newVar, newRow, g3], e1, e2⟩
    · rename_i t len parts
      obtain ⟨u, h1, rfl⟩ := ret2_some h
      have := vbuildS_ok hC hR hF h1
      have e : (parts.toList.map fun x => (x.1, a.eval x.2)).toArray = parts.map fun (x : Nat × Operand) => (x.1, a.eval x.2) := by apply Array.ext'; simp
      rw [e] at this
      exact upon_v this
    · rename_i t x
      unfold oLoad at h
      simp only [Option.bind_eq_some_iff] at h
      obtain ⟨p, ⟨xv, hx, hp1⟩, cs, hcs, h⟩ := h
      obtain ⟨v, h1, rfl, rfl⟩ := ret1_some h
      obtain ⟨b, k, ex, he, hX⟩ := ptrV_some hp1 (hF.ev hx)
      obtain ⟨b', k', ex', X, g1, g2, g3⟩ := load_ok hC hR hcs h1
      rw [he] at g1
      simp only [Option.some.injEq, Prod.mk.injEq] at g1
      obtain ⟨rfl, rfl, rfl⟩ := g1
      exact upon_v (s := Instr.loadAt t (a.eval x)) (okv_same hR (by rw [hX]; simp only [Instr.loadAt, Instr.sureAddr, Sem.run_bind, Sem.run_pure, Result.andThen_ok]; exact g3) g2)
    · rename_i t x y
      unfold oStore at h
      simp only [Option.bind_eq_some_iff] at h
      obtain ⟨p, ⟨xv, hx, hp1⟩, v, hv, vc, hvc, ti, hti, h⟩ := h
      split at h
      · rename_i hsz
        have hsz := Nat.eq_of_beq_eq_true hsz
        obtain ⟨h1, rfl⟩ := ret0_some h
        obtain ⟨b, k, ex, he, hX⟩ := ptrV_some hp1 (hF.ev hx)
        obtain ⟨L, g1, g2, g3⟩ := ren_cells (hF.ev hv) hvc
        obtain ⟨q1, q2, q3, q4⟩ := storeV_ok hR h1 g1 g2 he
        have hT := tiV_ok hC hti
        refine upon_u (s := Instr.storeAt t (a.eval x) (a.eval y)) ⟨by omega, fun _ => ⟨_, E, ?_, q4⟩⟩
        have hst := run_storeCells_cells (P := P) b (k + p.2) L 0 w (by simpa using q2) (by simpa using q3) (fun u hu => List.all_eq_true.1 g2 u hu)
        simp only [Nat.add_zero] at hst
        have hlen : L.length = ti.size := by rw [renL_len g1, ← lenF_eq, hsz]
        rw [hX]
        simp only [Instr.storeAt, Instr.sureAddr, Sem.run_bind, Sem.run_pure, Result.andThen_ok, storeVar, hT.size w, g3, List.size_toArray, hlen, ne_eq, not_true_eq_false, if_false]
        exact hst
      · simp at h
    · rename_i op t x y t'
      unfold oBin at h
      simp only [Option.bind_eq_some_iff] at h
      obtain ⟨p, hp1, q, hq, h⟩ := h
      obtain ⟨v, h1, rfl, rfl⟩ := ret1_some h
      obtain ⟨Z, g1, g2⟩ := vbin_ok hC hR h1 (hF.ev hp1) (hF.ev hq)
      exact upon_v (s := do eqGuard op t x y (a.eval x) (a.eval y); binOp op t (a.eval x) (a.eval y)) (okv_same hR g2 g1)
    · rename_i s t x
      unfold oConv at h
      simp only [Option.bind_eq_some_iff] at h
      obtain ⟨p, hp1, h⟩ := h
      obtain ⟨v, h1, rfl⟩ := ret2_some h
      exact upon_v (vconv_ok hC hR h1 (hF.ev hp1))
    · rename_i t rr
      unfold oMkMap at h
      simp only [Option.bind_eq_some_iff] at h
      obtain ⟨_, hr, h⟩ := h
      obtain ⟨v, h1, rfl⟩ := ret2_some h
      simp only [Option.bind_eq_some_iff, Option.some.injEq, Prod.mk.injEq] at h1
      obtain ⟨⟨h', hp1⟩, hn, rfl, rfl⟩ := h1
      have hn' := new_some hn
      refine upon_v (s := Instr.makeMap t (rr.map a.eval)) ⟨by simp only; omega, fun hf => ?_⟩
      obtain ⟨q1, rfl, q2, q3⟩ := out_new (E := E) (w := w) (o := .map [] 0) (k := 0) (x := .map #[] 0) hn hR hf ⟨rfl, [], rfl, rfl⟩
      refine ⟨.map (some w.heap.size), _, _, ?_, by simp [ren, q3], q2⟩
      cases rr with
      | none => simp [Instr.makeMap, newObj]; rfl
      | some x =>
        simp only [Option.bind_eq_some_iff] at hr
        obtain ⟨q, hq, n, hn2, ti, hti, hr⟩ := hr
        split at hr
        · rename_i k e hd
          cases q <;> simp [intV?] at hn2
          have := hF.ev hq
          simp only [ren, Option.some.injEq] at this
          simp [Instr.makeMap, newObj, ← this, run_underlying ((tiV_ok hC hti).map hd) w, asInt, asIntOf]
          rfl
        · simp at hr
    · rename_i t l c
      unfold oMkSl at h
      simp only [Option.bind_eq_some_iff] at h
      obtain ⟨ln, ⟨lv, hl, hln⟩, cn, ⟨cv, hcv, hcn⟩, h⟩ := h
      obtain ⟨v, h1, rfl⟩ := ret2_some h
      obtain ⟨k1, rfl⟩ := natV_some hln
      obtain ⟨k2, rfl⟩ := natV_some hcn
      have e1 := hF.ev hl
      have e2 := hF.ev hcv
      simp only [ren, Option.some.injEq] at e1 e2
      have := upon_v (vmakeS_ok hC (k1 := k1) (k2 := k2) hR h1)
      rw [e1, e2] at this
      exact this
    · rename_i t x lo hi mx
      unfold oSlice at h
      simp only [Option.bind_eq_some_iff] at h
      obtain ⟨p, hp1, h⟩ := h
      split at h
      · rename_i y h1
        simp only [Option.some.injEq, Prod.mk.injEq] at h
        obtain ⟨rfl, rfl⟩ := h
        exact upon_v (vslice_ok hC hR hF h1 (hF.ev hp1))
      · obtain ⟨v, h1, rfl⟩ := ret2_some h
        exact upon_v (vslEnd_ok hC hR hF h1 (hF.ev hp1))
    · rename_i t x k ok
      unfold oLookup at h
      simp only [Option.bind_eq_some_iff] at h
      obtain ⟨p, hp1, q, hq, h⟩ := h
      obtain ⟨v, h1, rfl, rfl⟩ := ret1_some h
      exact upon_v (vlookup_ok hC hR h1 (hF.ev hp1) (hF.ev hq))
    · rename_i t m k x
      unfold oMapup at h
      simp only [Option.bind_eq_some_iff] at h
      obtain ⟨p, hp1, q, hq, u, hu, h⟩ := h
      obtain ⟨h1, rfl⟩ := ret0_some h
      exact upon_u (vmapup_ok hC hR h1 (hF.ev hp1) (hF.ev hq) (hF.ev hu))
    · rename_i t m k x
      unfold oMapup at h
      simp only [Option.bind_eq_some_iff] at h
      obtain ⟨p, hp1, q, hq, u, hu, h⟩ := h
      obtain ⟨h1, rfl⟩ := ret0_some h
      exact upon_u (vmapup_ok hC hR h1 (hF.ev hp1) (hF.ev hq) (hF.ev hu))
    · rename_i t m k
      unfold oEntry at h
      simp only [Option.bind_eq_some_iff] at h
      obtain ⟨p, hp1, q, hq, h⟩ := h
      obtain ⟨v, h1, rfl⟩ := ret2_some h
      exact upon_v (vmapentry_ok hC hR h1 (hF.ev hp1) (hF.ev hq))
    · rename_i t m st x
      unfold oEntrySt at h
      simp only [Option.bind_eq_some_iff] at h
      obtain ⟨p, hp1, q, hq, u, hu, h⟩ := h
      obtain ⟨h1, rfl⟩ := ret0_some h
      exact upon_u (ventryst_ok hR h1 (hF.ev hp1) (hF.ev hq) (hF.ev hu))
    · rename_i t x
      unfold oRange at h
      simp only [Option.bind_eq_some_iff] at h
      obtain ⟨ti, hti, p, hp1, h⟩ := h
      obtain ⟨v, rfl⟩ : ∃ v, r = .v v := by
        split at h
        · obtain ⟨v, _, rfl⟩ := ret2_some h; exact ⟨v, rfl⟩
        · split at h
          · obtain ⟨v, _, rfl⟩ := ret2_some h; exact ⟨v, rfl⟩
          · simp at h
        · simp at h
      exact upon_v (vrange_ok hC hR hti h (hF.ev hp1))
    · rename_i it isStr
      unfold oNext at h
      split at h
      · simp at h
      · simp only [Option.bind_eq_some_iff] at h
        obtain ⟨p, hp1, h⟩ := h
        obtain ⟨v, h1, rfl⟩ := ret2_some h
        exact upon_v (vnext_ok hR h1 (hF.ev hp1))
    · rename_i it
      unfold oIter at h
      simp only [Option.bind_eq_some_iff] at h
      obtain ⟨p, hp1, h⟩ := h
      obtain ⟨v, h1, rfl, rfl⟩ := ret1_some h
      exact upon_v (ventry_ok hR h1 (hF.ev hp1))
    · rename_i x
      unfold oPanic at h
      simp only [Option.bind_eq_some_iff] at h
      obtain ⟨p, hp1, h⟩ := h
      split at h
      · simp only [Option.some.injEq, Prod.mk.injEq] at h
        obtain ⟨rfl, rfl⟩ := h
        have e := hF.ev hp1
        have e0 := e
        simp only [ren, Option.map_eq_some_iff] at e
        obtain ⟨Y, _, hY⟩ := e
        refine ⟨Nat.le_refl _, fun _ => ?_⟩
        simp only [execOp, ← hY]
        exact ⟨_, E, rfl, by rw [e0, hY], out_refl hR⟩
      · simp at h
    · rename_i c
      unfold oCall at h
      split at h
      · rename_i b hb
        simp only [Option.bind_eq_some_iff] at h
        obtain ⟨args, hargs, h⟩ := h
        have hA := hF.evs hargs
        obtain ⟨q1, q2⟩ := vbuiltin_ok hC (ty := ty) (cs := c.args.map fun | .const _ => true | _ => false) hR h hA
        refine ⟨q1, fun hf => ?_⟩
        have := q2 hf
        simp only [execOp, Sem.run_bind, resolve, hb, Sem.run_pure, Result.andThen_ok, invoke]
        have e : c.args.map a.eval = (c.args.toList.map a.eval).toArray := by apply Array.ext'; simp
        rw [e]
        exact this
      · rename_i f hb
        simp only [Option.bind_eq_some_iff] at h
        obtain ⟨fv, hfv, args, hargs, h⟩ := h
        have hA := hF.evs hargs
        have e1 := hF.ev hfv
        split at h
        · rename_i ff first cap
          simp only [ren, Option.bind_eq_some_iff, Option.map_eq_some_iff] at e1
          obtain ⟨fl, hfl, cl, hcl, e1⟩ := e1
          obtain ⟨q1, q2⟩ := vcallF_ok hC hcall hR hG h ((by rw [appF_eq, appF_eq, ← List.append_assoc]; exact renL_app (renL_app hfl hA) hcl))
          refine ⟨q1, fun hf => ?_⟩
          have := q2 hf
          simp only [execOp, Sem.run_bind, resolve, hb, ← e1, Deferred.ofValue, Sem.run_pure, Result.andThen_ok, invoke]
          have e : fl.toArray ++ c.args.map a.eval ++ cl.toArray = (fl ++ c.args.toList.map a.eval ++ cl).toArray := by apply Array.ext'; simp
          rw [e]
          exact this
        · simp at h
      · rename_i rr name hb
        simp only [Option.bind_eq_some_iff] at h
        obtain ⟨rv, hrv, args, hargs, h⟩ := h
        have hA := hF.evs hargs
        have e1 := hF.ev hrv
        split at h
        · rename_i t v
          simp only [Option.bind_eq_some_iff] at h
          obtain ⟨f, hf, h⟩ := h
          simp only [ren, Option.map_eq_some_iff] at e1
          obtain ⟨X, hX, e1⟩ := e1
          obtain ⟨q1, q2⟩ := vcallF_ok hC hcall hR hG h (vargs := X :: c.args.toList.map a.eval) (by simp [renL, hX, hA])
          refine ⟨q1, fun hf' => ?_⟩
          have := q2 hf'
          simp only [execOp, Sem.run_bind, resolve, hb, ← e1, Sem.run_pure, Result.andThen_ok, invoke]
          have e0 : (#[Value.iface t X] ++ c.args.map a.eval)[0]? = some (.iface t X) := by
            rw [Array.getElem?_append_left (by simp)]; rfl
          simp only [e0, callMethod, Sem.run_bind]
          have hM := hC.M t name f hf X w
          simp only [program, Sem.run, Result.andThen_ok, hM]
          have e : #[X] ++ (#[Value.iface t X] ++ c.args.map a.eval).extract 1 (#[Value.iface t X] ++ c.args.map a.eval).size = (X :: c.args.toList.map a.eval).toArray := by
            apply Array.ext'; simp [List.take_of_length_le]
          first
          | (rw [e]; exact this)
          | (simp only [e]; exact this)
        · simp at h
    · simp at h
end
end Go.Proofs.YtaahfdjobpbpjaaGreatDoor
