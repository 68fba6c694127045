/- Vq: the machine's calls, deferred functions, recovered panics, against the world's. By this project. -/
import Derived.Test.YtaahfdjobpbpjaaGreatDoorVc
set_option linter.unusedVariables false
set_option linter.unusedSectionVars false
set_option linter.unusedSimpArgs false
namespace Go.Proofs.YtaahfdjobpbpjaaGreatDoor
open Go.RowKit Go.Extern.Stop

def FMR (E : Env) : FM → FrameMode → Prop
  | .ret, .returning => True
  | .pan x r, .panicking ch => ∃ X, ren E x = some X ∧ ch = [{ v := X, recovered := r }]
  | _, _ => False
theorem FMR.mono {E E' : Env} (h : E.le E') {u : FM} {m : FrameMode} (k : FMR E u m) : FMR E' u m := by
  cases u <;> cases m <;> first | exact k.elim | trivial | (obtain ⟨X, h1, h2⟩ := k; exact ⟨X, ren_mono h h1, h2⟩)
theorem FMR.settle {E : Env} {u : FM} {m : FrameMode} (k : FMR E u m) : FMR E (settleV u) (settle m) := by
  cases u with
  | ret => cases m <;> first | exact k.elim | trivial
  | pan x r =>
    cases m with
    | panicking ch =>
      obtain ⟨X, h1, rfl⟩ := k
      cases r with
      | false => exact ⟨X, h1, rfl⟩
      | true => exact trivial
    | _ => exact k.elim
theorem FMR.run {E : Env} {u : FM} {m : FrameMode} (k : FMR E u m) : m ≠ .run := fun e => by
  subst e; cases u <;> exact k.elim
section
variable {P : Program} {C : Cx} (hC : COk P C) {call : CallF} (hcall : CallOk P call)
include hC
theorem resV_ok {E : Env} {fr : Tr V} {a : Act} {hp : Hp} {w : World} (hF : FrR E fr a) (hR : Rep E hp.t w) : ∀ (rs : List ResultVar) (vs : List V), resV C fr hp rs = some vs → ∃ xs, renL E vs = some xs ∧ (rs.mapM (resF a.tmps)).run P w = .ok xs w
  | [], vs, h => by
    simp only [resV, Option.some.injEq] at h
    subst h
    exact ⟨[], rfl, rfl⟩
  | .tmp t :: r, vs, h => by
    simp only [resV, Option.bind_eq_some_iff, Option.some.injEq] at h
    obtain ⟨v, hv, us, hus, rfl⟩ := h
    obtain ⟨xs, h1, h2⟩ := resV_ok hF hR r us hus
    obtain ⟨x, h3, h4⟩ := hF.look t v hv
    refine ⟨x :: xs, by simp [renL, h4, h1], ?_⟩
    have hg : a.tmps.getD t undef = x := by rw [Array.getD_eq_getD_getElem?, h3]; rfl
    rw [List.mapM_cons]
    simp only [resF, hg, Sem.run_bind, Sem.run_pure, Result.andThen_ok, h2]
  | .cell q t :: r, vs, h => by
    simp only [resV, Option.bind_eq_some_iff, Option.some.injEq] at h
    obtain ⟨p, ⟨pv, hpv, hp1⟩, cs, hcs, v, hv, us, hus, rfl⟩ := h
    obtain ⟨xs, h1, h2⟩ := resV_ok hF hR r us hus
    obtain ⟨y, h3, h4⟩ := hF.look q pv hpv
    obtain ⟨b, k, ex, he, hX⟩ := ptrV_some hp1 h4
    obtain ⟨b', k', ex', x, g1, g2, g3⟩ := load_ok hC hR hcs hv
    rw [he] at g1
    simp only [Option.some.injEq, Prod.mk.injEq] at g1
    obtain ⟨rfl, rfl, rfl⟩ := g1
    refine ⟨x :: xs, by simp [renL, g2, h1], ?_⟩
    have hg : a.tmps.getD q undef = y := by rw [Array.getD_eq_getD_getElem?, h3]; rfl
    rw [List.mapM_cons]
    simp only [resF, hg, hX, asAddr, Sem.run_bind, Sem.run_pure, Result.andThen_ok, g3, h2]
theorem endV_ok {E : Env} {fn : Func} {fr : Tr V} {a : Act} {hp : Hp} {w : World} {v : V} (hF : FrR E fr a) (hR : Rep E hp.t w) (h : endV C fn fr hp = some v) : ∃ x, ren E v = some x ∧ (results fn a.tmps).run P w = .ok x w := by
  simp only [endV, Option.bind_eq_some_iff, Option.some.injEq] at h
  obtain ⟨vs, hvs, rfl⟩ := h
  obtain ⟨xs, h1, h2⟩ := resV_ok hC hF hR _ _ hvs
  have h3 : (fn.results.mapM (resF a.tmps)).run P w = .ok xs.toArray w := by
    rw [Array.mapM_eq_mapM_toList]
    rw [← bind_pure_comp, Sem.run_bind, h2]
    rfl
  rw [results_eq, Sem.run_bind, h3]
  simp only [Result.andThen_ok, Sem.run_pure]
  match vs, xs, h1 with
  | [], xs, h1 =>
    simp only [renL, Option.some.injEq] at h1
    subst h1
    exact ⟨_, rfl, rfl⟩
  | [v], xs, h1 =>
    obtain ⟨x, t, k1, k2, rfl⟩ := renL_cons h1
    simp only [renL, Option.some.injEq] at k2
    subst k2
    exact ⟨x, k1, by simp⟩
  | u :: v :: r, xs, h1 =>
    have hl := renL_len h1
    refine ⟨.tuple xs.toArray, by simp [tupV, ren, h1], ?_⟩
    rw [dif_neg (by simp at hl ⊢; omega)]
omit hC in
theorem argsV_get : ∀ (vs : List V) (i : Nat) (t : Tr V) (j : Nat), i + vs.length ≤ trMax → (argsV i vs t).get j = if i ≤ j ∧ j < i + vs.length then vs[j - i]? else t.get j
  | [], i, t, j, _ => by simp only [argsV, List.length_nil, Nat.add_zero]; rw [if_neg (by omega)]
  | v :: r, i, t, j, h => by
    simp only [List.length_cons] at h
    simp only [argsV]
    rw [argsV_get r (i + 1) _ j (by omega), Tr.get_set _ _ _]
    simp only [List.length_cons]
    by_cases e : j = i
    · subst e
      rw [if_neg (by omega), if_pos rfl, if_pos (by omega)]
      simp
    · by_cases e2 : i + 1 ≤ j ∧ j < i + 1 + r.length
      · rw [if_pos e2, if_pos (by omega), show j - i = (j - (i + 1)) + 1 by omega]
        simp
      · rw [if_neg e2, if_neg e, if_neg (by omega)]
omit hC in
theorem enterV_ok {E : Env} {fn : Func} {args : List V} {vargs : List Value} {hp : Hp} {s : Sv} {w : World} (h : enterV fn args hp = some s) (hR : Rep E hp.t w) (hG : GlE E) (hA : renL E args = some vargs) :
    s.hp = hp ∧ SvR E s { tmps := vargs.toArray ++ Array.replicate (fn.ntmps - vargs.toArray.size) undef, defers := [] } w := by
  unfold enterV at h
  split at h
  · rename_i hb
    simp only [Bool.and_eq_true] at hb
    obtain ⟨⟨b1, b2⟩, b3⟩ := hb
    have b1 := Nat.le_of_ble_eq_true b1
    have b2 := Nat.le_of_ble_eq_true b2
    have b3 : fn.ntmps < trMax := by simpa [Nat.blt_eq] using b3
    simp only [Option.some.injEq] at h
    subst h
    have hl := renL_len hA
    refine ⟨rfl, ⟨⟨fun t v hv => ?_, hG⟩, hR, by simp; omega, Nat.le_of_lt b3, trivial⟩⟩
    rw [argsV_get _ _ _ _ (by unfold trMax; omega)] at hv
    split at hv
    · rename_i ht
      simp only [Nat.sub_zero] at hv
      obtain ⟨x, h1, h2⟩ := renL_get hA hv
      refine ⟨x, ?_, h2⟩
      have : t < vargs.length := (List.getElem?_eq_some_iff.1 h1).1
      rw [Array.getElem?_append_left (by simpa using this)]
      simpa using h1
    · rw [Tr.get_eq, tr_get_lf] at hv
      simp at hv
  · simp at h

/-! ### Regions of deferred functions -/
def wpListS (P : Program) (ops : Array Oper) (Q : Exit → Act → List Frame → World → Prop) : List Oper → Act → List Frame → World → Prop
  | [], a, cs, w => Q .normal a cs w
  | o :: rest, a, cs, w =>
    if Region.wanted o (yielded ops a.tmps) then
      match (execOp a.eval o).run P w with
      | .ok .recover w' =>
        match recoverD cs with
        | some (v, cs') => wpListS P ops Q rest (a.put o.dst v) cs' w'
        | none => wpListS P ops Q rest (a.put o.dst .nilIface) cs w'
      | r => o.upon P a (fun a' w' => wpListS P ops Q rest a' cs w') (fun e a' w' => Q e a' cs w') r
    else wpListS P ops Q rest (a.put o.dst undef) cs w
omit hC in
theorem wpOpsS_eq {ops : Array Oper} {Q : Exit → Act → List Frame → World → Prop} : ∀ (l : List Oper) (k : Nat), (∀ j, l[j]? = ops[k + j]?) → wpOpsS P ops Q (List.range' k l.length) = wpListS P ops Q l
  | [], k, _ => by funext a cs w; simp [wpOpsS, wpListS]
  | o :: l, k, h => by
    have h0 : ops[k]? = some o := by simpa using (h 0).symm
    have ih := wpOpsS_eq (Q := Q) l (k + 1) (fun j => by have := h (j + 1); simpa [Nat.add_assoc, Nat.add_comm 1 j] using this)
    funext a cs w
    simp only [List.length_cons, List.range'_succ, wpOpsS, h0, wpListS, ih]
    rfl
omit hC in
theorem wpS_region_lit {id : Nat} {l : List Oper} {Q : Exit → Act → List Frame → World → Prop} {a : Act} {cs : List Frame} {w : World} (h : wpListS P l.toArray Q l a cs w) : (Code.region id l.toArray false).wpS P Q a cs w := by
  refine wpS_region ?_
  have := wpOpsS_eq (P := P) (ops := l.toArray) (Q := Q) l 0 (fun j => by simp)
  rw [show List.range l.toArray.size = List.range' 0 l.length by simp [List.range_eq_range'], this]
  exact h
omit hC in
theorem wpS_mono {c : Code} {Q Q' : Exit → Act → List Frame → World → Prop} {a : Act} {cs : List Frame} {w : World} (h : c.wpS P Q a cs w) (hq : ∀ e a cs w, Q e a cs w → Q' e a cs w) : c.wpS P Q' a cs w :=
  fun b k hb hr => let ⟨e, a', cs', w', q, r⟩ := h b k hb hr; ⟨e, a', cs', w', hq _ _ _ _ q, r⟩
def inBlockS (id : Nat) (Q : Exit → Act → List Frame → World → Prop) : Exit → Act → List Frame → World → Prop
  | .exit id', a, cs, w => if id' = id then Q .normal a cs w else Q (.exit id') a cs w
  | e, a, cs, w => Q e a cs w
omit hC in
theorem wpS_block {id : Nat} {c : Code} {Q : Exit → Act → List Frame → World → Prop} {a : Act} {cs : List Frame} {w : World} (h : c.wpS P (inBlockS id Q) a cs w) : (Code.block id c).wpS P Q a cs w := by
  intro b k hb hr
  obtain ⟨e, a₁, cs₁, w₁, hq, harr⟩ := h b (.inBlock id :: k) hb hr
  cases e with
  | normal => exact ⟨.normal, a₁, cs₁, w₁, hq, .head step_block (Steps.trans harr (.one step_inBlock))⟩
  | exit id' =>
    by_cases hid : id' = id
    · simp only [inBlockS, hid, if_true] at hq
      exact ⟨.normal, a₁, cs₁, w₁, hq, .head step_block (harr k (by simp [exitTo, hid]))⟩
    · simp only [inBlockS, hid, if_false] at hq
      refine ⟨.exit id', a₁, cs₁, w₁, hq, fun k' hk => .head step_block (harr k' ?_)⟩
      have : (id == id') = false := by simp; exact fun h => hid h.symm
      simp [exitTo, this, hk]
  | goto l => exact ⟨_, a₁, cs₁, w₁, hq, fun k' hk => .head step_block (harr k' (by simp [gotoIn, hk]))⟩
  | ret => exact ⟨_, a₁, cs₁, w₁, hq, .of_steps (.one step_block) harr⟩
  | panic ch => exact ⟨_, a₁, cs₁, w₁, hq, .of_steps (.one step_block) harr⟩
  | outgrown => exact ⟨_, a₁, cs₁, w₁, hq, .of_steps (b := b) (k := k) (cs := cs₁) (e := .outgrown) (.one step_block) harr⟩
/-- What code of a deferred function comes to; c0: the frame that left. -/
def PostS (c0 : Frame) (cs : List Frame) (E : Env) (s : Sv) (w : World) (ex : Ex) (s' : Sv) (u' : FM) : Exit → Act → List Frame → World → Prop := fun e a' cs' w' =>
  ∃ E' m', exR ex E' e ∧ Out E s.hp w E' s'.hp w' ∧ SvR E' s' a' w' ∧ FMR E' u' m' ∧ cs' = { c0 with mode := m' } :: cs
omit hC in
theorem PostS.trans {c0 : Frame} {cs : List Frame} {E E1 : Env} {s s1 s2 : Sv} {w w1 : World} {ex : Ex} {u : FM} {e : Exit} {a' : Act} {cs' : List Frame} {w' : World} (h : Out E s.hp w E1 s1.hp w1) (h1 : s.hp.nx ≤ s1.hp.nx) (h2 : s1.hp.nx ≤ s2.hp.nx) (k : PostS c0 cs E1 s1 w1 ex s2 u e a' cs' w') : PostS c0 cs E s w ex s2 u e a' cs' w' := by
  obtain ⟨E', m', g1, g2, g3⟩ := k
  exact ⟨E', m', g1, h.trans g2 h1 h2, g3⟩
omit hC in
theorem drec_ok {E : Env} {u : FM} {m : FrameMode} {c0 : Frame} {cs : List Frame} (k : FMR E u m) : ∃ x m', ren E (drec u).1 = some x ∧ FMR E (drec u).2 m' ∧
    ((recoverD ({ c0 with mode := m } :: cs) = some (x, { c0 with mode := m' } :: cs)) ∨ (recoverD ({ c0 with mode := m } :: cs) = none ∧ x = .nilIface ∧ m' = m)) := by
  cases u with
  | ret =>
    cases m with
    | returning => exact ⟨.nilIface, .returning, rfl, trivial, .inr ⟨rfl, rfl, rfl⟩⟩
    | _ => exact k.elim
  | pan x r =>
    cases m with
    | panicking ch =>
      obtain ⟨X, h1, rfl⟩ := k
      cases r with
      | false => exact ⟨X, .panicking [{ v := X, recovered := true }], h1, ⟨X, h1, rfl⟩, .inl rfl⟩
      | true => exact ⟨.nilIface, .panicking [{ v := X, recovered := true }], rfl, ⟨X, h1, rfl⟩, .inr ⟨rfl, rfl, rfl⟩⟩
    | _ => exact k.elim
omit hC in
theorem isRec_run {o : Oper} (h : isRec o.op = true) (a : Act) (w : World) : (execOp a.eval o).run P w = .ok .recover w := by
  obtain ⟨dst, op, ty, ps, af, gd⟩ := o
  cases op <;> simp [isRec] at h
  rename_i c
  cases hc : c.callee <;> rw [hc] at h <;> simp at h
  rename_i b
  cases b <;> simp at h
  simp only [execOp, Sem.run_bind, resolve, hc, Sem.run_pure, Result.andThen_ok, invoke, builtin]
include hcall
omit hC in
theorem vdlist_ext {ops : List Oper} : ∀ (r : List Oper) (s : Sv) (u : FM) (q : Option V) (s' : Sv) (u' : FM), vdlist C call ops r s u = some (q, s', u') → Ext s.hp s'.hp
  | [], s, u, q, s', u', h => by
    simp only [vdlist, Option.some.injEq, Prod.mk.injEq] at h
    rw [← h.2.1]; exact ext_refl _
  | o :: r, s, u, q, s', u', h => by
    simp only [vdlist, Option.bind_eq_some_iff] at h
    obtain ⟨b, hb, h⟩ := h
    split at h
    · simp only [Option.bind_eq_some_iff] at h
      obtain ⟨fr, hfr, h⟩ := h
      have := vdlist_ext r _ _ _ _ _ h
      exact this
    · split at h
      · simp only [Option.bind_eq_some_iff] at h
        obtain ⟨fr, hfr, h⟩ := h
        have := vdlist_ext r _ _ _ _ _ h
        exact this
      · simp only [Option.bind_eq_some_iff] at h
        obtain ⟨⟨rr, hp'⟩, hv, h⟩ := h
        have h1 : Ext s.hp hp' := vop_nx hcall.nx hv
        cases rr with
        | v x =>
          simp only [Option.bind_eq_some_iff] at h
          obtain ⟨fr, hfr, h⟩ := h
          exact h1.trans (vdlist_ext r _ _ _ _ _ h)
        | pan x =>
          simp only [Option.some.injEq, Prod.mk.injEq] at h
          rw [← h.2.1]
          exact h1
theorem vdlist_ok {ops : List Oper} {c0 : Frame} {cs : List Frame} : ∀ (r : List Oper) (s : Sv) (u : FM) (q : Option V) (s' : Sv) (u' : FM), vdlist C call ops r s u = some (q, s', u') → ∀ E a w m, SvR E s a w → FMR E u m → Free E s.hp.nx s'.hp.nx →
    ∀ Q, (∀ e a' cs' w', PostS c0 cs E s w (exOf q) s' u' e a' cs' w' → Q e a' cs' w') → wpListS P ops.toArray Q r a ({ c0 with mode := m } :: cs) w
  | [], s, u, q, s', u', h, E, a, w, m, hS, hM, hf, Q, hQ => by
    simp only [vdlist, Option.some.injEq, Prod.mk.injEq] at h
    obtain ⟨rfl, rfl, rfl⟩ := h
    exact hQ _ _ _ _ ⟨E, m, trivial, out_refl hS.rep, hS, hM, rfl⟩
  | o :: r, s, u, q, s', u', h, E, a, w, m, hS, hM, hf, Q, hQ => by
    simp only [vdlist, Option.bind_eq_some_iff] at h
    obtain ⟨b, hb, h⟩ := h
    have hw := want_ok hS.fr hb
    simp only [wpListS, hw]
    split at h
    · simp only [Option.bind_eq_some_iff] at h
      obtain ⟨fr, hfr, h⟩ := h
      simp only [Bool.false_eq_true, if_false]
      exact vdlist_ok r _ _ _ _ _ h E _ w m (hS.op (out_refl hS.rep) hfr (v := undV) (x := undef) rfl) hM hf Q hQ
    · simp only [if_true]
      split at h
      · rename_i hrec
        simp only [Option.bind_eq_some_iff] at h
        obtain ⟨fr, hfr, h⟩ := h
        rw [isRec_run (P := P) hrec]
        obtain ⟨x, m', h1, h2, h3⟩ := drec_ok (c0 := c0) (cs := cs) hM
        have hS' := hS.op (out_refl hS.rep) hfr (x := x) h1
        rcases h3 with h3 | ⟨h3, rfl, rfl⟩
        · simp only [h3]
          exact vdlist_ok r _ _ _ _ _ h E _ w m' hS' h2 hf Q hQ
        · simp only [h3]
          exact vdlist_ok r _ _ _ _ _ h E _ w m' hS' h2 hf Q hQ
      · rename_i hrec
        simp only [Option.bind_eq_some_iff] at h
        obtain ⟨⟨rr, hp'⟩, hv, h⟩ := h
        have h1 : s.hp.nx ≤ hp'.nx := (vop_nx hcall.nx hv).nx
        have hup : o.wp P a w (fun a' w' => wpListS P ops.toArray Q r a' ({ c0 with mode := m } :: cs) w') (fun e a' w' => Q e a' ({ c0 with mode := m } :: cs) w') := by
          cases rr with
          | v x =>
            simp only [Option.bind_eq_some_iff] at h
            obtain ⟨fr, hfr, h⟩ := h
            have h2 := (vdlist_ext hcall r _ _ _ _ _ h).nx
            simp only at h2
            exact op_step hC hcall hS hv (hf.mono (Nat.le_refl _) h2) ⟨fr, hfr, fun E' y w' ho hS' => vdlist_ok r _ _ _ _ _ h E' _ w' m hS' (hM.mono ho.le) (ho.free (hf.mono h1 (Nat.le_refl _)) (Nat.le_refl _)) Q fun e a' cs' w'' hp => hQ _ _ _ _ (PostS.trans (s1 := ⟨fr, s.df, hp', s.n⟩) ho h1 h2 hp)⟩
          | pan x =>
            simp only [Option.some.injEq, Prod.mk.injEq] at h
            obtain ⟨rfl, rfl, rfl⟩ := h
            exact op_step hC hcall hS hv hf fun E' y w' ho hx hS' => hQ _ _ _ _ ⟨E', m, ⟨y, hx, rfl⟩, ho, hS', hM.mono ho.le, rfl⟩
        unfold Oper.wp at hup
        generalize (execOp a.eval o).run P w = res at hup ⊢
        cases res with
        | ok n w' => cases n <;> first | exact hup | exact hup.elim
        | halt x w' => exact hup
omit hC in
theorem vdcode_ext : ∀ (n : Nat) (c : Code) (s : Sv) (u : FM) (ex : Ex) (s' : Sv) (u' : FM), vdcode C call n c s u = some (ex, s', u') → Ext s.hp s'.hp
  | 0, c, s, u, ex, s', u', h => by simp [vdcode] at h
  | n + 1, c, s, u, ex, s', u', h => by
    have other : ∀ c, (vcode C call n c s).bind (fun q => some (q.1, q.2, u)) = some (ex, s', u') → Ext s.hp s'.hp := fun c h => by
      simp only [Option.bind_eq_some_iff, Option.some.injEq, Prod.mk.injEq] at h
      obtain ⟨⟨e1, s1⟩, h1, _, rfl, _⟩ := h
      exact vcode_ext hcall n _ _ _ _ h1
    unfold vdcode at h
    split at h
    · simp only [Option.bind_eq_some_iff] at h
      obtain ⟨⟨e1, s1, u1⟩, h1, h⟩ := h
      have k1 := vdcode_ext n _ _ _ _ _ _ h1
      split at h
      · have k2 := vdcode_ext n _ _ _ _ _ _ h
        exact k1.trans k2
      · simp only [Option.some.injEq, Prod.mk.injEq] at h; rw [← h.2.1]; exact k1
    · simp only [Option.bind_eq_some_iff] at h
      obtain ⟨v, hv, h⟩ := h
      split at h
      · exact vdcode_ext n _ _ _ _ _ _ h
      · exact vdcode_ext n _ _ _ _ _ _ h
      · simp at h
    · simp only [Option.bind_eq_some_iff] at h
      obtain ⟨⟨e1, s1, u1⟩, h1, h⟩ := h
      have k1 := vdcode_ext n _ _ _ _ _ _ h1
      split at h
      · split at h <;> (simp only [Option.some.injEq, Prod.mk.injEq] at h; rw [← h.2.1]; exact k1)
      · simp only [Option.some.injEq, Prod.mk.injEq] at h; rw [← h.2.1]; exact k1
    · split at h
      · simp only [Option.bind_eq_some_iff] at h
        obtain ⟨⟨q, s1, u1⟩, h1, h⟩ := h
        have k1 := vdlist_ext hcall _ _ _ _ _ _ h1
        split at h <;> (simp only [Option.some.injEq, Prod.mk.injEq] at h; rw [← h.2.1]; exact k1)
      · exact other _ h
    · exact other _ h
theorem vdcode_ok {c0 : Frame} {cs : List Frame} : ∀ (n : Nat) (c : Code) (s : Sv) (u : FM) (ex : Ex) (s' : Sv) (u' : FM), vdcode C call n c s u = some (ex, s', u') → ∀ E a w m, SvR E s a w → FMR E u m → Free E s.hp.nx s'.hp.nx →
    c.wpS P (PostS c0 cs E s w ex s' u') a ({ c0 with mode := m } :: cs) w
  | 0, c, s, u, ex, s', u', h, E, a, w, m, hS, hM, hf => by simp [vdcode] at h
  | n + 1, c, s, u, ex, s', u', h, E, a, w, m, hS, hM, hf => by
    have other : ∀ c, (vcode C call n c s).bind (fun q => some (q.1, q.2, u)) = some (ex, s', u') → c.wpS P (PostS c0 cs E s w ex s' u') a ({ c0 with mode := m } :: cs) w := fun c h => by
      simp only [Option.bind_eq_some_iff, Option.some.injEq, Prod.mk.injEq] at h
      obtain ⟨⟨e1, s1⟩, h1, rfl, rfl, rfl⟩ := h
      refine wpS_of_wp (wp_mono ((vcode_ok hC hcall n).1 _ _ _ _ h1 E a w hS hf) fun e a' w' hp => ?_)
      obtain ⟨E', k1, k2, k3⟩ := hp
      exact ⟨E', m, k1, k2, k3, hM.mono k2.le, rfl⟩
    unfold vdcode at h
    split at h
    · simp only [Option.bind_eq_some_iff] at h
      obtain ⟨⟨e1, s1, u1⟩, h1, h⟩ := h
      have k1 := (vdcode_ext hcall n _ _ _ _ _ _ h1).nx
      split at h
      · rename_i he1
        simp only at he1
        subst he1
        have k2 := (vdcode_ext hcall n _ _ _ _ _ _ h).nx
        refine wpS_seq (wpS_mono (vdcode_ok n _ _ _ _ _ _ h1 E a w m hS hM (hf.mono (Nat.le_refl _) k2)) fun e a1 cs1 w1 hp => ?_)
        obtain ⟨E1, m1, h3, h4, h5, h6, rfl⟩ := hp
        cases e <;> first | exact h3.elim | skip
        exact wpS_mono (vdcode_ok n _ _ _ _ _ _ h E1 a1 w1 m1 h5 h6 (h4.free (hf.mono k1 (Nat.le_refl _)) (Nat.le_refl _))) fun e2 a2 cs2 w2 hq => PostS.trans h4 k1 k2 hq
      · rename_i hne
        simp only [Option.some.injEq, Prod.mk.injEq] at h
        obtain ⟨rfl, rfl, rfl⟩ := h
        refine wpS_seq (wpS_mono (vdcode_ok n _ _ _ _ _ _ h1 E a w m hS hM hf) fun e a1 cs1 w1 hp => ?_)
        obtain ⟨E1, m1, h3, h4, h5, h6, rfl⟩ := hp
        cases e1 <;> cases e <;> first | exact h3.elim | exact absurd rfl hne | exact ⟨E1, m1, h3, h4, h5, h6, rfl⟩
    · simp only [Option.bind_eq_some_iff] at h
      obtain ⟨v, hv, h⟩ := h
      have he := hS.fr.ev hv
      split at h
      · simp only [ren, Option.some.injEq] at he
        exact wpS_cond (t := true) he.symm (by simpa using vdcode_ok n _ _ _ _ _ _ h E a w m hS hM hf)
      · simp only [ren, Option.some.injEq] at he
        exact wpS_cond (t := false) he.symm (by simpa using vdcode_ok n _ _ _ _ _ _ h E a w m hS hM hf)
      · simp at h
    · rename_i id c
      simp only [Option.bind_eq_some_iff] at h
      obtain ⟨⟨e1, s1, u1⟩, h1, h⟩ := h
      have hs : s1 = s' ∧ u1 = u' := by
        split at h
        · split at h <;> (simp only [Option.some.injEq, Prod.mk.injEq] at h; exact h.2)
        · simp only [Option.some.injEq, Prod.mk.injEq] at h; exact h.2
      obtain ⟨rfl, rfl⟩ := hs
      refine wpS_block (wpS_mono (vdcode_ok n _ _ _ _ _ _ h1 E a w m hS hM hf) fun e a1 cs1 w1 hp => ?_)
      obtain ⟨E1, m1, h3, h4, h5, h6, rfl⟩ := hp
      split at h
      · rename_i j hej
        simp only at hej
        subst hej
        cases e with
        | exit j' => ?_
        | _ => exact h3.elim
        have : j = j' := h3
        subst this
        simp only [inBlockS]
        split at h
        · rename_i hb
          have hb := Nat.eq_of_beq_eq_true hb
          simp only [Option.some.injEq, Prod.mk.injEq] at h
          rw [if_pos hb]
          rw [← h.1]
          exact ⟨E1, m1, trivial, h4, h5, h6, rfl⟩
        · rename_i hb
          simp only [Option.some.injEq, Prod.mk.injEq] at h
          rw [if_neg (fun e => by rw [e] at hb; simp [Nat.beq_eq] at hb)]
          rw [← h.1]
          exact ⟨E1, m1, rfl, h4, h5, h6, rfl⟩
      · rename_i hne
        simp only [Option.some.injEq, Prod.mk.injEq] at h
        obtain ⟨rfl, _⟩ := h
        cases e1 <;> cases e <;> first | exact h3.elim | exact absurd rfl (hne _) | exact ⟨E1, m1, h3, h4, h5, h6, rfl⟩
    · rename_i id ops draw
      split at h
      · simp only [Option.bind_eq_some_iff] at h
        obtain ⟨⟨q, s1, u1⟩, h1, h⟩ := h
        have hs : ex = exOf q ∧ s1 = s' ∧ u1 = u' := by
          split at h
          · rename_i hq
            simp only at hq
            subst hq
            simp only [Option.some.injEq, Prod.mk.injEq] at h
            exact ⟨h.1.symm, h.2⟩
          · rename_i hq
            simp only at hq
            subst hq
            simp only [Option.some.injEq, Prod.mk.injEq] at h
            exact ⟨h.1.symm, h.2⟩
        obtain ⟨rfl, rfl, rfl⟩ := hs
        have := wpS_region_lit (P := P) (id := id) (vdlist_ok hC hcall (c0 := c0) (cs := cs) ops.toList s u q s1 u1 h1 E a w m hS hM hf _ (fun _ _ _ _ h => h))
        simpa using this
      · exact other _ h
    · exact other _ h

/-! ### Calls -/
/-- What the machine's deferred calls come to in the world. -/
def DefOk (P : Program) (dcall : DefF) : Prop := ∀ f args u hp r u' hp', dcall f args u hp = some (r, u', hp') → Ext hp hp' ∧ callT P f = true ∧
  ∀ E w vargs m, Rep E hp.t w → GlE E → renL E args = some vargs → FMR E u m → Free E hp.nx hp'.nx → CallsD P f vargs.toArray m w fun e m' w' => ∃ E', Out E hp w E' hp' w' ∧ FMR E' u' m' ∧ match r with
    | .v v => ∃ x, ren E' v = some x ∧ e = .returned x
    | .pan v => ∃ x, ren E' v = some x ∧ e = .panicked [{ v := x, recovered := false }]
theorem vdcall_ok (hF : ∀ f fn, C.F.get f = some fn → fn.body.isSome = true → callT P f = true) {extd : DefF} (hx : DefOk P extd) (n : Nat) : DefOk P (vdcall C call extd n) := by
  intro f args u hp r u' hp' h
  unfold vdcall at h
  split at h
  · rename_i q hq
    simp only [Option.some.injEq] at h
    subst h
    exact hx _ _ _ _ _ _ _ hq
  · simp only [Option.bind_eq_some_iff] at h
    obtain ⟨fn, hfn, body, hbody, s, hs, ⟨ex, s1, u1⟩, h1, h⟩ := h
    have hext := vdcode_ext hcall n _ _ _ _ _ _ h1
    have hfin : hp' = s1.hp ∧ u' = u1 ∧ s1.df = [] ∧ ((∃ x, ex = .pan x ∧ r = .pan x) ∨ ((ex = .norm ∨ ex = .ret) ∧ ∃ v, endV C fn s1.fr s1.hp = some v ∧ r = .v v)) := by
      simp only at h
      split at h
      · rename_i hdf
        split at h
        · simp at h
        · simp only [Option.some.injEq, Prod.mk.injEq] at h
          obtain ⟨rfl, rfl, rfl⟩ := h
          exact ⟨rfl, rfl, hdf, .inl ⟨_, rfl, rfl⟩⟩
        · rename_i hn1 hn2
          simp only [Option.bind_eq_some_iff, Option.some.injEq, Prod.mk.injEq] at h
          obtain ⟨v, hv, rfl, rfl, rfl⟩ := h
          refine ⟨rfl, rfl, hdf, .inr ⟨?_, v, hv, rfl⟩⟩
          cases ex <;> first | exact .inl rfl | exact .inr rfl | exact absurd rfl (hn1 _) | exact absurd rfl (hn2 _)
      · simp at h
    obtain ⟨rfl, rfl, hdf, hcase⟩ := hfin
    have hsp : s.hp = hp := by
      unfold enterV at hs
      split at hs
      · simp only [Option.some.injEq] at hs; rw [← hs]
      · simp at hs
    rw [hsp] at hext
    refine ⟨hext, hF f fn hfn (by rw [hbody]; rfl), fun E w vargs m hR hG hA hM hf => ?_⟩
    obtain ⟨_, hS⟩ := enterV_ok hs hR hG hA
    refine callsD_of_wpS (hC.F f fn hfn).1 hbody fun c0 cs hc0 => ?_
    have hc : ({ c0 with mode := m } : Frame) = c0 := by subst hc0; rfl
    have := vdcode_ok hC hcall (c0 := c0) (cs := cs) n _ _ _ _ _ _ h1 E _ w m hS hM (by rw [hsp]; exact hf)
    rw [hc] at this
    refine wpS_mono this fun e a' cs' w' hp => ?_
    obtain ⟨E', m', g1, g2, g3, g4, rfl⟩ := hp
    have hdf' : a'.defers = [] := by
      have := g3.df
      rw [hdf] at this
      cases ha : a'.defers with
      | nil => rfl
      | cons d ds => rw [ha] at this; exact this.elim
    rw [hsp] at g2
    rcases hcase with ⟨x, rfl, rfl⟩ | ⟨hex, v, hv, rfl⟩
    · cases e <;> first | exact g1.elim | skip
      obtain ⟨X, k1, rfl⟩ := g1
      exact ⟨hdf', m', rfl, E', g2, g4, X, k1, rfl⟩
    · obtain ⟨x, k1, k2⟩ := endV_ok hC g3.fr g3.rep hv
      rcases hex with rfl | rfl <;> cases e <;> first | exact g1.elim | exact ⟨hdf', m', rfl, x, k2, E', g2, g4, x, k1, rfl⟩
omit hC hcall in
theorem vleave_ext {dcall : DefF} (hd : DefOk P dcall) {res : Hp → Option V} : ∀ (l : List (Nat × List V)) (u : FM) (hp : Hp) (r : VR) (hp' : Hp), vleave dcall res l u hp = some (r, hp') → Ext hp hp'
  | [], u, hp, r, hp', h => by
    simp only [vleave] at h
    split at h
    · simp only [Option.bind_eq_some_iff, Option.some.injEq, Prod.mk.injEq] at h
      obtain ⟨_, _, _, rfl⟩ := h
      exact ext_refl _
    · simp only [Option.some.injEq, Prod.mk.injEq] at h
      rw [← h.2]; exact ext_refl _
    · simp at h
  | d :: ds, u, hp, r, hp', h => by
    simp only [vleave, Option.bind_eq_some_iff] at h
    obtain ⟨⟨r1, u1, hp1⟩, h1, h⟩ := h
    have k1 := (hd _ _ _ _ _ _ _ h1).1
    split at h
    · exact k1.trans (vleave_ext hd ds _ _ _ _ h)
    · split at h
      · exact k1.trans (vleave_ext hd ds _ _ _ _ h)
      · simp at h
omit hC hcall in
theorem vleave_ok {dcall : DefF} (hd : DefOk P dcall) {fn : Func} {tmps : Array Value} {res : Hp → Option V} {R : Ending → World → Prop} : ∀ (l : List (Nat × List V)) (u : FM) (hp : Hp) (r : VR) (hp' : Hp), vleave dcall res l u hp = some (r, hp') →
    ∀ E w dl m, Rep E hp.t w → GlE E → DfR E l dl → FMR E u m → Free E hp.nx hp'.nx → (∀ E' hp1 w' v, E.le E' → Rep E' hp1.t w' → res hp1 = some v → ∃ x, ren E' v = some x ∧ (results fn tmps).run P w' = .ok x w') → (∀ e w', CallRes E hp w r hp' e w' → R e w') → Leaves P fn tmps R dl m w
  | [], u, hp, r, hp', h, E, w, dl, m, hR, hG, hD, hM, hf, hres, hK => by
    cases dl with
    | cons d ds => exact hD.elim
    | nil =>
      simp only [vleave] at h
      split at h
      · simp only [Option.bind_eq_some_iff, Option.some.injEq, Prod.mk.injEq] at h
        obtain ⟨v, hv, rfl, rfl⟩ := h
        cases m <;> first | exact hM.elim | skip
        obtain ⟨x, h1, h2⟩ := hres E hp w v (Env.le_refl E) hR hv
        exact ⟨x, h2, hK _ _ ⟨E, out_refl hR, x, h1, rfl⟩⟩
      · simp only [Option.some.injEq, Prod.mk.injEq] at h
        obtain ⟨rfl, rfl⟩ := h
        cases m <;> first | exact hM.elim | skip
        obtain ⟨X, h1, rfl⟩ := hM
        exact hK _ _ ⟨E, out_refl hR, X, h1, rfl⟩
      · simp at h
  | d :: ds, u, hp, r, hp', h, E, w, dl, m, hR, hG, hD, hM, hf, hres, hK => by
    cases dl with
    | nil => exact hD.elim
    | cons dd dds =>
      obtain ⟨⟨cap, ht, hA⟩, hD'⟩ := hD
      simp only [vleave, Option.bind_eq_some_iff] at h
      obtain ⟨⟨r1, u1, hp1⟩, h1, h⟩ := h
      obtain ⟨k1, k2, k3⟩ := hd _ _ _ _ _ _ _ h1
      have hk2 : hp1.nx ≤ hp'.nx := by
        simp only at h
        split at h
        · exact (vleave_ext hd ds _ _ _ _ h).nx
        · split at h
          · exact (vleave_ext hd ds _ _ _ _ h).nx
          · simp at h
      refine ⟨hM.run, .func d.1, cap, d.1, (dd.args.toList ++ cap.toList).toArray, ht, ?_, ?_⟩
      · rw [ht]
        simp only [invoke]
        rw [run_callT k2]
        congr 2
        apply Array.ext'; simp
      · refine CallsD.mono (k3 E w _ m hR hG hA hM (hf.mono (Nat.le_refl _) hk2)) fun e m' w' ⟨E', g1, g2, g3⟩ => ?_
        have next : ∀ (u2 : FM) (m2 : FrameMode), FMR E' u2 m2 → vleave dcall res ds u2 hp1 = some (r, hp') → Leaves P fn tmps R dds m2 w' := fun u2 m2 hM2 h2 =>
          vleave_ok hd ds u2 hp1 r hp' h2 E' w' dds m2 g1.rep (fun g hg => g1.le _ _ (hG g hg)) (hD'.mono g1.le) hM2 (g1.free (hf.mono k1.nx (Nat.le_refl _)) (Nat.le_refl _)) (fun E2 hp2 w2 v hle => hres E2 hp2 w2 v (Env.le_trans g1.le hle))
            fun e2 w2 ⟨E2, q1, q2⟩ => hK e2 w2 ⟨E2, g1.trans q1 k1.nx hk2, q2⟩
        cases r1 with
        | v v =>
          obtain ⟨x, _, rfl⟩ := g3
          exact next _ _ g2.settle h
        | pan v =>
          obtain ⟨x, hx, rfl⟩ := g3
          simp only at h
          split at h
          · cases m' <;> first | exact g2.elim | skip
            exact next (.pan v false) (.panicking [{ v := x, recovered := false }]) ⟨x, hx, rfl⟩ h
          · simp at h
end
/-- The machine's calls are the world's. -/
theorem vcall_ok {P : Program} {C : Cx} (hC : COk P C) (hF : ∀ f fn, C.F.get f = some fn → fn.body.isSome = true → callT P f = true) {ext : CallF} {extd : DefF} (he : CallOk P ext) (hd : DefOk P extd) : ∀ n, CallOk P (vcall C ext extd n)
  | 0 => fun f args hp r hp' h => by simp [vcall] at h
  | n + 1 => by
    have ih := vcall_ok hC hF he hd n
    intro f args hp r hp' h
    unfold vcall at h
    split at h
    · rename_i q hq
      simp only [Option.some.injEq] at h
      subst h
      exact he _ _ _ _ _ hq
    · simp only [Option.bind_eq_some_iff] at h
      obtain ⟨fn, hfn, body, hbody, s, hs, ⟨ex, s1⟩, h1, u, hu, h⟩ := h
      have hsp : s.hp = hp := by
        unfold enterV at hs
        split at hs
        · simp only [Option.some.injEq] at hs; rw [← hs]
        · simp at hs
      have k1 := vcode_ext ih n _ _ _ _ h1
      rw [hsp] at k1
      have hdd := vdcall_ok hC ih hF hd n
      have k2 := vleave_ext hdd _ _ _ _ _ h
      refine ⟨k1.trans k2, hF f fn hfn (by rw [hbody]; rfl), fun E w vargs hR hG hA hf => ?_⟩
      obtain ⟨_, hS⟩ := enterV_ok hs hR hG hA
      refine calls_of_wp_defers (hC.F f fn hfn).1 hbody (wp_mono ((vcode_ok hC ih n).1 _ _ _ _ h1 E _ w hS (by rw [hsp]; exact hf.mono (Nat.le_refl _) k2.nx)) fun e a' w' hp => ?_)
      obtain ⟨E', g1, g2, g3⟩ := hp
      rw [hsp] at g2
      have fin : ∀ m, FMR E' u m → Leaves P fn a'.tmps (CallRes E _ w r hp') a'.defers m w' := fun m hM =>
        vleave_ok hdd _ _ _ _ _ h E' w' a'.defers m g3.rep g3.fr.gl g3.df hM (g2.free (hf.mono k1.nx (Nat.le_refl _)) (Nat.le_refl _)) (fun E2 hp2 w2 v hle hR2 hv => endV_ok hC (g3.fr.mono hle) hR2 hv) fun e2 w2 ⟨E2, q1, q2⟩ => ⟨E2, g2.trans q1 k1.nx k2.nx, q2⟩
      cases ex with
      | exit id => simp [exFM] at hu
      | norm =>
        simp only [exFM, Option.some.injEq] at hu
        subst hu
        cases e <;> first | exact g1.elim | exact fin .returning trivial
      | ret =>
        simp only [exFM, Option.some.injEq] at hu
        subst hu
        cases e <;> first | exact g1.elim | exact fin .returning trivial
      | pan x =>
        simp only [exFM, Option.some.injEq] at hu
        subst hu
        cases e <;> first | exact g1.elim | skip
        obtain ⟨X, h2, rfl⟩ := g1
        exact fin (.panicking _) ⟨X, h2, rfl⟩
end Go.Proofs.YtaahfdjobpbpjaaGreatDoor
