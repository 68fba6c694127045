/- Vr: the machine's plain regions, against the world's. By this project. -/
import Derived.Test.YtaahfdjobpbpjaaGreatDoorVn
import Derived.Recover
set_option linter.unusedVariables false
set_option linter.unusedSectionVars false
set_option linter.unusedSimpArgs false
namespace Go.Proofs.YtaahfdjobpbpjaaGreatDoor
open Go.RowKit Go.Extern.Stop

def DfR (E : Env) : List (Nat × List V) → List Deferred → Prop
  | [], [] => True
  | x :: r, d :: ds => (∃ cap, d.target = .fn (.func x.1) cap ∧ renL E x.2 = some (d.args.toList ++ cap.toList)) ∧ DfR E r ds
  | _, _ => False
theorem DfR.mono {E E' : Env} (h : E.le E') : ∀ {l : List (Nat × List V)} {ds : List Deferred}, DfR E l ds → DfR E' l ds
  | [], [], _ => trivial
  | [], _ :: _, k => k.elim
  | _ :: _, [], k => k.elim
  | x :: r, d :: ds, ⟨⟨cap, h1, h2⟩, h3⟩ => ⟨⟨cap, h1, renL_mono h h2⟩, DfR.mono h h3⟩
structure SvR (E : Env) (s : Sv) (a : Act) (w : World) : Prop where
  fr : FrR E s.fr a
  rep : Rep E s.hp.t w
  sz : a.tmps.size = s.n
  n : s.n ≤ trMax
  df : DfR E s.df a.defers
def exR : Ex → Env → Exit → Prop
  | .norm, _, .normal => True
  | .exit i, _, .exit j => i = j
  | .ret, _, .ret => True
  | .pan x, E, .panic ch => ∃ X, ren E x = some X ∧ ch = [{ v := X, recovered := false }]
  | _, _, _ => False
/-- What code comes to. -/
def Post (E : Env) (s : Sv) (w : World) (ex : Ex) (s' : Sv) : Exit → Act → World → Prop := fun e a' w' => ∃ E', exR ex E' e ∧ Out E s.hp w E' s'.hp w' ∧ SvR E' s' a' w'
theorem Post.trans {E E1 : Env} {s s1 s2 : Sv} {w w1 : World} {ex : Ex} {e : Exit} {a' : Act} {w' : World} (h : Out E s.hp w E1 s1.hp w1) (h1 : s.hp.nx ≤ s1.hp.nx) (h2 : s1.hp.nx ≤ s2.hp.nx) (k : Post E1 s1 w1 ex s2 e a' w') : Post E s w ex s2 e a' w' := by
  obtain ⟨E', g1, g2, g3⟩ := k
  exact ⟨E', g1, h.trans g2 h1 h2, g3⟩
def boolOf : Value → Option Bool
  | .bool b => some b
  | _ => none
theorem want_ok {E : Env} {s : Tr V} {a : Act} {ops : List Oper} {o : Oper} {b : Bool} (hF : FrR E s a) (h : wantV ops s o = some b) : Region.wanted o (yielded ops.toArray a.tmps) = b := by
  unfold wantV at h
  unfold Region.wanted
  cases hg : o.guard with
  | none => rw [hg] at h; simpa using h
  | some jt =>
    obtain ⟨j, t⟩ := jt
    rw [hg] at h
    simp only [Option.bind_eq_some_iff] at h
    obtain ⟨oj, hoj, d, hd, v, hv, h⟩ := h
    rw [getL_eq] at hoj
    obtain ⟨x, h1, h2⟩ := hF.look d v hv
    have hy : yielded ops.toArray a.tmps j = boolOf x := by
      unfold yielded
      simp only [List.getElem?_toArray, hoj, Option.bind_some, hd, h1]
      cases x <;> rfl
    simp only [hy]
    split at h
    · simp only [ren, Option.some.injEq] at h2
      subst h2
      simp only [Option.some.injEq] at h
      subst h
      rename_i q
      cases q <;> cases t <;> rfl
    · simp [ren, renL] at h2
      subst h2
      simp only [Option.some.injEq] at h
      subst h
      rfl
    · simp at h
section
variable {P : Program} {C : Cx} (hC : COk P C) {call : CallF} (hcall : CallOk P call)
/-- Behind an operation: the frame with its value. -/
theorem SvR.op {E E' : Env} {s : Sv} {a : Act} {w w' : World} {hp' : Hp} {d : Option Tmp} {fr' : Tr V} {v : V} {x : Value} (h : SvR E s a w) (ho : Out E s.hp w E' hp' w') (hs : setD s.n s.fr d v = some fr') (hx : ren E' v = some x) : SvR E' ⟨fr', s.df, hp', s.n⟩ (a.put d x) w' :=
  ⟨(h.fr.mono ho.le).put h.n h.sz hs hx, ho.rep, by rw [put_size]; exact h.sz, h.n, by rw [put_df]; exact h.df.mono ho.le⟩
include hC hcall
/-- One operation. -/
theorem op_step {E : Env} {s : Sv} {a : Act} {w : World} {o : Oper} {r : VR} {hp' : Hp} {K : Act → World → Prop} {Q : Exit → Act → World → Prop} (h : SvR E s a w) (hv : vop C call s.fr s.hp o.op = some (r, hp')) (hf : Free E s.hp.nx hp'.nx)
    (hk : match r with
      | .v v => ∃ fr', setD s.n s.fr o.dst v = some fr' ∧ ∀ E' x w', Out E s.hp w E' hp' w' → SvR E' ⟨fr', s.df, hp', s.n⟩ (a.put o.dst x) w' → K (a.put o.dst x) w'
      | .pan v => ∀ E' x w', Out E s.hp w E' hp' w' → ren E' v = some x → SvR E' ⟨s.fr, s.df, hp', s.n⟩ a w' → Q (.panic [{ v := x, recovered := false }]) a w') : o.wp P a w K Q := by
  obtain ⟨dst, op, ty, ps, af, gd⟩ := o
  obtain ⟨q1, q2⟩ := vop_ok hC hcall h.rep h.fr hv dst ty ps af gd
  have hu := q2 hf
  unfold Oper.wp Oper.upon
  generalize (execOp a.eval ⟨dst, op, ty, ps, af, gd⟩).run P w = res at hu ⊢
  have pan : ∀ v E' x w', r = .pan v → ren E' v = some x → Out E s.hp w E' hp' w' → Q (.panic [{ v := x, recovered := false }]) a w' := fun v E' x w' hr hx ho => by
    subst hr
    exact hk E' x w' ho hx ⟨h.fr.mono ho.le, ho.rep, h.sz, h.n, h.df.mono ho.le⟩
  have val : ∀ v E' x w', r = .v v → ren E' v = some x → Out E s.hp w E' hp' w' → K (a.put dst x) w' := fun v E' x w' hr hx ho => by
    subst hr
    obtain ⟨fr', hs, hk⟩ := hk
    exact hk E' x w' ho (h.op ho hs hx)
  cases res with
  | ok n w' =>
    cases n <;> simp only [Upon] at hu ⊢ <;> try exact hu.elim
    case value x =>
      obtain ⟨v, E', hr, hx, ho⟩ := hu
      exact val v E' x w' hr hx ho
    case skip =>
      obtain ⟨E', hr, ho⟩ := hu
      exact val undV E' undef w' hr rfl ho
    case enter f args =>
      obtain ⟨rfl, hc⟩ := hu
      refine Calls.mono hc fun e w'' ⟨E', ho, hres⟩ => ?_
      cases r with
      | v v =>
        obtain ⟨x, hx, rfl⟩ := hres
        exact val v E' x w'' rfl hx ho
      | pan v =>
        obtain ⟨x, hx, rfl⟩ := hres
        exact pan v E' x w'' rfl hx ho
  | halt x w' =>
    cases x <;> simp only [Upon] at hu ⊢ <;> try exact hu.elim
    obtain ⟨v, E', hr, hx, ho⟩ := hu
    exact pan v E' _ w' hr hx ho
def exOf : Option V → Ex
  | none => .norm
  | some x => .pan x
omit hC in
theorem vlist_ext {ops : List Oper} : ∀ (r : List Oper) (s s' : Sv) (q : Option V), vlist C call ops r s = some (q, s') → Ext s.hp s'.hp
  | [], s, s', q, h => by
    simp only [vlist, Option.some.injEq, Prod.mk.injEq] at h
    rw [← h.2]; exact ext_refl _
  | o :: r, s, s', q, h => by
    simp only [vlist, Option.bind_eq_some_iff] at h
    obtain ⟨b, hb, h⟩ := h
    have gen : ∀ op, (vop C call s.fr s.hp op).bind (fun q => match q.1 with
        | .v x => (setD s.n s.fr o.dst x).bind fun fr => vlist C call ops r ⟨fr, s.df, q.2, s.n⟩
        | .pan x => some (some x, ⟨s.fr, s.df, q.2, s.n⟩)) = some (q, s') → Ext s.hp s'.hp := fun op h => by
      simp only [Option.bind_eq_some_iff] at h
      obtain ⟨⟨rr, hp'⟩, hv, h⟩ := h
      have h1 : Ext s.hp hp' := vop_nx hcall.nx hv
      cases rr with
      | v x =>
        simp only [Option.bind_eq_some_iff] at h
        obtain ⟨fr, hfr, h⟩ := h
        exact h1.trans (vlist_ext r _ _ _ h)
      | pan x =>
        simp only [Option.some.injEq, Prod.mk.injEq] at h
        rw [← h.2]
        exact h1
    split at h
    · simp only [Option.bind_eq_some_iff] at h
      obtain ⟨fr, hfr, h⟩ := h
      have := vlist_ext r _ _ _ h
      exact this
    · split at h
      · simp only [Option.bind_eq_some_iff] at h
        obtain ⟨d, hd, fr, hfr, h⟩ := h
        have := vlist_ext r _ _ _ h
        exact this
      · exact gen _ h
theorem vlist_nx {ops : List Oper} (r : List Oper) (s s' : Sv) (q : Option V) (h : vlist C call ops r s = some (q, s')) : s.hp.nx ≤ s'.hp.nx := (vlist_ext hcall r s s' q h).nx
theorem vlist_ok {ops : List Oper} : ∀ (r : List Oper) (s s' : Sv) (q : Option V), vlist C call ops r s = some (q, s') → ∀ E a w, SvR E s a w → Free E s.hp.nx s'.hp.nx → ∀ Q, (∀ e a' w', Post E s w (exOf q) s' e a' w' → Q e a' w') → wpList P ops.toArray Q r a w
  | [], s, s', q, h, E, a, w, hS, hf, Q, hQ => by
    simp only [vlist, Option.some.injEq, Prod.mk.injEq] at h
    obtain ⟨rfl, rfl⟩ := h
    exact hQ _ _ _ ⟨E, trivial, out_refl hS.rep, hS⟩
  | o :: r, s, s', q, h, E, a, w, hS, hf, Q, hQ => by
    have hnx := vlist_nx hC hcall _ _ _ _ h
    simp only [vlist, Option.bind_eq_some_iff] at h
    obtain ⟨b, hb, h⟩ := h
    have hw := want_ok hS.fr hb
    refine wpList_step fun K hK => ?_
    rw [hw]
    have gen : (vop C call s.fr s.hp o.op).bind (fun q => match q.1 with
        | .v x => (setD s.n s.fr o.dst x).bind fun fr => vlist C call ops r ⟨fr, s.df, q.2, s.n⟩
        | .pan x => some (some x, ⟨s.fr, s.df, q.2, s.n⟩)) = some (q, s') → o.wp P a w K Q := fun h => by
      simp only [Option.bind_eq_some_iff] at h
      obtain ⟨⟨rr, hp'⟩, hv, h⟩ := h
      have h1 : s.hp.nx ≤ hp'.nx := (vop_nx hcall.nx hv).nx
      cases rr with
      | v x =>
        simp only [Option.bind_eq_some_iff] at h
        obtain ⟨fr, hfr, h⟩ := h
        have h2 := vlist_nx hC hcall r _ _ _ h
        simp only at h2
        exact op_step hC hcall hS hv (hf.mono (Nat.le_refl _) h2) ⟨fr, hfr, fun E' y w' ho hS' => hK _ _ (vlist_ok r _ _ _ h E' _ w' hS' (ho.free (hf.mono h1 (Nat.le_refl _)) (Nat.le_refl _)) Q fun e a' w'' hp => hQ _ _ _ (Post.trans (s1 := ⟨fr, s.df, hp', s.n⟩) ho h1 h2 hp))⟩
      | pan x =>
        simp only [Option.some.injEq, Prod.mk.injEq] at h
        obtain ⟨rfl, rfl⟩ := h
        exact op_step hC hcall hS hv hf fun E' y w' ho hx hS' => hQ _ _ _ ⟨E', ⟨y, hx, rfl⟩, ho, hS'⟩
    split at h
    · simp only [Option.bind_eq_some_iff] at h
      obtain ⟨fr, hfr, h⟩ := h
      simp only [Bool.false_eq_true, if_false]
      exact hK _ _ (vlist_ok r _ _ _ h E _ w (hS.op (out_refl hS.rep) hfr (v := undV) (x := undef) rfl) hf Q hQ)
    · simp only [if_true]
      split at h
      · rename_i c hc
        simp only [Option.bind_eq_some_iff] at h
        obtain ⟨d, hd, fr, hfr, h⟩ := h
        unfold vdefer at hd
        split at hd
        · rename_i f hcf
          simp only [Option.bind_eq_some_iff] at hd
          obtain ⟨fv, hfv, args, hargs, hd⟩ := hd
          split at hd
          · rename_i ff first cap
            simp only [Option.some.injEq] at hd
            subst hd
            have e1 := hS.fr.ev hfv
            simp only [ren, Option.bind_eq_some_iff, Option.map_eq_some_iff] at e1
            obtain ⟨fl, hfl, cl, hcl, e1⟩ := e1
            have hA := hS.fr.evs hargs
            have hrun : (execOp a.eval o).run P w = .ok (.defer { target := .fn (.func ff) cl.toArray, args := fl.toArray ++ c.args.map a.eval }) w := by
              simp only [execOp, hc, Sem.run_bind, resolve, hcf, ← e1, Deferred.ofValue, Sem.run_pure, Result.andThen_ok]
            unfold Oper.wp
            rw [hrun]
            refine hK _ _ (vlist_ok r _ _ _ h E _ w ?_ hf Q hQ)
            refine ⟨(FrR.put (a := { a with defers := _ :: a.defers }) ⟨hS.fr.look, hS.fr.gl⟩ hS.n hS.sz hfr (x := undef) (v := undV) rfl), hS.rep, by rw [put_size]; exact hS.sz, hS.n, ?_⟩
            rw [put_df]
            refine ⟨⟨cl.toArray, rfl, ?_⟩, hS.df⟩
            have := renL_app hfl (renL_app hA hcl)
            rw [appF_eq, appF_eq]
            simpa using this
          · simp at hd
        · simp at hd
      · exact gen h
end
end Go.Proofs.YtaahfdjobpbpjaaGreatDoor
