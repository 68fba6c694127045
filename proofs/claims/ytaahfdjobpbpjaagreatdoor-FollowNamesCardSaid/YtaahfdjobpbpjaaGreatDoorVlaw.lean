/- Vlaw: a closed law that the machine finds true. By this project. -/
import Derived.Test.YtaahfdjobpbpjaaGreatDoorVu
set_option linter.unusedVariables false
set_option linter.unusedSectionVars false
set_option linter.unusedSimpArgs false
namespace Go.Proofs.YtaahfdjobpbpjaaGreatDoor
open Go.RowKit Go.Extern.Stop

noncomputable def isTrueV (r : Option (VR × Hp)) : Bool := match r with
  | some (.v (.b true), _) => true
  | _ => false
theorem isTrueV_some {r : Option (VR × Hp)} (h : isTrueV r = true) : ∃ hp', r = some (.v (.b true), hp') := by
  unfold isTrueV at h
  split at h
  · exact ⟨_, rfl⟩
  · simp at h
/-- The package's variables stand where they stand. -/
def glEnv : Env := fun h => if h < gMax then some (h, 0, 0) else none
theorem glEnv_gl : GlE glEnv := fun g hg => by simp [glEnv, hg]
theorem glEnv_free {a b : Nat} (h : gMax ≤ a) : Free glEnv a b := fun x h1 h2 => by simp [glEnv]; omega
/-- What is told of the package's variables: whole blocks of cells. -/
def GlOk (t : Tr VO) (W : World) : Prop := ∀ h o, t.get h = some o → h < gMax ∧ ∃ cs ty l, o = .cells cs ty none false ∧ (∀ E, renL E cs = some l) ∧ l.all (·.oneCell') = true ∧ W.heap[h]? = some (.cells l.toArray ty (0, 0))
theorem gl_rep {t : Tr VO} {W : World} (h : GlOk t W) : Rep glEnv t W where
  has := fun x o ho => by
    obtain ⟨h1, cs, ty, l, rfl, h2, h3, h4⟩ := h x o ho
    refine ⟨(x, 0, 0), _, by simp [glEnv, h1], h4, [], l, [], (0, 0), h2 _, h3, rfl, by simp, fun _ => ⟨rfl, rfl⟩, fun s hs => by simp at hs, fun _ => rfl, .inl rfl⟩
  inj := fun x y o o' e e' h1 h2 h3 h4 he => by
    have k1 := (h x o h1).1
    have k2 := (h y o' h2).1
    simp only [glEnv, k1, k2, if_true, Option.some.injEq] at h3 h4
    subst h3; subst h4
    exact .inl he
theorem law_calls {P : Program} {call : CallF} (hc : CallOk P call) {f : Nat} {hp0 hp' : Hp} {v : V} {x : Value} (hcall : call f [] hp0 = some (.v v, hp')) (hv : ∀ E, ren E v = some x) (hnx : gMax ≤ hp0.nx) {W : World} (hg : GlOk hp0.t W)
    (hsame : ∀ h o, hp0.t.get h = some o → hp'.t.get h = some o) : Calls P f #[] W fun e W' => e = .returned x ∧ Below W.heap.size W W' := by
  obtain ⟨hx, _, hk⟩ := hc _ _ _ _ _ hcall
  refine (hk glEnv W [] (gl_rep hg) glEnv_gl rfl (glEnv_free hnx)).mono ?_
  rintro e W' ⟨E', ho, y, hy, rfl⟩
  rw [hv] at hy
  obtain rfl := Option.some.inj hy
  refine ⟨rfl, ho.frm.os, ho.frm.tape, ho.frm.output, ho.frm.size, fun k hk => ?_⟩
  by_cases hex : ∃ h o e, hp0.t.get h = some o ∧ glEnv h = some e ∧ e.1 = k
  · obtain ⟨h, o, e, h1, h2, rfl⟩ := hex
    obtain ⟨h3, cs, ty, l, rfl, h4, h5, h6⟩ := hg h o h1
    have he : e = (h, 0, 0) := by simpa [glEnv, h3] using h2.symm
    subst he
    have h7 := hsame h _ h1
    obtain ⟨e2, y, g1, g2, g3⟩ := ho.rep.has h _ h7
    have g4 := ho.le h _ h2
    rw [g1] at g4
    obtain rfl := Option.some.inj g4
    obtain ⟨pre, l', sp, fz, q1, q2, q3, rfl, q4, q5, q6, q7⟩ := g3
    rw [h4] at q1
    obtain rfl := Option.some.inj q1
    obtain ⟨rfl, _⟩ := q4 rfl
    have hpre : pre = [] := by simpa using q3
    subst hpre
    rw [q6 rfl] at g2
    simp only [List.nil_append, List.append_nil] at g2
    show W'.heap[h]? = W.heap[h]?
    rw [g2, h6]
  · exact ho.frm.keep k hk fun h o e h1 h2 hr h3 => hex ⟨h, o, e, h1, h2, h3⟩
/-- No variable is looked at. -/
theorem law_none {P : Program} {call : CallF} (hc : CallOk P call) {f : Nat} (h : isTrueV (call f [] ⟨.lf, gMax, []⟩) = true) (W : World) : Calls P f #[] W fun e W' => e = .returned (.bool true) ∧ Below W.heap.size W W' := by
  obtain ⟨hp', h⟩ := isTrueV_some h
  have hn : ∀ (i : Nat) (o : VO), (Tr.lf : Tr VO).get i = some o → False := fun i o ho => by rw [Tr.get_eq, tr_get_lf] at ho; simp at ho
  exact law_calls hc h (fun E => rfl) (Nat.le_refl _) (fun i o ho => (hn i o ho).elim) (fun i o ho => (hn i o ho).elim)
end Go.Proofs.YtaahfdjobpbpjaaGreatDoor
