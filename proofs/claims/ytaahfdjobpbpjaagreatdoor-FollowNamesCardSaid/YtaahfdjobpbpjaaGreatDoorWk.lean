/- Wk: from the machine's memory to the world's: what a call from a small memory leaves as it was. By this project. -/
import Derived.Test.YtaahfdjobpbpjaaGreatDoorWe
set_option linter.unusedVariables false
set_option linter.unusedSectionVars false
set_option linter.unusedSimpArgs false
namespace Go.Proofs.YtaahfdjobpbpjaaGreatDoor
open Go.RowKit Go.Extern.Stop

/-- What may be turned of a small memory is whole blocks, told. -/
def Whole1 (E : Env) (t : Tr VO) : Prop := ∀ h o, t.get h = some o → roB h = false → ∃ cs T b, o = .cells cs T none false ∧ E h = some (b, 0, 0)
/-- A call that leaves such a memory as it was leaves the world as it was. -/
theorem keep_all {E E' : Env} {hp hp' : Hp} {w w' : World} {N : HV} (hw : Whole1 E hp.t) (ho : OkH hp) (hR : Rep E hp.t w) (hO : Out E hp w E' hp' w') (hs : SV ⟨hp, []⟩ hp' N) : ∀ k, k < w.heap.size → w'.heap[k]? = w.heap[k]? := fun k hk => by
  rcases Classical.em (∃ h o e, hp.t.get h = some o ∧ E h = some e ∧ roB h = false ∧ e.1 = k) with ⟨h, o, e, h1, h2, h3, h4⟩ | hn
  · obtain ⟨cs, T, b, rfl, h5⟩ := hw h o h1 h3
    rw [h2] at h5
    obtain rfl := Option.some.inj h5
    have h4 : b = k := h4
    subst h4
    have hlt : h < hp.nx := by
      rcases Nat.lt_or_ge h hp.nx with q | q
      · exact q
      · rw [ho.top h q h3] at h1; simp at h1
    have h6 : hp'.t.get h = some (.cells cs T none false) := by rw [hs.old h (not_own0 (.inl hlt))]; exact h1
    obtain ⟨b1, x1, p1, l1, s1, f1, a1, a2, a3, a4, a5, a6, a7, a8⟩ := rep_cells hR h1
    obtain ⟨b2, x2, p2, l2, s2, f2, c1, c2, c3, c4, c5, c6, c7, c8⟩ := rep_cells hO.rep h6
    rw [h2] at a1
    rw [hO.le h _ h2] at c1
    simp only [Option.some.injEq, Prod.mk.injEq] at a1 c1
    obtain ⟨rfl, e1, rfl⟩ := a1
    obtain ⟨rfl, e2, rfl⟩ := c1
    have q1 : p1 = [] := List.length_eq_zero_iff.1 e1.symm
    have q2 : p2 = [] := List.length_eq_zero_iff.1 e2.symm
    subst q1 q2
    obtain ⟨rfl, _⟩ := a5 rfl
    obtain ⟨rfl, _⟩ := c5 rfl
    obtain rfl := a7 rfl
    obtain rfl := c7 rfl
    have := renL_mono hO.le a3
    rw [c3] at this
    obtain rfl := Option.some.inj this
    rw [a2, c2]
  · exact hO.frm.keep k hk fun h o e h1 h2 h3 h4 => hn ⟨h, o, e, h1, h2, h3, h4⟩
theorem out_kept {E : Env} {hp : Hp} {w w' : World} (hR : Rep E hp.t w) (hk : ∀ k, k < w.heap.size → w'.heap[k]? = w.heap[k]?) (ho : w'.os = w.os) (ht : w'.tape = w.tape) (hu : w'.output = w.output) (hz : w.heap.size ≤ w'.heap.size) : Out E hp w E hp w' :=
  ⟨Env.le_refl E, fun _ _ => rfl, ⟨fun h o hh => by
    obtain ⟨e, x, h1, h2, h3⟩ := hR.has h o hh
    exact ⟨e, x, h1, by rw [hk _ (lt_of_heap h2)]; exact h2, h3⟩, hR.inj⟩, ⟨ho, ht, hu, hz, fun k hk' _ => hk k hk', fun h o e h1 h2 h3 => .inl ⟨h, o, e, h1, h2, h3, rfl⟩⟩⟩
end Go.Proofs.YtaahfdjobpbpjaaGreatDoor
