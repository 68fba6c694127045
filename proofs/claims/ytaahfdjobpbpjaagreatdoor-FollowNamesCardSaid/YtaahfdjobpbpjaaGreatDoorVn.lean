/- Vn: the machine's handles only grow. By this project. -/
import Derived.Test.YtaahfdjobpbpjaaGreatDoorVl
set_option linter.unusedVariables false
set_option linter.unusedSectionVars false
set_option linter.unusedSimpArgs false
namespace Go.Proofs.YtaahfdjobpbpjaaGreatDoor
open Go.RowKit Go.Extern.Stop

theorem storeV_nx {hp hp' : Hp} {h o : Nat} {vs : List V} (hs : storeV hp h o vs = some hp') : Ext hp hp' := by
  cases vs with
  | nil => simp [storeV] at hs; subst hs; exact ext_refl _
  | cons v r =>
    simp only [storeV] at hs
    split at hs
    · split at hs
      · simp only [Option.some.injEq] at hs; subst hs; exact ext_put _ _ _
      · simp at hs
    · simp at hs
theorem vappend_nx {C : Cx} {hp hp' : Hp} {t : TypeId} {s x v : V} (h : vappend C hp t s x = some (v, hp')) : Ext hp hp' := by
  simp only [vappend, Option.bind_eq_some_iff] at h
  obtain ⟨si, hsi, h⟩ := h
  split at h
  · simp only [Option.bind_eq_some_iff] at h
    obtain ⟨ei, hei, nx, hnx, h⟩ := h
    split at h
    · split at h
      · split at h
        · simp only [Option.some.injEq, Prod.mk.injEq] at h; rw [← h.2]; first | exact ext_refl _ | exact ext_put _ _ _
        · simp at h
      · simp only [Option.bind_eq_some_iff, Option.some.injEq, Prod.mk.injEq] at h
        obtain ⟨hp1, h1, _, rfl⟩ := h
        exact storeV_nx h1
    · split at h
      · simp at h
      · split at h
        · split at h
          · simp only [Option.bind_eq_some_iff, Option.some.injEq, Prod.mk.injEq] at h
            obtain ⟨⟨_, _⟩, h1, _, rfl⟩ := h
            exact new_nx h1
          · simp at h
        · simp only [Option.bind_eq_some_iff, Option.some.injEq, Prod.mk.injEq] at h
          obtain ⟨_, _, ⟨_, _⟩, h1, _, rfl⟩ := h
          exact new_nx h1
        · split at h
          · split at h
            · simp only [Option.bind_eq_some_iff, Option.some.injEq, Prod.mk.injEq] at h
              obtain ⟨_, _, ⟨_, _⟩, h1, _, rfl⟩ := h
              exact (ext_put _ _ _).trans (new_nx h1)
            · simp at h
          · simp at h
  · simp at h
theorem vcopy_nx {C : Cx} {hp hp' : Hp} {t : TypeId} {s x v : V} (h : vcopy C hp t s x = some (v, hp')) : Ext hp hp' := by
  simp only [vcopy, Option.bind_eq_some_iff] at h
  obtain ⟨si, hsi, h⟩ := h
  split at h
  · simp only [Option.bind_eq_some_iff] at h
    obtain ⟨ei, hei, nx, hnx, h⟩ := h
    split at h
    · simp only [Option.some.injEq, Prod.mk.injEq] at h; rw [← h.2]; first | exact ext_refl _ | exact ext_put _ _ _
    · simp only [Option.bind_eq_some_iff, Option.some.injEq, Prod.mk.injEq] at h
      obtain ⟨hp1, h1, _, rfl⟩ := h
      exact storeV_nx h1
  · simp at h
theorem vconv_nx {C : Cx} {hp hp' : Hp} {s t : TypeId} {x v : V} (h : vconv C hp s t x = some (v, hp')) : Ext hp hp' := by
  simp only [vconv, Option.bind_eq_some_iff] at h
  obtain ⟨si, hsi, ti, hti, h⟩ := h
  split at h
  · simp only [Option.some.injEq, Prod.mk.injEq] at h; rw [← h.2]; first | exact ext_refl _ | exact ext_put _ _ _
  · simp only [Option.some.injEq, Prod.mk.injEq] at h; rw [← h.2]; first | exact ext_refl _ | exact ext_put _ _ _
  · simp only [Option.bind_eq_some_iff] at h
    obtain ⟨ei, hei, h⟩ := h
    split at h
    · simp only [Option.bind_eq_some_iff, Option.some.injEq, Prod.mk.injEq] at h
      obtain ⟨⟨_, _⟩, h1, _, rfl⟩ := h
      exact new_nx h1
    · simp at h
  · split at h
    · simp only [Option.bind_eq_some_iff] at h
      obtain ⟨ei, hei, h⟩ := h
      split at h
      · split at h
        · simp only [Option.some.injEq, Prod.mk.injEq] at h; rw [← h.2]; first | exact ext_refl _ | exact ext_put _ _ _
        · simp at h
      · simp at h
    · simp at h
  · simp only [Option.bind_eq_some_iff] at h
    obtain ⟨ei, hei, h⟩ := h
    split at h
    · simp at h
    · simp only [Option.bind_eq_some_iff, Option.some.injEq, Prod.mk.injEq] at h
      obtain ⟨_, _, _, _, _, rfl⟩ := h
      first | exact ext_refl _ | exact ext_put _ _ _
  · simp only [Option.bind_eq_some_iff] at h
    obtain ⟨ei, hei, h⟩ := h
    split at h
    · split at h
      · simp only [Option.some.injEq, Prod.mk.injEq] at h; rw [← h.2]; first | exact ext_refl _ | exact ext_put _ _ _
      · simp only [Option.bind_eq_some_iff, Option.some.injEq, Prod.mk.injEq] at h
        obtain ⟨_, _, _, _, _, rfl⟩ := h
        first | exact ext_refl _ | exact ext_put _ _ _
    · simp at h
  · simp at h
theorem vmapup_nx {C : Cx} {hp hp' : Hp} {t : TypeId} {m k v : V} (h : vmapup C hp t m k v = some hp') : Ext hp hp' := by
  simp only [vmapup, Option.bind_eq_some_iff] at h
  obtain ⟨ti, hti, h⟩ := h
  split at h
  · split at h
    · split at h
      · simp only [Option.bind_eq_some_iff] at h
        obtain ⟨q, hq, h⟩ := h
        split at h <;> (simp only [Option.some.injEq] at h; subst h; first | exact ext_refl _ | exact ext_put _ _ _)
      · simp at h
    · simp at h
  · simp at h
theorem vmapentry_nx {C : Cx} {hp hp' : Hp} {t : TypeId} {m k v : V} (h : vmapentry C hp t m k = some (v, hp')) : Ext hp hp' := by
  simp only [vmapentry, Option.bind_eq_some_iff] at h
  obtain ⟨ti, hti, h⟩ := h
  split at h
  · split at h
    · split at h
      · simp only [Option.bind_eq_some_iff] at h
        obtain ⟨q, hq, h⟩ := h
        split at h
        · simp only [Option.bind_eq_some_iff, Option.some.injEq, Prod.mk.injEq] at h
          obtain ⟨_, _, _, rfl⟩ := h
          first | exact ext_refl _ | exact ext_put _ _ _
        · simp only [Option.bind_eq_some_iff, Option.some.injEq, Prod.mk.injEq] at h
          obtain ⟨_, _, _, _, _, rfl⟩ := h
          first | exact ext_refl _ | exact ext_put _ _ _
      · simp at h
    · simp at h
  · simp at h
theorem ventryst_nx {hp hp' : Hp} {m st v : V} (h : ventryst hp m st v = some hp') : Ext hp hp' := by
  unfold ventryst at h
  split at h
  · split at h
    · simp only [Option.bind_eq_some_iff, Option.some.injEq] at h
      obtain ⟨_, _, _, _, rfl⟩ := h
      first | exact ext_refl _ | exact ext_put _ _ _
    · simp at h
  · simp at h
theorem vdelete_nx {C : Cx} {hp hp' : Hp} {t : TypeId} {m k : V} (h : vdelete C hp t m k = some hp') : Ext hp hp' := by
  simp only [vdelete, Option.bind_eq_some_iff] at h
  obtain ⟨ti, hti, h⟩ := h
  split at h
  · split at h
    · simp only [Option.some.injEq] at h; subst h; first | exact ext_refl _ | exact ext_put _ _ _
    · split at h
      · simp only [Option.bind_eq_some_iff] at h
        obtain ⟨q, hq, h⟩ := h
        split at h <;> (simp only [Option.some.injEq] at h; subst h; first | exact ext_refl _ | exact ext_put _ _ _)
      · simp at h
    · simp at h
  · simp at h
theorem vnext_nx {hp hp' : Hp} {it v : V} (h : vnext hp it = some (v, hp')) : Ext hp hp' := by
  unfold vnext at h
  split at h
  · split at h
    · simp only [Option.some.injEq, Prod.mk.injEq] at h; rw [← h.2]; first | exact ext_refl _ | exact ext_put _ _ _
    · split at h
      · split at h
        · simp at h
        · split at h
          · simp only [Option.some.injEq, Prod.mk.injEq] at h; rw [← h.2]; first | exact ext_refl _ | exact ext_put _ _ _
          · split at h
            · simp only [Option.some.injEq, Prod.mk.injEq] at h; rw [← h.2]; first | exact ext_refl _ | exact ext_put _ _ _
            · simp at h
          · simp at h
      · simp at h
    · simp at h
  · simp at h
theorem vmakeS_nx {C : Cx} {hp hp' : Hp} {t : TypeId} {l c : Nat} {v : V} (h : vmakeS C hp t l c = some (v, hp')) : Ext hp hp' := by
  simp only [vmakeS, Option.bind_eq_some_iff] at h
  obtain ⟨ti, hti, h⟩ := h
  split at h
  · simp only [Option.bind_eq_some_iff] at h
    obtain ⟨_, _, _, _, _, _, h⟩ := h
    split at h
    · simp only [Option.bind_eq_some_iff, Option.some.injEq, Prod.mk.injEq] at h
      obtain ⟨⟨_, _⟩, h1, _, rfl⟩ := h
      exact new_nx h1
    · simp at h
  · simp at h
theorem vbuildS_nx {C : Cx} {hp hp' : Hp} {fr : Tr V} {t : TypeId} {l : Nat} {ps : List (Nat × Operand)} {v : V} (h : vbuildS C hp fr t l ps = some (v, hp')) : Ext hp hp' := by
  simp only [vbuildS, Option.bind_eq_some_iff] at h
  obtain ⟨ti, hti, h⟩ := h
  split at h
  · simp only [Option.bind_eq_some_iff] at h
    obtain ⟨_, _, _, _, _, _, h⟩ := h
    split at h
    · simp only [Option.bind_eq_some_iff, Option.some.injEq, Prod.mk.injEq] at h
      obtain ⟨_, _, ⟨_, _⟩, h1, _, rfl⟩ := h
      exact new_nx h1
    · simp at h
  · simp at h
theorem vbuiltin_nx {C : Cx} {hp hp' : Hp} {b : Builtin} {ts : List TypeId} {args : List V} {r : VR} (h : vbuiltin C hp b ts args = some (r, hp')) : Ext hp hp' := by
  unfold vbuiltin at h
  split at h
  · split at h
    · obtain ⟨v, h1, _⟩ := ret2_some h
      exact vappend_nx h1
    · simp at h
  · simp only [Option.bind_eq_some_iff] at h
    obtain ⟨ti, hti, h⟩ := h
    obtain ⟨v, h1, _, rfl⟩ := ret1_some h
    first | exact ext_refl _ | exact ext_put _ _ _
  · obtain ⟨v, h1, _⟩ := ret2_some h
    exact vcopy_nx h1
  · simp only [Option.bind_eq_some_iff, Option.some.injEq, Prod.mk.injEq] at h
    obtain ⟨hp1, h1, _, rfl⟩ := h
    exact vdelete_nx h1
  · obtain ⟨v, h1, _, rfl⟩ := ret1_some h
    first | exact ext_refl _ | exact ext_put _ _ _
  · obtain ⟨v, h1, _, rfl⟩ := ret1_some h
    first | exact ext_refl _ | exact ext_put _ _ _
  · simp at h
/-- What calls keep: handles only grow. -/
def NxOk (call : CallF) : Prop := ∀ f args hp r hp', call f args hp = some (r, hp') → Ext hp hp'
theorem CallOk.nx {P : Program} {call : CallF} (h : CallOk P call) : NxOk call := fun f args hp r hp' hc => (h f args hp r hp' hc).1
theorem vop_nx {C : Cx} {call : CallF} (hcall : NxOk call) {fr : Tr V} {hp hp' : Hp} {o : Op} {r : VR} (h : vop C call fr hp o = some (r, hp')) : Ext hp hp' := by
  by_cases hpu : isPure o = true
  · rw [vop_pure hpu] at h
    obtain ⟨v, h1, _, rfl⟩ := ret1_some h
    exact ext_refl _
  · unfold vop at h
    split at h
    iterate 15 (· exact (hpu rfl).elim)
    · unfold oAlloc at h
      simp only [Option.bind_eq_some_iff] at h
      obtain ⟨_, _, _, _, _, _, h⟩ := h
      obtain ⟨v, h1, _⟩ := ret2_some h
      simp only [Option.bind_eq_some_iff, Option.some.injEq, Prod.mk.injEq] at h1
      obtain ⟨⟨_, _⟩, h1, _, rfl⟩ := h1
      exact new_nx h1
    · unfold oBox at h
      simp only [Option.bind_eq_some_iff] at h
      obtain ⟨_, _, _, _, h⟩ := h
      obtain ⟨v, h1, _⟩ := ret2_some h
      simp only [Option.bind_eq_some_iff, Option.some.injEq, Prod.mk.injEq] at h1
      obtain ⟨⟨_, _⟩, h1, _, rfl⟩ := h1
      exact new_nx h1
    · obtain ⟨v, h1, _⟩ := ret2_some h
      exact vbuildS_nx h1
    · unfold oLoad at h
      simp only [Option.bind_eq_some_iff] at h
      obtain ⟨_, _, _, _, h⟩ := h
      obtain ⟨v, h1, _, rfl⟩ := ret1_some h
      first | exact ext_refl _ | exact ext_put _ _ _
    · unfold oStore at h
      simp only [Option.bind_eq_some_iff] at h
      obtain ⟨_, _, _, _, _, _, _, _, h⟩ := h
      split at h
      · obtain ⟨h1, _⟩ := ret0_some h
        exact storeV_nx h1
      · simp at h
    · unfold oBin at h
      simp only [Option.bind_eq_some_iff] at h
      obtain ⟨_, _, _, _, h⟩ := h
      obtain ⟨v, h1, _, rfl⟩ := ret1_some h
      first | exact ext_refl _ | exact ext_put _ _ _
    · unfold oConv at h
      simp only [Option.bind_eq_some_iff] at h
      obtain ⟨_, _, h⟩ := h
      obtain ⟨v, h1, _⟩ := ret2_some h
      exact vconv_nx h1
    · unfold oMkMap at h
      simp only [Option.bind_eq_some_iff] at h
      obtain ⟨_, _, h⟩ := h
      obtain ⟨v, h1, _⟩ := ret2_some h
      simp only [Option.bind_eq_some_iff, Option.some.injEq, Prod.mk.injEq] at h1
      obtain ⟨⟨_, _⟩, h1, _, rfl⟩ := h1
      exact new_nx h1
    · unfold oMkSl at h
      simp only [Option.bind_eq_some_iff] at h
      obtain ⟨_, _, _, _, h⟩ := h
      obtain ⟨v, h1, _⟩ := ret2_some h
      exact vmakeS_nx h1
    · unfold oSlice at h
      simp only [Option.bind_eq_some_iff] at h
      obtain ⟨_, _, h⟩ := h
      split at h
      · simp only [Option.some.injEq, Prod.mk.injEq] at h
        rw [← h.2]; exact ext_refl _
      · obtain ⟨v, h1, _⟩ := ret2_some h
        unfold vslEnd at h1
        simp only [Option.bind_eq_some_iff] at h1
        obtain ⟨_, _, _, _, h1⟩ := h1
        split at h1
        · simp only [Option.bind_eq_some_iff] at h1
          obtain ⟨_, _, _, _, h1⟩ := h1
          split at h1
          · simp only [Option.some.injEq, Prod.mk.injEq] at h1
            rw [← h1.2]
            exact ⟨by simp only; omega, [], rfl, fun _ _ => rfl⟩
          · simp at h1
        · simp at h1
    · unfold oLookup at h
      simp only [Option.bind_eq_some_iff] at h
      obtain ⟨_, _, _, _, h⟩ := h
      obtain ⟨v, h1, _, rfl⟩ := ret1_some h
      first | exact ext_refl _ | exact ext_put _ _ _
    · unfold oMapup at h
      simp only [Option.bind_eq_some_iff] at h
      obtain ⟨_, _, _, _, _, _, h⟩ := h
      obtain ⟨h1, _⟩ := ret0_some h
      exact vmapup_nx h1
    · unfold oMapup at h
      simp only [Option.bind_eq_some_iff] at h
      obtain ⟨_, _, _, _, _, _, h⟩ := h
      obtain ⟨h1, _⟩ := ret0_some h
      exact vmapup_nx h1
    · unfold oEntry at h
      simp only [Option.bind_eq_some_iff] at h
      obtain ⟨_, _, _, _, h⟩ := h
      obtain ⟨v, h1, _⟩ := ret2_some h
      exact vmapentry_nx h1
    · unfold oEntrySt at h
      simp only [Option.bind_eq_some_iff] at h
      obtain ⟨_, _, _, _, _, _, h⟩ := h
      obtain ⟨h1, _⟩ := ret0_some h
      exact ventryst_nx h1
    · unfold oRange at h
      simp only [Option.bind_eq_some_iff] at h
      obtain ⟨_, _, _, _, h⟩ := h
      split at h
      · obtain ⟨v, h1, _⟩ := ret2_some h
        simp only [Option.bind_eq_some_iff, Option.some.injEq, Prod.mk.injEq] at h1
        obtain ⟨⟨_, _⟩, h1, _, rfl⟩ := h1
        exact new_nx h1
      · split at h
        · obtain ⟨v, h1, _⟩ := ret2_some h
          simp only [Option.bind_eq_some_iff, Option.some.injEq, Prod.mk.injEq] at h1
          obtain ⟨⟨_, _⟩, h1, _, rfl⟩ := h1
          exact new_nx h1
        · simp at h
      · simp at h
    · unfold oNext at h
      split at h
      · simp at h
      · simp only [Option.bind_eq_some_iff] at h
        obtain ⟨_, _, h⟩ := h
        obtain ⟨v, h1, _⟩ := ret2_some h
        exact vnext_nx h1
    · unfold oIter at h
      simp only [Option.bind_eq_some_iff] at h
      obtain ⟨_, _, h⟩ := h
      obtain ⟨v, _, _, rfl⟩ := ret1_some h
      exact ext_refl _
    · unfold oPanic at h
      simp only [Option.bind_eq_some_iff] at h
      obtain ⟨_, _, h⟩ := h
      split at h
      · simp only [Option.some.injEq, Prod.mk.injEq] at h; rw [← h.2]; first | exact ext_refl _ | exact ext_put _ _ _
      · simp at h
    · unfold oCall at h
      split at h
      · simp only [Option.bind_eq_some_iff] at h
        obtain ⟨_, _, h⟩ := h
        exact vbuiltin_nx h
      · simp only [Option.bind_eq_some_iff] at h
        obtain ⟨_, _, _, _, h⟩ := h
        split at h
        · exact hcall _ _ _ _ _ h
        · simp at h
      · simp only [Option.bind_eq_some_iff] at h
        obtain ⟨_, _, _, _, h⟩ := h
        split at h
        · simp only [Option.bind_eq_some_iff] at h
          obtain ⟨_, _, h⟩ := h
          exact hcall _ _ _ _ _ h
        · simp at h
    · simp at h
end Go.Proofs.YtaahfdjobpbpjaaGreatDoor
