/- Vc: the machine's code, against the world's. By this project. -/
import Derived.Test.YtaahfdjobpbpjaaGreatDoorVf
set_option linter.unusedVariables false
set_option linter.unusedSectionVars false
set_option linter.unusedSimpArgs false
namespace Go.Proofs.YtaahfdjobpbpjaaGreatDoor
open Go.RowKit Go.Extern.Stop

section
variable {P : Program} {C : Cx} (hC : COk P C) {call : CallF} (hcall : CallOk P call)
include hC hcall
omit hC in
theorem vcode_ext : ∀ (n : Nat) (c : Code) (s : Sv) (ex : Ex) (s' : Sv), vcode C call n c s = some (ex, s') → Ext s.hp s'.hp
  | 0, c, s, ex, s', h => by simp [vcode] at h
  | n + 1, c, s, ex, s', h => by
    unfold vcode at h
    split at h
    · simp only [Option.some.injEq, Prod.mk.injEq] at h; rw [← h.2]; exact ext_refl _
    · simp only [Option.some.injEq, Prod.mk.injEq] at h; rw [← h.2]; exact ext_refl _
    · simp only [Option.some.injEq, Prod.mk.injEq] at h; rw [← h.2]; exact ext_refl _
    · simp only [Option.some.injEq, Prod.mk.injEq] at h; rw [← h.2]; exact ext_refl _
    · simp only [Option.bind_eq_some_iff] at h
      obtain ⟨⟨e1, s1⟩, h1, h⟩ := h
      have k1 := vcode_ext n _ _ _ _ h1
      split at h
      · have k2 := vcode_ext n _ _ _ _ h
        exact k1.trans k2
      · simp only [Option.some.injEq, Prod.mk.injEq] at h; rw [← h.2]; exact k1
    · simp only [Option.bind_eq_some_iff] at h
      obtain ⟨v, hv, h⟩ := h
      split at h
      · exact vcode_ext n _ _ _ _ h
      · exact vcode_ext n _ _ _ _ h
      · simp at h
    · simp only [Option.bind_eq_some_iff] at h
      obtain ⟨⟨e1, s1⟩, h1, h⟩ := h
      have k1 := vcode_ext n _ _ _ _ h1
      split at h
      · split at h <;> (simp only [Option.some.injEq, Prod.mk.injEq] at h; rw [← h.2]; exact k1)
      · simp only [Option.some.injEq, Prod.mk.injEq] at h; rw [← h.2]; exact k1
    · simp only [Option.bind_eq_some_iff] at h
      obtain ⟨⟨e1, s1⟩, h1, h⟩ := h
      have k1 := vcode_ext n _ _ _ _ h1
      split at h
      · have k2 := vcode_ext n _ _ _ _ h
        exact k1.trans k2
      · simp only [Option.some.injEq, Prod.mk.injEq] at h; rw [← h.2]; exact k1
    · exact vcode_ext n _ _ _ _ h
    · split at h
      · simp only [Option.bind_eq_some_iff] at h
        obtain ⟨⟨e1, s1⟩, h1, h⟩ := h
        have k1 := vlist_ext hcall _ _ _ _ h1
        split at h <;> (simp only [Option.some.injEq, Prod.mk.injEq] at h; rw [← h.2]; exact k1)
      · dsimp only at h
        split at h
        · simp only [Option.bind_eq_some_iff, Option.some.injEq, Prod.mk.injEq] at h
          obtain ⟨d, h1, h2, h3⟩ := h
          rw [← h3]
          exact vdraw_nx hcall.nx _ _ _ _ h1
        · simp at h
    · simp at h
theorem vcode_nx (n : Nat) (c : Code) (s : Sv) (ex : Ex) (s' : Sv) (h : vcode C call n c s = some (ex, s')) : s.hp.nx ≤ s'.hp.nx := (vcode_ext hcall n c s ex s' h).nx
/-- A loop's head: where its body begins. -/
def LoopWp (P : Program) (c : Code) (Q : Exit → Act → World → Prop) (a : Act) (w : World) : Prop :=
  ∀ (b : Frame) (k : List Item) (cs : List Frame), ∃ e a' w', Q e a' w' ∧ Arrives P (lone (b.at a (.code c :: .inLoop c :: k)) cs w) b k cs e a' w'
omit hC hcall in
theorem loopWp_step {c : Code} {Q : Exit → Act → World → Prop} {a : Act} {w : World} (h : c.wp P (Exit.then (LoopWp P c Q) Q) a w) : LoopWp P c Q a w := by
  intro b k cs
  obtain ⟨e, a1, w1, hq, harr⟩ := h b (.inLoop c :: k) cs
  cases e with
  | normal =>
    obtain ⟨e2, a2, w2, hq2, harr2⟩ := hq b k cs
    exact ⟨e2, a2, w2, hq2, .of_steps (Steps.trans harr (.one step_inLoop)) harr2⟩
  | exit id => exact ⟨_, a1, w1, hq, .pass (x := .inLoop c) rfl (fun _ _ => .inl (by simp)) harr⟩
  | goto l => exact ⟨_, a1, w1, hq, .pass (x := .inLoop c) rfl (fun _ _ => .inl (by simp)) harr⟩
  | ret => exact ⟨_, a1, w1, hq, .pass (x := .inLoop c) rfl (fun _ _ => .inl (by simp)) harr⟩
  | panic ch => exact ⟨_, a1, w1, hq, .pass (x := .inLoop c) rfl (fun _ _ => .inl (by simp)) harr⟩
  | outgrown => exact ⟨_, a1, w1, hq, .pass (x := .inLoop c) rfl (fun _ _ => .inl (by simp)) harr⟩
omit hC hcall in
theorem wp_of_loopWp {c : Code} {Q : Exit → Act → World → Prop} {a : Act} {w : World} (h : LoopWp P c Q a w) : (Code.loop c).wp P Q a w := fun b k cs => by
  obtain ⟨e, a', w', hq, harr⟩ := h b k cs
  exact ⟨e, a', w', hq, .of_steps (.one step_loop) harr⟩
omit hC hcall in
/-- One after another. -/
theorem post_then {E E1 : Env} {s s1 s2 : Sv} {w w1 : World} {ex : Ex} {e : Exit} {a1 : Act} {K Q : Exit → Act → World → Prop} (h : Post E s w ex s1 e a1 w1) (hn : ex = .norm → ∀ E1, Out E s.hp w E1 s1.hp w1 → SvR E1 s1 a1 w1 → K .normal a1 w1) (ho : ex ≠ .norm → Q e a1 w1) : Exit.then (fun a w => K .normal a w) Q e a1 w1 := by
  obtain ⟨E1, h1, h2, h3⟩ := h
  cases ex <;> cases e <;> first | exact h1.elim | exact hn rfl E1 h2 h3 | exact ho (by simp)
theorem vcode_ok : ∀ (n : Nat), (∀ (c : Code) (s : Sv) (ex : Ex) (s' : Sv), vcode C call n c s = some (ex, s') → ∀ E a w, SvR E s a w → Free E s.hp.nx s'.hp.nx → c.wp P (Post E s w ex s') a w) ∧
    (∀ (c : Code) (s : Sv) (ex : Ex) (s' : Sv), vcode C call n (.loop c) s = some (ex, s') → ∀ E a w, SvR E s a w → Free E s.hp.nx s'.hp.nx → LoopWp P c (Post E s w ex s') a w)
  | 0 => ⟨fun c s ex s' h => by simp [vcode] at h, fun c s ex s' h => by simp [vcode] at h⟩
  | n + 1 => by
    obtain ⟨ihA, ihB⟩ := vcode_ok n
    have B : ∀ (c : Code) (s : Sv) (ex : Ex) (s' : Sv), vcode C call (n + 1) (.loop c) s = some (ex, s') → ∀ E a w, SvR E s a w → Free E s.hp.nx s'.hp.nx → LoopWp P c (Post E s w ex s') a w := by
      intro c s ex s' h E a w hS hf
      simp only [vcode, Option.bind_eq_some_iff] at h
      obtain ⟨⟨e1, s1⟩, h1, h⟩ := h
      have k1 := vcode_nx hC hcall n _ _ _ _ h1
      split at h
      · have k2 := vcode_nx hC hcall n _ _ _ _ h
        refine loopWp_step (wp_mono (ihA _ _ _ _ h1 E a w hS (hf.mono (Nat.le_refl _) k2)) fun e a1 w1 hp => ?_)
        obtain ⟨E1, h3, h4, h5⟩ := hp
        rename_i he1
        simp only at he1
        subst he1
        cases e <;> first | exact h3.elim | skip
        intro b k cs
        obtain ⟨e2, a2, w2, hq, harr⟩ := ihB _ _ _ _ h E1 a1 w1 h5 (h4.free (hf.mono k1 (Nat.le_refl _)) (Nat.le_refl _)) b k cs
        exact ⟨e2, a2, w2, Post.trans h4 k1 k2 hq, harr⟩
      · rename_i hne
        simp only [Option.some.injEq, Prod.mk.injEq] at h
        obtain ⟨rfl, rfl⟩ := h
        refine loopWp_step (wp_mono (ihA _ _ _ _ h1 E a w hS hf) fun e a1 w1 hp => ?_)
        obtain ⟨E1, h3, h4, h5⟩ := hp
        cases e1 <;> cases e <;> first | exact h3.elim | exact absurd rfl hne | exact ⟨E1, h3, h4, h5⟩
    refine ⟨fun c s ex s' h E a w hS hf => ?_, B⟩
    cases c with
    | loop c => exact wp_of_loopWp (B c s ex s' h E a w hS hf)
    | skip =>
      simp only [vcode, Option.some.injEq, Prod.mk.injEq] at h
      obtain ⟨rfl, rfl⟩ := h
      exact wp_skip ⟨E, trivial, out_refl hS.rep, hS⟩
    | label l =>
      simp only [vcode, Option.some.injEq, Prod.mk.injEq] at h
      obtain ⟨rfl, rfl⟩ := h
      exact wp_label ⟨E, trivial, out_refl hS.rep, hS⟩
    | ret =>
      simp only [vcode, Option.some.injEq, Prod.mk.injEq] at h
      obtain ⟨rfl, rfl⟩ := h
      exact wp_ret ⟨E, trivial, out_refl hS.rep, hS⟩
    | exit id =>
      simp only [vcode, Option.some.injEq, Prod.mk.injEq] at h
      obtain ⟨rfl, rfl⟩ := h
      exact wp_exit ⟨E, rfl, out_refl hS.rep, hS⟩
    | seq x y =>
      simp only [vcode, Option.bind_eq_some_iff] at h
      obtain ⟨⟨e1, s1⟩, h1, h⟩ := h
      have k1 := vcode_nx hC hcall n _ _ _ _ h1
      split at h
      · have k2 := vcode_nx hC hcall n _ _ _ _ h
        refine wp_seq (wp_mono (ihA _ _ _ _ h1 E a w hS (hf.mono (Nat.le_refl _) k2)) fun e a1 w1 hp => ?_)
        obtain ⟨E1, h3, h4, h5⟩ := hp
        rename_i he1
        simp only at he1
        subst he1
        cases e <;> first | exact h3.elim | skip
        exact wp_mono (ihA _ _ _ _ h E1 a1 w1 h5 (h4.free (hf.mono k1 (Nat.le_refl _)) (Nat.le_refl _))) fun e2 a2 w2 hq => Post.trans h4 k1 k2 hq
      · rename_i hne
        simp only [Option.some.injEq, Prod.mk.injEq] at h
        obtain ⟨rfl, rfl⟩ := h
        refine wp_seq (wp_mono (ihA _ _ _ _ h1 E a w hS hf) fun e a1 w1 hp => ?_)
        obtain ⟨E1, h3, h4, h5⟩ := hp
        cases e1 <;> cases e <;> first | exact h3.elim | exact absurd rfl hne | exact ⟨E1, h3, h4, h5⟩
    | cond q x y =>
      simp only [vcode, Option.bind_eq_some_iff] at h
      obtain ⟨v, hv, h⟩ := h
      have he := hS.fr.ev hv
      split at h
      · simp only [ren, Option.some.injEq] at he
        exact wp_cond_true he.symm (ihA _ _ _ _ h E a w hS hf)
      · simp only [ren, Option.some.injEq] at he
        exact wp_cond_false he.symm (ihA _ _ _ _ h E a w hS hf)
      · simp at h
    | block id c =>
      simp only [vcode, Option.bind_eq_some_iff] at h
      obtain ⟨⟨e1, s1⟩, h1, h⟩ := h
      have hs : s1 = s' := by
        split at h
        · split at h <;> (simp only [Option.some.injEq, Prod.mk.injEq] at h; exact h.2)
        · simp only [Option.some.injEq, Prod.mk.injEq] at h; exact h.2
      subst hs
      refine wp_block (wp_mono (ihA _ _ _ _ h1 E a w hS hf) fun e a1 w1 hp => ?_)
      obtain ⟨E1, h3, h4, h5⟩ := hp
      split at h
      · rename_i j hej
        simp only at hej
        subst hej
        cases e with
        | exit j' => ?_
        | _ => exact h3.elim
        have : j = j' := h3
        subst this
        simp only [Exit.inBlock]
        split at h
        · rename_i hb
          have hb := Nat.eq_of_beq_eq_true hb
          simp only [Option.some.injEq, Prod.mk.injEq] at h
          rw [if_pos hb]
          rw [← h.1]
          exact ⟨E1, trivial, h4, h5⟩
        · rename_i hb
          simp only [Option.some.injEq, Prod.mk.injEq] at h
          rw [if_neg (fun e => by rw [e] at hb; simp [Nat.beq_eq] at hb)]
          rw [← h.1]
          exact ⟨E1, rfl, h4, h5⟩
      · rename_i hne
        simp only [Option.some.injEq, Prod.mk.injEq] at h
        obtain ⟨rfl, _⟩ := h
        cases e1 <;> cases e <;> first | exact h3.elim | exact absurd rfl (hne _) | exact ⟨E1, h3, h4, h5⟩
    | scope c =>
      simp only [vcode] at h
      refine wp_scope_straight (wp_mono (ihA _ _ _ _ h E a w hS hf) fun e a' w' hp => ?_)
      cases e <;> first | exact hp | (obtain ⟨_, h3, _⟩ := hp; cases ex <;> exact h3.elim)
    | region id ops draw =>
      simp only [vcode] at h
      split at h
      · simp only [Option.bind_eq_some_iff] at h
        obtain ⟨⟨q, s1⟩, h1, h⟩ := h
        have hs : ex = exOf q ∧ s1 = s' := by
          split at h
          · rename_i hq
            simp only at hq
            subst hq
            simp only [Option.some.injEq, Prod.mk.injEq] at h
            exact ⟨h.1.symm, h.2⟩
          · rename_i hq
            simp only at hq
            subst hq
            simp only [Option.some.injEq, Prod.mk.injEq] at h
            exact ⟨h.1.symm, h.2⟩
        obtain ⟨rfl, rfl⟩ := hs
        have e0 : ops = ops.toList.toArray := by simp
        rw [e0]
        exact wp_region_lit (by simpa using vlist_ok hC hcall (ops := ops.toList) ops.toList s s1 q h1 E a w hS hf _ (fun _ _ _ h => h))
      · split at h
        · rename_i hchk
          simp only [Option.bind_eq_some_iff, Option.some.injEq, Prod.mk.injEq] at h
          obtain ⟨d, h1, rfl, rfl⟩ := h
          have := vdraw_ok (id := id) hC hcall hchk h1 hS hf
          simpa using this
        · simp at h
    | _ => simp [vcode] at h
end
end Go.Proofs.YtaahfdjobpbpjaaGreatDoor
