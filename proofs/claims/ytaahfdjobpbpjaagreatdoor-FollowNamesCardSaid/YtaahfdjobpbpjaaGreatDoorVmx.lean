/- Vmx: what the machine is told of the document's mixing, and that it is so. By this project. -/
import Derived.Test.YtaahfdjobpbpjaaGreatDoorMx2
import Derived.Test.YtaahfdjobpbpjaaGreatDoorWk
set_option linter.unusedVariables false
set_option linter.unusedSectionVars false
set_option linter.unusedSimpArgs false
set_option maxRecDepth 100000
namespace Go.Proofs.YtaahfdjobpbpjaaGreatDoor
open Go.RowKit Go.Extern.Stop

noncomputable def mixExt (nb gk : Nat) : CallF := fun f args hp => match Nat.beq f nb, args with
  | true, [.agg s, .sl (some (h, o)) n _ _] => match Nat.beq n 64 && (!Nat.beq h gk && (Nat.blt gk gMax && isK hp gk)) with
    | true => (mapO asW s).bind fun ws => ((loadV hp h o 64).bind (mapO asB)).bind fun bs => match Nat.beq ws.length 8 && Nat.beq bs.length 64 with
      | true => some (.v (.agg ((blkF8 ws bs).map wV)), hp)
      | false => none
    | false => none
  | _, _ => none
theorem mapW_wV : ∀ {l : List V} {ws : List Nat}, mapO asW l = some ws → l = ws.map wV
  | [], ws, h => by simp [mapO_nil] at h; subst h; rfl
  | v :: r, ws, h => by
    rw [mapO_cons] at h
    cases hv : asW v with
    | none => rw [hv] at h; simp at h
    | some y =>
      rw [hv] at h
      cases hl : mapO asW r with
      | none => rw [hl] at h; simp at h
      | some ys =>
        rw [hl] at h
        simp at h
        subst h
        rw [mapW_wV hl, List.map_cons]
        congr 1
        unfold asW at hv
        split at hv
        · rename_i m
          split at hv
          · rename_i hb
            simp only [Option.some.injEq] at hv
            subst hv
            have hb : m < 4294967296 := by simpa [Nat.blt_eq] using hb
            show V.i .u32 (.ofNat m) = V.i .u32 (.ofNat (m % 4294967296))
            rw [Nat.mod_eq_of_lt hb]
          · simp at hv
        · simp at hv
theorem mapB_byV : ∀ {l : List V} {bs : List Nat}, mapO asB l = some bs → l = (bs.map UInt8.ofNat).map byV
  | [], bs, h => by simp [mapO_nil] at h; subst h; rfl
  | v :: r, bs, h => by
    rw [mapO_cons] at h
    cases hv : asB v with
    | none => rw [hv] at h; simp at h
    | some y =>
      rw [hv] at h
      cases hl : mapO asB r with
      | none => rw [hl] at h; simp at h
      | some ys =>
        rw [hl] at h
        simp at h
        subst h
        rw [mapB_byV hl, List.map_cons, List.map_cons]
        congr 1
        have h2 := (asB_ren hv (fun _ => none)).2
        unfold asB at hv
        split at hv
        · rename_i m
          split at hv
          · simp only [Option.some.injEq] at hv
            subst hv
            show V.i .u8 (.ofNat m) = V.i .u8 (.ofNat (UInt8.ofNat m).toNat)
            rw [h2]
          · simp at hv
        · simp at hv
set_option maxHeartbeats 1000000 in
theorem mixExt_ok : CallOk Tryz.prog (mixExt 146 6) := by
  intro f args hp r hp' h
  unfold mixExt at h
  split at h
  · rename_i s h0 o n c op hf
    have hf := Nat.eq_of_beq_eq_true hf
    subst hf
    split at h
    · rename_i hb
      simp only [Bool.and_eq_true] at hb
      obtain ⟨b1, b2, b3, b4⟩ := hb
      obtain rfl := Nat.eq_of_beq_eq_true b1
      have b2 : h0 ≠ 6 := fun e => by subst e; simp at b2
      simp only [Option.bind_eq_some_iff] at h
      obtain ⟨ws, hws, bs, ⟨l, hl, hbs⟩, h⟩ := h
      split at h
      · rename_i hlen
        simp only [Bool.and_eq_true] at hlen
        have l1 := Nat.eq_of_beq_eq_true hlen.1
        have l2 := Nat.eq_of_beq_eq_true hlen.2
        simp only [Option.some.injEq, Prod.mk.injEq] at h
        obtain ⟨rfl, rfl⟩ := h
        refine ⟨ext_refl _, by kernel_rfl, fun E w vargs hR hG hA hF => ?_⟩
        obtain ⟨_, hB2⟩ := mapB_ren hbs (E := E)
        obtain rfl := mapW_wV hws
        obtain rfl := mapB_byV hbs
        -- the small memory
        have hl : (cellsAt hp h0).bind (fun cs => cutL cs o 64) = some ((bs.map UInt8.ofNat).map byV) := hl
        simp only [Option.bind_eq_some_iff] at hl
        obtain ⟨cs, hca, hcut⟩ := hl
        obtain ⟨q1, q2, q3⟩ := cutL_some hcut
        have hobj : ∃ T oo mk, hp.t.get h0 = some (.cells cs T oo mk) := by
          unfold cellsAt Hp.get at hca
          split at hca
          · rename_i hg
            simp only [Option.some.injEq] at hca
            subst hca
            exact ⟨_, _, _, hg⟩
          · simp at hca
        obtain ⟨T, oo, mk, hobj⟩ := hobj
        have hgk : ∃ Tk, hp.t.get 6 = some (.cells (kW.map wV) Tk none false) := by
          unfold isK at b4
          split at b4
          · rename_i kcs Tk hgk
            split at b4
            · rename_i ks hks
              obtain rfl := eqN_eq b4
              obtain rfl := mapW_wV hks
              exact ⟨Tk, hgk⟩
            · simp at b4
          · simp at b4
        obtain ⟨Tk, hgk⟩ := hgk
        have hgm : 6 < gMax := by simpa [Nat.blt_eq] using b3
        obtain ⟨b, ex, pre, lv, sp, fz, g1, g2, g3, g4, g5, g6, g7, g8⟩ := rep_cells hR hobj
        have hsplit : cs = cs.take o ++ ((bs.map UInt8.ofNat).map byV ++ cs.drop (o + 64)) := by
          rw [q1, ← List.drop_drop, List.take_append_drop, List.take_append_drop]
        rw [hsplit] at g3
        obtain ⟨l1', r1, g31, g32, rfl⟩ := renL_splitA g3
        obtain ⟨lb, l3, g33, g34, rfl⟩ := renL_splitA g32
        have hto : l1'.length = o := by
          have := renL_len g31
          simp at this
          omega
        have hbE : ∀ F : Env, renL F ((bs.map UInt8.ofNat).map byV) = some lb := fun F => by
          have h1 := (mapB_ren hbs (E := F)).1
          rw [(mapB_ren hbs (E := E)).1] at g33
          rw [h1, ← g33]
        obtain ⟨hpS, get, hnx⟩ : ∃ q : Hp, (∀ x, q.t.get x = if x = 6 then some (.cells (kW.map wV) Tk none false) else if x = 65 then some (.cells ((bs.map UInt8.ofNat).map byV) T (some 1) true) else none) ∧ q.nx = 66 := by
          refine ⟨⟨((Tr.lf : Tr VO).set 65 (some (.cells ((bs.map UInt8.ofNat).map byV) T (some 1) true))).set 6 (some (.cells (kW.map wV) Tk none false)), 66, []⟩, fun x => ?_, rfl⟩
          have : (Tr.lf : Tr VO).get x = none := by rw [Tr.get_eq, tr_get_lf]
          simp only [Tr.get_set, this]
        have hne : (65 : Nat) ≠ 6 := by decide
        obtain ⟨E2, hgl, e65, eno⟩ : ∃ E2 : Env, GlE E2 ∧ E2 65 = some (b, pre.length + o, l3.length + sp.length) ∧ ∀ x, 66 ≤ x → E2 x = none := ⟨fun x => if x < gMax then some (x, 0, 0) else if x = 65 then some (b, pre.length + o, l3.length + sp.length) else none, fun g hg => if_pos hg, rfl, fun x hx => by
          have : gMax = 64 := rfl
          show (if x < gMax then _ else if x = 65 then _ else _) = none
          rw [if_neg (by omega), if_neg (by omega)]⟩
        have egk : E2 6 = some (6, 0, 0) := hgl _ hgm
        have hOk : OkH hpS := ⟨fun x hx hr => by
          rw [hnx] at hx
          have : gMax = 64 := rfl
          rw [get, if_neg (by omega), if_neg (by omega)], by rw [hnx]; rfl⟩
        have hgE := hG _ hgm
        have hbk : b ≠ 6 := fun e => by
          rcases hR.inj _ _ _ _ _ _ hobj hgk g1 hgE e with q | q
          · exact b2 q
          · have : roB 6 = false := by kernel_rfl
            rw [this] at q; simp at q
        have hR2 : Rep E2 hpS.t w := by
          have two : ∀ x o', hpS.t.get x = some o' → (x = 6 ∧ o' = .cells (kW.map wV) Tk none false) ∨ (x = 65 ∧ o' = .cells ((bs.map UInt8.ofNat).map byV) T (some 1) true) := fun x o' hx => by
            rw [get] at hx
            split at hx
            · rename_i e1
              exact .inl ⟨e1, (Option.some.inj hx).symm⟩
            · split at hx
              · rename_i e1
                exact .inr ⟨e1, (Option.some.inj hx).symm⟩
              · simp at hx
          refine ⟨fun x o' hx => ?_, fun x y o1 o2 e1 e2 hx hy hex hey he => ?_⟩
          · rcases two x o' hx with ⟨rfl, rfl⟩ | ⟨rfl, rfl⟩
            · obtain ⟨e, y, k1, k2, pre', l', sp', fz', k3, k4⟩ := hR.has _ _ hgk
              rw [hgE] at k1
              obtain rfl := Option.some.inj k1
              refine ⟨_, y, egk, k2, pre', l', sp', fz', ?_, k4⟩
              rw [mapWV_ren] at k3 ⊢
              exact k3
            · refine ⟨_, _, e65, g2, pre ++ l1', lb, l3 ++ sp, fz, hbE E2, ?_, by simp [hto], by simp, fun e => by simp at e, fun s' hs' => ?_, fun e => by simp at e, by simpa using g8⟩
              · have := g4
                simp only [List.all_append, Bool.and_eq_true] at this
                exact this.2.1
              · simp only [Option.some.injEq] at hs'
                subst hs'
                simp
          · rcases two x o1 hx with ⟨rfl, rfl⟩ | ⟨rfl, rfl⟩ <;> rcases two y o2 hy with ⟨rfl, rfl⟩ | ⟨rfl, rfl⟩
            · exact .inl rfl
            · rw [egk] at hex
              rw [e65] at hey
              obtain rfl := Option.some.inj hex
              obtain rfl := Option.some.inj hey
              exact absurd he.symm hbk
            · rw [e65] at hex
              rw [egk] at hey
              obtain rfl := Option.some.inj hex
              obtain rfl := Option.some.inj hey
              exact absurd he hbk
            · exact .inl rfl
        have hrb : RO hpS (some (65, 0)) ((bs.map UInt8.ofNat).map byV) := ⟨fun b' o' e => by
          simp only [Option.some.injEq, Prod.mk.injEq] at e
          obtain ⟨rfl, rfl⟩ := e
          exact .inr rfl, fun j v hv => ⟨65, 0, rfl, by
            simp only [cellV, cellsAt, Hp.get, get, if_neg hne, if_true, Option.bind_some, Nat.zero_add]
            exact hv⟩⟩
        have hrk : RO hpS (some (6, 0)) (kW.map wV) := ⟨fun b' o' e => by
          simp only [Option.some.injEq, Prod.mk.injEq] at e
          obtain ⟨rfl, rfl⟩ := e
          exact .inl (by rw [hnx]; decide), fun j v hv => ⟨_, 0, rfl, by
            simp only [cellV, cellsAt, Hp.get, get, if_true, Option.bind_some, Nat.zero_add]
            exact hv⟩⟩
        have hm := mixed_v 65 0 (if op = true then c + ex else c) false ws (bs.map UInt8.ofNat) l1 (by simpa using l2) hOk hrb hrk
        unfold Fn at hm
        obtain ⟨r, hp'', ⟨M, hrun⟩, N', hsv, hstp, rfl⟩ := hm
        obtain ⟨_, _, key⟩ := vcall_ok0 ext0_ok extd0_ok M _ _ _ _ _ (hrun M (Nat.le_refl _))
        have hA2 : renL E2 [.agg (ws.map wV), .sl (some (65, 0)) 64 (if op = true then c + ex else c) false] = some vargs := by
          obtain ⟨x1, t1, k1, k2, rfl⟩ := renL_cons hA
          obtain ⟨x2, t2, k3, k4, rfl⟩ := renL_cons k2
          simp only [renL, Option.some.injEq] at k4
          subst k4
          have k5 : ren E2 (.agg (ws.map wV)) = some x1 := by
            rw [← k1]
            simp only [ren, mapWV_ren]
          have k6 : ren E2 (.sl (some (65, 0)) 64 (if op = true then c + ex else c) false) = some x2 := by
            rw [← k3]
            simp only [ren, e65, g1, Option.map_some, Nat.add_zero]
            simp
          simp only [renL, k5, k6]
          rfl
        refine (key E2 w vargs hR2 hgl hA2 (fun x h1 h2 => ?_)).mono ?_
        · rw [hnx] at h1
          exact eno x h1
        · rintro e w' ⟨E', hO, x, hx, rfl⟩
          have hW1 : Whole1 E2 hpS.t := fun x o' hx hr => by
            rw [get] at hx
            split at hx
            · rename_i e1
              subst e1
              exact ⟨_, _, _, (Option.some.inj hx).symm, egk⟩
            · split at hx
              · rename_i e1
                subst e1
                have : roB 65 = true := by kernel_rfl
                rw [this] at hr; simp at hr
              · simp at hx
          refine ⟨E, out_kept hR (keep_all hW1 hOk hR2 hO hsv) hO.frm.os hO.frm.tape hO.frm.output hO.frm.size, x, ?_, rfl⟩
          rw [blkF8_eq _ _ hB2 l1]
          rw [← hx]
          simp only [ren, mapWV_ren]
      · simp at h
    · simp at h
  · simp at h
end Go.Proofs.YtaahfdjobpbpjaaGreatDoor
