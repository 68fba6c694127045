/- Vi: the machine's conversions, maps, walks over maps, against the world's. By this project. -/
import Derived.Test.YtaahfdjobpbpjaaGreatDoorVh
set_option linter.unusedVariables false
set_option linter.unusedSectionVars false
set_option linter.unusedSimpArgs false
namespace Go.Proofs.YtaahfdjobpbpjaaGreatDoor
open Go.RowKit Go.Extern.Stop

section
variable {P : Program} {C : Cx} (hC : COk P C) {E : Env} {hp : Hp} {w : World} {fr : Tr V} {a : Act}
theorem asBy_ints : ∀ {cs : List V} {bs : List UInt8} {L : List Value}, mapO asBy cs = some bs → renL E cs = some L → ∃ ns : List Int, L = ns.map (Value.int .u8) ∧ ns.map (fun n => UInt8.ofNat n.toNat) = bs
  | [], bs, L, h, hL => by simp [mapO_nil] at h; simp [renL] at hL; subst h hL; exact ⟨[], rfl, rfl⟩
  | v :: r, bs, L, h, hL => by
    obtain ⟨x, t, h1, h2, rfl⟩ := renL_cons hL
    rw [mapO_cons] at h
    cases hv : asBy v with
    | none => rw [hv] at h; simp at h
    | some b =>
      rw [hv] at h
      cases hr : mapO asBy r with
      | none => rw [hr] at h; simp at h
      | some q =>
        rw [hr] at h
        simp only [Option.some.injEq] at h
        subst h
        obtain ⟨ns, rfl, hns⟩ := asBy_ints hr h2
        unfold asBy at hv
        split at hv
        · rename_i n
          simp only [Option.some.injEq] at hv
          subst hv
          simp only [ren, Option.some.injEq] at h1
          subst h1
          exact ⟨(Int.ofNat n) :: ns, rfl, by simp [hns]⟩
        · simp at hv
theorem push_all : ∀ (ns : List Int) (r : ByteArray), ns.foldl (fun r n => r.push (UInt8.ofNat n.toNat)) r = ⟨r.data ++ (ns.map fun n => UInt8.ofNat n.toNat).toArray⟩
  | [], r => by simp
  | n :: ns, r => by
    simp only [List.foldl_cons]
    rw [push_all ns]
    simp [ByteArray.push]
include hC
theorem vconv_ok {s t : TypeId} {x v : V} {X : Value} {hp' : Hp} (hR : Rep E hp.t w) (h : vconv C hp s t x = some (v, hp')) (hX : ren E x = some X) : OkV P E hp w (convert s t X) v hp' := by
  simp only [vconv, lenF_eq, Option.bind_eq_some_iff] at h
  obtain ⟨si, hsi, ti, hti, h⟩ := h
  have hS := tiV_ok hC hsi
  have hT := tiV_ok hC hti
  obtain ⟨DS, uS, dS, rS⟩ := hS.run_und w
  split at h
  · rename_i k j n hd
    simp only [Option.some.injEq, Prod.mk.injEq] at h
    obtain ⟨rfl, rfl⟩ := h
    simp only [ren, Option.some.injEq] at hX
    subst hX
    exact okv_same hR (by simp [convert, rS, run_underlying (hT.int hd) w, Conv.intToInt]) rfl
  · rename_i b hd
    simp only [Option.some.injEq, Prod.mk.injEq] at h
    obtain ⟨rfl, rfl⟩ := h
    simp only [ren, Option.some.injEq] at hX
    subst hX
    exact okv_same hR (by simp [convert, rS, run_underlying (hT.str hd) w]) rfl
  · rename_i e b hsd hd
    simp only [Option.bind_eq_some_iff] at h
    obtain ⟨ei, hei, h⟩ := h
    have hei := tiV_ok hC hei
    split at h
    · rename_i hed
      simp only [Option.bind_eq_some_iff, Option.some.injEq, Prod.mk.injEq] at h
      obtain ⟨⟨h', hp1⟩, hn, rfl, rfl⟩ := h
      simp only [ren, Option.some.injEq] at hX
      subst hX
      have hrun := run_bytes_of_string (P := P) w s t e ⟨b.toArray⟩ (hS.str hsd) (hT.sl hd) (hei.int hed)
      have hn' := new_some hn
      have hsz : (⟨b.toArray⟩ : ByteArray).size = b.length := by simp [ByteArray.size]
      rw [hsz] at hrun
      have hcap : b.length ≤ grownCap w b.length 0 e := by unfold grownCap Question.cut; exact Nat.le_add_right _ _
      refine ⟨by simp only; omega, fun hf => ?_⟩
      have hobj : ObjRep E (.cells (b.map byV) e (some 1) true) (w.drew.heap.size, 0, grownCap w b.length 0 e - b.length) (.cells (bytesRow ⟨b.toArray⟩ (grownCap w b.length 0 e)) e ((bytesRow ⟨b.toArray⟩ (grownCap w b.length 0 e)).size, (bytesRow ⟨b.toArray⟩ (grownCap w b.length 0 e)).size + 1)) := by
        have hbr : bytesRow ⟨b.toArray⟩ (grownCap w b.length 0 e) = ([] ++ (b.map fun (c : UInt8) => Value.int .u8 c.toNat) ++ List.replicate (grownCap w b.length 0 e - b.length) (Value.int .u8 0)).toArray := by
          apply Array.ext'
          simp [bytesRow, hsz]
        refine ⟨[], b.map fun (c : UInt8) => Value.int .u8 c.toNat, List.replicate (grownCap w b.length 0 e - b.length) (Value.int .u8 0), ((bytesRow ⟨b.toArray⟩ (grownCap w b.length 0 e)).size, (bytesRow ⟨b.toArray⟩ (grownCap w b.length 0 e)).size + 1), bytes_cells b, ?_, rfl, by rw [← hbr], fun h => by simp at h, fun q hq => ?_, fun h => by simp at h, .inr ?_⟩
        · simp [List.all_eq_true]; intros; rfl
        · simp at hq; subst hq; simp
        · rw [hbr]; simp
      obtain ⟨q1, rfl, q2, q3⟩ := out_new (E := E) (w := w.drew) hn (hR.same rfl) hf hobj
      exact ⟨_, _, _, hrun, by
        simp only [ren, q3, Option.map_some, if_true]
        congr 2
        omega, (out_same (w' := w.drew) (hp' := hp) hR rfl rfl rfl rfl rfl).trans q2 (Nat.le_refl _) q1⟩
    · simp at h
  · rename_i e0 e b o l c op hsd hd
    split at h
    · rename_i hst
      have hst := Nat.eq_of_beq_eq_true hst
      subst hst
      simp only [Option.bind_eq_some_iff] at h
      obtain ⟨ei, hei, h⟩ := h
      have hei := tiV_ok hC hei
      split at h
      · rename_i hed
        split at h
        · rename_i cs t' op' mk hg
          obtain ⟨hg, hro⟩ := getW_some hg
          simp only [Option.some.injEq, Prod.mk.injEq] at h
          obtain ⟨rfl, rfl⟩ := h
          simp only [ren, Option.map_eq_some_iff] at hX
          obtain ⟨⟨B, k, ex⟩, he, rfl⟩ := hX
          obtain ⟨b', ex', pre, lv, sp, fz, h1, h2, h3, h4, h5, h6, h7, h8⟩ := rep_cells hR hg
          rw [he] at h1
          simp only [Option.some.injEq, Prod.mk.injEq] at h1
          obtain ⟨rfl, rfl, rfl⟩ := h1
          have hsh : w.shape? B = some (t', (pre ++ lv ++ sp).length) := by simp only [World.shape?, h2]; simp
          refine ⟨Nat.le_refl _, fun _ => ⟨.slice (some ⟨B, pre.length + o, none⟩) l (if op = true then c + ex else c), w.freeze ⟨B, (pre ++ lv ++ sp).length, none⟩ 1, E, ?_, by simp only [ren, he, Option.map_some], ?_⟩⟩
          · simp only [convert, Sem.run_bind, run_underlying (hT.sl hd) w, Result.andThen_ok]
            simp [run_underlying (hei.int hed) w, markStringish, hsh]
          · refine out_put hro hR hg he (x' := .cells (pre ++ lv ++ sp).toArray t' ((pre ++ lv ++ sp).length, (pre ++ lv ++ sp).length + 1)) ⟨pre, lv, sp, _, h3, h4, rfl, rfl, h5, h6, fun h => by simp at h, .inr rfl⟩ ?_ (fun j hj => ?_) (by simp [World.freeze]) rfl rfl rfl
            · rcases h8 with rfl | rfl <;> simp [World.freeze, Array.getElem?_modify, h2]
            · simp [World.freeze, Array.getElem?_modify, Ne.symm hj]
        · simp at h
      · simp at h
    · simp at h
  · rename_i e b o hsd hd
    simp only [Option.bind_eq_some_iff] at h
    obtain ⟨ei, hei, h⟩ := h
    have hei := tiV_ok hC hei
    split at h
    · simp at h
    · rename_i hz
      simp only [Option.bind_eq_some_iff, Option.some.injEq, Prod.mk.injEq] at h
      obtain ⟨cs, hcs, q, hq, rfl, rfl⟩ := h
      have hc : cutL cs o 1 = some [q] := by
        rw [getL_eq] at hq
        have hl := (List.getElem?_eq_some_iff.1 hq).1
        rw [cutL_mk (by omega)]
        simp only [Option.some.injEq]
        rw [List.drop_eq_getElem_cons hl, List.take_succ_cons, List.take_zero]
        rw [List.getElem?_eq_getElem hl] at hq
        rw [Option.some.inj hq]
      obtain ⟨B, k, ex, L, g1, g2, g3, g4, g5⟩ := cellsAt_ok hR hcs hc
      obtain ⟨y, t', k1, k2, rfl⟩ := renL_cons g2
      simp only [ren, Option.map_eq_some_iff] at hX
      obtain ⟨⟨B', k', ex'⟩, he, rfl⟩ := hX
      rw [g1] at he
      simp only [Option.some.injEq, Prod.mk.injEq] at he
      obtain ⟨rfl, rfl, rfl⟩ := he
      obtain ⟨i, hi, hisz, _⟩ := hei.info
      refine okv_same hR (run_convert_to_unsafe (hS.ptr hsd) (hT.usf hd) (by
        rw [hi]
        simp only [Option.map_some, Option.some.injEq, decide_eq_false_iff_not]
        intro e
        rw [hisz] at e
        rw [e] at hz
        simp at hz) (v := y) ?_) (by simp only [ren, g1, Option.map_some])
      have := g5 0 y (by simp)
      simpa using this
  · rename_i e A l c op hsd hd
    simp only [Option.bind_eq_some_iff] at h
    obtain ⟨ei, hei, h⟩ := h
    have hei := tiV_ok hC hei
    split at h
    · rename_i hed
      split at h
      · simp only [Option.some.injEq, Prod.mk.injEq] at h
        obtain ⟨rfl, rfl⟩ := h
        simp only [ren, Option.some.injEq] at hX
        subst hX
        refine okv_same hR (x := .string ⟨#[]⟩) ?_ rfl
        rw [run_convert_bytes_string w s t e none _ _ (hS.sl hsd) (hei.int hed) (hT.str hd)]
        rfl
      · rename_i b o
        simp only [Option.bind_eq_some_iff, Option.some.injEq, Prod.mk.injEq] at h
        obtain ⟨cs, hcs, bs, hbs, rfl, rfl⟩ := h
        simp only [ren, Option.map_eq_some_iff] at hX
        obtain ⟨⟨B, k, ex⟩, he, rfl⟩ := hX
        obtain ⟨L, g1, g2, g3, g4⟩ := loadV_ok hR hcs
        obtain ⟨ns, rfl, hns⟩ := asBy_ints hbs g1
        refine okv_same hR (x := .string ⟨bs.toArray⟩) ?_ rfl
        rw [run_convert_bytes_string w s t e _ _ _ (hS.sl hsd) (hei.int hed) (hT.str hd)]
        have hl := run_loadCells_list (P := P) w ⟨B, k + o, none⟩ (ns.map (Value.int .u8)) (fun j v hv => by rw [Addr.add_mid]; exact g4 B k ex he j v hv)
        rw [g2] at hl
        rw [run_bytesToString w _ l _ ns hl, push_all, hns]
        congr 2
        have : ByteArray.empty.data = #[] := rfl
        rw [this]; simp
    · simp at h
  · simp at h
end
end Go.Proofs.YtaahfdjobpbpjaaGreatDoor
