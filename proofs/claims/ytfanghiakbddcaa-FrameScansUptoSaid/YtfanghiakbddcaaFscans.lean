/- THE LAW FrameScans, where what it reads is of the small bulk: every First and Scan answers what the document says; payloads share no room. By this project. -/
import Derived.Test.YtfanghiakbddcaaScans
import Derived.Test.YtfanghiakbddcaaOpen
import Derived.JoinedCond
set_option linter.unusedVariables false
set_option linter.unusedSimpArgs false
namespace Go.Proofs.Ytfanghiakbddcaa
open Go.ChangeShapes Go.WideShapes Go.ChangeAt Go.RowKit Go.Extern.Stop

theorem fsOwn : ownKnob Try.prog.godebug = none := by kernel_rfl
theorem fsLaid : laidOutB Try.prog = true := by kernel_rfl
theorem fsU8 : Try.prog.cellsOf 5 = 1 := by kernel_rfl

set_option maxRecDepth 100000 in
theorem fsContract (H : Type) (enc : TypeId × Value → H) (W : World) (base : Nat) (args : Array Value) (ds gs : List (DataW H)) (before : List MemPlace)
    (hval : ∀ (j : Nat) t v, Try.f4.params[j]? = some t → args[j]? = some v → Value.okWide Try.prog W .any base t v)
    (hW : DataW.Whole enc Try.prog Try.f4.params.toList Rows.frameScansSpec.vars false W args.toList ds gs before) (hk : Rows.uptoSmall H (ds ++ gs) = true) :
    Calls Try.prog 4 args W fun e W' => ∃ v, e = .returned v ∧ Rows.frameScansSpec.post enc Try.prog Try.f4 false true false false W args v W' := by
  have hW' := hW
  obtain ⟨p, q, hA0, hV, rfl, hfz, hnd⟩ := hW
  have hA : DataW.TrodAll enc Try.prog W 0 (fun _ => true) true Try.f4.params.toList args.toList ds p := hA0
  rw [Try.params4] at hA hval
  obtain ⟨v0, vs0, d0, ds0, p0, q0, hargs, rfl, rfl, h0, r0⟩ := trodAll_cons hA
  obtain ⟨rfl, rfl, rfl⟩ := trodAll_nil r0
  obtain rfl : args = #[v0] := by cases args; simp_all
  obtain ⟨rfl, rfl⟩ := trodVars_none hV
  obtain ⟨xs, h0⟩ := open_bv (SliceT.h (P := Try.prog) (t := 22)) (IntT.h (P := Try.prog) (t := 5)) fsU8 (hval 0 _ v0 rfl rfl) h0
  obtain ⟨A, c, rfl, hc, hA1⟩ := h0.get
  have hb := of_decide_eq_true hk
  simp only [Rows.uptoBulkAll, List.append_nil] at hb
  have b0 := h0.bulk
  refine ((Scans_cl A c xs W hA1 (by omega) hc).calls).mono ?_
  rintro e W' ⟨v, N, rfl, hs, rfl⟩
  exact ⟨_, rfl, law_post (tb := 4) hW' fsLaid (by kernel_rfl) rfl (by kernel_rfl) rfl rfl rfl rfl hs.below⟩

set_option maxRecDepth 100000 in
theorem fsLifted (os : Os) (started : os.Started) (H : Type) (enc : TypeId × Value → H) (F : Stop.Interp) :
    ReturnsInHanded {} Try.checked os 4 .any ((Rows.OpenSpec.upto Rows.frameScansSpec).pre6 enc Try.prog Try.f4 Rows.frameScansUptoRow.domain false) (((Rows.OpenSpec.upto Rows.frameScansSpec).at F).post enc Try.prog Try.f4 false true false false) := by
  refine returnsInHanded_of_cond (C := Try.checked) (s := Rows.OpenSpec.upto Rows.frameScansSpec) (k := Rows.uptoSmall) rfl fsOwn started (by kernel_rfl) Try.func4
    (OpenSpec.witness (enc := enc) (C := Try.checked) (s := Rows.OpenSpec.upto Rows.frameScansSpec) (k := Rows.uptoSmall) rfl false ⟨#[], #[.slice none 0 0], []⟩ 8 (by kernel_rfl) (by kernel_rfl) (by kernel_rfl)
      (x := ([.nil], [], [])) (by kernel_rfl) rfl (by kernel_rfl)) ?_
  intro W base args ds gs before hval hW _ hk _
  exact fsContract H enc W base args ds gs before hval hW hk

theorem FrameScans_holds : Rows.FrameScansUptoSaid :=
  OpenClaim.holds_of_cond 4 Try.f4 rfl rfl rfl rfl rfl rfl rfl ⟨rfl, rfl, rfl, rfl, rfl⟩ rfl rfl rfl rfl rfl (by kernel_rfl) Try.func4 (by kernel_rfl)
    (of_decide_eq_true (by kernel_rfl)) (by unfold Func.isWrapper; rw [if_neg (of_decide_eq_false (by kernel_rfl))]; exact ⟨rfl, rfl⟩)
    (fun os started H enc _ F => fsLifted os started H enc F)
#print axioms FrameScans_holds
end Go.Proofs.Ytfanghiakbddcaa
