/- THE LAW FrameWraps: every Wrap answers what the document says, its answers share no room, what is handed in stays. By this project. -/
import Derived.Test.YtfanghiakbddcaaWraps
import Derived.Test.YtfanghiakbddcaaOpen
import Derived.SizedLaws
import Derived.JoinedOf
set_option linter.unusedVariables false
set_option linter.unusedSimpArgs false
namespace Go.Proofs.Ytfanghiakbddcaa
open Go.ChangeShapes Go.WideShapes Go.ChangeAt Go.RowKit Go.Extern.Stop

theorem fwOwn : ownKnob Try.prog.godebug = none := by kernel_rfl
theorem fwLaid : laidOutB Try.prog = true := by kernel_rfl
theorem fwU8 : Try.prog.cellsOf 5 = 1 := by kernel_rfl
theorem fwBytes : Try.prog.bytesOf 5 = 1 := by kernel_rfl
theorem fwUnd : Try.prog.underlying 22 = some (.slice 5) := by kernel_rfl

set_option maxRecDepth 100000 in
theorem fwContract (H : Type) (enc : TypeId × Value → H) (W : World) (base : Nat) (args : Array Value) (ds gs : List (DataW H)) (before : List MemPlace)
    (hval : ∀ (j : Nat) t v, Try.f3.params[j]? = some t → args[j]? = some v → Value.okWide Try.prog W .any base t v)
    (hW : DataW.Whole enc Try.prog Try.f3.params.toList Rows.frameWrapsSpec.vars false W args.toList ds gs before) (hz : (DataW.weightsEach Try.prog (Try.f3.params.toList ++ Rows.frameWrapsSpec.plain.varTypes Try.prog) (ds ++ gs)).all (· ≤ reachBytes) = true) :
    Calls Try.prog 3 args W fun e W' => ∃ v, e = .returned v ∧ Rows.frameWrapsSpec.post enc Try.prog Try.f3 false true false false W args v W' := by
  have hW' := hW
  obtain ⟨p, q, hA0, hV, rfl, hfz, hnd⟩ := hW
  have hA : DataW.TrodAll enc Try.prog W 0 (fun _ => true) true Try.f3.params.toList args.toList ds p := hA0
  rw [Try.params3] at hA hval hz
  obtain ⟨v0, vs0, d0, ds0, p0, q0, hargs, rfl, rfl, h0, r0⟩ := trodAll_cons hA
  obtain ⟨rfl, rfl, rfl⟩ := trodAll_nil r0
  obtain rfl : args = #[v0] := by cases args; simp_all
  obtain ⟨rfl, rfl⟩ := trodVars_none hV
  obtain ⟨xs, h0⟩ := open_bv (SliceT.h (P := Try.prog) (t := 22)) (IntT.h (P := Try.prog) (t := 5)) fwU8 (hval 0 _ v0 rfl rfl) h0
  obtain ⟨A, c, rfl, _, hA1⟩ := h0.get
  have hl : xs.length ≤ 140737488355328 := by
    rcases h0.shape with rfl | ⟨elems, spare, rfl, he⟩
    · exact Nat.zero_le _
    · simp only [List.cons_append, List.nil_append, DataW.weightsEach, DataW.weights, fwUnd, fwBytes, List.all_cons, List.append_nil, Bool.and_eq_true, decide_eq_true_eq] at hz
      have := hz.1
      simp only [reachBytes, Nat.mul_one] at this
      omega
  refine ((Wraps_cl A c xs W hA1 hl).calls).mono ?_
  rintro e W' ⟨v, N, rfl, hs, rfl⟩
  exact ⟨_, rfl, law_post (tb := 4) hW' fwLaid (by kernel_rfl) rfl (by kernel_rfl) rfl rfl rfl rfl hs.below⟩

set_option maxRecDepth 100000 in
theorem fwLifted (os : Os) (started : os.Started) (H : Type) (enc : TypeId × Value → H) :
    ReturnsInHanded {} Try.checked os 3 .any (Rows.frameWrapsSpec.pre6 enc Try.prog Try.f3 Rows.frameWrapsRow.domain false) (Rows.frameWrapsSpec.post enc Try.prog Try.f3 false true false false) := by
  refine returnsInHanded_of_change_sized (C := Try.checked) (s := Rows.frameWrapsSpec) fwOwn started (by kernel_rfl) Try.func3
    (ChangeSpec.witness6 (enc := enc) (C := Try.checked) (s := Rows.frameWrapsSpec) false ⟨#[], #[.slice none 0 0], []⟩ 8 (by kernel_rfl) (by kernel_rfl) (by kernel_rfl) (by kernel_rfl)) ?_
  intro W base args ds gs before hval hW _ hz _
  exact fwContract H enc W base args ds gs before hval hW hz

theorem FrameWraps_holds : Rows.FrameWrapsSaid :=
  OpenClaim.holds_of_wide 3 Try.f3 rfl rfl rfl rfl rfl rfl rfl ⟨rfl, rfl, rfl, rfl, rfl⟩ rfl rfl rfl rfl rfl (by kernel_rfl) Try.func3 (by kernel_rfl)
    (of_decide_eq_true (by kernel_rfl)) (by unfold Func.isWrapper; rw [if_neg (of_decide_eq_false (by kernel_rfl))]; exact ⟨rfl, rfl⟩)
    (fun os started H enc _ => fwLifted os started H enc)
#print axioms FrameWraps_holds
end Go.Proofs.Ytfanghiakbddcaa
