/- THE LAW FrameCuts, where what it reads is of the small bulk: a log of wrapped payloads, cut off anywhere or with anything behind it, reads as it was written. By this project. -/
import Derived.Test.YtfanghiakbddcaaCuts
import Derived.Test.YtfanghiakbddcaaOpen
import Derived.JoinedCond
set_option linter.unusedVariables false
set_option linter.unusedSimpArgs false
namespace Go.Proofs.Ytfanghiakbddcaa
open Go.ChangeShapes Go.WideShapes Go.ChangeAt Go.RowKit Go.Extern.Stop

theorem seatOwn : ownKnob Try.prog.godebug = none := by kernel_rfl
theorem seatLaid : laidOutB Try.prog = true := by kernel_rfl
theorem cellsU8 : Try.prog.cellsOf 5 = 1 := by kernel_rfl
theorem cellsBs : Try.prog.cellsOf 22 = 1 := by kernel_rfl

set_option maxRecDepth 100000 in
theorem fcContract (H : Type) (enc : TypeId × Value → H) (W : World) (base : Nat) (args : Array Value) (ds gs : List (DataW H)) (before : List MemPlace)
    (hval : ∀ (j : Nat) t v, Try.f5.params[j]? = some t → args[j]? = some v → Value.okWide Try.prog W .any base t v)
    (hW : DataW.Whole enc Try.prog Try.f5.params.toList Rows.frameCutsSpec.vars false W args.toList ds gs before) (hk : Rows.uptoSmall H (ds ++ gs) = true) :
    Calls Try.prog 5 args W fun e W' => ∃ v, e = .returned v ∧ Rows.frameCutsSpec.post enc Try.prog Try.f5 false true false false W args v W' := by
  have hW' := hW
  obtain ⟨p, q, hA0, hV, rfl, hfz, hnd⟩ := hW
  have hA : DataW.TrodAll enc Try.prog W 0 (fun _ => true) true Try.f5.params.toList args.toList ds p := hA0
  rw [Try.params5] at hA hval
  obtain ⟨v0, vs0, d0, ds0, p0, q0, hargs, rfl, rfl, h0, r0⟩ := trodAll_cons hA
  obtain ⟨v1, vs1, d1, ds1, p1, q1, rfl, rfl, rfl, h1, r1⟩ := trodAll_cons r0
  obtain ⟨v2, vs2, d2, ds2, p2, q2, rfl, rfl, rfl, h2, r2⟩ := trodAll_cons r1
  obtain ⟨rfl, rfl, rfl⟩ := trodAll_nil r2
  obtain rfl : args = #[v0, v1, v2] := by cases args; simp_all
  obtain ⟨rfl, rfl⟩ := trodVars_none hV
  obtain ⟨ps, h0⟩ := open_bb (SliceT.h (P := Try.prog) (t := 32)) (SliceT.h (P := Try.prog) (t := 22)) (IntT.h (P := Try.prog) (t := 5)) cellsBs cellsU8 (hval 0 _ v0 rfl rfl) h0
  obtain ⟨n, rfl, hn⟩ := okWide_int (IntT.h (P := Try.prog) (t := 3)) (hval 1 _ v1 rfl rfl)
  obtain ⟨tl, h2⟩ := open_bv (SliceT.h (P := Try.prog) (t := 22)) (IntT.h (P := Try.prog) (t := 5)) cellsU8 (hval 2 _ v2 rfl rfl) h2
  obtain ⟨A, cA, vs, rfl, _, hA1, hA2⟩ := h0.get
  obtain ⟨B, cB, rfl, _, hB⟩ := h2.get
  have hb := of_decide_eq_true hk
  simp only [Rows.uptoBulkAll, List.append_nil] at hb
  have b0 := h0.len
  have b2 := h2.bulk
  refine ((Cuts_cl A B cA cB vs ps n tl W hA1 hA2 hB (fun p hp => by have := h0.bulk p hp; omega) (by omega) (by omega) (by simpa [IntKind.has, IntKind.min, IntKind.max, IntKind.signed, IntKind.bits] using hn)).calls).mono ?_
  rintro e W' ⟨v, N, rfl, hs, rfl⟩
  exact ⟨_, rfl, law_post (tb := 4) hW' seatLaid (by kernel_rfl) rfl (by kernel_rfl) rfl rfl rfl rfl hs.below⟩

set_option maxRecDepth 100000 in
theorem fcLifted (os : Os) (started : os.Started) (H : Type) (enc : TypeId × Value → H) (F : Stop.Interp) :
    ReturnsInHanded {} Try.checked os 5 .any ((Rows.OpenSpec.upto Rows.frameCutsSpec).pre6 enc Try.prog Try.f5 Rows.frameCutsUptoRow.domain false) (((Rows.OpenSpec.upto Rows.frameCutsSpec).at F).post enc Try.prog Try.f5 false true false false) := by
  refine returnsInHanded_of_cond (C := Try.checked) (s := Rows.OpenSpec.upto Rows.frameCutsSpec) (k := Rows.uptoSmall) rfl seatOwn started (by kernel_rfl) Try.func5
    (OpenSpec.witness (enc := enc) (C := Try.checked) (s := Rows.OpenSpec.upto Rows.frameCutsSpec) (k := Rows.uptoSmall) rfl false ⟨#[], #[.slice none 0 0, .int .i64 0, .slice none 0 0], []⟩ 8 (by kernel_rfl) (by kernel_rfl) (by kernel_rfl)
      (x := ([.nil, .lit (.int .i64 0), .nil], [], [])) (by kernel_rfl) rfl (by kernel_rfl)) ?_
  intro W base args ds gs before hval hW _ hk _
  exact fcContract H enc W base args ds gs before hval hW hk

theorem FrameCuts_holds : Rows.FrameCutsUptoSaid :=
  OpenClaim.holds_of_cond 5 Try.f5 rfl rfl rfl rfl rfl rfl rfl ⟨rfl, rfl, rfl, rfl, rfl⟩ rfl rfl rfl rfl rfl (by kernel_rfl) Try.func5 (by kernel_rfl)
    (of_decide_eq_true (by kernel_rfl)) (by unfold Func.isWrapper; rw [if_neg (of_decide_eq_false (by kernel_rfl))]; exact ⟨rfl, rfl⟩)
    (fun os started H enc _ F => fcLifted os started H enc F)
#print axioms FrameCuts_holds
end Go.Proofs.Ytfanghiakbddcaa
