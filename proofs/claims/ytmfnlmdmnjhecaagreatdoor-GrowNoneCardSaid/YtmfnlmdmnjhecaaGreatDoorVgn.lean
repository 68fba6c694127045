/- THE LAW GrowNone: a closed sentence: what is nil is answered as the document says. Conditions: none. -/
import Derived.Test.YtmfnlmdmnjhecaaGreatDoorCards
import Derived.Test.YtmfnlmdmnjhecaaGreatDoorTie
import Derived.Test.YtmfnlmdmnjhecaaGreatDoorVp
import Derived.Test.YtmfnlmdmnjhecaaGreatDoorVlaw
import Derived.Test.YtmfnlmdmnjhecaaGreatDoorVt
set_option linter.unusedVariables false
set_option linter.unusedSectionVars false
set_option linter.unusedSimpArgs false
namespace Go.Proofs.YtmfnlmdmnjhecaaGreatDoor
open Go.ChangeShapes Go.WideShapes Go.ChangeAt Go.RowKit Go.Extern.Stop

theorem gnOwn : ownKnob Tryz.prog.godebug = none := by kernel_rfl
theorem gnLaidOut : laidOutB Tryz.prog = true := by kernel_rfl
theorem gn_run : isTrueV (vcall vC ext0 extd0 100000 3 [] ⟨.lf, gMax, []⟩) = true := by kernel_rfl
theorem gnContract (H : Type) (enc : TypeId × Value → H) (W : World) (args : Array Value) (ds gs : List (DataW H)) (before : List MemPlace)
    (hW : DataW.Whole enc Tryz.prog Tryz.f3.params.toList Rows.growNoneSpec.vars false W args.toList ds gs before) :
    Calls Tryz.prog 3 args W fun e W' => ∃ v, e = .returned v ∧ Rows.growNoneSpec.post enc Tryz.prog Tryz.f3 false true false false W args v W' := by
  have hW' := hW
  obtain ⟨p, q, hA0, hV, rfl, hfz, hnd⟩ := hW
  have hA : DataW.TrodAll enc Tryz.prog W 0 (fun _ => true) true Tryz.f3.params.toList args.toList ds p := hA0
  rw [Tryz.params3] at hA
  obtain ⟨h1, rfl⟩ := trodAll_nil hA
  obtain rfl : args = #[] := by apply Array.ext'; simpa using h1
  obtain ⟨rfl, rfl⟩ := trodVars_none hV
  refine (law_none (vcall_ok0 ext0_ok extd0_ok 100000) gn_run W).mono ?_
  rintro e W' ⟨rfl, hb⟩
  exact ⟨_, rfl, law_post hW' gnLaidOut (by kernel_rfl) rfl (by kernel_rfl) rfl rfl rfl rfl hb⟩

/-- A world for the witness: the settled one, the tables holding what their initialisers lay. -/
def gnCells (l : List Nat) : Array Value := (l.map fun n => Value.int .u32 (.ofNat n)).toArray
def gnK : List Nat := [1116352408, 1899447441, 3049323471, 3921009573, 961987163, 1508970993, 2453635748, 2870763221, 3624381080, 310598401, 607225278, 1426881987, 1925078388, 2162078206, 2614888103, 3248222580, 3835390401, 4022224774, 264347078, 604807628, 770255983, 1249150122, 1555081692, 1996064986, 2554220882, 2821834349, 2952996808, 3210313671, 3336571891, 3584528711, 113926993, 338241895, 666307205, 773529912, 1294757372, 1396182291, 1695183700, 1986661051, 2177026350, 2456956037, 2730485921, 2820302411, 3259730800, 3345764771, 3516065817, 3600352804, 4094571909, 275423344, 430227734, 506948616, 659060556, 883997877, 958139571, 1322822218, 1537002063, 1747873779, 1955562222, 2024104815, 2227730452, 2361852424, 2428436474, 2756734187, 3204031479, 3329325298]
def gnFirst : List Nat := [1779033703, 3144134277, 1013904242, 2773480762, 1359893119, 2600822924, 528734635, 1541459225]
def gnPut (l : List Nat) : Obj → Obj
  | .cells _ t frozen => .cells (gnCells l) t frozen
  | o => o
noncomputable def gnWorld (os : Os) : World :=
  { World.holding Tryz.prog os ⟨#[], #[], []⟩ with heap := ((World.holding Tryz.prog os ⟨#[], #[], []⟩).heap.modify 1 (gnPut gnK)).modify 0 (gnPut gnFirst) }
set_option maxRecDepth 100000 in
theorem gn_laid (os : Os) : laidMet Tryz.prog Rows.growNoneRow.laid ((gnWorld os).forCall (fun _ _ => 0) ⟨#[], #[], []⟩).memory :=
  laidMet_of_run' 8 (by kernel_rfl) (by kernel_rfl)
theorem gn_reads (os : Os) {H : Type} (enc : TypeId × Value → H) : ∃ places, DataW.whole enc Tryz.prog ((gnWorld os).forCall (fun _ _ => 0) ⟨#[], #[], []⟩).memory Tryz.f3.params.toList Rows.growNoneSpec.vars false (#[] : Array Value).toList 8 =
    some ([], [], places) :=
  ⟨[], by kernel_rfl⟩

set_option maxRecDepth 100000 in
theorem gn_lifted (os : Os) (started : os.Started) (H : Type) (enc : TypeId × Value → H) (F : Stop.Interp) :
    ReturnsInHanded {} Tryz.checked os 3 .any ((OpenSpec.ofChange Rows.growNoneSpec).preRow enc Tryz.prog Tryz.f3 Rows.growNoneRow.domain false Rows.growNoneRow.laid) (((OpenSpec.ofChange Rows.growNoneSpec).at F).post enc Tryz.prog Tryz.f3 false true false false) := by
  obtain ⟨places, hx⟩ := gn_reads os enc
  refine returnsInHanded_of_row (C := Tryz.checked) (s := OpenSpec.ofChange Rows.growNoneSpec) gnOwn started (by kernel_rfl) Tryz.func3
    (witness_row_at (enc := enc) (C := Tryz.checked) false (gnWorld os) #[] rfl (by kernel_rfl) (by kernel_rfl) (by kernel_rfl)
      (OpenSpec.preRow_of_cond 8 hx (by kernel_rfl) (fun k hk => by cases hk) (by kernel_rfl) (gn_laid os))) ?_
  intro W base args ds gs before hval hW _ _ _ hL _ _
  exact gnContract H enc W args ds gs before hW

theorem gn_said : Rows.GrowNoneSaid :=
  OpenClaim.holds_of_cond 3 Tryz.f3 rfl rfl rfl rfl rfl rfl rfl ⟨rfl, rfl, rfl, rfl, rfl⟩ rfl rfl rfl rfl rfl (by kernel_rfl) Tryz.func3 (by kernel_rfl)
    (of_decide_eq_true (by kernel_rfl)) (by unfold Func.isWrapper; rw [if_neg (of_decide_eq_false (by kernel_rfl))]; exact ⟨rfl, rfl⟩)
    (fun os started H enc _ F => by rw [OpenClaim.pre_eq_preRow]; exact gn_lifted os started H enc F)

theorem gn_plain (f : FuncId) (fn : Func) (hf : Tryz.pinned.checked.prog.funcNamed "cairn/cairnlaw12.GrowNone" = some f) (hfn : Tryz.pinned.checked.prog.funcs[f]? = some fn) :
    true = Tryz.pinned.checked.prog.looks [] ∧ ∀ (j : Nat) t, fn.params[j]? = some t → Tryz.pinned.checked.prog.wantsStandIn t = false := by
  obtain rfl : f = 3 := Option.some.inj ((show Tryz.prog.funcNamed "cairn/cairnlaw12.GrowNone" = some 3 by kernel_rfl).symm.trans hf) |>.symm
  obtain rfl : fn = Tryz.f3 := (Option.some.inj (Tryz.func3.symm.trans hfn)).symm
  refine ⟨by kernel_rfl, fun j t ht => ?_⟩
  rw [Tryz.params3] at ht
  simp at ht

theorem GrowNone_holds : Rows.GrowNoneCardSaid :=
  Claim7.holds_tied_plain_at .later [] _ _ _ _ gn_said (fun _ h => by cases h) (by kernel_rfl) (fun _ h => by cases h) growNone_row_tie rfl ⟨rfl, rfl⟩ (by kernel_rfl) rfl gn_plain (by kernel_rfl)
#print axioms GrowNone_holds
end Go.Proofs.YtmfnlmdmnjhecaaGreatDoor
