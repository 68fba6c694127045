/- THE LAW DigestNames: a closed sentence: the numbers, the refusals, a nil book. Conditions: the tables of sha hold what their text lays (the card ties it). -/
import Derived.Test.YtellecjibjalfaaGreatDoorCards
import Derived.Test.YtellecjibjalfaaGreatDoorTie
import Derived.Test.YtellecjibjalfaaGreatDoorVp
import Derived.Test.YtellecjibjalfaaGreatDoorVlaw
import Derived.Test.YtellecjibjalfaaGreatDoorVt
import Derived.Test.YtellecjibjalfaaGreatDoorVml
import Derived.Test.YtellecjibjalfaaGreatDoorVgl
set_option linter.unusedVariables false
set_option linter.unusedSectionVars false
set_option linter.unusedSimpArgs false
namespace Go.Proofs.YtellecjibjalfaaGreatDoor
open Go.ChangeShapes Go.WideShapes Go.ChangeAt Go.RowKit Go.Extern.Stop

theorem dnOwn : ownKnob Tryz.prog.godebug = none := by kernel_rfl
theorem dnLaidOut : laidOutB Tryz.prog = true := by kernel_rfl
theorem dn_run : shaTrue (vcall vC (orExt (muExt 17) (shaExt 48 2)) (muExtd 18) 100000 3 [] shaHp) = true := by kernel_rfl
theorem dnContract (H : Type) (enc : TypeId × Value → H) (W : World) (args : Array Value) (ds gs : List (DataW H)) (before : List MemPlace)
    (hW : DataW.Whole enc Tryz.prog Tryz.f3.params.toList Rows.digestNamesSpec.vars false W args.toList ds gs before) (hL : laidMetH Tryz.prog Rows.digestNamesRow.laid W) (hS : W.ShapedOpen Tryz.prog) :
    Calls Tryz.prog 3 args W fun e W' => ∃ v, e = .returned v ∧ Rows.digestNamesSpec.post enc Tryz.prog Tryz.f3 false true false false W args v W' := by
  have hW' := hW
  obtain ⟨p, q, hA0, hV, rfl, hfz, hnd⟩ := hW
  have hA : DataW.TrodAll enc Tryz.prog W 0 (fun _ => true) true Tryz.f3.params.toList args.toList ds p := hA0
  rw [Tryz.params3] at hA
  obtain ⟨h1, rfl⟩ := trodAll_nil hA
  obtain rfl : args = #[] := by apply Array.ext'; simpa using h1
  obtain ⟨rfl, rfl⟩ := trodVars_none hV
  refine (sha_law (vcall_ok0 (orExt_ok mu_ext shaExt_ok) mu_extd 100000) dn_run (sha_gl hL hS)).mono ?_
  rintro e W' ⟨rfl, hb⟩
  exact ⟨_, rfl, law_post hW' dnLaidOut (by kernel_rfl) rfl (by kernel_rfl) rfl rfl rfl rfl hb⟩

/-- A world for the witness: the settled one, the tables holding what their initialisers lay. -/
def dnCells (l : List Nat) : Array Value := (l.map fun n => Value.int .u32 (.ofNat n)).toArray
def dnK : List Nat := [1116352408, 1899447441, 3049323471, 3921009573, 961987163, 1508970993, 2453635748, 2870763221, 3624381080, 310598401, 607225278, 1426881987, 1925078388, 2162078206, 2614888103, 3248222580, 3835390401, 4022224774, 264347078, 604807628, 770255983, 1249150122, 1555081692, 1996064986, 2554220882, 2821834349, 2952996808, 3210313671, 3336571891, 3584528711, 113926993, 338241895, 666307205, 773529912, 1294757372, 1396182291, 1695183700, 1986661051, 2177026350, 2456956037, 2730485921, 2820302411, 3259730800, 3345764771, 3516065817, 3600352804, 4094571909, 275423344, 430227734, 506948616, 659060556, 883997877, 958139571, 1322822218, 1537002063, 1747873779, 1955562222, 2024104815, 2227730452, 2361852424, 2428436474, 2756734187, 3204031479, 3329325298]
def dnFirst : List Nat := [1779033703, 3144134277, 1013904242, 2773480762, 1359893119, 2600822924, 528734635, 1541459225]
def dnPut (l : List Nat) : Obj → Obj
  | .cells _ t frozen => .cells (dnCells l) t frozen
  | o => o
noncomputable def dnWorld (os : Os) : World :=
  { World.holding Tryz.prog os ⟨#[], #[], []⟩ with heap := ((World.holding Tryz.prog os ⟨#[], #[], []⟩).heap.modify 2 (dnPut dnK)).modify 0 (dnPut dnFirst) }
set_option maxRecDepth 100000 in
theorem dn_laid (os : Os) : laidMet Tryz.prog Rows.digestNamesRow.laid ((dnWorld os).forCall (fun _ _ => 0) ⟨#[], #[], []⟩).memory :=
  laidMet_of_run' 8 (by kernel_rfl) (by kernel_rfl)
theorem dn_reads (os : Os) {H : Type} (enc : TypeId × Value → H) : ∃ places, DataW.whole enc Tryz.prog ((dnWorld os).forCall (fun _ _ => 0) ⟨#[], #[], []⟩).memory Tryz.f3.params.toList Rows.digestNamesSpec.vars false (#[] : Array Value).toList 8 =
    some ([], [], places) :=
  ⟨[], by kernel_rfl⟩

set_option maxRecDepth 100000 in
theorem dn_lifted (os : Os) (started : os.Started) (H : Type) (enc : TypeId × Value → H) (F : Stop.Interp) :
    ReturnsInHanded {} Tryz.checked os 3 .any ((OpenSpec.ofChange Rows.digestNamesSpec).preRow enc Tryz.prog Tryz.f3 Rows.digestNamesRow.domain false Rows.digestNamesRow.laid) (((OpenSpec.ofChange Rows.digestNamesSpec).at F).post enc Tryz.prog Tryz.f3 false true false false) := by
  obtain ⟨places, hx⟩ := dn_reads os enc
  refine returnsInHanded_of_row (C := Tryz.checked) (s := OpenSpec.ofChange Rows.digestNamesSpec) dnOwn started (by kernel_rfl) Tryz.func3
    (witness_row_at (enc := enc) (C := Tryz.checked) false (dnWorld os) #[] rfl (by kernel_rfl) (by kernel_rfl) (by kernel_rfl)
      (OpenSpec.preRow_of_cond 8 hx (by kernel_rfl) (fun k hk => by cases hk) (by kernel_rfl) (dn_laid os))) ?_
  intro W base args ds gs before hval hW _ _ _ hL hS _
  exact dnContract H enc W args ds gs before hW hL hS

theorem dn_said : Rows.DigestNamesSaid :=
  OpenClaim.holds_of_cond 3 Tryz.f3 rfl rfl rfl rfl rfl rfl rfl ⟨rfl, rfl, rfl, rfl, rfl⟩ rfl rfl rfl rfl rfl (by kernel_rfl) Tryz.func3 (by kernel_rfl)
    (of_decide_eq_true (by kernel_rfl)) (by unfold Func.isWrapper; rw [if_neg (of_decide_eq_false (by kernel_rfl))]; exact ⟨rfl, rfl⟩)
    (fun os started H enc _ F => by rw [OpenClaim.pre_eq_preRow]; exact dn_lifted os started H enc F)

theorem dn_plain (f : FuncId) (fn : Func) (hf : Tryz.pinned.checked.prog.funcNamed "cairn/cairnlaw04.DigestNames" = some f) (hfn : Tryz.pinned.checked.prog.funcs[f]? = some fn) :
    Rows.digestNamesCard.stood.looks = Tryz.pinned.checked.prog.looks [] ∧ ∀ (j : Nat) t, fn.params[j]? = some t → Tryz.pinned.checked.prog.wantsStandIn t = false := by
  obtain rfl : f = 3 := Option.some.inj ((show Tryz.prog.funcNamed "cairn/cairnlaw04.DigestNames" = some 3 by kernel_rfl).symm.trans hf) |>.symm
  obtain rfl : fn = Tryz.f3 := (Option.some.inj (Tryz.func3.symm.trans hfn)).symm
  refine ⟨by kernel_rfl, fun j t ht => ?_⟩
  rw [Tryz.params3] at ht
  simp at ht

theorem DigestNames_holds : Rows.DigestNamesCardSaid :=
  Claim7.holds_tied_plain_at .later [] _ _ _ _ dn_said (fun _ h => by cases h) (by kernel_rfl) (fun _ h => by cases h) digestNames_row_tie rfl ⟨rfl, rfl⟩ (by kernel_rfl) rfl dn_plain (by kernel_rfl)
#print axioms DigestNames_holds
end Go.Proofs.YtellecjibjalfaaGreatDoor
