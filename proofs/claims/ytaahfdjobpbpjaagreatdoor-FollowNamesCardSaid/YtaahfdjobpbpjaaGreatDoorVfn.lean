/- THE LAW FollowNames: a closed sentence. Conditions: the package variables that the row lists hold what their text lays (the card ties it). -/
import Derived.Test.YtaahfdjobpbpjaaGreatDoorCards
import Derived.Test.YtaahfdjobpbpjaaGreatDoorTie
import Derived.Test.YtaahfdjobpbpjaaGreatDoorVp
import Derived.Test.YtaahfdjobpbpjaaGreatDoorVlaw
import Derived.Test.YtaahfdjobpbpjaaGreatDoorVt
import Derived.Test.YtaahfdjobpbpjaaGreatDoorVgl
import Derived.Test.YtaahfdjobpbpjaaGreatDoorVml
import Derived.Test.YtaahfdjobpbpjaaGreatDoorVsb
import Derived.Test.YtaahfdjobpbpjaaGreatDoorVmx
import Derived.KernelRfl
set_option linter.unusedVariables false
set_option linter.unusedSectionVars false
set_option linter.unusedSimpArgs false
set_option maxRecDepth 100000
namespace Go.Proofs.YtaahfdjobpbpjaaGreatDoor
open Go.ChangeShapes Go.WideShapes Go.ChangeAt Go.RowKit Go.Extern.Stop

def fnC0 : List V := [.i .u32 (.ofNat 1116352408), .i .u32 (.ofNat 1899447441), .i .u32 (.ofNat 3049323471), .i .u32 (.ofNat 3921009573), .i .u32 (.ofNat 961987163), .i .u32 (.ofNat 1508970993), .i .u32 (.ofNat 2453635748), .i .u32 (.ofNat 2870763221), .i .u32 (.ofNat 3624381080), .i .u32 (.ofNat 310598401), .i .u32 (.ofNat 607225278), .i .u32 (.ofNat 1426881987), .i .u32 (.ofNat 1925078388), .i .u32 (.ofNat 2162078206), .i .u32 (.ofNat 2614888103), .i .u32 (.ofNat 3248222580), .i .u32 (.ofNat 3835390401), .i .u32 (.ofNat 4022224774), .i .u32 (.ofNat 264347078), .i .u32 (.ofNat 604807628), .i .u32 (.ofNat 770255983), .i .u32 (.ofNat 1249150122), .i .u32 (.ofNat 1555081692), .i .u32 (.ofNat 1996064986), .i .u32 (.ofNat 2554220882), .i .u32 (.ofNat 2821834349), .i .u32 (.ofNat 2952996808), .i .u32 (.ofNat 3210313671), .i .u32 (.ofNat 3336571891), .i .u32 (.ofNat 3584528711), .i .u32 (.ofNat 113926993), .i .u32 (.ofNat 338241895), .i .u32 (.ofNat 666307205), .i .u32 (.ofNat 773529912), .i .u32 (.ofNat 1294757372), .i .u32 (.ofNat 1396182291), .i .u32 (.ofNat 1695183700), .i .u32 (.ofNat 1986661051), .i .u32 (.ofNat 2177026350), .i .u32 (.ofNat 2456956037), .i .u32 (.ofNat 2730485921), .i .u32 (.ofNat 2820302411), .i .u32 (.ofNat 3259730800), .i .u32 (.ofNat 3345764771), .i .u32 (.ofNat 3516065817), .i .u32 (.ofNat 3600352804), .i .u32 (.ofNat 4094571909), .i .u32 (.ofNat 275423344), .i .u32 (.ofNat 430227734), .i .u32 (.ofNat 506948616), .i .u32 (.ofNat 659060556), .i .u32 (.ofNat 883997877), .i .u32 (.ofNat 958139571), .i .u32 (.ofNat 1322822218), .i .u32 (.ofNat 1537002063), .i .u32 (.ofNat 1747873779), .i .u32 (.ofNat 1955562222), .i .u32 (.ofNat 2024104815), .i .u32 (.ofNat 2227730452), .i .u32 (.ofNat 2361852424), .i .u32 (.ofNat 2428436474), .i .u32 (.ofNat 2756734187), .i .u32 (.ofNat 3204031479), .i .u32 (.ofNat 3329325298)]
def fnL0 : List Value := [.int .u32 (1116352408), .int .u32 (1899447441), .int .u32 (3049323471), .int .u32 (3921009573), .int .u32 (961987163), .int .u32 (1508970993), .int .u32 (2453635748), .int .u32 (2870763221), .int .u32 (3624381080), .int .u32 (310598401), .int .u32 (607225278), .int .u32 (1426881987), .int .u32 (1925078388), .int .u32 (2162078206), .int .u32 (2614888103), .int .u32 (3248222580), .int .u32 (3835390401), .int .u32 (4022224774), .int .u32 (264347078), .int .u32 (604807628), .int .u32 (770255983), .int .u32 (1249150122), .int .u32 (1555081692), .int .u32 (1996064986), .int .u32 (2554220882), .int .u32 (2821834349), .int .u32 (2952996808), .int .u32 (3210313671), .int .u32 (3336571891), .int .u32 (3584528711), .int .u32 (113926993), .int .u32 (338241895), .int .u32 (666307205), .int .u32 (773529912), .int .u32 (1294757372), .int .u32 (1396182291), .int .u32 (1695183700), .int .u32 (1986661051), .int .u32 (2177026350), .int .u32 (2456956037), .int .u32 (2730485921), .int .u32 (2820302411), .int .u32 (3259730800), .int .u32 (3345764771), .int .u32 (3516065817), .int .u32 (3600352804), .int .u32 (4094571909), .int .u32 (275423344), .int .u32 (430227734), .int .u32 (506948616), .int .u32 (659060556), .int .u32 (883997877), .int .u32 (958139571), .int .u32 (1322822218), .int .u32 (1537002063), .int .u32 (1747873779), .int .u32 (1955562222), .int .u32 (2024104815), .int .u32 (2227730452), .int .u32 (2361852424), .int .u32 (2428436474), .int .u32 (2756734187), .int .u32 (3204031479), .int .u32 (3329325298)]
def fnC1 : List V := [.i .u32 (.ofNat 1116352408), .i .u32 (.ofNat 1899447441), .i .u32 (.ofNat 3049323471), .i .u32 (.ofNat 3921009573), .i .u32 (.ofNat 961987163), .i .u32 (.ofNat 1508970993), .i .u32 (.ofNat 2453635748), .i .u32 (.ofNat 2870763221), .i .u32 (.ofNat 3624381080), .i .u32 (.ofNat 310598401), .i .u32 (.ofNat 607225278), .i .u32 (.ofNat 1426881987), .i .u32 (.ofNat 1925078388), .i .u32 (.ofNat 2162078206), .i .u32 (.ofNat 2614888103), .i .u32 (.ofNat 3248222580), .i .u32 (.ofNat 3835390401), .i .u32 (.ofNat 4022224774), .i .u32 (.ofNat 264347078), .i .u32 (.ofNat 604807628), .i .u32 (.ofNat 770255983), .i .u32 (.ofNat 1249150122), .i .u32 (.ofNat 1555081692), .i .u32 (.ofNat 1996064986), .i .u32 (.ofNat 2554220882), .i .u32 (.ofNat 2821834349), .i .u32 (.ofNat 2952996808), .i .u32 (.ofNat 3210313671), .i .u32 (.ofNat 3336571891), .i .u32 (.ofNat 3584528711), .i .u32 (.ofNat 113926993), .i .u32 (.ofNat 338241895), .i .u32 (.ofNat 666307205), .i .u32 (.ofNat 773529912), .i .u32 (.ofNat 1294757372), .i .u32 (.ofNat 1396182291), .i .u32 (.ofNat 1695183700), .i .u32 (.ofNat 1986661051), .i .u32 (.ofNat 2177026350), .i .u32 (.ofNat 2456956037), .i .u32 (.ofNat 2730485921), .i .u32 (.ofNat 2820302411), .i .u32 (.ofNat 3259730800), .i .u32 (.ofNat 3345764771), .i .u32 (.ofNat 3516065817), .i .u32 (.ofNat 3600352804), .i .u32 (.ofNat 4094571909), .i .u32 (.ofNat 275423344), .i .u32 (.ofNat 430227734), .i .u32 (.ofNat 506948616), .i .u32 (.ofNat 659060556), .i .u32 (.ofNat 883997877), .i .u32 (.ofNat 958139571), .i .u32 (.ofNat 1322822218), .i .u32 (.ofNat 1537002063), .i .u32 (.ofNat 1747873779), .i .u32 (.ofNat 1955562222), .i .u32 (.ofNat 2024104815), .i .u32 (.ofNat 2227730452), .i .u32 (.ofNat 2361852424), .i .u32 (.ofNat 2428436474), .i .u32 (.ofNat 2756734187), .i .u32 (.ofNat 3204031479), .i .u32 (.ofNat 3329325298)]
def fnL1 : List Value := [.int .u32 (1116352408), .int .u32 (1899447441), .int .u32 (3049323471), .int .u32 (3921009573), .int .u32 (961987163), .int .u32 (1508970993), .int .u32 (2453635748), .int .u32 (2870763221), .int .u32 (3624381080), .int .u32 (310598401), .int .u32 (607225278), .int .u32 (1426881987), .int .u32 (1925078388), .int .u32 (2162078206), .int .u32 (2614888103), .int .u32 (3248222580), .int .u32 (3835390401), .int .u32 (4022224774), .int .u32 (264347078), .int .u32 (604807628), .int .u32 (770255983), .int .u32 (1249150122), .int .u32 (1555081692), .int .u32 (1996064986), .int .u32 (2554220882), .int .u32 (2821834349), .int .u32 (2952996808), .int .u32 (3210313671), .int .u32 (3336571891), .int .u32 (3584528711), .int .u32 (113926993), .int .u32 (338241895), .int .u32 (666307205), .int .u32 (773529912), .int .u32 (1294757372), .int .u32 (1396182291), .int .u32 (1695183700), .int .u32 (1986661051), .int .u32 (2177026350), .int .u32 (2456956037), .int .u32 (2730485921), .int .u32 (2820302411), .int .u32 (3259730800), .int .u32 (3345764771), .int .u32 (3516065817), .int .u32 (3600352804), .int .u32 (4094571909), .int .u32 (275423344), .int .u32 (430227734), .int .u32 (506948616), .int .u32 (659060556), .int .u32 (883997877), .int .u32 (958139571), .int .u32 (1322822218), .int .u32 (1537002063), .int .u32 (1747873779), .int .u32 (1955562222), .int .u32 (2024104815), .int .u32 (2227730452), .int .u32 (2361852424), .int .u32 (2428436474), .int .u32 (2756734187), .int .u32 (3204031479), .int .u32 (3329325298)]
def fnC2 : List V := [.i .u32 (.ofNat 1779033703), .i .u32 (.ofNat 3144134277), .i .u32 (.ofNat 1013904242), .i .u32 (.ofNat 2773480762), .i .u32 (.ofNat 1359893119), .i .u32 (.ofNat 2600822924), .i .u32 (.ofNat 528734635), .i .u32 (.ofNat 1541459225)]
def fnL2 : List Value := [.int .u32 (1779033703), .int .u32 (3144134277), .int .u32 (1013904242), .int .u32 (2773480762), .int .u32 (1359893119), .int .u32 (2600822924), .int .u32 (528734635), .int .u32 (1541459225)]
def fnC3 : List V := [.i .i64 (.ofNat 1), .i .i64 (.ofNat 0), .i .i64 (.ofNat 0), .b false, .i .i64 (.ofNat 2), .i .i64 (.ofNat 1), .i .i64 (.ofNat 32), .b true]
def fnL3 : List Value := [.int .i64 (1), .int .i64 (0), .int .i64 (0), .bool false, .int .i64 (2), .int .i64 (1), .int .i64 (32), .bool true]
def fnGs : Gs := [(6, fnC0, 313), (7, fnC1, 313), (5, fnC2, 279), (4, fnC3, 211)]
theorem fnOwn : ownKnob Tryz.prog.godebug = none := by kernel_rfl
theorem fnLaidOut : laidOutB Tryz.prog = true := by kernel_rfl
theorem fn_run : gsTrue fnGs (vcall vC (orExt (muExt 94) (orExt (shaExt 171 7) (mixExt 146 6))) (muExtd 95) 100000 3 [] (gsHp fnGs)) = true := by kernel_rfl
theorem fnContract (H : Type) (enc : TypeId × Value → H) (W : World) (args : Array Value) (ds gs : List (DataW H)) (before : List MemPlace)
    (hW : DataW.Whole enc Tryz.prog Tryz.f3.params.toList Rows.followNamesSpec.vars false W args.toList ds gs before) (hL : laidMetH Tryz.prog Rows.followNamesRow.laid W) (hS : W.ShapedOpen Tryz.prog) :
    Calls Tryz.prog 3 args W fun e W' => ∃ v, e = .returned v ∧ Rows.followNamesSpec.post enc Tryz.prog Tryz.f3 false true false false W args v W' := by
  have hW' := hW
  obtain ⟨p, q, hA0, hV, rfl, hfz, hnd⟩ := hW
  have hA : DataW.TrodAll enc Tryz.prog W 0 (fun _ => true) true Tryz.f3.params.toList args.toList ds p := hA0
  rw [Tryz.params3] at hA
  obtain ⟨h1, rfl⟩ := trodAll_nil hA
  obtain rfl : args = #[] := by apply Array.ext'; simpa using h1
  obtain ⟨rfl, rfl⟩ := trodVars_none hV
  obtain ⟨ps, hl0, _⟩ := (show laidMet Tryz.prog Rows.followNamesRow.laid W from hL)
  obtain ⟨g0, _, hl1⟩ := laid_gl (P := Tryz.prog) 6 313 fnL0 fnC0 hl0 hS (by kernel_rfl) (by kernel_rfl) (by rw [Tryz.globals_size]; decide) (by decide) (by kernel_rfl) (by kernel_rfl) (by kernel_rfl) (fun E => by kernel_rfl) (by kernel_rfl)
  obtain ⟨g1, _, hl2⟩ := laid_gl (P := Tryz.prog) 7 313 fnL1 fnC1 hl1 hS (by kernel_rfl) (by kernel_rfl) (by rw [Tryz.globals_size]; decide) (by decide) (by kernel_rfl) (by kernel_rfl) (by kernel_rfl) (fun E => by kernel_rfl) (by kernel_rfl)
  obtain ⟨g2, _, hl3⟩ := laid_gl (P := Tryz.prog) 5 279 fnL2 fnC2 hl2 hS (by kernel_rfl) (by kernel_rfl) (by rw [Tryz.globals_size]; decide) (by decide) (by kernel_rfl) (by kernel_rfl) (by kernel_rfl) (fun E => by kernel_rfl) (by kernel_rfl)
  obtain ⟨g3, _, hl4⟩ := laid_gl (P := Tryz.prog) 4 211 fnL3 fnC3 hl3 hS (by kernel_rfl) (by kernel_rfl) (by rw [Tryz.globals_size]; decide) (by decide) (by kernel_rfl) (by kernel_rfl) (by kernel_rfl) (fun E => by kernel_rfl) (by kernel_rfl)
  have hG : ∀ x ∈ fnGs, GOk W x := by
    intro x hx
    simp only [fnGs, List.mem_cons, List.not_mem_nil, or_false] at hx
    rcases hx with rfl | rfl | rfl | rfl <;> assumption
  refine (gs_law (vcall_ok0 (orExt_ok mu_ext (orExt_ok shaExt_ok mixExt_ok)) mu_extd 100000) fn_run hG).mono ?_
  rintro e W' ⟨rfl, hb⟩
  exact ⟨_, rfl, law_post hW' fnLaidOut (by kernel_rfl) rfl (by kernel_rfl) rfl rfl rfl rfl hb⟩

/-- A world for the witness: the settled one, the variables holding what their initialisers lay. -/
def fnPut (l : List Value) : Obj → Obj
  | .cells _ t frozen => .cells l.toArray t frozen
  | o => o
noncomputable def fnWorld (os : Os) : World :=
  { World.holding Tryz.prog os ⟨#[], #[], []⟩ with heap := (((((World.holding Tryz.prog os ⟨#[], #[], []⟩).heap.modify 6 (fnPut fnL0)).modify 7 (fnPut fnL1)).modify 5 (fnPut fnL2)).modify 4 (fnPut fnL3)) }
theorem fn_laid (os : Os) : laidMet Tryz.prog Rows.followNamesRow.laid ((fnWorld os).forCall (fun _ _ => 0) ⟨#[], #[], []⟩).memory :=
  laidMet_of_run' 8 (by kernel_rfl) (by kernel_rfl)
theorem fn_reads (os : Os) {H : Type} (enc : TypeId × Value → H) : ∃ places, DataW.whole enc Tryz.prog ((fnWorld os).forCall (fun _ _ => 0) ⟨#[], #[], []⟩).memory Tryz.f3.params.toList Rows.followNamesSpec.vars false (#[] : Array Value).toList 8 =
    some ([], [], places) :=
  ⟨[], by kernel_rfl⟩

theorem fn_lifted (os : Os) (started : os.Started) (H : Type) (enc : TypeId × Value → H) (F : Stop.Interp) :
    ReturnsInHanded {} Tryz.checked os 3 .any ((OpenSpec.ofChange Rows.followNamesSpec).preRow enc Tryz.prog Tryz.f3 Rows.followNamesRow.domain false Rows.followNamesRow.laid) (((OpenSpec.ofChange Rows.followNamesSpec).at F).post enc Tryz.prog Tryz.f3 false true false false) := by
  obtain ⟨places, hx⟩ := fn_reads os enc
  refine returnsInHanded_of_row (C := Tryz.checked) (s := OpenSpec.ofChange Rows.followNamesSpec) fnOwn started (by kernel_rfl) Tryz.func3
    (witness_row_at (enc := enc) (C := Tryz.checked) false (fnWorld os) #[] rfl (by kernel_rfl) (by kernel_rfl) (by kernel_rfl)
      (OpenSpec.preRow_of_cond 8 hx (by kernel_rfl) (fun k hk => by cases hk) (by kernel_rfl) (fn_laid os))) ?_
  intro W base args ds gs before hval hW _ _ _ hL hS _
  exact fnContract H enc W args ds gs before hW hL hS

theorem fn_said : Rows.FollowNamesSaid :=
  OpenClaim.holds_of_cond 3 Tryz.f3 rfl rfl rfl rfl rfl rfl rfl ⟨rfl, rfl, rfl, rfl, rfl⟩ rfl rfl rfl rfl rfl (by kernel_rfl) Tryz.func3 (by kernel_rfl)
    (of_decide_eq_true (by kernel_rfl)) (by unfold Func.isWrapper; rw [if_neg (of_decide_eq_false (by kernel_rfl))]; exact ⟨rfl, rfl⟩)
    (fun os started H enc _ F => by rw [OpenClaim.pre_eq_preRow]; exact fn_lifted os started H enc F)

theorem fn_plain (f : FuncId) (fn : Func) (hf : Tryz.pinned.checked.prog.funcNamed "cairn/cairnlaw30.FollowNames" = some f) (hfn : Tryz.pinned.checked.prog.funcs[f]? = some fn) :
    Rows.followNamesCard.stood.looks = Tryz.pinned.checked.prog.looks [] ∧ ∀ (j : Nat) t, fn.params[j]? = some t → Tryz.pinned.checked.prog.wantsStandIn t = false := by
  obtain rfl : f = 3 := Option.some.inj ((show Tryz.prog.funcNamed "cairn/cairnlaw30.FollowNames" = some 3 by kernel_rfl).symm.trans hf) |>.symm
  obtain rfl : fn = Tryz.f3 := (Option.some.inj (Tryz.func3.symm.trans hfn)).symm
  refine ⟨by kernel_rfl, fun j t ht => ?_⟩
  rw [Tryz.params3] at ht
  simp at ht

theorem FollowNames_holds : Rows.FollowNamesCardSaid :=
  Claim7.holds_tied_plain_at .later [] _ _ _ _ fn_said (fun _ h => by cases h) (by kernel_rfl) (fun _ h => by cases h) followNames_row_tie rfl ⟨rfl, rfl⟩ (by kernel_rfl) rfl fn_plain (by kernel_rfl)
#print axioms FollowNames_holds
end Go.Proofs.YtaahfdjobpbpjaaGreatDoor
