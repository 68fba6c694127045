/- THE LAW JournalFollows: for every head and every record journal.Follows answers just what the document says, and on a fixed good pair it answers true. Conditions: the package's table of kinds holds what its text lays (the card ties it). -/
import Derived.Test.YtfanghiakbddcaaDoorCards
import Derived.Test.YtfanghiakbddcaaDoorTie
import Derived.Test.YtfanghiakbddcaaDoorRow
import Derived.Test.YtfanghiakbddcaaDoorJl
namespace Go.Proofs.YtfanghiakbddcaaDoor
open Go.ChangeShapes Go.WideShapes Go.ChangeAt Go.RowKit Go.Extern.Stop

theorem jfOwn : ownKnob Tryd.prog.godebug = none := by kernel_rfl
theorem jfLaidOut : laidOutB Tryd.prog = true := by kernel_rfl
theorem cellsK : Tryd.prog.cellsOf 50 = 4 := by kernel_rfl
theorem cells1a : Tryd.prog.cellsOf 3 = 1 := by kernel_rfl
theorem cells1b : Tryd.prog.cellsOf 2 = 1 := by kernel_rfl
theorem cells1c : Tryd.prog.cellsOf 4 = 1 := by kernel_rfl
/-- What the row's list gives: the table's cells. -/
theorem kinds_laid {W : World} (h : laidMetH Tryd.prog Rows.journalFollowsRow.laid W) : KindsLaid W := by
  have h' : laidMet Tryd.prog [("cairn/journal.kinds", Rows.laid_cairn_journal_kinds)] W := h
  obtain ⟨ps, ⟨g, t, cs, fuel, p, q, hg, ht, hvar, hd, _, _⟩, _⟩ := h'
  obtain rfl : g = 0 := Option.some.inj (hg.symm.trans (by kernel_rfl))
  obtain rfl : t = 73 := Option.some.inj (ht.symm.trans (by kernel_rfl))
  have fld : ∀ (j i o : Nat) (e : TypeId), j < 2 → fieldT Tryd.prog 50 i = some (o, e) → Tryd.prog.cellsOf e = 1 → o < 4 → ∀ d, (∃ ds, ((Rows.laid_cairn_journal_kinds : DataW Unit) = .agg ds ∧ ∃ es, ds[j]? = some (.agg es) ∧ es[i]? = some d)) →
      ∃ m q, DataW.trod (fun _ => ()) Tryd.prog W 0 (fun _ => true) false m e ((cs.toList.drop (j * 4 + o)).take 1) = some (d, q) := by
    intro j i o e hj hT hc ho d ⟨ds, hds, es, h1, h2⟩
    rw [hds] at hd
    obtain ⟨m, d1, q1, hq1, ht1⟩ := trod_elem (ArrayT.h (P := Tryd.prog) (t := 73)) hj hd
    obtain rfl := Option.some.inj (h1.symm.trans hq1)
    obtain ⟨m2, d2, q2, hq2, ht2⟩ := trod_field hT ht1
    obtain rfl := Option.some.inj (h2.symm.trans hq2)
    refine ⟨m2, q2, ?_⟩
    rw [hc, cellsK, List.drop_take, List.take_take, List.drop_drop, show min 1 (4 - o) = 1 by omega] at ht2
    exact ht2
  have c0 := fld 0 0 0 _ (by decide) FieldT.h cells1a (by decide) _ ⟨_, rfl, _, rfl, rfl⟩
  have c1 := fld 0 1 1 _ (by decide) FieldT.h cells1b (by decide) _ ⟨_, rfl, _, rfl, rfl⟩
  have c2 := fld 0 2 2 _ (by decide) FieldT.h cells1a (by decide) _ ⟨_, rfl, _, rfl, rfl⟩
  have c3 := fld 0 3 3 _ (by decide) FieldT.h cells1c (by decide) _ ⟨_, rfl, _, rfl, rfl⟩
  have c4 := fld 1 0 0 _ (by decide) FieldT.h cells1a (by decide) _ ⟨_, rfl, _, rfl, rfl⟩
  have c5 := fld 1 1 1 _ (by decide) FieldT.h cells1b (by decide) _ ⟨_, rfl, _, rfl, rfl⟩
  have c6 := fld 1 2 2 _ (by decide) FieldT.h cells1a (by decide) _ ⟨_, rfl, _, rfl, rfl⟩
  have c7 := fld 1 3 3 _ (by decide) FieldT.h cells1c (by decide) _ ⟨_, rfl, _, rfl, rfl⟩
  obtain ⟨_, _, c0⟩ := c0; obtain ⟨_, _, c1⟩ := c1; obtain ⟨_, _, c2⟩ := c2; obtain ⟨_, _, c3⟩ := c3
  obtain ⟨_, _, c4⟩ := c4; obtain ⟨_, _, c5⟩ := c5; obtain ⟨_, _, c6⟩ := c6; obtain ⟨_, _, c7⟩ := c7
  replace c0 := trod_int1 IntT.h c0; replace c1 := trod_int1 IntT.h c1; replace c2 := trod_int1 IntT.h c2; replace c3 := trod_bool1 (by kernel_rfl) c3
  replace c4 := trod_int1 IntT.h c4; replace c5 := trod_int1 IntT.h c5; replace c6 := trod_int1 IntT.h c6; replace c7 := trod_bool1 (by kernel_rfl) c7
  intro j v hv
  rw [Addr.add_mid, Nat.zero_add]
  have hcell := World.var?_cell hg hvar j
  rw [hcell]
  have hj : j < 8 := (List.getElem?_eq_some_iff.1 hv).1
  simp only [Array.getElem?_toList] at *
  rcases (by omega : j = 0 ∨ j = 1 ∨ j = 2 ∨ j = 3 ∨ j = 4 ∨ j = 5 ∨ j = 6 ∨ j = 7) with rfl | rfl | rfl | rfl | rfl | rfl | rfl | rfl
  · exact c0.trans hv
  · exact c1.trans hv
  · exact c2.trans hv
  · exact c3.trans hv
  · exact c4.trans hv
  · exact c5.trans hv
  · exact c6.trans hv
  · exact c7.trans hv

theorem head_ts : Tryd.prog.cellTypes Tryd.prog.depth 25 = some (2 :: 2 :: List.replicate 64 5) := by kernel_rfl
theorem head_cells : Tryd.prog.cellsOf 25 = 66 := by kernel_rfl
theorem rec_ts : Tryd.prog.cellTypes Tryd.prog.depth 28 = some (3 :: 2 :: 2 :: (List.replicate 64 5 ++ [26])) := by kernel_rfl
theorem rec_cells : Tryd.prog.cellsOf 28 = 68 := by kernel_rfl
set_option maxRecDepth 100000 in
theorem head_open {W : World} {base : Nat} {v : Value} (h : Value.okWide Tryd.prog W .any base 25 v) : ∃ H c s tag root, v = .agg H.toArray ∧ IsHead H c s tag root := by
  obtain ⟨C, rfl, hl, hc⟩ := okWide_agg (P := Tryd.prog) (t := 25) (w := W) (r := .any) (base := base) (v := v) RowT.h head_cells head_ts (by simp) h
  obtain ⟨c, hc0, _⟩ := okWide_cell_int (IntT.h (P := Tryd.prog)) (hc 0 (C[0]'(by omega)) 2 (List.getElem?_eq_getElem _) rfl)
  obtain ⟨s, hc1, _⟩ := okWide_cell_int (IntT.h (P := Tryd.prog)) (hc 1 (C[1]'(by omega)) 2 (List.getElem?_eq_getElem _) rfl)
  obtain ⟨tag, ht⟩ := seg_bytes (P := Tryd.prog) (e := 5) (o := 2) (n := 32) IntT.h (by omega) (fun i hi => by rw [show 2 + i = (i + 1) + 1 by omega, List.getElem?_cons_succ, List.getElem?_cons_succ, List.getElem?_replicate]; simp; omega) hc
  obtain ⟨root, hr⟩ := seg_bytes (P := Tryd.prog) (e := 5) (o := 34) (n := 32) IntT.h (by omega) (fun i hi => by rw [show 34 + i = (32 + i + 1) + 1 by omega, List.getElem?_cons_succ, List.getElem?_cons_succ, List.getElem?_replicate]; simp; omega) hc
  exact ⟨C, c, s, tag, root, rfl, hl, by rw [List.getElem?_eq_getElem (by omega), hc0], by rw [List.getElem?_eq_getElem (by omega), hc1], ht, hr⟩
set_option maxRecDepth 100000 in
theorem rec_open {W : World} {base : Nat} {v : Value} (h : Value.okWide Tryd.prog W .any base 28 v) : ∃ R k c s prev root, v = .agg R.toArray ∧ IsRec R k c s prev root := by
  obtain ⟨C, rfl, hl, hc⟩ := okWide_agg (P := Tryd.prog) (t := 28) (w := W) (r := .any) (base := base) (v := v) RowT.h rec_cells rec_ts (by simp) h
  obtain ⟨k, hc0, _⟩ := okWide_cell_int (IntT.h (P := Tryd.prog)) (hc 0 (C[0]'(by omega)) 3 (List.getElem?_eq_getElem _) rfl)
  obtain ⟨c, hc1, _⟩ := okWide_cell_int (IntT.h (P := Tryd.prog)) (hc 1 (C[1]'(by omega)) 2 (List.getElem?_eq_getElem _) rfl)
  obtain ⟨s, hc2, _⟩ := okWide_cell_int (IntT.h (P := Tryd.prog)) (hc 2 (C[2]'(by omega)) 2 (List.getElem?_eq_getElem _) rfl)
  have tsAt : ∀ i, i < 64 → (3 :: 2 :: 2 :: (List.replicate 64 5 ++ [26]))[3 + i]? = some 5 := fun i hi => by
    rw [show 3 + i = ((i + 1) + 1) + 1 by omega, List.getElem?_cons_succ, List.getElem?_cons_succ, List.getElem?_cons_succ, List.getElem?_append_left (by simp; omega), List.getElem?_replicate]
    simp; omega
  obtain ⟨prev, hp⟩ := seg_bytes (P := Tryd.prog) (e := 5) (o := 3) (n := 32) IntT.h (by omega) (fun i hi => tsAt i (by omega)) hc
  obtain ⟨root, hr⟩ := seg_bytes (P := Tryd.prog) (e := 5) (o := 35) (n := 32) IntT.h (by omega) (fun i hi => by rw [show 35 + i = 3 + (32 + i) by omega]; exact tsAt _ (by omega)) hc
  exact ⟨C, k, c, s, prev, root, rfl, hl, by rw [List.getElem?_eq_getElem (by omega), hc0], by rw [List.getElem?_eq_getElem (by omega), hc1], by rw [List.getElem?_eq_getElem (by omega), hc2], hp, hr⟩

set_option maxRecDepth 100000 in
theorem jfContract (H : Type) (enc : TypeId × Value → H) (W : World) (base : Nat) (args : Array Value) (ds gs : List (DataW H)) (before : List MemPlace)
    (hval : ∀ (j : Nat) t v, Tryd.f3.params[j]? = some t → args[j]? = some v → Value.okWide Tryd.prog W .any base t v)
    (hW : DataW.Whole enc Tryd.prog Tryd.f3.params.toList Rows.journalFollowsSpec.vars false W args.toList ds gs before) (hL : laidMetH Tryd.prog Rows.journalFollowsRow.laid W) :
    Calls Tryd.prog 3 args W fun e W' => ∃ v, e = .returned v ∧ Rows.journalFollowsSpec.post enc Tryd.prog Tryd.f3 false true false false W args v W' := by
  have hW' := hW
  obtain ⟨p, q, hA0, hV, rfl, hfz, hnd⟩ := hW
  have hA : DataW.TrodAll enc Tryd.prog W 0 (fun _ => true) true Tryd.f3.params.toList args.toList ds p := hA0
  rw [Tryd.params3] at hA hval
  obtain ⟨v0, v1, d0, d1, p0, p1, rfl, rfl, rfl, h0, h1⟩ := trodAll_two hA
  obtain ⟨rfl, rfl⟩ := trodVars_none hV
  obtain ⟨Hc, c, s, tag, root, rfl, hH⟩ := head_open (hval 0 _ v0 rfl rfl)
  obtain ⟨Rc, k, c', s', prev, root', rfl, hR⟩ := rec_open (hval 1 _ v1 rfl rfl)
  refine (law_cl Hc Rc c s k c' s' tag root prev root' hH hR W (kinds_laid hL)).calls.mono fun e W' ⟨v, N, he, hs, hv⟩ => ?_
  subst he; subst hv
  exact ⟨_, rfl, law_post hW' jfLaidOut (by kernel_rfl) rfl (by kernel_rfl) rfl rfl rfl rfl hs.below⟩

/-- A world for the witness: the settled one, the table holding what its initialiser lays. -/
noncomputable def jfWorld (os : Os) : World :=
  { World.holding Tryd.prog os ⟨#[], #[], []⟩ with heap := (World.holding Tryd.prog os ⟨#[], #[], []⟩).heap.modify 0 fun
      | .cells _ t frozen => .cells #[.int .i64 1, .int .i64 0, .int .i64 0, .bool false, .int .i64 2, .int .i64 1, .int .i64 32, .bool true] t frozen
      | o => o }
def jfHead : Value := .agg (#[.int .i64 0, .int .i64 0] ++ Array.replicate 64 (.int .u8 0))
def jfRec : Value := .agg (#[.int .i64 0, .int .i64 0, .int .i64 0] ++ Array.replicate 64 (.int .u8 0) ++ #[.slice none 0 0])
theorem jf_laid (os : Os) : laidMet Tryd.prog Rows.journalFollowsRow.laid ((jfWorld os).forCall (fun _ _ => 0) ⟨#[], #[jfHead, jfRec], []⟩).memory :=
  laidMet_of_run' 8 (by kernel_rfl) (by kernel_rfl)
def jfZeros {H : Type} (n : Nat) : DataW H := .agg (List.replicate n (.lit (.int .u8 0)))
theorem jf_reads (os : Os) {H : Type} (enc : TypeId × Value → H) : ∃ places, DataW.whole enc Tryd.prog ((jfWorld os).forCall (fun _ _ => 0) ⟨#[], #[jfHead, jfRec], []⟩).memory Tryd.f3.params.toList Rows.journalFollowsSpec.vars false #[jfHead, jfRec].toList 8 =
    some ([.agg [.lit (.int .i64 0), .lit (.int .i64 0), jfZeros 32, jfZeros 32], .agg [.lit (.int .i64 0), .lit (.int .i64 0), .lit (.int .i64 0), jfZeros 32, jfZeros 32, .nil]], [], places) :=
  ⟨[], by kernel_rfl⟩

set_option maxRecDepth 100000 in
theorem jf_lifted (os : Os) (started : os.Started) (H : Type) (enc : TypeId × Value → H) (F : Stop.Interp) :
    ReturnsInHanded {} Tryd.checked os 3 .any ((OpenSpec.ofChange Rows.journalFollowsSpec).preRow enc Tryd.prog Tryd.f3 Rows.journalFollowsRow.domain false Rows.journalFollowsRow.laid) (((OpenSpec.ofChange Rows.journalFollowsSpec).at F).post enc Tryd.prog Tryd.f3 false true false false) := by
  obtain ⟨places, hx⟩ := jf_reads os enc
  refine returnsInHanded_of_row (C := Tryd.checked) (s := OpenSpec.ofChange Rows.journalFollowsSpec) jfOwn started (by kernel_rfl) Tryd.func3
    (witness_row_at (enc := enc) (C := Tryd.checked) false (jfWorld os) #[jfHead, jfRec] rfl (by kernel_rfl) (by kernel_rfl) (by kernel_rfl)
      (OpenSpec.preRow_of_cond 8 hx (by kernel_rfl) (fun k hk => by cases hk) (by kernel_rfl) (jf_laid os))) ?_
  intro W base args ds gs before hval hW _ _ _ hL _ _
  exact jfContract H enc W base args ds gs before hval hW hL

theorem jf_said : Rows.JournalFollowsSaid :=
  OpenClaim.holds_of_cond 3 Tryd.f3 rfl rfl rfl rfl rfl rfl rfl ⟨rfl, rfl, rfl, rfl, rfl⟩ rfl rfl rfl rfl rfl (by kernel_rfl) Tryd.func3 (by kernel_rfl)
    (of_decide_eq_true (by kernel_rfl)) (by unfold Func.isWrapper; rw [if_neg (of_decide_eq_false (by kernel_rfl))]; exact ⟨rfl, rfl⟩)
    (fun os started H enc _ F => by rw [OpenClaim.pre_eq_preRow]; exact jf_lifted os started H enc F)

theorem jf_plain (f : FuncId) (fn : Func) (hf : Tryd.pinned.checked.prog.funcNamed "cairn/cairnlaw19.JournalFollows" = some f) (hfn : Tryd.pinned.checked.prog.funcs[f]? = some fn) :
    false = Tryd.pinned.checked.prog.looks [] ∧ ∀ (j : Nat) t, fn.params[j]? = some t → Tryd.pinned.checked.prog.wantsStandIn t = false := by
  obtain rfl : f = 3 := Option.some.inj ((show Tryd.prog.funcNamed "cairn/cairnlaw19.JournalFollows" = some 3 by kernel_rfl).symm.trans hf) |>.symm
  obtain rfl : fn = Tryd.f3 := (Option.some.inj (Tryd.func3.symm.trans hfn)).symm
  refine ⟨by kernel_rfl, fun j t ht => ?_⟩
  rw [Tryd.params3] at ht
  have : t = 25 ∨ t = 28 := by simpa using Array.mem_of_getElem? ht
  rcases this with rfl | rfl
  · exact (show Tryd.prog.wantsStandIn 25 = false by kernel_rfl)
  · exact (show Tryd.prog.wantsStandIn 28 = false by kernel_rfl)

theorem JournalFollows_holds : Rows.JournalFollowsCardSaid :=
  Claim7.holds_tied_plain_at .later [] _ _ _ _ jf_said (fun _ h => by cases h) (by kernel_rfl) (fun _ h => by cases h) journalFollows_row_tie rfl ⟨rfl, rfl⟩ (by kernel_rfl) rfl jf_plain (by kernel_rfl)
#print axioms JournalFollows_holds
end Go.Proofs.YtfanghiakbddcaaDoor
