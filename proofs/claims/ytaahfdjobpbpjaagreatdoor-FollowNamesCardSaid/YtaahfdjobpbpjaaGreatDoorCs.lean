/- Cs: calls that write into the caller's own blocks; loads and stores in such. By this project. -/
import Derived.Test.YtaahfdjobpbpjaaGreatDoorGo
set_option linter.unusedVariables false
set_option linter.unusedSectionVars false
set_option linter.unusedSimpArgs false
set_option maxRecDepth 100000
namespace Go.Proofs.YtaahfdjobpbpjaaGreatDoor
open Go.RowKit Go.Extern.Stop

section
variable {P : Program} {n : Nat} {w0 : World} {l : FL} {L : HL} {Q : GQ} {ops : Array Oper} {rest : List Oper}
/-- A call of f, where the caller knows L; it may write there. -/
def ClS (P : Program) (f : FuncId) (args : Array Value) (w0 : World) (L : HL) (R : Value → HL → Prop) : Prop := ∀ w, St w0 w L → Calls P f args w fun e w' => ∃ v N, e = .returned v ∧ St w0 w' N ∧ R v N
theorem cls_of_g {f : FuncId} {fn : Func} {c : Code} {vs : List Value} {R : Value → HL → Prop} (hf : P.funcs[f]? = some fn) (hb : fn.body = some c) (hn : Nat.ble vs.length fn.ntmps = true)
    (h : G P fn.ntmps w0 c (argsFL 0 vs) L (GQend P w0 fn.results R)) : ClS P f vs.toArray w0 L R := by
  unfold G at h
  intro w hs
  refine calls_of_wp hf hb (wp_mono (h _ w ⟨rfl, by have := Nat.le_of_ble_eq_true hn; simp; omega, fun t v hv => ?_⟩ hs) fun e a' w' ⟨l', L', h1, h2, h3⟩ => ?_)
  · obtain ⟨_, h2⟩ := argsFL_look vs 0 t v hv
    have hlt : t < vs.length := (List.getElem?_eq_some_iff.1 h2).1
    simp only [Nat.sub_zero] at h2
    rw [Array.getElem?_append_left (by simpa using hlt)]
    simpa using h2
  · cases e <;> first | exact h3.elim | (obtain ⟨v, hv, hR⟩ := h3; exact ⟨h1.defers, v, hv a' _ w' fn rfl h1 h2, v, L', rfl, h2, hR⟩)
theorem gl_callS {f : FuncId} {xs : List Operand} {vs : List Value} {ts : Array TypeId} {d : Nat} {ty : TypeId} {ps : String} {af : Array Edge} {gd : Option (Nat × Bool)} {R : Value → HL → Prop}
    (hw : Want ops l ⟨some d, .call { callee := .value (.func f), args := xs.toArray, argTypes := ts }, ty, ps, af, gd⟩) (hlt : Nat.ble (d + 1) n = true) (hx : evls l xs = some vs) (hc : callT P f = true) (hC : ClS P f vs.toArray w0 L R)
    (k : ∀ v N, R v N → GL P n w0 ops rest ((d, v) :: l) N Q) : GL P n w0 ops (⟨some d, .call { callee := .value (.func f), args := xs.toArray, argTypes := ts }, ty, ps, af, gd⟩ :: rest) l L Q := by
  unfold GL at k ⊢
  intro a w hf hs
  refine wpList_step fun K hK => ?_
  rw [if_pos (hw a n hf)]
  unfold Oper.wp
  rw [run_call hf hx hc]
  refine Calls.mono (hC w hs) fun e w' ⟨v, N, he, hN, hR⟩ => ?_
  subst he
  exact hK _ _ (k v N hR _ _ (hf.put d (Nat.le_of_ble_eq_true hlt) v) hN)
theorem g_know {c : Code} {φ : Prop} (h : ∀ w, St w0 w L → φ) (k : φ → G P n w0 c l L Q) : G P n w0 c l L Q := by
  unfold G at *
  exact fun a w hf hs => k (h w hs) a w hf hs
theorem gl_know {φ : Prop} (h : ∀ w, St w0 w L → φ) (k : φ → GL P n w0 ops rest l L Q) : GL P n w0 ops rest l L Q := by
  unfold GL at *
  exact fun a w hf hs => k (h w hs) a w hf hs

theorem ov_nilc {x : Operand} {A : Addr} {dst : Option Tmp} {ty : TypeId} {ps : String} {af : Array Edge} {gd : Option (Nat × Bool)} (hx : evl l x = some (.pointer (some A))) : OV P w0 L l ⟨dst, .nilCheck x, ty, ps, af, gd⟩ (.pointer (some A)) := by
  unfold OV
  intro a n w hf hs
  simp only [execOp, hf.ev hx]; rfl
theorem lies1 {b o i : Nat} {C : List Value} {E : TypeId} {fz : Nat × Nat} {v : Value} [h : AtL b L (.cells C.toArray E fz) i] (hv : C[o]? = some v) : Lies w0 L (some ⟨b, o, none⟩) [v] := by
  have := lies_loc (w0 := w0) (L := L) (o := o) (k := 1) h.h
  have e : (C.drop o).take 1 = [v] := by
    have hl := (List.getElem?_eq_some_iff.1 hv).1
    rw [List.drop_eq_getElem_cons hl, List.take_succ_cons, List.take_zero]
    rw [List.getElem?_eq_getElem hl] at hv
    rw [Option.some.inj hv]
  rwa [e] at this
/-! ### A region in whatever order, S told of the world throughout -/
def GS (P : Program) (n : Nat) (w0 : World) (ops : Array Oper) (S : World → Prop) (fuel : Nat) (listed : Array Bool) (l : FL) (L : HL) (Q : GQ) : Prop :=
  ∀ a w, Fr a n l → St w0 w L → wpAnyH P .any ops (post n w0 Q) S fuel listed a w
def GSop (P : Program) (n : Nat) (w0 : World) (ops : Array Oper) (S : World → Prop) (fuel : Nat) (listed : Array Bool) (l : FL) (L : HL) (Q : GQ) (i : Nat) : Prop :=
  ∀ a w, Fr a n l → St w0 w L → wpOp P ops (post n w0 Q) i (fun a' w' => S w' ∧ wpAnyH P .any ops (post n w0 Q) S fuel (listed.setIfInBounds i true) a' w') a w
def OVS (P : Program) (S : World → Prop) (l : FL) (o : Oper) (v : Value) : Prop := ∀ (a : Act) (n : Nat) (w : World), Fr a n l → S w → (execOp a.eval o).run P w = .ok (.value v) w
variable {S : World → Prop} {fuel : Nat} {listed : Array Bool}
theorem gs_any {id : Nat} {ops : List Oper} (S : World → Prop) (hm : P.follows .mixedOrders = true) (h : GS P n w0 ops.toArray S ops.toArray.size (Array.replicate ops.toArray.size false) l L Q) :
    G P n w0 (.region id ops.toArray true) l L Q := by
  unfold G
  exact fun a w hf hs => wp_region_held hm (h a _ hf hs.drew)
theorem gs_takeS (i : Nat) {d : Nat} {o : Oper} {v : Value} (hi : ops[i]? = some o) (hsel : Region.noSelect ops = true) (hfree : Region.free .any ops listed i = true) (hready : (Region.ready .any ops listed).contains i = true)
    (hNP : ∀ c l L, ¬ Q (.panic c) l L) (hw : Want ops l o) (hd : o.dst = some d) (hlt : Nat.ble (d + 1) n = true) (hS : ∀ w, St w0 w L → S w) (ho : OVS P S l o v)
    (k : GS P n w0 ops S fuel (listed.setIfInBounds i true) ((d, v) :: l) L Q) : GS P n w0 ops S (fuel + 1) listed l L Q := fun a w hf hs => by
  refine wpAnyH_take hi hsel hfree hready (v := v) (fun c a w ⟨l', L', _, _, h⟩ => (hNP c l' L' h).elim) (.inl ⟨hw a n hf, fun w hw => ho a n w hf hw⟩) (hS w hs) ?_
  rw [hd]
  exact k _ _ (hf.put d (Nat.le_of_ble_eq_true hlt) v) hs
theorem gs_take (i : Nat) {d : Nat} {o : Oper} {v : Value} {L' : HL} (hi : ops[i]? = some o) (hsel : Region.noSelect ops = true) (hfree : Region.free .any ops listed i = true) (hready : (Region.ready .any ops listed).contains i = true)
    (hNP : ∀ c l L, ¬ Q (.panic c) l L) (hw : Want ops l o) (hd : o.dst = some d) (hlt : Nat.ble (d + 1) n = true) (hS : ∀ w, St w0 w L → S w) (hS' : ∀ w, S w → St w0 w L') (ho : OV P w0 L' l o v)
    (k : GS P n w0 ops S fuel (listed.setIfInBounds i true) ((d, v) :: l) L Q) : GS P n w0 ops S (fuel + 1) listed l L Q := by
  refine gs_takeS i hi hsel hfree hready hNP hw hd hlt hS ?_ k
  unfold OV at ho
  exact fun a n w hf hw => ho a n w hf (hS' w hw)
theorem gs_all (rs : List Nat) (hr : Region.ready .any ops listed = rs) (hne : rs ≠ []) (h : ∀ i ∈ rs, GSop P n w0 ops S fuel listed l L Q i) : GS P n w0 ops S (fuel + 1) listed l L Q := fun a w hf hs =>
  wpAnyH_all hr hne fun i hi => h i hi a w hf hs
theorem gs_one (i : Nat) (hr : Region.ready .any ops listed = [i]) (h : GSop P n w0 ops S fuel listed l L Q i) : GS P n w0 ops S (fuel + 1) listed l L Q :=
  gs_all [i] hr (by simp) fun j hj => by
    obtain rfl : j = i := by simpa using hj
    exact h
theorem gs_op {i : Nat} {o : Oper} (hi : ops[i]? = some o) (hw : Want ops l o)
    (h : EF P n w0 l L o fun l' L' => (∀ w, St w0 w L' → S w) ∧ GS P n w0 ops S fuel (listed.setIfInBounds i true) l' L' Q) : GSop P n w0 ops S fuel listed l L Q i := fun a w hf hs => by
  unfold EF at h
  unfold wpOp
  simp only [hi]
  rw [if_pos (hw a n hf)]
  obtain ⟨x, w', v, h1, h2, l', L', h3, h4, h5, h6⟩ := h a w hf hs
  refine .inl ?_
  unfold Oper.wp
  rw [h1]
  rcases h2 with rfl | ⟨rfl, rfl⟩
  · exact ⟨h5 _ h4, h6 _ _ (h3 a hf) h4⟩
  · exact ⟨h5 _ h4, h6 _ _ (h3 a hf) h4⟩
theorem gs_val {i d : Nat} {o : Oper} {v : Value} (hi : ops[i]? = some o) (hw : Want ops l o) (hd : o.dst = some d) (hlt : Nat.ble (d + 1) n = true) (ho : OV P w0 L l o v) (hS : ∀ w, St w0 w L → S w)
    (k : GS P n w0 ops S fuel (listed.setIfInBounds i true) ((d, v) :: l) L Q) : GSop P n w0 ops S fuel listed l L Q i := fun a w hf hs => by
  unfold OV at ho
  unfold wpOp
  simp only [hi]
  rw [if_pos (hw a n hf)]
  refine .inl ?_
  unfold Oper.wp
  rw [ho a n w hf hs]
  simp only [Oper.upon, hd]
  exact ⟨hS _ hs, k _ _ (hf.put d (Nat.le_of_ble_eq_true hlt) v) hs⟩
theorem gs_call {i : Nat} {f : FuncId} {xs : List Operand} {vs : List Value} {u : Value} {ts : Array TypeId} {d : Nat} {ty : TypeId} {ps : String} {af : Array Edge} {gd : Option (Nat × Bool)}
    (hi : ops[i]? = some ⟨some d, .call { callee := .value (.func f), args := xs.toArray, argTypes := ts }, ty, ps, af, gd⟩)
    (hw : Want ops l ⟨some d, .call { callee := .value (.func f), args := xs.toArray, argTypes := ts }, ty, ps, af, gd⟩) (hlt : Nat.ble (d + 1) n = true) (hx : evls l xs = some vs) (hc : callT P f = true) (hS : ∀ w, St w0 w L → S w)
    (hC : ∀ w, St w0 w L → Cl P f vs.toArray w fun v _ => v = u) (k : GS P n w0 ops S fuel (listed.setIfInBounds i true) ((d, u) :: l) L Q) : GSop P n w0 ops S fuel listed l L Q i := fun a w hf hs => by
  unfold wpOp
  simp only [hi]
  rw [if_pos (hw a n hf)]
  refine .inl ?_
  unfold Oper.wp
  rw [run_call hf hx hc]
  have := hC w hs
  unfold Cl at this
  refine Calls.mono this fun e w' ⟨v, N, he, hN, hR⟩ => ?_
  subst he
  subst hR
  exact ⟨hS _ (hs.then hN).tail, k _ _ (hf.put d (Nat.le_of_ble_eq_true hlt) v) (hs.then hN).tail⟩
theorem gs_done (hr : Region.ready .any ops listed = []) (h : Q .normal l L) : GS P n w0 ops S fuel listed l L Q := fun a w hf hs => wpAnyH_done hr ⟨l, L, hf, hs, h⟩ fuel
theorem ov_ldS {t : TypeId} {x : Operand} {q : Addr} {v : Value} {dst : Option Tmp} {ty : TypeId} {ps : String} {af : Array Edge} {gd : Option (Nat × Bool)} (hx : evl l x = some (.pointer (some q))) [ht : RowT P t false] (hq : ∀ w, S w → w.cell? q = some v) :
    OVS P S l ⟨dst, .load t x, ty, ps, af, gd⟩ v := fun a n w hf hw => by
  have h1 := run_isAgg ht.h w
  simp [execOp, hf.ev hx, Instr.loadAt, Instr.sureAddr, loadVar, h1, load, Sem.run, hq w hw]
/-- An element of an array, of one cell. -/
theorem ov_iaN {t e : TypeId} {x y : Operand} {b o m j : Nat} {k : IntKind} {dst : Option Tmp} {ty : TypeId} {ps : String} {af : Array Edge} {gd : Option (Nat × Bool)} (hx : evl l x = some (.pointer (some ⟨b, o, none⟩))) (hy : evl l y = some (.int k (j : Int)))
    [ht : ArrayT P t m e] [hz : SizeT P e 1] (h1 : j < m) : OV P w0 L l ⟨dst, .indexAddr t x y, ty, ps, af, gd⟩ (.pointer (some ⟨b, o + j, none⟩)) := by
  have := ov_iaa (P := P) (w0 := w0) (L := L) (dst := dst) (ty := ty) (ps := ps) (af := af) (gd := gd) hx hy (ht := ht) (hz := hz) (by omega) (by omega)
  rw [Int.toNat_natCast, Nat.mul_one] at this
  exact this
end
attribute [irreducible] GS GSop OVS
end Go.Proofs.YtaahfdjobpbpjaaGreatDoor
