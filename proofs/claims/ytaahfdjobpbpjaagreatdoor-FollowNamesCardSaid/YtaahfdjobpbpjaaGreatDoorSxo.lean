/- Sxb: the rules of code, of lists of operations, of regions that draw. By this project. -/
import Derived.Test.YtaahfdjobpbpjaaGreatDoorSx
import Derived.Deep.Quiet
import Derived.OrdersHeld
import Derived.LoopN
import Derived.Scope
import Derived.Conc.MuLone
set_option linter.unusedVariables false
set_option linter.unusedSectionVars false
set_option linter.unusedSimpArgs false
namespace Go.Proofs.YtaahfdjobpbpjaaGreatDoor
open Go.RowKit Go.Extern.Stop

abbrev GQ := Exit → FL → HL → Prop
def post (n : Nat) (w0 : World) (Q : GQ) : Exit → Act → World → Prop := fun e a w => ∃ l L, Fr a n l ∧ St w0 w L ∧ Q e l L
def G (P : Program) (n : Nat) (w0 : World) (c : Code) (l : FL) (L : HL) (Q : GQ) : Prop := ∀ a w, Fr a n l → St w0 w L → Code.wp P c (post n w0 Q) a w
def GL (P : Program) (n : Nat) (w0 : World) (ops : Array Oper) (rest : List Oper) (l : FL) (L : HL) (Q : GQ) : Prop := ∀ a w, Fr a n l → St w0 w L → wpList P ops (post n w0 Q) rest a w
/-- A region that draws, all of whose operations leave what is told of the world as it is. -/
def GLq (P : Program) (n : Nat) (w0 : World) (ops : Array Oper) (rest : List Oper) (l : FL) (L : HL) (K : FL → Prop) : Prop :=
  ∀ a, Fr a n l → wpQuiet P ops (fun w => St w0 w L) (fun a' => ∃ l', Fr a' n l' ∧ K l') rest a
/-- A region that draws, in whatever order: S: what is told of the world throughout. -/
def GA (P : Program) (n : Nat) (w0 : World) (ops : Array Oper) (L0 : HL) (fuel : Nat) (listed : Array Bool) (l : FL) (L : HL) (Q : GQ) : Prop :=
  ∀ a w, Fr a n l → St w0 w L → wpAnyH P .any ops (post n w0 Q) (fun w => St w0 w L0) fuel listed a w

def gthen (next : FL → HL → Prop) (Q : GQ) : GQ
  | .normal, l, L => next l L
  | e, l, L => Q e l L
def gblock (id : Nat) (Q : GQ) : GQ
  | .exit id', l, L => if id' = id then Q .normal l L else Q (.exit id') l L
  | e, l, L => Q e l L
section
variable {P : Program} {n : Nat} {w0 : World} {l : FL} {L : HL} {Q : GQ} {ops : Array Oper} {rest : List Oper}

theorem g_mono {c : Code} {Q' : GQ} (h : G P n w0 c l L Q) (hq : ∀ e l L, Q e l L → Q' e l L) : G P n w0 c l L Q' := fun a w hf hs =>
  wp_mono (h a w hf hs) fun _ _ _ ⟨l', L', h1, h2, h3⟩ => ⟨l', L', h1, h2, hq _ _ _ h3⟩
theorem g_sub {c : Code} {k : FL} (hk : Sub l k) (h : G P n w0 c k L Q) : G P n w0 c l L Q := fun a w hf hs => h a w (hf.sub hk) hs
theorem g_heap {c : Code} {L' : HL} (hL : ∀ w, St w0 w L → St w0 w L') (h : G P n w0 c l L' Q) : G P n w0 c l L Q := fun a w hf hs => h a w hf (hL w hs)
theorem g_seq {x y : Code} (h : G P n w0 x l L (gthen (fun l L => G P n w0 y l L Q) Q)) : G P n w0 (.seq x y) l L Q := fun a w hf hs =>
  wp_seq (wp_mono (h a w hf hs) fun e a' w' ⟨l', L', h1, h2, h3⟩ => by
    cases e <;> first | exact h3 a' w' h1 h2 | exact ⟨l', L', h1, h2, h3⟩)
/-- With what holds between the two told: K. -/
theorem g_cut {x y : Code} (K : FL → HL → Prop) (h : G P n w0 x l L (gthen K Q)) (hk : ∀ l L, K l L → G P n w0 y l L Q) : G P n w0 (.seq x y) l L Q :=
  g_seq (g_mono h fun e l L hq => by cases e <;> first | exact hk l L hq | exact hq)
theorem g_block {id : Nat} {c : Code} (h : G P n w0 c l L (gblock id Q)) : G P n w0 (.block id c) l L Q := fun a w hf hs =>
  wp_block (wp_mono (h a w hf hs) fun e a' w' ⟨l', L', h1, h2, h3⟩ => by
    cases e with
    | exit id' =>
      simp only [gblock, Exit.inBlock] at h3 ⊢
      split <;> rename_i hid <;> simp only [hid, if_true, if_false] at h3 <;> exact ⟨l', L', h1, h2, h3⟩
    | _ => exact ⟨l', L', h1, h2, h3⟩)
theorem g_label {k : Nat} (h : Q .normal l L) : G P n w0 (.label k) l L Q := fun _ _ hf hs => wp_label ⟨l, L, hf, hs, h⟩
theorem g_scope {c : Code} (hng : ∀ k l L, ¬ Q (.goto k) l L) (h : G P n w0 c l L Q) : G P n w0 (.scope c) l L Q := fun a w hf hs =>
  wp_scope_straight (wp_mono (h a w hf hs) fun e a' w' hp => by
    cases e <;> first | exact hp | (obtain ⟨l', L', _, _, h3⟩ := hp; exact (hng _ _ _ h3).elim))
theorem g_skip (h : Q .normal l L) : G P n w0 .skip l L Q := fun _ _ hf hs => wp_skip ⟨l, L, hf, hs, h⟩
theorem g_ret (h : Q .ret l L) : G P n w0 .ret l L Q := fun _ _ hf hs => wp_ret ⟨l, L, hf, hs, h⟩
theorem g_exit {id : Nat} (h : Q (.exit id) l L) : G P n w0 (.exit id) l L Q := fun _ _ hf hs => wp_exit ⟨l, L, hf, hs, h⟩
theorem g_cond {c : Operand} {x y : Code} (t : Bool) (hc : evl l c = some (.bool t)) (h1 : t = true → G P n w0 x l L Q) (h2 : t = false → G P n w0 y l L Q) : G P n w0 (.cond c x y) l L Q := fun a w hf hs =>
  wp_cond_split (hf.ev hc) (fun h => h1 h a w hf hs) (fun h => h2 h a w hf hs)
theorem g_condT {c : Operand} {x y : Code} (hc : evl l c = some (.bool true)) (h1 : G P n w0 x l L Q) : G P n w0 (.cond c x y) l L Q := fun a w hf hs => wp_cond_true (hf.ev hc) (h1 a w hf hs)
theorem g_condF {c : Operand} {x y : Code} (hc : evl l c = some (.bool false)) (h1 : G P n w0 y l L Q) : G P n w0 (.cond c x y) l L Q := fun a w hf hs => wp_cond_false (hf.ev hc) (h1 a w hf hs)
theorem g_region {id : Nat} {ops : List Oper} (h : GL P n w0 ops.toArray ops l L Q) : G P n w0 (.region id ops.toArray false) l L Q := fun a w hf hs => wp_region_lit (h a w hf hs)
theorem g_quiet {id : Nat} {ops : List Oper} (hm : P.follows .mixedOrders = true) (hB : Region.lexB .any ops.toArray = true) (h : GLq P n w0 ops.toArray ops l L (fun l' => Q .normal l' L)) :
    G P n w0 (.region id ops.toArray true) l L Q := fun a w hf hs => by
  refine wp_region_quiet (C := fun w => St w0 w L) hm hB hs.drew ?_
  have := h a hf
  refine (?_ : wpQuiet P ops.toArray (fun w => St w0 w L) (fun a' => ∀ w', St w0 w' L → post n w0 Q .normal a' w') ops.toArray.toList a)
  have key : ∀ (r : List Oper) (a : Act), wpQuiet P ops.toArray (fun w => St w0 w L) (fun a' => ∃ l', Fr a' n l' ∧ Q .normal l' L) r a →
      wpQuiet P ops.toArray (fun w => St w0 w L) (fun a' => ∀ w', St w0 w' L → post n w0 Q .normal a' w') r a := by
    intro r
    induction r with
    | nil => exact fun a ⟨l', h1, h2⟩ w' hw' => ⟨l', L, h1, hw', h2⟩
    | cons o r ih =>
      intro a hq
      unfold wpQuiet at hq ⊢
      split
      · rename_i hw; rw [if_pos hw] at hq; exact Oper.quiet_mono ih hq
      · rename_i hw; rw [if_neg hw] at hq; exact ih _ hq
  simpa using key ops a this
theorem g_any {id : Nat} {ops : List Oper} (hm : P.follows .mixedOrders = true) (h : GA P n w0 ops.toArray L ops.toArray.size (Array.replicate ops.toArray.size false) l L Q) :
    G P n w0 (.region id ops.toArray true) l L Q := fun a w hf hs => wp_region_held hm (h a _ hf hs.drew)
/-- A loop: I: the frames and blocks at a round's head, by a family; m: what goes down. -/
theorem g_loop {c : Code} {ι : Type} (F : ι → FL) (H : ι → HL) (p : ι → Prop) (m : ι → Nat) (i : ι) (hp : p i) (hl : Sub l (F i)) (hL : ∀ w, St w0 w L → St w0 w (H i))
    (h : ∀ i, p i → G P n w0 c (F i) (H i) (gthen (fun l' L' => ∃ j, p j ∧ m j < m i ∧ Sub l' (F j) ∧ ∀ w, St w0 w L' → St w0 w (H j)) Q)) : G P n w0 (.loop c) l L Q := fun a w hf hs => by
  intro b k cs
  have key : ∀ q i, m i = q → p i → ∀ a w, Fr a n (F i) → St w0 w (H i) → ∃ e a' w', post n w0 Q e a' w' ∧ Arrives P (lone (b.at a (.code c :: .inLoop c :: k)) cs w) b k cs e a' w' := by
    intro q
    induction q using Nat.strongRecOn with
    | _ q ih =>
      intro i hq hp a w hf hs
      obtain ⟨e, a1, w1, hpost, harr⟩ := h i hp a w hf hs b (.inLoop c :: k) cs
      obtain ⟨l', L', q1, q2, q3⟩ := hpost
      cases e with
      | normal =>
        obtain ⟨j, g1, g2, g3, g4⟩ := q3
        obtain ⟨e2, a2, w2, hq2, harr2⟩ := ih (m j) (hq ▸ g2) j rfl g1 a1 w1 (q1.sub g3) (g4 w1 q2)
        exact ⟨e2, a2, w2, hq2, .of_steps (Steps.trans harr (.one step_inLoop)) harr2⟩
      | exit id => exact ⟨_, a1, w1, ⟨l', L', q1, q2, q3⟩, .pass (x := .inLoop c) rfl (fun _ _ => .inl (by simp)) harr⟩
      | goto l => exact ⟨_, a1, w1, ⟨l', L', q1, q2, q3⟩, .pass (x := .inLoop c) rfl (fun _ _ => .inl (by simp)) harr⟩
      | ret => exact ⟨_, a1, w1, ⟨l', L', q1, q2, q3⟩, .pass (x := .inLoop c) rfl (fun _ _ => .inl (by simp)) harr⟩
      | panic ch => exact ⟨_, a1, w1, ⟨l', L', q1, q2, q3⟩, .pass (x := .inLoop c) rfl (fun _ _ => .inl (by simp)) harr⟩
      | outgrown => exact ⟨_, a1, w1, ⟨l', L', q1, q2, q3⟩, .pass (x := .inLoop c) rfl (fun _ _ => .inl (by simp)) harr⟩
  obtain ⟨e, a', w', hq, harr⟩ := key _ i rfl hp a w (hf.sub hl) (hL w hs)
  exact ⟨e, a', w', hq, .of_steps (.one step_loop) harr⟩

/-! ### Operations -/
/-- In whatever such frame and world the operation yields v and leaves the world. -/
def OV (P : Program) (w0 : World) (L : HL) (l : FL) (o : Oper) (v : Value) : Prop := ∀ (a : Act) (n : Nat) (w : World), Fr a n l → St w0 w L → (execOp a.eval o).run P w = .ok (.value v) w
/-- The operation is carried out. -/
def Want (ops : Array Oper) (l : FL) (o : Oper) : Prop := ∀ (a : Act) (n : Nat), Fr a n l → Region.wanted o (yielded ops a.tmps) = true
def Idle (ops : Array Oper) (l : FL) (o : Oper) : Prop := ∀ (a : Act) (n : Nat), Fr a n l → Region.wanted o (yielded ops a.tmps) = false
theorem want_n {o : Oper} (h : o.guard = none) : Want ops l o := fun a n _ => by simp [Region.wanted, h]
theorem want_g {o : Oper} {j d : Nat} {t : Bool} (h : o.guard = some (j, t)) (hd : (ops[j]?).bind (·.dst) = some d) (hv : l.lookup d = some (.bool t)) : Want ops l o := fun a n hf => by
  simp [Region.wanted, h, yielded, hd, hf.look d _ hv]
theorem idle_g {o : Oper} {j d : Nat} {t : Bool} (h : o.guard = some (j, t)) (hd : (ops[j]?).bind (·.dst) = some d) (hv : l.lookup d = some (.bool !t)) : Idle ops l o := fun a n hf => by
  simp [Region.wanted, h, yielded, hd, hf.look d _ hv]
theorem idle_u {o : Oper} {j d : Nat} {t : Bool} (h : o.guard = some (j, t)) (hd : (ops[j]?).bind (·.dst) = some d) (hv : l.lookup d = some undef) : Idle ops l o := fun a n hf => by
  simp [Region.wanted, h, yielded, hd, hf.look d _ hv, undef]

theorem gl_nil (h : Q .normal l L) : GL P n w0 ops [] l L Q := fun _ _ hf hs => ⟨l, L, hf, hs, h⟩
theorem glq_nil {K : FL → Prop} (h : K l) : GLq P n w0 ops [] l L K := fun _ hf => ⟨l, hf, h⟩
theorem gl_v {o : Oper} {v : Value} {d : Nat} (hw : Want ops l o) (hd : o.dst = some d) (hlt : d < n) (ho : OV P w0 L l o v) (k : GL P n w0 ops rest ((d, v) :: l) L Q) : GL P n w0 ops (o :: rest) l L Q := fun a w hf hs => by
  refine wpList_step fun K hK => ?_
  rw [if_pos (hw a n hf)]
  unfold Oper.wp
  rw [ho a n w hf hs]
  simp only [Oper.upon, hd]
  exact hK _ _ (k _ _ (hf.put d hlt v) hs)
theorem gl_idle {o : Oper} {d : Nat} (hw : Idle ops l o) (hd : o.dst = some d) (hlt : d < n) (k : GL P n w0 ops rest ((d, undef) :: l) L Q) : GL P n w0 ops (o :: rest) l L Q := fun a w hf hs => by
  refine wpList_step fun K hK => ?_
  rw [if_neg (by simp [hw a n hf])]
  simp only [hd]
  exact hK _ _ (k _ _ (hf.put d hlt undef) hs)
theorem glq_v {K : FL → Prop} {o : Oper} {v : Value} {d : Nat} (hw : Want ops l o) (hd : o.dst = some d) (hlt : d < n) (ho : OV P w0 L l o v) (k : GLq P n w0 ops rest ((d, v) :: l) L K) : GLq P n w0 ops (o :: rest) l L K := fun a hf => by
  refine wpQuiet_step fun K' hK => ?_
  rw [if_pos (hw a n hf)]
  refine ⟨v, fun w hs => ?_, ?_⟩
  · unfold Oper.quietAt
    rw [ho a n w hf hs]
    exact ⟨rfl, rfl⟩
  · simp only [hd]
    exact hK _ (k _ (hf.put d hlt v))
theorem glq_idle {K : FL → Prop} {o : Oper} {d : Nat} (hw : Idle ops l o) (hd : o.dst = some d) (hlt : d < n) (k : GLq P n w0 ops rest ((d, undef) :: l) L K) : GLq P n w0 ops (o :: rest) l L K := fun a hf => by
  refine wpQuiet_step fun K' hK => ?_
  rw [if_neg (by simp [hw a n hf])]
  simp only [hd]
  exact hK _ (k _ (hf.put d hlt undef))
/-- What an operation does to the frame and the blocks told: K holds behind it. -/
def EF (P : Program) (n : Nat) (w0 : World) (l : FL) (L : HL) (o : Oper) (K : FL → HL → Prop) : Prop := ∀ a w, Fr a n l → St w0 w L → ∃ x w' v, (execOp a.eval o).run P w = .ok x w' ∧ ((x = .value v) ∨ (x = .skip ∧ v = undef)) ∧
  (∃ l' L', (∀ a', Fr a' n l → Fr (a'.put o.dst v) n l') ∧ St w0 w' L' ∧ K l' L')
theorem gl_w {o : Oper} (hw : Want ops l o) (h : EF P n w0 l L o fun l' L' => GL P n w0 ops rest l' L' Q) : GL P n w0 ops (o :: rest) l L Q := fun a w hf hs => by
  refine wpList_step fun K hK => ?_
  rw [if_pos (hw a n hf)]
  obtain ⟨x, w', v, h1, h2, l', L', h3, h4, h5⟩ := h a w hf hs
  unfold Oper.wp
  rw [h1]
  rcases h2 with rfl | ⟨rfl, rfl⟩
  · exact hK _ _ (h5 _ _ (h3 a hf) h4)
  · exact hK _ _ (h5 _ _ (h3 a hf) h4)

/-! ### A region in whatever order -/
theorem ga_take {L0 : HL} {fuel : Nat} {listed : Array Bool} (i : Nat) {d : Nat} {o : Oper} {v : Value} (hi : ops[i]? = some o) (hsel : Region.noSelect ops = true) (hfree : Region.free .any ops listed i = true) (hready : (Region.ready .any ops listed).contains i = true)
    (hNP : ∀ c l L, ¬ Q (.panic c) l L) (hw : Want ops l o) (hd : o.dst = some d) (hlt : Nat.ble (d + 1) n = true) (hL : ∀ w, St w0 w L → St w0 w L0) (ho : OV P w0 L0 l o v) (k : GA P n w0 ops L0 fuel (listed.setIfInBounds i true) ((d, v) :: l) L Q) : GA P n w0 ops L0 (fuel + 1) listed l L Q := fun a w hf hs => by
  refine wpAnyH_take hi hsel hfree hready (v := v) (fun c a w ⟨l', L', _, _, h⟩ => (hNP c l' L' h).elim) (.inl ⟨hw a n hf, fun w hw => ho a n w hf hw⟩) (hL w hs) ?_
  rw [hd]
  exact k _ _ (hf.put d (Nat.le_of_ble_eq_true hlt) v) hs
/-- One operation of such a region comes up. -/
def GAop (P : Program) (n : Nat) (w0 : World) (ops : Array Oper) (L0 : HL) (fuel : Nat) (listed : Array Bool) (l : FL) (L : HL) (Q : GQ) (i : Nat) : Prop :=
  ∀ a w, Fr a n l → St w0 w L → wpOp P ops (post n w0 Q) i (fun a' w' => St w0 w' L0 ∧ wpAnyH P .any ops (post n w0 Q) (fun w => St w0 w L0) fuel (listed.setIfInBounds i true) a' w') a w
theorem ga_all {L0 : HL} {fuel : Nat} {listed : Array Bool} (rs : List Nat) (hr : Region.ready .any ops listed = rs) (hne : rs ≠ []) (h : ∀ i ∈ rs, GAop P n w0 ops L0 fuel listed l L Q i) : GA P n w0 ops L0 (fuel + 1) listed l L Q := fun a w hf hs =>
  wpAnyH_all hr hne fun i hi => h i hi a w hf hs
theorem ga_op {L0 : HL} {fuel i : Nat} {o : Oper} {listed : Array Bool} (hi : ops[i]? = some o) (hw : Want ops l o)
    (h : EF P n w0 l L o fun l' L' => (∀ w, St w0 w L' → St w0 w L0) ∧ GA P n w0 ops L0 fuel (listed.setIfInBounds i true) l' L' Q) : GAop P n w0 ops L0 fuel listed l L Q i := fun a w hf hs => by
  unfold wpOp
  simp only [hi]
  rw [if_pos (hw a n hf)]
  obtain ⟨x, w', v, h1, h2, l', L', h3, h4, h5, h6⟩ := h a w hf hs
  refine .inl ?_
  unfold Oper.wp
  rw [h1]
  rcases h2 with rfl | ⟨rfl, rfl⟩
  · exact ⟨h5 _ h4, h6 _ _ (h3 a hf) h4⟩
  · exact ⟨h5 _ h4, h6 _ _ (h3 a hf) h4⟩
theorem ga_done {L0 : HL} {fuel : Nat} {listed : Array Bool} (hr : Region.ready .any ops listed = []) (h : Q .normal l L) : GA P n w0 ops L0 fuel listed l L Q := fun a w hf hs => wpAnyH_done hr ⟨l, L, hf, hs, h⟩ fuel
theorem tail1 {x : Option Nat × Obj} : ∀ w, St w0 w (x :: L) → St w0 w L := fun _ h => h.tail (N := [x])
theorem tail2 {x y : Option Nat × Obj} : ∀ w, St w0 w (x :: y :: L) → St w0 w L := fun _ h => h.tail (N := [x, y])
end
/-! ### What the tables say of a type -/
def rowT (P : Program) (t : TypeId) : Option Bool := (P.underlying t).map TypeDesc.isRow
def sizeT (P : Program) (t : TypeId) : Option Nat := (P.info? t).map (·.size)
def sliceT (P : Program) (t : TypeId) : Option TypeId := (P.underlying t).bind fun | .slice e => some e | _ => none
def arrayT (P : Program) (t : TypeId) : Option (Nat × TypeId) := (P.underlying t).bind fun | .array n e => some (n, e) | _ => none
def intT (P : Program) (t : TypeId) : Option IntKind := (P.underlying t).bind fun | .int k => some k | _ => none
def fieldT (P : Program) (t : TypeId) (i : Nat) : Option (Nat × TypeId) := (P.underlying t).bind fun | .struct fs => (fs[i]?).map fun f => (f.offset, f.type) | _ => none
def zeroT (P : Program) (t : TypeId) : Option Value := (P.info? t).bind (·.zero)

def bytesT (P : Program) (t : TypeId) : Option Nat := (P.info? t).map (·.bytes)
class BytesT (P : Program) (t : TypeId) (b : outParam Nat) : Prop where h : bytesT P t = some b
class RowT (P : Program) (t : TypeId) (b : outParam Bool) : Prop where h : rowT P t = some b
class SizeT (P : Program) (t : TypeId) (s : outParam Nat) : Prop where h : sizeT P t = some s
class SliceT (P : Program) (t : TypeId) (e : outParam TypeId) : Prop where h : sliceT P t = some e
class ArrayT (P : Program) (t : TypeId) (k : outParam Nat) (e : outParam TypeId) : Prop where h : arrayT P t = some (k, e)
class IntT (P : Program) (t : TypeId) (k : outParam IntKind) : Prop where h : intT P t = some k
class FieldT (P : Program) (t : TypeId) (i : Nat) (o : outParam Nat) (e : outParam TypeId) : Prop where h : fieldT P t i = some (o, e)
class ZeroT (P : Program) (t : TypeId) (z : outParam Value) : Prop where h : zeroT P t = some z
/-- Block b, with what lies there, is the i-th told. -/
class AtL (b : Nat) (L : HL) (o : outParam Obj) (i : outParam Nat) : Prop where h : L[i]? = some (some b, o)
instance {b : Nat} {o : Obj} {r : HL} : AtL b ((some b, o) :: r) o 0 := ⟨rfl⟩
instance (priority := low) {b : Nat} {o : Obj} {r : HL} {x : Option Nat × Obj} {i : Nat} [k : AtL b r o i] : AtL b (x :: r) o (i + 1) := ⟨by simpa using k.h⟩
/-- The list with the i-th put anew. -/
class SetL (L : HL) (i : Nat) (x : Option Nat × Obj) (L' : outParam HL) : Prop where h : L.set i x = L'
instance {y x : Option Nat × Obj} {r : HL} : SetL (y :: r) 0 x (x :: r) := ⟨rfl⟩
instance {y x : Option Nat × Obj} {r r' : HL} {i : Nat} [k : SetL r i x r'] : SetL (y :: r) (i + 1) x (y :: r') := ⟨by rw [List.set_cons_succ, k.h]⟩

/-- The cells of a value. -/
class CellsOf (v : Value) (C : outParam (List Value)) : Prop where h : v.cells = C.toArray
instance {C : List Value} : CellsOf (.agg C.toArray) C := ⟨rfl⟩
instance {k : IntKind} {n : Int} : CellsOf (.int k n) [.int k n] := ⟨rfl⟩
instance {b : Bool} : CellsOf (.bool b) [.bool b] := ⟨rfl⟩
instance {s : ByteArray} : CellsOf (.string s) [.string s] := ⟨rfl⟩
instance {a : Option Addr} : CellsOf (.pointer a) [.pointer a] := ⟨rfl⟩
instance {a : Option Addr} {m c : Nat} : CellsOf (.slice a m c) [.slice a m c] := ⟨rfl⟩
instance {r : Option Nat} : CellsOf (.map r) [.map r] := ⟨rfl⟩
instance {t : TypeId} {v : Value} : CellsOf (.iface t v) [.iface t v] := ⟨rfl⟩
instance : CellsOf .nilIface [.nilIface] := ⟨rfl⟩
instance : CellsOf .nilFunc [.nilFunc] := ⟨rfl⟩
section
variable {P : Program} {n : Nat} {w0 : World} {l : FL} {L : HL} {Q : GQ} {ops : Array Oper} {rest : List Oper}

theorem run_isAgg {t : TypeId} {b : Bool} (h : rowT P t = some b) (w : World) : (isAgg t).run P w = .ok b w := by
  unfold rowT at h
  cases hu : P.underlying t with
  | none => rw [hu] at h; simp at h
  | some d =>
    rw [hu] at h
    simp only [Option.map_some, Option.some.injEq] at h
    subst h
    unfold isAgg
    rw [Sem.run_bind, run_underlying hu w]
    cases d <;> rfl
theorem run_sizeOf {t : TypeId} {s : Nat} (h : sizeT P t = some s) (w : World) : (sizeOf t).run P w = .ok s w := by
  unfold sizeT at h
  cases hi : P.info? t with
  | none => rw [hi] at h; simp at h
  | some i =>
    rw [hi] at h
    simp only [Option.map_some, Option.some.injEq] at h
    subst h
    simp [sizeOf, typeInfo, hi]
theorem und_slice {t e : TypeId} (h : sliceT P t = some e) : P.underlying t = some (.slice e) := by
  unfold sliceT at h
  cases hu : P.underlying t with
  | none => rw [hu] at h; simp at h
  | some d => rw [hu] at h; cases d <;> simp at h; rw [h]
theorem und_array {t e : TypeId} {k : Nat} (h : arrayT P t = some (k, e)) : P.underlying t = some (.array k e) := by
  unfold arrayT at h
  cases hu : P.underlying t with
  | none => rw [hu] at h; simp at h
  | some d => rw [hu] at h; cases d <;> simp at h; rw [h.1, h.2]
theorem und_int {t : TypeId} {k : IntKind} (h : intT P t = some k) : P.underlying t = some (.int k) := by
  unfold intT at h
  cases hu : P.underlying t with
  | none => rw [hu] at h; simp at h
  | some d => rw [hu] at h; cases d <;> simp at h; rw [h]
theorem und_field {t e : TypeId} {i o : Nat} (h : fieldT P t i = some (o, e)) : ∃ fs f, P.underlying t = some (.struct fs) ∧ fs[i]? = some f ∧ f.offset = o ∧ f.type = e := by
  unfold fieldT at h
  cases hu : P.underlying t with
  | none => rw [hu] at h; simp at h
  | some d =>
    rw [hu] at h
    cases d <;> simp at h
    rename_i fs
    obtain ⟨f, hf, h1, h2⟩ := h
    exact ⟨fs, f, rfl, hf, h1, h2⟩

/-! ### Values alone -/
theorem ov_move {x : Operand} {v : Value} {dst : Option Tmp} {ty : TypeId} {ps : String} {af : Array Edge} {gd : Option (Nat × Bool)} (hx : evl l x = some v) : OV P w0 L l ⟨dst, .move x, ty, ps, af, gd⟩ v := fun a n w hf hs => by
  simp only [execOp, hf.ev hx]; rfl
theorem ov_assign {x : Operand} {v : Value} {dst : Option Tmp} {ty : TypeId} {ps : String} {af : Array Edge} {gd : Option (Nat × Bool)} (hx : evl l x = some v) : OV P w0 L l ⟨dst, .assign x, ty, ps, af, gd⟩ v := fun a n w hf hs => by
  simp only [execOp, hf.ev hx]; rfl
theorem ov_pickT {c x y : Operand} {v : Value} {dst : Option Tmp} {ty : TypeId} {ps : String} {af : Array Edge} {gd : Option (Nat × Bool)} (hc : evl l c = some (.bool true)) (hx : evl l x = some v) : OV P w0 L l ⟨dst, .pick c x y, ty, ps, af, gd⟩ v := fun a n w hf hs => by
  simp only [execOp, hf.ev hc, hf.ev hx]; rfl
theorem ov_pickF {c x y : Operand} {v : Value} {dst : Option Tmp} {ty : TypeId} {ps : String} {af : Array Edge} {gd : Option (Nat × Bool)} (hc : evl l c = some (.bool false)) (hy : evl l y = some v) : OV P w0 L l ⟨dst, .pick c x y, ty, ps, af, gd⟩ v := fun a n w hf hs => by
  simp only [execOp, hf.ev hc, hf.ev hy]; rfl
theorem eqGuard_int (op : BinOp) (t : TypeId) (x y : Operand) (k k' : IntKind) (a b : Int) : eqGuard op t x y (.int k a) (.int k' b) = pure () := by
  cases op <;> rfl
theorem ov_int {op : BinOp} {t t' : TypeId} {x y : Operand} {k k' : IntKind} {p q : Int} {v : Value} {dst : Option Tmp} {ty : TypeId} {ps : String} {af : Array Edge} {gd : Option (Nat × Bool)}
    (hx : evl l x = some (.int k p)) (hy : evl l y = some (.int k' q)) (hr : binOp op t (.int k p) (.int k' q) = pure v) : OV P w0 L l ⟨dst, .binOp op t x y t', ty, ps, af, gd⟩ v := fun a n w hf hs => by
  simp only [execOp, hf.ev hx, hf.ev hy, eqGuard_int, hr]
  rfl
theorem bin_add (t : TypeId) (k : IntKind) (p q : Int) : binOp .add t (.int k p) (.int k q) = pure (.int k (k.wrap (p + q))) := by simp [binOp, Op.intArith]
theorem bin_sub (t : TypeId) (k : IntKind) (p q : Int) : binOp .sub t (.int k p) (.int k q) = pure (.int k (k.wrap (p - q))) := by simp [binOp, Op.intArith]
theorem bin_mul (t : TypeId) (k : IntKind) (p q : Int) : binOp .mul t (.int k p) (.int k q) = pure (.int k (k.wrap (p * q))) := by simp [binOp, Op.intArith]
theorem bin_lss (t : TypeId) (k : IntKind) (p q : Int) : binOp .lss t (.int k p) (.int k q) = pure (.bool (decide (p < q))) := by simp [binOp, Op.intCmp]
theorem bin_leq (t : TypeId) (k : IntKind) (p q : Int) : binOp .leq t (.int k p) (.int k q) = pure (.bool (decide (p ≤ q))) := by simp [binOp, Op.intCmp]
theorem bin_gtr (t : TypeId) (k : IntKind) (p q : Int) : binOp .gtr t (.int k p) (.int k q) = pure (.bool (decide (q < p))) := by simp [binOp, Op.intCmp]
theorem bin_geq (t : TypeId) (k : IntKind) (p q : Int) : binOp .geq t (.int k p) (.int k q) = pure (.bool (decide (q ≤ p))) := by simp [binOp, Op.intCmp]
theorem bin_eql (t : TypeId) (k : IntKind) (p q : Int) : binOp .eql t (.int k p) (.int k q) = pure (.bool (p == q)) := by simp [binOp, Op.intCmp]
theorem bin_neq (t : TypeId) (k : IntKind) (p q : Int) : binOp .neq t (.int k p) (.int k q) = pure (.bool (p != q)) := by simp [binOp, Op.intCmp]
theorem bin_and (t : TypeId) (k : IntKind) (p q : Int) : binOp .and t (.int k p) (.int k q) = pure (.int k (k.wrap (BitVec.ofInt k.bits p &&& BitVec.ofInt k.bits q).toNat)) := by simp [binOp, Op.intBits]
theorem bin_or (t : TypeId) (k : IntKind) (p q : Int) : binOp .or t (.int k p) (.int k q) = pure (.int k (k.wrap (BitVec.ofInt k.bits p ||| BitVec.ofInt k.bits q).toNat)) := by simp [binOp, Op.intBits]
theorem bin_xor (t : TypeId) (k : IntKind) (p q : Int) : binOp .xor t (.int k p) (.int k q) = pure (.int k (k.wrap (BitVec.ofInt k.bits p ^^^ BitVec.ofInt k.bits q).toNat)) := by simp [binOp, Op.intBits]
theorem bin_quo (t : TypeId) (k : IntKind) (p q : Int) (h : q ≠ 0) : binOp .quo t (.int k p) (.int k q) = pure (.int k (k.wrap (p.tdiv q))) := by simp [binOp, Op.intDiv, h]
theorem bin_rem (t : TypeId) (k : IntKind) (p q : Int) (h : q ≠ 0) : binOp .rem t (.int k p) (.int k q) = pure (.int k (p.tmod q)) := by simp [binOp, Op.intDiv, h]
theorem bin_shl (t : TypeId) (k k' : IntKind) (p q : Int) (h : 0 ≤ q) : binOp .shl t (.int k p) (.int k' q) = pure (.int k (k.wrap (p * 2 ^ min q.toNat k.bits))) := by simp [binOp, Op.shift, show ¬ q < 0 by omega]
theorem bin_shr (t : TypeId) (k k' : IntKind) (p q : Int) (h : 0 ≤ q) : binOp .shr t (.int k p) (.int k' q) = pure (.int k (p.fdiv (2 ^ min q.toNat k.bits))) := by simp [binOp, Op.shift, show ¬ q < 0 by omega]
/-- '==' of two hashes (arrays of bytes). -/
theorem ov_eqbytes {t t' e : TypeId} {x y : Operand} {k : Nat} {xs ys : List UInt8} {dst : Option Tmp} {ty : TypeId} {ps : String} {af : Array Edge} {gd : Option (Nat × Bool)}
    (hx : evl l x = some (.agg (xs.map cell).toArray)) (hy : evl l y = some (.agg (ys.map cell).toArray)) [ht : ArrayT P t k e] [he : IntT P e .u8] [hz : SizeT P e 1] (hg : P.eqGuardType P.depth t = false)
    (lx : xs.length = k) (ly : ys.length = k) {b : Bool} (hb : (xs == ys) = b) : OV P w0 L l ⟨dst, .binOp .eql t x y t', ty, ps, af, gd⟩ (.bool b) := fun a n w hf hs => by
  subst hb
  simp only [execOp, hf.ev hx, hf.ev hy, eqGuard]
  simp [hg, program, Sem.run, run_eql_bytes w t e k (und_array ht.h) (und_int he.h) (fun w => run_sizeOf hz.h w) xs ys lx ly]
theorem ov_eqbool {t t' : TypeId} {x y : Operand} {p q b : Bool} {dst : Option Tmp} {ty : TypeId} {ps : String} {af : Array Edge} {gd : Option (Nat × Bool)} (hx : evl l x = some (.bool p)) (hy : evl l y = some (.bool q)) (ht : P.underlying t = some .bool) (hb : (p == q) = b) :
    OV P w0 L l ⟨dst, .binOp .eql t x y t', ty, ps, af, gd⟩ (.bool b) := fun a n w hf hs => by
  subst hb
  simp only [execOp, hf.ev hx, hf.ev hy]
  simp [eqGuard, run_eql_bool w t p q ht]
theorem ov_neqbool {t t' : TypeId} {x y : Operand} {p q b : Bool} {dst : Option Tmp} {ty : TypeId} {ps : String} {af : Array Edge} {gd : Option (Nat × Bool)} (hx : evl l x = some (.bool p)) (hy : evl l y = some (.bool q)) (ht : P.underlying t = some .bool) (hb : (p != q) = b) :
    OV P w0 L l ⟨dst, .binOp .neq t x y t', ty, ps, af, gd⟩ (.bool b) := fun a n w hf hs => by
  subst hb
  simp only [execOp, hf.ev hx, hf.ev hy]
  simp [eqGuard, binOp, run_equal_bool w t p q ht]
  cases p <;> cases q <;> rfl
theorem ov_not {t : TypeId} {x : Operand} {b : Bool} {dst : Option Tmp} {ty : TypeId} {ps : String} {af : Array Edge} {gd : Option (Nat × Bool)} (hx : evl l x = some (.bool b)) : OV P w0 L l ⟨dst, .unOp .not t x, ty, ps, af, gd⟩ (.bool !b) := fun a n w hf hs => by
  simp only [execOp, hf.ev hx]; rfl
theorem ov_un {op : UnOp} {t : TypeId} {x : Operand} {u v : Value} {dst : Option Tmp} {ty : TypeId} {ps : String} {af : Array Edge} {gd : Option (Nat × Bool)} (hx : evl l x = some u) (hr : Op.unary op u = pure v) : OV P w0 L l ⟨dst, .unOp op t x, ty, ps, af, gd⟩ v := fun a n w hf hs => by
  simp only [execOp, hf.ev hx, hr]; rfl
theorem ov_conv {s t : TypeId} {x : Operand} {k k' : IntKind} {p : Int} {dst : Option Tmp} {ty : TypeId} {ps : String} {af : Array Edge} {gd : Option (Nat × Bool)} (hx : evl l x = some (.int k p)) [hs' : IntT P s k] [ht : IntT P t k'] :
    OV P w0 L l ⟨dst, .convert s t x, ty, ps, af, gd⟩ (.int k' (k'.wrap p)) := fun a n w hf hs => by
  simp only [execOp, hf.ev hx, convert, Sem.run_bind, run_underlying (und_int hs'.h) w, run_underlying (und_int ht.h) w, Result.andThen_ok]
  rfl
theorem ov_len {t e : TypeId} {x : Operand} {A : Option Addr} {m c : Nat} {dst : Option Tmp} {ty : TypeId} {ps : String} {af : Array Edge} {gd : Option (Nat × Bool)} (hx : evl l x = some (.slice A m c)) [ht : SliceT P t e] :
    OV P w0 L l ⟨dst, .call { callee := .builtin .len, args := #[x], argTypes := #[t] }, ty, ps, af, gd⟩ (.int .i64 m) := fun a n w hf hs => by
  simp [execOp, hf.ev hx, resolve, invoke, builtin, Builtin.len_, run_underlying (und_slice ht.h) w, goInt]
theorem ov_extract {i : Nat} {x : Operand} {vs : Array Value} {v : Value} {dst : Option Tmp} {ty : TypeId} {ps : String} {af : Array Edge} {gd : Option (Nat × Bool)} (hx : evl l x = some (.tuple vs)) (hv : vs[i]? = some v) : OV P w0 L l ⟨dst, .extract x i, ty, ps, af, gd⟩ v := fun a n w hf hs => by
  simp only [execOp, hf.ev hx, Instr.extract, hv]; rfl

/-! ### Addresses -/
theorem ov_fa {t e : TypeId} {x : Operand} {b o i f s : Nat} {dst : Option Tmp} {ty : TypeId} {ps : String} {af : Array Edge} {gd : Option (Nat × Bool)} (hx : evl l x = some (.pointer (some ⟨b, o, none⟩))) [hT : FieldT P t i f e] [hz : SizeT P e (s + 1)] :
    OV P w0 L l ⟨dst, .fieldAddr t x i, ty, ps, af, gd⟩ (.pointer (some ⟨b, o + f, none⟩)) := fun a n w hf hs => by
  obtain ⟨fs, fd, h1, h2, rfl, rfl⟩ := und_field hT.h
  simp [execOp, hf.ev hx, Instr.fieldAt, run_underlying h1 w, h2, Instr.sureAddr, fieldPlace, run_sizeOf hz.h w, Addr.add_mid]
theorem ov_ia {t e : TypeId} {x y : Operand} {A : Option Addr} {m c s : Nat} {k : IntKind} {i : Int} {dst : Option Tmp} {ty : TypeId} {ps : String} {af : Array Edge} {gd : Option (Nat × Bool)} (hx : evl l x = some (.slice A m c)) (hy : evl l y = some (.int k i))
    [ht : SliceT P t e] [hz : SizeT P e s] (h0 : 0 ≤ i) (h1 : i < m) (hA : A ≠ none) : OV P w0 L l ⟨dst, .indexAddr t x y, ty, ps, af, gd⟩ (.pointer (A.map (·.add (i.toNat * s)))) := fun a n w hf hs => by
  cases A with
  | none => exact absurd rfl hA
  | some ad => simp [execOp, hf.ev hx, hf.ev hy, Instr.indexAt, asIntOf, run_underlying (und_slice ht.h) w, h0, h1, run_sizeOf hz.h w]
theorem ov_iaa {t e : TypeId} {x y : Operand} {b o m s : Nat} {k : IntKind} {i : Int} {dst : Option Tmp} {ty : TypeId} {ps : String} {af : Array Edge} {gd : Option (Nat × Bool)} (hx : evl l x = some (.pointer (some ⟨b, o, none⟩))) (hy : evl l y = some (.int k i))
    [ht : ArrayT P t m e] [hz : SizeT P e s] (h0 : 0 ≤ i) (h1 : i < m) : OV P w0 L l ⟨dst, .indexAddr t x y, ty, ps, af, gd⟩ (.pointer (some ⟨b, o + i.toNat * s, none⟩)) := fun a n w hf hs => by
  simp [execOp, hf.ev hx, hf.ev hy, Instr.indexAt, asIntOf, Instr.sureAddr, run_underlying (und_array ht.h) w, h0, h1, run_sizeOf hz.h w, Addr.add_mid]

/-! ### Parts of a value; values built -/
theorem ov_fldn {t e : TypeId} {x : Operand} {i f s : Nat} {C cs : List Value} {dst : Option Tmp} {ty : TypeId} {ps : String} {af : Array Edge} {gd : Option (Nat × Bool)} (hx : evl l x = some (.agg C.toArray)) [hT : FieldT P t i f e] [hr : RowT P e true] [hz : SizeT P e s]
    (hc : (C.drop f).take s = cs) : OV P w0 L l ⟨dst, .field t x i, ty, ps, af, gd⟩ (.agg cs.toArray) := fun a n w hf hs => by
  obtain ⟨fs, fd, h1, h2, rfl, rfl⟩ := und_field hT.h
  subst hc
  simp [execOp, hf.ev hx, Instr.field, run_underlying h1 w, h2, asAgg, part, run_isAgg hr.h w, run_sizeOf hz.h w, ← List.drop_take]
theorem ov_fld {t e : TypeId} {x : Operand} {i f : Nat} {C : List Value} {v : Value} {dst : Option Tmp} {ty : TypeId} {ps : String} {af : Array Edge} {gd : Option (Nat × Bool)} (hx : evl l x = some (.agg C.toArray)) [hT : FieldT P t i f e] [hr : RowT P e false]
    (hc : C[f]? = some v) : OV P w0 L l ⟨dst, .field t x i, ty, ps, af, gd⟩ v := fun a n w hf hs => by
  obtain ⟨fs, fd, h1, h2, rfl, rfl⟩ := und_field hT.h
  simp [execOp, hf.ev hx, Instr.field, run_underlying h1 w, h2, asAgg, part, run_isAgg hr.h w, hc]
/-- An element of an array by value. -/
theorem ov_ixn {t e : TypeId} {x y : Operand} {m s : Nat} {k : IntKind} {i : Int} {C cs : List Value} {dst : Option Tmp} {ty : TypeId} {ps : String} {af : Array Edge} {gd : Option (Nat × Bool)} (hx : evl l x = some (.agg C.toArray)) (hy : evl l y = some (.int k i)) [ht : ArrayT P t m e] [hr : RowT P e true] [hz : SizeT P e s]
    (h0 : 0 ≤ i) (h1 : i < m) (hc : (C.drop (i.toNat * s)).take s = cs) : OV P w0 L l ⟨dst, .index t x y, ty, ps, af, gd⟩ (.agg cs.toArray) := fun a n w hf hs => by
  subst hc
  simp [execOp, hf.ev hx, hf.ev hy, Instr.index, asIntOf, run_underlying (und_array ht.h) w, h0, h1, part, run_isAgg hr.h w, run_sizeOf hz.h w, ← List.drop_take]
theorem ov_ix {t e : TypeId} {x y : Operand} {m s : Nat} {k : IntKind} {i : Int} {C : List Value} {v : Value} {dst : Option Tmp} {ty : TypeId} {ps : String} {af : Array Edge} {gd : Option (Nat × Bool)} (hx : evl l x = some (.agg C.toArray)) (hy : evl l y = some (.int k i)) [ht : ArrayT P t m e] [hr : RowT P e false] [hz : SizeT P e s]
    (h0 : 0 ≤ i) (h1 : i < m) (hc : C[i.toNat * s]? = some v) : OV P w0 L l ⟨dst, .index t x y, ty, ps, af, gd⟩ v := fun a n w hf hs => by
  simp [execOp, hf.ev hx, hf.ev hy, Instr.index, asIntOf, run_underlying (und_array ht.h) w, h0, h1, part, run_isAgg hr.h w, run_sizeOf hz.h w, hc]
/-- Cells, some of them written over. -/
def overC (C : List Value) (o : Nat) (vs : List Value) : List Value := C.take o ++ vs ++ C.drop (o + vs.length)
theorem overC_len {C vs : List Value} {o : Nat} (h : o + vs.length ≤ C.length) : (overC C o vs).length = C.length := by simp [overC]; omega
theorem foldl_set : ∀ (vs : List Value) (o : Nat) (C : List Value), o + vs.length ≤ C.length → (vs.zipIdx o).foldl (fun (cs : Array Value) (x : Value × Nat) => cs.setIfInBounds x.2 x.1) C.toArray = (overC C o vs).toArray
  | [], o, C, _ => by simp [overC]
  | v :: r, o, C, h => by
    simp only [List.length_cons] at h
    rw [List.zipIdx_cons, List.foldl_cons]
    show List.foldl _ (C.toArray.setIfInBounds o v) _ = _
    rw [show C.toArray.setIfInBounds o v = (C.set o v).toArray by simp, foldl_set r (o + 1) (C.set o v) (by simp; omega)]
    · simp only [overC]
      rw [List.take_set, List.drop_set, if_pos (by omega), List.take_succ_eq_append_getElem (by omega), List.set_append_right _ _ (by simp; omega)]
      have e : o - (List.take o C).length = 0 := by simp; omega
      rw [e]
      simp only [List.set_cons_zero, List.length_cons, List.append_assoc, List.cons_append, List.nil_append]
      rw [show o + 1 + r.length = o + (r.length + 1) by omega]
/-- The parts of a value that is built: the number of each, where it goes, its cells. -/
def putAll : List Value → List (Nat × List Value) → List Value
  | C, [] => C
  | C, (o, vs) :: r => putAll (overC C o vs) r
/-- Operands and what they stand for: (number, operand) against (number, place, cells). -/
inductive Parts (l : FL) (place : Nat → Option (Nat × Nat)) (m : Nat) : List (Nat × Operand) → List (Nat × List Value) → Prop
  | nil : Parts l place m [] []
  | cons {i o s : Nat} {x : Operand} {v : Value} {vs : List Value} {r : List (Nat × Operand)} {q : List (Nat × List Value)} (hx : evl l x = some v) (hc : CellsOf v vs) (hp : place i = some (o, s)) (hl : vs.length = s) (hm : o + s ≤ m) (h : Parts l place m r q) : Parts l place m ((i, x) :: r) ((o, vs) :: q)
theorem fill_parts {place : Nat → Option (Nat × Nat)} {a : Act} (hf : Fr a n l) : ∀ {ps : List (Nat × Operand)} {qs : List (Nat × List Value)} {m : Nat} (C : List Value), Parts l place m ps qs → C.length = m →
    Instr.fill place C.toArray (ps.map fun x => (x.1, a.eval x.2)) = some (putAll C qs).toArray
  | _, _, _, C, .nil, _ => rfl
  | _, _, m, C, .cons (i := i) (o := o) (x := x) (v := v) (vs := vs) (r := r) (q := q) hx hc hp hl hm h, hC => by
    subst hl
    have hcs : v.cells = vs.toArray := hc.h
    simp only [List.map_cons, Instr.fill, hf.ev hx, hp, hcs, List.size_toArray, ne_eq, not_true_eq_false, decide_false, Bool.false_or, putAll]
    rw [if_neg (by first | (simp; done) | (simp; omega))]
    have h1 := foldl_set vs o C (by omega)
    have h2 : (vs.toArray.zipIdx.foldl (fun (cs : Array Value) (x : Value × Nat) => cs.setIfInBounds (o + x.2) x.1) C.toArray) = (overC C o vs).toArray := by
      rw [← h1]
      rw [← Array.foldl_toList]
      simp only [Array.toList_zipIdx]
      have : vs.zipIdx o = (vs.zipIdx 0).map fun x => (x.1, o + x.2) := by
        rw [List.zipIdx_eq_map_add]
        first | done | simp [Nat.add_comm]
      rw [this, List.foldl_map]
    refine Eq.trans ?_ (fill_parts hf (overC C o vs) h (by rw [overC_len (by omega)]; exact hC))
    rw [← h2]
/-- What the tables say of a struct's fields: where each begins, and its size. -/
class PlacesT (P : Program) (t : TypeId) (ps : outParam (List (Nat × Nat))) : Prop where
  h : ((P.underlying t).bind fun | .struct fs => (fs.toList.mapM fun f => (sizeT P f.type).map fun s => (f.offset, s)) | _ => none) = some ps
theorem run_mapM_places (w : World) : ∀ (fs : List Field) (ps : List (Nat × Nat)), (fs.mapM fun f => (sizeT P f.type).map fun s => (f.offset, s)) = some ps → (fs.mapM fun f => (do pure (f.offset, ← sizeOf f.type) : Sem (Nat × Nat))).run P w = .ok ps w
  | [], ps, h => by simp at h; subst h; rfl
  | f :: r, ps, h => by
    rw [List.mapM_cons] at h
    cases hz : sizeT P f.type with
    | none => rw [hz] at h; simp at h
    | some s =>
      rw [hz] at h
      cases hr : (r.mapM fun f => (sizeT P f.type).map fun s => (f.offset, s)) with
      | none => rw [hr] at h; simp at h
      | some qs =>
        rw [hr] at h
        simp at h
        subst h
        rw [List.mapM_cons]
        simp only [Sem.run_bind, run_sizeOf hz w, Result.andThen_ok, Sem.run_pure, run_mapM_places w r qs hr]
theorem run_build {t : TypeId} {ps : List (Nat × Nat)} {Z C : List Value} {a : Act} {xs : List (Nat × Operand)} {qs : List (Nat × List Value)} (hf : Fr a n l) (hZ : ZeroT P t (.agg Z.toArray)) (hp : PlacesT P t ps) (hq : Parts l (ps[·]?) Z.length xs qs) (hC : putAll Z qs = C) (w : World) :
    (Instr.build t (xs.map fun x => (x.1, a.eval x.2)).toArray).run P w = .ok (.agg C.toArray) w := by
  have hp := hp.h
  have hz : (zeroValue t).run P w = .ok (.agg Z.toArray) w := by
    have hZ := hZ.h
    unfold zeroT at hZ
    cases hi : P.info? t with
    | none => rw [hi] at hZ; simp at hZ
    | some i => rw [hi] at hZ; simp only [Option.bind_some] at hZ; simp [zeroValue, typeInfo, hi, hZ]
  cases hu : P.underlying t with
  | none => rw [hu] at hp; simp at hp
  | some d =>
    rw [hu] at hp
    cases d <;> simp at hp
    rename_i fs
    have hm := run_mapM_places (P := P) w fs.toList ps hp
    have hm' : (fs.mapM fun f => (do pure (f.offset, ← sizeOf f.type) : Sem (Nat × Nat))).run P w = .ok ps.toArray w := by
      rw [Array.mapM_eq_mapM_toList]
      rw [← bind_pure_comp, Sem.run_bind, hm]
      rfl
    have hfill := fill_parts (place := (ps[·]?)) hf Z hq rfl
    rw [hC] at hfill
    simp only [Instr.build, Sem.run_bind, hz, Result.andThen_ok, run_underlying hu w, hm', Value.cells]
    have e : (fun i : Nat => ps.toArray[i]?) = (fun i : Nat => ps[i]?) := by funext i; simp
    rw [e, hfill]
    rfl
theorem ov_build {t : TypeId} {ps : List (Nat × Nat)} {Z C : List Value} {xs : List (Nat × Operand)} {qs : List (Nat × List Value)} {dst : Option Tmp} {ty : TypeId} {s : String} {af : Array Edge} {gd : Option (Nat × Bool)} [hZ : ZeroT P t (.agg Z.toArray)] [hp : PlacesT P t ps] (hq : Parts l (ps[·]?) Z.length xs qs)
    (hC : putAll Z qs = C) : OV P w0 L l ⟨dst, .build t xs.toArray, ty, s, af, gd⟩ (.agg C.toArray) := fun a n w hf hs => by
  have := run_build hf hZ hp hq hC w
  simp only [execOp, List.map_toArray]
  simp only [Sem.run_bind, this]
  rfl
/-- Rounds of a loop, told one by one. -/
def GR (P : Program) (n : Nat) (w0 : World) (c : Code) (Q : GQ) : Nat → FL → HL → Prop
  | 0, _, _ => False
  | k + 1, l, L => G P n w0 c l L (gthen (GR P n w0 c Q k) Q)
theorem g_rounds {c : Code} (k : Nat) (h : GR P n w0 c Q k l L) : G P n w0 (.loop c) l L Q := fun a w hf hs => by
  refine wp_loop_rounds k ?_
  induction k generalizing l L a w with
  | zero => exact h.elim
  | succ k ih =>
    rw [rounds_succ]
    refine wp_mono (h a w hf hs) fun e a' w' ⟨l', L', h1, h2, h3⟩ => ?_
    cases e <;> first | exact ih h3 a' w' h1 h2 | exact ⟨l', L', h1, h2, h3⟩

/-! ### Loads -/
/-- In every world so told, the cells cs lie at the place q. -/
def Lies (w0 : World) (L : HL) (q : Option Addr) (cs : List Value) : Prop := ∀ w, St w0 w L → ∃ ad, q = some ad ∧ ∀ j v, cs[j]? = some v → w.cell? (ad.add j) = some v
theorem lies_loc {i b o k : Nat} {C : List Value} {E : TypeId} {fz : Nat × Nat} (h : L[i]? = some (some b, .cells C.toArray E fz)) : Lies w0 L (some ⟨b, o, none⟩) ((C.drop o).take k) := fun w hs => by
  refine ⟨_, rfl, fun j v hv => ?_⟩
  have h1 := (hs.has i b _ h).1
  rw [Addr.add_mid]
  simp only [World.cell?, h1]
  rw [List.getElem?_take] at hv
  split at hv
  · simpa using hv
  · simp at hv
theorem lies_one {q : Option Addr} {v : Value} (h : Lies w0 L q [v]) {w : World} (hs : St w0 w L) : ∃ ad, q = some ad ∧ w.cell? ad = some v := by
  obtain ⟨ad, h1, h2⟩ := h w hs
  refine ⟨ad, h1, ?_⟩
  have := h2 0 v rfl
  simpa [Addr.add] using this
theorem lies_at {q : Option Addr} {cs : List Value} (h : Lies w0 L q cs) (i k : Nat) : Lies w0 L (q.map (·.add i)) ((cs.drop i).take k) := fun w hs => by
  obtain ⟨ad, h1, h2⟩ := h w hs
  refine ⟨ad.add i, by rw [h1]; rfl, fun j v hv => ?_⟩
  have : (ad.add i).add j = ad.add (i + j) := by
    unfold Addr.add
    by_cases e1 : i = 0 <;> by_cases e2 : j = 0 <;> simp [e1, e2, Nat.add_assoc]
  rw [this]
  rw [List.getElem?_take] at hv
  split at hv
  · exact h2 (i + j) v (by simpa using hv)
  · simp at hv
theorem lies_ext {ad : Addr} {cs : List Value} (h : ∀ j v, cs[j]? = some v → w0.cell? (ad.add j) = some v) : Lies w0 L (some ad) cs := fun w hs => ⟨ad, rfl, fun j v hv => by
  have h1 := h j v hv
  rw [hs.below.cell (World.block_lt_of_cell? w0 _ h1)]
  exact h1⟩
theorem lies_more {q : Option Addr} {cs : List Value} {N : HL} (h : Lies w0 L q cs) : Lies w0 (N ++ L) q cs := fun w hs => h w hs.tail
theorem lies_of_nil {q : Option Addr} {cs : List Value} (h : Lies w0 [] q cs) : Lies w0 L q cs := fun w hs => h w ⟨hs.below, fun _ _ _ h => by simp at h, fun _ _ _ _ _ h => by simp at h⟩
theorem ov_ld {t : TypeId} {x : Operand} {q : Option Addr} {v : Value} {dst : Option Tmp} {ty : TypeId} {ps : String} {af : Array Edge} {gd : Option (Nat × Bool)} (hx : evl l x = some (.pointer q)) [ht : RowT P t false] (hq : Lies w0 L q [v]) :
    OV P w0 L l ⟨dst, .load t x, ty, ps, af, gd⟩ v := fun a n w hf hs => by
  obtain ⟨ad, rfl, hc⟩ := lies_one hq hs
  simp [execOp, hf.ev hx, Instr.loadAt, Instr.sureAddr, loadVar, run_isAgg ht.h w, load, Sem.run, hc]
theorem ov_ldn {t : TypeId} {x : Operand} {q : Option Addr} {cs : List Value} {dst : Option Tmp} {ty : TypeId} {ps : String} {af : Array Edge} {gd : Option (Nat × Bool)} (hx : evl l x = some (.pointer q)) {s : Nat} [ht : RowT P t true] [hz : SizeT P t s] (hq : Lies w0 L q cs) (hl : cs.length = s) :
    OV P w0 L l ⟨dst, .load t x, ty, ps, af, gd⟩ (.agg cs.toArray) := fun a n w hf hs => by
  subst hl
  obtain ⟨ad, rfl, hc⟩ := hq w hs
  simp [execOp, hf.ev hx, Instr.loadAt, Instr.sureAddr, loadVar, run_isAgg ht.h w, run_sizeOf hz.h w, run_loadCells_list w ad cs hc]

/-- Of a block of the call's own. -/
theorem ov_ldl {t : TypeId} {x : Operand} {b o i : Nat} {C : List Value} {E : TypeId} {fz : Nat × Nat} {v : Value} {dst : Option Tmp} {ty : TypeId} {ps : String} {af : Array Edge} {gd : Option (Nat × Bool)} (hx : evl l x = some (.pointer (some ⟨b, o, none⟩))) [ht : RowT P t false]
    [hL : AtL b L (.cells C.toArray E fz) i] (hv : C[o]? = some v) : OV P w0 L l ⟨dst, .load t x, ty, ps, af, gd⟩ v := ov_ld hx (by
  have := lies_loc (w0 := w0) (o := o) (k := 1) hL.h
  have hl : o < C.length := (List.getElem?_eq_some_iff.1 hv).1
  rw [List.drop_eq_getElem_cons hl, List.take_succ_cons, List.take_zero] at this
  rw [List.getElem?_eq_getElem hl] at hv
  obtain rfl := Option.some.inj hv
  exact this)
theorem all_len {C : List Value} {k : Nat} (h : C.length = k) : (C.drop 0).take k = C := by rw [List.drop_zero, List.take_of_length_le (by omega)]
theorem ov_ldln {t : TypeId} {x : Operand} {b o i s : Nat} {C cs : List Value} {E : TypeId} {fz : Nat × Nat} {dst : Option Tmp} {ty : TypeId} {ps : String} {af : Array Edge} {gd : Option (Nat × Bool)} (hx : evl l x = some (.pointer (some ⟨b, o, none⟩))) [ht : RowT P t true] [hz : SizeT P t s]
    [hL : AtL b L (.cells C.toArray E fz) i] (hc : (C.drop o).take s = cs) (hl : o + s ≤ C.length) : OV P w0 L l ⟨dst, .load t x, ty, ps, af, gd⟩ (.agg cs.toArray) :=
  ov_ldn hx (hc ▸ lies_loc (w0 := w0) (o := o) (k := s) hL.h) (by rw [← hc]; simp; omega)

/-! ### Operations that make or write memory -/
/-- An operation without a guard, in a plain region. -/
theorem gn {o : Oper} {v : Value} {d : Nat} (hg : o.guard = none) (hd : o.dst = some d) (hlt : Nat.ble (d + 1) n = true) (ho : OV P w0 L l o v) (k : GL P n w0 ops rest ((d, v) :: l) L Q) : GL P n w0 ops (o :: rest) l L Q :=
  gl_v (want_n hg) hd (Nat.le_of_ble_eq_true hlt) ho k
/-- With a guard that stands. -/
theorem gg {o : Oper} {v : Value} {d j e : Nat} {t : Bool} (h : o.guard = some (j, t)) (he : (ops[j]?).bind (·.dst) = some e) (hv : l.lookup e = some (.bool t)) (hd : o.dst = some d) (hlt : Nat.ble (d + 1) n = true) (ho : OV P w0 L l o v) (k : GL P n w0 ops rest ((d, v) :: l) L Q) : GL P n w0 ops (o :: rest) l L Q :=
  gl_v (want_g h he hv) hd (Nat.le_of_ble_eq_true hlt) ho k
/-- With a guard that falls. -/
theorem gi {o : Oper} {d j e : Nat} {t : Bool} (h : o.guard = some (j, t)) (he : (ops[j]?).bind (·.dst) = some e) (hv : l.lookup e = some (.bool !t)) (hd : o.dst = some d) (hlt : Nat.ble (d + 1) n = true) (k : GL P n w0 ops rest ((d, undef) :: l) L Q) : GL P n w0 ops (o :: rest) l L Q :=
  gl_idle (idle_g h he hv) hd (Nat.le_of_ble_eq_true hlt) k
theorem gu {o : Oper} {d j e : Nat} {t : Bool} (h : o.guard = some (j, t)) (he : (ops[j]?).bind (·.dst) = some e) (hv : l.lookup e = some undef) (hd : o.dst = some d) (hlt : Nat.ble (d + 1) n = true) (k : GL P n w0 ops rest ((d, undef) :: l) L Q) : GL P n w0 ops (o :: rest) l L Q :=
  gl_idle (idle_u h he hv) hd (Nat.le_of_ble_eq_true hlt) k
/-- The same in a region that draws. -/
theorem qn {K : FL → Prop} {o : Oper} {v : Value} {d : Nat} (hg : o.guard = none) (hd : o.dst = some d) (hlt : Nat.ble (d + 1) n = true) (ho : OV P w0 L l o v) (k : GLq P n w0 ops rest ((d, v) :: l) L K) : GLq P n w0 ops (o :: rest) l L K :=
  glq_v (want_n hg) hd (Nat.le_of_ble_eq_true hlt) ho k
theorem qg {K : FL → Prop} {o : Oper} {v : Value} {d j e : Nat} {t : Bool} (h : o.guard = some (j, t)) (he : (ops[j]?).bind (·.dst) = some e) (hv : l.lookup e = some (.bool t)) (hd : o.dst = some d) (hlt : Nat.ble (d + 1) n = true) (ho : OV P w0 L l o v) (k : GLq P n w0 ops rest ((d, v) :: l) L K) : GLq P n w0 ops (o :: rest) l L K :=
  glq_v (want_g h he hv) hd (Nat.le_of_ble_eq_true hlt) ho k
theorem qi {K : FL → Prop} {o : Oper} {d j e : Nat} {t : Bool} (h : o.guard = some (j, t)) (he : (ops[j]?).bind (·.dst) = some e) (hv : l.lookup e = some (.bool !t)) (hd : o.dst = some d) (hlt : Nat.ble (d + 1) n = true) (k : GLq P n w0 ops rest ((d, undef) :: l) L K) : GLq P n w0 ops (o :: rest) l L K :=
  glq_idle (idle_g h he hv) hd (Nat.le_of_ble_eq_true hlt) k
theorem qu {K : FL → Prop} {o : Oper} {d j e : Nat} {t : Bool} (h : o.guard = some (j, t)) (he : (ops[j]?).bind (·.dst) = some e) (hv : l.lookup e = some undef) (hd : o.dst = some d) (hlt : Nat.ble (d + 1) n = true) (k : GLq P n w0 ops rest ((d, undef) :: l) L K) : GLq P n w0 ops (o :: rest) l L K :=
  glq_idle (idle_u h he hv) hd (Nat.le_of_ble_eq_true hlt) k
theorem ef_alloc {K : FL → HL → Prop} {t : TypeId} {z : Value} {C : List Value} {d : Nat} {ty : TypeId} {ps : String} {af : Array Edge} {gd : Option (Nat × Bool)} (hlt : Nat.ble (d + 1) n = true) [hz : ZeroT P t z] [hc : CellsOf z C]
    (k : ∀ b, K ((d, .pointer (some ⟨b, 0, none⟩)) :: l) ((some b, .cells C.toArray t (0, 0)) :: L)) : EF P n w0 l L ⟨some d, .alloc t, ty, ps, af, gd⟩ K := fun a w hf hs => by
    have hz := hz.h
    unfold zeroT at hz
    cases hi : P.info? t with
    | none => rw [hi] at hz; simp at hz
    | some i =>
      rw [hi] at hz
      refine ⟨_, w.alloc (.cells C.toArray t), .pointer (some ⟨w.heap.size, 0, none⟩), ?_, .inl rfl, _, _, fun a' hf' => hf'.put d (Nat.le_of_ble_eq_true hlt) _, hs.alloc _, k w.heap.size⟩
      simp only [Option.bind_some] at hz
      simp [execOp, Instr.alloc, zeroValue, typeInfo, hi, hz, newVar, newRow, hc.h]
theorem ef_box {K : FL → HL → Prop} {t : TypeId} {x : Operand} {v : Value} {C : List Value} {d : Nat} {ty : TypeId} {ps : String} {af : Array Edge} {gd : Option (Nat × Bool)} (hlt : Nat.ble (d + 1) n = true) (hx : evl l x = some v) [hc : CellsOf v C]
    (k : ∀ b, K ((d, .pointer (some ⟨b, 0, none⟩)) :: l) ((some b, .cells C.toArray t (0, 0)) :: L)) : EF P n w0 l L ⟨some d, .box t x, ty, ps, af, gd⟩ K := fun a w hf hs => by
    refine ⟨_, w.alloc (.cells C.toArray t), .pointer (some ⟨w.heap.size, 0, none⟩), ?_, .inl rfl, _, _, fun a' hf' => hf'.put d (Nat.le_of_ble_eq_true hlt) _, hs.alloc _, k w.heap.size⟩
    simp [execOp, hf.ev hx, Instr.box, newVar, newRow, hc.h]
theorem heap_setCell_at {w : World} {b o : Nat} {C : Array Value} {E : TypeId} {fz : Nat × Nat} (h : w.heap[b]? = some (.cells C E fz)) (v : Value) : (w.setCell ⟨b, o, none⟩ v).heap[b]? = some (.cells (C.setIfInBounds o v) E fz) := by
  simp only [World.setCell, Array.getElem?_modify]
  rw [if_pos trivial, h]
  rfl
theorem toArray_set (C : List Value) (o : Nat) (v : Value) : (C.set o v).toArray = C.toArray.setIfInBounds o v := by simp
/-- A store of one cell into a block of the call's own. -/
theorem ef_st {K : FL → HL → Prop} {t : TypeId} {x y : Operand} {i b o : Nat} {C : List Value} {E : TypeId} {fz : Nat × Nat} {v : Value} {ty : TypeId} {ps : String} {af : Array Edge} {gd : Option (Nat × Bool)}
    {L' : HL} (hx : evl l x = some (.pointer (some ⟨b, o, none⟩))) (hy : evl l y = some v) [hL : AtL b L (.cells C.toArray E fz) i] (ho : o < C.length) (hfz : (decide (fz.1 ≤ o) && decide (o < fz.2)) = false) (h1 : v.oneCell' = true)
    [hz : SizeT P t 1] [hS : SetL L i (some b, .cells (C.set o v).toArray E fz) L'] (k : K l L') : EF P n w0 l L ⟨none, .store t x y, ty, ps, af, gd⟩ K := fun a w hf hs => by
    have hL := hL.h
    have hb := (hs.has i b _ hL).1
    have hc : w.cell? ⟨b, o, none⟩ = some (C[o]) := by simp [World.cell?, hb, ho]
    have hfr : w.frozen? ⟨b, o, none⟩ = false := by simp only [World.frozen?, hb]; exact hfz
    have hcs : v.cells = #[v] := by cases v <;> first | rfl | simp [Value.oneCell'] at h1
    refine ⟨.skip, w.setCell ⟨b, o, none⟩ v, undef, ?_, .inr ⟨rfl, rfl⟩, l, _, fun a' hf' => hf', ?_, k⟩
    · simp only [execOp, hf.ev hx, hf.ev hy, Instr.storeAt, Instr.sureAddr, storeVar]
      have e0 : (⟨b, o, none⟩ : Addr).add 0 = ⟨b, o, none⟩ := rfl
      have hst : (store ⟨b, o, none⟩ v).run P w = .ok () (w.setCell ⟨b, o, none⟩ v) := by
        cases v <;> first | (simp [Value.oneCell'] at h1; done) | simp [store, Sem.run, hc, hfr]
      simp [run_sizeOf hz.h w, hcs, storeCells, e0, hst]
    · rw [← hS.h, toArray_set]
      exact hs.upd i b _ _ hL rfl rfl rfl (by simp [World.setCell]) (heap_setCell_at hb v) fun k hk _ => Below.heap_setCell _ _ _ _ hk
theorem heap_setCells_at {b : Nat} {E : TypeId} {fz : Nat × Nat} : ∀ (vs : List Value) (o : Nat) (w : World) (C : List Value), w.heap[b]? = some (.cells C.toArray E fz) → o + vs.length ≤ C.length →
    (w.setCells b o vs).heap[b]? = some (.cells (C.take o ++ vs ++ C.drop (o + vs.length)).toArray E fz)
  | [], o, w, C, h, hl => by simp [World.setCells, h]
  | v :: r, o, w, C, h, hl => by
    simp only [List.length_cons] at hl
    have h2 := heap_setCell_at (o := o) h v
    rw [← toArray_set] at h2
    rw [World.setCells, heap_setCells_at r (o + 1) _ (C.set o v) h2 (by simp; omega)]
    congr 3
    rw [List.take_set, List.drop_set]
    rw [if_pos (by omega), List.take_succ_eq_append_getElem (by omega), List.set_append_right _ _ (by simp; omega)]
    have e : o - (List.take o C).length = 0 := by simp; omega
    rw [e]
    simp only [List.set_cons_zero, List.length_cons, List.append_assoc, List.cons_append, List.nil_append]
    rw [show o + 1 + r.length = o + (r.length + 1) by omega]
theorem heap_setCells_other {b : Nat} : ∀ (vs : List Value) (o : Nat) (w : World) (k : Nat), k ≠ b → (w.setCells b o vs).heap[k]? = w.heap[k]?
  | [], _, _, _, _ => rfl
  | v :: r, o, w, k, h => by rw [World.setCells, heap_setCells_other r (o + 1) _ k h]; exact Below.heap_setCell _ _ _ _ h
theorem setCells_rest {b : Nat} : ∀ (vs : List Value) (o : Nat) (w : World), (w.setCells b o vs).os = w.os ∧ (w.setCells b o vs).tape = w.tape ∧ (w.setCells b o vs).output = w.output ∧ (w.setCells b o vs).heap.size = w.heap.size
  | [], _, _ => ⟨rfl, rfl, rfl, rfl⟩
  | v :: r, o, w => by
    obtain ⟨h1, h2, h3, h4⟩ := setCells_rest r (o + 1) (w.setCell ⟨b, o, none⟩ v)
    exact ⟨h1, h2, h3, by rw [World.setCells, h4]; simp [World.setCell]⟩
/-- The cells vs written over those of a block of the call's own, from place o on: the world told. -/
theorem St.over {w : World} (hs : St w0 w L) {i b o : Nat} {C vs : List Value} {E : TypeId} {fz : Nat × Nat} (hL : L[i]? = some (some b, .cells C.toArray E fz)) (ho : o + vs.length ≤ C.length) :
    St w0 (w.setCells b o vs) (L.set i (some b, .cells (C.take o ++ vs ++ C.drop (o + vs.length)).toArray E fz)) := by
  have hb := (hs.has i b _ hL).1
  obtain ⟨h1, h2, h3, h4⟩ := setCells_rest (b := b) vs o w
  exact hs.upd i b _ _ hL h1 h2 h3 (by rw [h4]; exact Nat.le_refl _) (heap_setCells_at vs o w C hb ho) fun k hk _ => heap_setCells_other vs o w k hk
/-- A store of several cells into a block of the call's own. -/
theorem ef_stn {K : FL → HL → Prop} {t : TypeId} {x y : Operand} {i b o : Nat} {C vs : List Value} {E : TypeId} {fz : Nat × Nat} {ty : TypeId} {ps : String} {af : Array Edge} {gd : Option (Nat × Bool)}
    {s : Nat} {C' : List Value} {L' : HL} (hx : evl l x = some (.pointer (some ⟨b, o, none⟩))) (hy : evl l y = some (.agg vs.toArray)) [hL : AtL b L (.cells C.toArray E fz) i] (hfz : fz = (0, 0)) [hz : SizeT P t s] (hl : vs.length = s) (ho : o + s ≤ C.length) (h1 : vs.all (·.oneCell') = true)
    (hC : C.take o ++ vs ++ C.drop (o + vs.length) = C') [hS : SetL L i (some b, .cells C'.toArray E fz) L'] (k : K l L') : EF P n w0 l L ⟨none, .store t x y, ty, ps, af, gd⟩ K := fun a w hf hs => by
    subst hfz
    subst hl
    have hL := hL.h
    have hb := (hs.has i b _ hL).1
    have hth : w.there b o vs.toArray.size := fun j hj => by
      simp only [List.size_toArray] at hj
      refine ⟨?_, by simp [World.frozen?, hb]⟩
      have : o + j < C.length := by omega
      simp [World.cell?, hb, this]
    refine ⟨.skip, w.setCells b o vs, undef, ?_, .inr ⟨rfl, rfl⟩, l, _, fun a' hf' => hf', by rw [← hS.h, ← hC]; exact hs.over hL ho, k⟩
    have hz' : (P.info? t).map (·.size) = some vs.toArray.size := by simpa [sizeT] using hz.h
    have := run_storeAt_mid (P := P) w b o t vs.toArray hth hz' (by simpa using h1)
    simp only [execOp, hf.ev hx, hf.ev hy]
    simp [this]

/-! ### Calls -/
/-- A call of f hands back a value of which R is told, and memory of its own; nothing that was there has turned. -/
def Cl (P : Program) (f : FuncId) (args : Array Value) (w : World) (R : Value → HL → Prop) : Prop := Calls P f args w fun e w' => ∃ v N, e = .returned v ∧ St w w' N ∧ R v N
theorem Cl.mono {f : FuncId} {args : Array Value} {w : World} {R R' : Value → HL → Prop} (h : Cl P f args w R) (hr : ∀ v N, R v N → R' v N) : Cl P f args w R' :=
  Calls.mono h fun _ _ ⟨v, N, h1, h2, h3⟩ => ⟨v, N, h1, h2, hr v N h3⟩
def callT (P : Program) (f : FuncId) : Bool := match P.funcs[f]? with | some fn => !(fn.name == "runtime.NumGoroutine") && fn.body.isSome | none => false
theorem run_callT {f : FuncId} (h : callT P f = true) (args : Array Value) (w : World) : (callFunc f args).run P w = .ok (.enter f args) w := by
  unfold callT at h
  cases hf : P.funcs[f]? with
  | none => rw [hf] at h; simp at h
  | some fn =>
    rw [hf] at h
    simp only [Bool.and_eq_true, Bool.not_eq_true'] at h
    cases hb : fn.body with
    | none => rw [hb] at h; simp at h
    | some c => exact MuLone.run_callFunc_enter hf h.1 hb args w
def evls (l : FL) : List Operand → Option (List Value)
  | [] => some []
  | x :: r => (evl l x).bind fun v => (evls l r).map (v :: ·)
theorem Fr.evs {a : Act} {l : FL} (h : Fr a n l) : ∀ {xs : List Operand} {vs : List Value}, evls l xs = some vs → xs.map a.eval = vs
  | [], vs, hx => by simp [evls] at hx; simp [hx]
  | x :: r, vs, hx => by
    simp only [evls] at hx
    cases hv : evl l x with
    | none => rw [hv] at hx; simp at hx
    | some v =>
      rw [hv] at hx
      simp only [Option.bind_some] at hx
      cases hr : evls l r with
      | none => rw [hr] at hx; simp at hx
      | some us =>
        rw [hr] at hx
        simp at hx
        subst hx
        simp [h.ev hv, h.evs hr]
theorem run_call {a : Act} {w : World} {f : FuncId} {xs : List Operand} {vs : List Value} {ts : Array TypeId} {dst : Option Tmp} {ty : TypeId} {ps : String} {af : Array Edge} {gd : Option (Nat × Bool)} (hf : Fr a n l) (hx : evls l xs = some vs) (hc : callT P f = true) :
    (execOp a.eval ⟨dst, .call { callee := .value (.func f), args := xs.toArray, argTypes := ts }, ty, ps, af, gd⟩).run P w = .ok (.enter f vs.toArray) w := by
  have h1 := hf.evs hx
  simp [execOp, resolve, Act.eval, Deferred.ofValue, invoke, h1, run_callT hc]
theorem gl_call {f : FuncId} {xs : List Operand} {vs : List Value} {ts : Array TypeId} {d : Nat} {ty : TypeId} {ps : String} {af : Array Edge} {gd : Option (Nat × Bool)} {R : Value → HL → Prop}
    (hw : Want ops l ⟨some d, .call { callee := .value (.func f), args := xs.toArray, argTypes := ts }, ty, ps, af, gd⟩) (hlt : Nat.ble (d + 1) n = true) (hx : evls l xs = some vs) (hc : callT P f = true) (hC : ∀ w, St w0 w L → Cl P f vs.toArray w R)
    (k : ∀ v N, R v N → GL P n w0 ops rest ((d, v) :: l) (N ++ L) Q) : GL P n w0 ops (⟨some d, .call { callee := .value (.func f), args := xs.toArray, argTypes := ts }, ty, ps, af, gd⟩ :: rest) l L Q := fun a w hf hs => by
  refine wpList_step fun K hK => ?_
  rw [if_pos (hw a n hf)]
  unfold Oper.wp
  rw [run_call hf hx hc]
  refine Calls.mono (hC w hs) fun e w' ⟨v, N, he, hN, hR⟩ => ?_
  subst he
  exact hK _ _ (k v N hR _ _ (hf.put d (Nat.le_of_ble_eq_true hlt) v) (hs.then hN))
/-- A call that hands back one known value; whatever memory it made is forgotten. -/
theorem gl_callq {f : FuncId} {xs : List Operand} {vs : List Value} {u : Value} {ts : Array TypeId} {d : Nat} {ty : TypeId} {ps : String} {af : Array Edge} {gd : Option (Nat × Bool)}
    (hw : Want ops l ⟨some d, .call { callee := .value (.func f), args := xs.toArray, argTypes := ts }, ty, ps, af, gd⟩) (hlt : Nat.ble (d + 1) n = true) (hx : evls l xs = some vs) (hc : callT P f = true) (hC : ∀ w, St w0 w L → Cl P f vs.toArray w fun v _ => v = u)
    (k : GL P n w0 ops rest ((d, u) :: l) L Q) : GL P n w0 ops (⟨some d, .call { callee := .value (.func f), args := xs.toArray, argTypes := ts }, ty, ps, af, gd⟩ :: rest) l L Q :=
  gl_call hw hlt hx hc hC fun v N hv a w hf hs => by subst hv; exact k a w hf hs.tail
theorem glq_call {K : FL → Prop} {f : FuncId} {xs : List Operand} {vs : List Value} {u : Value} {ts : Array TypeId} {d : Nat} {ty : TypeId} {ps : String} {af : Array Edge} {gd : Option (Nat × Bool)}
    (hw : Want ops l ⟨some d, .call { callee := .value (.func f), args := xs.toArray, argTypes := ts }, ty, ps, af, gd⟩) (hlt : Nat.ble (d + 1) n = true) (hx : evls l xs = some vs) (hc : callT P f = true) (hC : ∀ w, St w0 w L → Cl P f vs.toArray w fun v _ => v = u)
    (k : GLq P n w0 ops rest ((d, u) :: l) L K) : GLq P n w0 ops (⟨some d, .call { callee := .value (.func f), args := xs.toArray, argTypes := ts }, ty, ps, af, gd⟩ :: rest) l L K := fun a hf => by
  refine wpQuiet_step fun K' hK => ?_
  rw [if_pos (hw a n hf)]
  refine ⟨u, fun w hs => ?_, hK _ (k _ (hf.put d (Nat.le_of_ble_eq_true hlt) u))⟩
  unfold Oper.quietAt
  rw [run_call hf hx hc]
  refine ⟨rfl, Calls.mono (hC w hs) fun e w' ⟨v, N, he, hN, hR⟩ => ⟨by rw [he, hR], (hs.then hN).tail⟩⟩

/-! ### A whole function -/
/-- What a function hands back at its end. -/
def Res (P : Program) (w0 : World) (rs : Array ResultVar) (l : FL) (L : HL) (v : Value) : Prop := ∀ (a : Act) (n : Nat) (w : World) (fn : Func), fn.results = rs → Fr a n l → St w0 w L → (results fn a.tmps).run P w = .ok v w
theorem Fr.getD {a : Act} (h : Fr a n l) {t : Nat} {v : Value} (ht : l.lookup t = some v) : a.tmps.getD t undef = v := by
  rw [Array.getD_eq_getD_getElem?, h.look t v ht]; rfl
/-- One result. -/
def resF (tmps : Array Value) (r : ResultVar) : Sem Value := match r with | .tmp t => pure (tmps.getD t undef) | .cell x t => do loadVar t (← asAddr (tmps.getD x undef))
theorem results_eq (fn : Func) (tmps : Array Value) : results fn tmps = (do let vs ← fn.results.mapM (resF tmps); pure (if h : vs.size = 1 then vs[0] else .tuple vs)) := by
  unfold results
  congr 1
def Rv (P : Program) (w0 : World) (l : FL) (L : HL) (r : ResultVar) (v : Value) : Prop := ∀ (a : Act) (n : Nat) (w : World), Fr a n l → St w0 w L → (resF a.tmps r).run P w = .ok v w
theorem rv_t {t : Nat} {v : Value} (ht : l.lookup t = some v) : Rv P w0 l L (.tmp t) v := fun a n w hf hs => by
  have := hf.getD ht
  simp only [resF, this]; rfl
theorem rv_c {x : Nat} {t : TypeId} {q : Option Addr} {cs : List Value} {s : Nat} (hx : l.lookup x = some (.pointer q)) [ht : RowT P t true] [hz : SizeT P t s] (hq : Lies w0 L q cs) (hl : cs.length = s) : Rv P w0 l L (.cell x t) (.agg cs.toArray) := fun a n w hf hs => by
  subst hl
  obtain ⟨ad, rfl, hc⟩ := hq w hs
  have := hf.getD hx
  simp only [resF, this, asAddr]
  simp [loadVar, run_isAgg ht.h w, run_sizeOf hz.h w, run_loadCells_list w ad cs hc]
theorem rv_c1 {x : Nat} {t : TypeId} {q : Option Addr} {v : Value} (hx : l.lookup x = some (.pointer q)) [ht : RowT P t false] (hq : Lies w0 L q [v]) : Rv P w0 l L (.cell x t) v := fun a n w hf hs => by
  obtain ⟨ad, rfl, hc⟩ := lies_one hq hs
  have := hf.getD hx
  simp only [resF, this, asAddr]
  simp [loadVar, run_isAgg ht.h w, load, Sem.run, hc]
theorem res1 {r : ResultVar} {v : Value} (h : Rv P w0 l L r v) : Res P w0 #[r] l L v := fun a n w fn hr hf hs => by
  rw [results_eq, hr]
  simp [h a n w hf hs]
theorem res2 {r r' : ResultVar} {v v' : Value} (h : Rv P w0 l L r v) (h' : Rv P w0 l L r' v') : Res P w0 #[r, r'] l L (.tuple #[v, v']) := fun a n w fn hr hf hs => by
  rw [results_eq, hr]
  simp [h a n w hf hs, h' a n w hf hs]
theorem res3 {r r' r'' : ResultVar} {v v' v'' : Value} (h : Rv P w0 l L r v) (h' : Rv P w0 l L r' v') (h'' : Rv P w0 l L r'' v'') : Res P w0 #[r, r', r''] l L (.tuple #[v, v', v'']) := fun a n w fn hr hf hs => by
  rw [results_eq, hr]
  simp [h a n w hf hs, h' a n w hf hs, h'' a n w hf hs]
theorem res_0 : Res P w0 #[] l L (.tuple #[]) := fun a n w fn h hf hs => results_none h _ _ _
theorem res_1 {t : Nat} {v : Value} (ht : l.lookup t = some v) : Res P w0 #[.tmp t] l L v := fun a n w fn h hf hs => by rw [results_tmp h, hf.getD ht]
theorem res_2 {t u : Nat} {v x : Value} (ht : l.lookup t = some v) (hu : l.lookup u = some x) : Res P w0 #[.tmp t, .tmp u] l L (.tuple #[v, x]) := fun a n w fn h hf hs => by rw [results_tmp2 h, hf.getD ht, hf.getD hu]
theorem res_3 {t u s : Nat} {v x y : Value} (ht : l.lookup t = some v) (hu : l.lookup u = some x) (hs' : l.lookup s = some y) : Res P w0 #[.tmp t, .tmp u, .tmp s] l L (.tuple #[v, x, y]) := fun a n w fn h hf hs => by
  simp [results, h, hf.look _ _ ht, hf.look _ _ hu, hf.look _ _ hs']
def GQend (P : Program) (w0 : World) (rs : Array ResultVar) (R : Value → HL → Prop) : GQ
  | .normal, l, L | .ret, l, L => ∃ v, Res P w0 rs l L v ∧ R v L
  | _, _, _ => False
/-- The slots at a function's beginning. -/
def argsFL : Nat → List Value → FL
  | _, [] => []
  | i, v :: r => (i, v) :: argsFL (i + 1) r
theorem argsFL_look : ∀ (vs : List Value) (i t : Nat) (v : Value), (argsFL i vs).lookup t = some v → i ≤ t ∧ vs[t - i]? = some v
  | [], i, t, v, h => by simp [argsFL] at h
  | u :: r, i, t, v, h => by
    simp only [argsFL] at h
    by_cases e : t = i
    · subst e
      rw [lookup_cons_eq] at h
      obtain rfl := Option.some.inj h
      simp
    · rw [lookup_cons_ne e] at h
      obtain ⟨h1, h2⟩ := argsFL_look r (i + 1) t v h
      refine ⟨by omega, ?_⟩
      rw [show t - i = (t - (i + 1)) + 1 by omega]
      simpa using h2
theorem cl_of_g {f : FuncId} {fn : Func} {c : Code} {vs : List Value} {w : World} {R : Value → HL → Prop} (hf : P.funcs[f]? = some fn) (hb : fn.body = some c) (hn : Nat.ble vs.length fn.ntmps = true)
    (h : G P fn.ntmps w c (argsFL 0 vs) [] (GQend P w fn.results R)) : Cl P f vs.toArray w R := by
  refine calls_of_wp hf hb (wp_mono (h _ w ⟨rfl, by have := Nat.le_of_ble_eq_true hn; simp; omega, fun t v hv => ?_⟩ (St.refl w)) fun e a' w' ⟨l', L', h1, h2, h3⟩ => ?_)
  · obtain ⟨_, h2⟩ := argsFL_look vs 0 t v hv
    have hlt : t < vs.length := (List.getElem?_eq_some_iff.1 h2).1
    simp only [Nat.sub_zero] at h2
    rw [Array.getElem?_append_left (by simpa using hlt)]
    simpa using h2
  · cases e <;> first | exact h3.elim | (obtain ⟨v, hv, hR⟩ := h3; exact ⟨h1.defers, v, hv a' _ w' fn rfl h1 h2, v, L', rfl, h2, hR⟩)
theorem Cl.calls {f : FuncId} {args : Array Value} {w : World} {R : Value → HL → Prop} (h : Cl P f args w R) : Calls P f args w fun e w' => ∃ v N, e = .returned v ∧ St w w' N ∧ R v N := h
end
attribute [irreducible] OV EF G GL GLq GA GAop Cl
end Go.Proofs.YtaahfdjobpbpjaaGreatDoor
