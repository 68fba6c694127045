/- Vm: a machine that runs closed code (its definitions). By this project. -/
import Derived.WalkKit
import Derived.WalkLawsBesides
import Derived.WalkSpells
import Derived.Stop.BytesEq
import Derived.Deep.MidRow
import Derived.Deep.AppendSrc
import Derived.Deep.DeepAppendWide
import Derived.Deep.Quiet
import Derived.OrdersHeld
import Derived.LoopN
import Derived.Scope
import Derived.Conc.MuLone
import Derived.Laws.MakeOwn
import Derived.Laws.Pointers
import Derived.WideLaws
import Derived.Recover
import Derived.Below
set_option linter.unusedVariables false
set_option linter.unusedSectionVars false
set_option linter.unusedSimpArgs false
namespace Go.Proofs.YtaahfdjobpbpjaaGreatDoor
open Go.RowKit Go.Extern.Stop

/-! ### Trees -/
inductive Tr (α : Type) where
  | lf
  | nd (l : Tr α) (v : Option α) (r : Tr α)
def Tr.getS {α : Type} : Tr α → Nat → Option α
  | .lf, _ => none
  | .nd l v r, i => match Nat.beq i 0 with
    | true => v
    | false => match Nat.beq (Nat.mod i 2) 1 with
      | true => l.getS (Nat.div i 2)
      | false => r.getS (Nat.sub (Nat.div i 2) 1)
def Tr.putS {α : Type} : Nat → Tr α → Nat → Option α → Tr α
  | 0, t, _, _ => t
  | n + 1, .lf, i, x => match Nat.beq i 0 with
    | true => .nd .lf x .lf
    | false => match Nat.beq (Nat.mod i 2) 1 with
      | true => .nd (Tr.putS n .lf (Nat.div i 2) x) none .lf
      | false => .nd .lf none (Tr.putS n .lf (Nat.sub (Nat.div i 2) 1) x)
  | n + 1, .nd l v r, i, x => match Nat.beq i 0 with
    | true => .nd l x r
    | false => match Nat.beq (Nat.mod i 2) 1 with
      | true => .nd (Tr.putS n l (Nat.div i 2) x) v r
      | false => .nd l v (Tr.putS n r (Nat.sub (Nat.div i 2) 1) x)
theorem tr_get_lf {α : Type} (i : Nat) : (Tr.lf : Tr α).getS i = none := by cases i <;> rfl
theorem tr_get_put {α : Type} : ∀ (n : Nat) (t : Tr α) (i j : Nat) (x : Option α), i + 1 < 2 ^ n → (Tr.putS n t i x).getS j = if j = i then x else t.getS j
  | 0, t, i, j, x, h => by simp at h
  | n + 1, t, i, j, x, h => by
    have key : ∀ (l r : Tr α) (v : Option α), (match Nat.beq i 0 with
        | true => Tr.nd l x r
        | false => match Nat.beq (Nat.mod i 2) 1 with
          | true => Tr.nd (Tr.putS n l (Nat.div i 2) x) v r
          | false => Tr.nd l v (Tr.putS n r (Nat.sub (Nat.div i 2) 1) x)).getS j = if j = i then x else (Tr.nd l v r).getS j := by
      intro l r v
      have e1 : ∀ a b : Nat, Nat.div a b = a / b := fun _ _ => rfl
      have e2 : ∀ a b : Nat, Nat.mod a b = a % b := fun _ _ => rfl
      have e3 : ∀ a b : Nat, Nat.sub a b = a - b := fun _ _ => rfl
      by_cases hi : i = 0
      · subst hi
        show (Tr.nd l x r).getS j = _
        by_cases hj : j = 0
        · subst hj; simp [Tr.getS]
        · have : Nat.beq j 0 = false := by cases j <;> first | omega | rfl
          rw [if_neg hj]
          simp only [Tr.getS, this]
      · have hib : Nat.beq i 0 = false := by cases i <;> first | omega | rfl
        simp only [hib]
        by_cases ho : i % 2 = 1
        · have hob : Nat.beq (Nat.mod i 2) 1 = true := by rw [e2, ho]; rfl
          simp only [hob]
          by_cases hj : j = 0
          · subst hj
            rw [if_neg (fun h => hi h.symm)]
            rfl
          · have hjb : Nat.beq j 0 = false := by cases j <;> first | omega | rfl
            by_cases hjo : j % 2 = 1
            · have hjob : Nat.beq (Nat.mod j 2) 1 = true := by rw [e2, hjo]; rfl
              simp only [Tr.getS, hjb, hjob]
              rw [tr_get_put n l _ _ x (by rw [e1]; have : 2 ^ (n + 1) = 2 * 2 ^ n := by rw [Nat.pow_succ]; omega
                                           omega)]
              rw [e1, e1]
              by_cases hji : j = i
              · subst hji; simp
              · rw [if_neg hji, if_neg (by omega)]
            · have hjob : Nat.beq (Nat.mod j 2) 1 = false := by
                rw [e2, show j % 2 = 0 by omega]; rfl
              rw [if_neg (by intro h; subst h; omega)]
              simp only [Tr.getS, hjb, hjob]
        · have hob : Nat.beq (Nat.mod i 2) 1 = false := by rw [e2, show i % 2 = 0 by omega]; rfl
          simp only [hob]
          by_cases hj : j = 0
          · subst hj
            rw [if_neg (fun h => hi h.symm)]
            rfl
          · have hjb : Nat.beq j 0 = false := by cases j <;> first | omega | rfl
            by_cases hjo : j % 2 = 1
            · have hjob : Nat.beq (Nat.mod j 2) 1 = true := by rw [e2, hjo]; rfl
              rw [if_neg (by intro h; subst h; omega)]
              simp only [Tr.getS, hjb, hjob]
            · have hjob : Nat.beq (Nat.mod j 2) 1 = false := by
                rw [e2, show j % 2 = 0 by omega]; rfl
              simp only [Tr.getS, hjb, hjob]
              rw [tr_get_put n r _ _ x (by rw [e1, e3]; have : 2 ^ (n + 1) = 2 * 2 ^ n := by rw [Nat.pow_succ]; omega
                                           omega)]
              rw [e1, e1, e3, e3]
              by_cases hji : j = i
              · subst hji; simp
              · rw [if_neg hji, if_neg (by omega)]
    cases t with
    | lf =>
      have := key .lf .lf none
      have e0 : (Tr.nd (Tr.lf : Tr α) none .lf).getS j = Tr.lf.getS j := by
        rw [tr_get_lf]
        simp only [Tr.getS]
        split <;> try rfl
        split <;> first | rfl | rw [tr_get_lf]
      rw [e0] at this
      rw [← this]
      rfl
    | nd l v r => exact key l r v
theorem tr_get_put_ne {α : Type} : ∀ (n : Nat) (t : Tr α) (i j : Nat) (x : Option α), j ≠ i → (Tr.putS n t i x).getS j = t.getS j
  | 0, t, i, j, x, h => by cases t <;> rfl
  | n + 1, t, i, j, x, h => by
    have key : ∀ (l r : Tr α) (v : Option α), (match Nat.beq i 0 with
        | true => Tr.nd l x r
        | false => match Nat.beq (Nat.mod i 2) 1 with
          | true => Tr.nd (Tr.putS n l (Nat.div i 2) x) v r
          | false => Tr.nd l v (Tr.putS n r (Nat.sub (Nat.div i 2) 1) x)).getS j = (Tr.nd l v r).getS j := by
      intro l r v
      have e1 : ∀ a b : Nat, Nat.div a b = a / b := fun _ _ => rfl
      have e2 : ∀ a b : Nat, Nat.mod a b = a % b := fun _ _ => rfl
      have e3 : ∀ a b : Nat, Nat.sub a b = a - b := fun _ _ => rfl
      by_cases hi : i = 0
      · subst hi
        show (Tr.nd l x r).getS j = _
        have : Nat.beq j 0 = false := by cases j <;> first | omega | rfl
        simp only [Tr.getS, this]
      · have hib : Nat.beq i 0 = false := by cases i <;> first | omega | rfl
        simp only [hib]
        by_cases ho : i % 2 = 1
        · have hob : Nat.beq (Nat.mod i 2) 1 = true := by rw [e2, ho]; rfl
          simp only [hob]
          by_cases hj : j = 0
          · subst hj; rfl
          · have hjb : Nat.beq j 0 = false := by cases j <;> first | omega | rfl
            by_cases hjo : j % 2 = 1
            · have hjob : Nat.beq (Nat.mod j 2) 1 = true := by rw [e2, hjo]; rfl
              simp only [Tr.getS, hjb, hjob]
              exact tr_get_put_ne n l _ _ x (by rw [e1, e1]; omega)
            · have hjob : Nat.beq (Nat.mod j 2) 1 = false := by rw [e2, show j % 2 = 0 by omega]; rfl
              simp only [Tr.getS, hjb, hjob]
        · have hob : Nat.beq (Nat.mod i 2) 1 = false := by rw [e2, show i % 2 = 0 by omega]; rfl
          simp only [hob]
          by_cases hj : j = 0
          · subst hj; rfl
          · have hjb : Nat.beq j 0 = false := by cases j <;> first | omega | rfl
            by_cases hjo : j % 2 = 1
            · have hjob : Nat.beq (Nat.mod j 2) 1 = true := by rw [e2, hjo]; rfl
              simp only [Tr.getS, hjb, hjob]
            · have hjob : Nat.beq (Nat.mod j 2) 1 = false := by rw [e2, show j % 2 = 0 by omega]; rfl
              simp only [Tr.getS, hjb, hjob]
              exact tr_get_put_ne n r _ _ x (by rw [e1, e1, e3, e3]; omega)
    cases t with
    | lf =>
      have := key .lf .lf none
      have e0 : (Tr.nd (Tr.lf : Tr α) none .lf).getS j = Tr.lf.getS j := by
        rw [tr_get_lf]
        simp only [Tr.getS]
        split <;> try rfl
        split <;> first | rfl | rw [tr_get_lf]
      rw [e0] at this
      rw [← this]
      rfl
    | nd l v r => exact key l r v

/-- The same, made for the kernel. -/
noncomputable def Tr.get {α : Type} (t : Tr α) : Nat → Option α :=
  Tr.rec (fun _ => none) (fun _ v _ gl gr i => Bool.rec (Bool.rec (gr (Nat.sub (Nat.div i 2) 1)) (gl (Nat.div i 2)) (Nat.beq (Nat.mod i 2) 1)) v (Nat.beq i 0)) t
noncomputable def Tr.put1 {α : Type} (x : Option α) (n : Nat) : Nat → Tr α :=
  Nat.rec (fun _ => .lf) (fun _ ih i => Bool.rec (Bool.rec (.nd .lf none (ih (Nat.sub (Nat.div i 2) 1))) (.nd (ih (Nat.div i 2)) none .lf) (Nat.beq (Nat.mod i 2) 1)) (.nd .lf x .lf) (Nat.beq i 0)) n
noncomputable def Tr.putF {α : Type} (x : Option α) (t : Tr α) : Nat → Nat → Tr α :=
  Tr.rec (fun n i => Tr.put1 x n i) (fun l v r gl gr n i => Nat.rec (.nd l v r) (fun m _ => Bool.rec (Bool.rec (.nd l v (gr m (Nat.sub (Nat.div i 2) 1))) (.nd (gl m (Nat.div i 2)) v r) (Nat.beq (Nat.mod i 2) 1)) (.nd l x r) (Nat.beq i 0)) n) t
theorem Tr.get_eq {α : Type} : ∀ (t : Tr α) (i : Nat), t.get i = t.getS i
  | .lf, i => by cases i <;> rfl
  | .nd l v r, i => by
    have hl := Tr.get_eq l
    have hr := Tr.get_eq r
    show (Bool.rec (Bool.rec (r.get (Nat.sub (Nat.div i 2) 1)) (l.get (Nat.div i 2)) (Nat.beq (Nat.mod i 2) 1)) v (Nat.beq i 0) : Option α) = _
    rw [hl, hr]
    simp only [Tr.getS]
    cases Nat.beq i 0 with
    | true => rfl
    | false => cases Nat.beq (Nat.mod i 2) 1 <;> rfl
theorem Tr.put1_eq {α : Type} (x : Option α) : ∀ (n i : Nat), Tr.put1 x n i = Tr.putS n .lf i x
  | 0, i => rfl
  | n + 1, i => by
    have ih := Tr.put1_eq x n
    show (Bool.rec (Bool.rec (.nd .lf none (Tr.put1 x n (Nat.sub (Nat.div i 2) 1))) (.nd (Tr.put1 x n (Nat.div i 2)) none .lf) (Nat.beq (Nat.mod i 2) 1)) (.nd .lf x .lf) (Nat.beq i 0) : Tr α) = _
    rw [ih, ih]
    simp only [Tr.putS]
    cases Nat.beq i 0 with
    | true => rfl
    | false => cases Nat.beq (Nat.mod i 2) 1 <;> rfl
theorem Tr.putF_eq {α : Type} (x : Option α) : ∀ (t : Tr α) (n i : Nat), Tr.putF x t n i = Tr.putS n t i x
  | .lf, n, i => Tr.put1_eq x n i
  | .nd l v r, 0, i => rfl
  | .nd l v r, n + 1, i => by
    have hl := Tr.putF_eq x l
    have hr := Tr.putF_eq x r
    show (Bool.rec (Bool.rec (.nd l v (Tr.putF x r n (Nat.sub (Nat.div i 2) 1))) (.nd (Tr.putF x l n (Nat.div i 2)) v r) (Nat.beq (Nat.mod i 2) 1)) (.nd l x r) (Nat.beq i 0) : Tr α) = _
    rw [hl, hr]
    simp only [Tr.putS]
    cases Nat.beq i 0 with
    | true => rfl
    | false => cases Nat.beq (Nat.mod i 2) 1 <;> rfl
/-- A bound for the numbers of slots. -/
def trMax : Nat := 1000000000
noncomputable abbrev Tr.set {α : Type} (t : Tr α) (i : Nat) (x : Option α) : Tr α := Tr.putF x t (Nat.succ i) i
theorem two_pow_lt (i : Nat) : i + 1 < 2 ^ (i + 1) := Nat.lt_two_pow_self
theorem Tr.get_set {α : Type} (t : Tr α) {i : Nat} (j : Nat) (x : Option α) : (t.set i x).get j = if j = i then x else t.get j := by
  rw [Tr.get_eq, Tr.get_eq, Tr.set, Tr.putF_eq]
  exact tr_get_put (i + 1) t i j x (two_pow_lt i)
theorem Tr.set_ne {α : Type} (t : Tr α) (i j : Nat) (x : Option α) (h : j ≠ i) : (t.set i x).get j = t.get j := by
  rw [Tr.get_eq, Tr.get_eq, Tr.set, Tr.putF_eq]
  exact tr_get_put_ne (i + 1) t i j x h

/-! ### Values, objects, types -/
inductive V where
  | b (x : Bool)
  | i (k : IntKind) (n : Int)
  | s (x : List UInt8)
  | p (a : Option (Nat × Nat))
  | sl (a : Option (Nat × Nat)) (l c : Nat) (op : Bool)
  | m (r : Option Nat)
  | fn (f : Nat) (first cap : List V)
  | nf
  | ifc (t : Nat) (v : V)
  | ni
  | agg (cs : List V)
  | tup (vs : List V)
  deriving Inhabited
/-- What lies at a handle: cells (op: something may lie behind them, each element of so many cells; mk: the block is marked), a map, a walk over a map. -/
inductive VO where
  | cells (cs : List V) (t : TypeId) (op : Option Nat) (mk : Bool)
  | map (es : List (V × V × Nat)) (clock : Nat)
  | iter (m : Option Nat) (since : Nat) (seen : List Nat) (last : Nat)
structure Hp where
  t : Tr VO
  nx : Nat
  log : List Nat
inductive TD where
  | bool | int (k : IntKind) | str | ptr (e : TypeId) | sl (e : TypeId) | arr (n : Nat) (e : TypeId) | map (k e : TypeId) | st (fs : List (Nat × TypeId)) | ifc | fn | usf | oth
structure TI where
  d : TD
  size : Nat
  bytes : Nat
  z : Option V
  /-- '==' may be asked of it as it stands. -/
  eq : Bool
structure Cx where
  T : Tr TI
  F : Tr Func
  /-- The function that a method of a type is. -/
  M : TypeId → String → Option Nat
def TD.row : TD → Bool
  | .arr _ _ => true
  | .st _ => true
  | _ => false
def V.one : V → Bool
  | .agg _ => false
  | .tup _ => false
  | _ => true
def V.cells : V → Option (List V)
  | .agg cs => some cs
  | .tup _ => none
  | v => some [v]
def ofVal1 : Value → Option V
  | .bool x => some (.b x)
  | .int k n => some (.i k n)
  | .string x => some (.s x.data.toList)
  | .pointer none => some (.p none)
  | .slice none l c => some (.sl none l c false)
  | .map none => some (.m none)
  | .nilFunc => some .nf
  | .nilIface => some .ni
  | _ => none
noncomputable def mapO {α β : Type} (f : α → Option β) (l : List α) : Option (List β) :=
  List.rec (some []) (fun x _ ih => Option.rec none (fun y => Option.rec none (fun ys => some (y :: ys)) ih) (f x)) l
theorem mapO_nil {α β : Type} (f : α → Option β) : mapO f [] = some [] := rfl
theorem mapO_cons {α β : Type} (f : α → Option β) (x : α) (r : List α) : mapO f (x :: r) = match f x with
    | some y => match mapO f r with
      | some ys => some (y :: ys)
      | none => none
    | none => none := by
  show (Option.rec none (fun y => Option.rec none (fun ys => some (y :: ys)) (mapO f r)) (f x) : Option (List β)) = _
  cases f x with
  | none => rfl
  | some y => simp only; cases mapO f r <;> rfl
noncomputable def ofVal : Value → Option V
  | .agg cs => match mapO ofVal1 cs.toList with
    | some l => some (.agg l)
    | none => none
  | .tuple vs => match vs.toList with
    | [] => some (.tup [])
    | _ => none
  | v => ofVal1 v

/-! ### Lists (made for the kernel) -/
/-- What is written over the head of a list. -/
noncomputable def overF {α : Type} (vs : List α) : List α → List α :=
  List.rec (fun cs => cs) (fun v _ ih cs => List.rec [] (fun _ r _ => v :: ih r) cs) vs
noncomputable def putAt {α : Type} (o : Nat) (cs vs : List α) : List α :=
  List.rec (fun _ => []) (fun c r ih o => Nat.rec (overF vs (c :: r)) (fun m _ => c :: ih m) o) cs o
noncomputable def appF {α : Type} (a b : List α) : List α := List.rec b (fun x _ ih => x :: ih) a
theorem appF_eq {α : Type} : ∀ (a b : List α), appF a b = a ++ b
  | [], b => rfl
  | x :: r, b => by show x :: appF r b = _; rw [appF_eq r b]; rfl
noncomputable def repL {α : Type} (l : List α) (n : Nat) : List α := Nat.rec [] (fun _ ih => appF l ih) n
theorem repL_zero {α : Type} (l : List α) : repL l 0 = [] := rfl
theorem repL_succ {α : Type} (l : List α) (n : Nat) : repL l (n + 1) = l ++ repL l n := appF_eq _ _
noncomputable def getL {α : Type} (l : List α) (n : Nat) : Option α :=
  List.rec (fun _ => none) (fun x _ ih n => Nat.rec (some x) (fun m _ => ih m) n) l n
/-- At least so many. -/
noncomputable def geL {α : Type} (l : List α) (n : Nat) : Bool :=
  List.rec (fun n => Nat.beq n 0) (fun _ _ ih n => Nat.rec true (fun m _ => ih m) n) l n
noncomputable def lenF {α : Type} (l : List α) : Nat := List.rec (fun n => n) (fun _ _ ih n => ih (Nat.succ n)) l 0
noncomputable def dropF {α : Type} (l : List α) (n : Nat) : List α :=
  List.rec (fun _ => []) (fun x r ih n => Nat.rec (x :: r) (fun m _ => ih m) n) l n
noncomputable def takeF {α : Type} (l : List α) (n : Nat) : List α :=
  List.rec (fun _ => []) (fun x _ ih n => Nat.rec [] (fun m _ => x :: ih m) n) l n
theorem lenF_eq {α : Type} (l : List α) : lenF l = l.length := by
  have : ∀ (l : List α) (n : Nat), (List.rec (fun n => n) (fun _ _ ih n => ih (Nat.succ n)) l n : Nat) = n + l.length := by
    intro l
    induction l with
    | nil => intro n; rfl
    | cons x r ih => intro n; show (List.rec (fun n => n) (fun _ _ ih n => ih (Nat.succ n)) r (Nat.succ n) : Nat) = _; rw [ih]; simp; omega
  have := this l 0
  simpa [lenF] using this
theorem dropF_eq {α : Type} : ∀ (l : List α) (n : Nat), dropF l n = l.drop n
  | [], n => by cases n <;> rfl
  | x :: r, 0 => rfl
  | x :: r, n + 1 => by show dropF r n = _; rw [dropF_eq r n]; rfl
theorem takeF_eq {α : Type} : ∀ (l : List α) (n : Nat), takeF l n = l.take n
  | [], n => by cases n <;> rfl
  | x :: r, 0 => rfl
  | x :: r, n + 1 => by show x :: takeF r n = _; rw [takeF_eq r n]; rfl
theorem geL_iff {α : Type} : ∀ {l : List α} {n : Nat}, geL l n = true ↔ n ≤ l.length
  | [], n => by show Nat.beq n 0 = true ↔ _; rw [Nat.beq_eq]; simp
  | x :: r, 0 => by show true = true ↔ _; simp
  | x :: r, n + 1 => by show geL r n = true ↔ _; rw [geL_iff]; simp
/-- So many from a place on, all of them there. -/
noncomputable def cutL {α : Type} (cs : List α) (o n : Nat) : Option (List α) :=
  match geL cs (o + n) with
  | true => some (takeF (dropF cs o) n)
  | false => none
theorem cutL_mk {α : Type} {cs : List α} {o n : Nat} (h : o + n ≤ cs.length) : cutL cs o n = some ((cs.drop o).take n) := by
  unfold cutL
  rw [geL_iff.2 h, takeF_eq, dropF_eq]
noncomputable def Hp.get (h : Hp) (x : Nat) : Option VO := h.t.get x
/-- Handles below this are package-level variables. -/
def gMax : Nat := 64
/-- Handles that are only read: the odd ones from there on. -/
def roB (x : Nat) : Bool := match Nat.ble gMax x with
  | true => Nat.beq (Nat.mod x 2) 1
  | false => false
/-- What may be written over. -/
noncomputable def Hp.getW (h : Hp) (x : Nat) : Option VO := match roB x with
  | true => none
  | false => h.t.get x
noncomputable def Hp.put (h : Hp) (x : Nat) (o : Option VO) : Hp := ⟨h.t.set x o, h.nx, x :: h.log⟩
noncomputable def Hp.new (h : Hp) (o : VO) : Option (Nat × Hp) :=
  match Nat.beq (Nat.mod h.nx 2) 0 && Nat.ble gMax h.nx with
  | true => some (h.nx, ⟨h.t.set h.nx (some o), h.nx + 2, h.nx :: h.log⟩)
  | false => none
def asNat : Int → Option Nat
  | .ofNat n => some n
  | .negSucc _ => none
end Go.Proofs.YtaahfdjobpbpjaaGreatDoor
