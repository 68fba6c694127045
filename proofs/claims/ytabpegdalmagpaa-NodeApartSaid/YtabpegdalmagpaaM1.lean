/- Part 1 of the proof: Vm, Vo, Vs, Sx, Sxo, Vw, Vx, Vy, Vz, Vb, Vg, Vh, Vi, Vj. By this project. -/
import Derived.WalkKit
import Derived.WalkLawsBesides
import Derived.WalkSpells
import Derived.Stop.BytesEq
import Derived.Deep.MidRow
import Derived.Deep.AppendSrc
import Derived.Deep.DeepAppendWide
import Derived.Deep.Quiet
import Derived.OrdersHeld
import Derived.LoopN
import Derived.Scope
import Derived.Conc.MuLone
import Derived.Laws.MakeOwn
import Derived.Laws.Pointers
import Derived.WideLaws
import Derived.Recover
import Derived.Below
import Derived.Test.YtabpegdalmagpaaProg
import Derived.DeepKeys
import Derived.ChangeKeysEq
import Derived.LaidEql
import Derived.Laws.IdiomCopy
import Derived.Laws.IdiomStrings
import Derived.Laws.BytesString
import Derived.Laws.IdiomRangeMap
import Derived.Laws.LoneSync
import Derived.Laws.StructEq
import Derived.Laws.Strings
import Derived.Laws.Concat
set_option linter.unusedVariables false
set_option linter.unusedSectionVars false
set_option linter.unusedSimpArgs false
set_option maxRecDepth 100000
/- Vm: a machine that runs closed code (its definitions). By this project. -/
namespace Go.Proofs.Ytabpegdalmagpaa
open Go.RowKit Go.Extern.Stop
inductive Tr (α : Type) where
 | lf
 | nd (l : Tr α) (v : Option α) (r : Tr α)
def Tr.getS {α : Type} : Tr α → Nat → Option α
 | .lf, _ => none
 | .nd l v r, i => match Nat.beq i 0 with
  | true => v
  | false => match Nat.beq (Nat.mod i 2) 1 with
   | true => l.getS (Nat.div i 2)
   | false => r.getS (Nat.sub (Nat.div i 2) 1)
def Tr.putS {α : Type} : Nat → Tr α → Nat → Option α → Tr α
 | 0, t, _, _ => t
 | n + 1, .lf, i, x => match Nat.beq i 0 with
  | true => .nd .lf x .lf
  | false => match Nat.beq (Nat.mod i 2) 1 with
   | true => .nd (Tr.putS n .lf (Nat.div i 2) x) none .lf
   | false => .nd .lf none (Tr.putS n .lf (Nat.sub (Nat.div i 2) 1) x)
 | n + 1, .nd l v r, i, x => match Nat.beq i 0 with
  | true => .nd l x r
  | false => match Nat.beq (Nat.mod i 2) 1 with
   | true => .nd (Tr.putS n l (Nat.div i 2) x) v r
   | false => .nd l v (Tr.putS n r (Nat.sub (Nat.div i 2) 1) x)
theorem tr_get_lf {α : Type} (i : Nat) : (Tr.lf : Tr α).getS i = none := by cases i <;> rfl
theorem tr_get_put {α : Type} : ∀ (n : Nat) (t : Tr α) (i j : Nat) (x : Option α), i + 1 < 2 ^ n → (Tr.putS n t i x).getS j = if j = i then x else t.getS j
  | 0, t, i, j, x, h => by simp at h
  | n + 1, t, i, j, x, h => by
    have key : ∀ (l r : Tr α) (v : Option α), (match Nat.beq i 0 with
        | true => Tr.nd l x r
        | false => match Nat.beq (Nat.mod i 2) 1 with
          | true => Tr.nd (Tr.putS n l (Nat.div i 2) x) v r
          | false => Tr.nd l v (Tr.putS n r (Nat.sub (Nat.div i 2) 1) x)).getS j = if j = i then x else (Tr.nd l v r).getS j := by
      intro l r v
      have e1 : ∀ a b : Nat, Nat.div a b = a / b := fun _ _ => rfl
      have e2 : ∀ a b : Nat, Nat.mod a b = a % b := fun _ _ => rfl
      have e3 : ∀ a b : Nat, Nat.sub a b = a - b := fun _ _ => rfl
      by_cases hi : i = 0
      · subst hi
        show (Tr.nd l x r).getS j = _
        by_cases hj : j = 0
        · subst hj; simp [Tr.getS]
        · have : Nat.beq j 0 = false := by cases j <;> first | omega | rfl
          rw [if_neg hj]
          simp only [Tr.getS, this]
      · have hib : Nat.beq i 0 = false := by cases i <;> first | omega | rfl
        simp only [hib]
        by_cases ho : i % 2 = 1
        · have hob : Nat.beq (Nat.mod i 2) 1 = true := by rw [e2, ho]; rfl
          simp only [hob]
          by_cases hj : j = 0
          · subst hj
            rw [if_neg (fun h => hi h.symm)]
            rfl
          · have hjb : Nat.beq j 0 = false := by cases j <;> first | omega | rfl
            by_cases hjo : j % 2 = 1
            · have hjob : Nat.beq (Nat.mod j 2) 1 = true := by rw [e2, hjo]; rfl
              simp only [Tr.getS, hjb, hjob]
              rw [tr_get_put n l _ _ x (by rw [e1]; have : 2 ^ (n + 1) = 2 * 2 ^ n := by rw [Nat.pow_succ]; omega
                                           omega)]
              rw [e1, e1]
              by_cases hji : j = i
              · subst hji; simp
              · rw [if_neg hji, if_neg (by omega)]
            · have hjob : Nat.beq (Nat.mod j 2) 1 = false := by
                rw [e2, show j % 2 = 0 by omega]; rfl
              rw [if_neg (by intro h; subst h; omega)]
              simp only [Tr.getS, hjb, hjob]
        · have hob : Nat.beq (Nat.mod i 2) 1 = false := by rw [e2, show i % 2 = 0 by omega]; rfl
          simp only [hob]
          by_cases hj : j = 0
          · subst hj
            rw [if_neg (fun h => hi h.symm)]
            rfl
          · have hjb : Nat.beq j 0 = false := by cases j <;> first | omega | rfl
            by_cases hjo : j % 2 = 1
            · have hjob : Nat.beq (Nat.mod j 2) 1 = true := by rw [e2, hjo]; rfl
              rw [if_neg (by intro h; subst h; omega)]
              simp only [Tr.getS, hjb, hjob]
            · have hjob : Nat.beq (Nat.mod j 2) 1 = false := by
                rw [e2, show j % 2 = 0 by omega]; rfl
              simp only [Tr.getS, hjb, hjob]
              rw [tr_get_put n r _ _ x (by rw [e1, e3]; have : 2 ^ (n + 1) = 2 * 2 ^ n := by rw [Nat.pow_succ]; omega
                                           omega)]
              rw [e1, e1, e3, e3]
              by_cases hji : j = i
              · subst hji; simp
              · rw [if_neg hji, if_neg (by omega)]
    cases t with
    | lf =>
      have := key .lf .lf none
      have e0 : (Tr.nd (Tr.lf : Tr α) none .lf).getS j = Tr.lf.getS j := by
        rw [tr_get_lf]
        simp only [Tr.getS]
        split <;> try rfl
        split <;> first | rfl | rw [tr_get_lf]
      rw [e0] at this
      rw [← this]
      rfl
    | nd l v r => exact key l r v
theorem tr_get_put_ne {α : Type} : ∀ (n : Nat) (t : Tr α) (i j : Nat) (x : Option α), j ≠ i → (Tr.putS n t i x).getS j = t.getS j
 | 0, t, i, j, x, h => by cases t <;> rfl
 | n + 1, t, i, j, x, h => by
  have key : ∀ (l r : Tr α) (v : Option α), (match Nat.beq i 0 with
    | true => Tr.nd l x r
    | false => match Nat.beq (Nat.mod i 2) 1 with
     | true => Tr.nd (Tr.putS n l (Nat.div i 2) x) v r
     | false => Tr.nd l v (Tr.putS n r (Nat.sub (Nat.div i 2) 1) x)).getS j = (Tr.nd l v r).getS j := by
   intro l r v
   have e1 : ∀ a b : Nat, Nat.div a b = a / b := fun _ _ => rfl
   have e2 : ∀ a b : Nat, Nat.mod a b = a % b := fun _ _ => rfl
   have e3 : ∀ a b : Nat, Nat.sub a b = a - b := fun _ _ => rfl
   by_cases hi : i = 0
   ·subst hi
    show (Tr.nd l x r).getS j = _
    have : Nat.beq j 0 = false := by cases j <;> first | omega | rfl
    simp only [Tr.getS, this]
   ·have hib : Nat.beq i 0 = false := by cases i <;> first | omega | rfl
    simp only [hib]
    by_cases ho : i % 2 = 1
    ·have hob : Nat.beq (Nat.mod i 2) 1 = true := by rw [e2, ho]; rfl
     simp only [hob]
     by_cases hj : j = 0
     ·subst hj; rfl
     ·have hjb : Nat.beq j 0 = false := by cases j <;> first | omega | rfl
      by_cases hjo : j % 2 = 1
      ·have hjob : Nat.beq (Nat.mod j 2) 1 = true := by rw [e2, hjo]; rfl
       simp only [Tr.getS, hjb, hjob]
       exact tr_get_put_ne n l _ _ x (by rw [e1, e1]; omega)
      ·have hjob : Nat.beq (Nat.mod j 2) 1 = false := by rw [e2, show j % 2 = 0 by omega]; rfl
       simp only [Tr.getS, hjb, hjob]
    ·have hob : Nat.beq (Nat.mod i 2) 1 = false := by rw [e2, show i % 2 = 0 by omega]; rfl
     simp only [hob]
     by_cases hj : j = 0
     ·subst hj; rfl
     ·have hjb : Nat.beq j 0 = false := by cases j <;> first | omega | rfl
      by_cases hjo : j % 2 = 1
      ·have hjob : Nat.beq (Nat.mod j 2) 1 = true := by rw [e2, hjo]; rfl
       simp only [Tr.getS, hjb, hjob]
      ·have hjob : Nat.beq (Nat.mod j 2) 1 = false := by rw [e2, show j % 2 = 0 by omega]; rfl
       simp only [Tr.getS, hjb, hjob]
       exact tr_get_put_ne n r _ _ x (by rw [e1, e1, e3, e3]; omega)
  cases t with
  | lf =>
   have := key .lf .lf none
   have e0 : (Tr.nd (Tr.lf : Tr α) none .lf).getS j = Tr.lf.getS j := by
    rw [tr_get_lf]
    simp only [Tr.getS]
    split <;> try rfl
    split <;> first | rfl | rw [tr_get_lf]
   rw [e0] at this
   rw [← this]
   rfl
  | nd l v r => exact key l r v
noncomputable def Tr.get {α : Type} (t : Tr α) : Nat → Option α :=
 Tr.rec (fun _ => none) (fun _ v _ gl gr i => Bool.rec (Bool.rec (gr (Nat.sub (Nat.div i 2) 1)) (gl (Nat.div i 2)) (Nat.beq (Nat.mod i 2) 1)) v (Nat.beq i 0)) t
noncomputable def Tr.put1 {α : Type} (x : Option α) (n : Nat) : Nat → Tr α :=
 Nat.rec (fun _ => .lf) (fun _ ih i => Bool.rec (Bool.rec (.nd .lf none (ih (Nat.sub (Nat.div i 2) 1))) (.nd (ih (Nat.div i 2)) none .lf) (Nat.beq (Nat.mod i 2) 1)) (.nd .lf x .lf) (Nat.beq i 0)) n
noncomputable def Tr.putF {α : Type} (x : Option α) (t : Tr α) : Nat → Nat → Tr α :=
 Tr.rec (fun n i => Tr.put1 x n i) (fun l v r gl gr n i => Nat.rec (.nd l v r) (fun m _ => Bool.rec (Bool.rec (.nd l v (gr m (Nat.sub (Nat.div i 2) 1))) (.nd (gl m (Nat.div i 2)) v r) (Nat.beq (Nat.mod i 2) 1)) (.nd l x r) (Nat.beq i 0)) n) t
theorem Tr.get_eq {α : Type} : ∀ (t : Tr α) (i : Nat), t.get i = t.getS i
 | .lf, i => by cases i <;> rfl
 | .nd l v r, i => by
  have hl := Tr.get_eq l
  have hr := Tr.get_eq r
  show (Bool.rec (Bool.rec (r.get (Nat.sub (Nat.div i 2) 1)) (l.get (Nat.div i 2)) (Nat.beq (Nat.mod i 2) 1)) v (Nat.beq i 0) : Option α) = _
  rw [hl, hr]
  simp only [Tr.getS]
  cases Nat.beq i 0 with
  | true => rfl
  | false => cases Nat.beq (Nat.mod i 2) 1 <;> rfl
theorem Tr.put1_eq {α : Type} (x : Option α) : ∀ (n i : Nat), Tr.put1 x n i = Tr.putS n .lf i x
 | 0, i => rfl
 | n + 1, i => by
  have ih := Tr.put1_eq x n
  show (Bool.rec (Bool.rec (.nd .lf none (Tr.put1 x n (Nat.sub (Nat.div i 2) 1))) (.nd (Tr.put1 x n (Nat.div i 2)) none .lf) (Nat.beq (Nat.mod i 2) 1)) (.nd .lf x .lf) (Nat.beq i 0) : Tr α) = _
  rw [ih, ih]
  simp only [Tr.putS]
  cases Nat.beq i 0 with
  | true => rfl
  | false => cases Nat.beq (Nat.mod i 2) 1 <;> rfl
theorem Tr.putF_eq {α : Type} (x : Option α) : ∀ (t : Tr α) (n i : Nat), Tr.putF x t n i = Tr.putS n t i x
 | .lf, n, i => Tr.put1_eq x n i
 | .nd l v r, 0, i => rfl
 | .nd l v r, n + 1, i => by
  have hl := Tr.putF_eq x l
  have hr := Tr.putF_eq x r
  show (Bool.rec (Bool.rec (.nd l v (Tr.putF x r n (Nat.sub (Nat.div i 2) 1))) (.nd (Tr.putF x l n (Nat.div i 2)) v r) (Nat.beq (Nat.mod i 2) 1)) (.nd l x r) (Nat.beq i 0) : Tr α) = _
  rw [hl, hr]
  simp only [Tr.putS]
  cases Nat.beq i 0 with
  | true => rfl
  | false => cases Nat.beq (Nat.mod i 2) 1 <;> rfl
def trMax : Nat := 1000000000
noncomputable abbrev Tr.set {α : Type} (t : Tr α) (i : Nat) (x : Option α) : Tr α := Tr.putF x t (Nat.succ i) i
theorem two_pow_lt (i : Nat) : i + 1 < 2 ^ (i + 1) := Nat.lt_two_pow_self
theorem Tr.get_set {α : Type} (t : Tr α) {i : Nat} (j : Nat) (x : Option α) : (t.set i x).get j = if j = i then x else t.get j := by
 rw [Tr.get_eq, Tr.get_eq, Tr.set, Tr.putF_eq]
 exact tr_get_put (i + 1) t i j x (two_pow_lt i)
theorem Tr.set_ne {α : Type} (t : Tr α) (i j : Nat) (x : Option α) (h : j ≠ i) : (t.set i x).get j = t.get j := by
 rw [Tr.get_eq, Tr.get_eq, Tr.set, Tr.putF_eq]
 exact tr_get_put_ne (i + 1) t i j x h
inductive V where
 | b (x : Bool)
 | i (k : IntKind) (n : Int)
 | s (x : List UInt8)
 | p (a : Option (Nat × Nat))
 | sl (a : Option (Nat × Nat)) (l c : Nat) (op : Bool)
 | m (r : Option Nat)
 | fn (f : Nat) (first cap : List V)
 | nf
 | ifc (t : Nat) (v : V)
 | ni
 | agg (cs : List V)
 | tup (vs : List V)
 deriving Inhabited
inductive VO where
 | cells (cs : List V) (t : TypeId) (op : Option Nat) (mk : Bool)
 | map (es : List (V × V × Nat)) (clock : Nat)
 | iter (m : Option Nat) (since : Nat) (seen : List Nat) (last : Nat)
structure Hp where
 t : Tr VO
 nx : Nat
 log : List Nat
inductive TD where
 | bool | int (k : IntKind) | str | ptr (e : TypeId) | sl (e : TypeId) | arr (n : Nat) (e : TypeId) | map (k e : TypeId) | st (fs : List (Nat × TypeId)) | ifc | fn | usf | oth
structure TI where
 d : TD
 size : Nat
 bytes : Nat
 z : Option V
 eq : Bool
structure Cx where
 T : Tr TI
 F : Tr Func
 M : TypeId → String → Option Nat
def TD.row : TD → Bool
 | .arr _ _ => true
 | .st _ => true
 | _ => false
def V.one : V → Bool
 | .agg _ => false
 | .tup _ => false
 | _ => true
def V.cells : V → Option (List V)
 | .agg cs => some cs
 | .tup _ => none
 | v => some [v]
def ofVal1 : Value → Option V
 | .bool x => some (.b x)
 | .int k n => some (.i k n)
 | .string x => some (.s x.data.toList)
 | .pointer none => some (.p none)
 | .slice none l c => some (.sl none l c false)
 | .map none => some (.m none)
 | .nilFunc => some .nf
 | .nilIface => some .ni
 | _ => none
noncomputable def mapO {α β : Type} (f : α → Option β) (l : List α) : Option (List β) :=
 List.rec (some []) (fun x _ ih => Option.rec none (fun y => Option.rec none (fun ys => some (y :: ys)) ih) (f x)) l
theorem mapO_nil {α β : Type} (f : α → Option β) : mapO f [] = some [] := rfl
theorem mapO_cons {α β : Type} (f : α → Option β) (x : α) (r : List α) : mapO f (x :: r) = match f x with
  | some y => match mapO f r with
   | some ys => some (y :: ys)
   | none => none
  | none => none := by
 show (Option.rec none (fun y => Option.rec none (fun ys => some (y :: ys)) (mapO f r)) (f x) : Option (List β)) = _
 cases f x with
 | none => rfl
 | some y => simp only; cases mapO f r <;> rfl
noncomputable def ofVal : Value → Option V
 | .agg cs => match mapO ofVal1 cs.toList with
  | some l => some (.agg l)
  | none => none
 | .tuple vs => match vs.toList with
  | [] => some (.tup [])
  | _ => none
 | v => ofVal1 v
noncomputable def overF {α : Type} (vs : List α) : List α → List α :=
 List.rec (fun cs => cs) (fun v _ ih cs => List.rec [] (fun _ r _ => v :: ih r) cs) vs
noncomputable def putAt {α : Type} (o : Nat) (cs vs : List α) : List α :=
 List.rec (fun _ => []) (fun c r ih o => Nat.rec (overF vs (c :: r)) (fun m _ => c :: ih m) o) cs o
noncomputable def appF {α : Type} (a b : List α) : List α := List.rec b (fun x _ ih => x :: ih) a
theorem appF_eq {α : Type} : ∀ (a b : List α), appF a b = a ++ b
 | [], b => rfl
 | x :: r, b => by show x :: appF r b = _; rw [appF_eq r b]; rfl
noncomputable def repL {α : Type} (l : List α) (n : Nat) : List α := Nat.rec [] (fun _ ih => appF l ih) n
theorem repL_zero {α : Type} (l : List α) : repL l 0 = [] := rfl
theorem repL_succ {α : Type} (l : List α) (n : Nat) : repL l (n + 1) = l ++ repL l n := appF_eq _ _
noncomputable def getL {α : Type} (l : List α) (n : Nat) : Option α :=
 List.rec (fun _ => none) (fun x _ ih n => Nat.rec (some x) (fun m _ => ih m) n) l n
noncomputable def geL {α : Type} (l : List α) (n : Nat) : Bool :=
 List.rec (fun n => Nat.beq n 0) (fun _ _ ih n => Nat.rec true (fun m _ => ih m) n) l n
noncomputable def lenF {α : Type} (l : List α) : Nat := List.rec (fun n => n) (fun _ _ ih n => ih (Nat.succ n)) l 0
noncomputable def dropF {α : Type} (l : List α) (n : Nat) : List α :=
 List.rec (fun _ => []) (fun x r ih n => Nat.rec (x :: r) (fun m _ => ih m) n) l n
noncomputable def takeF {α : Type} (l : List α) (n : Nat) : List α :=
 List.rec (fun _ => []) (fun x _ ih n => Nat.rec [] (fun m _ => x :: ih m) n) l n
theorem lenF_eq {α : Type} (l : List α) : lenF l = l.length := by
 have : ∀ (l : List α) (n : Nat), (List.rec (fun n => n) (fun _ _ ih n => ih (Nat.succ n)) l n : Nat) = n + l.length := by
  intro l
  induction l with
  | nil => intro n; rfl
  | cons x r ih => intro n; show (List.rec (fun n => n) (fun _ _ ih n => ih (Nat.succ n)) r (Nat.succ n) : Nat) = _; rw [ih]; simp; omega
 have := this l 0
 simpa [lenF] using this
theorem dropF_eq {α : Type} : ∀ (l : List α) (n : Nat), dropF l n = l.drop n
 | [], n => by cases n <;> rfl
 | x :: r, 0 => rfl
 | x :: r, n + 1 => by show dropF r n = _; rw [dropF_eq r n]; rfl
theorem takeF_eq {α : Type} : ∀ (l : List α) (n : Nat), takeF l n = l.take n
 | [], n => by cases n <;> rfl
 | x :: r, 0 => rfl
 | x :: r, n + 1 => by show x :: takeF r n = _; rw [takeF_eq r n]; rfl
theorem geL_iff {α : Type} : ∀ {l : List α} {n : Nat}, geL l n = true ↔ n ≤ l.length
 | [], n => by show Nat.beq n 0 = true ↔ _; rw [Nat.beq_eq]; simp
 | x :: r, 0 => by show true = true ↔ _; simp
 | x :: r, n + 1 => by show geL r n = true ↔ _; rw [geL_iff]; simp
noncomputable def cutL {α : Type} (cs : List α) (o n : Nat) : Option (List α) :=
 match geL cs (o + n) with
 | true => some (takeF (dropF cs o) n)
 | false => none
theorem cutL_mk {α : Type} {cs : List α} {o n : Nat} (h : o + n ≤ cs.length) : cutL cs o n = some ((cs.drop o).take n) := by
 unfold cutL
 rw [geL_iff.2 h, takeF_eq, dropF_eq]
noncomputable def Hp.get (h : Hp) (x : Nat) : Option VO := h.t.get x
def gMax : Nat := 64
def roB (x : Nat) : Bool := match Nat.ble gMax x with
 | true => Nat.beq (Nat.mod x 2) 1
 | false => false
def wkB (x : Nat) : Bool := match Nat.beq (Nat.mod x 4) 3 with
 | true => roB x
 | false => false
theorem wkB_ro {x : Nat} (h : roB x = false) : wkB x = false := by
 unfold wkB
 split
 ·exact h
 ·rfl
theorem wkB_even {x : Nat} (h : Nat.beq (Nat.mod x 2) 0 = true) : wkB x = false := by
 have h2 : x % 2 = 0 := Nat.eq_of_beq_eq_true h
 unfold wkB
 split
 ·rename_i h4
  have h4 : x % 4 = 3 := Nat.eq_of_beq_eq_true h4
  omega
 ·rfl
noncomputable def Hp.getW (h : Hp) (x : Nat) : Option VO := match roB x with
 | true => none
 | false => h.t.get x
noncomputable def Hp.put (h : Hp) (x : Nat) (o : Option VO) : Hp := ⟨h.t.set x o, h.nx, x :: h.log⟩
noncomputable def Hp.new (h : Hp) (o : VO) : Option (Nat × Hp) :=
 match Nat.beq (Nat.mod h.nx 2) 0 && Nat.ble gMax h.nx with
 | true => some (h.nx, ⟨h.t.set h.nx (some o), h.nx + 2, h.nx :: h.log⟩)
 | false => none
def asNat : Int → Option Nat
 | .ofNat n => some n
 | .negSucc _ => none
end Go.Proofs.Ytabpegdalmagpaa
/- Vo: what the machine of Vm does: operations, regions, code, calls. By this project. -/
namespace Go.Proofs.Ytabpegdalmagpaa
noncomputable section
open Go.RowKit Go.Extern.Stop
def evV (fr : Tr V) : Operand → Option V
 | .tmp t => fr.get t
 | .const v => ofVal v
 | .global g => match Nat.blt g gMax with
  | true => some (.p (some (g, 0)))
  | false => none
 | .func f => some (.fn f [] [])
def tiV (C : Cx) (t : TypeId) : Option TI := C.T.get t
def partV (C : Cx) (t : TypeId) (cs : List V) (o : Nat) : Option V :=
 (tiV C t).bind fun ti => match ti.d.row with
  | true => (cutL cs o ti.size).bind fun l => some (.agg l)
  | false => getL cs o
def cellsAt (hp : Hp) (h : Nat) : Option (List V) := match hp.get h with
 | some (.cells cs _ _ _) => some cs
 | _ => none
def loadV (hp : Hp) (h o n : Nat) : Option (List V) := match n with
 | 0 => some []
 | n => (cellsAt hp h).bind fun cs => cutL cs o n
def storeV (hp : Hp) (h o : Nat) (vs : List V) : Option Hp := match vs with
 | [] => some hp
 | vs => match hp.getW h with
  | some (.cells cs t op mk) => match geL cs (o + lenF vs) with
   | true => some (hp.put h (some (.cells (putAt o cs vs) t op mk)))
   | false => none
  | _ => none
def ptrV : V → Option (Nat × Nat)
 | .p a => a
 | _ => none
def intV? : V → Option Int
 | .i _ n => some n
 | _ => none
def natV (v : V) : Option Nat := (intV? v).bind asNat
def kindEq : IntKind → IntKind → Bool
 | .i8, .i8 => true | .i16, .i16 => true | .i32, .i32 => true | .i64, .i64 => true
 | .u8, .u8 => true | .u16, .u16 => true | .u32, .u32 => true | .u64, .u64 => true
 | _, _ => false
def intEq : Int → Int → Bool
 | .ofNat a, .ofNat b => Nat.beq a b
 | .negSucc a, .negSucc b => Nat.beq a b
 | _, _ => false
def intLe (x y : Int) : Bool := match y - x with
 | .ofNat _ => true
 | .negSucc _ => false
def intLt (x y : Int) : Bool := !intLe y x
def byEq : List UInt8 → List UInt8 → Bool
 | [], [] => true
 | a :: r, b :: s => match Nat.beq a.toNat b.toNat with
  | true => byEq r s
  | false => false
 | _, _ => false
def byLt : List UInt8 → List UInt8 → Bool
 | _, [] => false
 | [], _ :: _ => true
 | a :: r, b :: s => match Nat.blt a.toNat b.toNat with
  | true => true
  | false => match Nat.beq a.toNat b.toNat with
   | true => byLt r s
   | false => false
def eqFs (f : TypeId → V → V → Option Bool) (C : Cx) (xs ys : List V) : List (Nat × TypeId) → Option Bool
 | [] => some true
 | (o, t) :: r => (partV C t xs o).bind fun a => (partV C t ys o).bind fun b => (f t a b).bind fun e => match e with
  | true => eqFs f C xs ys r
  | false => some false
def eqEs (f : V → V → Option Bool) (C : Cx) (t : TypeId) (n : Nat) : Nat → List V → List V → Option Bool
 | 0, _, _ => some true
 | k + 1, xs, ys => (partV C t xs 0).bind fun a => (partV C t ys 0).bind fun b => (f a b).bind fun e => match e with
  | true => eqEs f C t n k (dropF xs n) (dropF ys n)
  | false => some false
def bare (hp : Hp) (h : Nat) : Bool := match hp.getW h with
 | some (.cells _ _ _ false) => true
 | _ => false
def veq (C : Cx) (hp : Hp) : Nat → TypeId → V → V → Option Bool
 | 0, _, _, _ => none
 | d + 1, t, x, y => (tiV C t).bind fun ti => match ti.d, x, y with
  | .bool, .b a, .b b => some (a == b)
  | .int _, .i k a, .i k' b => match kindEq k k' with
   | true => some (intEq a b)
   | false => none
  | .str, .s a, .s b => some (byEq a b)
  | .ptr _, .p none, .p b => some b.isNone
  | .ptr _, .p (some _), .p none => some false
  | .ptr e, .p (some (h, o)), .p (some (h', o')) => (tiV C e).bind fun te => match Nat.beq te.size 0 with
   | true => none
   | false => match Nat.beq h h' with
    | true => some (Nat.beq o o')
    | false => match bare hp h && bare hp h' with
     | true => some false
     | false => none
  | .ifc, .ni, .ni => some true
  | .ifc, .ni, .ifc _ _ => some false
  | .ifc, .ifc _ _, .ni => some false
  | .ifc, .ifc t1 a, .ifc t2 b => match Nat.beq t1 t2 with
   | true => (tiV C t1).bind fun t1i => match t1i.eq with
    | true => veq C hp d t1 a b
    | false => none
   | false => some false
  | .st fs, .agg xs, .agg ys => match ti.eq with
   | true => eqFs (veq C hp d) C xs ys fs
   | false => none
  | .arr n e, .agg xs, .agg ys => (tiV C e).bind fun te => eqEs (veq C hp d e) C e te.size n xs ys
  | .sl _, .sl none _ _ _, .sl b _ _ _ => some b.isNone
  | .sl _, .sl (some _) _ _ _, .sl none _ _ _ => some false
  | .map _ _, .m none, .m b => some b.isNone
  | .map _ _, .m (some _), .m none => some false
  | .fn, .nf, .nf => some true
  | .fn, .nf, .fn _ _ _ => some false
  | .fn, .fn _ _ _, .nf => some false
  | _, _, _ => none
def isConstO : Operand → Bool
 | .const _ => true
 | _ => false
def veqOp (C : Cx) (hp : Hp) (t : TypeId) (x y : Operand) (a b : V) : Option Bool := match a, b with
 | .ni, .ni => match isConstO x || isConstO y with
  | true => veq C hp 30 t a b
  | false => none
 | .agg _, .agg _ => (tiV C t).bind fun ti => match ti.eq with
  | true => veq C hp 30 t a b
  | false => none
 | _, _ => veq C hp 30 t a b
def vint (op : BinOp) (k : IntKind) (x y : Int) : Option V := match op with
 | .add => some (.i k (k.wrap (x + y)))
 | .sub => some (.i k (k.wrap (x - y)))
 | .mul => some (.i k (k.wrap (x * y)))
 | .quo => match intEq y 0 with
  | true => none
  | false => some (.i k (k.wrap (x.tdiv y)))
 | .rem => match intEq y 0 with
  | true => none
  | false => some (.i k (x.tmod y))
 | .and => some (.i k (k.wrap (BitVec.ofInt k.bits x &&& BitVec.ofInt k.bits y).toNat))
 | .or => some (.i k (k.wrap (BitVec.ofInt k.bits x ||| BitVec.ofInt k.bits y).toNat))
 | .xor => some (.i k (k.wrap (BitVec.ofInt k.bits x ^^^ BitVec.ofInt k.bits y).toNat))
 | .andNot => some (.i k (k.wrap (BitVec.ofInt k.bits x &&& ~~~(BitVec.ofInt k.bits y)).toNat))
 | .eql => some (.b (intEq x y))
 | .neq => some (.b (!intEq x y))
 | .lss => some (.b (intLt x y))
 | .leq => some (.b (intLe x y))
 | .gtr => some (.b (intLt y x))
 | .geq => some (.b (intLe y x))
 | _ => none
def vshift (op : BinOp) (k : IntKind) (x y : Int) : Option V := (asNat y).bind fun n => match op with
 | .shl => some (.i k (k.wrap (x * 2 ^ min n k.bits)))
 | .shr => some (.i k (x.fdiv (2 ^ min n k.bits)))
 | _ => none
def vstr (op : BinOp) (x y : List UInt8) : Option V := match op with
 | .add => match Nat.ble (lenF x + lenF y) 150000000000000 with
  | true => some (.s (appF x y))
  | false => none
 | .eql => some (.b (byEq x y))
 | .neq => some (.b (!byEq x y))
 | .lss => some (.b (byLt x y))
 | .leq => some (.b (byLt x y || byEq x y))
 | .gtr => some (.b (!(byLt x y || byEq x y)))
 | .geq => some (.b (!byLt x y))
 | _ => none
def vbin (C : Cx) (hp : Hp) (op : BinOp) (t : TypeId) (x y : Operand) (a b : V) : Option V := match a, b with
 | .i k p, .i k' q => match op with
  | .shl => vshift .shl k p q
  | .shr => vshift .shr k p q
  | op => match kindEq k k' with
   | true => vint op k p q
   | false => none
 | .s p, .s q => vstr op p q
 | a, b => match op with
  | .eql => (veqOp C hp t x y a b).bind fun e => some (.b e)
  | .neq => (veqOp C hp t x y a b).bind fun e => some (.b (!e))
  | _ => none
def vun (op : UnOp) (x : V) : Option V := match op, x with
 | .neg, .i k n => some (.i k (k.wrap (0 - n)))
 | .xor, .i k n => vint .xor k (match k.signed with | true => -1 | false => k.max) n
 | .not, .b a => some (.b (!a))
 | _, _ => none
def byV (n : UInt8) : V := .i .u8 (.ofNat n.toNat)
def asBy : V → Option UInt8
 | .i .u8 (.ofNat n) => some (UInt8.ofNat n)
 | _ => none
def vconv (C : Cx) (hp : Hp) (s t : TypeId) (x : V) : Option (V × Hp) :=
 (tiV C s).bind fun si => (tiV C t).bind fun ti => match si.d, ti.d, x with
  | _, .int k, .i _ n => some (.i k (k.wrap n), hp)
  | _, .str, .s a => some (.s a, hp)
  | .str, .sl e, .s a => (tiV C e).bind fun ei => match ei.d with
   | .int .u8 => (hp.new (.cells (a.map byV) e (some 1) true)).bind fun r => some (.sl (some (r.1, 0)) (lenF a) (lenF a) true, r.2)
   | _ => none
  | .sl _, .sl e, .sl (some (h, o)) l c op => match Nat.beq s t with
   | true => (tiV C e).bind fun ei => match ei.d with
    | .int .u8 => match hp.getW h with
     | some (.cells cs t' op' _) => some (x, hp.put h (some (.cells cs t' op' true)))
     | _ => none
    | _ => none
   | false => none
  | .ptr e, .usf, .p (some (h, o)) => (tiV C e).bind fun ei => match Nat.beq ei.size 0 with
   | true => none
   | false => (cellsAt hp h).bind fun cs => (getL cs o).bind fun _ => some (x, hp)
  | .sl e, .str, .sl a l _ _ => (tiV C e).bind fun ei => match ei.d with
   | .int .u8 => match a with
    | none => some (.s [], hp)
    | some (h, o) => (loadV hp h o l).bind fun cs => (mapO asBy cs).bind fun bs => some (.s bs, hp)
   | _ => none
  | _, _, _ => none
def lenV (hp : Hp) : TD → V → Option Nat
 | .str, .s a => some (lenF a)
 | .sl _, .sl _ n _ _ => some n
 | .arr n _, _ => some n
 | .map _ _, .m none => some 0
 | .map _ _, .m (some r) => match hp.get r with
  | some (.map es _) => some (lenF es)
  | _ => none
 | _, _ => none
def srcV (hp : Hp) (sz : Nat) : V → Option (Nat × List V)
 | .sl none n _ _ => match n with
  | 0 => some (0, [])
  | _ => none
 | .sl (some (h, o)) n _ _ => (loadV hp h o (n * sz)).bind fun cs => some (n, cs)
 | .s a => match Nat.beq sz 1 with
  | true => some (lenF a, a.map byV)
  | false => none
 | _ => none
def growB (k b : Nat) : Bool := Nat.ble k 220000000000000 && Nat.ble (k * b) 220000000000000 && Nat.ble b 100000
def vappend (C : Cx) (hp : Hp) (tS : TypeId) (s x : V) : Option (V × Hp) :=
 (tiV C tS).bind fun si => match si.d, s with
  | .sl e, .sl base l c op => (tiV C e).bind fun ei => (srcV hp ei.size x).bind fun nx =>
   let n := nx.1
   let new := nx.2
   match Nat.ble (l + n) c with
   | true => match base with
    | none => match n with
     | 0 => some (.sl none (l + n) c op, hp)
     | _ => none
    | some (h, o) => (storeV hp h (o + l * ei.size) new).bind fun hp' => some (.sl base (l + n) c op, hp')
   | false => match growB (l + n) ei.bytes && Nat.ble 1 ei.size && ei.z.isSome with
    | false => none
    | true => match base, op with
     | none, _ => match l with
      | 0 => (hp.new (.cells new e (some ei.size) false)).bind fun r => some (.sl (some (r.1, 0)) (0 + n) (0 + n) true, r.2)
      | _ => none
     | some (h, o), false => (loadV hp h o (l * ei.size)).bind fun old =>
      (hp.new (.cells (appF old new) e (some ei.size) false)).bind fun r => some (.sl (some (r.1, 0)) (l + n) (l + n) true, r.2)
     | some (h, o), true => match hp.getW h with
      | some (.cells cs t (some sz) mk) => match Nat.beq (o + c * ei.size) (lenF cs) && Nat.beq t e && Nat.beq sz ei.size with
       | true => (cutL cs o (l * ei.size)).bind fun old =>
        ((hp.put h none).new (.cells (appF old new) e (some ei.size) mk)).bind fun r => some (.sl (some (r.1, 0)) (l + n) (l + n) true, r.2)
       | false => none
      | _ => none
  | _, _ => none
def vcopy (C : Cx) (hp : Hp) (tD : TypeId) (d x : V) : Option (V × Hp) :=
 (tiV C tD).bind fun di => match di.d, d with
  | .sl e, .sl base l _ _ => (tiV C e).bind fun ei => (srcV hp ei.size x).bind fun nx =>
   let n := min nx.1 l
   match base with
   | none => some (.i .i64 n, hp)
   | some (h, o) => (storeV hp h o (takeF nx.2 (n * ei.size))).bind fun hp' => some (.i .i64 n, hp')
  | _, _ => none
def vmm (mx : Bool) (x y : V) : Option V := match x, y with
 | .i k a, .i _ b => some (.i k (match mx with
  | true => (match intLt a b with | true => b | false => a)
  | false => (match intLt b a with | true => b | false => a)))
 | _, _ => none
def foldO {α β : Type} (f : β → α → Option β) : List α → β → Option β
 | [], b => some b
 | x :: r, b => (f b x).bind fun b => foldO f r b
def findV (f : V → V → Option Bool) (k : V) : List (V × V × Nat) → Nat → Option (Option (Nat × V))
 | [], _ => some none
 | e :: es, i => (f k e.1).bind fun q => match q with
  | true => some (some (i, e.2.1))
  | false => findV f k es (i + 1)
def keyFit (C : Cx) (kt : TypeId) (k : V) : Bool := match tiV C kt with
 | some ti => match ti.d, k with
  | .int _, _ => true
  | .str, _ => true
  | .arr n e, .agg cs => match tiV C e with
   | some ei => match ei.d with
    | .int _ => Nat.beq ei.size 1 && Nat.beq (lenF cs) n
    | _ => false
   | none => false
  | _, _ => false
 | none => false
def mapEq (C : Cx) (hp : Hp) (kt : TypeId) (x y : V) : Option Bool := match x, y with
 | .agg xs, .agg ys => (tiV C kt).bind fun ti => match ti.d with
  | .arr n _ => match Nat.beq (lenF xs) n && Nat.beq (lenF ys) n with
   | true => veq C hp 3 kt x y
   | false => none
  | _ => none
 | x, y => veq C hp 3 kt x y
def vlookup (C : Cx) (hp : Hp) (t : TypeId) (m k : V) (ok : Bool) : Option V :=
 (tiV C t).bind fun ti => match ti.d with
  | .map kt et => match keyFit C kt k with
   | true => (match m with
    | .m none => some []
    | .m (some r) => (match hp.get r with
     | some (.map es _) => some es
     | _ => none)
    | _ => none).bind fun es => (findV (mapEq C hp kt) k es 0).bind fun q => (match q with
     | some iv => some (iv.2, true)
     | none => (tiV C et).bind fun ei => ei.z.bind fun z => some (z, false)).bind fun r => match ok with
      | true => some (.tup [r.1, .b r.2])
      | false => some r.1
   | false => none
  | _ => none
def modL {α : Type} (f : α → α) : List α → Nat → List α
 | [], _ => []
 | x :: r, n => match n with
  | 0 => f x :: r
  | n + 1 => x :: modL f r n
def vmapup (C : Cx) (hp : Hp) (t : TypeId) (m k v : V) : Option Hp :=
 (tiV C t).bind fun ti => match ti.d with
  | .map kt _ => match keyFit C kt k, m with
   | true, .m (some r) => match hp.getW r with
    | some (.map es clock) => (findV (mapEq C hp kt) k es 0).bind fun q => match q with
     | some iv => some (hp.put r (some (.map (modL (fun e => (k, v, e.2.2)) es iv.1) clock)))
     | none => some (hp.put r (some (.map (es ++ [(k, v, clock)]) (clock + 1))))
    | _ => none
   | _, _ => none
  | _ => none
def vmapentry (C : Cx) (hp : Hp) (t : TypeId) (m k : V) : Option (V × Hp) :=
 (tiV C t).bind fun ti => match ti.d with
  | .map kt et => match keyFit C kt k, m with
   | true, .m (some r) => match hp.getW r with
    | some (.map es clock) => (findV (mapEq C hp kt) k es 0).bind fun q => match q with
     | some iv => (getL es iv.1).bind fun e => some (.tup [iv.2, .i .i64 (.ofNat e.2.2)], hp.put r (some (.map (modL (fun e => (k, e.2)) es iv.1) clock)))
     | none => (tiV C et).bind fun ei => ei.z.bind fun z => some (.tup [z, .i .i64 (.ofNat clock)], hp.put r (some (.map (es ++ [(k, z, clock)]) (clock + 1))))
    | _ => none
   | _, _ => none
  | _ => none
def putBorn (n : Nat) (v : V) : List (V × V × Nat) → Option (List (V × V × Nat))
 | [] => none
 | e :: r => match Nat.beq e.2.2 n with
  | true => some ((e.1, v, e.2.2) :: r)
  | false => (putBorn n v r).bind fun r => some (e :: r)
def ventryst (hp : Hp) (m st v : V) : Option Hp := match m with
 | .m (some r) => match hp.getW r with
  | some (.map es clock) => (natV st).bind fun n => (putBorn n v es).bind fun es => some (hp.put r (some (.map es clock)))
  | _ => none
 | _ => none
def eraseL {α : Type} : List α → Nat → List α
 | [], _ => []
 | x :: r, n => match n with
  | 0 => r
  | n + 1 => x :: eraseL r n
def vdelete (C : Cx) (hp : Hp) (t : TypeId) (m k : V) : Option Hp :=
 (tiV C t).bind fun ti => match ti.d with
  | .map kt _ => match keyFit C kt k, m with
   | true, .m none => some hp
   | true, .m (some r) => match hp.getW r with
    | some (.map es clock) => (findV (mapEq C hp kt) k es 0).bind fun q => match q with
     | some iv => some (hp.put r (some (.map (eraseL es iv.1) clock)))
     | none => some (hp.put r (some (.map es clock)))
    | _ => none
   | _, _ => none
  | _ => none
def memN (n : Nat) : List Nat → Bool
 | [] => false
 | x :: r => match Nat.beq x n with
  | true => true
  | false => memN n r
def vnext (hp : Hp) (it : V) : Option (V × Hp) := match it with
 | .p (some (r, 0)) => match hp.getW r with
  | some (.iter none _ _ _) => some (.tup [.b false], hp)
  | some (.iter (some m) since seen last) => match hp.get m with
   | some (.map es clock) => match !seen.isEmpty && !es.isEmpty && es.all (fun e => Nat.ble last e.2.2) with
    | true => none
    | false => match es.filter (fun e => !memN e.2.2 seen) with
     | [] => some (.tup [.b false], hp)
     | [e] => match Nat.blt e.2.2 since with
      | true => some (.tup [.b true, e.1, e.2.1], hp.put r (some (.iter (some m) since (seen ++ [e.2.2]) clock)))
      | false => none
     | _ => none
   | _ => none
  | _ => none
 | _ => none
def lastN : List Nat → Option Nat
 | [] => none
 | x :: r => match r with
  | [] => some x
  | _ => lastN r
def findBorn (n : Nat) : List (V × V × Nat) → Option (V × V × Nat)
 | [] => none
 | e :: r => match Nat.beq e.2.2 n with
  | true => some e
  | false => findBorn n r
def ventry (hp : Hp) (it : V) : Option V := match it with
 | .p (some (r, 0)) => match hp.get r with
  | some (.iter (some m) _ seen last) => (lastN seen).bind fun stamp => match hp.get m with
   | some (.map es clock) => match Nat.beq clock last with
    | true => (findBorn stamp es).bind fun e => some (.tup [e.1, e.2.1])
    | false => none
   | _ => none
  | _ => none
 | _ => none
def leO : Nat → Nat → Option Unit := fun a b => match Nat.ble a b with
 | true => some ()
 | false => none
def boundV (fr : Tr V) (x : Option Operand) (dflt : Nat) : Option Nat := match x with
 | none => some dflt
 | some x => (evV fr x).bind natV
def offV (m l o s : Nat) : Nat := match Nat.beq m l with
 | true => o
 | false => o + l * s
def vslice (C : Cx) (hp : Hp) (fr : Tr V) (t : TypeId) (x : V) (lo hi mx : Option Operand) : Option V :=
 (tiV C t).bind fun ti => (boundV fr lo 0).bind fun l => match ti.d, x with
  | .str, .s a => match mx with
   | none => (boundV fr hi (lenF a)).bind fun h => (leO h (lenF a)).bind fun _ => (leO l h).bind fun _ => some (.s (takeF (dropF a l) (h - l)))
   | some _ => none
  | .sl e, .sl a len c op => (tiV C e).bind fun ei => (boundV fr hi len).bind fun h => match mx with
   | none => (leO h c).bind fun _ => (leO l h).bind fun _ => match a with
    | none => some (.sl none (h - l) (c - l) op)
    | some (b, o) => match op with
     | false => some (.sl (some (b, offV c l o ei.size)) (h - l) (c - l) false)
     | true => match Nat.beq l 0, Nat.beq c l with
      | true, _ => some (.sl (some (b, o)) h c true)
      | false, false => some (.sl (some (b, o + l * ei.size)) (h - l) (c - l) true)
      | false, true => none
   | some m => (boundV fr (some m) 0).bind fun m => match hi with
    | none => none
    | some _ => (leO m c).bind fun _ => (leO h m).bind fun _ => (leO l h).bind fun _ => match a with
     | none => some (.sl none (h - l) (m - l) false)
     | some (b, o) => some (.sl (some (b, offV m l o ei.size)) (h - l) (m - l) false)
  | .arr n e, .p (some (b, o)) => match mx with
   | none => (tiV C e).bind fun ei => (boundV fr hi n).bind fun h => (leO h n).bind fun _ => (leO l h).bind fun _ => match wkB b with
    | true => none
    | false => some (.sl (some (b, offV n l o ei.size)) (h - l) (n - l) false)
   | some _ => none
  | _, _ => none
def vslEnd (C : Cx) (hp : Hp) (fr : Tr V) (t : TypeId) (x : V) (lo hi mx : Option Operand) : Option (V × Hp) :=
 (tiV C t).bind fun ti => (boundV fr lo 0).bind fun l => match ti.d, x, mx with
  | .sl e, .sl (some _) len c true, none => (tiV C e).bind fun _ => (boundV fr hi len).bind fun h => match Nat.beq l c && Nat.beq h c && Nat.blt 0 l && Nat.beq (Nat.mod hp.nx 2) 0 && Nat.ble gMax hp.nx with
   | true => some (.sl (some (hp.nx, 0)) 0 0 true, ⟨hp.t, hp.nx + 2, hp.log⟩)
   | false => none
  | _, _, _ => none
def fillV (fr : Tr V) (place : Nat → Option (Nat × Nat)) : List V → List (Nat × Operand) → Option (List V)
 | cs, [] => some cs
 | cs, (i, x) :: r => (evV fr x).bind fun v => v.cells.bind fun vc => (place i).bind fun p => match Nat.beq (lenF vc) p.2 && geL cs (p.1 + p.2) with
  | true => fillV fr place (putAt p.1 cs vc) r
  | false => none
def vbuild (C : Cx) (fr : Tr V) (t : TypeId) (parts : List (Nat × Operand)) : Option V :=
 (tiV C t).bind fun ti => ti.z.bind fun z => match ti.d, z with
  | .st fs, .agg cs => (mapO (fun f => (tiV C f.2).bind fun fi => some (f.1, fi.size)) fs).bind fun ps => (fillV fr (fun i => getL ps i) cs parts).bind fun l => some (.agg l)
  | .arr _ e, .agg cs => (tiV C e).bind fun ei => (fillV fr (fun i => some (i * ei.size, ei.size)) cs parts).bind fun l => some (.agg l)
  | _, _ => none
def vbuildS (C : Cx) (hp : Hp) (fr : Tr V) (t : TypeId) (len : Nat) (parts : List (Nat × Operand)) : Option (V × Hp) :=
 (tiV C t).bind fun ti => match ti.d with
  | .sl e => (tiV C e).bind fun ei => ei.z.bind fun z => z.cells.bind fun zc => match Nat.ble (len * ei.size) 16777216 with
   | true => (fillV fr (fun i => some (i * ei.size, ei.size)) (repL zc len) parts).bind fun cs =>
    (hp.new (.cells cs e none false)).bind fun r => some (.sl (some (r.1, 0)) len len false, r.2)
   | false => none
  | _ => none
def vmakeS (C : Cx) (hp : Hp) (t : TypeId) (l c : Nat) : Option (V × Hp) :=
 (tiV C t).bind fun ti => match ti.d with
  | .sl e => (tiV C e).bind fun ei => ei.z.bind fun z => z.cells.bind fun zc => match Nat.ble l c && growB c ei.bytes with
   | true => (hp.new (.cells (repL zc c) e none false)).bind fun r => some (.sl (some (r.1, 0)) l c false, r.2)
   | false => none
  | _ => none
def vindexA (C : Cx) (t : TypeId) (x i : V) : Option V :=
 (tiV C t).bind fun ti => (natV i).bind fun n => match ti.d, x with
  | .arr len e, .p (some (b, o)) => (tiV C e).bind fun ei => match Nat.blt n len with
   | true => some (.p (some (b, o + n * ei.size)))
   | false => none
  | .sl e, .sl (some (b, o)) len _ _ => (tiV C e).bind fun ei => match Nat.blt n len with
   | true => some (.p (some (b, o + n * ei.size)))
   | false => none
  | _, _ => none
def vindex (C : Cx) (t : TypeId) (x i : V) : Option V :=
 (tiV C t).bind fun ti => (natV i).bind fun n => match ti.d, x with
  | .arr len e, .agg cs => (tiV C e).bind fun ei => match Nat.blt n len with
   | true => partV C e cs (n * ei.size)
   | false => none
  | .str, .s a => (getL a n).bind fun c => some (byV c)
  | _, _ => none
inductive VR where
 | v (x : V)
 | pan (x : V)
abbrev CallF := Nat → List V → Hp → Option (VR × Hp)
def undV : V := .tup []
def ret1 (hp : Hp) (v : Option V) : Option (VR × Hp) := v.bind fun v => some (.v v, hp)
def ret2 (r : Option (V × Hp)) : Option (VR × Hp) := r.bind fun r => some (.v r.1, r.2)
def ret0 (r : Option Hp) : Option (VR × Hp) := r.bind fun hp => some (.v undV, hp)
def pPick (fr : Tr V) (c a b : Operand) : Option V := (evV fr c).bind fun q => match q with
 | .b true => evV fr a
 | .b false => evV fr b
 | _ => none
def pNil (fr : Tr V) (x : Operand) : Option V := (evV fr x).bind fun v => match v with
 | .p (some _) => some v
 | .ifc _ _ => some v
 | .fn _ _ _ => some v
 | _ => none
def pUn (fr : Tr V) (op : UnOp) (x : Operand) : Option V := (evV fr x).bind fun v => vun op v
def pArr (C : Cx) (fr : Tr V) (t : TypeId) (x : Operand) : Option V := (tiV C t).bind fun ti => (evV fr x).bind fun v => match ti.d, v with
 | .arr n _, .sl a len _ _ => match Nat.ble n len && Nat.ble 1 n with
  | true => some (.p a)
  | false => none
 | _, _ => none
def pMkIf (C : Cx) (fr : Tr V) (t : TypeId) (x : Operand) : Option V := (tiV C t).bind fun ti => match ti.d with
 | .ifc => none
 | _ => (evV fr x).bind fun v => some (.ifc t v)
def pMkFn (fr : Tr V) (fn : Fn) (first cap : Array Operand) : Option V := match fn with
 | .func f => (mapO (evV fr) first.toList).bind fun a => (mapO (evV fr) cap.toList).bind fun b => some (.fn f a b)
 | _ => none
def pFa (C : Cx) (fr : Tr V) (t : TypeId) (x : Operand) (f : Nat) : Option V := (tiV C t).bind fun ti => match ti.d with
 | .st fs => (getL fs f).bind fun fo => (tiV C fo.2).bind fun fi => match Nat.beq fi.size 0 with
  | true => none
  | false => ((evV fr x).bind ptrV).bind fun a => some (.p (some (a.1, a.2 + fo.1)))
 | _ => none
def pFld (C : Cx) (fr : Tr V) (t : TypeId) (x : Operand) (f : Nat) : Option V := (tiV C t).bind fun ti => match ti.d with
 | .st fs => (getL fs f).bind fun fo => (evV fr x).bind fun v => match v with
  | .agg cs => partV C fo.2 cs fo.1
  | _ => none
 | _ => none
def pIa (C : Cx) (fr : Tr V) (t : TypeId) (x i : Operand) : Option V := (evV fr x).bind fun a => (evV fr i).bind fun n => vindexA C t a n
def pIx (C : Cx) (fr : Tr V) (t : TypeId) (x i : Operand) : Option V := (evV fr x).bind fun a => (evV fr i).bind fun n => vindex C t a n
def pExt (fr : Tr V) (x : Operand) (i : Nat) : Option V := (evV fr x).bind fun v => match v with
 | .tup vs => getL vs i
 | _ => none
def pTa (C : Cx) (fr : Tr V) (x : Operand) (t : TypeId) (ok : Bool) : Option V := (tiV C t).bind fun ti => match ti.d with
 | .ifc => none
 | _ => (evV fr x).bind fun v => match v with
  | .ifc u y => match Nat.beq u t, ok with
   | true, true => some (.tup [y, .b true])
   | true, false => some y
   | false, true => ti.z.bind fun z => some (.tup [z, .b false])
   | false, false => none
  | .ni => match ok with
   | true => ti.z.bind fun z => some (.tup [z, .b false])
   | false => none
  | _ => none
def vpure (C : Cx) (fr : Tr V) : Op → Option V
 | .move x => evV fr x
 | .assign x => evV fr x
 | .pick c a b => pPick fr c a b
 | .build t parts => vbuild C fr t parts.toList
 | .nilCheck x => pNil fr x
 | .unOp op _ x => pUn fr op x
 | .sliceToArrayPointer t x => pArr C fr t x
 | .makeInterface t x => pMkIf C fr t x
 | .makeFunc fn first cap => pMkFn fr fn first cap
 | .fieldAddr t x f => pFa C fr t x f
 | .field t x f => pFld C fr t x f
 | .indexAddr t x i => pIa C fr t x i
 | .index t x i => pIx C fr t x i
 | .extract x i => pExt fr x i
 | .typeAssert x _ t ok => pTa C fr x t ok
 | _ => none
def isPure : Op → Bool
 | .move _ | .assign _ | .pick .. | .build .. | .nilCheck _ | .unOp .. | .sliceToArrayPointer .. | .makeInterface .. | .makeFunc .. | .fieldAddr .. | .field .. | .indexAddr .. | .index .. | .extract .. | .typeAssert .. => true
 | _ => false
def srcT (C : Cx) (t : TypeId) : Bool := match tiV C t with
 | some ti => match ti.d with
  | .sl _ => true
  | .str => true
  | _ => false
 | none => false
def vbuiltin (C : Cx) (hp : Hp) (b : Builtin) (ts : List TypeId) (args : List V) : Option (VR × Hp) := match b, ts, args with
 | .append, [tS, tX], [s, x] => match srcT C tX with
  | true => ret2 (vappend C hp tS s x)
  | false => none
 | .len, t :: _, [x] => (tiV C t).bind fun ti => ret1 hp ((lenV hp ti.d x).bind fun n => some (.i .i64 n))
 | .copy, t :: _, [d, x] => ret2 (vcopy C hp t d x)
 | .delete, t :: _, [m, k] => (vdelete C hp t m k).bind fun hp' => some (.v (.tup []), hp')
 | .max, _, x :: r => ret1 hp (foldO (vmm true) r x)
 | .min, _, x :: r => ret1 hp (foldO (vmm false) r x)
 | _, _, _ => none
def oAlloc (C : Cx) (hp : Hp) (t : TypeId) : Option (VR × Hp) := (tiV C t).bind fun ti => ti.z.bind fun z => z.cells.bind fun zc => ret2 ((hp.new (.cells zc t none false)).bind fun r => some (.p (some (r.1, 0)), r.2))
def oBox (fr : Tr V) (hp : Hp) (t : TypeId) (x : Operand) : Option (VR × Hp) := (evV fr x).bind fun v => v.cells.bind fun vc => ret2 ((hp.new (.cells vc t none false)).bind fun r => some (.p (some (r.1, 0)), r.2))
def oLoad (C : Cx) (fr : Tr V) (hp : Hp) (t : TypeId) (x : Operand) : Option (VR × Hp) := ((evV fr x).bind ptrV).bind fun a => (cellsAt hp a.1).bind fun cs => ret1 hp (partV C t cs a.2)
def oStore (C : Cx) (fr : Tr V) (hp : Hp) (t : TypeId) (x y : Operand) : Option (VR × Hp) := ((evV fr x).bind ptrV).bind fun a => (evV fr y).bind fun v => v.cells.bind fun vc => (tiV C t).bind fun ti => match Nat.beq (lenF vc) ti.size with
 | true => ret0 (storeV hp a.1 a.2 vc)
 | false => none
def oBin (C : Cx) (fr : Tr V) (hp : Hp) (op : BinOp) (t : TypeId) (x y : Operand) : Option (VR × Hp) := (evV fr x).bind fun a => (evV fr y).bind fun b => ret1 hp (vbin C hp op t x y a b)
def oConv (C : Cx) (fr : Tr V) (hp : Hp) (s t : TypeId) (x : Operand) : Option (VR × Hp) := (evV fr x).bind fun v => ret2 (vconv C hp s t v)
def oMkMap (C : Cx) (fr : Tr V) (hp : Hp) (t : TypeId) (r : Option Operand) : Option (VR × Hp) := (match r with
 | none => some ()
 | some x => (evV fr x).bind fun v => (intV? v).bind fun _ => (tiV C t).bind fun ti => match ti.d with
  | .map _ _ => some ()
  | _ => none).bind fun _ => ret2 ((hp.new (.map [] 0)).bind fun r => some (.m (some r.1), r.2))
def oMkSl (C : Cx) (fr : Tr V) (hp : Hp) (t : TypeId) (l c : Operand) : Option (VR × Hp) := ((evV fr l).bind natV).bind fun l => ((evV fr c).bind natV).bind fun c => ret2 (vmakeS C hp t l c)
def oSlice (C : Cx) (fr : Tr V) (hp : Hp) (t : TypeId) (x : Operand) (lo hi mx : Option Operand) : Option (VR × Hp) := (evV fr x).bind fun v => match vslice C hp fr t v lo hi mx with
 | some y => some (.v y, hp)
 | none => ret2 (vslEnd C hp fr t v lo hi mx)
def oLookup (C : Cx) (fr : Tr V) (hp : Hp) (t : TypeId) (x k : Operand) (ok : Bool) : Option (VR × Hp) := (evV fr x).bind fun m => (evV fr k).bind fun k => ret1 hp (vlookup C hp t m k ok)
def oMapup (C : Cx) (fr : Tr V) (hp : Hp) (t : TypeId) (m k x : Operand) : Option (VR × Hp) := (evV fr m).bind fun m => (evV fr k).bind fun k => (evV fr x).bind fun x => ret0 (vmapup C hp t m k x)
def oEntry (C : Cx) (fr : Tr V) (hp : Hp) (t : TypeId) (m k : Operand) : Option (VR × Hp) := (evV fr m).bind fun m => (evV fr k).bind fun k => ret2 (vmapentry C hp t m k)
def oEntrySt (fr : Tr V) (hp : Hp) (m st x : Operand) : Option (VR × Hp) := (evV fr m).bind fun m => (evV fr st).bind fun st => (evV fr x).bind fun x => ret0 (ventryst hp m st x)
def oRange (C : Cx) (fr : Tr V) (hp : Hp) (t : TypeId) (x : Operand) : Option (VR × Hp) := (tiV C t).bind fun ti => (evV fr x).bind fun v => match ti.d, v with
 | .map _ _, .m none => ret2 ((hp.new (.iter none 0 [] 0)).bind fun r => some (.p (some (r.1, 0)), r.2))
 | .map _ _, .m (some m) => match hp.get m with
  | some (.map _ clock) => ret2 ((hp.new (.iter (some m) clock [] clock)).bind fun r => some (.p (some (r.1, 0)), r.2))
  | _ => none
 | _, _ => none
def oNext (fr : Tr V) (hp : Hp) (it : Operand) (isStr : Bool) : Option (VR × Hp) := match isStr with
 | true => none
 | false => (evV fr it).bind fun v => ret2 (vnext hp v)
def oIter (fr : Tr V) (hp : Hp) (it : Operand) : Option (VR × Hp) := (evV fr it).bind fun v => ret1 hp (ventry hp v)
def oPanic (fr : Tr V) (hp : Hp) (x : Operand) : Option (VR × Hp) := (evV fr x).bind fun v => match v with
 | .ifc _ _ => some (.pan v, hp)
 | _ => none
def oCall (C : Cx) (call : CallF) (fr : Tr V) (hp : Hp) (c : Call) : Option (VR × Hp) := match c.callee with
 | .builtin b => (mapO (evV fr) c.args.toList).bind fun args => vbuiltin C hp b c.argTypes.toList args
 | .value f => (evV fr f).bind fun f => (mapO (evV fr) c.args.toList).bind fun args => match f with
  | .fn f first cap => call f (appF first (appF args cap)) hp
  | _ => none
 | .invoke r name => (evV fr r).bind fun r => (mapO (evV fr) c.args.toList).bind fun args => match r with
  | .ifc t v => (C.M t name).bind fun f => call f (v :: args) hp
  | _ => none
def vop (C : Cx) (call : CallF) (fr : Tr V) (hp : Hp) (o : Op) : Option (VR × Hp) := match o with
 | .move x => ret1 hp (evV fr x)
 | .assign x => ret1 hp (evV fr x)
 | .pick c a b => ret1 hp (pPick fr c a b)
 | .build t parts => ret1 hp (vbuild C fr t parts.toList)
 | .nilCheck x => ret1 hp (pNil fr x)
 | .unOp op _ x => ret1 hp (pUn fr op x)
 | .sliceToArrayPointer t x => ret1 hp (pArr C fr t x)
 | .makeInterface t x => ret1 hp (pMkIf C fr t x)
 | .makeFunc fn first cap => ret1 hp (pMkFn fr fn first cap)
 | .fieldAddr t x f => ret1 hp (pFa C fr t x f)
 | .field t x f => ret1 hp (pFld C fr t x f)
 | .indexAddr t x i => ret1 hp (pIa C fr t x i)
 | .index t x i => ret1 hp (pIx C fr t x i)
 | .extract x i => ret1 hp (pExt fr x i)
 | .typeAssert x _ t ok => ret1 hp (pTa C fr x t ok)
 | .alloc t => oAlloc C hp t
 | .box t x => oBox fr hp t x
 | .buildSlice t len parts => ret2 (vbuildS C hp fr t len parts.toList)
 | .load t x => oLoad C fr hp t x
 | .store t x y => oStore C fr hp t x y
 | .binOp op t x y _ => oBin C fr hp op t x y
 | .convert s t x => oConv C fr hp s t x
 | .makeMap t r => oMkMap C fr hp t r
 | .makeSlice t l c => oMkSl C fr hp t l c
 | .slice t x lo hi mx => oSlice C fr hp t x lo hi mx
 | .lookup t x k ok => oLookup C fr hp t x k ok
 | .mapUpdate t m k x => oMapup C fr hp t m k x
 | .insert t m k x => oMapup C fr hp t m k x
 | .mapEntry t m k => oEntry C fr hp t m k
 | .entryStore _ m st x => oEntrySt fr hp m st x
 | .range t x => oRange C fr hp t x
 | .next it isStr => oNext fr hp it isStr
 | .entry it => oIter fr hp it
 | .panic x => oPanic fr hp x
 | .call c => oCall C call fr hp c
 | _ => none
structure Sv where
 fr : Tr V
 df : List (Nat × List V)
 hp : Hp
 n : Nat
def wantV (ops : List Oper) (fr : Tr V) (o : Oper) : Option Bool := match o.guard with
 | none => some true
 | some (j, t) => (getL ops j).bind fun oj => oj.dst.bind fun d => (fr.get d).bind fun v => match v with
  | .b x => some (x == t)
  | .tup [] => some false
  | _ => none
def setD (n : Nat) (fr : Tr V) (d : Option Tmp) (v : V) : Option (Tr V) := match d with
 | none => some fr
 | some d => match Nat.blt d n with
  | true => some (fr.set d (some v))
  | false => none
def vdefer (s : Sv) (c : Call) : Option (Nat × List V) := match c.callee with
 | .value f => (evV s.fr f).bind fun f => (mapO (evV s.fr) c.args.toList).bind fun args => match f with
  | .fn f first cap => some (f, appF first (appF args cap))
  | _ => none
 | _ => none
def vlist (C : Cx) (call : CallF) (ops : List Oper) : List Oper → Sv → Option (Option V × Sv)
 | [], s => some (none, s)
 | o :: r, s => (wantV ops s.fr o).bind fun w => match w with
  | false => (setD s.n s.fr o.dst undV).bind fun fr => vlist C call ops r ⟨fr, s.df, s.hp, s.n⟩
  | true => match o.op with
   | .defer c => (vdefer s c).bind fun d => (setD s.n s.fr o.dst undV).bind fun fr => vlist C call ops r ⟨fr, d :: s.df, s.hp, s.n⟩
   | op => (vop C call s.fr s.hp op).bind fun q => match q.1 with
    | .v x => (setD s.n s.fr o.dst x).bind fun fr => vlist C call ops r ⟨fr, s.df, q.2, s.n⟩
    | .pan x => some (some x, ⟨s.fr, s.df, q.2, s.n⟩)
def maskOf (pres : Tr Nat) (i : Nat) : Nat := match pres.get i with
 | some m => m
 | none => 0
def preMask (pres : Tr Nat) : List Edge → Nat → Nat
 | [], m => m
 | e :: r, m => match Region.binds .any e with
  | true => preMask pres r (m ||| (1 <<< e.on) ||| maskOf pres e.on)
  | false => preMask pres r m
def preAll : List Oper → Nat → Tr Nat → Tr Nat
 | [], _, acc => acc
 | o :: r, i, acc => preAll r (i + 1) (acc.set i (some (preMask acc o.after.toList 0)))
def bitOf (m i : Nat) : Bool := Nat.beq (Nat.mod (m >>> i) 2) 1
def maskLe (a b : Nat) : Bool := Nat.beq (a ||| b) b
def sameTmp : Option Tmp → Operand → Bool
 | some d, .tmp t => Nat.beq d t
 | _, _ => false
def sameDst : Option Tmp → Option Tmp → Bool
 | some d, some t => Nat.beq d t
 | _, _ => false
def anyL {α : Type} (f : α → Bool) : List α → Bool
 | [] => false
 | x :: r => match f x with
  | true => true
  | false => anyL f r
def allL {α : Type} (f : α → Bool) : List α → Bool
 | [] => true
 | x :: r => match f x with
  | true => allL f r
  | false => false
def guardT (ops : List Oper) (o : Oper) : Option Tmp := match o.guard with
 | none => none
 | some (j, _) => (getL ops j).bind fun x => x.dst
def apartB (ops : List Oper) (pres : Tr Nat) (i : Nat) (x : Oper) (j : Nat) (y : Oper) : Bool := match bitOf (maskOf pres j) i with
 | true => true
 | false => match sameDst x.dst y.dst || anyL (sameTmp x.dst) y.op.operands.toList || anyL (sameTmp y.dst) x.op.operands.toList || sameDst x.dst (guardT ops y) || sameDst y.dst (guardT ops x) with
  | true => false
  | false => true
def apartAll (ops : List Oper) (pres : Tr Nat) : List Oper → Nat → List (Nat × Oper) → Bool
 | [], _, _ => true
 | y :: r, j, done => match allL (fun x => apartB ops pres x.1 x.2 j y) done with
  | true => apartAll ops pres r (j + 1) ((j, y) :: done)
  | false => false
def edgeB (pres : Tr Nat) (o : Oper) (i : Nat) : Bool := allL (fun e => match Region.binds .any e with | true => Nat.blt e.on i | false => true) o.after.toList
def guardB (pres : Tr Nat) (o : Oper) (i : Nat) : Bool := match o.guard with
 | none => true
 | some (j, _) => bitOf (maskOf pres i) j && Nat.blt j i
def plainB (o : Oper) : Bool := match o.op with
 | .select _ _ => false
 | .defer _ => false
 | _ => true
def edgesOk (pres : Tr Nat) : List Oper → Nat → Bool
 | [], _ => true
 | o :: r, i => match edgeB pres o i && guardB pres o i && plainB o && Nat.blt i 1000000 with
  | true => edgesOk pres r (i + 1)
  | false => false
structure Dn where
 ix : Nat
 log : List (Nat × Option VO)
def logSince (hp : Hp) : List Nat → List (Nat × Option VO)
 | [] => []
 | x :: r => (x, hp.get x) :: logSince hp r
def playLog (t : Tr VO) : List (Nat × Option VO) → Tr VO
 | [] => t
 | (x, o) :: r => (playLog t r).set x o
def playDn (t : Tr VO) (m : Nat) : List Dn → Tr VO
 | [] => t
 | d :: r => match bitOf m d.ix with
  | true => playLog (playDn t m r) d.log
  | false => playDn t m r
def dropLog (t : Tr VO) : List (Nat × Option VO) → Tr VO
 | [] => t
 | (x, _) :: r => (dropLog t r).set x none
def dropDn (t : Tr VO) (m : Nat) : List Dn → Tr VO
 | [] => t
 | d :: r => match bitOf m d.ix with
  | true => dropDn t m r
  | false => dropLog (dropDn t m r) d.log
def seenV (free : Bool) (t0 : Tr VO) (m : Nat) (dns : List Dn) : Tr VO := match free with
 | true => playDn t0 m dns
 | false => dropDn (playDn t0 m dns) m dns
def freshLog (nx : Nat) : List (Nat × Option VO) → Bool
 | [] => true
 | (x, _) :: r => match Nat.ble nx x with
  | true => freshLog nx r
  | false => false
def logOk (nx : Nat) : List (Nat × Option VO) → Bool
 | [] => true
 | (x, _) :: r => match Nat.blt x nx && !roB x with
  | true => logOk nx r
  | false => false
structure DSt where
 free : Bool
 dns : List Dn
 np : Nat
 fr : Tr V
 hp : Hp
 rds : List (Nat × List Nat)
def isRd : Op → Bool
 | .load _ _ => true
 | .lookup _ _ _ _ => true
 | .binOp _ _ _ _ _ => true
 | .convert _ _ _ => true
 | .call c => match c.callee with
  | .builtin .len => true
  | _ => false
 | _ => false
def rdHs (fr : Tr V) : Op → List Nat
 | .load _ x => match (evV fr x).bind ptrV with
  | some a => [a.1]
  | none => []
 | .lookup _ x _ _ => match evV fr x with
  | some (.m (some r)) => [r]
  | _ => []
 | .convert _ _ x => match evV fr x with
  | some (.sl (some (h, _)) _ _ _) => [h]
  | _ => []
 | .call c => match c.args.toList with
  | [x] => match evV fr x with
   | some (.m (some r)) => [r]
   | _ => []
  | _ => []
 | _ => []
def subHp (t : Tr VO) : List Nat → Tr VO
 | [] => .lf
 | h :: r => match t.get h with
  | some o => (subHp t r).set h (some o)
  | none => subHp t r
def inLog (h : Nat) : List (Nat × Option VO) → Bool
 | [] => false
 | (x, _) :: r => match Nat.beq x h with
  | true => true
  | false => inLog h r
def untouched (m h : Nat) : List Dn → Bool
 | [] => true
 | d :: r => match bitOf m d.ix || !inLog h d.log with
  | true => untouched m h r
  | false => false
def rdsOk (m : Nat) (log : List (Nat × Option VO)) : List (Nat × List Nat) → Bool
 | [] => true
 | p :: r => match bitOf m p.1 || allL (fun h => !inLog h log) p.2 with
  | true => rdsOk m log r
  | false => false
def rdTry (C : Cx) (call : CallF) (hp : Hp) (fr : Tr V) (op : Op) (m : Nat) (dns : List Dn) : Option (V × List Nat) := match isRd op with
 | false => none
 | true => match allL (fun h => untouched m h dns) (rdHs fr op) with
  | false => none
  | true => (vop C call fr ⟨subHp hp.t (rdHs fr op), hp.nx, []⟩ op).bind fun q => match q.1, q.2.log, Nat.beq q.2.nx hp.nx with
   | .v v, [], true => some (v, rdHs fr op)
   | _, _, _ => none
def vd1 (C : Cx) (call : CallF) (n : Nat) (ops : List Oper) (pres : Tr Nat) (t0 : Tr VO) (o : Oper) (i : Nat) (d : DSt) : Option DSt := (wantV ops d.fr o).bind fun w => match w with
 | false => (setD n d.fr o.dst undV).bind fun fr => some ⟨d.free, d.dns, d.np, fr, d.hp, d.rds⟩
 | true => match isPure o.op with
  | true => (vpure C d.fr o.op).bind fun v => (setD n d.fr o.dst v).bind fun fr => some ⟨d.free, d.dns, d.np, fr, d.hp, d.rds⟩
  | false => match rdTry C call d.hp d.fr o.op (maskOf pres i) d.dns with
   | some vR => (setD n d.fr o.dst vR.1).bind fun fr => some ⟨d.free, d.dns, d.np, fr, d.hp, (i, vR.2) :: d.rds⟩
   | none => match maskLe d.np (maskOf pres i) with
    | true => (vop C call d.fr ⟨d.hp.t, d.hp.nx, []⟩ o.op).bind fun q => match q.1 with
     | .pan _ => none
     | .v v => match logOk q.2.nx (logSince q.2 q.2.log) && rdsOk (maskOf pres i) (logSince q.2 q.2.log) d.rds with
      | false => none
      | true => (setD n d.fr o.dst v).bind fun fr => some ⟨d.free && freshLog d.hp.nx (logSince q.2 q.2.log), ⟨i, logSince q.2 q.2.log⟩ :: d.dns, d.np ||| (1 <<< i), fr, ⟨q.2.t, q.2.nx, q.2.log ++ d.hp.log⟩, d.rds⟩
    | false => (vop C call d.fr ⟨seenV d.free t0 (maskOf pres i) d.dns, d.hp.nx, []⟩ o.op).bind fun q => match q.1 with
      | .pan _ => none
      | .v v => match logOk q.2.nx (logSince q.2 q.2.log) && freshLog d.hp.nx (logSince q.2 q.2.log) && rdsOk (maskOf pres i) (logSince q.2 q.2.log) d.rds with
       | false => none
       | true => (setD n d.fr o.dst v).bind fun fr => some ⟨d.free, ⟨i, logSince q.2 q.2.log⟩ :: d.dns, d.np ||| (1 <<< i), fr, ⟨playLog d.hp.t (logSince q.2 q.2.log), q.2.nx, q.2.log ++ d.hp.log⟩, d.rds⟩
def vdraw (C : Cx) (call : CallF) (n : Nat) (ops : List Oper) (pres : Tr Nat) (t0 : Tr VO) : List Oper → Nat → DSt → Option DSt
 | [], _, d => some d
 | o :: r, i, d => (vd1 C call n ops pres t0 o i d).bind fun d => vdraw C call n ops pres t0 r (i + 1) d
def vq1 (C : Cx) (call : CallF) (n : Nat) (ops : List Oper) (hp : Hp) (o : Oper) (fr : Tr V) : Option (Tr V) := (wantV ops fr o).bind fun w => match w with
 | false => setD n fr o.dst undV
 | true => match isPure o.op with
  | true => (vpure C fr o.op).bind fun v => setD n fr o.dst v
  | false => (rdTry C call hp fr o.op 0 []).bind fun vR => setD n fr o.dst vR.1
def vqrest (C : Cx) (call : CallF) (n : Nat) (ops : List Oper) (hp : Hp) (pres : Tr Nat) (p : Nat) : List Oper → Nat → Tr V → Bool
 | [], _, _ => true
 | o :: r, i, fr => match bitOf (maskOf pres i) p with
  | true => vqrest C call n ops hp pres p r (i + 1) fr
  | false => match vq1 C call n ops hp o fr with
   | some fr => vqrest C call n ops hp pres p r (i + 1) fr
   | none => false
def vdpan (C : Cx) (call : CallF) (n : Nat) (ops : List Oper) (hp : Hp) (pres : Tr Nat) : List Oper → Nat → Tr V → Option (V × Hp)
 | [], _, _ => none
 | o :: r, i, fr => match vq1 C call n ops hp o fr with
  | some fr => vdpan C call n ops hp pres r (i + 1) fr
  | none => (wantV ops fr o).bind fun w => match w with
   | false => none
   | true => match isPure o.op with
    | true => none
    | false => (vop C call fr ⟨hp.t, hp.nx, []⟩ o.op).bind fun q => match q.1 with
     | .v _ => none
     | .pan x => match vqrest C call n ops hp pres i r (i + 1) fr with
      | true => some (x, ⟨q.2.t, q.2.nx, q.2.log ++ hp.log⟩)
      | false => none
def clearD : List Oper → Tr V → Tr V
 | [], t => t
 | o :: r, t => match o.dst with
  | some d => (clearD r t).set d none
  | none => clearD r t
inductive Ex where
 | norm
 | exit (id : Nat)
 | ret
 | pan (x : V)
def vcode (C : Cx) (call : CallF) : Nat → Code → Sv → Option (Ex × Sv)
 | 0, _, _ => none
 | n + 1, c, s => match c with
  | .skip => some (.norm, s)
  | .label _ => some (.norm, s)
  | .ret => some (.ret, s)
  | .exit id => some (.exit id, s)
  | .seq a b => (vcode C call n a s).bind fun q => match q.1 with
   | .norm => vcode C call n b q.2
   | e => some (e, q.2)
  | .cond c a b => (evV s.fr c).bind fun v => match v with
   | .b true => vcode C call n a s
   | .b false => vcode C call n b s
   | _ => none
  | .block id c => (vcode C call n c s).bind fun q => match q.1 with
   | .exit j => match Nat.beq j id with
    | true => some (.norm, q.2)
    | false => some (.exit j, q.2)
   | e => some (e, q.2)
  | .loop c => (vcode C call n c s).bind fun q => match q.1 with
   | .norm => vcode C call n (.loop c) q.2
   | e => some (e, q.2)
  | .scope c => vcode C call n c s
  | .region _ ops draw => match draw with
   | false => (vlist C call ops.toList ops.toList s).bind fun q => match q.1 with
    | none => some (.norm, q.2)
    | some x => some (.pan x, q.2)
   | true => let pres := preAll ops.toList 0 .lf
    match apartAll ops.toList pres ops.toList 0 [] && edgesOk pres ops.toList 0 with
    | true => match vdraw C call s.n ops.toList pres s.hp.t ops.toList 0 ⟨true, [], 0, s.fr, s.hp, []⟩ with
     | some q => some (.norm, ⟨q.fr, s.df, q.hp, s.n⟩)
     | none => (vdpan C call s.n ops.toList s.hp pres ops.toList 0 s.fr).bind fun q => some (.pan q.1, ⟨clearD ops.toList s.fr, s.df, q.2, s.n⟩)
    | false => none
  | _ => none
inductive FM where
 | ret
 | pan (x : V) (recd : Bool)
def drec : FM → V × FM
 | .pan x false => (x, .pan x true)
 | u => (.ni, u)
def settleV : FM → FM
 | .pan _ true => .ret
 | u => u
def isRec : Op → Bool
 | .call c => match c.callee with
  | .builtin b => match b with
   | .recover => true
   | _ => false
  | _ => false
 | _ => false
def vdlist (C : Cx) (call : CallF) (ops : List Oper) : List Oper → Sv → FM → Option (Option V × Sv × FM)
 | [], s, u => some (none, s, u)
 | o :: r, s, u => (wantV ops s.fr o).bind fun w => match w with
  | false => (setD s.n s.fr o.dst undV).bind fun fr => vdlist C call ops r ⟨fr, s.df, s.hp, s.n⟩ u
  | true => match isRec o.op with
   | true => (setD s.n s.fr o.dst (drec u).1).bind fun fr => vdlist C call ops r ⟨fr, s.df, s.hp, s.n⟩ (drec u).2
   | false => (vop C call s.fr s.hp o.op).bind fun q => match q.1 with
    | .v x => (setD s.n s.fr o.dst x).bind fun fr => vdlist C call ops r ⟨fr, s.df, q.2, s.n⟩ u
    | .pan x => some (some x, ⟨s.fr, s.df, q.2, s.n⟩, u)
def vdcode (C : Cx) (call : CallF) : Nat → Code → Sv → FM → Option (Ex × Sv × FM)
 | 0, _, _, _ => none
 | n + 1, c, s, u => match c with
  | .seq a b => (vdcode C call n a s u).bind fun q => match q.1 with
   | .norm => vdcode C call n b q.2.1 q.2.2
   | e => some (e, q.2)
  | .cond c a b => (evV s.fr c).bind fun v => match v with
   | .b true => vdcode C call n a s u
   | .b false => vdcode C call n b s u
   | _ => none
  | .block id c => (vdcode C call n c s u).bind fun q => match q.1 with
   | .exit j => match Nat.beq j id with
    | true => some (.norm, q.2)
    | false => some (.exit j, q.2)
   | e => some (e, q.2)
  | .region id ops draw => match draw with
   | false => (vdlist C call ops.toList ops.toList s u).bind fun q => match q.1 with
    | none => some (.norm, q.2)
    | some x => some (.pan x, q.2)
   | true => (vcode C call n (.region id ops true) s).bind fun q => some (q.1, q.2, u)
  | c => (vcode C call n c s).bind fun q => some (q.1, q.2, u)
def argsV : Nat → List V → Tr V → Tr V
 | _, [], t => t
 | i, v :: r, t => argsV (i + 1) r (t.set i (some v))
def resV (C : Cx) (fr : Tr V) (hp : Hp) : List ResultVar → Option (List V)
 | [] => some []
 | .tmp t :: r => (fr.get t).bind fun v => (resV C fr hp r).bind fun vs => some (v :: vs)
 | .cell a t :: r => ((fr.get a).bind ptrV).bind fun a => (cellsAt hp a.1).bind fun cs => (partV C t cs a.2).bind fun v => (resV C fr hp r).bind fun vs => some (v :: vs)
def tupV : List V → V
 | [v] => v
 | vs => .tup vs
abbrev DefF := Nat → List V → FM → Hp → Option (VR × FM × Hp)
def enterV (fn : Func) (args : List V) (hp : Hp) : Option Sv := match Nat.ble args.length fn.ntmps && Nat.ble args.length 1000 && Nat.blt fn.ntmps trMax with
 | true => some ⟨argsV 0 args .lf, [], hp, fn.ntmps⟩
 | false => none
def endV (C : Cx) (fn : Func) (fr : Tr V) (hp : Hp) : Option V := (resV C fr hp fn.results.toList).bind fun vs => some (tupV vs)
def vdcall (C : Cx) (call : CallF) (extd : DefF) (n : Nat) : DefF := fun f args u hp => match extd f args u hp with
 | some q => some q
 | none => (C.F.get f).bind fun fn => fn.body.bind fun body => (enterV fn args hp).bind fun s => (vdcode C call n body s u).bind fun q => match q.2.1.df with
  | [] => match q.1 with
   | .exit _ => none
   | .pan x => some (.pan x, q.2.2, q.2.1.hp)
   | _ => (endV C fn q.2.1.fr q.2.1.hp).bind fun v => some (.v v, q.2.2, q.2.1.hp)
  | _ => none
def vleave (dcall : DefF) (res : Hp → Option V) : List (Nat × List V) → FM → Hp → Option (VR × Hp)
 | [], u, hp => match u with
  | .ret => (res hp).bind fun v => some (.v v, hp)
  | .pan x false => some (.pan x, hp)
  | _ => none
 | d :: ds, u, hp => (dcall d.1 d.2 u hp).bind fun q => match q.1 with
  | .v _ => vleave dcall res ds (settleV q.2.1) q.2.2
  | .pan x => match q.2.1 with
   | .ret => vleave dcall res ds (.pan x false) q.2.2
   | _ => none
def exFM : Ex → Option FM
 | .exit _ => none
 | .pan x => some (.pan x false)
 | _ => some .ret
def vcall (C : Cx) (ext : CallF) (extd : DefF) : Nat → CallF
 | 0, _, _, _ => none
 | n + 1, f, args, hp => match ext f args hp with
  | some q => some q
  | none => (C.F.get f).bind fun fn => fn.body.bind fun body => (enterV fn args hp).bind fun s => (vcode C (vcall C ext extd n) n body s).bind fun q => (exFM q.1).bind fun u =>
   vleave (vdcall C (vcall C ext extd n) extd n) (endV C fn q.2.fr) q.2.df u q.2.hp
end
end Go.Proofs.Ytabpegdalmagpaa
/- Vs: what the machine's values, objects and memory stand for; the operations that look at no memory. By this project. -/
namespace Go.Proofs.Ytabpegdalmagpaa
open Go.RowKit Go.Extern.Stop
theorem getL_eq {α : Type} : ∀ (l : List α) (n : Nat), getL l n = l[n]?
 | [], _ => rfl
 | x :: r, 0 => rfl
 | x :: r, n + 1 => by show getL r n = _; rw [getL_eq r n]; rfl
theorem cutL_some {α : Type} {cs l : List α} {o n : Nat} (h : cutL cs o n = some l) : l = (cs.drop o).take n ∧ l.length = n ∧ o + n ≤ cs.length := by
 unfold cutL at h
 split at h
 ·rename_i hb
  have := geL_iff.1 hb
  rw [takeF_eq, dropF_eq] at h
  simp only [Option.some.injEq] at h
  subst h
  exact ⟨rfl, by simp; omega, this⟩
 ·simp at h
theorem overF_eq {α : Type} : ∀ (vs cs : List α), vs.length ≤ cs.length → overF vs cs = vs ++ cs.drop vs.length
 | [], cs, _ => rfl
 | v :: r, [], h => by simp at h
 | v :: r, c :: cs, h => by
  show v :: overF r cs = _
  rw [overF_eq r cs (by simp at h; omega)]
  simp
theorem putAt_eq {α : Type} : ∀ (o : Nat) (cs vs : List α), o + vs.length ≤ cs.length → putAt o cs vs = cs.take o ++ vs ++ cs.drop (o + vs.length)
 | o, [], vs, h => by
  cases vs with
  | nil => cases o <;> rfl
  | cons v r => simp only [List.length_cons, List.length_nil] at h; omega
 | 0, c :: cs, vs, h => by
  show overF vs (c :: cs) = _
  rw [overF_eq _ _ (by simpa using h)]
  simp
 | o + 1, c :: cs, vs, h => by
  show c :: putAt o cs vs = _
  rw [putAt_eq o cs vs (by simp at h; omega)]
  rw [show o + 1 + vs.length = (o + vs.length) + 1 by omega]
  simp
theorem putAt_len {α : Type} {o : Nat} {cs vs : List α} (h : o + vs.length ≤ cs.length) : (putAt o cs vs).length = cs.length := by
 rw [putAt_eq o cs vs h]; simp; omega
theorem kindEq_iff {j k : IntKind} : kindEq j k = true ↔ j = k := by cases j <;> cases k <;> simp [kindEq]
theorem intEq_iff (x y : Int) : intEq x y = (x == y) := by
 cases x <;> cases y <;> simp only [intEq]
 ·rename_i a b
  rw [Bool.eq_iff_iff]
  simp only [Nat.beq_eq, beq_iff_eq]
  exact ⟨fun h => by rw [h], fun h => Int.ofNat.inj h⟩
 ·rw [Bool.eq_iff_iff]; simp
 ·rw [Bool.eq_iff_iff]; simp
 ·rename_i a b
  rw [Bool.eq_iff_iff]
  simp [Nat.beq_eq]
theorem intLe_iff (x y : Int) : intLe x y = decide (x ≤ y) := by
 unfold intLe
 rw [Bool.eq_iff_iff, decide_eq_true_eq]
 cases h : y - x with
 | ofNat n =>
  have : y - x = (n : Int) := h
  simp; omega
 | negSucc n =>
  have : y - x = -((n : Int) + 1) := by rw [h]; exact Int.negSucc_eq n
  simp; omega
theorem intLt_iff (x y : Int) : intLt x y = decide (x < y) := by
 unfold intLt
 rw [intLe_iff, Bool.eq_iff_iff]
 simp
theorem asNat_some {x : Int} {n : Nat} (h : asNat x = some n) : x = (n : Int) := by
 cases x <;> simp [asNat] at h
 subst h; rfl
theorem byEq_iff : ∀ (x y : List UInt8), byEq x y = (x == y)
 | [], [] => rfl
 | [], _ :: _ => rfl
 | _ :: _, [] => rfl
 | a :: r, b :: s => by
  simp only [byEq]
  rw [byEq_iff r s]
  by_cases h : a = b
  ·subst h
   have : Nat.beq a.toNat a.toNat = true := by simp [Nat.beq_eq]
   rw [this]
   simp
  ·have : Nat.beq a.toNat b.toNat = false := by
    rw [Bool.eq_false_iff]
    intro h'
    exact h (UInt8.toNat_inj.1 (Nat.eq_of_beq_eq_true h'))
   rw [this]
   rw [Bool.eq_iff_iff]
   simp [h]
theorem byLt_iff : ∀ (x y : List UInt8), byLt x y = Op.bytesLess x y
 | [], [] => rfl
 | _ :: _, [] => by simp [byLt, Op.bytesLess]
 | [], _ :: _ => rfl
 | a :: r, b :: s => by
  simp only [byLt, Op.bytesLess]
  rw [byLt_iff r s]
  by_cases h1 : a.toNat < b.toNat
  ·have e1 : Nat.blt a.toNat b.toNat = true := by simpa [Nat.blt_eq] using h1
   have e2 : a < b := UInt8.lt_iff_toNat_lt.2 h1
   rw [e1]
   simp [e2]
  ·have e1 : Nat.blt a.toNat b.toNat = false := by
    rw [Bool.eq_false_iff]; simpa [Nat.blt_eq] using h1
   have e2 : ¬ a < b := fun h => h1 (UInt8.lt_iff_toNat_lt.1 h)
   rw [e1]
   by_cases h2 : a = b
   ·subst h2
    have : Nat.beq a.toNat a.toNat = true := by simp [Nat.beq_eq]
    simp [this, e2]
   ·have : Nat.beq a.toNat b.toNat = false := by
     rw [Bool.eq_false_iff]
     intro h'
     exact h2 (UInt8.toNat_inj.1 (Nat.eq_of_beq_eq_true h'))
    simp [this, e2, h2]
abbrev Env := Nat → Option (Nat × Nat × Nat)
def Env.le (E E' : Env) : Prop := ∀ h x, E h = some x → E' h = some x
theorem Env.le_refl (E : Env) : E.le E := fun _ _ h => h
theorem Env.le_trans {E F G : Env} (h : E.le F) (k : F.le G) : E.le G := fun x y hx => k x y (h x y hx)
mutual
def ren (E : Env) : V → Option Value
 | .b x => some (.bool x)
 | .i k n => some (.int k n)
 | .s x => some (.string ⟨x.toArray⟩)
 | .p none => some (.pointer none)
 | .p (some (h, o)) => (E h).map fun e => .pointer (some ⟨e.1, e.2.1 + o, none⟩)
 | .sl none l c _ => some (.slice none l c)
 | .sl (some (h, o)) l c op => (E h).bind fun e => if wkB h = true then (if l = 0 ∧ c = 0 ∧ o = 0 then some (.slice (some ⟨e.1, e.2.1, some e.2.2⟩) 0 0) else none) else some (.slice (some ⟨e.1, e.2.1 + o, none⟩) l (if op then c + e.2.2 else c))
 | .m none => some (.map none)
 | .m (some h) => (E h).map fun e => .map (some e.1)
 | .fn f first cap => (renL E first).bind fun a => (renL E cap).map fun b => .func (.func f) a.toArray b.toArray
 | .nf => some .nilFunc
 | .ifc t v => (ren E v).map (.iface t)
 | .ni => some .nilIface
 | .agg cs => (renL E cs).bind fun l => if l.all (·.oneCell') then some (.agg l.toArray) else none
 | .tup vs => (renL E vs).map fun l => .tuple l.toArray
def renL (E : Env) : List V → Option (List Value)
 | [] => some []
 | v :: r => (ren E v).bind fun x => (renL E r).map (x :: ·)
end
theorem ren_slk {E : Env} {h o l c : Nat} {op : Bool} {X : Value} (hX : ren E (.sl (some (h, o)) l c op) = some X) : ∃ e, E h = some e ∧ ((wkB h = false ∧ Value.slice (some ⟨e.1, e.2.1 + o, none⟩) l (if op then c + e.2.2 else c) = X) ∨ (wkB h = true ∧ l = 0 ∧ c = 0 ∧ o = 0 ∧ Value.slice (some ⟨e.1, e.2.1, some e.2.2⟩) 0 0 = X)) := by
 simp only [ren, Option.bind_eq_some_iff] at hX
 obtain ⟨e, he, h2⟩ := hX
 refine ⟨e, he, ?_⟩
 split at h2
 ·rename_i hw
  split at h2
  ·rename_i h0
   obtain ⟨rfl, rfl, rfl⟩ := h0
   exact .inr ⟨hw, rfl, rfl, rfl, Option.some.inj h2⟩
  ·simp at h2
 ·rename_i hw
  exact .inl ⟨by simpa using hw, Option.some.inj h2⟩
theorem ren_sl_mk {E : Env} {h o l c : Nat} {op : Bool} {e : Nat × Nat × Nat} (he : E h = some e) (hw : wkB h = false) : ren E (.sl (some (h, o)) l c op) = some (.slice (some ⟨e.1, e.2.1 + o, none⟩) l (if op then c + e.2.2 else c)) := by
 simp only [ren, he, Option.bind_some, hw, Bool.false_eq_true, if_false]
theorem ren_sl_wk {E : Env} {h : Nat} {op : Bool} {e : Nat × Nat × Nat} (he : E h = some e) (hw : wkB h = true) : ren E (.sl (some (h, 0)) 0 0 op) = some (.slice (some ⟨e.1, e.2.1, some e.2.2⟩) 0 0) := by
 simp only [ren, he, Option.bind_some, hw, if_true, and_self]
theorem renL_cons {E : Env} {v : V} {r : List V} {l : List Value} (h : renL E (v :: r) = some l) : ∃ x t, ren E v = some x ∧ renL E r = some t ∧ l = x :: t := by
 simp only [renL, Option.bind_eq_some_iff, Option.map_eq_some_iff] at h
 obtain ⟨x, h1, t, h2, h3⟩ := h
 exact ⟨x, t, h1, h2, h3.symm⟩
theorem renL_len {E : Env} : ∀ {vs : List V} {l : List Value}, renL E vs = some l → l.length = vs.length
 | [], l, h => by simp [renL] at h; subst h; rfl
 | v :: r, l, h => by
  obtain ⟨x, t, _, h2, rfl⟩ := renL_cons h
  simp [renL_len h2]
theorem renL_get {E : Env} : ∀ {vs : List V} {l : List Value} {n : Nat} {v : V}, renL E vs = some l → vs[n]? = some v → ∃ x, l[n]? = some x ∧ ren E v = some x
 | [], l, n, v, h, hv => by simp at hv
 | u :: r, l, n, v, h, hv => by
  obtain ⟨x, t, h1, h2, rfl⟩ := renL_cons h
  cases n with
  | zero => simp at hv; subst hv; exact ⟨x, rfl, h1⟩
  | succ n => simpa using renL_get h2 (by simpa using hv)
theorem renL_drop {E : Env} : ∀ {vs : List V} {l : List Value} (n : Nat), renL E vs = some l → renL E (vs.drop n) = some (l.drop n)
 | vs, l, 0, h => by simpa using h
 | [], l, n + 1, h => by simp [renL] at h; subst h; simp [renL]
 | u :: r, l, n + 1, h => by
  obtain ⟨x, t, h1, h2, rfl⟩ := renL_cons h
  simpa using renL_drop n h2
theorem renL_take {E : Env} : ∀ {vs : List V} {l : List Value} (n : Nat), renL E vs = some l → renL E (vs.take n) = some (l.take n)
 | vs, l, 0, h => by simp [renL]
 | [], l, n + 1, h => by simp [renL] at h; subst h; simp [renL]
 | u :: r, l, n + 1, h => by
  obtain ⟨x, t, h1, h2, rfl⟩ := renL_cons h
  simp only [List.take_succ_cons, renL, h1, renL_take n h2, Option.bind_some, Option.map_some]
theorem renL_app {E : Env} : ∀ {vs us : List V} {l m : List Value}, renL E vs = some l → renL E us = some m → renL E (vs ++ us) = some (l ++ m)
 | [], us, l, m, h, k => by simp [renL] at h; subst h; simpa using k
 | u :: r, us, l, m, h, k => by
  obtain ⟨x, t, h1, h2, rfl⟩ := renL_cons h
  simp only [List.cons_append, renL, h1, renL_app h2 k, Option.bind_some, Option.map_some]
theorem renL_putAt {E : Env} {cs vs : List V} {l m : List Value} {o : Nat} (h : renL E cs = some l) (k : renL E vs = some m) (ho : o + vs.length ≤ cs.length) : renL E (putAt o cs vs) = some (l.take o ++ m ++ l.drop (o + m.length)) := by
 rw [putAt_eq o cs vs ho, renL_len k]
 exact renL_app (renL_app (renL_take o h) k) (renL_drop _ h)
theorem renL_rep {E : Env} {vs : List V} {l : List Value} (h : renL E vs = some l) : ∀ n, renL E (repL vs n) = some (repL l n)
 | 0 => rfl
 | n + 1 => by rw [repL_succ, repL_succ]; exact renL_app h (renL_rep h n)
theorem repL_all {l : List Value} (h : l.all (·.oneCell') = true) : ∀ n, (repL l n).all (·.oneCell') = true
 | 0 => rfl
 | n + 1 => by simp only [repL_succ, List.all_append, h, repL_all h n, Bool.and_self]
theorem repL_len {α : Type} (l : List α) : ∀ n, (repL l n).length = n * l.length
 | 0 => by simp [repL_zero]
 | n + 1 => by simp [repL_succ, repL_len l n, Nat.succ_mul, Nat.add_comm]
mutual
theorem ren_mono {E E' : Env} (h : E.le E') : ∀ {v : V} {x : Value}, ren E v = some x → ren E' v = some x
 | .b _, x, hx => hx
 | .i _ _, x, hx => hx
 | .s _, x, hx => hx
 | .p none, x, hx => hx
 | .p (some (a, o)), x, hx => by
  simp only [ren, Option.map_eq_some_iff] at hx ⊢
  obtain ⟨e, h1, h2⟩ := hx
  exact ⟨e, h _ _ h1, h2⟩
 | .sl none _ _ _, x, hx => hx
 | .sl (some (a, o)) l c op, x, hx => by
  simp only [ren, Option.bind_eq_some_iff] at hx ⊢
  obtain ⟨e, h1, h2⟩ := hx
  exact ⟨e, h _ _ h1, h2⟩
 | .m none, x, hx => hx
 | .m (some a), x, hx => by
  simp only [ren, Option.map_eq_some_iff] at hx ⊢
  obtain ⟨e, h1, h2⟩ := hx
  exact ⟨e, h _ _ h1, h2⟩
 | .fn f first cap, x, hx => by
  simp only [ren, Option.map_eq_some_iff, Option.bind_eq_some_iff] at hx ⊢
  obtain ⟨a, h1, b, h2, h3⟩ := hx
  exact ⟨a, renL_mono h h1, b, renL_mono h h2, h3⟩
 | .nf, x, hx => hx
 | .ifc t v, x, hx => by
  simp only [ren, Option.map_eq_some_iff] at hx ⊢
  obtain ⟨e, h1, h2⟩ := hx
  exact ⟨e, ren_mono h h1, h2⟩
 | .ni, x, hx => hx
 | .agg cs, x, hx => by
  simp only [ren, Option.bind_eq_some_iff] at hx ⊢
  obtain ⟨e, h1, h2⟩ := hx
  exact ⟨e, renL_mono h h1, h2⟩
 | .tup vs, x, hx => by
  simp only [ren, Option.map_eq_some_iff] at hx ⊢
  obtain ⟨e, h1, h2⟩ := hx
  exact ⟨e, renL_mono h h1, h2⟩
theorem renL_mono {E E' : Env} (h : E.le E') : ∀ {vs : List V} {l : List Value}, renL E vs = some l → renL E' vs = some l
 | [], l, hx => hx
 | v :: r, l, hx => by
  obtain ⟨x, t, h1, h2, rfl⟩ := renL_cons hx
  simp [renL, ren_mono h h1, renL_mono h h2]
end
theorem ren_agg {E : Env} {cs : List V} {x : Value} (h : ren E (.agg cs) = some x) : ∃ l, renL E cs = some l ∧ l.all (·.oneCell') = true ∧ x = .agg l.toArray := by
 simp only [ren, Option.bind_eq_some_iff] at h
 obtain ⟨l, h1, h2⟩ := h
 split at h2
 ·rename_i h3
  simp at h2
  exact ⟨l, h1, h3, h2.symm⟩
 ·simp at h2
theorem ren_agg_mk {E : Env} {cs : List V} {l : List Value} (h : renL E cs = some l) (h1 : l.all (·.oneCell') = true) : ren E (.agg cs) = some (.agg l.toArray) := by
 simp only [ren, h, h1, Option.bind_some, if_true]
theorem ren_one {E : Env} {v : V} {x : Value} (h : ren E v = some x) (h1 : v.one = true) : x.oneCell' = true ∧ x.cells = #[x] := by
 cases v <;> simp only [V.one] at h1 <;> try (simp at h1; done)
 case b => simp [ren] at h; subst h; exact ⟨rfl, rfl⟩
 case i => simp [ren] at h; subst h; exact ⟨rfl, rfl⟩
 case s => simp [ren] at h; subst h; exact ⟨rfl, rfl⟩
 case p a =>
  cases a with
  | none => simp [ren] at h; subst h; exact ⟨rfl, rfl⟩
  | some a => simp only [ren, Option.map_eq_some_iff] at h; obtain ⟨e, _, rfl⟩ := h; exact ⟨rfl, rfl⟩
 case sl a l c op =>
  cases a with
  | none => simp [ren] at h; subst h; exact ⟨rfl, rfl⟩
  | some a => obtain ⟨e, _, ⟨_, rfl⟩ | ⟨_, _, _, _, rfl⟩⟩ := ren_slk h <;> exact ⟨rfl, rfl⟩
 case m a =>
  cases a with
  | none => simp [ren] at h; subst h; exact ⟨rfl, rfl⟩
  | some a => simp only [ren, Option.map_eq_some_iff] at h; obtain ⟨e, _, rfl⟩ := h; exact ⟨rfl, rfl⟩
 case fn f first cap =>
  simp only [ren, Option.map_eq_some_iff, Option.bind_eq_some_iff] at h
  obtain ⟨a, _, b, _, rfl⟩ := h
  exact ⟨rfl, rfl⟩
 case nf => simp [ren] at h; subst h; exact ⟨rfl, rfl⟩
 case ifc t v => simp only [ren, Option.map_eq_some_iff] at h; obtain ⟨e, _, rfl⟩ := h; exact ⟨rfl, rfl⟩
 case ni => simp [ren] at h; subst h; exact ⟨rfl, rfl⟩
theorem ren_cells {E : Env} {v : V} {x : Value} {cs : List V} (h : ren E v = some x) (hc : v.cells = some cs) : ∃ l, renL E cs = some l ∧ l.all (·.oneCell') = true ∧ x.cells = l.toArray := by
 by_cases h1 : v.one = true
 ·have h2 := ren_one h h1
  have : cs = [v] := by cases v <;> simp [V.cells, V.one] at hc h1 <;> exact hc.symm
  subst this
  exact ⟨[x], by simp [renL, h], by simp [h2.1], h2.2⟩
 ·cases v <;> simp [V.one] at h1
  ·obtain ⟨l, h2, h3, rfl⟩ := ren_agg h
   simp [V.cells] at hc
   subst hc
   exact ⟨l, h2, h3, rfl⟩
  ·simp [V.cells] at hc
theorem ofVal1_ren {x : Value} {v : V} (h : ofVal1 x = some v) (E : Env) : ren E v = some x ∧ v.one = true := by
 cases x with
 | bool b => simp [ofVal1] at h; subst h; exact ⟨rfl, rfl⟩
 | int k n => simp [ofVal1] at h; subst h; exact ⟨rfl, rfl⟩
 | string s => simp [ofVal1] at h; subst h; exact ⟨by simp [ren], rfl⟩
 | pointer a => cases a <;> simp [ofVal1] at h; subst h; exact ⟨rfl, rfl⟩
 | slice a l c => cases a <;> simp [ofVal1] at h; subst h; exact ⟨rfl, rfl⟩
 | map a => cases a <;> simp [ofVal1] at h; subst h; exact ⟨rfl, rfl⟩
 | nilFunc => simp [ofVal1] at h; subst h; exact ⟨rfl, rfl⟩
 | nilIface => simp [ofVal1] at h; subst h; exact ⟨rfl, rfl⟩
 | _ => simp [ofVal1] at h
theorem mapO_ren {l : List Value} {vs : List V} (h : mapO ofVal1 l = some vs) (E : Env) : renL E vs = some l ∧ l.all (·.oneCell') = true := by
 induction l generalizing vs with
 | nil => simp [mapO_nil] at h; subst h; exact ⟨rfl, rfl⟩
 | cons x r ih =>
  rw [mapO_cons] at h
  cases hx : ofVal1 x with
  | none => rw [hx] at h; simp at h
  | some y =>
   rw [hx] at h
   cases hl : mapO ofVal1 r with
   | none => rw [hl] at h; simp at h
   | some ys =>
    rw [hl] at h
    simp at h
    subst h
    have h1 := ofVal1_ren hx E
    have h2 := ih hl
    have h3 := ren_one h1.1 h1.2
    exact ⟨by simp [renL, h1.1, h2.1], by simp only [List.all_cons, h3.1, h2.2, Bool.and_self]⟩
theorem ofVal_ren {x : Value} {v : V} (h : ofVal x = some v) (E : Env) : ren E v = some x := by
 have key : ofVal1 x = some v → ren E v = some x := fun h => (ofVal1_ren h E).1
 cases x with
 | agg cs =>
  simp only [ofVal] at h
  cases hm : mapO ofVal1 cs.toList with
  | none => rw [hm] at h; simp at h
  | some l =>
   rw [hm] at h
   simp at h
   subst h
   have := mapO_ren hm E
   rw [ren_agg_mk this.1 this.2]
 | tuple vs =>
  simp only [ofVal] at h
  cases hv : vs.toList with
  | nil =>
   rw [hv] at h
   simp at h
   subst h
   have : vs = #[] := by apply Array.ext'; simpa using hv
   subst this
   rfl
  | cons a b => rw [hv] at h; simp at h
 | _ => exact key h
/- Sx: stepping through Go code with an explicit list of slots and an explicit list of the call's own blocks. By this project. -/
abbrev FL := List (Nat × Value)
abbrev HL := List (Option Nat × Obj)
structure Fr (a : Act) (n : Nat) (l : FL) : Prop where
 defers : a.defers = []
 size : a.tmps.size = n
 look : ∀ t v, l.lookup t = some v → a.tmps[t]? = some v
structure St (w0 w : World) (L : HL) : Prop where
 below : Below w0.heap.size w0 w
 has : ∀ (i b : Nat) (o : Obj), L[i]? = some (some b, o) → w.heap[b]? = some o ∧ w0.heap.size ≤ b
 one : ∀ (i j b : Nat) (o o' : Obj), L[i]? = some (some b, o) → L[j]? = some (some b, o') → i = j
def evl (l : FL) : Operand → Option Value
 | .tmp t => l.lookup t
 | .const v => some v
 | .global g => some (.pointer (some ⟨g, 0, none⟩))
 | .func f => some (.func (.func f) #[] #[])
theorem Fr.ev {a : Act} {n : Nat} {l : FL} (h : Fr a n l) {x : Operand} {v : Value} (hx : evl l x = some v) : a.eval x = v := by
 cases x with
 | tmp t =>
  have := h.look t v hx
  simp only [Act.eval]
  rw [Array.getD_eq_getD_getElem?, this]; rfl
 | const c => exact Option.some.inj hx
 | global g => exact Option.some.inj hx
 | func f => exact Option.some.inj hx
theorem lookup_cons_ne {t d : Nat} {v : Value} {l : FL} (h : t ≠ d) : List.lookup t ((d, v) :: l) = l.lookup t := by
 have e : (t == d) = false := by simpa using h
 simp only [List.lookup, e]
theorem lookup_cons_eq {t : Nat} {v : Value} {l : FL} : List.lookup t ((t, v) :: l) = some v := by simp only [List.lookup, beq_self_eq_true]
theorem Fr.put {a : Act} {n : Nat} {l : FL} (h : Fr a n l) (d : Nat) (hd : d < n) (v : Value) : Fr (a.put (some d) v) n ((d, v) :: l) := by
 refine ⟨h.defers, by simp [Act.put, h.size], fun t u hu => ?_⟩
 by_cases e : t = d
 ·subst e
  rw [lookup_cons_eq] at hu
  obtain rfl := Option.some.inj hu
  simp [Act.put, Array.getElem?_setIfInBounds, h.size, hd]
 ·rw [lookup_cons_ne e] at hu
  have := h.look t u hu
  simp only [Act.put, Array.getElem?_setIfInBounds]
  rw [if_neg (fun e' => e e'.symm)]
  exact this
def Sub (l : FL) : FL → Prop
 | [] => True
 | (t, v) :: r => l.lookup t = some v ∧ Sub l r
theorem Sub.look {l : FL} : ∀ {k : FL}, Sub l k → ∀ t v, k.lookup t = some v → l.lookup t = some v
 | [], _, t, v, h => by simp at h
 | (s, u) :: r, ⟨h1, h2⟩, t, v, h => by
  by_cases e : t = s
  ·subst e
   rw [lookup_cons_eq] at h
   obtain rfl := Option.some.inj h
   exact h1
  ·rw [lookup_cons_ne e] at h
   exact h2.look t v h
theorem Fr.sub {a : Act} {n : Nat} {l k : FL} (h : Fr a n l) (hk : Sub l k) : Fr a n k := ⟨h.defers, h.size, fun t v hv => h.look t v (hk.look t v hv)⟩
theorem lt_of_heap {w : World} {b : Nat} {o : Obj} (h : w.heap[b]? = some o) : b < w.heap.size := (Array.getElem?_eq_some_iff.1 h).1
theorem St.refl (w : World) : St w w [] := ⟨Below.refl _ _, fun _ _ _ h => by simp at h, fun _ _ _ _ _ h => by simp at h⟩
theorem St.le {w0 w : World} {L : HL} (h : St w0 w L) : w0.heap.size ≤ w.heap.size := h.below.size
theorem St.then {w0 w w' : World} {L N : HL} (h : St w0 w L) (k : St w w' N) : St w0 w' (N ++ L) := by
 have old : ∀ (i b : Nat) (o : Obj), L[i]? = some (some b, o) → b < w.heap.size := fun i b o hi => lt_of_heap (h.has i b o hi).1
 refine ⟨h.below.trans (k.below.mono h.le), fun i b o hi => ?_, fun i j b o o' hi hj => ?_⟩
 ·rcases Nat.lt_or_ge i N.length with hl | hl
  ·rw [List.getElem?_append_left hl] at hi
   have := k.has i b o hi
   exact ⟨this.1, Nat.le_trans h.le this.2⟩
  ·rw [List.getElem?_append_right hl] at hi
   have := h.has _ b o hi
   exact ⟨by rw [k.below.block b (old _ b o hi)]; exact this.1, this.2⟩
 ·rcases Nat.lt_or_ge i N.length with hl | hl <;> rcases Nat.lt_or_ge j N.length with hm | hm
  ·rw [List.getElem?_append_left hl] at hi
   rw [List.getElem?_append_left hm] at hj
   exact k.one i j b o o' hi hj
  ·rw [List.getElem?_append_left hl] at hi
   rw [List.getElem?_append_right hm] at hj
   have := (k.has i b o hi).2
   have := old _ b o' hj
   omega
  ·rw [List.getElem?_append_right hl] at hi
   rw [List.getElem?_append_left hm] at hj
   have := (k.has j b o' hj).2
   have := old _ b o hi
   omega
  ·rw [List.getElem?_append_right hl] at hi
   rw [List.getElem?_append_right hm] at hj
   have := h.one _ _ b o o' hi hj
   omega
theorem St.alloc {w0 w : World} {L : HL} (h : St w0 w L) (o : Obj) : St w0 (w.alloc o) ((some w.heap.size, o) :: L) := by
 refine h.then (N := [(some w.heap.size, o)]) ⟨(Below.refl _ _).alloc (Nat.le_refl _) o, fun i b o' hi => ?_, fun i j b o' o'' hi hj => ?_⟩
 ·cases i with
  | zero =>
   simp at hi
   obtain ⟨rfl, rfl⟩ := hi
   refine ⟨?_, Nat.le_refl _⟩
   show (w.heap.push o)[w.heap.size]? = _
   simp
  | succ i => simp at hi
 ·cases i <;> cases j <;> simp at hi hj ⊢
theorem St.tail {w0 w : World} {L N : HL} (h : St w0 w (N ++ L)) : St w0 w L := by
 refine ⟨h.below, fun i b o hi => h.has (N.length + i) b o ?_, fun i j b o o' hi hj => ?_⟩
 ·rw [List.getElem?_append_right (by omega)]; simpa using hi
 ·have := h.one (N.length + i) (N.length + j) b o o' (by rw [List.getElem?_append_right (by omega)]; simpa using hi) (by rw [List.getElem?_append_right (by omega)]; simpa using hj)
  omega
theorem St.pick {w0 w : World} {L : HL} (h : St w0 w L) (is : List Nat) (K : HL) (hK : is.map (fun i => L[i]?) = K.map some) (hn : is.Nodup) : St w0 w K := by
 have key : ∀ (i b : Nat) (o : Obj), K[i]? = some (some b, o) → ∃ j, is[i]? = some j ∧ L[j]? = some (some b, o) := fun i b o hi => by
  have h1 : (K.map some)[i]? = some (some (some b, o)) := by rw [List.getElem?_map, hi]; rfl
  rw [← hK, List.getElem?_map] at h1
  cases hj : is[i]? with
  | none => rw [hj] at h1; simp at h1
  | some j => rw [hj] at h1; exact ⟨j, rfl, by simpa using h1⟩
 refine ⟨h.below, fun i b o hi => ?_, fun i j b o o' hi hj => ?_⟩
 ·obtain ⟨m, _, hm⟩ := key i b o hi
  exact h.has m b o hm
 ·obtain ⟨m, e1, hm⟩ := key i b o hi
  obtain ⟨k, e2, hk⟩ := key j b o' hj
  have := h.one m k b o o' hm hk
  subst this
  obtain ⟨p, q⟩ := List.getElem?_eq_some_iff.1 e1
  obtain ⟨p', q'⟩ := List.getElem?_eq_some_iff.1 e2
  exact (List.getElem_inj hn).1 (q.trans q'.symm)
theorem St.upd {w0 w w' : World} {L : HL} (h : St w0 w L) (i b : Nat) (o o' : Obj) (hi : L[i]? = some (some b, o)) (hos : w'.os = w.os) (ht : w'.tape = w.tape) (hout : w'.output = w.output) (hs : w.heap.size ≤ w'.heap.size)
  (hb : w'.heap[b]? = some o') (hne : ∀ k, k ≠ b → k < w.heap.size → w'.heap[k]? = w.heap[k]?) : St w0 w' (L.set i (some b, o')) := by
 have hib := h.has i b o hi
 have hil : i < L.length := (List.getElem?_eq_some_iff.1 hi).1
 refine ⟨h.below.trans ⟨hos, ht, hout, hs, fun k hk => hne k (by omega) (by have := h.le; omega)⟩, fun j c q hj => ?_, fun j k c q q' hj hk => ?_⟩
 ·rw [List.getElem?_set] at hj
  by_cases e : i = j
  ·rw [if_pos e, if_pos hil] at hj
   simp at hj
   obtain ⟨rfl, rfl⟩ := hj
   exact ⟨hb, hib.2⟩
  ·rw [if_neg e] at hj
   have hjc := h.has j c q hj
   have : c ≠ b := fun e' => e (h.one i j b o q hi (e' ▸ hj))
   exact ⟨by rw [hne c this (lt_of_heap hjc.1)]; exact hjc.1, hjc.2⟩
 ·have tell : ∀ (m : Nat) (q : Obj), (L.set i (some b, o'))[m]? = some (some c, q) → ∃ q', L[m]? = some (some c, q') := fun m q hm => by
   rw [List.getElem?_set] at hm
   by_cases e : i = m
   ·rw [if_pos e, if_pos hil] at hm
    simp at hm
    obtain ⟨rfl, rfl⟩ := hm
    exact ⟨o, e ▸ hi⟩
   ·rw [if_neg e] at hm
    exact ⟨q, hm⟩
  obtain ⟨p, hp⟩ := tell j q hj
  obtain ⟨p', hp'⟩ := tell k q' hk
  exact h.one j k c p p' hp hp'
theorem St.swap {w0 w w' : World} {L : HL} (h : St w0 w L) (i : Nat) (r : Option Nat) (o o' : Obj) (hi : L[i]? = some (r, o)) (b' : Nat) (k : St w w' [(some b', o')]) : St w0 w' (L.set i (some b', o')) := by
 have hh := h.then k
 have hil : i < L.length := (List.getElem?_eq_some_iff.1 hi).1
 have hn0 := k.has 0 b' o' rfl
 refine ⟨hh.below, fun j c q hj => ?_, fun j m c q q' hj hm => ?_⟩
 ·rw [List.getElem?_set] at hj
  by_cases e : i = j
  ·rw [if_pos e, if_pos hil] at hj
   simp at hj
   obtain ⟨rfl, rfl⟩ := hj
   exact hh.has 0 b' o' rfl
  ·rw [if_neg e] at hj
   exact hh.has (j + 1) c q (by simpa using hj)
 ·rw [List.getElem?_set] at hj hm
  have lt : ∀ (m : Nat) (q : Obj), L[m]? = some (some c, q) → c < w.heap.size := fun m q hm => lt_of_heap (h.has m c q hm).1
  by_cases e : i = j <;> by_cases e' : i = m
  ·omega
  ·rw [if_pos e, if_pos hil] at hj
   rw [if_neg e'] at hm
   simp at hj
   have := lt m q' hm
   omega
  ·rw [if_neg e] at hj
   rw [if_pos e', if_pos hil] at hm
   simp at hm
   have := lt j q hj
   omega
  ·rw [if_neg e] at hj
   rw [if_neg e'] at hm
   exact h.one j m c q q' hj hm
theorem St.drew {w0 w : World} {L : HL} (h : St w0 w L) : St w0 w.drew L := ⟨h.below.drew, h.has, h.one⟩
theorem St.same {w0 w w' : World} {L : HL} (h : St w0 w L) (hh : w'.heap = w.heap) (hos : w'.os = w.os) (ht : w'.tape = w.tape) (hout : w'.output = w.output) : St w0 w' L :=
 ⟨⟨hos.trans h.below.os, ht.trans h.below.tape, hout.trans h.below.output, by rw [hh]; exact h.below.size, fun k hk => by rw [hh]; exact h.below.block k hk⟩, fun i b o hi => by rw [hh]; exact h.has i b o hi, h.one⟩
/- Sxb: the rules of code, of lists of operations, of regions that draw. By this project. -/
abbrev GQ := Exit → FL → HL → Prop
def post (n : Nat) (w0 : World) (Q : GQ) : Exit → Act → World → Prop := fun e a w => ∃ l L, Fr a n l ∧ St w0 w L ∧ Q e l L
def G (P : Program) (n : Nat) (w0 : World) (c : Code) (l : FL) (L : HL) (Q : GQ) : Prop := ∀ a w, Fr a n l → St w0 w L → Code.wp P c (post n w0 Q) a w
def GL (P : Program) (n : Nat) (w0 : World) (ops : Array Oper) (rest : List Oper) (l : FL) (L : HL) (Q : GQ) : Prop := ∀ a w, Fr a n l → St w0 w L → wpList P ops (post n w0 Q) rest a w
def GLq (P : Program) (n : Nat) (w0 : World) (ops : Array Oper) (rest : List Oper) (l : FL) (L : HL) (K : FL → Prop) : Prop :=
 ∀ a, Fr a n l → wpQuiet P ops (fun w => St w0 w L) (fun a' => ∃ l', Fr a' n l' ∧ K l') rest a
def gthen (next : FL → HL → Prop) (Q : GQ) : GQ
 | .normal, l, L => next l L
 | e, l, L => Q e l L
def gblock (id : Nat) (Q : GQ) : GQ
 | .exit id', l, L => if id' = id then Q .normal l L else Q (.exit id') l L
 | e, l, L => Q e l L
section
variable {P : Program} {n : Nat} {w0 : World} {l : FL} {L : HL} {Q : GQ} {ops : Array Oper} {rest : List Oper}
theorem g_mono {c : Code} {Q' : GQ} (h : G P n w0 c l L Q) (hq : ∀ e l L, Q e l L → Q' e l L) : G P n w0 c l L Q' := fun a w hf hs =>
 wp_mono (h a w hf hs) fun _ _ _ ⟨l', L', h1, h2, h3⟩ => ⟨l', L', h1, h2, hq _ _ _ h3⟩
theorem g_sub {c : Code} {k : FL} (hk : Sub l k) (h : G P n w0 c k L Q) : G P n w0 c l L Q := fun a w hf hs => h a w (hf.sub hk) hs
theorem g_seq {x y : Code} (h : G P n w0 x l L (gthen (fun l L => G P n w0 y l L Q) Q)) : G P n w0 (.seq x y) l L Q := fun a w hf hs =>
 wp_seq (wp_mono (h a w hf hs) fun e a' w' ⟨l', L', h1, h2, h3⟩ => by
  cases e <;> first | exact h3 a' w' h1 h2 | exact ⟨l', L', h1, h2, h3⟩)
theorem g_cut {x y : Code} (K : FL → HL → Prop) (h : G P n w0 x l L (gthen K Q)) (hk : ∀ l L, K l L → G P n w0 y l L Q) : G P n w0 (.seq x y) l L Q :=
 g_seq (g_mono h fun e l L hq => by cases e <;> first | exact hk l L hq | exact hq)
theorem g_block {id : Nat} {c : Code} (h : G P n w0 c l L (gblock id Q)) : G P n w0 (.block id c) l L Q := fun a w hf hs =>
 wp_block (wp_mono (h a w hf hs) fun e a' w' ⟨l', L', h1, h2, h3⟩ => by
  cases e with
  | exit id' =>
   simp only [gblock, Exit.inBlock] at h3 ⊢
   split <;> rename_i hid <;> simp only [hid, if_true, if_false] at h3 <;> exact ⟨l', L', h1, h2, h3⟩
  | _ => exact ⟨l', L', h1, h2, h3⟩)
theorem g_label {k : Nat} (h : Q .normal l L) : G P n w0 (.label k) l L Q := fun _ _ hf hs => wp_label ⟨l, L, hf, hs, h⟩
theorem g_skip (h : Q .normal l L) : G P n w0 .skip l L Q := fun _ _ hf hs => wp_skip ⟨l, L, hf, hs, h⟩
theorem g_ret (h : Q .ret l L) : G P n w0 .ret l L Q := fun _ _ hf hs => wp_ret ⟨l, L, hf, hs, h⟩
theorem g_exit {id : Nat} (h : Q (.exit id) l L) : G P n w0 (.exit id) l L Q := fun _ _ hf hs => wp_exit ⟨l, L, hf, hs, h⟩
theorem g_condT {c : Operand} {x y : Code} (hc : evl l c = some (.bool true)) (h1 : G P n w0 x l L Q) : G P n w0 (.cond c x y) l L Q := fun a w hf hs => wp_cond_true (hf.ev hc) (h1 a w hf hs)
theorem g_condF {c : Operand} {x y : Code} (hc : evl l c = some (.bool false)) (h1 : G P n w0 y l L Q) : G P n w0 (.cond c x y) l L Q := fun a w hf hs => wp_cond_false (hf.ev hc) (h1 a w hf hs)
theorem g_region {id : Nat} {ops : List Oper} (h : GL P n w0 ops.toArray ops l L Q) : G P n w0 (.region id ops.toArray false) l L Q := fun a w hf hs => wp_region_lit (h a w hf hs)
theorem g_quiet {id : Nat} {ops : List Oper} (hm : P.follows .mixedOrders = true) (hB : Region.lexB .any ops.toArray = true) (h : GLq P n w0 ops.toArray ops l L (fun l' => Q .normal l' L)) :
  G P n w0 (.region id ops.toArray true) l L Q := fun a w hf hs => by
 refine wp_region_quiet (C := fun w => St w0 w L) hm hB hs.drew ?_
 have := h a hf
 refine (?_ : wpQuiet P ops.toArray (fun w => St w0 w L) (fun a' => ∀ w', St w0 w' L → post n w0 Q .normal a' w') ops.toArray.toList a)
 have key : ∀ (r : List Oper) (a : Act), wpQuiet P ops.toArray (fun w => St w0 w L) (fun a' => ∃ l', Fr a' n l' ∧ Q .normal l' L) r a →
   wpQuiet P ops.toArray (fun w => St w0 w L) (fun a' => ∀ w', St w0 w' L → post n w0 Q .normal a' w') r a := by
  intro r
  induction r with
  | nil => exact fun a ⟨l', h1, h2⟩ w' hw' => ⟨l', L, h1, hw', h2⟩
  | cons o r ih =>
   intro a hq
   unfold wpQuiet at hq ⊢
   split
   ·rename_i hw; rw [if_pos hw] at hq; exact Oper.quiet_mono ih hq
   ·rename_i hw; rw [if_neg hw] at hq; exact ih _ hq
 simpa using key ops a this
theorem g_loop {c : Code} {ι : Type} (F : ι → FL) (H : ι → HL) (p : ι → Prop) (m : ι → Nat) (i : ι) (hp : p i) (hl : Sub l (F i)) (hL : ∀ w, St w0 w L → St w0 w (H i))
  (h : ∀ i, p i → G P n w0 c (F i) (H i) (gthen (fun l' L' => ∃ j, p j ∧ m j < m i ∧ Sub l' (F j) ∧ ∀ w, St w0 w L' → St w0 w (H j)) Q)) : G P n w0 (.loop c) l L Q := fun a w hf hs => by
 intro b k cs
 have key : ∀ q i, m i = q → p i → ∀ a w, Fr a n (F i) → St w0 w (H i) → ∃ e a' w', post n w0 Q e a' w' ∧ Arrives P (lone (b.at a (.code c :: .inLoop c :: k)) cs w) b k cs e a' w' := by
  intro q
  induction q using Nat.strongRecOn with
  | _ q ih =>
   intro i hq hp a w hf hs
   obtain ⟨e, a1, w1, hpost, harr⟩ := h i hp a w hf hs b (.inLoop c :: k) cs
   obtain ⟨l', L', q1, q2, q3⟩ := hpost
   cases e with
   | normal =>
    obtain ⟨j, g1, g2, g3, g4⟩ := q3
    obtain ⟨e2, a2, w2, hq2, harr2⟩ := ih (m j) (hq ▸ g2) j rfl g1 a1 w1 (q1.sub g3) (g4 w1 q2)
    exact ⟨e2, a2, w2, hq2, .of_steps (Steps.trans harr (.one step_inLoop)) harr2⟩
   | exit id => exact ⟨_, a1, w1, ⟨l', L', q1, q2, q3⟩, .pass (x := .inLoop c) rfl (fun _ _ => .inl (by simp)) harr⟩
   | goto l => exact ⟨_, a1, w1, ⟨l', L', q1, q2, q3⟩, .pass (x := .inLoop c) rfl (fun _ _ => .inl (by simp)) harr⟩
   | ret => exact ⟨_, a1, w1, ⟨l', L', q1, q2, q3⟩, .pass (x := .inLoop c) rfl (fun _ _ => .inl (by simp)) harr⟩
   | panic ch => exact ⟨_, a1, w1, ⟨l', L', q1, q2, q3⟩, .pass (x := .inLoop c) rfl (fun _ _ => .inl (by simp)) harr⟩
   | outgrown => exact ⟨_, a1, w1, ⟨l', L', q1, q2, q3⟩, .pass (x := .inLoop c) rfl (fun _ _ => .inl (by simp)) harr⟩
 obtain ⟨e, a', w', hq, harr⟩ := key _ i rfl hp a w (hf.sub hl) (hL w hs)
 exact ⟨e, a', w', hq, .of_steps (.one step_loop) harr⟩
def OV (P : Program) (w0 : World) (L : HL) (l : FL) (o : Oper) (v : Value) : Prop := ∀ (a : Act) (n : Nat) (w : World), Fr a n l → St w0 w L → (execOp a.eval o).run P w = .ok (.value v) w
def Want (ops : Array Oper) (l : FL) (o : Oper) : Prop := ∀ (a : Act) (n : Nat), Fr a n l → Region.wanted o (yielded ops a.tmps) = true
def Idle (ops : Array Oper) (l : FL) (o : Oper) : Prop := ∀ (a : Act) (n : Nat), Fr a n l → Region.wanted o (yielded ops a.tmps) = false
theorem want_n {o : Oper} (h : o.guard = none) : Want ops l o := fun a n _ => by simp [Region.wanted, h]
theorem want_g {o : Oper} {j d : Nat} {t : Bool} (h : o.guard = some (j, t)) (hd : (ops[j]?).bind (·.dst) = some d) (hv : l.lookup d = some (.bool t)) : Want ops l o := fun a n hf => by
 simp [Region.wanted, h, yielded, hd, hf.look d _ hv]
theorem idle_g {o : Oper} {j d : Nat} {t : Bool} (h : o.guard = some (j, t)) (hd : (ops[j]?).bind (·.dst) = some d) (hv : l.lookup d = some (.bool !t)) : Idle ops l o := fun a n hf => by
 simp [Region.wanted, h, yielded, hd, hf.look d _ hv]
theorem idle_u {o : Oper} {j d : Nat} {t : Bool} (h : o.guard = some (j, t)) (hd : (ops[j]?).bind (·.dst) = some d) (hv : l.lookup d = some undef) : Idle ops l o := fun a n hf => by
 simp [Region.wanted, h, yielded, hd, hf.look d _ hv, undef]
theorem gl_nil (h : Q .normal l L) : GL P n w0 ops [] l L Q := fun _ _ hf hs => ⟨l, L, hf, hs, h⟩
theorem glq_nil {K : FL → Prop} (h : K l) : GLq P n w0 ops [] l L K := fun _ hf => ⟨l, hf, h⟩
theorem gl_v {o : Oper} {v : Value} {d : Nat} (hw : Want ops l o) (hd : o.dst = some d) (hlt : d < n) (ho : OV P w0 L l o v) (k : GL P n w0 ops rest ((d, v) :: l) L Q) : GL P n w0 ops (o :: rest) l L Q := fun a w hf hs => by
 refine wpList_step fun K hK => ?_
 rw [if_pos (hw a n hf)]
 unfold Oper.wp
 rw [ho a n w hf hs]
 simp only [Oper.upon, hd]
 exact hK _ _ (k _ _ (hf.put d hlt v) hs)
theorem gl_idle {o : Oper} {d : Nat} (hw : Idle ops l o) (hd : o.dst = some d) (hlt : d < n) (k : GL P n w0 ops rest ((d, undef) :: l) L Q) : GL P n w0 ops (o :: rest) l L Q := fun a w hf hs => by
 refine wpList_step fun K hK => ?_
 rw [if_neg (by simp [hw a n hf])]
 simp only [hd]
 exact hK _ _ (k _ _ (hf.put d hlt undef) hs)
theorem glq_v {K : FL → Prop} {o : Oper} {v : Value} {d : Nat} (hw : Want ops l o) (hd : o.dst = some d) (hlt : d < n) (ho : OV P w0 L l o v) (k : GLq P n w0 ops rest ((d, v) :: l) L K) : GLq P n w0 ops (o :: rest) l L K := fun a hf => by
 refine wpQuiet_step fun K' hK => ?_
 rw [if_pos (hw a n hf)]
 refine ⟨v, fun w hs => ?_, ?_⟩
 ·unfold Oper.quietAt
  rw [ho a n w hf hs]
  exact ⟨rfl, rfl⟩
 ·simp only [hd]
  exact hK _ (k _ (hf.put d hlt v))
theorem glq_idle {K : FL → Prop} {o : Oper} {d : Nat} (hw : Idle ops l o) (hd : o.dst = some d) (hlt : d < n) (k : GLq P n w0 ops rest ((d, undef) :: l) L K) : GLq P n w0 ops (o :: rest) l L K := fun a hf => by
 refine wpQuiet_step fun K' hK => ?_
 rw [if_neg (by simp [hw a n hf])]
 simp only [hd]
 exact hK _ (k _ (hf.put d hlt undef))
def EF (P : Program) (n : Nat) (w0 : World) (l : FL) (L : HL) (o : Oper) (K : FL → HL → Prop) : Prop := ∀ a w, Fr a n l → St w0 w L → ∃ x w' v, (execOp a.eval o).run P w = .ok x w' ∧ ((x = .value v) ∨ (x = .skip ∧ v = undef)) ∧
 (∃ l' L', (∀ a', Fr a' n l → Fr (a'.put o.dst v) n l') ∧ St w0 w' L' ∧ K l' L')
theorem gl_w {o : Oper} (hw : Want ops l o) (h : EF P n w0 l L o fun l' L' => GL P n w0 ops rest l' L' Q) : GL P n w0 ops (o :: rest) l L Q := fun a w hf hs => by
 refine wpList_step fun K hK => ?_
 rw [if_pos (hw a n hf)]
 obtain ⟨x, w', v, h1, h2, l', L', h3, h4, h5⟩ := h a w hf hs
 unfold Oper.wp
 rw [h1]
 rcases h2 with rfl | ⟨rfl, rfl⟩
 ·exact hK _ _ (h5 _ _ (h3 a hf) h4)
 ·exact hK _ _ (h5 _ _ (h3 a hf) h4)
end
def rowT (P : Program) (t : TypeId) : Option Bool := (P.underlying t).map TypeDesc.isRow
def sizeT (P : Program) (t : TypeId) : Option Nat := (P.info? t).map (·.size)
def sliceT (P : Program) (t : TypeId) : Option TypeId := (P.underlying t).bind fun | .slice e => some e | _ => none
def arrayT (P : Program) (t : TypeId) : Option (Nat × TypeId) := (P.underlying t).bind fun | .array n e => some (n, e) | _ => none
def intT (P : Program) (t : TypeId) : Option IntKind := (P.underlying t).bind fun | .int k => some k | _ => none
def fieldT (P : Program) (t : TypeId) (i : Nat) : Option (Nat × TypeId) := (P.underlying t).bind fun | .struct fs => (fs[i]?).map fun f => (f.offset, f.type) | _ => none
def zeroT (P : Program) (t : TypeId) : Option Value := (P.info? t).bind (·.zero)
def bytesT (P : Program) (t : TypeId) : Option Nat := (P.info? t).map (·.bytes)
class BytesT (P : Program) (t : TypeId) (b : outParam Nat) : Prop where h : bytesT P t = some b
class RowT (P : Program) (t : TypeId) (b : outParam Bool) : Prop where h : rowT P t = some b
class SizeT (P : Program) (t : TypeId) (s : outParam Nat) : Prop where h : sizeT P t = some s
class SliceT (P : Program) (t : TypeId) (e : outParam TypeId) : Prop where h : sliceT P t = some e
class ArrayT (P : Program) (t : TypeId) (k : outParam Nat) (e : outParam TypeId) : Prop where h : arrayT P t = some (k, e)
class IntT (P : Program) (t : TypeId) (k : outParam IntKind) : Prop where h : intT P t = some k
class FieldT (P : Program) (t : TypeId) (i : Nat) (o : outParam Nat) (e : outParam TypeId) : Prop where h : fieldT P t i = some (o, e)
class ZeroT (P : Program) (t : TypeId) (z : outParam Value) : Prop where h : zeroT P t = some z
class AtL (b : Nat) (L : HL) (o : outParam Obj) (i : outParam Nat) : Prop where h : L[i]? = some (some b, o)
instance {b : Nat} {o : Obj} {r : HL} : AtL b ((some b, o) :: r) o 0 := ⟨rfl⟩
class SetL (L : HL) (i : Nat) (x : Option Nat × Obj) (L' : outParam HL) : Prop where h : L.set i x = L'
class CellsOf (v : Value) (C : outParam (List Value)) : Prop where h : v.cells = C.toArray
instance {k : IntKind} {n : Int} : CellsOf (.int k n) [.int k n] := ⟨rfl⟩
instance {a : Option Addr} {m c : Nat} : CellsOf (.slice a m c) [.slice a m c] := ⟨rfl⟩
section
variable {P : Program} {n : Nat} {w0 : World} {l : FL} {L : HL} {Q : GQ} {ops : Array Oper} {rest : List Oper}
theorem run_isAgg {t : TypeId} {b : Bool} (h : rowT P t = some b) (w : World) : (isAgg t).run P w = .ok b w := by
 unfold rowT at h
 cases hu : P.underlying t with
 | none => rw [hu] at h; simp at h
 | some d =>
  rw [hu] at h
  simp only [Option.map_some, Option.some.injEq] at h
  subst h
  unfold isAgg
  rw [Sem.run_bind, run_underlying hu w]
  cases d <;> rfl
theorem run_sizeOf {t : TypeId} {s : Nat} (h : sizeT P t = some s) (w : World) : (sizeOf t).run P w = .ok s w := by
 unfold sizeT at h
 cases hi : P.info? t with
 | none => rw [hi] at h; simp at h
 | some i =>
  rw [hi] at h
  simp only [Option.map_some, Option.some.injEq] at h
  subst h
  simp [sizeOf, typeInfo, hi]
theorem und_slice {t e : TypeId} (h : sliceT P t = some e) : P.underlying t = some (.slice e) := by
 unfold sliceT at h
 cases hu : P.underlying t with
 | none => rw [hu] at h; simp at h
 | some d => rw [hu] at h; cases d <;> simp at h; rw [h]
theorem und_array {t e : TypeId} {k : Nat} (h : arrayT P t = some (k, e)) : P.underlying t = some (.array k e) := by
 unfold arrayT at h
 cases hu : P.underlying t with
 | none => rw [hu] at h; simp at h
 | some d => rw [hu] at h; cases d <;> simp at h; rw [h.1, h.2]
theorem und_int {t : TypeId} {k : IntKind} (h : intT P t = some k) : P.underlying t = some (.int k) := by
 unfold intT at h
 cases hu : P.underlying t with
 | none => rw [hu] at h; simp at h
 | some d => rw [hu] at h; cases d <;> simp at h; rw [h]
theorem und_field {t e : TypeId} {i o : Nat} (h : fieldT P t i = some (o, e)) : ∃ fs f, P.underlying t = some (.struct fs) ∧ fs[i]? = some f ∧ f.offset = o ∧ f.type = e := by
 unfold fieldT at h
 cases hu : P.underlying t with
 | none => rw [hu] at h; simp at h
 | some d =>
  rw [hu] at h
  cases d <;> simp at h
  rename_i fs
  obtain ⟨f, hf, h1, h2⟩ := h
  exact ⟨fs, f, rfl, hf, h1, h2⟩
theorem ov_move {x : Operand} {v : Value} {dst : Option Tmp} {ty : TypeId} {ps : String} {af : Array Edge} {gd : Option (Nat × Bool)} (hx : evl l x = some v) : OV P w0 L l ⟨dst, .move x, ty, ps, af, gd⟩ v := fun a n w hf hs => by
 simp only [execOp, hf.ev hx]; rfl
theorem ov_assign {x : Operand} {v : Value} {dst : Option Tmp} {ty : TypeId} {ps : String} {af : Array Edge} {gd : Option (Nat × Bool)} (hx : evl l x = some v) : OV P w0 L l ⟨dst, .assign x, ty, ps, af, gd⟩ v := fun a n w hf hs => by
 simp only [execOp, hf.ev hx]; rfl
theorem ov_pickT {c x y : Operand} {v : Value} {dst : Option Tmp} {ty : TypeId} {ps : String} {af : Array Edge} {gd : Option (Nat × Bool)} (hc : evl l c = some (.bool true)) (hx : evl l x = some v) : OV P w0 L l ⟨dst, .pick c x y, ty, ps, af, gd⟩ v := fun a n w hf hs => by
 simp only [execOp, hf.ev hc, hf.ev hx]; rfl
theorem ov_pickF {c x y : Operand} {v : Value} {dst : Option Tmp} {ty : TypeId} {ps : String} {af : Array Edge} {gd : Option (Nat × Bool)} (hc : evl l c = some (.bool false)) (hy : evl l y = some v) : OV P w0 L l ⟨dst, .pick c x y, ty, ps, af, gd⟩ v := fun a n w hf hs => by
 simp only [execOp, hf.ev hc, hf.ev hy]; rfl
theorem eqGuard_int (op : BinOp) (t : TypeId) (x y : Operand) (k k' : IntKind) (a b : Int) : eqGuard op t x y (.int k a) (.int k' b) = pure () := by
 cases op <;> rfl
theorem ov_int {op : BinOp} {t t' : TypeId} {x y : Operand} {k k' : IntKind} {p q : Int} {v : Value} {dst : Option Tmp} {ty : TypeId} {ps : String} {af : Array Edge} {gd : Option (Nat × Bool)}
  (hx : evl l x = some (.int k p)) (hy : evl l y = some (.int k' q)) (hr : binOp op t (.int k p) (.int k' q) = pure v) : OV P w0 L l ⟨dst, .binOp op t x y t', ty, ps, af, gd⟩ v := fun a n w hf hs => by
 simp only [execOp, hf.ev hx, hf.ev hy, eqGuard_int, hr]
 rfl
theorem bin_add (t : TypeId) (k : IntKind) (p q : Int) : binOp .add t (.int k p) (.int k q) = pure (.int k (k.wrap (p + q))) := by simp [binOp, Op.intArith]
theorem bin_sub (t : TypeId) (k : IntKind) (p q : Int) : binOp .sub t (.int k p) (.int k q) = pure (.int k (k.wrap (p - q))) := by simp [binOp, Op.intArith]
theorem bin_mul (t : TypeId) (k : IntKind) (p q : Int) : binOp .mul t (.int k p) (.int k q) = pure (.int k (k.wrap (p * q))) := by simp [binOp, Op.intArith]
theorem bin_lss (t : TypeId) (k : IntKind) (p q : Int) : binOp .lss t (.int k p) (.int k q) = pure (.bool (decide (p < q))) := by simp [binOp, Op.intCmp]
theorem bin_leq (t : TypeId) (k : IntKind) (p q : Int) : binOp .leq t (.int k p) (.int k q) = pure (.bool (decide (p ≤ q))) := by simp [binOp, Op.intCmp]
theorem bin_gtr (t : TypeId) (k : IntKind) (p q : Int) : binOp .gtr t (.int k p) (.int k q) = pure (.bool (decide (q < p))) := by simp [binOp, Op.intCmp]
theorem bin_geq (t : TypeId) (k : IntKind) (p q : Int) : binOp .geq t (.int k p) (.int k q) = pure (.bool (decide (q ≤ p))) := by simp [binOp, Op.intCmp]
theorem bin_eql (t : TypeId) (k : IntKind) (p q : Int) : binOp .eql t (.int k p) (.int k q) = pure (.bool (p == q)) := by simp [binOp, Op.intCmp]
theorem bin_neq (t : TypeId) (k : IntKind) (p q : Int) : binOp .neq t (.int k p) (.int k q) = pure (.bool (p != q)) := by simp [binOp, Op.intCmp]
theorem bin_and (t : TypeId) (k : IntKind) (p q : Int) : binOp .and t (.int k p) (.int k q) = pure (.int k (k.wrap (BitVec.ofInt k.bits p &&& BitVec.ofInt k.bits q).toNat)) := by simp [binOp, Op.intBits]
theorem bin_or (t : TypeId) (k : IntKind) (p q : Int) : binOp .or t (.int k p) (.int k q) = pure (.int k (k.wrap (BitVec.ofInt k.bits p ||| BitVec.ofInt k.bits q).toNat)) := by simp [binOp, Op.intBits]
theorem bin_xor (t : TypeId) (k : IntKind) (p q : Int) : binOp .xor t (.int k p) (.int k q) = pure (.int k (k.wrap (BitVec.ofInt k.bits p ^^^ BitVec.ofInt k.bits q).toNat)) := by simp [binOp, Op.intBits]
theorem bin_quo (t : TypeId) (k : IntKind) (p q : Int) (h : q ≠ 0) : binOp .quo t (.int k p) (.int k q) = pure (.int k (k.wrap (p.tdiv q))) := by simp [binOp, Op.intDiv, h]
theorem bin_rem (t : TypeId) (k : IntKind) (p q : Int) (h : q ≠ 0) : binOp .rem t (.int k p) (.int k q) = pure (.int k (p.tmod q)) := by simp [binOp, Op.intDiv, h]
theorem bin_shl (t : TypeId) (k k' : IntKind) (p q : Int) (h : 0 ≤ q) : binOp .shl t (.int k p) (.int k' q) = pure (.int k (k.wrap (p * 2 ^ min q.toNat k.bits))) := by simp [binOp, Op.shift, show ¬ q < 0 by omega]
theorem bin_shr (t : TypeId) (k k' : IntKind) (p q : Int) (h : 0 ≤ q) : binOp .shr t (.int k p) (.int k' q) = pure (.int k (p.fdiv (2 ^ min q.toNat k.bits))) := by simp [binOp, Op.shift, show ¬ q < 0 by omega]
theorem ov_not {t : TypeId} {x : Operand} {b : Bool} {dst : Option Tmp} {ty : TypeId} {ps : String} {af : Array Edge} {gd : Option (Nat × Bool)} (hx : evl l x = some (.bool b)) : OV P w0 L l ⟨dst, .unOp .not t x, ty, ps, af, gd⟩ (.bool !b) := fun a n w hf hs => by
 simp only [execOp, hf.ev hx]; rfl
theorem ov_conv {s t : TypeId} {x : Operand} {k k' : IntKind} {p : Int} {dst : Option Tmp} {ty : TypeId} {ps : String} {af : Array Edge} {gd : Option (Nat × Bool)} (hx : evl l x = some (.int k p)) [hs' : IntT P s k] [ht : IntT P t k'] :
  OV P w0 L l ⟨dst, .convert s t x, ty, ps, af, gd⟩ (.int k' (k'.wrap p)) := fun a n w hf hs => by
 simp only [execOp, hf.ev hx, convert, Sem.run_bind, run_underlying (und_int hs'.h) w, run_underlying (und_int ht.h) w, Result.andThen_ok]
 rfl
theorem ov_len {t e : TypeId} {x : Operand} {A : Option Addr} {m c : Nat} {dst : Option Tmp} {ty : TypeId} {ps : String} {af : Array Edge} {gd : Option (Nat × Bool)} (hx : evl l x = some (.slice A m c)) [ht : SliceT P t e] :
  OV P w0 L l ⟨dst, .call { callee := .builtin .len, args := #[x], argTypes := #[t] }, ty, ps, af, gd⟩ (.int .i64 m) := fun a n w hf hs => by
 simp [execOp, hf.ev hx, resolve, invoke, builtin, Builtin.len_, run_underlying (und_slice ht.h) w, goInt]
theorem ov_extract {i : Nat} {x : Operand} {vs : Array Value} {v : Value} {dst : Option Tmp} {ty : TypeId} {ps : String} {af : Array Edge} {gd : Option (Nat × Bool)} (hx : evl l x = some (.tuple vs)) (hv : vs[i]? = some v) : OV P w0 L l ⟨dst, .extract x i, ty, ps, af, gd⟩ v := fun a n w hf hs => by
 simp only [execOp, hf.ev hx, Instr.extract, hv]; rfl
theorem ov_fa {t e : TypeId} {x : Operand} {b o i f s : Nat} {dst : Option Tmp} {ty : TypeId} {ps : String} {af : Array Edge} {gd : Option (Nat × Bool)} (hx : evl l x = some (.pointer (some ⟨b, o, none⟩))) [hT : FieldT P t i f e] [hz : SizeT P e (s + 1)] :
  OV P w0 L l ⟨dst, .fieldAddr t x i, ty, ps, af, gd⟩ (.pointer (some ⟨b, o + f, none⟩)) := fun a n w hf hs => by
 obtain ⟨fs, fd, h1, h2, rfl, rfl⟩ := und_field hT.h
 simp [execOp, hf.ev hx, Instr.fieldAt, run_underlying h1 w, h2, Instr.sureAddr, fieldPlace, run_sizeOf hz.h w, Addr.add_mid]
theorem ov_ia {t e : TypeId} {x y : Operand} {A : Option Addr} {m c s : Nat} {k : IntKind} {i : Int} {dst : Option Tmp} {ty : TypeId} {ps : String} {af : Array Edge} {gd : Option (Nat × Bool)} (hx : evl l x = some (.slice A m c)) (hy : evl l y = some (.int k i))
  [ht : SliceT P t e] [hz : SizeT P e s] (h0 : 0 ≤ i) (h1 : i < m) (hA : A ≠ none) : OV P w0 L l ⟨dst, .indexAddr t x y, ty, ps, af, gd⟩ (.pointer (A.map (·.add (i.toNat * s)))) := fun a n w hf hs => by
 cases A with
 | none => exact absurd rfl hA
 | some ad => simp [execOp, hf.ev hx, hf.ev hy, Instr.indexAt, asIntOf, run_underlying (und_slice ht.h) w, h0, h1, run_sizeOf hz.h w]
def overC (C : List Value) (o : Nat) (vs : List Value) : List Value := C.take o ++ vs ++ C.drop (o + vs.length)
theorem overC_len {C vs : List Value} {o : Nat} (h : o + vs.length ≤ C.length) : (overC C o vs).length = C.length := by simp [overC]; omega
theorem foldl_set : ∀ (vs : List Value) (o : Nat) (C : List Value), o + vs.length ≤ C.length → (vs.zipIdx o).foldl (fun (cs : Array Value) (x : Value × Nat) => cs.setIfInBounds x.2 x.1) C.toArray = (overC C o vs).toArray
 | [], o, C, _ => by simp [overC]
 | v :: r, o, C, h => by
  simp only [List.length_cons] at h
  rw [List.zipIdx_cons, List.foldl_cons]
  show List.foldl _ (C.toArray.setIfInBounds o v) _ = _
  rw [show C.toArray.setIfInBounds o v = (C.set o v).toArray by simp, foldl_set r (o + 1) (C.set o v) (by simp; omega)]
  ·simp only [overC]
   rw [List.take_set, List.drop_set, if_pos (by omega), List.take_succ_eq_append_getElem (by omega), List.set_append_right _ _ (by simp; omega)]
   have e : o - (List.take o C).length = 0 := by simp; omega
   rw [e]
   simp only [List.set_cons_zero, List.length_cons, List.append_assoc, List.cons_append, List.nil_append]
   rw [show o + 1 + r.length = o + (r.length + 1) by omega]
def putAll : List Value → List (Nat × List Value) → List Value
 | C, [] => C
 | C, (o, vs) :: r => putAll (overC C o vs) r
inductive Parts (l : FL) (place : Nat → Option (Nat × Nat)) (m : Nat) : List (Nat × Operand) → List (Nat × List Value) → Prop
 | nil : Parts l place m [] []
 | cons {i o s : Nat} {x : Operand} {v : Value} {vs : List Value} {r : List (Nat × Operand)} {q : List (Nat × List Value)} (hx : evl l x = some v) (hc : CellsOf v vs) (hp : place i = some (o, s)) (hl : vs.length = s) (hm : o + s ≤ m) (h : Parts l place m r q) : Parts l place m ((i, x) :: r) ((o, vs) :: q)
theorem fill_parts {place : Nat → Option (Nat × Nat)} {a : Act} (hf : Fr a n l) : ∀ {ps : List (Nat × Operand)} {qs : List (Nat × List Value)} {m : Nat} (C : List Value), Parts l place m ps qs → C.length = m →
  Instr.fill place C.toArray (ps.map fun x => (x.1, a.eval x.2)) = some (putAll C qs).toArray
 | _, _, _, C, .nil, _ => rfl
 | _, _, m, C, .cons (i := i) (o := o) (x := x) (v := v) (vs := vs) (r := r) (q := q) hx hc hp hl hm h, hC => by
  subst hl
  have hcs : v.cells = vs.toArray := hc.h
  simp only [List.map_cons, Instr.fill, hf.ev hx, hp, hcs, List.size_toArray, ne_eq, not_true_eq_false, decide_false, Bool.false_or, putAll]
  rw [if_neg (by first | (simp; done) | (simp; omega))]
  have h1 := foldl_set vs o C (by omega)
  have h2 : (vs.toArray.zipIdx.foldl (fun (cs : Array Value) (x : Value × Nat) => cs.setIfInBounds (o + x.2) x.1) C.toArray) = (overC C o vs).toArray := by
   rw [← h1]
   rw [← Array.foldl_toList]
   simp only [Array.toList_zipIdx]
   have : vs.zipIdx o = (vs.zipIdx 0).map fun x => (x.1, o + x.2) := by
    rw [List.zipIdx_eq_map_add]
    first | done | simp [Nat.add_comm]
   rw [this, List.foldl_map]
  refine Eq.trans ?_ (fill_parts hf (overC C o vs) h (by rw [overC_len (by omega)]; exact hC))
  rw [← h2]
theorem run_mapM_places (w : World) : ∀ (fs : List Field) (ps : List (Nat × Nat)), (fs.mapM fun f => (sizeT P f.type).map fun s => (f.offset, s)) = some ps → (fs.mapM fun f => (do pure (f.offset, ← sizeOf f.type) : Sem (Nat × Nat))).run P w = .ok ps w
 | [], ps, h => by simp at h; subst h; rfl
 | f :: r, ps, h => by
  rw [List.mapM_cons] at h
  cases hz : sizeT P f.type with
  | none => rw [hz] at h; simp at h
  | some s =>
   rw [hz] at h
   cases hr : (r.mapM fun f => (sizeT P f.type).map fun s => (f.offset, s)) with
   | none => rw [hr] at h; simp at h
   | some qs =>
    rw [hr] at h
    simp at h
    subst h
    rw [List.mapM_cons]
    simp only [Sem.run_bind, run_sizeOf hz w, Result.andThen_ok, Sem.run_pure, run_mapM_places w r qs hr]
def Lies (w0 : World) (L : HL) (q : Option Addr) (cs : List Value) : Prop := ∀ w, St w0 w L → ∃ ad, q = some ad ∧ ∀ j v, cs[j]? = some v → w.cell? (ad.add j) = some v
theorem lies_loc {i b o k : Nat} {C : List Value} {E : TypeId} {fz : Nat × Nat} (h : L[i]? = some (some b, .cells C.toArray E fz)) : Lies w0 L (some ⟨b, o, none⟩) ((C.drop o).take k) := fun w hs => by
 refine ⟨_, rfl, fun j v hv => ?_⟩
 have h1 := (hs.has i b _ h).1
 rw [Addr.add_mid]
 simp only [World.cell?, h1]
 rw [List.getElem?_take] at hv
 split at hv
 ·simpa using hv
 ·simp at hv
theorem lies_one {q : Option Addr} {v : Value} (h : Lies w0 L q [v]) {w : World} (hs : St w0 w L) : ∃ ad, q = some ad ∧ w.cell? ad = some v := by
 obtain ⟨ad, h1, h2⟩ := h w hs
 refine ⟨ad, h1, ?_⟩
 have := h2 0 v rfl
 simpa [Addr.add] using this
theorem ov_ld {t : TypeId} {x : Operand} {q : Option Addr} {v : Value} {dst : Option Tmp} {ty : TypeId} {ps : String} {af : Array Edge} {gd : Option (Nat × Bool)} (hx : evl l x = some (.pointer q)) [ht : RowT P t false] (hq : Lies w0 L q [v]) :
  OV P w0 L l ⟨dst, .load t x, ty, ps, af, gd⟩ v := fun a n w hf hs => by
 obtain ⟨ad, rfl, hc⟩ := lies_one hq hs
 simp [execOp, hf.ev hx, Instr.loadAt, Instr.sureAddr, loadVar, run_isAgg ht.h w, load, Sem.run, hc]
theorem ov_ldl {t : TypeId} {x : Operand} {b o i : Nat} {C : List Value} {E : TypeId} {fz : Nat × Nat} {v : Value} {dst : Option Tmp} {ty : TypeId} {ps : String} {af : Array Edge} {gd : Option (Nat × Bool)} (hx : evl l x = some (.pointer (some ⟨b, o, none⟩))) [ht : RowT P t false]
  [hL : AtL b L (.cells C.toArray E fz) i] (hv : C[o]? = some v) : OV P w0 L l ⟨dst, .load t x, ty, ps, af, gd⟩ v := ov_ld hx (by
 have := lies_loc (w0 := w0) (o := o) (k := 1) hL.h
 have hl : o < C.length := (List.getElem?_eq_some_iff.1 hv).1
 rw [List.drop_eq_getElem_cons hl, List.take_succ_cons, List.take_zero] at this
 rw [List.getElem?_eq_getElem hl] at hv
 obtain rfl := Option.some.inj hv
 exact this)
theorem gn {o : Oper} {v : Value} {d : Nat} (hg : o.guard = none) (hd : o.dst = some d) (hlt : Nat.ble (d + 1) n = true) (ho : OV P w0 L l o v) (k : GL P n w0 ops rest ((d, v) :: l) L Q) : GL P n w0 ops (o :: rest) l L Q :=
 gl_v (want_n hg) hd (Nat.le_of_ble_eq_true hlt) ho k
theorem gg {o : Oper} {v : Value} {d j e : Nat} {t : Bool} (h : o.guard = some (j, t)) (he : (ops[j]?).bind (·.dst) = some e) (hv : l.lookup e = some (.bool t)) (hd : o.dst = some d) (hlt : Nat.ble (d + 1) n = true) (ho : OV P w0 L l o v) (k : GL P n w0 ops rest ((d, v) :: l) L Q) : GL P n w0 ops (o :: rest) l L Q :=
 gl_v (want_g h he hv) hd (Nat.le_of_ble_eq_true hlt) ho k
theorem gi {o : Oper} {d j e : Nat} {t : Bool} (h : o.guard = some (j, t)) (he : (ops[j]?).bind (·.dst) = some e) (hv : l.lookup e = some (.bool !t)) (hd : o.dst = some d) (hlt : Nat.ble (d + 1) n = true) (k : GL P n w0 ops rest ((d, undef) :: l) L Q) : GL P n w0 ops (o :: rest) l L Q :=
 gl_idle (idle_g h he hv) hd (Nat.le_of_ble_eq_true hlt) k
theorem gu {o : Oper} {d j e : Nat} {t : Bool} (h : o.guard = some (j, t)) (he : (ops[j]?).bind (·.dst) = some e) (hv : l.lookup e = some undef) (hd : o.dst = some d) (hlt : Nat.ble (d + 1) n = true) (k : GL P n w0 ops rest ((d, undef) :: l) L Q) : GL P n w0 ops (o :: rest) l L Q :=
 gl_idle (idle_u h he hv) hd (Nat.le_of_ble_eq_true hlt) k
theorem qn {K : FL → Prop} {o : Oper} {v : Value} {d : Nat} (hg : o.guard = none) (hd : o.dst = some d) (hlt : Nat.ble (d + 1) n = true) (ho : OV P w0 L l o v) (k : GLq P n w0 ops rest ((d, v) :: l) L K) : GLq P n w0 ops (o :: rest) l L K :=
 glq_v (want_n hg) hd (Nat.le_of_ble_eq_true hlt) ho k
theorem qg {K : FL → Prop} {o : Oper} {v : Value} {d j e : Nat} {t : Bool} (h : o.guard = some (j, t)) (he : (ops[j]?).bind (·.dst) = some e) (hv : l.lookup e = some (.bool t)) (hd : o.dst = some d) (hlt : Nat.ble (d + 1) n = true) (ho : OV P w0 L l o v) (k : GLq P n w0 ops rest ((d, v) :: l) L K) : GLq P n w0 ops (o :: rest) l L K :=
 glq_v (want_g h he hv) hd (Nat.le_of_ble_eq_true hlt) ho k
theorem qi {K : FL → Prop} {o : Oper} {d j e : Nat} {t : Bool} (h : o.guard = some (j, t)) (he : (ops[j]?).bind (·.dst) = some e) (hv : l.lookup e = some (.bool !t)) (hd : o.dst = some d) (hlt : Nat.ble (d + 1) n = true) (k : GLq P n w0 ops rest ((d, undef) :: l) L K) : GLq P n w0 ops (o :: rest) l L K :=
 glq_idle (idle_g h he hv) hd (Nat.le_of_ble_eq_true hlt) k
theorem qu {K : FL → Prop} {o : Oper} {d j e : Nat} {t : Bool} (h : o.guard = some (j, t)) (he : (ops[j]?).bind (·.dst) = some e) (hv : l.lookup e = some undef) (hd : o.dst = some d) (hlt : Nat.ble (d + 1) n = true) (k : GLq P n w0 ops rest ((d, undef) :: l) L K) : GLq P n w0 ops (o :: rest) l L K :=
 glq_idle (idle_u h he hv) hd (Nat.le_of_ble_eq_true hlt) k
theorem heap_setCell_at {w : World} {b o : Nat} {C : Array Value} {E : TypeId} {fz : Nat × Nat} (h : w.heap[b]? = some (.cells C E fz)) (v : Value) : (w.setCell ⟨b, o, none⟩ v).heap[b]? = some (.cells (C.setIfInBounds o v) E fz) := by
 simp only [World.setCell, Array.getElem?_modify]
 rw [if_pos trivial, h]
 rfl
theorem toArray_set (C : List Value) (o : Nat) (v : Value) : (C.set o v).toArray = C.toArray.setIfInBounds o v := by simp
theorem ef_st {K : FL → HL → Prop} {t : TypeId} {x y : Operand} {i b o : Nat} {C : List Value} {E : TypeId} {fz : Nat × Nat} {v : Value} {ty : TypeId} {ps : String} {af : Array Edge} {gd : Option (Nat × Bool)}
  {L' : HL} (hx : evl l x = some (.pointer (some ⟨b, o, none⟩))) (hy : evl l y = some v) [hL : AtL b L (.cells C.toArray E fz) i] (ho : o < C.length) (hfz : (decide (fz.1 ≤ o) && decide (o < fz.2)) = false) (h1 : v.oneCell' = true)
  [hz : SizeT P t 1] [hS : SetL L i (some b, .cells (C.set o v).toArray E fz) L'] (k : K l L') : EF P n w0 l L ⟨none, .store t x y, ty, ps, af, gd⟩ K := fun a w hf hs => by
  have hL := hL.h
  have hb := (hs.has i b _ hL).1
  have hc : w.cell? ⟨b, o, none⟩ = some (C[o]) := by simp [World.cell?, hb, ho]
  have hfr : w.frozen? ⟨b, o, none⟩ = false := by simp only [World.frozen?, hb]; exact hfz
  have hcs : v.cells = #[v] := by cases v <;> first | rfl | simp [Value.oneCell'] at h1
  refine ⟨.skip, w.setCell ⟨b, o, none⟩ v, undef, ?_, .inr ⟨rfl, rfl⟩, l, _, fun a' hf' => hf', ?_, k⟩
  ·simp only [execOp, hf.ev hx, hf.ev hy, Instr.storeAt, Instr.sureAddr, storeVar]
   have e0 : (⟨b, o, none⟩ : Addr).add 0 = ⟨b, o, none⟩ := rfl
   have hst : (store ⟨b, o, none⟩ v).run P w = .ok () (w.setCell ⟨b, o, none⟩ v) := by
    cases v <;> first | (simp [Value.oneCell'] at h1; done) | simp [store, Sem.run, hc, hfr]
   simp [run_sizeOf hz.h w, hcs, storeCells, e0, hst]
  ·rw [← hS.h, toArray_set]
   exact hs.upd i b _ _ hL rfl rfl rfl (by simp [World.setCell]) (heap_setCell_at hb v) fun k hk _ => Below.heap_setCell _ _ _ _ hk
theorem heap_setCells_at {b : Nat} {E : TypeId} {fz : Nat × Nat} : ∀ (vs : List Value) (o : Nat) (w : World) (C : List Value), w.heap[b]? = some (.cells C.toArray E fz) → o + vs.length ≤ C.length →
  (w.setCells b o vs).heap[b]? = some (.cells (C.take o ++ vs ++ C.drop (o + vs.length)).toArray E fz)
 | [], o, w, C, h, hl => by simp [World.setCells, h]
 | v :: r, o, w, C, h, hl => by
  simp only [List.length_cons] at hl
  have h2 := heap_setCell_at (o := o) h v
  rw [← toArray_set] at h2
  rw [World.setCells, heap_setCells_at r (o + 1) _ (C.set o v) h2 (by simp; omega)]
  congr 3
  rw [List.take_set, List.drop_set]
  rw [if_pos (by omega), List.take_succ_eq_append_getElem (by omega), List.set_append_right _ _ (by simp; omega)]
  have e : o - (List.take o C).length = 0 := by simp; omega
  rw [e]
  simp only [List.set_cons_zero, List.length_cons, List.append_assoc, List.cons_append, List.nil_append]
  rw [show o + 1 + r.length = o + (r.length + 1) by omega]
theorem heap_setCells_other {b : Nat} : ∀ (vs : List Value) (o : Nat) (w : World) (k : Nat), k ≠ b → (w.setCells b o vs).heap[k]? = w.heap[k]?
 | [], _, _, _, _ => rfl
 | v :: r, o, w, k, h => by rw [World.setCells, heap_setCells_other r (o + 1) _ k h]; exact Below.heap_setCell _ _ _ _ h
theorem setCells_rest {b : Nat} : ∀ (vs : List Value) (o : Nat) (w : World), (w.setCells b o vs).os = w.os ∧ (w.setCells b o vs).tape = w.tape ∧ (w.setCells b o vs).output = w.output ∧ (w.setCells b o vs).heap.size = w.heap.size
 | [], _, _ => ⟨rfl, rfl, rfl, rfl⟩
 | v :: r, o, w => by
  obtain ⟨h1, h2, h3, h4⟩ := setCells_rest r (o + 1) (w.setCell ⟨b, o, none⟩ v)
  exact ⟨h1, h2, h3, by rw [World.setCells, h4]; simp [World.setCell]⟩
theorem St.over {w : World} (hs : St w0 w L) {i b o : Nat} {C vs : List Value} {E : TypeId} {fz : Nat × Nat} (hL : L[i]? = some (some b, .cells C.toArray E fz)) (ho : o + vs.length ≤ C.length) :
  St w0 (w.setCells b o vs) (L.set i (some b, .cells (C.take o ++ vs ++ C.drop (o + vs.length)).toArray E fz)) := by
 have hb := (hs.has i b _ hL).1
 obtain ⟨h1, h2, h3, h4⟩ := setCells_rest (b := b) vs o w
 exact hs.upd i b _ _ hL h1 h2 h3 (by rw [h4]; exact Nat.le_refl _) (heap_setCells_at vs o w C hb ho) fun k hk _ => heap_setCells_other vs o w k hk
def Cl (P : Program) (f : FuncId) (args : Array Value) (w : World) (R : Value → HL → Prop) : Prop := Calls P f args w fun e w' => ∃ v N, e = .returned v ∧ St w w' N ∧ R v N
theorem Cl.mono {f : FuncId} {args : Array Value} {w : World} {R R' : Value → HL → Prop} (h : Cl P f args w R) (hr : ∀ v N, R v N → R' v N) : Cl P f args w R' :=
 Calls.mono h fun _ _ ⟨v, N, h1, h2, h3⟩ => ⟨v, N, h1, h2, hr v N h3⟩
def callT (P : Program) (f : FuncId) : Bool := match P.funcs[f]? with | some fn => !(fn.name == "runtime.NumGoroutine") && fn.body.isSome | none => false
theorem run_callT {f : FuncId} (h : callT P f = true) (args : Array Value) (w : World) : (callFunc f args).run P w = .ok (.enter f args) w := by
 unfold callT at h
 cases hf : P.funcs[f]? with
 | none => rw [hf] at h; simp at h
 | some fn =>
  rw [hf] at h
  simp only [Bool.and_eq_true, Bool.not_eq_true'] at h
  cases hb : fn.body with
  | none => rw [hb] at h; simp at h
  | some c => exact MuLone.run_callFunc_enter hf h.1 hb args w
def evls (l : FL) : List Operand → Option (List Value)
 | [] => some []
 | x :: r => (evl l x).bind fun v => (evls l r).map (v :: ·)
theorem Fr.evs {a : Act} {l : FL} (h : Fr a n l) : ∀ {xs : List Operand} {vs : List Value}, evls l xs = some vs → xs.map a.eval = vs
 | [], vs, hx => by simp [evls] at hx; simp [hx]
 | x :: r, vs, hx => by
  simp only [evls] at hx
  cases hv : evl l x with
  | none => rw [hv] at hx; simp at hx
  | some v =>
   rw [hv] at hx
   simp only [Option.bind_some] at hx
   cases hr : evls l r with
   | none => rw [hr] at hx; simp at hx
   | some us =>
    rw [hr] at hx
    simp at hx
    subst hx
    simp [h.ev hv, h.evs hr]
def Res (P : Program) (w0 : World) (rs : Array ResultVar) (l : FL) (L : HL) (v : Value) : Prop := ∀ (a : Act) (n : Nat) (w : World) (fn : Func), fn.results = rs → Fr a n l → St w0 w L → (results fn a.tmps).run P w = .ok v w
theorem Fr.getD {a : Act} (h : Fr a n l) {t : Nat} {v : Value} (ht : l.lookup t = some v) : a.tmps.getD t undef = v := by
 rw [Array.getD_eq_getD_getElem?, h.look t v ht]; rfl
def resF (tmps : Array Value) (r : ResultVar) : Sem Value := match r with | .tmp t => pure (tmps.getD t undef) | .cell x t => do loadVar t (← asAddr (tmps.getD x undef))
theorem results_eq (fn : Func) (tmps : Array Value) : results fn tmps = (do let vs ← fn.results.mapM (resF tmps); pure (if h : vs.size = 1 then vs[0] else .tuple vs)) := by
 unfold results
 congr 1
theorem res_1 {t : Nat} {v : Value} (ht : l.lookup t = some v) : Res P w0 #[.tmp t] l L v := fun a n w fn h hf hs => by rw [results_tmp h, hf.getD ht]
def GQend (P : Program) (w0 : World) (rs : Array ResultVar) (R : Value → HL → Prop) : GQ
 | .normal, l, L | .ret, l, L => ∃ v, Res P w0 rs l L v ∧ R v L
 | _, _, _ => False
def argsFL : Nat → List Value → FL
 | _, [] => []
 | i, v :: r => (i, v) :: argsFL (i + 1) r
theorem argsFL_look : ∀ (vs : List Value) (i t : Nat) (v : Value), (argsFL i vs).lookup t = some v → i ≤ t ∧ vs[t - i]? = some v
 | [], i, t, v, h => by simp [argsFL] at h
 | u :: r, i, t, v, h => by
  simp only [argsFL] at h
  by_cases e : t = i
  ·subst e
   rw [lookup_cons_eq] at h
   obtain rfl := Option.some.inj h
   simp
  ·rw [lookup_cons_ne e] at h
   obtain ⟨h1, h2⟩ := argsFL_look r (i + 1) t v h
   refine ⟨by omega, ?_⟩
   rw [show t - i = (t - (i + 1)) + 1 by omega]
   simpa using h2
end
attribute [irreducible] OV EF G GL GLq Cl
/- Vw: the machine's memory against the world's. By this project. -/
noncomputable def renEs (E : Env) (es : List (V × V × Nat)) : Option (List MapEntry) := mapO (fun e => (ren E e.1).bind fun k => (ren E e.2.1).map fun v => MapEntry.mk k v e.2.2) es
def ObjRep (E : Env) (o : VO) (e : Nat × Nat × Nat) (x : Obj) (ro : Bool := false) : Prop := match o with
 | .cells cs t op mk => ∃ pre l sp fz, renL E cs = some l ∧ l.all (·.oneCell') = true ∧ pre.length = e.2.1 ∧ x = .cells (pre ++ l ++ sp).toArray t fz ∧ (op = none → sp = [] ∧ e.2.2 = 0) ∧ (∀ s, op = some s → sp.length = e.2.2 * s) ∧
  (mk = false → fz = (0, 0)) ∧ (fz = (0, 0) ∨ fz = ((pre ++ l ++ sp).length, (pre ++ l ++ sp).length + 1) ∨ ro = true)
 | .map es clock => e.2 = (0, 0) ∧ ∃ l, renEs E es = some l ∧ x = .map l.toArray clock
 | .iter m since seen last => e.2 = (0, 0) ∧ (match m with
  | none => x = .mapIter none since seen.toArray last
  | some h => ∃ f, E h = some f ∧ x = .mapIter (some f.1) since seen.toArray last)
theorem renEs_mono {E E' : Env} (h : E.le E') : ∀ {es : List (V × V × Nat)} {l : List MapEntry}, renEs E es = some l → renEs E' es = some l
 | [], l, hl => hl
 | e :: r, l, hl => by
  unfold renEs at hl ⊢
  rw [mapO_cons] at hl ⊢
  cases h1 : ren E e.1 with
  | none => rw [h1] at hl; simp at hl
  | some k =>
   cases h2 : ren E e.2.1 with
   | none => rw [h1, h2] at hl; simp at hl
   | some v =>
    rw [h1, h2] at hl
    rw [ren_mono h h1, ren_mono h h2]
    cases h3 : mapO (fun e : V × V × Nat => (ren E e.1).bind fun k => (ren E e.2.1).map fun v => MapEntry.mk k v e.2.2) r with
    | none => rw [h3] at hl; simp at hl
    | some t =>
     rw [h3] at hl
     have := renEs_mono h (es := r) (l := t) h3
     unfold renEs at this
     rw [this]
     exact hl
theorem ObjRep.any {E : Env} {o : VO} {e : Nat × Nat × Nat} {x : Obj} {ro : Bool} (k : ObjRep E o e x) : ObjRep E o e x ro := by
 cases o with
 | cells cs t op mk =>
  obtain ⟨pre, l, sp, fz, h1, h2, h3, h4, h5, h6, h7, h8⟩ := k
  refine ⟨pre, l, sp, fz, h1, h2, h3, h4, h5, h6, h7, ?_⟩
  rcases h8 with h | h | h
  ·exact .inl h
  ·exact .inr (.inl h)
  ·simp at h
 | map es clock => exact k
 | iter m since seen last => exact k
theorem ObjRep.mono {E E' : Env} (h : E.le E') {o : VO} {e : Nat × Nat × Nat} {x : Obj} {ro : Bool} (k : ObjRep E o e x ro) : ObjRep E' o e x ro := by
 cases o with
 | cells cs t op mk =>
  obtain ⟨pre, l, sp, fz, h1, h2⟩ := k
  exact ⟨pre, l, sp, fz, renL_mono h h1, h2⟩
 | map es clock =>
  obtain ⟨h0, l, h1, h2⟩ := k
  exact ⟨h0, l, renEs_mono h h1, h2⟩
 | iter m since seen last =>
  obtain ⟨h0, h1⟩ := k
  refine ⟨h0, ?_⟩
  cases m with
  | none => exact h1
  | some m => obtain ⟨f, h1, h2⟩ := h1; exact ⟨f, h _ _ h1, h2⟩
structure Rep (E : Env) (t : Tr VO) (w : World) : Prop where
 has : ∀ h o, t.get h = some o → ∃ e x, E h = some e ∧ w.heap[e.1]? = some x ∧ ObjRep E o e x (roB h)
 inj : ∀ h h' o o' e e', t.get h = some o → t.get h' = some o' → E h = some e → E h' = some e' → e.1 = e'.1 → h = h' ∨ (roB h = true ∧ roB h' = true)
structure Frm (E : Env) (t : Tr VO) (w : World) (E' : Env) (t' : Tr VO) (w' : World) : Prop where
 os : w'.os = w.os
 tape : w'.tape = w.tape
 output : w'.output = w.output
 size : w.heap.size ≤ w'.heap.size
 keep : ∀ k, k < w.heap.size → (∀ h o e, t.get h = some o → E h = some e → roB h = false → e.1 ≠ k) → w'.heap[k]? = w.heap[k]?
 new : ∀ h o e, t'.get h = some o → E' h = some e → roB h = false → (∃ h0 o0 e0, t.get h0 = some o0 ∧ E h0 = some e0 ∧ roB h0 = false ∧ e0.1 = e.1) ∨ w.heap.size ≤ e.1
structure Out (E : Env) (hp : Hp) (w : World) (E' : Env) (hp' : Hp) (w' : World) : Prop where
 le : E.le E'
 off : ∀ h, (h < hp.nx ∨ hp'.nx ≤ h) → E' h = E h
 rep : Rep E' hp'.t w'
 frm : Frm E hp.t w E' hp'.t w'
def Free (E : Env) (a b : Nat) : Prop := ∀ h, a ≤ h → h < b → E h = none
theorem Free.mono {E : Env} {a b a' b' : Nat} (h : Free E a b) (ha : a ≤ a') (hb : b' ≤ b) : Free E a' b' := fun x h1 h2 => h x (by omega) (by omega)
theorem Out.free {E E' : Env} {hp hp' : Hp} {w w' : World} (h : Out E hp w E' hp' w') {a b : Nat} (hf : Free E a b) (ha : hp'.nx ≤ a) : Free E' a b := fun x h1 h2 => by
 rw [h.off x (.inr (by omega))]; exact hf x h1 h2
theorem Frm.refl {E : Env} {t : Tr VO} {w : World} : Frm E t w E t w := ⟨rfl, rfl, rfl, Nat.le_refl _, fun _ _ _ => rfl, fun h o e h1 h2 hr => .inl ⟨h, o, e, h1, h2, hr, rfl⟩⟩
theorem Frm.trans {E E1 E2 : Env} {t t1 t2 : Tr VO} {w w1 w2 : World} (h : Frm E t w E1 t1 w1) (k : Frm E1 t1 w1 E2 t2 w2) : Frm E t w E2 t2 w2 := by
 refine ⟨k.os.trans h.os, k.tape.trans h.tape, k.output.trans h.output, Nat.le_trans h.size k.size, fun i hi hn => ?_, fun x o e h1 h2 hr => ?_⟩
 ·rw [k.keep i (by have := h.size; omega) fun x o e h1 h2 hr => ?_, h.keep i hi hn]
  rcases h.new x o e h1 h2 hr with ⟨h0, o0, e0, g1, g2, g0, g3⟩ | g
  ·have := hn h0 o0 e0 g1 g2 g0
   omega
  ·omega
 ·rcases k.new x o e h1 h2 hr with ⟨h0, o0, e0, g1, g2, g0, g3⟩ | g
  ·rcases h.new h0 o0 e0 g1 g2 g0 with ⟨h3, o3, e3, g4, g5, g7, g6⟩ | g'
   ·exact .inl ⟨h3, o3, e3, g4, g5, g7, g6.trans g3⟩
   ·exact .inr (by omega)
  ·exact .inr (by have := h.size; omega)
theorem Out.trans {E E1 E2 : Env} {hp hp1 hp2 : Hp} {w w1 w2 : World} (h : Out E hp w E1 hp1 w1) (k : Out E1 hp1 w1 E2 hp2 w2) (h1 : hp.nx ≤ hp1.nx) (h2 : hp1.nx ≤ hp2.nx) : Out E hp w E2 hp2 w2 :=
 ⟨Env.le_trans h.le k.le, fun x hx => by rw [k.off x (by omega), h.off x (by omega)], k.rep, h.frm.trans k.frm⟩
theorem Rep.same {E : Env} {t : Tr VO} {w w' : World} (h : Rep E t w) (hh : w'.heap = w.heap) : Rep E t w' := ⟨fun x o ho => by rw [hh]; exact h.has x o ho, h.inj⟩
theorem out_same {E : Env} {hp hp' : Hp} {w w' : World} (h : Rep E hp.t w) (hh : w'.heap = w.heap) (ho : w'.os = w.os) (ht : w'.tape = w.tape) (hu : w'.output = w.output) (he : hp'.t = hp.t) : Out E hp w E hp' w' :=
 ⟨Env.le_refl E, fun _ _ => rfl, he ▸ h.same hh, ⟨ho, ht, hu, by rw [hh]; exact Nat.le_refl _, fun _ _ _ => by rw [hh], fun x o e h1 h2 hr => .inl ⟨x, o, e, he ▸ h1, h2, hr, rfl⟩⟩⟩
theorem out_refl {E : Env} {hp : Hp} {w : World} (h : Rep E hp.t w) : Out E hp w E hp w := out_same h rfl rfl rfl rfl rfl
def Env.upd (E : Env) (h : Nat) (e : Nat × Nat × Nat) : Env := fun x => if x = h then some e else E x
theorem Env.upd_le {E : Env} {h : Nat} {e : Nat × Nat × Nat} (hn : E h = none) : E.le (E.upd h e) := fun x y hx => by
 unfold Env.upd
 rw [if_neg (fun e => by subst e; rw [hn] at hx; simp at hx)]
 exact hx
theorem Env.upd_eq {E : Env} {h : Nat} {e : Nat × Nat × Nat} : E.upd h e h = some e := by simp [Env.upd]
theorem Env.upd_ne {E : Env} {h x : Nat} {e : Nat × Nat × Nat} (hx : x ≠ h) : E.upd h e x = E x := by simp [Env.upd, hx]
theorem Rep.lt {E : Env} {t : Tr VO} {w : World} (h : Rep E t w) {x : Nat} {o : VO} {e : Nat × Nat × Nat} (ho : t.get x = some o) (he : E x = some e) : e.1 < w.heap.size := by
 obtain ⟨e', y, h1, h2, _⟩ := h.has x o ho
 rw [he] at h1
 obtain rfl := Option.some.inj h1
 exact lt_of_heap h2
theorem new_some {hp hp' : Hp} {o : VO} {h : Nat} (hn : hp.new o = some (h, hp')) : h = hp.nx ∧ roB hp.nx = false ∧ hp'.nx = hp.nx + 2 ∧ ∀ x, hp'.t.get x = if x = hp.nx then some o else hp.t.get x := by
 unfold Hp.new at hn
 split at hn
 ·rename_i hb
  simp only [Option.some.injEq, Prod.mk.injEq] at hn
  obtain ⟨rfl, rfl⟩ := hn
  simp only [Bool.and_eq_true] at hb
  have he := Nat.eq_of_beq_eq_true hb.1
  have hr : roB hp.nx = false := by
   unfold roB
   have e : Nat.beq (Nat.mod hp.nx 2) 1 = false := by rw [he]; rfl
   rw [e]
   split <;> rfl
  exact ⟨rfl, hr, rfl, fun x => Tr.get_set _ _ _⟩
 ·simp at hn
def Ext (hp hp' : Hp) : Prop := hp.nx ≤ hp'.nx ∧ ∃ l, hp'.log = l ++ hp.log ∧ ∀ h, h ∉ l → hp'.t.get h = hp.t.get h
theorem Ext.nx {hp hp' : Hp} (h : Ext hp hp') : hp.nx ≤ hp'.nx := h.1
theorem ext_refl (hp : Hp) : Ext hp hp := ⟨Nat.le_refl _, [], rfl, fun _ _ => rfl⟩
theorem Ext.trans {a b c : Hp} (h : Ext a b) (k : Ext b c) : Ext a c := by
 obtain ⟨h1, l, h2, h3⟩ := h
 obtain ⟨k1, m, k2, k3⟩ := k
 exact ⟨Nat.le_trans h1 k1, m ++ l, by rw [k2, h2, List.append_assoc], fun x hx => by
  simp only [List.mem_append, not_or] at hx
  rw [k3 x hx.1, h3 x hx.2]⟩
theorem getW_some {hp : Hp} {h : Nat} {o : VO} (hg : hp.getW h = some o) : hp.t.get h = some o ∧ roB h = false := by
 unfold Hp.getW at hg
 split at hg
 ·simp at hg
 ·rename_i hb
  exact ⟨hg, hb⟩
theorem ext_put (hp : Hp) (h : Nat) (o : Option VO) : Ext hp (hp.put h o) := ⟨Nat.le_refl _, [h], rfl, fun x hx => by
 simp only [List.mem_singleton] at hx
 exact Tr.set_ne hp.t h x o hx⟩
theorem new_nx {hp hp' : Hp} {o : VO} {h : Nat} (hn : hp.new o = some (h, hp')) : Ext hp hp' := by
 unfold Hp.new at hn
 split at hn
 ·simp only [Option.some.injEq, Prod.mk.injEq] at hn
  obtain ⟨rfl, rfl⟩ := hn
  refine ⟨?_, [hp.nx], rfl, fun x hx => ?_⟩
  ·show hp.nx ≤ hp.nx + 2
   omega
  ·simp only [List.mem_singleton] at hx
   exact Tr.set_ne hp.t hp.nx x _ hx
 ·simp at hn
theorem out_new {E : Env} {hp hp' : Hp} {w : World} {o : VO} {h : Nat} {x : Obj} {k : Nat} (hn : hp.new o = some (h, hp')) (hr : Rep E hp.t w) (hf : Free E hp.nx hp'.nx) (ho : ObjRep E o (w.heap.size, 0, k) x) :
  hp.nx ≤ hp'.nx ∧ h = hp.nx ∧ Out E hp w (E.upd h (w.heap.size, 0, k)) hp' (w.alloc x) ∧ E.upd h (w.heap.size, 0, k) h = some (w.heap.size, 0, k) := by
 obtain ⟨rfl, h1, h2, h3⟩ := new_some hn
 have hE : E hp.nx = none := hf _ (Nat.le_refl _) (by omega)
 have hle := Env.upd_le (e := (w.heap.size, 0, k)) hE
 have heap : ∀ i, i < w.heap.size → (w.alloc x).heap[i]? = w.heap[i]? := fun i hi => by
  show (w.heap.push x)[i]? = _
  rw [Array.getElem?_push, if_neg (by omega)]
 have htop : (w.alloc x).heap[w.heap.size]? = some x := by
  show (w.heap.push x)[w.heap.size]? = _
  simp
 refine ⟨by omega, rfl, ⟨hle, fun y hy => Env.upd_ne (by omega), ⟨fun y q hq => ?_, fun y y' q q' e e' hq hq' he he' hee => ?_⟩, ⟨rfl, rfl, rfl, ?_, fun i hi _ => heap i hi, fun y q e hq he hro => ?_⟩⟩, Env.upd_eq⟩
 ·rw [h3] at hq
  by_cases hy : y = hp.nx
  ·subst hy
   rw [if_pos rfl] at hq
   obtain rfl := Option.some.inj hq
   exact ⟨_, x, Env.upd_eq, htop, (ho.mono hle).any⟩
  ·rw [if_neg hy] at hq
   obtain ⟨e, z, g1, g2, g3⟩ := hr.has y q hq
   exact ⟨e, z, hle _ _ g1, by rw [heap _ (lt_of_heap g2)]; exact g2, g3.mono hle⟩
 ·rw [h3] at hq hq'
  by_cases hy : y = hp.nx <;> by_cases hy' : y' = hp.nx
  ·rw [hy, hy']; exact .inl rfl
  ·rw [if_neg hy'] at hq'
   rw [Env.upd_ne hy'] at he'
   rw [hy, Env.upd_eq] at he
   obtain rfl := Option.some.inj he
   have := hr.lt hq' he'
   simp at hee
   omega
  ·rw [if_neg hy] at hq
   rw [Env.upd_ne hy] at he
   rw [hy', Env.upd_eq] at he'
   obtain rfl := Option.some.inj he'
   have := hr.lt hq he
   simp at hee
   omega
  ·rw [if_neg hy] at hq
   rw [if_neg hy'] at hq'
   rw [Env.upd_ne hy] at he
   rw [Env.upd_ne hy'] at he'
   exact hr.inj _ _ _ _ _ _ hq hq' he he' hee
 ·show w.heap.size ≤ (w.heap.push x).size
  simp
 ·rw [h3] at hq
  by_cases hy : y = hp.nx
  ·subst hy
   rw [Env.upd_eq] at he
   obtain rfl := Option.some.inj he
   exact .inr (Nat.le_refl _)
  ·rw [if_neg hy] at hq
   rw [Env.upd_ne hy] at he
   exact .inl ⟨y, q, e, hq, he, hro, rfl⟩
theorem out_putG {E : Env} {hp : Hp} {w w' : World} {h : Nat} {o o' : VO} {e : Nat × Nat × Nat} {x' : Obj} (hlt : roB h = false) (hr : Rep E hp.t w) (hg : hp.t.get h = some o) (hE : E h = some e) (ho : ObjRep E o' e x') (hw : w'.heap[e.1]? = some x')
  (hne : ∀ k, k ≠ e.1 → k < w.heap.size → w'.heap[k]? = w.heap[k]?) (hs : w.heap.size ≤ w'.heap.size) (hos : w'.os = w.os) (ht : w'.tape = w.tape) (hu : w'.output = w.output) : Out E hp w E (hp.put h (some o')) w' := by
 have hget : ∀ y, (hp.put h (some o')).t.get y = if y = h then some o' else hp.t.get y := fun y => Tr.get_set _ _ _
 refine ⟨Env.le_refl E, fun _ _ => rfl, ⟨fun y q hq => ?_, fun y y' q q' f f' hq hq' hf hf' hee => ?_⟩, ⟨hos, ht, hu, hs, fun k hk hn => hne k (fun hke => hn h o e hg hE hlt hke.symm) hk, fun y q f hq hf hro => ?_⟩⟩
 ·rw [hget] at hq
  by_cases hy : y = h
  ·subst hy
   rw [if_pos rfl] at hq
   obtain rfl := Option.some.inj hq
   exact ⟨e, x', hE, hw, ho.any⟩
  ·rw [if_neg hy] at hq
   obtain ⟨f, z, g1, g2, g3⟩ := hr.has y q hq
   refine ⟨f, z, g1, ?_, g3⟩
   rw [hne f.1 (fun hfe => by
    rcases hr.inj _ _ _ _ _ _ hq hg g1 hE hfe with h | h
    ·exact hy h
    ·rw [hlt] at h; simp at h) (lt_of_heap g2)]
   exact g2
 ·have live : ∀ y q, (hp.put h (some o')).t.get y = some q → ∃ q', hp.t.get y = some q' := fun y q hq => by
   rw [hget] at hq
   by_cases hy : y = h
   ·subst hy; exact ⟨o, hg⟩
   ·rw [if_neg hy] at hq; exact ⟨q, hq⟩
  obtain ⟨p, hp1⟩ := live y q hq
  obtain ⟨p', hp2⟩ := live y' q' hq'
  exact hr.inj _ _ _ _ _ _ hp1 hp2 hf hf' hee
 ·rw [hget] at hq
  by_cases hy : y = h
  ·subst hy; exact .inl ⟨y, o, f, hg, hf, hro, rfl⟩
  ·rw [if_neg hy] at hq; exact .inl ⟨y, q, f, hq, hf, hro, rfl⟩
structure FrR (E : Env) (fr : Tr V) (a : Act) : Prop where
 look : ∀ t v, fr.get t = some v → ∃ x, a.tmps[t]? = some x ∧ ren E v = some x
 gl : ∀ g, g < gMax → E g = some (g, 0, 0)
theorem out_put {E : Env} {hp : Hp} {w w' : World} {h : Nat} {o o' : VO} {e : Nat × Nat × Nat} {x' : Obj} (hlt : roB h = false) (hr : Rep E hp.t w) (hg : hp.t.get h = some o) (hE : E h = some e) (ho : ObjRep E o' e x') (hw : w'.heap[e.1]? = some x')
  (hne : ∀ k, k ≠ e.1 → w'.heap[k]? = w.heap[k]?) (hs : w'.heap.size = w.heap.size) (hos : w'.os = w.os) (ht : w'.tape = w.tape) (hu : w'.output = w.output) : Out E hp w E (hp.put h (some o')) w' :=
 out_putG hlt hr hg hE ho hw (fun k hk _ => hne k hk) (by omega) hos ht hu
theorem FrR.mono {E E' : Env} {fr : Tr V} {a : Act} (h : FrR E fr a) (k : E.le E') : FrR E' fr a :=
 ⟨fun t v hv => by obtain ⟨x, h1, h2⟩ := h.look t v hv; exact ⟨x, h1, ren_mono k h2⟩, fun g hg => k _ _ (h.gl g hg)⟩
theorem FrR.ev {E : Env} {fr : Tr V} {a : Act} (h : FrR E fr a) {x : Operand} {v : V} (hv : evV fr x = some v) : ren E v = some (a.eval x) := by
 cases x with
 | tmp t =>
  obtain ⟨y, h1, h2⟩ := h.look t v hv
  simp only [Act.eval]
  rw [Array.getD_eq_getD_getElem?, h1]
  exact h2
 | const c => exact ofVal_ren hv E
 | global g =>
  simp only [evV] at hv
  split at hv
  ·rename_i hb
   simp at hv
   subst hv
   have hg : g < gMax := by simpa [Nat.blt_eq] using hb
   simp [ren, h.gl g hg, Act.eval]
  ·simp at hv
 | func f =>
  simp [evV] at hv
  subst hv
  simp [ren, renL, Act.eval]
theorem FrR.evs {E : Env} {fr : Tr V} {a : Act} (h : FrR E fr a) : ∀ {xs : List Operand} {vs : List V}, mapO (evV fr) xs = some vs → renL E vs = some (xs.map a.eval)
 | [], vs, hv => by simp [mapO_nil] at hv; subst hv; rfl
 | x :: r, vs, hv => by
  rw [mapO_cons] at hv
  cases h1 : evV fr x with
  | none => rw [h1] at hv; simp at hv
  | some v =>
   rw [h1] at hv
   cases h2 : mapO (evV fr) r with
   | none => rw [h2] at hv; simp at hv
   | some us =>
    rw [h2] at hv
    simp at hv
    subst hv
    simp [renL, h.ev h1, h.evs h2]
theorem FrR.put {E : Env} {n : Nat} {fr fr' : Tr V} {a : Act} {d : Option Tmp} {v : V} {x : Value} (h : FrR E fr a) (hn : n ≤ trMax) (hsz : a.tmps.size = n) (hs : setD n fr d v = some fr') (hx : ren E v = some x) : FrR E fr' (a.put d x) := by
 cases d with
 | none => simp [setD] at hs; subst hs; exact ⟨h.look, h.gl⟩
 | some t =>
  simp only [setD] at hs
  split at hs
  ·rename_i hb
   simp at hs
   subst hs
   have ht : t < n := by simpa [Nat.blt_eq] using hb
   refine ⟨fun s u hu => ?_, h.gl⟩
   rw [Tr.get_set] at hu
   simp only [Act.put, Array.getElem?_setIfInBounds]
   by_cases hst : s = t
   ·subst hst
    rw [if_pos rfl] at hu
    obtain rfl := Option.some.inj hu
    exact ⟨x, by simp [hsz, ht], hx⟩
   ·rw [if_neg hst] at hu
    obtain ⟨y, h1, h2⟩ := h.look s u hu
    exact ⟨y, by rw [if_neg (fun e => hst e.symm)]; exact h1, h2⟩
  ·simp at hs
theorem put_size (a : Act) (d : Option Tmp) (v : Value) : (a.put d v).tmps.size = a.tmps.size := by cases d <;> simp [Act.put]
theorem put_df (a : Act) (d : Option Tmp) (v : Value) : (a.put d v).defers = a.defers := by cases d <;> simp [Act.put]
def CallRes (E : Env) (hp : Hp) (w : World) (r : VR) (hp' : Hp) : Ending → World → Prop := fun e w' => ∃ E', Out E hp w E' hp' w' ∧ match r with
 | .v v => ∃ x, ren E' v = some x ∧ e = .returned x
 | .pan v => ∃ x, ren E' v = some x ∧ e = .panicked [{ v := x, recovered := false }]
def Upon (P : Program) (E : Env) (hp : Hp) (w : World) (r : VR) (hp' : Hp) : Result Next → Prop
 | .ok (.value x) w' => ∃ v E', r = .v v ∧ ren E' v = some x ∧ Out E hp w E' hp' w'
 | .ok .skip w' => ∃ E', r = .v undV ∧ Out E hp w E' hp' w'
 | .ok (.enter f args) w' => w' = w ∧ Calls P f args w (CallRes E hp w r hp')
 | .halt (.panic x) w' => ∃ v E', r = .pan v ∧ ren E' v = some x ∧ Out E hp w E' hp' w'
 | _ => False
def tdOf : TypeDesc → TD
 | .bool => .bool
 | .int k => .int k
 | .string => .str
 | .unsafePointer => .usf
 | .pointer e => .ptr e
 | .slice e => .sl e
 | .array n e => .arr n e
 | .map k e => .map k e
 | .struct fs => .st (fs.toList.map fun f => (f.offset, f.type))
 | .interface _ => .ifc
 | .func _ _ _ => .fn
 | _ => .oth
structure TIok (P : Program) (t : TypeId) (ti : TI) : Prop where
 und : ∃ D, P.underlying t = some D ∧ tdOf D = ti.d
 info : ∃ i, P.info? t = some i ∧ i.size = ti.size ∧ i.bytes = ti.bytes ∧ (∀ z, ti.z = some z → ∃ zv, i.zero = some zv ∧ ofVal zv = some z)
 zl : ∀ z, ti.z = some z → ∃ zc, z.cells = some zc ∧ zc.length = ti.size
 eq : ti.eq = true → (∀ i, P.info? t = some i → i.comparable = true) ∧ P.eqGuardType P.depth t = false ∧ P.stoodInHeld t = false ∧ ∀ fs, P.underlying t = some (.struct fs) → ∀ f ∈ fs, f.name ≠ "_"
structure COk (P : Program) (C : Cx) : Prop where
 T : ∀ t ti, C.T.get t = some ti → TIok P t ti
 F : ∀ f fn, C.F.get f = some fn → P.funcs[f]? = some fn ∧ (fn.name == "runtime.NumGoroutine") = false
 M : ∀ t name f, C.M t name = some f → ∀ v w, (method (P.types.size + Made.depth) t v name).run P w = .ok (f, v) w
 mo : P.follows .mixedOrders = true
section
variable {P : Program} {C : Cx} {t : TypeId} {ti : TI}
theorem TIok.run_und (h : TIok P t ti) (w : World) : ∃ D, P.underlying t = some D ∧ tdOf D = ti.d ∧ (underlying t).run P w = .ok D w := by
 obtain ⟨D, h1, h2⟩ := h.und
 exact ⟨D, h1, h2, run_underlying h1 w⟩
theorem TIok.size (h : TIok P t ti) (w : World) : (sizeOf t).run P w = .ok ti.size w := by
 obtain ⟨i, h1, h2, _⟩ := h.info
 simp [sizeOf, typeInfo, h1, h2]
theorem TIok.tinfo (h : TIok P t ti) (w : World) : ∃ i, P.info? t = some i ∧ i.size = ti.size ∧ i.bytes = ti.bytes ∧ (typeInfo t).run P w = .ok i w := by
 obtain ⟨i, h1, h2, h3, _⟩ := h.info
 exact ⟨i, h1, h2, h3, by simp [typeInfo, h1]⟩
theorem TIok.zero (h : TIok P t ti) {z : V} (hz : ti.z = some z) (w : World) : ∃ zv, (zeroValue t).run P w = .ok zv w ∧ ∀ E, ren E z = some zv := by
 obtain ⟨i, h1, _, _, h2⟩ := h.info
 obtain ⟨zv, h3, h4⟩ := h2 z hz
 exact ⟨zv, by simp [zeroValue, typeInfo, h1, h3], fun E => ofVal_ren h4 E⟩
theorem TIok.agg (h : TIok P t ti) (w : World) : (isAgg t).run P w = .ok ti.d.row w := by
 obtain ⟨D, h1, h2⟩ := h.und
 unfold isAgg
 rw [Sem.run_bind, run_underlying h1 w, ← h2]
 cases D <;> rfl
theorem TIok.sl (h : TIok P t ti) {e : TypeId} (hd : ti.d = .sl e) : P.underlying t = some (.slice e) := by
 obtain ⟨D, h1, h2⟩ := h.und
 rw [hd] at h2
 cases D <;> simp [tdOf] at h2
 subst h2; exact h1
theorem TIok.arr (h : TIok P t ti) {n : Nat} {e : TypeId} (hd : ti.d = .arr n e) : P.underlying t = some (.array n e) := by
 obtain ⟨D, h1, h2⟩ := h.und
 rw [hd] at h2
 cases D <;> simp [tdOf] at h2
 obtain ⟨rfl, rfl⟩ := h2; exact h1
theorem TIok.int (h : TIok P t ti) {k : IntKind} (hd : ti.d = .int k) : P.underlying t = some (.int k) := by
 obtain ⟨D, h1, h2⟩ := h.und
 rw [hd] at h2
 cases D <;> simp [tdOf] at h2
 subst h2; exact h1
theorem TIok.str (h : TIok P t ti) (hd : ti.d = .str) : P.underlying t = some .string := by
 obtain ⟨D, h1, h2⟩ := h.und
 rw [hd] at h2
 cases D <;> simp [tdOf] at h2
 exact h1
theorem TIok.bool (h : TIok P t ti) (hd : ti.d = .bool) : P.underlying t = some .bool := by
 obtain ⟨D, h1, h2⟩ := h.und
 rw [hd] at h2
 cases D <;> simp [tdOf] at h2
 exact h1
theorem TIok.usf (h : TIok P t ti) (hd : ti.d = .usf) : P.underlying t = some .unsafePointer := by
 obtain ⟨D, h1, h2⟩ := h.und
 rw [hd] at h2
 cases D <;> simp [tdOf] at h2
 exact h1
theorem TIok.ptr (h : TIok P t ti) {e : TypeId} (hd : ti.d = .ptr e) : P.underlying t = some (.pointer e) := by
 obtain ⟨D, h1, h2⟩ := h.und
 rw [hd] at h2
 cases D <;> simp [tdOf] at h2
 subst h2; exact h1
theorem TIok.map (h : TIok P t ti) {k e : TypeId} (hd : ti.d = .map k e) : P.underlying t = some (.map k e) := by
 obtain ⟨D, h1, h2⟩ := h.und
 rw [hd] at h2
 cases D <;> simp [tdOf] at h2
 obtain ⟨rfl, rfl⟩ := h2; exact h1
theorem TIok.st (h : TIok P t ti) {fs : List (Nat × TypeId)} (hd : ti.d = .st fs) : ∃ Fs, P.underlying t = some (.struct Fs) ∧ Fs.toList.map (fun f => (f.offset, f.type)) = fs := by
 obtain ⟨D, h1, h2⟩ := h.und
 rw [hd] at h2
 cases D <;> simp [tdOf] at h2
 exact ⟨_, h1, h2⟩
theorem TIok.ifc (h : TIok P t ti) (hd : ti.d = .ifc) : ∃ ms, P.underlying t = some (.interface ms) := by
 obtain ⟨D, h1, h2⟩ := h.und
 rw [hd] at h2
 cases D <;> simp [tdOf] at h2
 exact ⟨_, h1⟩
theorem TIok.fn (h : TIok P t ti) (hd : ti.d = .fn) : ∃ a b c, P.underlying t = some (.func a b c) := by
 obtain ⟨D, h1, h2⟩ := h.und
 rw [hd] at h2
 cases D <;> simp [tdOf] at h2
 exact ⟨_, _, _, h1⟩
end
/- Vx: the machine's operations that look at no memory, against the world's. By this project. -/
section
variable {P : Program} {C : Cx} (hC : COk P C) {E : Env} {fr : Tr V} {a : Act} (hF : FrR E fr a)
include hC
theorem tiV_ok {t : TypeId} {ti : TI} (h : tiV C t = some ti) : TIok P t ti := hC.T t ti h
theorem partV_ok {t : TypeId} {cs : List V} {o : Nat} {v : V} {l : List Value} (h : partV C t cs o = some v) (hl : renL E cs = some l) (h1 : l.all (·.oneCell') = true) :
  ∃ x, ren E v = some x ∧ ∀ w, (part t l.toArray o).run P w = .ok x w := by
 simp only [partV, Option.bind_eq_some_iff] at h
 obtain ⟨ti, ht, h⟩ := h
 have hT := tiV_ok hC ht
 cases hr : ti.d.row with
 | true =>
  rw [hr] at h
  simp only [Option.bind_eq_some_iff, Option.some.injEq] at h
  obtain ⟨m, hm, rfl⟩ := h
  obtain ⟨e1, e2, e3⟩ := cutL_some hm
  refine ⟨.agg ((l.drop o).take ti.size).toArray, ren_agg_mk (e1 ▸ renL_take _ (renL_drop _ hl)) (List.all_eq_true.2 fun x hx => List.all_eq_true.1 h1 x (List.mem_of_mem_drop (List.mem_of_mem_take hx))), fun w => ?_⟩
  have h2 := hT.agg w
  rw [hr] at h2
  simp [part, h2, hT.size w, ← List.drop_take]
 | false =>
  rw [hr] at h
  simp only [getL_eq] at h
  obtain ⟨x, h3, h4⟩ := renL_get hl h
  refine ⟨x, h4, fun w => ?_⟩
  have h2 := hT.agg w
  rw [hr] at h2
  simp [part, h2, h3]
omit hC in
theorem fill_step (vs C : List Value) (o : Nat) (h : o + vs.length ≤ C.length) : (vs.toArray.zipIdx.foldl (fun (cs : Array Value) (x : Value × Nat) => cs.setIfInBounds (o + x.2) x.1) C.toArray) = (C.take o ++ vs ++ C.drop (o + vs.length)).toArray := by
 have h1 := foldl_set vs o C h
 unfold overC at h1
 rw [← h1, ← Array.foldl_toList]
 simp only [Array.toList_zipIdx]
 have : vs.zipIdx o = (vs.zipIdx 0).map fun x => (x.1, o + x.2) := by
  rw [List.zipIdx_eq_map_add]
  first | done | simp [Nat.add_comm]
 rw [this, List.foldl_map]
include hF
omit hC in
theorem fillV_ok {place : Nat → Option (Nat × Nat)} : ∀ {parts : List (Nat × Operand)} {cs l : List V} {L : List Value}, fillV fr place cs parts = some l → renL E cs = some L → L.all (·.oneCell') = true →
  ∃ M, renL E l = some M ∧ M.all (·.oneCell') = true ∧ l.length = cs.length ∧ Instr.fill place L.toArray (parts.map fun x => (x.1, a.eval x.2)) = some M.toArray
 | [], cs, l, L, h, hL, h1 => by
  simp [fillV] at h
  subst h
  exact ⟨L, hL, h1, rfl, rfl⟩
 | (i, x) :: r, cs, l, L, h, hL, h1 => by
  simp only [fillV, Option.bind_eq_some_iff] at h
  obtain ⟨v, hv, vc, hc, p, hp, h⟩ := h
  split at h
  ·rename_i hb
   simp only [Bool.and_eq_true, Nat.beq_eq, lenF_eq] at hb
   have hb2 := geL_iff.1 hb.2
   obtain ⟨m, g1, g2, g3⟩ := ren_cells (hF.ev hv) hc
   have hl := renL_len hL
   have hm := renL_len g1
   have hput := renL_putAt hL g1 (o := p.1) (by omega)
   have hlen := putAt_len (o := p.1) (cs := cs) (vs := vc) (by omega)
   obtain ⟨M, k1, k2, k3, k4⟩ := fillV_ok h hput (by
    rw [List.all_append, List.all_append, g2]
    simp only [Bool.and_true, Bool.and_eq_true]
    exact ⟨List.all_eq_true.2 fun x hx => List.all_eq_true.1 h1 x (List.mem_of_mem_take hx), List.all_eq_true.2 fun x hx => List.all_eq_true.1 h1 x (List.mem_of_mem_drop hx)⟩)
   refine ⟨M, k1, k2, by rw [k3, hlen], ?_⟩
   simp only [List.map_cons, Instr.fill, hp, g3, List.size_toArray]
   rw [if_neg (by simp; omega), fill_step _ _ _ (by omega)]
   exact k4
  ·simp at h
include hC
theorem vbuild_ok {t : TypeId} {parts : List (Nat × Operand)} {v : V} (h : vbuild C fr t parts = some v) : ∃ x, ren E v = some x ∧ ∀ w, (Instr.build t (parts.map fun x => (x.1, a.eval x.2)).toArray).run P w = .ok x w := by
 simp only [vbuild, Option.bind_eq_some_iff] at h
 obtain ⟨ti, ht, z, hz, h⟩ := h
 have hT := tiV_ok hC ht
 split at h
 ·rename_i fs cs hd
  simp only [Option.bind_eq_some_iff, Option.some.injEq] at h
  obtain ⟨ps, hps, l, hl, rfl⟩ := h
  obtain ⟨Fs, hu, hfs⟩ := hT.st hd
  obtain ⟨zv, _, hzr⟩ := hT.zero hz default
  obtain ⟨L, g1, g2, rfl⟩ := ren_agg (hzr E)
  obtain ⟨M, k1, k2, k3, k4⟩ := fillV_ok hF hl g1 g2
  refine ⟨.agg M.toArray, ren_agg_mk k1 k2, fun w => ?_⟩
  obtain ⟨zv', hz', hzr'⟩ := hT.zero hz w
  have : zv' = .agg L.toArray := by
   have e1 := hzr' E
   rw [hzr E] at e1
   exact (Option.some.inj e1).symm
  subst this
  have hm : ∀ (F : List Field) (ps : List (Nat × Nat)), mapO (fun f : Nat × TypeId => (tiV C f.2).bind fun fi => some (f.1, fi.size)) (F.map fun f => (f.offset, f.type)) = some ps → (F.mapM fun f => (sizeT P f.type).map fun s => (f.offset, s)) = some ps := by
   intro F
   induction F with
   | nil => intro ps h; simp [mapO_nil] at h; subst h; rfl
   | cons f r ih =>
    intro ps h
    rw [List.map_cons, mapO_cons] at h
    cases h1 : tiV C f.type with
    | none => rw [h1] at h; simp at h
    | some fi =>
     rw [h1] at h
     simp only [Option.bind_some] at h
     cases h2 : mapO (fun f : Nat × TypeId => (tiV C f.2).bind fun fi => some (f.1, fi.size)) (r.map fun f => (f.offset, f.type)) with
     | none => rw [h2] at h; simp at h
     | some qs =>
      rw [h2] at h
      simp at h
      subst h
      obtain ⟨i, i1, i2, _⟩ := (tiV_ok hC h1).info
      rw [List.mapM_cons, ih qs h2]
      simp [sizeT, i1, i2]
  have hrun := run_mapM_places (P := P) w Fs.toList ps (hm _ _ (hfs ▸ hps))
  have hrun' : (Fs.mapM fun f => (do pure (f.offset, ← sizeOf f.type) : Sem (Nat × Nat))).run P w = .ok ps.toArray w := by
   rw [Array.mapM_eq_mapM_toList]
   rw [← bind_pure_comp, Sem.run_bind, hrun]
   rfl
  simp only [Instr.build, Sem.run_bind, hz', Result.andThen_ok, run_underlying hu w, hrun', Value.cells]
  have e : (fun i : Nat => ps.toArray[i]?) = (fun i : Nat => getL ps i) := by funext i; rw [getL_eq]; simp
  rw [e, k4]
  rfl
 ·rename_i n e cs hd
  simp only [Option.bind_eq_some_iff, Option.some.injEq] at h
  obtain ⟨ei, he, l, hl, rfl⟩ := h
  have hu := hT.arr hd
  obtain ⟨zv, _, hzr⟩ := hT.zero hz default
  obtain ⟨L, g1, g2, rfl⟩ := ren_agg (hzr E)
  obtain ⟨M, k1, k2, k3, k4⟩ := fillV_ok hF hl g1 g2
  refine ⟨.agg M.toArray, ren_agg_mk k1 k2, fun w => ?_⟩
  obtain ⟨zv', hz', hzr'⟩ := hT.zero hz w
  have : zv' = .agg L.toArray := by
   have e1 := hzr' E
   rw [hzr E] at e1
   exact (Option.some.inj e1).symm
  subst this
  simp only [Instr.build, Sem.run_bind, hz', Result.andThen_ok, run_underlying hu w, Value.cells, (tiV_ok hC he).size w, k4]
  rfl
 ·simp at h
theorem vpure_ok {o : Op} {v : V} (h : vpure C fr o = some v) (dst : Option Tmp) (ty : TypeId) (ps : String) (af : Array Edge) (gd : Option (Nat × Bool)) : ∃ x, ren E v = some x ∧ ∀ w, (execOp a.eval ⟨dst, o, ty, ps, af, gd⟩).run P w = .ok (.value x) w := by
 cases o with
 | move x => exact ⟨_, hF.ev h, fun w => rfl⟩
 | assign x => exact ⟨_, hF.ev h, fun w => rfl⟩
 | pick c x y =>
  simp only [vpure, pPick, pNil, pUn, pArr, pMkIf, pFa, pFld, pIa, pIx, pExt, pTa, Option.bind_eq_some_iff] at h
  obtain ⟨q, hq, h⟩ := h
  have h1 := hF.ev hq
  split at h
  ·simp [ren] at h1
   exact ⟨_, hF.ev h, fun w => by simp only [execOp, ← h1]; rfl⟩
  ·simp [ren] at h1
   exact ⟨_, hF.ev h, fun w => by simp only [execOp, ← h1]; rfl⟩
  ·simp at h
 | build t parts =>
  obtain ⟨x, h1, h2⟩ := vbuild_ok hC hF h
  refine ⟨x, h1, fun w => ?_⟩
  have := h2 w
  have e : (parts.map fun (x : Nat × Operand) => (x.1, a.eval x.2)) = (parts.toList.map fun x => (x.1, a.eval x.2)).toArray := by
   apply Array.ext'; simp
  simp only [execOp, Sem.run_bind]
  rw [e, this]
  rfl
 | nilCheck x =>
  simp only [vpure, pPick, pNil, pUn, pArr, pMkIf, pFa, pFld, pIa, pIx, pExt, pTa, Option.bind_eq_some_iff] at h
  obtain ⟨q, hq, h⟩ := h
  have h1 := hF.ev hq
  split at h
  ·rename_i y
   simp at h
   subst h
   simp only [ren, Option.map_eq_some_iff] at h1
   obtain ⟨e, h2, h3⟩ := h1
   exact ⟨_, by simp only [ren, h2, Option.map_some]; rfl, fun w => by simp only [execOp, ← h3]; rfl⟩
  ·simp at h
   subst h
   have h2 := h1
   simp only [ren, Option.map_eq_some_iff] at h1
   obtain ⟨e, _, h3⟩ := h1
   exact ⟨_, h2, fun w => by simp only [execOp, ← h3]; rfl⟩
  ·simp at h
   subst h
   have h2 := h1
   simp only [ren, Option.map_eq_some_iff, Option.bind_eq_some_iff] at h1
   obtain ⟨e, _, b, _, h3⟩ := h1
   exact ⟨_, h2, fun w => by simp only [execOp, ← h3]; rfl⟩
  ·simp at h
 | unOp op t x =>
  simp only [vpure, pPick, pNil, pUn, pArr, pMkIf, pFa, pFld, pIa, pIx, pExt, pTa, Option.bind_eq_some_iff] at h
  obtain ⟨q, hq, h⟩ := h
  have h1 := hF.ev hq
  unfold vun at h
  split at h
  ·rename_i k n
   simp only [Option.some.injEq] at h
   subst h
   simp only [ren, Option.some.injEq] at h1
   exact ⟨_, rfl, fun w => by simp only [execOp, ← h1]; rfl⟩
  ·rename_i k n
   simp only [ren, Option.some.injEq] at h1
   simp only [vint, Option.some.injEq] at h
   subst h
   refine ⟨_, rfl, fun w => ?_⟩
   simp only [execOp, ← h1, Op.unary, Op.intBits]
   cases k.signed <;> rfl
  ·simp only [Option.some.injEq] at h
   subst h
   simp only [ren, Option.some.injEq] at h1
   exact ⟨_, rfl, fun w => by simp only [execOp, ← h1]; rfl⟩
  ·simp at h
 | sliceToArrayPointer t x =>
  simp only [vpure, pPick, pNil, pUn, pArr, pMkIf, pFa, pFld, pIa, pIx, pExt, pTa, Option.bind_eq_some_iff] at h
  obtain ⟨ti, ht, q, hq, h⟩ := h
  have h1 := hF.ev hq
  have hT := tiV_ok hC ht
  split at h
  ·rename_i n e A len c op hd
   split at h
   ·rename_i hb
    simp only [Bool.and_eq_true] at hb
    have hb1 := Nat.le_of_ble_eq_true hb.2
    replace hb := Nat.le_of_ble_eq_true hb.1
    simp at h
    subst h
    have hu := hT.arr hd
    cases A with
    | none =>
     simp [ren] at h1
     refine ⟨.pointer none, rfl, fun w => ?_⟩
     simp only [execOp, ← h1]
     simp [Instr.arrayAt, run_underlying hu w, show ¬ len < n by omega]
    | some A =>
     obtain ⟨e, h2, ⟨_, h3⟩ | ⟨_, h5, _⟩⟩ := ren_slk h1
     rotate_left
     ·omega
     refine ⟨.pointer (some ⟨e.1, e.2.1 + A.2, none⟩), by simp [ren, h2], fun w => ?_⟩
     simp only [execOp, ← h3]
     simp [Instr.arrayAt, run_underlying hu w, show ¬ len < n by omega]
   ·simp at h
  ·simp at h
 | makeInterface t x =>
  simp only [vpure, pPick, pNil, pUn, pArr, pMkIf, pFa, pFld, pIa, pIx, pExt, pTa, Option.bind_eq_some_iff] at h
  obtain ⟨ti, ht, h⟩ := h
  have hT := tiV_ok hC ht
  obtain ⟨D, hu, hd, _⟩ := hT.run_und default
  split at h
  ·simp at h
  ·rename_i hne
   simp only [Option.bind_eq_some_iff, Option.some.injEq] at h
   obtain ⟨q, hq, rfl⟩ := h
   refine ⟨.iface t (a.eval x), by simp [ren, hF.ev hq], fun w => ?_⟩
   cases D <;> first | (exact absurd hd.symm (by simpa [tdOf] using hne)) | simp [execOp, Instr.makeInterface, run_underlying hu w]
 | makeFunc fn first cap =>
  cases fn <;> simp only [vpure, pMkFn] at h <;> try (simp at h; done)
  rename_i f
  simp only [Option.bind_eq_some_iff, Option.some.injEq] at h
  obtain ⟨p, hp, q, hq, rfl⟩ := h
  have h1 := hF.evs hp
  have h2 := hF.evs hq
  refine ⟨.func (.func f) (first.map a.eval) (cap.map a.eval), ?_, fun w => rfl⟩
  simp only [ren, h1, h2, Option.bind_some, Option.map_some]
  congr 2 <;> (apply Array.ext'; simp)
 | fieldAddr t x f =>
  simp only [vpure, pPick, pNil, pUn, pArr, pMkIf, pFa, pFld, pIa, pIx, pExt, pTa, Option.bind_eq_some_iff] at h
  obtain ⟨ti, ht, h⟩ := h
  have hT := tiV_ok hC ht
  split at h
  ·rename_i fs hd
   simp only [Option.bind_eq_some_iff] at h
   obtain ⟨fo, hfo, fi, hfi, h⟩ := h
   split at h
   ·simp at h
   ·rename_i hz
    simp only [Option.bind_eq_some_iff, Option.some.injEq] at h
    obtain ⟨A, ⟨q, hq, hqa⟩, rfl⟩ := h
    have h1 := hF.ev hq
    obtain ⟨Fs, hu, hfs⟩ := hT.st hd
    have hfi' := tiV_ok hC hfi
    have hsz : fi.size ≠ 0 := fun e => by rw [e] at hz; simp at hz
    cases q <;> simp [ptrV] at hqa
    subst hqa
    simp only [ren, Option.map_eq_some_iff] at h1
    obtain ⟨e, h2, h3⟩ := h1
    rw [getL_eq, ← hfs, List.getElem?_map, Option.map_eq_some_iff] at hfo
    obtain ⟨F, hF1, rfl⟩ := hfo
    refine ⟨.pointer (some ⟨e.1, e.2.1 + (A.2 + F.offset), none⟩), by simp [ren, h2], fun w => ?_⟩
    have hF2 : Fs[f]? = some F := by simpa using hF1
    simp only [execOp, ← h3]
    simp [Instr.fieldAt, run_underlying hu w, hF2, Instr.sureAddr, fieldPlace, hfi'.size w, hsz, Addr.add_mid, Nat.add_assoc]
  ·simp at h
 | field t x f =>
  simp only [vpure, pPick, pNil, pUn, pArr, pMkIf, pFa, pFld, pIa, pIx, pExt, pTa, Option.bind_eq_some_iff] at h
  obtain ⟨ti, ht, h⟩ := h
  have hT := tiV_ok hC ht
  split at h
  ·rename_i fs hd
   simp only [Option.bind_eq_some_iff] at h
   obtain ⟨fo, hfo, q, hq, h⟩ := h
   have h1 := hF.ev hq
   split at h
   ·obtain ⟨Fs, hu, hfs⟩ := hT.st hd
    obtain ⟨l, g1, g2, g3⟩ := ren_agg h1
    rw [getL_eq, ← hfs, List.getElem?_map, Option.map_eq_some_iff] at hfo
    obtain ⟨F, hF1, rfl⟩ := hfo
    have hF2 : Fs[f]? = some F := by simpa using hF1
    obtain ⟨X, k1, k2⟩ := partV_ok hC h g1 g2
    refine ⟨X, k1, fun w => ?_⟩
    simp only [execOp, g3]
    simp [Instr.field, run_underlying hu w, hF2, asAgg, k2 w]
   ·simp at h
  ·simp at h
 | indexAddr t x i =>
  simp only [vpure, pPick, pNil, pUn, pArr, pMkIf, pFa, pFld, pIa, pIx, pExt, pTa, Option.bind_eq_some_iff] at h
  obtain ⟨q, hq, n, hn, h⟩ := h
  have h1 := hF.ev hq
  have h2 := hF.ev hn
  simp only [vindexA, Option.bind_eq_some_iff] at h
  obtain ⟨ti, ht, m, hm, h⟩ := h
  simp only [natV, Option.bind_eq_some_iff] at hm
  obtain ⟨z, hz, hz2⟩ := hm
  have hT := tiV_ok hC ht
  have hz3 := asNat_some hz2
  cases n <;> simp [intV?] at hz
  subst hz
  rename_i k n
  simp [ren] at h2
  subst hz3
  split at h
  ·rename_i len e b o hd
   simp only [Option.bind_eq_some_iff] at h
   obtain ⟨ei, he, h⟩ := h
   split at h
   ·rename_i hb
    simp at h
    subst h
    have hb : m < len := by simpa [Nat.blt_eq] using hb
    simp only [ren, Option.map_eq_some_iff] at h1
    obtain ⟨e, h3, h4⟩ := h1
    refine ⟨.pointer (some ⟨e.1, e.2.1 + (o + m * ei.size), none⟩), by simp [ren, h3], fun w => ?_⟩
    simp only [execOp, ← h4, ← h2]
    simp [Instr.indexAt, asIntOf, Instr.sureAddr, run_underlying (hT.arr hd) w, hb, (tiV_ok hC he).size w, Addr.add_mid, Nat.add_assoc]
   ·simp at h
  ·rename_i e b o len c op hd
   simp only [Option.bind_eq_some_iff] at h
   obtain ⟨ei, he, h⟩ := h
   split at h
   ·rename_i hb
    simp at h
    subst h
    have hb : m < len := by simpa [Nat.blt_eq] using hb
    obtain ⟨e, h3, ⟨_, h4⟩ | ⟨_, h5, _⟩⟩ := ren_slk h1
    rotate_left
    ·omega
    refine ⟨.pointer (some ⟨e.1, e.2.1 + (o + m * ei.size), none⟩), by simp [ren, h3], fun w => ?_⟩
    simp only [execOp, ← h4, ← h2]
    simp [Instr.indexAt, asIntOf, Instr.sureAddr, run_underlying (hT.sl hd) w, hb, (tiV_ok hC he).size w, Addr.add_mid, Nat.add_assoc]
   ·simp at h
  ·simp at h
 | index t x i =>
  simp only [vpure, pPick, pNil, pUn, pArr, pMkIf, pFa, pFld, pIa, pIx, pExt, pTa, Option.bind_eq_some_iff] at h
  obtain ⟨q, hq, n, hn, h⟩ := h
  have h1 := hF.ev hq
  have h2 := hF.ev hn
  simp only [vindex, Option.bind_eq_some_iff] at h
  obtain ⟨ti, ht, m, hm, h⟩ := h
  simp only [natV, Option.bind_eq_some_iff] at hm
  obtain ⟨z, hz, hz2⟩ := hm
  have hT := tiV_ok hC ht
  have hz3 := asNat_some hz2
  cases n <;> simp [intV?] at hz
  subst hz
  rename_i k n
  simp [ren] at h2
  subst hz3
  split at h
  ·rename_i len e cs hd
   simp only [Option.bind_eq_some_iff] at h
   obtain ⟨ei, he, h⟩ := h
   split at h
   ·rename_i hb
    have hb : m < len := by simpa [Nat.blt_eq] using hb
    obtain ⟨l, g1, g2, g3⟩ := ren_agg h1
    obtain ⟨X, k1, k2⟩ := partV_ok hC h g1 g2
    refine ⟨X, k1, fun w => ?_⟩
    simp only [execOp, g3, ← h2]
    simp [Instr.index, asIntOf, run_underlying (hT.arr hd) w, hb, (tiV_ok hC he).size w, k2 w]
   ·simp at h
  ·rename_i s hd
   simp only [Option.bind_eq_some_iff, Option.some.injEq] at h
   obtain ⟨c, hc, rfl⟩ := h
   simp [ren] at h1
   rw [getL_eq] at hc
   refine ⟨.int .u8 (c.toNat : Int), rfl, fun w => ?_⟩
   simp only [execOp, ← h1, ← h2]
   have hm : m < s.length := (List.getElem?_eq_some_iff.1 hc).1
   have : (⟨s.toArray⟩ : ByteArray)[m]? = some c := by
    show (if h : _ then some _ else none) = _
    have hs : m < (⟨s.toArray⟩ : ByteArray).size := by simpa [ByteArray.size] using hm
    rw [dif_pos hs]
    have := (List.getElem?_eq_some_iff.1 hc).2
    rw [← this]
    rfl
   simp [Instr.index, asIntOf, run_underlying (hT.str hd) w, this]
  ·simp at h
 | extract x i =>
  simp only [vpure, pPick, pNil, pUn, pArr, pMkIf, pFa, pFld, pIa, pIx, pExt, pTa, Option.bind_eq_some_iff] at h
  obtain ⟨q, hq, h⟩ := h
  have h1 := hF.ev hq
  split at h
  ·simp only [ren, Option.map_eq_some_iff] at h1
   obtain ⟨l, g1, g2⟩ := h1
   rw [getL_eq] at h
   obtain ⟨X, k1, k2⟩ := renL_get g1 h
   refine ⟨X, k2, fun w => ?_⟩
   simp only [execOp, ← g2]
   simp [Instr.extract, k1]
  ·simp at h
 | typeAssert x xt t ok =>
  simp only [vpure, pPick, pNil, pUn, pArr, pMkIf, pFa, pFld, pIa, pIx, pExt, pTa, Option.bind_eq_some_iff] at h
  obtain ⟨ti, ht, h⟩ := h
  have hT := tiV_ok hC ht
  obtain ⟨D, hu, hd, _⟩ := hT.run_und default
  split at h
  ·simp at h
  ·rename_i hne
   have hni : ∀ ms, D ≠ .interface ms := fun ms e => by subst e; exact hne (by rw [← hd]; rfl)
   simp only [Option.bind_eq_some_iff] at h
   obtain ⟨q, hq, h⟩ := h
   have h1 := hF.ev hq
   split at h
   ·rename_i u y
    simp only [ren, Option.map_eq_some_iff] at h1
    obtain ⟨Y, g1, g2⟩ := h1
    split at h
    ·rename_i hb
     simp at h
     subst h
     have hb : u = t := Nat.eq_of_beq_eq_true hb
     subst hb
     refine ⟨.tuple #[Y, .bool true], by simp [ren, renL, g1], fun w => ?_⟩
     simp only [execOp, ← g2]
     simp only [Instr.typeAssert, Sem.run_bind, run_underlying hu w, Result.andThen_ok]
     cases D <;> first | (exact absurd rfl (hni _)) | simp
    ·rename_i hb
     simp at h
     subst h
     have hb : u = t := Nat.eq_of_beq_eq_true hb
     subst hb
     refine ⟨Y, g1, fun w => ?_⟩
     simp only [execOp, ← g2]
     simp only [Instr.typeAssert, Sem.run_bind, run_underlying hu w, Result.andThen_ok]
     cases D <;> first | (exact absurd rfl (hni _)) | simp
    ·rename_i hb
     simp only [Option.bind_eq_some_iff, Option.some.injEq] at h
     obtain ⟨z, hz, rfl⟩ := h
     have hb : u ≠ t := fun e => by subst e; simp [Nat.beq_eq] at hb
     obtain ⟨zv, _, hzr⟩ := hT.zero hz default
     refine ⟨.tuple #[zv, .bool false], by simp [ren, renL, hzr E], fun w => ?_⟩
     obtain ⟨zv', hz', hzr'⟩ := hT.zero hz w
     have : zv' = zv := by
      have e1 := hzr' E
      rw [hzr E] at e1
      exact (Option.some.inj e1).symm
     subst this
     simp only [execOp, ← g2]
     simp only [Instr.typeAssert, Sem.run_bind, run_underlying hu w, Result.andThen_ok]
     cases D <;> first | (exact absurd rfl (hni _)) | simp [hb, hz']
    ·simp at h
   ·simp [ren] at h1
    split at h
    ·simp only [Option.bind_eq_some_iff, Option.some.injEq] at h
     obtain ⟨z, hz, rfl⟩ := h
     obtain ⟨zv, _, hzr⟩ := hT.zero hz default
     refine ⟨.tuple #[zv, .bool false], by simp [ren, renL, hzr E], fun w => ?_⟩
     obtain ⟨zv', hz', hzr'⟩ := hT.zero hz w
     have : zv' = zv := by
      have e1 := hzr' E
      rw [hzr E] at e1
      exact (Option.some.inj e1).symm
     subst this
     simp only [execOp, ← h1]
     simp only [Instr.typeAssert, Sem.run_bind, run_underlying hu w, Result.andThen_ok]
     cases D <;> first | (exact absurd rfl (hni _)) | simp [hz']
    ·simp at h
   ·simp at h
 | _ => simp [vpure] at h
end
/- Vy: the machine's operations that look at memory, against the world's. By this project. -/
section
variable {P : Program} {C : Cx} (hC : COk P C)
include hC
theorem partV_run {t : TypeId} {cs : List V} {o : Nat} {v : V} (h : partV C t cs o = some v) {E : Env} {l : List Value} (hl : renL E cs = some l) (h1 : l.all (·.oneCell') = true) : ∃ x, ren E v = some x ∧ ∀ w, (part t l.toArray o).run P w = .ok x w := partV_ok hC h hl h1
theorem eqFs_ok {f : TypeId → V → V → Option Bool} {d : Nat} {E : Env} {w : World} (ih : ∀ t x y b X Y, f t x y = some b → ren E x = some X → ren E y = some Y → (Op.equalIn d t X Y).run P w = .ok b w) {xs ys : List V} {X Y : List Value} (hx : renL E xs = some X) (hy : renL E ys = some Y) (hx1 : X.all (·.oneCell') = true) (hy1 : Y.all (·.oneCell') = true) :
  ∀ (Fs : List Field) (b : Bool), (∀ g ∈ Fs, g.name ≠ "_") → eqFs f C xs ys (Fs.map fun g => (g.offset, g.type)) = some b → (Op.eqFields d X.toArray Y.toArray Fs).run P w = .ok b w
 | [], b, _, h => by simp [eqFs] at h; subst h; simp [Op.eqFields]
 | g :: r, b, hn, h => by
  simp only [List.map_cons, eqFs, Option.bind_eq_some_iff] at h
  obtain ⟨p, hp, q, hq, e, he, h⟩ := h
  obtain ⟨p', hp1, hp2⟩ := partV_run hC hp hx hx1
  obtain ⟨q', hq1, hq2⟩ := partV_run hC hq hy hy1
  have h3 := ih _ _ _ _ _ _ he hp1 hq1
  simp only [Op.eqFields, hn g (by simp), ne_eq, not_false_eq_true, if_true, Sem.run_bind, hp2 w, hq2 w, h3, Result.andThen_ok]
  cases e with
  | true =>
   simp only [Bool.not_true, Bool.false_eq_true, if_false]
   exact eqFs_ok ih hx hy hx1 hy1 r b (fun g hg => hn g (by simp [hg])) h
  | false =>
   simp at h
   subst h
   simp
omit hC in
theorem part_drop {t : TypeId} {X : List Value} {i : Nat} {w : World} : (part t (X.drop i).toArray 0).run P w = (part t X.toArray i).run P w := by
 have e1 : ∀ s, (X.drop i).toArray.extract 0 (0 + s) = X.toArray.extract i (i + s) := fun s => by
  apply Array.ext'
  simp [List.drop_take]
 have e2 : (X.drop i).toArray[0]? = X.toArray[i]? := by simp
 unfold part
 simp only [e1, e2]
theorem eqEs_ok {f : V → V → Option Bool} {d n : Nat} {t : TypeId} {E : Env} {w : World} (ih : ∀ x y b X Y, f x y = some b → ren E x = some X → ren E y = some Y → (Op.equalIn d t X Y).run P w = .ok b w) {xs ys : List V} {X Y : List Value} (hx : renL E xs = some X) (hy : renL E ys = some Y) (hx1 : X.all (·.oneCell') = true) (hy1 : Y.all (·.oneCell') = true) :
  ∀ (k i : Nat) (b : Bool), eqEs f C t n k (xs.drop (i * n)) (ys.drop (i * n)) = some b → (Op.eqItems d t n X.toArray Y.toArray (List.range' i k)).run P w = .ok b w
 | 0, i, b, h => by simp [eqEs] at h; subst h; simp [Op.eqItems]
 | k + 1, i, b, h => by
  simp only [eqEs, Option.bind_eq_some_iff] at h
  obtain ⟨p, hp, q, hq, e, he, h⟩ := h
  have sub : ∀ {Z : List Value}, Z.all (·.oneCell') = true → (Z.drop (i * n)).all (·.oneCell') = true := fun h => List.all_eq_true.2 fun x hx => List.all_eq_true.1 h x (List.mem_of_mem_drop hx)
  obtain ⟨p', hp1, hp2⟩ := partV_run hC hp (renL_drop _ hx) (sub hx1)
  obtain ⟨q', hq1, hq2⟩ := partV_run hC hq (renL_drop _ hy) (sub hy1)
  simp only [part_drop] at hp2 hq2
  have h3 := ih _ _ _ _ _ he hp1 hq1
  rw [List.range'_succ]
  simp only [Op.eqItems, Sem.run_bind, hp2 w, hq2 w, h3, Result.andThen_ok]
  cases e with
  | true =>
   simp only [Bool.not_true, Bool.false_eq_true, if_false]
   simp only [dropF_eq, List.drop_drop] at h
   rw [show i * n + n = (i + 1) * n by rw [Nat.succ_mul]] at h
   exact eqEs_ok ih hx hy hx1 hy1 k (i + 1) b h
  | false =>
   simp at h
   subst h
   simp
omit hC in
theorem bare_ok {E : Env} {hp : Hp} {w : World} (hr : Rep E hp.t w) {h : Nat} (hb : bare hp h = true) : ∃ e C T, E h = some e ∧ w.heap[e.1]? = some (.cells C T (0, 0)) ∧ roB h = false ∧ ∃ o, hp.t.get h = some o := by
 unfold bare at hb
 split at hb
 ·rename_i cs t op hg
  obtain ⟨hg, hro⟩ := getW_some hg
  obtain ⟨e, x, h1, h2, h3⟩ := hr.has h _ hg
  obtain ⟨pre, l, sp, fz, g1, g2, g3, rfl, g5, g6, g7, g8⟩ := h3
  rw [g7 rfl] at h2
  exact ⟨e, _, _, h1, h2, hro, _, hg⟩
 ·simp at hb
omit hC in
theorem str_beq (a b : List UInt8) : ((⟨a.toArray⟩ : ByteArray) == ⟨b.toArray⟩) = (a == b) := by
 show (a.toArray == b.toArray) = (a == b)
 simp
set_option maxHeartbeats 4000000 in
theorem veq_ok : ∀ (d : Nat) (t : TypeId) (x y : V) (b : Bool) (k : Nat) (E : Env) (hp : Hp) (w : World) (X Y : Value), veq C hp d t x y = some b → Rep E hp.t w → ren E x = some X → ren E y = some Y → (Op.equalIn (d + k) t X Y).run P w = .ok b w
 | 0, t, x, y, b, k, E, hp, w, X, Y, h, hr, hX, hY => by simp [veq] at h
 | d + 1, t, x, y, b, k, E, hp, w, X, Y, h, hr, hX, hY => by
  rw [show d + 1 + k = (d + k) + 1 by omega]
  simp only [veq, Option.bind_eq_some_iff] at h
  obtain ⟨ti, ht, h⟩ := h
  have hT := tiV_ok hC ht
  split at h
  ·rename_i p q hd
   simp [ren] at hX hY h
   subst hX hY h
   simp [Op.equalIn, run_underlying (hT.bool hd) w]
  ·rename_i kk k1 p k2 q hd
   split at h
   ·rename_i hk
    simp only [Option.some.injEq] at h
    simp only [ren, Option.some.injEq] at hX hY
    subst hX hY h
    have := kindEq_iff.1 hk
    subst this
    simp [Op.equalIn, run_underlying (hT.int hd) w, intEq_iff]
   ·simp at h
  ·rename_i p q hd
   simp only [Option.some.injEq] at h
   simp only [ren, Option.some.injEq] at hX hY
   subst hX hY h
   simp only [Op.equalIn, Sem.run_bind, run_underlying (hT.str hd) w, Result.andThen_ok, str_beq, byEq_iff]
   rfl
  ·rename_i e q hd
   simp only [Option.some.injEq] at h
   simp only [ren, Option.some.injEq] at hX
   subst hX h
   cases q with
   | none =>
    simp only [ren, Option.some.injEq] at hY
    subst hY
    simp [Op.equalIn, run_underlying (hT.ptr hd) w]
   | some q =>
    simp only [ren, Option.map_eq_some_iff] at hY
    obtain ⟨f, _, rfl⟩ := hY
    simp [Op.equalIn, run_underlying (hT.ptr hd) w]
  ·rename_i e q hd
   simp only [Option.some.injEq] at h
   simp only [ren, Option.some.injEq, Option.map_eq_some_iff] at hX hY
   obtain ⟨f, _, rfl⟩ := hX
   subst hY h
   simp [Op.equalIn, run_underlying (hT.ptr hd) w]
  ·rename_i e h1 o1 h2 o2 hd
   simp only [Option.bind_eq_some_iff] at h
   obtain ⟨te, hte, h⟩ := h
   simp only [ren, Option.map_eq_some_iff] at hX hY
   obtain ⟨f1, hf1, rfl⟩ := hX
   obtain ⟨f2, hf2, rfl⟩ := hY
   split at h
   ·simp at h
   ·rename_i hz
    have hz' : te.size ≠ 0 := fun e => by rw [e] at hz; simp at hz
    have hsz := (tiV_ok hC hte).size w
    split at h
    ·rename_i hb
     have := Nat.eq_of_beq_eq_true hb
     subst this
     rw [hf1] at hf2
     obtain rfl := Option.some.inj hf2
     simp only [Option.some.injEq] at h
     subst h
     simp only [Op.equalIn, Sem.run_bind, run_underlying (hT.ptr hd) w, Result.andThen_ok, hsz]
     rw [if_pos hz']
     simp only [sameAddr, beq_self_eq_true, if_true]
     show Result.ok _ w = _
     congr 1
     rw [Bool.eq_iff_iff]
     simp [Nat.beq_eq]
    ·rename_i hb
     split at h
     ·rename_i hbb
      simp only [Bool.and_eq_true] at hbb
      simp only [Option.some.injEq] at h
      subst h
      obtain ⟨e1, C1, T1, g1, g2, r1, p1, g3⟩ := bare_ok hr hbb.1
      obtain ⟨e2, C2, T2, g4, g5, r2, p2, g6⟩ := bare_ok hr hbb.2
      rw [hf1] at g1
      rw [hf2] at g4
      obtain rfl := Option.some.inj g1
      obtain rfl := Option.some.inj g4
      have hne : f1.1 ≠ f2.1 := fun e => by
       rcases hr.inj _ _ _ _ _ _ g3 g6 hf1 hf2 e with this | this
       ·rw [this] at hb
        simp [Nat.beq_eq] at hb
       ·rw [r1] at this; simp at this
      simp only [Op.equalIn, Sem.run_bind, run_underlying (hT.ptr hd) w, Result.andThen_ok, hsz]
      rw [if_pos hz']
      exact run_sameAddr_other w (fun e => hne (congrArg Addr.block e)) g2 g5
     ·simp at h
  ·rename_i hd
   obtain ⟨ms, hu⟩ := hT.ifc hd
   simp only [ren, Option.some.injEq] at hX hY h
   subst hX hY h
   simp [Op.equalIn, run_underlying hu w]
  ·rename_i hd
   obtain ⟨ms, hu⟩ := hT.ifc hd
   simp only [ren, Option.some.injEq, Option.map_eq_some_iff] at hX hY h
   obtain ⟨f, _, rfl⟩ := hY
   subst hX h
   simp [Op.equalIn, run_underlying hu w]
  ·rename_i hd
   obtain ⟨ms, hu⟩ := hT.ifc hd
   simp only [ren, Option.some.injEq, Option.map_eq_some_iff] at hX hY h
   obtain ⟨f, _, rfl⟩ := hX
   subst hY h
   simp [Op.equalIn, run_underlying hu w]
  ·rename_i t1 p t2 q hd
   obtain ⟨ms, hu⟩ := hT.ifc hd
   simp only [ren, Option.map_eq_some_iff] at hX hY
   obtain ⟨p', hp', rfl⟩ := hX
   obtain ⟨q', hq', rfl⟩ := hY
   split at h
   ·rename_i hb
    have := Nat.eq_of_beq_eq_true hb
    subst this
    simp only [Option.bind_eq_some_iff] at h
    obtain ⟨t1i, h1, h⟩ := h
    split at h
    ·rename_i heq
     have hT1 := tiV_ok hC h1
     obtain ⟨i, hi, _, _, hrun⟩ := hT1.tinfo w
     have hcmp := (hT1.eq heq).1 i hi
     have := veq_ok d t1 p q b k E hp w p' q' h hr hp' hq'
     simp [Op.equalIn, run_underlying hu w, hrun, hcmp, this]
    ·simp at h
   ·rename_i hb
    simp only [Option.some.injEq] at h
    subst h
    have : t1 ≠ t2 := fun e => by subst e; simp [Nat.beq_eq] at hb
    simp [Op.equalIn, run_underlying hu w, this]
  ·rename_i fs xs ys hd
   split at h
   ·rename_i heq
    obtain ⟨Fs, hu, hfs⟩ := hT.st hd
    obtain ⟨_, _, hst, hnm⟩ := hT.eq heq
    obtain ⟨l, g1, g2, rfl⟩ := ren_agg hX
    obtain ⟨m, g3, g4, rfl⟩ := ren_agg hY
    have hF : P.fieldsOf t = Fs := by simp [Program.fieldsOf, hu]
    rw [run_equalIn_struct w (d + k) t _ _ (by rw [hF]; exact hu) hst, hF]
    refine eqFs_ok hC (f := veq C hp d) (fun t x y b X Y h1 h2 h3 => veq_ok d t x y b k E hp w X Y h1 hr h2 h3) g1 g3 g2 g4 Fs.toList b (fun g hg => hnm Fs hu g (by simpa using hg)) ?_
    rw [hfs]; exact h
   ·simp at h
  ·rename_i n e xs ys hd
   simp only [Option.bind_eq_some_iff] at h
   obtain ⟨te, hte, h⟩ := h
   obtain ⟨i, hi, hsz, _⟩ := (tiV_ok hC hte).info
   obtain ⟨l, g1, g2, rfl⟩ := ren_agg hX
   obtain ⟨m, g3, g4, rfl⟩ := ren_agg hY
   rw [run_equalIn_array w (d + k) _ _ (hT.arr hd) hi]
   have : P.cellsOf e = te.size := by simp [Program.cellsOf, hi, hsz]
   rw [this, List.range_eq_range']
   exact eqEs_ok hC (f := veq C hp d e) (fun x y b X Y h1 h2 h3 => veq_ok d e x y b k E hp w X Y h1 hr h2 h3) g1 g3 g2 g4 n 0 b (by simpa using h)
  ·rename_i e l1 c1 o1 q l2 c2 o2 hd
   simp only [Option.some.injEq] at h
   simp only [ren, Option.some.injEq] at hX
   subst hX h
   cases q with
   | none =>
    simp only [ren, Option.some.injEq] at hY
    subst hY
    simp [Op.equalIn, run_underlying (hT.sl hd) w]
   | some q =>
    obtain ⟨f, _, ⟨_, rfl⟩ | ⟨_, _, _, _, rfl⟩⟩ := ren_slk hY <;> simp [Op.equalIn, run_underlying (hT.sl hd) w]
  ·rename_i hd
   simp only [Option.some.injEq] at h
   simp only [ren, Option.some.injEq] at hY
   obtain ⟨f, _, ⟨_, rfl⟩ | ⟨_, _, _, _, rfl⟩⟩ := ren_slk hX <;> (subst hY h; simp [Op.equalIn, run_underlying (hT.sl hd) w])
  ·rename_i q hd
   simp only [Option.some.injEq] at h
   simp only [ren, Option.some.injEq] at hX
   subst hX h
   cases q with
   | none =>
    simp only [ren, Option.some.injEq] at hY
    subst hY
    simp [Op.equalIn, run_underlying (hT.map hd) w]
   | some q =>
    simp only [ren, Option.map_eq_some_iff] at hY
    obtain ⟨f, _, rfl⟩ := hY
    simp [Op.equalIn, run_underlying (hT.map hd) w]
  ·rename_i hd
   simp only [Option.some.injEq] at h
   simp only [ren, Option.some.injEq, Option.map_eq_some_iff] at hX hY
   obtain ⟨f, _, rfl⟩ := hX
   subst hY h
   simp [Op.equalIn, run_underlying (hT.map hd) w]
  ·rename_i hd
   obtain ⟨_, _, _, hu⟩ := hT.fn hd
   simp only [ren, Option.some.injEq] at hX hY h
   subst hX hY h
   simp [Op.equalIn, run_underlying hu w]
  ·rename_i hd
   obtain ⟨_, _, _, hu⟩ := hT.fn hd
   simp only [ren, Option.some.injEq, Option.map_eq_some_iff, Option.bind_eq_some_iff] at hX hY h
   obtain ⟨_, _, _, _, rfl⟩ := hY
   subst hX h
   simp [Op.equalIn, run_underlying hu w]
  ·rename_i hd
   obtain ⟨_, _, _, hu⟩ := hT.fn hd
   simp only [ren, Option.some.injEq, Option.map_eq_some_iff, Option.bind_eq_some_iff] at hX hY h
   obtain ⟨_, _, _, _, rfl⟩ := hX
   subst hY h
   simp [Op.equalIn, run_underlying hu w]
  ·simp at h
theorem veq_run {t : TypeId} {x y : V} {b : Bool} {d : Nat} {E : Env} {hp : Hp} {w : World} {X Y : Value} (hd : d ≤ 10000) (h : veq C hp d t x y = some b) (hr : Rep E hp.t w) (hX : ren E x = some X) (hY : ren E y = some Y) : (Op.equal t X Y).run P w = .ok b w := by
 have := veq_ok hC d t x y b (10000 - d) E hp w X Y h hr hX hY
 rw [show d + (10000 - d) = 10000 by omega] at this
 exact this
end
/- Vz: the machine's memory operations, against the world's: cells read, written, made. By this project. -/
def OkV (P : Program) (E : Env) (hp : Hp) (w : World) (s : Sem Value) (v : V) (hp' : Hp) : Prop := hp.nx ≤ hp'.nx ∧ (Free E hp.nx hp'.nx → ∃ x w' E', s.run P w = .ok x w' ∧ ren E' v = some x ∧ Out E hp w E' hp' w')
def OkU (P : Program) (E : Env) (hp : Hp) (w : World) (s : Sem Unit) (hp' : Hp) : Prop := hp.nx ≤ hp'.nx ∧ (Free E hp.nx hp'.nx → ∃ w' E', s.run P w = .ok () w' ∧ Out E hp w E' hp' w')
theorem okv_same {P : Program} {E : Env} {hp : Hp} {w : World} {s : Sem Value} {v : V} {x : Value} (hR : Rep E hp.t w) (hs : s.run P w = .ok x w) (hv : ren E v = some x) : OkV P E hp w s v hp := ⟨Nat.le_refl _, fun _ => ⟨x, w, E, hs, hv, out_refl hR⟩⟩
section
variable {P : Program} {C : Cx} (hC : COk P C) {E : Env} {hp : Hp} {w : World} (hR : Rep E hp.t w)
theorem rep_cells {t : Tr VO} (hR : Rep E t w) {h : Nat} {cs : List V} {T : TypeId} {op : Option Nat} {mk : Bool} (hg : t.get h = some (.cells cs T op mk)) :
  ∃ b ex pre l sp fz, E h = some (b, pre.length, ex) ∧ w.heap[b]? = some (.cells (pre ++ l ++ sp).toArray T fz) ∧ renL E cs = some l ∧ l.all (·.oneCell') = true ∧ (op = none → sp = [] ∧ ex = 0) ∧ (∀ s, op = some s → sp.length = ex * s) ∧
   (mk = false → fz = (0, 0)) ∧ (fz = (0, 0) ∨ fz = ((pre ++ l ++ sp).length, (pre ++ l ++ sp).length + 1) ∨ roB h = true) := by
 obtain ⟨⟨b, k, ex⟩, x, h1, h2, h3⟩ := hR.has h _ hg
 obtain ⟨pre, l, sp, fz, g1, g2, g3, rfl, g5, g6, g7, g8⟩ := h3
 simp only at g3 g5 g6
 subst g3
 exact ⟨b, ex, pre, l, sp, fz, h1, h2, g1, g2, g5, g6, g7, g8⟩
theorem cell_mid {b : Nat} {pre l sp : List Value} {T : TypeId} {fz : Nat × Nat} (hb : w.heap[b]? = some (.cells (pre ++ l ++ sp).toArray T fz)) {j : Nat} {v : Value} (hj : l[j]? = some v) : w.cell? ⟨b, pre.length + j, none⟩ = some v := by
 have hl : j < l.length := (List.getElem?_eq_some_iff.1 hj).1
 simp only [World.cell?, hb]
 simp only [Option.isSome_none, Bool.false_eq_true, if_false, List.getElem?_toArray]
 rw [List.getElem?_append_left (by simp; omega), List.getElem?_append_right (by omega)]
 simpa using hj
theorem frozen_mid {b : Nat} {pre l sp : List Value} {T : TypeId} {fz : Nat × Nat} (hb : w.heap[b]? = some (.cells (pre ++ l ++ sp).toArray T fz)) (hfz : fz = (0, 0) ∨ fz = ((pre ++ l ++ sp).length, (pre ++ l ++ sp).length + 1) ∨ false = true) {j : Nat} (hj : j < (pre ++ l ++ sp).length) : w.frozen? ⟨b, j, none⟩ = false := by
 simp only [World.frozen?, hb]
 rcases hfz with rfl | rfl | h
 ·simp
 ·simp at hj ⊢; omega
 ·simp at h
theorem fz_f {A B : Prop} {h : Nat} (hro : roB h = false) (k : A ∨ B ∨ roB h = true) : A ∨ B ∨ false = true := by
 rcases k with k | k | k
 ·exact .inl k
 ·exact .inr (.inl k)
 ·rw [hro] at k; simp at k
omit hR in
theorem over_mid {pre l sp L : List Value} {o : Nat} (h : o + L.length ≤ l.length) : (pre ++ l ++ sp).take (pre.length + o) ++ L ++ (pre ++ l ++ sp).drop (pre.length + o + L.length) = pre ++ (l.take o ++ L ++ l.drop (o + L.length)) ++ sp := by
 have e1 : (pre ++ l ++ sp).take (pre.length + o) = pre ++ l.take o := by
  rw [List.append_assoc, List.take_append, List.take_append]
  have : pre.length + o - pre.length = o := by omega
  rw [this, List.take_of_length_le (by omega), show o - l.length = 0 by omega, List.take_zero, List.append_nil]
 have e2 : (pre ++ l ++ sp).drop (pre.length + o + L.length) = l.drop (o + L.length) ++ sp := by
  rw [List.append_assoc, List.drop_append, List.drop_append]
  have : pre.length + o + L.length - pre.length = o + L.length := by omega
  rw [this, List.drop_of_length_le (by omega), show o + L.length - l.length = 0 by omega, List.drop_zero, List.nil_append]
 rw [e1, e2]
 simp [List.append_assoc]
theorem cellsAt_ok {h o n : Nat} {cs vs : List V} (hR : Rep E hp.t w) (hg : cellsAt hp h = some cs) (hc : cutL cs o n = some vs) : ∃ b k ex L, E h = some (b, k, ex) ∧ renL E vs = some L ∧ L.length = n ∧ L.all (·.oneCell') = true ∧ ∀ j v, L[j]? = some v → w.cell? ⟨b, k + o + j, none⟩ = some v := by
 unfold cellsAt Hp.get at hg
 split at hg
 ·rename_i cs' t op mk hg'
  simp only [Option.some.injEq] at hg
  subst hg
  obtain ⟨b, ex, pre, l, sp, fz, h1, h2, h3, h4, _⟩ := rep_cells hR hg'
  obtain ⟨e1, e2, e3⟩ := cutL_some hc
  have hlen := renL_len h3
  refine ⟨b, pre.length, ex, (l.drop o).take n, h1, e1 ▸ renL_take _ (renL_drop _ h3), by simp; omega, List.all_eq_true.2 fun x hx => List.all_eq_true.1 h4 x (List.mem_of_mem_drop (List.mem_of_mem_take hx)), fun j v hv => ?_⟩
  rw [List.getElem?_take] at hv
  split at hv
  ·rw [Nat.add_assoc]
   exact cell_mid h2 (by simpa using hv)
  ·simp at hv
 ·simp at hg
theorem loadV_ok {h o n : Nat} {vs : List V} (hR : Rep E hp.t w) (hl : loadV hp h o n = some vs) : ∃ L, renL E vs = some L ∧ L.length = n ∧ L.all (·.oneCell') = true ∧ ∀ b k ex, E h = some (b, k, ex) → ∀ j v, L[j]? = some v → w.cell? ⟨b, k + o + j, none⟩ = some v := by
 cases n with
 | zero =>
  simp [loadV] at hl
  subst hl
  exact ⟨[], rfl, rfl, rfl, fun b k ex _ j v hv => by simp at hv⟩
 | succ n =>
  simp only [loadV, Option.bind_eq_some_iff] at hl
  obtain ⟨cs, h1, h2⟩ := hl
  obtain ⟨b, k, ex, L, g1, g2, g3, g4, g5⟩ := cellsAt_ok hR h1 h2
  refine ⟨L, g2, g3, g4, fun b' k' ex' he => ?_⟩
  rw [g1] at he
  simp only [Option.some.injEq, Prod.mk.injEq] at he
  obtain ⟨rfl, rfl, rfl⟩ := he
  exact g5
include hC
theorem load_ok {t : TypeId} {h o : Nat} {cs : List V} {v : V} (hR : Rep E hp.t w) (hg : cellsAt hp h = some cs) (hp' : partV C t cs o = some v) : ∃ b k ex x, E h = some (b, k, ex) ∧ ren E v = some x ∧ (loadVar t ⟨b, k + o, none⟩).run P w = .ok x w := by
 simp only [partV, Option.bind_eq_some_iff] at hp'
 obtain ⟨ti, ht, hp'⟩ := hp'
 have hT := tiV_ok hC ht
 have hrow := hT.agg w
 cases hr : ti.d.row with
 | true =>
  rw [hr] at hp' hrow
  simp only [Option.bind_eq_some_iff, Option.some.injEq] at hp'
  obtain ⟨m, hm, rfl⟩ := hp'
  obtain ⟨b, k, ex, L, g1, g2, g3, g4, g5⟩ := cellsAt_ok hR hg hm
  refine ⟨b, k, ex, .agg L.toArray, g1, ren_agg_mk g2 g4, ?_⟩
  have := run_loadCells_list (P := P) w ⟨b, k + o, none⟩ L (fun j v hv => by rw [Addr.add_mid]; exact g5 j v hv)
  rw [g3] at this
  simp [loadVar, hrow, hT.size w, this]
 | false =>
  rw [hr] at hp' hrow
  simp only [getL_eq] at hp'
  have hc : cutL cs o 1 = some [v] := by
   have hl := (List.getElem?_eq_some_iff.1 hp').1
   rw [cutL_mk (by omega)]
   simp only [Option.some.injEq]
   rw [List.drop_eq_getElem_cons hl, List.take_succ_cons, List.take_zero]
   rw [List.getElem?_eq_getElem hl] at hp'
   rw [Option.some.inj hp']
  obtain ⟨b, k, ex, L, g1, g2, g3, g4, g5⟩ := cellsAt_ok hR hg hc
  obtain ⟨x, t', h1, h2, rfl⟩ := renL_cons g2
  refine ⟨b, k, ex, x, g1, h1, ?_⟩
  have := g5 0 x (by simp)
  simp [loadVar, hrow, load, Sem.run]
  simp at this
  simp [this]
omit hC
theorem storeV_ok {h o : Nat} {vs : List V} {hp' : Hp} {L : List Value} (hR : Rep E hp.t w) (hs : storeV hp h o vs = some hp') (hL : renL E vs = some L) (hL1 : L.all (·.oneCell') = true) {b k ex : Nat} (he : E h = some (b, k, ex)) :
  hp.nx = hp'.nx ∧ (∀ j, j < L.length → (w.cell? ⟨b, k + o + j, none⟩).isSome = true) ∧ (∀ j, j < L.length → w.frozen? ⟨b, k + o + j, none⟩ = false) ∧ Out E hp w E hp' (w.setCells b (k + o) L) := by
 have hlen := renL_len hL
 cases vs with
 | nil =>
  simp [storeV] at hs
  subst hs
  have : L = [] := by simpa using hlen
  subst this
  exact ⟨rfl, fun j hj => by simp at hj, fun j hj => by simp at hj, out_refl hR⟩
 | cons v r =>
  simp only [storeV] at hs
  split at hs
  ·rename_i cs t op mk hg
   obtain ⟨hg, hro⟩ := getW_some hg
   split at hs
   ·rename_i hb
    have hb := geL_iff.1 hb
    rw [lenF_eq] at hb
    simp only [Option.some.injEq] at hs
    subst hs
    obtain ⟨b', ex', pre, l, sp, fz, h1, h2, h3, h4, h5, h6, h7, h8⟩ := rep_cells hR hg
    replace h8 := fz_f hro h8
    rw [he] at h1
    simp only [Option.some.injEq, Prod.mk.injEq] at h1
    obtain ⟨rfl, rfl, rfl⟩ := h1
    have hl := renL_len h3
    have hcell : ∀ j, j < L.length → (w.cell? ⟨b, pre.length + o + j, none⟩).isSome = true := fun j hj => by
     have hjl : o + j < l.length := by omega
     rw [Nat.add_assoc, cell_mid h2 (List.getElem?_eq_getElem hjl)]
     rfl
    have hfr : ∀ j, j < L.length → w.frozen? ⟨b, pre.length + o + j, none⟩ = false := fun j hj => frozen_mid h2 h8 (by simp; omega)
    refine ⟨rfl, hcell, hfr, ?_⟩
    obtain ⟨r1, r2, r3, r4⟩ := setCells_rest (b := b) L (pre.length + o) w
    refine out_put hro hR hg he (x' := .cells (pre ++ (l.take o ++ L ++ l.drop (o + L.length)) ++ sp).toArray t fz) ?_ ?_ (fun k' hk' => heap_setCells_other _ _ _ _ hk') r4 r1 r2 r3
    ·refine ⟨pre, _, sp, fz, renL_putAt h3 hL hb, ?_, rfl, rfl, h5, h6, h7, ?_⟩
     ·rw [List.all_append, List.all_append, hL1]
      simp only [Bool.and_true, Bool.and_eq_true]
      exact ⟨List.all_eq_true.2 fun x hx => List.all_eq_true.1 h4 x (List.mem_of_mem_take hx), List.all_eq_true.2 fun x hx => List.all_eq_true.1 h4 x (List.mem_of_mem_drop hx)⟩
     ·have : (pre ++ (l.take o ++ L ++ l.drop (o + L.length)) ++ sp).length = (pre ++ l ++ sp).length := by simp; omega
      rw [this]; exact h8
    ·have := heap_setCells_at (b := b) (E := t) (fz := fz) L (pre.length + o) w (pre ++ l ++ sp) h2 (by simp; omega)
     rw [this]
     congr 2
     rw [over_mid]
     omega
   ·simp at hs
  ·simp at hs
end
/- Vb: the machine's arithmetic, comparisons and conversions, against the world's. By this project. -/
theorem vint_ok {op : BinOp} {k : IntKind} {x y : Int} {v : V} (h : vint op k x y = some v) (t : TypeId) (E : Env) : ∃ X, ren E v = some X ∧ binOp op t (.int k x) (.int k y) = pure X := by
 cases op <;> simp only [vint] at h
 case add => simp only [Option.some.injEq] at h; subst h; exact ⟨_, rfl, bin_add ..⟩
 case sub => simp only [Option.some.injEq] at h; subst h; exact ⟨_, rfl, bin_sub ..⟩
 case mul => simp only [Option.some.injEq] at h; subst h; exact ⟨_, rfl, bin_mul ..⟩
 case quo =>
  split at h
  ·simp at h
  ·rename_i hz
   simp only [Option.some.injEq] at h; subst h
   rw [intEq_iff] at hz
   exact ⟨_, rfl, bin_quo t k x y (by simpa using hz)⟩
 case rem =>
  split at h
  ·simp at h
  ·rename_i hz
   simp only [Option.some.injEq] at h; subst h
   rw [intEq_iff] at hz
   exact ⟨_, rfl, bin_rem t k x y (by simpa using hz)⟩
 case and => simp only [Option.some.injEq] at h; subst h; exact ⟨_, rfl, bin_and ..⟩
 case or => simp only [Option.some.injEq] at h; subst h; exact ⟨_, rfl, bin_or ..⟩
 case xor => simp only [Option.some.injEq] at h; subst h; exact ⟨_, rfl, bin_xor ..⟩
 case andNot => simp only [Option.some.injEq] at h; subst h; exact ⟨_, rfl, by simp [binOp, Op.intBits]⟩
 case eql => simp only [Option.some.injEq] at h; subst h; exact ⟨_, rfl, by rw [bin_eql, intEq_iff]⟩
 case neq => simp only [Option.some.injEq] at h; subst h; exact ⟨_, rfl, by rw [bin_neq, intEq_iff]; rfl⟩
 case lss => simp only [Option.some.injEq] at h; subst h; exact ⟨_, rfl, by rw [bin_lss, intLt_iff]⟩
 case leq => simp only [Option.some.injEq] at h; subst h; exact ⟨_, rfl, by rw [bin_leq, intLe_iff]⟩
 case gtr => simp only [Option.some.injEq] at h; subst h; exact ⟨_, rfl, by rw [bin_gtr, intLt_iff]⟩
 case geq => simp only [Option.some.injEq] at h; subst h; exact ⟨_, rfl, by rw [bin_geq, intLe_iff]⟩
 all_goals simp at h
theorem vshift_ok {op : BinOp} {k k' : IntKind} {x y : Int} {v : V} (h : vshift op k x y = some v) (t : TypeId) (E : Env) : ∃ X, ren E v = some X ∧ binOp op t (.int k x) (.int k' y) = pure X := by
 simp only [vshift, Option.bind_eq_some_iff] at h
 obtain ⟨n, hn, h⟩ := h
 have := asNat_some hn
 subst this
 cases op <;> simp only at h <;> try (simp at h; done)
 ·simp only [Option.some.injEq] at h; subst h
  exact ⟨_, rfl, by rw [bin_shl t k k' x n (by omega)]; simp⟩
 ·simp only [Option.some.injEq] at h; subst h
  exact ⟨_, rfl, by rw [bin_shr t k k' x n (by omega)]; simp⟩
theorem vstr_ok {P : Program} {op : BinOp} {x y : List UInt8} {v : V} (h : vstr op x y = some v) (t : TypeId) (E : Env) (w : World) : ∃ X, ren E v = some X ∧ (binOp op t (.string ⟨x.toArray⟩) (.string ⟨y.toArray⟩)).run P w = .ok X w := by
 cases op <;> simp only [vstr] at h
 case add =>
  split at h
  ·rename_i hb
   have hb := Nat.le_of_ble_eq_true hb
   rw [lenF_eq, lenF_eq] at hb
   rw [appF_eq] at h
   simp only [Option.some.injEq] at h; subst h
   refine ⟨_, rfl, ?_⟩
   rw [binOp_string_add]
   have := run_string_add_sum (P := P) (w := w) ⟨x.toArray⟩ ⟨y.toArray⟩ (by simp [ByteArray.size]; omega)
   rw [this]
   congr 2
   first | done | (apply ByteArray.ext; simp)
  ·simp at h
 case eql => simp only [Option.some.injEq] at h; subst h; exact ⟨_, rfl, by rw [binOp_string_eql, ByteArray.toList_eq, ByteArray.toList_eq, byEq_iff]; rfl⟩
 case neq => simp only [Option.some.injEq] at h; subst h; exact ⟨_, rfl, by rw [binOp_string_neq, ByteArray.toList_eq, ByteArray.toList_eq, byEq_iff]; rfl⟩
 case lss => simp only [Option.some.injEq] at h; subst h; exact ⟨_, rfl, by rw [binOp_string_lss, ByteArray.toList_eq, ByteArray.toList_eq, byLt_iff]; rfl⟩
 case leq => simp only [Option.some.injEq] at h; subst h; exact ⟨_, rfl, by simp only [binOp, Op.stringOp, ByteArray.toList_eq, byEq_iff, byLt_iff]; rfl⟩
 case gtr => simp only [Option.some.injEq] at h; subst h; exact ⟨_, rfl, by simp only [binOp, Op.stringOp, ByteArray.toList_eq, byEq_iff, byLt_iff]; rfl⟩
 case geq => simp only [Option.some.injEq] at h; subst h; exact ⟨_, rfl, by simp only [binOp, Op.stringOp, ByteArray.toList_eq, byEq_iff, byLt_iff]; rfl⟩
 all_goals simp at h
def tagX : Value → Nat
 | .bool _ => 0
 | .int _ _ => 1
 | .string _ => 2
 | .pointer _ => 3
 | .slice _ _ _ => 4
 | .map _ => 5
 | .func _ _ _ => 6
 | .nilFunc => 7
 | .iface _ _ => 8
 | .nilIface => 9
 | .agg _ => 10
 | .tuple _ => 11
 | _ => 12
def tagV : V → Nat
 | .b _ => 0
 | .i _ _ => 1
 | .s _ => 2
 | .p _ => 3
 | .sl _ _ _ _ => 4
 | .m _ => 5
 | .fn _ _ _ => 6
 | .nf => 7
 | .ifc _ _ => 8
 | .ni => 9
 | .agg _ => 10
 | .tup _ => 11
theorem ren_tag {E : Env} {v : V} {X : Value} (h : ren E v = some X) : tagX X = tagV v := by
 cases v with
 | b x => simp [ren] at h; subst h; rfl
 | i k n => simp [ren] at h; subst h; rfl
 | s x => simp [ren] at h; subst h; rfl
 | p a =>
  cases a with
  | none => simp [ren] at h; subst h; rfl
  | some a => simp only [ren, Option.map_eq_some_iff] at h; obtain ⟨_, _, rfl⟩ := h; rfl
 | sl a l c op =>
  cases a with
  | none => simp [ren] at h; subst h; rfl
  | some a => obtain ⟨e, _, ⟨_, rfl⟩ | ⟨_, _, _, _, rfl⟩⟩ := ren_slk h <;> rfl
 | m a =>
  cases a with
  | none => simp [ren] at h; subst h; rfl
  | some a => simp only [ren, Option.map_eq_some_iff] at h; obtain ⟨_, _, rfl⟩ := h; rfl
 | fn f first cap =>
  simp only [ren, Option.map_eq_some_iff, Option.bind_eq_some_iff] at h
  obtain ⟨_, _, _, _, rfl⟩ := h; rfl
 | nf => simp [ren] at h; subst h; rfl
 | ifc t v => simp only [ren, Option.map_eq_some_iff] at h; obtain ⟨_, _, rfl⟩ := h; rfl
 | ni => simp [ren] at h; subst h; rfl
 | agg cs => obtain ⟨_, _, _, rfl⟩ := ren_agg h; rfl
 | tup vs => simp only [ren, Option.map_eq_some_iff] at h; obtain ⟨_, _, rfl⟩ := h; rfl
section
variable {P : Program} {C : Cx} (hC : COk P C) {E : Env} {hp : Hp} {w : World} (hR : Rep E hp.t w) {fr : Tr V} {a : Act} (hF : FrR E fr a)
theorem isConst_eval {x : Operand} (h : isConstO x = true) : ∃ c, x = .const c := by cases x <;> simp [isConstO] at h; exact ⟨_, rfl⟩
include hC in
theorem veqOp_ok {op : BinOp} (hop : op = .eql ∨ op = .neq) {t : TypeId} {x y : Operand} {p q : V} {X Y : Value} {b : Bool} (hR : Rep E hp.t w) (h : veqOp C hp t x y p q = some b) (hX : ren E p = some X) (hY : ren E q = some Y) :
  (eqGuard op t x y X Y).run P w = .ok () w ∧ (Op.equal t X Y).run P w = .ok b w := by
 have hneg : (!(match op with | .eql => true | .neq => true | _ => false)) = false := by rcases hop with rfl | rfl <;> rfl
 unfold veqOp at h
 split at h
 ·simp only [ren, Option.some.injEq] at hX hY
  subst hX hY
  split at h
  ·rename_i hc
   refine ⟨?_, veq_run hC (by omega) h hR rfl rfl⟩
   simp only [Bool.or_eq_true] at hc
   rcases hc with hc | hc <;> obtain ⟨c, rfl⟩ := isConst_eval hc <;> rcases hop with rfl | rfl <;> simp [eqGuard]
  ·simp at h
 ·rename_i xs ys
  simp only [Option.bind_eq_some_iff] at h
  obtain ⟨ti, ht, h⟩ := h
  split at h
  ·rename_i heq
   have hg := ((tiV_ok hC ht).eq heq).2.1
   refine ⟨?_, veq_run hC (by omega) h hR hX hY⟩
   obtain ⟨l, _, _, rfl⟩ := ren_agg hX
   obtain ⟨m, _, _, rfl⟩ := ren_agg hY
   rcases hop with rfl | rfl <;> simp [eqGuard, hg, program, Sem.run]
  ·simp at h
 ·rename_i hn1 hn2
  refine ⟨?_, veq_run hC (by omega) h hR hX hY⟩
  have g1 : ¬ (X = .nilIface ∧ Y = .nilIface) := fun ⟨e1, e2⟩ => by
   subst e1 e2
   have n1 := ren_tag hX
   have n2 := ren_tag hY
   cases p <;> simp [tagX, tagV] at n1
   cases q <;> simp [tagX, tagV] at n2
   exact hn1 rfl rfl
  have g2 : ∀ l m, ¬ (X = .agg l ∧ Y = .agg m) := fun l m ⟨e1, e2⟩ => by
   subst e1 e2
   have n1 := ren_tag hX
   have n2 := ren_tag hY
   cases p <;> simp [tagX, tagV] at n1
   cases q <;> simp [tagX, tagV] at n2
   exact hn2 _ _ rfl rfl
  rcases hop with rfl | rfl <;> (unfold eqGuard; simp only [Bool.not_true, Bool.false_eq_true, if_false]; cases X <;> cases Y <;> first | rfl | (exact absurd ⟨rfl, rfl⟩ g1) | (exact absurd ⟨rfl, rfl⟩ (g2 _ _)))
theorem bin_other {op : BinOp} {t : TypeId} {X Y : Value} (hi : ∀ k a j b, ¬ (X = .int k a ∧ Y = .int j b)) (hs : ∀ a b, ¬ (X = .string a ∧ Y = .string b)) (hop : op = .eql) (hf : ∀ k a, X ≠ .float k a) (hc : ∀ k a b, X ≠ .complex k a b) : binOp op t X Y = (do pure (.bool (← Op.equal t X Y))) := by
 subst hop
 cases X <;> cases Y <;> first | rfl | (exact absurd ⟨rfl, rfl⟩ (hi _ _ _ _)) | (exact absurd ⟨rfl, rfl⟩ (hs _ _)) | (exact absurd rfl (hf _ _)) | (exact absurd rfl (hc _ _ _))
theorem bin_other' {op : BinOp} {t : TypeId} {X Y : Value} (hi : ∀ k a j b, ¬ (X = .int k a ∧ Y = .int j b)) (hs : ∀ a b, ¬ (X = .string a ∧ Y = .string b)) (hop : op = .neq) (hf : ∀ k a, X ≠ .float k a) (hc : ∀ k a b, X ≠ .complex k a b) : binOp op t X Y = (do pure (.bool (!(← Op.equal t X Y)))) := by
 subst hop
 cases X <;> cases Y <;> first | rfl | (exact absurd ⟨rfl, rfl⟩ (hi _ _ _ _)) | (exact absurd ⟨rfl, rfl⟩ (hs _ _)) | (exact absurd rfl (hf _ _)) | (exact absurd rfl (hc _ _ _))
theorem ren_int {v : V} {k : IntKind} {n : Int} (h : ren E v = some (.int k n)) : v = .i k n := by
 have t := ren_tag h
 cases v <;> simp [tagX, tagV] at t
 simp only [ren, Option.some.injEq, Value.int.injEq] at h
 rw [h.1, h.2]
theorem ren_string {v : V} {s : ByteArray} (h : ren E v = some (.string s)) : ∃ x, v = .s x := by
 have t := ren_tag h
 cases v <;> simp [tagX, tagV] at t
 exact ⟨_, rfl⟩
theorem ren_not_float {v : V} {k : FloatKind} {n : Nat} : ren E v ≠ some (.float k n) := fun h => by
 have t := ren_tag h
 cases v <;> simp [tagX, tagV] at t
theorem ren_not_complex {v : V} {k : FloatKind} {n m : Nat} : ren E v ≠ some (.complex k n m) := fun h => by
 have t := ren_tag h
 cases v <;> simp [tagX, tagV] at t
include hC in
theorem vbin_ok {op : BinOp} {t : TypeId} {x y : Operand} {p q v : V} {X Y : Value} (hR : Rep E hp.t w) (h : vbin C hp op t x y p q = some v) (hX : ren E p = some X) (hY : ren E q = some Y) :
  ∃ Z, ren E v = some Z ∧ (do eqGuard op t x y X Y; binOp op t X Y : Sem Value).run P w = .ok Z w := by
 unfold vbin at h
 split at h
 ·rename_i k n k' m
  simp only [ren, Option.some.injEq] at hX hY
  subst hX hY
  rw [eqGuard_int]
  split at h
  ·obtain ⟨Z, h1, h2⟩ := vshift_ok (k' := k') h t E
   exact ⟨Z, h1, by rw [h2]; rfl⟩
  ·obtain ⟨Z, h1, h2⟩ := vshift_ok (k' := k') h t E
   exact ⟨Z, h1, by rw [h2]; rfl⟩
  ·split at h
   ·rename_i hk
    have := kindEq_iff.1 hk
    subst this
    obtain ⟨Z, h1, h2⟩ := vint_ok h t E
    exact ⟨Z, h1, by rw [h2]; rfl⟩
   ·simp at h
 ·rename_i s s'
  simp only [ren, Option.some.injEq] at hX hY
  subst hX hY
  obtain ⟨Z, h1, h2⟩ := vstr_ok (P := P) h t E w
  refine ⟨Z, h1, ?_⟩
  have : eqGuard op t x y (.string ⟨s.toArray⟩) (.string ⟨s'.toArray⟩) = pure () := by cases op <;> rfl
  rw [this]
  exact h2
 ·rename_i hni hns
  have hi : ∀ k a j b, ¬ (X = .int k a ∧ Y = .int j b) := fun k a j b ⟨e1, e2⟩ => by
   subst e1 e2
   exact hni _ _ _ _ (ren_int hX) (ren_int hY)
  have hs : ∀ a b, ¬ (X = .string a ∧ Y = .string b) := fun a b ⟨e1, e2⟩ => by
   subst e1 e2
   obtain ⟨_, rfl⟩ := ren_string hX
   obtain ⟨_, rfl⟩ := ren_string hY
   exact hns _ _ rfl rfl
  have hf : ∀ k a, X ≠ .float k a := fun k a e => ren_not_float (e ▸ hX)
  have hc : ∀ k a b, X ≠ .complex k a b := fun k a b e => ren_not_complex (e ▸ hX)
  split at h
  ·simp only [Option.bind_eq_some_iff, Option.some.injEq] at h
   obtain ⟨b, hb, rfl⟩ := h
   obtain ⟨h1, h2⟩ := veqOp_ok hC (.inl rfl) hR hb hX hY
   exact ⟨.bool b, rfl, by rw [Sem.run_bind, h1, bin_other hi hs rfl hf hc]; simp [h2]⟩
  ·simp only [Option.bind_eq_some_iff, Option.some.injEq] at h
   obtain ⟨b, hb, rfl⟩ := h
   obtain ⟨h1, h2⟩ := veqOp_ok hC (.inr rfl) hR hb hX hY
   exact ⟨.bool (!b), rfl, by rw [Sem.run_bind, h1, bin_other' hi hs rfl hf hc]; simp [h2]⟩
  ·simp at h
end
/- Vg: the machine's slices: what append, copy and cuts do, against the world's. By this project. -/
section
variable {P : Program} {C : Cx} (hC : COk P C) {E : Env} {hp : Hp} {w : World} {fr : Tr V} {a : Act}
theorem bytes_cells (s : List UInt8) : renL E (s.map byV) = some (s.map fun b => Value.int .u8 b.toNat) := by
 induction s with
 | nil => rfl
 | cons b r ih => simp only [List.map_cons, renL, ih, Option.bind_some, Option.map_some]; rfl
theorem srcV_ok {sz n : Nat} {x : V} {cs : List V} {X : Value} (hR : Rep E hp.t w) (h : srcV hp sz x = some (n, cs)) (hX : ren E x = some X) :
  ∃ L, renL E cs = some L ∧ L.length = n * sz ∧ L.all (·.oneCell') = true ∧ (∀ w', (Builtin.lenOf X).run P w' = .ok n w') ∧ ∀ m, m ≤ n → (Builtin.firstCells sz m X).run P w = .ok (L.take (m * sz)).toArray w := by
 unfold srcV at h
 split at h
 ·rename_i l c op
  simp only [ren, Option.some.injEq] at hX
  subst hX
  split at h
  ·simp at h
   obtain ⟨rfl, rfl⟩ := h
   refine ⟨[], rfl, by simp, rfl, fun w' => rfl, fun m hm => ?_⟩
   have : m = 0 := by omega
   subst this
   simpa using run_firstCells_none (P := P) w sz 0 0 c
  ·simp at h
 ·rename_i hh o l c op
  simp only [Option.bind_eq_some_iff, Option.some.injEq, Prod.mk.injEq] at h
  obtain ⟨cs', h1, rfl, rfl⟩ := h
  obtain ⟨⟨b, k, ex⟩, he, ⟨hwk, rfl⟩ | ⟨hwk, rfl, rfl, rfl, rfl⟩⟩ := ren_slk hX
  rotate_left
  ·obtain ⟨L, g1, g2, g3, g4⟩ := loadV_ok hR h1
   obtain rfl : L = [] := List.length_eq_zero_iff.1 (by simpa using g2)
   refine ⟨[], g1, by simp, g3, fun w' => rfl, fun m hm => ?_⟩
   obtain rfl : m = 0 := by omega
   have := run_loadCells_list (P := P) w ⟨b, k, some ex⟩ [] (fun j v hv => by simp at hv)
   show (loadCells ⟨b, k, some ex⟩ (0 * sz)).run P w = _
   rw [Nat.zero_mul]
   simpa using this
  obtain ⟨L, g1, g2, g3, g4⟩ := loadV_ok hR h1
  refine ⟨L, g1, g2, g3, fun w' => rfl, fun m hm => ?_⟩
  have hle : m * sz ≤ l * sz := Nat.mul_le_mul_right _ hm
  have := run_loadCells_list (P := P) w ⟨b, k + o, none⟩ (L.take (m * sz)) (fun j v hv => by
   rw [Addr.add_mid]
   rw [List.getElem?_take] at hv
   split at hv
   ·exact g4 b k ex he j v hv
   ·simp at hv)
  rw [List.length_take, g2, Nat.min_eq_left hle] at this
  exact this
 ·rename_i s
  simp only [ren, Option.some.injEq] at hX
  subst hX
  split at h
  ·rename_i hz
   have hz := Nat.eq_of_beq_eq_true hz
   subst hz
   simp only [Option.some.injEq, Prod.mk.injEq, lenF_eq] at h
   obtain ⟨rfl, rfl⟩ := h
   refine ⟨_, bytes_cells s, by simp, ?_, fun w' => ?_, fun m hm => ?_⟩
   ·simp [List.all_eq_true]
    intros; rfl
   ·show Result.ok _ w' = _
    simp [ByteArray.size]
   ·show Result.ok _ w = _
    congr 1
    apply Array.ext'
    simp [ByteArray.data_extract, List.map_take]
  ·simp at h
 ·simp at h
include hC
theorem src_of {sz n : Nat} {x : V} {cs : List V} {X : Value} {tX : TypeId} (hR : Rep E hp.t w) (ht : srcT C tX = true) (h : srcV hp sz x = some (n, cs)) (hX : ren E x = some X) : ∃ L, renL E cs = some L ∧ Src P sz tX X n L w := by
 obtain ⟨L, g1, g2, g3, g4, g5⟩ := srcV_ok (P := P) hR h hX
 obtain ⟨L', k1, k2, k3, k4, k5⟩ := srcV_ok (P := P) (w := w.drew) (hR.same rfl) h hX
 rw [g1] at k1
 obtain rfl := Option.some.inj k1
 have e : L.take (n * sz) = L := List.take_of_length_le (by omega)
 refine ⟨L, g1, ?_, g4, ?_, ?_, g2, fun u hu => List.all_eq_true.1 g3 u hu⟩
 ·unfold srcT at ht
  cases hti : tiV C tX with
  | none => rw [hti] at ht; simp at ht
  | some ti =>
   rw [hti] at ht
   have hT := tiV_ok hC hti
   simp only at ht
   cases hd : ti.d <;> rw [hd] at ht <;> simp at ht
   ·exact .inr (hT.str hd)
   ·exact .inl ⟨_, hT.sl hd⟩
 ·have := g5 n (Nat.le_refl _); rwa [e] at this
 ·have := k5 n (Nat.le_refl _); rwa [e] at this
omit hC in
theorem out_move {hp' : Hp} {w' : World} {h h' b k ex k' ex' : Nat} {o o' : VO} {x' : Obj} (hro : roB h = false) (hr : Rep E hp.t w) (hg : hp.t.get h = some o) (hE : E h = some (b, k, ex)) (hn : (hp.put h none).new o' = some (h', hp')) (hf : Free E hp.nx hp'.nx) (ho : ObjRep E o' (b, k', ex') x')
  (hw : w'.heap[b]? = some x') (hne : ∀ j, j ≠ b → w'.heap[j]? = w.heap[j]?) (hs : w'.heap.size = w.heap.size) (hos : w'.os = w.os) (ht : w'.tape = w.tape) (hu : w'.output = w.output) :
  hp.nx ≤ hp'.nx ∧ h' = hp.nx ∧ Out E hp w (E.upd h' (b, k', ex')) hp' w' ∧ E.upd h' (b, k', ex') h' = some (b, k', ex') := by
 obtain ⟨rfl, h1, h2, h3⟩ := new_some hn
 have hnx : (hp.put h none).nx = hp.nx := rfl
 rw [hnx] at h1 h2 h3 ⊢
 have hEn : E hp.nx = none := hf _ (Nat.le_refl _) (by omega)
 have hhn : h ≠ hp.nx := fun e => by rw [e, hEn] at hE; simp at hE
 have hle := Env.upd_le (e := (b, k', ex')) hEn
 have get : ∀ y q, hp'.t.get y = some q → (y = hp.nx ∧ q = o') ∨ (y ≠ hp.nx ∧ y ≠ h ∧ hp.t.get y = some q) := fun y q hq => by
  rw [h3] at hq
  by_cases hy : y = hp.nx
  ·rw [if_pos hy] at hq; exact .inl ⟨hy, (Option.some.inj hq).symm⟩
  ·rw [if_neg hy] at hq
   have : (hp.put h none).t.get y = if y = h then none else hp.t.get y := Tr.get_set _ _ _
   rw [this] at hq
   by_cases hyh : y = h
   ·rw [if_pos hyh] at hq; simp at hq
   ·rw [if_neg hyh] at hq; exact .inr ⟨hy, hyh, hq⟩
 refine ⟨by omega, rfl, ⟨hle, fun y hy => Env.upd_ne (by omega), ⟨fun y q hq => ?_, fun y y' q q' e e' hq hq' he he' hee => ?_⟩, ⟨hos, ht, hu, by omega, fun i hi hn => hne i fun e => hn h o _ hg hE hro e.symm, fun y q e hq he hr' => ?_⟩⟩, Env.upd_eq⟩
 ·rcases get y q hq with ⟨rfl, rfl⟩ | ⟨g1, g2, g3⟩
  ·exact ⟨_, x', Env.upd_eq, hw, (ho.mono hle).any⟩
  ·obtain ⟨e, z, k1, k2, k3⟩ := hr.has y q g3
   refine ⟨e, z, hle _ _ k1, ?_, k3.mono hle⟩
   rw [hne e.1 fun e' => by
    rcases hr.inj _ _ _ _ _ _ g3 hg k1 hE e' with q | q
    ·exact g2 q
    ·rw [hro] at q; simp at q]
   exact k2
 ·rcases get y q hq with ⟨rfl, rfl⟩ | ⟨g1, g2, g3⟩ <;> rcases get y' q' hq' with ⟨rfl, rfl⟩ | ⟨k1, k2, k3⟩
  ·exact .inl rfl
  ·rw [Env.upd_eq] at he
   rw [Env.upd_ne k1] at he'
   obtain rfl := Option.some.inj he
   rcases hr.inj _ _ _ _ _ _ k3 hg he' hE hee.symm with q | q
   ·exact absurd q k2
   ·rw [hro] at q; simp at q
  ·rw [Env.upd_eq] at he'
   rw [Env.upd_ne g1] at he
   obtain rfl := Option.some.inj he'
   rcases hr.inj _ _ _ _ _ _ g3 hg he hE hee with q | q
   ·exact absurd q g2
   ·rw [hro] at q; simp at q
  ·rw [Env.upd_ne g1] at he
   rw [Env.upd_ne k1] at he'
   exact hr.inj _ _ _ _ _ _ g3 k3 he he' hee
 ·rcases get y q hq with ⟨rfl, rfl⟩ | ⟨g1, g2, g3⟩
  ·rw [Env.upd_eq] at he
   obtain rfl := Option.some.inj he
   exact .inl ⟨h, o, _, hg, hE, hro, rfl⟩
  ·rw [Env.upd_ne g1] at he
   exact .inl ⟨y, q, e, g3, he, hr', rfl⟩
omit hC in
theorem out_forget {h : Nat} {o : VO} (hr : Rep E hp.t w) (hg : hp.t.get h = some o) : Out E hp w E (hp.put h none) w := by
 have get : ∀ y q, (hp.put h none).t.get y = some q → hp.t.get y = some q := fun y q hq => by
  have : (hp.put h none).t.get y = if y = h then none else hp.t.get y := Tr.get_set _ _ _
  rw [this] at hq
  split at hq
  ·simp at hq
  ·exact hq
 exact ⟨Env.le_refl E, fun _ _ => rfl, ⟨fun y q hq => hr.has y q (get y q hq), fun y y' q q' e e' hq hq' he he' hee => hr.inj _ _ _ _ _ _ (get _ _ hq) (get _ _ hq') he he' hee⟩,
  ⟨rfl, rfl, rfl, Nat.le_refl _, fun _ _ _ => rfl, fun y q e hq he hr' => .inl ⟨y, q, e, get y q hq, he, hr', rfl⟩⟩⟩
omit hC in
theorem run_append_none_room {t tx ty e : TypeId} {i : TypeInfo} (ht : P.underlying t = some (.slice e)) (hi : P.info? e = some i) {sLen sCap : Nat} {x : Value} {n : Nat} {news : List Value} (hs : Src P i.size tx x n news w) (hroom : sLen + n ≤ sCap) :
  (Builtin.append_ #[t, tx] ty #[.slice none sLen sCap, x]).run P w = .ok (.slice none (sLen + n) sCap) w := by
 rcases hs.kind with ⟨e', hk⟩ | hk <;> simp [Builtin.append_, run_underlying ht, run_underlying hk, sizeOf, typeInfo, hi, hs.len, hroom, hs.cells]
omit hC in
theorem run_append_nothing {t tx ty e : TypeId} {i : TypeInfo} (ht : P.underlying t = some (.slice e)) (hi : P.info? e = some i) {a : Addr} {sLen sCap : Nat} {x : Value} (hs : Src P i.size tx x 0 [] w) (hroom : sLen ≤ sCap) :
  (Builtin.append_ #[t, tx] ty #[.slice (some a) sLen sCap, x]).run P w = .ok (.slice (some a) sLen sCap) w := by
 rcases hs.kind with ⟨e', hk⟩ | hk <;> simp [Builtin.append_, run_underlying ht, run_underlying hk, sizeOf, typeInfo, hi, hs.len, hroom, hs.cells, storeCells]
omit hC in
theorem TIok.full {t : TypeId} {ti : TI} (h : TIok P t ti) : ∃ i, P.info? t = some i ∧ i.size = ti.size ∧ i.bytes = ti.bytes := by
 obtain ⟨i, h1, h2, h3, _⟩ := h.info
 exact ⟨i, h1, h2, h3⟩
theorem append_new {tS tX ty e : TypeId} {ei : TI} {l n sCap : Nat} {base : Option Addr} {X : Value} {olds news : List V} {L O : List Value} {z : V} {hp0 hp' : Hp} {h' : Nat} {mk : Bool} (hR : Rep E hp.t w) (h0 : Out E hp w E hp0 w) (h0n : hp0.nx = hp.nx) (hts : P.underlying tS = some (.slice e)) (hei : TIok P e ei) (hz : ei.z = some z)
  (hold : (Builtin.firstCells ei.size l (.slice base l sCap)).run P w.drew = .ok O.toArray w.drew) (hO : renL E olds = some O) (hO1 : O.all (·.oneCell') = true) (hs : Src P ei.size tX X n L w) (hL : renL E news = some L)
  (hg : sCap < l + n) (hb : (growB (l + n) ei.bytes && Nat.ble 1 ei.size && ei.z.isSome) = true) (hn : hp0.new (.cells (olds ++ news) e (some ei.size) mk) = some (h', hp')) :
  OkV P E hp w (Builtin.append_ #[tS, tX] ty #[.slice base l sCap, X]) (.sl (some (h', 0)) (l + n) (l + n) true) hp' := by
 simp only [growB, Bool.and_eq_true] at hb
 obtain ⟨⟨⟨⟨b1, b5⟩, b2⟩, b3⟩, b4⟩ := hb
 have b1 := Nat.le_of_ble_eq_true b1
 have b2 := Nat.le_of_ble_eq_true b2
 have b5 := Nat.le_of_ble_eq_true b5
 have b3 := Nat.le_of_ble_eq_true b3
 obtain ⟨i, hi, hsz, hby, hzz⟩ := hei.info
 obtain ⟨zv, hzv, hzr⟩ := hzz z hz
 obtain ⟨zc, hzc, hzl⟩ := hei.zl z hz
 obtain ⟨zL, k1, k2, k3⟩ := ren_cells (ofVal_ren hzr E) hzc
 have hzs : zv.cells.size = ei.size := by rw [k3]; simp [renL_len k1, hzl]
 rw [← hsz] at hold hs
 have hfit : Builtin.nextslicecap (l + n) sCap * i.bytes ≤ 281474976710656 := by
  refine growslice_fits_wide hg ?_
  rw [hby]
  have q1 : (l + n) / 4 * 4 ≤ l + n := Nat.div_mul_le_self _ _
  have q2 : (l + n) / 4 * 4 * ei.bytes ≤ (l + n) * ei.bytes := Nat.mul_le_mul_right _ q1
  have q3 : (l + n) / 4 * 4 * ei.bytes = 4 * ((l + n) / 4 * ei.bytes) := by rw [Nat.mul_comm ((l + n) / 4) 4, Nat.mul_assoc]
  have q4 : 192 * ei.bytes ≤ 192 * 100000 := Nat.mul_le_mul_left _ b2
  rw [Nat.add_mul, Nat.add_mul]
  omega
 have hrun := run_append_grow_src (P := P) w tS tX ty e i zv hts hi hzv base l sCap O hold X n L hs hg (by omega) hfit
 have hcap : l + n ≤ grownCap w (l + n) sCap e := by unfold grownCap Question.cut; exact Nat.le_add_right _ _
 have hn' := new_some hn
 refine ⟨by omega, fun hf => ?_⟩
 have hd : Out E hp w E hp0 w.drew := h0.trans (out_same (h0.rep) rfl rfl rfl rfl rfl) (by omega) (Nat.le_refl _)
 have hobj : ObjRep E (.cells (olds ++ news) e (some ei.size) mk) (w.drew.heap.size, 0, grownCap w (l + n) sCap e - (l + n)) (.cells ((O ++ L).toArray ++ Builtin.zeroCells zv.cells (grownCap w (l + n) sCap e - (l + n))) e) := by
  refine ⟨[], O ++ L, (Builtin.zeroCells zv.cells (grownCap w (l + n) sCap e - (l + n))).toList, (0, 0), renL_app hO hL, ?_, rfl, ?_, fun h => by simp at h, fun s hs => ?_, fun _ => rfl, .inl rfl⟩
  ·rw [List.all_append, hO1]
   simp only [Bool.true_and]
   exact List.all_eq_true.2 fun x hx => hs.one x hx
  ·congr 1
   apply Array.ext'; simp
  ·simp at hs; subst hs
   simp [Builtin.zeroCells, hzs]
 obtain ⟨q1, rfl, q2, q3⟩ := out_new (E := E) (w := w.drew) hn hd.rep (hf.mono (by omega) (Nat.le_refl _)) hobj
 exact ⟨_, _, _, hrun, by
  rw [ren_sl_mk q3 (wkB_ro hn'.2.1)]
  simp only [if_true]
  congr 2
  omega, hd.trans q2 (by omega) q1⟩
theorem vappend_ok {tS tX ty : TypeId} {s x v : V} {S X : Value} {hp' : Hp} (hR : Rep E hp.t w) (ht : srcT C tX = true) (h : vappend C hp tS s x = some (v, hp')) (hS : ren E s = some S) (hX : ren E x = some X) : OkV P E hp w (Builtin.append_ #[tS, tX] ty #[S, X]) v hp' := by
 simp only [vappend, appF_eq, Option.bind_eq_some_iff] at h
 obtain ⟨si, hsi, h⟩ := h
 have hT := tiV_ok hC hsi
 split at h
 ·rename_i e base l c op hd
  have hts := hT.sl hd
  simp only [Option.bind_eq_some_iff] at h
  obtain ⟨ei, hei, ⟨n, new⟩, hnx, h⟩ := h
  have hei := tiV_ok hC hei
  obtain ⟨i, hi, hsz, hby⟩ := TIok.full hei
  obtain ⟨L, hL, hsrc⟩ := src_of hC hR ht hnx hX
  have hsrc' := hsrc
  rw [← hsz] at hsrc'
  split at h
  ·rename_i hb
   have hb := Nat.le_of_ble_eq_true hb
   split at h
   ·simp only [ren, Option.some.injEq] at hS
    subst hS
    split at h
    ·simp only [Option.some.injEq, Prod.mk.injEq] at h
     obtain ⟨rfl, rfl⟩ := h
     exact okv_same hR (run_append_none_room hts hi hsrc' hb) rfl
    ·simp at h
   ·rename_i hh o
    simp only [Option.bind_eq_some_iff, Option.some.injEq, Prod.mk.injEq] at h
    obtain ⟨hp1, h1, rfl, rfl⟩ := h
    obtain ⟨⟨b, k, ex⟩, he, ⟨hwk, rfl⟩ | ⟨hwk, rfl, rfl, rfl, rfl⟩⟩ := ren_slk hS
    rotate_left
    ·obtain rfl : n = 0 := by omega
     have hL0 : L = [] := List.length_eq_zero_iff.1 (by rw [hsrc.newsLen, Nat.zero_mul])
     subst hL0
     obtain rfl : hp1 = hp := by
      cases new with
      | nil => simpa [storeV] using h1.symm
      | cons v r => have := renL_len hL; simp at this
     exact ⟨Nat.le_refl _, fun _ => ⟨_, _, _, run_append_nothing hts hi hsrc' (Nat.le_refl 0), ren_sl_wk he hwk, out_refl hR⟩⟩
    obtain ⟨g1, g2, g3, g4⟩ := storeV_ok hR h1 hL (List.all_eq_true.2 fun u hu => hsrc.one u hu) he
    refine ⟨by omega, fun _ => ?_⟩
    have hcap : l + n ≤ (if op = true then c + ex else c) := by split <;> omega
    have e1 : k + (o + l * ei.size) = k + o + l * i.size := by rw [hsz]; omega
    rw [e1] at g2 g3 g4
    exact ⟨_, _, _, run_append_room_src (P := P) w tS tX ty e i hts hi b (k + o) l _ X n L hsrc' hcap g2 g3, by rw [ren_sl_mk he hwk], g4⟩
  ·rename_i hb
   have hlt : c < l + n := by
    rcases Nat.lt_or_ge c (l + n) with h | h
    ·exact h
    ·rw [Nat.ble_eq_true_of_le h] at hb; simp at hb
   split at h
   ·simp at h
   ·rename_i hbnd
    have hzs : ei.z.isSome = true := by simp only [Bool.and_eq_true] at hbnd; exact hbnd.2
    obtain ⟨z, hz⟩ := Option.isSome_iff_exists.1 hzs
    split at h
    ·split at h
     ·simp only [Option.bind_eq_some_iff, Option.some.injEq, Prod.mk.injEq] at h
      obtain ⟨⟨h', hp1⟩, hn, rfl, rfl⟩ := h
      simp only [ren, Option.some.injEq] at hS
      subst hS
      have := append_new hC (ty := ty) (olds := []) (O := []) (l := 0) hR (out_refl hR) rfl hts hei hz (run_firstCells_none w.drew ei.size 0 0 c) rfl rfl hsrc hL hlt hbnd hn
      simpa using this
     ·simp at h
    ·rename_i hh o
     simp only [Option.bind_eq_some_iff, Option.some.injEq, Prod.mk.injEq] at h
     obtain ⟨old, hold, ⟨h', hp1⟩, hn, rfl, rfl⟩ := h
     obtain ⟨⟨b, k, ex⟩, he, ⟨hwk, rfl⟩ | ⟨hwk, rfl, rfl, rfl, rfl⟩⟩ := ren_slk hS
     rotate_left
     ·obtain ⟨O, g1, g2, g3, g4⟩ := loadV_ok hR hold
      obtain rfl : O = [] := List.length_eq_zero_iff.1 (by simpa using g2)
      refine append_new hC hR (out_refl hR) rfl hts hei hz ?_ g1 g3 hsrc hL (by simpa using hlt) hbnd hn
      have := run_loadCells_list (P := P) w.drew ⟨b, k, some ex⟩ [] (fun j v hv => by simp at hv)
      show (loadCells ⟨b, k, some ex⟩ (0 * ei.size)).run P w.drew = _
      rw [Nat.zero_mul]
      simpa using this
     obtain ⟨O, g1, g2, g3, g4⟩ := loadV_ok hR hold
     refine append_new hC hR (out_refl hR) rfl hts hei hz ?_ g1 g3 hsrc hL (by simpa using hlt) hbnd hn
     have := run_loadCells_list (P := P) w.drew ⟨b, k + o, none⟩ O (fun j v hv => by rw [Addr.add_mid]; exact g4 b k ex he j v hv)
     rw [g2] at this
     exact this
    ·rename_i hh o
     split at h
     ·rename_i cs t sz mk hg
      obtain ⟨hg, hro⟩ := getW_some hg
      split at h
      ·rename_i hck
       simp only [Bool.and_eq_true, Nat.beq_eq, lenF_eq] at hck
       obtain ⟨⟨c1, rfl⟩, rfl⟩ := hck
       simp only [Option.bind_eq_some_iff, Option.some.injEq, Prod.mk.injEq] at h
       obtain ⟨old, hold, ⟨h', hp1⟩, hn, rfl, rfl⟩ := h
       obtain ⟨⟨b, k, ex⟩, he, ⟨hwk, rfl⟩ | ⟨hwk, _⟩⟩ := ren_slk hS
       rotate_left
       ·rw [wkB_ro hro] at hwk
        simp at hwk
       obtain ⟨b', ex', pre, lv, sp, fz, h1, h2, h3, h4, h5, h6, h7, h8⟩ := rep_cells hR hg
       replace h8 := fz_f hro h8
       rw [he] at h1
       simp only [Option.some.injEq, Prod.mk.injEq] at h1
       obtain ⟨rfl, rfl, rfl⟩ := h1
       have hlv := renL_len h3
       have hca : cellsAt hp hh = some cs := by unfold cellsAt Hp.get; rw [hg]
       obtain ⟨b2, k2, ex2, O, i1, g1, g2, g3, g4⟩ := cellsAt_ok hR hca hold
       rw [he] at i1
       simp only [Option.some.injEq, Prod.mk.injEq] at i1
       obtain ⟨rfl, rfl, rfl⟩ := i1
       simp only [if_true]
       obtain ⟨o1, o2, o3⟩ := cutL_some hold
       have hO : O = (lv.drop o).take (l * ei.size) := by
        have := renL_take (l * ei.size) (renL_drop o h3)
        rw [← o1, g1] at this
        exact Option.some.inj this
       by_cases hroom : l + n ≤ c + ex
       ·have hLl := hsrc.newsLen
        have hexs := h6 _ rfl
        have hmul : (l + n) * ei.size ≤ (c + ex) * ei.size := Nat.mul_le_mul_right _ hroom
        rw [Nat.add_mul, Nat.add_mul] at hmul
        have hlen : pre.length + o + l * ei.size + L.length ≤ (pre ++ lv ++ sp).length := by simp; omega
        have hrun := run_append_room_src (P := P) w tS tX ty t i hts hi b (pre.length + o) l (c + ex) X n L hsrc' hroom
         (fun j hj => by
          rw [hsz]
          have : pre.length + o + l * ei.size + j < (pre ++ lv ++ sp).length := by omega
          simp only [World.cell?, h2]
          simp only [Option.isSome_none, Bool.false_eq_true, if_false, List.getElem?_toArray]
          rw [List.getElem?_eq_getElem this]; rfl)
         (fun j hj => by rw [hsz]; exact frozen_mid h2 h8 (by omega))
        rw [hsz] at hrun
        have hn' := new_some hn
        have hnx : (hp.put hh none).nx = hp.nx := rfl
        refine ⟨by omega, fun hf => ?_⟩
        obtain ⟨r1, r2, r3, r4⟩ := setCells_rest (b := b) L (pre.length + o + l * ei.size) w
        have hw := heap_setCells_at (b := b) (E := t) (fz := fz) L (pre.length + o + l * ei.size) w (pre ++ lv ++ sp) h2 hlen
        have hspl : ∃ A B, pre ++ lv ++ sp = A ++ B ∧ A.length = pre.length + o + l * ei.size ∧ A = (pre ++ lv.take o) ++ O := by
         refine ⟨(pre ++ lv.take o) ++ O, lv.drop (o + l * ei.size) ++ sp, ?_, by simp [g2]; omega, rfl⟩
         rw [hO]
         have e1 : lv = lv.take o ++ ((lv.drop o).take (l * ei.size) ++ lv.drop (o + l * ei.size)) := by
          rw [← List.drop_drop, List.take_append_drop, List.take_append_drop]
         calc pre ++ lv ++ sp = pre ++ (lv.take o ++ ((lv.drop o).take (l * ei.size) ++ lv.drop (o + l * ei.size))) ++ sp := by rw [← e1]
          _ = _ := by simp [List.append_assoc]
        obtain ⟨A, B, hAB, hA, hAe⟩ := hspl
        have hcells : (pre ++ lv ++ sp).take (pre.length + o + l * ei.size) ++ L ++ (pre ++ lv ++ sp).drop (pre.length + o + l * ei.size + L.length) = (pre ++ lv.take o) ++ (O ++ L) ++ B.drop L.length := by
         rw [hAB, ← hA, List.take_left', List.drop_append, hAe]
         ·simp [List.append_assoc]
         ·rfl
        have hBl : B.length = (pre ++ lv ++ sp).length - (pre.length + o + l * ei.size) := by
         have := congrArg List.length hAB
         simp only [List.length_append] at this ⊢
         omega
        have hobj : ObjRep E (.cells (old ++ new) t (some ei.size) mk) (b, pre.length + o, c + ex - (l + n)) (.cells ((pre ++ lv.take o) ++ (O ++ L) ++ B.drop L.length).toArray t fz) := by
         refine ⟨pre ++ lv.take o, O ++ L, B.drop L.length, fz, renL_app g1 hL, ?_, by simp; omega, rfl, fun h => by simp at h, fun s hs => ?_, h7, ?_⟩
         ·rw [List.all_append, g3]
          simp only [Bool.true_and]
          exact List.all_eq_true.2 fun x hx => hsrc.one x hx
         ·simp at hs; subst hs
          rw [List.length_drop, hBl, Nat.sub_mul, Nat.add_mul, Nat.add_mul]
          simp; omega
         ·have : ((pre ++ lv.take o) ++ (O ++ L) ++ B.drop L.length).length = (pre ++ lv ++ sp).length := by
           rw [← hcells]; simp; simp at hlen; omega
          rw [this]; exact h8
        obtain ⟨q1, rfl, q2, q3⟩ := out_move (h := hh) hro hR hg he hn hf hobj (w' := w.setCells b (pre.length + o + l * ei.size) L) (by rw [hw, hcells]) (fun j hj => heap_setCells_other _ _ _ _ hj) r4 r1 r2 r3
        exact ⟨_, _, _, hrun, by
         rw [ren_sl_mk q3 (wkB_ro (new_some hn).2.1)]
         simp only [if_true]
         congr 2
         omega, q2⟩
       ·refine append_new hC hR (out_forget hR hg) rfl hts hei hz ?_ g1 g3 hsrc hL (by omega) hbnd hn
        have := run_loadCells_list (P := P) w.drew ⟨b, pre.length + o, none⟩ O (fun j v hv => by rw [Addr.add_mid]; exact g4 j v hv)
        rw [g2] at this
        exact this
      ·simp at h
     ·simp at h
 ·simp at h
end
/- Vh: the machine's slices cut, built, copied; conversions, against the world's. By this project. -/
section
variable {P : Program} {C : Cx} (hC : COk P C) {E : Env} {hp : Hp} {w : World} {fr : Tr V} {a : Act}
include hC
theorem vcopy_ok {tD ty : TypeId} {ts : Array TypeId} {d x v : V} {D X : Value} {hp' : Hp} (hR : Rep E hp.t w) (hts : ts[0]? = some tD) (h : vcopy C hp tD d x = some (v, hp')) (hD : ren E d = some D) (hX : ren E x = some X) : OkV P E hp w (Builtin.copy_ ts ty #[D, X]) v hp' := by
 simp only [vcopy, takeF_eq, Option.bind_eq_some_iff] at h
 obtain ⟨di, hdi, h⟩ := h
 have hT := tiV_ok hC hdi
 split at h
 ·rename_i e base l c op hd
  have hu := hT.sl hd
  simp only [Option.bind_eq_some_iff] at h
  obtain ⟨ei, hei, ⟨n, new⟩, hnx, h⟩ := h
  have hei := tiV_ok hC hei
  obtain ⟨L, g1, g2, g3, g4, g5⟩ := srcV_ok (P := P) hR hnx hX
  have hsz := hei.size w
  have hm : min n l ≤ n := Nat.min_le_left _ _
  split at h
  ·simp only [Option.some.injEq, Prod.mk.injEq] at h
   obtain ⟨rfl, rfl⟩ := h
   simp only [ren, Option.some.injEq] at hD
   subst hD
   refine okv_same hR ?_ rfl
   simp [Builtin.copy_, hts, run_underlying hu w, g4, hsz, g5 _ hm, goInt]
  ·rename_i hh o
   simp only [Option.bind_eq_some_iff, Option.some.injEq, Prod.mk.injEq] at h
   obtain ⟨hp1, h1, rfl, rfl⟩ := h
   obtain ⟨⟨b, k, ex⟩, he, ⟨hwk, rfl⟩ | ⟨hwk, rfl, rfl, rfl, rfl⟩⟩ := ren_slk hD
   rotate_left
   ·obtain rfl : hp1 = hp := by
     have e : new.take (min n 0 * ei.size) = [] := by simp
     rw [e] at h1
     simpa [storeV] using h1.symm
    refine ⟨Nat.le_refl _, fun _ => ⟨_, _, _, ?_, rfl, out_refl hR⟩⟩
    have g50 := g5 0 (Nat.zero_le _)
    rw [Nat.zero_mul, List.take_zero] at g50
    simp [Builtin.copy_, hts, run_underlying hu w, g4, hsz, g50, goInt, storeCells]
   obtain ⟨q1, q2, q3, q4⟩ := storeV_ok hR h1 (renL_take _ g1) (List.all_eq_true.2 fun u hu => List.all_eq_true.1 g3 u (List.mem_of_mem_take hu)) he
   refine ⟨by omega, fun _ => ⟨_, _, _, ?_, rfl, q4⟩⟩
   have hst := run_storeCells_cells (P := P) b (k + o) (L.take (min n l * ei.size)) 0 w (by simpa using q2) (by simpa using q3) (fun u hu => List.all_eq_true.1 g3 u (List.mem_of_mem_take hu))
   simp only [Nat.add_zero] at hst
   simp [Builtin.copy_, hts, run_underlying hu w, g4, hsz, g5 _ hm, goInt, hst]
 ·simp at h
theorem fillRep {ti : TI} {t : TypeId} (hT : TIok P t ti) {z : V} {zc : List V} (hz : ti.z = some z) (hzc : z.cells = some zc) : ∃ zv ZL, (∀ w, (zeroValue t).run P w = .ok zv w) ∧ zv.cells = ZL.toArray ∧ renL E zc = some ZL ∧ ZL.all (·.oneCell') = true ∧ ZL.length = ti.size ∧
  ∀ n, ((Array.range (n * ti.size)).map (ZL.toArray[· % ZL.toArray.size]!)) = (repL ZL n).toArray := by
 obtain ⟨i, hi, hsz, hby, hzz⟩ := hT.info
 obtain ⟨zv, hzv, hzr⟩ := hzz z hz
 obtain ⟨zc', hzc', hzl⟩ := hT.zl z hz
 rw [hzc] at hzc'
 obtain rfl := Option.some.inj hzc'
 obtain ⟨ZL, k1, k2, k3⟩ := ren_cells (ofVal_ren hzr E) hzc
 have hl : ZL.length = ti.size := by rw [renL_len k1, hzl]
 refine ⟨zv, ZL, fun w => by simp [zeroValue, typeInfo, hi, hzv], k3, k1, k2, hl, fun n => ?_⟩
 rw [← hl]
 apply Array.ext'
 simp only [Array.toList_map, Array.toList_range, List.size_toArray]
 induction n with
 | zero => simp [repL_zero]
 | succ n ih =>
  simp only [repL_succ]
  rw [show (n + 1) * ZL.length = ZL.length + n * ZL.length by rw [Nat.succ_mul, Nat.add_comm], List.range_add, List.map_append, List.map_map]
  congr 1
  ·apply List.ext_getElem
   ·simp
   ·intro j h1 h2
    simp only [List.length_map, List.length_range] at h1
    simp [Nat.mod_eq_of_lt h1, h1]
  ·rw [← ih]
   apply List.map_congr_left
   intro j _
   simp
theorem vmakeS_ok {t : TypeId} {l c : Nat} {v : V} {hp' : Hp} {k1 k2 : IntKind} (hR : Rep E hp.t w) (h : vmakeS C hp t l c = some (v, hp')) : OkV P E hp w (Instr.makeSlice t (.int k1 l) (.int k2 c)) v hp' := by
 simp only [vmakeS, Option.bind_eq_some_iff] at h
 obtain ⟨ti, ht, h⟩ := h
 have hT := tiV_ok hC ht
 split at h
 ·rename_i e hd
  simp only [Option.bind_eq_some_iff] at h
  obtain ⟨ei, hei, z, hz, zc, hzc, h⟩ := h
  have hei := tiV_ok hC hei
  split at h
  ·rename_i hb
   simp only [growB, Bool.and_eq_true] at hb
   obtain ⟨b1, ⟨b3, b2⟩, b4⟩ := hb
   have b1 := Nat.le_of_ble_eq_true b1
   have b2 := Nat.le_of_ble_eq_true b2
   have b3 := Nat.le_of_ble_eq_true b3
   have b4 := Nat.le_of_ble_eq_true b4
   simp only [Option.bind_eq_some_iff, Option.some.injEq, Prod.mk.injEq] at h
   obtain ⟨⟨h', hp1⟩, hn, rfl, rfl⟩ := h
   obtain ⟨zv, ZL, q1, q2, q3, q4, q5, q6⟩ := fillRep hC (E := E) hei hz hzc
   obtain ⟨i, hi, hsz, hby, hzz⟩ := hei.info
   have hzi : i.zero = some zv := by
    have := q1 w
    simp only [zeroValue, typeInfo, Sem.run_bind, program, Sem.run, Result.andThen_ok, hi] at this
    cases hzo : i.zero with
    | none => simp [hzo, unsupported, Sem.run] at this
    | some u => simp [hzo, Sem.run] at this; rw [this]
   have hn' := new_some hn
   refine ⟨by simp only; omega, fun hf => ?_⟩
   have hrun := run_make (P := P) w t e i zv (hT.sl hd) hi hzi k1 k2 (l : Int) (c : Int) (by omega) (by omega) (by
    rw [hby]
    have : ei.bytes * c ≤ 220000000000000 := by rw [Nat.mul_comm]; exact b2
    have : ((ei.bytes * c : Nat) : Int) ≤ 281474976710656 := by omega
    rwa [Int.natCast_mul] at this) (by omega)
   have hmc : madeCells zv.cells ((c : Int).toNat * i.size) = (repL ZL c).toArray := by
    rw [q2, Int.toNat_natCast, hsz]; exact q6 c
   rw [hmc] at hrun
   have hobj : ObjRep E (.cells (repL zc c) e none false) (w.heap.size, 0, 0) (.cells (repL ZL c).toArray e) :=
    ⟨[], repL ZL c, [], (0, 0), renL_rep q3 c, repL_all q4 c, rfl, by simp, fun _ => ⟨rfl, rfl⟩, fun s hs => by simp at hs, fun _ => rfl, .inl rfl⟩
   obtain ⟨r1, rfl, r2, r3⟩ := out_new hn hR hf hobj
   exact ⟨_, _, _, hrun, by simp [ren, r3, wkB_ro hn'.2.1], r2⟩
  ·simp at h
 ·simp at h
theorem vbuildS_ok {t : TypeId} {len : Nat} {parts : List (Nat × Operand)} {v : V} {hp' : Hp} (hR : Rep E hp.t w) (hF : FrR E fr a) (h : vbuildS C hp fr t len parts = some (v, hp')) : OkV P E hp w (Instr.buildSlice t len (parts.map fun x => (x.1, a.eval x.2)).toArray) v hp' := by
 simp only [vbuildS, Option.bind_eq_some_iff] at h
 obtain ⟨ti, ht, h⟩ := h
 have hT := tiV_ok hC ht
 split at h
 ·rename_i e hd
  simp only [Option.bind_eq_some_iff] at h
  obtain ⟨ei, hei, z, hz, zc, hzc, h⟩ := h
  have hei := tiV_ok hC hei
  split at h
  ·rename_i hb
   have hb := Nat.le_of_ble_eq_true hb
   simp only [Option.bind_eq_some_iff, Option.some.injEq, Prod.mk.injEq] at h
   obtain ⟨cs, hcs, ⟨h', hp1⟩, hn, rfl, rfl⟩ := h
   obtain ⟨zv, ZL, q1, q2, q3, q4, q5, q6⟩ := fillRep hC (E := E) hei hz hzc
   obtain ⟨M, m1, m2, m3, m4⟩ := fillV_ok hF hcs (renL_rep q3 len) (repL_all q4 len)
   have hn' := new_some hn
   refine ⟨by simp only; omega, fun hf => ?_⟩
   have hobj : ObjRep E (.cells cs e none false) (w.heap.size, 0, 0) (.cells M.toArray e) :=
    ⟨[], M, [], (0, 0), m1, m2, rfl, by simp, fun _ => ⟨rfl, rfl⟩, fun s hs => by simp at hs, fun _ => rfl, .inl rfl⟩
   obtain ⟨r1, rfl, r2, r3⟩ := out_new hn hR hf hobj
   refine ⟨.slice (some ⟨w.heap.size, 0, none⟩) len len, _, _, ?_, by simp [ren, r3, wkB_ro hn'.2.1], r2⟩
   have hgt : ¬ len * ei.size > 2 ^ 24 := by omega
   by_cases h0 : len * ei.size = 0
   ·have e0 : (repL ZL len).toArray = #[] := by
     have : (repL ZL len).length = 0 := by rw [repL_len, q5]; exact h0
     simp [List.length_eq_zero_iff.1 this]
    rw [e0] at m4
    simp only [Instr.buildSlice, Sem.run_bind, run_underlying (hT.sl hd) w, Result.andThen_ok, hei.size w]
    rw [if_neg hgt]
    simp only [h0, if_true, Sem.run_bind, Sem.run_pure, Result.andThen_ok]
    simp only [Array.range_zero', List.map_toArray, Array.map_empty]
    first
    | (rw [m4]; simp [newRow])
    | (simp [m4, newRow])
   ·have := q6 len
    rw [q2.symm] at this
    simp only [Instr.buildSlice, Sem.run_bind, run_underlying (hT.sl hd) w, Result.andThen_ok, hei.size w]
    rw [if_neg hgt]
    rw [if_neg h0]
    simp only [Sem.run_bind, q1 w, Result.andThen_ok, Sem.run_pure]
    rw [this]
    simp only [m4]
    simp [newRow]
  ·simp at h
 ·simp at h
theorem boundV_ok {x : Option Operand} {d n : Nat} (hF : FrR E fr a) (h : boundV fr x d = some n) : (x = none ∧ n = d) ∨ ∃ q k, x = some q ∧ a.eval q = .int k n := by
 cases x with
 | none => simp [boundV] at h; exact .inl ⟨rfl, h.symm⟩
 | some q =>
  simp only [boundV, Option.bind_eq_some_iff, natV] at h
  obtain ⟨v, hv, m, hm, h⟩ := h
  have := asNat_some h
  subst this
  cases v <;> simp [intV?] at hm
  subst hm
  have := hF.ev hv
  simp only [ren, Option.some.injEq] at this
  exact .inr ⟨q, _, rfl, this.symm⟩
omit hC in
theorem leO_some {x y : Nat} {u : Unit} (h : leO x y = some u) : x ≤ y := by
 unfold leO at h
 split at h
 ·rename_i hb; exact Nat.le_of_ble_eq_true hb
 ·simp at h
include hC in
theorem sbound {x : Operand} {n y : Nat} {k : IntKind} {code : BoundsCode} (h : a.eval x = .int k n) (hy : n ≤ y) (w : World) : (Instr.sliceBound (a.eval x) y code).run P w = .ok n w := by
 rw [h]
 simp [Instr.sliceBound, asIntOf, show (n : Int) ≤ (y : Int) by omega]
theorem sliceBounds_ok {isS : Bool} {len cap l h m : Nat} {lo hi mx : Option Operand} (hF : FrR E fr a) (hl : boundV fr lo 0 = some l) (hh : boundV fr hi len = some h) (hm : (mx = none ∧ m = cap) ∨ ∃ q k, mx = some q ∧ a.eval q = .int k m ∧ hi ≠ none) (h1 : l ≤ h) (h2 : h ≤ m) (h3 : m ≤ cap) :
  (Instr.sliceBounds isS len cap (lo.map a.eval) (hi.map a.eval) (mx.map a.eval)).run P w = .ok (l, h, m) w := by
 have hl := boundV_ok hC hF hl
 have hh := boundV_ok hC hF hh
 rcases hm with ⟨rfl, rfl⟩ | ⟨q, k, rfl, hq, hne⟩
 ·rcases hh with ⟨rfl, rfl⟩ | ⟨p, k', rfl, hp⟩
  ·rcases hl with ⟨rfl, rfl⟩ | ⟨o, k2, rfl, ho⟩
   ·simp [Instr.sliceBounds]
   ·simp [Instr.sliceBounds, sbound hC ho h1]
  ·rcases hl with ⟨rfl, rfl⟩ | ⟨o, k2, rfl, ho⟩
   ·simp [Instr.sliceBounds, sbound hC hp h2]
   ·simp [Instr.sliceBounds, sbound hC hp h2, sbound hC ho h1]
 ·rcases hh with ⟨rfl, rfl⟩ | ⟨p, k', rfl, hp⟩
  ·exact absurd rfl hne
  ·rcases hl with ⟨rfl, rfl⟩ | ⟨o, k2, rfl, ho⟩
   ·simp [Instr.sliceBounds, sbound hC hp h2, sbound hC hq h3]
   ·simp [Instr.sliceBounds, sbound hC hp h2, sbound hC ho h1, sbound hC hq h3]
omit hC in
theorem ifadd (m l b k o s : Nat) : (if m = l then (⟨b, k + o, none⟩ : Addr) else (⟨b, k + o, none⟩ : Addr).add (l * s)) = ⟨b, k + offV m l o s, none⟩ := by
 unfold offV
 by_cases h : m = l
 ·subst h; simp [Nat.beq_eq]
 ·have : Nat.beq m l = false := by rw [Bool.eq_false_iff]; intro e; exact h (Nat.eq_of_beq_eq_true e)
  rw [if_neg h, this]
  simp [Addr.add_mid, Nat.add_assoc]
omit hC in
theorem ifmap (m l b k o s : Nat) : (if m = l then some (⟨b, k + o, none⟩ : Addr) else (some (⟨b, k + o, none⟩ : Addr)).map (·.add (l * s))) = some ⟨b, k + offV m l o s, none⟩ := by
 rw [← ifadd]
 split <;> rfl
omit hC in
theorem offV_zero (m o s : Nat) : offV m 0 o s = o := by unfold offV; split <;> simp
omit hC in
theorem offV_ne {m l : Nat} (h : m ≠ l) (o s : Nat) : offV m l o s = o + l * s := by
 unfold offV
 have : Nat.beq m l = false := by rw [Bool.eq_false_iff]; intro e; exact h (Nat.eq_of_beq_eq_true e)
 rw [this]
include hC in
theorem vslEnd_ok {t : TypeId} {x v : V} {X : Value} {lo hi mx : Option Operand} {hp' : Hp} (hR : Rep E hp.t w) (hF : FrR E fr a) (h : vslEnd C hp fr t x lo hi mx = some (v, hp')) (hX : ren E x = some X) : OkV P E hp w (Instr.sliceAt t X (lo.map a.eval) (hi.map a.eval) (mx.map a.eval)) v hp' := by
 simp only [vslEnd, Option.bind_eq_some_iff] at h
 obtain ⟨ti, ht, l, hl, h⟩ := h
 have hT := tiV_ok hC ht
 split at h
 ·rename_i e A len c hd
  simp only [Option.bind_eq_some_iff] at h
  obtain ⟨ei, hei, n, hn, h⟩ := h
  have hei := tiV_ok hC hei
  have hu := hT.sl hd
  split at h
  ·rename_i hb
   simp only [Bool.and_eq_true] at hb
   obtain ⟨⟨⟨⟨b1, b2⟩, b3⟩, b4⟩, b5⟩ := hb
   obtain rfl := Nat.eq_of_beq_eq_true b1
   obtain rfl := Nat.eq_of_beq_eq_true b2
   simp only [Option.some.injEq, Prod.mk.injEq] at h
   obtain ⟨rfl, rfl⟩ := h
   obtain ⟨b, o⟩ := A
   obtain ⟨⟨B, k, ex⟩, he, ⟨hwk, rfl⟩ | ⟨hwk, h0, h1, _⟩⟩ := ren_slk hX
   rotate_left
   ·have := b3
    subst h1
    simp [Nat.blt_eq] at this
   refine ⟨by simp only; omega, fun hf => ?_⟩
   have hE : E hp.nx = none := hf _ (Nat.le_refl _) (by simp only; omega)
   have hle := Env.upd_le (e := (B, k + offV (n + ex) n o ei.size, ex)) hE
   have this := sliceBounds_ok hC (isS := true) (w := w) (cap := n + ex) hF hl hn (.inl ⟨rfl, rfl⟩) (Nat.le_refl _) (by omega) (Nat.le_refl _)
   simp only [Option.map_none] at this
   have ne : ∀ h o', hp.t.get h = some o' → h ≠ hp.nx := fun h o' hh e' => by
    subst e'
    obtain ⟨_, _, h1, _⟩ := hR.has _ _ hh
    rw [hE] at h1; simp at h1
   refine ⟨.slice (some ⟨B, k + offV (n + ex) n o ei.size, none⟩) 0 ex, w, E.upd hp.nx (B, k + offV (n + ex) n o ei.size, ex), ?_, ?_, hle, fun h hh => Env.upd_ne (by simp only at hh; omega), ⟨fun h o' hh => ?_, fun h h' o1 o2 e1 e2 g1 g2 g3 g4 => ?_⟩, ⟨rfl, rfl, rfl, Nat.le_refl _, fun _ _ _ => rfl, fun h o' e' g1 g2 g3 => ?_⟩⟩
   ·unfold Instr.sliceAt
    rw [Sem.run_bind, run_underlying hu w]
    simp only [if_true, Result.andThen_ok]
    simp only [Instr.slice, Sem.run_bind, run_underlying hu w, Result.andThen_ok, Option.map_none, this, hei.size w, Sem.run_pure, ifmap]
    rw [Nat.sub_self, Nat.add_sub_cancel_left]
   ·simp [ren, Env.upd_eq, wkB_even b4]
   ·obtain ⟨e', y, h1, h2, h3⟩ := hR.has h o' hh
    exact ⟨e', y, hle _ _ h1, h2, h3.mono hle⟩
   ·rw [Env.upd_ne (ne _ _ g1)] at g3
    rw [Env.upd_ne (ne _ _ g2)] at g4
    exact hR.inj _ _ _ _ _ _ g1 g2 g3 g4
   ·rw [Env.upd_ne (ne _ _ g1)] at g2
    exact .inl ⟨h, o', e', g1, g2, g3, rfl⟩
  ·simp at h
 ·simp at h
theorem vslice_ok {t : TypeId} {x v : V} {X : Value} {lo hi mx : Option Operand} (hR : Rep E hp.t w) (hF : FrR E fr a) (h : vslice C hp fr t x lo hi mx = some v) (hX : ren E x = some X) : OkV P E hp w (Instr.sliceAt t X (lo.map a.eval) (hi.map a.eval) (mx.map a.eval)) v hp := by
 simp only [vslice, takeF_eq, dropF_eq, lenF_eq, Option.bind_eq_some_iff] at h
 obtain ⟨ti, ht, l, hl, h⟩ := h
 have hT := tiV_ok hC ht
 split at h
 ·rename_i s hd
  simp only [ren, Option.some.injEq] at hX
  subst hX
  split at h
  ·simp only [Option.bind_eq_some_iff, Option.some.injEq] at h
   obtain ⟨n, hn, _, h1, _, h2, rfl⟩ := h
   have h1 := leO_some h1
   have h2 := leO_some h2
   refine okv_same hR ?_ rfl
   have hs : (⟨s.toArray⟩ : ByteArray).size = s.length := by simp [ByteArray.size]
   have := sliceBounds_ok hC (isS := false) (w := w) hF hl hn (.inl ⟨rfl, rfl⟩) h2 h1 (Nat.le_refl _)
   simp only [Option.map_none] at this
   simp only [Instr.sliceAt, Sem.run_bind, run_underlying (hT.str hd) w, Result.andThen_ok, Instr.slice, Option.map_none, Option.isSome_none, Bool.false_eq_true, if_false, hs]
   rw [this]
   simp only [Result.andThen_ok, Sem.run_pure]
   congr 2
   apply ByteArray.ext
   apply Array.ext'
   simp [ByteArray.data_extract, List.drop_take]
  ·simp at h
 ·rename_i e A len c op hd
  simp only [Option.bind_eq_some_iff] at h
  obtain ⟨ei, hei, n, hn, h⟩ := h
  have hei := tiV_ok hC hei
  have hu := hT.sl hd
  have hst : ∀ X lo hi mx, (Instr.sliceAt t X lo hi mx).run P w = (Instr.slice t X lo hi mx).run P w := fun X lo hi mx => by
   unfold Instr.sliceAt
   rw [Sem.run_bind, run_underlying hu w]
   rfl
  split at h
  ·simp only [Option.bind_eq_some_iff] at h
   obtain ⟨_, h1, _, h2, h⟩ := h
   have h1 := leO_some h1
   have h2 := leO_some h2
   split at h
   ·simp only [Option.some.injEq] at h
    subst h
    simp only [ren, Option.some.injEq] at hX
    subst hX
    refine okv_same hR ?_ rfl
    have := sliceBounds_ok hC (isS := true) (w := w) hF hl hn (.inl ⟨rfl, rfl⟩) h2 h1 (Nat.le_refl _)
    simp only [Option.map_none] at this
    rw [hst]
    simp [Instr.slice, run_underlying hu w, this, hei.size w]
   ·rename_i b o
    obtain ⟨⟨B, k, ex⟩, he, ⟨hwk, rfl⟩ | ⟨hwk, rfl, rfl, rfl, rfl⟩⟩ := ren_slk hX
    rotate_left
    ·obtain rfl : n = 0 := by omega
     obtain rfl : l = 0 := by omega
     have hv : v = .sl (some (b, 0)) 0 0 op := by
      cases op with
      | false => simp only [Option.some.injEq] at h; rw [← h, offV_zero]
      | true => exact (Option.some.inj h).symm
     subst hv
     have := sliceBounds_ok hC (isS := true) (w := w) (cap := 0) hF hl hn (.inl ⟨rfl, rfl⟩) h2 h1 (Nat.le_refl _)
     simp only [Option.map_none] at this
     refine okv_same hR (x := .slice (some ⟨B, k, some ex⟩) 0 0) ?_ (ren_sl_wk he hwk)
     rw [hst]
     simp [Instr.slice, run_underlying hu w, this, hei.size w]
    cases op with
    | false =>
     simp only [Option.some.injEq] at h
     subst h
     have := sliceBounds_ok hC (isS := true) (w := w) hF hl hn (.inl ⟨rfl, rfl⟩) h2 h1 (Nat.le_refl _)
     simp only [Option.map_none] at this
     refine okv_same hR (x := .slice (some ⟨B, k + offV c l o ei.size, none⟩) (n - l) (c - l)) ?_ (by simp [ren, he, hwk])
     rw [hst]
     simp only [Bool.false_eq_true, if_false]
     simp only [Instr.slice, Sem.run_bind, run_underlying hu w, Result.andThen_ok, Option.map_none, this, hei.size w, Sem.run_pure, ifmap]
    | true =>
     have this := sliceBounds_ok hC (isS := true) (w := w) (cap := c + ex) hF hl hn (.inl ⟨rfl, rfl⟩) h2 (by omega) (Nat.le_refl _)
     simp only [Option.map_none] at this
     simp only at h
     split at h
     ·rename_i hb
      have hb := Nat.eq_of_beq_eq_true hb
      subst hb
      simp only [Option.some.injEq] at h
      subst h
      refine okv_same hR (x := .slice (some ⟨B, k + o, none⟩) n (c + ex)) ?_ (by simp [ren, he, hwk])
      rw [hst]
      simp only [if_true]
      simp only [Instr.slice, Sem.run_bind, run_underlying hu w, Result.andThen_ok, Option.map_none, this, hei.size w, Sem.run_pure, ifmap, offV_zero]
      simp
     ·rename_i hb1 hb2
      have hc : c ≠ l := fun e => by rw [e] at hb2; simp [Nat.beq_eq] at hb2
      simp only [Option.some.injEq] at h
      subst h
      refine okv_same hR (x := .slice (some ⟨B, k + (o + l * ei.size), none⟩) (n - l) (c - l + ex)) ?_ (by simp [ren, he, hwk])
      rw [hst]
      simp only [if_true]
      simp only [Instr.slice, Sem.run_bind, run_underlying hu w, Result.andThen_ok, Option.map_none, this, hei.size w, Sem.run_pure, ifmap, offV_ne (show c + ex ≠ l by omega)]
      rw [show c + ex - l = c - l + ex by omega]
     ·simp at h
  ·rename_i m
   simp only [Option.bind_eq_some_iff] at h
   obtain ⟨mm, hm, h⟩ := h
   split at h
   ·simp at h
   ·rename_i hiq
    simp only [Option.bind_eq_some_iff] at h
    obtain ⟨_, h0, _, h1, _, h2, h⟩ := h
    have h0 := leO_some h0
    have h1 := leO_some h1
    have h2 := leO_some h2
    have hmx : ∃ q k, some m = some q ∧ a.eval q = .int k mm ∧ some hiq ≠ none := by
     rcases boundV_ok hC hF hm with ⟨e, _⟩ | ⟨q, k, e, h⟩
     ·simp at e
     ·exact ⟨q, k, e, h, by simp⟩
    split at h
    ·simp only [Option.some.injEq] at h
     subst h
     simp only [ren, Option.some.injEq] at hX
     subst hX
     refine okv_same hR ?_ rfl
     have := sliceBounds_ok hC (isS := true) (w := w) hF hl hn (.inr hmx) h2 h1 h0
     rw [hst]
     simp only [Instr.slice, Sem.run_bind, run_underlying hu w, Result.andThen_ok, this, hei.size w, Sem.run_pure]
     simp
    ·rename_i b o
     obtain ⟨⟨B, k, ex⟩, he, ⟨hwk, rfl⟩ | ⟨hwk, rfl, rfl, rfl, rfl⟩⟩ := ren_slk hX
     rotate_left
     ·obtain rfl : mm = 0 := by omega
      obtain rfl : n = 0 := by omega
      obtain rfl : l = 0 := by omega
      simp only [Option.some.injEq] at h
      have hv : v = .sl (some (b, 0)) 0 0 false := by rw [← h, offV_zero]
      subst hv
      have := sliceBounds_ok hC (isS := true) (w := w) (cap := 0) hF hl hn (.inr hmx) h2 h1 (Nat.le_refl _)
      simp only [Option.map_some] at this
      refine okv_same hR (x := .slice (some ⟨B, k, some ex⟩) 0 0) ?_ (ren_sl_wk he hwk)
      rw [hst]
      simp [Instr.slice, run_underlying hu w, this, hei.size w]
     simp only [Option.some.injEq] at h
     subst h
     have := sliceBounds_ok hC (isS := true) (w := w) (cap := if op = true then c + ex else c) hF hl hn (.inr hmx) h2 h1 (by split <;> omega)
     refine okv_same hR (x := .slice (some ⟨B, k + offV mm l o ei.size, none⟩) (n - l) (mm - l)) ?_ (by simp [ren, he, hwk])
     rw [hst]
     simp only [Instr.slice, Sem.run_bind, run_underlying hu w, Result.andThen_ok, this, hei.size w, Sem.run_pure, ifmap]
 ·rename_i n e b o hd
  split at h
  ·simp only [Option.bind_eq_some_iff] at h
   obtain ⟨ei, hei, hh, hn, _, h1, _, h2, h⟩ := h
   split at h
   ·simp at h
   rename_i hwk
   simp only [Option.some.injEq] at h
   subst h
   have hei := tiV_ok hC hei
   have h1 := leO_some h1
   have h2 := leO_some h2
   simp only [ren, Option.map_eq_some_iff] at hX
   obtain ⟨⟨B, k, ex⟩, he, rfl⟩ := hX
   have := sliceBounds_ok hC (isS := false) (w := w) hF hl hn (.inl ⟨rfl, rfl⟩) h2 h1 (Nat.le_refl _)
   simp only [Option.map_none] at this
   refine okv_same hR (x := .slice (some ⟨B, k + offV n l o ei.size, none⟩) (hh - l) (n - l)) ?_ (by simp [ren, he, hwk])
   simp only [Instr.sliceAt, Sem.run_bind, run_underlying (hT.arr hd) w, Result.andThen_ok, Instr.sureAddr, Sem.run_pure, Option.map_none, this, hei.size w]
   rw [ifadd]
  ·simp at h
 ·simp at h
end
/- Vi: the machine's conversions, maps, walks over maps, against the world's. By this project. -/
section
variable {P : Program} {C : Cx} (hC : COk P C) {E : Env} {hp : Hp} {w : World} {fr : Tr V} {a : Act}
theorem asBy_ints : ∀ {cs : List V} {bs : List UInt8} {L : List Value}, mapO asBy cs = some bs → renL E cs = some L → ∃ ns : List Int, L = ns.map (Value.int .u8) ∧ ns.map (fun n => UInt8.ofNat n.toNat) = bs
 | [], bs, L, h, hL => by simp [mapO_nil] at h; simp [renL] at hL; subst h hL; exact ⟨[], rfl, rfl⟩
 | v :: r, bs, L, h, hL => by
  obtain ⟨x, t, h1, h2, rfl⟩ := renL_cons hL
  rw [mapO_cons] at h
  cases hv : asBy v with
  | none => rw [hv] at h; simp at h
  | some b =>
   rw [hv] at h
   cases hr : mapO asBy r with
   | none => rw [hr] at h; simp at h
   | some q =>
    rw [hr] at h
    simp only [Option.some.injEq] at h
    subst h
    obtain ⟨ns, rfl, hns⟩ := asBy_ints hr h2
    unfold asBy at hv
    split at hv
    ·rename_i n
     simp only [Option.some.injEq] at hv
     subst hv
     simp only [ren, Option.some.injEq] at h1
     subst h1
     exact ⟨(Int.ofNat n) :: ns, rfl, by simp [hns]⟩
    ·simp at hv
theorem push_all : ∀ (ns : List Int) (r : ByteArray), ns.foldl (fun r n => r.push (UInt8.ofNat n.toNat)) r = ⟨r.data ++ (ns.map fun n => UInt8.ofNat n.toNat).toArray⟩
 | [], r => by simp
 | n :: ns, r => by
  simp only [List.foldl_cons]
  rw [push_all ns]
  simp [ByteArray.push]
include hC
theorem vconv_ok {s t : TypeId} {x v : V} {X : Value} {hp' : Hp} (hR : Rep E hp.t w) (h : vconv C hp s t x = some (v, hp')) (hX : ren E x = some X) : OkV P E hp w (convert s t X) v hp' := by
 simp only [vconv, lenF_eq, Option.bind_eq_some_iff] at h
 obtain ⟨si, hsi, ti, hti, h⟩ := h
 have hS := tiV_ok hC hsi
 have hT := tiV_ok hC hti
 obtain ⟨DS, uS, dS, rS⟩ := hS.run_und w
 split at h
 ·rename_i k j n hd
  simp only [Option.some.injEq, Prod.mk.injEq] at h
  obtain ⟨rfl, rfl⟩ := h
  simp only [ren, Option.some.injEq] at hX
  subst hX
  exact okv_same hR (by simp [convert, rS, run_underlying (hT.int hd) w, Conv.intToInt]) rfl
 ·rename_i b hd
  simp only [Option.some.injEq, Prod.mk.injEq] at h
  obtain ⟨rfl, rfl⟩ := h
  simp only [ren, Option.some.injEq] at hX
  subst hX
  exact okv_same hR (by simp [convert, rS, run_underlying (hT.str hd) w]) rfl
 ·rename_i e b hsd hd
  simp only [Option.bind_eq_some_iff] at h
  obtain ⟨ei, hei, h⟩ := h
  have hei := tiV_ok hC hei
  split at h
  ·rename_i hed
   simp only [Option.bind_eq_some_iff, Option.some.injEq, Prod.mk.injEq] at h
   obtain ⟨⟨h', hp1⟩, hn, rfl, rfl⟩ := h
   simp only [ren, Option.some.injEq] at hX
   subst hX
   have hrun := run_bytes_of_string (P := P) w s t e ⟨b.toArray⟩ (hS.str hsd) (hT.sl hd) (hei.int hed)
   have hn' := new_some hn
   have hsz : (⟨b.toArray⟩ : ByteArray).size = b.length := by simp [ByteArray.size]
   rw [hsz] at hrun
   have hcap : b.length ≤ grownCap w b.length 0 e := by unfold grownCap Question.cut; exact Nat.le_add_right _ _
   refine ⟨by simp only; omega, fun hf => ?_⟩
   have hobj : ObjRep E (.cells (b.map byV) e (some 1) true) (w.drew.heap.size, 0, grownCap w b.length 0 e - b.length) (.cells (bytesRow ⟨b.toArray⟩ (grownCap w b.length 0 e)) e ((bytesRow ⟨b.toArray⟩ (grownCap w b.length 0 e)).size, (bytesRow ⟨b.toArray⟩ (grownCap w b.length 0 e)).size + 1)) := by
    have hbr : bytesRow ⟨b.toArray⟩ (grownCap w b.length 0 e) = ([] ++ (b.map fun (c : UInt8) => Value.int .u8 c.toNat) ++ List.replicate (grownCap w b.length 0 e - b.length) (Value.int .u8 0)).toArray := by
     apply Array.ext'
     simp [bytesRow, hsz]
    refine ⟨[], b.map fun (c : UInt8) => Value.int .u8 c.toNat, List.replicate (grownCap w b.length 0 e - b.length) (Value.int .u8 0), ((bytesRow ⟨b.toArray⟩ (grownCap w b.length 0 e)).size, (bytesRow ⟨b.toArray⟩ (grownCap w b.length 0 e)).size + 1), bytes_cells b, ?_, rfl, by rw [← hbr], fun h => by simp at h, fun q hq => ?_, fun h => by simp at h, .inr ?_⟩
    ·simp [List.all_eq_true]; intros; rfl
    ·simp at hq; subst hq; simp
    ·rw [hbr]; simp
   obtain ⟨q1, rfl, q2, q3⟩ := out_new (E := E) (w := w.drew) hn (hR.same rfl) hf hobj
   exact ⟨_, _, _, hrun, by
    rw [ren_sl_mk q3 (wkB_ro (new_some hn).2.1)]
    simp only [if_true]
    congr 2
    omega, (out_same (w' := w.drew) (hp' := hp) hR rfl rfl rfl rfl rfl).trans q2 (Nat.le_refl _) q1⟩
  ·simp at h
 ·rename_i e0 e b o l c op hsd hd
  split at h
  ·rename_i hst
   have hst := Nat.eq_of_beq_eq_true hst
   subst hst
   simp only [Option.bind_eq_some_iff] at h
   obtain ⟨ei, hei, h⟩ := h
   have hei := tiV_ok hC hei
   split at h
   ·rename_i hed
    split at h
    ·rename_i cs t' op' mk hg
     obtain ⟨hg, hro⟩ := getW_some hg
     simp only [Option.some.injEq, Prod.mk.injEq] at h
     obtain ⟨rfl, rfl⟩ := h
     obtain ⟨⟨B, k, ex⟩, he, ⟨hwk, rfl⟩ | ⟨hwk, _⟩⟩ := ren_slk hX
     rotate_left
     ·rw [wkB_ro hro] at hwk
      simp at hwk
     obtain ⟨b', ex', pre, lv, sp, fz, h1, h2, h3, h4, h5, h6, h7, h8⟩ := rep_cells hR hg
     rw [he] at h1
     simp only [Option.some.injEq, Prod.mk.injEq] at h1
     obtain ⟨rfl, rfl, rfl⟩ := h1
     have hsh : w.shape? B = some (t', (pre ++ lv ++ sp).length) := by simp only [World.shape?, h2]; simp
     refine ⟨Nat.le_refl _, fun _ => ⟨.slice (some ⟨B, pre.length + o, none⟩) l (if op = true then c + ex else c), w.freeze ⟨B, (pre ++ lv ++ sp).length, none⟩ 1, E, ?_, by rw [ren_sl_mk he hwk], ?_⟩⟩
     ·simp only [convert, Sem.run_bind, run_underlying (hT.sl hd) w, Result.andThen_ok]
      simp [run_underlying (hei.int hed) w, markStringish, hsh]
     ·refine out_put hro hR hg he (x' := .cells (pre ++ lv ++ sp).toArray t' ((pre ++ lv ++ sp).length, (pre ++ lv ++ sp).length + 1)) ⟨pre, lv, sp, _, h3, h4, rfl, rfl, h5, h6, fun h => by simp at h, .inr (.inl rfl)⟩ ?_ (fun j hj => ?_) (by simp [World.freeze]) rfl rfl rfl
      ·rcases fz_f hro h8 with rfl | rfl | h <;> first | (simp [World.freeze, Array.getElem?_modify, h2]; done) | simp at h
      ·simp [World.freeze, Array.getElem?_modify, Ne.symm hj]
    ·simp at h
   ·simp at h
  ·simp at h
 ·rename_i e b o hsd hd
  simp only [Option.bind_eq_some_iff] at h
  obtain ⟨ei, hei, h⟩ := h
  have hei := tiV_ok hC hei
  split at h
  ·simp at h
  ·rename_i hz
   simp only [Option.bind_eq_some_iff, Option.some.injEq, Prod.mk.injEq] at h
   obtain ⟨cs, hcs, q, hq, rfl, rfl⟩ := h
   have hc : cutL cs o 1 = some [q] := by
    rw [getL_eq] at hq
    have hl := (List.getElem?_eq_some_iff.1 hq).1
    rw [cutL_mk (by omega)]
    simp only [Option.some.injEq]
    rw [List.drop_eq_getElem_cons hl, List.take_succ_cons, List.take_zero]
    rw [List.getElem?_eq_getElem hl] at hq
    rw [Option.some.inj hq]
   obtain ⟨B, k, ex, L, g1, g2, g3, g4, g5⟩ := cellsAt_ok hR hcs hc
   obtain ⟨y, t', k1, k2, rfl⟩ := renL_cons g2
   simp only [ren, Option.map_eq_some_iff] at hX
   obtain ⟨⟨B', k', ex'⟩, he, rfl⟩ := hX
   rw [g1] at he
   simp only [Option.some.injEq, Prod.mk.injEq] at he
   obtain ⟨rfl, rfl, rfl⟩ := he
   obtain ⟨i, hi, hisz, _⟩ := hei.info
   refine okv_same hR (run_convert_to_unsafe (hS.ptr hsd) (hT.usf hd) (by
    rw [hi]
    simp only [Option.map_some, Option.some.injEq, decide_eq_false_iff_not]
    intro e
    rw [hisz] at e
    rw [e] at hz
    simp at hz) (v := y) ?_) (by simp only [ren, g1, Option.map_some])
   have := g5 0 y (by simp)
   simpa using this
 ·rename_i e A l c op hsd hd
  simp only [Option.bind_eq_some_iff] at h
  obtain ⟨ei, hei, h⟩ := h
  have hei := tiV_ok hC hei
  split at h
  ·rename_i hed
   split at h
   ·simp only [Option.some.injEq, Prod.mk.injEq] at h
    obtain ⟨rfl, rfl⟩ := h
    simp only [ren, Option.some.injEq] at hX
    subst hX
    refine okv_same hR (x := .string ⟨#[]⟩) ?_ rfl
    rw [run_convert_bytes_string w s t e none _ _ (hS.sl hsd) (hei.int hed) (hT.str hd)]
    rfl
   ·rename_i b o
    simp only [Option.bind_eq_some_iff, Option.some.injEq, Prod.mk.injEq] at h
    obtain ⟨cs, hcs, bs, hbs, rfl, rfl⟩ := h
    obtain ⟨⟨B, k, ex⟩, he, ⟨hwk, rfl⟩ | ⟨hwk, rfl, rfl, rfl, rfl⟩⟩ := ren_slk hX
    rotate_left
    ·obtain ⟨L, g1, g2, g3, g4⟩ := loadV_ok hR hcs
     obtain ⟨ns, rfl, hns⟩ := asBy_ints hbs g1
     refine okv_same hR (x := .string ⟨bs.toArray⟩) ?_ rfl
     rw [run_convert_bytes_string w s t e _ _ _ (hS.sl hsd) (hei.int hed) (hT.str hd)]
     have hn0 : ns = [] := List.length_eq_zero_iff.1 (by simpa using g2)
     subst hn0
     have hl := run_loadCells_list (P := P) w ⟨B, k, some ex⟩ [] (fun j v hv => by simp at hv)
     rw [run_bytesToString w _ 0 _ [] (by simpa using hl), push_all, hns]
     congr 2
     have : ByteArray.empty.data = #[] := rfl
     rw [this]; simp
    obtain ⟨L, g1, g2, g3, g4⟩ := loadV_ok hR hcs
    obtain ⟨ns, rfl, hns⟩ := asBy_ints hbs g1
    refine okv_same hR (x := .string ⟨bs.toArray⟩) ?_ rfl
    rw [run_convert_bytes_string w s t e _ _ _ (hS.sl hsd) (hei.int hed) (hT.str hd)]
    have hl := run_loadCells_list (P := P) w ⟨B, k + o, none⟩ (ns.map (Value.int .u8)) (fun j v hv => by rw [Addr.add_mid]; exact g4 B k ex he j v hv)
    rw [g2] at hl
    rw [run_bytesToString w _ l _ ns hl, push_all, hns]
    congr 2
    have : ByteArray.empty.data = #[] := rfl
    rw [this]; simp
  ·simp at h
 ·simp at h
end
/- Vj: the machine's maps, against the world's. By this project. -/
section
variable {P : Program} {C : Cx} (hC : COk P C) {E : Env} {hp : Hp} {w : World} {fr : Tr V} {a : Act}
theorem eqEs_true {f : V → V → Option Bool} {t : TypeId} {n : Nat} {xs ys : List V} : ∀ (k i : Nat), eqEs f C t n k (xs.drop (i * n)) (ys.drop (i * n)) = some true → ∀ j, i ≤ j → j < i + k → ∃ p q, partV C t (xs.drop (j * n)) 0 = some p ∧ partV C t (ys.drop (j * n)) 0 = some q ∧ f p q = some true
 | 0, i, _, j, h1, h2 => by omega
 | k + 1, i, h, j, h1, h2 => by
  simp only [eqEs, Option.bind_eq_some_iff] at h
  obtain ⟨p, hp, q, hq, e, he, h⟩ := h
  cases e with
  | false => simp at h
  | true =>
   by_cases hj : j = i
   ·subst hj; exact ⟨p, q, hp, hq, he⟩
   ·simp only [dropF_eq, List.drop_drop] at h
    rw [show i * n + n = (i + 1) * n by rw [Nat.succ_mul]] at h
    exact eqEs_true k (i + 1) h j (by omega) (by omega)
theorem veq_int {hp : Hp} {d : Nat} {t : TypeId} {ti : TI} {k : IntKind} {x y : V} (ht : tiV C t = some ti) (hd : ti.d = .int k) (h : veq C hp (d + 1) t x y = some true) : ∃ j n, x = .i j n ∧ y = .i j n := by
 simp only [veq, ht, Option.bind_some, hd] at h
 cases x <;> try (simp at h; done)
 cases y <;> try (simp at h; done)
 simp only at h
 split at h
 ·rename_i hk
  have := kindEq_iff.1 hk
  subst this
  simp only [Option.some.injEq, intEq_iff, beq_iff_eq] at h
  exact ⟨_, _, rfl, by rw [h]⟩
 ·simp at h
theorem veq_str {hp : Hp} {d : Nat} {t : TypeId} {ti : TI} {x y : V} (ht : tiV C t = some ti) (hd : ti.d = .str) (h : veq C hp (d + 1) t x y = some true) : ∃ s, x = .s s ∧ y = .s s := by
 simp only [veq, ht, Option.bind_some, hd] at h
 cases x <;> try (simp at h; done)
 cases y <;> try (simp at h; done)
 simp only [Option.some.injEq, byEq_iff, beq_iff_eq] at h
 exact ⟨_, rfl, by rw [h]⟩
theorem sameBits_ints {n : Nat} : ∀ (l : List Value), (∀ v ∈ l, ∃ k m, v = .int k m) → (l.zip l).all (fun x => Instr.sameBits n x.1 x.2) = true
 | [], _ => rfl
 | v :: r, h => by
  obtain ⟨k, m, rfl⟩ := h v (by simp)
  simp only [List.zip_cons_cons, List.all_cons, sameBits_ints r (fun v hv => h v (by simp [hv])), Bool.and_true]
  cases n <;> simp [Instr.sameBits]
theorem keyFit_spec {kt : TypeId} {k : V} (h : keyFit C kt k = true) : ∃ ti, tiV C kt = some ti ∧ ((∃ q, ti.d = .int q) ∨ ti.d = .str ∨ ∃ n e cs ei q, ti.d = .arr n e ∧ k = .agg cs ∧ tiV C e = some ei ∧ ei.d = .int q ∧ ei.size = 1 ∧ cs.length = n) := by
 unfold keyFit at h
 cases hti : tiV C kt with
 | none => rw [hti] at h; simp at h
 | some ti =>
  rw [hti] at h
  simp only at h
  refine ⟨ti, rfl, ?_⟩
  split at h
  ·rename_i q hd
   exact .inl ⟨_, hd⟩
  ·rename_i hd
   exact .inr (.inl hd)
  ·rename_i n e cs hd
   split at h
   ·rename_i ei hei
    split at h
    ·rename_i q hed
     simp only [Bool.and_eq_true, Nat.beq_eq, lenF_eq] at h
     exact .inr (.inr ⟨n, e, cs, ei, q, hd, rfl, hei, hed, h.1, h.2⟩)
    ·simp at h
   ·simp at h
  ·simp at h
theorem mapEq_plain {kt : TypeId} {ti : TI} {x y : V} {b : Bool} (hti : tiV C kt = some ti) (hn : ∀ n e, ti.d ≠ .arr n e) (h : mapEq C hp kt x y = some b) : veq C hp 3 kt x y = some b := by
 unfold mapEq at h
 split at h
 ·simp only [hti, Option.bind_some] at h
  simp at h
 ·exact h
theorem mapEq_true {kt : TypeId} {x y : V} {X Y : Value} (hk : keyFit C kt x = true) (h : mapEq C hp kt x y = some true) (hX : ren E x = some X) (hY : ren E y = some Y) : X = Y ∧ Instr.sameBits 10000 Y X = true := by
 obtain ⟨ti, hti, hc⟩ := keyFit_spec hk
 rcases hc with ⟨q, hd⟩ | hd | ⟨n, e, xs, ei, q, hd, rfl, hei, hed, hk1, hk2⟩
 ·have h' := mapEq_plain hti (fun n e hn => by rw [hd] at hn; simp at hn) h
  obtain ⟨j, n, rfl, rfl⟩ := veq_int (d := 2) hti hd h'
  rw [hX] at hY
  obtain rfl := Option.some.inj hY
  simp only [ren, Option.some.injEq] at hX
  subst hX
  exact ⟨rfl, by simp [Instr.sameBits]⟩
 ·have h' := mapEq_plain hti (fun n e hn => by rw [hd] at hn; simp at hn) h
  obtain ⟨s, rfl, rfl⟩ := veq_str (d := 2) hti hd h'
  rw [hX] at hY
  obtain rfl := Option.some.inj hY
  simp only [ren, Option.some.injEq] at hX
  subst hX
  exact ⟨rfl, by simp only [Instr.sameBits]; rw [str_beq]; simp⟩
 ·unfold mapEq at h
  cases y with
  | agg ys =>
   simp only [hti, Option.bind_some, hd] at h
   split at h
   ·rename_i hb
    simp only [Bool.and_eq_true, Nat.beq_eq, lenF_eq] at hb
    have hall : eqEs (veq C hp 2 e) C e 1 n xs ys = some true := by
     have h2 := h
     unfold veq at h2
     simp only [hti, Option.bind_some, hd, hei, hk1] at h2
     exact h2
    have hall := eqEs_true (xs := xs) (ys := ys) n 0 (by simpa using hall)
    obtain ⟨l, g1, g2, rfl⟩ := ren_agg hX
    obtain ⟨m, g3, g4, rfl⟩ := ren_agg hY
    have hl := renL_len g1
    have hm := renL_len g3
    have key : ∀ j, j < n → ∃ kk z, l[j]? = some (.int kk z) ∧ m[j]? = some (.int kk z) := fun j hj => by
     obtain ⟨p, q', hp1, hq1, hf⟩ := hall j (by omega) (by omega)
     obtain ⟨kk, z, rfl, rfl⟩ := veq_int (d := 1) hei hed hf
     simp only [partV, hei, Option.bind_some, hed, TD.row, Nat.mul_one, getL_eq, List.getElem?_drop, Nat.add_zero] at hp1 hq1
     obtain ⟨u, k1, k2⟩ := renL_get g1 hp1
     obtain ⟨v, k3, k4⟩ := renL_get g3 hq1
     simp only [ren, Option.some.injEq] at k2 k4
     subst k2 k4
     exact ⟨_, _, k1, k3⟩
    have hlm : l = m := by
     apply List.ext_getElem?
     intro j
     by_cases hj : j < n
     ·obtain ⟨kk, z, h1, h2⟩ := key j hj
      rw [h1, h2]
     ·rw [List.getElem?_eq_none (by omega), List.getElem?_eq_none (by omega)]
    subst hlm
    refine ⟨rfl, ?_⟩
    have := sameBits_ints (n := 9999) l (fun v hv => by
     obtain ⟨j, hj, rfl⟩ := List.getElem_of_mem hv
     obtain ⟨kk, z, h1, _⟩ := key j (by omega)
     rw [List.getElem?_eq_getElem hj] at h1
     exact ⟨kk, z, Option.some.inj h1⟩)
    simp only [Instr.sameBits, beq_self_eq_true, Bool.true_and]
    simpa using this
   ·simp at h
  | _ => simp [veq, hti, hd] at h
include hC
theorem keyFit_check {kt : TypeId} {k : V} {K : Value} (hk : keyFit C kt k = true) (hK : ren E k = some K) (em : Bool) (w : World) : (Instr.checkKey em 10000 kt K).run P w = .ok () w := by
 obtain ⟨ti, hti, hc⟩ := keyFit_spec hk
 have hT := tiV_ok hC hti
 rcases hc with ⟨q, hd⟩ | hd | ⟨n, e, cs, ei, q, hd, rfl, hei, hed, hk1, hk2⟩
 ·unfold Instr.checkKey
  simp [run_underlying (hT.int hd) w]
 ·unfold Instr.checkKey
  simp [run_underlying (hT.str hd) w]
 ·have hEi := tiV_ok hC hei
  obtain ⟨l, g1, g2, rfl⟩ := ren_agg hK
  have hl := renL_len g1
  have hpart : ∀ j, j < n → ∀ w, ∃ v, (part e l.toArray j).run P w = .ok v w := fun j hj w => by
   have hrow := hEi.agg w
   rw [hed] at hrow
   have : j < l.length := by omega
   exact ⟨l[j], by simp only [TD.row] at hrow; simp [part, hrow, this]⟩
  have hone : ∀ v w, (Instr.checkKey em 9999 e v).run P w = .ok () w := fun v w => by
   unfold Instr.checkKey
   simp [run_underlying (hEi.int hed) w]
  unfold Instr.checkKey
  simp only [Sem.run_bind, run_underlying (hT.arr hd) w, Result.andThen_ok]
  simp only [Std.Legacy.Range.forIn_eq_forIn_range', Std.Legacy.Range.size, Nat.sub_zero, Nat.add_one_sub_one, Nat.div_one]
  have hin : ∀ j ∈ List.range' 0 n, j < n := fun j hj => by simp at hj; omega
  revert hin
  generalize List.range' 0 n = is
  intro hin
  have hsz := hEi.size w
  rw [hk1] at hsz
  induction is with
  | nil => simp
  | cons j r ih =>
   obtain ⟨v, hv⟩ := hpart j (hin j (by simp)) w
   simp only [List.forIn_cons, Sem.run_bind, hsz, Result.andThen_ok, Nat.mul_one, hv, hone, Sem.run_pure]
   exact ih (fun q hq => hin q (by simp [hq]))
def FindR (E : Env) (K : Value) (es : List (V × V × Nat)) (i : Nat) (q : Option (Nat × V)) (r : Option (Nat × Value)) : Prop := match q with
 | none => r = none
 | some (j, v) => i ≤ j ∧ ∃ kk bn x, es[j - i]? = some (kk, v, bn) ∧ ren E kk = some K ∧ Instr.sameBits 10000 K K = true ∧ ren E v = some x ∧ r = some (j, x)
omit hC in
theorem renEs_cons {e : V × V × Nat} {es : List (V × V × Nat)} {l : List MapEntry} (h : renEs E (e :: es) = some l) : ∃ k v t, ren E e.1 = some k ∧ ren E e.2.1 = some v ∧ renEs E es = some t ∧ l = ⟨k, v, e.2.2⟩ :: t := by
 unfold renEs at h
 rw [mapO_cons] at h
 cases h1 : ren E e.1 with
 | none => rw [h1] at h; simp at h
 | some k =>
  cases h2 : ren E e.2.1 with
  | none => rw [h1, h2] at h; simp at h
  | some v =>
   rw [h1, h2] at h
   cases h3 : mapO (fun e : V × V × Nat => (ren E e.1).bind fun k => (ren E e.2.1).map fun v => MapEntry.mk k v e.2.2) es with
   | none => rw [h3] at h; simp at h
   | some t =>
    rw [h3] at h
    simp at h
    exact ⟨k, v, t, rfl, rfl, h3, h.symm⟩
omit hC in
theorem renEs_mk {e : V × V × Nat} {es : List (V × V × Nat)} {k v : Value} {t : List MapEntry} (h1 : ren E e.1 = some k) (h2 : ren E e.2.1 = some v) (h3 : renEs E es = some t) : renEs E (e :: es) = some (⟨k, v, e.2.2⟩ :: t) := by
 unfold renEs at h3 ⊢
 simp only [mapO_cons, h1, h2, h3, Option.bind_some, Option.map_some]
theorem find_ok {kt : TypeId} {k : V} {K : Value} (hR : Rep E hp.t w) (hk : keyFit C kt k = true) (hK : ren E k = some K) : ∀ (es : List (V × V × Nat)) (l : List MapEntry) (i : Nat) (q : Option (Nat × V)), findV (mapEq C hp kt) k es i = some q → renEs E es = some l →
  ∃ r, (Instr.findAsking kt K l i).run P w = .ok r w ∧ FindR E K es i q r
 | [], l, i, q, h, hl => by
  simp [findV] at h
  simp [renEs, mapO_nil] at hl
  subst h hl
  exact ⟨none, rfl, rfl⟩
 | e :: es, l, i, q, h, hl => by
  obtain ⟨kk, vv, t, h1, h2, h3, rfl⟩ := renEs_cons hl
  simp only [findV, Option.bind_eq_some_iff] at h
  obtain ⟨b, hb, h⟩ := h
  have hrun : (Op.equal kt K kk).run P w = .ok b w := by
   refine veq_run hC (d := 3) (by omega) ?_ hR hK h1
   unfold mapEq at hb
   split at hb
   ·simp only [Option.bind_eq_some_iff] at hb
    obtain ⟨ti, _, hb⟩ := hb
    split at hb
    ·split at hb
     ·exact hb
     ·simp at hb
    ·simp at hb
   ·exact hb
  cases b with
  | true =>
   simp only [Option.some.injEq] at h
   subst h
   obtain ⟨he, hs⟩ := mapEq_true hk hb hK h1
   subst he
   refine ⟨some (i, vv), by simp [Instr.findAsking, hrun], Nat.le_refl _, e.1, e.2.2, vv, by simp, h1, hs, h2, rfl⟩
  | false =>
   obtain ⟨r, g1, g2⟩ := find_ok hR hk hK es t (i + 1) q h h3
   refine ⟨r, by simp [Instr.findAsking, hrun, g1], ?_⟩
   cases q with
   | none => exact g2
   | some jv =>
    obtain ⟨k1, kk', bn, x, k2, k3⟩ := g2
    refine ⟨by omega, kk', bn, x, ?_, k3⟩
    rw [show jv.1 - i = (jv.1 - (i + 1)) + 1 by omega]
    simpa using k2
omit hC in
theorem findNow_ok {kt : TypeId} {D : TypeDesc} {K : Value} (hD : P.underlying kt = some D) : ∀ (l : List MapEntry) (i : Nat) (r : Option (Nat × Value)), Instr.findNow D K l i = some r → (Instr.findAsking kt K l i).run P w = .ok r w
 | [], i, r, h => by simp [Instr.findNow] at h; subst h; rfl
 | e :: es, i, r, h => by
  simp only [Instr.findNow] at h
  have key : ∀ b, Instr.sameNow D K e.key = some b → (Op.equal kt K e.key).run P w = .ok b w := fun b hb => by
   rw [show Op.equal kt K e.key = Op.equalIn (9999 + 1) kt K e.key from rfl]
   unfold Op.equalIn
   simp only [Sem.run_bind, run_underlying hD w, Result.andThen_ok]
   unfold Instr.sameNow at hb
   split at hb
   ·rename_i k x k' y heq
    split at hb
    ·rename_i hk
     subst hk
     simp only [Option.some.injEq] at hb
     subst hb
     simp [heq]
    ·simp at hb
   ·rename_i x y heq
    simp only [Option.some.injEq] at hb
    subst hb
    simp [heq]
   ·rename_i x y heq
    simp only [Option.some.injEq] at hb
    subst hb
    simp [heq]
   ·simp at hb
  split at h
  ·rename_i hs
   simp only [Option.some.injEq] at h
   subst h
   simp [Instr.findAsking, key _ hs]
  ·rename_i hs
   have := findNow_ok hD es (i + 1) r h
   simp [Instr.findAsking, key _ hs, this]
  ·simp at h
theorem findKey_ok {kt : TypeId} {k : V} {K : Value} {es : List (V × V × Nat)} {l : List MapEntry} {q : Option (Nat × V)} (hR : Rep E hp.t w) (hk : keyFit C kt k = true) (hK : ren E k = some K) (h : findV (mapEq C hp kt) k es 0 = some q) (hl : renEs E es = some l) :
  ∃ r, (Instr.findKey kt K l).run P w = .ok r w ∧ FindR E K es 0 q r := by
 obtain ⟨r, h1, h2⟩ := find_ok hC hR hk hK es l 0 q h hl
 refine ⟨r, ?_, h2⟩
 obtain ⟨D, hD⟩ : ∃ D, P.underlying kt = some D := by
  unfold keyFit at hk
  cases hti : tiV C kt with
  | none => rw [hti] at hk; simp at hk
  | some ti =>
   obtain ⟨D, hD, _⟩ := (tiV_ok hC hti).und
   exact ⟨D, hD⟩
 unfold Instr.findKey
 simp only [Sem.run_bind, run_underlying hD w, Result.andThen_ok]
 cases hn : Instr.findNow D K l 0 with
 | none => exact h1
 | some r' =>
  have := findNow_ok (P := P) (w := w) hD l 0 r' hn
  rw [h1] at this
  simp only [Result.ok.injEq, and_true] at this
  subst this
  rfl
omit hC in
theorem rep_map {t : Tr VO} (hR : Rep E t w) {h : Nat} {es : List (V × V × Nat)} {clock : Nat} (hg : t.get h = some (.map es clock)) : ∃ b l, E h = some (b, 0, 0) ∧ renEs E es = some l ∧ w.heap[b]? = some (.map l.toArray clock) := by
 obtain ⟨⟨b, k, ex⟩, x, h1, h2, h3⟩ := hR.has h _ hg
 obtain ⟨g0, l, g1, rfl⟩ := h3
 simp only [Prod.mk.injEq] at g0
 obtain ⟨rfl, rfl⟩ := g0
 exact ⟨b, l, h1, g1, h2⟩
theorem vlookup_ok {t : TypeId} {m k v : V} {M K : Value} {ok : Bool} (hR : Rep E hp.t w) (h : vlookup C hp t m k ok = some v) (hM : ren E m = some M) (hK : ren E k = some K) : OkV P E hp w (Instr.lookup t M K ok) v hp := by
 simp only [vlookup, Option.bind_eq_some_iff] at h
 obtain ⟨ti, hti, h⟩ := h
 have hT := tiV_ok hC hti
 split at h
 ·rename_i kt et hd
  split at h
  ·rename_i hk
   simp only [Option.bind_eq_some_iff] at h
   obtain ⟨es, hes, q, hq, ⟨rv, rb⟩, hr, h⟩ := h
   have hu := hT.map hd
   have hes' : ∃ l : List MapEntry, renEs E es = some l ∧ ((M = .map none ∧ l = []) ∨ ∃ b clock, M = .map (some b) ∧ w.heap[b]? = some (.map l.toArray clock)) := by
    split at hes
    ·simp only [Option.some.injEq] at hes
     subst hes
     simp only [ren, Option.some.injEq] at hM
     exact ⟨[], rfl, .inl ⟨hM.symm, rfl⟩⟩
    ·split at hes
     ·rename_i r es' clock hg
      simp only [Option.some.injEq] at hes
      subst hes
      obtain ⟨b, l, g1, g2, g3⟩ := rep_map hR hg
      simp only [ren, g1, Option.map_some, Option.some.injEq] at hM
      exact ⟨l, g2, .inr ⟨b, clock, hM.symm, g3⟩⟩
     ·simp at hes
    ·simp at hes
   obtain ⟨l, hl, hcase⟩ := hes'
   obtain ⟨r, f1, f2⟩ := findKey_ok hC hR hk hK hq hl
   have hck := fun em => keyFit_check hC hk hK em w
   have hfin : ∃ X, ren E rv = some X ∧ ((r = none ∧ (zeroValue et).run P w = .ok X w ∧ rb = false) ∨ ((∃ j, r = some (j, X)) ∧ rb = true)) := by
    cases q with
    | none =>
     simp only [Option.bind_eq_some_iff, Option.some.injEq, Prod.mk.injEq] at hr
     obtain ⟨ei, hei, z, hz, rfl, rfl⟩ := hr
     obtain ⟨zv, z1, z2⟩ := (tiV_ok hC hei).zero hz w
     exact ⟨zv, z2 E, .inl ⟨f2, z1, rfl⟩⟩
    | some jv =>
     simp only [Option.some.injEq, Prod.mk.injEq] at hr
     obtain ⟨rfl, rfl⟩ := hr
     obtain ⟨_, kk, bn, x, k2, k3, k4, k5, rfl⟩ := f2
     exact ⟨x, k5, .inr ⟨⟨_, rfl⟩, rfl⟩⟩
   obtain ⟨X, hX, hres⟩ := hfin
   have hv : ren E v = some (if ok = true then .tuple #[X, .bool rb] else X) := by
    cases ok with
    | true =>
     simp only [Option.some.injEq] at h
     subst h
     simp [ren, renL, hX]
    | false =>
     simp only [Option.some.injEq] at h
     subst h
     simp [hX]
   refine okv_same hR ?_ hv
   rcases hcase with ⟨rfl, rfl⟩ | ⟨b, clock, rfl, hb⟩
   ·simp only [Instr.lookup, Sem.run_bind, run_underlying hu w, Result.andThen_ok, Sem.run_pure, hck]
    rcases hres with ⟨rfl, hz, rfl⟩ | ⟨⟨j, rfl⟩, rfl⟩ <;> simp [f1, *]
   ·simp only [Instr.lookup, Sem.run_bind, run_underlying hu w, Result.andThen_ok, Sem.run_pure, hck, MapKept.run_getObj_map hb]
    rcases hres with ⟨rfl, hz, rfl⟩ | ⟨⟨j, rfl⟩, rfl⟩ <;> simp [f1, *]
  ·simp at h
 ·simp at h
end
end Go.Proofs.Ytabpegdalmagpaa
