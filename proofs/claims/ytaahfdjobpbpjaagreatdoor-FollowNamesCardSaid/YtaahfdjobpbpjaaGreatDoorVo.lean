/- Vo: what the machine of Vm does: operations, regions, code, calls. By this project. -/
import Derived.Test.YtaahfdjobpbpjaaGreatDoorVm
set_option linter.unusedVariables false
set_option linter.unusedSectionVars false
set_option linter.unusedSimpArgs false
namespace Go.Proofs.YtaahfdjobpbpjaaGreatDoor
noncomputable section
open Go.RowKit Go.Extern.Stop

def evV (fr : Tr V) : Operand → Option V
  | .tmp t => fr.get t
  | .const v => ofVal v
  | .global g => match Nat.blt g gMax with
    | true => some (.p (some (g, 0)))
    | false => none
  | .func f => some (.fn f [] [])
def tiV (C : Cx) (t : TypeId) : Option TI := C.T.get t
/-- A value of a type out of cells, from a place on. -/
def partV (C : Cx) (t : TypeId) (cs : List V) (o : Nat) : Option V :=
  (tiV C t).bind fun ti => match ti.d.row with
    | true => (cutL cs o ti.size).bind fun l => some (.agg l)
    | false => getL cs o
def cellsAt (hp : Hp) (h : Nat) : Option (List V) := match hp.get h with
  | some (.cells cs _ _ _) => some cs
  | _ => none
/-- So many cells from a place on; none asked: none looked for. -/
def loadV (hp : Hp) (h o n : Nat) : Option (List V) := match n with
  | 0 => some []
  | n => (cellsAt hp h).bind fun cs => cutL cs o n
def storeV (hp : Hp) (h o : Nat) (vs : List V) : Option Hp := match vs with
  | [] => some hp
  | vs => match hp.getW h with
    | some (.cells cs t op mk) => match geL cs (o + lenF vs) with
      | true => some (hp.put h (some (.cells (putAt o cs vs) t op mk)))
      | false => none
    | _ => none
def ptrV : V → Option (Nat × Nat)
  | .p a => a
  | _ => none
def intV? : V → Option Int
  | .i _ n => some n
  | _ => none
def natV (v : V) : Option Nat := (intV? v).bind asNat
def kindEq : IntKind → IntKind → Bool
  | .i8, .i8 => true | .i16, .i16 => true | .i32, .i32 => true | .i64, .i64 => true
  | .u8, .u8 => true | .u16, .u16 => true | .u32, .u32 => true | .u64, .u64 => true
  | _, _ => false
def intEq : Int → Int → Bool
  | .ofNat a, .ofNat b => Nat.beq a b
  | .negSucc a, .negSucc b => Nat.beq a b
  | _, _ => false
def intLe (x y : Int) : Bool := match y - x with
  | .ofNat _ => true
  | .negSucc _ => false
def intLt (x y : Int) : Bool := !intLe y x
def byEq : List UInt8 → List UInt8 → Bool
  | [], [] => true
  | a :: r, b :: s => match Nat.beq a.toNat b.toNat with
    | true => byEq r s
    | false => false
  | _, _ => false
def byLt : List UInt8 → List UInt8 → Bool
  | _, [] => false
  | [], _ :: _ => true
  | a :: r, b :: s => match Nat.blt a.toNat b.toNat with
    | true => true
    | false => match Nat.beq a.toNat b.toNat with
      | true => byLt r s
      | false => false

/-! ### Equality -/
def eqFs (f : TypeId → V → V → Option Bool) (C : Cx) (xs ys : List V) : List (Nat × TypeId) → Option Bool
  | [] => some true
  | (o, t) :: r => (partV C t xs o).bind fun a => (partV C t ys o).bind fun b => (f t a b).bind fun e => match e with
    | true => eqFs f C xs ys r
    | false => some false
/-- Elements from number i on, k of them, of size n. -/
def eqEs (f : V → V → Option Bool) (C : Cx) (t : TypeId) (n : Nat) : Nat → List V → List V → Option Bool
  | 0, _, _ => some true
  | k + 1, xs, ys => (partV C t xs 0).bind fun a => (partV C t ys 0).bind fun b => (f a b).bind fun e => match e with
    | true => eqEs f C t n k (dropF xs n) (dropF ys n)
    | false => some false
def bare (hp : Hp) (h : Nat) : Bool := match hp.getW h with
  | some (.cells _ _ _ false) => true
  | _ => false
def veq (C : Cx) (hp : Hp) : Nat → TypeId → V → V → Option Bool
  | 0, _, _, _ => none
  | d + 1, t, x, y => (tiV C t).bind fun ti => match ti.d, x, y with
    | .bool, .b a, .b b => some (a == b)
    | .int _, .i k a, .i k' b => match kindEq k k' with
      | true => some (intEq a b)
      | false => none
    | .str, .s a, .s b => some (byEq a b)
    | .ptr _, .p none, .p b => some b.isNone
    | .ptr _, .p (some _), .p none => some false
    | .ptr e, .p (some (h, o)), .p (some (h', o')) => (tiV C e).bind fun te => match Nat.beq te.size 0 with
      | true => none
      | false => match Nat.beq h h' with
        | true => some (Nat.beq o o')
        | false => match bare hp h && bare hp h' with
          | true => some false
          | false => none
    | .ifc, .ni, .ni => some true
    | .ifc, .ni, .ifc _ _ => some false
    | .ifc, .ifc _ _, .ni => some false
    | .ifc, .ifc t1 a, .ifc t2 b => match Nat.beq t1 t2 with
      | true => (tiV C t1).bind fun t1i => match t1i.eq with
        | true => veq C hp d t1 a b
        | false => none
      | false => some false
    | .st fs, .agg xs, .agg ys => match ti.eq with
      | true => eqFs (veq C hp d) C xs ys fs
      | false => none
    | .arr n e, .agg xs, .agg ys => (tiV C e).bind fun te => eqEs (veq C hp d e) C e te.size n xs ys
    | .sl _, .sl none _ _ _, .sl b _ _ _ => some b.isNone
    | .sl _, .sl (some _) _ _ _, .sl none _ _ _ => some false
    | .map _ _, .m none, .m b => some b.isNone
    | .map _ _, .m (some _), .m none => some false
    | .fn, .nf, .nf => some true
    | .fn, .nf, .fn _ _ _ => some false
    | .fn, .fn _ _ _, .nf => some false
    | _, _, _ => none
def isConstO : Operand → Bool
  | .const _ => true
  | _ => false
/-- '==' as an operation: two nil interface values ask for a literal; structs and arrays must hold none with methods. -/
def veqOp (C : Cx) (hp : Hp) (t : TypeId) (x y : Operand) (a b : V) : Option Bool := match a, b with
  | .ni, .ni => match isConstO x || isConstO y with
    | true => veq C hp 30 t a b
    | false => none
  | .agg _, .agg _ => (tiV C t).bind fun ti => match ti.eq with
    | true => veq C hp 30 t a b
    | false => none
  | _, _ => veq C hp 30 t a b

/-! ### Arithmetic -/
def vint (op : BinOp) (k : IntKind) (x y : Int) : Option V := match op with
  | .add => some (.i k (k.wrap (x + y)))
  | .sub => some (.i k (k.wrap (x - y)))
  | .mul => some (.i k (k.wrap (x * y)))
  | .quo => match intEq y 0 with
    | true => none
    | false => some (.i k (k.wrap (x.tdiv y)))
  | .rem => match intEq y 0 with
    | true => none
    | false => some (.i k (x.tmod y))
  | .and => some (.i k (k.wrap (BitVec.ofInt k.bits x &&& BitVec.ofInt k.bits y).toNat))
  | .or => some (.i k (k.wrap (BitVec.ofInt k.bits x ||| BitVec.ofInt k.bits y).toNat))
  | .xor => some (.i k (k.wrap (BitVec.ofInt k.bits x ^^^ BitVec.ofInt k.bits y).toNat))
  | .andNot => some (.i k (k.wrap (BitVec.ofInt k.bits x &&& ~~~(BitVec.ofInt k.bits y)).toNat))
  | .eql => some (.b (intEq x y))
  | .neq => some (.b (!intEq x y))
  | .lss => some (.b (intLt x y))
  | .leq => some (.b (intLe x y))
  | .gtr => some (.b (intLt y x))
  | .geq => some (.b (intLe y x))
  | _ => none
def vshift (op : BinOp) (k : IntKind) (x y : Int) : Option V := (asNat y).bind fun n => match op with
  | .shl => some (.i k (k.wrap (x * 2 ^ min n k.bits)))
  | .shr => some (.i k (x.fdiv (2 ^ min n k.bits)))
  | _ => none
def vstr (op : BinOp) (x y : List UInt8) : Option V := match op with
  | .add => match Nat.ble (lenF x + lenF y) 1000000000 with
    | true => some (.s (appF x y))
    | false => none
  | .eql => some (.b (byEq x y))
  | .neq => some (.b (!byEq x y))
  | .lss => some (.b (byLt x y))
  | .leq => some (.b (byLt x y || byEq x y))
  | .gtr => some (.b (!(byLt x y || byEq x y)))
  | .geq => some (.b (!byLt x y))
  | _ => none
def vbin (C : Cx) (hp : Hp) (op : BinOp) (t : TypeId) (x y : Operand) (a b : V) : Option V := match a, b with
  | .i k p, .i k' q => match op with
    | .shl => vshift .shl k p q
    | .shr => vshift .shr k p q
    | op => match kindEq k k' with
      | true => vint op k p q
      | false => none
  | .s p, .s q => vstr op p q
  | a, b => match op with
    | .eql => (veqOp C hp t x y a b).bind fun e => some (.b e)
    | .neq => (veqOp C hp t x y a b).bind fun e => some (.b (!e))
    | _ => none
def vun (op : UnOp) (x : V) : Option V := match op, x with
  | .neg, .i k n => some (.i k (k.wrap (0 - n)))
  | .xor, .i k n => vint .xor k (match k.signed with | true => -1 | false => k.max) n
  | .not, .b a => some (.b (!a))
  | _, _ => none
def byV (n : UInt8) : V := .i .u8 (.ofNat n.toNat)
def asBy : V → Option UInt8
  | .i .u8 (.ofNat n) => some (UInt8.ofNat n)
  | _ => none
def vconv (C : Cx) (hp : Hp) (s t : TypeId) (x : V) : Option (V × Hp) :=
  (tiV C s).bind fun si => (tiV C t).bind fun ti => match si.d, ti.d, x with
    | _, .int k, .i _ n => some (.i k (k.wrap n), hp)
    | _, .str, .s a => some (.s a, hp)
    | .str, .sl e, .s a => (tiV C e).bind fun ei => match ei.d with
      | .int .u8 => (hp.new (.cells (a.map byV) e (some 1) true)).bind fun r => some (.sl (some (r.1, 0)) (lenF a) (lenF a) true, r.2)
      | _ => none
    | .sl _, .sl e, .sl (some (h, o)) l c op => match Nat.beq s t with
      | true => (tiV C e).bind fun ei => match ei.d with
        | .int .u8 => match hp.getW h with
          | some (.cells cs t' op' _) => some (x, hp.put h (some (.cells cs t' op' true)))
          | _ => none
        | _ => none
      | false => none
    | .ptr e, .usf, .p (some (h, o)) => (tiV C e).bind fun ei => match Nat.beq ei.size 0 with
      | true => none
      | false => (cellsAt hp h).bind fun cs => (getL cs o).bind fun _ => some (x, hp)
    | .sl e, .str, .sl a l _ _ => (tiV C e).bind fun ei => match ei.d with
      | .int .u8 => match a with
        | none => some (.s [], hp)
        | some (h, o) => (loadV hp h o l).bind fun cs => (mapO asBy cs).bind fun bs => some (.s bs, hp)
      | _ => none
    | _, _, _ => none

/-! ### Builtins -/
def lenV (hp : Hp) : TD → V → Option Nat
  | .str, .s a => some (lenF a)
  | .sl _, .sl _ n _ _ => some n
  | .arr n _, _ => some n
  | .map _ _, .m none => some 0
  | .map _ _, .m (some r) => match hp.get r with
    | some (.map es _) => some (lenF es)
    | _ => none
  | _, _ => none
/-- The cells of so many elements of a slice, or a string's bytes. -/
def srcV (hp : Hp) (sz : Nat) : V → Option (Nat × List V)
  | .sl none n _ _ => match n with
    | 0 => some (0, [])
    | _ => none
  | .sl (some (h, o)) n _ _ => (loadV hp h o (n * sz)).bind fun cs => some (n, cs)
  | .s a => match Nat.beq sz 1 with
    | true => some (lenF a, a.map byV)
    | false => none
  | _ => none
def vappend (C : Cx) (hp : Hp) (tS : TypeId) (s x : V) : Option (V × Hp) :=
  (tiV C tS).bind fun si => match si.d, s with
    | .sl e, .sl base l c op => (tiV C e).bind fun ei => (srcV hp ei.size x).bind fun nx =>
      let n := nx.1
      let new := nx.2
      match Nat.ble (l + n) c with
      | true => match base with
        | none => match n with
          | 0 => some (.sl none (l + n) c op, hp)
          | _ => none
        | some (h, o) => (storeV hp h (o + l * ei.size) new).bind fun hp' => some (.sl base (l + n) c op, hp')
      | false => match Nat.ble (l + n) 1073741824 && Nat.ble ei.bytes 100000 && Nat.ble 1 ei.size && ei.z.isSome with
        | false => none
        | true => match base, op with
          | none, _ => match l with
            | 0 => (hp.new (.cells new e (some ei.size) false)).bind fun r => some (.sl (some (r.1, 0)) (0 + n) (0 + n) true, r.2)
            | _ => none
          | some (h, o), false => (loadV hp h o (l * ei.size)).bind fun old =>
            (hp.new (.cells (appF old new) e (some ei.size) false)).bind fun r => some (.sl (some (r.1, 0)) (l + n) (l + n) true, r.2)
          | some (h, o), true => match hp.getW h with
            | some (.cells cs t (some sz) mk) => match Nat.beq (o + c * ei.size) (lenF cs) && Nat.beq t e && Nat.beq sz ei.size with
              | true => (cutL cs o (l * ei.size)).bind fun old =>
                ((hp.put h none).new (.cells (appF old new) e (some ei.size) mk)).bind fun r => some (.sl (some (r.1, 0)) (l + n) (l + n) true, r.2)
              | false => none
            | _ => none
    | _, _ => none
def vcopy (C : Cx) (hp : Hp) (tD : TypeId) (d x : V) : Option (V × Hp) :=
  (tiV C tD).bind fun di => match di.d, d with
    | .sl e, .sl base l _ _ => (tiV C e).bind fun ei => (srcV hp ei.size x).bind fun nx =>
      let n := min nx.1 l
      match base with
      | none => some (.i .i64 n, hp)
      | some (h, o) => (storeV hp h o (takeF nx.2 (n * ei.size))).bind fun hp' => some (.i .i64 n, hp')
    | _, _ => none
def vmm (mx : Bool) (x y : V) : Option V := match x, y with
  | .i k a, .i _ b => some (.i k (match mx with
    | true => (match intLt a b with | true => b | false => a)
    | false => (match intLt b a with | true => b | false => a)))
  | _, _ => none
def foldO {α β : Type} (f : β → α → Option β) : List α → β → Option β
  | [], b => some b
  | x :: r, b => (f b x).bind fun b => foldO f r b

/-! ### Maps -/
def findV (f : V → V → Option Bool) (k : V) : List (V × V × Nat) → Nat → Option (Option (Nat × V))
  | [], _ => some none
  | e :: es, i => (f k e.1).bind fun q => match q with
    | true => some (some (i, e.2.1))
    | false => findV f k es (i + 1)
/-- Keys that may be looked for: numbers, strings, rows of bytes. -/
def keyFit (C : Cx) (kt : TypeId) (k : V) : Bool := match tiV C kt with
  | some ti => match ti.d, k with
    | .int _, _ => true
    | .str, _ => true
    | .arr n e, .agg cs => match tiV C e with
      | some ei => match ei.d with
        | .int _ => Nat.beq ei.size 1 && Nat.beq (lenF cs) n
        | _ => false
      | none => false
    | _, _ => false
  | none => false
/-- '==' of keys that may be looked for. -/
def mapEq (C : Cx) (hp : Hp) (kt : TypeId) (x y : V) : Option Bool := match x, y with
  | .agg xs, .agg ys => (tiV C kt).bind fun ti => match ti.d with
    | .arr n _ => match Nat.beq (lenF xs) n && Nat.beq (lenF ys) n with
      | true => veq C hp 3 kt x y
      | false => none
    | _ => none
  | x, y => veq C hp 3 kt x y
def vlookup (C : Cx) (hp : Hp) (t : TypeId) (m k : V) (ok : Bool) : Option V :=
  (tiV C t).bind fun ti => match ti.d with
    | .map kt et => match keyFit C kt k with
      | true => (match m with
        | .m none => some []
        | .m (some r) => (match hp.get r with
          | some (.map es _) => some es
          | _ => none)
        | _ => none).bind fun es => (findV (mapEq C hp kt) k es 0).bind fun q => (match q with
          | some iv => some (iv.2, true)
          | none => (tiV C et).bind fun ei => ei.z.bind fun z => some (z, false)).bind fun r => match ok with
            | true => some (.tup [r.1, .b r.2])
            | false => some r.1
      | false => none
    | _ => none
def modL {α : Type} (f : α → α) : List α → Nat → List α
  | [], _ => []
  | x :: r, n => match n with
    | 0 => f x :: r
    | n + 1 => x :: modL f r n
def vmapup (C : Cx) (hp : Hp) (t : TypeId) (m k v : V) : Option Hp :=
  (tiV C t).bind fun ti => match ti.d with
    | .map kt _ => match keyFit C kt k, m with
      | true, .m (some r) => match hp.getW r with
        | some (.map es clock) => (findV (mapEq C hp kt) k es 0).bind fun q => match q with
          | some iv => some (hp.put r (some (.map (modL (fun e => (k, v, e.2.2)) es iv.1) clock)))
          | none => some (hp.put r (some (.map (es ++ [(k, v, clock)]) (clock + 1))))
        | _ => none
      | _, _ => none
    | _ => none
def vmapentry (C : Cx) (hp : Hp) (t : TypeId) (m k : V) : Option (V × Hp) :=
  (tiV C t).bind fun ti => match ti.d with
    | .map kt et => match keyFit C kt k, m with
      | true, .m (some r) => match hp.getW r with
        | some (.map es clock) => (findV (mapEq C hp kt) k es 0).bind fun q => match q with
          | some iv => (getL es iv.1).bind fun e => some (.tup [iv.2, .i .i64 (.ofNat e.2.2)], hp.put r (some (.map (modL (fun e => (k, e.2)) es iv.1) clock)))
          | none => (tiV C et).bind fun ei => ei.z.bind fun z => some (.tup [z, .i .i64 (.ofNat clock)], hp.put r (some (.map (es ++ [(k, z, clock)]) (clock + 1))))
        | _ => none
      | _, _ => none
    | _ => none
def putBorn (n : Nat) (v : V) : List (V × V × Nat) → Option (List (V × V × Nat))
  | [] => none
  | e :: r => match Nat.beq e.2.2 n with
    | true => some ((e.1, v, e.2.2) :: r)
    | false => (putBorn n v r).bind fun r => some (e :: r)
def ventryst (hp : Hp) (m st v : V) : Option Hp := match m with
  | .m (some r) => match hp.getW r with
    | some (.map es clock) => (natV st).bind fun n => (putBorn n v es).bind fun es => some (hp.put r (some (.map es clock)))
    | _ => none
  | _ => none
def eraseL {α : Type} : List α → Nat → List α
  | [], _ => []
  | x :: r, n => match n with
    | 0 => r
    | n + 1 => x :: eraseL r n
def vdelete (C : Cx) (hp : Hp) (t : TypeId) (m k : V) : Option Hp :=
  (tiV C t).bind fun ti => match ti.d with
    | .map kt _ => match keyFit C kt k, m with
      | true, .m none => some hp
      | true, .m (some r) => match hp.getW r with
        | some (.map es clock) => (findV (mapEq C hp kt) k es 0).bind fun q => match q with
          | some iv => some (hp.put r (some (.map (eraseL es iv.1) clock)))
          | none => some (hp.put r (some (.map es clock)))
        | _ => none
      | _, _ => none
    | _ => none
def memN (n : Nat) : List Nat → Bool
  | [] => false
  | x :: r => match Nat.beq x n with
    | true => true
    | false => memN n r
def vnext (hp : Hp) (it : V) : Option (V × Hp) := match it with
  | .p (some (r, 0)) => match hp.getW r with
    | some (.iter none _ _ _) => some (.tup [.b false], hp)
    | some (.iter (some m) since seen last) => match hp.get m with
      | some (.map es clock) => match !seen.isEmpty && !es.isEmpty && es.all (fun e => Nat.ble last e.2.2) with
        | true => none
        | false => match es.filter (fun e => !memN e.2.2 seen) with
          | [] => some (.tup [.b false], hp)
          | [e] => match Nat.blt e.2.2 since with
            | true => some (.tup [.b true, e.1, e.2.1], hp.put r (some (.iter (some m) since (seen ++ [e.2.2]) clock)))
            | false => none
          | _ => none
      | _ => none
    | _ => none
  | _ => none

def lastN : List Nat → Option Nat
  | [] => none
  | x :: r => match r with
    | [] => some x
    | _ => lastN r
def findBorn (n : Nat) : List (V × V × Nat) → Option (V × V × Nat)
  | [] => none
  | e :: r => match Nat.beq e.2.2 n with
    | true => some e
    | false => findBorn n r
/-- What the last step handed out, as it is now. -/
def ventry (hp : Hp) (it : V) : Option V := match it with
  | .p (some (r, 0)) => match hp.get r with
    | some (.iter (some m) _ seen last) => (lastN seen).bind fun stamp => match hp.get m with
      | some (.map es clock) => match Nat.beq clock last with
        | true => (findBorn stamp es).bind fun e => some (.tup [e.1, e.2.1])
        | false => none
      | _ => none
    | _ => none
  | _ => none

/-! ### Slices -/
def leO : Nat → Nat → Option Unit := fun a b => match Nat.ble a b with
  | true => some ()
  | false => none
def boundV (fr : Tr V) (x : Option Operand) (dflt : Nat) : Option Nat := match x with
  | none => some dflt
  | some x => (evV fr x).bind natV
/-- Where a cut begins: one without room keeps its place. -/
def offV (m l o s : Nat) : Nat := match Nat.beq m l with
  | true => o
  | false => o + l * s
def vslice (C : Cx) (hp : Hp) (fr : Tr V) (t : TypeId) (x : V) (lo hi mx : Option Operand) : Option V :=
  (tiV C t).bind fun ti => (boundV fr lo 0).bind fun l => match ti.d, x with
    | .str, .s a => match mx with
      | none => (boundV fr hi (lenF a)).bind fun h => (leO h (lenF a)).bind fun _ => (leO l h).bind fun _ => some (.s (takeF (dropF a l) (h - l)))
      | some _ => none
    | .sl e, .sl a len c op => (tiV C e).bind fun ei => (boundV fr hi len).bind fun h => match mx with
      | none => (leO h c).bind fun _ => (leO l h).bind fun _ => match a with
        | none => some (.sl none (h - l) (c - l) op)
        | some (b, o) => match op with
          | false => some (.sl (some (b, offV c l o ei.size)) (h - l) (c - l) false)
          | true => match Nat.beq l 0, Nat.beq c l with
            | true, _ => some (.sl (some (b, o)) h c true)
            | false, false => some (.sl (some (b, o + l * ei.size)) (h - l) (c - l) true)
            | false, true => none
      | some m => (boundV fr (some m) 0).bind fun m => match hi with
        | none => none
        | some _ => (leO m c).bind fun _ => (leO h m).bind fun _ => (leO l h).bind fun _ => match a with
          | none => some (.sl none (h - l) (m - l) false)
          | some (b, o) => some (.sl (some (b, offV m l o ei.size)) (h - l) (m - l) false)
    | .arr n e, .p (some (b, o)) => match mx with
      | none => (tiV C e).bind fun ei => (boundV fr hi n).bind fun h => (leO h n).bind fun _ => (leO l h).bind fun _ =>
        some (.sl (some (b, offV n l o ei.size)) (h - l) (n - l) false)
      | some _ => none
    | _, _ => none

/-- A cut at the very end of what is told of a slice with open room: nothing; where it stands is not told. -/
def vslEnd (C : Cx) (hp : Hp) (fr : Tr V) (t : TypeId) (x : V) (lo hi mx : Option Operand) : Option (V × Hp) :=
  (tiV C t).bind fun ti => (boundV fr lo 0).bind fun l => match ti.d, x, mx with
    | .sl e, .sl (some _) len c true, none => (tiV C e).bind fun _ => (boundV fr hi len).bind fun h => match Nat.beq l c && Nat.beq h c && Nat.blt 0 l && Nat.beq (Nat.mod hp.nx 2) 0 && Nat.ble gMax hp.nx with
      | true => some (.sl (some (hp.nx, 0)) 0 0 true, ⟨hp.t, hp.nx + 2, hp.log⟩)
      | false => none
    | _, _, _ => none

/-! ### Values built -/
def fillV (fr : Tr V) (place : Nat → Option (Nat × Nat)) : List V → List (Nat × Operand) → Option (List V)
  | cs, [] => some cs
  | cs, (i, x) :: r => (evV fr x).bind fun v => v.cells.bind fun vc => (place i).bind fun p => match Nat.beq (lenF vc) p.2 && geL cs (p.1 + p.2) with
    | true => fillV fr place (putAt p.1 cs vc) r
    | false => none
def vbuild (C : Cx) (fr : Tr V) (t : TypeId) (parts : List (Nat × Operand)) : Option V :=
  (tiV C t).bind fun ti => ti.z.bind fun z => match ti.d, z with
    | .st fs, .agg cs => (mapO (fun f => (tiV C f.2).bind fun fi => some (f.1, fi.size)) fs).bind fun ps => (fillV fr (fun i => getL ps i) cs parts).bind fun l => some (.agg l)
    | .arr _ e, .agg cs => (tiV C e).bind fun ei => (fillV fr (fun i => some (i * ei.size, ei.size)) cs parts).bind fun l => some (.agg l)
    | _, _ => none
def vbuildS (C : Cx) (hp : Hp) (fr : Tr V) (t : TypeId) (len : Nat) (parts : List (Nat × Operand)) : Option (V × Hp) :=
  (tiV C t).bind fun ti => match ti.d with
    | .sl e => (tiV C e).bind fun ei => ei.z.bind fun z => z.cells.bind fun zc => match Nat.ble (len * ei.size) 16777216 with
      | true => (fillV fr (fun i => some (i * ei.size, ei.size)) (repL zc len) parts).bind fun cs =>
        (hp.new (.cells cs e none false)).bind fun r => some (.sl (some (r.1, 0)) len len false, r.2)
      | false => none
    | _ => none
def vmakeS (C : Cx) (hp : Hp) (t : TypeId) (l c : Nat) : Option (V × Hp) :=
  (tiV C t).bind fun ti => match ti.d with
    | .sl e => (tiV C e).bind fun ei => ei.z.bind fun z => z.cells.bind fun zc => match Nat.ble l c && Nat.ble (c * ei.size) 16777216 && Nat.ble c 16777216 && Nat.ble ei.bytes 100000 with
      | true => (hp.new (.cells (repL zc c) e none false)).bind fun r => some (.sl (some (r.1, 0)) l c false, r.2)
      | false => none
    | _ => none
/-- The element of an array or slice. -/
def vindexA (C : Cx) (t : TypeId) (x i : V) : Option V :=
  (tiV C t).bind fun ti => (natV i).bind fun n => match ti.d, x with
    | .arr len e, .p (some (b, o)) => (tiV C e).bind fun ei => match Nat.blt n len with
      | true => some (.p (some (b, o + n * ei.size)))
      | false => none
    | .sl e, .sl (some (b, o)) len _ _ => (tiV C e).bind fun ei => match Nat.blt n len with
      | true => some (.p (some (b, o + n * ei.size)))
      | false => none
    | _, _ => none
def vindex (C : Cx) (t : TypeId) (x i : V) : Option V :=
  (tiV C t).bind fun ti => (natV i).bind fun n => match ti.d, x with
    | .arr len e, .agg cs => (tiV C e).bind fun ei => match Nat.blt n len with
      | true => partV C e cs (n * ei.size)
      | false => none
    | .str, .s a => (getL a n).bind fun c => some (byV c)
    | _, _ => none

/-! ### Operations -/
inductive VR where
  | v (x : V)
  | pan (x : V)
abbrev CallF := Nat → List V → Hp → Option (VR × Hp)
def undV : V := .tup []
def ret1 (hp : Hp) (v : Option V) : Option (VR × Hp) := v.bind fun v => some (.v v, hp)
def ret2 (r : Option (V × Hp)) : Option (VR × Hp) := r.bind fun r => some (.v r.1, r.2)
def ret0 (r : Option Hp) : Option (VR × Hp) := r.bind fun hp => some (.v undV, hp)
/-! Operations that look at no memory, one by one. -/
def pPick (fr : Tr V) (c a b : Operand) : Option V := (evV fr c).bind fun q => match q with
  | .b true => evV fr a
  | .b false => evV fr b
  | _ => none
def pNil (fr : Tr V) (x : Operand) : Option V := (evV fr x).bind fun v => match v with
  | .p (some _) => some v
  | .ifc _ _ => some v
  | .fn _ _ _ => some v
  | _ => none
def pUn (fr : Tr V) (op : UnOp) (x : Operand) : Option V := (evV fr x).bind fun v => vun op v
def pArr (C : Cx) (fr : Tr V) (t : TypeId) (x : Operand) : Option V := (tiV C t).bind fun ti => (evV fr x).bind fun v => match ti.d, v with
  | .arr n _, .sl a len _ _ => match Nat.ble n len with
    | true => some (.p a)
    | false => none
  | _, _ => none
def pMkIf (C : Cx) (fr : Tr V) (t : TypeId) (x : Operand) : Option V := (tiV C t).bind fun ti => match ti.d with
  | .ifc => none
  | _ => (evV fr x).bind fun v => some (.ifc t v)
def pMkFn (fr : Tr V) (fn : Fn) (first cap : Array Operand) : Option V := match fn with
  | .func f => (mapO (evV fr) first.toList).bind fun a => (mapO (evV fr) cap.toList).bind fun b => some (.fn f a b)
  | _ => none
def pFa (C : Cx) (fr : Tr V) (t : TypeId) (x : Operand) (f : Nat) : Option V := (tiV C t).bind fun ti => match ti.d with
  | .st fs => (getL fs f).bind fun fo => (tiV C fo.2).bind fun fi => match Nat.beq fi.size 0 with
    | true => none
    | false => ((evV fr x).bind ptrV).bind fun a => some (.p (some (a.1, a.2 + fo.1)))
  | _ => none
def pFld (C : Cx) (fr : Tr V) (t : TypeId) (x : Operand) (f : Nat) : Option V := (tiV C t).bind fun ti => match ti.d with
  | .st fs => (getL fs f).bind fun fo => (evV fr x).bind fun v => match v with
    | .agg cs => partV C fo.2 cs fo.1
    | _ => none
  | _ => none
def pIa (C : Cx) (fr : Tr V) (t : TypeId) (x i : Operand) : Option V := (evV fr x).bind fun a => (evV fr i).bind fun n => vindexA C t a n
def pIx (C : Cx) (fr : Tr V) (t : TypeId) (x i : Operand) : Option V := (evV fr x).bind fun a => (evV fr i).bind fun n => vindex C t a n
def pExt (fr : Tr V) (x : Operand) (i : Nat) : Option V := (evV fr x).bind fun v => match v with
  | .tup vs => getL vs i
  | _ => none
def pTa (C : Cx) (fr : Tr V) (x : Operand) (t : TypeId) (ok : Bool) : Option V := (tiV C t).bind fun ti => match ti.d with
  | .ifc => none
  | _ => (evV fr x).bind fun v => match v with
    | .ifc u y => match Nat.beq u t, ok with
      | true, true => some (.tup [y, .b true])
      | true, false => some y
      | false, true => ti.z.bind fun z => some (.tup [z, .b false])
      | false, false => none
    | .ni => match ok with
      | true => ti.z.bind fun z => some (.tup [z, .b false])
      | false => none
    | _ => none
/-- An operation that looks at no memory. -/
def vpure (C : Cx) (fr : Tr V) : Op → Option V
  | .move x => evV fr x
  | .assign x => evV fr x
  | .pick c a b => pPick fr c a b
  | .build t parts => vbuild C fr t parts.toList
  | .nilCheck x => pNil fr x
  | .unOp op _ x => pUn fr op x
  | .sliceToArrayPointer t x => pArr C fr t x
  | .makeInterface t x => pMkIf C fr t x
  | .makeFunc fn first cap => pMkFn fr fn first cap
  | .fieldAddr t x f => pFa C fr t x f
  | .field t x f => pFld C fr t x f
  | .indexAddr t x i => pIa C fr t x i
  | .index t x i => pIx C fr t x i
  | .extract x i => pExt fr x i
  | .typeAssert x _ t ok => pTa C fr x t ok
  | _ => none
def isPure : Op → Bool
  | .move _ | .assign _ | .pick .. | .build .. | .nilCheck _ | .unOp .. | .sliceToArrayPointer .. | .makeInterface .. | .makeFunc .. | .fieldAddr .. | .field .. | .indexAddr .. | .index .. | .extract .. | .typeAssert .. => true
  | _ => false
/-- What may be appended: a slice or a string. -/
def srcT (C : Cx) (t : TypeId) : Bool := match tiV C t with
  | some ti => match ti.d with
    | .sl _ => true
    | .str => true
    | _ => false
  | none => false
def vbuiltin (C : Cx) (hp : Hp) (b : Builtin) (ts : List TypeId) (args : List V) : Option (VR × Hp) := match b, ts, args with
  | .append, [tS, tX], [s, x] => match srcT C tX with
    | true => ret2 (vappend C hp tS s x)
    | false => none
  | .len, t :: _, [x] => (tiV C t).bind fun ti => ret1 hp ((lenV hp ti.d x).bind fun n => some (.i .i64 n))
  | .copy, t :: _, [d, x] => ret2 (vcopy C hp t d x)
  | .delete, t :: _, [m, k] => (vdelete C hp t m k).bind fun hp' => some (.v (.tup []), hp')
  | .max, _, x :: r => ret1 hp (foldO (vmm true) r x)
  | .min, _, x :: r => ret1 hp (foldO (vmm false) r x)
  | _, _, _ => none
def oAlloc (C : Cx) (hp : Hp) (t : TypeId) : Option (VR × Hp) := (tiV C t).bind fun ti => ti.z.bind fun z => z.cells.bind fun zc => ret2 ((hp.new (.cells zc t none false)).bind fun r => some (.p (some (r.1, 0)), r.2))
def oBox (fr : Tr V) (hp : Hp) (t : TypeId) (x : Operand) : Option (VR × Hp) := (evV fr x).bind fun v => v.cells.bind fun vc => ret2 ((hp.new (.cells vc t none false)).bind fun r => some (.p (some (r.1, 0)), r.2))
def oLoad (C : Cx) (fr : Tr V) (hp : Hp) (t : TypeId) (x : Operand) : Option (VR × Hp) := ((evV fr x).bind ptrV).bind fun a => (cellsAt hp a.1).bind fun cs => ret1 hp (partV C t cs a.2)
def oStore (C : Cx) (fr : Tr V) (hp : Hp) (t : TypeId) (x y : Operand) : Option (VR × Hp) := ((evV fr x).bind ptrV).bind fun a => (evV fr y).bind fun v => v.cells.bind fun vc => (tiV C t).bind fun ti => match Nat.beq (lenF vc) ti.size with
  | true => ret0 (storeV hp a.1 a.2 vc)
  | false => none
def oBin (C : Cx) (fr : Tr V) (hp : Hp) (op : BinOp) (t : TypeId) (x y : Operand) : Option (VR × Hp) := (evV fr x).bind fun a => (evV fr y).bind fun b => ret1 hp (vbin C hp op t x y a b)
def oConv (C : Cx) (fr : Tr V) (hp : Hp) (s t : TypeId) (x : Operand) : Option (VR × Hp) := (evV fr x).bind fun v => ret2 (vconv C hp s t v)
def oMkMap (C : Cx) (fr : Tr V) (hp : Hp) (t : TypeId) (r : Option Operand) : Option (VR × Hp) := (match r with
  | none => some ()
  | some x => (evV fr x).bind fun v => (intV? v).bind fun _ => (tiV C t).bind fun ti => match ti.d with
    | .map _ _ => some ()
    | _ => none).bind fun _ => ret2 ((hp.new (.map [] 0)).bind fun r => some (.m (some r.1), r.2))
def oMkSl (C : Cx) (fr : Tr V) (hp : Hp) (t : TypeId) (l c : Operand) : Option (VR × Hp) := ((evV fr l).bind natV).bind fun l => ((evV fr c).bind natV).bind fun c => ret2 (vmakeS C hp t l c)
def oSlice (C : Cx) (fr : Tr V) (hp : Hp) (t : TypeId) (x : Operand) (lo hi mx : Option Operand) : Option (VR × Hp) := (evV fr x).bind fun v => match vslice C hp fr t v lo hi mx with
  | some y => some (.v y, hp)
  | none => ret2 (vslEnd C hp fr t v lo hi mx)
def oLookup (C : Cx) (fr : Tr V) (hp : Hp) (t : TypeId) (x k : Operand) (ok : Bool) : Option (VR × Hp) := (evV fr x).bind fun m => (evV fr k).bind fun k => ret1 hp (vlookup C hp t m k ok)
def oMapup (C : Cx) (fr : Tr V) (hp : Hp) (t : TypeId) (m k x : Operand) : Option (VR × Hp) := (evV fr m).bind fun m => (evV fr k).bind fun k => (evV fr x).bind fun x => ret0 (vmapup C hp t m k x)
def oEntry (C : Cx) (fr : Tr V) (hp : Hp) (t : TypeId) (m k : Operand) : Option (VR × Hp) := (evV fr m).bind fun m => (evV fr k).bind fun k => ret2 (vmapentry C hp t m k)
def oEntrySt (fr : Tr V) (hp : Hp) (m st x : Operand) : Option (VR × Hp) := (evV fr m).bind fun m => (evV fr st).bind fun st => (evV fr x).bind fun x => ret0 (ventryst hp m st x)
def oRange (C : Cx) (fr : Tr V) (hp : Hp) (t : TypeId) (x : Operand) : Option (VR × Hp) := (tiV C t).bind fun ti => (evV fr x).bind fun v => match ti.d, v with
  | .map _ _, .m none => ret2 ((hp.new (.iter none 0 [] 0)).bind fun r => some (.p (some (r.1, 0)), r.2))
  | .map _ _, .m (some m) => match hp.get m with
    | some (.map _ clock) => ret2 ((hp.new (.iter (some m) clock [] clock)).bind fun r => some (.p (some (r.1, 0)), r.2))
    | _ => none
  | _, _ => none
def oNext (fr : Tr V) (hp : Hp) (it : Operand) (isStr : Bool) : Option (VR × Hp) := match isStr with
  | true => none
  | false => (evV fr it).bind fun v => ret2 (vnext hp v)
def oIter (fr : Tr V) (hp : Hp) (it : Operand) : Option (VR × Hp) := (evV fr it).bind fun v => ret1 hp (ventry hp v)
def oPanic (fr : Tr V) (hp : Hp) (x : Operand) : Option (VR × Hp) := (evV fr x).bind fun v => match v with
  | .ifc _ _ => some (.pan v, hp)
  | _ => none
def oCall (C : Cx) (call : CallF) (fr : Tr V) (hp : Hp) (c : Call) : Option (VR × Hp) := match c.callee with
  | .builtin b => (mapO (evV fr) c.args.toList).bind fun args => vbuiltin C hp b c.argTypes.toList args
  | .value f => (evV fr f).bind fun f => (mapO (evV fr) c.args.toList).bind fun args => match f with
    | .fn f first cap => call f (appF first (appF args cap)) hp
    | _ => none
  | .invoke r name => (evV fr r).bind fun r => (mapO (evV fr) c.args.toList).bind fun args => match r with
    | .ifc t v => (C.M t name).bind fun f => call f (v :: args) hp
    | _ => none
def vop (C : Cx) (call : CallF) (fr : Tr V) (hp : Hp) (o : Op) : Option (VR × Hp) := match o with
  | .move x => ret1 hp (evV fr x)
  | .assign x => ret1 hp (evV fr x)
  | .pick c a b => ret1 hp (pPick fr c a b)
  | .build t parts => ret1 hp (vbuild C fr t parts.toList)
  | .nilCheck x => ret1 hp (pNil fr x)
  | .unOp op _ x => ret1 hp (pUn fr op x)
  | .sliceToArrayPointer t x => ret1 hp (pArr C fr t x)
  | .makeInterface t x => ret1 hp (pMkIf C fr t x)
  | .makeFunc fn first cap => ret1 hp (pMkFn fr fn first cap)
  | .fieldAddr t x f => ret1 hp (pFa C fr t x f)
  | .field t x f => ret1 hp (pFld C fr t x f)
  | .indexAddr t x i => ret1 hp (pIa C fr t x i)
  | .index t x i => ret1 hp (pIx C fr t x i)
  | .extract x i => ret1 hp (pExt fr x i)
  | .typeAssert x _ t ok => ret1 hp (pTa C fr x t ok)
  | .alloc t => oAlloc C hp t
  | .box t x => oBox fr hp t x
  | .buildSlice t len parts => ret2 (vbuildS C hp fr t len parts.toList)
  | .load t x => oLoad C fr hp t x
  | .store t x y => oStore C fr hp t x y
  | .binOp op t x y _ => oBin C fr hp op t x y
  | .convert s t x => oConv C fr hp s t x
  | .makeMap t r => oMkMap C fr hp t r
  | .makeSlice t l c => oMkSl C fr hp t l c
  | .slice t x lo hi mx => oSlice C fr hp t x lo hi mx
  | .lookup t x k ok => oLookup C fr hp t x k ok
  | .mapUpdate t m k x => oMapup C fr hp t m k x
  | .insert t m k x => oMapup C fr hp t m k x
  | .mapEntry t m k => oEntry C fr hp t m k
  | .entryStore _ m st x => oEntrySt fr hp m st x
  | .range t x => oRange C fr hp t x
  | .next it isStr => oNext fr hp it isStr
  | .entry it => oIter fr hp it
  | .panic x => oPanic fr hp x
  | .call c => oCall C call fr hp c
  | _ => none

/-! ### Regions -/
structure Sv where
  fr : Tr V
  df : List (Nat × List V)
  hp : Hp
  n : Nat
/-- Whether an operation is carried out. -/
def wantV (ops : List Oper) (fr : Tr V) (o : Oper) : Option Bool := match o.guard with
  | none => some true
  | some (j, t) => (getL ops j).bind fun oj => oj.dst.bind fun d => (fr.get d).bind fun v => match v with
    | .b x => some (x == t)
    | .tup [] => some false
    | _ => none
def setD (n : Nat) (fr : Tr V) (d : Option Tmp) (v : V) : Option (Tr V) := match d with
  | none => some fr
  | some d => match Nat.blt d n with
    | true => some (fr.set d (some v))
    | false => none
/-- A call that is deferred: its function, and what it is handed. -/
def vdefer (s : Sv) (c : Call) : Option (Nat × List V) := match c.callee with
  | .value f => (evV s.fr f).bind fun f => (mapO (evV s.fr) c.args.toList).bind fun args => match f with
    | .fn f first cap => some (f, appF first (appF args cap))
    | _ => none
  | _ => none
def vlist (C : Cx) (call : CallF) (ops : List Oper) : List Oper → Sv → Option (Option V × Sv)
  | [], s => some (none, s)
  | o :: r, s => (wantV ops s.fr o).bind fun w => match w with
    | false => (setD s.n s.fr o.dst undV).bind fun fr => vlist C call ops r ⟨fr, s.df, s.hp, s.n⟩
    | true => match o.op with
      | .defer c => (vdefer s c).bind fun d => (setD s.n s.fr o.dst undV).bind fun fr => vlist C call ops r ⟨fr, d :: s.df, s.hp, s.n⟩
      | op => (vop C call s.fr s.hp op).bind fun q => match q.1 with
        | .v x => (setD s.n s.fr o.dst x).bind fun fr => vlist C call ops r ⟨fr, s.df, q.2, s.n⟩
        | .pan x => some (some x, ⟨s.fr, s.df, q.2, s.n⟩)
/-! Regions that draw. -/
/-- A mask of the operations that are ahead of one. -/
def maskOf (pres : Tr Nat) (i : Nat) : Nat := match pres.get i with
  | some m => m
  | none => 0
def preMask (pres : Tr Nat) : List Edge → Nat → Nat
  | [], m => m
  | e :: r, m => match Region.binds .any e with
    | true => preMask pres r (m ||| (1 <<< e.on) ||| maskOf pres e.on)
    | false => preMask pres r m
def preAll : List Oper → Nat → Tr Nat → Tr Nat
  | [], _, acc => acc
  | o :: r, i, acc => preAll r (i + 1) (acc.set i (some (preMask acc o.after.toList 0)))
def bitOf (m i : Nat) : Bool := Nat.beq (Nat.mod (m >>> i) 2) 1
/-- All of the first mask in the second. -/
def maskLe (a b : Nat) : Bool := Nat.beq (a ||| b) b
def sameTmp : Option Tmp → Operand → Bool
  | some d, .tmp t => Nat.beq d t
  | _, _ => false
def sameDst : Option Tmp → Option Tmp → Bool
  | some d, some t => Nat.beq d t
  | _, _ => false
def anyL {α : Type} (f : α → Bool) : List α → Bool
  | [] => false
  | x :: r => match f x with
    | true => true
    | false => anyL f r
def allL {α : Type} (f : α → Bool) : List α → Bool
  | [] => true
  | x :: r => match f x with
    | true => allL f r
    | false => false
/-- The slot of an operation's guard. -/
def guardT (ops : List Oper) (o : Oper) : Option Tmp := match o.guard with
  | none => none
  | some (j, _) => (getL ops j).bind fun x => x.dst
/-- Two operations that touch one slot stand in an order. (i < j) -/
def apartB (ops : List Oper) (pres : Tr Nat) (i : Nat) (x : Oper) (j : Nat) (y : Oper) : Bool := match bitOf (maskOf pres j) i with
  | true => true
  | false => match sameDst x.dst y.dst || anyL (sameTmp x.dst) y.op.operands.toList || anyL (sameTmp y.dst) x.op.operands.toList || sameDst x.dst (guardT ops y) || sameDst y.dst (guardT ops x) with
    | true => false
    | false => true
def apartAll (ops : List Oper) (pres : Tr Nat) : List Oper → Nat → List (Nat × Oper) → Bool
  | [], _, _ => true
  | y :: r, j, done => match allL (fun x => apartB ops pres x.1 x.2 j y) done with
    | true => apartAll ops pres r (j + 1) ((j, y) :: done)
    | false => false
/-- A guard is ahead of what it guards; edges lead back. -/
def edgeB (pres : Tr Nat) (o : Oper) (i : Nat) : Bool := allL (fun e => match Region.binds .any e with | true => Nat.blt e.on i | false => true) o.after.toList
def guardB (pres : Tr Nat) (o : Oper) (i : Nat) : Bool := match o.guard with
  | none => true
  | some (j, _) => bitOf (maskOf pres i) j && Nat.blt j i
def plainB (o : Oper) : Bool := match o.op with
  | .select _ _ => false
  | .defer _ => false
  | _ => true
def edgesOk (pres : Tr Nat) : List Oper → Nat → Bool
  | [], _ => true
  | o :: r, i => match edgeB pres o i && guardB pres o i && plainB o && Nat.blt i 1000000 with
    | true => edgesOk pres r (i + 1)
    | false => false
structure Dn where
  ix : Nat
  log : List (Nat × Option VO)
def logSince (hp : Hp) : List Nat → List (Nat × Option VO)
  | [] => []
  | x :: r => (x, hp.get x) :: logSince hp r
def playLog (t : Tr VO) : List (Nat × Option VO) → Tr VO
  | [] => t
  | (x, o) :: r => (playLog t r).set x o
/-- What those of a mask have made. -/
def playDn (t : Tr VO) (m : Nat) : List Dn → Tr VO
  | [] => t
  | d :: r => match bitOf m d.ix with
    | true => playLog (playDn t m r) d.log
    | false => playDn t m r
/-- Without what those have made that stand in no order with it. -/
def dropLog (t : Tr VO) : List (Nat × Option VO) → Tr VO
  | [] => t
  | (x, _) :: r => (dropLog t r).set x none
def dropDn (t : Tr VO) (m : Nat) : List Dn → Tr VO
  | [] => t
  | d :: r => match bitOf m d.ix with
    | true => dropDn t m r
    | false => dropLog (dropDn t m r) d.log
/-- The memory that an operation may look at that stands in no order with some ahead of it. -/
def seenV (free : Bool) (t0 : Tr VO) (m : Nat) (dns : List Dn) : Tr VO := match free with
  | true => playDn t0 m dns
  | false => dropDn (playDn t0 m dns) m dns
def freshLog (nx : Nat) : List (Nat × Option VO) → Bool
  | [] => true
  | (x, _) :: r => match Nat.ble nx x with
    | true => freshLog nx r
    | false => false
def logOk (nx : Nat) : List (Nat × Option VO) → Bool
  | [] => true
  | (x, _) :: r => match Nat.blt x nx && !roB x with
    | true => logOk nx r
    | false => false
structure DSt where
  free : Bool
  dns : List Dn
  np : Nat
  fr : Tr V
  hp : Hp
  /-- What those have looked at that look at few objects: their numbers, the handles. -/
  rds : List (Nat × List Nat)
def isRd : Op → Bool
  | .load _ _ => true
  | .lookup _ _ _ _ => true
  | .binOp _ _ _ _ _ => true
  | .convert _ _ _ => true
  | .call c => match c.callee with
    | .builtin .len => true
    | _ => false
  | _ => false
/-- The handles that such an operation looks at. -/
def rdHs (fr : Tr V) : Op → List Nat
  | .load _ x => match (evV fr x).bind ptrV with
    | some a => [a.1]
    | none => []
  | .lookup _ x _ _ => match evV fr x with
    | some (.m (some r)) => [r]
    | _ => []
  | .convert _ _ x => match evV fr x with
    | some (.sl (some (h, _)) _ _ _) => [h]
    | _ => []
  | .call c => match c.args.toList with
    | [x] => match evV fr x with
      | some (.m (some r)) => [r]
      | _ => []
    | _ => []
  | _ => []
def subHp (t : Tr VO) : List Nat → Tr VO
  | [] => .lf
  | h :: r => match t.get h with
    | some o => (subHp t r).set h (some o)
    | none => subHp t r
def inLog (h : Nat) : List (Nat × Option VO) → Bool
  | [] => false
  | (x, _) :: r => match Nat.beq x h with
    | true => true
    | false => inLog h r
/-- Nothing that stands in no order has turned it. -/
def untouched (m h : Nat) : List Dn → Bool
  | [] => true
  | d :: r => match bitOf m d.ix || !inLog h d.log with
    | true => untouched m h r
    | false => false
def rdsOk (m : Nat) (log : List (Nat × Option VO)) : List (Nat × List Nat) → Bool
  | [] => true
  | p :: r => match bitOf m p.1 || allL (fun h => !inLog h log) p.2 with
    | true => rdsOk m log r
    | false => false
/-- An operation that looks at few objects alone. -/
def rdTry (C : Cx) (call : CallF) (hp : Hp) (fr : Tr V) (op : Op) (m : Nat) (dns : List Dn) : Option (V × List Nat) := match isRd op with
  | false => none
  | true => match allL (fun h => untouched m h dns) (rdHs fr op) with
    | false => none
    | true => (vop C call fr ⟨subHp hp.t (rdHs fr op), hp.nx, []⟩ op).bind fun q => match q.1, q.2.log, Nat.beq q.2.nx hp.nx with
      | .v v, [], true => some (v, rdHs fr op)
      | _, _, _ => none
/-- One operation of a region that draws, in their order. t0: the memory at the start; free: nothing old has been written; dns: what has been made; np: the mask of those that looked at memory. -/
def vd1 (C : Cx) (call : CallF) (n : Nat) (ops : List Oper) (pres : Tr Nat) (t0 : Tr VO) (o : Oper) (i : Nat) (d : DSt) : Option DSt := (wantV ops d.fr o).bind fun w => match w with
  | false => (setD n d.fr o.dst undV).bind fun fr => some ⟨d.free, d.dns, d.np, fr, d.hp, d.rds⟩
  | true => match isPure o.op with
    | true => (vpure C d.fr o.op).bind fun v => (setD n d.fr o.dst v).bind fun fr => some ⟨d.free, d.dns, d.np, fr, d.hp, d.rds⟩
    | false => match rdTry C call d.hp d.fr o.op (maskOf pres i) d.dns with
      | some vR => (setD n d.fr o.dst vR.1).bind fun fr => some ⟨d.free, d.dns, d.np, fr, d.hp, (i, vR.2) :: d.rds⟩
      | none => match maskLe d.np (maskOf pres i) with
        | true => (vop C call d.fr ⟨d.hp.t, d.hp.nx, []⟩ o.op).bind fun q => match q.1 with
          | .pan _ => none
          | .v v => match logOk q.2.nx (logSince q.2 q.2.log) && rdsOk (maskOf pres i) (logSince q.2 q.2.log) d.rds with
            | false => none
            | true => (setD n d.fr o.dst v).bind fun fr => some ⟨d.free && freshLog d.hp.nx (logSince q.2 q.2.log), ⟨i, logSince q.2 q.2.log⟩ :: d.dns, d.np ||| (1 <<< i), fr, ⟨q.2.t, q.2.nx, q.2.log ++ d.hp.log⟩, d.rds⟩
        | false => (vop C call d.fr ⟨seenV d.free t0 (maskOf pres i) d.dns, d.hp.nx, []⟩ o.op).bind fun q => match q.1 with
            | .pan _ => none
            | .v v => match logOk q.2.nx (logSince q.2 q.2.log) && freshLog d.hp.nx (logSince q.2 q.2.log) && rdsOk (maskOf pres i) (logSince q.2 q.2.log) d.rds with
              | false => none
              | true => (setD n d.fr o.dst v).bind fun fr => some ⟨d.free, ⟨i, logSince q.2 q.2.log⟩ :: d.dns, d.np ||| (1 <<< i), fr, ⟨playLog d.hp.t (logSince q.2 q.2.log), q.2.nx, q.2.log ++ d.hp.log⟩, d.rds⟩
def vdraw (C : Cx) (call : CallF) (n : Nat) (ops : List Oper) (pres : Tr Nat) (t0 : Tr VO) : List Oper → Nat → DSt → Option DSt
  | [], _, d => some d
  | o :: r, i, d => (vd1 C call n ops pres t0 o i d).bind fun d => vdraw C call n ops pres t0 r (i + 1) d

/-! ### Code -/
inductive Ex where
  | norm
  | exit (id : Nat)
  | ret
  | pan (x : V)
def vcode (C : Cx) (call : CallF) : Nat → Code → Sv → Option (Ex × Sv)
  | 0, _, _ => none
  | n + 1, c, s => match c with
    | .skip => some (.norm, s)
    | .label _ => some (.norm, s)
    | .ret => some (.ret, s)
    | .exit id => some (.exit id, s)
    | .seq a b => (vcode C call n a s).bind fun q => match q.1 with
      | .norm => vcode C call n b q.2
      | e => some (e, q.2)
    | .cond c a b => (evV s.fr c).bind fun v => match v with
      | .b true => vcode C call n a s
      | .b false => vcode C call n b s
      | _ => none
    | .block id c => (vcode C call n c s).bind fun q => match q.1 with
      | .exit j => match Nat.beq j id with
        | true => some (.norm, q.2)
        | false => some (.exit j, q.2)
      | e => some (e, q.2)
    | .loop c => (vcode C call n c s).bind fun q => match q.1 with
      | .norm => vcode C call n (.loop c) q.2
      | e => some (e, q.2)
    | .scope c => vcode C call n c s
    | .region _ ops draw => match draw with
      | false => (vlist C call ops.toList ops.toList s).bind fun q => match q.1 with
        | none => some (.norm, q.2)
        | some x => some (.pan x, q.2)
      | true => let pres := preAll ops.toList 0 .lf
        match apartAll ops.toList pres ops.toList 0 [] && edgesOk pres ops.toList 0 with
        | true => (vdraw C call s.n ops.toList pres s.hp.t ops.toList 0 ⟨true, [], 0, s.fr, s.hp, []⟩).bind fun q => some (.norm, ⟨q.fr, s.df, q.hp, s.n⟩)
        | false => none
    | _ => none

/-! ### Deferred functions -/
/-- How a frame leaves: with its results, or with a panic (recovered, or not). -/
inductive FM where
  | ret
  | pan (x : V) (recd : Bool)
def drec : FM → V × FM
  | .pan x false => (x, .pan x true)
  | u => (.ni, u)
def settleV : FM → FM
  | .pan _ true => .ret
  | u => u
def isRec : Op → Bool
  | .call c => match c.callee with
    | .builtin b => match b with
      | .recover => true
      | _ => false
    | _ => false
  | _ => false
def vdlist (C : Cx) (call : CallF) (ops : List Oper) : List Oper → Sv → FM → Option (Option V × Sv × FM)
  | [], s, u => some (none, s, u)
  | o :: r, s, u => (wantV ops s.fr o).bind fun w => match w with
    | false => (setD s.n s.fr o.dst undV).bind fun fr => vdlist C call ops r ⟨fr, s.df, s.hp, s.n⟩ u
    | true => match isRec o.op with
      | true => (setD s.n s.fr o.dst (drec u).1).bind fun fr => vdlist C call ops r ⟨fr, s.df, s.hp, s.n⟩ (drec u).2
      | false => (vop C call s.fr s.hp o.op).bind fun q => match q.1 with
        | .v x => (setD s.n s.fr o.dst x).bind fun fr => vdlist C call ops r ⟨fr, s.df, q.2, s.n⟩ u
        | .pan x => some (some x, ⟨s.fr, s.df, q.2, s.n⟩, u)
def vdcode (C : Cx) (call : CallF) : Nat → Code → Sv → FM → Option (Ex × Sv × FM)
  | 0, _, _, _ => none
  | n + 1, c, s, u => match c with
    | .seq a b => (vdcode C call n a s u).bind fun q => match q.1 with
      | .norm => vdcode C call n b q.2.1 q.2.2
      | e => some (e, q.2)
    | .cond c a b => (evV s.fr c).bind fun v => match v with
      | .b true => vdcode C call n a s u
      | .b false => vdcode C call n b s u
      | _ => none
    | .block id c => (vdcode C call n c s u).bind fun q => match q.1 with
      | .exit j => match Nat.beq j id with
        | true => some (.norm, q.2)
        | false => some (.exit j, q.2)
      | e => some (e, q.2)
    | .region id ops draw => match draw with
      | false => (vdlist C call ops.toList ops.toList s u).bind fun q => match q.1 with
        | none => some (.norm, q.2)
        | some x => some (.pan x, q.2)
      | true => (vcode C call n (.region id ops true) s).bind fun q => some (q.1, q.2, u)
    | c => (vcode C call n c s).bind fun q => some (q.1, q.2, u)

/-! ### Calls -/
def argsV : Nat → List V → Tr V → Tr V
  | _, [], t => t
  | i, v :: r, t => argsV (i + 1) r (t.set i (some v))
def resV (C : Cx) (fr : Tr V) (hp : Hp) : List ResultVar → Option (List V)
  | [] => some []
  | .tmp t :: r => (fr.get t).bind fun v => (resV C fr hp r).bind fun vs => some (v :: vs)
  | .cell a t :: r => ((fr.get a).bind ptrV).bind fun a => (cellsAt hp a.1).bind fun cs => (partV C t cs a.2).bind fun v => (resV C fr hp r).bind fun vs => some (v :: vs)
def tupV : List V → V
  | [v] => v
  | vs => .tup vs
abbrev DefF := Nat → List V → FM → Hp → Option (VR × FM × Hp)
/-- A frame's beginning. -/
def enterV (fn : Func) (args : List V) (hp : Hp) : Option Sv := match Nat.ble args.length fn.ntmps && Nat.ble args.length 1000 && Nat.blt fn.ntmps trMax with
  | true => some ⟨argsV 0 args .lf, [], hp, fn.ntmps⟩
  | false => none
def endV (C : Cx) (fn : Func) (fr : Tr V) (hp : Hp) : Option V := (resV C fr hp fn.results.toList).bind fun vs => some (tupV vs)
def vdcall (C : Cx) (call : CallF) (extd : DefF) (n : Nat) : DefF := fun f args u hp => match extd f args u hp with
  | some q => some q
  | none => (C.F.get f).bind fun fn => fn.body.bind fun body => (enterV fn args hp).bind fun s => (vdcode C call n body s u).bind fun q => match q.2.1.df with
    | [] => match q.1 with
      | .exit _ => none
      | .pan x => some (.pan x, q.2.2, q.2.1.hp)
      | _ => (endV C fn q.2.1.fr q.2.1.hp).bind fun v => some (.v v, q.2.2, q.2.1.hp)
    | _ => none
def vleave (dcall : DefF) (res : Hp → Option V) : List (Nat × List V) → FM → Hp → Option (VR × Hp)
  | [], u, hp => match u with
    | .ret => (res hp).bind fun v => some (.v v, hp)
    | .pan x false => some (.pan x, hp)
    | _ => none
  | d :: ds, u, hp => (dcall d.1 d.2 u hp).bind fun q => match q.1 with
    | .v _ => vleave dcall res ds (settleV q.2.1) q.2.2
    | .pan x => match q.2.1 with
      | .ret => vleave dcall res ds (.pan x false) q.2.2
      | _ => none
def exFM : Ex → Option FM
  | .exit _ => none
  | .pan x => some (.pan x false)
  | _ => some .ret
def vcall (C : Cx) (ext : CallF) (extd : DefF) : Nat → CallF
  | 0, _, _, _ => none
  | n + 1, f, args, hp => match ext f args hp with
    | some q => some q
    | none => (C.F.get f).bind fun fn => fn.body.bind fun body => (enterV fn args hp).bind fun s => (vcode C (vcall C ext extd n) n body s).bind fun q => (exFM q.1).bind fun u =>
      vleave (vdcall C (vcall C ext extd n) extd n) (endV C fn q.2.fr) q.2.df u q.2.hp
end
end Go.Proofs.YtaahfdjobpbpjaaGreatDoor
